/- Numbers of Go's kinds as the words and bytes of the plain laws: what the walk writes as integers, said of words. -/
import Derived.WalkKit
namespace Go.Proofs.YtehpapoboeejkaaDoor

theorem bits_and31 (n : Int) (h0 : 0 ≤ n) (h1 : n ≤ 31) : bits BinOp.and IntKind.u64 n 31 = n := by
  obtain ⟨k, rfl⟩ := Int.eq_ofNat_of_zero_le h0
  have h : ∀ k : Fin 32, bits BinOp.and IntKind.u64 (k.val : Int) 31 = k.val := by decide +kernel
  exact h ⟨k, by omega⟩

theorem u32_lt (x : UInt32) : (x.toNat : Int) < 4294967296 := by have := x.toNat_lt; omega
theorem u8_lt (x : UInt8) : (x.toNat : Int) < 256 := by have := x.toNat_lt; omega

theorem ofInt_u32 (x : UInt32) : BitVec.ofInt IntKind.u32.bits (x.toNat : Int) = x.toBitVec := by
  show BitVec.ofInt 32 _ = _
  apply BitVec.eq_of_toNat_eq
  rw [BitVec.toNat_ofInt]
  have h := x.toNat_lt
  have : ((x.toNat : Int) % ((2 ^ 32 : Nat) : Int)).toNat = x.toNat := by
    rw [Int.emod_eq_of_lt (by omega) (by simp; omega)]; omega
  rw [this]; rfl
theorem wrap_u32_nat (n : Nat) (h : n < 4294967296) : IntKind.u32.wrap (n : Int) = n := IntWalk.u32_in _ (by omega)

theorem bits_xor_u32 (x y : UInt32) : bits BinOp.xor IntKind.u32 (x.toNat : Int) (y.toNat : Int) = ((x ^^^ y).toNat : Int) := by
  unfold bits
  simp only [ofInt_u32]
  exact wrap_u32_nat _ (x ^^^ y).toNat_lt
theorem bits_and_u32 (x y : UInt32) : bits BinOp.and IntKind.u32 (x.toNat : Int) (y.toNat : Int) = ((x &&& y).toNat : Int) := by
  unfold bits
  simp only [ofInt_u32]
  exact wrap_u32_nat _ (x &&& y).toNat_lt
theorem bits_or_u32 (x y : UInt32) : bits BinOp.or IntKind.u32 (x.toNat : Int) (y.toNat : Int) = ((x ||| y).toNat : Int) := by
  unfold bits
  simp only [ofInt_u32]
  exact wrap_u32_nat _ (x ||| y).toNat_lt
theorem bits_or_u32_u8 (x : UInt32) (y : UInt8) : bits BinOp.or IntKind.u32 (x.toNat : Int) (y.toNat : Int) = ((x ||| y.toUInt32).toNat : Int) := by
  have : y.toNat = y.toUInt32.toNat := by simp
  rw [this, bits_or_u32]
theorem add_u32 (x y : UInt32) : ((x.toNat : Int) + y.toNat) % 4294967296 = ((x + y).toNat : Int) := by
  rw [UInt32.toNat_add]; omega
theorem shl_u32 (x : UInt32) (n : Nat) (h : n < 32) : (x.toNat : Int) * 2 ^ n % 4294967296 = ((x <<< UInt32.ofNat n).toNat : Int) := by
  rw [UInt32.toNat_shiftLeft, UInt32.toNat_ofNat_of_lt' (by show n < 4294967296; omega), Nat.mod_eq_of_lt h, Nat.shiftLeft_eq]
  simp
theorem shr_u32 (x : UInt32) (n : Nat) (h : n < 32) : (x.toNat : Int) / 2 ^ n = ((x >>> UInt32.ofNat n).toNat : Int) := by
  rw [UInt32.toNat_shiftRight, UInt32.toNat_ofNat_of_lt' (by show n < 4294967296; omega), Nat.mod_eq_of_lt h, Nat.shiftRight_eq_div_pow]
  simp
/-! The words' operations behind names that the walk does not open. -/
def add32 (x y : UInt32) : UInt32 := x + y
def xor32 (x y : UInt32) : UInt32 := x ^^^ y
def and32 (x y : UInt32) : UInt32 := x &&& y
def or32 (x y : UInt32) : UInt32 := x ||| y
def not32 (x : UInt32) : UInt32 := ~~~x
def shl32 (x : UInt32) (n : UInt32) : UInt32 := x <<< n
def shr32 (x : UInt32) (n : UInt32) : UInt32 := x >>> n
def of8 (x : UInt8) : UInt32 := x.toUInt32
theorem w_add (x y : UInt32) : ((x.toNat : Int) + y.toNat) % 4294967296 = ((add32 x y).toNat : Int) := add_u32 x y
theorem w_xor (x y : UInt32) : bits BinOp.xor IntKind.u32 (x.toNat : Int) (y.toNat : Int) = ((xor32 x y).toNat : Int) := bits_xor_u32 x y
theorem w_and (x y : UInt32) : bits BinOp.and IntKind.u32 (x.toNat : Int) (y.toNat : Int) = ((and32 x y).toNat : Int) := bits_and_u32 x y
theorem w_or (x y : UInt32) : bits BinOp.or IntKind.u32 (x.toNat : Int) (y.toNat : Int) = ((or32 x y).toNat : Int) := bits_or_u32 x y
theorem w_or8 (x : UInt32) (y : UInt8) : bits BinOp.or IntKind.u32 (x.toNat : Int) (y.toNat : Int) = ((or32 x (of8 y)).toNat : Int) := bits_or_u32_u8 x y
theorem w_not (x : UInt32) : bits BinOp.xor IntKind.u32 4294967295 (x.toNat : Int) = ((not32 x).toNat : Int) := by
  have h : (4294967295 : Int) = ((4294967295 : UInt32).toNat : Int) := rfl
  rw [h, bits_xor_u32, not32]
  have e : (4294967295 : UInt32) ^^^ x = ~~~x := by
    apply UInt32.toBitVec_inj.1
    simp only [UInt32.toBitVec_xor, UInt32.toBitVec_not]
    exact BitVec.allOnes_xor
  rw [e]
theorem sgn32 : IntKind.u32.signed = false := rfl
theorem max32 : IntKind.u32.max = 4294967295 := by decide
theorem w_shl24 (x : UInt32) : (x.toNat : Int) * 16777216 % 4294967296 = ((shl32 x 24).toNat : Int) := shl_u32 x 24 (by omega)
theorem w_shl16 (x : UInt32) : (x.toNat : Int) * 65536 % 4294967296 = ((shl32 x 16).toNat : Int) := shl_u32 x 16 (by omega)
theorem w_shl8 (x : UInt32) : (x.toNat : Int) * 256 % 4294967296 = ((shl32 x 8).toNat : Int) := shl_u32 x 8 (by omega)
theorem w_shr3 (x : UInt32) : (x.toNat : Int) / 8 = ((shr32 x 3).toNat : Int) := shr_u32 x 3 (by omega)
theorem w_shr10 (x : UInt32) : (x.toNat : Int) / 1024 = ((shr32 x 10).toNat : Int) := shr_u32 x 10 (by omega)
theorem w_of8 (b : UInt8) : (b.toNat : Int) % 4294967296 = ((of8 b).toNat : Int) := by
  have := b.toNat_lt
  rw [of8, UInt8.toNat_toUInt32]; omega
end Go.Proofs.YtehpapoboeejkaaDoor
