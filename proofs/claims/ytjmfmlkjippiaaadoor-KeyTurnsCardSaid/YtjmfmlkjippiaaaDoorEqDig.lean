/- Digests compared. -/
import Derived.Test.YtjmfmlkjippiaaaDoorSha6
import Derived.DeepKeys
namespace Go.Proofs.YtjmfmlkjippiaaaDoor
open Go.RowKit
set_option maxRecDepth 100000
theorem mapM_somes {α β : Type} (f : α → Option β) (g : α → β) : ∀ (l : List α), (∀ x ∈ l, f x = some (g x)) → l.mapM f = some (l.map g)
  | [], _ => rfl
  | x :: l, h => by
    rw [List.mapM_cons, h x (by simp), mapM_somes f g l (fun y hy => h y (by simp [hy]))]
    rfl
/-- a byte as a literal -/
def lit8 (b : UInt8) : Lit := .int .u8 b.toNat
theorem flatten_single {α : Type} (l : List α) : (l.map fun x => [x]).flatten = l := by
  induction l with
  | nil => rfl
  | cons x l ih => simp only [List.map_cons, List.flatten_cons, ih]; rfl
theorem lit8_wf (b : UInt8) : (Lit.int .u8 (b.toNat : Int)).wf = true := by
  have := UInt8.toNat_lt b
  have h0 : IntKind.u8.min = 0 := by decide
  have h1 : IntKind.u8.max = 255 := by decide
  simp only [Lit.wf, Bool.and_eq_true, decide_eq_true_eq, h0, h1]
  omega
theorem keyLits_u8s (l : List UInt8) (h : l.length = 32) : Tryd.prog.keyLits 2 32 (u8s l) = some (l.map lit8) := by
  have hu : Tryd.prog.underlying 32 = some (.array 32 5) := Tryd.underlying32
  have hu8 : Tryd.prog.underlying 5 = some (.int .u8) := Tryd.underlying5
  have hc : Tryd.prog.cellsOf 32 = 32 := by kernel_rfl
  have hc1 : Tryd.prog.cellsOf 5 = 1 := by kernel_rfl
  unfold Program.keyLits
  simp only [hu, hc, hc1, u8s_length, h, if_true]
  have : (List.range 32).mapM (fun i => Tryd.prog.keyLits 1 5 (((u8s l).drop (i * 1)).take 1)) = some ((List.range 32).map fun i => [lit8 (l.getD i 0)]) := by
    refine mapM_somes _ _ _ fun i hi => ?_
    have hi' : i < l.length := by rw [h]; exact List.mem_range.1 hi
    have e : ((u8s l).drop (i * 1)).take 1 = [.int .u8 (l.getD i 0).toNat] := by
      rw [Nat.mul_one, List.drop_eq_getElem_cons (by rw [u8s_length]; exact hi'), List.take_succ_cons, List.take_zero]
      have := u8s_get l hi'
      rw [List.getElem?_eq_getElem (by rw [u8s_length]; exact hi')] at this
      rw [Option.some.inj this]
    rw [e]
    unfold Program.keyLits
    simp only [hu8]
    rw [if_pos ⟨trivial, lit8_wf _⟩]
    rfl
  rw [this]
  simp only [Option.map_some]
  congr 1
  rw [show (fun i => [lit8 (l.getD i 0)]) = (fun x => [x]) ∘ (fun i => lit8 (l.getD i 0)) from rfl, ← List.map_map, flatten_single]
  apply List.ext_getElem
  · simp [h]
  · intro i h1 h2
    simp at h1 h2 ⊢
    rw [List.getElem?_eq_getElem h2]
    rfl
theorem lit8_inj {a b : List UInt8} (h : a.map lit8 = b.map lit8) : a = b := by
  refine List.map_inj_right (fun x y hxy => ?_) |>.1 h
  unfold lit8 at hxy
  injection hxy with _ h2
  exact UInt8.toNat_inj.1 (by omega)
theorem formed_dig (l : List UInt8) (h : l.length = 32) : (Value.agg (u8s l).toArray).formed Tryd.prog 32 = true := by
  have hu : Tryd.prog.underlying 32 = some (.array 32 5) := Tryd.underlying32
  have hc : Tryd.prog.cellsOf 32 = 32 := by kernel_rfl
  simp [Value.formed, hu, hc, u8s_length, h]
theorem run_eq_dig (a b : List UInt8) (ha : a.length = 32) (hb : b.length = 32) (w : World) : (binOp .eql 32 (.agg (u8s a).toArray) (.agg (u8s b).toArray)).run Tryd.prog w = .ok (.bool (a == b)) w := by
  have hE : EqAt Tryd.prog 10000 32 := run_equalIn_deep 9998 2 32 (by kernel_rfl)
  obtain ⟨r, h1, h2⟩ := hE w 2 2 (.agg (u8s a).toArray) (.agg (u8s b).toArray) _ _ (formed_dig a ha) (formed_dig b hb) (by simpa [Value.cells] using keyLits_u8s a ha) (by simpa [Value.cells] using keyLits_u8s b hb)
  rw [run_eql_struct, h1]
  have : r = (a == b) := by
    rw [Bool.eq_iff_iff, h2, beq_iff_eq]
    exact ⟨lit8_inj, fun e => by rw [e]⟩
  rw [this]
  rfl
theorem run_neq_dig (a b : List UInt8) (ha : a.length = 32) (hb : b.length = 32) (w : World) : (binOp .neq 32 (.agg (u8s a).toArray) (.agg (u8s b).toArray)).run Tryd.prog w = .ok (.bool (!(a == b))) w := by
  have hE : EqAt Tryd.prog 10000 32 := run_equalIn_deep 9998 2 32 (by kernel_rfl)
  obtain ⟨r, h1, h2⟩ := hE w 2 2 (.agg (u8s a).toArray) (.agg (u8s b).toArray) _ _ (formed_dig a ha) (formed_dig b hb) (by simpa [Value.cells] using keyLits_u8s a ha) (by simpa [Value.cells] using keyLits_u8s b hb)
  rw [run_neq_struct, h1]
  have : r = (a == b) := by
    rw [Bool.eq_iff_iff, h2, beq_iff_eq]
    exact ⟨lit8_inj, fun e => by rw [e]⟩
  rw [this]
  rfl
end Go.Proofs.YtjmfmlkjippiaaaDoor
