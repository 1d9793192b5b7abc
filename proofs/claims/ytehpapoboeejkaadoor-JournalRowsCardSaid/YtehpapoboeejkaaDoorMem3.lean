/- Bytes: a text made bytes, bytes made a text. -/
import Derived.Test.YtehpapoboeejkaaDoorMem2
import Derived.Laws.IdiomStrings
namespace Go.Proofs.YtehpapoboeejkaaDoor
open Go.RowKit

/-- bytes as cells -/
def u8s (l : List UInt8) : List Value := l.map fun b => .int .u8 b.toNat
theorem u8s_length (l : List UInt8) : (u8s l).length = l.length := by simp [u8s]
theorem u8s_append (l m : List UInt8) : u8s (l ++ m) = u8s l ++ u8s m := by simp [u8s]
theorem u8s_drop (l : List UInt8) (k : Nat) : u8s (l.drop k) = (u8s l).drop k := by simp [u8s, List.map_drop]
theorem u8s_take (l : List UInt8) (k : Nat) : u8s (l.take k) = (u8s l).take k := by simp [u8s, List.map_take]
theorem u8s_get (l : List UInt8) {j : Nat} (h : j < l.length) : (u8s l)[j]? = some (.int .u8 (l.getD j 0).toNat) := by
  rw [u8s, List.getElem?_map, List.getElem?_eq_getElem h, List.getD_eq_getElem?_getD, List.getElem?_eq_getElem h]; rfl
theorem u8s_one (l : List UInt8) : ∀ v ∈ u8s l, v.oneCell' = true := by
  intro v hv
  obtain ⟨x, _, rfl⟩ := List.mem_map.1 hv
  rfl
theorem u8s_snoc (l : List UInt8) (b : UInt8) : u8s l ++ [.int .u8 b.toNat] = u8s (l ++ [b]) := by simp [u8s]
/-- one element, in a block that was made now -/
theorem Rd.one (w : World) (v : Value) (t : TypeId) : Rd (w.alloc (.cells #[v] t)) 1 (some ⟨w.heap.size, 0, none⟩) 1 [v] := Rd.of_lit w #[v] t 1 1 (by decide) rfl
theorem one_int {k : IntKind} {x : Int} : ∀ v ∈ [Value.int k x], v.oneCell' = true := by simp [Value.oneCell']
theorem toList_length (s : ByteArray) : s.data.toList.length = s.size := by rw [Array.length_toList]; rfl

/-- the world behind a name, with what is known of it -/
theorem wpList_gen {P : Program} {ops : Array Oper} {rest : List Oper} {a : Act} {Q : Exit → Act → World → Prop} {W : World} (M : World → Prop) (h : M W) (k : ∀ w1, M w1 → wpList P ops Q rest a w1) : wpList P ops Q rest a W := k W h
section
variable {P : Program} {w : World}
theorem run_to_bytes (src dst e : TypeId) (base : Nat) (s : ByteArray) (hs : P.underlying src = some .string) (hd : P.underlying dst = some (.slice e)) (he : P.underlying e = some (.int .u8)) (hbase : base ≤ w.heap.size) (hmax : s.size ≤ maxLen) :
    ∃ A c w', (convert src dst (.string s)).run P w = .ok (.slice A s.size c) w' ∧ Own w' base e 1 A s.size c (u8s s.data.toList) ∧ Below w.heap.size w w' ∧ blockOf A = some w.heap.size := by
  have hge := grownCap_ge w s.size 0 e
  have hle := grownCap_le_maxLen w s.size 0 e hmax
  have hsz : (bytesRow s (grownCap w s.size 0 e)).size = grownCap w s.size 0 e := by
    simp only [bytesRow, Array.size_append, Array.size_map, Array.size_replicate]
    have : s.data.size = s.size := rfl
    omega
  refine ⟨_, _, _, run_bytes_of_string w src dst e s hs hd he, ⟨by rw [u8s_length, toList_length, Nat.mul_one], hge, hle, .inr ⟨w.heap.size, 0, _, _, rfl, hbase, heap_alloc_new w.drew _, .inr rfl, by rw [hsz]; omega, fun j hj => ?_⟩⟩, (Below.refl _ _).drew.alloc (Nat.le_refl _) _, rfl⟩
  rw [Nat.zero_add]
  have hj' : j < s.data.size := by have : s.data.size = s.size := rfl; omega
  rw [bytesRow, Array.getElem?_append_left (by rw [Array.size_map]; exact hj'), Array.getElem?_map, u8s, List.getElem?_map]
  simp
theorem wpList_to_bytes_lit {ops : Array Oper} {rest : List Oper} {a : Act} {Q : Exit → Act → World → Prop} {dst : Option Tmp} {src dt tt : TypeId} {x : Operand} {pos : String} {after : Array Edge}
    (e : TypeId) (base : Nat) (s : ByteArray) (hs : P.underlying src = some .string) (hd : P.underlying dt = some (.slice e)) (he : P.underlying e = some (.int .u8)) (hbase : base ≤ w.heap.size) (hmax : s.size ≤ maxLen)
    (hx : a.eval x = .string s)
    (h : ∀ A c w', Own w' base e 1 A s.size c (u8s s.data.toList) → Below w.heap.size w w' → blockOf A = some w.heap.size → wpList P ops Q rest (a.put dst (.slice A s.size c)) w') :
    wpList P ops Q (⟨dst, .convert src dt x, tt, pos, after, none⟩ :: rest) a w := by
  refine wpList_plain rfl fun K hK => ?_
  obtain ⟨A, c, w', hr, h1, h2, h3⟩ := run_to_bytes (P := P) (w := w) src dt e base s hs hd he hbase hmax
  unfold Oper.wp execOp
  simp only [hx, Sem.run_bind, hr, Result.andThen_ok]
  exact hK _ _ (h A c w' h1 h2 h3)
theorem run_to_string (src dst e : TypeId) (A : Option Addr) (c : Nat) (l : List UInt8) (hs : P.underlying src = some (.slice e)) (he : P.underlying e = some (.int .u8)) (hd : P.underlying dst = some .string) (hr : Rd w 1 A l.length (u8s l)) :
    (convert src dst (.slice A l.length c)).run P w = .ok (.string ⟨l.toArray⟩) w := by
  rcases Nat.eq_zero_or_pos l.length with h0 | h0
  · have : l = [] := List.eq_nil_of_length_eq_zero h0
    subst this
    show (convert src dst (.slice A 0 c)).run P w = _
    rw [run_convert_bytes_string w src dst e A 0 c hs he hd]
    cases A <;> simp [Conv.bytesToString, loadCells, loadCellsFrom] <;> rfl
  · obtain ⟨b, o, rfl, hx⟩ := hr.2 h0
    refine run_convert_bytes_back w src dst e ⟨b, o, none⟩ c l hs he hd (fun j hj => ?_)
    rw [addr_add]
    refine hx j _ ?_
    rw [u8s, List.getElem?_map, List.getElem?_eq_getElem hj]; rfl
theorem wpList_to_string_lit {ops : Array Oper} {rest : List Oper} {a : Act} {Q : Exit → Act → World → Prop} {dst : Option Tmp} {src dt tt : TypeId} {x : Operand} {pos : String} {after : Array Edge}
    (e : TypeId) (A : Option Addr) (n c : Nat) (l : List UInt8) (hs : P.underlying src = some (.slice e)) (he : P.underlying e = some (.int .u8)) (hd : P.underlying dt = some .string) (hn : l.length = n) (hr : Rd w 1 A n (u8s l))
    (hx : a.eval x = .slice A n c) (h : wpList P ops Q rest (a.put dst (.string ⟨l.toArray⟩)) w) :
    wpList P ops Q (⟨dst, .convert src dt x, tt, pos, after, none⟩ :: rest) a w := by
  refine wpList_plain rfl fun K hK => ?_
  subst hn
  have hr := run_to_string (P := P) (w := w) src dt e A c l hs he hd hr
  unfold Oper.wp execOp
  simp only [hx, Sem.run_bind, hr, Result.andThen_ok]
  exact hK _ _ h
end
end Go.Proofs.YtehpapoboeejkaaDoor
