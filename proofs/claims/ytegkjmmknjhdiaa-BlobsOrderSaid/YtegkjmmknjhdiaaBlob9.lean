/- bytes.Compare at two digests in blocks of their own, and the function value by which All sorts. -/
import Derived.Test.YtegkjmmknjhdiaaBlob8
import Derived.Test.YtegkjmmknjhdiaaReg
import Derived.Laws.Externs
namespace Go.Proofs.Ytegkjmmknjhdiaa
open Go.RowKit Go.Maps Go.Sort Go.Lib
theorem run_loadBytesU {P : Program} (w : World) : ∀ (l : List UInt8) (a : Addr) (acc : ByteArray), (∀ j x, l[j]? = some x → w.cell? (a.add j) = some (.int .u8 x.toNat)) →
    (Extern.Bytes.loadBytes a l.length acc).run P w = .ok ⟨acc.data ++ l.toArray⟩ w
  | [], a, acc, _ => by simp [Extern.Bytes.loadBytes]
  | x :: l, a, acc, h => by
    have h0 : w.cell? a = some (.int .u8 x.toNat) := by
      have := h 0 x rfl
      simpa [Addr.add] using this
    have ih := run_loadBytesU (P := P) w l (a.add 1) (acc.push x) (fun j y hy => by
      have := h (j + 1) y (by simpa using hy)
      have e : (a.add 1).add j = a.add (j + 1) := by
        unfold Addr.add
        by_cases hj : j = 0
        · subst hj; simp
        · simp [hj]; omega
      rw [e]; exact this)
    have hx : ((x.toNat : Int).toNat).toUInt8 = x := by simp
    simp only [List.length_cons, Extern.Bytes.loadBytes, Sem.run_bind, run_load, h0, Result.andThen, hx]
    rw [ih]
    congr 1
    apply ByteArray.ext
    simp [ByteArray.push]
theorem run_bytesOfU {P : Program} (w : World) (g c n : Nat) (l : List UInt8) (hl : l.length = n) {e : TypeId} {cs : Array Value} (hr : w.heap[g]? = some (.cells cs e (0, 0))) (hc : cs = (u8s l).toArray) :
    (Extern.Bytes.bytesOf (.slice (some ⟨g, 0, none⟩) n c)).run P w = .ok ⟨l.toArray⟩ w := by
  subst hl hc
  have h := run_loadBytesU (P := P) w l ⟨g, 0, none⟩ .empty (fun j x hj => by
    rw [addr_add, cell_of_row w g _ _ _ _ hr]
    simp [u8s, hj])
  simp only [Extern.Bytes.bytesOf]
  rw [h]
  exact congrArg (fun d => Result.ok (ByteArray.mk d) w) (Array.empty_append (xs := l.toArray))
theorem run_compareU {P : Program} (w : World) (g1 g2 c1 c2 n1 n2 : Nat) (a b : List UInt8) (ha : a.length = n1) (hb : b.length = n2) {e1 e2 : TypeId} (h1 : w.heap[g1]? = some (.cells (u8s a).toArray e1 (0, 0))) (h2 : w.heap[g2]? = some (.cells (u8s b).toArray e2 (0, 0))) :
    (Extern.BytealgCompare.compare #[.slice (some ⟨g1, 0, none⟩) n1 c1, .slice (some ⟨g2, 0, none⟩) n2 c2]).run P w = .ok (.int .i64 (compareBytes a b)) w := by
  show Sem.run P (do pure (goInt (Extern.BytealgCompare.cmp (← Extern.Bytes.bytesOf (.slice (some ⟨g1, 0, none⟩) n1 c1)) (← Extern.Bytes.bytesOf (.slice (some ⟨g2, 0, none⟩) n2 c2))))) w = _
  simp only [Sem.run_bind, Sem.run_pure, run_bytesOfU (P := P) w g1 c1 n1 a ha h1 rfl, run_bytesOfU (P := P) w g2 c2 n2 b hb h2 rfl, Result.andThen]
  rw [cmp_eq]
  rfl
set_option maxRecDepth 100000 in
set_option maxHeartbeats 1000000 in
theorem compare_any (w : World) (g1 g2 c1 c2 n1 n2 : Nat) (a b : List UInt8) (ha : a.length = n1) (hb : b.length = n2) {e1 e2 : TypeId} (h1 : w.heap[g1]? = some (.cells (u8s a).toArray e1 (0, 0))) (h2 : w.heap[g2]? = some (.cells (u8s b).toArray e2 (0, 0))) :
    Calls Try.prog 59 #[.slice (some ⟨g1, 0, none⟩) n1 c1, .slice (some ⟨g2, 0, none⟩) n2 c2] w fun e w' => e = .returned (.int .i64 (compareBytes a b)) ∧ w' = w := by
  have hc := run_compareU (P := Try.prog) w g1 g2 c1 c2 n1 n2 a b ha hb h1 h2
  generalize compareBytes a b = r at hc ⊢
  clear h1 h2
  go_enter Try.func59, Try.ntmps59
  go_wp2
  rw [run_callFunc_extern Try.func70 (by kernel_rfl) (by kernel_rfl) (by kernel_rfl) (e := Extern.BytealgCompare.compare) (by kernel_rfl), hc]
  simp only [Result.andThen]
  rw [Oper.upon_value]
  go_wp2
  go_ret
  exact ⟨rfl, rfl⟩
end Go.Proofs.Ytegkjmmknjhdiaa
