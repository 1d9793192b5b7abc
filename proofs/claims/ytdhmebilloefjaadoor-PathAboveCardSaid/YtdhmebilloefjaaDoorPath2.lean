/- The walks of the library's search by a predicate, and of part. -/
import Derived.Test.YtdhmebilloefjaaDoorPath1
import Derived.Lib.OthersKept
import Derived.Lib.TrimU
import Derived.Deep.LoopGhost
namespace Go.Proofs.YtdhmebilloefjaaDoor
open Go.RowKit
theorem partclo_any (w : World) (r : Nat) : Calls Tryd.prog 30 #[.int .i32 r] w fun e w' => e = .returned (.bool (!signN r)) ∧ w' = w := by
  go_enter Tryd.func30, Tryd.ntmps30
  go_wp2_with (go_at_call 31; refine (sign_any _ _).mono ?_; rintro e w2 ⟨rfl, rfl⟩)
  go_ret
  exact ⟨rfl, rfl⟩
/-- no sign of a part -/
def badN (r : Nat) : Bool := !signN r
theorem idxfn_any (w : World) (s : ByteArray) : Calls Tryd.prog 41 #[.string s, .func (.func 30) #[] #[], .bool true] w fun e w' => e = .returned (.int .i64 (Lib.idxFunc badN true s)) ∧ Below w.heap.size w w' := by
  go_enter Tryd.func41, Tryd.ntmps41
  go_wp2_with fail
  go_loopg [] s.size (fun gf wx => ∃ pos : Nat, wx.heap[w.heap.size]? = some (.stringIter s pos) ∧ Below w.heap.size w wx ∧ Lib.idxFuncFrom badN true s gf pos = Lib.idxFunc badN true s ∧ s.size ≤ pos + gf)
  case atStart => exact ⟨0, World.iter_heap w s 0, (Below.refl _ w).alloc (Nat.le_refl _) _, rfl, by omega⟩
  case round =>
    obtain ⟨pos, hit, hbw, hleft, hfu⟩ := hrel
    by_cases hps : pos < s.size
    · obtain ⟨g', rfl⟩ : ∃ g', gk = g' + 1 := ⟨gk - 1, by omega⟩
      have hnx : ∀ ty, (Instr.next (.pointer (some ⟨w.heap.size, 0, none⟩)) true ty).run Tryd.prog wr = _ := fun ty => Lib.run_next_any_at wr w.heap.size s pos ty hit hps
      have hwd := Lib.width_pos s pos
      obtain ⟨R, hR⟩ : ∃ R, (Utf8.decode s pos).1 = R := ⟨_, rfl⟩
      obtain ⟨K, hK⟩ : ∃ K, (Utf8.decode s pos).2 = K := ⟨_, rfl⟩
      simp only [Lib.idxFuncFrom, hps, if_true, hR, hK] at hleft
      rw [hR, hK] at hnx
      rw [hK] at hwd
      have hit2 := Lib.iterAt_heap wr w.heap.size s pos (pos + K) hit
      have hbw2 := Lib.below_iterAt hbw (k := w.heap.size) (Nat.le_refl _) s (pos + K)
      obtain ⟨W, hWd⟩ : ∃ W, wr.iterAt w.heap.size s (pos + K) = W := ⟨_, rfl⟩
      rw [hWd] at hnx hit2 hbw2
      have cS := partclo_any W R
      rw [show (!signN R) = badN R from rfl] at cS
      cases hsp : badN R <;> rw [hsp] at cS <;> simp only [hsp, if_true, Bool.false_eq_true, if_false] at hleft
      · have HL := hid2 hleft
        clear hleft hsp hR hK hWd
        go_wp2_with (go_at_call 30; refine cS.mono ?_; rintro e W' ⟨rfl, rfl⟩)
        go_roundg g'
        case measure => omega
        case rel => exact ⟨pos + K, hit2, hbw2, HL.out, by omega⟩
      · have HL := hid2 hleft
        clear hleft hsp hR hK hWd
        go_wp2_with (go_at_call 30; refine cS.mono ?_; rintro e W' ⟨rfl, rfl⟩)
        go_ret
        exact ⟨congrArg (fun z => Ending.returned (Value.int .i64 z)) HL.out, hbw2⟩
    · have hnx : ∀ ty, (Instr.next (.pointer (some ⟨w.heap.size, 0, none⟩)) true ty).run Tryd.prog wr = _ := fun ty => Lib.run_next_end_at wr w.heap.size s pos ty hit hps
      rw [Lib.idxFuncFrom_end badN true s gk pos hps] at hleft
      have HL := hid2 hleft
      clear hleft
      go_wp2_with fail
      go_ret
      exact ⟨congrArg (fun z => Ending.returned (Value.int .i64 z)) HL.out, hbw⟩
theorem idxFn_any (w : World) (s : ByteArray) : Calls Tryd.prog 37 #[.string s, .func (.func 30) #[] #[]] w fun e w' => e = .returned (.int .i64 (Lib.idxFunc badN true s)) ∧ Below w.heap.size w w' := by
  go_enter Tryd.func37, Tryd.ntmps37
  go_wp2_with (go_at_call 41; refine (idxfn_any _ _).mono ?_; rintro e w1 ⟨rfl, hb⟩)
  go_ret
  exact ⟨rfl, hb⟩
theorem contFn_any (w : World) (s : ByteArray) : Calls Tryd.prog 29 #[.string s, .func (.func 30) #[] #[]] w fun e w' => e = .returned (.bool (!(s.data.toList.all signB))) ∧ Below w.heap.size w w' := by
  rw [← idx_sign]
  obtain ⟨I, hI⟩ : ∃ I, I = Lib.idxFunc badN true s := ⟨_, rfl⟩
  rw [show Lib.idxFunc (fun r => !signN r) true s = I from hI.symm]
  have HI := hid2 hI
  clear hI
  go_enter Tryd.func29, Tryd.ntmps29
  go_wp2_with (go_at_call 37; refine (idxFn_any _ _).mono ?_; rintro e w1 ⟨rfl, hb⟩; rw [← HI.out])
  go_ret
  exact ⟨rfl, hb⟩
theorem partB_0 {l : List UInt8} (h : l = []) : partB l = false := by subst h; rfl
theorem partB_1 {l : List UInt8} (h : l = [46]) : partB l = false := by subst h; decide
theorem partB_2 {l : List UInt8} (h : l = [46, 46]) : partB l = false := by subst h; decide
theorem partB_64 {l : List UInt8} (h : ¬ l.length ≤ 64) : partB l = false := by simp [partB, h]
theorem partB_all {l : List UInt8} (h0 : ¬ l = []) (h1 : ¬ l = [46]) (h2 : ¬ l = [46, 46]) (h3 : l.length ≤ 64) : partB l = l.all signB := by
  have e0 : l.isEmpty = false := by cases l <;> simp_all
  have e1 : (l == [46]) = false := by simpa using h1
  have e2 : (l == [46, 46]) = false := by simpa using h2
  simp [partB, e0, e1, e2, h3]
theorem ret_bool {a b : Bool} (h : a = b) : Ending.returned (.bool a) = Ending.returned (.bool b) := by rw [h]
theorem part_any (w : World) (s : ByteArray) : Calls Tryd.prog 23 #[.string s] w fun e w' => e = .returned (.bool (partB s.data.toList)) ∧ Below w.heap.size w w' := by
  have hsz := hid2 (toList_length s)
  have hl := hid2 (ByteArray.toList_eq s)
  by_cases h64 : s.size ≤ 64
  · have h64' : (s.size : Int) ≤ 64 := by omega
    by_cases h0 : s.toList = []
    · rw [partB_0 (hl.out ▸ h0)]
      go_enter Tryd.func23, Tryd.ntmps23
      go_wp2_with fail
      go_ret
      exact ⟨rfl, Below.refl _ _⟩
    by_cases h1 : s.toList = [46]
    · rw [partB_1 (hl.out ▸ h1)]
      have e1 : (s.toList == [46]) = true := by rw [h1]; rfl
      have e0 : s.toList.isEmpty = false := by rw [h1]; rfl
      clear h0 h1
      go_enter Tryd.func23, Tryd.ntmps23
      go_wp2_with fail
      go_ret
      exact ⟨rfl, Below.refl _ _⟩
    by_cases h2 : s.toList = [46, 46]
    · rw [partB_2 (hl.out ▸ h2)]
      have e2 : (s.toList == [46, 46]) = true := by rw [h2]; rfl
      have e1 : (s.toList == [46]) = false := by rw [h2]; rfl
      have e0 : s.toList.isEmpty = false := by rw [h2]; rfl
      clear h0 h1 h2
      go_enter Tryd.func23, Tryd.ntmps23
      go_wp2_with fail
      go_ret
      exact ⟨rfl, Below.refl _ _⟩
    · rw [partB_all (hl.out ▸ h0) (hl.out ▸ h1) (hl.out ▸ h2) (by rw [hsz.out]; exact h64)]
      have e2 : (s.toList == [46, 46]) = false := by simpa using h2
      have e1 : (s.toList == [46]) = false := by simpa using h1
      have e0 : s.toList.isEmpty = false := by cases h : s.toList <;> simp_all
      clear h0 h1 h2
      obtain ⟨b, hb⟩ : ∃ b, b = s.data.toList.all signB := ⟨_, rfl⟩
      rw [← hb]
      have HB := hid2 hb
      clear hb
      go_enter Tryd.func23, Tryd.ntmps23
      go_wp2_with (go_at_call 29; refine (contFn_any _ _).mono ?_; rintro e w1 ⟨rfl, hb⟩; rw [← HB.out])
      go_ret
      exact ⟨by simp, hb⟩
  · rw [partB_64 (by rw [hsz.out]; exact h64)]
    have h64' : (64 : Int) < s.size := by omega
    go_enter Tryd.func23, Tryd.ntmps23
    go_wp2_with fail
    all_goals go_ret
    all_goals exact ⟨by simp, Below.refl _ _⟩
end Go.Proofs.YtdhmebilloefjaaDoor
