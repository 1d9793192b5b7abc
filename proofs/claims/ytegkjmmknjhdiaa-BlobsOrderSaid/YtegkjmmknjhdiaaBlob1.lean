/- A store of bytes: its object, New, Size, Get. -/
import Derived.Test.YtegkjmmknjhdiaaBMap
import Derived.Test.YtegkjmmknjhdiaaSha6
import Derived.Test.YtegkjmmknjhdiaaBox
import Derived.Test.YtegkjmmknjhdiaaStr
import Derived.BigQuiet
namespace Go.Proofs.Ytegkjmmknjhdiaa
open Go.RowKit Go.Maps
/-- a composite that is loaded whole, in a region that only reads -/
theorem wpQuiet_agg {P : Program} {ops : Array Oper} {C : World → Prop} {Q : Act → Prop} {rest : List Oper} {a : Act} {dst : Option Tmp} {ty tt : TypeId} {x : Operand} {pos : String} {after : Array Edge} {p : Addr} {v : Value}
    (hx : a.eval x = .pointer (some p)) (hl : ∀ w, C w → (loadVar ty p).run P w = .ok v w) (h : wpQuiet P ops C Q rest (a.put dst v)) : wpQuiet P ops C Q (⟨dst, .load ty x, tt, pos, after, none⟩ :: rest) a := by
  have hw : Region.wanted ⟨dst, .load ty x, tt, pos, after, none⟩ (yielded ops a.tmps) = true := rfl
  unfold wpQuiet
  rw [if_pos hw]
  refine ⟨v, fun w hC => ?_, h⟩
  unfold Oper.quietAt execOp
  simp [hx, Instr.loadAt, Instr.sureAddr, hl w hC, Oper.quietUpon]
/-- how a text lies in the map -/
def encS (d : List UInt8) : Value := .string (strB d)
theorem encS_inj (a b : List UInt8) (h : encS a = encS b) : a = b := by
  have h2 : strB a = strB b := by injection h
  rw [← strB_list a, h2, strB_list]
/-- the store s: its map b with the table M, its size -/
structure StoreIs (w : World) (s b n : Nat) (M : Tab (List UInt8)) (z : Int) : Prop where
  obj : w.heap[s]? = some (.cells #[.map (some b), .int .i64 z] 78 (0, 0))
  map : MapIs w Try.prog 39 encS b n M
theorem StoreIs.box {w : World} {s b n : Nat} {M : Tab (List UInt8)} {z : Int} (h : StoreIs w s b n M z) : Box w s [.map (some b), .int .i64 z] := ⟨_, h.obj⟩
theorem StoreIs.lt {w : World} {s b n : Nat} {M : Tab (List UInt8)} {z : Int} (h : StoreIs w s b n M z) : s < w.heap.size ∧ b < w.heap.size := ⟨heap_lt h.obj, h.map.lt⟩
theorem StoreIs.below {w w' : World} {s b n B : Nat} {M : Tab (List UInt8)} {z : Int} (h : StoreIs w s b n M z) (hb : Below B w w') (h1 : s < B) (h2 : b < B) : StoreIs w' s b n M z := ⟨(hb.block _ h1).trans h.obj, h.map.below hb h2⟩
theorem StoreIs.mono {w : World} {s b n m : Nat} {M : Tab (List UInt8)} {z : Int} (h : StoreIs w s b n M z) (hm : n ≤ m) : StoreIs w s b m M z := ⟨h.obj, h.map.mono hm⟩
theorem StoreIs.ne {w : World} {s b n : Nat} {M : Tab (List UInt8)} {z : Int} (h : StoreIs w s b n M z) : s ≠ b := by
  rintro rfl
  obtain ⟨es, clock, hb, _⟩ := h.map
  rw [h.obj] at hb; cases hb
theorem newblobs_any (w : World) : Calls Try.prog 24 #[] w fun e w' => e = .returned (.pointer (some ⟨w.heap.size + 1, 0, none⟩)) ∧ StoreIs w' (w.heap.size + 1) w.heap.size 0 [] 0 ∧ Below w.heap.size w w' ∧ w'.heap.size = w.heap.size + 2 := by
  have hmm := @run_makeMap Try.prog
  go_enter Try.func24, Try.ntmps24
  go_wp2
  go_ret
  refine ⟨rfl, ⟨?_, ?_⟩, ?_, ?_⟩
  · have := heap_alloc_new (w.alloc (.map #[] 0)) (.cells #[.map (some w.heap.size), .int .i64 0] 78)
    rwa [World.size_alloc] at this
  · exact (MapIs.made w _ _ _).alloc _
  · exact ((Below.refl _ w).alloc (Nat.le_refl _) _).alloc (by simp) _
  · simp
theorem size_any (w : World) (s b n : Nat) (M : Tab (List UInt8)) (z : Int) (h : StoreIs w s b n M z) : Calls Try.prog 35 #[.pointer (some ⟨s, 0, none⟩)] w fun e w' => e = .returned (.int .i64 z) ∧ w' = w := by
  have c1 : w.cell? ⟨s, 1, none⟩ = some (.int .i64 z) := h.box.cells 1
  clear h
  go_enter Try.func35, Try.ntmps35
  go_wp2_with fail
  go_ret
  exact ⟨rfl, rfl⟩
theorem size_nil (w : World) : Calls Try.prog 35 #[.pointer none] w fun e w' => e = .returned (.int .i64 0) ∧ w' = w := by
  go_enter Try.func35, Try.ntmps35
  go_wp2_with fail
  go_ret
  exact ⟨rfl, rfl⟩
theorem zero_str (w : World) : (zeroValue 9).run Try.prog w = .ok (encS []) w := by
  rw [Try.zeroValue9]
  rfl
theorem StoreIs.look {w : World} {s b n : Nat} {M : Tab (List UInt8)} {z : Int} (h : StoreIs w s b n M z) {d : List UInt8} (hd : d.length = 32) :
    (Instr.lookup 76 (.map (some b)) (digV d) true).run Try.prog w = .ok (.tuple #[.string (strB ((getM M d).getD [])), .bool (getM M d).isSome]) w := by
  have := h.map.look_key encS_inj keyed_dig Try.underlying76 [] (zero_str w) (keyOf_dig hd)
  rw [kb_eq] at this
  exact this
set_option maxRecDepth 100000 in
theorem get_any (w : World) (s b n : Nat) (M : Tab (List UInt8)) (z : Int) (h : StoreIs w s b n M z) (d : List UInt8) (hd : d.length = 32) :
    Calls Try.prog 27 #[.pointer (some ⟨s, 0, none⟩), digV d] w fun e w' => e = .returned (.tuple #[.string (strB ((getM M d).getD [])), .bool (getM M d).isSome]) ∧ Below w.heap.size w w' := by
  have hlt := h.lt
  obtain ⟨cs, hcs⟩ : ∃ cs, cs = (u8s d).toArray := ⟨_, rfl⟩
  have hD : digV d = .agg cs := by rw [hcs]; rfl
  rw [hD]
  obtain ⟨W, hW⟩ : ∃ W, W = w.alloc (.cells cs 39) := ⟨_, rfl⟩
  obtain ⟨g, hg⟩ : ∃ g, g = w.heap.size := ⟨_, rfl⟩
  have hbW : Below w.heap.size w W := by rw [hW]; exact (Below.refl _ _).alloc (Nat.le_refl _) _
  have hsW := h.below hbW hlt.1 hlt.2
  have c0 : W.cell? ⟨s, 0, none⟩ = some (.map (some b)) := hsW.box.cells 0
  have hrow : W.heap[g]? = some (.cells cs 39 (0, 0)) := by rw [hW, hg]; exact heap_alloc_new w _
  have hld : ∀ m, (loadVar 39 ⟨g, 0, none⟩).run Try.prog (W.drewN m) = .ok (.agg cs) (W.drewN m) := fun m =>
    run_loadVar_row (W.drewN m) g 39 39 _ (0, 0) _ hrow Try.underlying39 rfl (by rw [hcs, List.size_toArray]; exact info_h8' hd)
  have hlk := fun m => (hsW.below (below_drewN (Below.refl W.heap.size W) m) hsW.lt.1 hsW.lt.2).look hd
  rw [hD] at hlk
  obtain ⟨x, hx⟩ : ∃ x, x = strB ((getM M d).getD []) := ⟨_, rfl⟩
  obtain ⟨ok, hok⟩ : ∃ ok, ok = (getM M d).isSome := ⟨_, rfl⟩
  rw [← hx, ← hok] at hlk ⊢
  have HB := hid2 hbW
  have HW := hid2 hW
  have HG := hid2 hg
  have HLD := hid2 hld
  clear hld hx hok hD hcs h hsW hrow hW hg hbW
  go_enter Try.func27, Try.ntmps27
  go_wp2_with fail
  rw [← HG.out, ← HW.out]
  refine wp_region_quiet_lit (by kernel_rfl) (by kernel_rfl) ?_
  repeat (first | go_big_quiet_step (fail) | (((refine wpQuiet_agg (p := ⟨g, 0, none⟩) rfl (by rintro _ ⟨m, rfl⟩; exact HLD.out m) ?_); simp only [Act.put, List.setIfInBounds_toArray, List.set_cons_succ, List.set_cons_zero])))
  refine wpQuiet_nil ?_
  intro _ hw'
  obtain ⟨nq, hw''⟩ := hw'
  subst hw''
  go_wp2_with fail
  go_ret2
  exact ⟨rfl, below_drewN (HB.out) _⟩
end Go.Proofs.Ytegkjmmknjhdiaa
