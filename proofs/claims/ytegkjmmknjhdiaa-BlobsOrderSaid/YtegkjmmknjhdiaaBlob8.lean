/- maps.Keys and slices.Collect at digests. -/
import Derived.Test.YtegkjmmknjhdiaaSortP
namespace Go.Proofs.Ytegkjmmknjhdiaa
open Go.RowKit Go.Maps Go.Sort Go.Lib
theorem wide_fn (f : FuncId) : Fence.wide.fn f := trivial
theorem bkeys_gives (n : Nat) (hn : 1 ≤ n) (Bm b nn : Nat) (M : Tab (List UInt8)) (w : World) (hBm : Bm < w.heap.size) (hm : w.cell? ⟨Bm, 0, none⟩ = some (.map (some b))) (hown : MapIs w Try.prog 39 encS b nn M) :
    SeqGives Fence.wide n Try.prog 69 #[.pointer (some ⟨Bm, 0, none⟩)] digK (fun ss => (ss.map (·.1)).Perm (M.map (·.1))) M.length w := fun l J W hW hJ hY h0 => by
  refine (bkeys1_in n hn l Bm b nn M (fun pre W => ∃ pre' : List Dig, pre'.map (·.1) = pre ∧ J pre' W) ?_ W ?_ ((hW.cell (p := ⟨Bm, 0, none⟩) hBm).trans hm) (hown.below hW hown.lt) ⟨[], rfl, h0⟩).mono ?_
  · rintro pre x W1 ⟨pre', rfl, hj⟩ hl
    refine (hY pre' x W1 hj (by simpa using hl)).mono ?_
    rintro e W' ⟨he, hj', hk⟩
    exact ⟨he, ⟨pre' ++ [x], by simp, hj'⟩, hk⟩
  · rintro s A C row ⟨pre', hp, hj⟩ hg hr
    exact ⟨pre', hp, hJ _ _ _ _ hj hg hr⟩
  · rintro e W' ⟨he, ss, hp, pre', rfl, hj⟩
    exact ⟨he, pre', hp, hj⟩
theorem bkeys_in (n : Nat) (hn : 1 ≤ n) (b : Nat) (w : World) : CallsIn Fence.wide n Try.prog 57 #[.map (some b)] w fun e w' =>
    e = .returned (.func (.func 69) #[] #[.pointer (some ⟨w.heap.size, 0, none⟩)]) ∧ w' = w.alloc (.cells #[.map (some b)] 76) := by
  refine callsIn_of_wp Try.func57 rfl trivial ?_ rfl
  simp only [Try.ntmps57, List.size_toArray, List.length_cons, List.length_nil, Nat.reduceAdd, Nat.reduceSub, Array.replicate_succ, Array.replicate_zero, List.push_toArray, List.append_toArray, List.nil_append, List.cons_append]
  gi_wp2
  go_ret
  exact ⟨rfl, rfl⟩
theorem collectD_in (n : Nat) (hn : 3 ≤ n) (g : Nat) (lb : Array Value) (eg : ∀ args w, (callFunc g args).run Try.prog w = .ok (.enter g args) w)
    (S : List Dig → Prop) (N : Nat) (hN : N ≤ maxLen) (hNb : N * 32 ≤ 140737488355328) (w : World) (hseq : SeqGives Fence.wide (n - 1 - 1) Try.prog g lb digK S N w) :
    CallsIn Fence.wide n Try.prog 67 #[.func (.func g) #[] lb] w fun e w' => ∃ (v : Value) (ss : List Dig), e = .returned v ∧ S ss ∧ w'.ownsRow (w.heap.size + 3) 39 32 v ss.length (digs ss) ∧ (v = .slice none 0 0 ↔ ss = []) ∧ Below w.heap.size w w' := by
  have cA := appendD_in (n - 1) (by omega) g lb eg S N hN hNb w hseq
  have h1 : 1 ≤ n := by omega
  have hfA := wide_fn 76
  refine callsIn_of_wp Try.func67 rfl trivial ?_ rfl
  simp only [Try.ntmps67, List.size_toArray, List.length_cons, List.length_nil, Nat.reduceAdd, Nat.reduceSub, Array.replicate_succ, Array.replicate_zero, List.push_toArray, List.append_toArray, List.nil_append, List.cons_append]
  gi_wp2_with (gi_at_call 76; refine cA.mono ?_; rintro e w' ⟨v, ss, rfl, hS, hrow, hnil, hb⟩)
  go_ret
  exact ⟨v, ss, rfl, hS, hrow, hnil, hb⟩
end Go.Proofs.Ytegkjmmknjhdiaa
