/- append onto a slice without room: what was there stays. Nothing of the program is named. -/
import Derived.Test.YtccilmnlepekeaaMem4
namespace Go.Proofs.Ytccilmnlepekeaa
open Go.RowKit
section
variable {P : Program} {w : World}
theorem own_empty (w : World) (t : TypeId) (sz base : Nat) {B : Nat} (h : base ≤ w.heap.size) (hB : w.heap.size = B) : Own (w.alloc (.cells #[] t)) base t sz (some ⟨B, 0, none⟩) 0 0 [] := by
  subst hB
  have := Own.lit w #[] t sz 0 base h (by decide) (by simp)
  simpa using this
theorem run_append_zero (t u ty e : TypeId) (i : TypeInfo) (z : Value) (sz bytes : Nat) (ht : P.underlying t = some (.slice e)) (hi : P.info? e = some i) (hz : i.zero = some z)
    (hsize : i.size = sz) (hby : i.bytes = bytes) (hzs : z.cells.size = sz)
    {base : Nat} {A : Option Addr} (hown : Own w base e sz A 0 0 [])
    {x : Value} {m : Nat} {news : List Value} (hsrc : Src P w u sz x m news)
    (h63 : m ≤ maxLen) (hbytes : m * bytes ≤ 140737488355328) (hbase : base ≤ w.heap.size) :
    ∃ A' c' w', (Builtin.append_ #[t, u] ty #[.slice A 0 0, x]).run P w = .ok (.slice A' m c') w' ∧ Own w' base e sz A' m c' news ∧ Below w.heap.size w w' := by
  subst hsize
  subst hby
  have hsmall : m ≤ 9223372036854775807 := by simp only [maxLen] at h63; omega
  obtain ⟨hnl, hd, hlen, hfirst⟩ := hsrc
  have hlen0 := hlen 0
  rcases Nat.eq_zero_or_pos m with hm | hm
  · subst hm
    have hn0 : news = [] := List.eq_nil_of_length_eq_zero (by simpa using hnl)
    subst hn0
    refine ⟨A, 0, w, ?_, hown, Below.refl _ _⟩
    have hf := hfirst 0
    simp only [World.drewN_zero] at hf hlen0
    rcases hd with ⟨_, hd⟩ | hd <;> cases A <;> simp [Builtin.append_, run_underlying ht, run_underlying hd, sizeOf, typeInfo, hi, hlen0, hf, storeCells]
  · have hroom : ¬ (0 + m ≤ 0) := by omega
    have hge := grownCap_ge w (0 + m) 0 e
    have hcm' : grownCap w (0 + m) 0 e ≤ maxLen := grownCap_le_maxLen w (0 + m) 0 e (by omega)
    have h63' : ¬ (9223372036854775807 < (((0 : Nat) : Int) + (m : Int))) := by omega
    have h48' : ¬ (281474976710656 < Builtin.nextslicecap (0 + m) 0 * i.bytes) := by
      have := growslice_fits (need := 0 + m) (old := 0) (bytes := i.bytes) (by omega) (by rw [Nat.zero_add]; exact hbytes)
      omega
    have hf := hfirst 1
    have hfo : (Builtin.firstCells i.size 0 (.slice A 0 0)).run P (w.drewN 1) = .ok #[] (w.drewN 1) := by
      cases A <;> simp [Builtin.firstCells, loadCells, loadCellsFrom]
    have e1 : w.drewN 1 = w.drew := rfl
    rw [e1] at hf hfo
    simp only [World.drewN_zero] at hlen0
    refine ⟨some ⟨w.heap.size, 0, none⟩, grownCap w (0 + m) 0 e, w.drew.alloc (.cells (#[] ++ news.toArray ++ Builtin.zeroCells z.cells (grownCap w (0 + m) 0 e - (0 + m))) e), ?_, ?_, ?_⟩
    · rw [Nat.zero_add] at h48'
      rw [show (((0 : Nat) : Int)) = 0 from rfl] at h63'
      rcases hd with ⟨_, hd⟩ | hd <;> simp [Builtin.append_, run_underlying ht, run_underlying hd, sizeOf, typeInfo, zeroValue, hi, hz, hlen0, hroom, h63', h48', Question.forced, hf, hfo, newRow, grownCap, -List.append_toArray, show ¬ m = 0 by omega, show ¬ 9223372036854775807 < (m : Int) by omega]
    · have hsz : (#[] ++ news.toArray ++ Builtin.zeroCells z.cells (grownCap w (0 + m) 0 e - (0 + m))).size = grownCap w (0 + m) 0 e * i.size := by
        simp only [Array.size_append, List.size_toArray, size_zeroCells, hzs, hnl]
        rw [show ([] : List Value).length = 0 from rfl, Nat.zero_add, ← Nat.add_mul]
        congr 1; omega
      have h := Own.made w.drew (#[] ++ news.toArray ++ Builtin.zeroCells z.cells (grownCap w (0 + m) 0 e - (0 + m))) e i.size (0 + m) _ base hbase hge hcm' hsz
      have ht : (#[] ++ news.toArray ++ Builtin.zeroCells z.cells (grownCap w (0 + m) 0 e - (0 + m))).toList.take ((0 + m) * i.size) = news := by
        simp only [Array.toList_append]
        rw [Nat.zero_add, ← hnl]
        simp
      rw [ht] at h
      simp only [Nat.zero_add] at h ⊢
      exact h
    · exact ((Below.refl w.heap.size w).drew.alloc (Nat.le_refl _) _)
theorem wp_append_zero {o : Oper} {a : Act} {K : Act → World → Prop} {Q : Exit → Act → World → Prop} (s x : Operand) (t u : TypeId)
    (ho : o.op = .call { callee := .builtin .append, args := #[s, x], argTypes := #[t, u] })
    (e : TypeId) (z : Value) (sz bytes : Nat) (ht : P.underlying t = some (.slice e)) (hi : (P.info? e).map (fun i => (i.zero, i.size, i.bytes)) = some (some z, sz, bytes)) (hzs : z.cells.size = sz)
    (base : Nat) (A : Option Addr) (hs : a.eval s = .slice A 0 0) (hown : Own w base e sz A 0 0 [])
    (m : Nat) (news : List Value) (v : Value) (hx : a.eval x = v) (hsrc : Src P w u sz v m news)
    (h63 : m ≤ maxLen) (hbytes : m * bytes ≤ 140737488355328) (hbase : base ≤ w.heap.size)
    (h : ∀ A' c' w', Own w' base e sz A' m c' news → Below w.heap.size w w' → K (a.put o.dst (.slice A' m c')) w') : o.wp P a w K Q := by
  obtain ⟨i, hi0, hz, hsz, hby⟩ := info_parts hi
  obtain ⟨A', c', w', hr, h2, h3⟩ := run_append_zero (P := P) t u o.type e i z sz bytes ht hi0 hz hsz hby hzs hown hsrc h63 hbytes hbase
  unfold Oper.wp execOp
  simp only [ho, resolve, invoke, builtin, Sem.run_bind, Sem.run_pure, Result.andThen_ok, List.map_toArray, List.map_cons, List.map_nil, hs, hx, hr]
  exact h A' c' w' h2 h3
end
end Go.Proofs.Ytccilmnlepekeaa
