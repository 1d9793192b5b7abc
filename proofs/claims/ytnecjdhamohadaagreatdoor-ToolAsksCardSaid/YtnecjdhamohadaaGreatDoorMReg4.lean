/- A fourth rule for a region that draws its order: what two of its operations yield is told apart (two allocations). -/
import Derived.Test.YtnecjdhamohadaaGreatDoorMb
set_option linter.unusedSimpArgs false
set_option linter.unusedVariables false
namespace Go.Proofs.YtnecjdhamohadaaGreatDoor
open Go.RowKit
section
variable {P : Program}
/-- As wp_region_grd; and of any two values something is known that is the same both ways (R): shown of the later one, by what is known of the earlier one ahead of it. -/
theorem wp_region_dis {id : Nat} {Q : Exit → Act → World → Prop} {w : World} {l : List Oper} {T : Array Value} {D : List Deferred} (n : Nat) (hm : P.follows .mixedOrders = true)
    (hB : headB2 l.toArray n = true) (hd : distinctB (l.take n) = true) (N : Nat) (hN : T.size = N) (hNB : (l.all fun o => (o.dst.map fun d => decide (d < N)).getD true) = true)
    (V : Nat → Value → World → Prop) (M : World → Prop) (Ext : World → World → Prop) (hM0 : M w.drew) (hV : ∀ j v w w', Ext w w' → V j v w → V j v w')
    (R : Nat → Value → Nat → Value → Prop) (hR : ∀ i v j v', R i v j v' → R j v' i v)
    (hop : ∀ i o, i < n → l[i]? = some o → ∀ (T' : Array Value) (w : World), M w → T'.size = T.size → (∀ t, dstIn t (l.take n) = false → T'[t]? = T[t]?) →
      (∀ e ∈ o.after, Region.binds .any e = true → ∀ oe d, l[e.on]? = some oe → oe.dst = some d → ∃ v, T'[d]? = some v ∧ V e.on v w) →
      ∀ K : Act → World → Prop, (∀ v w', V i v w' → M w' → Ext w w' → (∀ j v', j < n → j ≠ i → V j v' w → R j v' i v) → K ((⟨T', D⟩ : Act).put o.dst v) w') → if Region.wanted o (yielded l.toArray T') = true then Oper.wp P o ⟨T', D⟩ w K Q else K ((⟨T', D⟩ : Act).put o.dst undef) w)
    (hend : ∀ (u : Nat → Value) (w : World), M w → (∀ j, j < n → V j (u j) w) → (∀ j k, j < n → k < n → j ≠ k → R j (u j) k (u k)) → wpList P l.toArray Q (l.drop n) ⟨fillAll T (l.take n) u 0, D⟩ w) :
    (Code.region id l.toArray true).wp P Q ⟨T, D⟩ w := by
  have hin_ : ∀ o d, o ∈ l → o.dst = some d → d < T.size := fun o d ho hd' => by
    have := List.all_eq_true.1 hNB o ho
    rw [hd'] at this
    rw [hN]
    simpa using this
  simp only [headB2, Bool.and_eq_true, Bool.or_eq_true, decide_eq_true_eq] at hB
  obtain ⟨hback, hB⟩ := hB
  have hsz : l.toArray.size = l.length := by simp
  have hn : n ≤ l.length := by rcases hB with h | h <;> omega
  refine wp_region_any hm ?_
  -- the state: some of the head have come
  have key : ∀ (f : Nat) (listed : Array Bool) (u : Nat → Value) (w : World), HeadInv .any l.toArray n listed →
      ((List.range n).filter fun j => !listed.getD j true).length = f → M w → (∀ j, j < n → listed.getD j false = true → V j (u j) w) → (∀ a b, a < n → b < n → a ≠ b → listed.getD a false = true → listed.getD b false = true → R a (u a) b (u b)) →
      wpAny P .any l.toArray Q (f + (l.length - n)) listed ⟨fillAll T (l.take n) u 0, D⟩ w := by
    intro f
    induction f with
    | zero =>
      intro listed u w inv hf hM hVs hRs
      have hall : ∀ j, j < n → listed.getD j false = true := by
        intro j hj
        have : (List.range n).filter (fun j => !listed.getD j true) = [] := List.eq_nil_of_length_eq_zero hf
        have h1 := List.filter_eq_nil_iff.1 this j (List.mem_range.2 hj)
        have hjs : j < listed.size := by rw [inv.size, hsz]; omega
        simp only [Bool.not_eq_true', Bool.not_eq_false] at h1
        simp [hjs] at h1 ⊢
        exact h1
      have hL : listed = (Array.range l.toArray.size).map fun j => decide (j < n) := by
        apply Array.ext
        · simp [inv.size]
        · intro j h1 h2
          rw [Array.getElem_map, Array.getElem_range]
          by_cases hjn : j < n
          · have := hall j hjn
            simp only [hjn, decide_true]
            simpa [h1] using this
          · have hjl : j < l.toArray.size := by rw [← inv.size]; exact h1
            have := inv.tail j (by omega) hjl
            simp only [hjn, decide_false]
            simpa [h1] using this
      have hend' := hend u w hM (fun j hj => hVs j hj (hall j hj)) (fun j k hj hk hne => hRs j k hj hk hne (hall j hj) (hall k hk))
      rw [Nat.zero_add]
      rcases hB with hB | hB
      · have h0 : l.length - n = 0 := by omega
        rw [h0]
        rw [List.drop_of_length_le (by omega)] at hend'
        refine ⟨?_, hend'⟩
        rcases hr : Region.ready .any l.toArray listed with _ | ⟨i, r⟩
        · rfl
        · have hi : i ∈ Region.ready .any l.toArray listed := by rw [hr]; simp
          obtain ⟨h1, o, ho, _⟩ := mem_ready.1 hi
          have hil : i < l.toArray.size := (Array.getElem?_eq_some_iff.1 ho).1
          have := hall i (by omega)
          rw [getD_both h1] at this; cases this
      · have hdl : (l.drop n).length = l.length - n := by simp
        have hseq := hB.2
        rw [← hL, hsz, ← hdl] at hseq
        have := wpAny_of_seq (P := P) (md := .any) (ops := l.toArray) (Q' := Q) (l.drop n) n listed ⟨fillAll T (l.take n) u 0, D⟩ w (fun j => by simp [List.getElem?_drop]) hseq hend'
        rw [hdl] at this
        exact this
    | succ f ih =>
      intro listed u w inv hf hM hVs hRs
      rw [show f + 1 + (l.length - n) = (f + (l.length - n)) + 1 by omega]
      -- one of the head has not come: the least of them may come
      have hex : ∃ i, i < n ∧ listed.getD i true = false := by
        rcases hq : (List.range n).filter (fun j => !listed.getD j true) with _ | ⟨i, r⟩
        · rw [hq] at hf; simp at hf
        · have hi : i ∈ (List.range n).filter (fun j => !listed.getD j true) := by rw [hq]; simp
          rw [List.mem_filter, List.mem_range] at hi
          exact ⟨i, hi.1, by simpa using hi.2⟩
      refine ⟨fun h0 => ?_, fun i hi => ?_⟩
      · exfalso
        -- strong induction to the least
        have hleast : ∀ m i, i ≤ m → i < n → listed.getD i true = false → ∃ j, j ∈ Region.ready .any l.toArray listed := by
          intro m
          induction m with
          | zero =>
            intro i hi hin hun
            obtain rfl : i = 0 := by omega
            have hlt : 0 < l.length := by omega
            refine ⟨0, mem_ready.2 ⟨hun, l[0], by simp [hlt], fun e he hb => ?_⟩⟩
            have h1 := List.all_eq_true.1 hback 0 (List.mem_range.2 hin)
            rw [show l.toArray[0]? = some l[0] by simp [hlt]] at h1
            simp only [Option.map_some, Option.getD_some, Array.all_eq_true', Bool.or_eq_true, Bool.not_eq_true', decide_eq_true_eq] at h1
            have := (h1 e he).resolve_left (by rw [hb]; decide)
            omega
          | succ m ihm =>
            intro i hi hin hun
            by_cases hdep : ∃ j, j < i ∧ listed.getD j true = false
            · obtain ⟨j, hj, hju⟩ := hdep
              exact ihm j (by omega) (by omega) hju
            · have hlt : i < l.length := by omega
              refine ⟨i, mem_ready.2 ⟨hun, l[i], by simp [hlt], fun e he hb => ?_⟩⟩
              have h1 := List.all_eq_true.1 hback i (List.mem_range.2 hin)
              rw [show l.toArray[i]? = some l[i] by simp [hlt]] at h1
              simp only [Option.map_some, Option.getD_some, Array.all_eq_true', Bool.or_eq_true, Bool.not_eq_true', decide_eq_true_eq] at h1
              have hlt2 := (h1 e he).resolve_left (by rw [hb]; decide)
              have hes : e.on < listed.size := by rw [inv.size, hsz]; omega
              cases hq : listed.getD e.on false with
              | true => rfl
              | false => exact absurd ⟨e.on, hlt2, getD_in hes hq⟩ hdep
        obtain ⟨i, hin, hun⟩ := hex
        obtain ⟨j, hj⟩ := hleast i i (Nat.le_refl _) hin hun
        rw [h0] at hj; cases hj
      · obtain ⟨hun, o, ho, hall⟩ := mem_ready.1 hi
        have hin : i < n := by
          rcases hB with hB | hB
          · have := (Array.getElem?_eq_some_iff.1 ho).1; omega
          · rcases Nat.lt_or_ge i n with h | h
            · exact h
            · obtain ⟨k, hk, hku⟩ := hex
              exact absurd hi (tail_waits hB.1.1.2 hB.1.2 hB.1.1.1 inv _ k rfl hk hku i h)
        have hol : l[i]? = some o := by simpa using ho
        have hfacts : ∀ e ∈ o.after, Region.binds .any e = true → V e.on (u e.on) w := fun e he hb => by
          refine hVs e.on ?_ (hall e he hb)
          have h1 := List.all_eq_true.1 hback i (List.mem_range.2 hin)
          rw [ho] at h1
          simp only [Option.map_some, Option.getD_some, Array.all_eq_true', Bool.or_eq_true, Bool.not_eq_true', decide_eq_true_eq] at h1
          have := (h1 e he).resolve_left (by rw [hb]; decide)
          omega
        refine wpOp_step ho fun K hK => ?_
        have hst := hop i o hin hol (fillAll T (l.take n) u 0) w hM (fillAll_size _ _ _ _) (fun t ht => fillAll_out _ _ _ _ t ht) (fun e he hb oe d hoe hod => by
          have hlt2 : e.on < n := by
            have h1 := List.all_eq_true.1 hback i (List.mem_range.2 hin)
            rw [ho] at h1
            simp only [Option.map_some, Option.getD_some, Array.all_eq_true', Bool.or_eq_true, Bool.not_eq_true', decide_eq_true_eq] at h1
            have := (h1 e he).resolve_left (by rw [hb]; decide)
            omega
          refine ⟨u e.on, ?_, hfacts e he hb⟩
          have := fillAll_at (l.take n) T u 0 e.on oe d hd (by rw [List.getElem?_take, if_pos hlt2]; exact hoe) hod (hin_ oe d (List.mem_of_getElem? hoe) hod)
          rwa [Nat.zero_add] at this)
        refine hst K (fun v w' hv hM' hE hRv => hK _ _ ?_)
        have hput : (⟨fillAll T (l.take n) u 0, D⟩ : Act).put o.dst v = ⟨fillAll T (l.take n) (upd u i v) 0, D⟩ := by
          have := fillAll_put (l.take n) T u 0 i o v hd (by rw [List.getElem?_take, if_pos hin]; exact hol)
          rw [Nat.zero_add] at this
          rw [← this]
          cases o.dst <;> rfl
        rw [hput]
        refine ih (listed.setIfInBounds i true) (upd u i v) w' (inv.set hi hin) ?_ hM' ?_ ?_
        · have hils : i < listed.size := by rw [inv.size, hsz]; omega
          have hsplit : ∀ (r : List Nat), r.Nodup → i ∈ r → (r.filter fun j => !listed.getD j true).length = (r.filter fun j => !(listed.setIfInBounds i true).getD j true).length + 1 := by
            intro r
            induction r with
            | nil => intro _ h; cases h
            | cons x r ihr =>
              intro hnd hmem
              rw [List.nodup_cons] at hnd
              by_cases hx : x = i
              · subst hx
                have h2 : (listed.setIfInBounds x true).getD x true = true := by simp [hils]
                have hsame : ∀ (r' : List Nat), x ∉ r' → (r'.filter fun j => !listed.getD j true) = (r'.filter fun j => !(listed.setIfInBounds x true).getD j true) := by
                  intro r' hr'
                  refine List.filter_congr fun j hj => ?_
                  rw [getD_set_ne true (show x ≠ j from fun e => hr' (by rw [e]; exact hj))]
                rw [List.filter_cons, List.filter_cons, hun, h2]
                simp only [Bool.not_false, if_true, Bool.not_true, Bool.false_eq_true, if_false, List.length_cons]
                rw [hsame r hnd.1]
              · have hm' : i ∈ r := by
                  rcases List.mem_cons.1 hmem with h | h
                  · exact absurd h.symm hx
                  · exact h
                have := ihr hnd.2 hm'
                rw [List.filter_cons, List.filter_cons, getD_set_ne true (fun e => hx e.symm)]
                split
                · simp only [List.length_cons]; omega
                · exact this
          have := hsplit (List.range n) List.nodup_range (List.mem_range.2 hin)
          omega
        · intro j hj hl
          by_cases hji : j = i
          · subst hji
            simp only [upd, if_true]
            exact hv
          · rw [getD_set_ne false (Ne.symm hji)] at hl
            have h1 := hV j (u j) w w' hE (hVs j hj hl)
            simp only [upd, hji, if_false]
            exact h1
        · intro a b ha hb hab hla hlb
          by_cases hai : a = i
          · subst hai
            rw [getD_set_ne false hab] at hlb
            simp only [upd, if_true, if_neg (Ne.symm hab)]
            exact hR _ _ _ _ (hRv b (u b) hb (Ne.symm hab) (hVs b hb hlb))
          · rw [getD_set_ne false (Ne.symm hai)] at hla
            by_cases hbi : b = i
            · subst hbi
              simp only [upd, if_true, if_neg hai]
              exact hRv a (u a) ha hai (hVs a ha hla)
            · rw [getD_set_ne false (Ne.symm hbi)] at hlb
              simp only [upd, if_neg hai, if_neg hbi]
              exact hRs a b ha hb hab hla hlb
  obtain ⟨u, hu⟩ := fillAll_self (l.take n) T 0 hd
  have inv0 : HeadInv .any l.toArray n (Array.replicate l.toArray.size false) :=
    ⟨by simp, fun j oj _ hl => (by rw [getD_replicate_false] at hl; cases hl), fun t _ ht => getD_in (by simpa using ht) (getD_replicate_false _ _)⟩
  have hf0 : ((List.range n).filter fun j => !(Array.replicate l.toArray.size false).getD j true).length = n := by
    rw [List.filter_eq_self.2]
    · simp
    · intro j hj
      have := List.mem_range.1 hj
      rw [getD_in (by simp; omega) (getD_replicate_false _ _)]; rfl
  have := key n (Array.replicate l.toArray.size false) u w.drew inv0 hf0 hM0 (fun j _ hl => by rw [getD_replicate_false] at hl; cases hl) (fun a _ _ _ _ hl => by rw [getD_replicate_false] at hl; cases hl)
  rw [hu, show n + (l.length - n) = l.toArray.size by omega] at this
  exact this
end

end Go.Proofs.YtnecjdhamohadaaGreatDoor
