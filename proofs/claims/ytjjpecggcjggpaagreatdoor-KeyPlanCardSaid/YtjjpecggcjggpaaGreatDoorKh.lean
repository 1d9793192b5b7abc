/- A third rule for a region that draws its order: some of its operations are guarded. -/
import Derived.Test.YtjjpecggcjggpaaGreatDoorKe
import Derived.Test.YtjjpecggcjggpaaGreatDoorKg
import Derived.Test.YtjjpecggcjggpaaGreatDoorKb
import Derived.DeepKeys
import Derived.Test.YtjjpecggcjggpaaGreatDoorKa
import Derived.Test.YtjjpecggcjggpaaGreatDoorChecked
import Derived.Lib.Bytealg
import Derived.Laws.Externs
import Derived.BigQuiet
import Derived.Lib.DecodeNEq
import Derived.Lib.QuoteLoop
import Derived.Lib.IndexLaws
import Derived.Shelf.GgClosure.StringsIndexFunc
import Derived.Lib.OthersKept
import Derived.Lib.TrimU
import Derived.Deep.LoopGhost
import Derived.RangeFuncNested
import Derived.RangeFuncBound
import Derived.RangeFuncCalls
import Derived.RangeFuncLeaves
import Derived.Shelf.Abstract
import Derived.Shelf.RegionOpen
import Derived.OwnWalkIn
import Derived.TacticsInMore
import Derived.LoopNIn
import Derived.LoopIn
set_option linter.unusedSimpArgs false
set_option linter.unusedVariables false
namespace Go.Proofs.YtjjpecggcjggpaaGreatDoor
open Go.RowKit
section
variable {P : Program} {ops : Array Oper} {T : Array Value} {D : List Deferred} {o og : Oper} {w : World} {K : Act → World → Prop} {Q : Exit → Act → World → Prop} {E : Prop}
theorem grd_met {g : Nat} {b : Bool} {dg : Tmp} (hg : o.guard = some (g, b)) (ho : ops[g]? = some og) (hd : og.dst = some dg) (hv : T[dg]? = some (.bool b)) (h : Oper.wp P o ⟨T, D⟩ w K Q) :
    if Region.wanted o (yielded ops T) = true then Oper.wp P o ⟨T, D⟩ w K Q else E := by
  rw [if_pos (by simp [Region.wanted, hg, yielded, ho, hd, hv])]; exact h
theorem grd_not {g : Nat} {b b' : Bool} {dg : Tmp} {F : Prop} (hg : o.guard = some (g, b)) (ho : ops[g]? = some og) (hd : og.dst = some dg) (hv : T[dg]? = some (.bool b')) (hne : b' ≠ b) (h : E) :
    if Region.wanted o (yielded ops T) = true then F else E := by
  rw [if_neg (by simp [Region.wanted, hg, yielded, ho, hd, hv, hne])]; exact h
end

/-- the first n operations wait for none behind them -/
def backB2 (ops : Array Oper) (n : Nat) : Bool := (List.range n).all fun j => ((ops[j]?).map fun o => o.after.all fun e => !Region.binds .any e || decide (e.on < j)).getD true
def headB2 (ops : Array Oper) (n : Nat) : Bool :=
  backB2 ops n && (decide (n = ops.size) || (decide (n < ops.size) && Region.sinkB .any ops n && Region.chainB .any ops n && Region.seqB .any ops (ops.size - n) n ((Array.range ops.size).map fun j => decide (j < n))))
section
variable {P : Program}
/-- A region whose first n operations yield values of which only this is known: V, kept by what comes behind (Ext); in whatever order, guarded or not; each is shown once, over any frame; the rest is a chain. -/
theorem wp_region_grd {id : Nat} {Q : Exit → Act → World → Prop} {w : World} {l : List Oper} {T : Array Value} {D : List Deferred} (n : Nat) (hm : P.follows .mixedOrders = true)
    (hB : headB2 l.toArray n = true) (hd : distinctB (l.take n) = true) (N : Nat) (hN : T.size = N) (hNB : (l.all fun o => (o.dst.map fun d => decide (d < N)).getD true) = true)
    (V : Nat → Value → World → Prop) (M : World → Prop) (Ext : World → World → Prop) (hM0 : M w.drew) (hV : ∀ j v w w', Ext w w' → V j v w → V j v w')
    (hop : ∀ i o, i < n → l[i]? = some o → ∀ (T' : Array Value) (w : World), M w → T'.size = T.size → (∀ t, dstIn t (l.take n) = false → T'[t]? = T[t]?) →
      (∀ e ∈ o.after, Region.binds .any e = true → ∀ oe d, l[e.on]? = some oe → oe.dst = some d → ∃ v, T'[d]? = some v ∧ V e.on v w) →
      ∀ K : Act → World → Prop, (∀ v w', V i v w' → M w' → Ext w w' → K ((⟨T', D⟩ : Act).put o.dst v) w') → if Region.wanted o (yielded l.toArray T') = true then Oper.wp P o ⟨T', D⟩ w K Q else K ((⟨T', D⟩ : Act).put o.dst undef) w)
    (hend : ∀ (u : Nat → Value) (w : World), M w → (∀ j, j < n → V j (u j) w) → wpList P l.toArray Q (l.drop n) ⟨fillAll T (l.take n) u 0, D⟩ w) :
    (Code.region id l.toArray true).wp P Q ⟨T, D⟩ w := by
  have hin_ : ∀ o d, o ∈ l → o.dst = some d → d < T.size := fun o d ho hd' => by
    have := List.all_eq_true.1 hNB o ho
    rw [hd'] at this
    rw [hN]
    simpa using this
  simp only [headB2, Bool.and_eq_true, Bool.or_eq_true, decide_eq_true_eq] at hB
  obtain ⟨hback, hB⟩ := hB
  have hsz : l.toArray.size = l.length := by simp
  have hn : n ≤ l.length := by rcases hB with h | h <;> omega
  refine wp_region_any hm ?_
  -- the state: some of the head have come
  have key : ∀ (f : Nat) (listed : Array Bool) (u : Nat → Value) (w : World), HeadInv .any l.toArray n listed →
      ((List.range n).filter fun j => !listed.getD j true).length = f → M w → (∀ j, j < n → listed.getD j false = true → V j (u j) w) →
      wpAny P .any l.toArray Q (f + (l.length - n)) listed ⟨fillAll T (l.take n) u 0, D⟩ w := by
    intro f
    induction f with
    | zero =>
      intro listed u w inv hf hM hVs
      have hall : ∀ j, j < n → listed.getD j false = true := by
        intro j hj
        have : (List.range n).filter (fun j => !listed.getD j true) = [] := List.eq_nil_of_length_eq_zero hf
        have h1 := List.filter_eq_nil_iff.1 this j (List.mem_range.2 hj)
        have hjs : j < listed.size := by rw [inv.size, hsz]; omega
        simp only [Bool.not_eq_true', Bool.not_eq_false] at h1
        simp [hjs] at h1 ⊢
        exact h1
      have hL : listed = (Array.range l.toArray.size).map fun j => decide (j < n) := by
        apply Array.ext
        · simp [inv.size]
        · intro j h1 h2
          rw [Array.getElem_map, Array.getElem_range]
          by_cases hjn : j < n
          · have := hall j hjn
            simp only [hjn, decide_true]
            simpa [h1] using this
          · have hjl : j < l.toArray.size := by rw [← inv.size]; exact h1
            have := inv.tail j (by omega) hjl
            simp only [hjn, decide_false]
            simpa [h1] using this
      have hend' := hend u w hM (fun j hj => hVs j hj (hall j hj))
      rw [Nat.zero_add]
      rcases hB with hB | hB
      · have h0 : l.length - n = 0 := by omega
        rw [h0]
        rw [List.drop_of_length_le (by omega)] at hend'
        refine ⟨?_, hend'⟩
        rcases hr : Region.ready .any l.toArray listed with _ | ⟨i, r⟩
        · rfl
        · have hi : i ∈ Region.ready .any l.toArray listed := by rw [hr]; simp
          obtain ⟨h1, o, ho, _⟩ := mem_ready.1 hi
          have hil : i < l.toArray.size := (Array.getElem?_eq_some_iff.1 ho).1
          have := hall i (by omega)
          rw [getD_both h1] at this; cases this
      · have hdl : (l.drop n).length = l.length - n := by simp
        have hseq := hB.2
        rw [← hL, hsz, ← hdl] at hseq
        have := wpAny_of_seq (P := P) (md := .any) (ops := l.toArray) (Q' := Q) (l.drop n) n listed ⟨fillAll T (l.take n) u 0, D⟩ w (fun j => by simp [List.getElem?_drop]) hseq hend'
        rw [hdl] at this
        exact this
    | succ f ih =>
      intro listed u w inv hf hM hVs
      rw [show f + 1 + (l.length - n) = (f + (l.length - n)) + 1 by omega]
      -- one of the head has not come: the least of them may come
      have hex : ∃ i, i < n ∧ listed.getD i true = false := by
        rcases hq : (List.range n).filter (fun j => !listed.getD j true) with _ | ⟨i, r⟩
        · rw [hq] at hf; simp at hf
        · have hi : i ∈ (List.range n).filter (fun j => !listed.getD j true) := by rw [hq]; simp
          rw [List.mem_filter, List.mem_range] at hi
          exact ⟨i, hi.1, by simpa using hi.2⟩
      refine ⟨fun h0 => ?_, fun i hi => ?_⟩
      · exfalso
        -- strong induction to the least
        have hleast : ∀ m i, i ≤ m → i < n → listed.getD i true = false → ∃ j, j ∈ Region.ready .any l.toArray listed := by
          intro m
          induction m with
          | zero =>
            intro i hi hin hun
            obtain rfl : i = 0 := by omega
            have hlt : 0 < l.length := by omega
            refine ⟨0, mem_ready.2 ⟨hun, l[0], by simp [hlt], fun e he hb => ?_⟩⟩
            have h1 := List.all_eq_true.1 hback 0 (List.mem_range.2 hin)
            rw [show l.toArray[0]? = some l[0] by simp [hlt]] at h1
            simp only [Option.map_some, Option.getD_some, Array.all_eq_true', Bool.or_eq_true, Bool.not_eq_true', decide_eq_true_eq] at h1
            have := (h1 e he).resolve_left (by rw [hb]; decide)
            omega
          | succ m ihm =>
            intro i hi hin hun
            by_cases hdep : ∃ j, j < i ∧ listed.getD j true = false
            · obtain ⟨j, hj, hju⟩ := hdep
              exact ihm j (by omega) (by omega) hju
            · have hlt : i < l.length := by omega
              refine ⟨i, mem_ready.2 ⟨hun, l[i], by simp [hlt], fun e he hb => ?_⟩⟩
              have h1 := List.all_eq_true.1 hback i (List.mem_range.2 hin)
              rw [show l.toArray[i]? = some l[i] by simp [hlt]] at h1
              simp only [Option.map_some, Option.getD_some, Array.all_eq_true', Bool.or_eq_true, Bool.not_eq_true', decide_eq_true_eq] at h1
              have hlt2 := (h1 e he).resolve_left (by rw [hb]; decide)
              have hes : e.on < listed.size := by rw [inv.size, hsz]; omega
              cases hq : listed.getD e.on false with
              | true => rfl
              | false => exact absurd ⟨e.on, hlt2, getD_in hes hq⟩ hdep
        obtain ⟨i, hin, hun⟩ := hex
        obtain ⟨j, hj⟩ := hleast i i (Nat.le_refl _) hin hun
        rw [h0] at hj; cases hj
      · obtain ⟨hun, o, ho, hall⟩ := mem_ready.1 hi
        have hin : i < n := by
          rcases hB with hB | hB
          · have := (Array.getElem?_eq_some_iff.1 ho).1; omega
          · rcases Nat.lt_or_ge i n with h | h
            · exact h
            · obtain ⟨k, hk, hku⟩ := hex
              exact absurd hi (tail_waits hB.1.1.2 hB.1.2 hB.1.1.1 inv _ k rfl hk hku i h)
        have hol : l[i]? = some o := by simpa using ho
        have hfacts : ∀ e ∈ o.after, Region.binds .any e = true → V e.on (u e.on) w := fun e he hb => by
          refine hVs e.on ?_ (hall e he hb)
          have h1 := List.all_eq_true.1 hback i (List.mem_range.2 hin)
          rw [ho] at h1
          simp only [Option.map_some, Option.getD_some, Array.all_eq_true', Bool.or_eq_true, Bool.not_eq_true', decide_eq_true_eq] at h1
          have := (h1 e he).resolve_left (by rw [hb]; decide)
          omega
        refine wpOp_step ho fun K hK => ?_
        have hst := hop i o hin hol (fillAll T (l.take n) u 0) w hM (fillAll_size _ _ _ _) (fun t ht => fillAll_out _ _ _ _ t ht) (fun e he hb oe d hoe hod => by
          have hlt2 : e.on < n := by
            have h1 := List.all_eq_true.1 hback i (List.mem_range.2 hin)
            rw [ho] at h1
            simp only [Option.map_some, Option.getD_some, Array.all_eq_true', Bool.or_eq_true, Bool.not_eq_true', decide_eq_true_eq] at h1
            have := (h1 e he).resolve_left (by rw [hb]; decide)
            omega
          refine ⟨u e.on, ?_, hfacts e he hb⟩
          have := fillAll_at (l.take n) T u 0 e.on oe d hd (by rw [List.getElem?_take, if_pos hlt2]; exact hoe) hod (hin_ oe d (List.mem_of_getElem? hoe) hod)
          rwa [Nat.zero_add] at this)
        refine hst K (fun v w' hv hM' hE => hK _ _ ?_)
        have hput : (⟨fillAll T (l.take n) u 0, D⟩ : Act).put o.dst v = ⟨fillAll T (l.take n) (upd u i v) 0, D⟩ := by
          have := fillAll_put (l.take n) T u 0 i o v hd (by rw [List.getElem?_take, if_pos hin]; exact hol)
          rw [Nat.zero_add] at this
          rw [← this]
          cases o.dst <;> rfl
        rw [hput]
        refine ih (listed.setIfInBounds i true) (upd u i v) w' (inv.set hi hin) ?_ hM' ?_
        · have hils : i < listed.size := by rw [inv.size, hsz]; omega
          have hsplit : ∀ (r : List Nat), r.Nodup → i ∈ r → (r.filter fun j => !listed.getD j true).length = (r.filter fun j => !(listed.setIfInBounds i true).getD j true).length + 1 := by
            intro r
            induction r with
            | nil => intro _ h; cases h
            | cons x r ihr =>
              intro hnd hmem
              rw [List.nodup_cons] at hnd
              by_cases hx : x = i
              · subst hx
                have h2 : (listed.setIfInBounds x true).getD x true = true := by simp [hils]
                have hsame : ∀ (r' : List Nat), x ∉ r' → (r'.filter fun j => !listed.getD j true) = (r'.filter fun j => !(listed.setIfInBounds x true).getD j true) := by
                  intro r' hr'
                  refine List.filter_congr fun j hj => ?_
                  rw [getD_set_ne true (show x ≠ j from fun e => hr' (by rw [e]; exact hj))]
                rw [List.filter_cons, List.filter_cons, hun, h2]
                simp only [Bool.not_false, if_true, Bool.not_true, Bool.false_eq_true, if_false, List.length_cons]
                rw [hsame r hnd.1]
              · have hm' : i ∈ r := by
                  rcases List.mem_cons.1 hmem with h | h
                  · exact absurd h.symm hx
                  · exact h
                have := ihr hnd.2 hm'
                rw [List.filter_cons, List.filter_cons, getD_set_ne true (fun e => hx e.symm)]
                split
                · simp only [List.length_cons]; omega
                · exact this
          have := hsplit (List.range n) List.nodup_range (List.mem_range.2 hin)
          omega
        · intro j hj hl
          by_cases hji : j = i
          · subst hji
            simp only [upd, if_true]
            exact hv
          · rw [getD_set_ne false (Ne.symm hji)] at hl
            have h1 := hV j (u j) w w' hE (hVs j hj hl)
            simp only [upd, hji, if_false]
            exact h1
  obtain ⟨u, hu⟩ := fillAll_self (l.take n) T 0 hd
  have inv0 : HeadInv .any l.toArray n (Array.replicate l.toArray.size false) :=
    ⟨by simp, fun j oj _ hl => (by rw [getD_replicate_false] at hl; cases hl), fun t _ ht => getD_in (by simpa using ht) (getD_replicate_false _ _)⟩
  have hf0 : ((List.range n).filter fun j => !(Array.replicate l.toArray.size false).getD j true).length = n := by
    rw [List.filter_eq_self.2]
    · simp
    · intro j hj
      have := List.mem_range.1 hj
      rw [getD_in (by simp; omega) (getD_replicate_false _ _)]; rfl
  have := key n (Array.replicate l.toArray.size false) u w.drew inv0 hf0 hM0 (fun j _ hl => by rw [getD_replicate_false] at hl; cases hl)
  rw [hu, show n + (l.length - n) = l.toArray.size by omega] at this
  exact this
end

end Go.Proofs.YtjjpecggcjggpaaGreatDoor
/- The program's key; are two actions the same? -/
namespace Go.Proofs.YtjjpecggcjggpaaGreatDoor
open Go.RowKit Go.Shelf
set_option maxRecDepth 100000
theorem flat_one (s : ByteArray) : flat [s] = s.data.toList := by simp [flat]
set_option maxHeartbeats 4000000 in
theorem of_any (w : World) (L : LayA) (a : ActK) (h : ActAt w L a) (hmi : Mild a) (hTab : Tabs w) :
    Calls Tryz.prog 9 #[.agg (actV L a)] w fun e w' => e = .returned (.agg (u8s (Sha.sum (textK a))).toArray) ∧ Below w.heap.size w w' := by
  have htl : (textK a).length ≤ 14000 := (partLens hmi).text
  obtain ⟨wb, hwb⟩ : ∃ wb, wb = w.alloc (.cells (actV L a) 30) := ⟨_, rfl⟩
  have hb0 : Below w.heap.size w wb := by rw [hwb]; exact (Below.refl _ w).alloc (Nat.le_refl _) _
  have hG : w.heap.size + 1 = wb.heap.size := by rw [hwb]; simp
  have hbx : wb.heap[w.heap.size]? = some (.cells (actV L a) 30 (0, 0)) := by rw [hwb]; exact World.alloc_heap_new w _
  have hr0 := ResAt.start wb
  obtain ⟨W, hW⟩ : ∃ W, W = wb.alloc (.cells (u8s (List.replicate 32 0)).toArray 38) := ⟨_, rfl⟩
  rw [← hW] at hr0
  have hbW : Below w.heap.size w W := hb0.trans (hr0.below.mono (by omega))
  have cT := text_any W L a (h.below hbW) hmi (hTab.on hbW)
  have hbxW : W.heap[w.heap.size]? = some (.cells (actV L a) 30 (0, 0)) := (hr0.below.block _ (by omega)).trans hbx
  have hts : ∃ V : List Value, V = (actV L a).toList ∧ V.length = 7 := ⟨_, rfl, rfl⟩
  have hag : ∀ j, (actV L a)[0 + j]? = (actV L a).toList[j]? := actV_get L a
  have hva : (actV L a).toList.toArray = actV L a := by simp
  obtain ⟨AV, hAV⟩ : ∃ AV, AV = actV L a := ⟨_, rfl⟩
  rw [← hAV] at hwb hbxW cT hts hag hva ⊢
  obtain ⟨V, hV, hVl⟩ := hts
  have HAG := hid2 (show ∀ j, j < V.length → AV[0 + j]? = V[j]? from fun j _ => by rw [hag j, hV])
  have HVA := hid2 (show V.toArray = AV from (congrArg List.toArray hV).trans hva)
  have HVL := hid2 (show (Tryz.prog.info? 30).map (·.size) = some V.length from by rw [hVl]; exact info_act)
  have HGE := hid2 hG
  have HWW := hid2 (show (w.alloc (.cells AV 30)).alloc (.cells (u8s (List.replicate 32 0)).toArray 38) = W from by rw [hW, hwb])
  have HBW := hid2 hbW
  have HBX := hid2 hbxW
  have HR0 := hid2 hr0
  obtain ⟨s, hs⟩ : ∃ s, s = strB (textK a) := ⟨_, rfl⟩
  have hss : s.size ≤ 20000 := by rw [hs, strB_size]; omega
  have hsl : s.data.toList = textK a := by rw [hs, strB_list]
  rw [← hs] at cT
  have HSL := hid2 hsl
  obtain ⟨S, hS⟩ : ∃ S, S = Sha.sum s.data.toList := ⟨_, rfl⟩
  have hd32 : S.length = 32 := by rw [hS]; exact sum_len _
  have HSS := hid2 hS
  have HD32 := hid2 hd32
  have hfin : S = Sha.sum (textK a) := by rw [hS, hsl]
  rw [← hfin]
  clear hTab hb0 hbx h hmi hAV hV hVl hag hva hs hsl htl hd32 hW hwb hbW hbxW hr0 hG hfin hS
  go_enter Tryz.func9, Tryz.ntmps9
  go_wp2_with (first
    | ((with_reducible refine wpList_load_lit w.heap.size 0 _ _ _ (heap_alloc2_old w _ _) V HAG.out _ Tryz.underlying30 HVL.out ?_ ?_); exact ⟨rfl, rfl⟩; rw [HVA.out])
    | (go_at_call 8; refine (HWW.out ▸ cT).mono ?_; rintro e w1 ⟨rfl, hb1⟩; have HB1 := hid2 (show Below W.heap.size W w1 from HWW.out ▸ hb1); have hrs := Rd.one w1 (.string s) 9; clear hb1 cT)
    | (go_at_call 16; refine (ssum_any _ _ 1 1 [s] hrs (by unfold maxLen; omega) (by rw [flat_one, toList_length]; omega)).mono ?_; rw [flat_one, ← HSS.out]; rintro e w2 ⟨rfl, hb2⟩; have hb1 := HB1.out.alloc HB1.out.size (.cells #[.string s] 9); have hr2 := (HR0.out.ext hb1).ext hb2; have hbb := (HBW.out.trans (hb1.mono HBW.out.size)).trans (hb2.mono (Nat.le_trans HBW.out.size hb1.size)); obtain ⟨hz, hz1, hz2⟩ := digest_left w wb w2 S HD32.out HGE.out hr2 hbb; have HZ1 := hid2 hz1; have HZ2 := hid2 hz2; clear hb2 hr2 hbb hz1 hz2 hb1 hrs)
    | (refine wpList_gen (fun w3 => w3 = w2) rfl ?_; rintro w3 rfl; (with_reducible refine wpList_store_lit (w.heap.size + 1) 0 (.agg (u8s S).toArray) (u8s S) (agg_cells _) _ _ hz (info_h8' HD32.out) (fit_h HD32.out) (u8s_one _) ?_ ?_); exact ⟨rfl, rfl⟩))
  exact bodyPost_ret (v := .agg (u8s S).toArray) (results_cell_row rfl _ _ _ 38 _ (0, 0) _ rfl HZ1.out Tryz.underlying38 rfl (by rw [List.size_toArray]; exact info_h8' HD32.out)) rfl ⟨rfl, HZ2.out⟩
end Go.Proofs.YtjjpecggcjggpaaGreatDoor
/- Digests compared. -/
namespace Go.Proofs.YtjjpecggcjggpaaGreatDoor
open Go.RowKit
set_option maxRecDepth 100000
theorem mapM_somes {α β : Type} (f : α → Option β) (g : α → β) : ∀ (l : List α), (∀ x ∈ l, f x = some (g x)) → l.mapM f = some (l.map g)
  | [], _ => rfl
  | x :: l, h => by
    rw [List.mapM_cons, h x (by simp), mapM_somes f g l (fun y hy => h y (by simp [hy]))]
    rfl
/-- a byte as a literal -/
def lit8 (b : UInt8) : Lit := .int .u8 b.toNat
theorem flatten_single {α : Type} (l : List α) : (l.map fun x => [x]).flatten = l := by
  induction l with
  | nil => rfl
  | cons x l ih => simp only [List.map_cons, List.flatten_cons, ih]; rfl
theorem lit8_wf (b : UInt8) : (Lit.int .u8 (b.toNat : Int)).wf = true := by
  have := UInt8.toNat_lt b
  have h0 : IntKind.u8.min = 0 := by decide
  have h1 : IntKind.u8.max = 255 := by decide
  simp only [Lit.wf, Bool.and_eq_true, decide_eq_true_eq, h0, h1]
  omega
theorem keyLits_u8s (l : List UInt8) (h : l.length = 32) : Tryz.prog.keyLits 2 38 (u8s l) = some (l.map lit8) := by
  have hu : Tryz.prog.underlying 38 = some (.array 32 5) := Tryz.underlying38
  have hu8 : Tryz.prog.underlying 5 = some (.int .u8) := Tryz.underlying5
  have hc : Tryz.prog.cellsOf 38 = 32 := by kernel_rfl
  have hc1 : Tryz.prog.cellsOf 5 = 1 := by kernel_rfl
  unfold Program.keyLits
  simp only [hu, hc, hc1, u8s_length, h, if_true]
  have : (List.range 32).mapM (fun i => Tryz.prog.keyLits 1 5 (((u8s l).drop (i * 1)).take 1)) = some ((List.range 32).map fun i => [lit8 (l.getD i 0)]) := by
    refine mapM_somes _ _ _ fun i hi => ?_
    have hi' : i < l.length := by rw [h]; exact List.mem_range.1 hi
    have e : ((u8s l).drop (i * 1)).take 1 = [.int .u8 (l.getD i 0).toNat] := by
      rw [Nat.mul_one, List.drop_eq_getElem_cons (by rw [u8s_length]; exact hi'), List.take_succ_cons, List.take_zero]
      have := u8s_get l hi'
      rw [List.getElem?_eq_getElem (by rw [u8s_length]; exact hi')] at this
      rw [Option.some.inj this]
    rw [e]
    unfold Program.keyLits
    simp only [hu8]
    rw [if_pos ⟨trivial, lit8_wf _⟩]
    rfl
  rw [this]
  simp only [Option.map_some]
  congr 1
  rw [show (fun i => [lit8 (l.getD i 0)]) = (fun x => [x]) ∘ (fun i => lit8 (l.getD i 0)) from rfl, ← List.map_map, flatten_single]
  apply List.ext_getElem
  · simp [h]
  · intro i h1 h2
    simp at h1 h2 ⊢
    rw [List.getElem?_eq_getElem h2]
    rfl
theorem lit8_inj {a b : List UInt8} (h : a.map lit8 = b.map lit8) : a = b := by
  refine List.map_inj_right (fun x y hxy => ?_) |>.1 h
  unfold lit8 at hxy
  injection hxy with _ h2
  exact UInt8.toNat_inj.1 (by omega)
theorem formed_dig (l : List UInt8) (h : l.length = 32) : (Value.agg (u8s l).toArray).formed Tryz.prog 38 = true := by
  have hu : Tryz.prog.underlying 38 = some (.array 32 5) := Tryz.underlying38
  have hc : Tryz.prog.cellsOf 38 = 32 := by kernel_rfl
  simp [Value.formed, hu, hc, u8s_length, h]
theorem run_eq_dig (a b : List UInt8) (ha : a.length = 32) (hb : b.length = 32) (w : World) : (binOp .eql 38 (.agg (u8s a).toArray) (.agg (u8s b).toArray)).run Tryz.prog w = .ok (.bool (a == b)) w := by
  have hE : EqAt Tryz.prog 10000 38 := run_equalIn_deep 9998 2 38 (by kernel_rfl)
  obtain ⟨r, h1, h2⟩ := hE w 2 2 (.agg (u8s a).toArray) (.agg (u8s b).toArray) _ _ (formed_dig a ha) (formed_dig b hb) (by simpa [Value.cells] using keyLits_u8s a ha) (by simpa [Value.cells] using keyLits_u8s b hb)
  rw [run_eql_struct, h1]
  have : r = (a == b) := by
    rw [Bool.eq_iff_iff, h2, beq_iff_eq]
    exact ⟨lit8_inj, fun e => by rw [e]⟩
  rw [this]
  rfl
theorem run_neq_dig (a b : List UInt8) (ha : a.length = 32) (hb : b.length = 32) (w : World) : (binOp .neq 38 (.agg (u8s a).toArray) (.agg (u8s b).toArray)).run Tryz.prog w = .ok (.bool (!(a == b))) w := by
  have hE : EqAt Tryz.prog 10000 38 := run_equalIn_deep 9998 2 38 (by kernel_rfl)
  obtain ⟨r, h1, h2⟩ := hE w 2 2 (.agg (u8s a).toArray) (.agg (u8s b).toArray) _ _ (formed_dig a ha) (formed_dig b hb) (by simpa [Value.cells] using keyLits_u8s a ha) (by simpa [Value.cells] using keyLits_u8s b hb)
  rw [run_neq_struct, h1]
  have : r = (a == b) := by
    rw [Bool.eq_iff_iff, h2, beq_iff_eq]
    exact ⟨lit8_inj, fun e => by rw [e]⟩
  rw [this]
  rfl
end Go.Proofs.YtjjpecggcjggpaaGreatDoor
/- An action in a box, and what is asked of it. -/
namespace Go.Proofs.YtjjpecggcjggpaaGreatDoor
open Go.RowKit Go.Shelf
set_option maxRecDepth 100000
/-- block g holds an action, as the cells V -/
structure ActBox (W : World) (g : Nat) (V : List Value) (L : LayA) (a : ActK) : Prop where
  heap : W.heap[g]? = some (.cells V.toArray 30 (0, 0))
  len : V.length = 7
  val : V.toArray = actV L a
  at_ : ActAt W L a
theorem ActBox.info {W : World} {g : Nat} {V : List Value} {L : LayA} {a : ActK} (h : ActBox W g V L a) : (Tryz.prog.info? 30).map (·.size) = some V.length := by rw [h.len]; exact info_act
theorem ActBox.below {W W' : World} {g : Nat} {V : List Value} {L : LayA} {a : ActK} (h : ActBox W g V L a) (hb : Below W.heap.size W W') : ActBox W' g V L a := ⟨(hb.block g (heap_lt h.heap)).trans h.heap, h.len, h.val, h.at_.below hb⟩
section
variable {W : World} {g : Nat} {V : List Value} {L : LayA} {a : ActK}
theorem ActBox.great (h : ActBox W g V L a) : Calls Tryz.prog 5 #[.agg V.toArray] W fun e w' => e = .returned (.bool (greatL a)) ∧ Below W.heap.size W w' := by rw [h.val]; exact great_any W L a h.at_
theorem ActBox.text (h : ActBox W g V L a) (hm : Mild a) (hT : Tabs W) : Calls Tryz.prog 8 #[.agg V.toArray] W fun e w' => e = .returned (.string (strB (textK a))) ∧ Below W.heap.size W w' := by rw [h.val]; exact text_any W L a h.at_ hm hT
theorem ActBox.of (h : ActBox W g V L a) (hm : Mild a) (hT : Tabs W) : Calls Tryz.prog 9 #[.agg V.toArray] W fun e w' => e = .returned (.agg (u8s (Sha.sum (textK a))).toArray) ∧ Below W.heap.size W w' := by rw [h.val]; exact of_any W L a h.at_ hm hT
theorem ActBox.rtext (h : ActBox W g V L a) (hm : Mild a) : Calls Tryz.prog 18 #[.agg V.toArray] W fun e w' => e = .returned (.string (strB (textK a))) ∧ Below W.heap.size W w' := by rw [h.val]; exact reftext_any W L a h.at_ hm
theorem ActBox.rof (h : ActBox W g V L a) (hm : Mild a) : Calls Tryz.prog 10 #[.agg V.toArray] W fun e w' => e = .returned (.agg (u8s (Sha.sum (textK a))).toArray) ∧ Below W.heap.size W w' := by rw [h.val]; exact refof_any W L a h.at_ hm
end
end Go.Proofs.YtjjpecggcjggpaaGreatDoor
/- slices.IndexFunc and ContainsFunc on a row of texts, with a function value that leaves all below. -/
namespace Go.Proofs.YtjjpecggcjggpaaGreatDoor
open Go.RowKit
/-- the first one's place; -1 -/
def kpidxP (p : Tx → Bool) (row : List Tx) : Int := match row.findIdx? p with
  | some q => (q : Int)
  | none => -1
theorem kpany_succ {row : List Tx} {q : Nat} {x : Tx} (p : Tx → Bool) (h : row[q]? = some x) : (row.take (q + 1)).any p = ((row.take q).any p || p x) := by
  obtain ⟨hq, hx⟩ := List.getElem?_eq_some_iff.1 h
  rw [List.take_succ_eq_append_getElem hq, hx, List.any_append]
  simp
theorem kpidxP_at {row : List Tx} {q : Nat} {x : Tx} {p : Tx → Bool} (h : row[q]? = some x) (h1 : (row.take q).any p = false) (h2 : p x = true) : kpidxP p row = q := by
  obtain ⟨hq, hx⟩ := List.getElem?_eq_some_iff.1 h
  have : row.findIdx? p = some q := by
    rw [List.findIdx?_eq_some_iff_getElem]
    refine ⟨hq, by rw [hx]; exact h2, fun j hj => ?_⟩
    have h3 := List.any_eq_false.1 h1 row[j] (by
      rw [List.mem_iff_getElem]
      exact ⟨j, by simp; omega, by simp⟩)
    simpa using h3
  rw [kpidxP, this]
theorem kpidxP_none {row : List Tx} {p : Tx → Bool} (h1 : row.any p = false) : kpidxP p row = -1 := by
  have : row.findIdx? p = none := by
    rw [List.findIdx?_eq_none_iff]
    intro x hx
    have := List.any_eq_false.1 h1 x hx
    simpa using this
  rw [kpidxP, this]
theorem kpidxP_some {row : List Tx} {p : Tx → Bool} (h1 : row.any p = true) : ∃ (q : Nat) (x : Tx), kpidxP p row = q ∧ row[q]? = some x ∧ row.find? p = some x ∧ p x = true := by
  cases hf : row.findIdx? p with
  | none =>
    rw [List.findIdx?_eq_none_iff] at hf
    obtain ⟨x, hx, hp⟩ := List.any_eq_true.1 h1
    rw [hf x hx] at hp
    cases hp
  | some q =>
    have h := List.findIdx?_eq_some_iff_getElem.1 hf
    obtain ⟨hq, hp, hb⟩ := h
    refine ⟨q, row[q], by rw [kpidxP, hf], List.getElem?_eq_getElem hq, ?_, hp⟩
    rw [List.find?_eq_some_iff_getElem]
    exact ⟨hp, q, hq, rfl, fun j hj => by have := hb j hj; simpa using this⟩
theorem txt_cell {w : World} {B : Option Addr} {n : Nat} {row : List Tx} (h : Rd w 1 B n (strV row)) {q : Nat} {x : Tx} (hx : row[q]? = some x) : ∃ b o, B = some ⟨b, o, none⟩ ∧ w.cell? ⟨b, o + q, none⟩ = some (.string (strB x)) := by
  have hl := h.1
  rw [strV, List.length_map] at hl
  have hq := (List.getElem?_eq_some_iff.1 hx).1
  obtain ⟨b, o, rfl, hc⟩ := h.2 (by omega)
  exact ⟨b, o, rfl, hc q _ (by rw [strV, List.getElem?_map, hx]; rfl)⟩
set_option maxRecDepth 100000 in
set_option maxHeartbeats 1000000 in
theorem kpindex_any (w : World) (B : Option Addr) (c : Nat) (row : List Tx) (hr : Rd w 1 B row.length (strV row)) (hl : row.length ≤ 1000) (f : Nat) (ca : Array Value) (heg : Enters Tryz.prog f) (p : Tx → Bool)
    (hc : ∀ W, Below w.heap.size w W → ∀ x ∈ row, Calls Tryz.prog f (#[.string (strB x)] ++ ca) W fun e w' => e = .returned (.bool (p x)) ∧ Below W.heap.size W w') :
    Calls Tryz.prog 50 #[.slice B row.length c, .func (.func f) #[] ca] w fun e w' => e = .returned (.int .i64 (kpidxP p row)) ∧ Below w.heap.size w w' := by
  obtain ⟨L, hL⟩ : ∃ L, L = row.length := ⟨_, rfl⟩
  obtain ⟨E, hE⟩ : ∃ E, E = kpidxP p row := ⟨_, rfl⟩
  rw [← hL] at hr hl ⊢
  rw [← hE]
  have hat := fun (q : Nat) (x : Tx) (h : row[q]? = some x) (h1 : (row.take q).any p = false) (h2 : p x = true) => kpidxP_at h h1 h2
  have hno := fun (h : row.any p = false) => kpidxP_none h
  have hts := fun (q : Nat) (x : Tx) (h : row[q]? = some x) => kpany_succ p h
  rw [← hE] at hat hno
  have eg : ∀ (args : Array Value) (w : World), (callFunc f args).run Tryz.prog w = .ok (.enter f args) w := heg
  have HR := hid2 hr
  have HL := hid2 hL
  have HC := hid2 hc
  have HAT := hid2 hat
  have HNO := hid2 hno
  have HTS := hid2 hts
  clear hr hL hc hE heg hat hno hts
  go_enter Tryz.func50, Tryz.ntmps50
  go_wp2_with fail
  go_loopg [5, 8] L (fun gk x5 qv wr => ∃ q : Nat, q + gk = L ∧ qv = .int .i64 q ∧ (row.take q).any p = false ∧ Below w.heap.size w wr)
  case atStart => exact ⟨0, by omega, rfl, rfl, Below.refl _ _⟩
  case round =>
    obtain ⟨q, hq, rfl, hany, hlow⟩ := hrel
    have HANY := hid2 hany
    have HLOW := hid2 hlow
    clear hany hlow
    by_cases hqL : q < L
    · have hqL' : (q : Int) < L := by omega
      have hq0 : (0 : Int) ≤ q := by omega
      obtain ⟨x, hx⟩ : ∃ x, row[q]? = some x := ⟨_, List.getElem?_eq_getElem (by rw [← HL.out]; exact hqL)⟩
      obtain ⟨b, o, rfl, cx⟩ := txt_cell (HR.out.below_all HLOW.out) hx
      have hcx := HC.out wr HLOW.out x (List.mem_of_getElem? hx)
      have HX := hid2 hx
      obtain ⟨v, hv⟩ : ∃ v, v = p x := ⟨_, rfl⟩
      obtain ⟨X, hX⟩ : ∃ X, X = strB x := ⟨_, rfl⟩
      rw [← hX] at cx hcx
      rw [← hv] at hcx
      clear hX
      have HCX := hid2 hcx
      have HV := hid2 hv
      clear hx hcx hqL hv
      cases v with
      | true =>
        go_wp2_with (first | (refine HCX.out.mono ?_; rintro e w2 ⟨rfl, hb2⟩; have HB2 := hid2 hb2; clear hb2))
        go_ret
        exact ⟨by rw [HAT.out q x HX.out HANY.out HV.out.symm]; rfl, HLOW.out.trans (HB2.out.mono HLOW.out.size)⟩
      | false =>
        go_wp2_with (first | (refine HCX.out.mono ?_; rintro e w2 ⟨rfl, hb2⟩; have HB2 := hid2 hb2; clear hb2))
        go_roundg (gk - 1)
        case rel => exact ⟨q + 1, by omega, by go_num, by rw [HTS.out q x HX.out, HANY.out, ← HV.out]; rfl, HLOW.out.trans (HB2.out.mono HLOW.out.size)⟩
        case measure => omega
    · have hqL2 : q = L := by omega
      have hqL' : ¬ (q : Int) < L := by omega
      have HE := hid2 (HNO.out (by have h := HANY.out; rwa [hqL2, HL.out, List.take_length] at h))
      clear hqL hqL2
      go_wp2_with fail
      go_ret
      exact ⟨by rw [HE.out]; rfl, HLOW.out⟩
theorem kpidxP_ge (p : Tx → Bool) (row : List Tx) : decide (0 ≤ kpidxP p row) = row.any p := by
  cases ha : row.any p with
  | true =>
    obtain ⟨q, x, h, _⟩ := kpidxP_some ha
    rw [h]
    simp
  | false =>
    rw [kpidxP_none ha]
    rfl
theorem kpidxP_bound (p : Tx → Bool) (row : List Tx) (hl : row.length ≤ 1000) : -1 ≤ kpidxP p row ∧ kpidxP p row ≤ 1000 := by
  cases ha : row.any p with
  | true =>
    obtain ⟨q, x, h, h2, _⟩ := kpidxP_some ha
    have := (List.getElem?_eq_some_iff.1 h2).1
    omega
  | false => rw [kpidxP_none ha]; omega
set_option maxRecDepth 100000 in
theorem kpcontains_any (w : World) (B : Option Addr) (c : Nat) (row : List Tx) (hr : Rd w 1 B row.length (strV row)) (hl : row.length ≤ 1000) (f : Nat) (ca : Array Value) (heg : Enters Tryz.prog f) (p : Tx → Bool)
    (hc : ∀ W, Below w.heap.size w W → ∀ x ∈ row, Calls Tryz.prog f (#[.string (strB x)] ++ ca) W fun e w' => e = .returned (.bool (p x)) ∧ Below W.heap.size W w') :
    Calls Tryz.prog 26 #[.slice B row.length c, .func (.func f) #[] ca] w fun e w' => e = .returned (.bool (row.any p)) ∧ Below w.heap.size w w' := by
  have HI := hid2 (kpindex_any w B c row hr hl f ca heg p hc)
  have hge := kpidxP_ge p row
  obtain ⟨b1, b2⟩ := kpidxP_bound p row hl
  rw [← hge]
  clear hr hc hge
  obtain ⟨E, hE⟩ : ∃ E, E = kpidxP p row := ⟨_, rfl⟩
  rw [← hE] at HI b1 b2 ⊢
  obtain ⟨L, hL⟩ : ∃ L, L = row.length := ⟨_, rfl⟩
  rw [← hL] at HI ⊢
  clear hE hL hl heg
  go_enter Tryz.func26, Tryz.ntmps26
  go_wp2_with (first | (go_at_call 50; refine HI.out.mono ?_; rintro e w2 ⟨rfl, hb2⟩; have HB2 := hid2 hb2; clear hb2))
  go_ret
  exact ⟨rfl, HB2.out⟩
end Go.Proofs.YtjjpecggcjggpaaGreatDoor
/- The walks of IndexByte. -/
namespace Go.Proofs.YtjjpecggcjggpaaGreatDoor
open Go.RowKit
set_option maxRecDepth 100000
theorem sbyte_any (w : World) (s : ByteArray) (c : Int) : Calls Tryz.prog 117 #[.string s, .int .u8 c] w fun e w' => e = .returned (.int .i64 (Lib.indexByte s.data.toList c.toNat.toUInt8)) ∧ w' = w := by
  go_enter Tryz.func117, Tryz.ntmps117
  go_wp2
  rw [run_callFunc_extern Tryz.func134 (by kernel_rfl) (by kernel_rfl) (by kernel_rfl) (e := Extern.BytealgIndexByte.indexByte) (by kernel_rfl), Lib.run_indexByteString]
  simp only [Result.andThen]
  rw [Oper.upon_value]
  go_wp2
  go_ret
  exact ⟨rfl, rfl⟩
theorem byteat_any (w : World) (s : ByteArray) (c : Int) : Calls Tryz.prog 91 #[.string s, .int .u8 c] w fun e w' => e = .returned (.int .i64 (Lib.indexByte s.data.toList c.toNat.toUInt8)) ∧ w' = w := by
  go_enter Tryz.func91, Tryz.ntmps91
  go_wp2_with (first | (go_at_call 117; refine (sbyte_any _ _ _).mono ?_; rintro e w2 ⟨rfl, rfl⟩))
  go_ret
  exact ⟨rfl, rfl⟩
end Go.Proofs.YtjjpecggcjggpaaGreatDoor
/- A region that draws its order, whose operations read and whose callees keep what lies below a floor: walked once. -/
namespace Go.Proofs.YtjjpecggcjggpaaGreatDoor
open Go.RowKit
theorem wp_region_kept {P : Program} {id : Nat} {Q : Exit → Act → World → Prop} {a : Act} {w : World} {l : List Oper} (M : World → Prop) (hM : M (w.drewN 1)) (hm : P.follows .mixedOrders = true) (hB : Region.lexB .any l.toArray = true)
    (h : wpQuiet P l.toArray M (fun a' => ∀ w', M w' → Q .normal a' w') l a) : (Code.region id l.toArray true).wp P Q a w :=
  wp_region_quiet (C := M) hm hB hM (by simpa using h)
/-- a callee's contract, met in such a region -/
theorem Calls.keptB {P : Program} {f : FuncId} {args : Array Value} {B : Nat} {w0 w : World} {v : Value} (hM : Below B w0 w) (hB : B ≤ w0.heap.size)
    (h : Calls P f args w fun e w' => e = .returned v ∧ Below w.heap.size w w') : Calls P f args w fun e w'' => e = .returned v ∧ Below B w0 w'' :=
  h.mono fun _ _ ⟨he, hb⟩ => ⟨he, hM.trans (hb.mono (Nat.le_trans hB hM.size))⟩
end Go.Proofs.YtjjpecggcjggpaaGreatDoor
/- The walks of a path's parts: sign, part, and the document's Part. -/
namespace Go.Proofs.YtjjpecggcjggpaaGreatDoor
open Go.RowKit
/-- may a part have that rune? -/
def signN (r : Nat) : Bool := (decide (97 ≤ r) && decide (r ≤ 122)) || (decide (65 ≤ r) && decide (r ≤ 90)) || (decide (48 ≤ r) && decide (r ≤ 57)) || decide (r = 95) || decide (r = 46) || decide (r = 45) || decide (r = 43)
theorem signN_byte (c : UInt8) : signN c.toNat = signB c := rfl
theorem signN_big {r : Nat} (h : 128 ≤ r) : signN r = false := by
  unfold signN
  simp only [Bool.or_eq_false_iff, Bool.and_eq_false_iff, decide_eq_false_iff_not]
  omega
theorem decodeN_big (n b0 b1 b2 b3 : Nat) (h : 128 ≤ b0) : 128 ≤ (Lib.decodeN n b0 b1 b2 b3).1 := by
  unfold Lib.decodeN
  rw [if_neg (by omega)]
  repeat' split
  all_goals simp only
  all_goals omega
theorem idx_sign_from (s : ByteArray) : ∀ (f pos : Nat), pos ≤ s.size → s.size ≤ pos + f →
    decide (0 ≤ Lib.idxFuncFrom (fun r => !signN r) true s f pos) = !((s.data.toList.drop pos).all signB)
  | 0, pos, h1, h2 => by
    rw [List.drop_of_length_le (by rw [toList_length]; omega)]
    rfl
  | f + 1, pos, h1, h2 => by
    by_cases hp : pos < s.size
    · have hpl : pos < s.data.toList.length := by rw [toList_length]; exact hp
      have hget : s.get! pos = s.data.toList[pos] := by
        have : s.data[pos]! = s.data[pos]'hp := getElem!_pos s.data pos hp
        show s.data[pos]! = _
        rw [this]; simp
      rw [List.drop_eq_getElem_cons hpl, List.all_cons]
      obtain ⟨c, hc⟩ : ∃ c, c = s.data.toList[pos] := ⟨_, rfl⟩
      rw [← hc] at hget ⊢
      unfold Lib.idxFuncFrom
      rw [if_pos hp, Lib.decode_at, hget]
      by_cases h128 : c.toNat < 128
      · rw [show Lib.decodeN (s.size - pos) c.toNat (s.get! (pos + 1)).toNat (s.get! (pos + 2)).toNat (s.get! (pos + 3)).toNat = (c.toNat, 1) by simp [Lib.decodeN, h128]]
        have ih := idx_sign_from s f (pos + 1) (by omega) (by omega)
        by_cases hsg : signB c = true
        · rw [if_neg (by show ¬ ((!signN c.toNat) = true); rw [signN_byte, hsg]; simp), hsg, Bool.true_and]; exact ih
        · have hsg' : signB c = false := by simpa using hsg
          rw [if_pos (by show (!signN c.toNat) = true; rw [signN_byte, hsg']; rfl), hsg']; simp
      · have hb := signN_big (decodeN_big (s.size - pos) c.toNat (s.get! (pos + 1)).toNat (s.get! (pos + 2)).toNat (s.get! (pos + 3)).toNat (by omega))
        have hs : signB c = false := by rw [← signN_byte]; exact signN_big (by omega)
        rw [hb, hs]; simp
    · rw [Lib.idxFuncFrom_end _ _ _ _ _ hp, List.drop_of_length_le (by rw [toList_length]; omega)]
      rfl
theorem idx_sign (s : ByteArray) : decide (0 ≤ Lib.idxFunc (fun r => !signN r) true s) = !(s.data.toList.all signB) := by
  rw [Lib.idxFunc, idx_sign_from s s.size 0 (by omega) (by omega), List.drop_zero]
theorem odd_sign : ∀ r : Fin 128, decide (0 ≤ Lib.indexByte [95, 46, 45, 43] (UInt8.ofNat r.val)) = (decide (r.val = 95) || decide (r.val = 46) || decide (r.val = 45) || decide (r.val = 43)) := by decide +kernel
theorem sign_odd {r : Nat} (h : r < 128) (h1 : ¬ (97 ≤ r ∧ r ≤ 122)) (h2 : ¬ (65 ≤ r ∧ r ≤ 90)) (h3 : ¬ (48 ≤ r ∧ r ≤ 57)) : decide (0 ≤ Lib.indexByte [95, 46, 45, 43] (UInt8.ofNat r)) = signN r := by
  rw [odd_sign ⟨r, h⟩]
  have e1 : (decide (97 ≤ r) && decide (r ≤ 122)) = false := by simpa using h1
  have e2 : (decide (65 ≤ r) && decide (r ≤ 90)) = false := by simpa using h2
  have e3 : (decide (48 ≤ r) && decide (r ≤ 57)) = false := by simpa using h3
  unfold signN
  rw [e1, e2, e3]; rfl
theorem sign_yes {r : Nat} (h : (97 ≤ r ∧ r ≤ 122) ∨ (65 ≤ r ∧ r ≤ 90) ∨ (48 ≤ r ∧ r ≤ 57)) : signN r = true := by
  unfold signN
  simp only [Bool.or_eq_true, Bool.and_eq_true, decide_eq_true_eq]
  omega
set_option maxRecDepth 100000 in
theorem sign_any (w : World) (r : Nat) : Calls Tryz.prog 72 #[.int .i32 r] w fun e w' => e = .returned (.bool (signN r)) ∧ w' = w := by
  by_cases hy : (97 ≤ r ∧ r ≤ 122) ∨ (65 ≤ r ∧ r ≤ 90) ∨ (48 ≤ r ∧ r ≤ 57)
  · rw [sign_yes hy]
    rcases hy with h | h | h
    all_goals obtain ⟨h1, h2⟩ := h
    all_goals have b1 := Int.ofNat_le.2 h1
    all_goals have b2 := Int.ofNat_le.2 h2
    all_goals clear h1 h2
    all_goals go_enter Tryz.func72, Tryz.ntmps72
    all_goals go_wp2_with fail
    all_goals go_ret
    all_goals exact ⟨rfl, rfl⟩
  · by_cases hb : 128 ≤ r
    · rw [signN_big hb]
      have b1 : (128 : Int) ≤ r := by omega
      go_enter Tryz.func72, Tryz.ntmps72
      go_wp2_with fail
      go_ret
      refine ⟨?_, rfl⟩
      show Ending.returned (Value.bool _) = Ending.returned (Value.bool false)
      congr 2
      simp only [Bool.or_eq_false_iff, decide_eq_false_iff_not]
      omega
    · rw [← sign_odd (by omega) (by omega) (by omega) (by omega)]
      have hr : r < 48 ∨ (57 < r ∧ r < 65) ∨ (90 < r ∧ r < 97) ∨ 122 < r := by omega
      have b0 : (r : Int) < 128 := by omega
      clear hy hb
      rcases hr with h | h | h | h
      · have b1 : (r : Int) < 48 := by omega
        clear h
        go_enter Tryz.func72, Tryz.ntmps72
        go_wp2_with (go_at_call 91; refine (byteat_any _ _ _).mono ?_; rintro e w2 ⟨rfl, rfl⟩)
        go_ret
        exact ⟨rfl, rfl⟩
      · have b1 : (57 : Int) < r := by omega
        have b2 : (r : Int) < 65 := by omega
        clear h
        go_enter Tryz.func72, Tryz.ntmps72
        go_wp2_with (go_at_call 91; refine (byteat_any _ _ _).mono ?_; rintro e w2 ⟨rfl, rfl⟩)
        go_ret
        exact ⟨by simp [b1]; omega, rfl⟩
      · have b1 : (90 : Int) < r := by omega
        have b2 : (r : Int) < 97 := by omega
        clear h
        go_enter Tryz.func72, Tryz.ntmps72
        go_wp2_with (go_at_call 91; refine (byteat_any _ _ _).mono ?_; rintro e w2 ⟨rfl, rfl⟩)
        go_ret
        exact ⟨by simp [b1]; omega, rfl⟩
      · have b1 : (122 : Int) < r := by omega
        clear h
        go_enter Tryz.func72, Tryz.ntmps72
        go_wp2_with (go_at_call 91; refine (byteat_any _ _ _).mono ?_; rintro e w2 ⟨rfl, rfl⟩)
        go_ret
        exact ⟨by simp [b1]; omega, rfl⟩
end Go.Proofs.YtjjpecggcjggpaaGreatDoor
/- The walks of the library's search by a predicate, and of part. -/
namespace Go.Proofs.YtjjpecggcjggpaaGreatDoor
open Go.RowKit
theorem partclo_any (w : World) (r : Nat) : Calls Tryz.prog 71 #[.int .i32 r] w fun e w' => e = .returned (.bool (!signN r)) ∧ w' = w := by
  go_enter Tryz.func71, Tryz.ntmps71
  go_wp2_with (go_at_call 72; refine (sign_any _ _).mono ?_; rintro e w2 ⟨rfl, rfl⟩)
  go_ret
  exact ⟨rfl, rfl⟩
/-- no sign of a part -/
def badN (r : Nat) : Bool := !signN r
theorem idxfn_any (w : World) (s : ByteArray) : Calls Tryz.prog 116 #[.string s, .func (.func 71) #[] #[], .bool true] w fun e w' => e = .returned (.int .i64 (Lib.idxFunc badN true s)) ∧ Below w.heap.size w w' := by
  go_enter Tryz.func116, Tryz.ntmps116
  go_wp2_with fail
  go_loopg [] s.size (fun gf wx => ∃ pos : Nat, wx.heap[w.heap.size]? = some (.stringIter s pos) ∧ Below w.heap.size w wx ∧ Lib.idxFuncFrom badN true s gf pos = Lib.idxFunc badN true s ∧ s.size ≤ pos + gf)
  case atStart => exact ⟨0, World.iter_heap w s 0, (Below.refl _ w).alloc (Nat.le_refl _) _, rfl, by omega⟩
  case round =>
    obtain ⟨pos, hit, hbw, hleft, hfu⟩ := hrel
    by_cases hps : pos < s.size
    · obtain ⟨g', rfl⟩ : ∃ g', gk = g' + 1 := ⟨gk - 1, by omega⟩
      have hnx : ∀ ty, (Instr.next (.pointer (some ⟨w.heap.size, 0, none⟩)) true ty).run Tryz.prog wr = _ := fun ty => Lib.run_next_any_at wr w.heap.size s pos ty hit hps
      have hwd := Lib.width_pos s pos
      obtain ⟨R, hR⟩ : ∃ R, (Utf8.decode s pos).1 = R := ⟨_, rfl⟩
      obtain ⟨K, hK⟩ : ∃ K, (Utf8.decode s pos).2 = K := ⟨_, rfl⟩
      simp only [Lib.idxFuncFrom, hps, if_true, hR, hK] at hleft
      rw [hR, hK] at hnx
      rw [hK] at hwd
      have hit2 := Lib.iterAt_heap wr w.heap.size s pos (pos + K) hit
      have hbw2 := Lib.below_iterAt hbw (k := w.heap.size) (Nat.le_refl _) s (pos + K)
      obtain ⟨W, hWd⟩ : ∃ W, wr.iterAt w.heap.size s (pos + K) = W := ⟨_, rfl⟩
      rw [hWd] at hnx hit2 hbw2
      have cS := partclo_any W R
      rw [show (!signN R) = badN R from rfl] at cS
      cases hsp : badN R <;> rw [hsp] at cS <;> simp only [hsp, if_true, Bool.false_eq_true, if_false] at hleft
      · have HL := hid2 hleft
        clear hleft hsp hR hK hWd
        go_wp2_with (go_at_call 71; refine cS.mono ?_; rintro e W' ⟨rfl, rfl⟩)
        go_roundg g'
        case measure => omega
        case rel => exact ⟨pos + K, hit2, hbw2, HL.out, by omega⟩
      · have HL := hid2 hleft
        clear hleft hsp hR hK hWd
        go_wp2_with (go_at_call 71; refine cS.mono ?_; rintro e W' ⟨rfl, rfl⟩)
        go_ret
        exact ⟨congrArg (fun z => Ending.returned (Value.int .i64 z)) HL.out, hbw2⟩
    · have hnx : ∀ ty, (Instr.next (.pointer (some ⟨w.heap.size, 0, none⟩)) true ty).run Tryz.prog wr = _ := fun ty => Lib.run_next_end_at wr w.heap.size s pos ty hit hps
      rw [Lib.idxFuncFrom_end badN true s gk pos hps] at hleft
      have HL := hid2 hleft
      clear hleft
      go_wp2_with fail
      go_ret
      exact ⟨congrArg (fun z => Ending.returned (Value.int .i64 z)) HL.out, hbw⟩
theorem idxFn_any (w : World) (s : ByteArray) : Calls Tryz.prog 90 #[.string s, .func (.func 71) #[] #[]] w fun e w' => e = .returned (.int .i64 (Lib.idxFunc badN true s)) ∧ Below w.heap.size w w' := by
  go_enter Tryz.func90, Tryz.ntmps90
  go_wp2_with (go_at_call 116; refine (idxfn_any _ _).mono ?_; rintro e w1 ⟨rfl, hb⟩)
  go_ret
  exact ⟨rfl, hb⟩
theorem contFn_any (w : World) (s : ByteArray) : Calls Tryz.prog 70 #[.string s, .func (.func 71) #[] #[]] w fun e w' => e = .returned (.bool (!(s.data.toList.all signB))) ∧ Below w.heap.size w w' := by
  rw [← idx_sign]
  obtain ⟨I, hI⟩ : ∃ I, I = Lib.idxFunc badN true s := ⟨_, rfl⟩
  rw [show Lib.idxFunc (fun r => !signN r) true s = I from hI.symm]
  have HI := hid2 hI
  clear hI
  go_enter Tryz.func70, Tryz.ntmps70
  go_wp2_with (go_at_call 90; refine (idxFn_any _ _).mono ?_; rintro e w1 ⟨rfl, hb⟩; rw [← HI.out])
  go_ret
  exact ⟨rfl, hb⟩
theorem partB_0 {l : List UInt8} (h : l = []) : partB l = false := by subst h; rfl
theorem partB_1 {l : List UInt8} (h : l = [46]) : partB l = false := by subst h; decide
theorem partB_2 {l : List UInt8} (h : l = [46, 46]) : partB l = false := by subst h; decide
theorem partB_64 {l : List UInt8} (h : ¬ l.length ≤ 64) : partB l = false := by simp [partB, h]
theorem partB_all {l : List UInt8} (h0 : ¬ l = []) (h1 : ¬ l = [46]) (h2 : ¬ l = [46, 46]) (h3 : l.length ≤ 64) : partB l = l.all signB := by
  have e0 : l.isEmpty = false := by cases l <;> simp_all
  have e1 : (l == [46]) = false := by simpa using h1
  have e2 : (l == [46, 46]) = false := by simpa using h2
  simp [partB, e0, e1, e2, h3]
theorem ret_bool {a b : Bool} (h : a = b) : Ending.returned (.bool a) = Ending.returned (.bool b) := by rw [h]
theorem part_any (w : World) (s : ByteArray) : Calls Tryz.prog 46 #[.string s] w fun e w' => e = .returned (.bool (partB s.data.toList)) ∧ Below w.heap.size w w' := by
  have hsz := hid2 (toList_length s)
  have hl := hid2 (ByteArray.toList_eq s)
  by_cases h64 : s.size ≤ 64
  · have h64' : (s.size : Int) ≤ 64 := by omega
    by_cases h0 : s.toList = []
    · rw [partB_0 (hl.out ▸ h0)]
      go_enter Tryz.func46, Tryz.ntmps46
      go_wp2_with fail
      go_ret
      exact ⟨rfl, Below.refl _ _⟩
    by_cases h1 : s.toList = [46]
    · rw [partB_1 (hl.out ▸ h1)]
      have e1 : (s.toList == [46]) = true := by rw [h1]; rfl
      have e0 : s.toList.isEmpty = false := by rw [h1]; rfl
      clear h0 h1
      go_enter Tryz.func46, Tryz.ntmps46
      go_wp2_with fail
      go_ret
      exact ⟨rfl, Below.refl _ _⟩
    by_cases h2 : s.toList = [46, 46]
    · rw [partB_2 (hl.out ▸ h2)]
      have e2 : (s.toList == [46, 46]) = true := by rw [h2]; rfl
      have e1 : (s.toList == [46]) = false := by rw [h2]; rfl
      have e0 : s.toList.isEmpty = false := by rw [h2]; rfl
      clear h0 h1 h2
      go_enter Tryz.func46, Tryz.ntmps46
      go_wp2_with fail
      go_ret
      exact ⟨rfl, Below.refl _ _⟩
    · rw [partB_all (hl.out ▸ h0) (hl.out ▸ h1) (hl.out ▸ h2) (by rw [hsz.out]; exact h64)]
      have e2 : (s.toList == [46, 46]) = false := by simpa using h2
      have e1 : (s.toList == [46]) = false := by simpa using h1
      have e0 : s.toList.isEmpty = false := by cases h : s.toList <;> simp_all
      clear h0 h1 h2
      obtain ⟨b, hb⟩ : ∃ b, b = s.data.toList.all signB := ⟨_, rfl⟩
      rw [← hb]
      have HB := hid2 hb
      clear hb
      go_enter Tryz.func46, Tryz.ntmps46
      go_wp2_with (go_at_call 70; refine (contFn_any _ _).mono ?_; rintro e w1 ⟨rfl, hb⟩; rw [← HB.out])
      go_ret
      exact ⟨by simp, hb⟩
  · rw [partB_64 (by rw [hsz.out]; exact h64)]
    have h64' : (64 : Int) < s.size := by omega
    go_enter Tryz.func46, Tryz.ntmps46
    go_wp2_with fail
    all_goals go_ret
    all_goals exact ⟨by simp, Below.refl _ _⟩
end Go.Proofs.YtjjpecggcjggpaaGreatDoor
/- A range over a function whose iterator keeps state of its own in a cell: a law of the walk. -/
namespace Go.Proofs.YtjjpecggcjggpaaGreatDoor
open Go.RowKit
variable {F : Fence} {n : Nat} {P : Program}

/-- how a round's body may be left: B is where the law's own two blocks lie -/
def roundC {α : Type} (B : Nat) (Kp : World → World → Prop) (I : List α → World → Prop) (Ix : Code → List α → World → Prop) (xs : List α) (W : World) : Exit → Act → World → Prop
  | .normal, _, W' => (W'.heap[B]? = W.heap[B]? ∧ W'.heap[B + 1]? = W.heap[B + 1]?) ∧ Kp W W' ∧ I xs W'
  | .ret, _, W' => (W'.heap[B]? = W.heap[B]? ∧ W'.heap[B + 1]? = W.heap[B + 1]?) ∧ Ix .ret xs W'
  | .exit id, _, W' => (W'.heap[B]? = W.heap[B]? ∧ W'.heap[B + 1]? = W.heap[B + 1]?) ∧ Ix (.exit id) xs W'
  | .goto t, _, W' => (W'.heap[B]? = W.heap[B]? ∧ W'.heap[B + 1]? = W.heap[B + 1]?) ∧ Ix (.goto t) xs W'
  | .panic _, _, _ => False
  | .outgrown, _, _ => False

/-- K: a step of the iterator's own; Kp: what a round that goes on keeps for the iterator -/
theorem wpIn_rangeFunc_c {α : Type} {g : Operand} {ps : Array Tmp} {assign body : Code} {Q : Exit → Act → World → Prop} {a : Act} {w : World}
    (hro : F.round = none) (h1 : 1 ≤ n) {gf : Nat} {lb : Array Value} (hg : a.eval g = .func (.func gf) #[] lb) (hFg : F.fn gf) (eg : ∀ args w, (callFunc gf args).run P w = .ok (.enter gf args) w)
    (enc : α → Value) (hps : ps.size = 1) (K Kp : World → World → Prop) (S Sp : List α → Prop)
    (hcall : ∀ (l : Nat) (J Jx : List α → World → Prop) (W : World), Below w.heap.size w W → (∀ s W1 W2, J s W1 → K W1 W2 → J s W2) →
      (∀ pre x W1, J pre W1 → YieldAt F (n - 1 - 1) P l #[enc x] W1 fun e W' => (e = .returned (.bool true) ∧ J (pre ++ [x]) W' ∧ Kp W1 W') ∨ (e = .returned (.bool false) ∧ Jx (pre ++ [x]) W')) →
      J [] W → CallsIn F (n - 1) P gf (#[.func (.yield l) #[] #[]] ++ lb) W fun e W' => (∃ v, e = .returned v) ∧ ((∃ xs, S xs ∧ J xs W') ∨ (∃ pre, Sp pre ∧ Jx pre W')))
    (hKk : ∀ W1 W2 k, K W1 W2 → w.heap.size ≤ k → W2.heap[k]? = W1.heap[k]?) (hKt : ∀ A B C, Kp A B → Kp B C → Kp A C) (hKb : ∀ W k o, w.heap.size ≤ k → Kp W (W.putObj k o))
    (I : List α → World → Prop) (Ix : Code → List α → World → Prop) (hIK : ∀ pre W1 W2, I pre W1 → K W1 W2 → I pre W2)
    (hI : ∀ pre W k o, I pre W → w.heap.size ≤ k → k < w.heap.size + 2 → I pre (W.putObj k o)) (hIx : ∀ c pre W k o, Ix c pre W → w.heap.size ≤ k → k < w.heap.size + 2 → Ix c pre (W.putObj k o))
    (h0 : ∀ o1 o2, I [] ((w.alloc o1).alloc o2)) (a₁ : α → Act)
    (hassign : ∀ (l : Nat) (x : α) (W : World) (K : Act → World → Prop), K (a₁ x) W →
      assign.wpIn (F.inRound l) (n - 1 - 1) P (Exit.then K (fun _ _ _ => False)) { tmps := (ps.zip #[enc x]).foldl (fun t (p, v) => t.setIfInBounds p v) a.tmps, defers := [] } W)
    (hbody : ∀ (l : Nat) (pre : List α) (x : α) (W : World), I pre W → body.wpIn (F.inRound l) (n - 1 - 1) P (roundC w.heap.size Kp I Ix (pre ++ [x]) W) (a₁ x) W)
    (hdone : ∀ (xs : List α) (W : World), S xs → I xs W → W.heap[w.heap.size]? = some (.deferred (some [])) → Q .normal { a with defers := { target := .collected w.heap.size, args := #[] } :: a.defers } W)
    (hstop : ∀ (c : Code) (pre : List α) (W : World), Sp pre → Ix c pre W → W.heap[w.heap.size]? = some (.deferred (some [])) → c.wpIn F n P Q { a with defers := { target := .collected w.heap.size, args := #[] } :: a.defers } W) :
    (Code.rangeFunc g ps assign body).wpIn F n P Q a w := by
  refine wpIn_rangeFunc ?_
  intro fn hfn
  rw [hro]
  obtain ⟨D, hD⟩ : ∃ D, D = w.heap.size := ⟨_, rfl⟩
  obtain ⟨rec, hrec⟩ : ∃ rec : LoopState → Option Code → Loop, rec = fun st pe => { state := st, pending := pe, fn, tmps := a.tmps, params := ps, assign, body, defers := w.heap.size } := ⟨_, rfl⟩
  -- the law's own two blocks
  let Bk : LoopState → Option Code → World → Prop := fun st pe W => W.heap[D + 1]? = some (.loop (rec st pe)) ∧ W.heap[D]? = some (.deferred (some []))
  obtain ⟨W1, hW1⟩ : ∃ W1, (w.alloc (.deferred (some []))).alloc (.loop (rec .ready none)) = W1 := ⟨_, rfl⟩
  have hB1 : Bk .ready none W1 := by
    rw [← hW1]
    refine ⟨?_, ?_⟩
    · have := World.alloc_heap_new (w.alloc (.deferred (some []))) (.loop (rec .ready none))
      rwa [World.size_alloc, ← hD] at this
    · rw [hD]; exact (Below.heap_alloc _ _ _ (by simp)).trans (World.alloc_heap_new w _)
  have hb1 : Below w.heap.size w W1 := by
    rw [← hW1]; exact ((Below.refl _ w).alloc (Nat.le_refl _) _).alloc (by simp) _
  have hI1 : I [] W1 := by rw [← hW1]; exact h0 _ _
  -- the record is turned, the other block stays
  have turn : ∀ {st pe W} (st' pe'), Bk st pe W → Bk st' pe' (W.putObj (D + 1) (.loop (rec st' pe'))) := fun st' pe' h =>
    ⟨World.putObj_heap_same (Array.getElem?_eq_some_iff.1 h.1).1, (World.putObj_heap_other (by omega)).trans h.2⟩
  have keep : ∀ {st pe W W'}, Bk st pe W → (W'.heap[D]? = W.heap[D]? ∧ W'.heap[D + 1]? = W.heap[D + 1]?) → Bk st pe W' := fun h k => ⟨k.2.trans h.1, k.1.trans h.2⟩
  refine ⟨w.heap.size + 1, [{ target := .collected w.heap.size, args := #[] }], W1, { target := .fn (.func gf) lb, args := #[.func (.yield (w.heap.size + 1)) #[] #[]] }, W1, gf,
    #[.func (.yield (w.heap.size + 1)) #[] #[]] ++ lb, W1, ?_, ?_, ?_, ?_, fun _ => h1, ?_⟩
  · rw [← hW1, hrec]; exact run_enterLoop_outer _ _ _ _ _
  · simp only [resolve, hg]
    simp [go_sem]
  · intro f' hf'; simp [Target.leads] at hf'; subst hf'; exact hFg
  · simp [invoke, go_sem, eg]
  rw [← hD] at hI hIx hKk hKb hbody hdone hstop ⊢
  refine (hcall (D + 1) (fun pre W => I pre W ∧ Bk .ready none W) (fun pre W => ∃ c, Ix c pre W ∧ Bk .done (some c) W) W1 hb1 ?_ ?_ ⟨hI1, hB1⟩).mono ?_
  · rintro s A C ⟨hi, hl, hk⟩ hK
    exact ⟨hIK _ _ _ hi hK, (hKk _ _ _ hK (by omega)).trans hl, (hKk _ _ _ hK (by omega)).trans hk⟩
  · -- one round
    rintro pre x W ⟨hi, hl, hk⟩
    have hy := run_yield (P := P) (args := #[enc x]) hl (by rw [hrec]; exact hps.symm)
    rw [hrec] at hy
    refine ⟨fn, _, assign, body, hy, roundIn_of_wpIn hfn (hassign _ x W _ ⟨_, run_beginRound hl (by rw [hrec]), ?_⟩)⟩
    have hbusy : Bk .busy none (W.putObj (D + 1) (.loop (rec .busy none))) := turn .busy none ⟨hl, hk⟩
    rw [show ({ rec .ready none with state := .busy } : Loop) = rec .busy none by rw [hrec]]
    refine wpIn_mono (hbody _ pre x _ (hI _ _ _ _ hi (by omega) (by omega))) ?_
    have fin : ∀ (jump : Option Code) (W3 : World), (W3.heap[D]? = (W.putObj (D + 1) (.loop (rec .busy none))).heap[D]? ∧ W3.heap[D + 1]? = (W.putObj (D + 1) (.loop (rec .busy none))).heap[D + 1]?) →
        (Instr.endRound (D + 1) jump).run P W3 = .ok (.bool jump.isNone) (W3.putObj (D + 1) (.loop (rec (if jump.isNone then .ready else .done) jump))) ∧ Bk (if jump.isNone then .ready else .done) jump (W3.putObj (D + 1) (.loop (rec (if jump.isNone then .ready else .done) jump))) := by
      intro jump W3 hk3
      have h3 := keep hbusy hk3
      have := run_endRound (P := P) jump h3.1
      rw [show ({ rec .busy none with state := if jump.isNone then .ready else .done, pending := jump } : Loop) = rec (if jump.isNone then .ready else .done) jump by rw [hrec]] at this
      exact ⟨this, turn _ _ h3⟩
    rintro e a3 W3 hp
    cases e with
    | normal =>
      obtain ⟨hk3, hkp3, hi3⟩ := hp
      obtain ⟨hr, hB⟩ := fin none W3 hk3
      exact ⟨_, _, hr, .inl ⟨rfl, ⟨hI _ _ _ _ hi3 (by omega) (by omega), hB⟩, hKt _ _ _ (hKt _ _ _ (hKb _ _ _ (by omega)) hkp3) (hKb _ _ _ (by omega))⟩⟩
    | ret =>
      obtain ⟨hk3, hi3⟩ := hp
      obtain ⟨hr, hB⟩ := fin (some .ret) W3 hk3
      exact ⟨_, _, hr, .inr ⟨rfl, .ret, hIx _ _ _ _ _ hi3 (by omega) (by omega), hB⟩⟩
    | exit id =>
      obtain ⟨hk3, hi3⟩ := hp
      obtain ⟨hr, hB⟩ := fin (some (.exit id)) W3 hk3
      exact ⟨_, _, hr, .inr ⟨rfl, .exit id, hIx _ _ _ _ _ hi3 (by omega) (by omega), hB⟩⟩
    | goto t =>
      obtain ⟨hk3, hi3⟩ := hp
      obtain ⟨hr, hB⟩ := fin (some (.goto t)) W3 hk3
      exact ⟨_, _, hr, .inr ⟨rfl, .goto t, hIx _ _ _ _ _ hi3 (by omega) (by omega), hB⟩⟩
    | panic ch => exact hp.elim
    | outgrown => exact hp.elim
  · -- behind the iterator
    rintro e W2 ⟨⟨v, rfl⟩, (⟨xs, hS, hi, hl, hk⟩ | ⟨pre, hSp, c, hi, hl, hk⟩)⟩
    · exact ⟨none, _, by have := run_endLoop (P := P) hl (by rw [hrec]; simp); rw [hrec] at this; exact this, hdone xs _ hS (hI _ _ _ _ hi (by omega) (by omega)) ((World.putObj_heap_other (by omega)).trans hk)⟩
    · exact ⟨some c, _, by have := run_endLoop (P := P) hl (by rw [hrec]; simp); rw [hrec] at this; exact this, hstop c pre _ hSp (hIx _ _ _ _ _ hi (by omega) (by omega)) ((World.putObj_heap_other (by omega)).trans hk)⟩
end Go.Proofs.YtjjpecggcjggpaaGreatDoor
/- The walks of SplitSeq at a stroke, and of May. -/
namespace Go.Proofs.YtjjpecggcjggpaaGreatDoor
open Go.RowKit
attribute [local go_sem] Oper.semAt_some
theorem index_self_stroke : Lib.indexByte [47] 47 = 0 := by decide
set_option maxRecDepth 100000 in
theorem sindex_any (w : World) (s : ByteArray) : Calls Tryz.prog 113 #[.string s, .string ⟨#[47]⟩] w fun e w' => e = .returned (.int .i64 (Lib.indexByte s.data.toList 47)) ∧ w' = w := by
  by_cases h : s.toList = [47]
  · have hi : Lib.indexByte s.data.toList 47 = 0 := by rw [← ByteArray.toList_eq, h]; decide
    rw [hi]
    have e1 : (s.toList == [47]) = true := by rw [h]; rfl
    have e2 : ([47] == s.toList) = true := by rw [h]; rfl
    clear h hi
    go_enter Tryz.func113, Tryz.ntmps113
    go_wp2_with fail
    go_ret
    exact ⟨rfl, rfl⟩
  · have e1 : (s.toList == [47]) = false := by simpa using h
    have e2 : ([47] == s.toList) = false := by simpa using fun e => h e.symm
    clear h
    go_enter Tryz.func113, Tryz.ntmps113
    go_wp2_with (go_at_call 117; refine (sbyte_any _ _ _).mono ?_; rintro e w2 ⟨rfl, rfl⟩)
    all_goals go_ret
    all_goals exact ⟨rfl, rfl⟩
theorem index_any (w : World) (s : ByteArray) : Calls Tryz.prog 85 #[.string s, .string ⟨#[47]⟩] w fun e w' => e = .returned (.int .i64 (Lib.indexByte s.data.toList 47)) ∧ w' = w := by
  go_enter Tryz.func85, Tryz.ntmps85
  go_wp2_with (first | (go_at_call 113; refine (sindex_any _ _).mono ?_; rintro e w2 ⟨rfl, rfl⟩))
  go_ret
  exact ⟨rfl, rfl⟩
/-- the world behind SplitSeq: three boxes -/
def splitW (w : World) (s : ByteArray) : World := ((w.alloc (.cells #[.string s] 9)).alloc (.cells #[.string ⟨#[47]⟩] 9)).alloc (.cells #[.int .i64 0] 3)
theorem splitseq_any (w : World) (s : ByteArray) : Calls Tryz.prog 45 #[.string s, .string ⟨#[47]⟩] w fun e w' => e = .returned (.func (.func 88) #[] #[.pointer (some ⟨w.heap.size + 1, 0, none⟩), .pointer (some ⟨w.heap.size, 0, none⟩), .pointer (some ⟨w.heap.size + 1 + 1, 0, none⟩)]) ∧ w' = splitW w s := by
  go_enter Tryz.func45, Tryz.ntmps45
  go_wp2
  go_ret
  exact ⟨rfl, rfl⟩
theorem uwide_fn (f : FuncId) : Fence.wide.fn f := trivial
/-- how much is left -/
def leftS (Bs : Nat) (w : World) : Nat := match w.heap[Bs]? with | some (.cells #[.string s] _ _) => s.size | _ => 0
theorem leftS_eq {Bs : Nat} {w : World} {s : ByteArray} {t : TypeId} {fr : Nat × Nat} (h : w.heap[Bs]? = some (.cells #[.string s] t fr)) : leftS Bs w = s.size := by unfold leftS; rw [h]; rfl
theorem setCell_row {w : World} {B : Nat} {v u : Value} {t : TypeId} (h : w.heap[B]? = some (.cells #[v] t (0, 0))) : (w.setCell ⟨B, 0, none⟩ u).heap[B]? = some (.cells #[u] t (0, 0)) := by
  have := setCell_eq_setRow w B 0 #[v] t (0, 0) u h
  rw [this]
  exact setRow_heap w B _ _ t _ h
theorem setCell_other {w : World} {B k : Nat} (u : Value) (hk : k ≠ B) : (w.setCell ⟨B, 0, none⟩ u).heap[k]? = w.heap[k]? := Below.heap_setCell w ⟨B, 0, none⟩ u k hk
theorem cell_of_one' {w : World} {B : Nat} {v : Value} {t : TypeId} (h : w.heap[B]? = some (.cells #[v] t (0, 0))) : w.cell? ⟨B, 0, none⟩ = some v := (cell_of_row w B 0 _ _ _ h).trans rfl
theorem free_of_one' {w : World} {B : Nat} {v : Value} {t : TypeId} (h : w.heap[B]? = some (.cells #[v] t (0, 0))) : w.frozen? ⟨B, 0, none⟩ = false := by simp [World.frozen?, h]
theorem stroke_at (l : List UInt8) : (Lib.indexByte l 47 = -1 ∧ 47 ∉ l) ∨ ∃ a b, l = a ++ 47 :: b ∧ 47 ∉ a ∧ Lib.indexByte l 47 = a.length := by
  rcases Int.lt_or_le (Lib.indexByte l 47) 0 with h | h
  · have h1 : Lib.indexByte l 47 = -1 := by have := Lib.indexByte_ge l 47; omega
    refine .inl ⟨h1, fun hm => ?_⟩
    obtain ⟨k, hk⟩ := List.getElem?_of_mem hm
    exact Lib.indexByte_none h1 k hk
  · obtain ⟨k, hk⟩ : ∃ k : Nat, Lib.indexByte l 47 = k := ⟨(Lib.indexByte l 47).toNat, by omega⟩
    obtain ⟨h1, h2⟩ := Lib.indexByte_some hk
    have hkl : k < l.length := (List.getElem?_eq_some_iff.1 h1).1
    refine .inr ⟨l.take k, l.drop (k + 1), ?_, ?_, ?_⟩
    · have : l[k] = 47 := by simpa [hkl] using h1
      rw [← this, ← List.drop_eq_getElem_cons hkl, List.take_append_drop]
    · intro hm
      obtain ⟨i, hi⟩ := List.getElem?_of_mem hm
      rw [List.getElem?_take] at hi
      split at hi
      · exact h2 i (by assumption) hi
      · cases hi
    · rw [hk, List.length_take]; omega
set_option maxHeartbeats 1000000 in
set_option maxRecDepth 100000 in
/-- the iterator: each part in turn, till a round says 'no more' -/
theorem split_in (n l Bp Bs Bn : Nat) (hn1 : 1 ≤ n) (s : List UInt8) (hsl : s.length ≤ 1000000) (hne : Bp ≠ Bs) (hne2 : Bn ≠ Bs) (J Jx : List (List UInt8) → World → Prop)
    (hJ : ∀ pre W v, J pre W → J pre (W.setCell ⟨Bs, 0, none⟩ v))
    (hY : ∀ pre x W, J pre W → YieldAt Fence.wide (n - 1) Tryz.prog l #[.string (strB x)] W fun e W' =>
      (e = .returned (.bool true) ∧ J (pre ++ [x]) W' ∧ (∀ k, k = Bp ∨ k = Bs ∨ k = Bn → W'.heap[k]? = W.heap[k]?)) ∨ (e = .returned (.bool false) ∧ Jx (pre ++ [x]) W'))
    (W : World) (hp : W.heap[Bp]? = some (.cells #[.string ⟨#[47]⟩] 9 (0, 0))) (hs : W.heap[Bs]? = some (.cells #[.string (strB s)] 9 (0, 0))) (hn : W.heap[Bn]? = some (.cells #[.int .i64 0] 3 (0, 0))) (h0 : J [] W) :
    CallsIn Fence.wide n Tryz.prog 88 #[.func (.yield l) #[] #[], .pointer (some ⟨Bp, 0, none⟩), .pointer (some ⟨Bs, 0, none⟩), .pointer (some ⟨Bn, 0, none⟩)] W fun e W' =>
      (∃ v, e = .returned v) ∧ (J (splitL s) W' ∨ ∃ pre, pre <+: splitL s ∧ Jx pre W') := by
  refine callsIn_of_wp Tryz.func88 rfl trivial ?_ rfl
  simp only [Tryz.ntmps88, List.size_toArray, List.length_cons, List.length_nil, Nat.reduceAdd, Nat.reduceSub, Array.replicate_succ, Array.replicate_zero, List.push_toArray, List.append_toArray, List.nil_append, List.cons_append]
  have cp := cell_of_one' hp
  gi_wp2_with fail
  gi_loopw [] (fun wr => ∃ pre rest, rest.length ≤ s.length ∧ splitL s = pre ++ splitL rest ∧ wr.heap[Bp]? = some (.cells #[.string ⟨#[47]⟩] 9 (0, 0)) ∧ wr.heap[Bs]? = some (.cells #[.string (strB rest)] 9 (0, 0)) ∧ wr.heap[Bn]? = some (.cells #[.int .i64 0] 3 (0, 0)) ∧ J pre wr) (fun wr => leftS Bs wr)
  case atStart => exact ⟨[], s, Nat.le_refl _, rfl, hp, hs, hn, h0⟩
  case round =>
    obtain ⟨pre, rest, hrl, hpre, hp, hs, hn, hJp⟩ := hrel
    have hmeas := leftS_eq hs
    have cp := cell_of_one' hp
    have cs := cell_of_one' hs
    have cn := cell_of_one' hn
    have fs := free_of_one' hs
    have hf := uwide_fn 85
    rcases stroke_at rest with ⟨hi, h47⟩ | ⟨a, b, hrest, ha, hi⟩
    · have cI : ∀ w, CallsIn Fence.wide (n - 1) Tryz.prog 85 #[.string (strB rest), .string ⟨#[47]⟩] w fun e w' => e = .returned (.int .i64 (-1)) ∧ w' = w := fun w => by
        have := callsIn_wide (n := n - 1).2 (index_any w (strB rest))
        rw [strB_list, hi] at this
        exact this
      have hsp := splitL_pure h47
      obtain ⟨fn, tmps, assign, body, hy, hR⟩ := hY pre rest wr hJp
      obtain ⟨R, hRR⟩ : ∃ R, R = strB rest := ⟨_, rfl⟩
      rw [← hRR] at cs cI hy
      have HPRE := hid2 hpre
      have HSP := hid2 hsp
      clear hi h47 hRR hp hs hn hpre hsp hmeas
      gi_wp2_with (gi_at_call 85; refine (cI _).mono ?_; rintro e w' ⟨rfl, rfl⟩)
      refine hR.mono ?_
      rintro e W3 (⟨rfl, hJ3, _⟩ | ⟨rfl, hJx3⟩)
      · gi_wp2_with fail
        go_end0
        exact ⟨⟨_, rfl⟩, .inl (by rw [HPRE.out, HSP.out]; exact hJ3)⟩
      · gi_wp2_with fail
        go_end0
        exact ⟨⟨_, rfl⟩, .inr ⟨pre ++ [rest], by rw [HPRE.out, HSP.out]; exact List.prefix_refl _, hJx3⟩⟩
    · have cI : ∀ w, CallsIn Fence.wide (n - 1) Tryz.prog 85 #[.string (strB rest), .string ⟨#[47]⟩] w fun e w' => e = .returned (.int .i64 a.length) ∧ w' = w := fun w => by
        have := callsIn_wide (n := n - 1).2 (index_any w (strB rest))
        rw [strB_list, hi] at this
        exact this
      have hsp : splitL rest = a :: splitL b := by rw [hrest, splitL_append, splitL_pure ha]; rfl
      obtain ⟨fn, tmps, assign, body, hy, hR⟩ := hY pre a wr hJp
      have hsz : (strB rest).size = a.length + 1 + b.length := by rw [strB_size, hrest]; simp; omega
      have hbig : (strB rest).size ≤ 1000000 := by rw [strB_size]; omega
      have hbl : b.length ≤ s.length := by rw [strB_size] at hsz; omega
      have hx1 : (strB rest).extract 0 a.length = strB a := strB_eq (by rw [extract_list, strB_list, hrest]; simp)
      have hx2 : (strB rest).extract (a.length + 1) (strB rest).size = strB b := strB_eq (by rw [hsz, extract_list, strB_list, hrest]; simp)
      obtain ⟨k, hk⟩ : ∃ k, k = a.length := ⟨_, rfl⟩
      rw [← hk] at cI hx1 hx2 hsz
      obtain ⟨R, hRR⟩ : ∃ R, R = strB rest := ⟨_, rfl⟩
      rw [← hRR] at cs cI hx1 hx2 hsz hbig hmeas
      obtain ⟨Fr, hFr⟩ : ∃ Fr, Fr = strB a := ⟨_, rfl⟩
      rw [← hFr] at hy hx1
      obtain ⟨Nx, hNx⟩ : ∃ Nx, Nx = strB b := ⟨_, rfl⟩
      rw [← hNx] at hx2
      have hNs : Nx.size = b.length := by rw [hNx, strB_size]
      have HPRE := hid2 hpre
      have HSP := hid2 hsp
      have HNX := hid2 hNx
      have HRR := hid2 hRR
      have HP := hid2 hp
      have HS := hid2 hs
      have HN := hid2 hn
      have hkR : (k : Int) ≤ R.size := by omega
      have hkR1 : (k : Int) + 1 ≤ R.size := by omega
      have HSZ := hid2 hsz
      have HME := hid2 hmeas
      have HNS := hid2 hNs
      clear hi ha hRR hp hs hn hpre hsp hFr hNx hrest hk hsz hmeas hNs
      gi_wp2_with (gi_at_call 85; refine (cI _).mono ?_; rintro e w' ⟨rfl, rfl⟩)
      refine hR.mono ?_
      clear hR hy
      rintro e W3 (⟨rfl, hJ3, hk3⟩ | ⟨rfl, hJx3⟩)
      · have hp3 := (hk3 Bp (.inl rfl)).trans HP.out
        have hs3 := (hk3 Bs (.inr (.inl rfl))).trans HS.out
        have hn3 := (hk3 Bn (.inr (.inr rfl))).trans HN.out
        rw [← HRR.out] at hs3
        have cp3 := cell_of_one' hp3
        have cs3 := cell_of_one' hs3
        have cn3 := cell_of_one' hn3
        have fs3 := free_of_one' hs3
        have hJ4 := hJ _ _ (.string Nx) hJ3
        have hp4 := (setCell_other (w := W3) (.string Nx) hne).trans hp3
        have hs4 := setCell_row (u := .string Nx) hs3
        have hn4 := (setCell_other (w := W3) (.string Nx) hne2).trans hn3
        have HP4 := hid2 hp4
        have HS4 := hid2 hs4
        have HN4 := hid2 hn4
        clear hk3 hp3 hs3 hn3 hp4 hs4 hn4 cs cp cn fs HP HS HN hJp hJ3
        gi_wp2_with fail
        go_roundw
        case rel =>
          refine ⟨pre ++ [a], b, hbl, ?_, HP4.out, ?_, HN4.out, hJ4⟩
          · rw [HPRE.out, HSP.out]; simp
          · rw [← HNX.out]; exact HS4.out
        case measure =>
          rw [leftS_eq HS4.out, HNS.out, HME.out, HSZ.out]
          omega
      · gi_wp2_with fail
        refine bodyPost_ret (results_none rfl _ _ _) rfl ?_
        exact ⟨⟨_, rfl⟩, .inr ⟨pre ++ [a], by rw [HPRE.out, HSP.out]; exact ⟨splitL b, by simp⟩, hJx3⟩⟩
end Go.Proofs.YtjjpecggcjggpaaGreatDoor
/- The walk of May. -/
namespace Go.Proofs.YtjjpecggcjggpaaGreatDoor
open Go.RowKit
attribute [local go_sem] Oper.semAt_some
/-- between two rounds -/
def MayI (H : Nat) (w : World) (pre : List (List UInt8)) (W : World) : Prop :=
  W.heap[H]? = some (.cells #[.bool false] 4 (0, 0)) ∧ W.heap[H + 1]? = some (.cells #[.int .i64 pre.length] 3 (0, 0)) ∧ Below H w W ∧ H + 5 + 2 ≤ W.heap.size ∧ pre.all partB = true ∧ pre.length ≤ 16
/-- a round has left -/
def MayX (H : Nat) (w : World) (c : Code) (pre : List (List UInt8)) (W : World) : Prop :=
  c = .ret ∧ W.heap[H]? = some (.cells #[.bool false] 4 (0, 0)) ∧ Below H w W ∧ (pre.all partB && decide (pre.length ≤ 16)) = false
theorem mayB_prefix {pre ps : List (List UInt8)} (h : pre <+: ps) (hx : (pre.all partB && decide (pre.length ≤ 16)) = false) : (ps.all partB && decide (ps.length ≤ 16)) = false := by
  obtain ⟨t, rfl⟩ := h
  rw [List.all_append, List.length_append]
  simp only [Bool.and_eq_false_iff, decide_eq_false_iff_not] at hx ⊢
  rcases hx with h | h
  · exact .inl (.inl h)
  · exact .inr (by omega)
theorem may_round {H : Nat} {w W w1 : World} {pre : List (List UInt8)} {v : Value} (i : MayI H w pre W) (hH : H ≤ w.heap.size) (hb : Below (W.setCell ⟨H + 1, 0, none⟩ v).heap.size (W.setCell ⟨H + 1, 0, none⟩ v) w1) :
    w1.heap[H]? = some (.cells #[.bool false] 4 (0, 0)) ∧ w1.heap[H + 1]? = some (.cells #[v] 3 (0, 0)) ∧ Below H w w1 ∧ H + 5 + 2 ≤ w1.heap.size ∧ ∀ k, k ≠ H + 1 → k < H + 5 + 2 → w1.heap[k]? = W.heap[k]? := by
  obtain ⟨i0, i1, ib, iz, _, _⟩ := i
  rw [World.size_setCell] at hb
  have hz := hb.size
  rw [World.size_setCell] at hz
  refine ⟨(hb.block _ (by omega)).trans ((setCell_other v (by omega)).trans i0), (hb.block _ (by omega)).trans (setCell_row i1), ?_, by omega, fun k hk hlt => (hb.block _ (by omega)).trans (setCell_other v hk)⟩
  exact (ib.setCell (p := ⟨H + 1, 0, none⟩) (by show H ≤ H + 1; omega) v).trans (hb.mono (by omega))
set_option maxHeartbeats 1000000 in
set_option maxRecDepth 100000 in
theorem may_any (w : World) (s : ByteArray) (hs : s.size ≤ 1000000) : Calls Tryz.prog 23 #[.string s] w fun e w' => e = .returned (.bool (mayB s.data.toList)) ∧ Below w.heap.size w w' := by
  refine (callsIn_wide (n := 5)).1 ?_
  refine callsIn_of_wp_marks Tryz.func23 rfl trivial ?_ rfl
  simp only [Tryz.ntmps23, List.size_toArray, List.length_cons, List.length_nil, Nat.reduceAdd, Nat.reduceSub, Array.replicate_succ, Array.replicate_zero, List.push_toArray, List.append_toArray, List.nil_append, List.cons_append]
  have hf := uwide_fn 45
  gi_wp2_with (gi_at_call 45; refine (callsIn_wide.2 (splitseq_any _ _)).mono ?_; rintro e w' ⟨rfl, rfl⟩)
  obtain ⟨H, hH⟩ : ∃ H, H = w.heap.size := ⟨_, rfl⟩
  obtain ⟨W0, hW0⟩ : ∃ W0, W0 = splitW ((w.alloc (.cells #[.bool false] 4)).alloc (.cells #[.int .i64 0] 3)) s := ⟨_, rfl⟩
  have z0 : W0.heap.size = H + 5 := by rw [hW0, hH]; simp [splitW]
  have b0 : Below H w W0 := by
    rw [hW0, hH, splitW]
    exact (((((Below.refl _ _).alloc (Nat.le_refl _) _).alloc (by simp) _).alloc (by simp <;> omega) _).alloc (by simp <;> omega) _).alloc (by simp <;> omega) _
  have r0 : W0.heap[H]? = some (.cells #[.bool false] 4 (0, 0)) := by
    rw [hW0, hH, splitW, Below.heap_alloc _ _ _ (by simp <;> omega), Below.heap_alloc _ _ _ (by simp <;> omega), Below.heap_alloc _ _ _ (by simp <;> omega), Below.heap_alloc _ _ _ (by simp)]
    exact heap_alloc_new w _
  have r1 : W0.heap[H + 1]? = some (.cells #[.int .i64 0] 3 (0, 0)) := by
    rw [hW0, hH, splitW, Below.heap_alloc _ _ _ (by simp <;> omega), Below.heap_alloc _ _ _ (by simp <;> omega), Below.heap_alloc _ _ _ (by simp)]
    have := heap_alloc_new (w.alloc (.cells #[.bool false] 4)) (.cells #[.int .i64 0] 3)
    rwa [World.size_alloc] at this
  have r2 : W0.heap[H + 1 + 1]? = some (.cells #[.string s] 9 (0, 0)) := by
    rw [hW0, hH, splitW, Below.heap_alloc _ _ _ (by simp <;> omega), Below.heap_alloc _ _ _ (by simp)]
    have := heap_alloc_new ((w.alloc (.cells #[.bool false] 4)).alloc (.cells #[.int .i64 0] 3)) (.cells #[.string s] 9)
    rwa [World.size_alloc, World.size_alloc] at this
  have r3 : W0.heap[H + 1 + 1 + 1]? = some (.cells #[.string ⟨#[47]⟩] 9 (0, 0)) := by
    rw [hW0, hH, splitW, Below.heap_alloc _ _ _ (by simp)]
    have := heap_alloc_new (((w.alloc (.cells #[.bool false] 4)).alloc (.cells #[.int .i64 0] 3)).alloc (.cells #[.string s] 9)) (.cells #[.string ⟨#[47]⟩] 9)
    rwa [World.size_alloc, World.size_alloc, World.size_alloc] at this
  have r4 : W0.heap[H + 1 + 1 + 1 + 1]? = some (.cells #[.int .i64 0] 3 (0, 0)) := by
    rw [hW0, hH, splitW]
    have := heap_alloc_new ((((w.alloc (.cells #[.bool false] 4)).alloc (.cells #[.int .i64 0] 3)).alloc (.cells #[.string s] 9)).alloc (.cells #[.string ⟨#[47]⟩] 9)) (.cells #[.int .i64 0] 3)
    rwa [World.size_alloc, World.size_alloc, World.size_alloc, World.size_alloc] at this
  rw [← hW0, ← hH]
  have HH := hid2 hH
  clear hW0 hH
  refine wpIn_rangeFunc_c rfl (by omega) (gf := 88) (lb := #[.pointer (some ⟨H + 1 + 1 + 1, 0, none⟩), .pointer (some ⟨H + 1 + 1, 0, none⟩), .pointer (some ⟨H + 1 + 1 + 1 + 1, 0, none⟩)]) rfl trivial (enters_of Tryz.func88 (by kernel_rfl) rfl)
    (fun x : List UInt8 => Value.string (strB x)) rfl (fun W1 W2 => ∃ v, W2 = W1.setCell ⟨H + 1 + 1, 0, none⟩ v) (fun W W' => ∀ k, k = H + 1 + 1 + 1 ∨ k = H + 1 + 1 ∨ k = H + 1 + 1 + 1 + 1 → W'.heap[k]? = W.heap[k]?)
    (fun xs => xs = splitL s.data.toList) (fun pre => pre <+: splitL s.data.toList) ?call ?kk (fun A B C h1 h2 k hk => (h2 k hk).trans (h1 k hk)) (fun W k o hk j hj => World.putObj_heap_other (by omega))
    (MayI H w) (MayX H w) ?ik ?ip ?xp ?h0
    (fun x => { tmps := #[.string s, undef, .pointer (some ⟨H, 0, none⟩), .pointer (some ⟨H + 1, 0, none⟩), .string (strB x), .string s, .func (.func 88) #[] #[.pointer (some ⟨H + 1 + 1 + 1, 0, none⟩), .pointer (some ⟨H + 1 + 1, 0, none⟩), .pointer (some ⟨H + 1 + 1 + 1 + 1, 0, none⟩)], .string (strB x), undef, undef, undef, undef, undef, undef, undef, undef, undef], defers := [] }) ?assign ?body ?done ?stop
  case call =>
    intro l J Jx W hbW hJ hY hJ0
    refine (split_in 4 l (H + 1 + 1 + 1) (H + 1 + 1) (H + 1 + 1 + 1 + 1) (by omega) s.data.toList (by rw [toList_length]; exact hs) (by omega) (by omega) J Jx (fun pre W v h => hJ _ _ _ h ⟨v, rfl⟩) hY W ((hbW.block _ (by omega)).trans r3) ?_ ((hbW.block _ (by omega)).trans r4) hJ0).mono ?_
    · rw [strB_of]; exact (hbW.block _ (by omega)).trans r2
    · rintro e W2 ⟨hv, hJ2 | ⟨pre, hp, hx⟩⟩
      · exact ⟨hv, .inl ⟨_, rfl, hJ2⟩⟩
      · exact ⟨hv, .inr ⟨pre, hp, hx⟩⟩
  case kk =>
    rintro W1 W2 k ⟨v, rfl⟩ hk
    exact setCell_other v (by omega)
  case ik =>
    rintro pre W1 W2 ⟨i0, i1, ib, iz, ia, il⟩ ⟨v, rfl⟩
    exact ⟨(setCell_other v (by omega)).trans i0, (setCell_other v (by omega)).trans i1, ib.setCell (p := ⟨H + 1 + 1, 0, none⟩) (by show H ≤ H + 1 + 1; omega) v, by rw [World.size_setCell]; exact iz, ia, il⟩
  case ip =>
    rintro pre W k o ⟨i0, i1, ib, iz, ia, il⟩ h1 h2
    exact ⟨(World.putObj_heap_other (by omega)).trans i0, (World.putObj_heap_other (by omega)).trans i1, ib.grown (grownBy_putObj' W k o) (by have := ib.size; have := HH.out; omega) (fun j e => by cases e; omega), by rw [World.putObj_size]; exact iz, ia, il⟩
  case xp =>
    rintro c pre W k o ⟨i0, i1, ib, ix⟩ h1 h2
    exact ⟨i0, (World.putObj_heap_other (by omega)).trans i1, ib.grown (grownBy_putObj' W k o) (by have := ib.size; have := HH.out; omega) (fun j e => by cases e; omega), ix⟩
  case h0 =>
    intro o1 o2
    exact ⟨by rw [Below.heap_alloc _ _ _ (by simp <;> omega), Below.heap_alloc _ _ _ (by omega)]; exact r0, by rw [Below.heap_alloc _ _ _ (by simp <;> omega), Below.heap_alloc _ _ _ (by omega)]; exact r1, (b0.alloc (by omega) _).alloc (by simp <;> omega) _, by simp; omega, rfl, by simp⟩
  case assign =>
    intro l x W K hK
    gi_wp2
    exact hK
  case body =>
    intro l pre x W hi
    have HI := hid2 hi
    obtain ⟨i0, i1, ib, iz, ia, il⟩ := hi
    have c0 := cell_of_one' i0
    have f0 := free_of_one' i0
    have c1 := cell_of_one' i1
    have f1 := free_of_one' i1
    have hlen : (pre.length : Int) ≤ 16 := by omega
    have hf2 := uwide_fn 46
    have IA := hid2 ia
    have IL := hid2 il
    have I0 := hid2 i0
    have I1 := hid2 i1
    have Z0 := hid2 z0
    clear ia il i0 i1 r0 r1 r2 r3 r4 hs z0
    by_cases h16 : pre.length = 16
    · have h16' : (16 : Int) < (pre.length : Int) + 1 := by omega
      have H16 := hid2 h16
      clear h16
      have hr := may_round (v := .int .i64 ((pre.length : Int) + 1)) HI.out (by rw [HH.out]; exact Nat.le_refl _) (Below.refl _ _)
      obtain ⟨q0, q1, qb, qz, qk⟩ := hr
      have k0 := cell_of_one' q0
      have k1 := free_of_one' q0
      have Q0 := hid2 q0
      have QK := hid2 qk
      clear q0 q1 qk c0 f0
      gi_wp2_with fail
      refine ⟨⟨?_, ?_⟩, rfl, setCell_row Q0.out, qb.setCell (p := ⟨H, 0, none⟩) (Nat.le_refl _) _, ?_⟩
      · rw [Z0.out]; exact (setCell_other _ (by omega)).trans (QK.out _ (by omega) (by omega))
      · rw [Z0.out]; exact (setCell_other _ (by omega)).trans (QK.out _ (by omega) (by omega))
      · rw [List.length_append, H16.out]; simp
    · have h16' : (pre.length : Int) + 1 ≤ 16 := by omega
      have H16 := hid2 h16
      clear h16 c0 f0
      by_cases hx : partB x = true
      · have hpc : ∀ w, Calls Tryz.prog 46 #[.string (strB x)] w fun e w' => e = .returned (.bool true) ∧ Below w.heap.size w w' := fun w => by
          have := part_any w (strB x)
          rw [strB_list, hx] at this
          exact this
        have HX := hid2 hx
        clear hx
        gi_wp2_with (gi_at_call 46; refine (CallsIn.inRound l (callsIn_wide.2 (hpc _))).mono ?_; rintro e w1 ⟨rfl, hb⟩; have hr := may_round HI.out (by rw [HH.out]; exact Nat.le_refl _) hb; obtain ⟨q0, q1, qb, qz, qk⟩ := hr; have Q0 := hid2 q0; have Q1 := hid2 q1; have QK := hid2 qk; clear q0 q1 qk hb)
        refine ⟨⟨?_, ?_⟩, fun k hk => QK.out k (by omega) (by omega), Q0.out, ?_, qb, qz, ?_, ?_⟩
        · rw [Z0.out]; exact QK.out _ (by omega) (by omega)
        · rw [Z0.out]; exact QK.out _ (by omega) (by omega)
        · rw [Q1.out, List.length_append]; simp
        · rw [List.all_append, IA.out]; simp [HX.out]
        · have := IL.out; have := H16.out; rw [List.length_append, List.length_singleton]; omega
      · have hx' : partB x = false := by simpa using hx
        have hpc : ∀ w, Calls Tryz.prog 46 #[.string (strB x)] w fun e w' => e = .returned (.bool false) ∧ Below w.heap.size w w' := fun w => by
          have := part_any w (strB x)
          rw [strB_list, hx'] at this
          exact this
        have HX := hid2 hx'
        clear hx hx'
        gi_wp2_with (gi_at_call 46; refine (CallsIn.inRound l (callsIn_wide.2 (hpc _))).mono ?_; rintro e w1 ⟨rfl, hb⟩; have hr := may_round HI.out (by rw [HH.out]; exact Nat.le_refl _) hb; obtain ⟨q0, q1, qb, qz, qk⟩ := hr; have k0 := cell_of_one' q0; have k1 := free_of_one' q0; have Q0 := hid2 q0; have QK := hid2 qk; clear q0 q1 qk hb)
        refine ⟨⟨?_, ?_⟩, rfl, setCell_row Q0.out, qb.setCell (p := ⟨H, 0, none⟩) (Nat.le_refl _) _, ?_⟩
        · rw [Z0.out]; exact (setCell_other _ (by omega)).trans (QK.out _ (by omega) (by omega))
        · rw [Z0.out]; exact (setCell_other _ (by omega)).trans (QK.out _ (by omega) (by omega))
        · rw [List.all_append]; simp [HX.out]
  case done =>
    rintro xs W rfl ⟨i0, i1, ib, iz, ia, il⟩ hK
    have c0 := cell_of_one' i0
    have f0 := free_of_one' i0
    have I0 := hid2 i0
    have Z0 := hid2 z0
    have HK := hid2 hK
    have IA := hid2 ia
    have IL := hid2 il
    clear i0 i1 ia il hK r0 r1 r2 r3 r4 z0
    gi_wp2_with fail
    have hK2 : (W.setCell ⟨H, 0, none⟩ (.bool true)).heap[W0.heap.size]? = some (.deferred (some [])) := (setCell_other _ (by rw [Z0.out]; omega)).trans HK.out
    have hR2 : (W.setCell ⟨H, 0, none⟩ (.bool true)).heap[H]? = some (.cells #[.bool true] 4 (0, 0)) := setCell_row I0.out
    have ib2 : Below H w (W.setCell ⟨H, 0, none⟩ (.bool true)) := ib.setCell (p := ⟨H, 0, none⟩) (Nat.le_refl _) _
    refine ⟨by simp, .inl ⟨_, _, rfl, run_takeDeferred hK2, ?_⟩⟩
    have hc5 := cell_of_one' ((World.putObj_heap_other (o := .deferred none) (show H ≠ W0.heap.size by rw [Z0.out]; omega)).trans hR2)
    refine ⟨.bool true, ?_, ?_, ?_⟩
    · simp [results, Tryz.f23, go_sem, hc5]
    · rw [mayB, IA.out]; simp [IL.out]
    · rw [← HH.out]; exact ib2.grown (grownBy_putObj' _ _ _) (by have := ib2.size; have := HH.out; omega) (fun j e => by cases e; rw [Z0.out]; omega)
  case stop =>
    rintro c pre W hpre ⟨rfl, i0, ib, ix⟩ hK
    have I0 := hid2 i0
    have Z0 := hid2 z0
    have HK := hid2 hK
    have IX := hid2 ix
    clear i0 ix hK r0 r1 r2 r3 r4 z0
    gi_wp2_with fail
    refine ⟨by simp, .inl ⟨_, _, rfl, run_takeDeferred HK.out, ?_⟩⟩
    have hc5 := cell_of_one' ((World.putObj_heap_other (o := .deferred none) (show H ≠ W0.heap.size by rw [Z0.out]; omega)).trans I0.out)
    refine ⟨.bool false, ?_, ?_, ?_⟩
    · simp [results, Tryz.f23, go_sem, hc5]
    · rw [mayB, mayB_prefix hpre IX.out]
    · rw [← HH.out]; exact ib.grown (grownBy_putObj' _ _ _) (by have := ib.size; have := HH.out; omega) (fun j e => by cases e; rw [Z0.out]; omega)
end Go.Proofs.YtjjpecggcjggpaaGreatDoor
/- The walk of globs.plain. -/
namespace Go.Proofs.YtjjpecggcjggpaaGreatDoor
open Go.RowKit
set_option maxRecDepth 100000
theorem gplain_any (w : World) (c : UInt8) : Calls Tryz.prog 74 #[.int .u8 c.toNat] w fun e w' => e = .returned (.bool (plainG c)) ∧ Below w.heap.size w w' := by
  obtain ⟨T, hT⟩ : ∃ T, T = strB [c] := ⟨_, rfl⟩
  have hTs : T.size = 1 := by rw [hT, strB_size]; rfl
  obtain ⟨U, hU⟩ : ∃ U, U = (⟨#[97]⟩ : ByteArray) ++ T := ⟨_, rfl⟩
  have hUl : U.data.toList = [97, c] := by rw [hU, string_append_toList, hT, strB_list]; rfl
  have hUs : U.size = 2 := by rw [← toList_length, hUl]; rfl
  obtain ⟨V, hV⟩ : ∃ V, V = U ++ (⟨#[97]⟩ : ByteArray) := ⟨_, rfl⟩
  have hVl : V.data.toList = [97, c, 97] := by rw [hV, string_append_toList, hUl]; rfl
  have hVs : V.size = 3 := by rw [← toList_length, hVl]; rfl
  have hmc := fun w => may_any w V (by omega)
  rw [hVl] at hmc
  have h1 : ¬ ((⟨#[97]⟩ : ByteArray).size + T.size > 9223372036854775807) := by rw [hTs]; decide
  have h2 : ¬ (U.size + (⟨#[97]⟩ : ByteArray).size > 9223372036854775807) := by rw [hUs]; decide
  have hR1 : Rd (w.alloc (.cells #[.int .u8 c.toNat] 5)) 1 (some ⟨w.heap.size, 0, none⟩) 1 (u8s [c]) := Rd.one w _ _
  have hU' := hU.symm
  have hV' := hV.symm
  have HT := hid2 hT
  have HP := hid2 (show plainG c = (mayB [97, c, 97] && !(c == 47)) from rfl)
  obtain ⟨m, hm⟩ : ∃ m, m = mayB [97, c, 97] := ⟨_, rfl⟩
  rw [← hm] at hmc HP
  clear hT hTs hU hUl hUs hV hVl hVs hm
  have hb0 : Below w.heap.size w (w.alloc (.cells #[.int .u8 c.toNat] 5)) := (Below.refl _ w).alloc (Nat.le_refl _) _
  have HB0 := hid2 hb0
  clear hb0
  cases m with
  | false =>
    go_enter Tryz.func74, Tryz.ntmps74
    go_wp2_with (first
      | ((with_reducible refine wpList_to_string_lit 5 (some ⟨w.heap.size, 0, none⟩) 1 1 [c] Tryz.underlying65 Tryz.underlying5 Tryz.underlying9 rfl hR1 ?_ ?_); exact rfl; rw [show (⟨[c].toArray⟩ : ByteArray) = T from HT.out.symm]; clear hR1)
      | (go_at_call 23; refine (hmc _).mono ?_; rintro e w2 ⟨rfl, hb⟩; have HB := hid2 hb; clear hb hmc))
    go_ret
    exact ⟨by rw [HP.out]; rfl, HB0.out.trans (HB.out.mono HB0.out.size)⟩
  | true =>
    have HC := hid2 (show (((c.toNat : Int)) != 47) = !(c == 47) by
      rw [Bool.eq_iff_iff]
      simp only [bne_iff_ne, ne_eq, Bool.not_eq_true', beq_eq_false_iff_ne]
      rw [← UInt8.toNat_inj, show (47 : UInt8).toNat = 47 from rfl]
      omega)
    go_enter Tryz.func74, Tryz.ntmps74
    go_wp2_with (first
      | ((with_reducible refine wpList_to_string_lit 5 (some ⟨w.heap.size, 0, none⟩) 1 1 [c] Tryz.underlying65 Tryz.underlying5 Tryz.underlying9 rfl hR1 ?_ ?_); exact rfl; rw [show (⟨[c].toArray⟩ : ByteArray) = T from HT.out.symm]; clear hR1)
      | (go_at_call 23; refine (hmc _).mono ?_; rintro e w2 ⟨rfl, hb⟩; have HB := hid2 hb; clear hb hmc))
    go_ret
    refine ⟨?_, HB0.out.trans (HB.out.mono HB0.out.size)⟩
    rw [HP.out, Bool.true_and, ← HC.out]
    rfl
end Go.Proofs.YtjjpecggcjggpaaGreatDoor
/- The walks of globs.part, globs.May and the closures. -/
namespace Go.Proofs.YtjjpecggcjggpaaGreatDoor
open Go.RowKit
set_option maxRecDepth 100000
theorem kprefix_take {p l : List UInt8} (h : p.length ≤ l.length) : p.isPrefixOf l = (l.take p.length == p) := by
  rw [Bool.eq_iff_iff, List.isPrefixOf_iff_prefix, beq_iff_eq]
  constructor
  · rintro ⟨t, rfl⟩; simp
  · intro e; rw [← e]; exact List.take_prefix _ _
theorem kprefix_short {p l : List UInt8} (h : ¬ p.length ≤ l.length) : p.isPrefixOf l = false := by
  rw [← Bool.not_eq_true, List.isPrefixOf_iff_prefix]
  exact fun e => h e.length_le
theorem kshas_any (w : World) (s p : ByteArray) (hs : s.size ≤ 1000000) (hp : p.size ≤ 1000001) : Calls Tryz.prog 68 #[.string s, .string p] w fun e w' => e = .returned (.bool (p.data.toList.isPrefixOf s.data.toList)) ∧ w' = w := by
  have hs0 : (s.size : Int) ≤ 1000000 := by omega
  have hp0 : (p.size : Int) ≤ 1000001 := by omega
  by_cases h : p.size ≤ s.size
  · have h1 : (p.size : Int) ≤ s.size := by omega
    have e : p.data.toList.isPrefixOf s.data.toList = ((s.extract 0 p.size).toList == p.toList) := by
      rw [kprefix_take (by rw [toList_length, toList_length]; exact h), ByteArray.toList_eq, ByteArray.toList_eq, extract_list, toList_length, List.drop_zero, Nat.sub_zero]
    rw [e]
    obtain ⟨X, hX⟩ : ∃ X, X = s.extract 0 p.size := ⟨_, rfl⟩
    rw [← hX]
    have hX' := hX.symm
    clear e hX
    go_enter Tryz.func68, Tryz.ntmps68
    go_wp2_with fail
    go_ret
    exact ⟨by simp, rfl⟩
  · rw [kprefix_short (by rw [toList_length, toList_length]; exact h)]
    have h1 : ¬ (p.size : Int) ≤ s.size := by omega
    go_enter Tryz.func68, Tryz.ntmps68
    go_wp2_with fail
    go_ret
    exact ⟨rfl, rfl⟩
theorem khas_any (w : World) (s p : ByteArray) (v : Bool) (hs : s.size ≤ 1000000) (hp : p.size ≤ 1000001) (hv : p.data.toList.isPrefixOf s.data.toList = v) : Calls Tryz.prog 44 #[.string s, .string p] w fun e w' => e = .returned (.bool v) ∧ w' = w := by
  have hc := fun w => kshas_any w s p hs hp
  rw [hv] at hc
  clear hv
  go_enter Tryz.func44, Tryz.ntmps44
  go_wp2_with (go_at_call 68; refine (hc _).mono ?_; rintro e w2 ⟨rfl, rfl⟩)
  go_ret
  exact ⟨rfl, rfl⟩
theorem gpart_any (w : World) (s : Tx) (hs : s.length ≤ 100000) : Calls Tryz.prog 49 #[.string (strB s)] w fun e w' => e = .returned (.bool (partG s)) ∧ Below w.heap.size w w' := by
  obtain ⟨S, hS⟩ : ∃ S, S = strB s := ⟨_, rfl⟩
  obtain ⟨n, hn⟩ : ∃ n, n = s.length := ⟨_, rfl⟩
  have hSs : S.size = n := by rw [hS, strB_size, hn]
  have hSl : S.toList = s := by rw [ByteArray.toList_eq, hS, strB_list]
  obtain ⟨R, hR⟩ : ∃ R, R = partG s := ⟨_, rfl⟩
  rw [← hR, ← hS]
  rw [← hn] at hs
  have HR := hid2 hR
  have HS := hid2 hS
  have HN := hid2 hn
  clear hR hS hn
  by_cases h0 : s = [42, 42]
  · have h0' : S.toList = [42, 42] := by rw [hSl, h0]
    have HE := hid2 (show R = true by rw [HR.out, partG_star h0])
    clear h0 hSl
    go_enter Tryz.func49, Tryz.ntmps49
    go_wp2_with fail
    go_ret
    exact ⟨by rw [HE.out]; rfl, Below.refl _ _⟩
  · have h0' : (S.toList == [42, 42]) = false := by rw [hSl]; simpa using h0
    have H0 := hid2 h0
    have HSL := hid2 hSl
    clear h0 hSl
    have hlim : (n : Int) ≤ 9223372036854775807 := by omega
    go_enter Tryz.func49, Tryz.ntmps49
    go_wp2_with fail
    go_loopg [3, 8] n (fun gk x3 qv wr => ∃ q : Nat, q + gk = n ∧ qv = .int .i64 q ∧ badsG s q = false ∧ Below w.heap.size w wr)
    case atStart => exact ⟨0, by omega, rfl, rfl, Below.refl _ _⟩
    case round =>
      obtain ⟨q, hq, rfl, hbad, hlow⟩ := hrel
      have HBAD := hid2 hbad
      have HLOW := hid2 hlow
      clear hbad hlow
      by_cases hqn : q < n
      · have hqi : (q : Int) < n := by omega
        have hq0 : (0 : Int) ≤ q := by omega
        have hq2 : q < S.size := by omega
        obtain ⟨c, hc⟩ : ∃ c, c = S[q]'hq2 := ⟨_, rfl⟩
        have hcs : c = s.getD q 0 := by
          have e : s = S.data.toList := by rw [HS.out, strB_list]
          have hql : q < S.data.toList.length := by rw [toList_length]; exact hq2
          rw [hc, e, List.getD_eq_getElem?_getD, List.getElem?_eq_getElem hql]
          exact (Array.getElem_toList _).symm
        obtain ⟨U, hU⟩ : ∃ U, U = S.extract q n := ⟨_, rfl⟩
        have hUl : U.data.toList = s.drop q := by
          rw [hU, extract_list, HS.out, strB_list]
          exact List.take_of_length_le (by rw [List.length_drop, HN.out]; omega)
        have hUs : U.size ≤ 100000 := by
          rw [← toList_length, hUl, List.length_drop, ← HN.out]
          omega
        obtain ⟨v, hv⟩ : ∃ v, v = ([42, 42] : List UInt8).isPrefixOf (s.drop q) := ⟨_, rfl⟩
        have hhc := fun w => khas_any w U ⟨#[42, 42]⟩ v (by omega) (by decide) (by rw [hUl, hv])
        have hpc := fun w => gplain_any w c
        obtain ⟨pl, hpl⟩ : ∃ pl, pl = plainG c := ⟨_, rfl⟩
        rw [← hpl] at hpc
        rw [hc] at hpc
        have h63 : (((S[q]'hq2).toNat : Int) != 63) = !(c == 63) := by
          rw [← hc, Bool.eq_iff_iff]
          simp only [bne_iff_ne, ne_eq, Bool.not_eq_true', beq_eq_false_iff_ne]
          rw [← UInt8.toNat_inj, show (63 : UInt8).toNat = 63 from rfl]
          omega
        have h42 : (((S[q]'hq2).toNat : Int) != 42) = !(c == 42) := by
          rw [← hc, Bool.eq_iff_iff]
          simp only [bne_iff_ne, ne_eq, Bool.not_eq_true', beq_eq_false_iff_ne]
          rw [← UInt8.toNat_inj, show (42 : UInt8).toNat = 42 from rfl]
          omega
        obtain ⟨b1, hb1⟩ : ∃ b, b = (c == 63) := ⟨_, rfl⟩
        obtain ⟨b2, hb2⟩ : ∃ b, b = (c == 42) := ⟨_, rfl⟩
        rw [← hb1] at h63
        rw [← hb2] at h42
        have HC := hid2 hcs
        have HV := hid2 hv
        have HPL := hid2 hpl
        have HB1 := hid2 hb1
        have HB2 := hid2 hb2
        have HSUC := hid2 (badsG_succ s q)
        have hU' := hU.symm
        clear hc hv hpl hU hUl hcs hb1 hb2
        cases pl with
        | true =>
          cases v with
          | true =>
            go_wp2_with (first
              | (go_at_call 74; refine (hpc _).mono ?_; rintro e w2 ⟨rfl, hb⟩; have HB := hid2 hb; clear hb)
              | (go_at_call 44; refine (hhc _).mono ?_; rintro e w3 ⟨rfl, rfl⟩))
            go_ret
            refine ⟨?_, HLOW.out.trans (HB.out.mono HLOW.out.size)⟩
            rw [HR.out, partG_bad H0.out (by rw [← HN.out]; exact hqn) (by rw [badG, ← HV.out]; simp)]
            rfl
          | false =>
            go_wp2_with (first
              | (go_at_call 74; refine (hpc _).mono ?_; rintro e w2 ⟨rfl, hb⟩; have HB := hid2 hb; clear hb)
              | (go_at_call 44; refine (hhc _).mono ?_; rintro e w3 ⟨rfl, rfl⟩))
            go_roundg (gk - 1)
            case rel =>
              refine ⟨q + 1, by omega, by go_num, ?_, HLOW.out.trans (HB.out.mono HLOW.out.size)⟩
              rw [HSUC.out, HBAD.out, badG, ← HV.out, ← HC.out, ← HPL.out]
              simp
            case measure => omega
        | false =>
          cases b1 with
          | true =>
            have h63f : (((S[q]'hq2).toNat : Int) != 63) = false := h63
            cases v with
            | true =>
              go_wp2_with (first
                | (go_at_call 74; refine (hpc _).mono ?_; rintro e w2 ⟨rfl, hb⟩; have HB := hid2 hb; clear hb)
                | (go_at_call 44; refine (hhc _).mono ?_; rintro e w3 ⟨rfl, rfl⟩))
              go_ret
              refine ⟨?_, HLOW.out.trans (HB.out.mono HLOW.out.size)⟩
              rw [HR.out, partG_bad H0.out (by rw [← HN.out]; exact hqn) (by rw [badG, ← HV.out]; simp)]
              rfl
            | false =>
              go_wp2_with (first
                | (go_at_call 74; refine (hpc _).mono ?_; rintro e w2 ⟨rfl, hb⟩; have HB := hid2 hb; clear hb)
                | (go_at_call 44; refine (hhc _).mono ?_; rintro e w3 ⟨rfl, rfl⟩))
              go_roundg (gk - 1)
              case rel =>
                refine ⟨q + 1, by omega, by go_num, ?_, HLOW.out.trans (HB.out.mono HLOW.out.size)⟩
                rw [HSUC.out, HBAD.out, badG, ← HV.out, ← HC.out, ← HPL.out]
                simp [← HB1.out]
              case measure => omega
          | false =>
            have h63t : (((S[q]'hq2).toNat : Int) != 63) = true := h63
            cases b2 with
            | true =>
              have h42f : (((S[q]'hq2).toNat : Int) != 42) = false := h42
              cases v with
              | true =>
                go_wp2_with (first
                  | (go_at_call 74; refine (hpc _).mono ?_; rintro e w2 ⟨rfl, hb⟩; have HB := hid2 hb; clear hb)
                  | (go_at_call 44; refine (hhc _).mono ?_; rintro e w3 ⟨rfl, rfl⟩))
                go_ret
                refine ⟨?_, HLOW.out.trans (HB.out.mono HLOW.out.size)⟩
                rw [HR.out, partG_bad H0.out (by rw [← HN.out]; exact hqn) (by rw [badG, ← HV.out]; simp)]
                rfl
              | false =>
                go_wp2_with (first
                  | (go_at_call 74; refine (hpc _).mono ?_; rintro e w2 ⟨rfl, hb⟩; have HB := hid2 hb; clear hb)
                  | (go_at_call 44; refine (hhc _).mono ?_; rintro e w3 ⟨rfl, rfl⟩))
                go_roundg (gk - 1)
                case rel =>
                  refine ⟨q + 1, by omega, by go_num, ?_, HLOW.out.trans (HB.out.mono HLOW.out.size)⟩
                  rw [HSUC.out, HBAD.out, badG, ← HV.out, ← HC.out, ← HPL.out]
                  simp [← HB2.out]
                case measure => omega
            | false =>
              have h42t : (((S[q]'hq2).toNat : Int) != 42) = true := h42
              go_wp2_with (first
                | (go_at_call 74; refine (hpc _).mono ?_; rintro e w2 ⟨rfl, hb⟩; have HB := hid2 hb; clear hb)
                | (go_at_call 44; refine (hhc _).mono ?_; rintro e w3 ⟨rfl, rfl⟩))
              go_ret
              refine ⟨?_, HLOW.out.trans (HB.out.mono HLOW.out.size)⟩
              rw [HR.out, partG_bad H0.out (by rw [← HN.out]; exact hqn) (by rw [badG, ← HC.out, ← HPL.out, ← HB1.out, ← HB2.out]; rfl)]
              rfl
      · have hqn2 : q = n := by omega
        have hqi : ¬ (q : Int) < n := by omega
        have HT := hid2 (show R = tailG s by rw [HR.out, partG_tail H0.out (by rw [← HN.out, ← hqn2]; exact HBAD.out)])
        clear hqn hqn2
        have HTL := hid2 (show tailG s = (decide (1 ≤ n) && decide (n ≤ 64) && !(s == [46]) && !(s == [46, 46])) by rw [HN.out]; rfl)
        by_cases h1 : 1 ≤ n
        · have h1i : (1 : Int) ≤ n := by omega
          by_cases h64 : n ≤ 64
          · have h64i : (n : Int) ≤ 64 := by omega
            obtain ⟨b1, hb1⟩ : ∃ b, b = (s == [46]) := ⟨_, rfl⟩
            obtain ⟨b2, hb2⟩ : ∃ b, b = (s == [46, 46]) := ⟨_, rfl⟩
            have e1 : (S.toList == [46]) = b1 := by rw [HSL.out, hb1]
            have e2 : (S.toList == [46, 46]) = b2 := by rw [HSL.out, hb2]
            have HZ := hid2 (show R = (!b1 && !b2) by rw [HT.out, HTL.out, hb1, hb2]; simp [h1, h64])
            clear hb1 hb2
            cases b1 with
            | true =>
              go_wp2_with fail
              go_ret
              exact ⟨by rw [HZ.out]; rfl, HLOW.out⟩
            | false =>
              cases b2 with
              | true =>
                go_wp2_with fail
                go_ret
                exact ⟨by rw [HZ.out]; rfl, HLOW.out⟩
              | false =>
                go_wp2_with fail
                go_ret
                exact ⟨by rw [HZ.out]; rfl, HLOW.out⟩
          · have h64i : ¬ (n : Int) ≤ 64 := by omega
            have HZ := hid2 (show R = false by rw [HT.out, HTL.out]; simp [h64])
            go_wp2_with fail
            go_ret
            exact ⟨by rw [HZ.out]; rfl, HLOW.out⟩
        · have h1i : ¬ (1 : Int) ≤ n := by omega
          have HZ := hid2 (show R = false by rw [HT.out, HTL.out]; simp [h1])
          go_wp2_with fail
          go_ret
          exact ⟨by rw [HZ.out]; rfl, HLOW.out⟩
end Go.Proofs.YtjjpecggcjggpaaGreatDoor
