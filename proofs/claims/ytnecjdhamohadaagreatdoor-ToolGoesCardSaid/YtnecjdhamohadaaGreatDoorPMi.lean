/- A tool's run: a file is asked for. -/
import Derived.Test.YtnecjdhamohadaaGreatDoorPMh
import Derived.BigRegion
import Derived.Deep.RegionHeld3
import Derived.RangeFuncNested
set_option linter.unusedSimpArgs false
set_option linter.unusedVariables false
namespace Go.Proofs.YtnecjdhamohadaaGreatDoor
open Go.RowKit Go.Maps
set_option maxRecDepth 100000
theorem MapIs.len {α:Type} {enc:α→Value} {w:World} {P:Program} {k t e:TypeId} {b n:Nat} {M:Tab α} (h:MapIs w P k enc b n M) (ht:P.underlying t=some (.map k e)) (ty:TypeId):(Builtin.len_ #[t] ty #[.map (some b)]).run P w = .ok (.int .i64 M.length) w:=by
 have:=World.ownsMap.len h ht ty
 rw [size_mapD] at this
 exact this
theorem FnAt.calls {Q:World→Prop} {u a:Value} {P:World→Ending→World→Prop} {w0:World} (h:∀ W,Q W→FnAt W u a (P W)) (h0:Q w0):∃ (f:Nat) (fi ca:Array Value),u = .func (.func f) fi ca∧Enters Tryz.prog f∧∀ W,Q W→Calls Tryz.prog f (fi++#[a]++ca) W (P W):=by
 obtain⟨f,fi,ca,rfl,he,_⟩:=h w0 h0
 refine⟨f,fi,ca,rfl,he,fun W hW=>?_⟩
 obtain⟨f',fi',ca',e,_,hc⟩:=h W hW
 injection e with e1 e2 e3
 injection e1 with e1
 subst e1 e2 e3
 exact hc
theorem strB_inj {a b:TT} (h:strB a=strB b):a=b:=by
 have:=congrArg (fun x:ByteArray=>x.data.toList) h
 simpa [strB] using this
theorem encK_inj:∀ a b,encK a=encK b→a=b:=by
 rintro⟨p,i,d⟩ ⟨p',i',d'⟩ h
 simp only [encK,Value.agg.injEq,Array.mk.injEq,List.cons.injEq,Value.string.injEq,Value.bool.injEq,and_true] at h
 rw [strB_inj h.1,h.2.1,strB_inj h.2.2]
theorem zero_known (w:World):(zeroValue 41).run Tryz.prog w = .ok (encK noK) w:=by kernel_rfl
theorem stored_row {w:World} {g:Nat} {VX:List Value} {cur:Array Value} {t:TypeId} (hg:w.heap[g]?=some (.cells cur t (0,0))) (hl:VX.length=cur.size):(w.setRow g (laid cur 0 VX)).heap[g]?=some (.cells VX.toArray t (0,0)):=by
 rw [laid_all hl]
 exact setRow_heap w g cur _ t _ hg
def B3 (w:World) (g:Nat) (t1 t2 t3:TypeId) (a b c:Value):Prop:=CellB w g #[a] t1∧CellB w (g+1) #[b] t2∧CellB w (g+1+1) #[c] t3
section
variable {w w':World} {g:Nat} {t1 t2 t3:TypeId} {a b c:Value}
theorem B3.below (h:B3 w g t1 t2 t3 a b c) (hb:Below w.heap.size w w'):B3 w' g t1 t2 t3 a b c:=⟨h.1.below hb,h.2.1.below hb,h.2.2.below hb⟩
theorem B3.keep {B:Nat} (h:B3 w g t1 t2 t3 a b c) (hb:TBut B w w') (h1:t1 ≠ 63 ∧ t1 ≠ 1) (h2:t2 ≠ 63 ∧ t2 ≠ 1) (h3:t3 ≠ 63 ∧ t3 ≠ 1):B3 w' g t1 t2 t3 a b c:=⟨h.1.keep hb h1.1 h1.2,h.2.1.keep hb h2.1 h2.2,h.2.2.keep hb h3.1 h3.2⟩
theorem B3.cells (h:B3 w g t1 t2 t3 a b c):w.cell? ⟨g,0,none⟩=some a∧w.cell? ⟨g+1,0,none⟩=some b∧w.cell? ⟨g+1+1,0,none⟩=some c:=⟨h.1.cell 0,h.2.1.cell 0,h.2.2.cell 0⟩
end
theorem boxes3 (w:World) (a b c:Value) (t1 t2 t3:TypeId):B3 (((w.alloc (.cells #[a] t1)).alloc (.cells #[b] t2)).alloc (.cells #[c] t3)) w.heap.size t1 t2 t3 a b c∧Below w.heap.size w (((w.alloc (.cells #[a] t1)).alloc (.cells #[b] t2)).alloc (.cells #[c] t3)):=by
 have h1:Below w.heap.size w (w.alloc (.cells #[a] t1)):=(Below.refl _ _).alloc (Nat.le_refl _) _
 refine⟨⟨?_,?_,?_⟩,(h1.alloc (by simp) _).alloc (by simp;omega) _⟩
 ·unfold CellB
  rw [Below.heap_alloc _ _ _ (by simp;omega),Below.heap_alloc _ _ _ (by simp)]
  exact World.alloc_heap_new w _
 ·unfold CellB
  rw [Below.heap_alloc _ _ _ (by simp)]
  have:=World.alloc_heap_new (w.alloc (.cells #[a] t1)) (.cells #[b] t2)
  rwa [World.size_alloc] at this
 ·have:=World.alloc_heap_new ((w.alloc (.cells #[a] t1)).alloc (.cells #[b] t2)) (.cells #[c] t3)
  rwa [World.size_alloc,World.size_alloc] at this
set_option maxHeartbeats 4000000 in
theorem askknown_any (w:World) (L:RLay) (v:Env) (q:Option Nat) (s S':PS) (A:Option Addr) (c:Nat) (us:List Value) (h:RunAt w L v q s A c us) (p:TT) (hp:p.length≤1000000000) (n:Nat) (M:Tab KE) (hM:MapIs w Tryz.prog 9 encK L.m n M) (k:KE) (hk:getM M p=some k) (u:Value)
  (hu:∀ W,Below w.heap.size w W→FnAt W u (encK k) (VPost W L v q S')) :
  Calls Tryz.prog 39 #[ptrV L.R,.string (strB p),u] w (VPost w L v q S'):=by
 obtain⟨f,fi,ca,rfl,heg,hc⟩:=FnAt.calls hu (Below.refl _ _)
 have eg:∀ (args:Array Value) (w:World),(callFunc f args).run Tryz.prog w = .ok (.enter f args) w:=heg
 have hB:=h.size
 have hmlt:=hM.lt
 have hRlt:=h.run.lt
 obtain⟨F,hF⟩:∃ F,F=encK k:=⟨_,rfl⟩
 have look:∀ w2,Below w.heap.size w w2→(Instr.lookup 60 (.map (some L.m)) (.string (strB p)) true).run Tryz.prog w2 = .ok (.tuple #[F,.bool true]) w2:=fun w2 hb=>by
  have:=(hM.below hb hmlt).look_ok encK_inj Tryz.underlying9 Tryz.underlying60 noK (zero_known w2) (strB p) (by rw [strB_size];unfold maxLen;omega)
  rw [show (strB p).data.toList=p from by simp [strB],hk] at this
  rw [hF]
  exact this
 have hc3:∀ w2,Below w.heap.size w w2→w2.cell? ⟨L.R,3,none⟩=some (.map (some L.m)):=fun w2 hb=>(hb.cell (p:=⟨L.R,3,none⟩) hRlt).trans (h.cell 3).1
 obtain⟨Pq,hPq⟩:∃ Pq:Ending→World→Prop,Pq=VPost w L v q S':=⟨_,rfl⟩
 rw [← hF] at hc
 have hcall2:∀ W,Below w.heap.size w W→Calls Tryz.prog f (fi++#[F]++ca) W fun e w2=>e = .returned (.tuple #[])∧Pq (.returned (.tuple #[])) w2:=fun W hW=>(hc W hW).mono (R':=fun e w2=>e = .returned (.tuple #[])∧Pq (.returned (.tuple #[])) w2) fun e w2 k=>⟨k.1,by rw [hPq];have:=k.since hW hB;rw [k.1] at this;exact this⟩
 rw [ptrV,← hPq]
 obtain⟨R,hR⟩:∃ R,R=L.R:=⟨_,rfl⟩
 obtain⟨m,hm⟩:∃ m,m=L.m:=⟨_,rfl⟩
 obtain⟨s0,hs0⟩:∃ s0,s0=strB p:=⟨_,rfl⟩
 rw [← hR] at hc3 hRlt ⊢
 rw [← hm] at hc3 look
 rw [← hs0] at look ⊢
 obtain⟨fa,fb,fc,hff⟩:∃ fa fb fc,F = .agg #[.string fa,.bool fb,.string fc]:=⟨_,_,_,hF⟩
 subst hff
 have LOOK:=hid2 look
 have C3:=hid2 hc3
 have HC:=hid2 hcall2
 clear hc hcall2 look hc3 hPq hF hu h hM heg hk hp hR hm hs0
 go_enter Tryz.func39,Tryz.ntmps39
 go_wp2_with fail
 obtain⟨hB3,hb1⟩:=boxes3 w (.pointer (some ⟨R,0,none⟩)) (.string s0) (.func (.func f) fi ca) 26 9 79
 obtain⟨W,hW⟩:∃ W,W=((w.alloc (.cells #[.pointer (some ⟨R,0,none⟩)] 26)).alloc (.cells #[.string s0] 9)).alloc (.cells #[.func (.func f) fi ca] 79):=⟨_,rfl⟩
 rw [← hW] at hb1 hB3 ⊢
 have HB1:=hid2 hb1
 have HB3:=hid2 (show ∀ w2,Below W.heap.size W w2→w2.cell? ⟨w.heap.size,0,none⟩=some (.pointer (some ⟨R,0,none⟩))∧w2.cell? ⟨w.heap.size+1,0,none⟩=some (.string s0)∧w2.cell? ⟨w.heap.size+1+1,0,none⟩=some (.func (.func f) fi ca) from fun w2 hb=>(hB3.below hb).cells)
 have HBX:=hid2 hB3
 have hsz:=hb1.size
 clear hb1 hB3 hW
 have HS:=hid2 (show ∀ w2,Below W.heap.size W w2→w2.cell? ⟨w.heap.size,0,none⟩=some (.pointer (some ⟨R,0,none⟩))∧w2.cell? ⟨w.heap.size+1,0,none⟩=some (.string s0)∧w2.cell? ⟨R,3,none⟩=some (.map (some m))∧(Instr.lookup 60 (.map (some m)) (.string s0) true).run Tryz.prog w2 = .ok (.tuple #[.agg #[.string fa,.bool fb,.string fc],.bool true]) w2 from fun w2 hb=>⟨(HB3.out w2 hb).1,(HB3.out w2 hb).2.1,C3.out w2 (HB1.out.trans (hb.mono hsz)),LOOK.out w2 (HB1.out.trans (hb.mono hsz))⟩)
 obtain⟨s1,s2,s3,s4⟩:=HS.out W (Below.refl _ _)
 go_region_held3 (fun w'=>w'.cell? ⟨w.heap.size,0,none⟩=some (.pointer (some ⟨R,0,none⟩))∧w'.cell? ⟨w.heap.size+1,0,none⟩=some (.string s0)∧w'.cell? ⟨R,3,none⟩=some (.map (some m))∧(Instr.lookup 60 (.map (some m)) (.string s0) true).run Tryz.prog w' = .ok (.tuple #[.agg #[.string fa,.bool fb,.string fc],.bool true]) w') (first | exact HS.out _ (Below.refl _ _).drew | exact HS.out _ ((Below.refl _ _).drew.alloc (by simp) _) | exact HS.out _ ((Below.refl _ _).alloc (by simp) _) | exact HS.out _ (((((Below.refl _ _).drew.alloc (by simp) _).setCell (by simp) _).setCell (by simp) _).setCell (by simp) _) | exact HS.out _ (((((Below.refl _ _).alloc (by simp) _).setCell (by simp) _).setCell (by simp) _).setCell (by simp) _) | go_keep) (first | fail)
 all_goals (
  rename_i hHeld
  clear hHeld s1 s2 s3 s4
  obtain⟨W4,hW4⟩:∃ W4,W4=(W.alloc (.cells #[.string fa,.bool fb,.string fc] 41)).drew:=⟨_,rfl⟩
  have hb4:Below W.heap.size W W4:=by rw [hW4];exact ((Below.refl _ _).alloc (Nat.le_refl _) _).drew
  have hX4:W4.heap[W.heap.size]?=some (.cells #[.string fa,.bool fb,.string fc] 41 (0,0)):=by rw [hW4];exact World.alloc_heap_new W _
  rw [← hW4]
  have hcf:=(HB3.out W4 hb4).2.2
  have hcr:=(HB3.out W4 hb4).1
  have hcs:=(HB3.out W4 hb4).2.1
  have hk0:W4.cell? ⟨W.heap.size,0,none⟩=some (.string fa):=cell_of_row W4 _ 0 _ _ _ hX4
  have hk1:W4.cell? ⟨W.heap.size,1,none⟩=some (.bool fb):=cell_of_row W4 _ 1 _ _ _ hX4
  have hk2:W4.cell? ⟨W.heap.size,2,none⟩=some (.string fc):=cell_of_row W4 _ 2 _ _ _ hX4
  have hb0:=HB1.out.trans (hb4.mono hsz)
  have hc3:=C3.out W4 hb0
  clear hW4
  go_wp2_with fail
  refine (HC.out W4 hb0).mono ?_
  rintro e w5 ⟨rfl,hp⟩
  have HP:=hid2 hp
  clear hp
  go_wp2_with fail
  refine bodyPost_ret (results_none rfl _ _ _) rfl ?_
  exact HP.out)
set_option maxHeartbeats 4000000 in
theorem askfull_any (w:World) (L:RLay) (v:Env) (q:Option Nat) (s:PS) (h:RunIs w L v q s) (p:TT) (hp:p.length≤1000000000) (hno:getK s.known p=none) (f:Nat) (fi ca:Array Value) (hf:500≤s.known.length) :
  Calls Tryz.prog 39 #[ptrV L.R,.string (strB p),.func (.func f) fi ca] w (VPost w L v q (s.fail 6)):=by
 have cF:=fun (W:World) (hW:Below w.heap.size w W)=>fail_any W L v q s (h.below hW) 6
 obtain⟨A,c,us,h⟩:=h
 have h0:=h
 obtain⟨hkb,M,hM,hMl,hMk⟩:=h0.known
 have hk:getM M p=none:=by
  have:=hMk p
  rw [hno] at this
  exact Option.map_eq_none_iff.1 this
 have hB:=h.size
 have hmlt:=hM.lt
 have hRlt:=h.run.lt
 obtain⟨F,hF⟩:∃ F,F=encK noK:=⟨_,rfl⟩
 have look:∀ w2,Below w.heap.size w w2→(Instr.lookup 60 (.map (some L.m)) (.string (strB p)) true).run Tryz.prog w2 = .ok (.tuple #[F,.bool false]) w2:=fun w2 hb=>by
  have:=(hM.below hb hmlt).look_ok encK_inj Tryz.underlying9 Tryz.underlying60 noK (zero_known w2) (strB p) (by rw [strB_size];unfold maxLen;omega)
  rw [show (strB p).data.toList=p from by simp [strB],hk] at this
  rw [hF]
  exact this
 have hc3:∀ w2,Below w.heap.size w w2→w2.cell? ⟨L.R,3,none⟩=some (.map (some L.m)):=fun w2 hb=>(hb.cell (p:=⟨L.R,3,none⟩) hRlt).trans (h.cell 3).1
 have hlenM:(500:Int)≤(M.length:Int):=by rw [hMl];omega
 obtain⟨Pq,hPq⟩:∃ Pq:Ending→World→Prop,Pq=VPost w L v q (s.fail 6):=⟨_,rfl⟩
 have hA2:∀ (W:World),Below w.heap.size w W→Calls Tryz.prog 46 #[.pointer (some ⟨L.R,0,none⟩),.int .i64 6] W fun e w2=>e = .returned (.tuple #[])∧Pq (.returned (.tuple #[])) w2:=fun W hW=>(cF W hW).mono fun e w2 k=>⟨k.1,by rw [hPq];have:=k.since hW hB;rw [k.1] at this;exact this⟩
 rw [ptrV,← hPq]
 obtain⟨R,hR⟩:∃ R,R=L.R:=⟨_,rfl⟩
 obtain⟨m,hm⟩:∃ m,m=L.m:=⟨_,rfl⟩
 obtain⟨s0,hs0⟩:∃ s0,s0=strB p:=⟨_,rfl⟩
 rw [← hR] at hc3 hRlt hA2 ⊢
 rw [← hm] at hc3 look
 rw [← hs0] at look ⊢
 obtain⟨fa,fb,fc,hff⟩:∃ fa fb fc,F = .agg #[.string fa,.bool fb,.string fc]:=⟨_,_,_,hF⟩
 subst hff
 have LOOK:=hid2 look
 have C3:=hid2 hc3
 have HC:=hid2 hA2
 have HMM:=hid2 (show ∀ w2,Below w.heap.size w w2→MapIs w2 Tryz.prog 9 encK m s.known.length M from fun w2 hb=>by rw [hm];exact hM.below hb hmlt)
 clear cF hA2 look hc3 hPq hF h hM hk hp hR hm hs0 h0 hMk hno hf hMl hkb
 go_enter Tryz.func39,Tryz.ntmps39
 go_wp2_with fail
 obtain⟨hB3,hb1⟩:=boxes3 w (.pointer (some ⟨R,0,none⟩)) (.string s0) (.func (.func f) fi ca) 26 9 79
 obtain⟨W,hW⟩:∃ W,W=((w.alloc (.cells #[.pointer (some ⟨R,0,none⟩)] 26)).alloc (.cells #[.string s0] 9)).alloc (.cells #[.func (.func f) fi ca] 79):=⟨_,rfl⟩
 rw [← hW] at hb1 hB3 ⊢
 have HB1:=hid2 hb1
 have HB3:=hid2 (show ∀ w2,Below W.heap.size W w2→w2.cell? ⟨w.heap.size,0,none⟩=some (.pointer (some ⟨R,0,none⟩))∧w2.cell? ⟨w.heap.size+1,0,none⟩=some (.string s0)∧w2.cell? ⟨w.heap.size+1+1,0,none⟩=some (.func (.func f) fi ca) from fun w2 hb=>(hB3.below hb).cells)
 have HBX:=hid2 hB3
 have hsz:=hb1.size
 clear hb1 hB3 hW
 have HS:=hid2 (show ∀ w2,Below W.heap.size W w2→w2.cell? ⟨w.heap.size,0,none⟩=some (.pointer (some ⟨R,0,none⟩))∧w2.cell? ⟨w.heap.size+1,0,none⟩=some (.string s0)∧w2.cell? ⟨R,3,none⟩=some (.map (some m))∧(Instr.lookup 60 (.map (some m)) (.string s0) true).run Tryz.prog w2 = .ok (.tuple #[.agg #[.string fa,.bool fb,.string fc],.bool false]) w2 from fun w2 hb=>⟨(HB3.out w2 hb).1,(HB3.out w2 hb).2.1,C3.out w2 (HB1.out.trans (hb.mono hsz)),LOOK.out w2 (HB1.out.trans (hb.mono hsz))⟩)
 obtain⟨s1,s2,s3,s4⟩:=HS.out W (Below.refl _ _)
 go_region_held3 (fun w'=>w'.cell? ⟨w.heap.size,0,none⟩=some (.pointer (some ⟨R,0,none⟩))∧w'.cell? ⟨w.heap.size+1,0,none⟩=some (.string s0)∧w'.cell? ⟨R,3,none⟩=some (.map (some m))∧(Instr.lookup 60 (.map (some m)) (.string s0) true).run Tryz.prog w' = .ok (.tuple #[.agg #[.string fa,.bool fb,.string fc],.bool false]) w') (first | exact HS.out _ (Below.refl _ _).drew | exact HS.out _ ((Below.refl _ _).drew.alloc (by simp) _) | exact HS.out _ ((Below.refl _ _).alloc (by simp) _) | exact HS.out _ (((((Below.refl _ _).drew.alloc (by simp) _).setCell (by simp) _).setCell (by simp) _).setCell (by simp) _) | exact HS.out _ (((((Below.refl _ _).alloc (by simp) _).setCell (by simp) _).setCell (by simp) _).setCell (by simp) _) | go_keep) (first | fail)
 all_goals (
  rename_i hHeld
  clear hHeld s1 s2 s3 s4
  obtain⟨W4,hW4⟩:∃ W4,W4=(W.alloc (.cells #[.string fa,.bool fb,.string fc] 41)).drew:=⟨_,rfl⟩
  have hb4:Below W.heap.size W W4:=by rw [hW4];exact ((Below.refl _ _).alloc (Nat.le_refl _) _).drew
  have hX4:W4.heap[W.heap.size]?=some (.cells #[.string fa,.bool fb,.string fc] 41 (0,0)):=by rw [hW4];exact World.alloc_heap_new W _
  rw [← hW4]
  have hcf:=(HB3.out W4 hb4).2.2
  have hcr:=(HB3.out W4 hb4).1
  have hcs:=(HB3.out W4 hb4).2.1
  have hk0:W4.cell? ⟨W.heap.size,0,none⟩=some (.string fa):=cell_of_row W4 _ 0 _ _ _ hX4
  have hk1:W4.cell? ⟨W.heap.size,1,none⟩=some (.bool fb):=cell_of_row W4 _ 1 _ _ _ hX4
  have hk2:W4.cell? ⟨W.heap.size,2,none⟩=some (.string fc):=cell_of_row W4 _ 2 _ _ _ hX4
  have hb0:=HB1.out.trans (hb4.mono hsz)
  have hc3:=C3.out W4 hb0
  clear hW4
  have hMW:=HMM.out W4 hb0
  unfold MapIs at hMW
  clear hcf hk0 hk1 hk2
  go_wp2_with (first
   | (at_len;refine wpList_len_own _ rfl _ 60 rfl 9 41 Tryz.underlying60 _ m s.known.length _ rfl hMW ?_;rw [size_mapD])
   | (go_at_call 46; refine (HC.out W4 hb0).mono ?_;rintro e w1 ⟨rfl,hp⟩;have HP:=hid2 hp;clear hp))
  refine bodyPost_ret (results_none rfl _ _ _) rfl ?_
  exact HP.out)
set_option maxHeartbeats 4000000 in
theorem asknew_any (w:World) (L:RLay) (v:Env) (q:Option Nat) (s:PS) (h:RunIs w L v q s) (p:TT) (hp:p.length≤1000000000) (hno:getK s.known p=none) (f:Nat) (fi ca:Array Value) (hf:s.known.length < 500) (hl:s.todo.length≤1000000000000) (th:ThenE) (hth:ThenIs w L.R q (.func (.func f) fi ca) th) (hs:th.noMap=true∨MapAt w L q s) :
  Calls Tryz.prog 39 #[ptrV L.R,.string (strB p),.func (.func f) fi ca] w (VPost w L v q { s with asks:=p,waits:=true,todo:=.ans p th :: s.todo }):=by
 obtain⟨A,c,us,h⟩:=h
 have h0:=h
 obtain⟨hkb,M,hM,hMl,hMk⟩:=h0.known
 have hk:getM M p=none:=by
  have:=hMk p
  rw [hno] at this
  exact Option.map_eq_none_iff.1 this
 have hB:=h.size
 have hmlt:=hM.lt
 have hRlt:=h.run.lt
 obtain⟨F,hF⟩:∃ F,F=encK noK:=⟨_,rfl⟩
 have look:∀ w2,Below w.heap.size w w2→(Instr.lookup 60 (.map (some L.m)) (.string (strB p)) true).run Tryz.prog w2 = .ok (.tuple #[F,.bool false]) w2:=fun w2 hb=>by
  have:=(hM.below hb hmlt).look_ok encK_inj Tryz.underlying9 Tryz.underlying60 noK (zero_known w2) (strB p) (by rw [strB_size];unfold maxLen;omega)
  rw [show (strB p).data.toList=p from by simp [strB],hk] at this
  rw [hF]
  exact this
 have hc3:∀ w2,Below w.heap.size w w2→w2.cell? ⟨L.R,3,none⟩=some (.map (some L.m)):=fun w2 hb=>(hb.cell (p:=⟨L.R,3,none⟩) hRlt).trans (h.cell 3).1
 have hlenM:¬ (500:Int)≤(M.length:Int):=by rw [hMl];omega
 obtain⟨Pq,hPq⟩:∃ Pq:Ending→World→Prop,Pq=VPost w L v q { s with asks:=p,waits:=true,todo:=.ans p th :: s.todo }:=⟨_,rfl⟩
 have HPQ:=hid2 hPq
 rw [ptrV,← hPq]
 obtain⟨R,hR⟩:∃ R,R=L.R:=⟨_,rfl⟩
 obtain⟨m,hm⟩:∃ m,m=L.m:=⟨_,rfl⟩
 obtain⟨s0,hs0⟩:∃ s0,s0=strB p:=⟨_,rfl⟩
 rw [← hR] at hc3 hRlt ⊢
 rw [← hm] at hc3 look
 rw [← hs0] at look ⊢
 obtain⟨fa,fb,fc,hff⟩:∃ fa fb fc,F = .agg #[.string fa,.bool fb,.string fc]:=⟨_,_,_,hF⟩
 subst hff
 have LOOK:=hid2 look
 have C3:=hid2 hc3
 have HMM:=hid2 (show ∀ w2,Below w.heap.size w w2→MapIs w2 Tryz.prog 9 encK m s.known.length M from fun w2 hb=>by rw [hm];exact hM.below hb hmlt)
 have HH:=hid2 h
 have HTH:=hid2 hth
 have HSM:=hid2 hs
 have HR:=hid2 hR
 have HS0:=hid2 hs0
 clear look hc3 hPq hF h hM hk hp hR hm hs0 h0 hMk hno hf hMl hkb hth hs
 go_enter Tryz.func39,Tryz.ntmps39
 go_wp2_with fail
 obtain⟨hB3,hb1⟩:=boxes3 w (.pointer (some ⟨R,0,none⟩)) (.string s0) (.func (.func f) fi ca) 26 9 79
 obtain⟨W,hW⟩:∃ W,W=((w.alloc (.cells #[.pointer (some ⟨R,0,none⟩)] 26)).alloc (.cells #[.string s0] 9)).alloc (.cells #[.func (.func f) fi ca] 79):=⟨_,rfl⟩
 rw [← hW] at hb1 hB3 ⊢
 have HB1:=hid2 hb1
 have HB3:=hid2 (show ∀ w2,Below W.heap.size W w2→w2.cell? ⟨w.heap.size,0,none⟩=some (.pointer (some ⟨R,0,none⟩))∧w2.cell? ⟨w.heap.size+1,0,none⟩=some (.string s0)∧w2.cell? ⟨w.heap.size+1+1,0,none⟩=some (.func (.func f) fi ca) from fun w2 hb=>(hB3.below hb).cells)
 have HBX:=hid2 hB3
 have hsz:=hb1.size
 clear hb1 hB3 hW
 have HS:=hid2 (show ∀ w2,Below W.heap.size W w2→w2.cell? ⟨w.heap.size,0,none⟩=some (.pointer (some ⟨R,0,none⟩))∧w2.cell? ⟨w.heap.size+1,0,none⟩=some (.string s0)∧w2.cell? ⟨R,3,none⟩=some (.map (some m))∧(Instr.lookup 60 (.map (some m)) (.string s0) true).run Tryz.prog w2 = .ok (.tuple #[.agg #[.string fa,.bool fb,.string fc],.bool false]) w2 from fun w2 hb=>⟨(HB3.out w2 hb).1,(HB3.out w2 hb).2.1,C3.out w2 (HB1.out.trans (hb.mono hsz)),LOOK.out w2 (HB1.out.trans (hb.mono hsz))⟩)
 obtain⟨s1,s2,s3,s4⟩:=HS.out W (Below.refl _ _)
 go_region_held3 (fun w'=>w'.cell? ⟨w.heap.size,0,none⟩=some (.pointer (some ⟨R,0,none⟩))∧w'.cell? ⟨w.heap.size+1,0,none⟩=some (.string s0)∧w'.cell? ⟨R,3,none⟩=some (.map (some m))∧(Instr.lookup 60 (.map (some m)) (.string s0) true).run Tryz.prog w' = .ok (.tuple #[.agg #[.string fa,.bool fb,.string fc],.bool false]) w') (first | exact HS.out _ (Below.refl _ _).drew | exact HS.out _ ((Below.refl _ _).drew.alloc (by simp) _) | exact HS.out _ ((Below.refl _ _).alloc (by simp) _) | exact HS.out _ (((((Below.refl _ _).drew.alloc (by simp) _).setCell (by simp) _).setCell (by simp) _).setCell (by simp) _) | exact HS.out _ (((((Below.refl _ _).alloc (by simp) _).setCell (by simp) _).setCell (by simp) _).setCell (by simp) _) | go_keep) (first | fail)
 all_goals (
  rename_i hHeld
  clear hHeld s1 s2 s3 s4
  obtain⟨W4,hW4⟩:∃ W4,W4=(W.alloc (.cells #[.string fa,.bool fb,.string fc] 41)).drew:=⟨_,rfl⟩
  have hb4:Below W.heap.size W W4:=by rw [hW4];exact ((Below.refl _ _).alloc (Nat.le_refl _) _).drew
  have hX4:W4.heap[W.heap.size]?=some (.cells #[.string fa,.bool fb,.string fc] 41 (0,0)):=by rw [hW4];exact World.alloc_heap_new W _
  rw [← hW4]
  have hcf:=(HB3.out W4 hb4).2.2
  have hcr:=(HB3.out W4 hb4).1
  have hcs:=(HB3.out W4 hb4).2.1
  have hk0:W4.cell? ⟨W.heap.size,0,none⟩=some (.string fa):=cell_of_row W4 _ 0 _ _ _ hX4
  have hk1:W4.cell? ⟨W.heap.size,1,none⟩=some (.bool fb):=cell_of_row W4 _ 1 _ _ _ hX4
  have hk2:W4.cell? ⟨W.heap.size,2,none⟩=some (.string fc):=cell_of_row W4 _ 2 _ _ _ hX4
  have hb0:=HB1.out.trans (hb4.mono hsz)
  have hc3:=C3.out W4 hb0
  clear hW4
  have hMW:=HMM.out W4 hb0
  unfold MapIs at hMW
  clear hcf hk0 hk1 hk2
  go_wp2_with (first
   | (at_len;refine wpList_len_own _ rfl _ 60 rfl 9 41 Tryz.underlying60 _ m s.known.length _ rfl hMW ?_;rw [size_mapD]))
  have hR4:=(HH.out.below hb0).cell 4
  have hR5:=(HH.out.below hb0).cell 5
  rw [← HR.out] at hR4 hR5
  have q4:W4.cell? ⟨R,4,none⟩=some (.string (strB s.asks)):=hR4.1
  have q5:W4.cell? ⟨R,5,none⟩=some (.bool s.waits):=hR5.1
  have z4:=hR4.2
  have z5:=hR5.2
  have n1:w.heap.size≠R:=by omega
  have n2:w.heap.size+1≠R:=by omega
  have HW4:=hid2 hb4
  have HL:=hid2 hl
  have HKP:=hid2 (show ∀ W':World,(∀ k,k≠R→W'.heap[k]?=W4.heap[k]?)→W'.cell? ⟨w.heap.size,0,none⟩=some (.pointer (some ⟨R,0,none⟩))∧W'.cell? ⟨w.heap.size+1,0,none⟩=some (.string s0) from fun W' hk=>⟨(World.cell?_of_block (hk _ n1)).trans hcr,(World.cell?_of_block (hk _ n2)).trans hcs⟩)
  clear hR4 hR5 hc3 hMW hlenM hX4 hb4 hl
  go_region_held3 (fun w'=>w'.cell? ⟨w.heap.size,0,none⟩=some (.pointer (some ⟨R,0,none⟩))∧w'.cell? ⟨w.heap.size+1,0,none⟩=some (.string s0)) (first | exact HKP.out _ (fun k hk=>rfl) | exact HKP.out _ (fun k hk=>Below.heap_setCell _ _ _ k hk) | exact HKP.out _ (fun k hk=>(Below.heap_setCell _ _ _ k hk).trans (Below.heap_setCell _ _ _ k hk))) (first | fail)
  rename_i hHeld
  clear hHeld
  have h4:=HH.out.below hb0
  have h5:=h4.one (s':={ s with asks:=p }) (i:=4) (u:=.string (strB p)) rfl rfl rfl rfl
  have h6:=h5.1.one (s':={ s with asks:=p,waits:=true }) (i:=5) (u:=.bool true) rfl rfl rfl rfl
  have hb46:TBut L.B W4 (((W4.setCell ⟨L.R,4,none⟩ (.string (strB p))).setCell ⟨L.R,5,none⟩ (.bool true)).drew):=(h5.2.trans h6.2).drew
  have h7:=h6.1.below ((Below.refl _ _).drew)
  have hmap:MapAt w L q s→MapAt (((W4.setCell ⟨L.R,4,none⟩ (.string (strB p))).setCell ⟨L.R,5,none⟩ (.bool true)).drew) L q s:=fun hm=>(((hm.below hb0).setCell h4.run 4 _).setCell h5.1.run 5 _).below ((Below.refl _ _).drew)
  rw [← HR.out,← HS0.out] at h7 hb46 hmap
  obtain⟨W6,hW6⟩:∃ W6,W6=(((W4.setCell ⟨R,4,none⟩ (.string s0)).setCell ⟨R,5,none⟩ (.bool true)).drew):=⟨_,rfl⟩
  rw [← hW6] at h7 hb46 hmap ⊢
  have HMAP:=hid2 hmap
  clear hmap
  have hb06:TBut L.B w W6:=(TBut.of_below hb0 hB).trans hb46
  have hBB:L.B≤W6.heap.size:=h7.size
  have hB6:=(HBX.out.below HW4.out).keep hb46 (by decide) (by decide) (by decide)
  obtain⟨n,hn⟩:∃ n,n=s.todo.length:=⟨_,rfl⟩
  obtain⟨V,hV⟩:∃ V,V=us.reverse:=⟨_,rfl⟩
  have hown:Own W6 L.B 1 1 A n c V:=by rw [hn,hV];exact h7.row
  have HOWN:=hid2 hown
  have HBOX:=hid2 (show ∀ w2,PushM W6 L.B A n c V w2→w2.cell? ⟨w.heap.size,0,none⟩=some (.pointer (some ⟨R,0,none⟩)) from fun w2 hm=>(hB6.keep (hm.tbut HOWN.out hBB) (by decide) (by decide) (by decide)).cells.1)
  have HRC:=hid2 (show ∀ w2,PushM W6 L.B A n c V w2→w2.cell? ⟨R,0,none⟩=some (.slice A n c)∧w2.frozen? ⟨R,0,none⟩=false from fun w2 hm=>by
   have hr:w2.heap[R]?=some (.cells (runV A s.todo.length c L.EA v.env.length L.ec s.buf L.m p true s.over) 63 (0,0)):=by
    have h8:=h7.run
    rw [← HR.out] at h8
    exact (hm.1.block R h8.lt fun e=>HOWN.out.ne h8 (by decide) e.symm).trans h8
   rw [hn]
   exact⟨cell_of_row w2 R 0 _ _ _ hr,frozen_of_row w2 R 0 _ _ hr⟩)
  have H7:=hid2 h7
  have HB6:=hid2 hB6
  have HN:=hid2 hn
  have HV:=hid2 hV
  have HB06:=hid2 hb06
  clear hn
  have hB:=hBB
  have hn:=HL.out
  rw [← HN.out] at hn
  clear h4 h5 h6 hb46 hW6 h7 hB6 hb06 hown hV hBB q4 q5 z4 z5 hcr hcs hb0 HKP
  go_wp2_with fail
  refine wp_region_rel 10 (by kernel_rfl) (by kernel_rfl) (by kernel_rfl) _ rfl (by kernel_rfl) (VV [some (.pointer (some ⟨R,0,none⟩)),some (.pointer (some ⟨R,0,none⟩)),some (.pointer (some ⟨R,0,none⟩)),some (.pointer (some ⟨R,0,none⟩)),some (.slice A n c),some (.func (.func 66) #[] #[.pointer (some ⟨w.heap.size+1+1,0,none⟩),.pointer (some ⟨w.heap.size,0,none⟩),.pointer (some ⟨w.heap.size+1,0,none⟩)]),none,none,some (.pointer (some ⟨R,0,none⟩)),some (.pointer (some ⟨R,0,none⟩))] (PushX (L.B) A n c V (.func (.func 66) #[] #[.pointer (some ⟨w.heap.size+1+1,0,none⟩),.pointer (some ⟨w.heap.size,0,none⟩),.pointer (some ⟨w.heap.size+1,0,none⟩)]))) (PushM W6 (L.B) A n c V) (KeptBut (L.B) 1 1 A c (n+1) (V++[.func (.func 66) #[] #[.pointer (some ⟨w.heap.size+1+1,0,none⟩),.pointer (some ⟨w.heap.size,0,none⟩),.pointer (some ⟨w.heap.size+1,0,none⟩)]])) (PushM.start HOWN.out) (fun j v w1 w2 hb hv=>VV.keep (PushX.keep hb) hv) ?_ ?_
  ·refine of_allOps ⟨?_,?_,?_,?_,?_,?_,?_,?_,?_,?_,trivial⟩
   ·refine⟨rfl,fun T2 w2 hM hN hO hE K hK=>?_⟩
    have o3:T2[3]?=some (.pointer (some ⟨w.heap.size,0,none⟩)):=hO 3 rfl
    clear hE hO hN
    have hcc:=HBOX.out w2 hM
    go_simp
    exact hK _ _ rfl hM (KeptBut.refl _)
   ·refine⟨rfl,fun T2 w2 hM hN hO hE K hK=>?_⟩
    have o3:T2[3]?=some (.pointer (some ⟨w.heap.size,0,none⟩)):=hO 3 rfl
    clear hE hO hN
    have hcc:=HBOX.out w2 hM
    go_simp
    exact hK _ _ rfl hM (KeptBut.refl _)
   ·refine⟨rfl,fun T2 w2 hM hN hO hE K hK=>?_⟩
    obtain⟨v1,h1,e1⟩:=hE ⟨1,.data⟩ (by simp) rfl _ _ rfl rfl
    rw [show v1 = .pointer (some ⟨R,0,none⟩) from e1] at h1
    clear hE hO hN
    go_simp
    exact hK _ _ rfl hM (KeptBut.refl _)
   ·refine⟨rfl,fun T2 w2 hM hN hO hE K hK=>?_⟩
    obtain⟨v2,h2,e2⟩:=hE ⟨2,.data⟩ (by simp) rfl _ _ rfl rfl
    rw [show v2 = .pointer (some ⟨R,0,none⟩) from e2] at h2
    clear hE hO hN
    go_simp
    exact hK _ _ rfl hM (KeptBut.refl _)
   ·refine⟨rfl,fun T2 w2 hM hN hO hE K hK=>?_⟩
    obtain⟨v3,h3,e3⟩:=hE ⟨3,.data⟩ (by simp) rfl _ _ rfl rfl
    rw [show v3 = .pointer (some ⟨R,0,none⟩) from e3] at h3
    clear hE hO hN
    have hcc:=(HRC.out w2 hM).1
    go_simp
    exact hK _ _ rfl hM (KeptBut.refl _)
   ·refine⟨rfl,fun T2 w2 hM hN hO hE K hK=>?_⟩
    have o5:T2[5]?=some (.pointer (some ⟨w.heap.size+1+1,0,none⟩)):=hO 5 rfl
    have o3:T2[3]?=some (.pointer (some ⟨w.heap.size,0,none⟩)):=hO 3 rfl
    have o4:T2[4]?=some (.pointer (some ⟨w.heap.size+1,0,none⟩)):=hO 4 rfl
    clear hE hO hN
    go_simp
    exact hK _ _ rfl hM (KeptBut.refl _)
   ·refine⟨rfl,fun T2 w2 hM hN hO hE K hK=>?_⟩
    obtain⟨v5,h5,e5⟩:=hE ⟨5,.data⟩ (by simp) rfl _ _ rfl rfl
    rw [show v5 = .func (.func 66) #[] #[.pointer (some ⟨w.heap.size+1+1,0,none⟩),.pointer (some ⟨w.heap.size,0,none⟩),.pointer (some ⟨w.heap.size+1,0,none⟩)] from e5] at h5
    clear hE hO hN
    go_simp
    exact hK _ _ ⟨fun _=>⟨_,rfl,World.alloc_heap_new w2 _,hM.newb⟩,fun e=>absurd e (by decide)⟩ (hM.alloc _) (KeptBut.alloc w2 _)
   ·refine⟨rfl,fun T2 w2 hM hN hO hE K hK=>?_⟩
    obtain⟨v4,h4,e4⟩:=hE ⟨4,.data⟩ (by simp) rfl _ _ rfl rfl
    rw [show v4 = .slice A n c from e4] at h4
    obtain⟨v6,h6,e6⟩:=hE ⟨6,.data⟩ (by simp) rfl _ _ rfl rfl
    clear hE hO hN
    obtain⟨g9,rfl,hr9,hne9⟩:=(show PushX (L.B) A n c V (.func (.func 66) #[] #[.pointer (some ⟨w.heap.size+1+1,0,none⟩),.pointer (some ⟨w.heap.size,0,none⟩),.pointer (some ⟨w.heap.size+1,0,none⟩)]) 6 v6 w2 from e6).1 rfl
    have rd9:Rd w2 1 (some ⟨g9,0,none⟩) 1 [.func (.func 66) #[] #[.pointer (some ⟨w.heap.size+1+1,0,none⟩),.pointer (some ⟨w.heap.size,0,none⟩),.pointer (some ⟨w.heap.size+1,0,none⟩)]]:=⟨rfl,fun _=>⟨g9,0,rfl,fun j u hu=>by rw [cell_of_row w2 g9 _ _ _ _ hr9,Nat.zero_add];simpa using hu⟩⟩
    refine wp_append_two _ _ _ _ rfl 1 .nilFunc 1 8 Tryz.underlying61 info_fn rfl (L.B) A n c V hM.2 1 [.func (.func 66) #[] #[.pointer (some ⟨w.heap.size+1+1,0,none⟩),.pointer (some ⟨w.heap.size,0,none⟩),.pointer (some ⟨w.heap.size+1,0,none⟩)]] (.slice (some ⟨g9,0,none⟩) 1 1) (Src.slice Tryz.underlying61 rd9) (fun u hu=>by rw [List.mem_singleton.1 hu];rfl) ?_ ?_ ?_ ?_ ?_
    ·unfold maxLen;omega
    ·omega
    ·exact Nat.le_trans hB hM.1.size
    ·exact⟨by simp [Act.eval,h4],by simp [Act.eval,h6]⟩
    ·intro A2 c2 w3 hcame hkept hown3
     exact hK _ _ ⟨fun e=>absurd e (by decide),fun _=>⟨A2,c2,rfl,hcame⟩⟩ ⟨grownBy_trans hM.1 hkept.1,hown3⟩ hkept
   ·refine⟨rfl,fun T2 w2 hM hN hO hE K hK=>?_⟩
    obtain⟨v0,h0,e0⟩:=hE ⟨0,.data⟩ (by simp) rfl _ _ rfl rfl
    rw [show v0 = .pointer (some ⟨R,0,none⟩) from e0] at h0
    clear hE hO hN
    go_simp
    exact hK _ _ rfl hM (KeptBut.refl _)
   ·refine⟨rfl,fun T2 w2 hM hN hO hE K hK=>?_⟩
    obtain⟨v8,h8,e8⟩:=hE ⟨8,.data⟩ (by simp) rfl _ _ rfl rfl
    rw [show v8 = .pointer (some ⟨R,0,none⟩) from e8] at h8
    clear hE hO hN
    go_simp
    exact hK _ _ rfl hM (KeptBut.refl _)
  ·intro u w2 hM hF
   have e9:u 9 = .pointer (some ⟨R,0,none⟩):=hF 9 (by omega)
   obtain⟨A7,c7,e7,hcame⟩:=(show PushX (L.B) A n c V (.func (.func 66) #[] #[.pointer (some ⟨w.heap.size+1+1,0,none⟩),.pointer (some ⟨w.heap.size,0,none⟩),.pointer (some ⟨w.heap.size+1,0,none⟩)]) 7 (u 7) w2 from hF 7 (by omega)).2 rfl
   clear hF
   simp only [fillAll,Nat.reduceAdd,e9,e7,List.take_succ_cons,List.take_zero,List.drop_succ_cons,List.drop_zero,List.setIfInBounds_toArray,List.set_cons_succ,List.set_cons_zero]
   have hcR:=(HRC.out w2 hM).1
   have hfR:=(HRC.out w2 hM).2
   have HM2:=hid2 hM
   have HCAME:=hid2 hcame
   clear hM hcame
   go_wp2_with fail
   refine bodyPost_ret (results_none rfl _ _ _) rfl ?_
   have hb2:=HM2.out.tbut HOWN.out hB
   have hbx:=HB6.out.keep hb2 (by decide) (by decide) (by decide)
   have hM3:=HM2.out
   have hC3:=HCAME.out
   rw [HPQ.out]
   rw [HN.out,HV.out] at hM3 hC3
   have hbx1:=hbx.1
   rw [HR.out] at hbx1
   have hbx2:=hbx.2.1
   rw [HS0.out] at hbx2
   have hf:=H7.out.push hM3 hC3 (t:=.ans p th) ⟨_,_,_,_,rfl,hbx.2.2,HTH.out.keep (HB06.out.trans hb2),hbx1,hbx2⟩ ?_
   ·rw [HN.out,HR.out]
    exact⟨rfl,⟨_,_,_,hf.1⟩,HB06.out.trans hf.2⟩
   ·rcases HSM.out with h1 | h1
    ·exact .inl h1
    ·exact .inr (HMAP.out h1))
end Go.Proofs.YtnecjdhamohadaaGreatDoor
namespace Go.Proofs.YtnecjdhamohadaaGreatDoor
open Go.RowKit Go.Shelf
attribute [local go_sem] Oper.semAt_some
theorem TBut.put {B:Nat} (W:World) (l:Nat) (o o':Obj) (hl:B≤l) (h:W.heap[l]?=some o) (h1:o.isCells=false):TBut B W (W.putObj l o'):=by
 have hg:=grownBy_putObj' W l o'
 refine⟨hg.os,hg.tape,hg.output,hg.size,fun k hk=>hg.block k (by have:=heap_lt h;omega) (fun e=>by cases e;omega),fun k cs t fr hk _ _=>hg.block k (heap_lt hk) fun e=>?_⟩
 cases e
 rw [h] at hk
 cases hk
 cases h1
theorem strV_get {l:List TT} {k:Nat} {x:TT} (h:l[k]?=some x):(strV l)[k]?=some (.string (strB x)):=by rw [strV,List.getElem?_map,h];rfl
abbrev TX:={ x:Int × TT // x.2.length≤1000000000 }
def encT (x:TX):Array Value:=#[.int .i64 x.1.1,.string (strB x.1.2)]
set_option maxRecDepth 100000 in
set_option maxHeartbeats 2000000 in
theorem tback1_in (n:Nat) (hn:1≤n) (l Bs B:Nat) (A:Option Addr) (cap:Nat) (zs:List TT) (hreach:zs.length≤1000000000) (hall:∀ p∈zs,p.length≤1000000000) (J Jx:List TX→World→Prop)
  (hY:∀ pre x W,J pre W→pre.length < zs.length→YieldAt Fence.wide (n - 1) Tryz.prog l (encT x) W fun e W'=>(e = .returned (.bool true)∧J (pre++[x]) W'∧TBut B W W')∨(e = .returned (.bool false)∧Jx (pre++[x]) W'))
  (W:World) (hBs:W.cell? ⟨Bs,0,none⟩=some (.slice A zs.length cap)) (hc:∀ W',TBut B W W'→W'.cell? ⟨Bs,0,none⟩=some (.slice A zs.length cap)) (hr:∀ W',TBut B W W'→Rd W' 1 A zs.length (strV zs)) (h0:J [] W) :
  CallsIn Fence.wide n Tryz.prog 92 #[.func (.yield l) #[] #[],.pointer (some ⟨Bs,0,none⟩)] W fun e W'=>(∃ v,e = .returned v)∧((∃ ys,ys.map (·.1.2)=zs.reverse∧J ys W')∨(∃ pre,True∧Jx pre W')):=by
 have h7:=wide_fn 92
 obtain⟨len,hlen⟩:∃ len,len=zs.length:=⟨_,rfl⟩
 rw [← hlen] at hreach hY hBs hc hr
 refine callsIn_of_wp Tryz.func92 rfl h7 ?_ rfl
 simp only [Tryz.ntmps92,List.size_toArray,List.length_cons,List.length_nil,Nat.reduceAdd,Nat.reduceSub,Array.replicate_succ,Array.replicate_zero,List.push_toArray,List.append_toArray,List.nil_append,List.cons_append]
 gi_wp2
 gi_loopw [3] (fun i wr=>∃ (q:Nat) (ys:List TX) (i':Int),i = .int .i64 i'∧i'=(q:Int) - 1∧q≤len∧ys.map (·.1.2)=(zs.drop q).reverse∧J ys wr∧TBut B W wr) (fun i _=>(intOf i+1).toNat)
 case atStart=>exact⟨len,[],_,rfl,by omega,Nat.le_refl _,by rw [hlen,List.drop_length];rfl,h0,TBut.refl _ _⟩
 case round =>
  obtain⟨q,ys,i',rfl,hi',hq,hys,hJs,hnx⟩:=hrel
  by_cases hlt:0 < q
  ·obtain⟨p,rfl⟩:∃ p,q=p+1:=⟨q - 1,by omega⟩
   obtain rfl:i'=(p:Int):=by omega
   clear hi'
   obtain⟨x,hx⟩:∃ x,zs[p]?=some x:=⟨_,List.getElem?_eq_getElem (by omega)⟩
   have hts:(zs.drop p).reverse=(zs.drop (p+1)).reverse++[x]:=by
    obtain⟨hp,rfl⟩:=List.getElem?_eq_some_iff.1 hx
    rw [List.drop_eq_getElem_cons hp,List.reverse_cons]
   obtain⟨b',o,rfl,hcell⟩:=(hr wr hnx).2 (by omega)
   have hcx:wr.cell? ⟨b',o+p,none⟩=some (.string (strB x)):=hcell p _ (strV_get hx)
   have hcb:=hc wr hnx
   have hlx:=hall x (List.mem_of_getElem? hx)
   have hyl:ys.length < len:=by
    have:=congrArg List.length hys
    rw [List.length_map,List.length_reverse,List.length_drop] at this
    omega
   have hy0:=hY ys ⟨((p:Int),x),hlx⟩ wr hJs hyl
   have hsnoc:(ys++[(⟨((p:Int),x),hlx⟩:TX)]).map (·.1.2)=(zs.drop p).reverse:=by rw [List.map_append,hys,hts];rfl
   unfold encT at hy0
   simp only at hy0
   obtain⟨fn,tmps,assign,body,hy,hR⟩:=hy0
   have hk0:(0:Int)≤p:=by omega
   have hkl:(p:Int) < len:=by omega
   have HSN:=hid2 hsnoc
   have HX:=hid2 hx
   clear hx hts hcell hys hsnoc
   gi_wp2
   refine hR.mono ?_
   rintro e W3 (⟨rfl,hJ3,hk3⟩ | ⟨rfl,hJx3⟩)
   ·gi_wp2
    go_roundw
    case rel=>exact⟨p,_,_,rfl,by omega,by omega,HSN.out,hJ3,hnx.trans hk3⟩
    case measure=>simp [intOf]
   ·gi_wp2
    refine bodyPost_ret (results_none rfl _ _ _) rfl ?_
    exact⟨⟨_,rfl⟩,.inr ⟨_,trivial,hJx3⟩⟩
  ·obtain rfl:q=0:=by omega
   obtain rfl:i' = -1:=by omega
   clear hi'
   rw [List.drop_zero] at hys
   have HYS:=hid2 hys
   clear hys
   gi_wp2
   go_end0
   exact⟨⟨_,rfl⟩,.inl ⟨_,HYS.out,hJs⟩⟩
theorem tback_any (w:World) (a:Option Addr) (len cap:Nat) :
  Calls Tryz.prog 69 #[.slice a len cap] w fun e w'=>e = .returned (.func (.func 92) #[] #[.pointer (some ⟨w.heap.size,0,none⟩)])∧w'=w.alloc (.cells #[.slice a len cap] 32):=by
 go_enter Tryz.func69,Tryz.ntmps69
 go_wp2
 go_ret
 exact⟨rfl,rfl⟩
theorem tback_stops (n:Nat) (hn:1≤n) (Bs B:Nat) (A:Option Addr) (cap:Nat) (zs:List TT) (hreach:zs.length≤1000000000) (hall:∀ p∈zs,p.length≤1000000000) (w:World) (hB:B≤w.heap.size)
  (hc:CellB w Bs #[.slice A zs.length cap] 32) (hr:∀ W',TBut B w W'→Rd W' 1 A zs.length (strV zs)) :
  SeqStopsK Fence.wide n Tryz.prog 92 #[.pointer (some ⟨Bs,0,none⟩)] encT (TBut B) (fun ys=>ys.map (·.1.2)=zs.reverse) (fun _=>True) zs.length w:=fun l J Jx W hW _ _ hY h0=>by
 have hK:∀ W',TBut B W W'→TBut B w W':=fun W' h=>(TBut.of_below hW hB).trans h
 have hcc:∀ W',TBut B W W'→W'.cell? ⟨Bs,0,none⟩=some (.slice A zs.length cap):=fun W' h=>(hc.keep (hK W' h) (by decide) (by decide)).cell 0
 refine (tback1_in n hn l Bs B A cap zs hreach hall J Jx hY W (hcc W (TBut.refl _ _)) hcc (fun W' h=>hr W' (hK W' h)) h0).mono ?_
 rintro e W' ⟨he,⟨ys,hp,hj⟩ | ⟨pre,hp,hj⟩⟩
 ·exact⟨he,.inl ⟨_,hp,hj⟩⟩
 ·exact⟨he,.inr ⟨pre,hp,hj⟩⟩
end Go.Proofs.YtnecjdhamohadaaGreatDoor
