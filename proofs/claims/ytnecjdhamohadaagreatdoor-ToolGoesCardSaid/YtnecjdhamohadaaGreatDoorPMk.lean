/- A tool's run: a line of a scanned text; an answer that has come. -/
import Derived.Test.YtnecjdhamohadaaGreatDoorPMj
import Derived.Test.YtnecjdhamohadaaGreatDoorPMb
set_option linter.unusedSimpArgs false
set_option linter.unusedVariables false
namespace Go.Proofs.YtnecjdhamohadaaGreatDoor
open Go.RowKit Go.Maps Go.Shelf
set_option maxRecDepth 100000
theorem zero_bool (w:World):(zeroValue 4).run Tryz.prog w = .ok (encB false) w:=by kernel_rfl
set_option maxHeartbeats 4000000 in
theorem line_few (w:World) (L:RLay) (v:Env) (hv:v.may=mayB) (q:Option Nat) (s:PS) (h:RunIs w L v q s) (hf:Fit w L s) (x wd:TT) (hx:x.length≤1000000) (g1 g2 g3 g4:Nat) (h1:SBox w g1 x) (h2:SBox w g2 wd) (h3:RBox w g3 L.R) (h4:MBox w g4 q) (hn:(wordsT x).length≠2) :
  Calls Tryz.prog 70 #[ptrV g1,ptrV g2,ptrV g3,ptrV g4] w (VPost w L v q (s.add (x++[10]))):=by
 have hB:=h.size
 have cW:=words_any w x (by omega)
 obtain⟨R,hR⟩:∃ R,R=L.R:=⟨_,rfl⟩
 obtain⟨X,hX⟩:∃ X,X=strB x:=⟨_,rfl⟩
 obtain⟨WD,hWD⟩:∃ WD,WD=strB wd:=⟨_,rfl⟩
 obtain⟨Pq,hPq⟩:∃ Pq:Ending→World→Prop,Pq=VPost w L v q (s.add (x++[10])):=⟨_,rfl⟩
 have c1:w.cell? ⟨g1,0,none⟩=some (.string X):=by rw [hX];exact CellB.cell h1 0
 have c2:w.cell? ⟨g2,0,none⟩=some (.string WD):=by rw [hWD];exact CellB.cell h2 0
 have c3:w.cell? ⟨g3,0,none⟩=some (.pointer (some ⟨R,0,none⟩)):=by rw [hR];exact CellB.cell h3 0
 have l1:g1 < w.heap.size:=CellB.lt h1
 have l2:g2 < w.heap.size:=CellB.lt h2
 have l3:g3 < w.heap.size:=CellB.lt h3
 rw [← hX] at cW
 rw [ptrV,ptrV,ptrV,ptrV,← hPq]
 have hXs:X.size≤1000000:=by rw [hX,strB_size];exact hx
 have hcat:X++⟨#[10]⟩=strB (x++[10]):=by rw [hX];exact strB_append x [10]
 have hA:=fun (W:World) (hW:Below w.heap.size w W)=>show Calls Tryz.prog 41 #[.pointer (some ⟨R,0,none⟩),.string (X++⟨#[10]⟩)] W fun e w2=>e = .returned (.tuple #[])∧Pq (.returned (.tuple #[])) w2 from by
  have:=add_any W L v q s (h.below hW) hf.lim.buf (x++[10]) (by simp;omega)
  rw [← hcat,ptrV,← hR] at this
  refine this.mono fun e w2 k=>⟨k.1,?_⟩
  rw [hPq]
  have:=k.since hW hB
  rw [k.1] at this
  exact this
 have HA:=hid2 hA
 have hsz1:¬ (X.size+1 > 9223372036854775807):=by omega
 obtain⟨n,hnn⟩:∃ n,n=(wordsT x).length:=⟨_,rfl⟩
 rw [← hnn] at cW hn
 have hni:(n:Int)≠2:=by omega
 have hnb:((n:Int) != 2)=true:=by simpa using hni
 have CW:=hid2 cW
 clear cW hX hPq hWD h1 h2 h3 h4 h hf hA hcat hR hx hnn hn hv
 go_enter Tryz.func70,Tryz.ntmps70
 go_wp2_with (go_at_call 61; refine CW.out.mono ?_;rintro e w1 ⟨A,c,rfl,ho,hb⟩;have HB:=hid2 hb;have HO:=hid2 ho;clear ho hb)
 have hb1:=HB.out
 have hsz:=hb1.size
 have HC:=hid2 (show ∀ w2,Below w1.heap.size w1 w2→w2.cell? ⟨g1,0,none⟩=some (.string X)∧w2.cell? ⟨g2,0,none⟩=some (.string WD)∧w2.cell? ⟨g3,0,none⟩=some (.pointer (some ⟨R,0,none⟩)) from fun w2 hb=>by
  have h0:=hb1.trans (hb.mono hsz)
  exact⟨(h0.cell (p:=⟨g1,0,none⟩) l1).trans c1,(h0.cell (p:=⟨g2,0,none⟩) l2).trans c2,(h0.cell (p:=⟨g3,0,none⟩) l3).trans c3⟩)
 refine wp_region_grd 17 (by kernel_rfl) (by kernel_rfl) (by kernel_rfl) _ rfl (by kernel_rfl) (VV [some (.slice A n c),some (.int .i64 n),some (.bool true),some (.bool true),some (undef),some (undef),some (undef),some (undef),some (undef),some (.bool true),some (.bool true),some (undef),some (undef),some (undef),some (undef),some (undef),some (.bool true)] (fun _ _ _=>False)) (fun w2=>Below w1.heap.size w1 w2) (fun a b=>Below a.heap.size a b) ((Below.refl _ w1).drew) (fun j v w1 w2 hb hv=>VV.keep (fun h=>h.elim) hv) ?_ ?_
 ·refine of_allOps ⟨?_,?_,?_,?_,?_,?_,?_,?_,?_,?_,?_,?_,?_,?_,?_,?_,?_,trivial⟩
  ·intro T2 w2 hM hN hO hE K hK
   have o4:T2[4]?=some (.slice A n c):=hO 4 rfl
   clear hE hO hN
   refine step_plain0 rfl ?_
   go_simp
   exact hK _ _ rfl hM (Below.refl _ _)
  ·intro T2 w2 hM hN hO hE K hK
   obtain⟨v0,h0,e0⟩:=hE ⟨0,.data⟩ (by simp) rfl _ _ rfl rfl
   rw [show v0 = .slice A n c from e0] at h0
   clear hE hO hN
   refine step_plain0 rfl ?_
   go_simp
   exact hK _ _ rfl hM (Below.refl _ _)
  ·intro T2 w2 hM hN hO hE K hK
   obtain⟨v1,h1,e1⟩:=hE ⟨1,.data⟩ (by simp) rfl _ _ rfl rfl
   rw [show v1 = .int .i64 n from e1] at h1
   clear hE hO hN
   refine step_plain0 rfl ?_
   go_simp
   exact hK _ _ rfl hM (Below.refl _ _)
  ·intro T2 w2 hM hN hO hE K hK
   obtain⟨v2,h2,e2⟩:=hE ⟨2,.data⟩ (by simp) rfl _ _ rfl rfl
   rw [show v2 = .bool true from e2] at h2
   clear hE hO hN
   refine step_plain0 rfl ?_
   go_simp
   exact hK _ _ rfl hM (Below.refl _ _)
  ·intro T2 w2 hM hN hO hE K hK
   obtain⟨v3,h3,e3⟩:=hE ⟨3,.guard⟩ (by simp) rfl _ _ rfl rfl
   rw [show v3 = .bool true from e3] at h3
   clear hE hO hN
   refine grd_not rfl rfl rfl h3 (by decide) ?_
   exact hK _ _ rfl hM (Below.refl _ _)
  ·intro T2 w2 hM hN hO hE K hK
   obtain⟨v3,h3,e3⟩:=hE ⟨3,.guard⟩ (by simp) rfl _ _ rfl rfl
   rw [show v3 = .bool true from e3] at h3
   clear hE hO hN
   refine grd_not rfl rfl rfl h3 (by decide) ?_
   exact hK _ _ rfl hM (Below.refl _ _)
  ·intro T2 w2 hM hN hO hE K hK
   obtain⟨v3,h3,e3⟩:=hE ⟨3,.guard⟩ (by simp) rfl _ _ rfl rfl
   rw [show v3 = .bool true from e3] at h3
   clear hE hO hN
   refine grd_not rfl rfl rfl h3 (by decide) ?_
   exact hK _ _ rfl hM (Below.refl _ _)
  ·intro T2 w2 hM hN hO hE K hK
   obtain⟨v3,h3,e3⟩:=hE ⟨3,.guard⟩ (by simp) rfl _ _ rfl rfl
   rw [show v3 = .bool true from e3] at h3
   clear hE hO hN
   refine grd_not rfl rfl rfl h3 (by decide) ?_
   exact hK _ _ rfl hM (Below.refl _ _)
  ·intro T2 w2 hM hN hO hE K hK
   obtain⟨v3,h3,e3⟩:=hE ⟨3,.guard⟩ (by simp) rfl _ _ rfl rfl
   rw [show v3 = .bool true from e3] at h3
   clear hE hO hN
   refine grd_not rfl rfl rfl h3 (by decide) ?_
   exact hK _ _ rfl hM (Below.refl _ _)
  ·intro T2 w2 hM hN hO hE K hK
   obtain⟨v3,h3,e3⟩:=hE ⟨3,.data⟩ (by simp) rfl _ _ rfl rfl
   rw [show v3 = .bool true from e3] at h3
   obtain⟨v8,h8,e8⟩:=hE ⟨8,.data⟩ (by simp) rfl _ _ rfl rfl
   rw [show v8=undef from e8] at h8
   clear hE hO hN
   refine step_plain0 rfl ?_
   go_simp
   exact hK _ _ rfl hM (Below.refl _ _)
  ·intro T2 w2 hM hN hO hE K hK
   obtain⟨v9,h9,e9⟩:=hE ⟨9,.data⟩ (by simp) rfl _ _ rfl rfl
   rw [show v9 = .bool true from e9] at h9
   clear hE hO hN
   refine step_plain0 rfl ?_
   go_simp
   exact hK _ _ rfl hM (Below.refl _ _)
  ·intro T2 w2 hM hN hO hE K hK
   obtain⟨v10,h10,e10⟩:=hE ⟨10,.guard⟩ (by simp) rfl _ _ rfl rfl
   rw [show v10 = .bool true from e10] at h10
   clear hE hO hN
   refine grd_not rfl rfl rfl h10 (by decide) ?_
   exact hK _ _ rfl hM (Below.refl _ _)
  ·intro T2 w2 hM hN hO hE K hK
   obtain⟨v10,h10,e10⟩:=hE ⟨10,.guard⟩ (by simp) rfl _ _ rfl rfl
   rw [show v10 = .bool true from e10] at h10
   clear hE hO hN
   refine grd_not rfl rfl rfl h10 (by decide) ?_
   exact hK _ _ rfl hM (Below.refl _ _)
  ·intro T2 w2 hM hN hO hE K hK
   obtain⟨v10,h10,e10⟩:=hE ⟨10,.guard⟩ (by simp) rfl _ _ rfl rfl
   rw [show v10 = .bool true from e10] at h10
   clear hE hO hN
   refine grd_not rfl rfl rfl h10 (by decide) ?_
   exact hK _ _ rfl hM (Below.refl _ _)
  ·intro T2 w2 hM hN hO hE K hK
   obtain⟨v10,h10,e10⟩:=hE ⟨10,.guard⟩ (by simp) rfl _ _ rfl rfl
   rw [show v10 = .bool true from e10] at h10
   clear hE hO hN
   refine grd_not rfl rfl rfl h10 (by decide) ?_
   exact hK _ _ rfl hM (Below.refl _ _)
  ·intro T2 w2 hM hN hO hE K hK
   obtain⟨v10,h10,e10⟩:=hE ⟨10,.guard⟩ (by simp) rfl _ _ rfl rfl
   rw [show v10 = .bool true from e10] at h10
   clear hE hO hN
   refine grd_not rfl rfl rfl h10 (by decide) ?_
   exact hK _ _ rfl hM (Below.refl _ _)
  ·intro T2 w2 hM hN hO hE K hK
   obtain⟨v10,h10,e10⟩:=hE ⟨10,.data⟩ (by simp) rfl _ _ rfl rfl
   rw [show v10 = .bool true from e10] at h10
   obtain⟨v15,h15,e15⟩:=hE ⟨15,.data⟩ (by simp) rfl _ _ rfl rfl
   rw [show v15=undef from e15] at h15
   clear hE hO hN
   refine step_plain0 rfl ?_
   go_simp
   exact hK _ _ rfl hM (Below.refl _ _)
 ·intro u w2 hM hF
  have e16:u 16 = .bool true:=hF 16 (by omega)
  clear hF
  simp only [fillAll,Nat.reduceAdd,e16,List.take_succ_cons,List.take_zero,List.drop_succ_cons,List.drop_zero,List.setIfInBounds_toArray,List.set_cons_succ,List.set_cons_zero]
  have hca:=(HC.out w2 hM).1
  have hcb:=(HC.out w2 hM).2.2
  have HMM:=hid2 hM
  clear hM HC
  go_wp2_with (go_at_call 41; refine (HA.out w2 (HB.out.trans (HMM.out.mono hsz))).mono ?_;rintro e w3 ⟨rfl,hp⟩;have HP:=hid2 hp;clear hp)
  refine bodyPost_ret (results_none rfl _ _ _) rfl ?_
  exact HP.out
set_option maxHeartbeats 4000000 in
theorem line_other (w:World) (L:RLay) (v:Env) (hv:v.may=mayB) (q:Option Nat) (s:PS) (h:RunIs w L v q s) (hf:Fit w L s) (x wd:TT) (hx:x.length≤1000000) (g1 g2 g3 g4:Nat) (h1:SBox w g1 x) (h2:SBox w g2 wd) (h3:RBox w g3 L.R) (h4:MBox w g4 q) (a b:TT) (hw:wordsT x=[a,b]) (hne:a≠wd) :
  Calls Tryz.prog 70 #[ptrV g1,ptrV g2,ptrV g3,ptrV g4] w (VPost w L v q (s.add (x++[10]))):=by
 have hB:=h.size
 have cW:=words_any w x (by omega)
 obtain⟨R,hR⟩:∃ R,R=L.R:=⟨_,rfl⟩
 obtain⟨X,hX⟩:∃ X,X=strB x:=⟨_,rfl⟩
 obtain⟨WD,hWD⟩:∃ WD,WD=strB wd:=⟨_,rfl⟩
 obtain⟨Pq,hPq⟩:∃ Pq:Ending→World→Prop,Pq=VPost w L v q (s.add (x++[10])):=⟨_,rfl⟩
 have c1:w.cell? ⟨g1,0,none⟩=some (.string X):=by rw [hX];exact CellB.cell h1 0
 have c2:w.cell? ⟨g2,0,none⟩=some (.string WD):=by rw [hWD];exact CellB.cell h2 0
 have c3:w.cell? ⟨g3,0,none⟩=some (.pointer (some ⟨R,0,none⟩)):=by rw [hR];exact CellB.cell h3 0
 have l1:g1 < w.heap.size:=CellB.lt h1
 have l2:g2 < w.heap.size:=CellB.lt h2
 have l3:g3 < w.heap.size:=CellB.lt h3
 rw [← hX] at cW
 rw [ptrV,ptrV,ptrV,ptrV,← hPq]
 have hXs:X.size≤1000000:=by rw [hX,strB_size];exact hx
 have hcat:X++⟨#[10]⟩=strB (x++[10]):=by rw [hX];exact strB_append x [10]
 have hA:=fun (W:World) (hW:Below w.heap.size w W)=>show Calls Tryz.prog 41 #[.pointer (some ⟨R,0,none⟩),.string (X++⟨#[10]⟩)] W fun e w2=>e = .returned (.tuple #[])∧Pq (.returned (.tuple #[])) w2 from by
  have:=add_any W L v q s (h.below hW) hf.lim.buf (x++[10]) (by simp;omega)
  rw [← hcat,ptrV,← hR] at this
  refine this.mono fun e w2 k=>⟨k.1,?_⟩
  rw [hPq]
  have:=k.since hW hB
  rw [k.1] at this
  exact this
 have HA:=hid2 hA
 have hsz1:¬ (X.size+1 > 9223372036854775807):=by omega
 obtain⟨A0,hA0⟩:∃ A0,A0=strB a:=⟨_,rfl⟩
 obtain⟨B0,hB0⟩:∃ B0,B0=strB b:=⟨_,rfl⟩
 have hwe:strV (wordsT x)=[.string A0,.string B0]:=by rw [hw,hA0,hB0];rfl
 have hwl:(wordsT x).length=2:=by rw [hw];rfl
 have hbl:b.length≤1000000:=Nat.le_trans (wordsT_mem (s:=x) (x:=b) (by rw [hw];simp)).2.2 hx
 rw [hwe,hwl] at cW
 have CW:=hid2 cW
 have hneq:(A0.toList == WD.toList)=false:=by rw [hA0,hWD,toList_strBT,toList_strBT,beq_eq_false_iff_ne];exact hne
 have hneq2:¬ A0.toList=WD.toList:=by rw [hA0,hWD,toList_strBT,toList_strBT];exact hne
 clear cW hX hPq hWD h1 h2 h3 h4 h hf hA hcat hR hx hw hwe hwl hA0 hB0 hne hbl hv
 go_enter Tryz.func70,Tryz.ntmps70
 go_wp2_with (go_at_call 61; refine CW.out.mono ?_;rintro e w1 ⟨A,c,rfl,ho,hb⟩;have HB:=hid2 hb;have HO:=hid2 ho;clear ho hb)
 have hb1:=HB.out
 have hsz:=hb1.size
 have HC:=hid2 (show ∀ w2,Below w1.heap.size w1 w2→w2.cell? ⟨g1,0,none⟩=some (.string X)∧w2.cell? ⟨g2,0,none⟩=some (.string WD)∧w2.cell? ⟨g3,0,none⟩=some (.pointer (some ⟨R,0,none⟩)) from fun w2 hb=>by
  have h0:=hb1.trans (hb.mono hsz)
  exact⟨(h0.cell (p:=⟨g1,0,none⟩) l1).trans c1,(h0.cell (p:=⟨g2,0,none⟩) l2).trans c2,(h0.cell (p:=⟨g3,0,none⟩) l3).trans c3⟩)
 obtain⟨b1,o1,rfl,hrc⟩:=HO.out.rd.2 (by decide)
 have r0:w1.cell? ⟨b1,o1,none⟩=some (.string A0):=hrc 0 _ rfl
 have r1:w1.cell? ⟨b1,o1+1,none⟩=some (.string B0):=hrc 1 _ rfl
 have hblt:b1 < w1.heap.size:=World.block_lt_of_cell? _ _ r0
 have hcap:(2:Int)≤c:=by have:=HO.out.2.1;omega
 have HRW:=hid2 (show ∀ w2,Below w1.heap.size w1 w2→w2.cell? ⟨b1,o1,none⟩=some (.string A0)∧w2.cell? ⟨b1,o1+1,none⟩=some (.string B0) from fun w2 hb=>⟨(hb.cell (p:=⟨b1,o1,none⟩) hblt).trans r0,(hb.cell (p:=⟨b1,o1+1,none⟩) hblt).trans r1⟩)
 clear hrc
 refine wp_region_grd 17 (by kernel_rfl) (by kernel_rfl) (by kernel_rfl) _ rfl (by kernel_rfl) (VV [some (.slice (some ⟨b1,o1,none⟩) 2 c),some (.int .i64 2),some (.bool false),some (.bool false),some (.slice (some ⟨b1,o1,none⟩) 2 c),some (.pointer (some ⟨b1,o1,none⟩)),some (.string A0),some (.string WD),some (.bool true),some (.bool true),some (.bool true),some (undef),some (undef),some (undef),some (undef),some (undef),some (.bool true)] (fun _ _ _=>False)) (fun w2=>Below w1.heap.size w1 w2) (fun a b=>Below a.heap.size a b) ((Below.refl _ w1).drew) (fun j v w1 w2 hb hv=>VV.keep (fun h=>h.elim) hv) ?_ ?_
 ·refine of_allOps ⟨?_,?_,?_,?_,?_,?_,?_,?_,?_,?_,?_,?_,?_,?_,?_,?_,?_,trivial⟩
  ·intro T2 w2 hM hN hO hE K hK
   have o4:T2[4]?=some (.slice (some ⟨b1,o1,none⟩) 2 c):=hO 4 rfl
   clear hE hO hN
   refine step_plain0 rfl ?_
   go_simp
   exact hK _ _ rfl hM (Below.refl _ _)
  ·intro T2 w2 hM hN hO hE K hK
   obtain⟨v0,h0,e0⟩:=hE ⟨0,.data⟩ (by simp) rfl _ _ rfl rfl
   rw [show v0 = .slice (some ⟨b1,o1,none⟩) 2 c from e0] at h0
   clear hE hO hN
   refine step_plain0 rfl ?_
   go_simp
   exact hK _ _ rfl hM (Below.refl _ _)
  ·intro T2 w2 hM hN hO hE K hK
   obtain⟨v1,h1,e1⟩:=hE ⟨1,.data⟩ (by simp) rfl _ _ rfl rfl
   rw [show v1 = .int .i64 2 from e1] at h1
   clear hE hO hN
   refine step_plain0 rfl ?_
   go_simp
   exact hK _ _ rfl hM (Below.refl _ _)
  ·intro T2 w2 hM hN hO hE K hK
   obtain⟨v2,h2,e2⟩:=hE ⟨2,.data⟩ (by simp) rfl _ _ rfl rfl
   rw [show v2 = .bool false from e2] at h2
   clear hE hO hN
   refine step_plain0 rfl ?_
   go_simp
   exact hK _ _ rfl hM (Below.refl _ _)
  ·intro T2 w2 hM hN hO hE K hK
   have o4:T2[4]?=some (.slice (some ⟨b1,o1,none⟩) 2 c):=hO 4 rfl
   obtain⟨v3,h3,e3⟩:=hE ⟨3,.guard⟩ (by simp) rfl _ _ rfl rfl
   rw [show v3 = .bool false from e3] at h3
   clear hE hO hN
   refine grd_met rfl rfl rfl h3 ?_
   go_simp
   exact hK _ _ rfl hM (Below.refl _ _)
  ·intro T2 w2 hM hN hO hE K hK
   obtain⟨v4,h4,e4⟩:=hE ⟨4,.data⟩ (by simp) rfl _ _ rfl rfl
   rw [show v4 = .slice (some ⟨b1,o1,none⟩) 2 c from e4] at h4
   obtain⟨v3,h3,e3⟩:=hE ⟨3,.guard⟩ (by simp) rfl _ _ rfl rfl
   rw [show v3 = .bool false from e3] at h3
   clear hE hO hN
   refine grd_met rfl rfl rfl h3 ?_
   go_simp
   exact hK _ _ rfl hM (Below.refl _ _)
  ·intro T2 w2 hM hN hO hE K hK
   obtain⟨v5,h5,e5⟩:=hE ⟨5,.data⟩ (by simp) rfl _ _ rfl rfl
   rw [show v5 = .pointer (some ⟨b1,o1,none⟩) from e5] at h5
   obtain⟨v3,h3,e3⟩:=hE ⟨3,.guard⟩ (by simp) rfl _ _ rfl rfl
   rw [show v3 = .bool false from e3] at h3
   clear hE hO hN
   refine grd_met rfl rfl rfl h3 ?_
   have hcc:=(HRW.out w2 hM).1
   go_simp
   exact hK _ _ rfl hM (Below.refl _ _)
  ·intro T2 w2 hM hN hO hE K hK
   have o1:T2[1]?=some (.pointer (some ⟨g2,0,none⟩)):=hO 1 rfl
   obtain⟨v3,h3,e3⟩:=hE ⟨3,.guard⟩ (by simp) rfl _ _ rfl rfl
   rw [show v3 = .bool false from e3] at h3
   clear hE hO hN
   refine grd_met rfl rfl rfl h3 ?_
   have hcc:=(HC.out w2 hM).2.1
   go_simp
   exact hK _ _ rfl hM (Below.refl _ _)
  ·intro T2 w2 hM hN hO hE K hK
   obtain⟨v6,h6,e6⟩:=hE ⟨6,.data⟩ (by simp) rfl _ _ rfl rfl
   rw [show v6 = .string A0 from e6] at h6
   obtain⟨v7,h7,e7⟩:=hE ⟨7,.data⟩ (by simp) rfl _ _ rfl rfl
   rw [show v7 = .string WD from e7] at h7
   obtain⟨v3,h3,e3⟩:=hE ⟨3,.guard⟩ (by simp) rfl _ _ rfl rfl
   rw [show v3 = .bool false from e3] at h3
   clear hE hO hN
   refine grd_met rfl rfl rfl h3 ?_
   go_simp
   exact hK _ _ rfl hM (Below.refl _ _)
  ·intro T2 w2 hM hN hO hE K hK
   obtain⟨v3,h3,e3⟩:=hE ⟨3,.data⟩ (by simp) rfl _ _ rfl rfl
   rw [show v3 = .bool false from e3] at h3
   obtain⟨v8,h8,e8⟩:=hE ⟨8,.data⟩ (by simp) rfl _ _ rfl rfl
   rw [show v8 = .bool true from e8] at h8
   clear hE hO hN
   refine step_plain0 rfl ?_
   go_simp
   exact hK _ _ rfl hM (Below.refl _ _)
  ·intro T2 w2 hM hN hO hE K hK
   obtain⟨v9,h9,e9⟩:=hE ⟨9,.data⟩ (by simp) rfl _ _ rfl rfl
   rw [show v9 = .bool true from e9] at h9
   clear hE hO hN
   refine step_plain0 rfl ?_
   go_simp
   exact hK _ _ rfl hM (Below.refl _ _)
  ·intro T2 w2 hM hN hO hE K hK
   obtain⟨v10,h10,e10⟩:=hE ⟨10,.guard⟩ (by simp) rfl _ _ rfl rfl
   rw [show v10 = .bool true from e10] at h10
   clear hE hO hN
   refine grd_not rfl rfl rfl h10 (by decide) ?_
   exact hK _ _ rfl hM (Below.refl _ _)
  ·intro T2 w2 hM hN hO hE K hK
   obtain⟨v10,h10,e10⟩:=hE ⟨10,.guard⟩ (by simp) rfl _ _ rfl rfl
   rw [show v10 = .bool true from e10] at h10
   clear hE hO hN
   refine grd_not rfl rfl rfl h10 (by decide) ?_
   exact hK _ _ rfl hM (Below.refl _ _)
  ·intro T2 w2 hM hN hO hE K hK
   obtain⟨v10,h10,e10⟩:=hE ⟨10,.guard⟩ (by simp) rfl _ _ rfl rfl
   rw [show v10 = .bool true from e10] at h10
   clear hE hO hN
   refine grd_not rfl rfl rfl h10 (by decide) ?_
   exact hK _ _ rfl hM (Below.refl _ _)
  ·intro T2 w2 hM hN hO hE K hK
   obtain⟨v10,h10,e10⟩:=hE ⟨10,.guard⟩ (by simp) rfl _ _ rfl rfl
   rw [show v10 = .bool true from e10] at h10
   clear hE hO hN
   refine grd_not rfl rfl rfl h10 (by decide) ?_
   exact hK _ _ rfl hM (Below.refl _ _)
  ·intro T2 w2 hM hN hO hE K hK
   obtain⟨v10,h10,e10⟩:=hE ⟨10,.guard⟩ (by simp) rfl _ _ rfl rfl
   rw [show v10 = .bool true from e10] at h10
   clear hE hO hN
   refine grd_not rfl rfl rfl h10 (by decide) ?_
   exact hK _ _ rfl hM (Below.refl _ _)
  ·intro T2 w2 hM hN hO hE K hK
   obtain⟨v10,h10,e10⟩:=hE ⟨10,.data⟩ (by simp) rfl _ _ rfl rfl
   rw [show v10 = .bool true from e10] at h10
   obtain⟨v15,h15,e15⟩:=hE ⟨15,.data⟩ (by simp) rfl _ _ rfl rfl
   rw [show v15=undef from e15] at h15
   clear hE hO hN
   refine step_plain0 rfl ?_
   go_simp
   exact hK _ _ rfl hM (Below.refl _ _)
 ·intro u w2 hM hF
  have e16:u 16 = .bool true:=hF 16 (by omega)
  clear hF
  simp only [fillAll,Nat.reduceAdd,e16,List.take_succ_cons,List.take_zero,List.drop_succ_cons,List.drop_zero,List.setIfInBounds_toArray,List.set_cons_succ,List.set_cons_zero]
  have hca:=(HC.out w2 hM).1
  have hcb:=(HC.out w2 hM).2.2
  have HMM:=hid2 hM
  clear hM HC
  go_wp2_with (go_at_call 41; refine (HA.out w2 (HB.out.trans (HMM.out.mono hsz))).mono ?_;rintro e w3 ⟨rfl,hp⟩;have HP:=hid2 hp;clear hp)
  refine bodyPost_ret (results_none rfl _ _ _) rfl ?_
  exact HP.out
set_option maxHeartbeats 4000000 in
theorem line_nopath (w:World) (L:RLay) (v:Env) (hv:v.may=mayB) (q:Option Nat) (s:PS) (h:RunIs w L v q s) (hf:Fit w L s) (x wd:TT) (hx:x.length≤1000000) (g1 g2 g3 g4:Nat) (h1:SBox w g1 x) (h2:SBox w g2 wd) (h3:RBox w g3 L.R) (h4:MBox w g4 q) (a b:TT) (hw:wordsT x=[a,b]) (heqw:a=wd) (hmay:mayB b=false) :
  Calls Tryz.prog 70 #[ptrV g1,ptrV g2,ptrV g3,ptrV g4] w (VPost w L v q (s.add (x++[10]))):=by
 have hB:=h.size
 have cW:=words_any w x (by omega)
 obtain⟨R,hR⟩:∃ R,R=L.R:=⟨_,rfl⟩
 obtain⟨X,hX⟩:∃ X,X=strB x:=⟨_,rfl⟩
 obtain⟨WD,hWD⟩:∃ WD,WD=strB wd:=⟨_,rfl⟩
 obtain⟨Pq,hPq⟩:∃ Pq:Ending→World→Prop,Pq=VPost w L v q (s.add (x++[10])):=⟨_,rfl⟩
 have c1:w.cell? ⟨g1,0,none⟩=some (.string X):=by rw [hX];exact CellB.cell h1 0
 have c2:w.cell? ⟨g2,0,none⟩=some (.string WD):=by rw [hWD];exact CellB.cell h2 0
 have c3:w.cell? ⟨g3,0,none⟩=some (.pointer (some ⟨R,0,none⟩)):=by rw [hR];exact CellB.cell h3 0
 have l1:g1 < w.heap.size:=CellB.lt h1
 have l2:g2 < w.heap.size:=CellB.lt h2
 have l3:g3 < w.heap.size:=CellB.lt h3
 rw [← hX] at cW
 rw [ptrV,ptrV,ptrV,ptrV,← hPq]
 have hXs:X.size≤1000000:=by rw [hX,strB_size];exact hx
 have hcat:X++⟨#[10]⟩=strB (x++[10]):=by rw [hX];exact strB_append x [10]
 have hA:=fun (W:World) (hW:Below w.heap.size w W)=>show Calls Tryz.prog 41 #[.pointer (some ⟨R,0,none⟩),.string (X++⟨#[10]⟩)] W fun e w2=>e = .returned (.tuple #[])∧Pq (.returned (.tuple #[])) w2 from by
  have:=add_any W L v q s (h.below hW) hf.lim.buf (x++[10]) (by simp;omega)
  rw [← hcat,ptrV,← hR] at this
  refine this.mono fun e w2 k=>⟨k.1,?_⟩
  rw [hPq]
  have:=k.since hW hB
  rw [k.1] at this
  exact this
 have HA:=hid2 hA
 have hsz1:¬ (X.size+1 > 9223372036854775807):=by omega
 obtain⟨A0,hA0⟩:∃ A0,A0=strB a:=⟨_,rfl⟩
 obtain⟨B0,hB0⟩:∃ B0,B0=strB b:=⟨_,rfl⟩
 have hwe:strV (wordsT x)=[.string A0,.string B0]:=by rw [hw,hA0,hB0];rfl
 have hwl:(wordsT x).length=2:=by rw [hw];rfl
 have hbl:b.length≤1000000:=Nat.le_trans (wordsT_mem (s:=x) (x:=b) (by rw [hw];simp)).2.2 hx
 rw [hwe,hwl] at cW
 have CW:=hid2 cW
 have HMY:=hid2 (fun (w2:World)=>show Calls Tryz.prog 65 #[.string B0] w2 fun e w'=>e = .returned (.bool false)∧Below w2.heap.size w2 w' from by
  have:=may_any w2 B0 (by rw [hB0,strB_size];exact hbl)
  rwa [show B0.data.toList=b from by rw [hB0];simp [strB],hmay] at this)
 have heq:(A0.toList == WD.toList)=true:=by rw [hA0,hWD,heqw,beq_self_eq_true]
 have heq2:A0.toList=WD.toList:=by rw [hA0,hWD,heqw]
 clear cW hX hPq hWD h1 h2 h3 h4 h hf hA hcat hR hx hw hwe hwl hA0 hB0 heqw hmay hbl hv
 go_enter Tryz.func70,Tryz.ntmps70
 go_wp2_with (go_at_call 61; refine CW.out.mono ?_;rintro e w1 ⟨A,c,rfl,ho,hb⟩;have HB:=hid2 hb;have HO:=hid2 ho;clear ho hb)
 have hb1:=HB.out
 have hsz:=hb1.size
 have HC:=hid2 (show ∀ w2,Below w1.heap.size w1 w2→w2.cell? ⟨g1,0,none⟩=some (.string X)∧w2.cell? ⟨g2,0,none⟩=some (.string WD)∧w2.cell? ⟨g3,0,none⟩=some (.pointer (some ⟨R,0,none⟩)) from fun w2 hb=>by
  have h0:=hb1.trans (hb.mono hsz)
  exact⟨(h0.cell (p:=⟨g1,0,none⟩) l1).trans c1,(h0.cell (p:=⟨g2,0,none⟩) l2).trans c2,(h0.cell (p:=⟨g3,0,none⟩) l3).trans c3⟩)
 obtain⟨b1,o1,rfl,hrc⟩:=HO.out.rd.2 (by decide)
 have r0:w1.cell? ⟨b1,o1,none⟩=some (.string A0):=hrc 0 _ rfl
 have r1:w1.cell? ⟨b1,o1+1,none⟩=some (.string B0):=hrc 1 _ rfl
 have hblt:b1 < w1.heap.size:=World.block_lt_of_cell? _ _ r0
 have hcap:(2:Int)≤c:=by have:=HO.out.2.1;omega
 have HRW:=hid2 (show ∀ w2,Below w1.heap.size w1 w2→w2.cell? ⟨b1,o1,none⟩=some (.string A0)∧w2.cell? ⟨b1,o1+1,none⟩=some (.string B0) from fun w2 hb=>⟨(hb.cell (p:=⟨b1,o1,none⟩) hblt).trans r0,(hb.cell (p:=⟨b1,o1+1,none⟩) hblt).trans r1⟩)
 clear hrc
 refine wp_region_grd 17 (by kernel_rfl) (by kernel_rfl) (by kernel_rfl) _ rfl (by kernel_rfl) (VV [some (.slice (some ⟨b1,o1,none⟩) 2 c),some (.int .i64 2),some (.bool false),some (.bool false),some (.slice (some ⟨b1,o1,none⟩) 2 c),some (.pointer (some ⟨b1,o1,none⟩)),some (.string A0),some (.string WD),some (.bool false),some (.bool false),some (.bool false),some (.slice (some ⟨b1,o1,none⟩) 2 c),some (.pointer (some ⟨b1,o1+1,none⟩)),some (.string B0),some (.bool false),some (.bool true),some (.bool true)] (fun _ _ _=>False)) (fun w2=>Below w1.heap.size w1 w2) (fun a b=>Below a.heap.size a b) ((Below.refl _ w1).drew) (fun j v w1 w2 hb hv=>VV.keep (fun h=>h.elim) hv) ?_ ?_
 ·refine of_allOps ⟨?_,?_,?_,?_,?_,?_,?_,?_,?_,?_,?_,?_,?_,?_,?_,?_,?_,trivial⟩
  ·intro T2 w2 hM hN hO hE K hK
   have o4:T2[4]?=some (.slice (some ⟨b1,o1,none⟩) 2 c):=hO 4 rfl
   clear hE hO hN
   refine step_plain0 rfl ?_
   go_simp
   exact hK _ _ rfl hM (Below.refl _ _)
  ·intro T2 w2 hM hN hO hE K hK
   obtain⟨v0,h0,e0⟩:=hE ⟨0,.data⟩ (by simp) rfl _ _ rfl rfl
   rw [show v0 = .slice (some ⟨b1,o1,none⟩) 2 c from e0] at h0
   clear hE hO hN
   refine step_plain0 rfl ?_
   go_simp
   exact hK _ _ rfl hM (Below.refl _ _)
  ·intro T2 w2 hM hN hO hE K hK
   obtain⟨v1,h1,e1⟩:=hE ⟨1,.data⟩ (by simp) rfl _ _ rfl rfl
   rw [show v1 = .int .i64 2 from e1] at h1
   clear hE hO hN
   refine step_plain0 rfl ?_
   go_simp
   exact hK _ _ rfl hM (Below.refl _ _)
  ·intro T2 w2 hM hN hO hE K hK
   obtain⟨v2,h2,e2⟩:=hE ⟨2,.data⟩ (by simp) rfl _ _ rfl rfl
   rw [show v2 = .bool false from e2] at h2
   clear hE hO hN
   refine step_plain0 rfl ?_
   go_simp
   exact hK _ _ rfl hM (Below.refl _ _)
  ·intro T2 w2 hM hN hO hE K hK
   have o4:T2[4]?=some (.slice (some ⟨b1,o1,none⟩) 2 c):=hO 4 rfl
   obtain⟨v3,h3,e3⟩:=hE ⟨3,.guard⟩ (by simp) rfl _ _ rfl rfl
   rw [show v3 = .bool false from e3] at h3
   clear hE hO hN
   refine grd_met rfl rfl rfl h3 ?_
   go_simp
   exact hK _ _ rfl hM (Below.refl _ _)
  ·intro T2 w2 hM hN hO hE K hK
   obtain⟨v4,h4,e4⟩:=hE ⟨4,.data⟩ (by simp) rfl _ _ rfl rfl
   rw [show v4 = .slice (some ⟨b1,o1,none⟩) 2 c from e4] at h4
   obtain⟨v3,h3,e3⟩:=hE ⟨3,.guard⟩ (by simp) rfl _ _ rfl rfl
   rw [show v3 = .bool false from e3] at h3
   clear hE hO hN
   refine grd_met rfl rfl rfl h3 ?_
   go_simp
   exact hK _ _ rfl hM (Below.refl _ _)
  ·intro T2 w2 hM hN hO hE K hK
   obtain⟨v5,h5,e5⟩:=hE ⟨5,.data⟩ (by simp) rfl _ _ rfl rfl
   rw [show v5 = .pointer (some ⟨b1,o1,none⟩) from e5] at h5
   obtain⟨v3,h3,e3⟩:=hE ⟨3,.guard⟩ (by simp) rfl _ _ rfl rfl
   rw [show v3 = .bool false from e3] at h3
   clear hE hO hN
   refine grd_met rfl rfl rfl h3 ?_
   have hcc:=(HRW.out w2 hM).1
   go_simp
   exact hK _ _ rfl hM (Below.refl _ _)
  ·intro T2 w2 hM hN hO hE K hK
   have o1:T2[1]?=some (.pointer (some ⟨g2,0,none⟩)):=hO 1 rfl
   obtain⟨v3,h3,e3⟩:=hE ⟨3,.guard⟩ (by simp) rfl _ _ rfl rfl
   rw [show v3 = .bool false from e3] at h3
   clear hE hO hN
   refine grd_met rfl rfl rfl h3 ?_
   have hcc:=(HC.out w2 hM).2.1
   go_simp
   exact hK _ _ rfl hM (Below.refl _ _)
  ·intro T2 w2 hM hN hO hE K hK
   obtain⟨v6,h6,e6⟩:=hE ⟨6,.data⟩ (by simp) rfl _ _ rfl rfl
   rw [show v6 = .string A0 from e6] at h6
   obtain⟨v7,h7,e7⟩:=hE ⟨7,.data⟩ (by simp) rfl _ _ rfl rfl
   rw [show v7 = .string WD from e7] at h7
   obtain⟨v3,h3,e3⟩:=hE ⟨3,.guard⟩ (by simp) rfl _ _ rfl rfl
   rw [show v3 = .bool false from e3] at h3
   clear hE hO hN
   refine grd_met rfl rfl rfl h3 ?_
   go_simp
   exact hK _ _ rfl hM (Below.refl _ _)
  ·intro T2 w2 hM hN hO hE K hK
   obtain⟨v3,h3,e3⟩:=hE ⟨3,.data⟩ (by simp) rfl _ _ rfl rfl
   rw [show v3 = .bool false from e3] at h3
   obtain⟨v8,h8,e8⟩:=hE ⟨8,.data⟩ (by simp) rfl _ _ rfl rfl
   rw [show v8 = .bool false from e8] at h8
   clear hE hO hN
   refine step_plain0 rfl ?_
   go_simp
   exact hK _ _ rfl hM (Below.refl _ _)
  ·intro T2 w2 hM hN hO hE K hK
   obtain⟨v9,h9,e9⟩:=hE ⟨9,.data⟩ (by simp) rfl _ _ rfl rfl
   rw [show v9 = .bool false from e9] at h9
   clear hE hO hN
   refine step_plain0 rfl ?_
   go_simp
   exact hK _ _ rfl hM (Below.refl _ _)
  ·intro T2 w2 hM hN hO hE K hK
   have o4:T2[4]?=some (.slice (some ⟨b1,o1,none⟩) 2 c):=hO 4 rfl
   obtain⟨v10,h10,e10⟩:=hE ⟨10,.guard⟩ (by simp) rfl _ _ rfl rfl
   rw [show v10 = .bool false from e10] at h10
   clear hE hO hN
   refine grd_met rfl rfl rfl h10 ?_
   go_simp
   exact hK _ _ rfl hM (Below.refl _ _)
  ·intro T2 w2 hM hN hO hE K hK
   obtain⟨v11,h11,e11⟩:=hE ⟨11,.data⟩ (by simp) rfl _ _ rfl rfl
   rw [show v11 = .slice (some ⟨b1,o1,none⟩) 2 c from e11] at h11
   obtain⟨v10,h10,e10⟩:=hE ⟨10,.guard⟩ (by simp) rfl _ _ rfl rfl
   rw [show v10 = .bool false from e10] at h10
   clear hE hO hN
   refine grd_met rfl rfl rfl h10 ?_
   go_simp
   exact hK _ _ rfl hM (Below.refl _ _)
  ·intro T2 w2 hM hN hO hE K hK
   obtain⟨v12,h12,e12⟩:=hE ⟨12,.data⟩ (by simp) rfl _ _ rfl rfl
   rw [show v12 = .pointer (some ⟨b1,o1+1,none⟩) from e12] at h12
   obtain⟨v10,h10,e10⟩:=hE ⟨10,.guard⟩ (by simp) rfl _ _ rfl rfl
   rw [show v10 = .bool false from e10] at h10
   clear hE hO hN
   refine grd_met rfl rfl rfl h10 ?_
   have hcc:=(HRW.out w2 hM).2
   go_simp
   exact hK _ _ rfl hM (Below.refl _ _)
  ·intro T2 w2 hM hN hO hE K hK
   obtain⟨v13,h13,e13⟩:=hE ⟨13,.data⟩ (by simp) rfl _ _ rfl rfl
   rw [show v13 = .string B0 from e13] at h13
   obtain⟨v10,h10,e10⟩:=hE ⟨10,.guard⟩ (by simp) rfl _ _ rfl rfl
   rw [show v10 = .bool false from e10] at h10
   clear hE hO hN
   refine grd_met rfl rfl rfl h10 ?_
   go_simp
   refine (HMY.out w2).mono ?_
   rintro e w3 ⟨rfl,hb⟩
   exact hK _ _ rfl (hM.trans (hb.mono hM.size)) hb
  ·intro T2 w2 hM hN hO hE K hK
   obtain⟨v14,h14,e14⟩:=hE ⟨14,.data⟩ (by simp) rfl _ _ rfl rfl
   rw [show v14 = .bool false from e14] at h14
   obtain⟨v10,h10,e10⟩:=hE ⟨10,.guard⟩ (by simp) rfl _ _ rfl rfl
   rw [show v10 = .bool false from e10] at h10
   clear hE hO hN
   refine grd_met rfl rfl rfl h10 ?_
   go_simp
   exact hK _ _ rfl hM (Below.refl _ _)
  ·intro T2 w2 hM hN hO hE K hK
   obtain⟨v10,h10,e10⟩:=hE ⟨10,.data⟩ (by simp) rfl _ _ rfl rfl
   rw [show v10 = .bool false from e10] at h10
   obtain⟨v15,h15,e15⟩:=hE ⟨15,.data⟩ (by simp) rfl _ _ rfl rfl
   rw [show v15 = .bool true from e15] at h15
   clear hE hO hN
   refine step_plain0 rfl ?_
   go_simp
   exact hK _ _ rfl hM (Below.refl _ _)
 ·intro u w2 hM hF
  have e16:u 16 = .bool true:=hF 16 (by omega)
  clear hF
  simp only [fillAll,Nat.reduceAdd,e16,List.take_succ_cons,List.take_zero,List.drop_succ_cons,List.drop_zero,List.setIfInBounds_toArray,List.set_cons_succ,List.set_cons_zero]
  have hca:=(HC.out w2 hM).1
  have hcb:=(HC.out w2 hM).2.2
  have HMM:=hid2 hM
  clear hM HC
  go_wp2_with (go_at_call 41; refine (HA.out w2 (HB.out.trans (HMM.out.mono hsz))).mono ?_;rintro e w3 ⟨rfl,hp⟩;have HP:=hid2 hp;clear hp)
  refine bodyPost_ret (results_none rfl _ _ _) rfl ?_
  exact HP.out
set_option maxHeartbeats 4000000 in
theorem line_seen (w:World) (L:RLay) (v:Env) (hv:v.may=mayB) (q:Option Nat) (s:PS) (h:RunIs w L v q s) (hf:Fit w L s) (x wd:TT) (hx:x.length≤1000000) (g1 g2 g3 g4:Nat) (h1:SBox w g1 x) (h2:SBox w g2 wd) (h3:RBox w g3 L.R) (h4:MBox w g4 q) (hmap:MapAt w L q s) (a b:TT) (hw:wordsT x=[a,b]) (heqw:a=wd) (hmay:mayB b=true) (hin:b∈s.seen) :
  Calls Tryz.prog 70 #[ptrV g1,ptrV g2,ptrV g3,ptrV g4] w (VPost w L v q (s)):=by
 have hB:=h.size
 have cW:=words_any w x (by omega)
 obtain⟨R,hR⟩:∃ R,R=L.R:=⟨_,rfl⟩
 obtain⟨X,hX⟩:∃ X,X=strB x:=⟨_,rfl⟩
 obtain⟨WD,hWD⟩:∃ WD,WD=strB wd:=⟨_,rfl⟩
 obtain⟨Pq,hPq⟩:∃ Pq:Ending→World→Prop,Pq=VPost w L v q (s):=⟨_,rfl⟩
 have c1:w.cell? ⟨g1,0,none⟩=some (.string X):=by rw [hX];exact CellB.cell h1 0
 have c2:w.cell? ⟨g2,0,none⟩=some (.string WD):=by rw [hWD];exact CellB.cell h2 0
 have c3:w.cell? ⟨g3,0,none⟩=some (.pointer (some ⟨R,0,none⟩)):=by rw [hR];exact CellB.cell h3 0
 have l1:g1 < w.heap.size:=CellB.lt h1
 have l2:g2 < w.heap.size:=CellB.lt h2
 have l3:g3 < w.heap.size:=CellB.lt h3
 rw [← hX] at cW
 rw [ptrV,ptrV,ptrV,ptrV,← hPq]
 obtain⟨A0,hA0⟩:∃ A0,A0=strB a:=⟨_,rfl⟩
 obtain⟨B0,hB0⟩:∃ B0,B0=strB b:=⟨_,rfl⟩
 have hwe:strV (wordsT x)=[.string A0,.string B0]:=by rw [hw,hA0,hB0];rfl
 have hwl:(wordsT x).length=2:=by rw [hw];rfl
 have hbl:b.length≤1000000:=Nat.le_trans (wordsT_mem (s:=x) (x:=b) (by rw [hw];simp)).2.2 hx
 rw [hwe,hwl] at cW
 have CW:=hid2 cW
 have HMY:=hid2 (fun (w2:World)=>show Calls Tryz.prog 65 #[.string B0] w2 fun e w'=>e = .returned (.bool true)∧Below w2.heap.size w2 w' from by
  have:=may_any w2 B0 (by rw [hB0,strB_size];exact hbl)
  rwa [show B0.data.toList=b from by rw [hB0];simp [strB],hmay] at this)
 have heq:(A0.toList == WD.toList)=true:=by rw [hA0,hWD,heqw,beq_self_eq_true]
 have heq2:A0.toList=WD.toList:=by rw [hA0,hWD,heqw]
 obtain⟨g,M,hq,hgB,hgm,hM0,hMk⟩:=id hmap
 have c4:w.cell? ⟨g4,0,none⟩=some (.map (some g)):=by
  obtain⟨g',e,hc⟩:=h4
  rw [hq] at e
  cases e
  exact hc.cell 0
 have l4:g4 < w.heap.size:=by
  obtain⟨g',e,hc⟩:=h4
  exact hc.lt
 have hglt:=hM0.lt
 have HLK:=hid2 (fun (w2:World) (hb:Below w.heap.size w w2)=>show (Instr.lookup 83 (.map (some g)) (.string B0) false).run Tryz.prog w2 = .ok (.bool true) w2 from by
  have:=(hM0.below hb hglt).look encB_inj Tryz.underlying9 Tryz.underlying83 false (zero_bool w2) B0 (by rw [hB0,strB_size];unfold maxLen;omega)
  rw [show B0.data.toList=b from by rw [hB0];simp [strB],hMk b,if_pos hin] at this
  exact this)
 have HFN:=hid2 (fun (w2:World) (hb:Below w.heap.size w w2)=>show Pq (.returned (.tuple #[])) w2 from by rw [hPq];exact VPost.plain h hb)
 clear cW hX hPq hWD h1 h2 h3 h4 h hf hR hx hw hwe hwl hA0 hB0 heqw hmay hbl hv hmap hM0 hMk hin hq
 go_enter Tryz.func70,Tryz.ntmps70
 go_wp2_with (go_at_call 61; refine CW.out.mono ?_;rintro e w1 ⟨A,c,rfl,ho,hb⟩;have HB:=hid2 hb;have HO:=hid2 ho;clear ho hb)
 have hb1:=HB.out
 have hsz:=hb1.size
 have HC:=hid2 (show ∀ w2,Below w1.heap.size w1 w2→w2.cell? ⟨g1,0,none⟩=some (.string X)∧w2.cell? ⟨g2,0,none⟩=some (.string WD)∧w2.cell? ⟨g3,0,none⟩=some (.pointer (some ⟨R,0,none⟩)) from fun w2 hb=>by
  have h0:=hb1.trans (hb.mono hsz)
  exact⟨(h0.cell (p:=⟨g1,0,none⟩) l1).trans c1,(h0.cell (p:=⟨g2,0,none⟩) l2).trans c2,(h0.cell (p:=⟨g3,0,none⟩) l3).trans c3⟩)
 obtain⟨b1,o1,rfl,hrc⟩:=HO.out.rd.2 (by decide)
 have r0:w1.cell? ⟨b1,o1,none⟩=some (.string A0):=hrc 0 _ rfl
 have r1:w1.cell? ⟨b1,o1+1,none⟩=some (.string B0):=hrc 1 _ rfl
 have hblt:b1 < w1.heap.size:=World.block_lt_of_cell? _ _ r0
 have hcap:(2:Int)≤c:=by have:=HO.out.2.1;omega
 have HRW:=hid2 (show ∀ w2,Below w1.heap.size w1 w2→w2.cell? ⟨b1,o1,none⟩=some (.string A0)∧w2.cell? ⟨b1,o1+1,none⟩=some (.string B0) from fun w2 hb=>⟨(hb.cell (p:=⟨b1,o1,none⟩) hblt).trans r0,(hb.cell (p:=⟨b1,o1+1,none⟩) hblt).trans r1⟩)
 clear hrc
 have HC4:=hid2 (show ∀ w2,Below w1.heap.size w1 w2→w2.cell? ⟨g4,0,none⟩=some (.map (some g)) from fun w2 hb=>((hb1.trans (hb.mono hsz)).cell (p:=⟨g4,0,none⟩) l4).trans c4)
 refine wp_region_grd 17 (by kernel_rfl) (by kernel_rfl) (by kernel_rfl) _ rfl (by kernel_rfl) (VV [some (.slice (some ⟨b1,o1,none⟩) 2 c),some (.int .i64 2),some (.bool false),some (.bool false),some (.slice (some ⟨b1,o1,none⟩) 2 c),some (.pointer (some ⟨b1,o1,none⟩)),some (.string A0),some (.string WD),some (.bool false),some (.bool false),some (.bool false),some (.slice (some ⟨b1,o1,none⟩) 2 c),some (.pointer (some ⟨b1,o1+1,none⟩)),some (.string B0),some (.bool true),some (.bool false),some (.bool false)] (fun _ _ _=>False)) (fun w2=>Below w1.heap.size w1 w2) (fun a b=>Below a.heap.size a b) ((Below.refl _ w1).drew) (fun j v w1 w2 hb hv=>VV.keep (fun h=>h.elim) hv) ?_ ?_
 ·refine of_allOps ⟨?_,?_,?_,?_,?_,?_,?_,?_,?_,?_,?_,?_,?_,?_,?_,?_,?_,trivial⟩
  ·intro T2 w2 hM hN hO hE K hK
   have o4:T2[4]?=some (.slice (some ⟨b1,o1,none⟩) 2 c):=hO 4 rfl
   clear hE hO hN
   refine step_plain0 rfl ?_
   go_simp
   exact hK _ _ rfl hM (Below.refl _ _)
  ·intro T2 w2 hM hN hO hE K hK
   obtain⟨v0,h0,e0⟩:=hE ⟨0,.data⟩ (by simp) rfl _ _ rfl rfl
   rw [show v0 = .slice (some ⟨b1,o1,none⟩) 2 c from e0] at h0
   clear hE hO hN
   refine step_plain0 rfl ?_
   go_simp
   exact hK _ _ rfl hM (Below.refl _ _)
  ·intro T2 w2 hM hN hO hE K hK
   obtain⟨v1,h1,e1⟩:=hE ⟨1,.data⟩ (by simp) rfl _ _ rfl rfl
   rw [show v1 = .int .i64 2 from e1] at h1
   clear hE hO hN
   refine step_plain0 rfl ?_
   go_simp
   exact hK _ _ rfl hM (Below.refl _ _)
  ·intro T2 w2 hM hN hO hE K hK
   obtain⟨v2,h2,e2⟩:=hE ⟨2,.data⟩ (by simp) rfl _ _ rfl rfl
   rw [show v2 = .bool false from e2] at h2
   clear hE hO hN
   refine step_plain0 rfl ?_
   go_simp
   exact hK _ _ rfl hM (Below.refl _ _)
  ·intro T2 w2 hM hN hO hE K hK
   have o4:T2[4]?=some (.slice (some ⟨b1,o1,none⟩) 2 c):=hO 4 rfl
   obtain⟨v3,h3,e3⟩:=hE ⟨3,.guard⟩ (by simp) rfl _ _ rfl rfl
   rw [show v3 = .bool false from e3] at h3
   clear hE hO hN
   refine grd_met rfl rfl rfl h3 ?_
   go_simp
   exact hK _ _ rfl hM (Below.refl _ _)
  ·intro T2 w2 hM hN hO hE K hK
   obtain⟨v4,h4,e4⟩:=hE ⟨4,.data⟩ (by simp) rfl _ _ rfl rfl
   rw [show v4 = .slice (some ⟨b1,o1,none⟩) 2 c from e4] at h4
   obtain⟨v3,h3,e3⟩:=hE ⟨3,.guard⟩ (by simp) rfl _ _ rfl rfl
   rw [show v3 = .bool false from e3] at h3
   clear hE hO hN
   refine grd_met rfl rfl rfl h3 ?_
   go_simp
   exact hK _ _ rfl hM (Below.refl _ _)
  ·intro T2 w2 hM hN hO hE K hK
   obtain⟨v5,h5,e5⟩:=hE ⟨5,.data⟩ (by simp) rfl _ _ rfl rfl
   rw [show v5 = .pointer (some ⟨b1,o1,none⟩) from e5] at h5
   obtain⟨v3,h3,e3⟩:=hE ⟨3,.guard⟩ (by simp) rfl _ _ rfl rfl
   rw [show v3 = .bool false from e3] at h3
   clear hE hO hN
   refine grd_met rfl rfl rfl h3 ?_
   have hcc:=(HRW.out w2 hM).1
   go_simp
   exact hK _ _ rfl hM (Below.refl _ _)
  ·intro T2 w2 hM hN hO hE K hK
   have o1:T2[1]?=some (.pointer (some ⟨g2,0,none⟩)):=hO 1 rfl
   obtain⟨v3,h3,e3⟩:=hE ⟨3,.guard⟩ (by simp) rfl _ _ rfl rfl
   rw [show v3 = .bool false from e3] at h3
   clear hE hO hN
   refine grd_met rfl rfl rfl h3 ?_
   have hcc:=(HC.out w2 hM).2.1
   go_simp
   exact hK _ _ rfl hM (Below.refl _ _)
  ·intro T2 w2 hM hN hO hE K hK
   obtain⟨v6,h6,e6⟩:=hE ⟨6,.data⟩ (by simp) rfl _ _ rfl rfl
   rw [show v6 = .string A0 from e6] at h6
   obtain⟨v7,h7,e7⟩:=hE ⟨7,.data⟩ (by simp) rfl _ _ rfl rfl
   rw [show v7 = .string WD from e7] at h7
   obtain⟨v3,h3,e3⟩:=hE ⟨3,.guard⟩ (by simp) rfl _ _ rfl rfl
   rw [show v3 = .bool false from e3] at h3
   clear hE hO hN
   refine grd_met rfl rfl rfl h3 ?_
   go_simp
   exact hK _ _ rfl hM (Below.refl _ _)
  ·intro T2 w2 hM hN hO hE K hK
   obtain⟨v3,h3,e3⟩:=hE ⟨3,.data⟩ (by simp) rfl _ _ rfl rfl
   rw [show v3 = .bool false from e3] at h3
   obtain⟨v8,h8,e8⟩:=hE ⟨8,.data⟩ (by simp) rfl _ _ rfl rfl
   rw [show v8 = .bool false from e8] at h8
   clear hE hO hN
   refine step_plain0 rfl ?_
   go_simp
   exact hK _ _ rfl hM (Below.refl _ _)
  ·intro T2 w2 hM hN hO hE K hK
   obtain⟨v9,h9,e9⟩:=hE ⟨9,.data⟩ (by simp) rfl _ _ rfl rfl
   rw [show v9 = .bool false from e9] at h9
   clear hE hO hN
   refine step_plain0 rfl ?_
   go_simp
   exact hK _ _ rfl hM (Below.refl _ _)
  ·intro T2 w2 hM hN hO hE K hK
   have o4:T2[4]?=some (.slice (some ⟨b1,o1,none⟩) 2 c):=hO 4 rfl
   obtain⟨v10,h10,e10⟩:=hE ⟨10,.guard⟩ (by simp) rfl _ _ rfl rfl
   rw [show v10 = .bool false from e10] at h10
   clear hE hO hN
   refine grd_met rfl rfl rfl h10 ?_
   go_simp
   exact hK _ _ rfl hM (Below.refl _ _)
  ·intro T2 w2 hM hN hO hE K hK
   obtain⟨v11,h11,e11⟩:=hE ⟨11,.data⟩ (by simp) rfl _ _ rfl rfl
   rw [show v11 = .slice (some ⟨b1,o1,none⟩) 2 c from e11] at h11
   obtain⟨v10,h10,e10⟩:=hE ⟨10,.guard⟩ (by simp) rfl _ _ rfl rfl
   rw [show v10 = .bool false from e10] at h10
   clear hE hO hN
   refine grd_met rfl rfl rfl h10 ?_
   go_simp
   exact hK _ _ rfl hM (Below.refl _ _)
  ·intro T2 w2 hM hN hO hE K hK
   obtain⟨v12,h12,e12⟩:=hE ⟨12,.data⟩ (by simp) rfl _ _ rfl rfl
   rw [show v12 = .pointer (some ⟨b1,o1+1,none⟩) from e12] at h12
   obtain⟨v10,h10,e10⟩:=hE ⟨10,.guard⟩ (by simp) rfl _ _ rfl rfl
   rw [show v10 = .bool false from e10] at h10
   clear hE hO hN
   refine grd_met rfl rfl rfl h10 ?_
   have hcc:=(HRW.out w2 hM).2
   go_simp
   exact hK _ _ rfl hM (Below.refl _ _)
  ·intro T2 w2 hM hN hO hE K hK
   obtain⟨v13,h13,e13⟩:=hE ⟨13,.data⟩ (by simp) rfl _ _ rfl rfl
   rw [show v13 = .string B0 from e13] at h13
   obtain⟨v10,h10,e10⟩:=hE ⟨10,.guard⟩ (by simp) rfl _ _ rfl rfl
   rw [show v10 = .bool false from e10] at h10
   clear hE hO hN
   refine grd_met rfl rfl rfl h10 ?_
   go_simp
   refine (HMY.out w2).mono ?_
   rintro e w3 ⟨rfl,hb⟩
   exact hK _ _ rfl (hM.trans (hb.mono hM.size)) hb
  ·intro T2 w2 hM hN hO hE K hK
   obtain⟨v14,h14,e14⟩:=hE ⟨14,.data⟩ (by simp) rfl _ _ rfl rfl
   rw [show v14 = .bool true from e14] at h14
   obtain⟨v10,h10,e10⟩:=hE ⟨10,.guard⟩ (by simp) rfl _ _ rfl rfl
   rw [show v10 = .bool false from e10] at h10
   clear hE hO hN
   refine grd_met rfl rfl rfl h10 ?_
   go_simp
   exact hK _ _ rfl hM (Below.refl _ _)
  ·intro T2 w2 hM hN hO hE K hK
   obtain⟨v10,h10,e10⟩:=hE ⟨10,.data⟩ (by simp) rfl _ _ rfl rfl
   rw [show v10 = .bool false from e10] at h10
   obtain⟨v15,h15,e15⟩:=hE ⟨15,.data⟩ (by simp) rfl _ _ rfl rfl
   rw [show v15 = .bool false from e15] at h15
   clear hE hO hN
   refine step_plain0 rfl ?_
   go_simp
   exact hK _ _ rfl hM (Below.refl _ _)
 ·intro u w2 hM hF
  have e16:u 16 = .bool false:=hF 16 (by omega)
  clear hF
  simp only [fillAll,Nat.reduceAdd,e16,List.take_succ_cons,List.take_zero,List.drop_succ_cons,List.drop_zero,List.setIfInBounds_toArray,List.set_cons_succ,List.set_cons_zero]
  have HMM:=hid2 hM
  obtain⟨wa,hwa⟩:∃ wa,wa=w2:=⟨_,rfl⟩
  rw [← hwa] at HMM ⊢
  clear hM hwa
  go_wp2_with fail
  refine wp_region_rel 6 (by kernel_rfl) (by kernel_rfl) (by kernel_rfl) _ rfl (by kernel_rfl) (VV [some (.map (some g)),some (.slice (some ⟨b1,o1,none⟩) 2 c),some (.pointer (some ⟨b1,o1+1,none⟩)),some (.string B0),some (.bool true),some (.bool false)] (fun _ _ _=>False)) (fun w2=>Below w1.heap.size w1 w2) (fun a b=>Below a.heap.size a b) (HMM.out.drew) (fun j v w1 w2 hb hv=>VV.keep (fun h=>h.elim) hv) ?_ ?_
  ·refine of_allOps ⟨?_,?_,?_,?_,?_,?_,trivial⟩
   ·refine⟨rfl,fun T2 w2 hM hN hO hE K hK=>?_⟩
    have o3:T2[3]?=some (.pointer (some ⟨g4,0,none⟩)):=hO 3 rfl
    clear hE hO hN
    have hcc:=HC4.out w2 hM
    go_simp
    exact hK _ _ rfl hM (Below.refl _ _)
   ·refine⟨rfl,fun T2 w2 hM hN hO hE K hK=>?_⟩
    have o4:T2[4]?=some (.slice (some ⟨b1,o1,none⟩) 2 c):=hO 4 rfl
    clear hE hO hN
    go_simp
    exact hK _ _ rfl hM (Below.refl _ _)
   ·refine⟨rfl,fun T2 w2 hM hN hO hE K hK=>?_⟩
    obtain⟨v1,h1,e1⟩:=hE ⟨1,.data⟩ (by simp) rfl _ _ rfl rfl
    rw [show v1 = .slice (some ⟨b1,o1,none⟩) 2 c from e1] at h1
    clear hE hO hN
    go_simp
    exact hK _ _ rfl hM (Below.refl _ _)
   ·refine⟨rfl,fun T2 w2 hM hN hO hE K hK=>?_⟩
    obtain⟨v2,h2,e2⟩:=hE ⟨2,.data⟩ (by simp) rfl _ _ rfl rfl
    rw [show v2 = .pointer (some ⟨b1,o1+1,none⟩) from e2] at h2
    clear hE hO hN
    have hcc:=(HRW.out w2 hM).2
    go_simp
    exact hK _ _ rfl hM (Below.refl _ _)
   ·refine⟨rfl,fun T2 w2 hM hN hO hE K hK=>?_⟩
    obtain⟨v0,h0,e0⟩:=hE ⟨0,.data⟩ (by simp) rfl _ _ rfl rfl
    rw [show v0 = .map (some g) from e0] at h0
    obtain⟨v3,h3,e3⟩:=hE ⟨3,.data⟩ (by simp) rfl _ _ rfl rfl
    rw [show v3 = .string B0 from e3] at h3
    clear hE hO hN
    have hcc:=HLK.out w2 (hb1.trans (hM.mono hsz))
    go_simp
    exact hK _ _ rfl hM (Below.refl _ _)
   ·refine⟨rfl,fun T2 w2 hM hN hO hE K hK=>?_⟩
    obtain⟨v4,h4,e4⟩:=hE ⟨4,.data⟩ (by simp) rfl _ _ rfl rfl
    rw [show v4 = .bool true from e4] at h4
    clear hE hO hN
    go_simp
    exact hK _ _ rfl hM (Below.refl _ _)
  ·intro u w2 hM hF
   have e5:u 5 = .bool false:=hF 5 (by omega)
   clear hF
   simp only [fillAll,Nat.reduceAdd,e5,List.take_succ_cons,List.take_zero,List.drop_succ_cons,List.drop_zero,List.setIfInBounds_toArray,List.set_cons_succ,List.set_cons_zero]
   have hfin:=hb1.trans (hM.mono hsz)
   clear hM
   go_wp2_with fail
   refine bodyPost_ret (results_none rfl _ _ _) rfl ?_
   exact HFN.out _ hfin
set_option maxHeartbeats 4000000 in
theorem line_new (w:World) (L:RLay) (v:Env) (hv:v.may=mayB) (q:Option Nat) (s:PS) (h:RunIs w L v q s) (hf:Fit w L s) (x wd:TT) (hx:x.length≤1000000) (g1 g2 g3 g4:Nat) (h1:SBox w g1 x) (h2:SBox w g2 wd) (h3:RBox w g3 L.R) (h4:MBox w g4 q) (hmap:MapAt w L q s) (hsn:s.seen.length < 1000000000) (a b:TT) (hw:wordsT x=[a,b]) (heqw:a=wd) (hmay:mayB b=true) (hin:b ∉ s.seen) :
  Calls Tryz.prog 70 #[ptrV g1,ptrV g2,ptrV g3,ptrV g4] w (VPost w L v q (s.scan b wd)):=by
 have hB:=h.size
 have cW:=words_any w x (by omega)
 obtain⟨R,hR⟩:∃ R,R=L.R:=⟨_,rfl⟩
 obtain⟨X,hX⟩:∃ X,X=strB x:=⟨_,rfl⟩
 obtain⟨WD,hWD⟩:∃ WD,WD=strB wd:=⟨_,rfl⟩
 obtain⟨Pq,hPq⟩:∃ Pq:Ending→World→Prop,Pq=VPost w L v q (s.scan b wd):=⟨_,rfl⟩
 have c1:w.cell? ⟨g1,0,none⟩=some (.string X):=by rw [hX];exact CellB.cell h1 0
 have c2:w.cell? ⟨g2,0,none⟩=some (.string WD):=by rw [hWD];exact CellB.cell h2 0
 have c3:w.cell? ⟨g3,0,none⟩=some (.pointer (some ⟨R,0,none⟩)):=by rw [hR];exact CellB.cell h3 0
 have l1:g1 < w.heap.size:=CellB.lt h1
 have l2:g2 < w.heap.size:=CellB.lt h2
 have l3:g3 < w.heap.size:=CellB.lt h3
 rw [← hX] at cW
 rw [ptrV,ptrV,ptrV,ptrV,← hPq]
 obtain⟨A0,hA0⟩:∃ A0,A0=strB a:=⟨_,rfl⟩
 obtain⟨B0,hB0⟩:∃ B0,B0=strB b:=⟨_,rfl⟩
 have hwe:strV (wordsT x)=[.string A0,.string B0]:=by rw [hw,hA0,hB0];rfl
 have hwl:(wordsT x).length=2:=by rw [hw];rfl
 have hbl:b.length≤1000000:=Nat.le_trans (wordsT_mem (s:=x) (x:=b) (by rw [hw];simp)).2.2 hx
 rw [hwe,hwl] at cW
 have CW:=hid2 cW
 have HMY:=hid2 (fun (w2:World)=>show Calls Tryz.prog 65 #[.string B0] w2 fun e w'=>e = .returned (.bool true)∧Below w2.heap.size w2 w' from by
  have:=may_any w2 B0 (by rw [hB0,strB_size];exact hbl)
  rwa [show B0.data.toList=b from by rw [hB0];simp [strB],hmay] at this)
 have heq:(A0.toList == WD.toList)=true:=by rw [hA0,hWD,heqw,beq_self_eq_true]
 have heq2:A0.toList=WD.toList:=by rw [hA0,hWD,heqw]
 obtain⟨g,M,hq,hgB,hgm,hM0,hMk⟩:=id hmap
 have c4:w.cell? ⟨g4,0,none⟩=some (.map (some g)):=by
  obtain⟨g',e,hc⟩:=h4
  rw [hq] at e
  cases e
  exact hc.cell 0
 have l4:g4 < w.heap.size:=by
  obtain⟨g',e,hc⟩:=h4
  exact hc.lt
 have hglt:=hM0.lt
 have HLK:=hid2 (fun (w2:World) (hb:Below w.heap.size w w2)=>show (Instr.lookup 83 (.map (some g)) (.string B0) false).run Tryz.prog w2 = .ok (.bool false) w2 from by
  have:=(hM0.below hb hglt).look encB_inj Tryz.underlying9 Tryz.underlying83 false (zero_bool w2) B0 (by rw [hB0,strB_size];unfold maxLen;omega)
  rw [show B0.data.toList=b from by rw [hB0];simp [strB],hMk b,if_neg hin] at this
  exact this)
 have HSC:=hid2 (fun (w2:World) (hb:Below w.heap.size w w2)=>show Calls Tryz.prog 43 #[.pointer (some ⟨R,0,none⟩),.string B0,.string WD,.map (some g)] w2 fun e w3=>e = .returned (.tuple #[])∧Pq (.returned (.tuple #[])) w3 from by
  have:=scan_any w2 L v q s (h.below hb) (hf.below hb) (hmap.below hb) hsn b wd hbl g hq
  rw [ptrV,← hR,← hB0,← hWD] at this
  refine this.mono fun e w3 k=>⟨k.1,?_⟩
  rw [hPq]
  have:=k.since hb hB
  rw [k.1] at this
  exact this)
 clear cW hX hPq hWD h1 h2 h3 h4 h hf hR hx hw hwe hwl hA0 hB0 heqw hmay hbl hv hmap hM0 hMk hin hq hsn
 go_enter Tryz.func70,Tryz.ntmps70
 go_wp2_with (go_at_call 61; refine CW.out.mono ?_;rintro e w1 ⟨A,c,rfl,ho,hb⟩;have HB:=hid2 hb;have HO:=hid2 ho;clear ho hb)
 have hb1:=HB.out
 have hsz:=hb1.size
 have HC:=hid2 (show ∀ w2,Below w1.heap.size w1 w2→w2.cell? ⟨g1,0,none⟩=some (.string X)∧w2.cell? ⟨g2,0,none⟩=some (.string WD)∧w2.cell? ⟨g3,0,none⟩=some (.pointer (some ⟨R,0,none⟩)) from fun w2 hb=>by
  have h0:=hb1.trans (hb.mono hsz)
  exact⟨(h0.cell (p:=⟨g1,0,none⟩) l1).trans c1,(h0.cell (p:=⟨g2,0,none⟩) l2).trans c2,(h0.cell (p:=⟨g3,0,none⟩) l3).trans c3⟩)
 obtain⟨b1,o1,rfl,hrc⟩:=HO.out.rd.2 (by decide)
 have r0:w1.cell? ⟨b1,o1,none⟩=some (.string A0):=hrc 0 _ rfl
 have r1:w1.cell? ⟨b1,o1+1,none⟩=some (.string B0):=hrc 1 _ rfl
 have hblt:b1 < w1.heap.size:=World.block_lt_of_cell? _ _ r0
 have hcap:(2:Int)≤c:=by have:=HO.out.2.1;omega
 have HRW:=hid2 (show ∀ w2,Below w1.heap.size w1 w2→w2.cell? ⟨b1,o1,none⟩=some (.string A0)∧w2.cell? ⟨b1,o1+1,none⟩=some (.string B0) from fun w2 hb=>⟨(hb.cell (p:=⟨b1,o1,none⟩) hblt).trans r0,(hb.cell (p:=⟨b1,o1+1,none⟩) hblt).trans r1⟩)
 clear hrc
 have HC4:=hid2 (show ∀ w2,Below w1.heap.size w1 w2→w2.cell? ⟨g4,0,none⟩=some (.map (some g)) from fun w2 hb=>((hb1.trans (hb.mono hsz)).cell (p:=⟨g4,0,none⟩) l4).trans c4)
 refine wp_region_grd 17 (by kernel_rfl) (by kernel_rfl) (by kernel_rfl) _ rfl (by kernel_rfl) (VV [some (.slice (some ⟨b1,o1,none⟩) 2 c),some (.int .i64 2),some (.bool false),some (.bool false),some (.slice (some ⟨b1,o1,none⟩) 2 c),some (.pointer (some ⟨b1,o1,none⟩)),some (.string A0),some (.string WD),some (.bool false),some (.bool false),some (.bool false),some (.slice (some ⟨b1,o1,none⟩) 2 c),some (.pointer (some ⟨b1,o1+1,none⟩)),some (.string B0),some (.bool true),some (.bool false),some (.bool false)] (fun _ _ _=>False)) (fun w2=>Below w1.heap.size w1 w2) (fun a b=>Below a.heap.size a b) ((Below.refl _ w1).drew) (fun j v w1 w2 hb hv=>VV.keep (fun h=>h.elim) hv) ?_ ?_
 ·refine of_allOps ⟨?_,?_,?_,?_,?_,?_,?_,?_,?_,?_,?_,?_,?_,?_,?_,?_,?_,trivial⟩
  ·intro T2 w2 hM hN hO hE K hK
   have o4:T2[4]?=some (.slice (some ⟨b1,o1,none⟩) 2 c):=hO 4 rfl
   clear hE hO hN
   refine step_plain0 rfl ?_
   go_simp
   exact hK _ _ rfl hM (Below.refl _ _)
  ·intro T2 w2 hM hN hO hE K hK
   obtain⟨v0,h0,e0⟩:=hE ⟨0,.data⟩ (by simp) rfl _ _ rfl rfl
   rw [show v0 = .slice (some ⟨b1,o1,none⟩) 2 c from e0] at h0
   clear hE hO hN
   refine step_plain0 rfl ?_
   go_simp
   exact hK _ _ rfl hM (Below.refl _ _)
  ·intro T2 w2 hM hN hO hE K hK
   obtain⟨v1,h1,e1⟩:=hE ⟨1,.data⟩ (by simp) rfl _ _ rfl rfl
   rw [show v1 = .int .i64 2 from e1] at h1
   clear hE hO hN
   refine step_plain0 rfl ?_
   go_simp
   exact hK _ _ rfl hM (Below.refl _ _)
  ·intro T2 w2 hM hN hO hE K hK
   obtain⟨v2,h2,e2⟩:=hE ⟨2,.data⟩ (by simp) rfl _ _ rfl rfl
   rw [show v2 = .bool false from e2] at h2
   clear hE hO hN
   refine step_plain0 rfl ?_
   go_simp
   exact hK _ _ rfl hM (Below.refl _ _)
  ·intro T2 w2 hM hN hO hE K hK
   have o4:T2[4]?=some (.slice (some ⟨b1,o1,none⟩) 2 c):=hO 4 rfl
   obtain⟨v3,h3,e3⟩:=hE ⟨3,.guard⟩ (by simp) rfl _ _ rfl rfl
   rw [show v3 = .bool false from e3] at h3
   clear hE hO hN
   refine grd_met rfl rfl rfl h3 ?_
   go_simp
   exact hK _ _ rfl hM (Below.refl _ _)
  ·intro T2 w2 hM hN hO hE K hK
   obtain⟨v4,h4,e4⟩:=hE ⟨4,.data⟩ (by simp) rfl _ _ rfl rfl
   rw [show v4 = .slice (some ⟨b1,o1,none⟩) 2 c from e4] at h4
   obtain⟨v3,h3,e3⟩:=hE ⟨3,.guard⟩ (by simp) rfl _ _ rfl rfl
   rw [show v3 = .bool false from e3] at h3
   clear hE hO hN
   refine grd_met rfl rfl rfl h3 ?_
   go_simp
   exact hK _ _ rfl hM (Below.refl _ _)
  ·intro T2 w2 hM hN hO hE K hK
   obtain⟨v5,h5,e5⟩:=hE ⟨5,.data⟩ (by simp) rfl _ _ rfl rfl
   rw [show v5 = .pointer (some ⟨b1,o1,none⟩) from e5] at h5
   obtain⟨v3,h3,e3⟩:=hE ⟨3,.guard⟩ (by simp) rfl _ _ rfl rfl
   rw [show v3 = .bool false from e3] at h3
   clear hE hO hN
   refine grd_met rfl rfl rfl h3 ?_
   have hcc:=(HRW.out w2 hM).1
   go_simp
   exact hK _ _ rfl hM (Below.refl _ _)
  ·intro T2 w2 hM hN hO hE K hK
   have o1:T2[1]?=some (.pointer (some ⟨g2,0,none⟩)):=hO 1 rfl
   obtain⟨v3,h3,e3⟩:=hE ⟨3,.guard⟩ (by simp) rfl _ _ rfl rfl
   rw [show v3 = .bool false from e3] at h3
   clear hE hO hN
   refine grd_met rfl rfl rfl h3 ?_
   have hcc:=(HC.out w2 hM).2.1
   go_simp
   exact hK _ _ rfl hM (Below.refl _ _)
  ·intro T2 w2 hM hN hO hE K hK
   obtain⟨v6,h6,e6⟩:=hE ⟨6,.data⟩ (by simp) rfl _ _ rfl rfl
   rw [show v6 = .string A0 from e6] at h6
   obtain⟨v7,h7,e7⟩:=hE ⟨7,.data⟩ (by simp) rfl _ _ rfl rfl
   rw [show v7 = .string WD from e7] at h7
   obtain⟨v3,h3,e3⟩:=hE ⟨3,.guard⟩ (by simp) rfl _ _ rfl rfl
   rw [show v3 = .bool false from e3] at h3
   clear hE hO hN
   refine grd_met rfl rfl rfl h3 ?_
   go_simp
   exact hK _ _ rfl hM (Below.refl _ _)
  ·intro T2 w2 hM hN hO hE K hK
   obtain⟨v3,h3,e3⟩:=hE ⟨3,.data⟩ (by simp) rfl _ _ rfl rfl
   rw [show v3 = .bool false from e3] at h3
   obtain⟨v8,h8,e8⟩:=hE ⟨8,.data⟩ (by simp) rfl _ _ rfl rfl
   rw [show v8 = .bool false from e8] at h8
   clear hE hO hN
   refine step_plain0 rfl ?_
   go_simp
   exact hK _ _ rfl hM (Below.refl _ _)
  ·intro T2 w2 hM hN hO hE K hK
   obtain⟨v9,h9,e9⟩:=hE ⟨9,.data⟩ (by simp) rfl _ _ rfl rfl
   rw [show v9 = .bool false from e9] at h9
   clear hE hO hN
   refine step_plain0 rfl ?_
   go_simp
   exact hK _ _ rfl hM (Below.refl _ _)
  ·intro T2 w2 hM hN hO hE K hK
   have o4:T2[4]?=some (.slice (some ⟨b1,o1,none⟩) 2 c):=hO 4 rfl
   obtain⟨v10,h10,e10⟩:=hE ⟨10,.guard⟩ (by simp) rfl _ _ rfl rfl
   rw [show v10 = .bool false from e10] at h10
   clear hE hO hN
   refine grd_met rfl rfl rfl h10 ?_
   go_simp
   exact hK _ _ rfl hM (Below.refl _ _)
  ·intro T2 w2 hM hN hO hE K hK
   obtain⟨v11,h11,e11⟩:=hE ⟨11,.data⟩ (by simp) rfl _ _ rfl rfl
   rw [show v11 = .slice (some ⟨b1,o1,none⟩) 2 c from e11] at h11
   obtain⟨v10,h10,e10⟩:=hE ⟨10,.guard⟩ (by simp) rfl _ _ rfl rfl
   rw [show v10 = .bool false from e10] at h10
   clear hE hO hN
   refine grd_met rfl rfl rfl h10 ?_
   go_simp
   exact hK _ _ rfl hM (Below.refl _ _)
  ·intro T2 w2 hM hN hO hE K hK
   obtain⟨v12,h12,e12⟩:=hE ⟨12,.data⟩ (by simp) rfl _ _ rfl rfl
   rw [show v12 = .pointer (some ⟨b1,o1+1,none⟩) from e12] at h12
   obtain⟨v10,h10,e10⟩:=hE ⟨10,.guard⟩ (by simp) rfl _ _ rfl rfl
   rw [show v10 = .bool false from e10] at h10
   clear hE hO hN
   refine grd_met rfl rfl rfl h10 ?_
   have hcc:=(HRW.out w2 hM).2
   go_simp
   exact hK _ _ rfl hM (Below.refl _ _)
  ·intro T2 w2 hM hN hO hE K hK
   obtain⟨v13,h13,e13⟩:=hE ⟨13,.data⟩ (by simp) rfl _ _ rfl rfl
   rw [show v13 = .string B0 from e13] at h13
   obtain⟨v10,h10,e10⟩:=hE ⟨10,.guard⟩ (by simp) rfl _ _ rfl rfl
   rw [show v10 = .bool false from e10] at h10
   clear hE hO hN
   refine grd_met rfl rfl rfl h10 ?_
   go_simp
   refine (HMY.out w2).mono ?_
   rintro e w3 ⟨rfl,hb⟩
   exact hK _ _ rfl (hM.trans (hb.mono hM.size)) hb
  ·intro T2 w2 hM hN hO hE K hK
   obtain⟨v14,h14,e14⟩:=hE ⟨14,.data⟩ (by simp) rfl _ _ rfl rfl
   rw [show v14 = .bool true from e14] at h14
   obtain⟨v10,h10,e10⟩:=hE ⟨10,.guard⟩ (by simp) rfl _ _ rfl rfl
   rw [show v10 = .bool false from e10] at h10
   clear hE hO hN
   refine grd_met rfl rfl rfl h10 ?_
   go_simp
   exact hK _ _ rfl hM (Below.refl _ _)
  ·intro T2 w2 hM hN hO hE K hK
   obtain⟨v10,h10,e10⟩:=hE ⟨10,.data⟩ (by simp) rfl _ _ rfl rfl
   rw [show v10 = .bool false from e10] at h10
   obtain⟨v15,h15,e15⟩:=hE ⟨15,.data⟩ (by simp) rfl _ _ rfl rfl
   rw [show v15 = .bool false from e15] at h15
   clear hE hO hN
   refine step_plain0 rfl ?_
   go_simp
   exact hK _ _ rfl hM (Below.refl _ _)
 ·intro u w2 hM hF
  have e16:u 16 = .bool false:=hF 16 (by omega)
  clear hF
  simp only [fillAll,Nat.reduceAdd,e16,List.take_succ_cons,List.take_zero,List.drop_succ_cons,List.drop_zero,List.setIfInBounds_toArray,List.set_cons_succ,List.set_cons_zero]
  have HMM:=hid2 hM
  obtain⟨wa,hwa⟩:∃ wa,wa=w2:=⟨_,rfl⟩
  rw [← hwa] at HMM ⊢
  clear hM hwa
  go_wp2_with fail
  refine wp_region_rel 6 (by kernel_rfl) (by kernel_rfl) (by kernel_rfl) _ rfl (by kernel_rfl) (VV [some (.map (some g)),some (.slice (some ⟨b1,o1,none⟩) 2 c),some (.pointer (some ⟨b1,o1+1,none⟩)),some (.string B0),some (.bool false),some (.bool true)] (fun _ _ _=>False)) (fun w2=>Below w1.heap.size w1 w2) (fun a b=>Below a.heap.size a b) (HMM.out.drew) (fun j v w1 w2 hb hv=>VV.keep (fun h=>h.elim) hv) ?_ ?_
  ·refine of_allOps ⟨?_,?_,?_,?_,?_,?_,trivial⟩
   ·refine⟨rfl,fun T2 w2 hM hN hO hE K hK=>?_⟩
    have o3:T2[3]?=some (.pointer (some ⟨g4,0,none⟩)):=hO 3 rfl
    clear hE hO hN
    have hcc:=HC4.out w2 hM
    go_simp
    exact hK _ _ rfl hM (Below.refl _ _)
   ·refine⟨rfl,fun T2 w2 hM hN hO hE K hK=>?_⟩
    have o4:T2[4]?=some (.slice (some ⟨b1,o1,none⟩) 2 c):=hO 4 rfl
    clear hE hO hN
    go_simp
    exact hK _ _ rfl hM (Below.refl _ _)
   ·refine⟨rfl,fun T2 w2 hM hN hO hE K hK=>?_⟩
    obtain⟨v1,h1,e1⟩:=hE ⟨1,.data⟩ (by simp) rfl _ _ rfl rfl
    rw [show v1 = .slice (some ⟨b1,o1,none⟩) 2 c from e1] at h1
    clear hE hO hN
    go_simp
    exact hK _ _ rfl hM (Below.refl _ _)
   ·refine⟨rfl,fun T2 w2 hM hN hO hE K hK=>?_⟩
    obtain⟨v2,h2,e2⟩:=hE ⟨2,.data⟩ (by simp) rfl _ _ rfl rfl
    rw [show v2 = .pointer (some ⟨b1,o1+1,none⟩) from e2] at h2
    clear hE hO hN
    have hcc:=(HRW.out w2 hM).2
    go_simp
    exact hK _ _ rfl hM (Below.refl _ _)
   ·refine⟨rfl,fun T2 w2 hM hN hO hE K hK=>?_⟩
    obtain⟨v0,h0,e0⟩:=hE ⟨0,.data⟩ (by simp) rfl _ _ rfl rfl
    rw [show v0 = .map (some g) from e0] at h0
    obtain⟨v3,h3,e3⟩:=hE ⟨3,.data⟩ (by simp) rfl _ _ rfl rfl
    rw [show v3 = .string B0 from e3] at h3
    clear hE hO hN
    have hcc:=HLK.out w2 (hb1.trans (hM.mono hsz))
    go_simp
    exact hK _ _ rfl hM (Below.refl _ _)
   ·refine⟨rfl,fun T2 w2 hM hN hO hE K hK=>?_⟩
    obtain⟨v4,h4,e4⟩:=hE ⟨4,.data⟩ (by simp) rfl _ _ rfl rfl
    rw [show v4 = .bool false from e4] at h4
    clear hE hO hN
    go_simp
    exact hK _ _ rfl hM (Below.refl _ _)
  ·intro u w2 hM hF
   have e5:u 5 = .bool true:=hF 5 (by omega)
   clear hF
   simp only [fillAll,Nat.reduceAdd,e5,List.take_succ_cons,List.take_zero,List.drop_succ_cons,List.drop_zero,List.setIfInBounds_toArray,List.set_cons_succ,List.set_cons_zero]
   have HM3:=hid2 hM
   obtain⟨wb,hwb⟩:∃ wb,wb=w2:=⟨_,rfl⟩
   rw [← hwb] at HM3 ⊢
   clear hM hwb
   go_wp2_with fail
   refine wp_region_rel 6 (by kernel_rfl) (by kernel_rfl) (by kernel_rfl) _ rfl (by kernel_rfl) (VV [some (.pointer (some ⟨R,0,none⟩)),some (.slice (some ⟨b1,o1,none⟩) 2 c),some (.pointer (some ⟨b1,o1+1,none⟩)),some (.string B0),some (.string WD),some (.map (some g))] (fun _ _ _=>False)) (fun w2=>Below w1.heap.size w1 w2) (fun a b=>Below a.heap.size a b) (HM3.out.drew) (fun j v w1 w2 hb hv=>VV.keep (fun h=>h.elim) hv) ?_ ?_
   ·refine of_allOps ⟨?_,?_,?_,?_,?_,?_,trivial⟩
    ·refine⟨rfl,fun T2 w2 hM hN hO hE K hK=>?_⟩
     have o2:T2[2]?=some (.pointer (some ⟨g3,0,none⟩)):=hO 2 rfl
     clear hE hO hN
     have hcc:=(HC.out w2 hM).2.2
     go_simp
     exact hK _ _ rfl hM (Below.refl _ _)
    ·refine⟨rfl,fun T2 w2 hM hN hO hE K hK=>?_⟩
     have o4:T2[4]?=some (.slice (some ⟨b1,o1,none⟩) 2 c):=hO 4 rfl
     clear hE hO hN
     go_simp
     exact hK _ _ rfl hM (Below.refl _ _)
    ·refine⟨rfl,fun T2 w2 hM hN hO hE K hK=>?_⟩
     obtain⟨v1,h1,e1⟩:=hE ⟨1,.data⟩ (by simp) rfl _ _ rfl rfl
     rw [show v1 = .slice (some ⟨b1,o1,none⟩) 2 c from e1] at h1
     clear hE hO hN
     go_simp
     exact hK _ _ rfl hM (Below.refl _ _)
    ·refine⟨rfl,fun T2 w2 hM hN hO hE K hK=>?_⟩
     obtain⟨v2,h2,e2⟩:=hE ⟨2,.data⟩ (by simp) rfl _ _ rfl rfl
     rw [show v2 = .pointer (some ⟨b1,o1+1,none⟩) from e2] at h2
     clear hE hO hN
     have hcc:=(HRW.out w2 hM).2
     go_simp
     exact hK _ _ rfl hM (Below.refl _ _)
    ·refine⟨rfl,fun T2 w2 hM hN hO hE K hK=>?_⟩
     have o1:T2[1]?=some (.pointer (some ⟨g2,0,none⟩)):=hO 1 rfl
     clear hE hO hN
     have hcc:=(HC.out w2 hM).2.1
     go_simp
     exact hK _ _ rfl hM (Below.refl _ _)
    ·refine⟨rfl,fun T2 w2 hM hN hO hE K hK=>?_⟩
     have o3:T2[3]?=some (.pointer (some ⟨g4,0,none⟩)):=hO 3 rfl
     clear hE hO hN
     have hcc:=HC4.out w2 hM
     go_simp
     exact hK _ _ rfl hM (Below.refl _ _)
   ·intro u w2 hM hF
    have e0:u 0 = .pointer (some ⟨R,0,none⟩):=hF 0 (by omega)
    have e3:u 3 = .string B0:=hF 3 (by omega)
    have e4:u 4 = .string WD:=hF 4 (by omega)
    have e5:u 5 = .map (some g):=hF 5 (by omega)
    clear hF
    simp only [fillAll,Nat.reduceAdd,e0,e3,e4,e5,List.take_succ_cons,List.take_zero,List.drop_succ_cons,List.drop_zero,List.setIfInBounds_toArray,List.set_cons_succ,List.set_cons_zero]
    have hfin:=hb1.trans (hM.mono hsz)
    have HFIN:=hid2 hfin
    clear hM hfin
    go_wp2_with (go_at_call 43; refine (HSC.out w2 HFIN.out).mono ?_;rintro e w3 ⟨rfl,hp⟩;have HP:=hid2 hp;clear hp)
    refine bodyPost_ret (results_none rfl _ _ _) rfl ?_
    exact HP.out
theorem line_any (w:World) (L:RLay) (v:Env) (hv:v.may=mayB) (q:Option Nat) (s:PS) (h:RunIs w L v q s) (hf:Fit w L s) (hmap:MapAt w L q s) (hsn:s.seen.length < 1000000000) (x wd:TT) (hx:x.length≤1000000) (g1 g2 g3 g4:Nat) (h1:SBox w g1 x) (h2:SBox w g2 wd) (h3:RBox w g3 L.R) (h4:MBox w g4 q) :
  Calls Tryz.prog 70 #[ptrV g1,ptrV g2,ptrV g3,ptrV g4] w (VPost w L v q (s.line v x wd)):=by
 by_cases hn:(wordsT x).length=2
 ·obtain⟨a,b,hw⟩:∃ a b,wordsT x=[a,b]:=by
   match hw:wordsT x,hn with
   | [a,b],_=>exact⟨a,b,rfl⟩
  rw [PS.line,hw]
  simp only
  by_cases ha:a=wd
  ·cases hm:mayB b with
   | false =>
    rw [if_neg (by rw [hv,hm];simp)]
    exact line_nopath w L v hv q s h hf x wd hx g1 g2 g3 g4 h1 h2 h3 h4 a b hw ha hm
   | true =>
    rw [if_pos (by rw [hv];exact⟨ha,hm⟩)]
    by_cases hi:b∈s.seen
    ·rw [if_pos hi]
     exact line_seen w L v hv q s h hf x wd hx g1 g2 g3 g4 h1 h2 h3 h4 hmap a b hw ha hm hi
    ·rw [if_neg hi]
     exact line_new w L v hv q s h hf x wd hx g1 g2 g3 g4 h1 h2 h3 h4 hmap hsn a b hw ha hm hi
  ·rw [if_neg (by rw [hv];exact fun e=>ha e.1)]
   exact line_other w L v hv q s h hf x wd hx g1 g2 g3 g4 h1 h2 h3 h4 a b hw ha
 ·have:s.line v x wd=s.add (x++[10]):=by
   unfold PS.line
   match hw:wordsT x with
   | []=>rfl
   | [a]=>rfl
   | [a,b]=>rw [hw] at hn;exact absurd rfl hn
   | a :: b :: c :: r=>rfl
  rw [this]
  exact line_few w L v hv q s h hf x wd hx g1 g2 g3 g4 h1 h2 h3 h4 hn
end Go.Proofs.YtnecjdhamohadaaGreatDoor
