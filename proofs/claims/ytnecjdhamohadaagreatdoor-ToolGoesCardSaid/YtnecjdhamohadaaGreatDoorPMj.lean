/- A tool's run: what is done with the text of a file. -/
import Derived.Test.YtnecjdhamohadaaGreatDoorPMi
import Derived.BigRegion
import Derived.Test.YtnecjdhamohadaaGreatDoorPMe
import Derived.Maps.OwnSet
import Derived.Lib.AppendIntMem
set_option linter.unusedSimpArgs false
set_option linter.unusedVariables false
namespace Go.Proofs.YtnecjdhamohadaaGreatDoor
open Go.RowKit Go.Maps Go.Shelf
attribute [local go_sem] Oper.semAt_some
set_option maxRecDepth 100000
theorem TBut.grow {B n0:Nat} {W W':World} {row:Option Nat} (hg:W.grownBy W' row) (hr:∀ r,row=some r→n0≤r∧∃ o:Obj,W.heap[r]?=some o∧o.isCells=false) (hB:B≤n0) (hn:n0≤W.heap.size):TBut B W W' :=
 ⟨hg.os,hg.tape,hg.output,hg.size,fun k hk=>hg.block k (by omega) fun e=>by have:=(hr k e.symm).1;omega,fun k cs t fr hk _ _=>hg.block k (heap_lt hk) fun e=>by
  obtain⟨o,ho,hc⟩:=(hr k e.symm).2
  rw [hk] at ho
  cases ho
  cases hc⟩
theorem RunAt.grow {W W':World} {L:RLay} {v:Env} {q:Option Nat} {s:PS} {A:Option Addr} {c n0:Nat} {us:List Value} {row:Option Nat} (h:RunAt W L v q s A c us) (hg:W.grownBy W' row) (hr:∀ r,row=some r→n0≤r∧∃ o:Obj,W.heap[r]?=some o∧o.isCells=false)
  (hB:L.B≤n0) (hn:n0≤W.heap.size) (hm:L.m < n0) (hq:∀ g,q=some g→g < n0):RunAt W' L v q s A c us:=by
 have hb:=TBut.grow (B:=L.B) hg hr hB hn
 have hcell:∀ (k:Nat) (cs:Array Value) (t:TypeId) (fr:Nat × Nat),W.heap[k]?=some (.cells cs t fr)→W'.heap[k]?=some (.cells cs t fr):=fun k cs t fr hk=>(hg.block k (heap_lt hk) fun e=>by
  obtain⟨o,ho,hc⟩:=(hr k e.symm).2
  rw [hk] at ho
  cases ho
  cases hc).trans hk
 have hlow:∀ k,k < n0→W'.heap[k]?=W.heap[k]?:=fun k hk=>hg.block k (by omega) fun e=>by have:=(hr k e.symm).1;omega
 refine⟨hcell _ _ _ _ h.run,h.base,h.row.keep fun b hb _ _=>?_,fun i t hi=>?_,h.env.tbut hb (by decide) (by decide),?_,?_⟩
 ·obtain⟨_,_,cur,fr,hc⟩:=h.row.block b hb
  rw [hcell _ _ _ _ hc,hc]
 ·obtain⟨u,h1,h2⟩:=h.tasks i t hi
  exact⟨u,h1,h2.keep hb⟩
 ·obtain⟨h1,M,h2,h3⟩:=h.known
  exact⟨h1,M,h2.keep (hlow _ hm),h3⟩
 ·rcases h.seen with h1 | ⟨g,M,h1,h2,h3,h4,h5⟩
  ·exact .inl h1
  ·exact .inr ⟨g,M,h1,h2,h3,h4.keep (hlow _ (hq g h1)),h5⟩
theorem MapAt.keep {W W':World} {L:RLay} {q:Option Nat} {s:PS} (h:MapAt W L q s) {n0:Nat} (hq:∀ g,q=some g→g < n0) (hlow:∀ k,k < n0→W'.heap[k]?=W.heap[k]?):MapAt W' L q s:=by
 obtain⟨g,M,h1,h2,h3,h4,h5⟩:=h
 exact⟨g,M,h1,h2,h3,h4.keep (hlow _ (hq g h1)),h5⟩
def linesOf (wd:TT) (pre:List TX):List TaskE:=pre.reverse.map fun x=>TaskE.line x.1.2 wd
theorem linesOf_snoc (wd:TT) (pre:List TX) (x:TX):linesOf wd (pre++[x]) = .line x.1.2 wd :: linesOf wd pre:=by simp [linesOf]
theorem linesOf_all {wd:TT} {ys:List TX} {l:List TT} (h:ys.map (·.1.2)=l.reverse):linesOf wd ys=l.map (TaskE.line · wd):=by
 have:ys.reverse.map (·.1.2)=l:=by rw [List.map_reverse,h,List.reverse_reverse]
 rw [← this,linesOf,List.map_map]
 rfl
def ScI (w:World) (L:RLay) (v:Env) (q:Option Nat) (s:PS) (wd:TT) (pre:List TX) (W:World):Prop :=
 RunIs W L v q { s with todo:=linesOf wd pre++s.todo }∧MapAt W L q s∧TBut L.B w W
theorem ScI.below {w W W':World} {L:RLay} {v:Env} {q:Option Nat} {s:PS} {wd:TT} {pre:List TX} (h:ScI w L v q s wd pre W) (hb:Below W.heap.size W W'):ScI w L v q s wd pre W':=⟨h.1.below hb,h.2.1.below hb,h.2.2.trans (TBut.of_below hb h.1.size)⟩
theorem KeepsFrom.push {W w2:World} {B B' n c R:Nat} {A:Option Addr} {V:List Value} {cs:Array Value} {t:TypeId} {fr:Nat × Nat} (h:PushM W B A n c V w2) (ho:Own W B 1 1 A n c V) (hR:w2.heap[R]?=some (.cells cs t fr)) (o:Nat) (u:Value):KeepsFrom B' W (w2.setCell ⟨R,o,none⟩ u):=by
 refine⟨by rw [World.size_setCell];exact h.1.size,fun k ob _ hk hc=>?_⟩
 have h1:w2.heap[k]?=some ob:=(h.1.block k (Array.getElem?_eq_some_iff.1 hk).1 fun e=>by
  obtain⟨_,_,cur,fr,hb⟩:=ho.block k e.symm
  rw [hk] at hb
  cases hb
  cases hc).trans hk
 refine (Below.heap_setCell _ _ _ k fun e=>?_).trans h1
 simp only at e
 subst e
 rw [h1] at hR
 cases hR
 cases hc
set_option maxHeartbeats 4000000 in
theorem scan1_any (w:World) (L:RLay) (v:Env) (q:Option Nat) (s:PS) (h:RunIs w L v q s) (hmap:MapAt w L q s) (g1 g2 g3:Nat) (x:TT) (h1:RBox w g1 L.R) (h2:SBox w g2 x) (h3:MBox w g3 q) (t:TT) (ht:t.length≤1000000) (hM:MaxL w) (hlen:s.todo.length≤100000000000) :
  Calls Tryz.prog 68 #[.string (strB t),ptrV g1,ptrV g2,ptrV g3] w (VPost w L v q { s with todo:=(linesT t).map (TaskE.line · x)++s.todo }):=by
 have hB:=h.size
 have cL:=lines_any w t (by omega) hM
 have hll:=linesT_len t
 have hle:∀ y∈linesT t,y.length≤1000000000:=fun y hy=>by have:=linesT_le hy;omega
 obtain⟨ls,hls⟩:∃ l,l=linesT t:=⟨_,rfl⟩
 obtain⟨k,hk⟩:∃ k,k=ls.length:=⟨_,rfl⟩
 obtain⟨X,hX⟩:∃ X,X=strB t:=⟨_,rfl⟩
 rw [← hls] at cL hll hle ⊢
 rw [← hk] at cL hll
 rw [← hX] at cL ⊢
 rw [ptrV,ptrV,ptrV]
 obtain⟨Pq,hPq⟩:∃ Pq:Ending→World→Prop,Pq=VPost w L v q { s with todo:=ls.map (TaskE.line · x)++s.todo }:=⟨_,rfl⟩
 rw [← hPq]
 have HPQ:=hid2 hPq
 have CL:=hid2 cL
 have HLE:=hid2 hle
 have HK:=hid2 hk
 have HH:=hid2 h
 have HMAP:=hid2 hmap
 have H1:=hid2 h1
 have H2:=hid2 h2
 have H3:=hid2 h3
 have hkl:k≤1000001:=by omega
 have hfB:=wide_fn 69
 have hfL:=wide_fn 36
 clear h hmap h1 h2 h3 cL hle hk hls hX hPq hll hM ht
 refine (callsIn_wide (n:=6)).1 ?_
 refine callsIn_of_wp_marks Tryz.func68 rfl trivial ?_ rfl
 simp only [Tryz.ntmps68,List.size_toArray,List.length_cons,List.length_nil,Nat.reduceAdd,Nat.reduceSub,Array.replicate_succ,Array.replicate_zero,List.push_toArray,List.append_toArray,List.nil_append,List.cons_append]
 gi_wp2_with (first
  | (gi_at_call 36; refine (callsIn_wide.2 CL.out).mono ?_;rintro e w1 ⟨A,c,rfl,ho,hb⟩;have HO:=hid2 ho;have HB1:=hid2 hb;clear ho hb)
  | (gi_at_call 69; refine (callsIn_wide.2 (tback_any _ A k c)).mono ?_;rintro e w' ⟨rfl,rfl⟩))
 obtain⟨b,hb⟩:∃ b,b=w1.heap.size:=⟨_,rfl⟩
 obtain⟨W0,hW0⟩:∃ W0,W0=w1.alloc (.cells #[.slice A k c] 32):=⟨_,rfl⟩
 have hbx:CellB W0 b #[.slice A k c] 32:=by rw [hW0,hb];exact World.alloc_heap_new w1 _
 have hB0:Below w.heap.size w W0:=by rw [hW0];exact HB1.out.alloc HB1.out.size _
 have hs0:W0.heap.size=b+1:=by rw [hW0,hb];simp
 have hown0:Own W0 w.heap.size 9 1 A k c (strV ls):=by rw [hW0];exact HO.out.alloc _
 rw [← hW0,← hb]
 clear hW0 hb
 have hBW:L.B≤W0.heap.size:=Nat.le_trans hB hB0.size
 have hrK:∀ W',TBut L.B W0 W'→Rd W' 1 A k (strV ls):=fun W' hW=>(hown0.tbut hW (by decide) (by decide)).rd
 obtain⟨hst0,hstops⟩:∃ _:True,SeqStopsK Fence.wide 5 Tryz.prog 92 #[.pointer (some ⟨b,0,none⟩)] encT (TBut L.B) (fun ys=>ys.map (·.1.2)=ls.reverse) (fun _=>True) k W0:=⟨trivial,by
  have hk2:=HK.out
  have:=tback_stops 5 (by omega) b L.B A c ls (by omega) HLE.out W0 hBW (by rw [← hk2];exact hbx) (fun W' hW=>by rw [← hk2];exact hrK W' hW)
  rwa [← hk2] at this⟩
 have h0:ScI w L v q s x [] W0:=⟨HH.out.below hB0,HMAP.out.below hB0,TBut.of_below hB0 hB⟩
 have hml:L.m < w.heap.size:=by
  obtain⟨_,_,_,hr⟩:=HH.out
  obtain⟨_,M,hm,_⟩:=hr.known
  exact hm.lt
 have hql:∀ g,q=some g→g < w.heap.size:=fun g hg=>by
  obtain⟨g',M,e,_,_,hm,_⟩:=HMAP.out
  rw [hg] at e
  cases e
  exact hm.lt
 have hsw:=hB0.size
 clear HO hown0 hrK hst0 hbx
 refine wpIn_rangeFunc_ownH rfl (by omega) (gf:=92) (lb:=#[.pointer (some ⟨b,0,none⟩)]) rfl trivial (enters_of Tryz.func92 (by kernel_rfl) rfl)
  hstops TBut.trans (fun W l o o' hl h h1 _=>TBut.put W l o o' (by omega) h h1) (Below.refl _ _) (fun _=>rfl)
  (ScI w L v q s x)
  (fun _ _ _=>False)
  ?hI (fun _ _ _ _ _ hs _ _=>hs) h0
  (fun y a' W=>∃ Bx,CellB W Bx #[.string (strB y.1.2)] 9 ∧ a'={ tmps:=#[.string X,.pointer (some ⟨g1,0,none⟩),.pointer (some ⟨g2,0,none⟩),.pointer (some ⟨g3,0,none⟩),undef,undef,.pointer (some ⟨Bx,0,none⟩),.string X,.slice A k c,.func (.func 92) #[] #[.pointer (some ⟨b,0,none⟩)],.int .i64 y.1.1,.string (strB y.1.2),undef,undef,undef,undef,undef,undef,undef,undef,undef,undef],defers:=[] })
  ?hAx ?assign ?body ?done ?stop
 case hI =>
  rintro pre W W' row ⟨⟨A1,c1,us,h1⟩,h2,h3⟩ hg hrow
  have hlow:∀ j,j < w.heap.size→W'.heap[j]?=W.heap[j]?:=fun j hj=>hg.block j (by have:=h3.size;omega) fun e=>by have:=(hrow j e.symm).1;omega
  have hn0:W0.heap.size≤W.heap.size∨W.heap.size < W0.heap.size:=by omega
  refine⟨⟨A1,c1,us,h1.grow (n0:=w.heap.size) hg (fun r e=>⟨by have:=(hrow r e).1;omega,(hrow r e).2⟩) hB h3.size hml hql⟩,h2.keep hql hlow,h3.trans (TBut.grow (n0:=w.heap.size) hg (fun r e=>⟨by have:=(hrow r e).1;omega,(hrow r e).2⟩) hB h3.size)⟩
 case hAx =>
  rintro y a' _ W W' row ⟨Bx,h1,h2⟩ hg hrow
  refine⟨Bx,?_,h2⟩
  unfold CellB at h1 ⊢
  refine (hg.block Bx (heap_lt h1) fun e=>?_).trans h1
  obtain⟨o,ho,hc⟩:=(hrow Bx e.symm).2
  rw [h1] at ho
  cases ho
  cases hc
 case assign =>
  rintro lp pre ⟨⟨ix,nm⟩,hx⟩ W K ⟨h1,h2,h3⟩ hK
  simp only [encT]
  have HS:=hid2 (show ScI w L v q s x pre W from ⟨h1,h2,h3⟩)
  have hBW':L.B≤W.heap.size:=h1.size
  clear h1 h2 h3
  gi_wp2
  exact hK _ _ ((KeepsOthers.alloc _ _).from _) ((TBut.refl _ W).alloc hBW' _) (HS.out.below ((Below.refl _ W).alloc (Nat.le_refl _) _)) ⟨W.heap.size,World.alloc_heap_new W _,rfl⟩
 case body =>
  rintro lp pre ⟨⟨ix,nm⟩,hx⟩ a' W hlp hll ⟨⟨A1,c1,us,h1⟩,h2,h3⟩ ⟨Bx,hBx,rfl⟩ hlt
  obtain⟨n,hn⟩:∃ n,n=(linesOf x pre++s.todo).length:=⟨_,rfl⟩
  have hn1:n≤1000000000000:=by
   rw [hn,List.length_append,linesOf,List.length_map,List.length_reverse]
   omega
  obtain⟨V,hV⟩:∃ V,V=us.reverse:=⟨_,rfl⟩
  obtain⟨R,hR⟩:∃ R,R=L.R:=⟨_,rfl⟩
  have hB:L.B≤W.heap.size:=h1.size
  have hown:Own W L.B 1 1 A1 n c1 V:=by rw [hn,hV];exact h1.row
  have HOWN:=hid2 hown
  have hrb:RBox W g1 R:=by rw [hR];exact H1.out.keep h3
  have HRB:=hid2 hrb
  have hrun0:=h1.run
  rw [← hR] at hrun0
  have HRR:=hid2 (show ∀ w2,PushM W L.B A1 n c1 V w2→CellB w2 R (runV A1 (linesOf x pre++s.todo).length c1 L.EA v.env.length L.ec s.buf L.m s.asks s.waits s.over) 63 from fun w2 hm=>(hm.1.block R hrun0.lt fun e=>HOWN.out.ne hrun0 (by decide) e.symm).trans hrun0)
  have HBOX:=hid2 (show ∀ w2,PushM W L.B A1 n c1 V w2→w2.cell? ⟨g1,0,none⟩=some (.pointer (some ⟨R,0,none⟩)) from fun w2 hm=>(HRB.out.keep (hm.tbut HOWN.out hB)).cell)
  have HRC:=hid2 (show ∀ w2,PushM W L.B A1 n c1 V w2→w2.cell? ⟨R,0,none⟩=some (.slice A1 n c1)∧w2.frozen? ⟨R,0,none⟩=false from fun w2 hm=>by
   have hr:=HRR.out w2 hm
   rw [← hn] at hr
   exact⟨cell_of_row w2 R 0 _ _ _ hr,frozen_of_row w2 R 0 _ _ hr⟩)
  have HA:=hid2 h1
  have HMP:=hid2 h2
  have HTB:=hid2 h3
  have HBX:=hid2 hBx
  have HN:=hid2 hn
  have HV:=hid2 hV
  have HR:=hid2 hR
  clear hn
  have hn:=hn1
  clear h1 h2 h3 hBx hown hrb hrun0 hV hR hn1
  clear h0 hstops
  gi_wp2
  refine wpIn_region_rel 10 (by kernel_rfl) (by kernel_rfl) (by kernel_rfl) _ rfl (by kernel_rfl) (by kernel_rfl) (VV [some (.pointer (some ⟨R,0,none⟩)),some (.pointer (some ⟨R,0,none⟩)),some (.pointer (some ⟨R,0,none⟩)),some (.pointer (some ⟨R,0,none⟩)),some (.slice A1 n c1),some (.func (.func 70) #[] #[.pointer (some ⟨Bx,0,none⟩),.pointer (some ⟨g2,0,none⟩),.pointer (some ⟨g1,0,none⟩),.pointer (some ⟨g3,0,none⟩)]),none,none,some (.pointer (some ⟨R,0,none⟩)),some (.pointer (some ⟨R,0,none⟩))] (PushX (L.B) A1 n c1 V (.func (.func 70) #[] #[.pointer (some ⟨Bx,0,none⟩),.pointer (some ⟨g2,0,none⟩),.pointer (some ⟨g1,0,none⟩),.pointer (some ⟨g3,0,none⟩)]))) (PushM W (L.B) A1 n c1 V) (KeptBut (L.B) 1 1 A1 c1 (n+1) (V++[.func (.func 70) #[] #[.pointer (some ⟨Bx,0,none⟩),.pointer (some ⟨g2,0,none⟩),.pointer (some ⟨g1,0,none⟩),.pointer (some ⟨g3,0,none⟩)]])) (PushM.start HOWN.out) (fun j v w1 w2 hb hv=>VV.keep (PushX.keep hb) hv) ?_ ?_
  ·refine of_allOps ⟨?_,?_,?_,?_,?_,?_,?_,?_,?_,?_,trivial⟩
   ·refine⟨rfl,fun T2 w2 hM hN hO hE K hK=>?_⟩
    have o1:T2[1]?=some (.pointer (some ⟨g1,0,none⟩)):=hO 1 rfl
    clear hE hO hN
    have hcc:=HBOX.out w2 hM
    go_simp
    exact hK _ _ rfl hM (KeptBut.refl _)
   ·refine⟨rfl,fun T2 w2 hM hN hO hE K hK=>?_⟩
    have o1:T2[1]?=some (.pointer (some ⟨g1,0,none⟩)):=hO 1 rfl
    clear hE hO hN
    have hcc:=HBOX.out w2 hM
    go_simp
    exact hK _ _ rfl hM (KeptBut.refl _)
   ·refine⟨rfl,fun T2 w2 hM hN hO hE K hK=>?_⟩
    obtain⟨v1,h1,e1⟩:=hE ⟨1,.data⟩ (by simp) rfl _ _ rfl rfl
    rw [show v1 = .pointer (some ⟨R,0,none⟩) from e1] at h1
    clear hE hO hN
    go_simp
    exact hK _ _ rfl hM (KeptBut.refl _)
   ·refine⟨rfl,fun T2 w2 hM hN hO hE K hK=>?_⟩
    obtain⟨v2,h2,e2⟩:=hE ⟨2,.data⟩ (by simp) rfl _ _ rfl rfl
    rw [show v2 = .pointer (some ⟨R,0,none⟩) from e2] at h2
    clear hE hO hN
    go_simp
    exact hK _ _ rfl hM (KeptBut.refl _)
   ·refine⟨rfl,fun T2 w2 hM hN hO hE K hK=>?_⟩
    obtain⟨v3,h3,e3⟩:=hE ⟨3,.data⟩ (by simp) rfl _ _ rfl rfl
    rw [show v3 = .pointer (some ⟨R,0,none⟩) from e3] at h3
    clear hE hO hN
    have hcc:=(HRC.out w2 hM).1
    go_simp
    exact hK _ _ rfl hM (KeptBut.refl _)
   ·refine⟨rfl,fun T2 w2 hM hN hO hE K hK=>?_⟩
    have o6:T2[6]?=some (.pointer (some ⟨Bx,0,none⟩)):=hO 6 rfl
    have o2:T2[2]?=some (.pointer (some ⟨g2,0,none⟩)):=hO 2 rfl
    have o1:T2[1]?=some (.pointer (some ⟨g1,0,none⟩)):=hO 1 rfl
    have o3:T2[3]?=some (.pointer (some ⟨g3,0,none⟩)):=hO 3 rfl
    clear hE hO hN
    go_simp
    exact hK _ _ rfl hM (KeptBut.refl _)
   ·refine⟨rfl,fun T2 w2 hM hN hO hE K hK=>?_⟩
    obtain⟨v5,h5,e5⟩:=hE ⟨5,.data⟩ (by simp) rfl _ _ rfl rfl
    rw [show v5 = .func (.func 70) #[] #[.pointer (some ⟨Bx,0,none⟩),.pointer (some ⟨g2,0,none⟩),.pointer (some ⟨g1,0,none⟩),.pointer (some ⟨g3,0,none⟩)] from e5] at h5
    clear hE hO hN
    go_simp
    exact hK _ _ ⟨fun _=>⟨_,rfl,World.alloc_heap_new w2 _,hM.newb⟩,fun e=>absurd e (by decide)⟩ (hM.alloc _) (KeptBut.alloc w2 _)
   ·refine⟨rfl,fun T2 w2 hM hN hO hE K hK=>?_⟩
    obtain⟨v4,h4,e4⟩:=hE ⟨4,.data⟩ (by simp) rfl _ _ rfl rfl
    rw [show v4 = .slice A1 n c1 from e4] at h4
    obtain⟨v6,h6,e6⟩:=hE ⟨6,.data⟩ (by simp) rfl _ _ rfl rfl
    clear hE hO hN
    obtain⟨g9,rfl,hr9,hne9⟩:=(show PushX (L.B) A1 n c1 V (.func (.func 70) #[] #[.pointer (some ⟨Bx,0,none⟩),.pointer (some ⟨g2,0,none⟩),.pointer (some ⟨g1,0,none⟩),.pointer (some ⟨g3,0,none⟩)]) 6 v6 w2 from e6).1 rfl
    have rd9:Rd w2 1 (some ⟨g9,0,none⟩) 1 [.func (.func 70) #[] #[.pointer (some ⟨Bx,0,none⟩),.pointer (some ⟨g2,0,none⟩),.pointer (some ⟨g1,0,none⟩),.pointer (some ⟨g3,0,none⟩)]]:=⟨rfl,fun _=>⟨g9,0,rfl,fun j u hu=>by rw [cell_of_row w2 g9 _ _ _ _ hr9,Nat.zero_add];simpa using hu⟩⟩
    refine wp_append_two _ _ _ _ rfl 1 .nilFunc 1 8 Tryz.underlying61 info_fn rfl (L.B) A1 n c1 V hM.2 1 [.func (.func 70) #[] #[.pointer (some ⟨Bx,0,none⟩),.pointer (some ⟨g2,0,none⟩),.pointer (some ⟨g1,0,none⟩),.pointer (some ⟨g3,0,none⟩)]] (.slice (some ⟨g9,0,none⟩) 1 1) (Src.slice Tryz.underlying61 rd9) (fun u hu=>by rw [List.mem_singleton.1 hu];rfl) ?_ ?_ ?_ ?_ ?_
    ·unfold maxLen;omega
    ·omega
    ·exact Nat.le_trans hB hM.1.size
    ·exact⟨by simp [Act.eval,h4],by simp [Act.eval,h6]⟩
    ·intro A2 c2 w3 hcame hkept hown3
     exact hK _ _ ⟨fun e=>absurd e (by decide),fun _=>⟨A2,c2,rfl,hcame⟩⟩ ⟨grownBy_trans hM.1 hkept.1,hown3⟩ hkept
   ·refine⟨rfl,fun T2 w2 hM hN hO hE K hK=>?_⟩
    obtain⟨v0,h0,e0⟩:=hE ⟨0,.data⟩ (by simp) rfl _ _ rfl rfl
    rw [show v0 = .pointer (some ⟨R,0,none⟩) from e0] at h0
    clear hE hO hN
    go_simp
    exact hK _ _ rfl hM (KeptBut.refl _)
   ·refine⟨rfl,fun T2 w2 hM hN hO hE K hK=>?_⟩
    obtain⟨v8,h8,e8⟩:=hE ⟨8,.data⟩ (by simp) rfl _ _ rfl rfl
    rw [show v8 = .pointer (some ⟨R,0,none⟩) from e8] at h8
    clear hE hO hN
    go_simp
    exact hK _ _ rfl hM (KeptBut.refl _)
  ·intro u w2 hM hF
   have e9:u 9 = .pointer (some ⟨R,0,none⟩):=hF 9 (by omega)
   obtain⟨A7,c7,e7,hcame⟩:=(show PushX (L.B) A1 n c1 V (.func (.func 70) #[] #[.pointer (some ⟨Bx,0,none⟩),.pointer (some ⟨g2,0,none⟩),.pointer (some ⟨g1,0,none⟩),.pointer (some ⟨g3,0,none⟩)]) 7 (u 7) w2 from hF 7 (by omega)).2 rfl
   clear hF
   simp only [fillAll,Nat.reduceAdd,e9,e7,List.take_succ_cons,List.take_zero,List.drop_succ_cons,List.drop_zero,List.setIfInBounds_toArray,List.set_cons_succ,List.set_cons_zero]
   have hcR:=(HRC.out w2 hM).1
   have hfR:=(HRC.out w2 hM).2
   have HM2:=hid2 hM
   have HCAME:=hid2 hcame
   clear hM hcame
   go_wp2_with fail
   have hb2:=HM2.out.tbut HOWN.out hB
   have hM3:=HM2.out
   have hC3:=HCAME.out
   rw [HN.out,HV.out] at hM3 hC3
   have hrb2:=HRB.out.keep hb2
   rw [HR.out] at hrb2
   have hf:=HA.out.push hM3 hC3 (t:=.line nm x) ⟨_,_,_,_,rfl,CellB.keep HBX.out hb2 (by decide) (by decide),(H2.out.keep HTB.out).keep hb2,hrb2,(H3.out.keep HTB.out).keep hb2⟩ (.inr HMP.out)
   have hkf:=KeepsFrom.push (B':=W0.heap.size) HM2.out HOWN.out (HRR.out w2 HM2.out) 0 (.slice A7 (n+1) c7)
   have hri:RunIs (w2.setCell ⟨R,0,none⟩ (.slice A7 (n+1) c7)) L v q { s with todo:=linesOf x (pre++[⟨(ix,nm),hx⟩])++s.todo }:=by
    rw [linesOf_snoc,HN.out,HR.out]
    exact⟨_,_,_,hf.1⟩
   refine⟨hkf,?_,hri,?_,HTB.out.trans ?_⟩
   ·rw [HN.out,HR.out];exact hf.2
   ·have hm4:MapAt w2 L q s:=by
     obtain⟨g,M,e1,e2,e3,e4,e5⟩:=HMP.out
     exact⟨g,M,e1,e2,e3,map_kept HM2.out HOWN.out e4,e5⟩
    exact hm4.setCell (HRR.out w2 HM2.out) _ _
   ·rw [HN.out,HR.out];exact hf.2
 case done =>
  rintro D ys W hD hS ⟨h1,h2,h3⟩ hK
  have hfin:Pq (.returned (.tuple #[])) (W.putObj D (.deferred none)):=by
   have hDlt:=heap_lt hK
   have hrow:∀ r,some D=some r→w.heap.size≤r∧∃ o:Obj,W.heap[r]?=some o∧o.isCells=false:=fun r e=>by cases e;exact⟨by omega,_,hK,rfl⟩
   obtain⟨A1,c1,us,h1⟩:=h1
   rw [HPQ.out,← linesOf_all hS]
   exact⟨rfl,⟨A1,c1,us,h1.grow (n0:=w.heap.size) (grownBy_putObj' W D _) hrow hB h3.size hml hql⟩,h3.trans (TBut.grow (n0:=w.heap.size) (grownBy_putObj' W D _) hrow hB h3.size)⟩
  have HFIN:=hid2 hfin
  clear h1 h2 h3 hfin h0 hstops
  gi_wp2
  refine⟨by simp,.inl ⟨_,_,rfl,run_takeDeferred hK,?_⟩⟩
  refine⟨_,results_none rfl _ _ _,?_⟩
  exact HFIN.out
 case stop =>
  rintro D cc pre W _ _ h _
  exact h.elim
end Go.Proofs.YtnecjdhamohadaaGreatDoor
namespace Go.Proofs.YtnecjdhamohadaaGreatDoor
open Go.RowKit Go.Maps
section
variable {α:Type}
theorem getM_ins_same (k:List UInt8) (a:α):∀ M:Tab α,(∀ y∈M,y.1≠k)→getM (insM (k,a) M) k=some a
 | [],_=>by simp [insM,getM]
 | y :: r,h=>by
  unfold insM
  split
  ·simp [getM]
  ·have hy:(y.1 == k)=false:=by simpa using h y (by simp)
   have:=getM_ins_same k a r (fun z hz=>h z (List.mem_cons_of_mem _ hz))
   unfold getM at this ⊢
   rw [List.find?_cons,hy]
   exact this
theorem getM_ins_ne (k:List UInt8) (a:α) {k':List UInt8} (hk:k'≠k):∀ M:Tab α,getM (insM (k,a) M) k'=getM M k'
 | []=>by
  have:(k == k')=false:=by simpa using fun h=>hk h.symm
  simp [insM,getM,this]
 | y :: r=>by
  have hkk:(k == k')=false:=by simpa using fun h=>hk h.symm
  unfold insM
  split
  ·unfold getM
   rw [List.find?_cons,hkk]
  ·have:=getM_ins_ne k a hk r
   unfold getM at this ⊢
   rw [List.find?_cons,List.find?_cons]
   split
   ·rfl
   ·exact this
theorem delM_ne {M:Tab α} {k:List UInt8}:∀ y∈delM M k,y.1≠k:=by
 intro y hy
 have:=(List.mem_filter.1 hy).2
 simpa using this
theorem getM_put_same (M:Tab α) (k:List UInt8) (a:α):getM (putM M k a) k=some a:=getM_ins_same k a _ delM_ne
theorem getM_del_ne (M:Tab α) {k k':List UInt8} (hk:k'≠k):getM (delM M k) k'=getM M k':=by
 unfold getM delM
 congr 1
 induction M with
 | nil=>rfl
 | cons y r ih =>
  rw [List.filter_cons]
  split
  ·rw [List.find?_cons,List.find?_cons,ih]
  ·rename_i h
   have hy:y.1=k:=by simpa using h
   have:(y.1 == k')=false:=by rw [hy];simpa using fun h=>hk h.symm
   rw [List.find?_cons,this,ih]
theorem getM_put_ne (M:Tab α) {k k':List UInt8} (a:α) (hk:k'≠k):getM (putM M k a) k'=getM M k':=by
 rw [putM,getM_ins_ne k a hk,getM_del_ne M hk]
end
end Go.Proofs.YtnecjdhamohadaaGreatDoor
namespace Go.Proofs.YtnecjdhamohadaaGreatDoor
open Go.RowKit Go.Maps Go.Shelf
set_option maxRecDepth 100000
structure Fit (w:World) (L:RLay) (s:PS):Prop where
 lib:MaxL w
 glob:0 < L.B
 lim:Lim s
 todo:s.todo.length≤100000000000
 seen:s.seen.length≤100000000000
 base:L.B≤w.heap.size
 tabs:Lib.TabBelow Tryz.prog L.B w "internal/strconv.uint64pow10" .u64 Lib.pow10Tab
theorem Fit.below {w w':World} {L:RLay} {s:PS} (h:Fit w L s) (hb:Below w.heap.size w w'):Fit w' L s:=⟨h.lib.on hb,h.glob,h.lim,h.todo,h.seen,Nat.le_trans h.base hb.size,h.tabs.on (hb.mono h.base)⟩
theorem MaxL.tbut {w w':World} {B:Nat} (h:MaxL w) (hb:TBut B w w') (hg:0 < B):MaxL w':=by
 obtain⟨m,hm⟩:=h
 exact⟨m,(hb.below.cell (p:=⟨0,0,none⟩) hg).trans hm⟩
theorem Fit.tbut {w w':World} {L:RLay} {s:PS} (h:Fit w L s) (hb:TBut L.B w w'):Fit w' L s:=⟨h.lib.tbut hb h.glob,h.glob,h.lim,h.todo,h.seen,Nat.le_trans h.base hb.size,h.tabs.on hb.below⟩
theorem addF_enters:Enters Tryz.prog 41:=enters_of Tryz.func41 (by kernel_rfl) rfl
theorem scan1_enters:Enters Tryz.prog 68:=enters_of Tryz.func68 (by kernel_rfl) rfl
theorem there1_enters:Enters Tryz.prog 67:=enters_of Tryz.func67 (by kernel_rfl) rfl
theorem do1_enters:Enters Tryz.prog 42:=enters_of Tryz.func42 (by kernel_rfl) rfl
def DataF.noMap:DataF→Bool
 | .add=>true
 | .scan _=>false
section
variable {w:World} {L:RLay} {v:Env} {q:Option Nat} {s:PS}
theorem data_any (h:RunIs w L v q s) (hf:Fit w L s) {u:Value} {d:DataF} (hd:DataIs w L.R q u d) (hmap:d.noMap=true∨MapAt w L q s) (t:TT) (ht:t.length≤1000000):FnAt w u (.string (strB t)) (VPost w L v q (s.data d t)):=by
 cases d with
 | add =>
  refine⟨_,_,_,hd,addF_enters,?_⟩
  exact add_any w L v q s h hf.lim.buf t (by omega)
 | scan x =>
  obtain⟨g1,g2,g3,e,h1,h2,h3⟩:=hd
  refine⟨_,_,_,e,scan1_enters,?_⟩
  rcases hmap with hm | hm
  ·cases hm
  ·exact scan1_any w L v q s h hm g1 g2 g3 x h1 h2 h3 t ht hf.lib hf.todo
theorem DataIs.below {w':World} {R:Nat} {u:Value} {d:DataF} (h:DataIs w R q u d) (hb:Below w.heap.size w w'):DataIs w' R q u d:=h.keep (TBut.of_below hb (Nat.zero_le _))
theorem ThenIs.below {w':World} {R:Nat} {u:Value} {d:ThenE} (h:ThenIs w R q u d) (hb:Below w.heap.size w w'):ThenIs w' R q u d:=h.keep (TBut.of_below hb (Nat.zero_le _))
theorem then_any (h:RunIs w L v q s) (hf:Fit w L s) {u:Value} {th:ThenE} (hd:ThenIs w L.R q u th) (hmap:th.noMap=true∨MapAt w L q s) (k:KE) (hk:k.is=true→k.data.length≤1000000):FnAt w u (encK k) (VPost w L v q (s.then_ th k)):=by
 have there:∀ d:DataF,thenOf d=th→(d.noMap=true∨MapAt w L q s)→ThereIs w L.R q u d→FnAt w u (encK k) (VPost w L v q (s.then_ th k)):=fun d e hm hd=>by
  obtain⟨g1,g2,u2,e1,h1,h2,h3⟩:=hd
  refine⟨_,_,_,e1,there1_enters,?_⟩
  rw [← e]
  exact there1_any w L v q s h d g1 g2 u2 h1 h2 k fun hi W hW=>data_any (h.below hW) (hf.below hW) (h3.below hW) (hm.imp id fun x=>x.below hW) _ (hk hi)
 cases th with
 | add=>exact there .add rfl (.inl rfl) hd
 | try_ =>
  obtain⟨g1,e,h1⟩:=hd
  refine⟨_,_,_,e,do1_enters,?_⟩
  exact try1_any w L v q s h g1 h1 hf.lim.buf k fun hi=>by have:=hk hi;omega
 | scan x=>exact there (.scan x) rfl (hmap.imp (fun x=>by cases x) id) hd
theorem ThenIs.fn {R:Nat} {u:Value} {th:ThenE} (h:ThenIs w R q u th):∃ f fi ca,u = .func (.func f) fi ca:=by
 cases th with
 | add =>
  obtain⟨_,_,_,e,_⟩:=h
  exact⟨_,_,_,e⟩
 | try_ =>
  obtain⟨_,e,_⟩:=h
  exact⟨_,_,_,e⟩
 | scan x =>
  obtain⟨_,_,_,e,_⟩:=h
  exact⟨_,_,_,e⟩
theorem ask_any (h:RunIs w L v q s) (hf:Fit w L s) (p:TT) (hp:p.length≤1000000) {u:Value} {th:ThenE} (hd:ThenIs w L.R q u th) (hmap:th.noMap=true∨MapAt w L q s) :
  Calls Tryz.prog 39 #[ptrV L.R,.string (strB p),u] w (VPost w L v q (s.ask p th)):=by
 rw [PS.ask]
 cases hk:getK s.known p with
 | some k =>
  obtain⟨A,c,us,hr⟩:=h
  obtain⟨hkb,M,hM,hMl,hMk⟩:=hr.known
  have h1:=hMk p
  rw [hk,Option.map_eq_some_iff] at h1
  obtain⟨k0,h2,h3⟩:=h1
  have hsz:k0.is=true→k0.data.length≤1000000:=fun hi=>by
   have h4:=hf.lim.datas p k hk
   rw [← h3,nrm,if_pos hi] at h4
   exact h4 rfl
  simp only
  rw [← h3,PS.then_nrm]
  exact askknown_any w L v q s (s.then_ th k0) A c us hr p (by omega) _ M hM k0 h2 u fun W hW=>then_any ⟨A,c,us,hr.below hW⟩ (hf.below hW) (hd.below hW) (hmap.imp id fun x=>x.below hW) k0 hsz
 | none =>
  obtain⟨f,fi,ca,rfl⟩:=hd.fn
  simp only
  by_cases h5:500≤s.known.length
  ·rw [if_pos h5]
   exact askfull_any w L v q s h p (by omega) hk f fi ca h5
  ·rw [if_neg h5]
   exact asknew_any w L v q s h p (by omega) hk f fi ca (by omega) (by have:=hf.todo;omega) th hd hmap
end
theorem encB_inj:∀ a b,encB a=encB b→a=b:=fun a b h=>by cases h;rfl
theorem RunAt.seen' {w w':World} {L:RLay} {v:Env} {q:Option Nat} {s:PS} {A:Option Addr} {c:Nat} {us:List Value} (h:RunAt w L v q s A c us) {g n:Nat} {M M':Tab Bool} (hq:q=some g) (hg:L.B≤g) (hne:g≠L.m)
  (hM:MapIs w Tryz.prog 9 encB g n M) (ht:Turn g w w') {S:List TT} (hM':MapIs w' Tryz.prog 9 encB g S.length M') (hS:∀ p,getM M' p=if p∈S then some true else none) :
  RunAt w' L v q { s with seen:=S } A c us∧TBut L.B w w'∧MapAt w' L q { s with seen:=S }:=by
 have hc:∀ (k:Nat) (cs:Array Value) (t:TypeId) (fr:Nat × Nat),w.heap[k]?=some (.cells cs t fr)→w'.heap[k]?=w.heap[k]?:=fun k cs t fr hk=>ht.2.2.2.2 k fun e=>hM.isMap (by rw [← e];exact hk)
 have hb:TBut L.B w w':=⟨ht.1,ht.2.1,ht.2.2.1,Nat.le_of_eq ht.2.2.2.1.symm,fun k hk=>ht.2.2.2.2 k (by omega),fun k cs t fr hk _ _=>hc k cs t fr hk⟩
 have hmap:MapAt w' L q { s with seen:=S }:=⟨g,M',hq,hg,hne,hM',hS⟩
 refine⟨⟨(hc _ _ _ _ h.run).trans h.run,h.base,h.row.keep fun b hb _ _=>?_,fun i t hi=>?_,h.env.tbut hb (by decide) (by decide),?_,.inr hmap⟩,hb,hmap⟩
 ·obtain⟨_,_,cur,fr,hx⟩:=h.row.block b hb
  exact hc _ _ _ _ hx
 ·obtain⟨u,h1,h2⟩:=h.tasks i t hi
  exact⟨u,h1,h2.keep hb⟩
 ·obtain⟨h1,K,h2,h3⟩:=h.known
  exact⟨h1,K,h2.keep (ht.2.2.2.2 _ (Ne.symm hne)),h3⟩
theorem Lim.more {s:PS} (h:Lim s) {p:TT} (hp:p.length≤1000000):Lim { s with seen:=p :: s.seen }:=⟨h.buf,h.tasks,h.datas,fun x hx=>by
 rcases List.mem_cons.1 hx with rfl | hx
 ·exact hp
 ·exact h.seens x hx,h.asks,h.less⟩
set_option maxHeartbeats 4000000 in
theorem scan_any (w:World) (L:RLay) (v:Env) (q:Option Nat) (s:PS) (h:RunIs w L v q s) (hf:Fit w L s) (hmap:MapAt w L q s) (hsn:s.seen.length < 1000000000) (p x:TT) (hp:p.length≤1000000) (g:Nat) (hq:q=some g) :
  Calls Tryz.prog 43 #[ptrV L.R,.string (strB p),.string (strB x),.map (some g)] w (VPost w L v q (s.scan p x)):=by
 have hB:=h.size
 obtain⟨g',M,e',hgB,hgm,hM,hMk⟩:=hmap
 obtain rfl:g'=g:=by rw [hq] at e';cases e';rfl
 clear e'
 obtain⟨R,hR⟩:∃ R,R=L.R:=⟨_,rfl⟩
 obtain⟨s0,hs0⟩:∃ s0,s0=strB p:=⟨_,rfl⟩
 obtain⟨x0,hx0⟩:∃ x0,x0=strB x:=⟨_,rfl⟩
 obtain⟨Pq,hPq⟩:∃ Pq:Ending→World→Prop,Pq=VPost w L v q (s.scan p x):=⟨_,rfl⟩
 have hs0l:s0.size≤1000000:=by rw [hs0,strB_size];exact hp
 rw [ptrV,← hR,← hs0,← hx0,← hPq]
 obtain⟨n,hn⟩:∃ n,n=s.seen.length:=⟨_,rfl⟩
 rw [← hn] at hM hsn
 have HH:=hid2 h
 have HF:=hid2 hf
 have HM:=hid2 hM
 have HMK:=hid2 hMk
 have HR:=hid2 hR
 have HS0:=hid2 hs0
 have HX0:=hid2 hx0
 have HPQ:=hid2 hPq
 have HN:=hid2 hn
 have HQ:=hid2 hq
 have hglt:=hM.lt
 clear h hf hM hMk hR hs0 hx0 hPq hn hq
 go_enter Tryz.func43,Tryz.ntmps43
 go_upto_region 1 with fail
 obtain⟨hB3,hb1⟩:=boxes3 w (.pointer (some ⟨R,0,none⟩)) (.string x0) (.map (some g')) 26 9 83
 obtain⟨W,hW⟩:∃ W,W=((w.alloc (.cells #[.pointer (some ⟨R,0,none⟩)] 26)).alloc (.cells #[.string x0] 9)).alloc (.cells #[.map (some g')] 83):=⟨_,rfl⟩
 rw [← hW] at hb1 hB3 ⊢
 have HB1:=hid2 hb1
 have HBX:=hid2 hB3
 have hcm:=hB3.cells.2.2
 have HMW:=hid2 (HM.out.below hb1 hglt)
 clear hb1 hB3 hW
 go_wp2_with ((with_reducible refine wpList_update_map HMW.out encB_inj Tryz.underlying9 Tryz.underlying83 ?_ s0 ?_ true ?_ ?_);(unfold maxLen;omega);(unfold maxLen;omega);exact⟨rfl,rfl,rfl⟩;intro w5 hm5 ht5)
 have hm5':=hm5
 rw [show s0.data.toList=p by rw [HS0.out];simp [strB]] at hm5'
 have hsz5:W.heap.size=w5.heap.size:=ht5.2.2.2.1.symm
 obtain⟨A,c,us,hr⟩:=HH.out
 have hr5:=(hr.below HB1.out).seen' (S:=p :: s.seen) HQ.out hgB hgm HMW.out ht5 (by rw [List.length_cons,← HN.out];exact hm5') (fun y=>by
  by_cases hy:y=p
  ·subst hy
   rw [getM_put_same,if_pos (by simp)]
  ·rw [getM_put_ne M true hy,HMK.out y]
   simp only [List.mem_cons,hy,false_or])
 have hb05:TBut L.B w w5:=(TBut.of_below HB1.out hB).trans hr5.2.1
 have hB5:=HBX.out.keep hr5.2.1 (by decide) (by decide) (by decide)
 have hf5:Fit w5 L { s with seen:=p :: s.seen }:=by
  have h1:=HF.out.tbut hb05
  refine⟨h1.lib,h1.glob,h1.lim.more (by have:=HS0.out;rw [this,strB_size] at hs0l;exact hs0l),h1.todo,?_,h1.base,h1.tabs⟩
  rw [List.length_cons,← HN.out]
  omega
 have hpl:p.length≤1000000:=by have:=HS0.out;rw [this,strB_size] at hs0l;exact hs0l
 have HCT:=hid2 (fun (w2:World) (hb:Below w5.heap.size w5 w2)=>there_any w2 R q (.func (.func 68) #[] #[.pointer (some ⟨w.heap.size,0,none⟩),.pointer (some ⟨w.heap.size+1,0,none⟩),.pointer (some ⟨w.heap.size+1+1,0,none⟩)]) (.scan x) (by
  have hb2:=hB5.below hb
  refine⟨_,_,_,rfl,hb2.1,?_,_,HQ.out,hb2.2.2⟩
  have:=hb2.2.1
  rw [HX0.out] at this
  exact this))
 have HBS:=hid2 (fun (w2:World) (hb:Below w5.heap.size w5 w2)=>(hB5.below hb).cells.1)
 have HCA:=hid2 (fun (w2:World) (hb:Below w5.heap.size w5 w2) (u:Value) (hu:ThereIs w2 R q u (.scan x))=>show Calls Tryz.prog 39 #[.pointer (some ⟨R,0,none⟩),.string s0,u] w2 fun e w3=>e = .returned (.tuple #[])∧Pq (.returned (.tuple #[])) w3 from by
  have h1:=ask_any (v:=v) (s:={ s with seen:=p :: s.seen }) (w:=w2) (L:=L) (q:=q) ⟨_,_,_,hr5.1.below hb⟩ (hf5.below hb) p hpl (u:=u) (th:=.scan x) (by rw [← HR.out];exact hu) (.inr (hr5.2.2.below hb))
  rw [ptrV,← HR.out,← HS0.out] at h1
  refine h1.mono fun e w3 k=>?_
  refine⟨k.1,?_⟩
  rw [HPQ.out]
  exact⟨rfl,k.2.1,(hb05.trans (TBut.of_below hb (Nat.le_trans hB hb05.size))).trans k.2.2⟩)
 clear hr hr5 hm5 hm5' ht5 hB5 hf5 hb05 hcm hsz5
 simp only [Act.put]
 refine wp_region_rel 5 (by kernel_rfl) (by kernel_rfl) (by kernel_rfl) _ rfl (by kernel_rfl) (VV [some (.pointer (some ⟨R,0,none⟩)),some (.string s0),some (.pointer (some ⟨R,0,none⟩)),some (.func (.func 68) #[] #[.pointer (some ⟨w.heap.size,0,none⟩),.pointer (some ⟨w.heap.size+1,0,none⟩),.pointer (some ⟨w.heap.size+1+1,0,none⟩)]),none] (fun _ v w2=>ThereIs w2 R q v (.scan x))) (fun w2=>Below w5.heap.size w5 w2) (fun a b=>Below a.heap.size a b) ((Below.refl _ w5).drew) (fun j v w1 w2 hb hv=>VV.keep (fun h=>h.keep (TBut.of_below hb (Nat.zero_le _))) hv) ?_ ?_
 ·refine of_allOps ⟨?_,?_,?_,?_,?_,trivial⟩
  ·refine⟨rfl,fun T2 w2 hM hN hO hE K hK=>?_⟩
   have o4:T2[4]?=some (.pointer (some ⟨w.heap.size,0,none⟩)):=hO 4 rfl
   clear hE hO hN
   have hcc:=HBS.out w2 hM
   go_simp
   exact hK _ _ rfl hM (Below.refl _ _)
  ·refine⟨rfl,fun T2 w2 hM hN hO hE K hK=>?_⟩
   have o1:T2[1]?=some (.string s0):=hO 1 rfl
   clear hE hO hN
   go_simp
   exact hK _ _ rfl hM (Below.refl _ _)
  ·refine⟨rfl,fun T2 w2 hM hN hO hE K hK=>?_⟩
   have o4:T2[4]?=some (.pointer (some ⟨w.heap.size,0,none⟩)):=hO 4 rfl
   clear hE hO hN
   have hcc:=HBS.out w2 hM
   go_simp
   exact hK _ _ rfl hM (Below.refl _ _)
  ·refine⟨rfl,fun T2 w2 hM hN hO hE K hK=>?_⟩
   have o4:T2[4]?=some (.pointer (some ⟨w.heap.size,0,none⟩)):=hO 4 rfl
   have o6:T2[6]?=some (.pointer (some ⟨w.heap.size+1,0,none⟩)):=hO 6 rfl
   have o7:T2[7]?=some (.pointer (some ⟨w.heap.size+1+1,0,none⟩)):=hO 7 rfl
   clear hE hO hN
   go_simp
   exact hK _ _ rfl hM (Below.refl _ _)
  ·refine⟨rfl,fun T2 w2 hM hN hO hE K hK=>?_⟩
   obtain⟨v2,h2,e2⟩:=hE ⟨2,.data⟩ (by simp) rfl _ _ rfl rfl
   rw [show v2 = .pointer (some ⟨R,0,none⟩) from e2] at h2
   obtain⟨v3,h3,e3⟩:=hE ⟨3,.data⟩ (by simp) rfl _ _ rfl rfl
   rw [show v3 = .func (.func 68) #[] #[.pointer (some ⟨w.heap.size,0,none⟩),.pointer (some ⟨w.heap.size+1,0,none⟩),.pointer (some ⟨w.heap.size+1+1,0,none⟩)] from e3] at h3
   clear hE hO hN
   go_simp
   refine (HCT.out w2 hM).mono ?_
   rintro e w3 ⟨⟨u2,rfl,hth⟩,hb⟩
   exact hK _ _ hth (hM.trans (hb.mono hM.size)) hb
 ·intro u w2 hM hF
  have e0:u 0 = .pointer (some ⟨R,0,none⟩):=hF 0 (by omega)
  have e1:u 1 = .string s0:=hF 1 (by omega)
  have hX4:ThereIs w2 R q (u 4) (.scan x):=hF 4 (by omega)
  clear hF
  simp only [fillAll,Nat.reduceAdd,e0,e1,List.take_succ_cons,List.take_zero,List.drop_succ_cons,List.drop_zero,List.setIfInBounds_toArray,List.set_cons_succ,List.set_cons_zero]
  have HX4:=hid2 hX4
  have HMM:=hid2 hM
  obtain⟨f9,fi9,ca9,e9⟩:∃ f fi ca,u 4 = .func (.func f) fi ca:=by
   obtain⟨_,_,_,e,_⟩:=hX4
   exact⟨_,_,_,e⟩
  rw [e9] at HX4 ⊢
  clear hX4 hM HCT HBS e9
  go_wp2_with (go_at_call 39; refine (HCA.out w2 HMM.out _ HX4.out).mono ?_;rintro e w3 ⟨rfl,hp⟩;have HP:=hid2 hp;clear hp)
  refine bodyPost_ret (results_none rfl _ _ _) rfl ?_
  exact HP.out
end Go.Proofs.YtnecjdhamohadaaGreatDoor
