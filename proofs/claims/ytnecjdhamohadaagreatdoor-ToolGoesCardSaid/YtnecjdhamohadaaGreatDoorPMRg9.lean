/- The document's run of a tool: one command (env, read, try, scan). -/
import Derived.Test.YtnecjdhamohadaaGreatDoorPMRg8
set_option linter.unusedSimpArgs false
set_option linter.unusedVariables false
namespace Go.Proofs.YtnecjdhamohadaaGreatDoor
open Go.RowKit Go.Maps Go.Shelf
set_option maxRecDepth 100000
theorem set_getR:∀ {l:List (TT × TT)} {k:Nat} {p:TT × TT},l[k]?=some p→(setV l)[k * 2]?=some (.string (strB p.1))∧(setV l)[k * 2+1]?=some (.string (strB p.2))
 | [],_,_,h=>by simp at h
 | x :: l,0,p,h=>by
  rw [List.getElem?_cons_zero] at h
  cases h
  exact⟨rfl,rfl⟩
 | x :: l,k+1,p,h=>by
  rw [List.getElem?_cons_succ] at h
  have:=set_getR h
  have e1:(k+1) * 2=k * 2+2:=by omega
  rw [e1]
  exact this
theorem envfind_at {l:List (TT × TT)} {a:TT} {i:Nat} {x:TT × TT} (h:l[i]?=some x) (hp:x.1=a) (hno:∀ (j:Nat) (y:TT × TT),j < i→l[j]?=some y→y.1≠a):l.find? (fun x=>x.1 == a)=some x:=by
 induction l generalizing i with
 | nil=>simp at h
 | cons y l ih =>
  cases i with
  | zero =>
   rw [List.getElem?_cons_zero] at h
   cases h
   simp [hp]
  | succ i =>
   rw [List.getElem?_cons_succ] at h
   have h0:=hno 0 y (by omega) rfl
   have:=ih h fun j z hj hz=>hno (j+1) z (by omega) (by rw [List.getElem?_cons_succ];exact hz)
   rw [List.find?_cons_of_neg (by simpa using h0)]
   exact this
theorem envfind_none {l:List (TT × TT)} {a:TT} (hno:∀ (j:Nat) (y:TT × TT),l[j]?=some y→y.1≠a):l.find? (fun x=>x.1 == a)=none:=by
 rw [List.find?_eq_none]
 intro y hy
 obtain⟨j,hj⟩:=List.getElem?_of_mem hy
 simpa using hno j y hj
set_option maxHeartbeats 16000000 in
theorem rstep_env (w:World) (B:ByteArray) (AA:Option Addr) (an ac:Nat) (AW:Option Addr) (wn wc:Nat) (k:Int) (P D:ByteArray) (y:Int) (r:RS) (h:RSA w B AA an ac AW wn wc k P D y r) (hs:r.Small) (EA:Option Addr) (en ec:Nat) (KA:Option Addr) (kn kc:Nat) (line:TT) (hln:line.length≤65536) (WA:Option Addr) (qn qc:Nat) (ws:List TT) (nm:TT) (hnm:ws[0]?=some nm) (hk:nm=kEnv) (hqn:0 < qn) (hrw:Rd w 1 WA qn (strV ws)) (arg:TT) (harg:ws[1]?=some arg) (hq1:1 < qn) (hal:arg.length≤65536) (E:List (TT × TT)) (hen:en=E.length) (hel:en≤1000000) (hre:Rd w 2 EA en (setV E)) (hev:∀ x∈E,x.2.length≤100000000000) :
  Calls Tryz.prog 34 #[.agg #[.string B,.slice AA an ac,.slice AW wn wc,.int .i64 k,.string P,.string D,.int .i64 y],.slice EA en ec,.slice KA kn kc,.string (strB line),.slice WA qn qc] w (StPost w ((match E.find? fun x=>x.1 == arg with | none=>r.fail 10 | some x=>r.add x.2))):=by
 have htn:=toList_strBT nm
 obtain⟨SL,hSL⟩:∃ S,S=strB line:=⟨_,rfl⟩
 rw [← hSL]
 obtain⟨RES,hRES⟩:∃ R,R=(match E.find? fun x=>x.1 == arg with | none=>r.fail 10 | some x=>r.add x.2):=⟨_,rfl⟩
 rw [← hRES]
 obtain⟨w1,hw1⟩:∃ w1,w1=w.alloc (.cells #[.string B,.slice AA an ac,.slice AW wn wc,.int .i64 k,.string P,.string D,.int .i64 y] 37):=⟨_,rfl⟩
 obtain⟨wq,hwq⟩:∃ wq,wq=w1.alloc (.cells #[.string ⟨#[]⟩,.slice none 0 0,.slice none 0 0,.int .i64 0,.string ⟨#[]⟩,.string ⟨#[]⟩,.int .i64 0] 37):=⟨_,rfl⟩
 have hs1:w1.heap.size=w.heap.size+1:=by rw [hw1,World.size_alloc]
 have hs2:wq.heap.size=w.heap.size+1+1:=by rw [hwq,World.size_alloc,hs1]
 have hb1:Below w.heap.size w w1:=by rw [hw1];exact (Below.refl _ _).alloc (Nat.le_refl _) _
 have hb2:Below w.heap.size w wq:=by rw [hwq];exact hb1.alloc (by omega) _
 have hg5:wq.heap[w.heap.size]?=some (.cells #[.string B,.slice AA an ac,.slice AW wn wc,.int .i64 k,.string P,.string D,.int .i64 y] 37 (0,0)):=by
  rw [hwq,Below.heap_alloc _ _ _ (by omega),hw1]
  exact World.alloc_heap_new _ _
 have hg10:wq.heap[w.heap.size+1]?=some (.cells zSt 37 (0,0)):=by
  rw [hwq,← hs1]
  exact World.alloc_heap_new _ _
 obtain⟨g5,hg5e⟩:∃ g,g=w.heap.size:=⟨_,rfl⟩
 obtain⟨g10,hg10e⟩:∃ g,g=w.heap.size+1:=⟨_,rfl⟩
 rw [← hg5e] at hg5
 rw [← hg10e] at hg10
 have H12:=hid2 (show (w.alloc (.cells #[.string B,.slice AA an ac,.slice AW wn wc,.int .i64 k,.string P,.string D,.int .i64 y] 37)).alloc (.cells #[.string ⟨#[]⟩,.slice none 0 0,.slice none 0 0,.int .i64 0,.string ⟨#[]⟩,.string ⟨#[]⟩,.int .i64 0] 37)=wq from by rw [hwq,hw1])
 have HE:=hid2 (And.intro hg5e hg10e)
 have HI:=hid2 (show StepI w wq g5 g10 B AA an ac AW wn wc k P D y r from ⟨hb2,by omega,by omega,by omega,hg5,hg10,h.below hb2⟩)
 obtain⟨wb,wo,hWA,hcell⟩:=(hrw.below_all hb2).2 hqn
 subst hWA
 have hws0:wq.cell? ⟨wb,wo,none⟩=some (.string (strB nm)):=hcell 0 _ (strV_at hnm)
 have hqi:(0:Int) < qn:=by omega
 have c0:=cell_of_row wq g5 0 _ _ _ hg5
 have c1:=cell_of_row wq g5 1 _ _ _ hg5
 have c2:=cell_of_row wq g5 2 _ _ _ hg5
 have c3:=cell_of_row wq g5 3 _ _ _ hg5
 have c4:=cell_of_row wq g5 4 _ _ _ hg5
 have c5:=cell_of_row wq g5 5 _ _ _ hg5
 have c6:=cell_of_row wq g5 6 _ _ _ hg5
 have hbuf:r.buf.length≤100000000000:=by have:=hs.2;omega
 have hF7:∀ {a b c d e f g:Value} {cs:Array Value},cs.size=7→0+[a,b,c,d,e,f,g].length≤cs.size:=fun h=>by rw [h];exact Nat.le_refl 7
 obtain⟨SN,hSN⟩:∃ S,S=strB nm:=⟨_,rfl⟩
 rw [← hSN] at htn hws0
 have tkRead:(SN.toList == [114,101,97,100])=false:=by rw [htn,hk];decide
 have ukRead:¬ SN.toList=[114,101,97,100]:=by rw [htn,hk];decide
 have tkTry:(SN.toList == [116,114,121])=false:=by rw [htn,hk];decide
 have ukTry:¬ SN.toList=[116,114,121]:=by rw [htn,hk];decide
 have tkScan:(SN.toList == [115,99,97,110])=false:=by rw [htn,hk];decide
 have ukScan:¬ SN.toList=[115,99,97,110]:=by rw [htn,hk];decide
 have tkText:(SN.toList == [116,101,120,116])=false:=by rw [htn,hk];decide
 have ukText:¬ SN.toList=[116,101,120,116]:=by rw [htn,hk];decide
 have tkEnv:(SN.toList == [101,110,118])=true:=by rw [htn,beq_iff_eq,hk]
 have ukEnv:SN.toList=[101,110,118]:=by rw [htn,hk]
 have hws1:wq.cell? ⟨wb,wo+1,none⟩=some (.string (strB arg)):=hcell 1 _ (strV_at harg)
 have hq1i:(1:Int) < qn:=by omega
 have hta:=toList_strBT arg
 obtain⟨SA1,hSA1⟩:∃ S,S=strB arg:=⟨_,rfl⟩
 rw [← hSA1] at hws1 hta
 have HCW1:=hid2 (show ∀ w2,Below wq.heap.size wq w2→w2.cell? ⟨wb,wo+1,none⟩=some (.string SA1) from fun w2 hb=>(hb.cell (p:=⟨wb,wo+1,none⟩) (World.block_lt_of_cell? _ _ hws1)).trans hws1)
 have HRE:=hid2 (hre.below_all hb2)
 have HEN:=hid2 hen
 have HEV:=hid2 hev
 have HRES:=hid2 hRES
 have HTA:=hid2 hta
 have HBUF:=hid2 hbuf
 have heli:(en:Int)≤1000000:=by omega
 clear hbuf hln hws1 hta hSA1 harg hal hre hen hev c0 c1 c2 c3 c4 c5 c6
 clear hSL hRES hw1 hwq hs1 hs2 hb1 hb2 hg5 hg10 hg5e hg10e hcell hrw hnm hk hSN htn h hs
 go_enter Tryz.func34,Tryz.ntmps34
 go_upto_region 1 with fail
 rw [H12.out,← HE.out.2,← HE.out.1]
 go_wp2_with fail
 go_loopg [15] en (fun gk iv wr=>Below wq.heap.size wq wr∧∃ i:Nat,i+gk=en∧iv = .int .i64 i∧∀ (j:Nat) (x:TT × TT),j < i→E[j]?=some x→x.1≠arg)
 case atStart=>exact⟨Below.refl _ _,0,by omega,rfl,fun j x hj=>absurd hj (Nat.not_lt_zero _)⟩
 case round =>
  obtain⟨hbe,i,hi,rfl,hno⟩:=hrel
  have HBE:=hid2 hbe
  have HIN:=hid2 hi
  by_cases hlt:i < en
  ·have hil:(i:Int) < en:=by omega
   have hi0:(0:Int)≤i:=by omega
   obtain⟨x,hx⟩:∃ x,E[i]?=some x:=⟨_,List.getElem?_eq_getElem (by rw [← HEN.out];exact hlt)⟩
   obtain⟨eb,eo,hEA,hec⟩:=HRE.out.2 (by omega)
   subst hEA
   have he0:=hec _ _ (set_getR hx).1
   have he1:=hec _ _ (set_getR hx).2
   have hebl:eb < wq.heap.size:=World.block_lt_of_cell? _ _ he0
   have htx:=toList_strBT x.1
   obtain⟨EN,hEN⟩:∃ S,S=strB x.1:=⟨_,rfl⟩
   obtain⟨EV,hEV⟩:∃ S,S=strB x.2:=⟨_,rfl⟩
   rw [← hEN] at he0 htx
   rw [← hEV] at he1
   have HCE:=hid2 (show ∀ w2,Below wq.heap.size wq w2→w2.cell? ⟨eb,eo+i * 2,none⟩=some (.string EN) from fun w2 hb=>(hb.cell (p:=⟨eb,eo+i * 2,none⟩) hebl).trans he0)
   have HCV:=hid2 (show ∀ w2,Below wq.heap.size wq w2→w2.cell? ⟨eb,eo+i * 2+1,none⟩=some (.string EV) from fun w2 hb=>(hb.cell (p:=⟨eb,eo+i * 2+1,none⟩) hebl).trans he1)
   by_cases hxa:x.1=arg
   ·have heq:(EN.toList == SA1.toList)=true:=by rw [htx,HTA.out,hxa,beq_self_eq_true]
    have heq2:EN.toList=SA1.toList:=by rw [htx,HTA.out,hxa]
    have hR2:RES=r.add x.2:=by rw [HRES.out,envfind_at hx hxa hno]
    have CAD:=hid2 (show ∀ W,RSA W B AA an ac AW wn wc k P D y r→Calls Tryz.prog 53 #[.agg #[.string B,.slice AA an ac,.slice AW wn wc,.int .i64 k,.string P,.string D,.int .i64 y],.string EV] W (StPost W RES) from fun W h=>by
     rw [hR2]
     exact radd_st W B EV AA AW an ac wn wc k y P D r h HBUF.out x.2 hEV (HEV.out x (List.mem_of_getElem? hx)))
    clear hbe hi hno hx hec he0 he1 hebl htx hEN hEV hxa hR2
    go_wp2_with fail
    refine wp_region_grd 9 (by kernel_rfl) (by kernel_rfl) (by kernel_rfl) _ rfl (by kernel_rfl) (VV [some (.slice (some ⟨eb,eo,none⟩) en ec),some (.int .i64 (i:Nat)),some (.pointer (some ⟨eb,eo+i * 2,none⟩)),some (.pointer (some ⟨eb,eo+i * 2,none⟩)),some (.string EN),some (.slice (some ⟨wb,wo,none⟩) qn qc),some (.pointer (some ⟨wb,wo+1,none⟩)),some (.string SA1),some (.bool true)] (fun _ _ _=>False)) (fun w2=>Below wr.heap.size wr w2) (fun a b=>Below a.heap.size a b) ((Below.refl _ wr).drew) (fun j v w1 w2 hb hv=>VV.keep (fun h=>h.elim) hv) ?_ ?_
    ·refine of_allOps ⟨?_,?_,?_,?_,?_,?_,?_,?_,?_,trivial⟩
     ·intro T2 w2 hM hN hO hE K hK
      have o1:T2[1]?=some (.slice (some ⟨eb,eo,none⟩) en ec):=hO 1 rfl
      clear hE hO hN
      refine step_plain0 rfl ?_
      go_simp
      exact hK _ _ rfl hM (Below.refl _ _)
     ·intro T2 w2 hM hN hO hE K hK
      have o15:T2[15]?=some (.int .i64 (i:Nat)):=hO 15 rfl
      clear hE hO hN
      refine step_plain0 rfl ?_
      go_simp
      exact hK _ _ rfl hM (Below.refl _ _)
     ·intro T2 w2 hM hN hO hE K hK
      obtain⟨v0,h0,e0⟩:=hE ⟨0,.data⟩ (by simp) rfl _ _ rfl rfl
      rw [show v0 = .slice (some ⟨eb,eo,none⟩) en ec from e0] at h0
      obtain⟨v1,h1,e1⟩:=hE ⟨1,.data⟩ (by simp) rfl _ _ rfl rfl
      rw [show v1 = .int .i64 (i:Nat) from e1] at h1
      clear hE hO hN
      refine step_plain0 rfl ?_
      go_simp
      exact hK _ _ rfl hM (Below.refl _ _)
     ·intro T2 w2 hM hN hO hE K hK
      obtain⟨v2,h2,e2⟩:=hE ⟨2,.data⟩ (by simp) rfl _ _ rfl rfl
      rw [show v2 = .pointer (some ⟨eb,eo+i * 2,none⟩) from e2] at h2
      clear hE hO hN
      refine step_plain0 rfl ?_
      go_simp
      exact hK _ _ rfl hM (Below.refl _ _)
     ·intro T2 w2 hM hN hO hE K hK
      obtain⟨v3,h3,e3⟩:=hE ⟨3,.data⟩ (by simp) rfl _ _ rfl rfl
      rw [show v3 = .pointer (some ⟨eb,eo+i * 2,none⟩) from e3] at h3
      clear hE hO hN
      refine step_plain0 rfl ?_
      have ye:=HCE.out w2 (HBE.out.trans (hM.mono HBE.out.size))
      go_simp
      exact hK _ _ rfl hM (Below.refl _ _)
     ·intro T2 w2 hM hN hO hE K hK
      have o4:T2[4]?=some (.slice (some ⟨wb,wo,none⟩) qn qc):=hO 4 rfl
      clear hE hO hN
      refine step_plain0 rfl ?_
      go_simp
      exact hK _ _ rfl hM (Below.refl _ _)
     ·intro T2 w2 hM hN hO hE K hK
      obtain⟨v5,h5,e5⟩:=hE ⟨5,.data⟩ (by simp) rfl _ _ rfl rfl
      rw [show v5 = .slice (some ⟨wb,wo,none⟩) qn qc from e5] at h5
      clear hE hO hN
      refine step_plain0 rfl ?_
      go_simp
      exact hK _ _ rfl hM (Below.refl _ _)
     ·intro T2 w2 hM hN hO hE K hK
      obtain⟨v6,h6,e6⟩:=hE ⟨6,.data⟩ (by simp) rfl _ _ rfl rfl
      rw [show v6 = .pointer (some ⟨wb,wo+1,none⟩) from e6] at h6
      clear hE hO hN
      refine step_plain0 rfl ?_
      have yw:=HCW1.out w2 (HBE.out.trans (hM.mono HBE.out.size))
      go_simp
      exact hK _ _ rfl hM (Below.refl _ _)
     ·intro T2 w2 hM hN hO hE K hK
      obtain⟨v4,h4,e4⟩:=hE ⟨4,.data⟩ (by simp) rfl _ _ rfl rfl
      rw [show v4 = .string EN from e4] at h4
      obtain⟨v7,h7,e7⟩:=hE ⟨7,.data⟩ (by simp) rfl _ _ rfl rfl
      rw [show v7 = .string SA1 from e7] at h7
      clear hE hO hN
      refine step_plain0 rfl ?_
      go_simp
      exact hK _ _ rfl hM (Below.refl _ _)
    ·intro u w13 hM hF
     have e8:u 8 = .bool true:=hF 8 (by omega)
     clear hF
     simp only [fillAll,Nat.reduceAdd,e8,List.take_succ_cons,List.take_zero,List.drop_succ_cons,List.drop_zero,List.setIfInBounds_toArray,List.set_cons_succ,List.set_cons_zero]
     have HI13:=hid2 (HI.out.keep (HBE.out.trans (hM.mono HBE.out.size)))
     have HBX:=hid2 (HBE.out.trans (hM.mono HBE.out.size))
     clear hM
     go_upto_region 22 with fail
     refine wp_region_grd 7 (by kernel_rfl) (by kernel_rfl) (by kernel_rfl) _ rfl (by kernel_rfl) (VV [some (.agg #[.string B,.slice AA an ac,.slice AW wn wc,.int .i64 k,.string P,.string D,.int .i64 y]),some (.slice (some ⟨eb,eo,none⟩) en ec),some (.int .i64 (i:Nat)),some (.pointer (some ⟨eb,eo+i * 2,none⟩)),some (.pointer (some ⟨eb,eo+i * 2+1,none⟩)),some (.string EV),none] (fun _ v w2=>XSt RES v w2)) (fun w2=>Below w13.heap.size w13 w2) (fun a b=>Below a.heap.size a b) ((Below.refl _ w13).drew) (fun j v w1 w2 hb hv=>VV.keep (fun h=>XSt.tkeep (a:=w1) (b:=w2) h (TKeep.of_below hb)) hv) ?_ ?_
     ·refine of_allOps ⟨?_,?_,?_,?_,?_,?_,?_,trivial⟩
      ·intro T2 w2 hM hN hO hE K hK
       have o5:T2[5]?=some (.pointer (some ⟨g5,0,none⟩)):=hO 5 rfl
       clear hE hO hN
       refine step_plain0 rfl ?_
       refine wp_load_row 37 _ rfl g5 (by simp [Act.eval,o5]) 37 _ (0,0) _ ((hM.block g5 (heap_lt HI13.out.st)).trans HI13.out.st) Tryz.underlying37 rfl (info_st7 rfl) ?_
       exact hK _ _ rfl hM (Below.refl _ _)
      ·intro T2 w2 hM hN hO hE K hK
       have o1:T2[1]?=some (.slice (some ⟨eb,eo,none⟩) en ec):=hO 1 rfl
       clear hE hO hN
       refine step_plain0 rfl ?_
       go_simp
       exact hK _ _ rfl hM (Below.refl _ _)
      ·intro T2 w2 hM hN hO hE K hK
       have o15:T2[15]?=some (.int .i64 (i:Nat)):=hO 15 rfl
       clear hE hO hN
       refine step_plain0 rfl ?_
       go_simp
       exact hK _ _ rfl hM (Below.refl _ _)
      ·intro T2 w2 hM hN hO hE K hK
       obtain⟨v1,h1,e1⟩:=hE ⟨1,.data⟩ (by simp) rfl _ _ rfl rfl
       rw [show v1 = .slice (some ⟨eb,eo,none⟩) en ec from e1] at h1
       obtain⟨v2,h2,e2⟩:=hE ⟨2,.data⟩ (by simp) rfl _ _ rfl rfl
       rw [show v2 = .int .i64 (i:Nat) from e2] at h2
       clear hE hO hN
       refine step_plain0 rfl ?_
       go_simp
       exact hK _ _ rfl hM (Below.refl _ _)
      ·intro T2 w2 hM hN hO hE K hK
       obtain⟨v3,h3,e3⟩:=hE ⟨3,.data⟩ (by simp) rfl _ _ rfl rfl
       rw [show v3 = .pointer (some ⟨eb,eo+i * 2,none⟩) from e3] at h3
       clear hE hO hN
       refine step_plain0 rfl ?_
       go_simp
       exact hK _ _ rfl hM (Below.refl _ _)
      ·intro T2 w2 hM hN hO hE K hK
       obtain⟨v4,h4,e4⟩:=hE ⟨4,.data⟩ (by simp) rfl _ _ rfl rfl
       rw [show v4 = .pointer (some ⟨eb,eo+i * 2+1,none⟩) from e4] at h4
       clear hE hO hN
       refine step_plain0 rfl ?_
       have ye:=HCV.out w2 (HBX.out.trans (hM.mono HBX.out.size))
       go_simp
       exact hK _ _ rfl hM (Below.refl _ _)
      ·intro T2 w2 hM hN hO hE K hK
       obtain⟨v0,h0,e0⟩:=hE ⟨0,.data⟩ (by simp) rfl _ _ rfl rfl
       rw [show v0 = .agg #[.string B,.slice AA an ac,.slice AW wn wc,.int .i64 k,.string P,.string D,.int .i64 y] from e0] at h0
       obtain⟨v5,h5,e5⟩:=hE ⟨5,.data⟩ (by simp) rfl _ _ rfl rfl
       rw [show v5 = .string EV from e5] at h5
       clear hE hO hN
       refine step_plain0 rfl ?_
       go_simp
       refine (CAD.out w2 (HI13.out.rs.below hM)).mono ?_
       rintro e w5 ⟨B5,AA5,an5,ac5,AW5,wn5,wc5,k5,P5,D5,y5,rfl,hq4,hb4⟩
       exact hK _ _ ⟨B5,AA5,an5,ac5,AW5,wn5,wc5,k5,P5,D5,y5,rfl,hq4⟩ (hM.trans (hb4.mono hM.size)) hb4
     ·intro u w14 hM hF
      obtain⟨B5,AA5,an5,ac5,AW5,wn5,wc5,k5,P5,D5,y5,e6,hq4⟩:=(show XSt RES (u 6) w14 from hF 6 (by omega))
      clear hF
      simp only [fillAll,Nat.reduceAdd,e6,List.take_succ_cons,List.take_zero,List.drop_succ_cons,List.drop_zero,List.setIfInBounds_toArray,List.set_cons_succ,List.set_cons_zero]
      have HI14:=hid2 (HI13.out.keep hM)
      have HQ4:=hid2 hq4
      have zo:=HI14.out.out
      clear hM hq4
      go_wp2_with ((with_reducible refine wpList_store_lit g10 0 (.agg #[.string B5,.slice AA5 an5 ac5,.slice AW5 wn5 wc5,.int .i64 k5,.string P5,.string D5,.int .i64 y5]) [.string B5,.slice AA5 an5 ac5,.slice AW5 wn5 wc5,.int .i64 k5,.string P5,.string D5,.int .i64 y5] rfl _ 37 zo (info_st _ _ _ _ _ _ _) (hF7 rfl) one_st ?_ ?_);exact⟨rfl,rfl⟩;rw [laid_st7 rfl])
      try simp only [Act.put]
      refine bodyPost_ret (v:=.agg #[.string B5,.slice AA5 an5 ac5,.slice AW5 wn5 wc5,.int .i64 k5,.string P5,.string D5,.int .i64 y5]) (results_cell_row rfl _ _ g10 37 _ (0,0) _ rfl (setRow_heap w14 g10 _ _ _ _ HI14.out.out) Tryz.underlying37 rfl (by kernel_rfl)) rfl ?_
      exact HI14.out.done HQ4.out _
   ·have heq:(EN.toList == SA1.toList)=false:=by rw [htx,HTA.out,beq_eq_false_iff_ne];exact hxa
    have heq2:¬ EN.toList=SA1.toList:=by rw [htx,HTA.out];exact hxa
    have HNO:=hid2 (show ∀ (j:Nat) (y:TT × TT),j < i+1→E[j]?=some y→y.1≠arg from fun j y hj hy=>by
     rcases Nat.lt_or_ge j i with h | h
     ·exact hno j y h hy
     ·have:j=i:=by omega
      subst this
      rw [hx] at hy
      cases hy
      exact hxa)
    clear hbe hi hno hx hec he0 he1 hebl htx hEN hEV hxa
    go_wp2_with fail
    refine wp_region_grd 9 (by kernel_rfl) (by kernel_rfl) (by kernel_rfl) _ rfl (by kernel_rfl) (VV [some (.slice (some ⟨eb,eo,none⟩) en ec),some (.int .i64 (i:Nat)),some (.pointer (some ⟨eb,eo+i * 2,none⟩)),some (.pointer (some ⟨eb,eo+i * 2,none⟩)),some (.string EN),some (.slice (some ⟨wb,wo,none⟩) qn qc),some (.pointer (some ⟨wb,wo+1,none⟩)),some (.string SA1),some (.bool false)] (fun _ _ _=>False)) (fun w2=>Below wr.heap.size wr w2) (fun a b=>Below a.heap.size a b) ((Below.refl _ wr).drew) (fun j v w1 w2 hb hv=>VV.keep (fun h=>h.elim) hv) ?_ ?_
    ·refine of_allOps ⟨?_,?_,?_,?_,?_,?_,?_,?_,?_,trivial⟩
     ·intro T2 w2 hM hN hO hE K hK
      have o1:T2[1]?=some (.slice (some ⟨eb,eo,none⟩) en ec):=hO 1 rfl
      clear hE hO hN
      refine step_plain0 rfl ?_
      go_simp
      exact hK _ _ rfl hM (Below.refl _ _)
     ·intro T2 w2 hM hN hO hE K hK
      have o15:T2[15]?=some (.int .i64 (i:Nat)):=hO 15 rfl
      clear hE hO hN
      refine step_plain0 rfl ?_
      go_simp
      exact hK _ _ rfl hM (Below.refl _ _)
     ·intro T2 w2 hM hN hO hE K hK
      obtain⟨v0,h0,e0⟩:=hE ⟨0,.data⟩ (by simp) rfl _ _ rfl rfl
      rw [show v0 = .slice (some ⟨eb,eo,none⟩) en ec from e0] at h0
      obtain⟨v1,h1,e1⟩:=hE ⟨1,.data⟩ (by simp) rfl _ _ rfl rfl
      rw [show v1 = .int .i64 (i:Nat) from e1] at h1
      clear hE hO hN
      refine step_plain0 rfl ?_
      go_simp
      exact hK _ _ rfl hM (Below.refl _ _)
     ·intro T2 w2 hM hN hO hE K hK
      obtain⟨v2,h2,e2⟩:=hE ⟨2,.data⟩ (by simp) rfl _ _ rfl rfl
      rw [show v2 = .pointer (some ⟨eb,eo+i * 2,none⟩) from e2] at h2
      clear hE hO hN
      refine step_plain0 rfl ?_
      go_simp
      exact hK _ _ rfl hM (Below.refl _ _)
     ·intro T2 w2 hM hN hO hE K hK
      obtain⟨v3,h3,e3⟩:=hE ⟨3,.data⟩ (by simp) rfl _ _ rfl rfl
      rw [show v3 = .pointer (some ⟨eb,eo+i * 2,none⟩) from e3] at h3
      clear hE hO hN
      refine step_plain0 rfl ?_
      have ye:=HCE.out w2 (HBE.out.trans (hM.mono HBE.out.size))
      go_simp
      exact hK _ _ rfl hM (Below.refl _ _)
     ·intro T2 w2 hM hN hO hE K hK
      have o4:T2[4]?=some (.slice (some ⟨wb,wo,none⟩) qn qc):=hO 4 rfl
      clear hE hO hN
      refine step_plain0 rfl ?_
      go_simp
      exact hK _ _ rfl hM (Below.refl _ _)
     ·intro T2 w2 hM hN hO hE K hK
      obtain⟨v5,h5,e5⟩:=hE ⟨5,.data⟩ (by simp) rfl _ _ rfl rfl
      rw [show v5 = .slice (some ⟨wb,wo,none⟩) qn qc from e5] at h5
      clear hE hO hN
      refine step_plain0 rfl ?_
      go_simp
      exact hK _ _ rfl hM (Below.refl _ _)
     ·intro T2 w2 hM hN hO hE K hK
      obtain⟨v6,h6,e6⟩:=hE ⟨6,.data⟩ (by simp) rfl _ _ rfl rfl
      rw [show v6 = .pointer (some ⟨wb,wo+1,none⟩) from e6] at h6
      clear hE hO hN
      refine step_plain0 rfl ?_
      have yw:=HCW1.out w2 (HBE.out.trans (hM.mono HBE.out.size))
      go_simp
      exact hK _ _ rfl hM (Below.refl _ _)
     ·intro T2 w2 hM hN hO hE K hK
      obtain⟨v4,h4,e4⟩:=hE ⟨4,.data⟩ (by simp) rfl _ _ rfl rfl
      rw [show v4 = .string EN from e4] at h4
      obtain⟨v7,h7,e7⟩:=hE ⟨7,.data⟩ (by simp) rfl _ _ rfl rfl
      rw [show v7 = .string SA1 from e7] at h7
      clear hE hO hN
      refine step_plain0 rfl ?_
      go_simp
      exact hK _ _ rfl hM (Below.refl _ _)
    ·intro u w13 hM hF
     have e8:u 8 = .bool false:=hF 8 (by omega)
     clear hF
     simp only [fillAll,Nat.reduceAdd,e8,List.take_succ_cons,List.take_zero,List.drop_succ_cons,List.drop_zero,List.setIfInBounds_toArray,List.set_cons_succ,List.set_cons_zero]
     have HBX:=hid2 (HBE.out.trans (hM.mono HBE.out.size))
     clear hM
     go_wp2_with fail
     go_roundg (gk - 1)
     case rel=>exact⟨HBX.out,i+1,by have:=HIN.out;omega,by go_num,HNO.out⟩
     case measure=>have:=HIN.out;omega
  ·have hil:¬ (i:Int) < en:=by omega
   have hR2:RES=r.fail 10:=by
    rw [HRES.out,envfind_none fun j y hj=>hno j y (by have:=(List.getElem?_eq_some_iff.1 hj).1;have:=HEN.out;omega) hj]
   have HIR:=hid2 (HI.out.keep hbe)
   have c0:=cell_of_row wr g5 0 _ _ _ HIR.out.st
   have c1:=cell_of_row wr g5 1 _ _ _ HIR.out.st
   have c2:=cell_of_row wr g5 2 _ _ _ HIR.out.st
   have c3:=cell_of_row wr g5 3 _ _ _ HIR.out.st
   have c4:=cell_of_row wr g5 4 _ _ _ HIR.out.st
   have c5:=cell_of_row wr g5 5 _ _ _ HIR.out.st
   have c6:=cell_of_row wr g5 6 _ _ _ HIR.out.st
   have HR2:=hid2 hR2
   clear hbe hi hno hR2
   go_wp2_with (first
    | (go_at_call 33; refine (rfail_st wr B AA AW an ac wn wc k y P D r HIR.out.rs 10).mono ?_;rintro e wa ⟨B5,AA5,an5,ac5,AW5,wn5,wc5,k5,P5,D5,y5,rfl,hq,hb⟩;have HIA:=hid2 (HIR.out.keep hb);have HQ:=hid2 hq;have zo:=HIA.out.out;clear hb hq)
    | ((with_reducible refine wpList_store_lit g10 0 (.agg #[.string B5,.slice AA5 an5 ac5,.slice AW5 wn5 wc5,.int .i64 k5,.string P5,.string D5,.int .i64 y5]) [.string B5,.slice AA5 an5 ac5,.slice AW5 wn5 wc5,.int .i64 k5,.string P5,.string D5,.int .i64 y5] rfl _ 37 zo (info_st _ _ _ _ _ _ _) (hF7 rfl) one_st ?_ ?_);exact⟨rfl,rfl⟩;rw [laid_st7 rfl]))
   try simp only [Act.put]
   refine bodyPost_ret (v:=.agg #[.string B5,.slice AA5 an5 ac5,.slice AW5 wn5 wc5,.int .i64 k5,.string P5,.string D5,.int .i64 y5]) (results_cell_row rfl _ _ g10 37 _ (0,0) _ rfl (setRow_heap wa g10 _ _ _ _ HIA.out.out) Tryz.underlying37 rfl (by kernel_rfl)) rfl ?_
   rw [HR2.out]
   exact HIA.out.done HQ.out _
def TKeepK (a b:World):Prop:=a.heap.size≤b.heap.size∧(∀ (g:Nat) (cs:Array Value) (t:TypeId) (fr:Nat × Nat),a.heap[g]?=some (.cells cs t fr)→t ≠ 37 → t ≠ 41 → b.heap[g]?=a.heap[g]?)∧(∀ g,StRow a g→StRow b g)∧∀ g,KnRow a g→KnRow b g
theorem TKeepK.refl (a:World):TKeepK a a:=⟨Nat.le_refl _,fun _ _ _ _ _ _ _=>rfl,fun _ h=>h,fun _ h=>h⟩
theorem TKeepK.of_below {a b:World} (h:Below a.heap.size a b):TKeepK a b:=⟨h.size,fun g _ _ _ e _ _=>h.block g (heap_lt e),fun _ k=>k.below h,fun _ k=>k.below h⟩
theorem TKeepK.trans {a b c:World} (h:TKeepK a b) (k:TKeepK b c):TKeepK a c:=⟨Nat.le_trans h.1 k.1,fun g cs t fr e n1 n2=>(k.2.1 g cs t fr ((h.2.1 g cs t fr e n1 n2).trans e) n1 n2).trans (h.2.1 g cs t fr e n1 n2),fun g e=>k.2.2.1 g (h.2.2.1 g e),fun g e=>k.2.2.2 g (h.2.2.2 g e)⟩
theorem TKeepK.putS {a:World} {g:Nat} (h:StRow a g) {cs:Array Value} (hc:cs.size=7):TKeepK a (a.setRow g cs):=⟨by simp,fun i ci t fr e n1 _=>setRow_other a g i cs (by
 obtain⟨c1,_,e2⟩:=h
 exact row_ne e e2 n1),fun _ k=>k.put hc h,fun _ k=>k.putS h⟩
theorem TKeepK.putK {a:World} {g:Nat} (h:KnRow a g) {cs:Array Value} (hc:cs.size=3):TKeepK a (a.setRow g cs):=⟨by simp,fun i ci t fr e _ n2=>setRow_other a g i cs (by
 obtain⟨c1,_,e2⟩:=h
 exact row_ne e e2 n2),fun _ k=>k.putK h,fun _ k=>k.putK hc h⟩
theorem Own.tkeepK {a b:World} {base sz n c:Nat} {t:TypeId} {A:Option Addr} {xs:List Value} (h:Own a base t sz A n c xs) (hk:TKeepK a b) (h1:t ≠ 37) (h2:t ≠ 41):Own b base t sz A n c xs :=
 h.keep fun g hg _ _=>by
  obtain⟨_,_,cur,fr,e⟩:=h.block g hg
  exact hk.2.1 g cur t fr e h1 h2
theorem RSA.tkeepK {a b:World} {B:ByteArray} {AA:Option Addr} {an ac:Nat} {AW:Option Addr} {wn wc:Nat} {k:Int} {P D:ByteArray} {y:Int} {r:RS} (h:RSA a B AA an ac AW wn wc k P D y r) (hk:TKeepK a b):RSA b B AA an ac AW wn wc k P D y r:=by
 obtain⟨g1,g2,g3,g4,g5,g6⟩:=h
 exact⟨g1,g2,g3.tkeepK hk (by decide) (by decide),g4,g5.tkeepK hk (by decide) (by decide),g6⟩
theorem XSt.tkeepK {r:RS} {v:Value} {a b:World} (h:XSt r v a) (hk:TKeepK a b):XSt r v b:=by
 obtain⟨B,AA,an,ac,AW,wn,wc,k,P,D,y,h1,h2⟩:=h
 exact⟨B,AA,an,ac,AW,wn,wc,k,P,D,y,h1,h2.tkeepK hk⟩
theorem XTup.tkeepK {x:RS × List TT} {v:Value} {a b:World} (h:XTup x v a) (hk:TKeepK a b):XTup x v b:=by
 obtain⟨B,AA,an,ac,AW,wn,wc,k,P,D,y,DA,dn,dc,h1,h2,h3,h4⟩:=h
 exact⟨B,AA,an,ac,AW,wn,wc,k,P,D,y,DA,dn,dc,h1,h2.tkeepK hk,h3,h4.tkeepK hk (by decide) (by decide)⟩
def XAsk (x1:RS) (bi:Bool) (dat:TT) (v:Value) (w:World):Prop:=∃ (B:ByteArray) (AA:Option Addr) (an ac:Nat) (AW:Option Addr) (wn wc:Nat) (k:Int) (P D:ByteArray) (y:Int) (X Y:ByteArray),v = .tuple #[.agg #[.string B,.slice AA an ac,.slice AW wn wc,.int .i64 k,.string P,.string D,.int .i64 y],.agg #[.string X,.bool bi,.string Y]]∧RSA w B AA an ac AW wn wc k P D y x1∧(bi=true→Y=strB dat)
def XKn (bi:Bool) (dat:TT) (v:Value):Prop:=∃ X Y:ByteArray,v = .agg #[.string X,.bool bi,.string Y]∧(bi=true→Y=strB dat)
theorem XAsk.tkeepK {x1:RS} {bi:Bool} {dat:TT} {v:Value} {a b:World} (h:XAsk x1 bi dat v a) (hk:TKeepK a b):XAsk x1 bi dat v b:=by
 obtain⟨B,AA,an,ac,AW,wn,wc,k,P,D,y,X,Y,h1,h2,h3⟩:=h
 exact⟨B,AA,an,ac,AW,wn,wc,k,P,D,y,X,Y,h1,h2.tkeepK hk,h3⟩
structure ReadB (w wq:World) (g5 g10:Nat) (ST:Array Value) (w2:World):Prop where
 below:Below w.heap.size w w2
 base:w.heap.size≤wq.heap.size
 keep:TKeepK wq w2
 l5:g5 < wq.heap.size
 l10:g10 < wq.heap.size
 st:w2.heap[g5]?=some (.cells ST 37 (0,0))
 out:w2.heap[g10]?=some (.cells zSt 37 (0,0))
theorem ReadB.more {w wq w2 w3:World} {g5 g10:Nat} {ST:Array Value} (h:ReadB w wq g5 g10 ST w2) (hb:Below w2.heap.size w2 w3):ReadB w wq g5 g10 ST w3 :=
 ⟨h.below.trans (hb.mono h.below.size),h.base,h.keep.trans (TKeepK.of_below hb),h.l5,h.l10,(hb.block g5 (heap_lt h.st)).trans h.st,(hb.block g10 (heap_lt h.out)).trans h.out⟩
theorem ReadB.put {w wq w2:World} {g5 g10:Nat} {ST:Array Value} (h:ReadB w wq g5 g10 ST w2) {g:Nat} (hg:wq.heap.size≤g) (cs:Array Value) (hk:TKeepK w2 (w2.setRow g cs)):ReadB w wq g5 g10 ST (w2.setRow g cs) :=
 ⟨below_setRow h.below (Nat.le_trans h.base hg) cs,h.base,h.keep.trans hk,h.l5,h.l10,(setRow_other w2 g g5 cs (by have:=h.l5;omega)).trans h.st,(setRow_other w2 g g10 cs (by have:=h.l10;omega)).trans h.out⟩
def Wrt (wq:World) (t:TypeId) (n:Nat) (vp va:Value) (w2:World):Prop:=∃ (g:Nat) (cs:Array Value),vp = .pointer (some ⟨g,0,none⟩)∧wq.heap.size≤g∧va = .agg cs∧cs.size=n∧w2.heap[g]?=some (.cells cs t (0,0))
theorem Wrt.more {wq:World} {t:TypeId} {n:Nat} {vp va:Value} {w2 w3:World} (h:Wrt wq t n vp va w2) (hb:Below w2.heap.size w2 w3):Wrt wq t n vp va w3:=by
 obtain⟨g,cs,h1,h2,h3,h4,h5⟩:=h
 exact⟨g,cs,h1,h2,h3,h4,(hb.block g (heap_lt h5)).trans h5⟩
theorem Wrt.putOther {wq:World} {t t2:TypeId} {n:Nat} {vp va:Value} {w2:World} (h:Wrt wq t n vp va w2) {g2:Nat} {c2:Array Value} {fr:Nat × Nat} (hg:w2.heap[g2]?=some (.cells c2 t2 fr)) (hne:t≠t2) (cs2:Array Value):Wrt wq t n vp va (w2.setRow g2 cs2):=by
 obtain⟨g,cs,h1,h2,h3,h4,h5⟩:=h
 exact⟨g,cs,h1,h2,h3,h4,(setRow_other w2 g2 g cs2 (row_ne h5 hg hne)).trans h5⟩
def PtrS (wq:World) (v:Value) (w2:World):Prop:=∃ g,v = .pointer (some ⟨g,0,none⟩)∧wq.heap.size≤g∧StRow w2 g
def PtrK (wq:World) (v:Value) (w2:World):Prop:=∃ g,v = .pointer (some ⟨g,0,none⟩)∧wq.heap.size≤g∧KnRow w2 g
set_option maxHeartbeats 16000000 in
theorem rstep_rt_stop (w:World) (B:ByteArray) (AA:Option Addr) (an ac:Nat) (AW:Option Addr) (wn wc:Nat) (k:Int) (P D:ByteArray) (y:Int) (r:RS) (h:RSA w B AA an ac AW wn wc k P D y r) (hs:r.Small) (EA:Option Addr) (en ec:Nat) (KA:Option Addr) (kn kc:Nat) (line:TT) (hln:line.length≤65536) (WA:Option Addr) (qn qc:Nat) (ws:List TT) (nm:TT) (hnm:ws[0]?=some nm) (hk:nm=kRead∨nm=kTry) (hqn:0 < qn) (hrw:Rd w 1 WA qn (strV ws)) (arg:TT) (harg:ws[1]?=some arg) (hq1:1 < qn) (hal:arg.length≤65536) (K:List KE) (hkn:kn=K.length) (hK:K.length≤1000000) (hKd:∀ k∈K,k.path.length≤1000000∧k.data.length≤100000) (hrk:Rd w 3 KA K.length (kV K)) (hwt:∀ b,blockOf WA=some b→∃ cur fr,w.heap[b]?=some (.cells cur 9 fr)) (hx:(r.ask (orK K) arg).1.stop.kind≠0) :
  Calls Tryz.prog 34 #[.agg #[.string B,.slice AA an ac,.slice AW wn wc,.int .i64 k,.string P,.string D,.int .i64 y],.slice EA en ec,.slice KA kn kc,.string (strB line),.slice WA qn qc] w (StPost w ((r.ask (orK K) arg).1)):=by
 have htn:=toList_strBT nm
 obtain⟨SL,hSL⟩:∃ S,S=strB line:=⟨_,rfl⟩
 rw [← hSL]
 obtain⟨RES,hRES⟩:∃ R,R=(r.ask (orK K) arg).1:=⟨_,rfl⟩
 rw [← hRES]
 obtain⟨w1,hw1⟩:∃ w1,w1=w.alloc (.cells #[.string B,.slice AA an ac,.slice AW wn wc,.int .i64 k,.string P,.string D,.int .i64 y] 37):=⟨_,rfl⟩
 obtain⟨wq,hwq⟩:∃ wq,wq=w1.alloc (.cells #[.string ⟨#[]⟩,.slice none 0 0,.slice none 0 0,.int .i64 0,.string ⟨#[]⟩,.string ⟨#[]⟩,.int .i64 0] 37):=⟨_,rfl⟩
 have hs1:w1.heap.size=w.heap.size+1:=by rw [hw1,World.size_alloc]
 have hs2:wq.heap.size=w.heap.size+1+1:=by rw [hwq,World.size_alloc,hs1]
 have hb1:Below w.heap.size w w1:=by rw [hw1];exact (Below.refl _ _).alloc (Nat.le_refl _) _
 have hb2:Below w.heap.size w wq:=by rw [hwq];exact hb1.alloc (by omega) _
 have hg5:wq.heap[w.heap.size]?=some (.cells #[.string B,.slice AA an ac,.slice AW wn wc,.int .i64 k,.string P,.string D,.int .i64 y] 37 (0,0)):=by
  rw [hwq,Below.heap_alloc _ _ _ (by omega),hw1]
  exact World.alloc_heap_new _ _
 have hg10:wq.heap[w.heap.size+1]?=some (.cells zSt 37 (0,0)):=by
  rw [hwq,← hs1]
  exact World.alloc_heap_new _ _
 obtain⟨g5,hg5e⟩:∃ g,g=w.heap.size:=⟨_,rfl⟩
 obtain⟨g10,hg10e⟩:∃ g,g=w.heap.size+1:=⟨_,rfl⟩
 rw [← hg5e] at hg5
 rw [← hg10e] at hg10
 have H12:=hid2 (show (w.alloc (.cells #[.string B,.slice AA an ac,.slice AW wn wc,.int .i64 k,.string P,.string D,.int .i64 y] 37)).alloc (.cells #[.string ⟨#[]⟩,.slice none 0 0,.slice none 0 0,.int .i64 0,.string ⟨#[]⟩,.string ⟨#[]⟩,.int .i64 0] 37)=wq from by rw [hwq,hw1])
 have HE:=hid2 (And.intro hg5e hg10e)
 have HI:=hid2 (show StepI w wq g5 g10 B AA an ac AW wn wc k P D y r from ⟨hb2,by omega,by omega,by omega,hg5,hg10,h.below hb2⟩)
 obtain⟨wb,wo,hWA,hcell⟩:=(hrw.below_all hb2).2 hqn
 obtain⟨cur0,fr0,hwt0⟩:=hwt wb (by rw [hWA];rfl)
 have hwt1:∃ cur fr,wq.heap[wb]?=some (.cells cur 9 fr):=⟨cur0,fr0,(hb2.block wb (heap_lt hwt0)).trans hwt0⟩
 clear hwt hwt0
 subst hWA
 have hws0:wq.cell? ⟨wb,wo,none⟩=some (.string (strB nm)):=hcell 0 _ (strV_at hnm)
 have hqi:(0:Int) < qn:=by omega
 have c0:=cell_of_row wq g5 0 _ _ _ hg5
 have c1:=cell_of_row wq g5 1 _ _ _ hg5
 have c2:=cell_of_row wq g5 2 _ _ _ hg5
 have c3:=cell_of_row wq g5 3 _ _ _ hg5
 have c4:=cell_of_row wq g5 4 _ _ _ hg5
 have c5:=cell_of_row wq g5 5 _ _ _ hg5
 have c6:=cell_of_row wq g5 6 _ _ _ hg5
 have hbuf:r.buf.length≤100000000000:=by have:=hs.2;omega
 have hF7:∀ {a b c d e f g:Value} {cs:Array Value},cs.size=7→0+[a,b,c,d,e,f,g].length≤cs.size:=fun h=>by rw [h];exact Nat.le_refl 7
 obtain⟨SN,hSN⟩:∃ S,S=strB nm:=⟨_,rfl⟩
 rw [← hSN] at htn hws0
 have hrt:(((SN.toList == [114,101,97,100])=true)∧(SN.toList=[114,101,97,100]))∨(((SN.toList == [114,101,97,100])=false)∧(¬ SN.toList=[114,101,97,100])∧((SN.toList == [116,114,121])=true)∧(SN.toList=[116,114,121])):=by
  rcases hk with hk | hk
  ·exact .inl ⟨by rw [htn,beq_iff_eq,hk],by rw [htn,hk]⟩
  ·exact .inr ⟨by rw [htn,hk];decide,by rw [htn,hk];decide,by rw [htn,beq_iff_eq,hk],by rw [htn,hk]⟩
 have hws1:wq.cell? ⟨wb,wo+1,none⟩=some (.string (strB arg)):=hcell 1 _ (strV_at harg)
 have hq1i:(1:Int) < qn:=by omega
 have hta:=toList_strBT arg
 obtain⟨SA1,hSA1⟩:∃ S,S=strB arg:=⟨_,rfl⟩
 rw [← hSA1] at hws1 hta
 have HCW1:=hid2 (show ∀ w2,Below wq.heap.size wq w2→w2.cell? ⟨wb,wo+1,none⟩=some (.string SA1) from fun w2 hb=>(hb.cell (p:=⟨wb,wo+1,none⟩) (World.block_lt_of_cell? _ _ hws1)).trans hws1)
 have cA:∀ (WW:World),Below w.heap.size w WW→RSA WW B AA an ac AW wn wc k P D y r→Calls Tryz.prog 52 #[.agg #[.string B,.slice AA an ac,.slice AW wn wc,.int .i64 k,.string P,.string D,.int .i64 y],.slice KA kn kc,.string SA1] WW (AskP WW (r.ask (orK K) arg).1 (r.ask (orK K) arg).2.is (r.ask (orK K) arg).2.data):=fun WW hb hq=>by
  rw [hkn,hSA1]
  exact rask_any WW B AA an ac AW wn wc k P D y r hq hs.1 KA kc K hK (hrk.below_all hb) arg
 have hx1s:=hs.ask (O:=orK K) arg
 have hfound:=@ask_found (orK K) r arg
 obtain⟨x1,hx1⟩:∃ x,x=(r.ask (orK K) arg).1:=⟨_,rfl⟩
 obtain⟨x2,hx2⟩:∃ x,x=(r.ask (orK K) arg).2:=⟨_,rfl⟩
 rw [← hx1,← hx2] at cA hfound
 rw [← hx1] at hx1s
 have HRB:=hid2 (show ReadB w wq g5 g10 #[.string B,.slice AA an ac,.slice AW wn wc,.int .i64 k,.string P,.string D,.int .i64 y] wq from ⟨hb2,hb2.size,TKeepK.refl _,heap_lt hg5,heap_lt hg10,hg5,hg10⟩)
 have HCK0:=hid2 (show ∀ w2,TKeepK wq w2→w2.cell? ⟨wb,wo,none⟩=some (.string SN) from fun w2 hk=>by
  obtain⟨cur,fr,e⟩:=hwt1
  have:=hk.2.1 wb cur _ fr e (by decide) (by decide)
  rw [← hws0]
  simp only [World.cell?,this])
 have HCK1:=hid2 (show ∀ w2,TKeepK wq w2→w2.cell? ⟨wb,wo+1,none⟩=some (.string SA1) from fun w2 hk=>by
  obtain⟨cur,fr,e⟩:=hwt1
  have:=hk.2.1 wb cur _ fr e (by decide) (by decide)
  rw [← hws1]
  simp only [World.cell?,this])
 rw [← hx1] at hx
 rw [← hx1] at hRES
 obtain⟨bi,hbi⟩:∃ b,b=x2.is:=⟨_,rfl⟩
 rw [← hbi] at cA
 obtain⟨dat,hdat⟩:∃ d,d=x2.data:=⟨_,rfl⟩
 rw [← hdat] at cA
 have HX:=hid2 hx
 have HRES:=hid2 hRES
 have CA:=hid2 cA
 have HX1S:=hid2 hx1s
 clear hx hRES cA hx1s hfound hx1 hx2 hdat hwt1 hws1 hta hSA1 harg hal hbuf hln hrk hKd hK hkn hbi
 clear hSL hw1 hwq hs1 hs2 hb1 hb2 hg5 hg10 hg5e hg10e hcell hrw hnm hk hSN htn h hs
 go_enter Tryz.func34,Tryz.ntmps34
 go_upto_region 1 with fail
 rw [H12.out,← HE.out.2,← HE.out.1]
 rcases hrt with ⟨tkRead,ukRead⟩ | ⟨tkRead,ukRead,tkTry,ukTry⟩
 all_goals
  go_upto_region 4 with fail
  refine wp_region_lst 13 (by kernel_rfl) (by kernel_rfl) (by kernel_rfl) _ rfl (by kernel_rfl) (VV [some (.agg #[.string B,.slice AA an ac,.slice AW wn wc,.int .i64 k,.string P,.string D,.int .i64 y]),some (.slice KA kn kc),some (.slice (some ⟨wb,wo,none⟩) qn qc),some (.pointer (some ⟨wb,wo+1,none⟩)),some (.string SA1),none,none,none,none,none,none,none,none] (fun j v w2=>(j=5∨j=6→XAsk x1 bi dat v w2)∧(j=7→XSt x1 v w2)∧(j=8→XKn bi dat v)∧(j=9→PtrS wq v w2)∧(j=10→PtrK wq v w2))) (fun L u w2=>ReadB w wq g5 g10 #[.string B,.slice AA an ac,.slice AW wn wc,.int .i64 k,.string P,.string D,.int .i64 y] w2∧(L 11=true→Wrt wq 37 7 (u 9) (u 7) w2)∧(L 12=true→Wrt wq 41 3 (u 10) (u 8) w2)) (TKeepK) (fun _=>⟨HRB.out.more (Below.refl _ _).drew,fun e=>absurd e (by decide),fun e=>absurd e (by decide)⟩) (fun j v w1 w2 hb hv=>VV.keep (fun h=>⟨fun e=>XAsk.tkeepK (a:=w1) (b:=w2) (h.1 e) hb,fun e=>XSt.tkeepK (a:=w1) (b:=w2) (h.2.1 e) hb,h.2.2.1,fun e=>(by obtain⟨g,a1,a2,a3⟩:=h.2.2.2.1 e;exact⟨g,a1,a2,hb.2.2.1 g a3⟩),fun e=>(by obtain⟨g,a1,a2,a3⟩:=h.2.2.2.2 e;exact⟨g,a1,a2,hb.2.2.2 g a3⟩)⟩) hv) ?_ ?_
  ·refine of_allOps ⟨?_,?_,?_,?_,?_,?_,?_,?_,?_,?_,?_,?_,?_,trivial⟩
   ·intro T2 w2 L2 u2 hM hli hcl hT hLe hN hO hE K hK
    have o5:T2[5]?=some (.pointer (some ⟨g5,0,none⟩)):=hO 5 rfl
    clear hE hO hN
    refine step_plain0 rfl ?_
    refine wp_load_row 37 _ rfl g5 (by simp [Act.eval,o5]) 37 _ (0,0) _ hM.1.st Tryz.underlying37 rfl (info_st7 rfl) ?_
    exact hK _ _ rfl hM (TKeepK.refl _)
   ·intro T2 w2 L2 u2 hM hli hcl hT hLe hN hO hE K hK
    have o2:T2[2]?=some (.slice KA kn kc):=hO 2 rfl
    clear hE hO hN hli hcl hT hLe
    refine step_plain0 rfl ?_
    go_simp
    exact hK _ _ rfl hM (TKeepK.refl _)
   ·intro T2 w2 L2 u2 hM hli hcl hT hLe hN hO hE K hK
    have o4:T2[4]?=some (.slice (some ⟨wb,wo,none⟩) qn qc):=hO 4 rfl
    clear hE hO hN hli hcl hT hLe
    refine step_plain0 rfl ?_
    go_simp
    exact hK _ _ rfl hM (TKeepK.refl _)
   ·intro T2 w2 L2 u2 hM hli hcl hT hLe hN hO hE K hK
    obtain⟨v2,h2,e2,eu2⟩:=hE ⟨2,.data⟩ (by simp) rfl _ _ rfl rfl
    rw [show v2 = .slice (some ⟨wb,wo,none⟩) qn qc from e2] at h2 eu2
    clear hE hO hN hli hcl hT hLe eu2
    refine step_plain0 rfl ?_
    go_simp
    exact hK _ _ rfl hM (TKeepK.refl _)
   ·intro T2 w2 L2 u2 hM hli hcl hT hLe hN hO hE K hK
    obtain⟨v3,h3,e3,eu3⟩:=hE ⟨3,.data⟩ (by simp) rfl _ _ rfl rfl
    rw [show v3 = .pointer (some ⟨wb,wo+1,none⟩) from e3] at h3 eu3
    clear hE hO hN
    refine step_plain0 rfl ?_
    have yw:=HCK1.out w2 hM.1.keep
    go_simp
    exact hK _ _ rfl hM (TKeepK.refl _)
   ·intro T2 w2 L2 u2 hM hli hcl hT hLe hN hO hE K hK
    obtain⟨v0,h0,e0,eu0⟩:=hE ⟨0,.data⟩ (by simp) rfl _ _ rfl rfl
    rw [show v0 = .agg #[.string B,.slice AA an ac,.slice AW wn wc,.int .i64 k,.string P,.string D,.int .i64 y] from e0] at h0 eu0
    obtain⟨v1,h1,e1,eu1⟩:=hE ⟨1,.data⟩ (by simp) rfl _ _ rfl rfl
    rw [show v1 = .slice KA kn kc from e1] at h1 eu1
    obtain⟨v4,h4,e4,eu4⟩:=hE ⟨4,.data⟩ (by simp) rfl _ _ rfl rfl
    rw [show v4 = .string SA1 from e4] at h4 eu4
    clear hE hO hN
    refine step_plain0 rfl ?_
    go_simp
    refine (CA.out w2 hM.1.below (HI.out.rs.tkeepK hM.1.keep)).mono ?_
    rintro e w5 ⟨B4,AA4,an4,ac4,AW4,wn4,wc4,k4,P4,D4,y4,X4,Y4,rfl,hq4,hy4,hb4⟩
    exact hK _ _ ⟨fun _=>⟨B4,AA4,an4,ac4,AW4,wn4,wc4,k4,P4,D4,y4,X4,Y4,rfl,hq4,hy4⟩,fun e=>absurd e (by decide),fun e=>absurd e (by decide),fun e=>absurd e (by decide),fun e=>absurd e (by decide)⟩ ⟨hM.1.more hb4,fun e=>(hM.2.1 e).more hb4,fun e=>(hM.2.2 e).more hb4⟩ (TKeepK.of_below hb4)
   ·intro T2 w2 L2 u2 hM hli hcl hT hLe hN hO hE K hK
    obtain⟨v5,h5,e5,eu5⟩:=hE ⟨5,.data⟩ (by simp) rfl _ _ rfl rfl
    clear hE hO hN
    refine step_plain0 rfl ?_
    have x5:=(show (5=5∨5=6→XAsk x1 bi dat v5 w2)∧(5=7→XSt x1 v5 w2)∧(5=8→XKn bi dat v5)∧(5=9→PtrS wq v5 w2)∧(5=10→PtrK wq v5 w2) from e5).1 (.inl rfl)
    go_simp
    exact hK _ _ ⟨fun _=>x5,fun e=>absurd e (by decide),fun e=>absurd e (by decide),fun e=>absurd e (by decide),fun e=>absurd e (by decide)⟩ hM (TKeepK.refl _)
   ·intro T2 w2 L2 u2 hM hli hcl hT hLe hN hO hE K hK
    obtain⟨v6,h6,e6,eu6⟩:=hE ⟨6,.data⟩ (by simp) rfl _ _ rfl rfl
    clear hE hO hN
    refine step_plain0 rfl ?_
    have hno11:=not_come hcl hli 11 [7] (by kernel_rfl) (by simp)
    have x6:=(show (6=5∨6=6→XAsk x1 bi dat v6 w2)∧(6=7→XSt x1 v6 w2)∧(6=8→XKn bi dat v6)∧(6=9→PtrS wq v6 w2)∧(6=10→PtrK wq v6 w2) from e6).1 (.inr rfl)
    obtain⟨B4,AA4,an4,ac4,AW4,wn4,wc4,k4,P4,D4,y4,X4,Y4,rfl,hq4,hy4⟩:=x6
    clear e6 eu6
    go_simp
    exact hK _ _ ⟨fun e=>absurd e (by decide),fun _=>⟨B4,AA4,an4,ac4,AW4,wn4,wc4,k4,P4,D4,y4,rfl,hq4⟩,fun e=>absurd e (by decide),fun e=>absurd e (by decide),fun e=>absurd e (by decide)⟩ ⟨hM.1,fun e=>absurd (show L2 11=true from e) (by rw [hno11];decide),hM.2.2⟩ (TKeepK.refl _)
   ·intro T2 w2 L2 u2 hM hli hcl hT hLe hN hO hE K hK
    obtain⟨v6,h6,e6,eu6⟩:=hE ⟨6,.data⟩ (by simp) rfl _ _ rfl rfl
    clear hE hO hN
    refine step_plain0 rfl ?_
    have hno12:=not_come hcl hli 12 [8] (by kernel_rfl) (by simp)
    have x6:=(show (6=5∨6=6→XAsk x1 bi dat v6 w2)∧(6=7→XSt x1 v6 w2)∧(6=8→XKn bi dat v6)∧(6=9→PtrS wq v6 w2)∧(6=10→PtrK wq v6 w2) from e6).1 (.inr rfl)
    obtain⟨B4,AA4,an4,ac4,AW4,wn4,wc4,k4,P4,D4,y4,X4,Y4,rfl,hq4,hy4⟩:=x6
    clear e6 eu6
    have HY4:=hid2 hy4
    clear hy4
    go_simp
    exact hK _ _ ⟨fun e=>absurd e (by decide),fun e=>absurd e (by decide),fun _=>⟨X4,Y4,rfl,HY4.out⟩,fun e=>absurd e (by decide),fun e=>absurd e (by decide)⟩ ⟨hM.1,hM.2.1,fun e=>absurd (show L2 12=true from e) (by rw [hno12];decide)⟩ (TKeepK.refl _)
   ·intro T2 w2 L2 u2 hM hli hcl hT hLe hN hO hE K hK
    clear hE hO hN
    refine step_plain0 rfl ?_
    have hno11:=not_come hcl hli 11 [9] (by kernel_rfl) (by simp)
    go_simp
    exact hK _ _ ⟨fun e=>absurd e (by decide),fun e=>absurd e (by decide),fun e=>absurd e (by decide),fun _=>⟨w2.heap.size,rfl,hM.1.keep.1,⟨_,rfl,World.alloc_heap_new w2 _⟩⟩,fun e=>absurd e (by decide)⟩ ⟨hM.1.more ((Below.refl _ w2).alloc (Nat.le_refl _) _),fun e=>absurd (show L2 11=true from e) (by rw [hno11];decide),fun e=>(hM.2.2 e).more ((Below.refl _ w2).alloc (Nat.le_refl _) _)⟩ (TKeepK.of_below ((Below.refl _ w2).alloc (Nat.le_refl _) _))
   ·intro T2 w2 L2 u2 hM hli hcl hT hLe hN hO hE K hK
    clear hE hO hN
    refine step_plain0 rfl ?_
    have hno12:=not_come hcl hli 12 [10] (by kernel_rfl) (by simp)
    go_simp
    exact hK _ _ ⟨fun e=>absurd e (by decide),fun e=>absurd e (by decide),fun e=>absurd e (by decide),fun e=>absurd e (by decide),fun _=>⟨w2.heap.size,rfl,hM.1.keep.1,⟨_,rfl,World.alloc_heap_new w2 _⟩⟩⟩ ⟨hM.1.more ((Below.refl _ w2).alloc (Nat.le_refl _) _),fun e=>(hM.2.1 e).more ((Below.refl _ w2).alloc (Nat.le_refl _) _),fun e=>absurd (show L2 12=true from e) (by rw [hno12];decide)⟩ (TKeepK.of_below ((Below.refl _ w2).alloc (Nat.le_refl _) _))
   ·intro T2 w2 L2 u2 hM hli hcl hT hLe hN hO hE K hK
    obtain⟨v9,h9,e9,eu9⟩:=hE ⟨9,.data⟩ (by simp) rfl _ _ rfl rfl
    obtain⟨v7,h7,e7,eu7⟩:=hE ⟨7,.data⟩ (by simp) rfl _ _ rfl rfl
    clear hE hO hN
    refine step_plain0 rfl ?_
    have x9:=(show (9=5∨9=6→XAsk x1 bi dat v9 w2)∧(9=7→XSt x1 v9 w2)∧(9=8→XKn bi dat v9)∧(9=9→PtrS wq v9 w2)∧(9=10→PtrK wq v9 w2) from e9).2.2.2.1 rfl
    have x7:=(show (7=5∨7=6→XAsk x1 bi dat v7 w2)∧(7=7→XSt x1 v7 w2)∧(7=8→XKn bi dat v7)∧(7=9→PtrS wq v7 w2)∧(7=10→PtrK wq v7 w2) from e7).2.1 rfl
    obtain⟨gs,rfl,hgs,⟨cs1,z1,z2⟩⟩:=x9
    obtain⟨B4,AA4,an4,ac4,AW4,wn4,wc4,k4,P4,D4,y4,rfl,hq4⟩:=x7
    refine wp_store_row 37 _ _ rfl gs #[.string B4,.slice AA4 an4 ac4,.slice AW4 wn4 wc4,.int .i64 k4,.string P4,.string D4,.int .i64 y4] (by simp [Act.eval,h9]) (by simp [Act.eval,h7]) 37 cs1 z2 (info_st7 rfl) z1 (by simp [Value.oneCell']) ?_
    have hkk:=TKeepK.putS (a:=w2) (g:=gs) ⟨cs1,z1,z2⟩ (cs:=#[.string B4,.slice AA4 an4 ac4,.slice AW4 wn4 wc4,.int .i64 k4,.string P4,.string D4,.int .i64 y4]) rfl
    exact hK undef _ ⟨fun e=>absurd e (by decide),fun e=>absurd e (by decide),fun e=>absurd e (by decide),fun e=>absurd e (by decide),fun e=>absurd e (by decide)⟩ ⟨hM.1.put hgs _ hkk,fun _=>⟨gs,_,eu9,hgs,eu7,rfl,setRow_heap w2 gs _ _ _ _ z2⟩,fun e=>(hM.2.2 e).putOther z2 (by decide) _⟩ hkk
   ·intro T2 w2 L2 u2 hM hli hcl hT hLe hN hO hE K hK
    obtain⟨v10,h10,e10,eu10⟩:=hE ⟨10,.data⟩ (by simp) rfl _ _ rfl rfl
    obtain⟨v8,h8,e8,eu8⟩:=hE ⟨8,.data⟩ (by simp) rfl _ _ rfl rfl
    clear hE hO hN
    refine step_plain0 rfl ?_
    have x10:=(show (10=5∨10=6→XAsk x1 bi dat v10 w2)∧(10=7→XSt x1 v10 w2)∧(10=8→XKn bi dat v10)∧(10=9→PtrS wq v10 w2)∧(10=10→PtrK wq v10 w2) from e10).2.2.2.2 rfl
    have x8:=(show (8=5∨8=6→XAsk x1 bi dat v8 w2)∧(8=7→XSt x1 v8 w2)∧(8=8→XKn bi dat v8)∧(8=9→PtrS wq v8 w2)∧(8=10→PtrK wq v8 w2) from e8).2.2.1 rfl
    obtain⟨gs,rfl,hgs,⟨cs1,z1,z2⟩⟩:=x10
    obtain⟨X4,Y4,rfl,hy4⟩:=x8
    refine wp_store_row 41 _ _ rfl gs #[.string X4,.bool bi,.string Y4] (by simp [Act.eval,h10]) (by simp [Act.eval,h8]) 41 cs1 z2 (info_kn3 rfl) z1 (by simp [Value.oneCell']) ?_
    have hkk:=TKeepK.putK (a:=w2) (g:=gs) ⟨cs1,z1,z2⟩ (cs:=#[.string X4,.bool bi,.string Y4]) rfl
    exact hK undef _ ⟨fun e=>absurd e (by decide),fun e=>absurd e (by decide),fun e=>absurd e (by decide),fun e=>absurd e (by decide),fun e=>absurd e (by decide)⟩ ⟨hM.1.put hgs _ hkk,fun e=>(hM.2.1 e).putOther z2 (by decide) _,fun _=>⟨gs,_,eu10,hgs,eu8,rfl,setRow_heap w2 gs _ _ _ _ z2⟩⟩ hkk
  ·intro u w13 hM hF
   have x7:=(show (7=5∨7=6→XAsk x1 bi dat (u 7) w13)∧(7=7→XSt x1 (u 7) w13)∧(7=8→XKn bi dat (u 7))∧(7=9→PtrS wq (u 7) w13)∧(7=10→PtrK wq (u 7) w13) from hF 7 (by omega)).2.1 rfl
   have x8:=(show (8=5∨8=6→XAsk x1 bi dat (u 8) w13)∧(8=7→XSt x1 (u 8) w13)∧(8=8→XKn bi dat (u 8))∧(8=9→PtrS wq (u 8) w13)∧(8=10→PtrK wq (u 8) w13) from hF 8 (by omega)).2.2.1 rfl
   obtain⟨hRB,h11,h12⟩:=hM
   obtain⟨g11,cs7,e9,hb11,e7,_,hg11⟩:=h11 rfl
   obtain⟨g12,cs8,e10,hb12,e8,_,hg12⟩:=h12 rfl
   obtain⟨B4,AA4,an4,ac4,AW4,wn4,wc4,k4,P4,D4,y4,e7b,hq4⟩:=x7
   obtain⟨X4,Y4,e8b,hy4⟩:=x8
   rw [e7b] at e7
   cases e7
   rw [e8b] at e8
   cases e8
   clear hF
   simp only [fillAll,Nat.reduceAdd,e9,e10,List.take_succ_cons,List.take_zero,List.drop_succ_cons,List.drop_zero,List.setIfInBounds_toArray,List.set_cons_succ,List.set_cons_zero]
   have HRB13:=hid2 hRB
   have HI13:=hid2 (show StepI w w13 g5 g10 B AA an ac AW wn wc k P D y r from ⟨hRB.below,HI.out.b5,HI.out.b10,HI.out.ne,hRB.st,hRB.out,HI.out.rs.tkeepK hRB.keep⟩)
   have HQ4:=hid2 hq4
   have HY4:=hid2 hy4
   have yw0:=HCK0.out w13 hRB.keep
   have hkk:=hq4.2.2.2.2.2.1
   clear c0 c1 c2 c3 c4 c5 c6
   have hk4:¬ k4=0:=by rw [hkk];have:=HX.out;omega
   have hk4b:(k4 == 0)=false:=by rw [beq_eq_false_iff_ne];exact hk4
   have c0:=cell_of_row w13 g11 0 _ _ _ hg11
   have c1:=cell_of_row w13 g11 1 _ _ _ hg11
   have c2:=cell_of_row w13 g11 2 _ _ _ hg11
   have c3:=cell_of_row w13 g11 3 _ _ _ hg11
   have c4:=cell_of_row w13 g11 4 _ _ _ hg11
   have c5:=cell_of_row w13 g11 5 _ _ _ hg11
   have c6:=cell_of_row w13 g11 6 _ _ _ hg11
   have d0:=cell_of_row w13 g12 0 _ _ _ hg12
   have d1:=cell_of_row w13 g12 1 _ _ _ hg12
   have d2:=cell_of_row w13 g12 2 _ _ _ hg12
   have zo:=hRB.out
   clear hRB h11 h12 hq4 hy4 hkk hg11 hg12 hb11 hb12
   go_wp2_with ((with_reducible refine wpList_store_lit g10 0 (.agg #[.string B4,.slice AA4 an4 ac4,.slice AW4 wn4 wc4,.int .i64 k4,.string P4,.string D4,.int .i64 y4]) [.string B4,.slice AA4 an4 ac4,.slice AW4 wn4 wc4,.int .i64 k4,.string P4,.string D4,.int .i64 y4] rfl _ 37 zo (info_st _ _ _ _ _ _ _) (hF7 rfl) one_st ?_ ?_);exact⟨rfl,rfl⟩;rw [laid_st7 rfl])
   try simp only [Act.put]
   refine bodyPost_ret (v:=.agg #[.string B4,.slice AA4 an4 ac4,.slice AW4 wn4 wc4,.int .i64 k4,.string P4,.string D4,.int .i64 y4]) (results_cell_row rfl _ _ g10 37 _ (0,0) _ rfl (setRow_heap w13 g10 _ _ _ _ HI13.out.out) Tryz.underlying37 rfl (by kernel_rfl)) rfl ?_
   rw [HRES.out]
   exact HI13.out.done HQ4.out _
set_option maxHeartbeats 16000000 in
theorem rstep_rt_is (w:World) (B:ByteArray) (AA:Option Addr) (an ac:Nat) (AW:Option Addr) (wn wc:Nat) (k:Int) (P D:ByteArray) (y:Int) (r:RS) (h:RSA w B AA an ac AW wn wc k P D y r) (hs:r.Small) (EA:Option Addr) (en ec:Nat) (KA:Option Addr) (kn kc:Nat) (line:TT) (hln:line.length≤65536) (WA:Option Addr) (qn qc:Nat) (ws:List TT) (nm:TT) (hnm:ws[0]?=some nm) (hk:nm=kRead∨nm=kTry) (hqn:0 < qn) (hrw:Rd w 1 WA qn (strV ws)) (arg:TT) (harg:ws[1]?=some arg) (hq1:1 < qn) (hal:arg.length≤65536) (K:List KE) (hkn:kn=K.length) (hK:K.length≤1000000) (hKd:∀ k∈K,k.path.length≤1000000∧k.data.length≤100000) (hrk:Rd w 3 KA K.length (kV K)) (hwt:∀ b,blockOf WA=some b→∃ cur fr,w.heap[b]?=some (.cells cur 9 fr)) (hx:(r.ask (orK K) arg).1.stop.kind=0) (hi:(r.ask (orK K) arg).2.is=true) :
  Calls Tryz.prog 34 #[.agg #[.string B,.slice AA an ac,.slice AW wn wc,.int .i64 k,.string P,.string D,.int .i64 y],.slice EA en ec,.slice KA kn kc,.string (strB line),.slice WA qn qc] w (StPost w ((r.ask (orK K) arg).1.add (r.ask (orK K) arg).2.data)):=by
 have htn:=toList_strBT nm
 obtain⟨SL,hSL⟩:∃ S,S=strB line:=⟨_,rfl⟩
 rw [← hSL]
 obtain⟨RES,hRES⟩:∃ R,R=(r.ask (orK K) arg).1.add (r.ask (orK K) arg).2.data:=⟨_,rfl⟩
 rw [← hRES]
 obtain⟨w1,hw1⟩:∃ w1,w1=w.alloc (.cells #[.string B,.slice AA an ac,.slice AW wn wc,.int .i64 k,.string P,.string D,.int .i64 y] 37):=⟨_,rfl⟩
 obtain⟨wq,hwq⟩:∃ wq,wq=w1.alloc (.cells #[.string ⟨#[]⟩,.slice none 0 0,.slice none 0 0,.int .i64 0,.string ⟨#[]⟩,.string ⟨#[]⟩,.int .i64 0] 37):=⟨_,rfl⟩
 have hs1:w1.heap.size=w.heap.size+1:=by rw [hw1,World.size_alloc]
 have hs2:wq.heap.size=w.heap.size+1+1:=by rw [hwq,World.size_alloc,hs1]
 have hb1:Below w.heap.size w w1:=by rw [hw1];exact (Below.refl _ _).alloc (Nat.le_refl _) _
 have hb2:Below w.heap.size w wq:=by rw [hwq];exact hb1.alloc (by omega) _
 have hg5:wq.heap[w.heap.size]?=some (.cells #[.string B,.slice AA an ac,.slice AW wn wc,.int .i64 k,.string P,.string D,.int .i64 y] 37 (0,0)):=by
  rw [hwq,Below.heap_alloc _ _ _ (by omega),hw1]
  exact World.alloc_heap_new _ _
 have hg10:wq.heap[w.heap.size+1]?=some (.cells zSt 37 (0,0)):=by
  rw [hwq,← hs1]
  exact World.alloc_heap_new _ _
 obtain⟨g5,hg5e⟩:∃ g,g=w.heap.size:=⟨_,rfl⟩
 obtain⟨g10,hg10e⟩:∃ g,g=w.heap.size+1:=⟨_,rfl⟩
 rw [← hg5e] at hg5
 rw [← hg10e] at hg10
 have H12:=hid2 (show (w.alloc (.cells #[.string B,.slice AA an ac,.slice AW wn wc,.int .i64 k,.string P,.string D,.int .i64 y] 37)).alloc (.cells #[.string ⟨#[]⟩,.slice none 0 0,.slice none 0 0,.int .i64 0,.string ⟨#[]⟩,.string ⟨#[]⟩,.int .i64 0] 37)=wq from by rw [hwq,hw1])
 have HE:=hid2 (And.intro hg5e hg10e)
 have HI:=hid2 (show StepI w wq g5 g10 B AA an ac AW wn wc k P D y r from ⟨hb2,by omega,by omega,by omega,hg5,hg10,h.below hb2⟩)
 obtain⟨wb,wo,hWA,hcell⟩:=(hrw.below_all hb2).2 hqn
 obtain⟨cur0,fr0,hwt0⟩:=hwt wb (by rw [hWA];rfl)
 have hwt1:∃ cur fr,wq.heap[wb]?=some (.cells cur 9 fr):=⟨cur0,fr0,(hb2.block wb (heap_lt hwt0)).trans hwt0⟩
 clear hwt hwt0
 subst hWA
 have hws0:wq.cell? ⟨wb,wo,none⟩=some (.string (strB nm)):=hcell 0 _ (strV_at hnm)
 have hqi:(0:Int) < qn:=by omega
 have c0:=cell_of_row wq g5 0 _ _ _ hg5
 have c1:=cell_of_row wq g5 1 _ _ _ hg5
 have c2:=cell_of_row wq g5 2 _ _ _ hg5
 have c3:=cell_of_row wq g5 3 _ _ _ hg5
 have c4:=cell_of_row wq g5 4 _ _ _ hg5
 have c5:=cell_of_row wq g5 5 _ _ _ hg5
 have c6:=cell_of_row wq g5 6 _ _ _ hg5
 have hbuf:r.buf.length≤100000000000:=by have:=hs.2;omega
 have hF7:∀ {a b c d e f g:Value} {cs:Array Value},cs.size=7→0+[a,b,c,d,e,f,g].length≤cs.size:=fun h=>by rw [h];exact Nat.le_refl 7
 obtain⟨SN,hSN⟩:∃ S,S=strB nm:=⟨_,rfl⟩
 rw [← hSN] at htn hws0
 have hrt:(((SN.toList == [114,101,97,100])=true)∧(SN.toList=[114,101,97,100]))∨(((SN.toList == [114,101,97,100])=false)∧(¬ SN.toList=[114,101,97,100])∧((SN.toList == [116,114,121])=true)∧(SN.toList=[116,114,121])):=by
  rcases hk with hk | hk
  ·exact .inl ⟨by rw [htn,beq_iff_eq,hk],by rw [htn,hk]⟩
  ·exact .inr ⟨by rw [htn,hk];decide,by rw [htn,hk];decide,by rw [htn,beq_iff_eq,hk],by rw [htn,hk]⟩
 have hws1:wq.cell? ⟨wb,wo+1,none⟩=some (.string (strB arg)):=hcell 1 _ (strV_at harg)
 have hq1i:(1:Int) < qn:=by omega
 have hta:=toList_strBT arg
 obtain⟨SA1,hSA1⟩:∃ S,S=strB arg:=⟨_,rfl⟩
 rw [← hSA1] at hws1 hta
 have HCW1:=hid2 (show ∀ w2,Below wq.heap.size wq w2→w2.cell? ⟨wb,wo+1,none⟩=some (.string SA1) from fun w2 hb=>(hb.cell (p:=⟨wb,wo+1,none⟩) (World.block_lt_of_cell? _ _ hws1)).trans hws1)
 have cA:∀ (WW:World),Below w.heap.size w WW→RSA WW B AA an ac AW wn wc k P D y r→Calls Tryz.prog 52 #[.agg #[.string B,.slice AA an ac,.slice AW wn wc,.int .i64 k,.string P,.string D,.int .i64 y],.slice KA kn kc,.string SA1] WW (AskP WW (r.ask (orK K) arg).1 (r.ask (orK K) arg).2.is (r.ask (orK K) arg).2.data):=fun WW hb hq=>by
  rw [hkn,hSA1]
  exact rask_any WW B AA an ac AW wn wc k P D y r hq hs.1 KA kc K hK (hrk.below_all hb) arg
 have hx1s:=hs.ask (O:=orK K) arg
 have hfound:=@ask_found (orK K) r arg
 obtain⟨x1,hx1⟩:∃ x,x=(r.ask (orK K) arg).1:=⟨_,rfl⟩
 obtain⟨x2,hx2⟩:∃ x,x=(r.ask (orK K) arg).2:=⟨_,rfl⟩
 rw [← hx1,← hx2] at cA hfound
 rw [← hx1] at hx1s
 have HRB:=hid2 (show ReadB w wq g5 g10 #[.string B,.slice AA an ac,.slice AW wn wc,.int .i64 k,.string P,.string D,.int .i64 y] wq from ⟨hb2,hb2.size,TKeepK.refl _,heap_lt hg5,heap_lt hg10,hg5,hg10⟩)
 have HCK0:=hid2 (show ∀ w2,TKeepK wq w2→w2.cell? ⟨wb,wo,none⟩=some (.string SN) from fun w2 hk=>by
  obtain⟨cur,fr,e⟩:=hwt1
  have:=hk.2.1 wb cur _ fr e (by decide) (by decide)
  rw [← hws0]
  simp only [World.cell?,this])
 have HCK1:=hid2 (show ∀ w2,TKeepK wq w2→w2.cell? ⟨wb,wo+1,none⟩=some (.string SA1) from fun w2 hk=>by
  obtain⟨cur,fr,e⟩:=hwt1
  have:=hk.2.1 wb cur _ fr e (by decide) (by decide)
  rw [← hws1]
  simp only [World.cell?,this])
 rw [← hx1] at hx
 rw [← hx1,← hx2] at hRES
 rw [← hx2] at hi
 rw [hi] at cA
 have hdl:x2.data.length≤100000:=by
  obtain⟨xk,hxk,_,hxn⟩:=orK_some (hfound hx)
  rw [hxn]
  exact nrm_short (hKd xk hxk).2
 obtain⟨dat,hdat⟩:∃ d,d=x2.data:=⟨_,rfl⟩
 rw [← hdat] at cA hRES hdl
 have HX:=hid2 hx
 have HRES:=hid2 hRES
 have CA:=hid2 cA
 have HX1S:=hid2 hx1s
 have HDL:=hid2 hdl
 clear hx hRES cA hx1s hfound hx1 hx2 hdat hwt1 hws1 hta hSA1 harg hal hbuf hln hrk hKd hK hkn hi hdl
 clear hSL hw1 hwq hs1 hs2 hb1 hb2 hg5 hg10 hg5e hg10e hcell hrw hnm hk hSN htn h hs
 go_enter Tryz.func34,Tryz.ntmps34
 go_upto_region 1 with fail
 rw [H12.out,← HE.out.2,← HE.out.1]
 rcases hrt with ⟨tkRead,ukRead⟩ | ⟨tkRead,ukRead,tkTry,ukTry⟩
 all_goals
  go_upto_region 4 with fail
  refine wp_region_lst 13 (by kernel_rfl) (by kernel_rfl) (by kernel_rfl) _ rfl (by kernel_rfl) (VV [some (.agg #[.string B,.slice AA an ac,.slice AW wn wc,.int .i64 k,.string P,.string D,.int .i64 y]),some (.slice KA kn kc),some (.slice (some ⟨wb,wo,none⟩) qn qc),some (.pointer (some ⟨wb,wo+1,none⟩)),some (.string SA1),none,none,none,none,none,none,none,none] (fun j v w2=>(j=5∨j=6→XAsk x1 true dat v w2)∧(j=7→XSt x1 v w2)∧(j=8→XKn true dat v)∧(j=9→PtrS wq v w2)∧(j=10→PtrK wq v w2))) (fun L u w2=>ReadB w wq g5 g10 #[.string B,.slice AA an ac,.slice AW wn wc,.int .i64 k,.string P,.string D,.int .i64 y] w2∧(L 11=true→Wrt wq 37 7 (u 9) (u 7) w2)∧(L 12=true→Wrt wq 41 3 (u 10) (u 8) w2)) (TKeepK) (fun _=>⟨HRB.out.more (Below.refl _ _).drew,fun e=>absurd e (by decide),fun e=>absurd e (by decide)⟩) (fun j v w1 w2 hb hv=>VV.keep (fun h=>⟨fun e=>XAsk.tkeepK (a:=w1) (b:=w2) (h.1 e) hb,fun e=>XSt.tkeepK (a:=w1) (b:=w2) (h.2.1 e) hb,h.2.2.1,fun e=>(by obtain⟨g,a1,a2,a3⟩:=h.2.2.2.1 e;exact⟨g,a1,a2,hb.2.2.1 g a3⟩),fun e=>(by obtain⟨g,a1,a2,a3⟩:=h.2.2.2.2 e;exact⟨g,a1,a2,hb.2.2.2 g a3⟩)⟩) hv) ?_ ?_
  ·refine of_allOps ⟨?_,?_,?_,?_,?_,?_,?_,?_,?_,?_,?_,?_,?_,trivial⟩
   ·intro T2 w2 L2 u2 hM hli hcl hT hLe hN hO hE K hK
    have o5:T2[5]?=some (.pointer (some ⟨g5,0,none⟩)):=hO 5 rfl
    clear hE hO hN
    refine step_plain0 rfl ?_
    refine wp_load_row 37 _ rfl g5 (by simp [Act.eval,o5]) 37 _ (0,0) _ hM.1.st Tryz.underlying37 rfl (info_st7 rfl) ?_
    exact hK _ _ rfl hM (TKeepK.refl _)
   ·intro T2 w2 L2 u2 hM hli hcl hT hLe hN hO hE K hK
    have o2:T2[2]?=some (.slice KA kn kc):=hO 2 rfl
    clear hE hO hN hli hcl hT hLe
    refine step_plain0 rfl ?_
    go_simp
    exact hK _ _ rfl hM (TKeepK.refl _)
   ·intro T2 w2 L2 u2 hM hli hcl hT hLe hN hO hE K hK
    have o4:T2[4]?=some (.slice (some ⟨wb,wo,none⟩) qn qc):=hO 4 rfl
    clear hE hO hN hli hcl hT hLe
    refine step_plain0 rfl ?_
    go_simp
    exact hK _ _ rfl hM (TKeepK.refl _)
   ·intro T2 w2 L2 u2 hM hli hcl hT hLe hN hO hE K hK
    obtain⟨v2,h2,e2,eu2⟩:=hE ⟨2,.data⟩ (by simp) rfl _ _ rfl rfl
    rw [show v2 = .slice (some ⟨wb,wo,none⟩) qn qc from e2] at h2 eu2
    clear hE hO hN hli hcl hT hLe eu2
    refine step_plain0 rfl ?_
    go_simp
    exact hK _ _ rfl hM (TKeepK.refl _)
   ·intro T2 w2 L2 u2 hM hli hcl hT hLe hN hO hE K hK
    obtain⟨v3,h3,e3,eu3⟩:=hE ⟨3,.data⟩ (by simp) rfl _ _ rfl rfl
    rw [show v3 = .pointer (some ⟨wb,wo+1,none⟩) from e3] at h3 eu3
    clear hE hO hN
    refine step_plain0 rfl ?_
    have yw:=HCK1.out w2 hM.1.keep
    go_simp
    exact hK _ _ rfl hM (TKeepK.refl _)
   ·intro T2 w2 L2 u2 hM hli hcl hT hLe hN hO hE K hK
    obtain⟨v0,h0,e0,eu0⟩:=hE ⟨0,.data⟩ (by simp) rfl _ _ rfl rfl
    rw [show v0 = .agg #[.string B,.slice AA an ac,.slice AW wn wc,.int .i64 k,.string P,.string D,.int .i64 y] from e0] at h0 eu0
    obtain⟨v1,h1,e1,eu1⟩:=hE ⟨1,.data⟩ (by simp) rfl _ _ rfl rfl
    rw [show v1 = .slice KA kn kc from e1] at h1 eu1
    obtain⟨v4,h4,e4,eu4⟩:=hE ⟨4,.data⟩ (by simp) rfl _ _ rfl rfl
    rw [show v4 = .string SA1 from e4] at h4 eu4
    clear hE hO hN
    refine step_plain0 rfl ?_
    go_simp
    refine (CA.out w2 hM.1.below (HI.out.rs.tkeepK hM.1.keep)).mono ?_
    rintro e w5 ⟨B4,AA4,an4,ac4,AW4,wn4,wc4,k4,P4,D4,y4,X4,Y4,rfl,hq4,hy4,hb4⟩
    exact hK _ _ ⟨fun _=>⟨B4,AA4,an4,ac4,AW4,wn4,wc4,k4,P4,D4,y4,X4,Y4,rfl,hq4,hy4⟩,fun e=>absurd e (by decide),fun e=>absurd e (by decide),fun e=>absurd e (by decide),fun e=>absurd e (by decide)⟩ ⟨hM.1.more hb4,fun e=>(hM.2.1 e).more hb4,fun e=>(hM.2.2 e).more hb4⟩ (TKeepK.of_below hb4)
   ·intro T2 w2 L2 u2 hM hli hcl hT hLe hN hO hE K hK
    obtain⟨v5,h5,e5,eu5⟩:=hE ⟨5,.data⟩ (by simp) rfl _ _ rfl rfl
    clear hE hO hN
    refine step_plain0 rfl ?_
    have x5:=(show (5=5∨5=6→XAsk x1 true dat v5 w2)∧(5=7→XSt x1 v5 w2)∧(5=8→XKn true dat v5)∧(5=9→PtrS wq v5 w2)∧(5=10→PtrK wq v5 w2) from e5).1 (.inl rfl)
    go_simp
    exact hK _ _ ⟨fun _=>x5,fun e=>absurd e (by decide),fun e=>absurd e (by decide),fun e=>absurd e (by decide),fun e=>absurd e (by decide)⟩ hM (TKeepK.refl _)
   ·intro T2 w2 L2 u2 hM hli hcl hT hLe hN hO hE K hK
    obtain⟨v6,h6,e6,eu6⟩:=hE ⟨6,.data⟩ (by simp) rfl _ _ rfl rfl
    clear hE hO hN
    refine step_plain0 rfl ?_
    have hno11:=not_come hcl hli 11 [7] (by kernel_rfl) (by simp)
    have x6:=(show (6=5∨6=6→XAsk x1 true dat v6 w2)∧(6=7→XSt x1 v6 w2)∧(6=8→XKn true dat v6)∧(6=9→PtrS wq v6 w2)∧(6=10→PtrK wq v6 w2) from e6).1 (.inr rfl)
    obtain⟨B4,AA4,an4,ac4,AW4,wn4,wc4,k4,P4,D4,y4,X4,Y4,rfl,hq4,hy4⟩:=x6
    clear e6 eu6
    go_simp
    exact hK _ _ ⟨fun e=>absurd e (by decide),fun _=>⟨B4,AA4,an4,ac4,AW4,wn4,wc4,k4,P4,D4,y4,rfl,hq4⟩,fun e=>absurd e (by decide),fun e=>absurd e (by decide),fun e=>absurd e (by decide)⟩ ⟨hM.1,fun e=>absurd (show L2 11=true from e) (by rw [hno11];decide),hM.2.2⟩ (TKeepK.refl _)
   ·intro T2 w2 L2 u2 hM hli hcl hT hLe hN hO hE K hK
    obtain⟨v6,h6,e6,eu6⟩:=hE ⟨6,.data⟩ (by simp) rfl _ _ rfl rfl
    clear hE hO hN
    refine step_plain0 rfl ?_
    have hno12:=not_come hcl hli 12 [8] (by kernel_rfl) (by simp)
    have x6:=(show (6=5∨6=6→XAsk x1 true dat v6 w2)∧(6=7→XSt x1 v6 w2)∧(6=8→XKn true dat v6)∧(6=9→PtrS wq v6 w2)∧(6=10→PtrK wq v6 w2) from e6).1 (.inr rfl)
    obtain⟨B4,AA4,an4,ac4,AW4,wn4,wc4,k4,P4,D4,y4,X4,Y4,rfl,hq4,hy4⟩:=x6
    clear e6 eu6
    have HY4:=hid2 hy4
    clear hy4
    go_simp
    exact hK _ _ ⟨fun e=>absurd e (by decide),fun e=>absurd e (by decide),fun _=>⟨X4,Y4,rfl,HY4.out⟩,fun e=>absurd e (by decide),fun e=>absurd e (by decide)⟩ ⟨hM.1,hM.2.1,fun e=>absurd (show L2 12=true from e) (by rw [hno12];decide)⟩ (TKeepK.refl _)
   ·intro T2 w2 L2 u2 hM hli hcl hT hLe hN hO hE K hK
    clear hE hO hN
    refine step_plain0 rfl ?_
    have hno11:=not_come hcl hli 11 [9] (by kernel_rfl) (by simp)
    go_simp
    exact hK _ _ ⟨fun e=>absurd e (by decide),fun e=>absurd e (by decide),fun e=>absurd e (by decide),fun _=>⟨w2.heap.size,rfl,hM.1.keep.1,⟨_,rfl,World.alloc_heap_new w2 _⟩⟩,fun e=>absurd e (by decide)⟩ ⟨hM.1.more ((Below.refl _ w2).alloc (Nat.le_refl _) _),fun e=>absurd (show L2 11=true from e) (by rw [hno11];decide),fun e=>(hM.2.2 e).more ((Below.refl _ w2).alloc (Nat.le_refl _) _)⟩ (TKeepK.of_below ((Below.refl _ w2).alloc (Nat.le_refl _) _))
   ·intro T2 w2 L2 u2 hM hli hcl hT hLe hN hO hE K hK
    clear hE hO hN
    refine step_plain0 rfl ?_
    have hno12:=not_come hcl hli 12 [10] (by kernel_rfl) (by simp)
    go_simp
    exact hK _ _ ⟨fun e=>absurd e (by decide),fun e=>absurd e (by decide),fun e=>absurd e (by decide),fun e=>absurd e (by decide),fun _=>⟨w2.heap.size,rfl,hM.1.keep.1,⟨_,rfl,World.alloc_heap_new w2 _⟩⟩⟩ ⟨hM.1.more ((Below.refl _ w2).alloc (Nat.le_refl _) _),fun e=>(hM.2.1 e).more ((Below.refl _ w2).alloc (Nat.le_refl _) _),fun e=>absurd (show L2 12=true from e) (by rw [hno12];decide)⟩ (TKeepK.of_below ((Below.refl _ w2).alloc (Nat.le_refl _) _))
   ·intro T2 w2 L2 u2 hM hli hcl hT hLe hN hO hE K hK
    obtain⟨v9,h9,e9,eu9⟩:=hE ⟨9,.data⟩ (by simp) rfl _ _ rfl rfl
    obtain⟨v7,h7,e7,eu7⟩:=hE ⟨7,.data⟩ (by simp) rfl _ _ rfl rfl
    clear hE hO hN
    refine step_plain0 rfl ?_
    have x9:=(show (9=5∨9=6→XAsk x1 true dat v9 w2)∧(9=7→XSt x1 v9 w2)∧(9=8→XKn true dat v9)∧(9=9→PtrS wq v9 w2)∧(9=10→PtrK wq v9 w2) from e9).2.2.2.1 rfl
    have x7:=(show (7=5∨7=6→XAsk x1 true dat v7 w2)∧(7=7→XSt x1 v7 w2)∧(7=8→XKn true dat v7)∧(7=9→PtrS wq v7 w2)∧(7=10→PtrK wq v7 w2) from e7).2.1 rfl
    obtain⟨gs,rfl,hgs,⟨cs1,z1,z2⟩⟩:=x9
    obtain⟨B4,AA4,an4,ac4,AW4,wn4,wc4,k4,P4,D4,y4,rfl,hq4⟩:=x7
    refine wp_store_row 37 _ _ rfl gs #[.string B4,.slice AA4 an4 ac4,.slice AW4 wn4 wc4,.int .i64 k4,.string P4,.string D4,.int .i64 y4] (by simp [Act.eval,h9]) (by simp [Act.eval,h7]) 37 cs1 z2 (info_st7 rfl) z1 (by simp [Value.oneCell']) ?_
    have hkk:=TKeepK.putS (a:=w2) (g:=gs) ⟨cs1,z1,z2⟩ (cs:=#[.string B4,.slice AA4 an4 ac4,.slice AW4 wn4 wc4,.int .i64 k4,.string P4,.string D4,.int .i64 y4]) rfl
    exact hK undef _ ⟨fun e=>absurd e (by decide),fun e=>absurd e (by decide),fun e=>absurd e (by decide),fun e=>absurd e (by decide),fun e=>absurd e (by decide)⟩ ⟨hM.1.put hgs _ hkk,fun _=>⟨gs,_,eu9,hgs,eu7,rfl,setRow_heap w2 gs _ _ _ _ z2⟩,fun e=>(hM.2.2 e).putOther z2 (by decide) _⟩ hkk
   ·intro T2 w2 L2 u2 hM hli hcl hT hLe hN hO hE K hK
    obtain⟨v10,h10,e10,eu10⟩:=hE ⟨10,.data⟩ (by simp) rfl _ _ rfl rfl
    obtain⟨v8,h8,e8,eu8⟩:=hE ⟨8,.data⟩ (by simp) rfl _ _ rfl rfl
    clear hE hO hN
    refine step_plain0 rfl ?_
    have x10:=(show (10=5∨10=6→XAsk x1 true dat v10 w2)∧(10=7→XSt x1 v10 w2)∧(10=8→XKn true dat v10)∧(10=9→PtrS wq v10 w2)∧(10=10→PtrK wq v10 w2) from e10).2.2.2.2 rfl
    have x8:=(show (8=5∨8=6→XAsk x1 true dat v8 w2)∧(8=7→XSt x1 v8 w2)∧(8=8→XKn true dat v8)∧(8=9→PtrS wq v8 w2)∧(8=10→PtrK wq v8 w2) from e8).2.2.1 rfl
    obtain⟨gs,rfl,hgs,⟨cs1,z1,z2⟩⟩:=x10
    obtain⟨X4,Y4,rfl,hy4⟩:=x8
    refine wp_store_row 41 _ _ rfl gs #[.string X4,.bool true,.string Y4] (by simp [Act.eval,h10]) (by simp [Act.eval,h8]) 41 cs1 z2 (info_kn3 rfl) z1 (by simp [Value.oneCell']) ?_
    have hkk:=TKeepK.putK (a:=w2) (g:=gs) ⟨cs1,z1,z2⟩ (cs:=#[.string X4,.bool true,.string Y4]) rfl
    exact hK undef _ ⟨fun e=>absurd e (by decide),fun e=>absurd e (by decide),fun e=>absurd e (by decide),fun e=>absurd e (by decide),fun e=>absurd e (by decide)⟩ ⟨hM.1.put hgs _ hkk,fun e=>(hM.2.1 e).putOther z2 (by decide) _,fun _=>⟨gs,_,eu10,hgs,eu8,rfl,setRow_heap w2 gs _ _ _ _ z2⟩⟩ hkk
  ·intro u w13 hM hF
   have x7:=(show (7=5∨7=6→XAsk x1 true dat (u 7) w13)∧(7=7→XSt x1 (u 7) w13)∧(7=8→XKn true dat (u 7))∧(7=9→PtrS wq (u 7) w13)∧(7=10→PtrK wq (u 7) w13) from hF 7 (by omega)).2.1 rfl
   have x8:=(show (8=5∨8=6→XAsk x1 true dat (u 8) w13)∧(8=7→XSt x1 (u 8) w13)∧(8=8→XKn true dat (u 8))∧(8=9→PtrS wq (u 8) w13)∧(8=10→PtrK wq (u 8) w13) from hF 8 (by omega)).2.2.1 rfl
   obtain⟨hRB,h11,h12⟩:=hM
   obtain⟨g11,cs7,e9,hb11,e7,_,hg11⟩:=h11 rfl
   obtain⟨g12,cs8,e10,hb12,e8,_,hg12⟩:=h12 rfl
   obtain⟨B4,AA4,an4,ac4,AW4,wn4,wc4,k4,P4,D4,y4,e7b,hq4⟩:=x7
   obtain⟨X4,Y4,e8b,hy4⟩:=x8
   rw [e7b] at e7
   cases e7
   rw [e8b] at e8
   cases e8
   clear hF
   simp only [fillAll,Nat.reduceAdd,e9,e10,List.take_succ_cons,List.take_zero,List.drop_succ_cons,List.drop_zero,List.setIfInBounds_toArray,List.set_cons_succ,List.set_cons_zero]
   have HRB13:=hid2 hRB
   have HI13:=hid2 (show StepI w w13 g5 g10 B AA an ac AW wn wc k P D y r from ⟨hRB.below,HI.out.b5,HI.out.b10,HI.out.ne,hRB.st,hRB.out,HI.out.rs.tkeepK hRB.keep⟩)
   have HQ4:=hid2 hq4
   have HY4:=hid2 hy4
   have yw0:=HCK0.out w13 hRB.keep
   have hkk:=hq4.2.2.2.2.2.1
   clear c0 c1 c2 c3 c4 c5 c6
   obtain rfl:k4=0:=by rw [hkk,HX.out];rfl
   have c0:=cell_of_row w13 g11 0 _ _ _ hg11
   have c1:=cell_of_row w13 g11 1 _ _ _ hg11
   have c2:=cell_of_row w13 g11 2 _ _ _ hg11
   have c3:=cell_of_row w13 g11 3 _ _ _ hg11
   have c4:=cell_of_row w13 g11 4 _ _ _ hg11
   have c5:=cell_of_row w13 g11 5 _ _ _ hg11
   have c6:=cell_of_row w13 g11 6 _ _ _ hg11
   have d0:=cell_of_row w13 g12 0 _ _ _ hg12
   have d1:=cell_of_row w13 g12 1 _ _ _ hg12
   have d2:=cell_of_row w13 g12 2 _ _ _ hg12
   have zo:=hRB.out
   clear hRB h11 h12 hq4 hy4 hkk hg11 hg12 hb11 hb12
   clear zo
   go_wp2_with (first
    | (go_at_call 53; refine (radd_st w13 B4 Y4 AA4 AW4 an4 ac4 wn4 wc4 0 y4 P4 D4 x1 HQ4.out (by have:=HX1S.out.2;omega) dat (HY4.out (by first | exact trivial | rfl)) (by have:=HDL.out;omega)).mono ?_;rintro e wa ⟨B5,AA5,an5,ac5,AW5,wn5,wc5,k5,P5,D5,y5,rfl,hq,hb⟩;have HIA:=hid2 (HI13.out.keep hb);have HQ:=hid2 hq;have zo:=HIA.out.out;clear hb hq)
    | ((with_reducible refine wpList_store_lit g10 0 (.agg #[.string B5,.slice AA5 an5 ac5,.slice AW5 wn5 wc5,.int .i64 k5,.string P5,.string D5,.int .i64 y5]) [.string B5,.slice AA5 an5 ac5,.slice AW5 wn5 wc5,.int .i64 k5,.string P5,.string D5,.int .i64 y5] rfl _ 37 zo (info_st _ _ _ _ _ _ _) (hF7 rfl) one_st ?_ ?_);exact⟨rfl,rfl⟩;rw [laid_st7 rfl]))
   try simp only [Act.put]
   refine bodyPost_ret (v:=.agg #[.string B5,.slice AA5 an5 ac5,.slice AW5 wn5 wc5,.int .i64 k5,.string P5,.string D5,.int .i64 y5]) (results_cell_row rfl _ _ g10 37 _ (0,0) _ rfl (setRow_heap wa g10 _ _ _ _ HIA.out.out) Tryz.underlying37 rfl (by kernel_rfl)) rfl ?_
   rw [HRES.out]
   exact HIA.out.done HQ.out _
set_option maxHeartbeats 16000000 in
theorem rstep_rt_none (w:World) (B:ByteArray) (AA:Option Addr) (an ac:Nat) (AW:Option Addr) (wn wc:Nat) (k:Int) (P D:ByteArray) (y:Int) (r:RS) (h:RSA w B AA an ac AW wn wc k P D y r) (hs:r.Small) (EA:Option Addr) (en ec:Nat) (KA:Option Addr) (kn kc:Nat) (line:TT) (hln:line.length≤65536) (WA:Option Addr) (qn qc:Nat) (ws:List TT) (nm:TT) (hnm:ws[0]?=some nm) (hk:nm=kRead∨nm=kTry) (hqn:0 < qn) (hrw:Rd w 1 WA qn (strV ws)) (arg:TT) (harg:ws[1]?=some arg) (hq1:1 < qn) (hal:arg.length≤65536) (K:List KE) (hkn:kn=K.length) (hK:K.length≤1000000) (hKd:∀ k∈K,k.path.length≤1000000∧k.data.length≤100000) (hrk:Rd w 3 KA K.length (kV K)) (hwt:∀ b,blockOf WA=some b→∃ cur fr,w.heap[b]?=some (.cells cur 9 fr)) (hx:(r.ask (orK K) arg).1.stop.kind=0) (hi:(r.ask (orK K) arg).2.is=false) :
  Calls Tryz.prog 34 #[.agg #[.string B,.slice AA an ac,.slice AW wn wc,.int .i64 k,.string P,.string D,.int .i64 y],.slice EA en ec,.slice KA kn kc,.string (strB line),.slice WA qn qc] w (StPost w (if nm=kRead then (r.ask (orK K) arg).1.fail 10 else (r.ask (orK K) arg).1)):=by
 have htn:=toList_strBT nm
 obtain⟨SL,hSL⟩:∃ S,S=strB line:=⟨_,rfl⟩
 rw [← hSL]
 obtain⟨RES,hRES⟩:∃ R,R=(if nm=kRead then (r.ask (orK K) arg).1.fail 10 else (r.ask (orK K) arg).1):=⟨_,rfl⟩
 rw [← hRES]
 obtain⟨w1,hw1⟩:∃ w1,w1=w.alloc (.cells #[.string B,.slice AA an ac,.slice AW wn wc,.int .i64 k,.string P,.string D,.int .i64 y] 37):=⟨_,rfl⟩
 obtain⟨wq,hwq⟩:∃ wq,wq=w1.alloc (.cells #[.string ⟨#[]⟩,.slice none 0 0,.slice none 0 0,.int .i64 0,.string ⟨#[]⟩,.string ⟨#[]⟩,.int .i64 0] 37):=⟨_,rfl⟩
 have hs1:w1.heap.size=w.heap.size+1:=by rw [hw1,World.size_alloc]
 have hs2:wq.heap.size=w.heap.size+1+1:=by rw [hwq,World.size_alloc,hs1]
 have hb1:Below w.heap.size w w1:=by rw [hw1];exact (Below.refl _ _).alloc (Nat.le_refl _) _
 have hb2:Below w.heap.size w wq:=by rw [hwq];exact hb1.alloc (by omega) _
 have hg5:wq.heap[w.heap.size]?=some (.cells #[.string B,.slice AA an ac,.slice AW wn wc,.int .i64 k,.string P,.string D,.int .i64 y] 37 (0,0)):=by
  rw [hwq,Below.heap_alloc _ _ _ (by omega),hw1]
  exact World.alloc_heap_new _ _
 have hg10:wq.heap[w.heap.size+1]?=some (.cells zSt 37 (0,0)):=by
  rw [hwq,← hs1]
  exact World.alloc_heap_new _ _
 obtain⟨g5,hg5e⟩:∃ g,g=w.heap.size:=⟨_,rfl⟩
 obtain⟨g10,hg10e⟩:∃ g,g=w.heap.size+1:=⟨_,rfl⟩
 rw [← hg5e] at hg5
 rw [← hg10e] at hg10
 have H12:=hid2 (show (w.alloc (.cells #[.string B,.slice AA an ac,.slice AW wn wc,.int .i64 k,.string P,.string D,.int .i64 y] 37)).alloc (.cells #[.string ⟨#[]⟩,.slice none 0 0,.slice none 0 0,.int .i64 0,.string ⟨#[]⟩,.string ⟨#[]⟩,.int .i64 0] 37)=wq from by rw [hwq,hw1])
 have HE:=hid2 (And.intro hg5e hg10e)
 have HI:=hid2 (show StepI w wq g5 g10 B AA an ac AW wn wc k P D y r from ⟨hb2,by omega,by omega,by omega,hg5,hg10,h.below hb2⟩)
 obtain⟨wb,wo,hWA,hcell⟩:=(hrw.below_all hb2).2 hqn
 obtain⟨cur0,fr0,hwt0⟩:=hwt wb (by rw [hWA];rfl)
 have hwt1:∃ cur fr,wq.heap[wb]?=some (.cells cur 9 fr):=⟨cur0,fr0,(hb2.block wb (heap_lt hwt0)).trans hwt0⟩
 clear hwt hwt0
 subst hWA
 have hws0:wq.cell? ⟨wb,wo,none⟩=some (.string (strB nm)):=hcell 0 _ (strV_at hnm)
 have hqi:(0:Int) < qn:=by omega
 have c0:=cell_of_row wq g5 0 _ _ _ hg5
 have c1:=cell_of_row wq g5 1 _ _ _ hg5
 have c2:=cell_of_row wq g5 2 _ _ _ hg5
 have c3:=cell_of_row wq g5 3 _ _ _ hg5
 have c4:=cell_of_row wq g5 4 _ _ _ hg5
 have c5:=cell_of_row wq g5 5 _ _ _ hg5
 have c6:=cell_of_row wq g5 6 _ _ _ hg5
 have hbuf:r.buf.length≤100000000000:=by have:=hs.2;omega
 have hF7:∀ {a b c d e f g:Value} {cs:Array Value},cs.size=7→0+[a,b,c,d,e,f,g].length≤cs.size:=fun h=>by rw [h];exact Nat.le_refl 7
 obtain⟨SN,hSN⟩:∃ S,S=strB nm:=⟨_,rfl⟩
 rw [← hSN] at htn hws0
 have hrt:(((SN.toList == [114,101,97,100])=true)∧(SN.toList=[114,101,97,100]))∨(((SN.toList == [114,101,97,100])=false)∧(¬ SN.toList=[114,101,97,100])∧((SN.toList == [116,114,121])=true)∧(SN.toList=[116,114,121])):=by
  rcases hk with hk | hk
  ·exact .inl ⟨by rw [htn,beq_iff_eq,hk],by rw [htn,hk]⟩
  ·exact .inr ⟨by rw [htn,hk];decide,by rw [htn,hk];decide,by rw [htn,beq_iff_eq,hk],by rw [htn,hk]⟩
 have hws1:wq.cell? ⟨wb,wo+1,none⟩=some (.string (strB arg)):=hcell 1 _ (strV_at harg)
 have hq1i:(1:Int) < qn:=by omega
 have hta:=toList_strBT arg
 obtain⟨SA1,hSA1⟩:∃ S,S=strB arg:=⟨_,rfl⟩
 rw [← hSA1] at hws1 hta
 have HCW1:=hid2 (show ∀ w2,Below wq.heap.size wq w2→w2.cell? ⟨wb,wo+1,none⟩=some (.string SA1) from fun w2 hb=>(hb.cell (p:=⟨wb,wo+1,none⟩) (World.block_lt_of_cell? _ _ hws1)).trans hws1)
 have cA:∀ (WW:World),Below w.heap.size w WW→RSA WW B AA an ac AW wn wc k P D y r→Calls Tryz.prog 52 #[.agg #[.string B,.slice AA an ac,.slice AW wn wc,.int .i64 k,.string P,.string D,.int .i64 y],.slice KA kn kc,.string SA1] WW (AskP WW (r.ask (orK K) arg).1 (r.ask (orK K) arg).2.is (r.ask (orK K) arg).2.data):=fun WW hb hq=>by
  rw [hkn,hSA1]
  exact rask_any WW B AA an ac AW wn wc k P D y r hq hs.1 KA kc K hK (hrk.below_all hb) arg
 have hx1s:=hs.ask (O:=orK K) arg
 have hfound:=@ask_found (orK K) r arg
 obtain⟨x1,hx1⟩:∃ x,x=(r.ask (orK K) arg).1:=⟨_,rfl⟩
 obtain⟨x2,hx2⟩:∃ x,x=(r.ask (orK K) arg).2:=⟨_,rfl⟩
 rw [← hx1,← hx2] at cA hfound
 rw [← hx1] at hx1s
 have HRB:=hid2 (show ReadB w wq g5 g10 #[.string B,.slice AA an ac,.slice AW wn wc,.int .i64 k,.string P,.string D,.int .i64 y] wq from ⟨hb2,hb2.size,TKeepK.refl _,heap_lt hg5,heap_lt hg10,hg5,hg10⟩)
 have HCK0:=hid2 (show ∀ w2,TKeepK wq w2→w2.cell? ⟨wb,wo,none⟩=some (.string SN) from fun w2 hk=>by
  obtain⟨cur,fr,e⟩:=hwt1
  have:=hk.2.1 wb cur _ fr e (by decide) (by decide)
  rw [← hws0]
  simp only [World.cell?,this])
 have HCK1:=hid2 (show ∀ w2,TKeepK wq w2→w2.cell? ⟨wb,wo+1,none⟩=some (.string SA1) from fun w2 hk=>by
  obtain⟨cur,fr,e⟩:=hwt1
  have:=hk.2.1 wb cur _ fr e (by decide) (by decide)
  rw [← hws1]
  simp only [World.cell?,this])
 rw [← hx1] at hx
 rw [← hx1] at hRES
 rw [← hx2] at hi
 rw [hi] at cA
 obtain⟨dat,hdat⟩:∃ d,d=x2.data:=⟨_,rfl⟩
 rw [← hdat] at cA
 have HX:=hid2 hx
 have hres:(nm=kRead→RES=x1.fail 10)∧(¬ nm=kRead→RES=x1):=⟨fun h=>by rw [hRES,if_pos h],fun h=>by rw [hRES,if_neg h]⟩
 have HRES2:=hid2 hres
 have HNM:=hid2 hk
 clear hres
 have CA:=hid2 cA
 have HX1S:=hid2 hx1s
 have HSEL:=hid2 (show (SN.toList=[114,101,97,100]→RES=x1.fail 10)∧(¬ SN.toList=[114,101,97,100]→RES=x1) from by
  rw [htn]
  exact HRES2.out)
 clear HRES2 HNM
 clear hx hRES cA hx1s hfound hx1 hx2 hdat hwt1 hws1 hta hSA1 harg hal hbuf hln hrk hKd hK hkn hi
 clear hSL hw1 hwq hs1 hs2 hb1 hb2 hg5 hg10 hg5e hg10e hcell hrw hnm hk hSN htn h hs
 go_enter Tryz.func34,Tryz.ntmps34
 go_upto_region 1 with fail
 rw [H12.out,← HE.out.2,← HE.out.1]
 rcases hrt with ⟨tkRead,ukRead⟩ | ⟨tkRead,ukRead,tkTry,ukTry⟩
 all_goals
  go_upto_region 4 with fail
  refine wp_region_lst 13 (by kernel_rfl) (by kernel_rfl) (by kernel_rfl) _ rfl (by kernel_rfl) (VV [some (.agg #[.string B,.slice AA an ac,.slice AW wn wc,.int .i64 k,.string P,.string D,.int .i64 y]),some (.slice KA kn kc),some (.slice (some ⟨wb,wo,none⟩) qn qc),some (.pointer (some ⟨wb,wo+1,none⟩)),some (.string SA1),none,none,none,none,none,none,none,none] (fun j v w2=>(j=5∨j=6→XAsk x1 false dat v w2)∧(j=7→XSt x1 v w2)∧(j=8→XKn false dat v)∧(j=9→PtrS wq v w2)∧(j=10→PtrK wq v w2))) (fun L u w2=>ReadB w wq g5 g10 #[.string B,.slice AA an ac,.slice AW wn wc,.int .i64 k,.string P,.string D,.int .i64 y] w2∧(L 11=true→Wrt wq 37 7 (u 9) (u 7) w2)∧(L 12=true→Wrt wq 41 3 (u 10) (u 8) w2)) (TKeepK) (fun _=>⟨HRB.out.more (Below.refl _ _).drew,fun e=>absurd e (by decide),fun e=>absurd e (by decide)⟩) (fun j v w1 w2 hb hv=>VV.keep (fun h=>⟨fun e=>XAsk.tkeepK (a:=w1) (b:=w2) (h.1 e) hb,fun e=>XSt.tkeepK (a:=w1) (b:=w2) (h.2.1 e) hb,h.2.2.1,fun e=>(by obtain⟨g,a1,a2,a3⟩:=h.2.2.2.1 e;exact⟨g,a1,a2,hb.2.2.1 g a3⟩),fun e=>(by obtain⟨g,a1,a2,a3⟩:=h.2.2.2.2 e;exact⟨g,a1,a2,hb.2.2.2 g a3⟩)⟩) hv) ?_ ?_
  ·refine of_allOps ⟨?_,?_,?_,?_,?_,?_,?_,?_,?_,?_,?_,?_,?_,trivial⟩
   ·intro T2 w2 L2 u2 hM hli hcl hT hLe hN hO hE K hK
    have o5:T2[5]?=some (.pointer (some ⟨g5,0,none⟩)):=hO 5 rfl
    clear hE hO hN
    refine step_plain0 rfl ?_
    refine wp_load_row 37 _ rfl g5 (by simp [Act.eval,o5]) 37 _ (0,0) _ hM.1.st Tryz.underlying37 rfl (info_st7 rfl) ?_
    exact hK _ _ rfl hM (TKeepK.refl _)
   ·intro T2 w2 L2 u2 hM hli hcl hT hLe hN hO hE K hK
    have o2:T2[2]?=some (.slice KA kn kc):=hO 2 rfl
    clear hE hO hN hli hcl hT hLe
    refine step_plain0 rfl ?_
    go_simp
    exact hK _ _ rfl hM (TKeepK.refl _)
   ·intro T2 w2 L2 u2 hM hli hcl hT hLe hN hO hE K hK
    have o4:T2[4]?=some (.slice (some ⟨wb,wo,none⟩) qn qc):=hO 4 rfl
    clear hE hO hN hli hcl hT hLe
    refine step_plain0 rfl ?_
    go_simp
    exact hK _ _ rfl hM (TKeepK.refl _)
   ·intro T2 w2 L2 u2 hM hli hcl hT hLe hN hO hE K hK
    obtain⟨v2,h2,e2,eu2⟩:=hE ⟨2,.data⟩ (by simp) rfl _ _ rfl rfl
    rw [show v2 = .slice (some ⟨wb,wo,none⟩) qn qc from e2] at h2 eu2
    clear hE hO hN hli hcl hT hLe eu2
    refine step_plain0 rfl ?_
    go_simp
    exact hK _ _ rfl hM (TKeepK.refl _)
   ·intro T2 w2 L2 u2 hM hli hcl hT hLe hN hO hE K hK
    obtain⟨v3,h3,e3,eu3⟩:=hE ⟨3,.data⟩ (by simp) rfl _ _ rfl rfl
    rw [show v3 = .pointer (some ⟨wb,wo+1,none⟩) from e3] at h3 eu3
    clear hE hO hN
    refine step_plain0 rfl ?_
    have yw:=HCK1.out w2 hM.1.keep
    go_simp
    exact hK _ _ rfl hM (TKeepK.refl _)
   ·intro T2 w2 L2 u2 hM hli hcl hT hLe hN hO hE K hK
    obtain⟨v0,h0,e0,eu0⟩:=hE ⟨0,.data⟩ (by simp) rfl _ _ rfl rfl
    rw [show v0 = .agg #[.string B,.slice AA an ac,.slice AW wn wc,.int .i64 k,.string P,.string D,.int .i64 y] from e0] at h0 eu0
    obtain⟨v1,h1,e1,eu1⟩:=hE ⟨1,.data⟩ (by simp) rfl _ _ rfl rfl
    rw [show v1 = .slice KA kn kc from e1] at h1 eu1
    obtain⟨v4,h4,e4,eu4⟩:=hE ⟨4,.data⟩ (by simp) rfl _ _ rfl rfl
    rw [show v4 = .string SA1 from e4] at h4 eu4
    clear hE hO hN
    refine step_plain0 rfl ?_
    go_simp
    refine (CA.out w2 hM.1.below (HI.out.rs.tkeepK hM.1.keep)).mono ?_
    rintro e w5 ⟨B4,AA4,an4,ac4,AW4,wn4,wc4,k4,P4,D4,y4,X4,Y4,rfl,hq4,hy4,hb4⟩
    exact hK _ _ ⟨fun _=>⟨B4,AA4,an4,ac4,AW4,wn4,wc4,k4,P4,D4,y4,X4,Y4,rfl,hq4,hy4⟩,fun e=>absurd e (by decide),fun e=>absurd e (by decide),fun e=>absurd e (by decide),fun e=>absurd e (by decide)⟩ ⟨hM.1.more hb4,fun e=>(hM.2.1 e).more hb4,fun e=>(hM.2.2 e).more hb4⟩ (TKeepK.of_below hb4)
   ·intro T2 w2 L2 u2 hM hli hcl hT hLe hN hO hE K hK
    obtain⟨v5,h5,e5,eu5⟩:=hE ⟨5,.data⟩ (by simp) rfl _ _ rfl rfl
    clear hE hO hN
    refine step_plain0 rfl ?_
    have x5:=(show (5=5∨5=6→XAsk x1 false dat v5 w2)∧(5=7→XSt x1 v5 w2)∧(5=8→XKn false dat v5)∧(5=9→PtrS wq v5 w2)∧(5=10→PtrK wq v5 w2) from e5).1 (.inl rfl)
    go_simp
    exact hK _ _ ⟨fun _=>x5,fun e=>absurd e (by decide),fun e=>absurd e (by decide),fun e=>absurd e (by decide),fun e=>absurd e (by decide)⟩ hM (TKeepK.refl _)
   ·intro T2 w2 L2 u2 hM hli hcl hT hLe hN hO hE K hK
    obtain⟨v6,h6,e6,eu6⟩:=hE ⟨6,.data⟩ (by simp) rfl _ _ rfl rfl
    clear hE hO hN
    refine step_plain0 rfl ?_
    have hno11:=not_come hcl hli 11 [7] (by kernel_rfl) (by simp)
    have x6:=(show (6=5∨6=6→XAsk x1 false dat v6 w2)∧(6=7→XSt x1 v6 w2)∧(6=8→XKn false dat v6)∧(6=9→PtrS wq v6 w2)∧(6=10→PtrK wq v6 w2) from e6).1 (.inr rfl)
    obtain⟨B4,AA4,an4,ac4,AW4,wn4,wc4,k4,P4,D4,y4,X4,Y4,rfl,hq4,hy4⟩:=x6
    clear e6 eu6
    go_simp
    exact hK _ _ ⟨fun e=>absurd e (by decide),fun _=>⟨B4,AA4,an4,ac4,AW4,wn4,wc4,k4,P4,D4,y4,rfl,hq4⟩,fun e=>absurd e (by decide),fun e=>absurd e (by decide),fun e=>absurd e (by decide)⟩ ⟨hM.1,fun e=>absurd (show L2 11=true from e) (by rw [hno11];decide),hM.2.2⟩ (TKeepK.refl _)
   ·intro T2 w2 L2 u2 hM hli hcl hT hLe hN hO hE K hK
    obtain⟨v6,h6,e6,eu6⟩:=hE ⟨6,.data⟩ (by simp) rfl _ _ rfl rfl
    clear hE hO hN
    refine step_plain0 rfl ?_
    have hno12:=not_come hcl hli 12 [8] (by kernel_rfl) (by simp)
    have x6:=(show (6=5∨6=6→XAsk x1 false dat v6 w2)∧(6=7→XSt x1 v6 w2)∧(6=8→XKn false dat v6)∧(6=9→PtrS wq v6 w2)∧(6=10→PtrK wq v6 w2) from e6).1 (.inr rfl)
    obtain⟨B4,AA4,an4,ac4,AW4,wn4,wc4,k4,P4,D4,y4,X4,Y4,rfl,hq4,hy4⟩:=x6
    clear e6 eu6
    have HY4:=hid2 hy4
    clear hy4
    go_simp
    exact hK _ _ ⟨fun e=>absurd e (by decide),fun e=>absurd e (by decide),fun _=>⟨X4,Y4,rfl,HY4.out⟩,fun e=>absurd e (by decide),fun e=>absurd e (by decide)⟩ ⟨hM.1,hM.2.1,fun e=>absurd (show L2 12=true from e) (by rw [hno12];decide)⟩ (TKeepK.refl _)
   ·intro T2 w2 L2 u2 hM hli hcl hT hLe hN hO hE K hK
    clear hE hO hN
    refine step_plain0 rfl ?_
    have hno11:=not_come hcl hli 11 [9] (by kernel_rfl) (by simp)
    go_simp
    exact hK _ _ ⟨fun e=>absurd e (by decide),fun e=>absurd e (by decide),fun e=>absurd e (by decide),fun _=>⟨w2.heap.size,rfl,hM.1.keep.1,⟨_,rfl,World.alloc_heap_new w2 _⟩⟩,fun e=>absurd e (by decide)⟩ ⟨hM.1.more ((Below.refl _ w2).alloc (Nat.le_refl _) _),fun e=>absurd (show L2 11=true from e) (by rw [hno11];decide),fun e=>(hM.2.2 e).more ((Below.refl _ w2).alloc (Nat.le_refl _) _)⟩ (TKeepK.of_below ((Below.refl _ w2).alloc (Nat.le_refl _) _))
   ·intro T2 w2 L2 u2 hM hli hcl hT hLe hN hO hE K hK
    clear hE hO hN
    refine step_plain0 rfl ?_
    have hno12:=not_come hcl hli 12 [10] (by kernel_rfl) (by simp)
    go_simp
    exact hK _ _ ⟨fun e=>absurd e (by decide),fun e=>absurd e (by decide),fun e=>absurd e (by decide),fun e=>absurd e (by decide),fun _=>⟨w2.heap.size,rfl,hM.1.keep.1,⟨_,rfl,World.alloc_heap_new w2 _⟩⟩⟩ ⟨hM.1.more ((Below.refl _ w2).alloc (Nat.le_refl _) _),fun e=>(hM.2.1 e).more ((Below.refl _ w2).alloc (Nat.le_refl _) _),fun e=>absurd (show L2 12=true from e) (by rw [hno12];decide)⟩ (TKeepK.of_below ((Below.refl _ w2).alloc (Nat.le_refl _) _))
   ·intro T2 w2 L2 u2 hM hli hcl hT hLe hN hO hE K hK
    obtain⟨v9,h9,e9,eu9⟩:=hE ⟨9,.data⟩ (by simp) rfl _ _ rfl rfl
    obtain⟨v7,h7,e7,eu7⟩:=hE ⟨7,.data⟩ (by simp) rfl _ _ rfl rfl
    clear hE hO hN
    refine step_plain0 rfl ?_
    have x9:=(show (9=5∨9=6→XAsk x1 false dat v9 w2)∧(9=7→XSt x1 v9 w2)∧(9=8→XKn false dat v9)∧(9=9→PtrS wq v9 w2)∧(9=10→PtrK wq v9 w2) from e9).2.2.2.1 rfl
    have x7:=(show (7=5∨7=6→XAsk x1 false dat v7 w2)∧(7=7→XSt x1 v7 w2)∧(7=8→XKn false dat v7)∧(7=9→PtrS wq v7 w2)∧(7=10→PtrK wq v7 w2) from e7).2.1 rfl
    obtain⟨gs,rfl,hgs,⟨cs1,z1,z2⟩⟩:=x9
    obtain⟨B4,AA4,an4,ac4,AW4,wn4,wc4,k4,P4,D4,y4,rfl,hq4⟩:=x7
    refine wp_store_row 37 _ _ rfl gs #[.string B4,.slice AA4 an4 ac4,.slice AW4 wn4 wc4,.int .i64 k4,.string P4,.string D4,.int .i64 y4] (by simp [Act.eval,h9]) (by simp [Act.eval,h7]) 37 cs1 z2 (info_st7 rfl) z1 (by simp [Value.oneCell']) ?_
    have hkk:=TKeepK.putS (a:=w2) (g:=gs) ⟨cs1,z1,z2⟩ (cs:=#[.string B4,.slice AA4 an4 ac4,.slice AW4 wn4 wc4,.int .i64 k4,.string P4,.string D4,.int .i64 y4]) rfl
    exact hK undef _ ⟨fun e=>absurd e (by decide),fun e=>absurd e (by decide),fun e=>absurd e (by decide),fun e=>absurd e (by decide),fun e=>absurd e (by decide)⟩ ⟨hM.1.put hgs _ hkk,fun _=>⟨gs,_,eu9,hgs,eu7,rfl,setRow_heap w2 gs _ _ _ _ z2⟩,fun e=>(hM.2.2 e).putOther z2 (by decide) _⟩ hkk
   ·intro T2 w2 L2 u2 hM hli hcl hT hLe hN hO hE K hK
    obtain⟨v10,h10,e10,eu10⟩:=hE ⟨10,.data⟩ (by simp) rfl _ _ rfl rfl
    obtain⟨v8,h8,e8,eu8⟩:=hE ⟨8,.data⟩ (by simp) rfl _ _ rfl rfl
    clear hE hO hN
    refine step_plain0 rfl ?_
    have x10:=(show (10=5∨10=6→XAsk x1 false dat v10 w2)∧(10=7→XSt x1 v10 w2)∧(10=8→XKn false dat v10)∧(10=9→PtrS wq v10 w2)∧(10=10→PtrK wq v10 w2) from e10).2.2.2.2 rfl
    have x8:=(show (8=5∨8=6→XAsk x1 false dat v8 w2)∧(8=7→XSt x1 v8 w2)∧(8=8→XKn false dat v8)∧(8=9→PtrS wq v8 w2)∧(8=10→PtrK wq v8 w2) from e8).2.2.1 rfl
    obtain⟨gs,rfl,hgs,⟨cs1,z1,z2⟩⟩:=x10
    obtain⟨X4,Y4,rfl,hy4⟩:=x8
    refine wp_store_row 41 _ _ rfl gs #[.string X4,.bool false,.string Y4] (by simp [Act.eval,h10]) (by simp [Act.eval,h8]) 41 cs1 z2 (info_kn3 rfl) z1 (by simp [Value.oneCell']) ?_
    have hkk:=TKeepK.putK (a:=w2) (g:=gs) ⟨cs1,z1,z2⟩ (cs:=#[.string X4,.bool false,.string Y4]) rfl
    exact hK undef _ ⟨fun e=>absurd e (by decide),fun e=>absurd e (by decide),fun e=>absurd e (by decide),fun e=>absurd e (by decide),fun e=>absurd e (by decide)⟩ ⟨hM.1.put hgs _ hkk,fun e=>(hM.2.1 e).putOther z2 (by decide) _,fun _=>⟨gs,_,eu10,hgs,eu8,rfl,setRow_heap w2 gs _ _ _ _ z2⟩⟩ hkk
  ·intro u w13 hM hF
   have x7:=(show (7=5∨7=6→XAsk x1 false dat (u 7) w13)∧(7=7→XSt x1 (u 7) w13)∧(7=8→XKn false dat (u 7))∧(7=9→PtrS wq (u 7) w13)∧(7=10→PtrK wq (u 7) w13) from hF 7 (by omega)).2.1 rfl
   have x8:=(show (8=5∨8=6→XAsk x1 false dat (u 8) w13)∧(8=7→XSt x1 (u 8) w13)∧(8=8→XKn false dat (u 8))∧(8=9→PtrS wq (u 8) w13)∧(8=10→PtrK wq (u 8) w13) from hF 8 (by omega)).2.2.1 rfl
   obtain⟨hRB,h11,h12⟩:=hM
   obtain⟨g11,cs7,e9,hb11,e7,_,hg11⟩:=h11 rfl
   obtain⟨g12,cs8,e10,hb12,e8,_,hg12⟩:=h12 rfl
   obtain⟨B4,AA4,an4,ac4,AW4,wn4,wc4,k4,P4,D4,y4,e7b,hq4⟩:=x7
   obtain⟨X4,Y4,e8b,hy4⟩:=x8
   rw [e7b] at e7
   cases e7
   rw [e8b] at e8
   cases e8
   clear hF
   simp only [fillAll,Nat.reduceAdd,e9,e10,List.take_succ_cons,List.take_zero,List.drop_succ_cons,List.drop_zero,List.setIfInBounds_toArray,List.set_cons_succ,List.set_cons_zero]
   have HRB13:=hid2 hRB
   have HI13:=hid2 (show StepI w w13 g5 g10 B AA an ac AW wn wc k P D y r from ⟨hRB.below,HI.out.b5,HI.out.b10,HI.out.ne,hRB.st,hRB.out,HI.out.rs.tkeepK hRB.keep⟩)
   have HQ4:=hid2 hq4
   have HY4:=hid2 hy4
   have yw0:=HCK0.out w13 hRB.keep
   have hkk:=hq4.2.2.2.2.2.1
   clear c0 c1 c2 c3 c4 c5 c6
   obtain rfl:k4=0:=by rw [hkk,HX.out];rfl
   have c0:=cell_of_row w13 g11 0 _ _ _ hg11
   have c1:=cell_of_row w13 g11 1 _ _ _ hg11
   have c2:=cell_of_row w13 g11 2 _ _ _ hg11
   have c3:=cell_of_row w13 g11 3 _ _ _ hg11
   have c4:=cell_of_row w13 g11 4 _ _ _ hg11
   have c5:=cell_of_row w13 g11 5 _ _ _ hg11
   have c6:=cell_of_row w13 g11 6 _ _ _ hg11
   have d0:=cell_of_row w13 g12 0 _ _ _ hg12
   have d1:=cell_of_row w13 g12 1 _ _ _ hg12
   have d2:=cell_of_row w13 g12 2 _ _ _ hg12
   have zo:=hRB.out
   clear hRB h11 h12 hq4 hy4 hkk hg11 hg12 hb11 hb12
   first
    | (have hsel:=tkTry;have HRES:=hid2 (HSEL.out.2 ukRead);go_wp2_with ((with_reducible refine wpList_store_lit g10 0 (.agg #[.string B4,.slice AA4 an4 ac4,.slice AW4 wn4 wc4,.int .i64 0,.string P4,.string D4,.int .i64 y4]) [.string B4,.slice AA4 an4 ac4,.slice AW4 wn4 wc4,.int .i64 0,.string P4,.string D4,.int .i64 y4] rfl _ 37 zo (info_st _ _ _ _ _ _ _) (hF7 rfl) one_st ?_ ?_);exact⟨rfl,rfl⟩;rw [laid_st7 rfl]);try simp only [Act.put];refine bodyPost_ret (v:=.agg #[.string B4,.slice AA4 an4 ac4,.slice AW4 wn4 wc4,.int .i64 0,.string P4,.string D4,.int .i64 y4]) (results_cell_row rfl _ _ g10 37 _ (0,0) _ rfl (setRow_heap w13 g10 _ _ _ _ HI13.out.out) Tryz.underlying37 rfl (by kernel_rfl)) rfl ?_;rw [HRES.out];exact HI13.out.done HQ4.out _)
    | (have HRES:=hid2 (HSEL.out.1 ukRead);clear zo;go_wp2_with (first | (go_at_call 33; refine (rfail_st w13 B4 AA4 AW4 an4 ac4 wn4 wc4 0 y4 P4 D4 x1 HQ4.out 10).mono ?_;rintro e wa ⟨B5,AA5,an5,ac5,AW5,wn5,wc5,k5,P5,D5,y5,rfl,hq,hb⟩;have HIA:=hid2 (HI13.out.keep hb);have HQ:=hid2 hq;have zo:=HIA.out.out;clear hb hq) | ((with_reducible refine wpList_store_lit g10 0 (.agg #[.string B5,.slice AA5 an5 ac5,.slice AW5 wn5 wc5,.int .i64 k5,.string P5,.string D5,.int .i64 y5]) [.string B5,.slice AA5 an5 ac5,.slice AW5 wn5 wc5,.int .i64 k5,.string P5,.string D5,.int .i64 y5] rfl _ 37 zo (info_st _ _ _ _ _ _ _) (hF7 rfl) one_st ?_ ?_);exact⟨rfl,rfl⟩;rw [laid_st7 rfl]));try simp only [Act.put];refine bodyPost_ret (v:=.agg #[.string B5,.slice AA5 an5 ac5,.slice AW5 wn5 wc5,.int .i64 k5,.string P5,.string D5,.int .i64 y5]) (results_cell_row rfl _ _ g10 37 _ (0,0) _ rfl (setRow_heap wa g10 _ _ _ _ HIA.out.out) Tryz.underlying37 rfl (by kernel_rfl)) rfl ?_;rw [HRES.out];exact HIA.out.done HQ.out _)
end Go.Proofs.YtnecjdhamohadaaGreatDoor
