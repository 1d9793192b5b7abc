/- The document's run of a tool: one command (scan, write), and any. -/
import Derived.Test.YtnecjdhamohadaaGreatDoorPMRg9
set_option linter.unusedSimpArgs false
set_option linter.unusedVariables false
namespace Go.Proofs.YtnecjdhamohadaaGreatDoor
open Go.RowKit Go.Maps Go.Shelf
set_option maxRecDepth 100000
set_option maxHeartbeats 16000000 in
theorem rstep_scan (w:World) (B:ByteArray) (AA:Option Addr) (an ac:Nat) (AW:Option Addr) (wn wc:Nat) (k:Int) (P D:ByteArray) (y:Int) (r:RS) (h:RSA w B AA an ac AW wn wc k P D y r) (hs:r.Small) (EA:Option Addr) (en ec:Nat) (KA:Option Addr) (kn kc:Nat) (line:TT) (hln:line.length≤65536) (WA:Option Addr) (qn qc:Nat) (ws:List TT) (nm:TT) (hnm:ws[0]?=some nm) (hk:nm=kScan) (hqn:0 < qn) (hrw:Rd w 1 WA qn (strV ws)) (arg:TT) (harg:ws[1]?=some arg) (hq1:1 < qn) (hal:arg.length≤65536) (W:TT) (hW:ws[2]?=some W) (hq2:2 < qn) (v:Env) (hv:v.may=mayB) (N:Nat) (K:List KE) (hkn:kn=K.length) (hK:K.length≤1000000) (hKd:∀ k∈K,k.path.length≤1000000∧k.data.length≤100000) (hrk:Rd w 3 KA K.length (kV K)) (hN:K.length < N) (hwt:∀ b,blockOf WA=some b→∃ cur fr,w.heap[b]?=some (.cells cur 9 fr)) :
  Calls Tryz.prog 34 #[.agg #[.string B,.slice AA an ac,.slice AW wn wc,.int .i64 k,.string P,.string D,.int .i64 y],.slice EA en ec,.slice KA kn kc,.string (strB line),.slice WA qn qc] w (StPost w ((scanF v (orK K) W N r arg []).1)):=by
 have htn:=toList_strBT nm
 obtain⟨SL,hSL⟩:∃ S,S=strB line:=⟨_,rfl⟩
 rw [← hSL]
 obtain⟨RES,hRES⟩:∃ R,R=(scanF v (orK K) W N r arg []).1:=⟨_,rfl⟩
 rw [← hRES]
 obtain⟨w1,hw1⟩:∃ w1,w1=w.alloc (.cells #[.string B,.slice AA an ac,.slice AW wn wc,.int .i64 k,.string P,.string D,.int .i64 y] 37):=⟨_,rfl⟩
 obtain⟨wq,hwq⟩:∃ wq,wq=w1.alloc (.cells #[.string ⟨#[]⟩,.slice none 0 0,.slice none 0 0,.int .i64 0,.string ⟨#[]⟩,.string ⟨#[]⟩,.int .i64 0] 37):=⟨_,rfl⟩
 have hs1:w1.heap.size=w.heap.size+1:=by rw [hw1,World.size_alloc]
 have hs2:wq.heap.size=w.heap.size+1+1:=by rw [hwq,World.size_alloc,hs1]
 have hb1:Below w.heap.size w w1:=by rw [hw1];exact (Below.refl _ _).alloc (Nat.le_refl _) _
 have hb2:Below w.heap.size w wq:=by rw [hwq];exact hb1.alloc (by omega) _
 have hg5:wq.heap[w.heap.size]?=some (.cells #[.string B,.slice AA an ac,.slice AW wn wc,.int .i64 k,.string P,.string D,.int .i64 y] 37 (0,0)):=by
  rw [hwq,Below.heap_alloc _ _ _ (by omega),hw1]
  exact World.alloc_heap_new _ _
 have hg10:wq.heap[w.heap.size+1]?=some (.cells zSt 37 (0,0)):=by
  rw [hwq,← hs1]
  exact World.alloc_heap_new _ _
 obtain⟨g5,hg5e⟩:∃ g,g=w.heap.size:=⟨_,rfl⟩
 obtain⟨g10,hg10e⟩:∃ g,g=w.heap.size+1:=⟨_,rfl⟩
 rw [← hg5e] at hg5
 rw [← hg10e] at hg10
 have H12:=hid2 (show (w.alloc (.cells #[.string B,.slice AA an ac,.slice AW wn wc,.int .i64 k,.string P,.string D,.int .i64 y] 37)).alloc (.cells #[.string ⟨#[]⟩,.slice none 0 0,.slice none 0 0,.int .i64 0,.string ⟨#[]⟩,.string ⟨#[]⟩,.int .i64 0] 37)=wq from by rw [hwq,hw1])
 have HE:=hid2 (And.intro hg5e hg10e)
 have HI:=hid2 (show StepI w wq g5 g10 B AA an ac AW wn wc k P D y r from ⟨hb2,by omega,by omega,by omega,hg5,hg10,h.below hb2⟩)
 obtain⟨wb,wo,hWA,hcell⟩:=(hrw.below_all hb2).2 hqn
 obtain⟨cur0,fr0,hwt0⟩:=hwt wb (by rw [hWA];rfl)
 have hwt1:∃ cur fr,wq.heap[wb]?=some (.cells cur 9 fr):=⟨cur0,fr0,(hb2.block wb (heap_lt hwt0)).trans hwt0⟩
 clear hwt hwt0
 subst hWA
 have hws0:wq.cell? ⟨wb,wo,none⟩=some (.string (strB nm)):=hcell 0 _ (strV_at hnm)
 have hqi:(0:Int) < qn:=by omega
 have c0:=cell_of_row wq g5 0 _ _ _ hg5
 have c1:=cell_of_row wq g5 1 _ _ _ hg5
 have c2:=cell_of_row wq g5 2 _ _ _ hg5
 have c3:=cell_of_row wq g5 3 _ _ _ hg5
 have c4:=cell_of_row wq g5 4 _ _ _ hg5
 have c5:=cell_of_row wq g5 5 _ _ _ hg5
 have c6:=cell_of_row wq g5 6 _ _ _ hg5
 have hbuf:r.buf.length≤100000000000:=by have:=hs.2;omega
 have hF7:∀ {a b c d e f g:Value} {cs:Array Value},cs.size=7→0+[a,b,c,d,e,f,g].length≤cs.size:=fun h=>by rw [h];exact Nat.le_refl 7
 obtain⟨SN,hSN⟩:∃ S,S=strB nm:=⟨_,rfl⟩
 rw [← hSN] at htn hws0
 have tkRead:(SN.toList == [114,101,97,100])=false:=by rw [htn,hk];decide
 have ukRead:¬ SN.toList=[114,101,97,100]:=by rw [htn,hk];decide
 have tkTry:(SN.toList == [116,114,121])=false:=by rw [htn,hk];decide
 have ukTry:¬ SN.toList=[116,114,121]:=by rw [htn,hk];decide
 have tkScan:(SN.toList == [115,99,97,110])=true:=by rw [htn,beq_iff_eq,hk]
 have ukScan:SN.toList=[115,99,97,110]:=by rw [htn,hk]
 have hws1:wq.cell? ⟨wb,wo+1,none⟩=some (.string (strB arg)):=hcell 1 _ (strV_at harg)
 have hq1i:(1:Int) < qn:=by omega
 have hta:=toList_strBT arg
 obtain⟨SA1,hSA1⟩:∃ S,S=strB arg:=⟨_,rfl⟩
 rw [← hSA1] at hws1 hta
 have HCW1:=hid2 (show ∀ w2,Below wq.heap.size wq w2→w2.cell? ⟨wb,wo+1,none⟩=some (.string SA1) from fun w2 hb=>(hb.cell (p:=⟨wb,wo+1,none⟩) (World.block_lt_of_cell? _ _ hws1)).trans hws1)
 have hws2:wq.cell? ⟨wb,wo+2,none⟩=some (.string (strB W)):=hcell 2 _ (strV_at hW)
 have hq2i:(2:Int) < qn:=by omega
 obtain⟨SA2,hSA2⟩:∃ S,S=strB W:=⟨_,rfl⟩
 rw [← hSA2] at hws2
 obtain⟨XR,hXR⟩:∃ x,x=scanF v (orK K) W N r arg []:=⟨_,rfl⟩
 have cSC:∀ (WW:World),Below w.heap.size w WW→RSA WW B AA an ac AW wn wc k P D y r→Calls Tryz.prog 54 #[.agg #[.string B,.slice AA an ac,.slice AW wn wc,.int .i64 k,.string P,.string D,.int .i64 y],.slice KA kn kc,.string SA1,.string SA2,.slice none 0 0] WW (ScanPost WW XR):=fun WW hb hq=>by
  rw [hkn,hSA1,hSA2,hXR]
  refine rscan_any K v hv hK hKd N WW B AA an ac AW wn wc k P D y r KA kc arg W none 0 0 [] hq hs (hrk.below_all hb) rfl (Own.nil _ _ _ _) ⟨List.nodup_nil,fun q hq=>by cases hq⟩ (by simp) ?_
  unfold left
  refine Nat.lt_of_le_of_lt (List.length_filter_le _ _) ?_
  rw [List.length_map]
  exact hN
 rw [← hXR] at hRES
 have HRB:=hid2 (show ReadB w wq g5 g10 #[.string B,.slice AA an ac,.slice AW wn wc,.int .i64 k,.string P,.string D,.int .i64 y] wq from ⟨hb2,hb2.size,TKeepK.refl _,heap_lt hg5,heap_lt hg10,hg5,hg10⟩)
 have HCK1:=hid2 (show ∀ w2,TKeepK wq w2→w2.cell? ⟨wb,wo+1,none⟩=some (.string SA1) from fun w2 hk=>by
  obtain⟨cur,fr,e⟩:=hwt1
  have:=hk.2.1 wb cur _ fr e (by decide) (by decide)
  rw [← hws1]
  simp only [World.cell?,this])
 have HCK2:=hid2 (show ∀ w2,TKeepK wq w2→w2.cell? ⟨wb,wo+2,none⟩=some (.string SA2) from fun w2 hk=>by
  obtain⟨cur,fr,e⟩:=hwt1
  have:=hk.2.1 wb cur _ fr e (by decide) (by decide)
  rw [← hws2]
  simp only [World.cell?,this])
 have HRES:=hid2 hRES
 have CSC:=hid2 cSC
 clear cSC hXR hwt1 hws1 hws2 hta hSA1 hSA2 harg hW hal hbuf hln hrk hKd hK hkn hN hv
 clear hSL hw1 hwq hs1 hs2 hb1 hb2 hg5 hg10 hg5e hg10e hcell hrw hnm hk hSN htn h hs
 go_enter Tryz.func34,Tryz.ntmps34
 go_upto_region 1 with fail
 rw [H12.out,← HE.out.2,← HE.out.1]
 go_upto_region 13 with fail
 refine wp_region_lst 14 (by kernel_rfl) (by kernel_rfl) (by kernel_rfl) _ rfl (by kernel_rfl) (VV [some (.agg #[.string B,.slice AA an ac,.slice AW wn wc,.int .i64 k,.string P,.string D,.int .i64 y]),some (.slice KA kn kc),some (.slice (some ⟨wb,wo,none⟩) qn qc),some (.pointer (some ⟨wb,wo+1,none⟩)),some (.string SA1),some (.slice (some ⟨wb,wo,none⟩) qn qc),some (.pointer (some ⟨wb,wo+2,none⟩)),some (.string SA2),none,none,none,none,none,none] (fun j v w2=>(j=8∨j=9→XTup XR v w2)∧(j=10→XSt XR.1 v w2)∧(j=12→PtrS wq v w2))) (fun L u w2=>ReadB w wq g5 g10 #[.string B,.slice AA an ac,.slice AW wn wc,.int .i64 k,.string P,.string D,.int .i64 y] w2∧(L 13=true→Wrt wq 37 7 (u 12) (u 10) w2)) (TKeepK) (fun _=>⟨HRB.out.more (Below.refl _ _).drew,fun e=>absurd e (by decide)⟩) (fun j v w1 w2 hb hv=>VV.keep (fun h=>⟨fun e=>XTup.tkeepK (a:=w1) (b:=w2) (h.1 e) hb,fun e=>XSt.tkeepK (a:=w1) (b:=w2) (h.2.1 e) hb,fun e=>(by obtain⟨g,a1,a2,a3⟩:=h.2.2 e;exact⟨g,a1,a2,hb.2.2.1 g a3⟩)⟩) hv) ?_ ?_
 ·refine of_allOps ⟨?_,?_,?_,?_,?_,?_,?_,?_,?_,?_,?_,?_,?_,?_,trivial⟩
  ·intro T2 w2 L2 u2 hM hli hcl hT hLe hN hO hE K hK
   have o5:T2[5]?=some (.pointer (some ⟨g5,0,none⟩)):=hO 5 rfl
   clear hE hO hN
   refine step_plain0 rfl ?_
   refine wp_load_row 37 _ rfl g5 (by simp [Act.eval,o5]) 37 _ (0,0) _ hM.1.st Tryz.underlying37 rfl (info_st7 rfl) ?_
   exact hK _ _ rfl hM (TKeepK.refl _)
  ·intro T2 w2 L2 u2 hM hli hcl hT hLe hN hO hE K hK
   have o2:T2[2]?=some (.slice KA kn kc):=hO 2 rfl
   clear hE hO hN hli hcl hT hLe
   refine step_plain0 rfl ?_
   go_simp
   exact hK _ _ rfl hM (TKeepK.refl _)
  ·intro T2 w2 L2 u2 hM hli hcl hT hLe hN hO hE K hK
   have o4:T2[4]?=some (.slice (some ⟨wb,wo,none⟩) qn qc):=hO 4 rfl
   clear hE hO hN hli hcl hT hLe
   refine step_plain0 rfl ?_
   go_simp
   exact hK _ _ rfl hM (TKeepK.refl _)
  ·intro T2 w2 L2 u2 hM hli hcl hT hLe hN hO hE K hK
   obtain⟨v2,h2,e2,eu2⟩:=hE ⟨2,.data⟩ (by simp) rfl _ _ rfl rfl
   rw [show v2 = .slice (some ⟨wb,wo,none⟩) qn qc from e2] at h2 eu2
   clear hE hO hN hli hcl hT hLe eu2
   refine step_plain0 rfl ?_
   go_simp
   exact hK _ _ rfl hM (TKeepK.refl _)
  ·intro T2 w2 L2 u2 hM hli hcl hT hLe hN hO hE K hK
   obtain⟨v3,h3,e3,eu3⟩:=hE ⟨3,.data⟩ (by simp) rfl _ _ rfl rfl
   rw [show v3 = .pointer (some ⟨wb,wo+1,none⟩) from e3] at h3 eu3
   clear hE hO hN
   refine step_plain0 rfl ?_
   have yw:=HCK1.out w2 hM.1.keep
   go_simp
   exact hK _ _ rfl hM (TKeepK.refl _)
  ·intro T2 w2 L2 u2 hM hli hcl hT hLe hN hO hE K hK
   have o4:T2[4]?=some (.slice (some ⟨wb,wo,none⟩) qn qc):=hO 4 rfl
   clear hE hO hN hli hcl hT hLe
   refine step_plain0 rfl ?_
   go_simp
   exact hK _ _ rfl hM (TKeepK.refl _)
  ·intro T2 w2 L2 u2 hM hli hcl hT hLe hN hO hE K hK
   obtain⟨v5,h5,e5,eu5⟩:=hE ⟨5,.data⟩ (by simp) rfl _ _ rfl rfl
   rw [show v5 = .slice (some ⟨wb,wo,none⟩) qn qc from e5] at h5 eu5
   clear hE hO hN hli hcl hT hLe eu5
   refine step_plain0 rfl ?_
   go_simp
   exact hK _ _ rfl hM (TKeepK.refl _)
  ·intro T2 w2 L2 u2 hM hli hcl hT hLe hN hO hE K hK
   obtain⟨v6,h6,e6,eu6⟩:=hE ⟨6,.data⟩ (by simp) rfl _ _ rfl rfl
   rw [show v6 = .pointer (some ⟨wb,wo+2,none⟩) from e6] at h6 eu6
   clear hE hO hN
   refine step_plain0 rfl ?_
   have yw:=HCK2.out w2 hM.1.keep
   go_simp
   exact hK _ _ rfl hM (TKeepK.refl _)
  ·intro T2 w2 L2 u2 hM hli hcl hT hLe hN hO hE K hK
   obtain⟨v0,h0,e0,eu0⟩:=hE ⟨0,.data⟩ (by simp) rfl _ _ rfl rfl
   rw [show v0 = .agg #[.string B,.slice AA an ac,.slice AW wn wc,.int .i64 k,.string P,.string D,.int .i64 y] from e0] at h0 eu0
   obtain⟨v1,h1,e1,eu1⟩:=hE ⟨1,.data⟩ (by simp) rfl _ _ rfl rfl
   rw [show v1 = .slice KA kn kc from e1] at h1 eu1
   obtain⟨v4,h4,e4,eu4⟩:=hE ⟨4,.data⟩ (by simp) rfl _ _ rfl rfl
   rw [show v4 = .string SA1 from e4] at h4 eu4
   obtain⟨v7,h7,e7,eu7⟩:=hE ⟨7,.data⟩ (by simp) rfl _ _ rfl rfl
   rw [show v7 = .string SA2 from e7] at h7 eu7
   clear hE hO hN
   refine step_plain0 rfl ?_
   go_simp
   refine (CSC.out w2 hM.1.below (HI.out.rs.tkeepK hM.1.keep)).mono ?_
   rintro e w5 ⟨vr,rfl,htup,hb4⟩
   exact hK _ _ ⟨fun _=>htup,fun e=>absurd e (by decide),fun e=>absurd e (by decide)⟩ ⟨hM.1.more hb4,fun e=>(hM.2 e).more hb4⟩ (TKeepK.of_below hb4)
  ·intro T2 w2 L2 u2 hM hli hcl hT hLe hN hO hE K hK
   obtain⟨v8,h8,e8,eu8⟩:=hE ⟨8,.data⟩ (by simp) rfl _ _ rfl rfl
   clear hE hO hN
   refine step_plain0 rfl ?_
   have x8:=(show (8=8∨8=9→XTup XR v8 w2)∧(8=10→XSt XR.1 v8 w2)∧(8=12→PtrS wq v8 w2) from e8).1 (.inl rfl)
   go_simp
   exact hK _ _ ⟨fun _=>x8,fun e=>absurd e (by decide),fun e=>absurd e (by decide)⟩ hM (TKeepK.refl _)
  ·intro T2 w2 L2 u2 hM hli hcl hT hLe hN hO hE K hK
   obtain⟨v9,h9,e9,eu9⟩:=hE ⟨9,.data⟩ (by simp) rfl _ _ rfl rfl
   clear hE hO hN
   refine step_plain0 rfl ?_
   have hno13:=not_come hcl hli 13 [10] (by kernel_rfl) (by simp)
   have x9:=(show (9=8∨9=9→XTup XR v9 w2)∧(9=10→XSt XR.1 v9 w2)∧(9=12→PtrS wq v9 w2) from e9).1 (.inr rfl)
   obtain⟨B4,AA4,an4,ac4,AW4,wn4,wc4,k4,P4,D4,y4,DA4,dn4,dc4,rfl,hq4,hd4,ho4⟩:=x9
   clear e9 eu9
   subst hd4
   go_simp
   exact hK _ _ ⟨fun e=>absurd e (by decide),fun _=>⟨B4,AA4,an4,ac4,AW4,wn4,wc4,k4,P4,D4,y4,rfl,hq4⟩,fun e=>absurd e (by decide)⟩ ⟨hM.1,fun e=>absurd (show L2 13=true from e) (by rw [hno13];decide)⟩ (TKeepK.refl _)
  ·intro T2 w2 L2 u2 hM hli hcl hT hLe hN hO hE K hK
   obtain⟨v9,h9,e9,eu9⟩:=hE ⟨9,.data⟩ (by simp) rfl _ _ rfl rfl
   clear hE hO hN
   refine step_plain0 rfl ?_
   have x9:=(show (9=8∨9=9→XTup XR v9 w2)∧(9=10→XSt XR.1 v9 w2)∧(9=12→PtrS wq v9 w2) from e9).1 (.inr rfl)
   obtain⟨B4,AA4,an4,ac4,AW4,wn4,wc4,k4,P4,D4,y4,DA4,dn4,dc4,rfl,hq4,hd4,ho4⟩:=x9
   clear e9 eu9
   subst hd4
   go_simp
   exact hK _ _ ⟨fun e=>absurd e (by decide),fun e=>absurd e (by decide),fun e=>absurd e (by decide)⟩ hM (TKeepK.refl _)
  ·intro T2 w2 L2 u2 hM hli hcl hT hLe hN hO hE K hK
   clear hE hO hN
   refine step_plain0 rfl ?_
   have hno13:=not_come hcl hli 13 [12] (by kernel_rfl) (by simp)
   go_simp
   exact hK _ _ ⟨fun e=>absurd e (by decide),fun e=>absurd e (by decide),fun _=>⟨w2.heap.size,rfl,hM.1.keep.1,⟨_,rfl,World.alloc_heap_new w2 _⟩⟩⟩ ⟨hM.1.more ((Below.refl _ w2).alloc (Nat.le_refl _) _),fun e=>absurd (show L2 13=true from e) (by rw [hno13];decide)⟩ (TKeepK.of_below ((Below.refl _ w2).alloc (Nat.le_refl _) _))
  ·intro T2 w2 L2 u2 hM hli hcl hT hLe hN hO hE K hK
   obtain⟨v12,h12,e12,eu12⟩:=hE ⟨12,.data⟩ (by simp) rfl _ _ rfl rfl
   obtain⟨v10,h10,e10,eu10⟩:=hE ⟨10,.data⟩ (by simp) rfl _ _ rfl rfl
   clear hE hO hN
   refine step_plain0 rfl ?_
   have x12:=(show (12=8∨12=9→XTup XR v12 w2)∧(12=10→XSt XR.1 v12 w2)∧(12=12→PtrS wq v12 w2) from e12).2.2 rfl
   have x10:=(show (10=8∨10=9→XTup XR v10 w2)∧(10=10→XSt XR.1 v10 w2)∧(10=12→PtrS wq v10 w2) from e10).2.1 rfl
   obtain⟨gs,rfl,hgs,⟨cs1,z1,z2⟩⟩:=x12
   obtain⟨B4,AA4,an4,ac4,AW4,wn4,wc4,k4,P4,D4,y4,rfl,hq4⟩:=x10
   refine wp_store_row 37 _ _ rfl gs #[.string B4,.slice AA4 an4 ac4,.slice AW4 wn4 wc4,.int .i64 k4,.string P4,.string D4,.int .i64 y4] (by simp [Act.eval,h12]) (by simp [Act.eval,h10]) 37 cs1 z2 (info_st7 rfl) z1 (by simp [Value.oneCell']) ?_
   have hkk:=TKeepK.putS (a:=w2) (g:=gs) ⟨cs1,z1,z2⟩ (cs:=#[.string B4,.slice AA4 an4 ac4,.slice AW4 wn4 wc4,.int .i64 k4,.string P4,.string D4,.int .i64 y4]) rfl
   exact hK undef _ ⟨fun e=>absurd e (by decide),fun e=>absurd e (by decide),fun e=>absurd e (by decide)⟩ ⟨hM.1.put hgs _ hkk,fun _=>⟨gs,_,eu12,hgs,eu10,rfl,setRow_heap w2 gs _ _ _ _ z2⟩⟩ hkk
 ·intro u w13 hM hF
  have x10:=(show (10=8∨10=9→XTup XR (u 10) w13)∧(10=10→XSt XR.1 (u 10) w13)∧(10=12→PtrS wq (u 10) w13) from hF 10 (by omega)).2.1 rfl
  obtain⟨hRB,h13⟩:=hM
  obtain⟨g11,cs7,e12,hb11,e10,_,hg11⟩:=h13 rfl
  obtain⟨B4,AA4,an4,ac4,AW4,wn4,wc4,k4,P4,D4,y4,e10b,hq4⟩:=x10
  rw [e10b] at e10
  cases e10
  clear hF
  simp only [fillAll,Nat.reduceAdd,e12,List.take_succ_cons,List.take_zero,List.drop_succ_cons,List.drop_zero,List.setIfInBounds_toArray,List.set_cons_succ,List.set_cons_zero]
  have HI13:=hid2 (show StepI w w13 g5 g10 B AA an ac AW wn wc k P D y r from ⟨hRB.below,HI.out.b5,HI.out.b10,HI.out.ne,hRB.st,hRB.out,HI.out.rs.tkeepK hRB.keep⟩)
  have HQ4:=hid2 hq4
  clear c0 c1 c2 c3 c4 c5 c6
  have c0:=cell_of_row w13 g11 0 _ _ _ hg11
  have c1:=cell_of_row w13 g11 1 _ _ _ hg11
  have c2:=cell_of_row w13 g11 2 _ _ _ hg11
  have c3:=cell_of_row w13 g11 3 _ _ _ hg11
  have c4:=cell_of_row w13 g11 4 _ _ _ hg11
  have c5:=cell_of_row w13 g11 5 _ _ _ hg11
  have c6:=cell_of_row w13 g11 6 _ _ _ hg11
  have zo:=hRB.out
  clear hRB h13 hq4 hg11 hb11
  go_wp2_with ((with_reducible refine wpList_store_lit g10 0 (.agg #[.string B4,.slice AA4 an4 ac4,.slice AW4 wn4 wc4,.int .i64 k4,.string P4,.string D4,.int .i64 y4]) [.string B4,.slice AA4 an4 ac4,.slice AW4 wn4 wc4,.int .i64 k4,.string P4,.string D4,.int .i64 y4] rfl _ 37 zo (info_st _ _ _ _ _ _ _) (hF7 rfl) one_st ?_ ?_);exact⟨rfl,rfl⟩;rw [laid_st7 rfl])
  try simp only [Act.put]
  refine bodyPost_ret (v:=.agg #[.string B4,.slice AA4 an4 ac4,.slice AW4 wn4 wc4,.int .i64 k4,.string P4,.string D4,.int .i64 y4]) (results_cell_row rfl _ _ g10 37 _ (0,0) _ rfl (setRow_heap w13 g10 _ _ _ _ HI13.out.out) Tryz.underlying37 rfl (by kernel_rfl)) rfl ?_
  rw [HRES.out]
  exact HI13.out.done HQ4.out _
end Go.Proofs.YtnecjdhamohadaaGreatDoor
