/- The document's run of a tool: one command. -/
import Derived.Test.YtnecjdhamohadaaGreatDoorPMu
import Derived.Test.YtnecjdhamohadaaGreatDoorPMRf2
import Derived.Test.YtnecjdhamohadaaGreatDoorPMRgP
import Derived.Test.YtnecjdhamohadaaGreatDoorPMRg5
import Derived.Test.YtnecjdhamohadaaGreatDoorPMRg7
set_option linter.unusedSimpArgs false
set_option linter.unusedVariables false
namespace Go.Proofs.YtnecjdhamohadaaGreatDoor
open Go.RowKit Go.Maps Go.Shelf
set_option maxRecDepth 100000
structure StepI (w wr:World) (g5 g10:Nat) (B:ByteArray) (AA:Option Addr) (an ac:Nat) (AW:Option Addr) (wn wc:Nat) (k:Int) (P D:ByteArray) (y:Int) (r:RS):Prop where
 below:Below w.heap.size w wr
 b5:w.heap.size≤g5
 b10:w.heap.size≤g10
 ne:g5≠g10
 st:wr.heap[g5]?=some (.cells #[.string B,.slice AA an ac,.slice AW wn wc,.int .i64 k,.string P,.string D,.int .i64 y] 37 (0,0))
 out:wr.heap[g10]?=some (.cells zSt 37 (0,0))
 rs:RSA wr B AA an ac AW wn wc k P D y r
theorem StepI.keep {w wr w2:World} {g5 g10:Nat} {B:ByteArray} {AA:Option Addr} {an ac:Nat} {AW:Option Addr} {wn wc:Nat} {k:Int} {P D:ByteArray} {y:Int} {r:RS} (h:StepI w wr g5 g10 B AA an ac AW wn wc k P D y r) (hb:Below wr.heap.size wr w2):StepI w w2 g5 g10 B AA an ac AW wn wc k P D y r :=
 ⟨h.below.trans (hb.mono h.below.size),h.b5,h.b10,h.ne,(hb.block g5 (heap_lt h.st)).trans h.st,(hb.block g10 (heap_lt h.out)).trans h.out,h.rs.below hb⟩
theorem StepI.put {w wr:World} {g5 g10:Nat} {B:ByteArray} {AA:Option Addr} {an ac:Nat} {AW:Option Addr} {wn wc:Nat} {k:Int} {P D:ByteArray} {y:Int} {r:RS} (h:StepI w wr g5 g10 B AA an ac AW wn wc k P D y r)
  {B2:ByteArray} {AA2:Option Addr} {an2 ac2:Nat} {AW2:Option Addr} {wn2 wc2:Nat} {k2:Int} {P2 D2:ByteArray} {y2:Int} {r2:RS} (hq:RSA wr B2 AA2 an2 ac2 AW2 wn2 wc2 k2 P2 D2 y2 r2):StepI w (wr.setRow g5 #[.string B2,.slice AA2 an2 ac2,.slice AW2 wn2 wc2,.int .i64 k2,.string P2,.string D2,.int .i64 y2]) g5 g10 B2 AA2 an2 ac2 AW2 wn2 wc2 k2 P2 D2 y2 r2 :=
 ⟨below_setRow h.below h.b5 _,h.b5,h.b10,h.ne,setRow_heap wr g5 _ _ _ _ h.st,(setRow_other wr g5 g10 _ h.ne.symm).trans h.out,hq.tkeep (TKeep.put ⟨_,rfl,h.st⟩ _)⟩
theorem StepI.done {w wr:World} {g5 g10:Nat} {B:ByteArray} {AA:Option Addr} {an ac:Nat} {AW:Option Addr} {wn wc:Nat} {k:Int} {P D:ByteArray} {y:Int} {r:RS} (h:StepI w wr g5 g10 B AA an ac AW wn wc k P D y r)
  {B2:ByteArray} {AA2:Option Addr} {an2 ac2:Nat} {AW2:Option Addr} {wn2 wc2:Nat} {k2:Int} {P2 D2:ByteArray} {y2:Int} {r2:RS} (hq:RSA wr B2 AA2 an2 ac2 AW2 wn2 wc2 k2 P2 D2 y2 r2) (cs:Array Value):StPost w r2 (.returned (.agg #[.string B2,.slice AA2 an2 ac2,.slice AW2 wn2 wc2,.int .i64 k2,.string P2,.string D2,.int .i64 y2])) (wr.setRow g10 cs) :=
 ⟨B2,AA2,an2,ac2,AW2,wn2,wc2,k2,P2,D2,y2,rfl,hq.put h.out (by decide) (by decide) cs,below_setRow h.below h.b10 cs⟩
set_option maxHeartbeats 16000000 in
theorem rstep_fail (w:World) (B:ByteArray) (AA:Option Addr) (an ac:Nat) (AW:Option Addr) (wn wc:Nat) (k:Int) (P D:ByteArray) (y:Int) (r:RS) (h:RSA w B AA an ac AW wn wc k P D y r) (hs:r.Small) (EA:Option Addr) (en ec:Nat) (KA:Option Addr) (kn kc:Nat) (line:TT) (hln:line.length≤65536) (WA:Option Addr) (qn qc:Nat) (ws:List TT) (nm:TT) (hnm:ws[0]?=some nm) (hk:nm=kFail) (hqn:0 < qn) (hrw:Rd w 1 WA qn (strV ws)) :
  Calls Tryz.prog 34 #[.agg #[.string B,.slice AA an ac,.slice AW wn wc,.int .i64 k,.string P,.string D,.int .i64 y],.slice EA en ec,.slice KA kn kc,.string (strB line),.slice WA qn qc] w (StPost w (r.fail 15)):=by
 have htn:=toList_strBT nm
 obtain⟨SL,hSL⟩:∃ S,S=strB line:=⟨_,rfl⟩
 rw [← hSL]
 obtain⟨RES,hRES⟩:∃ R,R=r.fail 15:=⟨_,rfl⟩
 rw [← hRES]
 obtain⟨w1,hw1⟩:∃ w1,w1=w.alloc (.cells #[.string B,.slice AA an ac,.slice AW wn wc,.int .i64 k,.string P,.string D,.int .i64 y] 37):=⟨_,rfl⟩
 obtain⟨wq,hwq⟩:∃ wq,wq=w1.alloc (.cells #[.string ⟨#[]⟩,.slice none 0 0,.slice none 0 0,.int .i64 0,.string ⟨#[]⟩,.string ⟨#[]⟩,.int .i64 0] 37):=⟨_,rfl⟩
 have hs1:w1.heap.size=w.heap.size+1:=by rw [hw1,World.size_alloc]
 have hs2:wq.heap.size=w.heap.size+1+1:=by rw [hwq,World.size_alloc,hs1]
 have hb1:Below w.heap.size w w1:=by rw [hw1];exact (Below.refl _ _).alloc (Nat.le_refl _) _
 have hb2:Below w.heap.size w wq:=by rw [hwq];exact hb1.alloc (by omega) _
 have hg5:wq.heap[w.heap.size]?=some (.cells #[.string B,.slice AA an ac,.slice AW wn wc,.int .i64 k,.string P,.string D,.int .i64 y] 37 (0,0)):=by
  rw [hwq,Below.heap_alloc _ _ _ (by omega),hw1]
  exact World.alloc_heap_new _ _
 have hg10:wq.heap[w.heap.size+1]?=some (.cells zSt 37 (0,0)):=by
  rw [hwq,← hs1]
  exact World.alloc_heap_new _ _
 obtain⟨g5,hg5e⟩:∃ g,g=w.heap.size:=⟨_,rfl⟩
 obtain⟨g10,hg10e⟩:∃ g,g=w.heap.size+1:=⟨_,rfl⟩
 rw [← hg5e] at hg5
 rw [← hg10e] at hg10
 have H12:=hid2 (show (w.alloc (.cells #[.string B,.slice AA an ac,.slice AW wn wc,.int .i64 k,.string P,.string D,.int .i64 y] 37)).alloc (.cells #[.string ⟨#[]⟩,.slice none 0 0,.slice none 0 0,.int .i64 0,.string ⟨#[]⟩,.string ⟨#[]⟩,.int .i64 0] 37)=wq from by rw [hwq,hw1])
 have HE:=hid2 (And.intro hg5e hg10e)
 have HI:=hid2 (show StepI w wq g5 g10 B AA an ac AW wn wc k P D y r from ⟨hb2,by omega,by omega,by omega,hg5,hg10,h.below hb2⟩)
 obtain⟨wb,wo,hWA,hcell⟩:=(hrw.below_all hb2).2 hqn
 subst hWA
 have hws0:wq.cell? ⟨wb,wo,none⟩=some (.string (strB nm)):=hcell 0 _ (strV_at hnm)
 have hqi:(0:Int) < qn:=by omega
 have c0:=cell_of_row wq g5 0 _ _ _ hg5
 have c1:=cell_of_row wq g5 1 _ _ _ hg5
 have c2:=cell_of_row wq g5 2 _ _ _ hg5
 have c3:=cell_of_row wq g5 3 _ _ _ hg5
 have c4:=cell_of_row wq g5 4 _ _ _ hg5
 have c5:=cell_of_row wq g5 5 _ _ _ hg5
 have c6:=cell_of_row wq g5 6 _ _ _ hg5
 have hbuf:r.buf.length≤100000000000:=by have:=hs.2;omega
 have hF7:∀ {a b c d e f g:Value} {cs:Array Value},cs.size=7→0+[a,b,c,d,e,f,g].length≤cs.size:=fun h=>by rw [h];exact Nat.le_refl 7
 obtain⟨SN,hSN⟩:∃ S,S=strB nm:=⟨_,rfl⟩
 rw [← hSN] at htn hws0
 have tkRead:(SN.toList == [114,101,97,100])=false:=by rw [htn,hk];decide
 have ukRead:¬ SN.toList=[114,101,97,100]:=by rw [htn,hk];decide
 have tkTry:(SN.toList == [116,114,121])=false:=by rw [htn,hk];decide
 have ukTry:¬ SN.toList=[116,114,121]:=by rw [htn,hk];decide
 have tkScan:(SN.toList == [115,99,97,110])=false:=by rw [htn,hk];decide
 have ukScan:¬ SN.toList=[115,99,97,110]:=by rw [htn,hk];decide
 have tkText:(SN.toList == [116,101,120,116])=false:=by rw [htn,hk];decide
 have ukText:¬ SN.toList=[116,101,120,116]:=by rw [htn,hk];decide
 have tkEnv:(SN.toList == [101,110,118])=false:=by rw [htn,hk];decide
 have ukEnv:¬ SN.toList=[101,110,118]:=by rw [htn,hk];decide
 have tkFail:(SN.toList == [102,97,105,108])=true:=by rw [htn,beq_iff_eq,hk]
 have ukFail:SN.toList=[102,97,105,108]:=by rw [htn,hk]
 have HRES:=hid2 hRES
 clear hSL hRES hw1 hwq hs1 hs2 hb1 hb2 hg5 hg10 hg5e hg10e hcell hrw hnm hk hSN htn h hs
 go_enter Tryz.func34,Tryz.ntmps34
 go_upto_region 1 with fail
 rw [H12.out,← HE.out.2,← HE.out.1]
 go_wp2_with (first
  | (go_at_call 33; refine (rfail_st wq B AA AW an ac wn wc k y P D r HI.out.rs 15).mono ?_;rintro e wa ⟨B5,AA5,an5,ac5,AW5,wn5,wc5,k5,P5,D5,y5,rfl,hq,hb⟩;have HIA:=hid2 (HI.out.keep hb);have HQ:=hid2 hq;have zo:=HIA.out.out;clear hb hq)
  | ((with_reducible refine wpList_store_lit g10 0 (.agg #[.string B5,.slice AA5 an5 ac5,.slice AW5 wn5 wc5,.int .i64 k5,.string P5,.string D5,.int .i64 y5]) [.string B5,.slice AA5 an5 ac5,.slice AW5 wn5 wc5,.int .i64 k5,.string P5,.string D5,.int .i64 y5] rfl _ 37 zo (info_st _ _ _ _ _ _ _) (hF7 rfl) one_st ?_ ?_);exact⟨rfl,rfl⟩;rw [laid_st7 rfl]))
 try simp only [Act.put]
 refine bodyPost_ret (v:=.agg #[.string B5,.slice AA5 an5 ac5,.slice AW5 wn5 wc5,.int .i64 k5,.string P5,.string D5,.int .i64 y5]) (results_cell_row rfl _ _ g10 37 _ (0,0) _ rfl (setRow_heap wa g10 _ _ _ _ HIA.out.out) Tryz.underlying37 rfl (by kernel_rfl)) rfl ?_
 rw [HRES.out]
 exact HIA.out.done HQ.out _
set_option maxHeartbeats 16000000 in
theorem rstep_text (w:World) (B:ByteArray) (AA:Option Addr) (an ac:Nat) (AW:Option Addr) (wn wc:Nat) (k:Int) (P D:ByteArray) (y:Int) (r:RS) (h:RSA w B AA an ac AW wn wc k P D y r) (hs:r.Small) (EA:Option Addr) (en ec:Nat) (KA:Option Addr) (kn kc:Nat) (line:TT) (hln:line.length≤65536) (WA:Option Addr) (qn qc:Nat) (ws:List TT) (nm:TT) (hnm:ws[0]?=some nm) (hk:nm=kText) (hqn:0 < qn) (hrw:Rd w 1 WA qn (strV ws)) :
  Calls Tryz.prog 34 #[.agg #[.string B,.slice AA an ac,.slice AW wn wc,.int .i64 k,.string P,.string D,.int .i64 y],.slice EA en ec,.slice KA kn kc,.string (strB line),.slice WA qn qc] w (StPost w (r.add (behindT line++[10]))):=by
 have htn:=toList_strBT nm
 obtain⟨SL,hSL⟩:∃ S,S=strB line:=⟨_,rfl⟩
 rw [← hSL]
 obtain⟨RES,hRES⟩:∃ R,R=r.add (behindT line++[10]):=⟨_,rfl⟩
 rw [← hRES]
 obtain⟨w1,hw1⟩:∃ w1,w1=w.alloc (.cells #[.string B,.slice AA an ac,.slice AW wn wc,.int .i64 k,.string P,.string D,.int .i64 y] 37):=⟨_,rfl⟩
 obtain⟨wq,hwq⟩:∃ wq,wq=w1.alloc (.cells #[.string ⟨#[]⟩,.slice none 0 0,.slice none 0 0,.int .i64 0,.string ⟨#[]⟩,.string ⟨#[]⟩,.int .i64 0] 37):=⟨_,rfl⟩
 have hs1:w1.heap.size=w.heap.size+1:=by rw [hw1,World.size_alloc]
 have hs2:wq.heap.size=w.heap.size+1+1:=by rw [hwq,World.size_alloc,hs1]
 have hb1:Below w.heap.size w w1:=by rw [hw1];exact (Below.refl _ _).alloc (Nat.le_refl _) _
 have hb2:Below w.heap.size w wq:=by rw [hwq];exact hb1.alloc (by omega) _
 have hg5:wq.heap[w.heap.size]?=some (.cells #[.string B,.slice AA an ac,.slice AW wn wc,.int .i64 k,.string P,.string D,.int .i64 y] 37 (0,0)):=by
  rw [hwq,Below.heap_alloc _ _ _ (by omega),hw1]
  exact World.alloc_heap_new _ _
 have hg10:wq.heap[w.heap.size+1]?=some (.cells zSt 37 (0,0)):=by
  rw [hwq,← hs1]
  exact World.alloc_heap_new _ _
 obtain⟨g5,hg5e⟩:∃ g,g=w.heap.size:=⟨_,rfl⟩
 obtain⟨g10,hg10e⟩:∃ g,g=w.heap.size+1:=⟨_,rfl⟩
 rw [← hg5e] at hg5
 rw [← hg10e] at hg10
 have H12:=hid2 (show (w.alloc (.cells #[.string B,.slice AA an ac,.slice AW wn wc,.int .i64 k,.string P,.string D,.int .i64 y] 37)).alloc (.cells #[.string ⟨#[]⟩,.slice none 0 0,.slice none 0 0,.int .i64 0,.string ⟨#[]⟩,.string ⟨#[]⟩,.int .i64 0] 37)=wq from by rw [hwq,hw1])
 have HE:=hid2 (And.intro hg5e hg10e)
 have HI:=hid2 (show StepI w wq g5 g10 B AA an ac AW wn wc k P D y r from ⟨hb2,by omega,by omega,by omega,hg5,hg10,h.below hb2⟩)
 obtain⟨wb,wo,hWA,hcell⟩:=(hrw.below_all hb2).2 hqn
 subst hWA
 have hws0:wq.cell? ⟨wb,wo,none⟩=some (.string (strB nm)):=hcell 0 _ (strV_at hnm)
 have hqi:(0:Int) < qn:=by omega
 have c0:=cell_of_row wq g5 0 _ _ _ hg5
 have c1:=cell_of_row wq g5 1 _ _ _ hg5
 have c2:=cell_of_row wq g5 2 _ _ _ hg5
 have c3:=cell_of_row wq g5 3 _ _ _ hg5
 have c4:=cell_of_row wq g5 4 _ _ _ hg5
 have c5:=cell_of_row wq g5 5 _ _ _ hg5
 have c6:=cell_of_row wq g5 6 _ _ _ hg5
 have hbuf:r.buf.length≤100000000000:=by have:=hs.2;omega
 have hF7:∀ {a b c d e f g:Value} {cs:Array Value},cs.size=7→0+[a,b,c,d,e,f,g].length≤cs.size:=fun h=>by rw [h];exact Nat.le_refl 7
 obtain⟨SN,hSN⟩:∃ S,S=strB nm:=⟨_,rfl⟩
 rw [← hSN] at htn hws0
 have tkRead:(SN.toList == [114,101,97,100])=false:=by rw [htn,hk];decide
 have ukRead:¬ SN.toList=[114,101,97,100]:=by rw [htn,hk];decide
 have tkTry:(SN.toList == [116,114,121])=false:=by rw [htn,hk];decide
 have ukTry:¬ SN.toList=[116,114,121]:=by rw [htn,hk];decide
 have tkScan:(SN.toList == [115,99,97,110])=false:=by rw [htn,hk];decide
 have ukScan:¬ SN.toList=[115,99,97,110]:=by rw [htn,hk];decide
 have tkText:(SN.toList == [116,101,120,116])=true:=by rw [htn,beq_iff_eq,hk]
 have ukText:SN.toList=[116,101,120,116]:=by rw [htn,hk]
 have hbl:=behindT_len line
 have cBH:=fun (W:World)=>rbehind_any W (strB line) (by rw [strB_size];omega)
 rw [strB_list,← hSL] at cBH
 have cAD:=fun (W:World) (h:RSA W B AA an ac AW wn wc k P D y r)=>radd_st W B (strB (behindT line++[10])) AA AW an ac wn wc k y P D r h hbuf (behindT line++[10]) rfl (by rw [List.length_append,List.length_singleton];omega)
 rw [← hRES] at cAD
 have hcat:strB (behindT line)++⟨#[10]⟩=strB (behindT line++[10]):=strB_append _ [10]
 have hbs:(strB (behindT line)).size≤65536:=by rw [strB_size];omega
 obtain⟨BH,hBH⟩:∃ S,S=strB (behindT line):=⟨_,rfl⟩
 obtain⟨BHN,hBHN⟩:∃ S,S=strB (behindT line++[10]):=⟨_,rfl⟩
 rw [← hBH] at cBH hcat hbs
 rw [← hBHN] at cAD hcat
 have hg2:¬ (BH.size+1 > 9223372036854775807):=by omega
 have hg3:¬ (BH.size+(⟨#[10]⟩:ByteArray).size > 9223372036854775807):=by
  have:(⟨#[10]⟩:ByteArray).size=1:=rfl
  omega
 have CBH:=hid2 cBH
 have CAD:=hid2 cAD
 clear hbl cBH cAD hbs hBH hBHN hbuf hln
 clear hSL hRES hw1 hwq hs1 hs2 hb1 hb2 hg5 hg10 hg5e hg10e hcell hrw hnm hk hSN htn h hs
 go_enter Tryz.func34,Tryz.ntmps34
 go_upto_region 1 with fail
 rw [H12.out,← HE.out.2,← HE.out.1]
 go_upto_region 16 with fail
 refine wp_region_grd 5 (by kernel_rfl) (by kernel_rfl) (by kernel_rfl) _ rfl (by kernel_rfl) (VV [some (.agg #[.string B,.slice AA an ac,.slice AW wn wc,.int .i64 k,.string P,.string D,.int .i64 y]),some (.string SL),some (.string BH),some (.string BHN),none] (fun _ v w2=>XSt RES v w2)) (fun w2=>Below wq.heap.size wq w2) (fun a b=>Below a.heap.size a b) ((Below.refl _ wq).drew) (fun j v w1 w2 hb hv=>VV.keep (fun h=>XSt.tkeep (a:=w1) (b:=w2) h (TKeep.of_below hb)) hv) ?_ ?_
 ·refine of_allOps ⟨?_,?_,?_,?_,?_,trivial⟩
  ·intro T2 w2 hM hN hO hE K hK
   have o5:T2[5]?=some (.pointer (some ⟨g5,0,none⟩)):=hO 5 rfl
   clear hE hO hN
   refine step_plain0 rfl ?_
   refine wp_load_row 37 _ rfl g5 (by simp [Act.eval,o5]) 37 _ (0,0) _ ((hM.block g5 (heap_lt HI.out.st)).trans HI.out.st) Tryz.underlying37 rfl (info_st7 rfl) ?_
   exact hK _ _ rfl hM (Below.refl _ _)
  ·intro T2 w2 hM hN hO hE K hK
   have o3:T2[3]?=some (.string SL):=hO 3 rfl
   clear hE hO hN
   refine step_plain0 rfl ?_
   go_simp
   exact hK _ _ rfl hM (Below.refl _ _)
  ·intro T2 w2 hM hN hO hE K hK
   obtain⟨v1,h1,e1⟩:=hE ⟨1,.data⟩ (by simp) rfl _ _ rfl rfl
   rw [show v1 = .string SL from e1] at h1
   clear hE hO hN
   refine step_plain0 rfl ?_
   go_simp
   refine (CBH.out w2).mono ?_
   rintro e w5 ⟨rfl,rfl⟩
   exact hK _ _ rfl hM (Below.refl _ _)
  ·intro T2 w2 hM hN hO hE K hK
   obtain⟨v2,h2,e2⟩:=hE ⟨2,.data⟩ (by simp) rfl _ _ rfl rfl
   rw [show v2 = .string BH from e2] at h2
   clear hE hO hN
   refine step_plain0 rfl ?_
   go_simp
   exact hK _ _ rfl hM (Below.refl _ _)
  ·intro T2 w2 hM hN hO hE K hK
   obtain⟨v0,h0,e0⟩:=hE ⟨0,.data⟩ (by simp) rfl _ _ rfl rfl
   rw [show v0 = .agg #[.string B,.slice AA an ac,.slice AW wn wc,.int .i64 k,.string P,.string D,.int .i64 y] from e0] at h0
   obtain⟨v3,h3,e3⟩:=hE ⟨3,.data⟩ (by simp) rfl _ _ rfl rfl
   rw [show v3 = .string BHN from e3] at h3
   clear hE hO hN
   refine step_plain0 rfl ?_
   go_simp
   refine (CAD.out w2 (HI.out.rs.below hM)).mono ?_
   rintro e w5 ⟨B5,AA5,an5,ac5,AW5,wn5,wc5,k5,P5,D5,y5,rfl,hq4,hb4⟩
   exact hK _ _ ⟨B5,AA5,an5,ac5,AW5,wn5,wc5,k5,P5,D5,y5,rfl,hq4⟩ (hM.trans (hb4.mono hM.size)) hb4
 ·intro u w13 hM hF
  obtain⟨B5,AA5,an5,ac5,AW5,wn5,wc5,k5,P5,D5,y5,e4,hq4⟩:=(show XSt RES (u 4) w13 from hF 4 (by omega))
  clear hF
  simp only [fillAll,Nat.reduceAdd,e4,List.take_succ_cons,List.take_zero,List.drop_succ_cons,List.drop_zero,List.setIfInBounds_toArray,List.set_cons_succ,List.set_cons_zero]
  have HI13:=hid2 (HI.out.keep hM)
  have HQ4:=hid2 hq4
  have zo:=HI13.out.out
  clear hM hq4
  go_wp2_with ((with_reducible refine wpList_store_lit g10 0 (.agg #[.string B5,.slice AA5 an5 ac5,.slice AW5 wn5 wc5,.int .i64 k5,.string P5,.string D5,.int .i64 y5]) [.string B5,.slice AA5 an5 ac5,.slice AW5 wn5 wc5,.int .i64 k5,.string P5,.string D5,.int .i64 y5] rfl _ 37 zo (info_st _ _ _ _ _ _ _) (hF7 rfl) one_st ?_ ?_);exact⟨rfl,rfl⟩;rw [laid_st7 rfl])
  try simp only [Act.put]
  refine bodyPost_ret (v:=.agg #[.string B5,.slice AA5 an5 ac5,.slice AW5 wn5 wc5,.int .i64 k5,.string P5,.string D5,.int .i64 y5]) (results_cell_row rfl _ _ g10 37 _ (0,0) _ rfl (setRow_heap w13 g10 _ _ _ _ HI13.out.out) Tryz.underlying37 rfl (by kernel_rfl)) rfl ?_
  exact HI13.out.done HQ4.out _
theorem turnedR_len {nm b:TT} (hb:b.length≤65536):(turnedR nm b).length≤100000:=by
 have h1:=linesT_len b
 have h2:=wholeT_lines b
 unfold turnedR
 split
 ·rw [wholeT_sort];omega
 ·split
  ·have:=wholeT_sub (compact_sub (linesT b))
   unfold uniqT
   omega
  ·split
   ·have:=dec_short (linesT b).length (by omega)
    rw [List.length_append,List.length_singleton]
    omega
   ·rw [upT,List.length_map];omega
def XRow (l:List TT) (v:Value) (w:World):Prop:=∃ A c,v = .slice A l.length c∧Rd w 1 A l.length (strV l)
theorem XRow.below {l:List TT} {v:Value} {a b:World} (h:XRow l v a) (hb:Below a.heap.size a b):XRow l v b:=by
 obtain⟨A,c,h1,h2⟩:=h
 exact⟨A,c,h1,h2.below_all hb⟩
set_option maxHeartbeats 16000000 in
theorem rstep_turn (w:World) (B:ByteArray) (AA:Option Addr) (an ac:Nat) (AW:Option Addr) (wn wc:Nat) (k:Int) (P D:ByteArray) (y:Int) (r:RS) (h:RSA w B AA an ac AW wn wc k P D y r) (hs:r.Small) (EA:Option Addr) (en ec:Nat) (KA:Option Addr) (kn kc:Nat) (line:TT) (hln:line.length≤65536) (WA:Option Addr) (qn qc:Nat) (ws:List TT) (nm:TT) (hnm:ws[0]?=some nm) (hk:nm=nm) (hqn:0 < qn) (hrw:Rd w 1 WA qn (strV ws)) (nkRead:nm≠kRead) (nkTry:nm≠kTry) (nkScan:nm≠kScan) (nkText:nm≠kText) (nkEnv:nm≠kEnv) (nkFail:nm≠kFail) (nkNeed:nm≠kNeed) (nkKeep:nm≠kKeep) (nkWrite:nm≠kWrite) :
  Calls Tryz.prog 34 #[.agg #[.string B,.slice AA an ac,.slice AW wn wc,.int .i64 k,.string P,.string D,.int .i64 y],.slice EA en ec,.slice KA kn kc,.string (strB line),.slice WA qn qc] w (StPost w (RS.add { r with buf:=[] } (turnedR nm r.buf))):=by
 have htn:=toList_strBT nm
 obtain⟨SL,hSL⟩:∃ S,S=strB line:=⟨_,rfl⟩
 rw [← hSL]
 obtain⟨RES,hRES⟩:∃ R,R=RS.add { r with buf:=[] } (turnedR nm r.buf):=⟨_,rfl⟩
 rw [← hRES]
 obtain⟨w1,hw1⟩:∃ w1,w1=w.alloc (.cells #[.string B,.slice AA an ac,.slice AW wn wc,.int .i64 k,.string P,.string D,.int .i64 y] 37):=⟨_,rfl⟩
 obtain⟨wq,hwq⟩:∃ wq,wq=w1.alloc (.cells #[.string ⟨#[]⟩,.slice none 0 0,.slice none 0 0,.int .i64 0,.string ⟨#[]⟩,.string ⟨#[]⟩,.int .i64 0] 37):=⟨_,rfl⟩
 have hs1:w1.heap.size=w.heap.size+1:=by rw [hw1,World.size_alloc]
 have hs2:wq.heap.size=w.heap.size+1+1:=by rw [hwq,World.size_alloc,hs1]
 have hb1:Below w.heap.size w w1:=by rw [hw1];exact (Below.refl _ _).alloc (Nat.le_refl _) _
 have hb2:Below w.heap.size w wq:=by rw [hwq];exact hb1.alloc (by omega) _
 have hg5:wq.heap[w.heap.size]?=some (.cells #[.string B,.slice AA an ac,.slice AW wn wc,.int .i64 k,.string P,.string D,.int .i64 y] 37 (0,0)):=by
  rw [hwq,Below.heap_alloc _ _ _ (by omega),hw1]
  exact World.alloc_heap_new _ _
 have hg10:wq.heap[w.heap.size+1]?=some (.cells zSt 37 (0,0)):=by
  rw [hwq,← hs1]
  exact World.alloc_heap_new _ _
 obtain⟨g5,hg5e⟩:∃ g,g=w.heap.size:=⟨_,rfl⟩
 obtain⟨g10,hg10e⟩:∃ g,g=w.heap.size+1:=⟨_,rfl⟩
 rw [← hg5e] at hg5
 rw [← hg10e] at hg10
 have H12:=hid2 (show (w.alloc (.cells #[.string B,.slice AA an ac,.slice AW wn wc,.int .i64 k,.string P,.string D,.int .i64 y] 37)).alloc (.cells #[.string ⟨#[]⟩,.slice none 0 0,.slice none 0 0,.int .i64 0,.string ⟨#[]⟩,.string ⟨#[]⟩,.int .i64 0] 37)=wq from by rw [hwq,hw1])
 have HE:=hid2 (And.intro hg5e hg10e)
 have HI:=hid2 (show StepI w wq g5 g10 B AA an ac AW wn wc k P D y r from ⟨hb2,by omega,by omega,by omega,hg5,hg10,h.below hb2⟩)
 obtain⟨wb,wo,hWA,hcell⟩:=(hrw.below_all hb2).2 hqn
 subst hWA
 have hws0:wq.cell? ⟨wb,wo,none⟩=some (.string (strB nm)):=hcell 0 _ (strV_at hnm)
 have hqi:(0:Int) < qn:=by omega
 have c0:=cell_of_row wq g5 0 _ _ _ hg5
 have c1:=cell_of_row wq g5 1 _ _ _ hg5
 have c2:=cell_of_row wq g5 2 _ _ _ hg5
 have c3:=cell_of_row wq g5 3 _ _ _ hg5
 have c4:=cell_of_row wq g5 4 _ _ _ hg5
 have c5:=cell_of_row wq g5 5 _ _ _ hg5
 have c6:=cell_of_row wq g5 6 _ _ _ hg5
 have hbuf:r.buf.length≤100000000000:=by have:=hs.2;omega
 have hF7:∀ {a b c d e f g:Value} {cs:Array Value},cs.size=7→0+[a,b,c,d,e,f,g].length≤cs.size:=fun h=>by rw [h];exact Nat.le_refl 7
 obtain⟨SN,hSN⟩:∃ S,S=strB nm:=⟨_,rfl⟩
 rw [← hSN] at htn hws0
 have tkRead:(SN.toList == [114,101,97,100])=false:=by rw [htn,beq_eq_false_iff_ne];exact nkRead
 have ukRead:¬ SN.toList=[114,101,97,100]:=by rw [htn];exact nkRead
 have tkTry:(SN.toList == [116,114,121])=false:=by rw [htn,beq_eq_false_iff_ne];exact nkTry
 have ukTry:¬ SN.toList=[116,114,121]:=by rw [htn];exact nkTry
 have tkScan:(SN.toList == [115,99,97,110])=false:=by rw [htn,beq_eq_false_iff_ne];exact nkScan
 have ukScan:¬ SN.toList=[115,99,97,110]:=by rw [htn];exact nkScan
 have tkText:(SN.toList == [116,101,120,116])=false:=by rw [htn,beq_eq_false_iff_ne];exact nkText
 have ukText:¬ SN.toList=[116,101,120,116]:=by rw [htn];exact nkText
 have tkEnv:(SN.toList == [101,110,118])=false:=by rw [htn,beq_eq_false_iff_ne];exact nkEnv
 have ukEnv:¬ SN.toList=[101,110,118]:=by rw [htn];exact nkEnv
 have tkFail:(SN.toList == [102,97,105,108])=false:=by rw [htn,beq_eq_false_iff_ne];exact nkFail
 have ukFail:¬ SN.toList=[102,97,105,108]:=by rw [htn];exact nkFail
 have tkNeed:(SN.toList == [110,101,101,100])=false:=by rw [htn,beq_eq_false_iff_ne];exact nkNeed
 have ukNeed:¬ SN.toList=[110,101,101,100]:=by rw [htn];exact nkNeed
 have tkKeep:(SN.toList == [107,101,101,112])=false:=by rw [htn,beq_eq_false_iff_ne];exact nkKeep
 have ukKeep:¬ SN.toList=[107,101,101,112]:=by rw [htn];exact nkKeep
 have tkWrite:(SN.toList == [119,114,105,116,101])=false:=by rw [htn,beq_eq_false_iff_ne];exact nkWrite
 have ukWrite:¬ SN.toList=[119,114,105,116,101]:=by rw [htn];exact nkWrite
 have hBe:=h.1
 have hbb:=hs.2
 have htl:=turnedR_len (nm:=nm) hbb
 have cT:=fun (W:World)=>rturned_any W nm B (by rw [hBe,strB_size];exact hbb)
 rw [hBe,strB_list,← hBe,← hSN] at cT
 have cAD:=fun (W:World) (h:RSA W ⟨#[]⟩ AA an ac AW wn wc k P D y { r with buf:=[] })=>radd_st W ⟨#[]⟩ (strB (turnedR nm r.buf)) AA AW an ac wn wc k y P D { r with buf:=[] } h (Nat.zero_le _) (turnedR nm r.buf) rfl (by omega)
 rw [← hRES] at cAD
 obtain⟨TN,hTN⟩:∃ T,T=strB (turnedR nm r.buf):=⟨_,rfl⟩
 rw [← hTN] at cT cAD
 have CT:=hid2 cT
 have CAD:=hid2 cAD
 have HCW0:=hid2 (show ∀ w2,Below wq.heap.size wq w2→w2.cell? ⟨wb,wo,none⟩=some (.string SN) from fun w2 hb=>(hb.cell (p:=⟨wb,wo,none⟩) (World.block_lt_of_cell? _ _ hws0)).trans hws0)
 clear hBe hbb htl cT cAD hTN hbuf hln nkRead nkTry nkScan nkText nkEnv nkFail nkNeed nkKeep nkWrite
 clear hSL hRES hw1 hwq hs1 hs2 hb1 hb2 hg5 hg10 hg5e hg10e hcell hrw hnm hk hSN htn h hs
 go_enter Tryz.func34,Tryz.ntmps34
 go_upto_region 1 with fail
 rw [H12.out,← HE.out.2,← HE.out.1]
 go_upto_region 38 with fail
 refine wp_region_grd 7 (by kernel_rfl) (by kernel_rfl) (by kernel_rfl) _ rfl (by kernel_rfl) (VV [some (.slice (some ⟨wb,wo,none⟩) qn qc),some (.pointer (some ⟨wb,wo,none⟩)),some (.string SN),some (.pointer (some ⟨g5,0,none⟩)),some (.string B),some (.string TN),some (.string TN)] (fun _ _ _=>False)) (fun w2=>Below wq.heap.size wq w2) (fun a b=>Below a.heap.size a b) ((Below.refl _ wq).drew) (fun j v w1 w2 hb hv=>VV.keep (fun h=>h.elim) hv) ?_ ?_
 ·refine of_allOps ⟨?_,?_,?_,?_,?_,?_,?_,trivial⟩
  ·intro T2 w2 hM hN hO hE K hK
   have o4:T2[4]?=some (.slice (some ⟨wb,wo,none⟩) qn qc):=hO 4 rfl
   clear hE hO hN
   refine step_plain0 rfl ?_
   go_simp
   exact hK _ _ rfl hM (Below.refl _ _)
  ·intro T2 w2 hM hN hO hE K hK
   obtain⟨v0,h0,e0⟩:=hE ⟨0,.data⟩ (by simp) rfl _ _ rfl rfl
   rw [show v0 = .slice (some ⟨wb,wo,none⟩) qn qc from e0] at h0
   clear hE hO hN
   refine step_plain0 rfl ?_
   go_simp
   exact hK _ _ rfl hM (Below.refl _ _)
  ·intro T2 w2 hM hN hO hE K hK
   obtain⟨v1,h1,e1⟩:=hE ⟨1,.data⟩ (by simp) rfl _ _ rfl rfl
   rw [show v1 = .pointer (some ⟨wb,wo,none⟩) from e1] at h1
   clear hE hO hN
   refine step_plain0 rfl ?_
   have yw:=HCW0.out w2 hM
   go_simp
   exact hK _ _ rfl hM (Below.refl _ _)
  ·intro T2 w2 hM hN hO hE K hK
   have o5:T2[5]?=some (.pointer (some ⟨g5,0,none⟩)):=hO 5 rfl
   clear hE hO hN
   refine step_plain0 rfl ?_
   go_simp
   exact hK _ _ rfl hM (Below.refl _ _)
  ·intro T2 w2 hM hN hO hE K hK
   obtain⟨v3,h3,e3⟩:=hE ⟨3,.data⟩ (by simp) rfl _ _ rfl rfl
   rw [show v3 = .pointer (some ⟨g5,0,none⟩) from e3] at h3
   clear hE hO hN
   refine step_plain0 rfl ?_
   have yb:=cell_of_row w2 g5 0 _ _ _ ((hM.block g5 (heap_lt HI.out.st)).trans HI.out.st)
   go_simp
   exact hK _ _ rfl hM (Below.refl _ _)
  ·intro T2 w2 hM hN hO hE K hK
   obtain⟨v2,h2,e2⟩:=hE ⟨2,.data⟩ (by simp) rfl _ _ rfl rfl
   rw [show v2 = .string SN from e2] at h2
   obtain⟨v4,h4,e4⟩:=hE ⟨4,.data⟩ (by simp) rfl _ _ rfl rfl
   rw [show v4 = .string B from e4] at h4
   clear hE hO hN
   refine step_plain0 rfl ?_
   go_simp
   refine (CT.out w2).mono ?_
   rintro e w5 ⟨rfl,hb4⟩
   exact hK _ _ rfl (hM.trans (hb4.mono hM.size)) hb4
  ·intro T2 w2 hM hN hO hE K hK
   obtain⟨v5,h5,e5⟩:=hE ⟨5,.data⟩ (by simp) rfl _ _ rfl rfl
   rw [show v5 = .string TN from e5] at h5
   clear hE hO hN
   refine step_plain0 rfl ?_
   go_simp
   exact hK _ _ rfl hM (Below.refl _ _)
 ·intro u w13 hM hF
  have e6:u 6 = .string TN:=hF 6 (by omega)
  clear hF
  simp only [fillAll,Nat.reduceAdd,e6,List.take_succ_cons,List.take_zero,List.drop_succ_cons,List.drop_zero,List.setIfInBounds_toArray,List.set_cons_succ,List.set_cons_zero]
  have HI13:=hid2 (HI.out.keep hM)
  have y13:=cell_of_row w13 g5 0 _ _ _ HI13.out.st
  have f13:=frozen_of_row w13 g5 0 _ _ HI13.out.st
  clear hM
  go_upto_region 40 with fail
  obtain⟨wx,hwx⟩:∃ wx,wx=w13.setCell ⟨g5,0,none⟩ (.string ⟨#[]⟩):=⟨_,rfl⟩
  rw [← hwx]
  have hx2:wx=w13.setRow g5 #[.string ⟨#[]⟩,.slice AA an ac,.slice AW wn wc,.int .i64 k,.string P,.string D,.int .i64 y]:=by rw [hwx];exact setCell_eq_setRow w13 g5 0 _ _ _ _ HI13.out.st
  have HIX:=hid2 (show StepI w wx g5 g10 ⟨#[]⟩ AA an ac AW wn wc k P D y { r with buf:=[] } from by
   rw [hx2]
   obtain⟨f1,f2,f3,f4,f5,f6⟩:=HI13.out.rs
   exact HI13.out.put ⟨rfl,f2,f3,f4,f5,f6⟩)
  clear hwx hx2 y13 f13 c0 c1 c2 c3 c4 c5 c6
  have c0:=cell_of_row wx g5 0 _ _ _ HIX.out.st
  have c1:=cell_of_row wx g5 1 _ _ _ HIX.out.st
  have c2:=cell_of_row wx g5 2 _ _ _ HIX.out.st
  have c3:=cell_of_row wx g5 3 _ _ _ HIX.out.st
  have c4:=cell_of_row wx g5 4 _ _ _ HIX.out.st
  have c5:=cell_of_row wx g5 5 _ _ _ HIX.out.st
  have c6:=cell_of_row wx g5 6 _ _ _ HIX.out.st
  go_wp2_with (first
   | (go_at_call 53; refine (CAD.out wx HIX.out.rs).mono ?_;rintro e wa ⟨B5,AA5,an5,ac5,AW5,wn5,wc5,k5,P5,D5,y5,rfl,hq,hb⟩;have HIA:=hid2 (HIX.out.keep hb);have HQ:=hid2 hq;have zo:=HIA.out.out;clear hb hq)
   | ((with_reducible refine wpList_store_lit g10 0 (.agg #[.string B5,.slice AA5 an5 ac5,.slice AW5 wn5 wc5,.int .i64 k5,.string P5,.string D5,.int .i64 y5]) [.string B5,.slice AA5 an5 ac5,.slice AW5 wn5 wc5,.int .i64 k5,.string P5,.string D5,.int .i64 y5] rfl _ 37 zo (info_st _ _ _ _ _ _ _) (hF7 rfl) one_st ?_ ?_);exact⟨rfl,rfl⟩;rw [laid_st7 rfl]))
  try simp only [Act.put]
  refine bodyPost_ret (v:=.agg #[.string B5,.slice AA5 an5 ac5,.slice AW5 wn5 wc5,.int .i64 k5,.string P5,.string D5,.int .i64 y5]) (results_cell_row rfl _ _ g10 37 _ (0,0) _ rfl (setRow_heap wa g10 _ _ _ _ HIA.out.out) Tryz.underlying37 rfl (by kernel_rfl)) rfl ?_
  exact HIA.out.done HQ.out _
set_option maxHeartbeats 16000000 in
theorem rstep_keep (w:World) (B:ByteArray) (AA:Option Addr) (an ac:Nat) (AW:Option Addr) (wn wc:Nat) (k:Int) (P D:ByteArray) (y:Int) (r:RS) (h:RSA w B AA an ac AW wn wc k P D y r) (hs:r.Small) (EA:Option Addr) (en ec:Nat) (KA:Option Addr) (kn kc:Nat) (line:TT) (hln:line.length≤65536) (WA:Option Addr) (qn qc:Nat) (ws:List TT) (nm:TT) (hnm:ws[0]?=some nm) (hk:nm=kKeep) (hqn:0 < qn) (hrw:Rd w 1 WA qn (strV ws)) (arg:TT) (harg:ws[1]?=some arg) (hq1:1 < qn) (hal:arg.length≤65536) :
  Calls Tryz.prog 34 #[.agg #[.string B,.slice AA an ac,.slice AW wn wc,.int .i64 k,.string P,.string D,.int .i64 y],.slice EA en ec,.slice KA kn kc,.string (strB line),.slice WA qn qc] w (StPost w (RS.add { r with buf:=[] } (wholeT ((linesT r.buf).filter (hasT · arg))))):=by
 have htn:=toList_strBT nm
 obtain⟨SL,hSL⟩:∃ S,S=strB line:=⟨_,rfl⟩
 rw [← hSL]
 obtain⟨RES,hRES⟩:∃ R,R=RS.add { r with buf:=[] } (wholeT ((linesT r.buf).filter (hasT · arg))):=⟨_,rfl⟩
 rw [← hRES]
 obtain⟨w1,hw1⟩:∃ w1,w1=w.alloc (.cells #[.string B,.slice AA an ac,.slice AW wn wc,.int .i64 k,.string P,.string D,.int .i64 y] 37):=⟨_,rfl⟩
 obtain⟨wq,hwq⟩:∃ wq,wq=w1.alloc (.cells #[.string ⟨#[]⟩,.slice none 0 0,.slice none 0 0,.int .i64 0,.string ⟨#[]⟩,.string ⟨#[]⟩,.int .i64 0] 37):=⟨_,rfl⟩
 have hs1:w1.heap.size=w.heap.size+1:=by rw [hw1,World.size_alloc]
 have hs2:wq.heap.size=w.heap.size+1+1:=by rw [hwq,World.size_alloc,hs1]
 have hb1:Below w.heap.size w w1:=by rw [hw1];exact (Below.refl _ _).alloc (Nat.le_refl _) _
 have hb2:Below w.heap.size w wq:=by rw [hwq];exact hb1.alloc (by omega) _
 have hg5:wq.heap[w.heap.size]?=some (.cells #[.string B,.slice AA an ac,.slice AW wn wc,.int .i64 k,.string P,.string D,.int .i64 y] 37 (0,0)):=by
  rw [hwq,Below.heap_alloc _ _ _ (by omega),hw1]
  exact World.alloc_heap_new _ _
 have hg10:wq.heap[w.heap.size+1]?=some (.cells zSt 37 (0,0)):=by
  rw [hwq,← hs1]
  exact World.alloc_heap_new _ _
 obtain⟨g5,hg5e⟩:∃ g,g=w.heap.size:=⟨_,rfl⟩
 obtain⟨g10,hg10e⟩:∃ g,g=w.heap.size+1:=⟨_,rfl⟩
 rw [← hg5e] at hg5
 rw [← hg10e] at hg10
 have H12:=hid2 (show (w.alloc (.cells #[.string B,.slice AA an ac,.slice AW wn wc,.int .i64 k,.string P,.string D,.int .i64 y] 37)).alloc (.cells #[.string ⟨#[]⟩,.slice none 0 0,.slice none 0 0,.int .i64 0,.string ⟨#[]⟩,.string ⟨#[]⟩,.int .i64 0] 37)=wq from by rw [hwq,hw1])
 have HE:=hid2 (And.intro hg5e hg10e)
 have HI:=hid2 (show StepI w wq g5 g10 B AA an ac AW wn wc k P D y r from ⟨hb2,by omega,by omega,by omega,hg5,hg10,h.below hb2⟩)
 obtain⟨wb,wo,hWA,hcell⟩:=(hrw.below_all hb2).2 hqn
 subst hWA
 have hws0:wq.cell? ⟨wb,wo,none⟩=some (.string (strB nm)):=hcell 0 _ (strV_at hnm)
 have hqi:(0:Int) < qn:=by omega
 have c0:=cell_of_row wq g5 0 _ _ _ hg5
 have c1:=cell_of_row wq g5 1 _ _ _ hg5
 have c2:=cell_of_row wq g5 2 _ _ _ hg5
 have c3:=cell_of_row wq g5 3 _ _ _ hg5
 have c4:=cell_of_row wq g5 4 _ _ _ hg5
 have c5:=cell_of_row wq g5 5 _ _ _ hg5
 have c6:=cell_of_row wq g5 6 _ _ _ hg5
 have hbuf:r.buf.length≤100000000000:=by have:=hs.2;omega
 have hF7:∀ {a b c d e f g:Value} {cs:Array Value},cs.size=7→0+[a,b,c,d,e,f,g].length≤cs.size:=fun h=>by rw [h];exact Nat.le_refl 7
 obtain⟨SN,hSN⟩:∃ S,S=strB nm:=⟨_,rfl⟩
 rw [← hSN] at htn hws0
 have tkRead:(SN.toList == [114,101,97,100])=false:=by rw [htn,hk];decide
 have ukRead:¬ SN.toList=[114,101,97,100]:=by rw [htn,hk];decide
 have tkTry:(SN.toList == [116,114,121])=false:=by rw [htn,hk];decide
 have ukTry:¬ SN.toList=[116,114,121]:=by rw [htn,hk];decide
 have tkScan:(SN.toList == [115,99,97,110])=false:=by rw [htn,hk];decide
 have ukScan:¬ SN.toList=[115,99,97,110]:=by rw [htn,hk];decide
 have tkText:(SN.toList == [116,101,120,116])=false:=by rw [htn,hk];decide
 have ukText:¬ SN.toList=[116,101,120,116]:=by rw [htn,hk];decide
 have tkEnv:(SN.toList == [101,110,118])=false:=by rw [htn,hk];decide
 have ukEnv:¬ SN.toList=[101,110,118]:=by rw [htn,hk];decide
 have tkFail:(SN.toList == [102,97,105,108])=false:=by rw [htn,hk];decide
 have ukFail:¬ SN.toList=[102,97,105,108]:=by rw [htn,hk];decide
 have tkNeed:(SN.toList == [110,101,101,100])=false:=by rw [htn,hk];decide
 have ukNeed:¬ SN.toList=[110,101,101,100]:=by rw [htn,hk];decide
 have tkKeep:(SN.toList == [107,101,101,112])=true:=by rw [htn,beq_iff_eq,hk]
 have ukKeep:SN.toList=[107,101,101,112]:=by rw [htn,hk]
 have hws1:wq.cell? ⟨wb,wo+1,none⟩=some (.string (strB arg)):=hcell 1 _ (strV_at harg)
 have hq1i:(1:Int) < qn:=by omega
 have hta:=toList_strBT arg
 obtain⟨SA1,hSA1⟩:∃ S,S=strB arg:=⟨_,rfl⟩
 rw [← hSA1] at hws1 hta
 have HCW1:=hid2 (show ∀ w2,Below wq.heap.size wq w2→w2.cell? ⟨wb,wo+1,none⟩=some (.string SA1) from fun w2 hb=>(hb.cell (p:=⟨wb,wo+1,none⟩) (World.block_lt_of_cell? _ _ hws1)).trans hws1)
 have hBe:=h.1
 have hbb:=hs.2
 obtain⟨L,hL⟩:∃ L,L=linesT r.buf:=⟨_,rfl⟩
 have hLl:L.length≤65537:=by rw [hL];have:=linesT_len r.buf;omega
 have cLN:∀ W,Calls Tryz.prog 29 #[.string B] W fun e w'=>∃ A c,e = .returned (.slice A L.length c)∧Own w' W.heap.size 9 1 A L.length c (strV L)∧Below W.heap.size W w':=fun W=>by
  have:=rlines_any W B (by rw [hBe,strB_size];omega)
  rw [hBe,strB_list,← hBe,← hL] at this
  exact this
 obtain⟨L2,hL2⟩:∃ L2,L2=L.filter (hasT · arg):=⟨_,rfl⟩
 have cKP:∀ W A c,Rd W 1 A L.length (strV L)→Calls Tryz.prog 56 #[.slice A L.length c,.string SA1] W fun e w'=>∃ A c,e = .returned (.slice A L2.length c)∧Own w' W.heap.size 9 1 A L2.length c (strV L2)∧Below W.heap.size W w':=fun W A c hr=>by
  have:=rkept_any W A c L SA1 (by omega) (fun x hx=>by rw [hL] at hx;have:=linesT_le hx;omega) (by rw [hSA1,strB_size];omega) hr
  rw [show SA1.data.toList=arg by rw [hSA1,strB_list],← hL2] at this
  exact this
 have hw2:(wholeT L2).length≤65537:=by
  have h1:=wholeT_sub (List.filter_sublist (l:=L) (p:=(hasT · arg)))
  have h2:=wholeT_lines r.buf
  rw [← hL] at h2
  rw [← hL2] at h1
  omega
 have cWH:∀ W A c,Rd W 1 A L2.length (strV L2)→Calls Tryz.prog 57 #[.slice A L2.length c] W fun e w'=>e = .returned (.string (strB (wholeT L2)))∧w'=W:=fun W A c hr=>rwhole_any W A c L2 (by rw [hL2];have:=List.length_filter_le (hasT · arg) L;omega) (by omega) hr
 have cAD:=fun (W:World) (h:RSA W ⟨#[]⟩ AA an ac AW wn wc k P D y { r with buf:=[] })=>radd_st W ⟨#[]⟩ (strB (wholeT L2)) AA AW an ac wn wc k y P D { r with buf:=[] } h (Nat.zero_le _) (wholeT L2) rfl (by omega)
 rw [← hL,← hL2] at hRES
 rw [← hRES] at cAD
 obtain⟨TN,hTN⟩:∃ T,T=strB (wholeT L2):=⟨_,rfl⟩
 rw [← hTN] at cWH cAD
 have CLN:=hid2 cLN
 have CKP:=hid2 cKP
 have CWH:=hid2 cWH
 have CAD:=hid2 cAD
 clear hBe hbb hL hLl cLN hL2 cKP hw2 cWH cAD hTN hbuf hln hws1 hta hSA1 harg hal
 clear hSL hRES hw1 hwq hs1 hs2 hb1 hb2 hg5 hg10 hg5e hg10e hcell hrw hnm hk hSN htn h hs
 go_enter Tryz.func34,Tryz.ntmps34
 go_upto_region 1 with fail
 rw [H12.out,← HE.out.2,← HE.out.1]
 go_upto_region 31 with fail
 refine wp_region_grd 9 (by kernel_rfl) (by kernel_rfl) (by kernel_rfl) _ rfl (by kernel_rfl) (VV [some (.pointer (some ⟨g5,0,none⟩)),some (.string B),none,some (.slice (some ⟨wb,wo,none⟩) qn qc),some (.pointer (some ⟨wb,wo+1,none⟩)),some (.string SA1),none,some (.string TN),some (.string TN)] (fun j v w2=>(j=2→XRow L v w2)∧(j=6→XRow L2 v w2))) (fun w2=>Below wq.heap.size wq w2) (fun a b=>Below a.heap.size a b) ((Below.refl _ wq).drew) (fun j v w1 w2 hb hv=>VV.keep (fun h=>⟨fun e=>XRow.below (a:=w1) (b:=w2) (h.1 e) hb,fun e=>XRow.below (a:=w1) (b:=w2) (h.2 e) hb⟩) hv) ?_ ?_
 ·refine of_allOps ⟨?_,?_,?_,?_,?_,?_,?_,?_,?_,trivial⟩
  ·intro T2 w2 hM hN hO hE K hK
   have o5:T2[5]?=some (.pointer (some ⟨g5,0,none⟩)):=hO 5 rfl
   clear hE hO hN
   refine step_plain0 rfl ?_
   go_simp
   exact hK _ _ rfl hM (Below.refl _ _)
  ·intro T2 w2 hM hN hO hE K hK
   obtain⟨v0,h0,e0⟩:=hE ⟨0,.data⟩ (by simp) rfl _ _ rfl rfl
   rw [show v0 = .pointer (some ⟨g5,0,none⟩) from e0] at h0
   clear hE hO hN
   refine step_plain0 rfl ?_
   have yb:=cell_of_row w2 g5 0 _ _ _ ((hM.block g5 (heap_lt HI.out.st)).trans HI.out.st)
   go_simp
   exact hK _ _ rfl hM (Below.refl _ _)
  ·intro T2 w2 hM hN hO hE K hK
   obtain⟨v1,h1,e1⟩:=hE ⟨1,.data⟩ (by simp) rfl _ _ rfl rfl
   rw [show v1 = .string B from e1] at h1
   clear hE hO hN
   refine step_plain0 rfl ?_
   go_simp
   refine (CLN.out w2).mono ?_
   rintro e w5 ⟨A5,c5,rfl,ho,hb4⟩
   exact hK _ _ ⟨fun _=>⟨A5,c5,rfl,ho.rd⟩,fun e=>absurd e (by decide)⟩ (hM.trans (hb4.mono hM.size)) hb4
  ·intro T2 w2 hM hN hO hE K hK
   have o4:T2[4]?=some (.slice (some ⟨wb,wo,none⟩) qn qc):=hO 4 rfl
   clear hE hO hN
   refine step_plain0 rfl ?_
   go_simp
   exact hK _ _ rfl hM (Below.refl _ _)
  ·intro T2 w2 hM hN hO hE K hK
   obtain⟨v3,h3,e3⟩:=hE ⟨3,.data⟩ (by simp) rfl _ _ rfl rfl
   rw [show v3 = .slice (some ⟨wb,wo,none⟩) qn qc from e3] at h3
   clear hE hO hN
   refine step_plain0 rfl ?_
   go_simp
   exact hK _ _ rfl hM (Below.refl _ _)
  ·intro T2 w2 hM hN hO hE K hK
   obtain⟨v4,h4,e4⟩:=hE ⟨4,.data⟩ (by simp) rfl _ _ rfl rfl
   rw [show v4 = .pointer (some ⟨wb,wo+1,none⟩) from e4] at h4
   clear hE hO hN
   refine step_plain0 rfl ?_
   have yw:=HCW1.out w2 hM
   go_simp
   exact hK _ _ rfl hM (Below.refl _ _)
  ·intro T2 w2 hM hN hO hE K hK
   obtain⟨v2,h2,e2⟩:=hE ⟨2,.data⟩ (by simp) rfl _ _ rfl rfl
   obtain⟨v5,h5,e5⟩:=hE ⟨5,.data⟩ (by simp) rfl _ _ rfl rfl
   rw [show v5 = .string SA1 from e5] at h5
   clear hE hO hN
   refine step_plain0 rfl ?_
   obtain⟨A6,d6,rfl,hr6⟩:=(show (2=2→XRow L v2 w2)∧(2=6→XRow L2 v2 w2) from e2).1 rfl
   go_simp
   refine (CKP.out w2 A6 d6 hr6).mono ?_
   rintro e w5 ⟨A5,c5,rfl,ho,hb4⟩
   exact hK _ _ ⟨fun e=>absurd e (by decide),fun _=>⟨A5,c5,rfl,ho.rd⟩⟩ (hM.trans (hb4.mono hM.size)) hb4
  ·intro T2 w2 hM hN hO hE K hK
   obtain⟨v6,h6,e6⟩:=hE ⟨6,.data⟩ (by simp) rfl _ _ rfl rfl
   clear hE hO hN
   refine step_plain0 rfl ?_
   obtain⟨A6,d6,rfl,hr6⟩:=(show (6=2→XRow L v6 w2)∧(6=6→XRow L2 v6 w2) from e6).2 rfl
   go_simp
   refine (CWH.out w2 A6 d6 hr6).mono ?_
   rintro e w5 ⟨rfl,rfl⟩
   exact hK _ _ rfl hM (Below.refl _ _)
  ·intro T2 w2 hM hN hO hE K hK
   obtain⟨v7,h7,e7⟩:=hE ⟨7,.data⟩ (by simp) rfl _ _ rfl rfl
   rw [show v7 = .string TN from e7] at h7
   clear hE hO hN
   refine step_plain0 rfl ?_
   go_simp
   exact hK _ _ rfl hM (Below.refl _ _)
 ·intro u w13 hM hF
  have e8:u 8 = .string TN:=hF 8 (by omega)
  clear hF
  simp only [fillAll,Nat.reduceAdd,e8,List.take_succ_cons,List.take_zero,List.drop_succ_cons,List.drop_zero,List.setIfInBounds_toArray,List.set_cons_succ,List.set_cons_zero]
  have HI13:=hid2 (HI.out.keep hM)
  have y13:=cell_of_row w13 g5 0 _ _ _ HI13.out.st
  have f13:=frozen_of_row w13 g5 0 _ _ HI13.out.st
  clear hM
  go_upto_region 33 with fail
  obtain⟨wx,hwx⟩:∃ wx,wx=w13.setCell ⟨g5,0,none⟩ (.string ⟨#[]⟩):=⟨_,rfl⟩
  rw [← hwx]
  have hx2:wx=w13.setRow g5 #[.string ⟨#[]⟩,.slice AA an ac,.slice AW wn wc,.int .i64 k,.string P,.string D,.int .i64 y]:=by rw [hwx];exact setCell_eq_setRow w13 g5 0 _ _ _ _ HI13.out.st
  have HIX:=hid2 (show StepI w wx g5 g10 ⟨#[]⟩ AA an ac AW wn wc k P D y { r with buf:=[] } from by
   rw [hx2]
   obtain⟨f1,f2,f3,f4,f5,f6⟩:=HI13.out.rs
   exact HI13.out.put ⟨rfl,f2,f3,f4,f5,f6⟩)
  clear hwx hx2 y13 f13 c0 c1 c2 c3 c4 c5 c6
  have c0:=cell_of_row wx g5 0 _ _ _ HIX.out.st
  have c1:=cell_of_row wx g5 1 _ _ _ HIX.out.st
  have c2:=cell_of_row wx g5 2 _ _ _ HIX.out.st
  have c3:=cell_of_row wx g5 3 _ _ _ HIX.out.st
  have c4:=cell_of_row wx g5 4 _ _ _ HIX.out.st
  have c5:=cell_of_row wx g5 5 _ _ _ HIX.out.st
  have c6:=cell_of_row wx g5 6 _ _ _ HIX.out.st
  go_wp2_with (first
   | (go_at_call 53; refine (CAD.out wx HIX.out.rs).mono ?_;rintro e wa ⟨B5,AA5,an5,ac5,AW5,wn5,wc5,k5,P5,D5,y5,rfl,hq,hb⟩;have HIA:=hid2 (HIX.out.keep hb);have HQ:=hid2 hq;have zo:=HIA.out.out;clear hb hq)
   | ((with_reducible refine wpList_store_lit g10 0 (.agg #[.string B5,.slice AA5 an5 ac5,.slice AW5 wn5 wc5,.int .i64 k5,.string P5,.string D5,.int .i64 y5]) [.string B5,.slice AA5 an5 ac5,.slice AW5 wn5 wc5,.int .i64 k5,.string P5,.string D5,.int .i64 y5] rfl _ 37 zo (info_st _ _ _ _ _ _ _) (hF7 rfl) one_st ?_ ?_);exact⟨rfl,rfl⟩;rw [laid_st7 rfl]))
  try simp only [Act.put]
  refine bodyPost_ret (v:=.agg #[.string B5,.slice AA5 an5 ac5,.slice AW5 wn5 wc5,.int .i64 k5,.string P5,.string D5,.int .i64 y5]) (results_cell_row rfl _ _ g10 37 _ (0,0) _ rfl (setRow_heap wa g10 _ _ _ _ HIA.out.out) Tryz.underlying37 rfl (by kernel_rfl)) rfl ?_
  exact HIA.out.done HQ.out _
set_option maxHeartbeats 16000000 in
theorem rstep_need1 (w:World) (B:ByteArray) (AA:Option Addr) (an ac:Nat) (AW:Option Addr) (wn wc:Nat) (k:Int) (P D:ByteArray) (y:Int) (r:RS) (h:RSA w B AA an ac AW wn wc k P D y r) (hs:r.Small) (EA:Option Addr) (en ec:Nat) (KA:Option Addr) (kn kc:Nat) (line:TT) (hln:line.length≤65536) (WA:Option Addr) (qn qc:Nat) (ws:List TT) (nm:TT) (hnm:ws[0]?=some nm) (hk:nm=kNeed) (hqn:0 < qn) (hrw:Rd w 1 WA qn (strV ws)) (arg:TT) (harg:ws[1]?=some arg) (hq1:1 < qn) (hal:arg.length≤65536) (hany:(linesT r.buf).any (hasT · arg)=true) :
  Calls Tryz.prog 34 #[.agg #[.string B,.slice AA an ac,.slice AW wn wc,.int .i64 k,.string P,.string D,.int .i64 y],.slice EA en ec,.slice KA kn kc,.string (strB line),.slice WA qn qc] w (StPost w (r)):=by
 have htn:=toList_strBT nm
 obtain⟨SL,hSL⟩:∃ S,S=strB line:=⟨_,rfl⟩
 rw [← hSL]
 obtain⟨RES,hRES⟩:∃ R,R=r:=⟨_,rfl⟩
 rw [← hRES]
 obtain⟨w1,hw1⟩:∃ w1,w1=w.alloc (.cells #[.string B,.slice AA an ac,.slice AW wn wc,.int .i64 k,.string P,.string D,.int .i64 y] 37):=⟨_,rfl⟩
 obtain⟨wq,hwq⟩:∃ wq,wq=w1.alloc (.cells #[.string ⟨#[]⟩,.slice none 0 0,.slice none 0 0,.int .i64 0,.string ⟨#[]⟩,.string ⟨#[]⟩,.int .i64 0] 37):=⟨_,rfl⟩
 have hs1:w1.heap.size=w.heap.size+1:=by rw [hw1,World.size_alloc]
 have hs2:wq.heap.size=w.heap.size+1+1:=by rw [hwq,World.size_alloc,hs1]
 have hb1:Below w.heap.size w w1:=by rw [hw1];exact (Below.refl _ _).alloc (Nat.le_refl _) _
 have hb2:Below w.heap.size w wq:=by rw [hwq];exact hb1.alloc (by omega) _
 have hg5:wq.heap[w.heap.size]?=some (.cells #[.string B,.slice AA an ac,.slice AW wn wc,.int .i64 k,.string P,.string D,.int .i64 y] 37 (0,0)):=by
  rw [hwq,Below.heap_alloc _ _ _ (by omega),hw1]
  exact World.alloc_heap_new _ _
 have hg10:wq.heap[w.heap.size+1]?=some (.cells zSt 37 (0,0)):=by
  rw [hwq,← hs1]
  exact World.alloc_heap_new _ _
 obtain⟨g5,hg5e⟩:∃ g,g=w.heap.size:=⟨_,rfl⟩
 obtain⟨g10,hg10e⟩:∃ g,g=w.heap.size+1:=⟨_,rfl⟩
 rw [← hg5e] at hg5
 rw [← hg10e] at hg10
 have H12:=hid2 (show (w.alloc (.cells #[.string B,.slice AA an ac,.slice AW wn wc,.int .i64 k,.string P,.string D,.int .i64 y] 37)).alloc (.cells #[.string ⟨#[]⟩,.slice none 0 0,.slice none 0 0,.int .i64 0,.string ⟨#[]⟩,.string ⟨#[]⟩,.int .i64 0] 37)=wq from by rw [hwq,hw1])
 have HE:=hid2 (And.intro hg5e hg10e)
 have HI:=hid2 (show StepI w wq g5 g10 B AA an ac AW wn wc k P D y r from ⟨hb2,by omega,by omega,by omega,hg5,hg10,h.below hb2⟩)
 obtain⟨wb,wo,hWA,hcell⟩:=(hrw.below_all hb2).2 hqn
 subst hWA
 have hws0:wq.cell? ⟨wb,wo,none⟩=some (.string (strB nm)):=hcell 0 _ (strV_at hnm)
 have hqi:(0:Int) < qn:=by omega
 have c0:=cell_of_row wq g5 0 _ _ _ hg5
 have c1:=cell_of_row wq g5 1 _ _ _ hg5
 have c2:=cell_of_row wq g5 2 _ _ _ hg5
 have c3:=cell_of_row wq g5 3 _ _ _ hg5
 have c4:=cell_of_row wq g5 4 _ _ _ hg5
 have c5:=cell_of_row wq g5 5 _ _ _ hg5
 have c6:=cell_of_row wq g5 6 _ _ _ hg5
 have hbuf:r.buf.length≤100000000000:=by have:=hs.2;omega
 have hF7:∀ {a b c d e f g:Value} {cs:Array Value},cs.size=7→0+[a,b,c,d,e,f,g].length≤cs.size:=fun h=>by rw [h];exact Nat.le_refl 7
 obtain⟨SN,hSN⟩:∃ S,S=strB nm:=⟨_,rfl⟩
 rw [← hSN] at htn hws0
 have tkRead:(SN.toList == [114,101,97,100])=false:=by rw [htn,hk];decide
 have ukRead:¬ SN.toList=[114,101,97,100]:=by rw [htn,hk];decide
 have tkTry:(SN.toList == [116,114,121])=false:=by rw [htn,hk];decide
 have ukTry:¬ SN.toList=[116,114,121]:=by rw [htn,hk];decide
 have tkScan:(SN.toList == [115,99,97,110])=false:=by rw [htn,hk];decide
 have ukScan:¬ SN.toList=[115,99,97,110]:=by rw [htn,hk];decide
 have tkText:(SN.toList == [116,101,120,116])=false:=by rw [htn,hk];decide
 have ukText:¬ SN.toList=[116,101,120,116]:=by rw [htn,hk];decide
 have tkEnv:(SN.toList == [101,110,118])=false:=by rw [htn,hk];decide
 have ukEnv:¬ SN.toList=[101,110,118]:=by rw [htn,hk];decide
 have tkFail:(SN.toList == [102,97,105,108])=false:=by rw [htn,hk];decide
 have ukFail:¬ SN.toList=[102,97,105,108]:=by rw [htn,hk];decide
 have tkNeed:(SN.toList == [110,101,101,100])=true:=by rw [htn,beq_iff_eq,hk]
 have ukNeed:SN.toList=[110,101,101,100]:=by rw [htn,hk]
 have hws1:wq.cell? ⟨wb,wo+1,none⟩=some (.string (strB arg)):=hcell 1 _ (strV_at harg)
 have hq1i:(1:Int) < qn:=by omega
 have hta:=toList_strBT arg
 obtain⟨SA1,hSA1⟩:∃ S,S=strB arg:=⟨_,rfl⟩
 rw [← hSA1] at hws1 hta
 have HCW1:=hid2 (show ∀ w2,Below wq.heap.size wq w2→w2.cell? ⟨wb,wo+1,none⟩=some (.string SA1) from fun w2 hb=>(hb.cell (p:=⟨wb,wo+1,none⟩) (World.block_lt_of_cell? _ _ hws1)).trans hws1)
 have hBe:=h.1
 have hbb:=hs.2
 obtain⟨L,hL⟩:∃ L,L=linesT r.buf:=⟨_,rfl⟩
 have hLl:L.length≤65537:=by rw [hL];have:=linesT_len r.buf;omega
 have cLN:∀ W,Calls Tryz.prog 29 #[.string B] W fun e w'=>∃ A c,e = .returned (.slice A L.length c)∧Own w' W.heap.size 9 1 A L.length c (strV L)∧Below W.heap.size W w':=fun W=>by
  have:=rlines_any W B (by rw [hBe,strB_size];omega)
  rw [hBe,strB_list,← hBe,← hL] at this
  exact this
 obtain⟨L2,hL2⟩:∃ L2,L2=L.filter (hasT · arg):=⟨_,rfl⟩
 have cKP:∀ W A c,Rd W 1 A L.length (strV L)→Calls Tryz.prog 56 #[.slice A L.length c,.string SA1] W fun e w'=>∃ A c,e = .returned (.slice A L2.length c)∧Own w' W.heap.size 9 1 A L2.length c (strV L2)∧Below W.heap.size W w':=fun W A c hr=>by
  have:=rkept_any W A c L SA1 (by omega) (fun x hx=>by rw [hL] at hx;have:=linesT_le hx;omega) (by rw [hSA1,strB_size];omega) hr
  rw [show SA1.data.toList=arg by rw [hSA1,strB_list],← hL2] at this
  exact this
 obtain⟨m,hm⟩:∃ m,m=L2.length:=⟨_,rfl⟩
 have hm0:0 < m:=by
  rw [← hL] at hany
  obtain⟨x,hx,hh⟩:=List.any_eq_true.1 hany
  rw [hm,hL2]
  exact List.length_pos_of_mem (a:=x) (by rw [List.mem_filter];exact⟨hx,hh⟩)
 have hme:¬ (m:Int)=0:=by omega
 have hmb:((m:Int) == 0)=false:=by rw [beq_eq_false_iff_ne];exact hme
 have HM:=hid2 hm
 have HRES:=hid2 hRES
 have CLN:=hid2 cLN
 have CKP:=hid2 cKP
 clear hBe hbb hL hLl cLN hL2 cKP hbuf hln hws1 hta hSA1 harg hal hany hm hm0
 clear hSL hRES hw1 hwq hs1 hs2 hb1 hb2 hg5 hg10 hg5e hg10e hcell hrw hnm hk hSN htn h hs
 go_enter Tryz.func34,Tryz.ntmps34
 go_upto_region 1 with fail
 rw [H12.out,← HE.out.2,← HE.out.1]
 go_upto_region 27 with fail
 refine wp_region_grd 9 (by kernel_rfl) (by kernel_rfl) (by kernel_rfl) _ rfl (by kernel_rfl) (VV [some (.pointer (some ⟨g5,0,none⟩)),some (.string B),none,some (.slice (some ⟨wb,wo,none⟩) qn qc),some (.pointer (some ⟨wb,wo+1,none⟩)),some (.string SA1),none,some (.int .i64 (m:Nat)),some (.bool false)] (fun j v w2=>(j=2→XRow L v w2)∧(j=6→XRow L2 v w2))) (fun w2=>Below wq.heap.size wq w2) (fun a b=>Below a.heap.size a b) ((Below.refl _ wq).drew) (fun j v w1 w2 hb hv=>VV.keep (fun h=>⟨fun e=>XRow.below (a:=w1) (b:=w2) (h.1 e) hb,fun e=>XRow.below (a:=w1) (b:=w2) (h.2 e) hb⟩) hv) ?_ ?_
 ·refine of_allOps ⟨?_,?_,?_,?_,?_,?_,?_,?_,?_,trivial⟩
  ·intro T2 w2 hM hN hO hE K hK
   have o5:T2[5]?=some (.pointer (some ⟨g5,0,none⟩)):=hO 5 rfl
   clear hE hO hN
   refine step_plain0 rfl ?_
   go_simp
   exact hK _ _ rfl hM (Below.refl _ _)
  ·intro T2 w2 hM hN hO hE K hK
   obtain⟨v0,h0,e0⟩:=hE ⟨0,.data⟩ (by simp) rfl _ _ rfl rfl
   rw [show v0 = .pointer (some ⟨g5,0,none⟩) from e0] at h0
   clear hE hO hN
   refine step_plain0 rfl ?_
   have yb:=cell_of_row w2 g5 0 _ _ _ ((hM.block g5 (heap_lt HI.out.st)).trans HI.out.st)
   go_simp
   exact hK _ _ rfl hM (Below.refl _ _)
  ·intro T2 w2 hM hN hO hE K hK
   obtain⟨v1,h1,e1⟩:=hE ⟨1,.data⟩ (by simp) rfl _ _ rfl rfl
   rw [show v1 = .string B from e1] at h1
   clear hE hO hN
   refine step_plain0 rfl ?_
   go_simp
   refine (CLN.out w2).mono ?_
   rintro e w5 ⟨A5,c5,rfl,ho,hb4⟩
   exact hK _ _ ⟨fun _=>⟨A5,c5,rfl,ho.rd⟩,fun e=>absurd e (by decide)⟩ (hM.trans (hb4.mono hM.size)) hb4
  ·intro T2 w2 hM hN hO hE K hK
   have o4:T2[4]?=some (.slice (some ⟨wb,wo,none⟩) qn qc):=hO 4 rfl
   clear hE hO hN
   refine step_plain0 rfl ?_
   go_simp
   exact hK _ _ rfl hM (Below.refl _ _)
  ·intro T2 w2 hM hN hO hE K hK
   obtain⟨v3,h3,e3⟩:=hE ⟨3,.data⟩ (by simp) rfl _ _ rfl rfl
   rw [show v3 = .slice (some ⟨wb,wo,none⟩) qn qc from e3] at h3
   clear hE hO hN
   refine step_plain0 rfl ?_
   go_simp
   exact hK _ _ rfl hM (Below.refl _ _)
  ·intro T2 w2 hM hN hO hE K hK
   obtain⟨v4,h4,e4⟩:=hE ⟨4,.data⟩ (by simp) rfl _ _ rfl rfl
   rw [show v4 = .pointer (some ⟨wb,wo+1,none⟩) from e4] at h4
   clear hE hO hN
   refine step_plain0 rfl ?_
   have yw:=HCW1.out w2 hM
   go_simp
   exact hK _ _ rfl hM (Below.refl _ _)
  ·intro T2 w2 hM hN hO hE K hK
   obtain⟨v2,h2,e2⟩:=hE ⟨2,.data⟩ (by simp) rfl _ _ rfl rfl
   obtain⟨v5,h5,e5⟩:=hE ⟨5,.data⟩ (by simp) rfl _ _ rfl rfl
   rw [show v5 = .string SA1 from e5] at h5
   clear hE hO hN
   refine step_plain0 rfl ?_
   obtain⟨A6,d6,rfl,hr6⟩:=(show (2=2→XRow L v2 w2)∧(2=6→XRow L2 v2 w2) from e2).1 rfl
   go_simp
   refine (CKP.out w2 A6 d6 hr6).mono ?_
   rintro e w5 ⟨A5,c5,rfl,ho,hb4⟩
   exact hK _ _ ⟨fun e=>absurd e (by decide),fun _=>⟨A5,c5,rfl,ho.rd⟩⟩ (hM.trans (hb4.mono hM.size)) hb4
  ·intro T2 w2 hM hN hO hE K hK
   obtain⟨v6,h6,e6⟩:=hE ⟨6,.data⟩ (by simp) rfl _ _ rfl rfl
   clear hE hO hN
   refine step_plain0 rfl ?_
   obtain⟨A6,d6,rfl,hr6⟩:=(show (6=2→XRow L v6 w2)∧(6=6→XRow L2 v6 w2) from e6).2 rfl
   rw [← HM.out] at h6
   clear e6
   go_simp
   exact hK _ _ rfl hM (Below.refl _ _)
  ·intro T2 w2 hM hN hO hE K hK
   obtain⟨v7,h7,e7⟩:=hE ⟨7,.data⟩ (by simp) rfl _ _ rfl rfl
   rw [show v7 = .int .i64 (m:Nat) from e7] at h7
   clear hE hO hN
   refine step_plain0 rfl ?_
   go_simp
   exact hK _ _ rfl hM (Below.refl _ _)
 ·intro u w13 hM hF
  have e8:u 8 = .bool false:=hF 8 (by omega)
  clear hF
  simp only [fillAll,Nat.reduceAdd,e8,List.take_succ_cons,List.take_zero,List.drop_succ_cons,List.drop_zero,List.setIfInBounds_toArray,List.set_cons_succ,List.set_cons_zero]
  have HI13:=hid2 (HI.out.keep hM)
  clear hM c0 c1 c2 c3 c4 c5 c6
  have c0:=cell_of_row w13 g5 0 _ _ _ HI13.out.st
  have c1:=cell_of_row w13 g5 1 _ _ _ HI13.out.st
  have c2:=cell_of_row w13 g5 2 _ _ _ HI13.out.st
  have c3:=cell_of_row w13 g5 3 _ _ _ HI13.out.st
  have c4:=cell_of_row w13 g5 4 _ _ _ HI13.out.st
  have c5:=cell_of_row w13 g5 5 _ _ _ HI13.out.st
  have c6:=cell_of_row w13 g5 6 _ _ _ HI13.out.st
  have zo:=HI13.out.out
  go_wp2_with ((with_reducible refine wpList_store_lit g10 0 (.agg #[.string B,.slice AA an ac,.slice AW wn wc,.int .i64 k,.string P,.string D,.int .i64 y]) [.string B,.slice AA an ac,.slice AW wn wc,.int .i64 k,.string P,.string D,.int .i64 y] rfl _ 37 zo (info_st _ _ _ _ _ _ _) (hF7 rfl) one_st ?_ ?_);exact⟨rfl,rfl⟩;rw [laid_st7 rfl])
  try simp only [Act.put]
  refine bodyPost_ret (v:=.agg #[.string B,.slice AA an ac,.slice AW wn wc,.int .i64 k,.string P,.string D,.int .i64 y]) (results_cell_row rfl _ _ g10 37 _ (0,0) _ rfl (setRow_heap w13 g10 _ _ _ _ HI13.out.out) Tryz.underlying37 rfl (by kernel_rfl)) rfl ?_
  rw [HRES.out]
  exact HI13.out.done HI13.out.rs _
set_option maxHeartbeats 16000000 in
theorem rstep_need0 (w:World) (B:ByteArray) (AA:Option Addr) (an ac:Nat) (AW:Option Addr) (wn wc:Nat) (k:Int) (P D:ByteArray) (y:Int) (r:RS) (h:RSA w B AA an ac AW wn wc k P D y r) (hs:r.Small) (EA:Option Addr) (en ec:Nat) (KA:Option Addr) (kn kc:Nat) (line:TT) (hln:line.length≤65536) (WA:Option Addr) (qn qc:Nat) (ws:List TT) (nm:TT) (hnm:ws[0]?=some nm) (hk:nm=kNeed) (hqn:0 < qn) (hrw:Rd w 1 WA qn (strV ws)) (arg:TT) (harg:ws[1]?=some arg) (hq1:1 < qn) (hal:arg.length≤65536) (hany:(linesT r.buf).any (hasT · arg)=false) :
  Calls Tryz.prog 34 #[.agg #[.string B,.slice AA an ac,.slice AW wn wc,.int .i64 k,.string P,.string D,.int .i64 y],.slice EA en ec,.slice KA kn kc,.string (strB line),.slice WA qn qc] w (StPost w (r.fail 15)):=by
 have htn:=toList_strBT nm
 obtain⟨SL,hSL⟩:∃ S,S=strB line:=⟨_,rfl⟩
 rw [← hSL]
 obtain⟨RES,hRES⟩:∃ R,R=r.fail 15:=⟨_,rfl⟩
 rw [← hRES]
 obtain⟨w1,hw1⟩:∃ w1,w1=w.alloc (.cells #[.string B,.slice AA an ac,.slice AW wn wc,.int .i64 k,.string P,.string D,.int .i64 y] 37):=⟨_,rfl⟩
 obtain⟨wq,hwq⟩:∃ wq,wq=w1.alloc (.cells #[.string ⟨#[]⟩,.slice none 0 0,.slice none 0 0,.int .i64 0,.string ⟨#[]⟩,.string ⟨#[]⟩,.int .i64 0] 37):=⟨_,rfl⟩
 have hs1:w1.heap.size=w.heap.size+1:=by rw [hw1,World.size_alloc]
 have hs2:wq.heap.size=w.heap.size+1+1:=by rw [hwq,World.size_alloc,hs1]
 have hb1:Below w.heap.size w w1:=by rw [hw1];exact (Below.refl _ _).alloc (Nat.le_refl _) _
 have hb2:Below w.heap.size w wq:=by rw [hwq];exact hb1.alloc (by omega) _
 have hg5:wq.heap[w.heap.size]?=some (.cells #[.string B,.slice AA an ac,.slice AW wn wc,.int .i64 k,.string P,.string D,.int .i64 y] 37 (0,0)):=by
  rw [hwq,Below.heap_alloc _ _ _ (by omega),hw1]
  exact World.alloc_heap_new _ _
 have hg10:wq.heap[w.heap.size+1]?=some (.cells zSt 37 (0,0)):=by
  rw [hwq,← hs1]
  exact World.alloc_heap_new _ _
 obtain⟨g5,hg5e⟩:∃ g,g=w.heap.size:=⟨_,rfl⟩
 obtain⟨g10,hg10e⟩:∃ g,g=w.heap.size+1:=⟨_,rfl⟩
 rw [← hg5e] at hg5
 rw [← hg10e] at hg10
 have H12:=hid2 (show (w.alloc (.cells #[.string B,.slice AA an ac,.slice AW wn wc,.int .i64 k,.string P,.string D,.int .i64 y] 37)).alloc (.cells #[.string ⟨#[]⟩,.slice none 0 0,.slice none 0 0,.int .i64 0,.string ⟨#[]⟩,.string ⟨#[]⟩,.int .i64 0] 37)=wq from by rw [hwq,hw1])
 have HE:=hid2 (And.intro hg5e hg10e)
 have HI:=hid2 (show StepI w wq g5 g10 B AA an ac AW wn wc k P D y r from ⟨hb2,by omega,by omega,by omega,hg5,hg10,h.below hb2⟩)
 obtain⟨wb,wo,hWA,hcell⟩:=(hrw.below_all hb2).2 hqn
 subst hWA
 have hws0:wq.cell? ⟨wb,wo,none⟩=some (.string (strB nm)):=hcell 0 _ (strV_at hnm)
 have hqi:(0:Int) < qn:=by omega
 have c0:=cell_of_row wq g5 0 _ _ _ hg5
 have c1:=cell_of_row wq g5 1 _ _ _ hg5
 have c2:=cell_of_row wq g5 2 _ _ _ hg5
 have c3:=cell_of_row wq g5 3 _ _ _ hg5
 have c4:=cell_of_row wq g5 4 _ _ _ hg5
 have c5:=cell_of_row wq g5 5 _ _ _ hg5
 have c6:=cell_of_row wq g5 6 _ _ _ hg5
 have hbuf:r.buf.length≤100000000000:=by have:=hs.2;omega
 have hF7:∀ {a b c d e f g:Value} {cs:Array Value},cs.size=7→0+[a,b,c,d,e,f,g].length≤cs.size:=fun h=>by rw [h];exact Nat.le_refl 7
 obtain⟨SN,hSN⟩:∃ S,S=strB nm:=⟨_,rfl⟩
 rw [← hSN] at htn hws0
 have tkRead:(SN.toList == [114,101,97,100])=false:=by rw [htn,hk];decide
 have ukRead:¬ SN.toList=[114,101,97,100]:=by rw [htn,hk];decide
 have tkTry:(SN.toList == [116,114,121])=false:=by rw [htn,hk];decide
 have ukTry:¬ SN.toList=[116,114,121]:=by rw [htn,hk];decide
 have tkScan:(SN.toList == [115,99,97,110])=false:=by rw [htn,hk];decide
 have ukScan:¬ SN.toList=[115,99,97,110]:=by rw [htn,hk];decide
 have tkText:(SN.toList == [116,101,120,116])=false:=by rw [htn,hk];decide
 have ukText:¬ SN.toList=[116,101,120,116]:=by rw [htn,hk];decide
 have tkEnv:(SN.toList == [101,110,118])=false:=by rw [htn,hk];decide
 have ukEnv:¬ SN.toList=[101,110,118]:=by rw [htn,hk];decide
 have tkFail:(SN.toList == [102,97,105,108])=false:=by rw [htn,hk];decide
 have ukFail:¬ SN.toList=[102,97,105,108]:=by rw [htn,hk];decide
 have tkNeed:(SN.toList == [110,101,101,100])=true:=by rw [htn,beq_iff_eq,hk]
 have ukNeed:SN.toList=[110,101,101,100]:=by rw [htn,hk]
 have hws1:wq.cell? ⟨wb,wo+1,none⟩=some (.string (strB arg)):=hcell 1 _ (strV_at harg)
 have hq1i:(1:Int) < qn:=by omega
 have hta:=toList_strBT arg
 obtain⟨SA1,hSA1⟩:∃ S,S=strB arg:=⟨_,rfl⟩
 rw [← hSA1] at hws1 hta
 have HCW1:=hid2 (show ∀ w2,Below wq.heap.size wq w2→w2.cell? ⟨wb,wo+1,none⟩=some (.string SA1) from fun w2 hb=>(hb.cell (p:=⟨wb,wo+1,none⟩) (World.block_lt_of_cell? _ _ hws1)).trans hws1)
 have hBe:=h.1
 have hbb:=hs.2
 obtain⟨L,hL⟩:∃ L,L=linesT r.buf:=⟨_,rfl⟩
 have hLl:L.length≤65537:=by rw [hL];have:=linesT_len r.buf;omega
 have cLN:∀ W,Calls Tryz.prog 29 #[.string B] W fun e w'=>∃ A c,e = .returned (.slice A L.length c)∧Own w' W.heap.size 9 1 A L.length c (strV L)∧Below W.heap.size W w':=fun W=>by
  have:=rlines_any W B (by rw [hBe,strB_size];omega)
  rw [hBe,strB_list,← hBe,← hL] at this
  exact this
 obtain⟨L2,hL2⟩:∃ L2,L2=L.filter (hasT · arg):=⟨_,rfl⟩
 have cKP:∀ W A c,Rd W 1 A L.length (strV L)→Calls Tryz.prog 56 #[.slice A L.length c,.string SA1] W fun e w'=>∃ A c,e = .returned (.slice A L2.length c)∧Own w' W.heap.size 9 1 A L2.length c (strV L2)∧Below W.heap.size W w':=fun W A c hr=>by
  have:=rkept_any W A c L SA1 (by omega) (fun x hx=>by rw [hL] at hx;have:=linesT_le hx;omega) (by rw [hSA1,strB_size];omega) hr
  rw [show SA1.data.toList=arg by rw [hSA1,strB_list],← hL2] at this
  exact this
 obtain⟨m,hm⟩:∃ m,m=L2.length:=⟨_,rfl⟩
 have hm0:m=0:=by
  rw [← hL] at hany
  rw [hm,hL2,List.length_eq_zero_iff,List.filter_eq_nil_iff]
  intro x hx hh
  have:L.any (hasT · arg)=true:=List.any_eq_true.2 ⟨x,hx,hh⟩
  rw [hany] at this
  cases this
 have hme:(m:Int)=0:=by omega
 have hmb:((m:Int) == 0)=true:=by rw [beq_iff_eq];exact hme
 have HM:=hid2 hm
 have HRES:=hid2 hRES
 have CLN:=hid2 cLN
 have CKP:=hid2 cKP
 clear hBe hbb hL hLl cLN hL2 cKP hbuf hln hws1 hta hSA1 harg hal hany hm hm0
 clear hSL hRES hw1 hwq hs1 hs2 hb1 hb2 hg5 hg10 hg5e hg10e hcell hrw hnm hk hSN htn h hs
 go_enter Tryz.func34,Tryz.ntmps34
 go_upto_region 1 with fail
 rw [H12.out,← HE.out.2,← HE.out.1]
 go_upto_region 27 with fail
 refine wp_region_grd 9 (by kernel_rfl) (by kernel_rfl) (by kernel_rfl) _ rfl (by kernel_rfl) (VV [some (.pointer (some ⟨g5,0,none⟩)),some (.string B),none,some (.slice (some ⟨wb,wo,none⟩) qn qc),some (.pointer (some ⟨wb,wo+1,none⟩)),some (.string SA1),none,some (.int .i64 0),some (.bool true)] (fun j v w2=>(j=2→XRow L v w2)∧(j=6→XRow L2 v w2))) (fun w2=>Below wq.heap.size wq w2) (fun a b=>Below a.heap.size a b) ((Below.refl _ wq).drew) (fun j v w1 w2 hb hv=>VV.keep (fun h=>⟨fun e=>XRow.below (a:=w1) (b:=w2) (h.1 e) hb,fun e=>XRow.below (a:=w1) (b:=w2) (h.2 e) hb⟩) hv) ?_ ?_
 ·refine of_allOps ⟨?_,?_,?_,?_,?_,?_,?_,?_,?_,trivial⟩
  ·intro T2 w2 hM hN hO hE K hK
   have o5:T2[5]?=some (.pointer (some ⟨g5,0,none⟩)):=hO 5 rfl
   clear hE hO hN
   refine step_plain0 rfl ?_
   go_simp
   exact hK _ _ rfl hM (Below.refl _ _)
  ·intro T2 w2 hM hN hO hE K hK
   obtain⟨v0,h0,e0⟩:=hE ⟨0,.data⟩ (by simp) rfl _ _ rfl rfl
   rw [show v0 = .pointer (some ⟨g5,0,none⟩) from e0] at h0
   clear hE hO hN
   refine step_plain0 rfl ?_
   have yb:=cell_of_row w2 g5 0 _ _ _ ((hM.block g5 (heap_lt HI.out.st)).trans HI.out.st)
   go_simp
   exact hK _ _ rfl hM (Below.refl _ _)
  ·intro T2 w2 hM hN hO hE K hK
   obtain⟨v1,h1,e1⟩:=hE ⟨1,.data⟩ (by simp) rfl _ _ rfl rfl
   rw [show v1 = .string B from e1] at h1
   clear hE hO hN
   refine step_plain0 rfl ?_
   go_simp
   refine (CLN.out w2).mono ?_
   rintro e w5 ⟨A5,c5,rfl,ho,hb4⟩
   exact hK _ _ ⟨fun _=>⟨A5,c5,rfl,ho.rd⟩,fun e=>absurd e (by decide)⟩ (hM.trans (hb4.mono hM.size)) hb4
  ·intro T2 w2 hM hN hO hE K hK
   have o4:T2[4]?=some (.slice (some ⟨wb,wo,none⟩) qn qc):=hO 4 rfl
   clear hE hO hN
   refine step_plain0 rfl ?_
   go_simp
   exact hK _ _ rfl hM (Below.refl _ _)
  ·intro T2 w2 hM hN hO hE K hK
   obtain⟨v3,h3,e3⟩:=hE ⟨3,.data⟩ (by simp) rfl _ _ rfl rfl
   rw [show v3 = .slice (some ⟨wb,wo,none⟩) qn qc from e3] at h3
   clear hE hO hN
   refine step_plain0 rfl ?_
   go_simp
   exact hK _ _ rfl hM (Below.refl _ _)
  ·intro T2 w2 hM hN hO hE K hK
   obtain⟨v4,h4,e4⟩:=hE ⟨4,.data⟩ (by simp) rfl _ _ rfl rfl
   rw [show v4 = .pointer (some ⟨wb,wo+1,none⟩) from e4] at h4
   clear hE hO hN
   refine step_plain0 rfl ?_
   have yw:=HCW1.out w2 hM
   go_simp
   exact hK _ _ rfl hM (Below.refl _ _)
  ·intro T2 w2 hM hN hO hE K hK
   obtain⟨v2,h2,e2⟩:=hE ⟨2,.data⟩ (by simp) rfl _ _ rfl rfl
   obtain⟨v5,h5,e5⟩:=hE ⟨5,.data⟩ (by simp) rfl _ _ rfl rfl
   rw [show v5 = .string SA1 from e5] at h5
   clear hE hO hN
   refine step_plain0 rfl ?_
   obtain⟨A6,d6,rfl,hr6⟩:=(show (2=2→XRow L v2 w2)∧(2=6→XRow L2 v2 w2) from e2).1 rfl
   go_simp
   refine (CKP.out w2 A6 d6 hr6).mono ?_
   rintro e w5 ⟨A5,c5,rfl,ho,hb4⟩
   exact hK _ _ ⟨fun e=>absurd e (by decide),fun _=>⟨A5,c5,rfl,ho.rd⟩⟩ (hM.trans (hb4.mono hM.size)) hb4
  ·intro T2 w2 hM hN hO hE K hK
   obtain⟨v6,h6,e6⟩:=hE ⟨6,.data⟩ (by simp) rfl _ _ rfl rfl
   clear hE hO hN
   refine step_plain0 rfl ?_
   obtain⟨A6,d6,rfl,hr6⟩:=(show (6=2→XRow L v6 w2)∧(6=6→XRow L2 v6 w2) from e6).2 rfl
   rw [← HM.out] at h6
   clear e6
   go_simp
   exact hK _ _ rfl hM (Below.refl _ _)
  ·intro T2 w2 hM hN hO hE K hK
   obtain⟨v7,h7,e7⟩:=hE ⟨7,.data⟩ (by simp) rfl _ _ rfl rfl
   rw [show v7 = .int .i64 0 from e7] at h7
   clear hE hO hN
   refine step_plain0 rfl ?_
   go_simp
   exact hK _ _ rfl hM (Below.refl _ _)
 ·intro u w13 hM hF
  have e8:u 8 = .bool true:=hF 8 (by omega)
  clear hF
  simp only [fillAll,Nat.reduceAdd,e8,List.take_succ_cons,List.take_zero,List.drop_succ_cons,List.drop_zero,List.setIfInBounds_toArray,List.set_cons_succ,List.set_cons_zero]
  have HI13:=hid2 (HI.out.keep hM)
  clear hM c0 c1 c2 c3 c4 c5 c6
  have c0:=cell_of_row w13 g5 0 _ _ _ HI13.out.st
  have c1:=cell_of_row w13 g5 1 _ _ _ HI13.out.st
  have c2:=cell_of_row w13 g5 2 _ _ _ HI13.out.st
  have c3:=cell_of_row w13 g5 3 _ _ _ HI13.out.st
  have c4:=cell_of_row w13 g5 4 _ _ _ HI13.out.st
  have c5:=cell_of_row w13 g5 5 _ _ _ HI13.out.st
  have c6:=cell_of_row w13 g5 6 _ _ _ HI13.out.st
  go_wp2_with (first
   | (go_at_call 33; refine (rfail_st w13 B AA AW an ac wn wc k y P D r HI13.out.rs 15).mono ?_;rintro e wa ⟨B5,AA5,an5,ac5,AW5,wn5,wc5,k5,P5,D5,y5,rfl,hq,hb⟩;have HIA:=hid2 (HI13.out.keep hb);have HQ:=hid2 hq;have zo:=HIA.out.out;clear hb hq)
   | ((with_reducible refine wpList_store_lit g10 0 (.agg #[.string B5,.slice AA5 an5 ac5,.slice AW5 wn5 wc5,.int .i64 k5,.string P5,.string D5,.int .i64 y5]) [.string B5,.slice AA5 an5 ac5,.slice AW5 wn5 wc5,.int .i64 k5,.string P5,.string D5,.int .i64 y5] rfl _ 37 zo (info_st _ _ _ _ _ _ _) (hF7 rfl) one_st ?_ ?_);exact⟨rfl,rfl⟩;rw [laid_st7 rfl]))
  try simp only [Act.put]
  refine bodyPost_ret (v:=.agg #[.string B5,.slice AA5 an5 ac5,.slice AW5 wn5 wc5,.int .i64 k5,.string P5,.string D5,.int .i64 y5]) (results_cell_row rfl _ _ g10 37 _ (0,0) _ rfl (setRow_heap wa g10 _ _ _ _ HIA.out.out) Tryz.underlying37 rfl (by kernel_rfl)) rfl ?_
  rw [HRES.out]
  exact HIA.out.done HQ.out _
end Go.Proofs.YtnecjdhamohadaaGreatDoor
