/- The document's run of a tool: the whole. -/
import Derived.Test.YtnecjdhamohadaaGreatDoorPMRg12
import Derived.Test.YtnecjdhamohadaaGreatDoorPMRgQ
set_option linter.unusedSimpArgs false
set_option linter.unusedVariables false
namespace Go.Proofs.YtnecjdhamohadaaGreatDoor
open Go.RowKit Go.Maps Go.Shelf
set_option maxRecDepth 100000
set_option maxHeartbeats 32000000 in
theorem rfar_any (w:World) (text:TT) (hln:text.length≤65536) (hck:(checkT mayB text).1=0) (EA:Option Addr) (en ec:Nat) (KA:Option Addr) (kn kc:Nat)
  (E:List (TT × TT)) (hen:en=E.length) (hel:en≤1000000) (hre:Rd w 2 EA en (setV E)) (hev:∀ x∈E,x.2.length≤100000000000) (K:List KE) (hkn:kn=K.length) (hK:K.length≤1000000) (hKd:∀ k∈K,k.path.length≤1000000∧k.data.length≤100000) (hrk:Rd w 3 KA K.length (kV K)) (N:Nat) (hN:K.length < N) :
  Calls Tryz.prog 13 #[.string (strB text),.slice EA en ec,.slice KA kn kc] w (StPost w (farL ⟨mayB,E⟩ (orK K) N (cmdsOf mayB (linesT text)) RS.start)):=by
 obtain⟨RES,hRES⟩:∃ R,R=farL ⟨mayB,E⟩ (orK K) N (cmdsOf mayB (linesT text)) RS.start:=⟨_,rfl⟩
 rw [← hRES]
 obtain⟨LL,hLL⟩:∃ L,L=linesT text:=⟨_,rfl⟩
 obtain⟨nL,hnL⟩:∃ n,n=LL.length:=⟨_,rfl⟩
 rw [← hLL] at hRES
 have hbad:(badL mayB LL 0).1=0:=by
  rw [hLL]
  unfold checkT at hck
  split at hck
  ·cases hck
  ·exact hck
 have hnl:nL≤400:=by
  rw [hnL,hLL]
  unfold checkT at hck
  split at hck
  ·cases hck
  ·omega
 have hll:∀ x∈LL,x.length≤65536:=fun x hx=>by
  rw [hLL] at hx
  have:=linesT_le hx
  omega
 have cCK:=fun (W:World)=>rcheck_any W (strB text) (by rw [strB_size];omega)
 rw [strB_list,hck] at cCK
 obtain⟨c2v,hc2v⟩:∃ c,c=(checkT mayB text).2:=⟨_,rfl⟩
 rw [← hc2v] at cCK
 have cLn:=fun (W:World)=>rlines_n W (strB text) (by rw [strB_size];omega) LL (by rw [strB_list];exact hLL) nL hnL
 obtain⟨SL,hSL⟩:∃ S,S=strB text:=⟨_,rfl⟩
 rw [← hSL] at cCK cLn ⊢
 have hLK:∀ q k,orK K q=some k→q∈K.map (·.path):=fun q k h=>by
  obtain⟨x,hx,h1,_⟩:=orK_some h
  exact List.mem_map.2 ⟨x,hx,h1⟩
 have cST:∀ (W:World) (B:ByteArray) (AA:Option Addr) (an ac:Nat) (AW:Option Addr) (wn wc:Nat) (k:Int) (P D:ByteArray) (y:Int) (r:RS) (x:TT) (WA:Option Addr) (qn qc:Nat),Below w.heap.size w W→RSA W B AA an ac AW wn wc k P D y r→r.Small→r.wrote.length≤1000000→x.length≤65536→qn=(wordsT x).length→Own W 0 9 1 WA qn qc (strV (wordsT x))→okW mayB (wordsT x)=true →
   Calls Tryz.prog 34 #[.agg #[.string B,.slice AA an ac,.slice AW wn wc,.int .i64 k,.string P,.string D,.int .i64 y],.slice EA en ec,.slice KA kn kc,.string (strB x),.slice WA qn qc] W (StPost W (r.step ⟨mayB,E⟩ (orK K) N (cmdW x))):=fun W B AA an ac AW wn wc k P D y r x WA qn qc hb hq hs hw hx hqn ho hok =>
  rstep_any W B AA an ac AW wn wc k P D y r hq hs hw EA en ec KA kn kc x hx WA qn qc hqn ho.rd (fun b hb=>(ho.block b hb).2.2) hok E hen hel (hre.below_all hb) hev K hkn hK hKd (hrk.below_all hb) N hN
 obtain⟨w1,hw1⟩:∃ w1,w1=w.alloc (.cells #[.string ⟨#[]⟩,.slice none 0 0,.slice none 0 0,.int .i64 0,.string ⟨#[]⟩,.string ⟨#[]⟩,.int .i64 0] 37):=⟨_,rfl⟩
 obtain⟨w2,hw2⟩:∃ w2,w2=w1.alloc (.cells #[.string ⟨#[]⟩,.slice none 0 0,.slice none 0 0,.int .i64 0,.string ⟨#[]⟩,.string ⟨#[]⟩,.int .i64 0] 37):=⟨_,rfl⟩
 have hs1:w1.heap.size=w.heap.size+1:=by rw [hw1,World.size_alloc]
 have hs2:w2.heap.size=w.heap.size+1+1:=by rw [hw2,World.size_alloc,hs1]
 have hb1:Below w.heap.size w w1:=by rw [hw1];exact (Below.refl _ _).alloc (Nat.le_refl _) _
 have hb2:Below w.heap.size w w2:=by rw [hw2];exact hb1.alloc (by omega) _
 have hg6:w2.heap[w.heap.size]?=some (.cells zSt 37 (0,0)):=by
  rw [hw2,Below.heap_alloc _ _ _ (by omega),hw1]
  exact World.alloc_heap_new _ _
 have hg7:w2.heap[w.heap.size+1]?=some (.cells #[.string ⟨#[]⟩,.slice none 0 0,.slice none 0 0,.int .i64 0,.string ⟨#[]⟩,.string ⟨#[]⟩,.int .i64 0] 37 (0,0)):=by
  rw [hw2,← hs1]
  exact World.alloc_heap_new _ _
 obtain⟨g6,hg6e⟩:∃ g,g=w.heap.size:=⟨_,rfl⟩
 obtain⟨g7,hg7e⟩:∃ g,g=w.heap.size+1:=⟨_,rfl⟩
 rw [← hg6e] at hg6
 rw [← hg7e] at hg7
 have H12:=hid2 (show (w.alloc (.cells #[.string ⟨#[]⟩,.slice none 0 0,.slice none 0 0,.int .i64 0,.string ⟨#[]⟩,.string ⟨#[]⟩,.int .i64 0] 37)).alloc (.cells #[.string ⟨#[]⟩,.slice none 0 0,.slice none 0 0,.int .i64 0,.string ⟨#[]⟩,.string ⟨#[]⟩,.int .i64 0] 37)=w2 from by rw [hw2,hw1])
 have HE:=hid2 (And.intro hg6e hg7e)
 have HB2:=hid2 hb2
 have HG6:=hid2 hg6
 have HG7:=hid2 hg7
 have HRES:=hid2 hRES
 have HBAD:=hid2 hbad
 have HNL:=hid2 hnL
 have HLL:=hid2 hll
 have HLK:=hid2 hLK
 have CCK:=hid2 cCK
 have CLN:=hid2 cLn
 have CST0:=hid2 cST
 have hF7:∀ {a b c d e f g:Value} {cs:Array Value},cs.size=7→0+[a,b,c,d,e,f,g].length≤cs.size:=fun h=>by rw [h];exact Nat.le_refl 7
 have hnli:(nL:Int)≤400:=by omega
 clear hRES hLL hnL hbad hll cCK hc2v cLn hSL hLK cST hw1 hw2 hs1 hs2 hb1 hb2 hg6 hg7 hg6e hg7e hre hrk hev hck hln hen hel hkn hK hKd hN
 go_enter Tryz.func13,Tryz.ntmps13
 go_upto_region 2 with fail
 rw [H12.out,← HE.out.2,← HE.out.1]
 go_wp2_with (first
  | (go_at_call 12; refine (CCK.out w2).mono ?_;rintro e w3 ⟨rfl,hb3⟩;have HB3:=hid2 hb3;clear hb3)
  | (go_at_call 29; refine (CLN.out w3).mono ?_;rintro e w4 ⟨LA,lc,rfl,hol,hb4⟩;have HINV:=hid2 (show ScInv w w4 g7 g6 LA nL lc LL ⟨#[]⟩ none 0 0 none 0 0 0 ⟨#[]⟩ ⟨#[]⟩ 0 RS.start none 0 0 [] from ⟨HB2.out.trans ((HB3.out.trans (hb4.mono HB3.out.size)).mono HB2.out.size),by have:=HE.out;omega,by have:=HE.out;omega,by have:=HE.out;omega,(hb4.block g7 (Nat.lt_of_lt_of_le (heap_lt HG7.out) HB3.out.size)).trans ((HB3.out.block g7 (heap_lt HG7.out)).trans HG7.out),(hb4.block g6 (Nat.lt_of_lt_of_le (heap_lt HG6.out) HB3.out.size)).trans ((HB3.out.block g6 (heap_lt HG6.out)).trans HG6.out),⟨rfl,rfl,Own.nil _ _ _ _,rfl,Own.nil _ _ _ _,rfl,rfl,rfl,rfl⟩,Own.nil _ _ _ _,rfl,hol.mono (Nat.zero_le _)⟩);clear hol hb4))
 go_loopg [11] nL (fun gk iv wr=>∃ (i:Nat) (B3:ByteArray) (AA3:Option Addr) (an3 ac3:Nat) (AW3:Option Addr) (wn3 wc3:Nat) (k3:Int) (P3 D3:ByteArray) (y3:Int) (r3:RS),ScInv w wr g7 g6 LA nL lc LL B3 AA3 an3 ac3 AW3 wn3 wc3 k3 P3 D3 y3 r3 none 0 0 []∧i+gk=nL∧iv = .int .i64 i∧RES=farL ⟨mayB,E⟩ (orK K) N (cmdsOf mayB (LL.drop i)) r3∧r3.Small∧r3.wrote.length≤i∧∃ j,(badL mayB (LL.drop i) j).1=0)
 case atStart=>exact⟨0,_,_,_,_,_,_,_,_,_,_,_,RS.start,HINV.out,by omega,rfl,HRES.out,⟨Nat.zero_le _,Nat.zero_le _⟩,Nat.zero_le _,0,HBAD.out⟩
 case round =>
  obtain⟨i,B3,AA3,an3,ac3,AW3,wn3,wc3,k3,P3,D3,y3,r3,hinv,hi,rfl,hres,hsm,hwl,j,hbd⟩:=hrel
  have HI:=hid2 hinv
  have HIN:=hid2 hi
  have HSM:=hid2 hsm
  have HWL:=hid2 hwl
  by_cases hlt:i < nL
  ·have hil:(i:Int) < nL:=by omega
   have hi0:(0:Int)≤i:=by omega
   obtain⟨x,hxx⟩:∃ x,LL[i]?=some x:=⟨_,List.getElem?_eq_getElem (by rw [← HNL.out];exact hlt)⟩
   obtain⟨hiL,hxe⟩:=List.getElem?_eq_some_iff.1 hxx
   rw [List.drop_eq_getElem_cons hiL,hxe] at hres hbd
   obtain⟨hb2,hcase⟩:=badL_cons hbd
   have hxl:=HLL.out x (List.mem_of_getElem? hxx)
   obtain⟨lb,lo,hLA,hcell⟩:=hinv.lines.rd.2 (by omega)
   subst hLA
   have hcx:=hcell _ _ (strV_at hxx)
   obtain⟨qn,hqn⟩:∃ n,n=(wordsT x).length:=⟨_,rfl⟩
   have cW:∀ WW,Calls Tryz.prog 30 #[.string (strB x)] WW fun e w'=>∃ A c,e = .returned (.slice A qn c)∧Own w' WW.heap.size 9 1 A qn c (strV (wordsT x))∧Below WW.heap.size WW w':=fun WW=>by
    have:=rwords_any WW (strB x) (by rw [strB_size];omega)
    rw [strB_list] at this
    rw [hqn]
    exact this
   have hql:qn≤65537:=by rw [hqn];have:=wordsT_len x;omega
   have cP:∀ W A c,Rd W 1 A qn (strV (wordsT x))→Calls Tryz.prog 31 #[.slice A qn c] W fun e w'=>e = .returned (.bool (passedW (wordsT x)))∧w'=W:=fun W A c hr=>by
    rw [hqn] at hr ⊢
    exact rpassed_any W (wordsT x) (fun y hy=>(wordsT_mem hy).1) A c hr (by omega)
   obtain⟨SX,hSX⟩:∃ S,S=strB x:=⟨_,rfl⟩
   rw [← hSX] at hcx cW
   have HBD:=hid2 hb2
   have CW:=hid2 cW
   rcases hcase with ⟨hp,hcm⟩ | ⟨hp,hok,hcm⟩
   ·rw [hp] at cP
    rw [hcm] at hres
    have CP:=hid2 cP
    have HRS:=hid2 hres
    clear hinv hi hres hsm hwl hbd hb2 hxx hiL hxe hcell hqn cW hql cP hSX hp hcm hxl
    go_wp2_with (first
     | (go_at_call 30; refine (CW.out wr).mono ?_;rintro e wz ⟨WA,qc,rfl,how,hbz⟩;have HIZ:=hid2 (HI.out.keep hbz);have HBZ:=hid2 hbz;have HOW:=hid2 how;clear how hbz HI hcx;have HI:=HIZ;clear HIZ)
     | (go_at_call 31; refine (CP.out wz WA qc HOW.out.rd).mono ?_;rintro e wp ⟨rfl,hwp⟩;have hwp2:=hwp.symm;clear hwp;subst hwp2))
    go_roundg (gk - 1)
    case rel=>exact⟨i+1,B3,AA3,an3,ac3,AW3,wn3,wc3,k3,P3,D3,y3,r3,HI.out,by have:=HIN.out;omega,by go_num,HRS.out,HSM.out,by have:=HWL.out;omega,_,HBD.out⟩
    case measure=>have:=HIN.out;omega
   ·rw [hp] at cP
    rw [hcm,farL] at hres
    have CP:=hid2 cP
    obtain⟨r4,hr4⟩:∃ r,r=r3.step ⟨mayB,E⟩ (orK K) N (cmdW x):=⟨_,rfl⟩
    rw [← hr4] at hres
    have hs4:=step_small (v:=⟨mayB,E⟩) HLK.out N hsm (cmdW x)
    rw [← hr4] at hs4
    have HS4:=hid2 hs4
    have CST1:=hid2 (show ∀ (W:World) (WA:Option Addr) (qc:Nat),Below w.heap.size w W→RSA W B3 AA3 an3 ac3 AW3 wn3 wc3 k3 P3 D3 y3 r3→Own W 0 9 1 WA qn qc (strV (wordsT x))→Calls Tryz.prog 34 #[.agg #[.string B3,.slice AA3 an3 ac3,.slice AW3 wn3 wc3,.int .i64 k3,.string P3,.string D3,.int .i64 y3],.slice EA en ec,.slice KA kn kc,.string SX,.slice WA qn qc] W (StPost W r4) from fun W WA qc h1 h2 h3=>by
     rw [hr4,hSX]
     exact CST0.out W B3 AA3 an3 ac3 AW3 wn3 wc3 k3 P3 D3 y3 r3 x WA qn qc h1 h2 hsm (by omega) hxl hqn h3 hok)
    have HCX:=hid2 (show ∀ w2,Below wr.heap.size wr w2→w2.cell? ⟨lb,lo+i,none⟩=some (.string SX) from fun w2 hb=>(hb.cell (p:=⟨lb,lo+i,none⟩) (World.block_lt_of_cell? _ _ hcx)).trans hcx)
    by_cases hk4:r4.stop.kind=0
    ·rw [if_neg (by rw [hk4];simp)] at hres
     have HRS:=hid2 hres
     have HK4:=hid2 hk4
     clear hinv hi hres hsm hwl hbd hb2 hxx hiL hxe hcell hqn cW hql cP hSX hp hok hcm hxl hr4 hs4 hk4
     go_upto_region 10 with (go_at_call 30; refine (CW.out wr).mono ?_;rintro e wz ⟨WA,qc,rfl,how,hbz⟩;have HIZ:=hid2 (HI.out.keep hbz);have HBZ:=hid2 hbz;have HOW:=hid2 how;clear how hbz HI hcx;have HI:=HIZ;clear HIZ)
     go_upto_region 11 with (go_at_call 31; refine (CP.out wz WA qc HOW.out.rd).mono ?_;rintro e wp ⟨rfl,hwp⟩;have hwp2:=hwp.symm;clear hwp;subst hwp2)
     have HCL:=hid2 (show ∀ w2,Below wz.heap.size wz w2→w2.cell? ⟨lb,lo+i,none⟩=some (.string SX) from fun w2 hb=>HCX.out w2 (HBZ.out.trans (hb.mono HBZ.out.size)))
     have CST:=hid2 (show ∀ w2,Below wz.heap.size wz w2→Calls Tryz.prog 34 #[.agg #[.string B3,.slice AA3 an3 ac3,.slice AW3 wn3 wc3,.int .i64 k3,.string P3,.string D3,.int .i64 y3],.slice EA en ec,.slice KA kn kc,.string SX,.slice WA qn qc] w2 (StPost w2 r4) from fun w2 hb=>CST1.out w2 WA qc (HI.out.below.trans (hb.mono HI.out.below.size)) (HI.out.rs.below hb) ((HOW.out.mono (Nat.zero_le _)).below hb (Nat.le_refl _)))
     refine wp_region_grd 9 (by kernel_rfl) (by kernel_rfl) (by kernel_rfl) _ rfl (by kernel_rfl) (VV [some (.agg #[.string B3,.slice AA3 an3 ac3,.slice AW3 wn3 wc3,.int .i64 k3,.string P3,.string D3,.int .i64 y3]),some (.slice EA en ec),some (.slice KA kn kc),some (.slice (some ⟨lb,lo,none⟩) nL lc),some (.int .i64 (i:Nat)),some (.pointer (some ⟨lb,lo+i,none⟩)),some (.string SX),some (.slice WA qn qc),none] (fun _ v w2=>XSt r4 v w2)) (fun w2=>Below wz.heap.size wz w2) (fun a b=>Below a.heap.size a b) ((Below.refl _ wz).drew) (fun j v w1 w2 hb hv=>VV.keep (fun h=>XSt.tkeep (a:=w1) (b:=w2) h (TKeep.of_below hb)) hv) ?_ ?_
     ·refine of_allOps ⟨?_,?_,?_,?_,?_,?_,?_,?_,?_,trivial⟩
      ·intro T2 w2 hM hN hO hE K hK
       have o7:T2[7]?=some (.pointer (some ⟨g7,0,none⟩)):=hO 7 rfl
       clear hE hO hN
       refine step_plain0 rfl ?_
       refine wp_load_row 37 _ rfl g7 (by simp [Act.eval,o7]) 37 _ (0,0) _ ((hM.block g7 (heap_lt HI.out.st)).trans HI.out.st) Tryz.underlying37 rfl (info_st7 rfl) ?_
       exact hK _ _ rfl hM (Below.refl _ _)
      ·intro T2 w2 hM hN hO hE K hK
       have o1:T2[1]?=some (.slice EA en ec):=hO 1 rfl
       clear hE hO hN
       refine step_plain0 rfl ?_
       go_simp
       exact hK _ _ rfl hM (Below.refl _ _)
      ·intro T2 w2 hM hN hO hE K hK
       have o2:T2[2]?=some (.slice KA kn kc):=hO 2 rfl
       clear hE hO hN
       refine step_plain0 rfl ?_
       go_simp
       exact hK _ _ rfl hM (Below.refl _ _)
      ·intro T2 w2 hM hN hO hE K hK
       have o10:T2[10]?=some (.slice (some ⟨lb,lo,none⟩) nL lc):=hO 10 rfl
       clear hE hO hN
       refine step_plain0 rfl ?_
       go_simp
       exact hK _ _ rfl hM (Below.refl _ _)
      ·intro T2 w2 hM hN hO hE K hK
       have o11:T2[11]?=some (.int .i64 (i:Nat)):=hO 11 rfl
       clear hE hO hN
       refine step_plain0 rfl ?_
       go_simp
       exact hK _ _ rfl hM (Below.refl _ _)
      ·intro T2 w2 hM hN hO hE K hK
       obtain⟨v3,h3,e3⟩:=hE ⟨3,.data⟩ (by simp) rfl _ _ rfl rfl
       rw [show v3 = .slice (some ⟨lb,lo,none⟩) nL lc from e3] at h3
       obtain⟨v4,h4,e4⟩:=hE ⟨4,.data⟩ (by simp) rfl _ _ rfl rfl
       rw [show v4 = .int .i64 (i:Nat) from e4] at h4
       clear hE hO hN
       refine step_plain0 rfl ?_
       go_simp
       exact hK _ _ rfl hM (Below.refl _ _)
      ·intro T2 w2 hM hN hO hE K hK
       obtain⟨v5,h5,e5⟩:=hE ⟨5,.data⟩ (by simp) rfl _ _ rfl rfl
       rw [show v5 = .pointer (some ⟨lb,lo+i,none⟩) from e5] at h5
       clear hE hO hN
       refine step_plain0 rfl ?_
       have yx:=HCL.out w2 hM
       go_simp
       exact hK _ _ rfl hM (Below.refl _ _)
      ·intro T2 w2 hM hN hO hE K hK
       have o12:T2[12]?=some (.slice WA qn qc):=hO 12 rfl
       clear hE hO hN
       refine step_plain0 rfl ?_
       go_simp
       exact hK _ _ rfl hM (Below.refl _ _)
      ·intro T2 w2 hM hN hO hE K hK
       obtain⟨v0,h0,e0⟩:=hE ⟨0,.data⟩ (by simp) rfl _ _ rfl rfl
       rw [show v0 = .agg #[.string B3,.slice AA3 an3 ac3,.slice AW3 wn3 wc3,.int .i64 k3,.string P3,.string D3,.int .i64 y3] from e0] at h0
       obtain⟨v1,h1,e1⟩:=hE ⟨1,.data⟩ (by simp) rfl _ _ rfl rfl
       rw [show v1 = .slice EA en ec from e1] at h1
       obtain⟨v2,h2,e2⟩:=hE ⟨2,.data⟩ (by simp) rfl _ _ rfl rfl
       rw [show v2 = .slice KA kn kc from e2] at h2
       obtain⟨v6,h6,e6⟩:=hE ⟨6,.data⟩ (by simp) rfl _ _ rfl rfl
       rw [show v6 = .string SX from e6] at h6
       obtain⟨v7,h7,e7⟩:=hE ⟨7,.data⟩ (by simp) rfl _ _ rfl rfl
       rw [show v7 = .slice WA qn qc from e7] at h7
       clear hE hO hN
       refine step_plain0 rfl ?_
       go_simp
       refine (CST.out w2 hM).mono ?_
       rintro e w5 ⟨B4,AA4,an4,ac4,AW4,wn4,wc4,k4,P4,D4,y4,rfl,hq4,hb4⟩
       exact hK _ _ ⟨B4,AA4,an4,ac4,AW4,wn4,wc4,k4,P4,D4,y4,rfl,hq4⟩ (hM.trans (hb4.mono hM.size)) hb4
     ·intro u w13 hM hF
      obtain⟨B4,AA4,an4,ac4,AW4,wn4,wc4,k4,P4,D4,y4,e8,hq4⟩:=(show XSt r4 (u 8) w13 from hF 8 (by omega))
      clear hF
      simp only [fillAll,Nat.reduceAdd,e8,List.take_succ_cons,List.take_zero,List.drop_succ_cons,List.drop_zero,List.setIfInBounds_toArray,List.set_cons_succ,List.set_cons_zero]
      have HI13:=hid2 (HI.out.keep hM)
      have HQ4:=hid2 hq4
      have zz:=HI13.out.st
      clear hM hq4
      have hk0:k4=0:=by rw [HQ4.out.2.2.2.2.2.1,HK4.out];rfl
      subst hk0
      go_wp2_with ((with_reducible refine wpList_store_lit g7 0 (.agg #[.string B4,.slice AA4 an4 ac4,.slice AW4 wn4 wc4,.int .i64 0,.string P4,.string D4,.int .i64 y4]) [.string B4,.slice AA4 an4 ac4,.slice AW4 wn4 wc4,.int .i64 0,.string P4,.string D4,.int .i64 y4] rfl _ 37 zz (info_st _ _ _ _ _ _ _) (hF7 rfl) one_st ?_ ?_);exact⟨rfl,rfl⟩;rw [laid_st7 rfl];obtain⟨w14,hw14⟩:∃ x,x=w13.setRow g7 #[.string B4,.slice AA4 an4 ac4,.slice AW4 wn4 wc4,.int .i64 0,.string P4,.string D4,.int .i64 y4]:=⟨_,rfl⟩;rw [← hw14];have HI14:=hid2 (HI13.out.put HQ4.out);rw [← hw14] at HI14;have c0:=cell_of_row w14 g7 0 _ _ _ HI14.out.st;have c1:=cell_of_row w14 g7 1 _ _ _ HI14.out.st;have c2:=cell_of_row w14 g7 2 _ _ _ HI14.out.st;have c3:=cell_of_row w14 g7 3 _ _ _ HI14.out.st;have c4:=cell_of_row w14 g7 4 _ _ _ HI14.out.st;have c5:=cell_of_row w14 g7 5 _ _ _ HI14.out.st;have c6:=cell_of_row w14 g7 6 _ _ _ HI14.out.st;have zo:=HI14.out.out;clear hw14 zz)
      go_roundg (gk - 1)
      case rel=>exact⟨i+1,B4,AA4,an4,ac4,AW4,wn4,wc4,0,P4,D4,y4,r4,HI14.out,by have:=HIN.out;omega,by go_num,HRS.out,HS4.out.1,by have:=HS4.out.2;have:=HWL.out;omega,_,HBD.out⟩
      case measure=>have:=HIN.out;omega
    ·rw [if_pos hk4] at hres
     have HRE:=hid2 hres
     have HK4:=hid2 hk4
     clear hinv hi hres hsm hwl hbd hb2 hxx hiL hxe hcell hqn cW hql cP hSX hp hok hcm hxl hr4 hs4 hk4
     go_upto_region 10 with (go_at_call 30; refine (CW.out wr).mono ?_;rintro e wz ⟨WA,qc,rfl,how,hbz⟩;have HIZ:=hid2 (HI.out.keep hbz);have HBZ:=hid2 hbz;have HOW:=hid2 how;clear how hbz HI hcx;have HI:=HIZ;clear HIZ)
     go_upto_region 11 with (go_at_call 31; refine (CP.out wz WA qc HOW.out.rd).mono ?_;rintro e wp ⟨rfl,hwp⟩;have hwp2:=hwp.symm;clear hwp;subst hwp2)
     have HCL:=hid2 (show ∀ w2,Below wz.heap.size wz w2→w2.cell? ⟨lb,lo+i,none⟩=some (.string SX) from fun w2 hb=>HCX.out w2 (HBZ.out.trans (hb.mono HBZ.out.size)))
     have CST:=hid2 (show ∀ w2,Below wz.heap.size wz w2→Calls Tryz.prog 34 #[.agg #[.string B3,.slice AA3 an3 ac3,.slice AW3 wn3 wc3,.int .i64 k3,.string P3,.string D3,.int .i64 y3],.slice EA en ec,.slice KA kn kc,.string SX,.slice WA qn qc] w2 (StPost w2 r4) from fun w2 hb=>CST1.out w2 WA qc (HI.out.below.trans (hb.mono HI.out.below.size)) (HI.out.rs.below hb) ((HOW.out.mono (Nat.zero_le _)).below hb (Nat.le_refl _)))
     refine wp_region_grd 9 (by kernel_rfl) (by kernel_rfl) (by kernel_rfl) _ rfl (by kernel_rfl) (VV [some (.agg #[.string B3,.slice AA3 an3 ac3,.slice AW3 wn3 wc3,.int .i64 k3,.string P3,.string D3,.int .i64 y3]),some (.slice EA en ec),some (.slice KA kn kc),some (.slice (some ⟨lb,lo,none⟩) nL lc),some (.int .i64 (i:Nat)),some (.pointer (some ⟨lb,lo+i,none⟩)),some (.string SX),some (.slice WA qn qc),none] (fun _ v w2=>XSt r4 v w2)) (fun w2=>Below wz.heap.size wz w2) (fun a b=>Below a.heap.size a b) ((Below.refl _ wz).drew) (fun j v w1 w2 hb hv=>VV.keep (fun h=>XSt.tkeep (a:=w1) (b:=w2) h (TKeep.of_below hb)) hv) ?_ ?_
     ·refine of_allOps ⟨?_,?_,?_,?_,?_,?_,?_,?_,?_,trivial⟩
      ·intro T2 w2 hM hN hO hE K hK
       have o7:T2[7]?=some (.pointer (some ⟨g7,0,none⟩)):=hO 7 rfl
       clear hE hO hN
       refine step_plain0 rfl ?_
       refine wp_load_row 37 _ rfl g7 (by simp [Act.eval,o7]) 37 _ (0,0) _ ((hM.block g7 (heap_lt HI.out.st)).trans HI.out.st) Tryz.underlying37 rfl (info_st7 rfl) ?_
       exact hK _ _ rfl hM (Below.refl _ _)
      ·intro T2 w2 hM hN hO hE K hK
       have o1:T2[1]?=some (.slice EA en ec):=hO 1 rfl
       clear hE hO hN
       refine step_plain0 rfl ?_
       go_simp
       exact hK _ _ rfl hM (Below.refl _ _)
      ·intro T2 w2 hM hN hO hE K hK
       have o2:T2[2]?=some (.slice KA kn kc):=hO 2 rfl
       clear hE hO hN
       refine step_plain0 rfl ?_
       go_simp
       exact hK _ _ rfl hM (Below.refl _ _)
      ·intro T2 w2 hM hN hO hE K hK
       have o10:T2[10]?=some (.slice (some ⟨lb,lo,none⟩) nL lc):=hO 10 rfl
       clear hE hO hN
       refine step_plain0 rfl ?_
       go_simp
       exact hK _ _ rfl hM (Below.refl _ _)
      ·intro T2 w2 hM hN hO hE K hK
       have o11:T2[11]?=some (.int .i64 (i:Nat)):=hO 11 rfl
       clear hE hO hN
       refine step_plain0 rfl ?_
       go_simp
       exact hK _ _ rfl hM (Below.refl _ _)
      ·intro T2 w2 hM hN hO hE K hK
       obtain⟨v3,h3,e3⟩:=hE ⟨3,.data⟩ (by simp) rfl _ _ rfl rfl
       rw [show v3 = .slice (some ⟨lb,lo,none⟩) nL lc from e3] at h3
       obtain⟨v4,h4,e4⟩:=hE ⟨4,.data⟩ (by simp) rfl _ _ rfl rfl
       rw [show v4 = .int .i64 (i:Nat) from e4] at h4
       clear hE hO hN
       refine step_plain0 rfl ?_
       go_simp
       exact hK _ _ rfl hM (Below.refl _ _)
      ·intro T2 w2 hM hN hO hE K hK
       obtain⟨v5,h5,e5⟩:=hE ⟨5,.data⟩ (by simp) rfl _ _ rfl rfl
       rw [show v5 = .pointer (some ⟨lb,lo+i,none⟩) from e5] at h5
       clear hE hO hN
       refine step_plain0 rfl ?_
       have yx:=HCL.out w2 hM
       go_simp
       exact hK _ _ rfl hM (Below.refl _ _)
      ·intro T2 w2 hM hN hO hE K hK
       have o12:T2[12]?=some (.slice WA qn qc):=hO 12 rfl
       clear hE hO hN
       refine step_plain0 rfl ?_
       go_simp
       exact hK _ _ rfl hM (Below.refl _ _)
      ·intro T2 w2 hM hN hO hE K hK
       obtain⟨v0,h0,e0⟩:=hE ⟨0,.data⟩ (by simp) rfl _ _ rfl rfl
       rw [show v0 = .agg #[.string B3,.slice AA3 an3 ac3,.slice AW3 wn3 wc3,.int .i64 k3,.string P3,.string D3,.int .i64 y3] from e0] at h0
       obtain⟨v1,h1,e1⟩:=hE ⟨1,.data⟩ (by simp) rfl _ _ rfl rfl
       rw [show v1 = .slice EA en ec from e1] at h1
       obtain⟨v2,h2,e2⟩:=hE ⟨2,.data⟩ (by simp) rfl _ _ rfl rfl
       rw [show v2 = .slice KA kn kc from e2] at h2
       obtain⟨v6,h6,e6⟩:=hE ⟨6,.data⟩ (by simp) rfl _ _ rfl rfl
       rw [show v6 = .string SX from e6] at h6
       obtain⟨v7,h7,e7⟩:=hE ⟨7,.data⟩ (by simp) rfl _ _ rfl rfl
       rw [show v7 = .slice WA qn qc from e7] at h7
       clear hE hO hN
       refine step_plain0 rfl ?_
       go_simp
       refine (CST.out w2 hM).mono ?_
       rintro e w5 ⟨B4,AA4,an4,ac4,AW4,wn4,wc4,k4,P4,D4,y4,rfl,hq4,hb4⟩
       exact hK _ _ ⟨B4,AA4,an4,ac4,AW4,wn4,wc4,k4,P4,D4,y4,rfl,hq4⟩ (hM.trans (hb4.mono hM.size)) hb4
     ·intro u w13 hM hF
      obtain⟨B4,AA4,an4,ac4,AW4,wn4,wc4,k4,P4,D4,y4,e8,hq4⟩:=(show XSt r4 (u 8) w13 from hF 8 (by omega))
      clear hF
      simp only [fillAll,Nat.reduceAdd,e8,List.take_succ_cons,List.take_zero,List.drop_succ_cons,List.drop_zero,List.setIfInBounds_toArray,List.set_cons_succ,List.set_cons_zero]
      have HI13:=hid2 (HI.out.keep hM)
      have HQ4:=hid2 hq4
      have zz:=HI13.out.st
      clear hM hq4
      have hk0:¬ k4=0:=by rw [HQ4.out.2.2.2.2.2.1];have:=HK4.out;omega
      have hk0b:(k4 == 0)=false:=by rw [beq_eq_false_iff_ne];exact hk0
      go_wp2_with (first
       | ((with_reducible refine wpList_store_lit g7 0 (.agg #[.string B4,.slice AA4 an4 ac4,.slice AW4 wn4 wc4,.int .i64 k4,.string P4,.string D4,.int .i64 y4]) [.string B4,.slice AA4 an4 ac4,.slice AW4 wn4 wc4,.int .i64 k4,.string P4,.string D4,.int .i64 y4] rfl _ 37 zz (info_st _ _ _ _ _ _ _) (hF7 rfl) one_st ?_ ?_);exact⟨rfl,rfl⟩;rw [laid_st7 rfl];obtain⟨w14,hw14⟩:∃ x,x=w13.setRow g7 #[.string B4,.slice AA4 an4 ac4,.slice AW4 wn4 wc4,.int .i64 k4,.string P4,.string D4,.int .i64 y4]:=⟨_,rfl⟩;rw [← hw14];have HI14:=hid2 (HI13.out.put HQ4.out);rw [← hw14] at HI14;have c0:=cell_of_row w14 g7 0 _ _ _ HI14.out.st;have c1:=cell_of_row w14 g7 1 _ _ _ HI14.out.st;have c2:=cell_of_row w14 g7 2 _ _ _ HI14.out.st;have c3:=cell_of_row w14 g7 3 _ _ _ HI14.out.st;have c4:=cell_of_row w14 g7 4 _ _ _ HI14.out.st;have c5:=cell_of_row w14 g7 5 _ _ _ HI14.out.st;have c6:=cell_of_row w14 g7 6 _ _ _ HI14.out.st;have zo:=HI14.out.out;clear hw14 zz)
       | ((with_reducible refine wpList_store_lit g6 0 (.agg #[.string B4,.slice AA4 an4 ac4,.slice AW4 wn4 wc4,.int .i64 k4,.string P4,.string D4,.int .i64 y4]) [.string B4,.slice AA4 an4 ac4,.slice AW4 wn4 wc4,.int .i64 k4,.string P4,.string D4,.int .i64 y4] rfl _ 37 zo (info_st _ _ _ _ _ _ _) (hF7 rfl) one_st ?_ ?_);exact⟨rfl,rfl⟩;rw [laid_st7 rfl]))
      try simp only [Act.put]
      refine bodyPost_ret (v:=.agg #[.string B4,.slice AA4 an4 ac4,.slice AW4 wn4 wc4,.int .i64 k4,.string P4,.string D4,.int .i64 y4]) (results_cell_row rfl _ _ g6 37 _ (0,0) _ rfl (setRow_heap w14 g6 _ _ _ _ HI14.out.out) Tryz.underlying37 rfl (by kernel_rfl)) rfl ?_
      rw [HRE.out]
      exact⟨_,_,_,_,_,_,_,_,_,_,_,rfl,HI14.out.rs.put HI14.out.out (by decide) (by decide) _,below_setRow HI14.out.below HI14.out.b10 _⟩
  ·have hil:¬ (i:Int) < nL:=by omega
   have HRE:=hid2 (show RES={ r3 with stop:=⟨3,[],[],0⟩ } from by
    rw [hres,List.drop_of_length_le (by rw [← HNL.out];omega)]
    rfl)
   have zz:=hinv.st
   have HQE:=hid2 (show RSA wr B3 AA3 an3 ac3 AW3 wn3 wc3 3 ⟨#[]⟩ ⟨#[]⟩ 0 { r3 with stop:=⟨3,[],[],0⟩ } from by
    obtain⟨f1,f2,f3,f4,f5,_⟩:=hinv.rs
    exact⟨f1,f2,f3,f4,f5,rfl,rfl,rfl,rfl⟩)
   have hF3:3+[Value.int .i64 3,.string ⟨#[]⟩,.string ⟨#[]⟩,.int .i64 0].length≤(#[.string B3,.slice AA3 an3 ac3,.slice AW3 wn3 wc3,.int .i64 k3,.string P3,.string D3,.int .i64 y3]:Array Value).size:=Nat.le_refl 7
   clear hinv hi hres hsm hwl hbd
   go_wp2_with (first
    | ((with_reducible refine wpList_store_lit g7 3 (.agg #[.int .i64 3,.string ⟨#[]⟩,.string ⟨#[]⟩,.int .i64 0]) [.int .i64 3,.string ⟨#[]⟩,.string ⟨#[]⟩,.int .i64 0] rfl #[.string B3,.slice AA3 an3 ac3,.slice AW3 wn3 wc3,.int .i64 k3,.string P3,.string D3,.int .i64 y3] 37 zz (info_do4 _ _ _ _) hF3 one_do ?_ ?_);exact⟨rfl,rfl⟩;rw [show laid #[.string B3,.slice AA3 an3 ac3,.slice AW3 wn3 wc3,.int .i64 k3,.string P3,.string D3,.int .i64 y3] 3 [.int .i64 3,.string ⟨#[]⟩,.string ⟨#[]⟩,.int .i64 0]=#[.string B3,.slice AA3 an3 ac3,.slice AW3 wn3 wc3,.int .i64 3,.string ⟨#[]⟩,.string ⟨#[]⟩,.int .i64 0] from rfl];obtain⟨w14,hw14⟩:∃ x,x=wr.setRow g7 #[.string B3,.slice AA3 an3 ac3,.slice AW3 wn3 wc3,.int .i64 3,.string ⟨#[]⟩,.string ⟨#[]⟩,.int .i64 0]:=⟨_,rfl⟩;rw [← hw14];have HI14:=hid2 (HI.out.put HQE.out);rw [← hw14] at HI14;have c0:=cell_of_row w14 g7 0 _ _ _ HI14.out.st;have c1:=cell_of_row w14 g7 1 _ _ _ HI14.out.st;have c2:=cell_of_row w14 g7 2 _ _ _ HI14.out.st;have c3:=cell_of_row w14 g7 3 _ _ _ HI14.out.st;have c4:=cell_of_row w14 g7 4 _ _ _ HI14.out.st;have c5:=cell_of_row w14 g7 5 _ _ _ HI14.out.st;have c6:=cell_of_row w14 g7 6 _ _ _ HI14.out.st;have zo:=HI14.out.out;clear hw14 zz)
    | ((with_reducible refine wpList_store_lit g6 0 (.agg #[.string B3,.slice AA3 an3 ac3,.slice AW3 wn3 wc3,.int .i64 3,.string ⟨#[]⟩,.string ⟨#[]⟩,.int .i64 0]) [.string B3,.slice AA3 an3 ac3,.slice AW3 wn3 wc3,.int .i64 3,.string ⟨#[]⟩,.string ⟨#[]⟩,.int .i64 0] rfl _ 37 zo (info_st _ _ _ _ _ _ _) (hF7 rfl) one_st ?_ ?_);exact⟨rfl,rfl⟩;rw [laid_st7 rfl]))
   try simp only [Act.put]
   refine bodyPost_ret (v:=.agg #[.string B3,.slice AA3 an3 ac3,.slice AW3 wn3 wc3,.int .i64 3,.string ⟨#[]⟩,.string ⟨#[]⟩,.int .i64 0]) (results_cell_row rfl _ _ g6 37 _ (0,0) _ rfl (setRow_heap w14 g6 _ _ _ _ HI14.out.out) Tryz.underlying37 rfl (by kernel_rfl)) rfl ?_
   rw [HRE.out]
   exact⟨_,_,_,_,_,_,_,_,_,_,_,rfl,HI14.out.rs.put HI14.out.out (by decide) (by decide) _,below_setRow HI14.out.below HI14.out.b10 _⟩
end Go.Proofs.YtnecjdhamohadaaGreatDoor
