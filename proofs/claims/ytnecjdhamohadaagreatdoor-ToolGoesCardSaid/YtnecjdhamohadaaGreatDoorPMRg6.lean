/- The document's run of a tool: it asks for a file. -/
import Derived.Test.YtnecjdhamohadaaGreatDoorPMu
import Derived.Test.YtnecjdhamohadaaGreatDoorPMRf2
import Derived.Test.YtnecjdhamohadaaGreatDoorPMReg5
import Derived.Test.YtnecjdhamohadaaGreatDoorPMRg1
import Derived.Test.YtnecjdhamohadaaGreatDoorPMRg2
set_option linter.unusedSimpArgs false
set_option linter.unusedVariables false
namespace Go.Proofs.YtnecjdhamohadaaGreatDoor
open Go.RowKit Go.Maps Go.Shelf
set_option maxRecDepth 100000
theorem info_st7 {cs:Array Value} (h:cs.size=7):(Tryz.prog.info? 37).map (·.size)=some cs.size:=by rw [h];kernel_rfl
theorem info_kn3 {cs:Array Value} (h:cs.size=3):(Tryz.prog.info? 41).map (·.size)=some cs.size:=by rw [h];kernel_rfl
theorem results_two_rows {fn:Func} {p q:Tmp} (h:fn.results=#[.cell p 37,.cell q 41]) (tmps:Array Value) (w:World) (g g2:Nat) (t t2:TypeId) (cs ds:Array Value) (fr fr2:Nat × Nat)
  (hp:tmps.getD p undef = .pointer (some ⟨g,0,none⟩)) (hq:tmps.getD q undef = .pointer (some ⟨g2,0,none⟩)) (hg:w.heap[g]?=some (.cells cs t fr)) (hg2:w.heap[g2]?=some (.cells ds t2 fr2)) (hi:cs.size=7) (hi2:ds.size=3) :
  (results fn tmps).run Tryz.prog w = .ok (.tuple #[.agg cs,.agg ds]) w:=by
 have hp':tmps[p]?.getD undef = .pointer (some ⟨g,0,none⟩):=by simpa using hp
 have hq':tmps[q]?.getD undef = .pointer (some ⟨g2,0,none⟩):=by simpa using hq
 simp [results,h,hp',hq',asAddr,run_loadVar_row w g t _ cs fr _ hg Tryz.underlying37 rfl (info_st7 hi),run_loadVar_row w g2 t2 _ ds fr2 _ hg2 Tryz.underlying41 rfl (info_kn3 hi2),Sem.run_bind,Sem.run_pure]
theorem results_row_tmp {fn:Func} {p u:Tmp} (h:fn.results=#[.cell p 37,.tmp u]) (tmps:Array Value) (w:World) (g:Nat) (t:TypeId) (cs:Array Value) (v:Value) (fr:Nat × Nat)
  (hp:tmps.getD p undef = .pointer (some ⟨g,0,none⟩)) (hv:tmps.getD u undef=v) (hg:w.heap[g]?=some (.cells cs t fr)) (hi:cs.size=7) :
  (results fn tmps).run Tryz.prog w = .ok (.tuple #[.agg cs,v]) w:=by
 rw [results_cell_tmp h,hp,hv]
 simp only [asAddr]
 rw [Sem.run_pure]
 simp only [Result.andThen]
 rw [run_loadVar_row w g t _ cs fr _ hg Tryz.underlying37 rfl (info_st7 hi)]
theorem RSA.put {w:World} {B:ByteArray} {AA:Option Addr} {an ac:Nat} {AW:Option Addr} {wn wc:Nat} {k:Int} {P D:ByteArray} {y:Int} {r:RS} (h:RSA w B AA an ac AW wn wc k P D y r) {g:Nat} {cs:Array Value} {t:TypeId} {fr:Nat × Nat} (hg:w.heap[g]?=some (.cells cs t fr)) (h1:9 ≠ t) (h2:35 ≠ t) (cs':Array Value):RSA (w.setRow g cs') B AA an ac AW wn wc k P D y r:=by
 obtain⟨g1,g2,g3,g4,g5,g6⟩:=h
 exact⟨g1,g2,g3.setOtherRow hg h1,g4,g5.setOtherRow hg h2,g6⟩
def zSt:Array Value:=#[.string ⟨#[]⟩,.slice none 0 0,.slice none 0 0,.int .i64 0,.string ⟨#[]⟩,.string ⟨#[]⟩,.int .i64 0]
def zKn:Array Value:=#[.string ⟨#[]⟩,.bool false,.string ⟨#[]⟩]
def StRow (w:World) (g:Nat):Prop:=∃ cs:Array Value,cs.size=7∧w.heap[g]?=some (.cells cs 37 (0,0))
def KnRow (w:World) (g:Nat):Prop:=∃ cs:Array Value,cs.size=3∧w.heap[g]?=some (.cells cs 41 (0,0))
theorem StRow.below {w w':World} {g:Nat} (h:StRow w g) (hb:Below w.heap.size w w'):StRow w' g:=by
 obtain⟨cs,h1,h2⟩:=h
 exact⟨cs,h1,(hb.block g (heap_lt h2)).trans h2⟩
theorem KnRow.below {w w':World} {g:Nat} (h:KnRow w g) (hb:Below w.heap.size w w'):KnRow w' g:=by
 obtain⟨cs,h1,h2⟩:=h
 exact⟨cs,h1,(hb.block g (heap_lt h2)).trans h2⟩
theorem StRow.put {w:World} {g g2:Nat} (h:StRow w g) {cs:Array Value} (hc:cs.size=7) (h2:StRow w g2):StRow (w.setRow g2 cs) g:=by
 obtain⟨c1,e1,e2⟩:=h
 obtain⟨c2,e3,e4⟩:=h2
 by_cases hg:g=g2
 ·subst hg
  exact⟨cs,hc,setRow_heap w g _ _ _ _ e2⟩
 ·exact⟨c1,e1,(setRow_other w g2 g cs hg).trans e2⟩
theorem row_ne {w:World} {g g2:Nat} {a b:Array Value} {t u:TypeId} {f f2:Nat × Nat} (h1:w.heap[g]?=some (.cells a t f)) (h2:w.heap[g2]?=some (.cells b u f2)) (hne:t≠u):g≠g2:=fun e=>by
 subst e
 rw [h1] at h2
 cases h2
 exact hne rfl
theorem KnRow.putS {w:World} {g g2:Nat} (h:KnRow w g) {cs:Array Value} (h2:StRow w g2):KnRow (w.setRow g2 cs) g:=by
 obtain⟨c1,e1,e2⟩:=h
 obtain⟨c2,e3,e4⟩:=h2
 exact⟨c1,e1,(setRow_other w g2 g cs (row_ne e2 e4 (by decide))).trans e2⟩
theorem StRow.putK {w:World} {g g2:Nat} (h:StRow w g) {cs:Array Value} (h2:KnRow w g2):StRow (w.setRow g2 cs) g:=by
 obtain⟨c1,e1,e2⟩:=h
 obtain⟨c2,e3,e4⟩:=h2
 exact⟨c1,e1,(setRow_other w g2 g cs (row_ne e2 e4 (by decide))).trans e2⟩
theorem KnRow.putK {w:World} {g g2:Nat} (h:KnRow w g) {cs:Array Value} (hc:cs.size=3) (h2:KnRow w g2):KnRow (w.setRow g2 cs) g:=by
 obtain⟨c1,e1,e2⟩:=h
 obtain⟨c2,e3,e4⟩:=h2
 by_cases hg:g=g2
 ·subst hg
  exact⟨cs,hc,setRow_heap w g _ _ _ _ e2⟩
 ·exact⟨c1,e1,(setRow_other w g2 g cs hg).trans e2⟩
def orK (K:List KE) (p:TT):Option KE:=(K.find? fun k=>k.path == p).map nrm
theorem orK_at {K:List KE} {p:TT} {i:Nat} {x:KE} (h:K[i]?=some x) (hp:x.path=p) (hno:∀ (j:Nat) (y:KE),j < i→K[j]?=some y→y.path≠p):orK K p=some (nrm x):=by
 induction K generalizing i with
 | nil=>simp at h
 | cons y l ih =>
  cases i with
  | zero =>
   rw [List.getElem?_cons_zero] at h
   cases h
   simp [orK,hp]
  | succ i =>
   rw [List.getElem?_cons_succ] at h
   have h0:=hno 0 y (by omega) rfl
   have:=ih h fun j z hj hz=>hno (j+1) z (by omega) (by rw [List.getElem?_cons_succ];exact hz)
   unfold orK at this ⊢
   rw [List.find?_cons_of_neg (by simpa using h0)]
   exact this
theorem orK_none {K:List KE} {p:TT} (hno:∀ (j:Nat) (y:KE),K[j]?=some y→y.path≠p):orK K p=none:=by
 have:K.find? (fun x=>x.path == p)=none:=by
  rw [List.find?_eq_none]
  intro y hy
  obtain⟨j,hj⟩:=List.getElem?_of_mem hy
  simpa using hno j y hj
 rw [orK,this]
 rfl
theorem nrm_is (x:KE):(nrm x).is=x.is:=by
 unfold nrm
 split
 ·rename_i h;rw [h]
 ·rename_i h
  have:x.is=false:=by simpa using h
  rw [this]
  rfl
theorem nrm_data {x:KE} (h:x.is=true):(nrm x).data=x.data:=by
 unfold nrm
 rw [if_pos h]
def AskPost (w:World) (x:RS × KE) (e:Ending) (w':World):Prop:=∃ (B:ByteArray) (AA:Option Addr) (an ac:Nat) (AW:Option Addr) (wn wc:Nat) (k:Int) (P D:ByteArray) (y:Int) (X Y:ByteArray),e = .returned (.tuple #[.agg #[.string B,.slice AA an ac,.slice AW wn wc,.int .i64 k,.string P,.string D,.int .i64 y],.agg #[.string X,.bool x.2.is,.string Y]])∧RSA w' B AA an ac AW wn wc k P D y x.1∧(x.2.is=true→Y=strB x.2.data)∧Below w.heap.size w w'
def AskM (w w2:World) (g0 g1 g2:Nat) (ST:Array Value):Prop:=Below w.heap.size w w2∧w2.heap[g0]?=some (.cells ST 37 (0,0))∧StRow w2 g1∧KnRow w2 g2∧w.heap.size≤g1∧w.heap.size≤g2∧g0≠g1
theorem AskM.drew {w w2:World} {g0 g1 g2:Nat} {ST:Array Value} (h:AskM w w2 g0 g1 g2 ST):AskM w w2.drew g0 g1 g2 ST:=⟨h.1.drew,h.2⟩
theorem AskM.put1 {w w2:World} {g0 g1 g2:Nat} {ST:Array Value} (h:AskM w w2 g0 g1 g2 ST) {cs:Array Value} (hc:cs.size=7):AskM w (w2.setRow g1 cs) g0 g1 g2 ST:=by
 obtain⟨h1,h2,h3,h4,h5,h6,h7⟩:=h
 exact⟨below_setRow h1 h5 cs,(setRow_other w2 g1 g0 cs h7).trans h2,h3.put hc h3,h4.putS h3,h5,h6,h7⟩
theorem AskM.put2 {w w2:World} {g0 g1 g2:Nat} {ST:Array Value} (h:AskM w w2 g0 g1 g2 ST) {cs:Array Value} (hc:cs.size=3):AskM w (w2.setRow g2 cs) g0 g1 g2 ST:=by
 obtain⟨h1,h2,h3,h4,h5,h6,h7⟩:=h
 obtain⟨ck,e1,e2⟩:=h4
 exact⟨below_setRow h1 h6 cs,(setRow_other w2 g2 g0 cs (row_ne h2 e2 (by decide))).trans h2,h3.putK ⟨ck,e1,e2⟩,KnRow.putK ⟨ck,e1,e2⟩ hc ⟨ck,e1,e2⟩,h5,h6,h7⟩
theorem laid_st7 {cs:Array Value} (h:cs.size=7) {a b c d e f g:Value}:laid cs 0 [a,b,c,d,e,f,g]=#[a,b,c,d,e,f,g]:=laid_all h.symm
theorem laid_kn3 {cs:Array Value} (h:cs.size=3) {a b c:Value}:laid cs 0 [a,b,c]=#[a,b,c]:=laid_all h.symm
set_option maxHeartbeats 16000000 in
theorem rask_in (w:World) (B:ByteArray) (AA:Option Addr) (an ac:Nat) (AW:Option Addr) (wn wc:Nat) (k:Int) (P D:ByteArray) (y:Int) (r:RS) (h:RSA w B AA an ac AW wn wc k P D y r) (hA5:r.asked.length≤500) (KA:Option Addr) (kc:Nat) (K:List KE) (hK:K.length≤1000000) (hr:Rd w 3 KA K.length (kV K)) (p:TT) (hm:p∈r.asked) :
  Calls Tryz.prog 52 #[.agg #[.string B,.slice AA an ac,.slice AW wn wc,.int .i64 k,.string P,.string D,.int .i64 y],.slice KA K.length kc,.string (strB p)] w (AskPost w (r.ask (orK K) p)):=by
 have htp:=toList_strBT p
 obtain⟨S,hS⟩:∃ S,S=strB p:=⟨_,rfl⟩
 obtain⟨n,hn⟩:∃ n,n=K.length:=⟨_,rfl⟩
 obtain⟨R,hR⟩:∃ R,R=r.ask (orK K) p:=⟨_,rfl⟩
 rw [← hR]
 rw [← hS] at htp ⊢
 rw [← hn] at hr hK ⊢
 obtain⟨w1,hw1⟩:∃ w1,w1=w.alloc (.cells #[.string B,.slice AA an ac,.slice AW wn wc,.int .i64 k,.string P,.string D,.int .i64 y] 37):=⟨_,rfl⟩
 obtain⟨w2,hw2⟩:∃ w2,w2=w1.alloc (.cells #[.string ⟨#[]⟩,.slice none 0 0,.slice none 0 0,.int .i64 0,.string ⟨#[]⟩,.string ⟨#[]⟩,.int .i64 0] 37):=⟨_,rfl⟩
 obtain⟨w3,hw3⟩:∃ w3,w3=w2.alloc (.cells #[.string ⟨#[]⟩,.bool false,.string ⟨#[]⟩] 41):=⟨_,rfl⟩
 have hs1:w1.heap.size=w.heap.size+1:=by rw [hw1,World.size_alloc]
 have hs2:w2.heap.size=w.heap.size+1+1:=by rw [hw2,World.size_alloc,hs1]
 have hs3:w3.heap.size=w.heap.size+1+1+1:=by rw [hw3,World.size_alloc,hs2]
 have hb1:Below w.heap.size w w1:=by rw [hw1];exact (Below.refl _ _).alloc (Nat.le_refl _) _
 have hb2:Below w.heap.size w w2:=by rw [hw2];exact hb1.alloc (by omega) _
 have hb3:Below w.heap.size w w3:=by rw [hw3];exact hb2.alloc (by omega) _
 have hg0:w3.heap[w.heap.size]?=some (.cells #[.string B,.slice AA an ac,.slice AW wn wc,.int .i64 k,.string P,.string D,.int .i64 y] 37 (0,0)):=by
  rw [hw3,Below.heap_alloc _ _ _ (by omega),hw2,Below.heap_alloc _ _ _ (by omega),hw1]
  exact World.alloc_heap_new _ _
 have hg1:w3.heap[w.heap.size+1]?=some (.cells zSt 37 (0,0)):=by
  rw [hw3,Below.heap_alloc _ _ _ (by omega),hw2,← hs1]
  exact World.alloc_heap_new _ _
 have hg2:w3.heap[w.heap.size+1+1]?=some (.cells zKn 41 (0,0)):=by
  rw [hw3,← hs2]
  exact World.alloc_heap_new _ _
 have hM3:AskM w w3 w.heap.size (w.heap.size+1) (w.heap.size+1+1) #[.string B,.slice AA an ac,.slice AW wn wc,.int .i64 k,.string P,.string D,.int .i64 y]:=⟨hb3,hg0,⟨_,rfl,hg1⟩,⟨_,rfl,hg2⟩,by omega,by omega,by omega⟩
 have hn2:w2.alloc (.cells #[.string ⟨#[]⟩,.bool false,.string ⟨#[]⟩] 41)=w3:=hw3.symm
 have hR3:=h.below hb3
 have hN:=h.2.1
 have hrd:=h.2.2.1.rd
 obtain⟨g0,hg0e⟩:∃ g,g=w.heap.size:=⟨_,rfl⟩
 obtain⟨g1,hg1e⟩:∃ g,g=w.heap.size+1:=⟨_,rfl⟩
 obtain⟨g2,hg2e⟩:∃ g,g=w.heap.size+1+1:=⟨_,rfl⟩
 have H123:=hid2 (show ((w.alloc (.cells #[.string B,.slice AA an ac,.slice AW wn wc,.int .i64 k,.string P,.string D,.int .i64 y] 37)).alloc (.cells #[.string ⟨#[]⟩,.slice none 0 0,.slice none 0 0,.int .i64 0,.string ⟨#[]⟩,.string ⟨#[]⟩,.int .i64 0] 37)).alloc (.cells #[.string ⟨#[]⟩,.bool false,.string ⟨#[]⟩] 41)=w3 from by rw [hw3,hw2,hw1])
 rw [← hg0e] at hg0
 rw [← hg1e] at hg1
 rw [← hg2e] at hg2
 rw [← hg2e,← hg1e,← hg0e] at hM3
 have HE:=hid2 (And.intro hg0e (And.intro hg1e hg2e))
 have HRK:=hid2 hr
 have HN:=hid2 hn
 have HTP:=hid2 htp
 have hlim:(n:Int)≤1000000:=by omega
 have cH:=fun (W:World) (hb:Below w.heap.size w W)=>rhas_any W AA ac r.asked p (by omega) (by rw [← hN];exact hrd.below_all hb)
 rw [← hN,← hS,show decide (p∈r.asked)=true from decide_eq_true hm] at cH
 have HASK:=hid2 (show R=RS.askIn (orK K) r p from by rw [hR,RS.ask,if_pos hm])
 have HSS:=hid2 hS
 have CH:=hid2 (cH w3 hb3)
 have HM3:=hid2 hM3
 have HR3:=hid2 hR3
 obtain⟨r1,hr1⟩:∃ r1,r1=r:=⟨_,rfl⟩
 rw [← hr1] at HASK HR3
 have yA:=cell_of_row w3 g0 1 _ _ _ hg0
 clear cH hR3 hM3 hr hn hR htp hS hw1 hw2 hw3 hs1 hs2 hs3 hb1 hb2 hb3 hg0 hg1 hg2 hn2 hN hrd hA5 h hm hr1 hg0e hg1e hg2e
 go_enter Tryz.func52,Tryz.ntmps52
 go_upto_region 1 with fail
 rw [H123.out,← HE.out.2.2,← HE.out.2.1,← HE.out.1]
 go_wp2_with (go_at_call 80; refine CH.out.mono ?_;rintro e w4 ⟨rfl,rfl⟩;clear CH)
 have HM:=HM3
 have HR1:=HR3
 clear HM3 HR3
 go_loopg [8] n (fun gk iv wr=>wr=w4∧∃ i:Nat,i+gk=n∧iv = .int .i64 i∧∀ (j:Nat) (y:KE),j < i→K[j]?=some y→y.path≠p)
 case atStart=>exact⟨rfl,0,by omega,rfl,fun j y hj=>absurd hj (Nat.not_lt_zero _)⟩
 case round =>
  obtain⟨rfl,i,hi,rfl,hno⟩:=hrel
  by_cases hlt:i < n
  ·have hil:(i:Int) < n:=by omega
   have hi0:(0:Int)≤i:=by omega
   obtain⟨x,hx⟩:∃ x,K[i]?=some x:=⟨_,List.getElem?_eq_getElem (by rw [← HN.out];exact hlt)⟩
   obtain⟨b,o,hKA,hcell⟩:=HRK.out.2 (by omega)
   subst hKA
   have hk0:=hcell _ _ (kV_get hx).1
   have hk1:=hcell _ _ (kV_get hx).2.1
   have hk2:=hcell _ _ (kV_get hx).2.2
   have hblt:b < w.heap.size:=World.block_lt_of_cell? _ _ hk0
   have htx:=toList_strBT x.path
   by_cases hpx:x.path=p
   ·have hO:=orK_at hx hpx hno
    have hpS:strB x.path=S:=by rw [hpx,HSS.out]
    rw [hpS] at hk0
    obtain⟨XD,hXD⟩:∃ D,D=strB x.data:=⟨_,rfl⟩
    obtain⟨xi,hxi⟩:∃ b,b=x.is:=⟨_,rfl⟩
    rw [← hXD] at hk2
    rw [← hxi] at hk1
    have HC:=hid2 (show ∀ w2,Below w.heap.size w w2→w2.cell? ⟨b,o+i * 3,none⟩=some (.string S)∧w2.cell? ⟨b,o+i * 3+1,none⟩=some (.bool xi)∧w2.cell? ⟨b,o+i * 3+2,none⟩=some (.string XD) from fun w2 hb=>⟨(hb.cell (p:=⟨b,o+i * 3,none⟩) hblt).trans hk0,(hb.cell (p:=⟨b,o+i * 3+1,none⟩) hblt).trans hk1,(hb.cell (p:=⟨b,o+i * 3+2,none⟩) hblt).trans hk2⟩)
    have HRES:=hid2 (show R=(r1,nrm x) from by rw [HASK.out,RS.askIn,hO])
    have HXI:=hid2 hxi
    have HXD:=hid2 hXD
    obtain⟨y0,_,_⟩:=HC.out wr HM.out.1
    have heq:(S.toList == S.toList)=true:=beq_self_eq_true _
    clear hx hcell hk0 hk1 hk2 hno hpx hO hpS hXD hxi hi htx hblt
    go_wp2_with fail
    refine wp_region_lst 7 (by kernel_rfl) (by kernel_rfl) (by kernel_rfl) _ rfl (by kernel_rfl) (VV [some (.agg #[.string B,.slice AA an ac,.slice AW wn wc,.int .i64 k,.string P,.string D,.int .i64 y]),some (.slice (some ⟨b,o,none⟩) n kc),some (.int .i64 (i:Nat)),some (.pointer (some ⟨b,o+i * 3,none⟩)),some (.agg #[.string S,.bool xi,.string XD]),none,none] (fun _ _ _=>True)) (fun L _ w2=>AskM w w2 g0 g1 g2 #[.string B,.slice AA an ac,.slice AW wn wc,.int .i64 k,.string P,.string D,.int .i64 y]∧RSA w2 B AA an ac AW wn wc k P D y r1∧(L 5=true→w2.heap[g1]?=some (.cells #[.string B,.slice AA an ac,.slice AW wn wc,.int .i64 k,.string P,.string D,.int .i64 y] 37 (0,0)))∧(L 6=true→w2.heap[g2]?=some (.cells #[.string S,.bool xi,.string XD] 41 (0,0)))) (fun _ _=>True) (fun _=>⟨HM.out.drew,HR1.out.below (Below.refl _ wr).drew,fun h=>absurd h (by decide),fun h=>absurd h (by decide)⟩) (fun j v w1 w2 hb hv=>VV.keep (fun _=>trivial) hv) ?_ ?_
    ·refine of_allOps ⟨?_,?_,?_,?_,?_,?_,?_,trivial⟩
     ·intro T2 w2 L2 u2 hM hli hcl hT hLe hN hO hE K hK
      have o3:T2[3]?=some (.pointer (some ⟨g0,0,none⟩)):=hO 3 rfl
      clear hE hO hN
      refine step_plain0 rfl ?_
      refine wp_load_row 37 _ rfl g0 (by simp [Act.eval,o3]) 37 _ (0,0) _ hM.1.2.1 Tryz.underlying37 rfl (info_st7 rfl) ?_
      exact hK _ _ rfl hM trivial
     ·intro T2 w2 L2 u2 hM hli hcl hT hLe hN hO hE K hK
      have o1:T2[1]?=some (.slice (some ⟨b,o,none⟩) n kc):=hO 1 rfl
      clear hE hO hN hli hcl hT hLe
      refine step_plain0 rfl ?_
      go_simp
      exact hK _ _ rfl hM (trivial)
     ·intro T2 w2 L2 u2 hM hli hcl hT hLe hN hO hE K hK
      have o8:T2[8]?=some (.int .i64 (i:Nat)):=hO 8 rfl
      clear hE hO hN hli hcl hT hLe
      refine step_plain0 rfl ?_
      go_simp
      exact hK _ _ rfl hM (trivial)
     ·intro T2 w2 L2 u2 hM hli hcl hT hLe hN hO hE K hK
      obtain⟨v1,h1,e1,eu1⟩:=hE ⟨1,.data⟩ (by simp) rfl _ _ rfl rfl
      rw [show v1 = .slice (some ⟨b,o,none⟩) n kc from e1] at h1 eu1
      obtain⟨v2,h2,e2,eu2⟩:=hE ⟨2,.data⟩ (by simp) rfl _ _ rfl rfl
      rw [show v2 = .int .i64 (i:Nat) from e2] at h2 eu2
      clear hE hO hN hli hcl hT hLe eu1 eu2
      refine step_plain0 rfl ?_
      go_simp
      exact hK _ _ rfl hM (trivial)
     ·intro T2 w2 L2 u2 hM hli hcl hT hLe hN hO hE K hK
      obtain⟨v3,h3,e3,eu3⟩:=hE ⟨3,.data⟩ (by simp) rfl _ _ rfl rfl
      rw [show v3 = .pointer (some ⟨b,o+i * 3,none⟩) from e3] at h3 eu3
      clear hE hO hN
      refine step_plain0 rfl ?_
      obtain⟨y0,y1,y2⟩:=HC.out w2 hM.1.1
      go_simp
      exact hK _ _ rfl hM trivial
     ·intro T2 w2 L2 u2 hM hli hcl hT hLe hN hO hE K hK
      have o6:T2[6]?=some (.pointer (some ⟨g1,0,none⟩)):=hO 6 rfl
      obtain⟨v0,h0,e0,eu0⟩:=hE ⟨0,.data⟩ (by simp) rfl _ _ rfl rfl
      rw [show v0 = .agg #[.string B,.slice AA an ac,.slice AW wn wc,.int .i64 k,.string P,.string D,.int .i64 y] from e0] at h0 eu0
      clear hE hO hN
      refine step_plain0 rfl ?_
      obtain⟨hA,hq,h5,h6⟩:=hM
      obtain⟨cs1,z1,z2⟩:=hA.2.2.1
      refine wp_store_row 37 _ _ rfl g1 #[.string B,.slice AA an ac,.slice AW wn wc,.int .i64 k,.string P,.string D,.int .i64 y] (by simp [Act.eval,o6]) (by simp [Act.eval,h0]) 37 cs1 z2 (info_st7 rfl) z1 (by simp [Value.oneCell']) ?_
      exact hK undef _ trivial ⟨hA.put1 rfl,hq.put z2 (by decide) (by decide) _,fun _=>setRow_heap w2 g1 _ _ _ _ z2,fun e=>(setRow_other w2 g1 g2 _ (row_ne (h6 e) z2 (by decide))).trans (h6 e)⟩ trivial
     ·intro T2 w2 L2 u2 hM hli hcl hT hLe hN hO hE K hK
      have o7:T2[7]?=some (.pointer (some ⟨g2,0,none⟩)):=hO 7 rfl
      obtain⟨v4,h4,e4,eu4⟩:=hE ⟨4,.data⟩ (by simp) rfl _ _ rfl rfl
      rw [show v4 = .agg #[.string S,.bool xi,.string XD] from e4] at h4 eu4
      clear hE hO hN
      refine step_plain0 rfl ?_
      obtain⟨hA,hq,h5,h6⟩:=hM
      obtain⟨cs1,z1,z2⟩:=hA.2.2.2.1
      refine wp_store_row 41 _ _ rfl g2 #[.string S,.bool xi,.string XD] (by simp [Act.eval,o7]) (by simp [Act.eval,h4]) 41 cs1 z2 (info_kn3 rfl) z1 (by simp [Value.oneCell']) ?_
      exact hK undef _ trivial ⟨hA.put2 rfl,hq.put z2 (by decide) (by decide) _,fun e=>(setRow_other w2 g2 g1 _ (row_ne (h5 e) z2 (by decide))).trans (h5 e),fun _=>setRow_heap w2 g2 _ _ _ _ z2⟩ trivial
    ·intro u w4 hM hF
     clear hF
     simp only [fillAll,Nat.reduceAdd,List.take_succ_cons,List.take_zero,List.drop_succ_cons,List.drop_zero,List.setIfInBounds_toArray,List.set_cons_succ,List.set_cons_zero]
     obtain⟨hA,hq,h5,h6⟩:=hM
     have HA:=hid2 hA
     have HQ:=hid2 hq
     have z5:=h5 rfl
     have z6:=h6 rfl
     clear hA hq h5 h6
     go_wp2_with fail
     refine bodyPost_ret (v:=.tuple #[.agg #[.string B,.slice AA an ac,.slice AW wn wc,.int .i64 k,.string P,.string D,.int .i64 y],.agg #[.string S,.bool xi,.string XD]]) (results_two_rows rfl _ _ g1 g2 37 41 _ _ (0,0) (0,0) rfl rfl z5 z6 rfl rfl) rfl ?_
     rw [HRES.out]
     exact⟨_,_,_,_,_,_,_,_,_,_,_,S,XD,by rw [HXI.out,← nrm_is],HQ.out,fun e=>by rw [nrm_is] at e;rw [HXD.out];show strB x.data=strB (nrm x).data;rw [nrm_data e],HA.out.1⟩
   ·have hneq:((strB x.path).toList == S.toList)=false:=by rw [htx,HTP.out,beq_eq_false_iff_ne];exact hpx
    have hneq2:¬ (strB x.path).toList=S.toList:=by rw [htx,HTP.out];exact hpx
    have hk0':wr.cell? ⟨b,o+i * 3,none⟩=some (.string (strB x.path)):=(HM.out.1.cell (p:=⟨b,o+i * 3,none⟩) hblt).trans hk0
    obtain⟨X,hX⟩:∃ X,X=strB x.path:=⟨_,rfl⟩
    rw [← hX] at hk0' hneq hneq2
    have hno2:∀ (j:Nat) (y:KE),j < i+1→K[j]?=some y→y.path≠p:=fun j y hj hy=>by
     rcases Nat.lt_or_ge j i with h | h
     ·exact hno j y h hy
     ·have:j=i:=by omega
      subst this
      rw [hx] at hy
      cases hy
      exact hpx
    have HNO:=hid2 hno2
    have HI:=hid2 hi
    clear hx hcell hk0 hk1 hk2 hno hpx hX htx hno2 hi hblt
    go_wp2_with fail
    go_roundg (gk - 1)
    case rel=>exact⟨rfl,i+1,by have:=HI.out;omega,by go_num,HNO.out⟩
    case measure=>have:=HI.out;omega
  ·have hin:i=n:=by omega
   have hil:¬ (i:Int) < n:=by omega
   have hO:orK K p=none:=orK_none fun j y hj=>hno j y (by rw [hin,HN.out];exact (List.getElem?_eq_some_iff.1 hj).1) hj
   have HRES:=hid2 (show R=({ r1 with stop:=⟨1,p,[],0⟩ },noK) from by rw [HASK.out,RS.askIn,hO])
   clear hno hin hO hi
   obtain⟨hA,z0,⟨cs1,u1,z1⟩,⟨cs2,u2,z2⟩,q1,q2,q3⟩:=HM.out
   have hq2:g1≠g2:=row_ne z1 z2 (by decide)
   have hq3:g0≠g2:=row_ne z0 z2 (by decide)
   obtain⟨wa,hwa⟩:∃ wa,wa=wr.setRow g0 #[.string B,.slice AA an ac,.slice AW wn wc,.int .i64 1,.string S,.string ⟨#[]⟩,.int .i64 0]:=⟨_,rfl⟩
   obtain⟨wb,hwb⟩:∃ wb,wb=wa.setRow g1 #[.string B,.slice AA an ac,.slice AW wn wc,.int .i64 1,.string S,.string ⟨#[]⟩,.int .i64 0]:=⟨_,rfl⟩
   have a0:wa.heap[g0]?=some (.cells #[.string B,.slice AA an ac,.slice AW wn wc,.int .i64 1,.string S,.string ⟨#[]⟩,.int .i64 0] 37 (0,0)):=by rw [hwa];exact setRow_heap wr g0 _ _ _ _ z0
   have a1:wa.heap[g1]?=some (.cells cs1 37 (0,0)):=by rw [hwa];exact (setRow_other wr g0 g1 _ q3.symm).trans z1
   have a2:wa.heap[g2]?=some (.cells cs2 41 (0,0)):=by rw [hwa];exact (setRow_other wr g0 g2 _ hq3.symm).trans z2
   have b1:wb.heap[g1]?=some (.cells #[.string B,.slice AA an ac,.slice AW wn wc,.int .i64 1,.string S,.string ⟨#[]⟩,.int .i64 0] 37 (0,0)):=by rw [hwb];exact setRow_heap wa g1 _ _ _ _ a1
   have b2:wb.heap[g2]?=some (.cells cs2 41 (0,0)):=by rw [hwb];exact (setRow_other wa g1 g2 _ hq2.symm).trans a2
   have d1:(wb.setRow g2 #[.string ⟨#[]⟩,.bool false,.string ⟨#[]⟩]).heap[g1]?=some (.cells #[.string B,.slice AA an ac,.slice AW wn wc,.int .i64 1,.string S,.string ⟨#[]⟩,.int .i64 0] 37 (0,0)):=(setRow_other wb g2 g1 _ hq2).trans b1
   have d2:(wb.setRow g2 #[.string ⟨#[]⟩,.bool false,.string ⟨#[]⟩]).heap[g2]?=some (.cells #[.string ⟨#[]⟩,.bool false,.string ⟨#[]⟩] 41 (0,0)):=setRow_heap wb g2 _ _ _ _ b2
   have hbE:Below w.heap.size w (wb.setRow g2 #[.string ⟨#[]⟩,.bool false,.string ⟨#[]⟩]):=by
    rw [hwb,hwa]
    exact below_setRow (below_setRow (below_setRow hA (by have:=HE.out.1;omega) _) q1 _) q2 _
   have hRE:RSA (wb.setRow g2 #[.string ⟨#[]⟩,.bool false,.string ⟨#[]⟩]) B AA an ac AW wn wc 1 S ⟨#[]⟩ 0 { r1 with stop:=⟨1,p,[],0⟩ }:=by
    have e1:=HR1.out.put z0 (by decide) (by decide) #[.string B,.slice AA an ac,.slice AW wn wc,.int .i64 1,.string S,.string ⟨#[]⟩,.int .i64 0]
    rw [← hwa] at e1
    have e2:=e1.put a1 (by decide) (by decide) #[.string B,.slice AA an ac,.slice AW wn wc,.int .i64 1,.string S,.string ⟨#[]⟩,.int .i64 0]
    rw [← hwb] at e2
    obtain⟨f1,f2,f3,f4,f5,_⟩:=e2.put b2 (by decide) (by decide) #[.string ⟨#[]⟩,.bool false,.string ⟨#[]⟩]
    exact⟨f1,f2,f3,f4,f5,rfl,HSS.out,rfl,rfl⟩
   have HBE:=hid2 hbE
   have HRE:=hid2 hRE
   have D1:=hid2 d1
   have D2:=hid2 d2
   have A0:=hid2 a0
   have HWA:=hid2 hwa
   have HWB:=hid2 hwb
   have x0:=cell_of_row wa g0 0 _ _ _ a0
   have x1:=cell_of_row wa g0 1 _ _ _ a0
   have x2:=cell_of_row wa g0 2 _ _ _ a0
   have x3:=cell_of_row wa g0 3 _ _ _ a0
   have x4:=cell_of_row wa g0 4 _ _ _ a0
   have x5:=cell_of_row wa g0 5 _ _ _ a0
   have x6:=cell_of_row wa g0 6 _ _ _ a0
   have hF3:3+[Value.int .i64 1,.string S,.string ⟨#[]⟩,.int .i64 0].length≤(#[.string B,.slice AA an ac,.slice AW wn wc,.int .i64 k,.string P,.string D,.int .i64 y]:Array Value).size:=Nat.le_refl 7
   have hF1:0+([.string B,.slice AA an ac,.slice AW wn wc,.int .i64 1,.string S,.string ⟨#[]⟩,.int .i64 0]:List Value).length≤cs1.size:=by rw [u1];exact Nat.le_refl 7
   have hF2:0+[Value.string ⟨#[]⟩,.bool false,.string ⟨#[]⟩].length≤cs2.size:=by rw [u2];exact Nat.le_refl 3
   clear hA q1 q2 q3 hq2 hq3 hbE hRE d1 d2 a0 hwa hwb b1 z1 z2 a2
   go_wp2_with (first
    | ((with_reducible refine wpList_store_lit g0 3 (.agg #[.int .i64 1,.string S,.string ⟨#[]⟩,.int .i64 0]) [.int .i64 1,.string S,.string ⟨#[]⟩,.int .i64 0] rfl #[.string B,.slice AA an ac,.slice AW wn wc,.int .i64 k,.string P,.string D,.int .i64 y] 37 z0 (info_do4 _ _ _ _) hF3 one_do ?_ ?_);exact⟨rfl,rfl⟩;rw [show laid #[.string B,.slice AA an ac,.slice AW wn wc,.int .i64 k,.string P,.string D,.int .i64 y] 3 [.int .i64 1,.string S,.string ⟨#[]⟩,.int .i64 0]=#[.string B,.slice AA an ac,.slice AW wn wc,.int .i64 1,.string S,.string ⟨#[]⟩,.int .i64 0] from rfl,← HWA.out];clear z0)
    | ((with_reducible refine wpList_store_lit g1 0 (.agg #[.string B,.slice AA an ac,.slice AW wn wc,.int .i64 1,.string S,.string ⟨#[]⟩,.int .i64 0]) [.string B,.slice AA an ac,.slice AW wn wc,.int .i64 1,.string S,.string ⟨#[]⟩,.int .i64 0] rfl cs1 37 a1 (info_st _ _ _ _ _ _ _) hF1 one_st ?_ ?_);exact⟨rfl,rfl⟩;rw [laid_st7 u1,← HWB.out];clear a1)
    | ((with_reducible refine wpList_store_lit g2 0 (.agg #[.string ⟨#[]⟩,.bool false,.string ⟨#[]⟩]) [.string ⟨#[]⟩,.bool false,.string ⟨#[]⟩] rfl cs2 41 b2 (info_known3 _ _ _) hF2 one_known ?_ ?_);exact⟨rfl,rfl⟩;rw [laid_kn3 u2]))
   try simp only [Act.put]
   refine bodyPost_ret (v:=.tuple #[.agg #[.string B,.slice AA an ac,.slice AW wn wc,.int .i64 1,.string S,.string ⟨#[]⟩,.int .i64 0],.agg #[.string ⟨#[]⟩,.bool false,.string ⟨#[]⟩]]) (results_two_rows rfl _ _ g1 g2 37 41 _ _ (0,0) (0,0) rfl rfl D1.out D2.out rfl rfl) rfl ?_
   rw [HRES.out]
   exact⟨_,_,_,_,_,_,_,_,_,_,_,_,_,rfl,HRE.out,fun e=>absurd (show false=true from e) (by decide),HBE.out⟩
set_option maxHeartbeats 16000000 in
theorem rask_full (w:World) (B:ByteArray) (AA:Option Addr) (an ac:Nat) (AW:Option Addr) (wn wc:Nat) (k:Int) (P D:ByteArray) (y:Int) (r:RS) (h:RSA w B AA an ac AW wn wc k P D y r) (hA5:r.asked.length≤500) (KA:Option Addr) (kc:Nat) (K:List KE) (hK:K.length≤1000000) (hr:Rd w 3 KA K.length (kV K)) (p:TT) (hm:p ∉ r.asked) (h5:r.asked.length=500) :
  Calls Tryz.prog 52 #[.agg #[.string B,.slice AA an ac,.slice AW wn wc,.int .i64 k,.string P,.string D,.int .i64 y],.slice KA K.length kc,.string (strB p)] w (AskPost w (r.ask (orK K) p)):=by
 have htp:=toList_strBT p
 obtain⟨S,hS⟩:∃ S,S=strB p:=⟨_,rfl⟩
 obtain⟨n,hn⟩:∃ n,n=K.length:=⟨_,rfl⟩
 obtain⟨R,hR⟩:∃ R,R=r.ask (orK K) p:=⟨_,rfl⟩
 rw [← hR]
 rw [← hS] at htp ⊢
 rw [← hn] at hr hK ⊢
 obtain⟨w1,hw1⟩:∃ w1,w1=w.alloc (.cells #[.string B,.slice AA an ac,.slice AW wn wc,.int .i64 k,.string P,.string D,.int .i64 y] 37):=⟨_,rfl⟩
 obtain⟨w2,hw2⟩:∃ w2,w2=w1.alloc (.cells #[.string ⟨#[]⟩,.slice none 0 0,.slice none 0 0,.int .i64 0,.string ⟨#[]⟩,.string ⟨#[]⟩,.int .i64 0] 37):=⟨_,rfl⟩
 obtain⟨w3,hw3⟩:∃ w3,w3=w2.alloc (.cells #[.string ⟨#[]⟩,.bool false,.string ⟨#[]⟩] 41):=⟨_,rfl⟩
 have hs1:w1.heap.size=w.heap.size+1:=by rw [hw1,World.size_alloc]
 have hs2:w2.heap.size=w.heap.size+1+1:=by rw [hw2,World.size_alloc,hs1]
 have hs3:w3.heap.size=w.heap.size+1+1+1:=by rw [hw3,World.size_alloc,hs2]
 have hb1:Below w.heap.size w w1:=by rw [hw1];exact (Below.refl _ _).alloc (Nat.le_refl _) _
 have hb2:Below w.heap.size w w2:=by rw [hw2];exact hb1.alloc (by omega) _
 have hb3:Below w.heap.size w w3:=by rw [hw3];exact hb2.alloc (by omega) _
 have hg0:w3.heap[w.heap.size]?=some (.cells #[.string B,.slice AA an ac,.slice AW wn wc,.int .i64 k,.string P,.string D,.int .i64 y] 37 (0,0)):=by
  rw [hw3,Below.heap_alloc _ _ _ (by omega),hw2,Below.heap_alloc _ _ _ (by omega),hw1]
  exact World.alloc_heap_new _ _
 have hg1:w3.heap[w.heap.size+1]?=some (.cells zSt 37 (0,0)):=by
  rw [hw3,Below.heap_alloc _ _ _ (by omega),hw2,← hs1]
  exact World.alloc_heap_new _ _
 have hg2:w3.heap[w.heap.size+1+1]?=some (.cells zKn 41 (0,0)):=by
  rw [hw3,← hs2]
  exact World.alloc_heap_new _ _
 have hM3:AskM w w3 w.heap.size (w.heap.size+1) (w.heap.size+1+1) #[.string B,.slice AA an ac,.slice AW wn wc,.int .i64 k,.string P,.string D,.int .i64 y]:=⟨hb3,hg0,⟨_,rfl,hg1⟩,⟨_,rfl,hg2⟩,by omega,by omega,by omega⟩
 have hn2:w2.alloc (.cells #[.string ⟨#[]⟩,.bool false,.string ⟨#[]⟩] 41)=w3:=hw3.symm
 have hR3:=h.below hb3
 have hN:=h.2.1
 have hrd:=h.2.2.1.rd
 obtain⟨g0,hg0e⟩:∃ g,g=w.heap.size:=⟨_,rfl⟩
 obtain⟨g1,hg1e⟩:∃ g,g=w.heap.size+1:=⟨_,rfl⟩
 obtain⟨g2,hg2e⟩:∃ g,g=w.heap.size+1+1:=⟨_,rfl⟩
 have H123:=hid2 (show ((w.alloc (.cells #[.string B,.slice AA an ac,.slice AW wn wc,.int .i64 k,.string P,.string D,.int .i64 y] 37)).alloc (.cells #[.string ⟨#[]⟩,.slice none 0 0,.slice none 0 0,.int .i64 0,.string ⟨#[]⟩,.string ⟨#[]⟩,.int .i64 0] 37)).alloc (.cells #[.string ⟨#[]⟩,.bool false,.string ⟨#[]⟩] 41)=w3 from by rw [hw3,hw2,hw1])
 rw [← hg0e] at hg0
 rw [← hg1e] at hg1
 rw [← hg2e] at hg2
 rw [← hg2e,← hg1e,← hg0e] at hM3
 have HE:=hid2 (And.intro hg0e (And.intro hg1e hg2e))
 have HRK:=hid2 hr
 have HN:=hid2 hn
 have HTP:=hid2 htp
 have hlim:(n:Int)≤1000000:=by omega
 have cH:=fun (W:World) (hb:Below w.heap.size w W)=>rhas_any W AA ac r.asked p (by omega) (by rw [← hN];exact hrd.below_all hb)
 rw [← hN,← hS,show decide (p∈r.asked)=false from decide_eq_false hm] at cH
 have HASK:=hid2 (show R=(r.fail 6,noK) from by rw [hR,RS.ask,if_neg hm,if_pos h5])
 have han:an=500:=by rw [hN,h5]
 subst han
 have CH:=hid2 (cH w3 hb3)
 have HM3:=hid2 hM3
 have HR3:=hid2 hR3
 have yA:=cell_of_row w3 g0 1 _ _ _ hg0
 have yB:=cell_of_row w3 g0 0 _ _ _ hg0
 have yC:=cell_of_row w3 g0 2 _ _ _ hg0
 have yD:=cell_of_row w3 g0 3 _ _ _ hg0
 have yE:=cell_of_row w3 g0 4 _ _ _ hg0
 have yF:=cell_of_row w3 g0 5 _ _ _ hg0
 have yG:=cell_of_row w3 g0 6 _ _ _ hg0
 have HG1:=hid2 hg1
 have HG2:=hid2 hg2
 have hF1:0+([.string B,.slice AA 500 ac,.slice AW wn wc,.int .i64 4,.string ⟨#[]⟩,.string ⟨#[]⟩,.int .i64 6]:List Value).length≤zSt.size:=Nat.le_refl 7
 have hF2:0+[Value.string ⟨#[]⟩,.bool false,.string ⟨#[]⟩].length≤zKn.size:=Nat.le_refl 3
 clear cH hR3 hM3 h5  hr hn hR htp hS hw1 hw2 hw3 hs1 hs2 hs3 hb1 hb2 hb3 hg0 hg1 hg2 hn2 hN hrd hA5 h hm hg0e hg1e hg2e
 go_enter Tryz.func52,Tryz.ntmps52
 go_upto_region 1 with fail
 rw [H123.out,← HE.out.2.2,← HE.out.2.1,← HE.out.1]
 go_wp2_with (first
  | (go_at_call 80; refine CH.out.mono ?_;rintro e w4 ⟨rfl,rfl⟩;clear CH)
  | (go_at_call 33; refine (rfail_any _ B AA AW 500 ac wn wc k y 6 P D).mono ?_;rintro e w5 ⟨rfl,hb⟩;have z1:=(hb.block g1 (heap_lt HG1.out)).trans HG1.out;have z2:=(hb.block g2 (heap_lt HG2.out)).trans HG2.out;have HZ2:=hid2 z2;have HZ1:=hid2 z1;have HB5:=hid2 hb;clear hb z2)
  | ((with_reducible refine wpList_store_lit g1 0 (.agg #[.string B,.slice AA 500 ac,.slice AW wn wc,.int .i64 4,.string ⟨#[]⟩,.string ⟨#[]⟩,.int .i64 6]) [.string B,.slice AA 500 ac,.slice AW wn wc,.int .i64 4,.string ⟨#[]⟩,.string ⟨#[]⟩,.int .i64 6] rfl zSt 37 z1 (info_st _ _ _ _ _ _ _) hF1 one_st ?_ ?_);exact⟨rfl,rfl⟩;rw [laid_st7 rfl];obtain⟨wq,hwq⟩:∃ x,x=w5.setRow g1 #[.string B,.slice AA 500 ac,.slice AW wn wc,.int .i64 4,.string ⟨#[]⟩,.string ⟨#[]⟩,.int .i64 6]:=⟨_,rfl⟩;rw [← hwq];have z3:wq.heap[g2]?=some (.cells zKn 41 (0,0)):=(by rw [hwq];exact (setRow_other w5 g1 g2 _ (row_ne HZ2.out HZ1.out (by decide))).trans HZ2.out);have HWQ:=hid2 hwq;have HZ3:=hid2 z3;clear hwq z1)
  | ((with_reducible refine wpList_store_lit g2 0 (.agg #[.string ⟨#[]⟩,.bool false,.string ⟨#[]⟩]) [.string ⟨#[]⟩,.bool false,.string ⟨#[]⟩] rfl zKn 41 z3 (info_known3 _ _ _) hF2 one_known ?_ ?_);exact⟨rfl,rfl⟩;rw [laid_kn3 rfl]))
 try simp only [Act.put]
 have d0:wq.heap[g1]?=some (.cells #[.string B,.slice AA 500 ac,.slice AW wn wc,.int .i64 4,.string ⟨#[]⟩,.string ⟨#[]⟩,.int .i64 6] 37 (0,0)):=by rw [HWQ.out];exact setRow_heap w5 g1 _ _ _ _ HZ1.out
 have d1:=(setRow_other wq g2 g1 #[.string ⟨#[]⟩,.bool false,.string ⟨#[]⟩] (row_ne d0 HZ3.out (by decide))).trans d0
 have d2:=setRow_heap wq g2 _ #[.string ⟨#[]⟩,.bool false,.string ⟨#[]⟩] _ _ HZ3.out
 refine bodyPost_ret (v:=.tuple #[.agg #[.string B,.slice AA 500 ac,.slice AW wn wc,.int .i64 4,.string ⟨#[]⟩,.string ⟨#[]⟩,.int .i64 6],.agg #[.string ⟨#[]⟩,.bool false,.string ⟨#[]⟩]]) (results_two_rows rfl _ _ g1 g2 37 41 _ _ (0,0) (0,0) rfl rfl d1 d2 rfl rfl) rfl ?_
 rw [HASK.out]
 refine⟨_,_,_,_,_,_,_,_,_,_,_,_,_,rfl,?_,fun e=>absurd (show false=true from e) (by decide),?_⟩
 ·have e1:=((HR3.out.below HB5.out).put HZ1.out (by decide) (by decide) #[.string B,.slice AA 500 ac,.slice AW wn wc,.int .i64 4,.string ⟨#[]⟩,.string ⟨#[]⟩,.int .i64 6])
  rw [← HWQ.out] at e1
  exact (e1.put HZ3.out (by decide) (by decide) #[.string ⟨#[]⟩,.bool false,.string ⟨#[]⟩]).fail 6
 ·rw [HWQ.out]
  exact below_setRow (below_setRow (HM3.out.1.trans (HB5.out.mono HM3.out.1.size)) HM3.out.2.2.2.2.1 _) HM3.out.2.2.2.2.2.1 _
set_option maxHeartbeats 16000000 in
theorem rask_new (w:World) (B:ByteArray) (AA:Option Addr) (an ac:Nat) (AW:Option Addr) (wn wc:Nat) (k:Int) (P D:ByteArray) (y:Int) (r:RS) (h:RSA w B AA an ac AW wn wc k P D y r) (hA5:r.asked.length≤500) (KA:Option Addr) (kc:Nat) (K:List KE) (hK:K.length≤1000000) (hr:Rd w 3 KA K.length (kV K)) (p:TT) (hm:p ∉ r.asked) (h5:r.asked.length≠500) :
  Calls Tryz.prog 52 #[.agg #[.string B,.slice AA an ac,.slice AW wn wc,.int .i64 k,.string P,.string D,.int .i64 y],.slice KA K.length kc,.string (strB p)] w (AskPost w (r.ask (orK K) p)):=by
 have htp:=toList_strBT p
 obtain⟨S,hS⟩:∃ S,S=strB p:=⟨_,rfl⟩
 obtain⟨n,hn⟩:∃ n,n=K.length:=⟨_,rfl⟩
 obtain⟨R,hR⟩:∃ R,R=r.ask (orK K) p:=⟨_,rfl⟩
 rw [← hR]
 rw [← hS] at htp ⊢
 rw [← hn] at hr hK ⊢
 obtain⟨w1,hw1⟩:∃ w1,w1=w.alloc (.cells #[.string B,.slice AA an ac,.slice AW wn wc,.int .i64 k,.string P,.string D,.int .i64 y] 37):=⟨_,rfl⟩
 obtain⟨w2,hw2⟩:∃ w2,w2=w1.alloc (.cells #[.string ⟨#[]⟩,.slice none 0 0,.slice none 0 0,.int .i64 0,.string ⟨#[]⟩,.string ⟨#[]⟩,.int .i64 0] 37):=⟨_,rfl⟩
 obtain⟨w3,hw3⟩:∃ w3,w3=w2.alloc (.cells #[.string ⟨#[]⟩,.bool false,.string ⟨#[]⟩] 41):=⟨_,rfl⟩
 have hs1:w1.heap.size=w.heap.size+1:=by rw [hw1,World.size_alloc]
 have hs2:w2.heap.size=w.heap.size+1+1:=by rw [hw2,World.size_alloc,hs1]
 have hs3:w3.heap.size=w.heap.size+1+1+1:=by rw [hw3,World.size_alloc,hs2]
 have hb1:Below w.heap.size w w1:=by rw [hw1];exact (Below.refl _ _).alloc (Nat.le_refl _) _
 have hb2:Below w.heap.size w w2:=by rw [hw2];exact hb1.alloc (by omega) _
 have hb3:Below w.heap.size w w3:=by rw [hw3];exact hb2.alloc (by omega) _
 have hg0:w3.heap[w.heap.size]?=some (.cells #[.string B,.slice AA an ac,.slice AW wn wc,.int .i64 k,.string P,.string D,.int .i64 y] 37 (0,0)):=by
  rw [hw3,Below.heap_alloc _ _ _ (by omega),hw2,Below.heap_alloc _ _ _ (by omega),hw1]
  exact World.alloc_heap_new _ _
 have hg1:w3.heap[w.heap.size+1]?=some (.cells zSt 37 (0,0)):=by
  rw [hw3,Below.heap_alloc _ _ _ (by omega),hw2,← hs1]
  exact World.alloc_heap_new _ _
 have hg2:w3.heap[w.heap.size+1+1]?=some (.cells zKn 41 (0,0)):=by
  rw [hw3,← hs2]
  exact World.alloc_heap_new _ _
 have hM3:AskM w w3 w.heap.size (w.heap.size+1) (w.heap.size+1+1) #[.string B,.slice AA an ac,.slice AW wn wc,.int .i64 k,.string P,.string D,.int .i64 y]:=⟨hb3,hg0,⟨_,rfl,hg1⟩,⟨_,rfl,hg2⟩,by omega,by omega,by omega⟩
 have hn2:w2.alloc (.cells #[.string ⟨#[]⟩,.bool false,.string ⟨#[]⟩] 41)=w3:=hw3.symm
 have hR3:=h.below hb3
 have hN:=h.2.1
 have hrd:=h.2.2.1.rd
 obtain⟨g0,hg0e⟩:∃ g,g=w.heap.size:=⟨_,rfl⟩
 obtain⟨g1,hg1e⟩:∃ g,g=w.heap.size+1:=⟨_,rfl⟩
 obtain⟨g2,hg2e⟩:∃ g,g=w.heap.size+1+1:=⟨_,rfl⟩
 have H123:=hid2 (show ((w.alloc (.cells #[.string B,.slice AA an ac,.slice AW wn wc,.int .i64 k,.string P,.string D,.int .i64 y] 37)).alloc (.cells #[.string ⟨#[]⟩,.slice none 0 0,.slice none 0 0,.int .i64 0,.string ⟨#[]⟩,.string ⟨#[]⟩,.int .i64 0] 37)).alloc (.cells #[.string ⟨#[]⟩,.bool false,.string ⟨#[]⟩] 41)=w3 from by rw [hw3,hw2,hw1])
 rw [← hg0e] at hg0
 rw [← hg1e] at hg1
 rw [← hg2e] at hg2
 rw [← hg2e,← hg1e,← hg0e] at hM3
 have HE:=hid2 (And.intro hg0e (And.intro hg1e hg2e))
 have HRK:=hid2 hr
 have HN:=hid2 hn
 have HTP:=hid2 htp
 have hlim:(n:Int)≤1000000:=by omega
 have cH:=fun (W:World) (hb:Below w.heap.size w W)=>rhas_any W AA ac r.asked p (by omega) (by rw [← hN];exact hrd.below_all hb)
 rw [← hN,← hS,show decide (p∈r.asked)=false from decide_eq_false hm] at cH
 obtain⟨r1,hr1⟩:∃ r1,r1={ r with asked:=r.asked++[p] }:=⟨_,rfl⟩
 have HASK:=hid2 (show R=RS.askIn (orK K) r1 p from by rw [hR,RS.ask,if_neg hm,if_neg h5,hr1])
 have HSS:=hid2 hS
 have han:¬ (an:Int)=500:=by omega
 have hanb:((an:Int) == 500)=false:=by rw [beq_eq_false_iff_ne];exact han
 have han5:an≤500:=by omega
 have CH:=hid2 (cH w3 hb3)
 have HM3:=hid2 hM3
 have HR3:=hid2 hR3
 have HR1E:=hid2 hr1
 obtain⟨VA,hVA⟩:∃ V,V=strV r.asked:=⟨_,rfl⟩
 have HVA:=hid2 hVA
 have yA:=cell_of_row w3 g0 1 _ _ _ hg0
 obtain⟨w4,hw4⟩:∃ w4,w4=w3.alloc (.cells #[] 9):=⟨_,rfl⟩
 have hb4:Below w3.heap.size w3 w4:=by rw [hw4];exact (Below.refl _ _).alloc (Nat.le_refl _) _
 have hrA:Rd w4 1 AA an VA:=by rw [hVA];exact (hrd.below_all hb3).below_all hb4
 have hown4:Own w4 w3.heap.size 9 1 (some ⟨w3.heap.size,0,none⟩) 0 0 []:=by
  rw [hw4]
  exact Own.lit w3 #[] 9 1 0 w3.heap.size (Nat.le_refl _) (Nat.zero_le _) rfl
 have yA4:w4.cell? ⟨g0,1,none⟩=some (.slice AA an ac):=(hb4.cell (p:=⟨g0,1,none⟩) (heap_lt hg0)).trans yA
 have hw4':=hw4.symm
 have hsz4:=hb4.size
 have HB4:=hid2 hb4
 have HO4:=hid2 hown4
 have HG0:=hid2 hg0
 have HSV:=hid2 (show VA++[Value.string S]=strV r1.asked from by rw [hVA,hS,hr1,strV_snoc])
 have HAN:=hid2 (show an+1=r1.asked.length from by rw [hr1,hN,List.length_append];rfl)
 have hone:∀ u∈VA,u.oneCell'=true:=fun u hu=>by
  rw [hVA] at hu
  unfold strV at hu
  obtain⟨x,_,rfl⟩:=List.mem_map.1 hu
  rfl
 clear cH hR3 hM3 h5 hVA hw4 hb4 hr1  hr hn hR htp hS hw1 hw2 hw3 hs1 hs2 hs3 hb1 hb2 hb3 hg0 hg1 hg2 hn2 hN hrd hA5 h hm hg0e hg1e hg2e
 go_enter Tryz.func52,Tryz.ntmps52
 go_upto_region 1 with fail
 rw [H123.out,← HE.out.2.2,← HE.out.2.1,← HE.out.1]
 go_wp2_with (first
  | (go_at_call 80; refine CH.out.mono ?_;rintro e wz ⟨rfl,rfl⟩;clear CH)
  | (at_builtin;have _t:=hown4;go_must ((with_reducible refine wpList_append_lit 9 (.string ⟨#[]⟩) 1 16 Tryz.underlying32 info_str rfl wz.heap.size (some ⟨wz.heap.size,0,none⟩) 0 0 [] hown4 an VA (.slice AA an ac) (Src.slice Tryz.underlying32 hrA) hone ?_ ?_ ?_ ?_ ?_);(unfold maxLen;omega);omega;exact hsz4;exact⟨rfl,rfl⟩;intro A5 c5 w5 hown5 hgr5 hbl5;rw [Nat.zero_add];rw [Nat.zero_add,List.nil_append] at hown5;have HO5:=hid2 hown5;have HB5:=hid2 (HB4.out.grown hgr5 hsz4 (fun k e=>(HO4.out.block k e).1));have hsz5:=HB5.out.size;clear hown4 hrA _t hgr5 hbl5 hsz4 yA4 yA hw4'))
  | (at_builtin;have _t:=hown5;go_must ((with_reducible refine wpList_append_lit 9 (.string ⟨#[]⟩) 1 16 Tryz.underlying32 info_str rfl wz.heap.size A5 an c5 VA (hown5.alloc _) 1 [.string S] (.slice (some ⟨w5.heap.size,0,none⟩) 1 1) (Src.slice Tryz.underlying32 (Rd.one w5 _ _)) one_str ?_ ?_ ?_ ?_ ?_);(unfold maxLen;omega);omega;(simp;omega);exact⟨rfl,rfl⟩;intro AX ax w6 hown6 hgr6 hbl6;have HO6:=hid2 hown6;have HB6:=hid2 ((HB5.out.alloc hsz5 _).grown hgr6 (by simp;omega) (fun k e=>(HO5.out.block k e).1));have z6:=(HB6.out.block g0 (heap_lt HG0.out)).trans HG0.out;have y6:=cell_of_row w6 g0 1 _ _ _ z6;have f6:=frozen_of_row w6 g0 1 _ _ z6;have HZ6:=hid2 z6;clear hown5 _t hgr6 hbl6 hsz5 z6 hown6)))
 obtain⟨w7,hw7⟩:∃ w7,w7=w6.setCell ⟨g0,1,none⟩ (.slice AX (an+1) ax):=⟨_,rfl⟩
 rw [← hw7]
 have h7:w7=w6.setRow g0 #[.string B,.slice AX (an+1) ax,.slice AW wn wc,.int .i64 k,.string P,.string D,.int .i64 y]:=by rw [hw7];exact setCell_eq_setRow w6 g0 1 _ _ _ _ HZ6.out
 obtain⟨p1,p2,p3,p4,p5,p6,p7⟩:=HM3.out
 have hg0w:w.heap.size≤g0:=by have:=HE.out.1;omega
 have hZ7:w7.heap[g0]?=some (.cells #[.string B,.slice AX (an+1) ax,.slice AW wn wc,.int .i64 k,.string P,.string D,.int .i64 y] 37 (0,0)):=by rw [h7];exact setRow_heap w6 g0 _ _ _ _ HZ6.out
 have HM:=hid2 (show AskM w w7 g0 g1 g2 #[.string B,.slice AX (an+1) ax,.slice AW wn wc,.int .i64 k,.string P,.string D,.int .i64 y] from by
  refine⟨?_,hZ7,?_,?_,p5,p6,p7⟩
  ·rw [h7];exact below_setRow (p1.trans (HB6.out.mono p1.size)) hg0w _
  ·rw [h7];exact (p3.below HB6.out).put rfl ⟨_,rfl,HZ6.out⟩
  ·rw [h7];exact (p4.below HB6.out).putS ⟨_,rfl,HZ6.out⟩)
 have HR1:=hid2 (show RSA w7 B AX (an+1) ax AW wn wc k P D y r1 from by
  obtain⟨f1,f2,f3,f4,f5,f6,f7,f8,f9⟩:=HR3.out.below HB6.out
  have ho:=(HO6.out.mono (Nat.zero_le _)).setOtherRow HZ6.out (show 9 ≠ 37 by decide) (cs':=#[.string B,.slice AX (an+1) ax,.slice AW wn wc,.int .i64 k,.string P,.string D,.int .i64 y])
  have hd:=f5.setOtherRow HZ6.out (show 35 ≠ 37 by decide) (cs':=#[.string B,.slice AX (an+1) ax,.slice AW wn wc,.int .i64 k,.string P,.string D,.int .i64 y])
  rw [← h7] at ho hd
  rw [HSV.out] at ho
  have e1:r1.buf=r.buf:=by rw [HR1E.out]
  have e2:r1.wrote=r.wrote:=by rw [HR1E.out]
  have e3:r1.stop=r.stop:=by rw [HR1E.out]
  rw [← e1] at f1
  rw [← e2] at f4 hd
  rw [← e3] at f6 f7 f8 f9
  exact⟨f1,HAN.out,ho,f4,hd,f6,f7,f8,f9⟩)
 clear hw7 h7 p1 p2 p3 p4 p5 p6 p7 hg0w hZ7 HM3 HR3 y6 f6
 go_loopg [8] n (fun gk iv wr=>wr=w7∧∃ i:Nat,i+gk=n∧iv = .int .i64 i∧∀ (j:Nat) (y:KE),j < i→K[j]?=some y→y.path≠p)
 case atStart=>exact⟨rfl,0,by omega,rfl,fun j y hj=>absurd hj (Nat.not_lt_zero _)⟩
 case round =>
  obtain⟨rfl,i,hi,rfl,hno⟩:=hrel
  by_cases hlt:i < n
  ·have hil:(i:Int) < n:=by omega
   have hi0:(0:Int)≤i:=by omega
   obtain⟨x,hx⟩:∃ x,K[i]?=some x:=⟨_,List.getElem?_eq_getElem (by rw [← HN.out];exact hlt)⟩
   obtain⟨b,o,hKA,hcell⟩:=HRK.out.2 (by omega)
   subst hKA
   have hk0:=hcell _ _ (kV_get hx).1
   have hk1:=hcell _ _ (kV_get hx).2.1
   have hk2:=hcell _ _ (kV_get hx).2.2
   have hblt:b < w.heap.size:=World.block_lt_of_cell? _ _ hk0
   have htx:=toList_strBT x.path
   by_cases hpx:x.path=p
   ·have hO:=orK_at hx hpx hno
    have hpS:strB x.path=S:=by rw [hpx,HSS.out]
    rw [hpS] at hk0
    obtain⟨XD,hXD⟩:∃ D,D=strB x.data:=⟨_,rfl⟩
    obtain⟨xi,hxi⟩:∃ b,b=x.is:=⟨_,rfl⟩
    rw [← hXD] at hk2
    rw [← hxi] at hk1
    have HC:=hid2 (show ∀ w2,Below w.heap.size w w2→w2.cell? ⟨b,o+i * 3,none⟩=some (.string S)∧w2.cell? ⟨b,o+i * 3+1,none⟩=some (.bool xi)∧w2.cell? ⟨b,o+i * 3+2,none⟩=some (.string XD) from fun w2 hb=>⟨(hb.cell (p:=⟨b,o+i * 3,none⟩) hblt).trans hk0,(hb.cell (p:=⟨b,o+i * 3+1,none⟩) hblt).trans hk1,(hb.cell (p:=⟨b,o+i * 3+2,none⟩) hblt).trans hk2⟩)
    have HRES:=hid2 (show R=(r1,nrm x) from by rw [HASK.out,RS.askIn,hO])
    have HXI:=hid2 hxi
    have HXD:=hid2 hXD
    obtain⟨y0,_,_⟩:=HC.out wr HM.out.1
    have heq:(S.toList == S.toList)=true:=beq_self_eq_true _
    clear hx hcell hk0 hk1 hk2 hno hpx hO hpS hXD hxi hi htx hblt
    go_wp2_with fail
    refine wp_region_lst 7 (by kernel_rfl) (by kernel_rfl) (by kernel_rfl) _ rfl (by kernel_rfl) (VV [some (.agg #[.string B,.slice AX (an+1) ax,.slice AW wn wc,.int .i64 k,.string P,.string D,.int .i64 y]),some (.slice (some ⟨b,o,none⟩) n kc),some (.int .i64 (i:Nat)),some (.pointer (some ⟨b,o+i * 3,none⟩)),some (.agg #[.string S,.bool xi,.string XD]),none,none] (fun _ _ _=>True)) (fun L _ w2=>AskM w w2 g0 g1 g2 #[.string B,.slice AX (an+1) ax,.slice AW wn wc,.int .i64 k,.string P,.string D,.int .i64 y]∧RSA w2 B AX (an+1) ax AW wn wc k P D y r1∧(L 5=true→w2.heap[g1]?=some (.cells #[.string B,.slice AX (an+1) ax,.slice AW wn wc,.int .i64 k,.string P,.string D,.int .i64 y] 37 (0,0)))∧(L 6=true→w2.heap[g2]?=some (.cells #[.string S,.bool xi,.string XD] 41 (0,0)))) (fun _ _=>True) (fun _=>⟨HM.out.drew,HR1.out.below (Below.refl _ wr).drew,fun h=>absurd h (by decide),fun h=>absurd h (by decide)⟩) (fun j v w1 w2 hb hv=>VV.keep (fun _=>trivial) hv) ?_ ?_
    ·refine of_allOps ⟨?_,?_,?_,?_,?_,?_,?_,trivial⟩
     ·intro T2 w2 L2 u2 hM hli hcl hT hLe hN hO hE K hK
      have o3:T2[3]?=some (.pointer (some ⟨g0,0,none⟩)):=hO 3 rfl
      clear hE hO hN
      refine step_plain0 rfl ?_
      refine wp_load_row 37 _ rfl g0 (by simp [Act.eval,o3]) 37 _ (0,0) _ hM.1.2.1 Tryz.underlying37 rfl (info_st7 rfl) ?_
      exact hK _ _ rfl hM trivial
     ·intro T2 w2 L2 u2 hM hli hcl hT hLe hN hO hE K hK
      have o1:T2[1]?=some (.slice (some ⟨b,o,none⟩) n kc):=hO 1 rfl
      clear hE hO hN hli hcl hT hLe
      refine step_plain0 rfl ?_
      go_simp
      exact hK _ _ rfl hM (trivial)
     ·intro T2 w2 L2 u2 hM hli hcl hT hLe hN hO hE K hK
      have o8:T2[8]?=some (.int .i64 (i:Nat)):=hO 8 rfl
      clear hE hO hN hli hcl hT hLe
      refine step_plain0 rfl ?_
      go_simp
      exact hK _ _ rfl hM (trivial)
     ·intro T2 w2 L2 u2 hM hli hcl hT hLe hN hO hE K hK
      obtain⟨v1,h1,e1,eu1⟩:=hE ⟨1,.data⟩ (by simp) rfl _ _ rfl rfl
      rw [show v1 = .slice (some ⟨b,o,none⟩) n kc from e1] at h1 eu1
      obtain⟨v2,h2,e2,eu2⟩:=hE ⟨2,.data⟩ (by simp) rfl _ _ rfl rfl
      rw [show v2 = .int .i64 (i:Nat) from e2] at h2 eu2
      clear hE hO hN hli hcl hT hLe eu1 eu2
      refine step_plain0 rfl ?_
      go_simp
      exact hK _ _ rfl hM (trivial)
     ·intro T2 w2 L2 u2 hM hli hcl hT hLe hN hO hE K hK
      obtain⟨v3,h3,e3,eu3⟩:=hE ⟨3,.data⟩ (by simp) rfl _ _ rfl rfl
      rw [show v3 = .pointer (some ⟨b,o+i * 3,none⟩) from e3] at h3 eu3
      clear hE hO hN
      refine step_plain0 rfl ?_
      obtain⟨y0,y1,y2⟩:=HC.out w2 hM.1.1
      go_simp
      exact hK _ _ rfl hM trivial
     ·intro T2 w2 L2 u2 hM hli hcl hT hLe hN hO hE K hK
      have o6:T2[6]?=some (.pointer (some ⟨g1,0,none⟩)):=hO 6 rfl
      obtain⟨v0,h0,e0,eu0⟩:=hE ⟨0,.data⟩ (by simp) rfl _ _ rfl rfl
      rw [show v0 = .agg #[.string B,.slice AX (an+1) ax,.slice AW wn wc,.int .i64 k,.string P,.string D,.int .i64 y] from e0] at h0 eu0
      clear hE hO hN
      refine step_plain0 rfl ?_
      obtain⟨hA,hq,h5,h6⟩:=hM
      obtain⟨cs1,z1,z2⟩:=hA.2.2.1
      refine wp_store_row 37 _ _ rfl g1 #[.string B,.slice AX (an+1) ax,.slice AW wn wc,.int .i64 k,.string P,.string D,.int .i64 y] (by simp [Act.eval,o6]) (by simp [Act.eval,h0]) 37 cs1 z2 (info_st7 rfl) z1 (by simp [Value.oneCell']) ?_
      exact hK undef _ trivial ⟨hA.put1 rfl,hq.put z2 (by decide) (by decide) _,fun _=>setRow_heap w2 g1 _ _ _ _ z2,fun e=>(setRow_other w2 g1 g2 _ (row_ne (h6 e) z2 (by decide))).trans (h6 e)⟩ trivial
     ·intro T2 w2 L2 u2 hM hli hcl hT hLe hN hO hE K hK
      have o7:T2[7]?=some (.pointer (some ⟨g2,0,none⟩)):=hO 7 rfl
      obtain⟨v4,h4,e4,eu4⟩:=hE ⟨4,.data⟩ (by simp) rfl _ _ rfl rfl
      rw [show v4 = .agg #[.string S,.bool xi,.string XD] from e4] at h4 eu4
      clear hE hO hN
      refine step_plain0 rfl ?_
      obtain⟨hA,hq,h5,h6⟩:=hM
      obtain⟨cs1,z1,z2⟩:=hA.2.2.2.1
      refine wp_store_row 41 _ _ rfl g2 #[.string S,.bool xi,.string XD] (by simp [Act.eval,o7]) (by simp [Act.eval,h4]) 41 cs1 z2 (info_kn3 rfl) z1 (by simp [Value.oneCell']) ?_
      exact hK undef _ trivial ⟨hA.put2 rfl,hq.put z2 (by decide) (by decide) _,fun e=>(setRow_other w2 g2 g1 _ (row_ne (h5 e) z2 (by decide))).trans (h5 e),fun _=>setRow_heap w2 g2 _ _ _ _ z2⟩ trivial
    ·intro u w4 hM hF
     clear hF
     simp only [fillAll,Nat.reduceAdd,List.take_succ_cons,List.take_zero,List.drop_succ_cons,List.drop_zero,List.setIfInBounds_toArray,List.set_cons_succ,List.set_cons_zero]
     obtain⟨hA,hq,h5,h6⟩:=hM
     have HA:=hid2 hA
     have HQ:=hid2 hq
     have z5:=h5 rfl
     have z6:=h6 rfl
     clear hA hq h5 h6
     go_wp2_with fail
     refine bodyPost_ret (v:=.tuple #[.agg #[.string B,.slice AX (an+1) ax,.slice AW wn wc,.int .i64 k,.string P,.string D,.int .i64 y],.agg #[.string S,.bool xi,.string XD]]) (results_two_rows rfl _ _ g1 g2 37 41 _ _ (0,0) (0,0) rfl rfl z5 z6 rfl rfl) rfl ?_
     rw [HRES.out]
     exact⟨_,_,_,_,_,_,_,_,_,_,_,S,XD,by rw [HXI.out,← nrm_is],HQ.out,fun e=>by rw [nrm_is] at e;rw [HXD.out];show strB x.data=strB (nrm x).data;rw [nrm_data e],HA.out.1⟩
   ·have hneq:((strB x.path).toList == S.toList)=false:=by rw [htx,HTP.out,beq_eq_false_iff_ne];exact hpx
    have hneq2:¬ (strB x.path).toList=S.toList:=by rw [htx,HTP.out];exact hpx
    have hk0':wr.cell? ⟨b,o+i * 3,none⟩=some (.string (strB x.path)):=(HM.out.1.cell (p:=⟨b,o+i * 3,none⟩) hblt).trans hk0
    obtain⟨X,hX⟩:∃ X,X=strB x.path:=⟨_,rfl⟩
    rw [← hX] at hk0' hneq hneq2
    have hno2:∀ (j:Nat) (y:KE),j < i+1→K[j]?=some y→y.path≠p:=fun j y hj hy=>by
     rcases Nat.lt_or_ge j i with h | h
     ·exact hno j y h hy
     ·have:j=i:=by omega
      subst this
      rw [hx] at hy
      cases hy
      exact hpx
    have HNO:=hid2 hno2
    have HI:=hid2 hi
    clear hx hcell hk0 hk1 hk2 hno hpx hX htx hno2 hi hblt
    go_wp2_with fail
    go_roundg (gk - 1)
    case rel=>exact⟨rfl,i+1,by have:=HI.out;omega,by go_num,HNO.out⟩
    case measure=>have:=HI.out;omega
  ·have hin:i=n:=by omega
   have hil:¬ (i:Int) < n:=by omega
   have hO:orK K p=none:=orK_none fun j y hj=>hno j y (by rw [hin,HN.out];exact (List.getElem?_eq_some_iff.1 hj).1) hj
   have HRES:=hid2 (show R=({ r1 with stop:=⟨1,p,[],0⟩ },noK) from by rw [HASK.out,RS.askIn,hO])
   clear hno hin hO hi
   obtain⟨hA,z0,⟨cs1,u1,z1⟩,⟨cs2,u2,z2⟩,q1,q2,q3⟩:=HM.out
   have hq2:g1≠g2:=row_ne z1 z2 (by decide)
   have hq3:g0≠g2:=row_ne z0 z2 (by decide)
   obtain⟨wa,hwa⟩:∃ wa,wa=wr.setRow g0 #[.string B,.slice AX (an+1) ax,.slice AW wn wc,.int .i64 1,.string S,.string ⟨#[]⟩,.int .i64 0]:=⟨_,rfl⟩
   obtain⟨wb,hwb⟩:∃ wb,wb=wa.setRow g1 #[.string B,.slice AX (an+1) ax,.slice AW wn wc,.int .i64 1,.string S,.string ⟨#[]⟩,.int .i64 0]:=⟨_,rfl⟩
   have a0:wa.heap[g0]?=some (.cells #[.string B,.slice AX (an+1) ax,.slice AW wn wc,.int .i64 1,.string S,.string ⟨#[]⟩,.int .i64 0] 37 (0,0)):=by rw [hwa];exact setRow_heap wr g0 _ _ _ _ z0
   have a1:wa.heap[g1]?=some (.cells cs1 37 (0,0)):=by rw [hwa];exact (setRow_other wr g0 g1 _ q3.symm).trans z1
   have a2:wa.heap[g2]?=some (.cells cs2 41 (0,0)):=by rw [hwa];exact (setRow_other wr g0 g2 _ hq3.symm).trans z2
   have b1:wb.heap[g1]?=some (.cells #[.string B,.slice AX (an+1) ax,.slice AW wn wc,.int .i64 1,.string S,.string ⟨#[]⟩,.int .i64 0] 37 (0,0)):=by rw [hwb];exact setRow_heap wa g1 _ _ _ _ a1
   have b2:wb.heap[g2]?=some (.cells cs2 41 (0,0)):=by rw [hwb];exact (setRow_other wa g1 g2 _ hq2.symm).trans a2
   have d1:(wb.setRow g2 #[.string ⟨#[]⟩,.bool false,.string ⟨#[]⟩]).heap[g1]?=some (.cells #[.string B,.slice AX (an+1) ax,.slice AW wn wc,.int .i64 1,.string S,.string ⟨#[]⟩,.int .i64 0] 37 (0,0)):=(setRow_other wb g2 g1 _ hq2).trans b1
   have d2:(wb.setRow g2 #[.string ⟨#[]⟩,.bool false,.string ⟨#[]⟩]).heap[g2]?=some (.cells #[.string ⟨#[]⟩,.bool false,.string ⟨#[]⟩] 41 (0,0)):=setRow_heap wb g2 _ _ _ _ b2
   have hbE:Below w.heap.size w (wb.setRow g2 #[.string ⟨#[]⟩,.bool false,.string ⟨#[]⟩]):=by
    rw [hwb,hwa]
    exact below_setRow (below_setRow (below_setRow hA (by have:=HE.out.1;omega) _) q1 _) q2 _
   have hRE:RSA (wb.setRow g2 #[.string ⟨#[]⟩,.bool false,.string ⟨#[]⟩]) B AX (an+1) ax AW wn wc 1 S ⟨#[]⟩ 0 { r1 with stop:=⟨1,p,[],0⟩ }:=by
    have e1:=HR1.out.put z0 (by decide) (by decide) #[.string B,.slice AX (an+1) ax,.slice AW wn wc,.int .i64 1,.string S,.string ⟨#[]⟩,.int .i64 0]
    rw [← hwa] at e1
    have e2:=e1.put a1 (by decide) (by decide) #[.string B,.slice AX (an+1) ax,.slice AW wn wc,.int .i64 1,.string S,.string ⟨#[]⟩,.int .i64 0]
    rw [← hwb] at e2
    obtain⟨f1,f2,f3,f4,f5,_⟩:=e2.put b2 (by decide) (by decide) #[.string ⟨#[]⟩,.bool false,.string ⟨#[]⟩]
    exact⟨f1,f2,f3,f4,f5,rfl,HSS.out,rfl,rfl⟩
   have HBE:=hid2 hbE
   have HRE:=hid2 hRE
   have D1:=hid2 d1
   have D2:=hid2 d2
   have A0:=hid2 a0
   have HWA:=hid2 hwa
   have HWB:=hid2 hwb
   have x0:=cell_of_row wa g0 0 _ _ _ a0
   have x1:=cell_of_row wa g0 1 _ _ _ a0
   have x2:=cell_of_row wa g0 2 _ _ _ a0
   have x3:=cell_of_row wa g0 3 _ _ _ a0
   have x4:=cell_of_row wa g0 4 _ _ _ a0
   have x5:=cell_of_row wa g0 5 _ _ _ a0
   have x6:=cell_of_row wa g0 6 _ _ _ a0
   have hF3:3+[Value.int .i64 1,.string S,.string ⟨#[]⟩,.int .i64 0].length≤(#[.string B,.slice AX (an+1) ax,.slice AW wn wc,.int .i64 k,.string P,.string D,.int .i64 y]:Array Value).size:=Nat.le_refl 7
   have hF1:0+([.string B,.slice AX (an+1) ax,.slice AW wn wc,.int .i64 1,.string S,.string ⟨#[]⟩,.int .i64 0]:List Value).length≤cs1.size:=by rw [u1];exact Nat.le_refl 7
   have hF2:0+[Value.string ⟨#[]⟩,.bool false,.string ⟨#[]⟩].length≤cs2.size:=by rw [u2];exact Nat.le_refl 3
   clear hA q1 q2 q3 hq2 hq3 hbE hRE d1 d2 a0 hwa hwb b1 z1 z2 a2
   go_wp2_with (first
    | ((with_reducible refine wpList_store_lit g0 3 (.agg #[.int .i64 1,.string S,.string ⟨#[]⟩,.int .i64 0]) [.int .i64 1,.string S,.string ⟨#[]⟩,.int .i64 0] rfl #[.string B,.slice AX (an+1) ax,.slice AW wn wc,.int .i64 k,.string P,.string D,.int .i64 y] 37 z0 (info_do4 _ _ _ _) hF3 one_do ?_ ?_);exact⟨rfl,rfl⟩;rw [show laid #[.string B,.slice AX (an+1) ax,.slice AW wn wc,.int .i64 k,.string P,.string D,.int .i64 y] 3 [.int .i64 1,.string S,.string ⟨#[]⟩,.int .i64 0]=#[.string B,.slice AX (an+1) ax,.slice AW wn wc,.int .i64 1,.string S,.string ⟨#[]⟩,.int .i64 0] from rfl,← HWA.out];clear z0)
    | ((with_reducible refine wpList_store_lit g1 0 (.agg #[.string B,.slice AX (an+1) ax,.slice AW wn wc,.int .i64 1,.string S,.string ⟨#[]⟩,.int .i64 0]) [.string B,.slice AX (an+1) ax,.slice AW wn wc,.int .i64 1,.string S,.string ⟨#[]⟩,.int .i64 0] rfl cs1 37 a1 (info_st _ _ _ _ _ _ _) hF1 one_st ?_ ?_);exact⟨rfl,rfl⟩;rw [laid_st7 u1,← HWB.out];clear a1)
    | ((with_reducible refine wpList_store_lit g2 0 (.agg #[.string ⟨#[]⟩,.bool false,.string ⟨#[]⟩]) [.string ⟨#[]⟩,.bool false,.string ⟨#[]⟩] rfl cs2 41 b2 (info_known3 _ _ _) hF2 one_known ?_ ?_);exact⟨rfl,rfl⟩;rw [laid_kn3 u2]))
   try simp only [Act.put]
   refine bodyPost_ret (v:=.tuple #[.agg #[.string B,.slice AX (an+1) ax,.slice AW wn wc,.int .i64 1,.string S,.string ⟨#[]⟩,.int .i64 0],.agg #[.string ⟨#[]⟩,.bool false,.string ⟨#[]⟩]]) (results_two_rows rfl _ _ g1 g2 37 41 _ _ (0,0) (0,0) rfl rfl D1.out D2.out rfl rfl) rfl ?_
   rw [HRES.out]
   exact⟨_,_,_,_,_,_,_,_,_,_,_,_,_,rfl,HRE.out,fun e=>absurd (show false=true from e) (by decide),HBE.out⟩
theorem rask_any (w:World) (B:ByteArray) (AA:Option Addr) (an ac:Nat) (AW:Option Addr) (wn wc:Nat) (k:Int) (P D:ByteArray) (y:Int) (r:RS) (h:RSA w B AA an ac AW wn wc k P D y r) (hA5:r.asked.length≤500) (KA:Option Addr) (kc:Nat) (K:List KE) (hK:K.length≤1000000) (hr:Rd w 3 KA K.length (kV K)) (p:TT) :
  Calls Tryz.prog 52 #[.agg #[.string B,.slice AA an ac,.slice AW wn wc,.int .i64 k,.string P,.string D,.int .i64 y],.slice KA K.length kc,.string (strB p)] w (AskPost w (r.ask (orK K) p)):=by
 by_cases hm:p∈r.asked
 ·exact rask_in w B AA an ac AW wn wc k P D y r h hA5 KA kc K hK hr p hm
 by_cases h5:r.asked.length=500
 ·exact rask_full w B AA an ac AW wn wc k P D y r h hA5 KA kc K hK hr p hm h5
 ·exact rask_new w B AA an ac AW wn wc k P D y r h hA5 KA kc K hK hr p hm h5
end Go.Proofs.YtnecjdhamohadaaGreatDoor
