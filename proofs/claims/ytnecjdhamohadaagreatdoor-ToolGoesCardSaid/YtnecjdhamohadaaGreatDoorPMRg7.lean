/- The document's run of a tool: a scan. -/
import Derived.Test.YtnecjdhamohadaaGreatDoorPMu
import Derived.Test.YtnecjdhamohadaaGreatDoorPMRf2
import Derived.Test.YtnecjdhamohadaaGreatDoorPMRgP
import Derived.Test.YtnecjdhamohadaaGreatDoorPMRg5
import Derived.Test.YtnecjdhamohadaaGreatDoorPMRg6
set_option linter.unusedSimpArgs false
set_option linter.unusedVariables false
namespace Go.Proofs.YtnecjdhamohadaaGreatDoor
open Go.RowKit Go.Maps Go.Shelf
set_option maxRecDepth 100000
theorem orK_some {K:List KE} {p:TT} {k:KE} (h:orK K p=some k):∃ x∈K,x.path=p∧k=nrm x:=by
 unfold orK at h
 rw [Option.map_eq_some_iff] at h
 obtain⟨x,hx,rfl⟩:=h
 exact⟨x,List.mem_of_find?_eq_some hx,by have:=List.find?_some hx;simpa using this,rfl⟩
theorem nrm_short {x:KE} {n:Nat} (h:x.data.length≤n):(nrm x).data.length≤n:=by
 unfold nrm
 split
 ·exact h
 ·exact Nat.zero_le _
def TKeep (a b:World):Prop:=a.heap.size≤b.heap.size∧∀ (g:Nat) (cs:Array Value) (t:TypeId) (fr:Nat × Nat),a.heap[g]?=some (.cells cs t fr)→t ≠ 37 → b.heap[g]?=a.heap[g]?
theorem TKeep.refl (a:World):TKeep a a:=⟨Nat.le_refl _,fun _ _ _ _ _ _=>rfl⟩
theorem TKeep.of_below {a b:World} (h:Below a.heap.size a b):TKeep a b:=⟨h.size,fun g _ _ _ e _=>h.block g (heap_lt e)⟩
theorem TKeep.trans {a b c:World} (h:TKeep a b) (k:TKeep b c):TKeep a c:=⟨Nat.le_trans h.1 k.1,fun g cs t fr e ne=>(k.2 g cs t fr ((h.2 g cs t fr e ne).trans e) ne).trans (h.2 g cs t fr e ne)⟩
theorem TKeep.put {a:World} {g:Nat} (h:StRow a g) (cs:Array Value):TKeep a (a.setRow g cs):=⟨by simp,fun i ci t fr e ne=>setRow_other a g i cs (by
 obtain⟨c1,_,e2⟩:=h
 exact row_ne e e2 ne)⟩
theorem Own.tkeep {a b:World} {base sz n c:Nat} {t:TypeId} {A:Option Addr} {xs:List Value} (h:Own a base t sz A n c xs) (hk:TKeep a b) (ht:t ≠ 37):Own b base t sz A n c xs :=
 h.keep fun g hg _ _=>by
  obtain⟨_,_,cur,fr,e⟩:=h.block g hg
  exact hk.2 g cur t fr e ht
theorem RSA.tkeep {a b:World} {B:ByteArray} {AA:Option Addr} {an ac:Nat} {AW:Option Addr} {wn wc:Nat} {k:Int} {P D:ByteArray} {y:Int} {r:RS} (h:RSA a B AA an ac AW wn wc k P D y r) (hk:TKeep a b):RSA b B AA an ac AW wn wc k P D y r:=by
 obtain⟨g1,g2,g3,g4,g5,g6⟩:=h
 exact⟨g1,g2,g3.tkeep hk (by decide),g4,g5.tkeep hk (by decide),g6⟩
def AskP (w:World) (r1:RS) (bi:Bool) (dat:TT) (e:Ending) (w':World):Prop:=∃ (B:ByteArray) (AA:Option Addr) (an ac:Nat) (AW:Option Addr) (wn wc:Nat) (k:Int) (P D:ByteArray) (y:Int) (X Y:ByteArray),e = .returned (.tuple #[.agg #[.string B,.slice AA an ac,.slice AW wn wc,.int .i64 k,.string P,.string D,.int .i64 y],.agg #[.string X,.bool bi,.string Y]])∧RSA w' B AA an ac AW wn wc k P D y r1∧(bi=true→Y=strB dat)∧Below w.heap.size w w'
def XTup (x:RS × List TT) (v:Value) (w:World):Prop:=∃ (B:ByteArray) (AA:Option Addr) (an ac:Nat) (AW:Option Addr) (wn wc:Nat) (k:Int) (P D:ByteArray) (y:Int) (DA:Option Addr) (dn dc:Nat),v = .tuple #[.agg #[.string B,.slice AA an ac,.slice AW wn wc,.int .i64 k,.string P,.string D,.int .i64 y],.slice DA dn dc]∧RSA w B AA an ac AW wn wc k P D y x.1∧dn=x.2.length∧Own w 0 9 1 DA dn dc (strV x.2)
def XSt (r:RS) (v:Value) (w:World):Prop:=∃ (B:ByteArray) (AA:Option Addr) (an ac:Nat) (AW:Option Addr) (wn wc:Nat) (k:Int) (P D:ByteArray) (y:Int),v = .agg #[.string B,.slice AA an ac,.slice AW wn wc,.int .i64 k,.string P,.string D,.int .i64 y]∧RSA w B AA an ac AW wn wc k P D y r
def XSl (d:List TT) (v:Value) (w:World):Prop:=∃ (DA:Option Addr) (dn dc:Nat),v = .slice DA dn dc∧dn=d.length∧Own w 0 9 1 DA dn dc (strV d)
theorem XTup.tkeep {x:RS × List TT} {v:Value} {a b:World} (h:XTup x v a) (hk:TKeep a b):XTup x v b:=by
 obtain⟨B,AA,an,ac,AW,wn,wc,k,P,D,y,DA,dn,dc,h1,h2,h3,h4⟩:=h
 exact⟨B,AA,an,ac,AW,wn,wc,k,P,D,y,DA,dn,dc,h1,h2.tkeep hk,h3,h4.tkeep hk (by decide)⟩
theorem XSt.tkeep {r:RS} {v:Value} {a b:World} (h:XSt r v a) (hk:TKeep a b):XSt r v b:=by
 obtain⟨B,AA,an,ac,AW,wn,wc,k,P,D,y,h1,h2⟩:=h
 exact⟨B,AA,an,ac,AW,wn,wc,k,P,D,y,h1,h2.tkeep hk⟩
theorem XSl.tkeep {d:List TT} {v:Value} {a b:World} (h:XSl d v a) (hk:TKeep a b):XSl d v b:=by
 obtain⟨DA,dn,dc,h1,h2,h3⟩:=h
 exact⟨DA,dn,dc,h1,h2,h3.tkeep hk (by decide)⟩
def ScanPost (w:World) (x:RS × List TT) (e:Ending) (w':World):Prop:=∃ v,e = .returned v∧XTup x v w'∧Below w.heap.size w w'
def ScanAt (K:List KE) (v:Env) (n:Nat):Prop:=∀ (w:World) (B:ByteArray) (AA:Option Addr) (an ac:Nat) (AW:Option Addr) (wn wc:Nat) (k:Int) (P D:ByteArray) (y:Int) (r:RS) (KA:Option Addr) (kc:Nat) (p W:TT) (DA:Option Addr) (dn dc:Nat) (d:List TT),
 RSA w B AA an ac AW wn wc k P D y r→r.Small→Rd w 3 KA K.length (kV K)→dn=d.length→Own w 0 9 1 DA dn dc (strV d)→DOk (K.map (·.path)) d→p ∉ d→left (K.map (·.path)) d < n →
 Calls Tryz.prog 54 #[.agg #[.string B,.slice AA an ac,.slice AW wn wc,.int .i64 k,.string P,.string D,.int .i64 y],.slice KA K.length kc,.string (strB p),.string (strB W),.slice DA dn dc] w (ScanPost w (scanF v (orK K) W n r p d))
structure ScInv (w wr:World) (g5 g10:Nat) (LA:Option Addr) (nL lc:Nat) (LL:List TT) (B:ByteArray) (AA:Option Addr) (an ac:Nat) (AW:Option Addr) (wn wc:Nat) (k:Int) (P D:ByteArray) (y:Int) (r:RS) (DB:Option Addr) (m dc:Nat) (d:List TT):Prop where
 below:Below w.heap.size w wr
 b5:w.heap.size≤g5
 b10:w.heap.size≤g10
 ne:g5≠g10
 st:wr.heap[g5]?=some (.cells #[.string B,.slice AA an ac,.slice AW wn wc,.int .i64 k,.string P,.string D,.int .i64 y] 37 (0,0))
 out:wr.heap[g10]?=some (.cells zSt 37 (0,0))
 rs:RSA wr B AA an ac AW wn wc k P D y r
 own:Own wr 0 9 1 DB m dc (strV d)
 len:m=d.length
 lines:Own wr 0 9 1 LA nL lc (strV LL)
theorem ScInv.keep {w wr w2:World} {g5 g10:Nat} {LA:Option Addr} {nL lc:Nat} {LL:List TT} {B:ByteArray} {AA:Option Addr} {an ac:Nat} {AW:Option Addr} {wn wc:Nat} {k:Int} {P D:ByteArray} {y:Int} {r:RS} {DB:Option Addr} {m dc:Nat} {d:List TT} (h:ScInv w wr g5 g10 LA nL lc LL B AA an ac AW wn wc k P D y r DB m dc d) (hb:Below wr.heap.size wr w2):ScInv w w2 g5 g10 LA nL lc LL B AA an ac AW wn wc k P D y r DB m dc d :=
 ⟨h.below.trans (hb.mono h.below.size),h.b5,h.b10,h.ne,(hb.block g5 (heap_lt h.st)).trans h.st,(hb.block g10 (heap_lt h.out)).trans h.out,h.rs.below hb,h.own.below hb (Nat.le_refl _),h.len,h.lines.below hb (Nat.le_refl _)⟩
theorem ScInv.put {w wr:World} {g5 g10:Nat} {LA:Option Addr} {nL lc:Nat} {LL:List TT} {B:ByteArray} {AA:Option Addr} {an ac:Nat} {AW:Option Addr} {wn wc:Nat} {k:Int} {P D:ByteArray} {y:Int} {r:RS} {DB:Option Addr} {m dc:Nat} {d:List TT} (h:ScInv w wr g5 g10 LA nL lc LL B AA an ac AW wn wc k P D y r DB m dc d)
  {B2:ByteArray} {AA2:Option Addr} {an2 ac2:Nat} {AW2:Option Addr} {wn2 wc2:Nat} {k2:Int} {P2 D2:ByteArray} {y2:Int} {r2:RS} (hq:RSA wr B2 AA2 an2 ac2 AW2 wn2 wc2 k2 P2 D2 y2 r2):ScInv w (wr.setRow g5 #[.string B2,.slice AA2 an2 ac2,.slice AW2 wn2 wc2,.int .i64 k2,.string P2,.string D2,.int .i64 y2]) g5 g10 LA nL lc LL B2 AA2 an2 ac2 AW2 wn2 wc2 k2 P2 D2 y2 r2 DB m dc d :=
 have hk:TKeep wr (wr.setRow g5 #[.string B2,.slice AA2 an2 ac2,.slice AW2 wn2 wc2,.int .i64 k2,.string P2,.string D2,.int .i64 y2]):=TKeep.put ⟨_,rfl,h.st⟩ _
 ⟨below_setRow h.below h.b5 _,h.b5,h.b10,h.ne,setRow_heap wr g5 _ _ _ _ h.st,(setRow_other wr g5 g10 _ h.ne.symm).trans h.out,hq.tkeep hk,h.own.tkeep hk (by decide),h.len,h.lines.tkeep hk (by decide)⟩
set_option maxHeartbeats 32000000 in
theorem rscan_stop (K:List KE) (v:Env) (hv:v.may=mayB) (hK:K.length≤1000000) (hKd:∀ k∈K,k.path.length≤1000000∧k.data.length≤100000) (f:Nat) (w:World) (B:ByteArray) (AA:Option Addr) (an ac:Nat) (AW:Option Addr) (wn wc:Nat) (k:Int) (P D:ByteArray) (y:Int) (r:RS) (KA:Option Addr) (kc:Nat) (p W:TT) (DA:Option Addr) (dn dc:Nat) (d:List TT) (h:RSA w B AA an ac AW wn wc k P D y r) (hs:r.Small) (hr:Rd w 3 KA K.length (kV K)) (hdn:dn=d.length) (hod:Own w 0 9 1 DA dn dc (strV d)) (hdk:DOk (K.map (·.path)) d) (hpd:p ∉ d) (hlf:left (K.map (·.path)) d < f+1) (hx:(r.ask (orK K) p).1.stop.kind≠0) :
  Calls Tryz.prog 54 #[.agg #[.string B,.slice AA an ac,.slice AW wn wc,.int .i64 k,.string P,.string D,.int .i64 y],.slice KA K.length kc,.string (strB p),.string (strB W),.slice DA dn dc] w (ScanPost w (scanF v (orK K) W (f+1) r p d)):=by
 have cA:∀ (WW:World),Below w.heap.size w WW→Calls Tryz.prog 52 #[.agg #[.string B,.slice AA an ac,.slice AW wn wc,.int .i64 k,.string P,.string D,.int .i64 y],.slice KA K.length kc,.string (strB p)] WW (AskP WW (r.ask (orK K) p).1 (r.ask (orK K) p).2.is (r.ask (orK K) p).2.data):=fun WW hb=>rask_any WW B AA an ac AW wn wc k P D y r (h.below hb) hs.1 KA kc K hK (hr.below_all hb) p
 obtain⟨x1,hx1⟩:∃ x,x=(r.ask (orK K) p).1:=⟨_,rfl⟩
 obtain⟨x2,hx2⟩:∃ x,x=(r.ask (orK K) p).2:=⟨_,rfl⟩
 obtain⟨RES,hRES⟩:∃ R,R=scanF v (orK K) W (f+1) r p d:=⟨_,rfl⟩
 have hsm:x1.Small:=by rw [hx1];exact hs.ask p
 rw [← hx1,← hx2] at cA
 rw [← hRES]
 rw [scanF,← hx1,← hx2] at hRES
 have hfound:=@ask_found (orK K) r p
 rw [← hx1,← hx2] at hfound
 rw [← hx1] at hx
 rw [if_pos hx] at hRES
 obtain⟨S,hS⟩:∃ S,S=strB p:=⟨_,rfl⟩
 obtain⟨SW,hSW⟩:∃ S,S=strB W:=⟨_,rfl⟩
 obtain⟨kn,hkn⟩:∃ n,n=K.length:=⟨_,rfl⟩
 rw [← hS] at cA ⊢
 rw [← hSW]
 rw [← hkn] at cA hr hK ⊢
 have hdl:dn≤1000000:=by
  have:=hdk.len
  rw [List.length_map] at this
  omega
 obtain⟨VD,hVD⟩:∃ V,V=strV d:=⟨_,rfl⟩
 rw [← hVD] at hod
 have HVS:=hid2 (show VD++[Value.string S]=strV (d++[p]) from by rw [hVD,hS,strV_snoc])
 have HDN:=hid2 (show dn+1=(d++[p]).length from by rw [hdn,List.length_append];rfl)
 obtain⟨w1,hw1⟩:∃ w1,w1=w.alloc (.cells #[.string B,.slice AA an ac,.slice AW wn wc,.int .i64 k,.string P,.string D,.int .i64 y] 37):=⟨_,rfl⟩
 obtain⟨w2,hw2⟩:∃ w2,w2=w1.alloc (.cells #[.string ⟨#[]⟩,.slice none 0 0,.slice none 0 0,.int .i64 0,.string ⟨#[]⟩,.string ⟨#[]⟩,.int .i64 0] 37):=⟨_,rfl⟩
 have hs1:w1.heap.size=w.heap.size+1:=by rw [hw1,World.size_alloc]
 have hs2:w2.heap.size=w.heap.size+1+1:=by rw [hw2,World.size_alloc,hs1]
 have hb1:Below w.heap.size w w1:=by rw [hw1];exact (Below.refl _ _).alloc (Nat.le_refl _) _
 have hb2:Below w.heap.size w w2:=by rw [hw2];exact hb1.alloc (by omega) _
 have hg5:w2.heap[w.heap.size]?=some (.cells #[.string B,.slice AA an ac,.slice AW wn wc,.int .i64 k,.string P,.string D,.int .i64 y] 37 (0,0)):=by
  rw [hw2,Below.heap_alloc _ _ _ (by omega),hw1]
  exact World.alloc_heap_new _ _
 have hg10:w2.heap[w.heap.size+1]?=some (.cells zSt 37 (0,0)):=by
  rw [hw2,← hs1]
  exact World.alloc_heap_new _ _
 obtain⟨w3,hw3⟩:∃ w3,w3=w2.alloc (.cells #[] 9):=⟨_,rfl⟩
 have hb3:Below w2.heap.size w2 w3:=by rw [hw3];exact (Below.refl _ _).alloc (Nat.le_refl _) _
 have hown3:Own w3 w2.heap.size 9 1 (some ⟨w2.heap.size,0,none⟩) 0 0 []:=by
  rw [hw3]
  exact Own.lit w2 #[] 9 1 0 w2.heap.size (Nat.le_refl _) (Nat.zero_le _) rfl
 have hrD:Rd w3 1 DA dn VD:=(hod.rd.below_all hb2).below_all hb3
 have hone:∀ u∈VD,u.oneCell'=true:=fun u hu=>by
  rw [hVD] at hu
  unfold strV at hu
  obtain⟨x,_,rfl⟩:=List.mem_map.1 hu
  rfl
 have hsz3:=hb3.size
 obtain⟨g5,hg5e⟩:∃ g,g=w.heap.size:=⟨_,rfl⟩
 obtain⟨g10,hg10e⟩:∃ g,g=w.heap.size+1:=⟨_,rfl⟩
 rw [← hg5e] at hg5
 rw [← hg10e] at hg10
 have H12:=hid2 (show (w.alloc (.cells #[.string B,.slice AA an ac,.slice AW wn wc,.int .i64 k,.string P,.string D,.int .i64 y] 37)).alloc (.cells #[.string ⟨#[]⟩,.slice none 0 0,.slice none 0 0,.int .i64 0,.string ⟨#[]⟩,.string ⟨#[]⟩,.int .i64 0] 37)=w2 from by rw [hw2,hw1])
 have HE:=hid2 (And.intro hg5e hg10e)
 have HB2:=hid2 hb2
 have HB3:=hid2 hb3
 have HO3:=hid2 hown3
 have HG5:=hid2 hg5
 have HG10:=hid2 hg10
 have HSM:=hid2 hsm
 have CA:=hid2 cA
 have hw3':=hw3.symm
 have hF7:∀ {a b c d e f g:Value} {cs:Array Value},cs.size=7→0+[a,b,c,d,e,f,g].length≤cs.size:=fun h=>by rw [h];exact Nat.le_refl 7
 have hF3:∀ {a b c:Value} {cs:Array Value},cs.size=3→0+[a,b,c].length≤cs.size:=fun h=>by rw [h];exact Nat.le_refl 3
 have HX:=hid2 hx
 have HRES:=hid2 hRES
 obtain⟨bi,hbi⟩:∃ b,b=x2.is:=⟨_,rfl⟩
 rw [← hbi] at CA
 clear cA hx1 hx2 hRES hsm hfound hS hSW hkn hr hod hVD hw1 hw2 hw3 hs1 hs2 hb1 hb2 hb3 hg5e hg10e hg5 hg10 h hdn hx hbi hs hdk hpd hlf hKd hv
 go_enter Tryz.func54,Tryz.ntmps54
 go_upto_region 1 with fail
 rw [H12.out,← HE.out.2,← HE.out.1]
 go_wp2_with (first
  | (at_builtin;have _t:=hown3;go_must ((with_reducible refine wpList_append_lit 9 (.string ⟨#[]⟩) 1 16 Tryz.underlying32 info_str rfl w2.heap.size (some ⟨w2.heap.size,0,none⟩) 0 0 [] hown3 dn VD (.slice DA dn dc) (Src.slice Tryz.underlying32 hrD) hone ?_ ?_ ?_ ?_ ?_);(unfold maxLen;omega);omega;exact hsz3;exact⟨rfl,rfl⟩;intro A4 c4 w4 hown4 hgr4 hbl4;rw [Nat.zero_add];rw [Nat.zero_add,List.nil_append] at hown4;have HO4:=hid2 hown4;have HB4:=hid2 (HB3.out.grown hgr4 hsz3 (fun k e=>(HO3.out.block k e).1));have hsz4:=HB4.out.size;clear hown3 hrD _t hgr4 hbl4 hsz3 hw3'))
  | (at_builtin;have _t:=hown4;go_must ((with_reducible refine wpList_append_lit 9 (.string ⟨#[]⟩) 1 16 Tryz.underlying32 info_str rfl w2.heap.size A4 dn c4 VD (hown4.alloc _) 1 [.string S] (.slice (some ⟨w4.heap.size,0,none⟩) 1 1) (Src.slice Tryz.underlying32 (Rd.one w4 _ _)) one_str ?_ ?_ ?_ ?_ ?_);(unfold maxLen;omega);omega;(simp;omega);exact⟨rfl,rfl⟩;intro DX dx w5 hown5 hgr5 hbl5;have HO5:=hid2 hown5;have HB5:=hid2 ((HB4.out.alloc hsz4 _).grown hgr5 (by simp;omega) (fun k e=>(HO4.out.block k e).1));have z5:=(HB5.out.block g5 (heap_lt HG5.out)).trans HG5.out;have z10:=(HB5.out.block g10 (heap_lt HG10.out)).trans HG10.out;have c0:=cell_of_row w5 g5 0 _ _ _ z5;have c1:=cell_of_row w5 g5 1 _ _ _ z5;have c2:=cell_of_row w5 g5 2 _ _ _ z5;have c3:=cell_of_row w5 g5 3 _ _ _ z5;have c4:=cell_of_row w5 g5 4 _ _ _ z5;have c5:=cell_of_row w5 g5 5 _ _ _ z5;have c6:=cell_of_row w5 g5 6 _ _ _ z5;have Z5:=hid2 z5;have Z10:=hid2 z10;clear hown4 _t hgr5 hbl5 hsz4 z5 z10 hown5))
  | (go_at_call 52; refine (CA.out w5 (HB2.out.trans (HB5.out.mono HB2.out.size))).mono ?_;rintro e w6 ⟨B1,AA1,an1,ac1,AW1,wn1,wc1,k1,P1,D1,y1,X1,Y1,rfl,hq,hyy,hb6⟩;have hk1:¬ k1=0:=(by rw [hq.2.2.2.2.2.1];have:=HX.out;omega);have hk1b:(k1 == 0)=false:=(by rw [beq_eq_false_iff_ne];exact hk1);have z5:(w6.alloc (.cells #[.string ⟨#[]⟩,.bool false,.string ⟨#[]⟩] 41)).heap[g5]?=_:=(Below.heap_alloc _ _ _ (Nat.lt_of_lt_of_le (heap_lt Z5.out) hb6.size)).trans ((hb6.block g5 (heap_lt Z5.out)).trans Z5.out);have z10:(w6.alloc (.cells #[.string ⟨#[]⟩,.bool false,.string ⟨#[]⟩] 41)).heap[g10]?=_:=(Below.heap_alloc _ _ _ (Nat.lt_of_lt_of_le (heap_lt Z10.out) hb6.size)).trans ((hb6.block g10 (heap_lt Z10.out)).trans Z10.out);have z12:(w6.alloc (.cells #[.string ⟨#[]⟩,.bool false,.string ⟨#[]⟩] 41)).heap[w6.heap.size]?=some (.cells zKn 41 (0,0)):=World.alloc_heap_new w6 _;have hb7:Below w6.heap.size w6 (w6.alloc (.cells #[.string ⟨#[]⟩,.bool false,.string ⟨#[]⟩] 41)):=(Below.refl _ _).alloc (Nat.le_refl _) _;obtain⟨g12,hg12⟩:∃ g,w6.heap.size=g:=⟨_,rfl⟩;obtain⟨w7,hw7⟩:∃ x,w6.alloc (.cells #[.string ⟨#[]⟩,.bool false,.string ⟨#[]⟩] 41)=x:=⟨_,rfl⟩;rw [hg12] at z12;rw [hw7] at z5 z10 z12 hb7;have HB6:=hid2 hb6;have HB7:=hid2 hb7;have HQ:=hid2 hq;have HYY:=hid2 hyy;have Z57:=hid2 z5;have Z107:=hid2 z10;have Z127:=hid2 z12;clear hb6 hb7 hq hyy z5 z10 z12 c0 c1 c2 c3 c4 c5 c6;have z57:=Z57.out)
  | ((with_reducible refine wpList_store_lit g5 0 (.agg #[.string B1,.slice AA1 an1 ac1,.slice AW1 wn1 wc1,.int .i64 k1,.string P1,.string D1,.int .i64 y1]) [.string B1,.slice AA1 an1 ac1,.slice AW1 wn1 wc1,.int .i64 k1,.string P1,.string D1,.int .i64 y1] rfl _ 37 z57 (info_st _ _ _ _ _ _ _) (hF7 rfl) one_st ?_ ?_);exact⟨rfl,rfl⟩;rw [laid_st7 rfl];obtain⟨w8,hw8⟩:∃ x,x=w7.setRow g5 #[.string B1,.slice AA1 an1 ac1,.slice AW1 wn1 wc1,.int .i64 k1,.string P1,.string D1,.int .i64 y1]:=⟨_,rfl⟩;rw [← hw8];have HW8:=hid2 hw8;have z128:w8.heap[g12]?=some (.cells zKn 41 (0,0)):=(by rw [hw8];exact (setRow_other w7 g5 g12 _ (row_ne Z127.out Z57.out (by decide))).trans Z127.out);have Z128:=hid2 z128;clear hw8 z57)
  | ((with_reducible refine wpList_store_lit g12 0 (.agg #[.string X1,.bool bi,.string Y1]) [.string X1,.bool bi,.string Y1] rfl _ 41 z128 (info_known3 _ _ _) (hF3 rfl) one_known ?_ ?_);exact⟨rfl,rfl⟩;rw [laid_kn3 rfl];obtain⟨w9,hw9⟩:∃ x,x=w8.setRow g12 #[.string X1,.bool bi,.string Y1]:=⟨_,rfl⟩;rw [← hw9];have q12:w9.heap[g12]?=some (.cells #[.string X1,.bool bi,.string Y1] 41 (0,0)):=(by rw [hw9];exact setRow_heap w8 g12 _ _ _ _ Z128.out);have q5:w9.heap[g5]?=some (.cells #[.string B1,.slice AA1 an1 ac1,.slice AW1 wn1 wc1,.int .i64 k1,.string P1,.string D1,.int .i64 y1] 37 (0,0)):=(by rw [hw9,HW8.out];exact (setRow_other _ g12 g5 _ (row_ne Z57.out Z127.out (by decide))).trans (setRow_heap w7 g5 _ _ _ _ Z57.out));have q10:w9.heap[g10]?=some (.cells zSt 37 (0,0)):=(by rw [hw9,HW8.out];exact (setRow_other _ g12 g10 _ (row_ne Z107.out Z127.out (by decide))).trans ((setRow_other w7 g5 g10 _ (by have:=HE.out;omega)).trans Z107.out));have HBW:=hid2 (show Below w.heap.size w w9 from by rw [hw9,HW8.out];exact below_setRow (below_setRow (HB2.out.trans ((HB5.out.trans ((HB6.out.trans (HB7.out.mono HB6.out.size)).mono HB5.out.size)).mono HB2.out.size)) (by have:=HE.out;omega) _) (by have:=HB2.out.size;have:=HB5.out.size;have:=HB6.out.size;omega) _);have HTK:=hid2 (show RSA w9 B1 AA1 an1 ac1 AW1 wn1 wc1 k1 P1 D1 y1 x1∧Own w9 0 9 1 DX (dn+1) dx (strV (d++[p])) from by rw [hw9,HW8.out];have e5:=HO5.out;rw [HVS.out] at e5;exact⟨((HQ.out.below HB7.out).put Z57.out (by decide) (by decide) _).put (by rw [← HW8.out];exact Z128.out) (by decide) (by decide) _,((((e5.mono (Nat.zero_le _)).below HB6.out (Nat.le_refl _)).below HB7.out (Nat.le_refl _)).setOtherRow Z57.out (by decide)).setOtherRow (by rw [← HW8.out];exact Z128.out) (by decide)⟩);have c0:=cell_of_row w9 g5 0 _ _ _ q5;have c1:=cell_of_row w9 g5 1 _ _ _ q5;have c2:=cell_of_row w9 g5 2 _ _ _ q5;have c3:=cell_of_row w9 g5 3 _ _ _ q5;have c4:=cell_of_row w9 g5 4 _ _ _ q5;have c5:=cell_of_row w9 g5 5 _ _ _ q5;have c6:=cell_of_row w9 g5 6 _ _ _ q5;have e0:=cell_of_row w9 g12 0 _ _ _ q12;have e1:=cell_of_row w9 g12 1 _ _ _ q12;have e2:=cell_of_row w9 g12 2 _ _ _ q12;have Q5:=hid2 q5;have Q10:=hid2 q10;clear hw9 z128 hw7 hg12 q5 q12 q10;have q10:=Q10.out)
  | ((with_reducible refine wpList_store_lit g10 0 (.agg #[.string B1,.slice AA1 an1 ac1,.slice AW1 wn1 wc1,.int .i64 k1,.string P1,.string D1,.int .i64 y1]) [.string B1,.slice AA1 an1 ac1,.slice AW1 wn1 wc1,.int .i64 k1,.string P1,.string D1,.int .i64 y1] rfl _ 37 q10 (info_st _ _ _ _ _ _ _) (hF7 rfl) one_st ?_ ?_);exact⟨rfl,rfl⟩;rw [laid_st7 rfl]))
 try simp only [Act.put]
 refine bodyPost_ret (v:=.tuple #[.agg #[.string B1,.slice AA1 an1 ac1,.slice AW1 wn1 wc1,.int .i64 k1,.string P1,.string D1,.int .i64 y1],.slice DX (dn+1) dx]) (results_row_tmp rfl _ _ g10 37 _ _ (0,0) rfl rfl (setRow_heap w9 g10 _ _ _ _ Q10.out) rfl) rfl ?_
 rw [HRES.out]
 exact⟨_,rfl,⟨_,_,_,_,_,_,_,_,_,_,_,_,_,_,rfl,HTK.out.1.put Q10.out (by decide) (by decide) _,HDN.out,HTK.out.2.setOtherRow Q10.out (by decide)⟩,below_setRow HBW.out (by have:=HE.out;omega) _⟩
set_option maxHeartbeats 32000000 in
theorem rscan_none (K:List KE) (v:Env) (hv:v.may=mayB) (hK:K.length≤1000000) (hKd:∀ k∈K,k.path.length≤1000000∧k.data.length≤100000) (f:Nat) (w:World) (B:ByteArray) (AA:Option Addr) (an ac:Nat) (AW:Option Addr) (wn wc:Nat) (k:Int) (P D:ByteArray) (y:Int) (r:RS) (KA:Option Addr) (kc:Nat) (p W:TT) (DA:Option Addr) (dn dc:Nat) (d:List TT) (h:RSA w B AA an ac AW wn wc k P D y r) (hs:r.Small) (hr:Rd w 3 KA K.length (kV K)) (hdn:dn=d.length) (hod:Own w 0 9 1 DA dn dc (strV d)) (hdk:DOk (K.map (·.path)) d) (hpd:p ∉ d) (hlf:left (K.map (·.path)) d < f+1) (hx:(r.ask (orK K) p).1.stop.kind=0) (hi:(r.ask (orK K) p).2.is=false) :
  Calls Tryz.prog 54 #[.agg #[.string B,.slice AA an ac,.slice AW wn wc,.int .i64 k,.string P,.string D,.int .i64 y],.slice KA K.length kc,.string (strB p),.string (strB W),.slice DA dn dc] w (ScanPost w (scanF v (orK K) W (f+1) r p d)):=by
 have cA:∀ (WW:World),Below w.heap.size w WW→Calls Tryz.prog 52 #[.agg #[.string B,.slice AA an ac,.slice AW wn wc,.int .i64 k,.string P,.string D,.int .i64 y],.slice KA K.length kc,.string (strB p)] WW (AskP WW (r.ask (orK K) p).1 (r.ask (orK K) p).2.is (r.ask (orK K) p).2.data):=fun WW hb=>rask_any WW B AA an ac AW wn wc k P D y r (h.below hb) hs.1 KA kc K hK (hr.below_all hb) p
 obtain⟨x1,hx1⟩:∃ x,x=(r.ask (orK K) p).1:=⟨_,rfl⟩
 obtain⟨x2,hx2⟩:∃ x,x=(r.ask (orK K) p).2:=⟨_,rfl⟩
 obtain⟨RES,hRES⟩:∃ R,R=scanF v (orK K) W (f+1) r p d:=⟨_,rfl⟩
 have hsm:x1.Small:=by rw [hx1];exact hs.ask p
 rw [← hx1,← hx2] at cA
 rw [← hRES]
 rw [scanF,← hx1,← hx2] at hRES
 have hfound:=@ask_found (orK K) r p
 rw [← hx1,← hx2] at hfound
 rw [← hx1] at hx
 rw [← hx2] at hi
 rw [if_neg (by rw [hx];simp),if_pos hi] at hRES
 obtain⟨S,hS⟩:∃ S,S=strB p:=⟨_,rfl⟩
 obtain⟨SW,hSW⟩:∃ S,S=strB W:=⟨_,rfl⟩
 obtain⟨kn,hkn⟩:∃ n,n=K.length:=⟨_,rfl⟩
 rw [← hS] at cA ⊢
 rw [← hSW]
 rw [← hkn] at cA hr hK ⊢
 have hdl:dn≤1000000:=by
  have:=hdk.len
  rw [List.length_map] at this
  omega
 obtain⟨VD,hVD⟩:∃ V,V=strV d:=⟨_,rfl⟩
 rw [← hVD] at hod
 have HVS:=hid2 (show VD++[Value.string S]=strV (d++[p]) from by rw [hVD,hS,strV_snoc])
 have HDN:=hid2 (show dn+1=(d++[p]).length from by rw [hdn,List.length_append];rfl)
 obtain⟨w1,hw1⟩:∃ w1,w1=w.alloc (.cells #[.string B,.slice AA an ac,.slice AW wn wc,.int .i64 k,.string P,.string D,.int .i64 y] 37):=⟨_,rfl⟩
 obtain⟨w2,hw2⟩:∃ w2,w2=w1.alloc (.cells #[.string ⟨#[]⟩,.slice none 0 0,.slice none 0 0,.int .i64 0,.string ⟨#[]⟩,.string ⟨#[]⟩,.int .i64 0] 37):=⟨_,rfl⟩
 have hs1:w1.heap.size=w.heap.size+1:=by rw [hw1,World.size_alloc]
 have hs2:w2.heap.size=w.heap.size+1+1:=by rw [hw2,World.size_alloc,hs1]
 have hb1:Below w.heap.size w w1:=by rw [hw1];exact (Below.refl _ _).alloc (Nat.le_refl _) _
 have hb2:Below w.heap.size w w2:=by rw [hw2];exact hb1.alloc (by omega) _
 have hg5:w2.heap[w.heap.size]?=some (.cells #[.string B,.slice AA an ac,.slice AW wn wc,.int .i64 k,.string P,.string D,.int .i64 y] 37 (0,0)):=by
  rw [hw2,Below.heap_alloc _ _ _ (by omega),hw1]
  exact World.alloc_heap_new _ _
 have hg10:w2.heap[w.heap.size+1]?=some (.cells zSt 37 (0,0)):=by
  rw [hw2,← hs1]
  exact World.alloc_heap_new _ _
 obtain⟨w3,hw3⟩:∃ w3,w3=w2.alloc (.cells #[] 9):=⟨_,rfl⟩
 have hb3:Below w2.heap.size w2 w3:=by rw [hw3];exact (Below.refl _ _).alloc (Nat.le_refl _) _
 have hown3:Own w3 w2.heap.size 9 1 (some ⟨w2.heap.size,0,none⟩) 0 0 []:=by
  rw [hw3]
  exact Own.lit w2 #[] 9 1 0 w2.heap.size (Nat.le_refl _) (Nat.zero_le _) rfl
 have hrD:Rd w3 1 DA dn VD:=(hod.rd.below_all hb2).below_all hb3
 have hone:∀ u∈VD,u.oneCell'=true:=fun u hu=>by
  rw [hVD] at hu
  unfold strV at hu
  obtain⟨x,_,rfl⟩:=List.mem_map.1 hu
  rfl
 have hsz3:=hb3.size
 obtain⟨g5,hg5e⟩:∃ g,g=w.heap.size:=⟨_,rfl⟩
 obtain⟨g10,hg10e⟩:∃ g,g=w.heap.size+1:=⟨_,rfl⟩
 rw [← hg5e] at hg5
 rw [← hg10e] at hg10
 have H12:=hid2 (show (w.alloc (.cells #[.string B,.slice AA an ac,.slice AW wn wc,.int .i64 k,.string P,.string D,.int .i64 y] 37)).alloc (.cells #[.string ⟨#[]⟩,.slice none 0 0,.slice none 0 0,.int .i64 0,.string ⟨#[]⟩,.string ⟨#[]⟩,.int .i64 0] 37)=w2 from by rw [hw2,hw1])
 have HE:=hid2 (And.intro hg5e hg10e)
 have HB2:=hid2 hb2
 have HB3:=hid2 hb3
 have HO3:=hid2 hown3
 have HG5:=hid2 hg5
 have HG10:=hid2 hg10
 have HSM:=hid2 hsm
 have CA:=hid2 cA
 have hw3':=hw3.symm
 have hF7:∀ {a b c d e f g:Value} {cs:Array Value},cs.size=7→0+[a,b,c,d,e,f,g].length≤cs.size:=fun h=>by rw [h];exact Nat.le_refl 7
 have hF3:∀ {a b c:Value} {cs:Array Value},cs.size=3→0+[a,b,c].length≤cs.size:=fun h=>by rw [h];exact Nat.le_refl 3
 have HX:=hid2 hx
 have HRES:=hid2 hRES
 rw [hi] at CA
 clear cA hx1 hx2 hRES hsm hfound hS hSW hkn hr hod hVD hw1 hw2 hw3 hs1 hs2 hb1 hb2 hb3 hg5e hg10e hg5 hg10 h hdn hx hi hs hdk hpd hlf hKd hv
 go_enter Tryz.func54,Tryz.ntmps54
 go_upto_region 1 with fail
 rw [H12.out,← HE.out.2,← HE.out.1]
 go_wp2_with (first
  | (at_builtin;have _t:=hown3;go_must ((with_reducible refine wpList_append_lit 9 (.string ⟨#[]⟩) 1 16 Tryz.underlying32 info_str rfl w2.heap.size (some ⟨w2.heap.size,0,none⟩) 0 0 [] hown3 dn VD (.slice DA dn dc) (Src.slice Tryz.underlying32 hrD) hone ?_ ?_ ?_ ?_ ?_);(unfold maxLen;omega);omega;exact hsz3;exact⟨rfl,rfl⟩;intro A4 c4 w4 hown4 hgr4 hbl4;rw [Nat.zero_add];rw [Nat.zero_add,List.nil_append] at hown4;have HO4:=hid2 hown4;have HB4:=hid2 (HB3.out.grown hgr4 hsz3 (fun k e=>(HO3.out.block k e).1));have hsz4:=HB4.out.size;clear hown3 hrD _t hgr4 hbl4 hsz3 hw3'))
  | (at_builtin;have _t:=hown4;go_must ((with_reducible refine wpList_append_lit 9 (.string ⟨#[]⟩) 1 16 Tryz.underlying32 info_str rfl w2.heap.size A4 dn c4 VD (hown4.alloc _) 1 [.string S] (.slice (some ⟨w4.heap.size,0,none⟩) 1 1) (Src.slice Tryz.underlying32 (Rd.one w4 _ _)) one_str ?_ ?_ ?_ ?_ ?_);(unfold maxLen;omega);omega;(simp;omega);exact⟨rfl,rfl⟩;intro DX dx w5 hown5 hgr5 hbl5;have HO5:=hid2 hown5;have HB5:=hid2 ((HB4.out.alloc hsz4 _).grown hgr5 (by simp;omega) (fun k e=>(HO4.out.block k e).1));have z5:=(HB5.out.block g5 (heap_lt HG5.out)).trans HG5.out;have z10:=(HB5.out.block g10 (heap_lt HG10.out)).trans HG10.out;have c0:=cell_of_row w5 g5 0 _ _ _ z5;have c1:=cell_of_row w5 g5 1 _ _ _ z5;have c2:=cell_of_row w5 g5 2 _ _ _ z5;have c3:=cell_of_row w5 g5 3 _ _ _ z5;have c4:=cell_of_row w5 g5 4 _ _ _ z5;have c5:=cell_of_row w5 g5 5 _ _ _ z5;have c6:=cell_of_row w5 g5 6 _ _ _ z5;have Z5:=hid2 z5;have Z10:=hid2 z10;clear hown4 _t hgr5 hbl5 hsz4 z5 z10 hown5))
  | (go_at_call 52; refine (CA.out w5 (HB2.out.trans (HB5.out.mono HB2.out.size))).mono ?_;rintro e w6 ⟨B1,AA1,an1,ac1,AW1,wn1,wc1,k1,P1,D1,y1,X1,Y1,rfl,hq,hyy,hb6⟩;obtain rfl:k1=0:=(by rw [hq.2.2.2.2.2.1,HX.out];rfl);have z5:(w6.alloc (.cells #[.string ⟨#[]⟩,.bool false,.string ⟨#[]⟩] 41)).heap[g5]?=_:=(Below.heap_alloc _ _ _ (Nat.lt_of_lt_of_le (heap_lt Z5.out) hb6.size)).trans ((hb6.block g5 (heap_lt Z5.out)).trans Z5.out);have z10:(w6.alloc (.cells #[.string ⟨#[]⟩,.bool false,.string ⟨#[]⟩] 41)).heap[g10]?=_:=(Below.heap_alloc _ _ _ (Nat.lt_of_lt_of_le (heap_lt Z10.out) hb6.size)).trans ((hb6.block g10 (heap_lt Z10.out)).trans Z10.out);have z12:(w6.alloc (.cells #[.string ⟨#[]⟩,.bool false,.string ⟨#[]⟩] 41)).heap[w6.heap.size]?=some (.cells zKn 41 (0,0)):=World.alloc_heap_new w6 _;have hb7:Below w6.heap.size w6 (w6.alloc (.cells #[.string ⟨#[]⟩,.bool false,.string ⟨#[]⟩] 41)):=(Below.refl _ _).alloc (Nat.le_refl _) _;obtain⟨g12,hg12⟩:∃ g,w6.heap.size=g:=⟨_,rfl⟩;obtain⟨w7,hw7⟩:∃ x,w6.alloc (.cells #[.string ⟨#[]⟩,.bool false,.string ⟨#[]⟩] 41)=x:=⟨_,rfl⟩;rw [hg12] at z12;rw [hw7] at z5 z10 z12 hb7;have HB6:=hid2 hb6;have HB7:=hid2 hb7;have HQ:=hid2 hq;have HYY:=hid2 hyy;have Z57:=hid2 z5;have Z107:=hid2 z10;have Z127:=hid2 z12;clear hb6 hb7 hq hyy z5 z10 z12 c0 c1 c2 c3 c4 c5 c6;have z57:=Z57.out)
  | ((with_reducible refine wpList_store_lit g5 0 (.agg #[.string B1,.slice AA1 an1 ac1,.slice AW1 wn1 wc1,.int .i64 0,.string P1,.string D1,.int .i64 y1]) [.string B1,.slice AA1 an1 ac1,.slice AW1 wn1 wc1,.int .i64 0,.string P1,.string D1,.int .i64 y1] rfl _ 37 z57 (info_st _ _ _ _ _ _ _) (hF7 rfl) one_st ?_ ?_);exact⟨rfl,rfl⟩;rw [laid_st7 rfl];obtain⟨w8,hw8⟩:∃ x,x=w7.setRow g5 #[.string B1,.slice AA1 an1 ac1,.slice AW1 wn1 wc1,.int .i64 0,.string P1,.string D1,.int .i64 y1]:=⟨_,rfl⟩;rw [← hw8];have HW8:=hid2 hw8;have z128:w8.heap[g12]?=some (.cells zKn 41 (0,0)):=(by rw [hw8];exact (setRow_other w7 g5 g12 _ (row_ne Z127.out Z57.out (by decide))).trans Z127.out);have Z128:=hid2 z128;clear hw8 z57)
  | ((with_reducible refine wpList_store_lit g12 0 (.agg #[.string X1,.bool false,.string Y1]) [.string X1,.bool false,.string Y1] rfl _ 41 z128 (info_known3 _ _ _) (hF3 rfl) one_known ?_ ?_);exact⟨rfl,rfl⟩;rw [laid_kn3 rfl];obtain⟨w9,hw9⟩:∃ x,x=w8.setRow g12 #[.string X1,.bool false,.string Y1]:=⟨_,rfl⟩;rw [← hw9];have q12:w9.heap[g12]?=some (.cells #[.string X1,.bool false,.string Y1] 41 (0,0)):=(by rw [hw9];exact setRow_heap w8 g12 _ _ _ _ Z128.out);have q5:w9.heap[g5]?=some (.cells #[.string B1,.slice AA1 an1 ac1,.slice AW1 wn1 wc1,.int .i64 0,.string P1,.string D1,.int .i64 y1] 37 (0,0)):=(by rw [hw9,HW8.out];exact (setRow_other _ g12 g5 _ (row_ne Z57.out Z127.out (by decide))).trans (setRow_heap w7 g5 _ _ _ _ Z57.out));have q10:w9.heap[g10]?=some (.cells zSt 37 (0,0)):=(by rw [hw9,HW8.out];exact (setRow_other _ g12 g10 _ (row_ne Z107.out Z127.out (by decide))).trans ((setRow_other w7 g5 g10 _ (by have:=HE.out;omega)).trans Z107.out));have HBW:=hid2 (show Below w.heap.size w w9 from by rw [hw9,HW8.out];exact below_setRow (below_setRow (HB2.out.trans ((HB5.out.trans ((HB6.out.trans (HB7.out.mono HB6.out.size)).mono HB5.out.size)).mono HB2.out.size)) (by have:=HE.out;omega) _) (by have:=HB2.out.size;have:=HB5.out.size;have:=HB6.out.size;omega) _);have HTK:=hid2 (show RSA w9 B1 AA1 an1 ac1 AW1 wn1 wc1 0 P1 D1 y1 x1∧Own w9 0 9 1 DX (dn+1) dx (strV (d++[p])) from by rw [hw9,HW8.out];have e5:=HO5.out;rw [HVS.out] at e5;exact⟨((HQ.out.below HB7.out).put Z57.out (by decide) (by decide) _).put (by rw [← HW8.out];exact Z128.out) (by decide) (by decide) _,((((e5.mono (Nat.zero_le _)).below HB6.out (Nat.le_refl _)).below HB7.out (Nat.le_refl _)).setOtherRow Z57.out (by decide)).setOtherRow (by rw [← HW8.out];exact Z128.out) (by decide)⟩);have c0:=cell_of_row w9 g5 0 _ _ _ q5;have c1:=cell_of_row w9 g5 1 _ _ _ q5;have c2:=cell_of_row w9 g5 2 _ _ _ q5;have c3:=cell_of_row w9 g5 3 _ _ _ q5;have c4:=cell_of_row w9 g5 4 _ _ _ q5;have c5:=cell_of_row w9 g5 5 _ _ _ q5;have c6:=cell_of_row w9 g5 6 _ _ _ q5;have e0:=cell_of_row w9 g12 0 _ _ _ q12;have e1:=cell_of_row w9 g12 1 _ _ _ q12;have e2:=cell_of_row w9 g12 2 _ _ _ q12;have Q5:=hid2 q5;have Q10:=hid2 q10;clear hw9 z128 hw7 hg12 q5 q12 q10;have q10:=Q10.out)
  | (go_at_call 33; refine (rfail_any _ B1 AA1 AW1 an1 ac1 wn1 wc1 0 y1 10 P1 D1).mono ?_;rintro e wa ⟨rfl,hb⟩;have HBA:=hid2 hb;have za:=(hb.block g10 (heap_lt Q10.out)).trans Q10.out;have ZA:=hid2 za;clear hb q10)
  | ((with_reducible refine wpList_store_lit g10 0 (.agg #[.string B1,.slice AA1 an1 ac1,.slice AW1 wn1 wc1,.int .i64 4,.string ⟨#[]⟩,.string ⟨#[]⟩,.int .i64 10]) [.string B1,.slice AA1 an1 ac1,.slice AW1 wn1 wc1,.int .i64 4,.string ⟨#[]⟩,.string ⟨#[]⟩,.int .i64 10] rfl _ 37 za (info_st _ _ _ _ _ _ _) (hF7 rfl) one_st ?_ ?_);exact⟨rfl,rfl⟩;rw [laid_st7 rfl]))
 try simp only [Act.put]
 refine bodyPost_ret (v:=.tuple #[.agg #[.string B1,.slice AA1 an1 ac1,.slice AW1 wn1 wc1,.int .i64 4,.string ⟨#[]⟩,.string ⟨#[]⟩,.int .i64 10],.slice DX (dn+1) dx]) (results_row_tmp rfl _ _ g10 37 _ _ (0,0) rfl rfl (setRow_heap wa g10 _ _ _ _ ZA.out) rfl) rfl ?_
 rw [HRES.out]
 exact⟨_,rfl,⟨_,_,_,_,_,_,_,_,_,_,_,_,_,_,rfl,((HTK.out.1.fail 10).below HBA.out).put ZA.out (by decide) (by decide) _,HDN.out,(HTK.out.2.below HBA.out (Nat.le_refl _)).setOtherRow ZA.out (by decide)⟩,below_setRow (HBW.out.trans (HBA.out.mono HBW.out.size)) (by have:=HE.out;omega) _⟩
set_option maxHeartbeats 32000000 in
theorem rscan_lines (K:List KE) (v:Env) (hv:v.may=mayB) (hK:K.length≤1000000) (hKd:∀ k∈K,k.path.length≤1000000∧k.data.length≤100000) (f:Nat) (IH:ScanAt K v f) (w:World) (B:ByteArray) (AA:Option Addr) (an ac:Nat) (AW:Option Addr) (wn wc:Nat) (k:Int) (P D:ByteArray) (y:Int) (r:RS) (KA:Option Addr) (kc:Nat) (p W:TT) (DA:Option Addr) (dn dc:Nat) (d:List TT) (h:RSA w B AA an ac AW wn wc k P D y r) (hs:r.Small) (hr:Rd w 3 KA K.length (kV K)) (hdn:dn=d.length) (hod:Own w 0 9 1 DA dn dc (strV d)) (hdk:DOk (K.map (·.path)) d) (hpd:p ∉ d) (hlf:left (K.map (·.path)) d < f+1) (hx:(r.ask (orK K) p).1.stop.kind=0) (hi:(r.ask (orK K) p).2.is=true) :
  Calls Tryz.prog 54 #[.agg #[.string B,.slice AA an ac,.slice AW wn wc,.int .i64 k,.string P,.string D,.int .i64 y],.slice KA K.length kc,.string (strB p),.string (strB W),.slice DA dn dc] w (ScanPost w (scanF v (orK K) W (f+1) r p d)):=by
 have cA:∀ (WW:World),Below w.heap.size w WW→Calls Tryz.prog 52 #[.agg #[.string B,.slice AA an ac,.slice AW wn wc,.int .i64 k,.string P,.string D,.int .i64 y],.slice KA K.length kc,.string (strB p)] WW (AskP WW (r.ask (orK K) p).1 (r.ask (orK K) p).2.is (r.ask (orK K) p).2.data):=fun WW hb=>rask_any WW B AA an ac AW wn wc k P D y r (h.below hb) hs.1 KA kc K hK (hr.below_all hb) p
 obtain⟨x1,hx1⟩:∃ x,x=(r.ask (orK K) p).1:=⟨_,rfl⟩
 obtain⟨x2,hx2⟩:∃ x,x=(r.ask (orK K) p).2:=⟨_,rfl⟩
 obtain⟨RES,hRES⟩:∃ R,R=scanF v (orK K) W (f+1) r p d:=⟨_,rfl⟩
 have hsm:x1.Small:=by rw [hx1];exact hs.ask p
 rw [← hx1,← hx2] at cA
 rw [← hRES]
 rw [scanF,← hx1,← hx2] at hRES
 have hfound:=@ask_found (orK K) r p
 rw [← hx1,← hx2] at hfound
 rw [← hx1] at hx
 rw [← hx2] at hi
 rw [if_neg (by rw [hx];simp),if_neg (by rw [hi];simp)] at hRES
 have hfd:=hfound hx
 obtain⟨xk,hxk,hxp,hxn⟩:=orK_some hfd
 have hdat:x2.data.length≤100000:=by rw [hxn];exact nrm_short (hKd xk hxk).2
 obtain⟨LL,hLL⟩:∃ L,L=linesT x2.data:=⟨_,rfl⟩
 obtain⟨nL,hnL⟩:∃ n,n=LL.length:=⟨_,rfl⟩
 have cLn:=fun (WW:World) (Y:ByteArray) (hY:Y=strB x2.data)=>rlines_n WW Y (by rw [hY,strB_size];omega) LL (by rw [hY,strB_list];exact hLL) nL hnL
 have hnl:nL≤100001:=by
  rw [hnL,hLL]
  have:=linesT_len x2.data
  omega
 have hll:∀ x∈LL,x.length≤100000:=fun x hx=>by
  rw [hLL] at hx
  have:=linesT_le hx
  omega
 rw [← hLL] at hRES
 have hpL:p∈K.map (·.path):=List.mem_map.2 ⟨xk,hxk,hxp⟩
 have hdk2:DOk (K.map (·.path)) (d++[p]):=by
  refine⟨?_,fun q hq=>?_⟩
  ·rw [List.nodup_append]
   refine⟨hdk.1,by simp,fun a ha b hb e=>?_⟩
   have:b=p:=by simpa using hb
   exact hpd (by rw [← this,← e];exact ha)
  ·rcases List.mem_append.1 hq with h | h
   ·exact hdk.2 q h
   ·have:q=p:=by simpa using h
    rw [this]
    exact hpL
 have hlf2:left (K.map (·.path)) (d++[p]) < f:=by
  have:=left_more hpL hpd
  omega
 have hLk:(K.map (·.path)).length≤1000000:=by rw [List.length_map];exact hK
 have hLK:∀ q k,orK K q=some k→q∈K.map (·.path):=fun q k h=>by
  obtain⟨x,hx,h1,_⟩:=orK_some h
  exact List.mem_map.2 ⟨x,hx,h1⟩
 obtain⟨S,hS⟩:∃ S,S=strB p:=⟨_,rfl⟩
 obtain⟨SW,hSW⟩:∃ S,S=strB W:=⟨_,rfl⟩
 obtain⟨kn,hkn⟩:∃ n,n=K.length:=⟨_,rfl⟩
 rw [← hS] at cA ⊢
 rw [← hSW]
 rw [← hkn] at cA hr hK ⊢
 have hdl:dn≤1000000:=by
  have:=hdk.len
  rw [List.length_map] at this
  omega
 obtain⟨VD,hVD⟩:∃ V,V=strV d:=⟨_,rfl⟩
 rw [← hVD] at hod
 have HVS:=hid2 (show VD++[Value.string S]=strV (d++[p]) from by rw [hVD,hS,strV_snoc])
 have HDN:=hid2 (show dn+1=(d++[p]).length from by rw [hdn,List.length_append];rfl)
 obtain⟨w1,hw1⟩:∃ w1,w1=w.alloc (.cells #[.string B,.slice AA an ac,.slice AW wn wc,.int .i64 k,.string P,.string D,.int .i64 y] 37):=⟨_,rfl⟩
 obtain⟨w2,hw2⟩:∃ w2,w2=w1.alloc (.cells #[.string ⟨#[]⟩,.slice none 0 0,.slice none 0 0,.int .i64 0,.string ⟨#[]⟩,.string ⟨#[]⟩,.int .i64 0] 37):=⟨_,rfl⟩
 have hs1:w1.heap.size=w.heap.size+1:=by rw [hw1,World.size_alloc]
 have hs2:w2.heap.size=w.heap.size+1+1:=by rw [hw2,World.size_alloc,hs1]
 have hb1:Below w.heap.size w w1:=by rw [hw1];exact (Below.refl _ _).alloc (Nat.le_refl _) _
 have hb2:Below w.heap.size w w2:=by rw [hw2];exact hb1.alloc (by omega) _
 have hg5:w2.heap[w.heap.size]?=some (.cells #[.string B,.slice AA an ac,.slice AW wn wc,.int .i64 k,.string P,.string D,.int .i64 y] 37 (0,0)):=by
  rw [hw2,Below.heap_alloc _ _ _ (by omega),hw1]
  exact World.alloc_heap_new _ _
 have hg10:w2.heap[w.heap.size+1]?=some (.cells zSt 37 (0,0)):=by
  rw [hw2,← hs1]
  exact World.alloc_heap_new _ _
 obtain⟨w3,hw3⟩:∃ w3,w3=w2.alloc (.cells #[] 9):=⟨_,rfl⟩
 have hb3:Below w2.heap.size w2 w3:=by rw [hw3];exact (Below.refl _ _).alloc (Nat.le_refl _) _
 have hown3:Own w3 w2.heap.size 9 1 (some ⟨w2.heap.size,0,none⟩) 0 0 []:=by
  rw [hw3]
  exact Own.lit w2 #[] 9 1 0 w2.heap.size (Nat.le_refl _) (Nat.zero_le _) rfl
 have hrD:Rd w3 1 DA dn VD:=(hod.rd.below_all hb2).below_all hb3
 have hone:∀ u∈VD,u.oneCell'=true:=fun u hu=>by
  rw [hVD] at hu
  unfold strV at hu
  obtain⟨x,_,rfl⟩:=List.mem_map.1 hu
  rfl
 have hsz3:=hb3.size
 obtain⟨g5,hg5e⟩:∃ g,g=w.heap.size:=⟨_,rfl⟩
 obtain⟨g10,hg10e⟩:∃ g,g=w.heap.size+1:=⟨_,rfl⟩
 rw [← hg5e] at hg5
 rw [← hg10e] at hg10
 have H12:=hid2 (show (w.alloc (.cells #[.string B,.slice AA an ac,.slice AW wn wc,.int .i64 k,.string P,.string D,.int .i64 y] 37)).alloc (.cells #[.string ⟨#[]⟩,.slice none 0 0,.slice none 0 0,.int .i64 0,.string ⟨#[]⟩,.string ⟨#[]⟩,.int .i64 0] 37)=w2 from by rw [hw2,hw1])
 have HE:=hid2 (And.intro hg5e hg10e)
 have HB2:=hid2 hb2
 have HB3:=hid2 hb3
 have HO3:=hid2 hown3
 have HG5:=hid2 hg5
 have HG10:=hid2 hg10
 have HSM:=hid2 hsm
 have CA:=hid2 cA
 have hw3':=hw3.symm
 have hF7:∀ {a b c d e f g:Value} {cs:Array Value},cs.size=7→0+[a,b,c,d,e,f,g].length≤cs.size:=fun h=>by rw [h];exact Nat.le_refl 7
 have hF3:∀ {a b c:Value} {cs:Array Value},cs.size=3→0+[a,b,c].length≤cs.size:=fun h=>by rw [h];exact Nat.le_refl 3
 have HX:=hid2 hx
 have HRES:=hid2 hRES
 have CLN:=hid2 cLn
 have HNL:=hid2 hnL
 have HLL:=hid2 hll
 have HDK2:=hid2 hdk2
 have HLF2:=hid2 hlf2
 have HLK:=hid2 hLk
 have HOKA:=hid2 hLK
 have HIH:=hid2 IH
 have HRK:=hid2 hr
 have HKN:=hid2 hkn
 have HSWE:=hid2 hSW
 have HV:=hid2 hv
 obtain⟨LK,hLKe⟩:∃ L,L=K.map (·.path):=⟨_,rfl⟩
 rw [← hLKe] at HDK2 HLF2 HLK HOKA
 have HLKE:=hid2 hLKe
 rw [hi] at CA
 clear cA hx1 hx2 hRES hsm hfound hS hSW hkn hr hod hVD hw1 hw2 hw3 hs1 hs2 hb1 hb2 hb3 hg5e hg10e hg5 hg10 h hdn hx hi hs hdk hpd hlf hKd hv hfd hxk hxp hxn hdat hLL hnL cLn hll hdk2 hlf2 hLk hLK hpL IH hLKe
 go_enter Tryz.func54,Tryz.ntmps54
 go_upto_region 1 with fail
 rw [H12.out,← HE.out.2,← HE.out.1]
 go_wp2_with (first
  | (at_builtin;have _t:=hown3;go_must ((with_reducible refine wpList_append_lit 9 (.string ⟨#[]⟩) 1 16 Tryz.underlying32 info_str rfl w2.heap.size (some ⟨w2.heap.size,0,none⟩) 0 0 [] hown3 dn VD (.slice DA dn dc) (Src.slice Tryz.underlying32 hrD) hone ?_ ?_ ?_ ?_ ?_);(unfold maxLen;omega);omega;exact hsz3;exact⟨rfl,rfl⟩;intro A4 c4 w4 hown4 hgr4 hbl4;rw [Nat.zero_add];rw [Nat.zero_add,List.nil_append] at hown4;have HO4:=hid2 hown4;have HB4:=hid2 (HB3.out.grown hgr4 hsz3 (fun k e=>(HO3.out.block k e).1));have hsz4:=HB4.out.size;clear hown3 hrD _t hgr4 hbl4 hsz3 hw3'))
  | (at_builtin;have _t:=hown4;go_must ((with_reducible refine wpList_append_lit 9 (.string ⟨#[]⟩) 1 16 Tryz.underlying32 info_str rfl w2.heap.size A4 dn c4 VD (hown4.alloc _) 1 [.string S] (.slice (some ⟨w4.heap.size,0,none⟩) 1 1) (Src.slice Tryz.underlying32 (Rd.one w4 _ _)) one_str ?_ ?_ ?_ ?_ ?_);(unfold maxLen;omega);omega;(simp;omega);exact⟨rfl,rfl⟩;intro DX dx w5 hown5 hgr5 hbl5;have HO5:=hid2 hown5;have HB5:=hid2 ((HB4.out.alloc hsz4 _).grown hgr5 (by simp;omega) (fun k e=>(HO4.out.block k e).1));have z5:=(HB5.out.block g5 (heap_lt HG5.out)).trans HG5.out;have z10:=(HB5.out.block g10 (heap_lt HG10.out)).trans HG10.out;have c0:=cell_of_row w5 g5 0 _ _ _ z5;have c1:=cell_of_row w5 g5 1 _ _ _ z5;have c2:=cell_of_row w5 g5 2 _ _ _ z5;have c3:=cell_of_row w5 g5 3 _ _ _ z5;have c4:=cell_of_row w5 g5 4 _ _ _ z5;have c5:=cell_of_row w5 g5 5 _ _ _ z5;have c6:=cell_of_row w5 g5 6 _ _ _ z5;have Z5:=hid2 z5;have Z10:=hid2 z10;clear hown4 _t hgr5 hbl5 hsz4 z5 z10 hown5))
  | (go_at_call 52; refine (CA.out w5 (HB2.out.trans (HB5.out.mono HB2.out.size))).mono ?_;rintro e w6 ⟨B1,AA1,an1,ac1,AW1,wn1,wc1,k1,P1,D1,y1,X1,Y1,rfl,hq,hyy,hb6⟩;obtain rfl:k1=0:=(by rw [hq.2.2.2.2.2.1,HX.out];rfl);have z5:(w6.alloc (.cells #[.string ⟨#[]⟩,.bool false,.string ⟨#[]⟩] 41)).heap[g5]?=_:=(Below.heap_alloc _ _ _ (Nat.lt_of_lt_of_le (heap_lt Z5.out) hb6.size)).trans ((hb6.block g5 (heap_lt Z5.out)).trans Z5.out);have z10:(w6.alloc (.cells #[.string ⟨#[]⟩,.bool false,.string ⟨#[]⟩] 41)).heap[g10]?=_:=(Below.heap_alloc _ _ _ (Nat.lt_of_lt_of_le (heap_lt Z10.out) hb6.size)).trans ((hb6.block g10 (heap_lt Z10.out)).trans Z10.out);have z12:(w6.alloc (.cells #[.string ⟨#[]⟩,.bool false,.string ⟨#[]⟩] 41)).heap[w6.heap.size]?=some (.cells zKn 41 (0,0)):=World.alloc_heap_new w6 _;have hb7:Below w6.heap.size w6 (w6.alloc (.cells #[.string ⟨#[]⟩,.bool false,.string ⟨#[]⟩] 41)):=(Below.refl _ _).alloc (Nat.le_refl _) _;obtain⟨g12,hg12⟩:∃ g,w6.heap.size=g:=⟨_,rfl⟩;obtain⟨w7,hw7⟩:∃ x,w6.alloc (.cells #[.string ⟨#[]⟩,.bool false,.string ⟨#[]⟩] 41)=x:=⟨_,rfl⟩;rw [hg12] at z12;rw [hw7] at z5 z10 z12 hb7;have HB6:=hid2 hb6;have HB7:=hid2 hb7;have HQ:=hid2 hq;have HYY:=hid2 hyy;have Z57:=hid2 z5;have Z107:=hid2 z10;have Z127:=hid2 z12;clear hb6 hb7 hq hyy z5 z10 z12 c0 c1 c2 c3 c4 c5 c6;have z57:=Z57.out)
  | ((with_reducible refine wpList_store_lit g5 0 (.agg #[.string B1,.slice AA1 an1 ac1,.slice AW1 wn1 wc1,.int .i64 0,.string P1,.string D1,.int .i64 y1]) [.string B1,.slice AA1 an1 ac1,.slice AW1 wn1 wc1,.int .i64 0,.string P1,.string D1,.int .i64 y1] rfl _ 37 z57 (info_st _ _ _ _ _ _ _) (hF7 rfl) one_st ?_ ?_);exact⟨rfl,rfl⟩;rw [laid_st7 rfl];obtain⟨w8,hw8⟩:∃ x,x=w7.setRow g5 #[.string B1,.slice AA1 an1 ac1,.slice AW1 wn1 wc1,.int .i64 0,.string P1,.string D1,.int .i64 y1]:=⟨_,rfl⟩;rw [← hw8];have HW8:=hid2 hw8;have z128:w8.heap[g12]?=some (.cells zKn 41 (0,0)):=(by rw [hw8];exact (setRow_other w7 g5 g12 _ (row_ne Z127.out Z57.out (by decide))).trans Z127.out);have Z128:=hid2 z128;clear hw8 z57)
  | ((with_reducible refine wpList_store_lit g12 0 (.agg #[.string X1,.bool true,.string Y1]) [.string X1,.bool true,.string Y1] rfl _ 41 z128 (info_known3 _ _ _) (hF3 rfl) one_known ?_ ?_);exact⟨rfl,rfl⟩;rw [laid_kn3 rfl];obtain⟨w9,hw9⟩:∃ x,x=w8.setRow g12 #[.string X1,.bool true,.string Y1]:=⟨_,rfl⟩;rw [← hw9];have q12:w9.heap[g12]?=some (.cells #[.string X1,.bool true,.string Y1] 41 (0,0)):=(by rw [hw9];exact setRow_heap w8 g12 _ _ _ _ Z128.out);have q5:w9.heap[g5]?=some (.cells #[.string B1,.slice AA1 an1 ac1,.slice AW1 wn1 wc1,.int .i64 0,.string P1,.string D1,.int .i64 y1] 37 (0,0)):=(by rw [hw9,HW8.out];exact (setRow_other _ g12 g5 _ (row_ne Z57.out Z127.out (by decide))).trans (setRow_heap w7 g5 _ _ _ _ Z57.out));have q10:w9.heap[g10]?=some (.cells zSt 37 (0,0)):=(by rw [hw9,HW8.out];exact (setRow_other _ g12 g10 _ (row_ne Z107.out Z127.out (by decide))).trans ((setRow_other w7 g5 g10 _ (by have:=HE.out;omega)).trans Z107.out));have HBW:=hid2 (show Below w.heap.size w w9 from by rw [hw9,HW8.out];exact below_setRow (below_setRow (HB2.out.trans ((HB5.out.trans ((HB6.out.trans (HB7.out.mono HB6.out.size)).mono HB5.out.size)).mono HB2.out.size)) (by have:=HE.out;omega) _) (by have:=HB2.out.size;have:=HB5.out.size;have:=HB6.out.size;omega) _);have HTK:=hid2 (show RSA w9 B1 AA1 an1 ac1 AW1 wn1 wc1 0 P1 D1 y1 x1∧Own w9 0 9 1 DX (dn+1) dx (strV (d++[p])) from by rw [hw9,HW8.out];have e5:=HO5.out;rw [HVS.out] at e5;exact⟨((HQ.out.below HB7.out).put Z57.out (by decide) (by decide) _).put (by rw [← HW8.out];exact Z128.out) (by decide) (by decide) _,((((e5.mono (Nat.zero_le _)).below HB6.out (Nat.le_refl _)).below HB7.out (Nat.le_refl _)).setOtherRow Z57.out (by decide)).setOtherRow (by rw [← HW8.out];exact Z128.out) (by decide)⟩);have c0:=cell_of_row w9 g5 0 _ _ _ q5;have c1:=cell_of_row w9 g5 1 _ _ _ q5;have c2:=cell_of_row w9 g5 2 _ _ _ q5;have c3:=cell_of_row w9 g5 3 _ _ _ q5;have c4:=cell_of_row w9 g5 4 _ _ _ q5;have c5:=cell_of_row w9 g5 5 _ _ _ q5;have c6:=cell_of_row w9 g5 6 _ _ _ q5;have e0:=cell_of_row w9 g12 0 _ _ _ q12;have e1:=cell_of_row w9 g12 1 _ _ _ q12;have e2:=cell_of_row w9 g12 2 _ _ _ q12;have Q5:=hid2 q5;have Q10:=hid2 q10;clear hw9 z128 hw7 hg12 q5 q12 q10;have q10:=Q10.out)
  | (go_at_call 29; refine (CLN.out w9 Y1 (HYY.out (by first | exact trivial | rfl))).mono ?_;rintro e wa ⟨LA,lc,rfl,hol,hb⟩;have HINV:=hid2 (show ScInv w wa g5 g10 LA nL lc LL B1 AA1 an1 ac1 AW1 wn1 wc1 0 P1 D1 y1 x1 DX (dn+1) dx (d++[p]) from ⟨HBW.out.trans (hb.mono HBW.out.size),by have:=HE.out;omega,by have:=HE.out;omega,by have:=HE.out;omega,(hb.block g5 (heap_lt Q5.out)).trans Q5.out,(hb.block g10 (heap_lt Q10.out)).trans Q10.out,HTK.out.1.below hb,HTK.out.2.below hb (Nat.le_refl _),HDN.out,hol.mono (Nat.zero_le _)⟩);clear hol hb q10 c0 c1 c2 c3 c4 c5 c6 e0 e1 e2))
 have hnli:(nL:Int)≤100001:=by omega
 go_loopg [4,14] nL (fun gk dv iv wr=>∃ (i:Nat) (B3:ByteArray) (AA3:Option Addr) (an3 ac3:Nat) (AW3:Option Addr) (wn3 wc3:Nat) (k3:Int) (P3 D3:ByteArray) (y3:Int) (r3:RS) (DB:Option Addr) (m dc3:Nat) (d3:List TT),ScInv w wr g5 g10 LA nL lc LL B3 AA3 an3 ac3 AW3 wn3 wc3 k3 P3 D3 y3 r3 DB m dc3 d3∧i+gk=nL∧iv = .int .i64 i∧dv = .slice DB m dc3∧RES=scanL v (fun s b d=>scanF v (orK K) W f s b d) W (LL.drop i) r3 d3∧r3.Small∧m≤1000001∧left LK d3 < f∧(r3.stop.kind=0→DOk LK d3))
 case atStart=>exact⟨0,_,_,_,_,_,_,_,_,_,_,_,x1,DX,dn+1,dx,d++[p],HINV.out,by omega,rfl,rfl,HRES.out,HSM.out,by omega,HLF2.out,fun _=>HDK2.out⟩
 case round =>
  obtain⟨i,B3,AA3,an3,ac3,AW3,wn3,wc3,k3,P3,D3,y3,r3,DB,m,dc3,d3,hinv,hi,rfl,rfl,hres,hsm3,hm3,hlf3,hdk3⟩:=hrel
  have HI:=hid2 hinv
  have HIN:=hid2 hi
  have HSM3:=hid2 hsm3
  have HLF:=hid2 hlf3
  have hkk:=hinv.rs.2.2.2.2.2.1
  have z5:=hinv.st
  have q10:=hinv.out
  have hstop:RES=(r3,d3)→True:=fun _=>trivial
  by_cases hlt:i < nL
  ·have hil:(i:Int) < nL:=by omega
   have hi0:(0:Int)≤i:=by omega
   by_cases hk0:r3.stop.kind=0
   ·obtain rfl:k3=0:=by rw [hkk,hk0];rfl
    have HDK:=hid2 (hdk3 hk0)
    obtain⟨x,hxx⟩:∃ x,LL[i]?=some x:=⟨_,List.getElem?_eq_getElem (by rw [← HNL.out];exact hlt)⟩
    obtain⟨hiL,hxe⟩:=List.getElem?_eq_some_iff.1 hxx
    rw [List.drop_eq_getElem_cons hiL,hxe,scanL,if_neg (by rw [hk0];simp)] at hres
    have hxl:=HLL.out x (List.mem_of_getElem? hxx)
    obtain⟨lb,lo,hLA,hcell⟩:=hinv.lines.rd.2 (by omega)
    subst hLA
    have hcx:=hcell _ _ (strV_at hxx)
    obtain⟨ws,hws⟩:∃ ws,ws=wordsT x:=⟨_,rfl⟩
    obtain⟨wn,hwn⟩:∃ n,n=ws.length:=⟨_,rfl⟩
    have cW:∀ WW,Calls Tryz.prog 30 #[.string (strB x)] WW fun e w'=>∃ A c,e = .returned (.slice A wn c)∧Own w' WW.heap.size 9 1 A wn c (strV ws)∧Below WW.heap.size WW w':=fun WW=>by
     have:=rwords_any WW (strB x) (by rw [strB_size];omega)
     rw [strB_list,← hws] at this
     rw [hwn]
     exact this
    rw [← hws] at hres
    obtain⟨SX,hSX⟩:∃ S,S=strB x:=⟨_,rfl⟩
    rw [← hSX] at hcx cW
    have hcat:SX++⟨#[10]⟩=strB (x++[10]):=by rw [hSX];exact strB_append x [10]
    obtain⟨SXN,hSXN⟩:∃ S,S=strB (x++[10]):=⟨_,rfl⟩
    rw [← hSXN] at hcat
    have hsxs:SX.size≤100000:=by rw [hSX,strB_size];exact hxl
    have hsxg:¬ (SX.size+(⟨#[10]⟩:ByteArray).size > 9223372036854775807):=by
     have:(⟨#[10]⟩:ByteArray).size=1:=rfl
     omega
    have hsxg2:¬ (SX.size+1 > 9223372036854775807):=by omega
    have HBUF:=hid2 (show r3.buf.length≤100000000000 from by have:=hsm3.2;omega)
    have HSXN:=hid2 hSXN
    have HXL:=hid2 (show (x++[10]).length≤100000000000 from by rw [List.length_append,List.length_singleton];omega)
    have HCLX:=hid2 (show ∀ w2,TKeep wr w2→∀ w3,TKeep w2 w3→w3.cell? ⟨lb,lo+i,none⟩=some (.string SX) from fun w2 h2 w3 h3=>by
     have hk:=h2.trans h3
     obtain⟨_,_,cur,fr,e⟩:=hinv.lines.block lb rfl
     have:=hk.2 lb cur _ fr e (by decide)
     rw [← hcx]
     simp only [World.cell?,this])
    have CW:=hid2 cW
    have c3:=cell_of_row wr g5 3 _ _ _ z5
    have hwl:wn≤100001:=by rw [hwn,hws];have:=wordsT_len x;omega
    have hwm:∀ y∈ws,y.length≤100000:=fun y hy=>by
     rw [hws] at hy
     obtain⟨_,_,m2⟩:=wordsT_mem hy
     omega
    by_cases h2:∃ a b,ws=[a,b]
    ·obtain⟨a,b,hab⟩:=h2
     have hwn2:wn=2:=by rw [hwn,hab];rfl
     subst hwn2
     rw [hab] at hres CW
     simp only at hres
     have hbl:=hwm b (by rw [hab];simp)
     have hta:=toList_strBT a
     have htw:=toList_strBT W
     obtain⟨SA,hSA⟩:∃ S,S=strB a:=⟨_,rfl⟩
     obtain⟨SB,hSB⟩:∃ S,S=strB b:=⟨_,rfl⟩
     rw [← hSA] at hta
     rw [← HSWE.out] at htw
     have cM:=fun (WW:World)=>refmay_any WW (strB b) (by rw [strB_size];omega)
     rw [strB_list,← hSB] at cM
     rw [HV.out] at hres
     have HSA:=hid2 hSA
     have HSB:=hid2 hSB
     by_cases haw:a=W
     ·have heq:(SA.toList == SW.toList)=true:=by rw [hta,htw,haw,beq_self_eq_true]
      have heq2:SA.toList=SW.toList:=by rw [hta,htw,haw]
      by_cases hmb:mayB b=true
      ·rw [if_pos ⟨haw,hmb⟩] at hres
       rw [hmb] at cM
       have CM:=hid2 cM
       have hd3:=hinv.len
       have cH:∀ WW,Own WW 0 9 1 DB m dc3 (strV d3)→Calls Tryz.prog 80 #[.slice DB m dc3,.string SB] WW fun e w'=>e = .returned (.bool (decide (b∈d3)))∧w'=WW:=fun WW ho=>by
        rw [hSB,hd3]
        rw [hd3] at ho
        exact rhas_any WW DB dc3 d3 b (by omega) ho.rd
       by_cases hbd:b∈d3
       ·rw [if_pos hbd] at hres
        rw [decide_eq_true hbd] at cH
        have CH:=hid2 cH
        have HRS:=hid2 hres
        clear hinv hi hres hsm3 hlf3 hdk3 hkk z5 q10 hstop hxx hiL hxe hcell hws hwn cW hSX hSXN hsxs hwl hwm hab hta htw hSA hSB cM hbl haw hmb hk0 hxl hd3 cH hbd
        go_wp2_with (first
         | (go_at_call 30; refine (CW.out wr).mono ?_;rintro e wz ⟨WA,wc0,rfl,how,hbz⟩;obtain⟨wb,wo,hWA,hcw⟩:=how.rd.2 (by omega);subst hWA;have cw0:wz.cell? ⟨wb,wo,none⟩=some (.string SA):=(by rw [HSA.out];exact hcw 0 _ rfl);have cw1:wz.cell? ⟨wb,wo+1,none⟩=some (.string SB):=(by rw [HSB.out];exact hcw 1 _ rfl);have HOW:=hid2 (how.mono (Nat.zero_le _));have HIZ:=hid2 (HI.out.keep hbz);have HTZ:=hid2 (TKeep.of_below hbz);clear how hcw hbz HI hcx;have HI:=HIZ;clear HIZ)
         | (go_at_call 51; refine (CM.out wz).mono ?_;rintro e wy ⟨rfl,hby⟩;have HIZ:=hid2 (HI.out.keep hby);have HTY:=hid2 (HTZ.out.trans (TKeep.of_below hby));have HOY:=hid2 (HOW.out.below hby (Nat.le_refl _));have cy0:=(hby.cell (p:=⟨wb,wo,none⟩) (World.block_lt_of_cell? _ _ cw0)).trans cw0;have cy1:=(hby.cell (p:=⟨wb,wo+1,none⟩) (World.block_lt_of_cell? _ _ cw1)).trans cw1;clear hby HI HOW HTZ cw0 cw1;have HI:=HIZ;have HOW:=HOY;have HTZ:=HTY;have cw0:=cy0;have cw1:=cy1;clear HIZ HOY HTY cy0 cy1)
         | (go_at_call 80; refine (CH.out _ HI.out.own).mono ?_;rintro e wx ⟨rfl,rfl⟩))
        go_roundg (gk - 1)
        case rel=>exact⟨i+1,B3,AA3,an3,ac3,AW3,wn3,wc3,0,P3,D3,y3,r3,DB,m,dc3,d3,HI.out,by have:=HIN.out;omega,by go_num,rfl,HRS.out,HSM3.out,hm3,HLF.out,fun _=>HDK.out⟩
        case measure=>have:=HIN.out;omega
       ·rw [if_neg hbd] at hres
        rw [decide_eq_false hbd] at cH
        have CH:=hid2 cH
        obtain⟨XR,hXR⟩:∃ x,x=scanF v (orK K) W f r3 b d3:=⟨_,rfl⟩
        rw [← hXR] at hres
        have HRS:=hid2 hres
        have HOK:=hid2 (show ScOk LK d3 XR from by rw [hXR];exact scanF_ok HOKA.out f r3 d3 b hsm3 HDK.out hbd)
        have cSC:∀ w2,Below w.heap.size w w2→RSA w2 B3 AA3 an3 ac3 AW3 wn3 wc3 0 P3 D3 y3 r3→Own w2 0 9 1 DB m dc3 (strV d3)→Calls Tryz.prog 54 #[.agg #[.string B3,.slice AA3 an3 ac3,.slice AW3 wn3 wc3,.int .i64 0,.string P3,.string D3,.int .i64 y3],.slice KA kn kc,.string SB,.string SW,.slice DB m dc3] w2 (ScanPost w2 XR):=fun w2 hb hq ho=>by
         rw [hXR,HKN.out,hSB,HSWE.out]
         exact HIH.out w2 B3 AA3 an3 ac3 AW3 wn3 wc3 0 P3 D3 y3 r3 KA kc b W DB m dc3 d3 hq hsm3 (by rw [← HKN.out];exact HRK.out.below_all hb) hd3 ho (by rw [← HLKE.out];exact HDK.out) hbd (by rw [← HLKE.out];exact hlf3)
        have CSC0:=hid2 cSC
        clear hinv hi hres hsm3 hlf3 hdk3 hkk z5 q10 hstop hxx hiL hxe hcell hws hwn cW hSX hSXN hsxs hwl hwm hab hta htw hSA hSB cM hbl haw hmb hk0 hxl hd3 cH hbd hXR cSC
        go_upto_region 12 with (go_at_call 30; refine (CW.out wr).mono ?_;rintro e wz ⟨WA,wc0,rfl,how,hbz⟩;obtain⟨wb,wo,hWA,hcw⟩:=how.rd.2 (by omega);subst hWA;have cw0:wz.cell? ⟨wb,wo,none⟩=some (.string SA):=(by rw [HSA.out];exact hcw 0 _ rfl);have cw1:wz.cell? ⟨wb,wo+1,none⟩=some (.string SB):=(by rw [HSB.out];exact hcw 1 _ rfl);have HOW:=hid2 (how.mono (Nat.zero_le _));have HIZ:=hid2 (HI.out.keep hbz);have HTZ:=hid2 (TKeep.of_below hbz);clear how hcw hbz HI hcx;have HI:=HIZ;clear HIZ)
        go_upto_region 15 with (first
         | (go_at_call 51; refine (CM.out wz).mono ?_;rintro e wy ⟨rfl,hby⟩;have HIZ:=hid2 (HI.out.keep hby);have HTY:=hid2 (HTZ.out.trans (TKeep.of_below hby));have HOY:=hid2 (HOW.out.below hby (Nat.le_refl _));have cy0:=(hby.cell (p:=⟨wb,wo,none⟩) (World.block_lt_of_cell? _ _ cw0)).trans cw0;have cy1:=(hby.cell (p:=⟨wb,wo+1,none⟩) (World.block_lt_of_cell? _ _ cw1)).trans cw1;clear hby HI HOW HTZ cw0 cw1;have HI:=HIZ;have HOW:=HOY;have HTZ:=HTY;have cw0:=cy0;have cw1:=cy1;clear HIZ HOY HTY cy0 cy1)
         | (go_at_call 80; refine (CH.out _ HI.out.own).mono ?_;rintro e wx ⟨rfl,rfl⟩))
        have CSC:=hid2 (show ∀ w2,Below w.heap.size w w2→TKeep wx w2→Calls Tryz.prog 54 #[.agg #[.string B3,.slice AA3 an3 ac3,.slice AW3 wn3 wc3,.int .i64 0,.string P3,.string D3,.int .i64 y3],.slice KA kn kc,.string SB,.string SW,.slice DB m dc3] w2 (ScanPost w2 XR) from fun w2 h1 h2=>CSC0.out w2 h1 (HI.out.rs.tkeep h2) (HI.out.own.tkeep h2 (by decide)))
        have HCB:=hid2 (show ∀ w2,TKeep wx w2→w2.cell? ⟨wb,wo+1,none⟩=some (.string SB) from fun w2 h2=>by
         obtain⟨_,_,cur,fr,e⟩:=HOW.out.block wb rfl
         have:=h2.2 wb cur _ fr e (by decide)
         rw [← cw1]
         simp only [World.cell?,this])
        refine wp_region_lst 12 (by kernel_rfl) (by kernel_rfl) (by kernel_rfl) _ rfl (by kernel_rfl) (VV [some (.agg #[.string B3,.slice AA3 an3 ac3,.slice AW3 wn3 wc3,.int .i64 0,.string P3,.string D3,.int .i64 y3]),some (.slice KA kn kc),some (.slice (some ⟨wb,wo,none⟩) 2 wc0),some (.pointer (some ⟨wb,wo+1,none⟩)),some (.string SB),some (.string SW),some (.slice DB m dc3),none,none,none,none,none] (fun j v w2=>(j=7∨j=8→XTup XR v w2)∧(j=9→XSt XR.1 v w2)∧(j=10∨j=12→XSl XR.2 v w2))) (fun L u w2=>Below w.heap.size w w2∧TKeep wx w2∧w2.heap[g10]?=some (.cells zSt 37 (0,0))∧(L 11=false→w2.heap[g5]?=some (.cells #[.string B3,.slice AA3 an3 ac3,.slice AW3 wn3 wc3,.int .i64 0,.string P3,.string D3,.int .i64 y3] 37 (0,0)))∧(L 11=true→∃ cs:Array Value,u 9 = .agg cs∧cs.size=7∧w2.heap[g5]?=some (.cells cs 37 (0,0)))) (TKeep) (fun _=>⟨HI.out.below.drew,TKeep.of_below (Below.refl _ _).drew,HI.out.out,fun _=>HI.out.st,fun e=>absurd e (by decide)⟩) (fun j v w1 w2 hb hv=>VV.keep (fun h=>⟨fun e=>(h.1 e).tkeep hb,fun e=>(h.2.1 e).tkeep hb,fun e=>(h.2.2 e).tkeep hb⟩) hv) ?_ ?_
        ·refine of_allOps ⟨?_,?_,?_,?_,?_,?_,?_,?_,?_,?_,?_,?_,trivial⟩
         ·intro T2 w2 L2 u2 hM hli hcl hT hLe hN hO hE K hK
          have o5:T2[5]?=some (.pointer (some ⟨g5,0,none⟩)):=hO 5 rfl
          clear hE hO hN
          refine step_plain0 rfl ?_
          have hno:=not_come hcl hli 11 [9,8,7,0] (by kernel_rfl) (by simp)
          refine wp_load_row 37 _ rfl g5 (by simp [Act.eval,o5]) 37 _ (0,0) _ (hM.2.2.2.1 hno) Tryz.underlying37 rfl (info_st7 rfl) ?_
          exact hK _ _ rfl hM (TKeep.refl _)
         ·intro T2 w2 L2 u2 hM hli hcl hT hLe hN hO hE K hK
          have o1:T2[1]?=some (.slice KA kn kc):=hO 1 rfl
          clear hE hO hN hli hcl hT hLe
          refine step_plain0 rfl ?_
          go_simp
          exact hK _ _ rfl hM (TKeep.refl _)
         ·intro T2 w2 L2 u2 hM hli hcl hT hLe hN hO hE K hK
          have o15:T2[15]?=some (.slice (some ⟨wb,wo,none⟩) 2 wc0):=hO 15 rfl
          clear hE hO hN hli hcl hT hLe
          refine step_plain0 rfl ?_
          go_simp
          exact hK _ _ rfl hM (TKeep.refl _)
         ·intro T2 w2 L2 u2 hM hli hcl hT hLe hN hO hE K hK
          obtain⟨v2,h2,e2,eu2⟩:=hE ⟨2,.data⟩ (by simp) rfl _ _ rfl rfl
          rw [show v2 = .slice (some ⟨wb,wo,none⟩) 2 wc0 from e2] at h2 eu2
          clear hE hO hN hli hcl hT hLe eu2
          refine step_plain0 rfl ?_
          go_simp
          exact hK _ _ rfl hM (TKeep.refl _)
         ·intro T2 w2 L2 u2 hM hli hcl hT hLe hN hO hE K hK
          obtain⟨v3,h3,e3,eu3⟩:=hE ⟨3,.data⟩ (by simp) rfl _ _ rfl rfl
          rw [show v3 = .pointer (some ⟨wb,wo+1,none⟩) from e3] at h3 eu3
          clear hE hO hN
          refine step_plain0 rfl ?_
          have yx:=HCB.out w2 hM.2.1
          go_simp
          exact hK _ _ rfl hM (TKeep.refl _)
         ·intro T2 w2 L2 u2 hM hli hcl hT hLe hN hO hE K hK
          have o3:T2[3]?=some (.string SW):=hO 3 rfl
          clear hE hO hN hli hcl hT hLe
          refine step_plain0 rfl ?_
          go_simp
          exact hK _ _ rfl hM (TKeep.refl _)
         ·intro T2 w2 L2 u2 hM hli hcl hT hLe hN hO hE K hK
          have o4:T2[4]?=some (.slice DB m dc3):=hO 4 rfl
          clear hE hO hN hli hcl hT hLe
          refine step_plain0 rfl ?_
          go_simp
          exact hK _ _ rfl hM (TKeep.refl _)
         ·intro T2 w2 L2 u2 hM hli hcl hT hLe hN hO hE K hK
          obtain⟨v0,h0,e0,eu0⟩:=hE ⟨0,.data⟩ (by simp) rfl _ _ rfl rfl
          rw [show v0 = .agg #[.string B3,.slice AA3 an3 ac3,.slice AW3 wn3 wc3,.int .i64 0,.string P3,.string D3,.int .i64 y3] from e0] at h0 eu0
          obtain⟨v1,h1,e1,eu1⟩:=hE ⟨1,.data⟩ (by simp) rfl _ _ rfl rfl
          rw [show v1 = .slice KA kn kc from e1] at h1 eu1
          obtain⟨v4,h4,e4,eu4⟩:=hE ⟨4,.data⟩ (by simp) rfl _ _ rfl rfl
          rw [show v4 = .string SB from e4] at h4 eu4
          obtain⟨v5,h5,e5,eu5⟩:=hE ⟨5,.data⟩ (by simp) rfl _ _ rfl rfl
          rw [show v5 = .string SW from e5] at h5 eu5
          obtain⟨v6,h6,e6,eu6⟩:=hE ⟨6,.data⟩ (by simp) rfl _ _ rfl rfl
          rw [show v6 = .slice DB m dc3 from e6] at h6 eu6
          clear hE hO hN
          refine step_plain0 rfl ?_
          have hno:=not_come hcl hli 11 [9,8,7] (by kernel_rfl) (by simp)
          have hz5:=hM.2.2.2.1 hno
          go_simp
          refine (CSC.out w2 hM.1 hM.2.1).mono ?_
          rintro e w5 ⟨vr,rfl,htup,hb4⟩
          exact hK _ _ ⟨fun _=>htup,fun e=>absurd e (by decide),fun e=>absurd e (by decide)⟩ ⟨hM.1.trans (hb4.mono hM.1.size),hM.2.1.trans (TKeep.of_below hb4),(hb4.block g10 (heap_lt hM.2.2.1)).trans hM.2.2.1,fun _=>(hb4.block g5 (heap_lt hz5)).trans hz5,fun e=>absurd (show L2 11=true from e) (by rw [hno];decide)⟩ (TKeep.of_below hb4)
         ·intro T2 w2 L2 u2 hM hli hcl hT hLe hN hO hE K hK
          obtain⟨v7,h7,e7,eu7⟩:=hE ⟨7,.data⟩ (by simp) rfl _ _ rfl rfl
          clear hE hO hN
          refine step_plain0 rfl ?_
          have x7:=(show (7=7∨7=8→XTup XR v7 w2)∧(7=9→XSt XR.1 v7 w2)∧(7=10∨7=12→XSl XR.2 v7 w2) from e7).1 (.inl rfl)
          go_simp
          exact hK _ _ ⟨fun _=>x7,fun e=>absurd e (by decide),fun e=>absurd e (by decide)⟩ hM (TKeep.refl _)
         ·intro T2 w2 L2 u2 hM hli hcl hT hLe hN hO hE K hK
          obtain⟨v8,h8,e8,eu8⟩:=hE ⟨8,.data⟩ (by simp) rfl _ _ rfl rfl
          clear hE hO hN
          refine step_plain0 rfl ?_
          have hno:=not_come hcl hli 11 [9] (by kernel_rfl) (by simp)
          have x8:=(show (8=7∨8=8→XTup XR v8 w2)∧(8=9→XSt XR.1 v8 w2)∧(8=10∨8=12→XSl XR.2 v8 w2) from e8).1 (.inr rfl)
          obtain⟨B4,AA4,an4,ac4,AW4,wn4,wc4,k4,P4,D4,y4,DA4,dn4,dc4,rfl,hq4,hd4,ho4⟩:=x8
          clear e8 eu8
          subst hd4
          go_simp
          exact hK _ _ ⟨fun e=>absurd e (by decide),fun _=>⟨B4,AA4,an4,ac4,AW4,wn4,wc4,k4,P4,D4,y4,rfl,hq4⟩,fun e=>absurd e (by decide)⟩ ⟨hM.1,hM.2.1,hM.2.2.1,hM.2.2.2.1,fun e=>absurd (show L2 11=true from e) (by rw [hno];decide)⟩ (TKeep.refl _)
         ·intro T2 w2 L2 u2 hM hli hcl hT hLe hN hO hE K hK
          obtain⟨v8,h8,e8,eu8⟩:=hE ⟨8,.data⟩ (by simp) rfl _ _ rfl rfl
          clear hE hO hN
          refine step_plain0 rfl ?_
          have x8:=(show (8=7∨8=8→XTup XR v8 w2)∧(8=9→XSt XR.1 v8 w2)∧(8=10∨8=12→XSl XR.2 v8 w2) from e8).1 (.inr rfl)
          obtain⟨B4,AA4,an4,ac4,AW4,wn4,wc4,k4,P4,D4,y4,DA4,dn4,dc4,rfl,hq4,hd4,ho4⟩:=x8
          clear e8 eu8
          subst hd4
          go_simp
          exact hK _ _ ⟨fun e=>absurd e (by decide),fun e=>absurd e (by decide),fun _=>⟨DA4,_,dc4,rfl,rfl,ho4⟩⟩ hM (TKeep.refl _)
         ·intro T2 w2 L2 u2 hM hli hcl hT hLe hN hO hE K hK
          have o5:T2[5]?=some (.pointer (some ⟨g5,0,none⟩)):=hO 5 rfl
          obtain⟨v9,h9,e9,eu9⟩:=hE ⟨9,.data⟩ (by simp) rfl _ _ rfl rfl
          clear hE hO hN
          refine step_plain0 rfl ?_
          have x9:=(show (9=7∨9=8→XTup XR v9 w2)∧(9=9→XSt XR.1 v9 w2)∧(9=10∨9=12→XSl XR.2 v9 w2) from e9).2.1 rfl
          obtain⟨B4,AA4,an4,ac4,AW4,wn4,wc4,k4,P4,D4,y4,rfl,hq4⟩:=x9
          have hz5:=hM.2.2.2.1 hli
          refine wp_store_row 37 _ _ rfl g5 #[.string B4,.slice AA4 an4 ac4,.slice AW4 wn4 wc4,.int .i64 k4,.string P4,.string D4,.int .i64 y4] (by simp [Act.eval,o5]) (by simp [Act.eval,h9]) 37 _ hz5 (info_st7 rfl) rfl (by simp [Value.oneCell']) ?_
          exact hK undef _ ⟨fun e=>absurd e (by decide),fun e=>absurd e (by decide),fun e=>absurd e (by decide)⟩ ⟨below_setRow hM.1 HI.out.b5 _,hM.2.1.trans (TKeep.put ⟨_,rfl,hz5⟩ _),(setRow_other w2 g5 g10 _ HI.out.ne.symm).trans hM.2.2.1,fun e=>absurd e (by simp [updL]),fun _=>⟨_,eu9,rfl,setRow_heap w2 g5 _ _ _ _ hz5⟩⟩ (TKeep.put ⟨_,rfl,hz5⟩ _)
        ·intro u w13 hM hF
         have x9:=(show (9=7∨9=8→XTup XR (u 9) w13)∧(9=9→XSt XR.1 (u 9) w13)∧(9=10∨9=12→XSl XR.2 (u 9) w13) from hF 9 (by omega)).2.1 rfl
         have x12:=(show (10=7∨10=8→XTup XR (u 10) w13)∧(10=9→XSt XR.1 (u 10) w13)∧(10=10∨10=12→XSl XR.2 (u 10) w13) from hF 10 (by omega)).2.2 (.inl rfl)
         obtain⟨hB9,hT9,hz9,_,h11⟩:=hM
         obtain⟨cs9,eq9,hc9,hg9⟩:=h11 rfl
         obtain⟨B4,AA4,an4,ac4,AW4,wn4,wc4,k4,P4,D4,y4,e9,hq4⟩:=x9
         obtain⟨DA4,dn4,dc4,e12,hd4,ho4⟩:=x12
         rw [e9] at eq9
         cases eq9
         clear hF
         simp only [fillAll,Nat.reduceAdd,e12,List.take_succ_cons,List.take_zero,List.drop_succ_cons,List.drop_zero,List.setIfInBounds_toArray,List.set_cons_succ,List.set_cons_zero]
         have HI13:=hid2 (ScInv.mk hB9 HI.out.b5 HI.out.b10 HI.out.ne hg9 hz9 hq4 ho4 hd4 (HI.out.lines.tkeep hT9 (by decide)))
         have HD4:=hid2 hd4
         clear hB9 hT9 hz9 h11 hc9 hg9 hq4 hd4 ho4
         go_wp2_with fail
         go_roundg (gk - 1)
         case rel=>exact⟨i+1,B4,AA4,an4,ac4,AW4,wn4,wc4,k4,P4,D4,y4,XR.1,DA4,dn4,dc4,XR.2,HI13.out,by have:=HIN.out;omega,by go_num,by first | rfl | rw [HD4.out],HRS.out,HOK.out.1,by have:=HOK.out.2.1;have:=HD4.out;have:=HLK.out;omega,Nat.lt_of_le_of_lt HOK.out.2.2.1 HLF.out,HOK.out.2.2.2⟩
         case measure=>have:=HIN.out;omega
      ·have hmf:mayB b=false:=by simpa using hmb
       rw [if_neg (fun h=>hmb h.2)] at hres
       rw [hmf] at cM
       have CM:=hid2 cM
       have HRS:=hid2 hres
       clear hinv hi hres hsm3 hlf3 hdk3 hkk z5 q10 hstop hxx hiL hxe hcell hws hwn cW hSX hSXN hsxs hwl hwm hab hta htw hSA hSB cM hbl haw hmb hk0 hxl hmf
       go_upto_region 12 with (go_at_call 30; refine (CW.out wr).mono ?_;rintro e wz ⟨WA,wc0,rfl,how,hbz⟩;obtain⟨wb,wo,hWA,hcw⟩:=how.rd.2 (by omega);subst hWA;have cw0:wz.cell? ⟨wb,wo,none⟩=some (.string SA):=(by rw [HSA.out];exact hcw 0 _ rfl);have cw1:wz.cell? ⟨wb,wo+1,none⟩=some (.string SB):=(by rw [HSB.out];exact hcw 1 _ rfl);have HOW:=hid2 (how.mono (Nat.zero_le _));have HIZ:=hid2 (HI.out.keep hbz);have HTZ:=hid2 (TKeep.of_below hbz);clear how hcw hbz HI hcx;have HI:=HIZ;clear HIZ)
       go_upto_region 13 with (go_at_call 51; refine (CM.out wz).mono ?_;rintro e wy ⟨rfl,hby⟩;have HIZ:=hid2 (HI.out.keep hby);have HTY:=hid2 (HTZ.out.trans (TKeep.of_below hby));have HOY:=hid2 (HOW.out.below hby (Nat.le_refl _));have cy0:=(hby.cell (p:=⟨wb,wo,none⟩) (World.block_lt_of_cell? _ _ cw0)).trans cw0;have cy1:=(hby.cell (p:=⟨wb,wo+1,none⟩) (World.block_lt_of_cell? _ _ cw1)).trans cw1;clear hby HI HOW HTZ cw0 cw1;have HI:=HIZ;have HOW:=HOY;have HTZ:=HTY;have cw0:=cy0;have cw1:=cy1;clear HIZ HOY HTY cy0 cy1)
       have HTW:=HTZ
       have HCL:=hid2 (HCLX.out wy HTW.out)
       refine wp_region_grd 7 (by kernel_rfl) (by kernel_rfl) (by kernel_rfl) _ rfl (by kernel_rfl) (VV [some (.agg #[.string B3,.slice AA3 an3 ac3,.slice AW3 wn3 wc3,.int .i64 0,.string P3,.string D3,.int .i64 y3]),some (.slice (some ⟨lb,lo,none⟩) nL lc),some (.int .i64 (i:Nat)),some (.pointer (some ⟨lb,lo+i,none⟩)),some (.string SX),some (.string SXN),none] (fun _ v w2=>XSt (r3.add (x++[10])) v w2)) (fun w2=>Below wy.heap.size wy w2) (fun a b=>Below a.heap.size a b) ((Below.refl _ wy).drew) (fun j v w1 w2 hb hv=>VV.keep (fun h=>XSt.tkeep (a:=w1) (b:=w2) h (TKeep.of_below hb)) hv) ?_ ?_
       ·refine of_allOps ⟨?_,?_,?_,?_,?_,?_,?_,trivial⟩
        ·intro T2 w2 hM hN hO hE K hK
         have o5:T2[5]?=some (.pointer (some ⟨g5,0,none⟩)):=hO 5 rfl
         clear hE hO hN
         refine step_plain0 rfl ?_
         refine wp_load_row 37 _ rfl g5 (by simp [Act.eval,o5]) 37 _ (0,0) _ ((hM.block g5 (heap_lt HI.out.st)).trans HI.out.st) Tryz.underlying37 rfl (info_st7 rfl) ?_
         exact hK _ _ rfl hM (Below.refl _ _)
        ·intro T2 w2 hM hN hO hE K hK
         have o13:T2[13]?=some (.slice (some ⟨lb,lo,none⟩) nL lc):=hO 13 rfl
         clear hE hO hN
         refine step_plain0 rfl ?_
         go_simp
         exact hK _ _ rfl hM (Below.refl _ _)
        ·intro T2 w2 hM hN hO hE K hK
         have o14:T2[14]?=some (.int .i64 (i:Nat)):=hO 14 rfl
         clear hE hO hN
         refine step_plain0 rfl ?_
         go_simp
         exact hK _ _ rfl hM (Below.refl _ _)
        ·intro T2 w2 hM hN hO hE K hK
         obtain⟨v1,h1,e1⟩:=hE ⟨1,.data⟩ (by simp) rfl _ _ rfl rfl
         rw [show v1 = .slice (some ⟨lb,lo,none⟩) nL lc from e1] at h1
         obtain⟨v2,h2,e2⟩:=hE ⟨2,.data⟩ (by simp) rfl _ _ rfl rfl
         rw [show v2 = .int .i64 (i:Nat) from e2] at h2
         clear hE hO hN
         refine step_plain0 rfl ?_
         go_simp
         exact hK _ _ rfl hM (Below.refl _ _)
        ·intro T2 w2 hM hN hO hE K hK
         obtain⟨v3,h3,e3⟩:=hE ⟨3,.data⟩ (by simp) rfl _ _ rfl rfl
         rw [show v3 = .pointer (some ⟨lb,lo+i,none⟩) from e3] at h3
         clear hE hO hN
         refine step_plain0 rfl ?_
         have yx:=HCL.out w2 (TKeep.of_below hM)
         go_simp
         exact hK _ _ rfl hM (Below.refl _ _)
        ·intro T2 w2 hM hN hO hE K hK
         obtain⟨v4,h4,e4⟩:=hE ⟨4,.data⟩ (by simp) rfl _ _ rfl rfl
         rw [show v4 = .string SX from e4] at h4
         clear hE hO hN
         refine step_plain0 rfl ?_
         go_simp
         exact hK _ _ rfl hM (Below.refl _ _)
        ·intro T2 w2 hM hN hO hE K hK
         obtain⟨v0,h0,e0⟩:=hE ⟨0,.data⟩ (by simp) rfl _ _ rfl rfl
         rw [show v0 = .agg #[.string B3,.slice AA3 an3 ac3,.slice AW3 wn3 wc3,.int .i64 0,.string P3,.string D3,.int .i64 y3] from e0] at h0
         obtain⟨v5,h5,e5⟩:=hE ⟨5,.data⟩ (by simp) rfl _ _ rfl rfl
         rw [show v5 = .string SXN from e5] at h5
         clear hE hO hN
         refine step_plain0 rfl ?_
         go_simp
         refine (radd_st w2 B3 SXN AA3 AW3 an3 ac3 wn3 wc3 0 y3 P3 D3 r3 (HI.out.rs.below hM) HBUF.out (x++[10]) HSXN.out HXL.out).mono ?_
         rintro e w5 ⟨B4,AA4,an4,ac4,AW4,wn4,wc4,k4,P4,D4,y4,rfl,hq4,hb4⟩
         exact hK _ _ ⟨B4,AA4,an4,ac4,AW4,wn4,wc4,k4,P4,D4,y4,rfl,hq4⟩ (hM.trans (hb4.mono hM.size)) hb4
       ·intro u w13 hM hF
        obtain⟨B4,AA4,an4,ac4,AW4,wn4,wc4,k4,P4,D4,y4,e6,hq4⟩:=(show XSt (r3.add (x++[10])) (u 6) w13 from hF 6 (by omega))
        clear hF
        simp only [fillAll,Nat.reduceAdd,e6,List.take_succ_cons,List.take_zero,List.drop_succ_cons,List.drop_zero,List.setIfInBounds_toArray,List.set_cons_succ,List.set_cons_zero]
        have HI13:=hid2 (HI.out.keep hM)
        have HQ4:=hid2 hq4
        have zz:=HI13.out.st
        clear hM hq4
        go_wp2_with ((with_reducible refine wpList_store_lit g5 0 (.agg #[.string B4,.slice AA4 an4 ac4,.slice AW4 wn4 wc4,.int .i64 k4,.string P4,.string D4,.int .i64 y4]) [.string B4,.slice AA4 an4 ac4,.slice AW4 wn4 wc4,.int .i64 k4,.string P4,.string D4,.int .i64 y4] rfl _ 37 zz (info_st _ _ _ _ _ _ _) (hF7 rfl) one_st ?_ ?_);exact⟨rfl,rfl⟩;rw [laid_st7 rfl];clear zz)
        go_roundg (gk - 1)
        case rel=>exact⟨i+1,B4,AA4,an4,ac4,AW4,wn4,wc4,k4,P4,D4,y4,r3.add (x++[10]),DB,m,dc3,d3,HI13.out.put HQ4.out,by have:=HIN.out;omega,by go_num,rfl,HRS.out,HSM3.out.add _,hm3,HLF.out,fun _=>HDK.out⟩
        case measure=>have:=HIN.out;omega
     ·have heq:(SA.toList == SW.toList)=false:=by rw [hta,htw,beq_eq_false_iff_ne];exact haw
      have heq2:¬ SA.toList=SW.toList:=by rw [hta,htw];exact haw
      rw [if_neg (fun h=>haw h.1)] at hres
      have HRS:=hid2 hres
      clear hinv hi hres hsm3 hlf3 hdk3 hkk z5 q10 hstop hxx hiL hxe hcell hws hwn cW hSX hSXN hsxs hwl hwm hab hta htw hSA hSB cM hbl haw hk0 hxl
      go_upto_region 12 with (go_at_call 30; refine (CW.out wr).mono ?_;rintro e wz ⟨WA,wc0,rfl,how,hbz⟩;obtain⟨wb,wo,hWA,hcw⟩:=how.rd.2 (by omega);subst hWA;have cw0:wz.cell? ⟨wb,wo,none⟩=some (.string SA):=(by rw [HSA.out];exact hcw 0 _ rfl);have cw1:wz.cell? ⟨wb,wo+1,none⟩=some (.string SB):=(by rw [HSB.out];exact hcw 1 _ rfl);have HOW:=hid2 (how.mono (Nat.zero_le _));have HIZ:=hid2 (HI.out.keep hbz);have HTZ:=hid2 (TKeep.of_below hbz);clear how hcw hbz HI hcx;have HI:=HIZ;clear HIZ)
      have HTW:=HTZ
      have HCL:=hid2 (HCLX.out wz HTW.out)
      go_upto_region 13 with fail
      refine wp_region_grd 7 (by kernel_rfl) (by kernel_rfl) (by kernel_rfl) _ rfl (by kernel_rfl) (VV [some (.agg #[.string B3,.slice AA3 an3 ac3,.slice AW3 wn3 wc3,.int .i64 0,.string P3,.string D3,.int .i64 y3]),some (.slice (some ⟨lb,lo,none⟩) nL lc),some (.int .i64 (i:Nat)),some (.pointer (some ⟨lb,lo+i,none⟩)),some (.string SX),some (.string SXN),none] (fun _ v w2=>XSt (r3.add (x++[10])) v w2)) (fun w2=>Below wz.heap.size wz w2) (fun a b=>Below a.heap.size a b) ((Below.refl _ wz).drew) (fun j v w1 w2 hb hv=>VV.keep (fun h=>XSt.tkeep (a:=w1) (b:=w2) h (TKeep.of_below hb)) hv) ?_ ?_
      ·refine of_allOps ⟨?_,?_,?_,?_,?_,?_,?_,trivial⟩
       ·intro T2 w2 hM hN hO hE K hK
        have o5:T2[5]?=some (.pointer (some ⟨g5,0,none⟩)):=hO 5 rfl
        clear hE hO hN
        refine step_plain0 rfl ?_
        refine wp_load_row 37 _ rfl g5 (by simp [Act.eval,o5]) 37 _ (0,0) _ ((hM.block g5 (heap_lt HI.out.st)).trans HI.out.st) Tryz.underlying37 rfl (info_st7 rfl) ?_
        exact hK _ _ rfl hM (Below.refl _ _)
       ·intro T2 w2 hM hN hO hE K hK
        have o13:T2[13]?=some (.slice (some ⟨lb,lo,none⟩) nL lc):=hO 13 rfl
        clear hE hO hN
        refine step_plain0 rfl ?_
        go_simp
        exact hK _ _ rfl hM (Below.refl _ _)
       ·intro T2 w2 hM hN hO hE K hK
        have o14:T2[14]?=some (.int .i64 (i:Nat)):=hO 14 rfl
        clear hE hO hN
        refine step_plain0 rfl ?_
        go_simp
        exact hK _ _ rfl hM (Below.refl _ _)
       ·intro T2 w2 hM hN hO hE K hK
        obtain⟨v1,h1,e1⟩:=hE ⟨1,.data⟩ (by simp) rfl _ _ rfl rfl
        rw [show v1 = .slice (some ⟨lb,lo,none⟩) nL lc from e1] at h1
        obtain⟨v2,h2,e2⟩:=hE ⟨2,.data⟩ (by simp) rfl _ _ rfl rfl
        rw [show v2 = .int .i64 (i:Nat) from e2] at h2
        clear hE hO hN
        refine step_plain0 rfl ?_
        go_simp
        exact hK _ _ rfl hM (Below.refl _ _)
       ·intro T2 w2 hM hN hO hE K hK
        obtain⟨v3,h3,e3⟩:=hE ⟨3,.data⟩ (by simp) rfl _ _ rfl rfl
        rw [show v3 = .pointer (some ⟨lb,lo+i,none⟩) from e3] at h3
        clear hE hO hN
        refine step_plain0 rfl ?_
        have yx:=HCL.out w2 (TKeep.of_below hM)
        go_simp
        exact hK _ _ rfl hM (Below.refl _ _)
       ·intro T2 w2 hM hN hO hE K hK
        obtain⟨v4,h4,e4⟩:=hE ⟨4,.data⟩ (by simp) rfl _ _ rfl rfl
        rw [show v4 = .string SX from e4] at h4
        clear hE hO hN
        refine step_plain0 rfl ?_
        go_simp
        exact hK _ _ rfl hM (Below.refl _ _)
       ·intro T2 w2 hM hN hO hE K hK
        obtain⟨v0,h0,e0⟩:=hE ⟨0,.data⟩ (by simp) rfl _ _ rfl rfl
        rw [show v0 = .agg #[.string B3,.slice AA3 an3 ac3,.slice AW3 wn3 wc3,.int .i64 0,.string P3,.string D3,.int .i64 y3] from e0] at h0
        obtain⟨v5,h5,e5⟩:=hE ⟨5,.data⟩ (by simp) rfl _ _ rfl rfl
        rw [show v5 = .string SXN from e5] at h5
        clear hE hO hN
        refine step_plain0 rfl ?_
        go_simp
        refine (radd_st w2 B3 SXN AA3 AW3 an3 ac3 wn3 wc3 0 y3 P3 D3 r3 (HI.out.rs.below hM) HBUF.out (x++[10]) HSXN.out HXL.out).mono ?_
        rintro e w5 ⟨B4,AA4,an4,ac4,AW4,wn4,wc4,k4,P4,D4,y4,rfl,hq4,hb4⟩
        exact hK _ _ ⟨B4,AA4,an4,ac4,AW4,wn4,wc4,k4,P4,D4,y4,rfl,hq4⟩ (hM.trans (hb4.mono hM.size)) hb4
      ·intro u w13 hM hF
       obtain⟨B4,AA4,an4,ac4,AW4,wn4,wc4,k4,P4,D4,y4,e6,hq4⟩:=(show XSt (r3.add (x++[10])) (u 6) w13 from hF 6 (by omega))
       clear hF
       simp only [fillAll,Nat.reduceAdd,e6,List.take_succ_cons,List.take_zero,List.drop_succ_cons,List.drop_zero,List.setIfInBounds_toArray,List.set_cons_succ,List.set_cons_zero]
       have HI13:=hid2 (HI.out.keep hM)
       have HQ4:=hid2 hq4
       have zz:=HI13.out.st
       clear hM hq4
       go_wp2_with ((with_reducible refine wpList_store_lit g5 0 (.agg #[.string B4,.slice AA4 an4 ac4,.slice AW4 wn4 wc4,.int .i64 k4,.string P4,.string D4,.int .i64 y4]) [.string B4,.slice AA4 an4 ac4,.slice AW4 wn4 wc4,.int .i64 k4,.string P4,.string D4,.int .i64 y4] rfl _ 37 zz (info_st _ _ _ _ _ _ _) (hF7 rfl) one_st ?_ ?_);exact⟨rfl,rfl⟩;rw [laid_st7 rfl];clear zz)
       go_roundg (gk - 1)
       case rel=>exact⟨i+1,B4,AA4,an4,ac4,AW4,wn4,wc4,k4,P4,D4,y4,r3.add (x++[10]),DB,m,dc3,d3,HI13.out.put HQ4.out,by have:=HIN.out;omega,by go_num,rfl,HRS.out,HSM3.out.add _,hm3,HLF.out,fun _=>HDK.out⟩
       case measure=>have:=HIN.out;omega
    ·have hne2:¬ (wn:Int)=2:=fun e=>h2 (by
      have hl:ws.length=2:=by omega
      match ws,hl with
      | [a,b],_=>exact⟨a,b,rfl⟩)
     have hne2b:((wn:Int) == 2)=false:=by rw [beq_eq_false_iff_ne];exact hne2
     have hres2:RES=scanL v (fun s b d=>scanF v (orK K) W f s b d) W (LL.drop (i+1)) (r3.add (x++[10])) d3:=by
      rw [hres]
      split
      ·rename_i a b
       exact absurd ⟨a,b,rfl⟩ h2
      ·rfl
     have HRS:=hid2 hres2
     clear hinv hi hres hres2 hsm3 hlf3 hdk3 hkk z5 q10 hstop hxx hiL hxe hcell hws hwn cW hSX hSXN hsxs hwl hwm hk0 hxl h2
     go_upto_region 12 with (go_at_call 30; refine (CW.out wr).mono ?_;rintro e wz ⟨WA,wc0,rfl,how,hbz⟩;have HIZ:=hid2 (HI.out.keep hbz);have HTZ:=hid2 (TKeep.of_below hbz);clear how hbz HI hcx;have HI:=HIZ;clear HIZ)
     have HTW:=HTZ
     have HCL:=hid2 (HCLX.out wz HTW.out)
     go_upto_region 13 with fail
     refine wp_region_grd 7 (by kernel_rfl) (by kernel_rfl) (by kernel_rfl) _ rfl (by kernel_rfl) (VV [some (.agg #[.string B3,.slice AA3 an3 ac3,.slice AW3 wn3 wc3,.int .i64 0,.string P3,.string D3,.int .i64 y3]),some (.slice (some ⟨lb,lo,none⟩) nL lc),some (.int .i64 (i:Nat)),some (.pointer (some ⟨lb,lo+i,none⟩)),some (.string SX),some (.string SXN),none] (fun _ v w2=>XSt (r3.add (x++[10])) v w2)) (fun w2=>Below wz.heap.size wz w2) (fun a b=>Below a.heap.size a b) ((Below.refl _ wz).drew) (fun j v w1 w2 hb hv=>VV.keep (fun h=>XSt.tkeep (a:=w1) (b:=w2) h (TKeep.of_below hb)) hv) ?_ ?_
     ·refine of_allOps ⟨?_,?_,?_,?_,?_,?_,?_,trivial⟩
      ·intro T2 w2 hM hN hO hE K hK
       have o5:T2[5]?=some (.pointer (some ⟨g5,0,none⟩)):=hO 5 rfl
       clear hE hO hN
       refine step_plain0 rfl ?_
       refine wp_load_row 37 _ rfl g5 (by simp [Act.eval,o5]) 37 _ (0,0) _ ((hM.block g5 (heap_lt HI.out.st)).trans HI.out.st) Tryz.underlying37 rfl (info_st7 rfl) ?_
       exact hK _ _ rfl hM (Below.refl _ _)
      ·intro T2 w2 hM hN hO hE K hK
       have o13:T2[13]?=some (.slice (some ⟨lb,lo,none⟩) nL lc):=hO 13 rfl
       clear hE hO hN
       refine step_plain0 rfl ?_
       go_simp
       exact hK _ _ rfl hM (Below.refl _ _)
      ·intro T2 w2 hM hN hO hE K hK
       have o14:T2[14]?=some (.int .i64 (i:Nat)):=hO 14 rfl
       clear hE hO hN
       refine step_plain0 rfl ?_
       go_simp
       exact hK _ _ rfl hM (Below.refl _ _)
      ·intro T2 w2 hM hN hO hE K hK
       obtain⟨v1,h1,e1⟩:=hE ⟨1,.data⟩ (by simp) rfl _ _ rfl rfl
       rw [show v1 = .slice (some ⟨lb,lo,none⟩) nL lc from e1] at h1
       obtain⟨v2,h2,e2⟩:=hE ⟨2,.data⟩ (by simp) rfl _ _ rfl rfl
       rw [show v2 = .int .i64 (i:Nat) from e2] at h2
       clear hE hO hN
       refine step_plain0 rfl ?_
       go_simp
       exact hK _ _ rfl hM (Below.refl _ _)
      ·intro T2 w2 hM hN hO hE K hK
       obtain⟨v3,h3,e3⟩:=hE ⟨3,.data⟩ (by simp) rfl _ _ rfl rfl
       rw [show v3 = .pointer (some ⟨lb,lo+i,none⟩) from e3] at h3
       clear hE hO hN
       refine step_plain0 rfl ?_
       have yx:=HCL.out w2 (TKeep.of_below hM)
       go_simp
       exact hK _ _ rfl hM (Below.refl _ _)
      ·intro T2 w2 hM hN hO hE K hK
       obtain⟨v4,h4,e4⟩:=hE ⟨4,.data⟩ (by simp) rfl _ _ rfl rfl
       rw [show v4 = .string SX from e4] at h4
       clear hE hO hN
       refine step_plain0 rfl ?_
       go_simp
       exact hK _ _ rfl hM (Below.refl _ _)
      ·intro T2 w2 hM hN hO hE K hK
       obtain⟨v0,h0,e0⟩:=hE ⟨0,.data⟩ (by simp) rfl _ _ rfl rfl
       rw [show v0 = .agg #[.string B3,.slice AA3 an3 ac3,.slice AW3 wn3 wc3,.int .i64 0,.string P3,.string D3,.int .i64 y3] from e0] at h0
       obtain⟨v5,h5,e5⟩:=hE ⟨5,.data⟩ (by simp) rfl _ _ rfl rfl
       rw [show v5 = .string SXN from e5] at h5
       clear hE hO hN
       refine step_plain0 rfl ?_
       go_simp
       refine (radd_st w2 B3 SXN AA3 AW3 an3 ac3 wn3 wc3 0 y3 P3 D3 r3 (HI.out.rs.below hM) HBUF.out (x++[10]) HSXN.out HXL.out).mono ?_
       rintro e w5 ⟨B4,AA4,an4,ac4,AW4,wn4,wc4,k4,P4,D4,y4,rfl,hq4,hb4⟩
       exact hK _ _ ⟨B4,AA4,an4,ac4,AW4,wn4,wc4,k4,P4,D4,y4,rfl,hq4⟩ (hM.trans (hb4.mono hM.size)) hb4
     ·intro u w13 hM hF
      obtain⟨B4,AA4,an4,ac4,AW4,wn4,wc4,k4,P4,D4,y4,e6,hq4⟩:=(show XSt (r3.add (x++[10])) (u 6) w13 from hF 6 (by omega))
      clear hF
      simp only [fillAll,Nat.reduceAdd,e6,List.take_succ_cons,List.take_zero,List.drop_succ_cons,List.drop_zero,List.setIfInBounds_toArray,List.set_cons_succ,List.set_cons_zero]
      have HI13:=hid2 (HI.out.keep hM)
      have HQ4:=hid2 hq4
      have zz:=HI13.out.st
      clear hM hq4
      go_wp2_with ((with_reducible refine wpList_store_lit g5 0 (.agg #[.string B4,.slice AA4 an4 ac4,.slice AW4 wn4 wc4,.int .i64 k4,.string P4,.string D4,.int .i64 y4]) [.string B4,.slice AA4 an4 ac4,.slice AW4 wn4 wc4,.int .i64 k4,.string P4,.string D4,.int .i64 y4] rfl _ 37 zz (info_st _ _ _ _ _ _ _) (hF7 rfl) one_st ?_ ?_);exact⟨rfl,rfl⟩;rw [laid_st7 rfl];clear zz)
      go_roundg (gk - 1)
      case rel=>exact⟨i+1,B4,AA4,an4,ac4,AW4,wn4,wc4,k4,P4,D4,y4,r3.add (x++[10]),DB,m,dc3,d3,HI13.out.put HQ4.out,by have:=HIN.out;omega,by go_num,rfl,HRS.out,HSM3.out.add _,hm3,HLF.out,fun _=>HDK.out⟩
      case measure=>have:=HIN.out;omega
   ·have hRe:RES=(r3,d3):=by rw [hres,scanL_stop hk0]
    have hk3:¬ k3=0:=by rw [hkk];omega
    have hk3b:(k3 == 0)=false:=by rw [beq_eq_false_iff_ne];exact hk3
    have HRE:=hid2 hRe
    have c0:=cell_of_row wr g5 0 _ _ _ z5
    have c1:=cell_of_row wr g5 1 _ _ _ z5
    have c2:=cell_of_row wr g5 2 _ _ _ z5
    have c3:=cell_of_row wr g5 3 _ _ _ z5
    have c4:=cell_of_row wr g5 4 _ _ _ z5
    have c5:=cell_of_row wr g5 5 _ _ _ z5
    have c6:=cell_of_row wr g5 6 _ _ _ z5
    clear hinv hi hres hsm3 hlf3 hdk3 hkk z5 hRe hk0 hstop
    go_wp2_with ((with_reducible refine wpList_store_lit g10 0 (.agg #[.string B3,.slice AA3 an3 ac3,.slice AW3 wn3 wc3,.int .i64 k3,.string P3,.string D3,.int .i64 y3]) [.string B3,.slice AA3 an3 ac3,.slice AW3 wn3 wc3,.int .i64 k3,.string P3,.string D3,.int .i64 y3] rfl _ 37 q10 (info_st _ _ _ _ _ _ _) (hF7 rfl) one_st ?_ ?_);exact⟨rfl,rfl⟩;rw [laid_st7 rfl])
    try simp only [Act.put]
    refine bodyPost_ret (v:=.tuple #[.agg #[.string B3,.slice AA3 an3 ac3,.slice AW3 wn3 wc3,.int .i64 k3,.string P3,.string D3,.int .i64 y3],.slice DB m dc3]) (results_row_tmp rfl _ _ g10 37 _ _ (0,0) rfl rfl (setRow_heap wr g10 _ _ _ _ HI.out.out) rfl) rfl ?_
    rw [HRE.out]
    exact⟨_,rfl,⟨_,_,_,_,_,_,_,_,_,_,_,_,_,_,rfl,HI.out.rs.put HI.out.out (by decide) (by decide) _,HI.out.len,HI.out.own.setOtherRow HI.out.out (by decide)⟩,below_setRow HI.out.below HI.out.b10 _⟩
  ·have hil:¬ (i:Int) < nL:=by omega
   have hRe:RES=(r3,d3):=by
    rw [hres,List.drop_of_length_le (by rw [← HNL.out];omega)]
    rfl
   have HRE:=hid2 hRe
   have c0:=cell_of_row wr g5 0 _ _ _ z5
   have c1:=cell_of_row wr g5 1 _ _ _ z5
   have c2:=cell_of_row wr g5 2 _ _ _ z5
   have c3:=cell_of_row wr g5 3 _ _ _ z5
   have c4:=cell_of_row wr g5 4 _ _ _ z5
   have c5:=cell_of_row wr g5 5 _ _ _ z5
   have c6:=cell_of_row wr g5 6 _ _ _ z5
   clear hinv hi hres hsm3 hlf3 hdk3 hkk z5 hRe hstop
   go_wp2_with ((with_reducible refine wpList_store_lit g10 0 (.agg #[.string B3,.slice AA3 an3 ac3,.slice AW3 wn3 wc3,.int .i64 k3,.string P3,.string D3,.int .i64 y3]) [.string B3,.slice AA3 an3 ac3,.slice AW3 wn3 wc3,.int .i64 k3,.string P3,.string D3,.int .i64 y3] rfl _ 37 q10 (info_st _ _ _ _ _ _ _) (hF7 rfl) one_st ?_ ?_);exact⟨rfl,rfl⟩;rw [laid_st7 rfl])
   try simp only [Act.put]
   refine bodyPost_ret (v:=.tuple #[.agg #[.string B3,.slice AA3 an3 ac3,.slice AW3 wn3 wc3,.int .i64 k3,.string P3,.string D3,.int .i64 y3],.slice DB m dc3]) (results_row_tmp rfl _ _ g10 37 _ _ (0,0) rfl rfl (setRow_heap wr g10 _ _ _ _ HI.out.out) rfl) rfl ?_
   rw [HRE.out]
   exact⟨_,rfl,⟨_,_,_,_,_,_,_,_,_,_,_,_,_,_,rfl,HI.out.rs.put HI.out.out (by decide) (by decide) _,HI.out.len,HI.out.own.setOtherRow HI.out.out (by decide)⟩,below_setRow HI.out.below HI.out.b10 _⟩
theorem rscan_any (K:List KE) (v:Env) (hv:v.may=mayB) (hK:K.length≤1000000) (hKd:∀ k∈K,k.path.length≤1000000∧k.data.length≤100000):∀ n,ScanAt K v n
 | 0=>fun _ _ _ _ _ _ _ _ _ _ _ _ _ _ _ _ _ _ _ _ _ _ _ _ _ _ _ _ hl=>absurd hl (Nat.not_lt_zero _)
 | f+1=>fun w B AA an ac AW wn wc k P D y r KA kc p W DA dn dc d h hs hr hdn hod hdk hpd hlf=>by
  by_cases hx:(r.ask (orK K) p).1.stop.kind=0
  ·cases hi:(r.ask (orK K) p).2.is with
   | false=>exact rscan_none K v hv hK hKd f w B AA an ac AW wn wc k P D y r KA kc p W DA dn dc d h hs hr hdn hod hdk hpd hlf hx hi
   | true=>exact rscan_lines K v hv hK hKd f (rscan_any K v hv hK hKd f) w B AA an ac AW wn wc k P D y r KA kc p W DA dn dc d h hs hr hdn hod hdk hpd hlf hx hi
  ·exact rscan_stop K v hv hK hKd f w B AA an ac AW wn wc k P D y r KA kc p W DA dn dc d h hs hr hdn hod hdk hpd hlf hx
end Go.Proofs.YtnecjdhamohadaaGreatDoor
