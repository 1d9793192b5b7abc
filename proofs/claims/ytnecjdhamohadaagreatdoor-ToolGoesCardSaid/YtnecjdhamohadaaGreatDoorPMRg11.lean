/- The document's run of a tool: one command (write), and any. -/
import Derived.Test.YtnecjdhamohadaaGreatDoorPMRg10
import Derived.Test.YtnecjdhamohadaaGreatDoorPMTp4
set_option linter.unusedSimpArgs false
set_option linter.unusedVariables false
namespace Go.Proofs.YtnecjdhamohadaaGreatDoor
open Go.RowKit Go.Maps Go.Shelf
set_option maxRecDepth 100000
section
variable {P:Program} {w:World}
theorem wp_append_own {o:Oper} {a:Act} {K:Act→World→Prop} {Q:Exit→Act→World→Prop} (s x:Operand) (t u:TypeId)
  (ho:o.op = .call { callee:=.builtin .append,args:=#[s,x],argTypes:=#[t,u] })
  (e:TypeId) (z:Value) (sz bytes:Nat) (ht:P.underlying t=some (.slice e)) (hi:(P.info? e).map (fun i=>(i.zero,i.size,i.bytes))=some (some z,sz,bytes)) (hzs:z.cells.size=sz)
  (base:Nat) (A:Option Addr) (n c:Nat) (xs:List Value) (hown:Own w base e sz A n c xs)
  (m:Nat) (news:List Value) (v:Value) (hsrc:Src P w u sz v m news) (h1:∀ v∈news,v.oneCell'=true)
  (h63:n+m≤maxLen) (hbytes:(n+m) * bytes≤140737488355328) (hbase:base≤w.heap.size) (hsx:a.eval s = .slice A n c∧a.eval x=v)
  (h:∀ A' c' w',Own w' base e sz A' (n+m) c' (xs++news)→w.grownBy w' (blockOf A)→((A'=A∧c'=c)∨(blockOf A'=some w.heap.size∧Below w.heap.size w w'))→K (a.put o.dst (.slice A' (n+m) c')) w'):o.wp P a w K Q:=by
 obtain⟨i,hi0,hz,hsz,hby⟩:=info_parts hi
 obtain⟨A',c',w',hr,h2,h3,h4⟩:=run_append_two (P:=P) t u o.type e i z sz bytes ht hi0 hz hsz hby hzs hown hsrc h1 h63 hbytes hbase
 unfold Oper.wp execOp
 simp only [ho,resolve,invoke,builtin,Sem.run_bind,Sem.run_pure,Result.andThen_ok,List.map_toArray,List.map_cons,List.map_nil,hsx.1,hsx.2,hr]
 exact h A' c' w' h2 h3 h4
end
theorem ReadB.grown {w wq w2 w3:World} {g5 g10:Nat} {ST:Array Value} (h:ReadB w wq g5 g10 ST w2) (hb:Below wq.heap.size w2 w3):ReadB w wq g5 g10 ST w3 :=
 ⟨h.below.trans (hb.mono h.base),h.base,⟨Nat.le_trans h.keep.1 hb.size,fun g cs t fr e n1 n2=>(hb.block g (heap_lt e)).trans (h.keep.2.1 g cs t fr e n1 n2),fun g k=>(by
  obtain⟨c1,e1,e2⟩:=h.keep.2.2.1 g k
  obtain⟨_,_,e3⟩:=k
  exact⟨c1,e1,(hb.block g (heap_lt e3)).trans e2⟩),fun g k=>(by
  obtain⟨c1,e1,e2⟩:=h.keep.2.2.2 g k
  obtain⟨_,_,e3⟩:=k
  exact⟨c1,e1,(hb.block g (heap_lt e3)).trans e2⟩)⟩,h.l5,h.l10,(hb.block g5 h.l5).trans h.st,(hb.block g10 h.l10).trans h.out⟩
theorem below_of_grown {w w':World} {row:Option Nat} {base:Nat} (hg:w.grownBy w' row) (hb:base≤w.heap.size) (hr:∀ k,row=some k→base≤k):Below base w w':=(Below.refl base w).grown hg hb hr
def WrE (wq:World) (v:Value) (w2:World):Prop:=∃ g,v = .slice (some ⟨g,0,none⟩) 0 0∧wq.heap.size≤g∧Own w2 wq.heap.size 35 4 (some ⟨g,0,none⟩) 0 0 []∧w2.heap[g]?=some (.cells #[] 35 (0,0))
def WrD (wq:World) (D4:List Value) (v:Value) (w2:World) (g:Nat):Prop:=v = .slice (some ⟨g,0,none⟩) 1 1∧wq.heap.size≤g∧w2.heap[g]?=some (.cells D4.toArray 35 (0,0))
def WrO (wq:World) (n:Nat) (vs:List Value) (v:Value) (w2:World):Prop:=∃ A c,v = .slice A n c∧Own w2 wq.heap.size 35 4 A n c vs
theorem WrE.more {wq:World} {v:Value} {w2 w3:World} (h:WrE wq v w2) (hb:Below w2.heap.size w2 w3):WrE wq v w3:=by
 obtain⟨g,h1,h2,h3,h4⟩:=h
 exact⟨g,h1,h2,h3.below hb (Nat.le_refl _),(hb.block g (heap_lt h4)).trans h4⟩
theorem WrD.more {wq:World} {D4:List Value} {v:Value} {w2 w3:World} {g:Nat} (h:WrD wq D4 v w2 g) (hb:Below w2.heap.size w2 w3):WrD wq D4 v w3 g:=⟨h.1,h.2.1,(hb.block g (heap_lt h.2.2)).trans h.2.2⟩
theorem WrO.more {wq:World} {n:Nat} {vs:List Value} {v:Value} {w2 w3:World} (h:WrO wq n vs v w2) (hb:Below w2.heap.size w2 w3):WrO wq n vs v w3:=by
 obtain⟨A,c,h1,h2⟩:=h
 exact⟨A,c,h1,h2.below hb (Nat.le_refl _)⟩
set_option maxHeartbeats 16000000 in
theorem rstep_write (w:World) (B:ByteArray) (AA:Option Addr) (an ac:Nat) (AW:Option Addr) (wn wc:Nat) (k:Int) (P D:ByteArray) (y:Int) (r:RS) (h:RSA w B AA an ac AW wn wc k P D y r) (hs:r.Small) (EA:Option Addr) (en ec:Nat) (KA:Option Addr) (kn kc:Nat) (line:TT) (hln:line.length≤65536) (WA:Option Addr) (qn qc:Nat) (ws:List TT) (nm:TT) (hnm:ws[0]?=some nm) (hk:nm=kWrite) (hqn:0 < qn) (hrw:Rd w 1 WA qn (strV ws)) (arg:TT) (harg:ws[1]?=some arg) (hq1:1 < qn) (hal:arg.length≤65536) (hwr:r.wrote.length≤1000000) (hwt:∀ b,blockOf WA=some b→∃ cur fr,w.heap[b]?=some (.cells cur 9 fr)) :
  Calls Tryz.prog 34 #[.agg #[.string B,.slice AA an ac,.slice AW wn wc,.int .i64 k,.string P,.string D,.int .i64 y],.slice EA en ec,.slice KA kn kc,.string (strB line),.slice WA qn qc] w (StPost w ({ r with wrote:=r.wrote++[DE.mk 2 arg r.buf 0],buf:=[] })):=by
 have htn:=toList_strBT nm
 obtain⟨SL,hSL⟩:∃ S,S=strB line:=⟨_,rfl⟩
 rw [← hSL]
 obtain⟨RES,hRES⟩:∃ R,R={ r with wrote:=r.wrote++[DE.mk 2 arg r.buf 0],buf:=[] }:=⟨_,rfl⟩
 rw [← hRES]
 obtain⟨w1,hw1⟩:∃ w1,w1=w.alloc (.cells #[.string B,.slice AA an ac,.slice AW wn wc,.int .i64 k,.string P,.string D,.int .i64 y] 37):=⟨_,rfl⟩
 obtain⟨wq,hwq⟩:∃ wq,wq=w1.alloc (.cells #[.string ⟨#[]⟩,.slice none 0 0,.slice none 0 0,.int .i64 0,.string ⟨#[]⟩,.string ⟨#[]⟩,.int .i64 0] 37):=⟨_,rfl⟩
 have hs1:w1.heap.size=w.heap.size+1:=by rw [hw1,World.size_alloc]
 have hs2:wq.heap.size=w.heap.size+1+1:=by rw [hwq,World.size_alloc,hs1]
 have hb1:Below w.heap.size w w1:=by rw [hw1];exact (Below.refl _ _).alloc (Nat.le_refl _) _
 have hb2:Below w.heap.size w wq:=by rw [hwq];exact hb1.alloc (by omega) _
 have hg5:wq.heap[w.heap.size]?=some (.cells #[.string B,.slice AA an ac,.slice AW wn wc,.int .i64 k,.string P,.string D,.int .i64 y] 37 (0,0)):=by
  rw [hwq,Below.heap_alloc _ _ _ (by omega),hw1]
  exact World.alloc_heap_new _ _
 have hg10:wq.heap[w.heap.size+1]?=some (.cells zSt 37 (0,0)):=by
  rw [hwq,← hs1]
  exact World.alloc_heap_new _ _
 obtain⟨g5,hg5e⟩:∃ g,g=w.heap.size:=⟨_,rfl⟩
 obtain⟨g10,hg10e⟩:∃ g,g=w.heap.size+1:=⟨_,rfl⟩
 rw [← hg5e] at hg5
 rw [← hg10e] at hg10
 have H12:=hid2 (show (w.alloc (.cells #[.string B,.slice AA an ac,.slice AW wn wc,.int .i64 k,.string P,.string D,.int .i64 y] 37)).alloc (.cells #[.string ⟨#[]⟩,.slice none 0 0,.slice none 0 0,.int .i64 0,.string ⟨#[]⟩,.string ⟨#[]⟩,.int .i64 0] 37)=wq from by rw [hwq,hw1])
 have HE:=hid2 (And.intro hg5e hg10e)
 have HI:=hid2 (show StepI w wq g5 g10 B AA an ac AW wn wc k P D y r from ⟨hb2,by omega,by omega,by omega,hg5,hg10,h.below hb2⟩)
 obtain⟨wb,wo,hWA,hcell⟩:=(hrw.below_all hb2).2 hqn
 obtain⟨cur0,fr0,hwt0⟩:=hwt wb (by rw [hWA];rfl)
 have hwt1:∃ cur fr,wq.heap[wb]?=some (.cells cur 9 fr):=⟨cur0,fr0,(hb2.block wb (heap_lt hwt0)).trans hwt0⟩
 clear hwt hwt0
 subst hWA
 have hws0:wq.cell? ⟨wb,wo,none⟩=some (.string (strB nm)):=hcell 0 _ (strV_at hnm)
 have hqi:(0:Int) < qn:=by omega
 have c0:=cell_of_row wq g5 0 _ _ _ hg5
 have c1:=cell_of_row wq g5 1 _ _ _ hg5
 have c2:=cell_of_row wq g5 2 _ _ _ hg5
 have c3:=cell_of_row wq g5 3 _ _ _ hg5
 have c4:=cell_of_row wq g5 4 _ _ _ hg5
 have c5:=cell_of_row wq g5 5 _ _ _ hg5
 have c6:=cell_of_row wq g5 6 _ _ _ hg5
 have hbuf:r.buf.length≤100000000000:=by have:=hs.2;omega
 have hF7:∀ {a b c d e f g:Value} {cs:Array Value},cs.size=7→0+[a,b,c,d,e,f,g].length≤cs.size:=fun h=>by rw [h];exact Nat.le_refl 7
 obtain⟨SN,hSN⟩:∃ S,S=strB nm:=⟨_,rfl⟩
 rw [← hSN] at htn hws0
 have tkRead:(SN.toList == [114,101,97,100])=false:=by rw [htn,hk];decide
 have ukRead:¬ SN.toList=[114,101,97,100]:=by rw [htn,hk];decide
 have tkTry:(SN.toList == [116,114,121])=false:=by rw [htn,hk];decide
 have ukTry:¬ SN.toList=[116,114,121]:=by rw [htn,hk];decide
 have tkScan:(SN.toList == [115,99,97,110])=false:=by rw [htn,hk];decide
 have ukScan:¬ SN.toList=[115,99,97,110]:=by rw [htn,hk];decide
 have tkText:(SN.toList == [116,101,120,116])=false:=by rw [htn,hk];decide
 have ukText:¬ SN.toList=[116,101,120,116]:=by rw [htn,hk];decide
 have tkEnv:(SN.toList == [101,110,118])=false:=by rw [htn,hk];decide
 have ukEnv:¬ SN.toList=[101,110,118]:=by rw [htn,hk];decide
 have tkFail:(SN.toList == [102,97,105,108])=false:=by rw [htn,hk];decide
 have ukFail:¬ SN.toList=[102,97,105,108]:=by rw [htn,hk];decide
 have tkNeed:(SN.toList == [110,101,101,100])=false:=by rw [htn,hk];decide
 have ukNeed:¬ SN.toList=[110,101,101,100]:=by rw [htn,hk];decide
 have tkKeep:(SN.toList == [107,101,101,112])=false:=by rw [htn,hk];decide
 have ukKeep:¬ SN.toList=[107,101,101,112]:=by rw [htn,hk];decide
 have tkWrite:(SN.toList == [119,114,105,116,101])=true:=by rw [htn,beq_iff_eq,hk]
 have ukWrite:SN.toList=[119,114,105,116,101]:=by rw [htn,hk]
 have hws1:wq.cell? ⟨wb,wo+1,none⟩=some (.string (strB arg)):=hcell 1 _ (strV_at harg)
 have hq1i:(1:Int) < qn:=by omega
 have hta:=toList_strBT arg
 obtain⟨SA1,hSA1⟩:∃ S,S=strB arg:=⟨_,rfl⟩
 rw [← hSA1] at hws1 hta
 have HCW1:=hid2 (show ∀ w2,Below wq.heap.size wq w2→w2.cell? ⟨wb,wo+1,none⟩=some (.string SA1) from fun w2 hb=>(hb.cell (p:=⟨wb,wo+1,none⟩) (World.block_lt_of_cell? _ _ hws1)).trans hws1)
 have HRB:=hid2 (show ReadB w wq g5 g10 #[.string B,.slice AA an ac,.slice AW wn wc,.int .i64 k,.string P,.string D,.int .i64 y] wq from ⟨hb2,hb2.size,TKeepK.refl _,heap_lt hg5,heap_lt hg10,hg5,hg10⟩)
 have HCK1:=hid2 (show ∀ w2,TKeepK wq w2→w2.cell? ⟨wb,wo+1,none⟩=some (.string SA1) from fun w2 hk=>by
  obtain⟨cur,fr,e⟩:=hwt1
  have:=hk.2.1 wb cur _ fr e (by decide) (by decide)
  rw [← hws1]
  simp only [World.cell?,this])
 obtain⟨VW,hVW⟩:∃ V,V=doVs r.wrote:=⟨_,rfl⟩
 have HVW:=hid2 hVW
 have honeW:∀ u∈VW,u.oneCell'=true:=by rw [hVW];exact doVs_one _
 have hwnn:wn≤1000000:=by rw [h.2.2.2.1];exact hwr
 have HWN:=hid2 (show wn+1=(r.wrote++[DE.mk 2 arg r.buf 0]).length from by rw [h.2.2.2.1,List.length_append];rfl)
 have HDV:=hid2 (show VW++[.int .i64 2,.string SA1,.string B,.int .i64 0]=doVs (r.wrote++[DE.mk 2 arg r.buf 0]) from by rw [hVW,hSA1,h.1,← doVs_snoc];rfl)
 have HRES:=hid2 hRES
 clear hVW hwt1 hws1 hta hSA1 harg hal hbuf hln hwr hRES c0 c1 c2 c3 c4 c5 c6
 clear hSL hw1 hwq hs1 hs2 hb1 hb2 hg5 hg10 hg5e hg10e hcell hrw hnm hk hSN htn h hs
 go_enter Tryz.func34,Tryz.ntmps34
 go_upto_region 1 with fail
 rw [H12.out,← HE.out.2,← HE.out.1]
 go_upto_region 35 with fail
 refine wp_region_lst 13 (by kernel_rfl) (by kernel_rfl) (by kernel_rfl) _ rfl (by kernel_rfl) (VV [none,some (.pointer (some ⟨g5,2,none⟩)),some (.slice AW wn wc),none,some (.slice (some ⟨wb,wo,none⟩) qn qc),some (.pointer (some ⟨wb,wo+1,none⟩)),some (.string SA1),some (.pointer (some ⟨g5,0,none⟩)),some (.string B),some (.agg #[.int .i64 2,.string SA1,.string B,.int .i64 0]),none,none,some (.pointer (some ⟨g5,2,none⟩))] (fun _ _ _=>True)) (fun L u w2=>ReadB w wq g5 g10 #[.string B,.slice AA an ac,.slice AW wn wc,.int .i64 k,.string P,.string D,.int .i64 y] w2∧(L 0=true→L 3=false→WrE wq (u 0) w2)∧(L 10=true→L 11=false→∃ g,WrD wq [.int .i64 2,.string SA1,.string B,.int .i64 0] (u 10) w2 g∧(L 3=true→∀ A c,u 3 = .slice A wn c→blockOf A≠some g))∧(L 3=true→L 11=false→WrO wq wn VW (u 3) w2)∧(L 11=true→WrO wq (wn+1) (VW++[.int .i64 2,.string SA1,.string B,.int .i64 0]) (u 11) w2)) (fun _ _=>True) (fun _=>⟨HRB.out.more (Below.refl _ _).drew,fun e=>absurd e (by decide),fun e=>absurd e (by decide),fun e=>absurd e (by decide),fun e=>absurd e (by decide)⟩) (fun j v w1 w2 hb hv=>VV.keep (fun h=>h) hv) ?_ ?_
 ·refine of_allOps ⟨?_,?_,?_,?_,?_,?_,?_,?_,?_,?_,?_,?_,?_,trivial⟩
  ·intro T2 w2 L2 u2 hM hli hcl hT hLe hN hO hE K hK
   clear hE hO hN
   refine step_plain0 rfl ?_
   have hno3:=not_come hcl hli 3 [0] (by kernel_rfl) (by simp)
   have hno11:=not_come hcl hli 11 [3,0] (by kernel_rfl) (by simp)
   go_simp
   exact hK _ _ trivial ⟨hM.1.more ((Below.refl _ w2).alloc (Nat.le_refl _) _),fun _ _=>⟨w2.heap.size,rfl,hM.1.keep.1,Own.lit w2 #[] 35 4 0 wq.heap.size hM.1.keep.1 (Nat.zero_le _) rfl,World.alloc_heap_new w2 _⟩,fun e1 e2=>(by obtain⟨g,q1,q2⟩:=hM.2.2.1 e1 e2;exact⟨g,q1.more ((Below.refl _ w2).alloc (Nat.le_refl _) _),q2⟩),fun e=>absurd (show L2 3=true from e) (by rw [hno3];decide),fun e=>absurd (show L2 11=true from e) (by rw [hno11];decide)⟩ trivial
  ·intro T2 w2 L2 u2 hM hli hcl hT hLe hN hO hE K hK
   have o5:T2[5]?=some (.pointer (some ⟨g5,0,none⟩)):=hO 5 rfl
   clear hE hO hN hli hcl hT hLe
   refine step_plain0 rfl ?_
   go_simp
   exact hK _ _ rfl hM (trivial)
  ·intro T2 w2 L2 u2 hM hli hcl hT hLe hN hO hE K hK
   obtain⟨v1,h1,e1,eu1⟩:=hE ⟨1,.data⟩ (by simp) rfl _ _ rfl rfl
   rw [show v1 = .pointer (some ⟨g5,2,none⟩) from e1] at h1 eu1
   clear hE hO hN
   refine step_plain0 rfl ?_
   have yc:=cell_of_row w2 g5 2 _ _ _ hM.1.st
   go_simp
   exact hK _ _ rfl hM trivial
  ·intro T2 w2 L2 u2 hM hli hcl hT hLe hN hO hE K hK
   obtain⟨v0,h0,e0,eu0⟩:=hE ⟨0,.data⟩ (by simp) rfl _ _ rfl rfl
   obtain⟨v2,h2,e2,eu2⟩:=hE ⟨2,.data⟩ (by simp) rfl _ _ rfl rfl
   rw [show v2 = .slice AW wn wc from e2] at h2 eu2
   clear hE hO hN
   refine step_plain0 rfl ?_
   have hno11:=not_come hcl hli 11 [3] (by kernel_rfl) (by simp)
   have hl0:=hLe ⟨0,.data⟩ (by simp) rfl
   obtain⟨g0,hv0,hg0,ho0,hz0⟩:=hM.2.1 hl0 hli
   rw [eu0] at hv0
   subst hv0
   have hrs:=(HI.out.rs.tkeepK hM.1.keep).2.2.2.2.1
   rw [← HVW.out] at hrs
   refine wp_append_own _ _ _ _ rfl 35 (.agg #[.int .i64 0,.string ⟨#[]⟩,.string ⟨#[]⟩,.int .i64 0]) 4 48 Tryz.underlying33 zero_doI rfl wq.heap.size (some ⟨g0,0,none⟩) 0 0 [] ho0 wn VW (.slice AW wn wc) (Src.slice Tryz.underlying33 hrs.rd) honeW ?_ ?_ hM.1.keep.1 ⟨by simp [Act.eval,h0],by simp [Act.eval,h2]⟩ ?_
   ·unfold maxLen;omega
   ·omega
   ·intro A5 c5 w5 ho5 hg5 hor
    rw [Nat.zero_add] at ho5 ⊢
    rw [List.nil_append] at ho5
    have hbw:Below wq.heap.size w2 w5:=below_of_grown hg5 hM.1.keep.1 (fun k e=>by cases e;exact hg0)
    have hkeep:∀ g (cs:Array Value),0 < cs.size→w2.heap[g]?=some (.cells cs 35 (0,0))→w5.heap[g]?=some (.cells cs 35 (0,0))∧blockOf A5≠some g:=fun g cs hcs hz=>by
     have hne:g≠g0:=fun e=>by
      rw [e,hz0] at hz
      cases hz
      exact absurd hcs (Nat.lt_irrefl _)
     rcases hor with ⟨rfl,_⟩ | ⟨h1,h2⟩
     ·exact⟨(hg5.block g (heap_lt hz) (fun e=>hne (by cases e;rfl))).trans hz,fun e=>hne (by cases e;rfl)⟩
     ·exact⟨(h2.block g (heap_lt hz)).trans hz,fun e=>by rw [h1] at e;cases e;exact absurd (heap_lt hz) (Nat.lt_irrefl _)⟩
    exact hK _ _ trivial ⟨hM.1.grown hbw,fun _ e=>absurd e (by simp [updL]),fun e1 e2=>(by obtain⟨g,q1,q2⟩:=hM.2.2.1 e1 e2;obtain⟨z1,z2⟩:=hkeep g _ (by simp) q1.2.2;exact⟨g,⟨q1.1,q1.2.1,z1⟩,fun _ A c e=>(by have e4:Value.slice A5 wn c5 = .slice A wn c:=e;cases e4;exact z2)⟩),fun _ _=>⟨A5,c5,rfl,ho5⟩,fun e=>absurd (show L2 11=true from e) (by rw [hno11];decide)⟩ trivial
  ·intro T2 w2 L2 u2 hM hli hcl hT hLe hN hO hE K hK
   have o4:T2[4]?=some (.slice (some ⟨wb,wo,none⟩) qn qc):=hO 4 rfl
   clear hE hO hN hli hcl hT hLe
   refine step_plain0 rfl ?_
   go_simp
   exact hK _ _ rfl hM (trivial)
  ·intro T2 w2 L2 u2 hM hli hcl hT hLe hN hO hE K hK
   obtain⟨v4,h4,e4,eu4⟩:=hE ⟨4,.data⟩ (by simp) rfl _ _ rfl rfl
   rw [show v4 = .slice (some ⟨wb,wo,none⟩) qn qc from e4] at h4 eu4
   clear hE hO hN hli hcl hT hLe eu4
   refine step_plain0 rfl ?_
   go_simp
   exact hK _ _ rfl hM (trivial)
  ·intro T2 w2 L2 u2 hM hli hcl hT hLe hN hO hE K hK
   obtain⟨v5,h5,e5,eu5⟩:=hE ⟨5,.data⟩ (by simp) rfl _ _ rfl rfl
   rw [show v5 = .pointer (some ⟨wb,wo+1,none⟩) from e5] at h5 eu5
   clear hE hO hN
   refine step_plain0 rfl ?_
   have yw:=HCK1.out w2 hM.1.keep
   go_simp
   exact hK _ _ rfl hM trivial
  ·intro T2 w2 L2 u2 hM hli hcl hT hLe hN hO hE K hK
   have o5:T2[5]?=some (.pointer (some ⟨g5,0,none⟩)):=hO 5 rfl
   clear hE hO hN hli hcl hT hLe
   refine step_plain0 rfl ?_
   go_simp
   exact hK _ _ rfl hM (trivial)
  ·intro T2 w2 L2 u2 hM hli hcl hT hLe hN hO hE K hK
   obtain⟨v7,h7,e7,eu7⟩:=hE ⟨7,.data⟩ (by simp) rfl _ _ rfl rfl
   rw [show v7 = .pointer (some ⟨g5,0,none⟩) from e7] at h7 eu7
   clear hE hO hN
   refine step_plain0 rfl ?_
   have yc:=cell_of_row w2 g5 0 _ _ _ hM.1.st
   go_simp
   exact hK _ _ rfl hM trivial
  ·intro T2 w2 L2 u2 hM hli hcl hT hLe hN hO hE K hK
   obtain⟨v6,h6,e6,eu6⟩:=hE ⟨6,.data⟩ (by simp) rfl _ _ rfl rfl
   rw [show v6 = .string SA1 from e6] at h6 eu6
   obtain⟨v8,h8,e8,eu8⟩:=hE ⟨8,.data⟩ (by simp) rfl _ _ rfl rfl
   rw [show v8 = .string B from e8] at h8 eu8
   clear hE hO hN hli hcl hT hLe eu6 eu8
   refine step_plain0 rfl ?_
   go_simp
   exact hK _ _ rfl hM (trivial)
  ·intro T2 w2 L2 u2 hM hli hcl hT hLe hN hO hE K hK
   obtain⟨v9,h9,e9,eu9⟩:=hE ⟨9,.data⟩ (by simp) rfl _ _ rfl rfl
   rw [show v9 = .agg #[.int .i64 2,.string SA1,.string B,.int .i64 0] from e9] at h9 eu9
   clear hE hO hN
   refine step_plain0 rfl ?_
   have hno11:=not_come hcl hli 11 [10] (by kernel_rfl) (by simp)
   go_simp
   exact hK _ _ trivial ⟨hM.1.more ((Below.refl _ w2).alloc (Nat.le_refl _) _),fun e1 e2=>(hM.2.1 e1 e2).more ((Below.refl _ w2).alloc (Nat.le_refl _) _),fun _ _=>⟨w2.heap.size,⟨rfl,hM.1.keep.1,World.alloc_heap_new w2 _⟩,fun e3 A c e4 e5=>(by obtain⟨A6,c6,q1,q2⟩:=hM.2.2.2.1 e3 hno11;have e6:u2 3 = .slice A wn c:=e4;rw [q1] at e6;cases e6;exact absurd (q2.block _ e5).2.1 (Nat.lt_irrefl _))⟩,fun e1 e2=>(hM.2.2.2.1 e1 e2).more ((Below.refl _ w2).alloc (Nat.le_refl _) _),fun e=>absurd (show L2 11=true from e) (by rw [hno11];decide)⟩ trivial
  ·intro T2 w2 L2 u2 hM hli hcl hT hLe hN hO hE K hK
   obtain⟨v3,h3,e3,eu3⟩:=hE ⟨3,.data⟩ (by simp) rfl _ _ rfl rfl
   obtain⟨v10,h10,e10,eu10⟩:=hE ⟨10,.data⟩ (by simp) rfl _ _ rfl rfl
   clear hE hO hN
   refine step_plain0 rfl ?_
   have hl3:=hLe ⟨3,.data⟩ (by simp) rfl
   have hl10:=hLe ⟨10,.data⟩ (by simp) rfl
   obtain⟨A3,c3,hv3,ho3⟩:=hM.2.2.2.1 hl3 hli
   obtain⟨gd,⟨hv10,hgd,hzd⟩,hne⟩:=hM.2.2.1 hl10 hli
   rw [eu3] at hv3
   subst hv3
   rw [eu10] at hv10
   subst hv10
   have rd9:Rd w2 4 (some ⟨gd,0,none⟩) 1 [.int .i64 2,.string SA1,.string B,.int .i64 0]:=⟨rfl,fun _=>⟨gd,0,rfl,fun j u hu=>by rw [cell_of_row w2 gd _ _ _ _ hzd,Nat.zero_add];simpa using hu⟩⟩
   refine wp_append_own _ _ _ _ rfl 35 (.agg #[.int .i64 0,.string ⟨#[]⟩,.string ⟨#[]⟩,.int .i64 0]) 4 48 Tryz.underlying33 zero_doI rfl wq.heap.size A3 wn c3 VW ho3 1 [.int .i64 2,.string SA1,.string B,.int .i64 0] (.slice (some ⟨gd,0,none⟩) 1 1) (Src.slice Tryz.underlying33 rd9) one_do ?_ ?_ hM.1.keep.1 ⟨by simp [Act.eval,h3],by simp [Act.eval,h10]⟩ ?_
   ·unfold maxLen;omega
   ·omega
   ·intro A5 c5 w5 ho5 hg5 hor
    have hbw:Below wq.heap.size w2 w5:=below_of_grown hg5 hM.1.keep.1 (fun k e=>(ho3.block k e).1)
    have hno3:updL L2 11 3=true:=hl3
    exact hK _ _ trivial ⟨hM.1.grown hbw,fun _ e=>absurd (show L2 3=false from e) (by rw [hl3];decide),fun _ e=>absurd e (by simp [updL]),fun _ e=>absurd e (by simp [updL]),fun _=>⟨A5,c5,rfl,ho5⟩⟩ trivial
  ·intro T2 w2 L2 u2 hM hli hcl hT hLe hN hO hE K hK
   have o5:T2[5]?=some (.pointer (some ⟨g5,0,none⟩)):=hO 5 rfl
   clear hE hO hN hli hcl hT hLe
   refine step_plain0 rfl ?_
   go_simp
   exact hK _ _ rfl hM (trivial)
 ·intro u w13 hM hF
  obtain⟨hRB,_,_,_,h11⟩:=hM
  obtain⟨A6,c6w,e11,ho6⟩:=h11 rfl
  have e12:u 12 = .pointer (some ⟨g5,2,none⟩):=hF 12 (by omega)
  clear hF
  simp only [fillAll,Nat.reduceAdd,e11,e12,List.take_succ_cons,List.take_zero,List.drop_succ_cons,List.drop_zero,List.setIfInBounds_toArray,List.set_cons_succ,List.set_cons_zero]
  have HRB13:=hid2 hRB
  have HO6:=hid2 ho6
  have y13:=cell_of_row w13 g5 2 _ _ _ hRB.st
  have f13:=frozen_of_row w13 g5 2 _ _ hRB.st
  clear h11 ho6 hRB
  go_upto_region 36 with fail
  obtain⟨wx,hwx⟩:∃ wx,wx=w13.setCell ⟨g5,2,none⟩ (.slice A6 (wn+1) c6w):=⟨_,rfl⟩
  rw [← hwx]
  have hx2:wx=w13.setRow g5 #[.string B,.slice AA an ac,.slice A6 (wn+1) c6w,.int .i64 k,.string P,.string D,.int .i64 y]:=by rw [hwx];exact setCell_eq_setRow w13 g5 2 _ _ _ _ HRB13.out.st
  have hst:wx.heap[g5]?=some (.cells #[.string B,.slice AA an ac,.slice A6 (wn+1) c6w,.int .i64 k,.string P,.string D,.int .i64 y] 37 (0,0)):=by rw [hx2];exact setRow_heap w13 g5 _ _ _ _ HRB13.out.st
  have HST:=hid2 hst
  have HX2:=hid2 hx2
  have yx:=cell_of_row wx g5 0 _ _ _ hst
  have fx:=frozen_of_row wx g5 0 _ _ hst
  clear hwx hx2 hst y13 f13
  go_upto_region 37 with fail
  obtain⟨wy,hwy⟩:∃ wy,wy=wx.setCell ⟨g5,0,none⟩ (.string ⟨#[]⟩):=⟨_,rfl⟩
  rw [← hwy]
  have hy2:wy=wx.setRow g5 #[.string ⟨#[]⟩,.slice AA an ac,.slice A6 (wn+1) c6w,.int .i64 k,.string P,.string D,.int .i64 y]:=by rw [hwy];exact setCell_eq_setRow wx g5 0 _ _ _ _ HST.out
  have HIY:=hid2 (show StepI w wy g5 g10 ⟨#[]⟩ AA an ac A6 (wn+1) c6w k P D y RES from by
   have hk1:TKeep w13 wx:=by rw [HX2.out];exact TKeep.put ⟨_,rfl,HRB13.out.st⟩ _
   have hk2:TKeep wx wy:=by rw [hy2];exact TKeep.put ⟨_,rfl,HST.out⟩ _
   have hk:=hk1.trans hk2
   obtain⟨f1,f2,f3,f4,f5,f6⟩:=HI.out.rs.tkeepK HRB13.out.keep
   have ho:=HO6.out
   rw [HDV.out] at ho
   refine⟨?_,HI.out.b5,HI.out.b10,HI.out.ne,?_,?_,?_⟩
   ·rw [hy2,HX2.out];exact below_setRow (below_setRow HRB13.out.below HI.out.b5 _) HI.out.b5 _
   ·rw [hy2];exact setRow_heap wx g5 _ _ _ _ HST.out
   ·rw [hy2,HX2.out];exact (setRow_other _ g5 g10 _ HI.out.ne.symm).trans ((setRow_other w13 g5 g10 _ HI.out.ne.symm).trans HRB13.out.out)
   ·rw [HRES.out];exact⟨rfl,f2,f3.tkeep hk (by decide),HWN.out,(ho.mono (Nat.zero_le _)).tkeep hk (by decide),f6⟩)
  clear hwy hy2 yx fx
  have c0:=cell_of_row wy g5 0 _ _ _ HIY.out.st
  have c1:=cell_of_row wy g5 1 _ _ _ HIY.out.st
  have c2:=cell_of_row wy g5 2 _ _ _ HIY.out.st
  have c3:=cell_of_row wy g5 3 _ _ _ HIY.out.st
  have c4:=cell_of_row wy g5 4 _ _ _ HIY.out.st
  have c5:=cell_of_row wy g5 5 _ _ _ HIY.out.st
  have c6:=cell_of_row wy g5 6 _ _ _ HIY.out.st
  have zo:=HIY.out.out
  go_wp2_with ((with_reducible refine wpList_store_lit g10 0 (.agg #[.string ⟨#[]⟩,.slice AA an ac,.slice A6 (wn+1) c6w,.int .i64 k,.string P,.string D,.int .i64 y]) [.string ⟨#[]⟩,.slice AA an ac,.slice A6 (wn+1) c6w,.int .i64 k,.string P,.string D,.int .i64 y] rfl _ 37 zo (info_st _ _ _ _ _ _ _) (hF7 rfl) one_st ?_ ?_);exact⟨rfl,rfl⟩;rw [laid_st7 rfl])
  try simp only [Act.put]
  refine bodyPost_ret (v:=.agg #[.string ⟨#[]⟩,.slice AA an ac,.slice A6 (wn+1) c6w,.int .i64 k,.string P,.string D,.int .i64 y]) (results_cell_row rfl _ _ g10 37 _ (0,0) _ rfl (setRow_heap wy g10 _ _ _ _ HIY.out.out) Tryz.underlying37 rfl (by kernel_rfl)) rfl ?_
  exact HIY.out.done HIY.out.rs _
end Go.Proofs.YtnecjdhamohadaaGreatDoor
