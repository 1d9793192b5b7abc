/- The tool's commands, and Check. -/
import Derived.Test.YtnecjdhamohadaaGreatDoorPMg
import Derived.Test.YtnecjdhamohadaaGreatDoorPMe
import Derived.Test.YtnecjdhamohadaaGreatDoorPMb
import Derived.OrdersIn
set_option linter.unusedSimpArgs false
set_option linter.unusedVariables false
namespace Go.Proofs.YtnecjdhamohadaaGreatDoor
open Go.RowKit
set_option maxRecDepth 100000
theorem badL_at {may:TT→Bool}:∀ {l:List TT} {i k:Nat} {s:TT},(∀ (j:Nat) (x:TT),j < i→l[j]?=some x→readC may x≠none)→l[i]?=some s→readC may s=none→badL may l k=(3,k+i+1)
 | [],_,_,_,_,h,_=>by cases h
 | x :: l,0,k,s,_,h,hn=>by
  cases h
  rw [badL,hn]
 | x :: l,i+1,k,s,hb,h,hn=>by
  have h0:=hb 0 x (by omega) rfl
  have ih:=badL_at (k:=k+1) (i:=i) (s:=s) (fun j y hj hy=>hb (j+1) y (by omega) (by simpa using hy)) (by simpa using h) hn
  cases hx:readC may x with
  | none=>exact absurd hx h0
  | some o =>
   rw [badL,hx]
   simp only
   rw [ih]
   congr 1
   omega
theorem badL_no {may:TT→Bool}:∀ {l:List TT} {k:Nat},(∀ (j:Nat) (x:TT),l[j]?=some x→readC may x≠none)→badL may l k=(0,0)
 | [],_,_=>rfl
 | x :: l,k,hb=>by
  have h0:=hb 0 x rfl
  have ih:=badL_no (k:=k+1) fun j y hy=>hb (j+1) y (by simpa using hy)
  cases hx:readC may x with
  | none=>exact absurd hx h0
  | some o =>
   rw [badL,hx]
   exact ih
theorem cmdsOf_snoc {may:TT→Bool} {l:List TT} {i:Nat} {s:TT} (h:l[i]?=some s):cmdsOf may (l.take (i+1))=cmdsOf may (l.take i)++(match readC may s with | some (some c)=>[c] | _=>[]):=by
 rw [List.take_add_one,h,Option.toList_some,cmdsOf_append]
 congr 1
structure TCmd where
 A:Option Addr
 cA:Nat
 c:CmdE
def cmdsV (X:List TCmd):List Value:=X.flatMap fun x=>[.slice x.A x.c.ws.length x.cA,.string (strB x.c.rest)]
theorem cmdsV_snoc (X:List TCmd) (x:TCmd):cmdsV X++[.slice x.A x.c.ws.length x.cA,.string (strB x.c.rest)]=cmdsV (X++[x]):=by simp [cmdsV]
structure CmdsAt (w:World) (base:Nat) (A:Option Addr) (c:Nat) (X:List TCmd):Prop where
 row:Own w base 68 2 A X.length c (cmdsV X)
 words:∀ x∈X,Own w base 9 1 x.A x.c.ws.length x.cA (strV x.c.ws)
theorem CmdsAt.below {w w':World} {base c:Nat} {A:Option Addr} {X:List TCmd} (h:CmdsAt w base A c X) (hb:Below w.heap.size w w'):CmdsAt w' base A c X:=⟨h.row.below hb (Nat.le_refl _),fun x hx=>(h.words x hx).below hb (Nat.le_refl _)⟩
theorem CmdsAt.mono {w:World} {base base' c:Nat} {A:Option Addr} {X:List TCmd} (h:CmdsAt w base A c X) (hb:base'≤base):CmdsAt w base' A c X:=⟨h.row.mono hb,fun x hx=>(h.words x hx).mono hb⟩
theorem Own.apart {w:World} {b1 b2 s1 s2 n m c d:Nat} {t u:TypeId} {A B:Option Addr} {xs ys:List Value} (h:Own w b1 t s1 A n c xs) (k:Own w b2 u s2 B m d ys) (hne:t≠u):∀ b,blockOf A=some b→some b≠blockOf B:=by
 intro b hb e
 obtain⟨_,_,cur,fr,h1⟩:=h.block b hb
 obtain⟨_,_,cur2,fr2,h2⟩:=k.block b e.symm
 rw [h1] at h2
 injection h2 with h2
 injection h2 with _ h2
 exact hne h2
theorem info_cmd:(Tryz.prog.info? 68).map (fun i=>(i.zero,i.size,i.bytes))=some (some (.agg #[.slice none 0 0,.string ⟨#[]⟩]),2,40):=by kernel_rfl
theorem results_tmp3T {fn:Func} {t u v:Tmp} (h:fn.results=#[.tmp t,.tmp u,.tmp v]) (tmps:Array Value) (P:Program) (w:World) :
  (results fn tmps).run P w = .ok (.tuple #[tmps.getD t undef,tmps.getD u undef,tmps.getD v undef]) w:=by
 simp [results,h]
def CmdsPost (w:World) (s:TT) (e:Ending) (w':World):Prop:=∃ (A:Option Addr) (c:Nat) (X:List TCmd),e = .returned (.tuple #[.slice A X.length c,.int .i64 (checkT mayB s).1,.int .i64 (checkT mayB s).2])∧CmdsAt w' w.heap.size A c X∧X.map (·.c)=(cmdsT mayB s).1∧Below w.heap.size w w'
theorem CmdsPost.no {w w':World} {s:TT} {a b:Nat} (h:checkT mayB s=(a,b)) (ha:a≠0) (hb:Below w.heap.size w w'):CmdsPost w s (.returned (.tuple #[.slice none 0 0,.int .i64 a,.int .i64 b])) w':=by
 refine⟨none,0,[],by rw [h];rfl,⟨Own.nil _ _ _ _,fun x hx=>by cases hx⟩,?_,hb⟩
 rw [cmdsT_eq,h,if_neg ha]
 rfl
theorem one_cmd {x y:Value} (h1:x.oneCell'=true) (h2:y.oneCell'=true):∀ v∈[x,y],v.oneCell'=true:=fun v hv=>by
 simp at hv
 rcases hv with rfl | rfl
 ·exact h1
 ·exact h2
theorem cmds_more {w3:World} {base m c3 nn cg:Nat} {A3 Ag:Option Addr} {X:List TCmd} {cm:CmdE} {V:List Value} {RR:ByteArray} (h:Own w3 base 68 2 A3 (m+1) c3 (V++[.slice Ag nn cg,.string RR])) (hm:m=X.length) (hV:V=cmdsV X) (hn:nn=cm.ws.length) (hR:RR=strB cm.rest)
  (hX:∀ x∈X,Own w3 base 9 1 x.A x.c.ws.length x.cA (strV x.c.ws)) (hc:Own w3 base 9 1 Ag cm.ws.length cg (strV cm.ws)):CmdsAt w3 base A3 c3 (X++[⟨Ag,cg,cm⟩]):=by
 subst hm hV hn hR
 refine⟨?_,fun x hx=>?_⟩
 ·rw [List.length_append,← cmdsV_snoc]
  exact h
 ·rcases List.mem_append.1 hx with hx | hx
  ·exact hX x hx
  ·rw [List.mem_singleton] at hx
   subst hx
   exact hc
theorem keep_words {w2 w3:World} {o:Obj} {base m c1:Nat} {A1:Option Addr} {V:List Value} (hg:(w2.alloc o).grownBy w3 (blockOf A1)) (h1:Own w2 base 68 2 A1 m c1 V):∀ (base2:Nat) (A:Option Addr) (n c:Nat) (xs:List Value),Own w2 base2 9 1 A n c xs→Own w3 base2 9 1 A n c xs :=
 fun _ _ _ _ _ h=>(h.alloc o).grown hg (Own.apart (h.alloc o) (h1.alloc o) (by decide))
set_option maxHeartbeats 4000000 in
theorem commands_any (w:World) (s:TT) (hs:s.length≤1000000) (hM:MaxL w):Calls Tryz.prog 24 #[.string (strB s)] w (CmdsPost w s):=by
 have cL:=lines_any w s (by omega) hM
 have hlen:=linesT_len s
 have hle:∀ x∈linesT s,x.length≤1000000:=fun x hx=>Nat.le_trans (linesT_le hx) hs
 obtain⟨ls,hls⟩:∃ l,l=linesT s:=⟨_,rfl⟩
 obtain⟨n,hn⟩:∃ n,n=ls.length:=⟨_,rfl⟩
 obtain⟨S,hS⟩:∃ S,S=strB s:=⟨_,rfl⟩
 have hSs:S.size=s.length:=by rw [hS,strB_size]
 rw [← hls,← hn] at cL hlen
 rw [← hls] at hle
 rw [← hS] at cL ⊢
 have CL:=hid2 cL
 have HM:=hid2 hM
 have HLS:=hid2 hls
 have HN:=hid2 hn
 have HLE:=hid2 hle
 have hni:(n:Int)≤1000001:=by omega
 by_cases hbig:65536 < s.length∨400 < n
 ·have hck:checkT mayB s=(6,0):=by rw [checkT,if_pos (by rw [← hls,← hn];exact hbig)]
  have HCK:=hid2 hck
  clear cL hM hlen hle hls hn hS hs hck
  by_cases h6:65536 < s.length
  ·have h6i:(65536:Int) < S.size:=by omega
   clear hSs hbig h6
   go_enter Tryz.func24,Tryz.ntmps24
   go_wp2_with (go_at_call 36; refine CL.out.mono ?_;rintro e w1 ⟨A,c,rfl,ho,hb⟩;have HB:=hid2 hb;clear ho hb)
   ((try simp only [Exit.inBlock,Exit.then]);refine bodyPost_ret (results_tmp3T rfl _ _ _) rfl ?_)
   exact CmdsPost.no HCK.out (by decide) HB.out
  ·have h6i:¬ (65536:Int) < S.size:=by omega
   have h4i:(400:Int) < n:=by omega
   clear hSs hbig h6
   go_enter Tryz.func24,Tryz.ntmps24
   go_wp2_with (go_at_call 36; refine CL.out.mono ?_;rintro e w1 ⟨A,c,rfl,ho,hb⟩;have HB:=hid2 hb;clear ho hb)
   ((try simp only [Exit.inBlock,Exit.then]);refine bodyPost_ret (results_tmp3T rfl _ _ _) rfl ?_)
   exact CmdsPost.no HCK.out (by decide) HB.out
 ·have hck:checkT mayB s=badL mayB ls 0:=by rw [checkT,if_neg (by rw [← hls,← hn];exact hbig),← hls]
  have HCK:=hid2 hck
  have h6i:¬ (65536:Int) < S.size:=by omega
  have h4i:¬ (400:Int) < n:=by omega
  have h4n:n≤400:=by omega
  clear cL hM hlen hle hls hn hS hs hck hSs hbig
  go_enter Tryz.func24,Tryz.ntmps24
  go_wp2_with (go_at_call 36; refine CL.out.mono ?_;rintro e w1 ⟨A,c,rfl,ho,hb⟩;have HB:=hid2 hb;have HO:=hid2 ho;clear ho hb)
  go_loopg [6,23] n (fun gk ov iv wr=>∃ (i:Nat) (A1:Option Addr) (c1 m:Nat) (X:List TCmd),i+gk=n∧iv = .int .i64 i∧m=X.length∧ov = .slice A1 m c1∧CmdsAt wr w1.heap.size A1 c1 X∧X.map (·.c)=cmdsOf mayB (ls.take i)∧(∀ (j:Nat) (x:TT),j < i→ls[j]?=some x→readC mayB x≠none)∧Below w1.heap.size w1 wr)
  case atStart=>exact⟨0,none,0,0,[],by omega,rfl,rfl,rfl,⟨Own.nil _ _ _ _,fun x hx=>by cases hx⟩,rfl,fun j x hj=>absurd hj (Nat.not_lt_zero _),Below.refl _ _⟩
  case round =>
   obtain⟨i,A1,c1,m,X,hi,rfl,hm,rfl,hX,hXm,hgood,hbe⟩:=hrel
   have hmle:m≤i:=by
    have h1:=congrArg List.length hXm
    rw [List.length_map,← hm] at h1
    have h2:=cmdsOf_len mayB (ls.take i)
    rw [List.length_take] at h2
    omega
   have hbw:=HB.out.trans (hbe.mono HB.out.size)
   have HBW:=hid2 hbw
   have HBE:=hid2 hbe
   have HX:=hid2 hX
   have HXM:=hid2 hXm
   have HG:=hid2 hgood
   have HMM:=hid2 hm
   by_cases hin:i < n
   ·have hii:(i:Int) < n:=by omega
    have hi0:(0:Int)≤i:=by omega
    obtain⟨x,hx⟩:∃ x,ls[i]?=some x:=⟨_,List.getElem?_eq_getElem (by rw [← HN.out];exact hin)⟩
    obtain⟨b,o,rfl,hc⟩:=(HO.out.rd.below_all hbe).2 (by omega)
    have hcell:wr.cell? ⟨b,o+i,none⟩=some (.string (strB x)):=hc i _ (by rw [strV,List.getElem?_map,hx];rfl)
    have hR:=read_any wr x (HLE.out x (List.mem_of_getElem? hx)) (HM.out.on hbw)
    unfold ReadPost at hR
    have hsn:=cmdsOf_snoc (may:=mayB) hx
    obtain⟨rd,hrd⟩:∃ rd,rd=readC mayB x:=⟨_,rfl⟩
    rw [← hrd] at hR hsn
    obtain⟨XS,hXS⟩:∃ XS,XS=strB x:=⟨_,rfl⟩
    rw [← hXS] at hcell hR
    have HR:=hid2 hR
    have HSN:=hid2 hsn
    have HRD:=hid2 hrd
    have HXX:=hid2 hx
    have hgood2:rd≠none→∀ (j:Nat) (y:TT),j < i+1→ls[j]?=some y→readC mayB y≠none:=fun hne j y hj hy=>by
     rcases Nat.lt_or_ge j i with h | h
     ·exact HG.out j y h hy
     ·obtain rfl:j=i:=by omega
      rw [HXX.out] at hy
      cases hy
      rw [← HRD.out]
      exact hne
    have HG2:=hid2 hgood2
    clear hX hXm hgood hbe hbw hc hR hsn hx hrd hXS hgood2 hm
    cases rd with
    | none =>
     have hbad:=(HCK.out).trans (badL_at (k:=0) HG.out HXX.out HRD.out.symm)
     rw [Nat.zero_add] at hbad
     have HBAD:=hid2 hbad
     clear hbad
     go_wp2_with (go_at_call 37; refine HR.out.mono ?_;rintro e w2 ⟨hb2,hr2⟩;unfold ReadM at hr2;subst hr2;have HB2:=hid2 (HBW.out.trans (hb2.mono HBW.out.size));clear hb2)
     ((try simp only [Exit.inBlock,Exit.then]);refine bodyPost_ret (results_tmp3T rfl _ _ _) rfl ?_)
     have hfin:=CmdsPost.no HBAD.out (by decide) HB2.out
     rw [show ((i+1:Nat):Int)=(i:Int)+1 by omega] at hfin
     exact hfin
    | some oc =>
     cases oc with
     | none =>
      go_wp2_with (go_at_call 37; refine HR.out.mono ?_;rintro e w2 ⟨hb2,hr2⟩;unfold ReadM at hr2;subst hr2;have HB2:=hid2 (HBE.out.trans (hb2.mono HBE.out.size));have HX2:=hid2 (HX.out.below hb2);clear hb2)
      go_roundg (gk - 1)
      case rel=>exact⟨i+1,A1,c1,m,X,by omega,by go_num,HMM.out,rfl,HX2.out,by rw [HSN.out,HXM.out];simp,HG2.out (by simp),HB2.out⟩
      case measure=>omega
     | some cm =>
      obtain⟨nn,hnn⟩:∃ nn,nn=cm.ws.length:=⟨_,rfl⟩
      obtain⟨RR,hRR⟩:∃ RR,RR=strB cm.rest:=⟨_,rfl⟩
      obtain⟨V,hV⟩:∃ V,V=cmdsV X:=⟨_,rfl⟩
      have hm1:m≤400:=by omega
      have HNN:=hid2 hnn
      have HRR:=hid2 hRR
      have HV:=hid2 hV
      clear hnn hRR hV
      go_wp2_with (first
       | (go_at_call 37; refine HR.out.mono ?_;rintro e w2 ⟨hb2,hr2⟩;unfold ReadM at hr2;obtain⟨g,rfl,Ag,cg,hg,hgb,hgo⟩:=hr2;rw [← HNN.out,← HRR.out] at hg;have hcc0:w2.cell? ⟨g,0,none⟩=some (.slice Ag nn cg):=cell_of_row w2 g 0 _ _ _ hg;have hcc1:w2.cell? ⟨g,1,none⟩=some (.string RR):=cell_of_row w2 g 1 _ _ _ hg;have HB2:=hid2 (HBE.out.trans (hb2.mono HBE.out.size));have HX2:=hid2 (HX.out.below hb2);have HGO:=hid2 (hgo.mono HBE.out.size);have hown:=HX2.out.row;rw [← HMM.out,← HV.out] at hown;clear hb2 hg hgb hgo)
       | (at_builtin;have _t:=hown;go_must ((with_reducible refine wpList_append_lit 68 (.agg #[.slice none 0 0,.string ⟨#[]⟩]) 2 40 Tryz.underlying56 info_cmd rfl w1.heap.size A1 m c1 V (hown.alloc _) 1 [.slice Ag nn cg,.string RR] (.slice (some ⟨w2.heap.size,0,none⟩) 1 1) (Src.slice Tryz.underlying56 (Rd.of_lit w2 #[.slice Ag nn cg,.string RR] 68 2 1 (by decide) rfl)) (one_cmd (x:=.slice Ag nn cg) (y:=.string RR) rfl rfl) ?_ ?_ ?_ ?_ ?_);(unfold maxLen;omega);omega;(exact Nat.le_trans HB2.out.size (by simp));exact⟨rfl,rfl⟩;intro A3 c3 w3 hown3 hgr3 hbl3;have hb3:Below w1.heap.size w1 w3:=(HB2.out.alloc HB2.out.size _).grown hgr3 (Nat.le_trans HB2.out.size (by simp)) (fun z e=>(_t.block z e).1);have hk3:=keep_words hgr3 _t;clear hown)))
      go_roundg (gk - 1)
      case rel=>exact⟨i+1,A3,c3,m+1,X++[⟨Ag,cg,cm⟩],by omega,by go_num,by rw [List.length_append,← HMM.out];rfl,rfl,cmds_more hown3 HMM.out HV.out HNN.out HRR.out (fun x hx=>hk3 _ _ _ _ _ (HX2.out.words x hx)) (hk3 _ _ _ _ _ HGO.out),by rw [HSN.out,List.map_append,HXM.out];rfl,HG2.out (by simp),hb3⟩
      case measure=>omega
   ·obtain rfl:i=n:=by omega
    have hii:¬ (i:Int) < i:=by omega
    have hall:badL mayB ls 0=(0,0):=badL_no fun j x hx=>HG.out j x (by rw [HN.out];exact (List.getElem?_eq_some_iff.1 hx).1) hx
    have hcs:X.map (·.c)=cmdsOf mayB ls:=by rw [HXM.out,HN.out,List.take_length]
    have HALL:=hid2 (HCK.out.trans hall)
    have HCS:=hid2 hcs
    clear hX hXm hgood hbe hbw hall hcs hm
    go_wp2_with fail
    ((try simp only [Exit.inBlock,Exit.then]);refine bodyPost_ret (results_tmp3T rfl _ _ _) rfl ?_)
    refine⟨A1,c1,X,by rw [HALL.out,← HMM.out];rfl,HX.out.mono HB.out.size,?_,HBW.out⟩
    rw [cmdsT_eq,HALL.out,if_pos rfl,← HLS.out]
    exact HCS.out
end Go.Proofs.YtnecjdhamohadaaGreatDoor
namespace Go.Proofs.YtnecjdhamohadaaGreatDoor
open Go.RowKit Go.Maps
set_option maxRecDepth 100000
structure TBut (B:Nat) (w w':World):Prop where
 os:w'.os=w.os
 tape:w'.tape=w.tape
 output:w'.output=w.output
 size:w.heap.size≤w'.heap.size
 low:∀ k,k < B→w'.heap[k]?=w.heap[k]?
 cells:∀ (k:Nat) (cs:Array Value) (t:TypeId) (fr:Nat × Nat),w.heap[k]?=some (.cells cs t fr)→t ≠ 63 → t ≠ 1 → w'.heap[k]?=w.heap[k]?
theorem TBut.refl (B:Nat) (w:World):TBut B w w:=⟨rfl,rfl,rfl,Nat.le_refl _,fun _ _=>rfl,fun _ _ _ _ _ _ _=>rfl⟩
theorem TBut.trans {B:Nat} {x y z:World} (h:TBut B x y) (k:TBut B y z):TBut B x z :=
 ⟨k.os.trans h.os,k.tape.trans h.tape,k.output.trans h.output,Nat.le_trans h.size k.size,fun j hj=>(k.low j hj).trans (h.low j hj),fun j cs t fr hj h1 h2=>(k.cells j cs t fr ((h.cells j cs t fr hj h1 h2).trans hj) h1 h2).trans (h.cells j cs t fr hj h1 h2)⟩
theorem TBut.of_below {B:Nat} {w w':World} (h:Below w.heap.size w w') (hB:B≤w.heap.size):TBut B w w':=⟨h.os,h.tape,h.output,h.size,fun k hk=>h.block k (by omega),fun k cs t fr hk _ _=>h.block k (heap_lt hk)⟩
theorem TBut.below {B:Nat} {w w':World} (h:TBut B w w'):Below B w w':=⟨h.os,h.tape,h.output,h.size,h.low⟩
theorem TBut.setCell {B:Nat} {w w':World} (h:TBut B w w') {g:Nat} {cs:Array Value} {t:TypeId} {fr:Nat × Nat} (hg:w'.heap[g]?=some (.cells cs t fr)) (ht:t = 63 ∨ t = 1) (hB:B≤g) (o:Nat) (v:Value):TBut B w (w'.setCell ⟨g,o,none⟩ v):=by
 refine h.trans ⟨rfl,rfl,rfl,by rw [World.size_setCell];exact Nat.le_refl _,fun k hk=>Below.heap_setCell _ _ _ k (by show k≠g;omega),fun k cs' t' fr' hk h1 h2=>Below.heap_setCell _ _ _ k ?_⟩
 show k≠g
 rintro rfl
 rw [hg] at hk
 injection hk with hk
 injection hk with _ hk
 subst hk
 rcases ht with rfl | rfl
 ·exact h1 rfl
 ·exact h2 rfl
theorem TBut.alloc {B:Nat} {w w':World} (h:TBut B w w') (hB:B≤w'.heap.size) (o:Obj):TBut B w (w'.alloc o):=h.trans (.of_below ((Below.refl _ _).alloc (Nat.le_refl _) o) hB)
theorem TBut.drew {B:Nat} {w w':World} (h:TBut B w w'):TBut B w w'.drew:=⟨h.os,h.tape,h.output,h.size,h.low,h.cells⟩
def CellB (w:World) (g:Nat) (cs:Array Value) (t:TypeId):Prop:=w.heap[g]?=some (.cells cs t (0,0))
theorem CellB.keep {B:Nat} {w w':World} {g:Nat} {cs:Array Value} {t:TypeId} (h:CellB w g cs t) (hb:TBut B w w') (h1:t ≠ 63) (h2:t ≠ 1):CellB w' g cs t:=(hb.cells g cs t _ h h1 h2).trans h
theorem CellB.lt {w:World} {g:Nat} {cs:Array Value} {t:TypeId} (h:CellB w g cs t):g < w.heap.size:=heap_lt h
theorem Own.tbut {B base sz n c:Nat} {w w':World} {t:TypeId} {A:Option Addr} {xs:List Value} (h:Own w base t sz A n c xs) (hb:TBut B w w') (h1:t ≠ 63) (h2:t ≠ 1):Own w' base t sz A n c xs:=h.keep fun b hbl _ _=>by
 obtain⟨_,_,cur,fr,hc⟩:=h.block b hbl
 exact hb.cells b cur t fr hc h1 h2
def RBox (w:World) (g R:Nat):Prop:=CellB w g #[.pointer (some ⟨R,0,none⟩)] 26
def SBox (w:World) (g:Nat) (s:TT):Prop:=CellB w g #[.string (strB s)] 9
def MBox (w:World) (g:Nat) (q:Option Nat):Prop:=∃ m,q=some m∧CellB w g #[.map (some m)] 83
def ptrV (g:Nat):Value:=.pointer (some ⟨g,0,none⟩)
def addF (R:Nat):Value:=.func (.func 41) #[ptrV R] #[]
inductive DataF | add | scan (w:TT)
def DataIs (w:World) (R:Nat) (q:Option Nat) (u:Value):DataF→Prop
 | .add=>u=addF R
 | .scan x=>∃ g1 g2 g3,u = .func (.func 68) #[] #[ptrV g1,ptrV g2,ptrV g3]∧RBox w g1 R∧SBox w g2 x∧MBox w g3 q
def ThereIs (w:World) (R:Nat) (q:Option Nat) (u:Value) (d:DataF):Prop:=∃ g1 g2 v,u = .func (.func 67) #[] #[ptrV g1,ptrV g2]∧RBox w g1 R∧CellB w g2 #[v] 81 ∧ DataIs w R q v d
def ThenIs (w:World) (R:Nat) (q:Option Nat) (u:Value):ThenE→Prop
 | .add=>ThereIs w R q u .add
 | .try_=>∃ g1,u = .func (.func 42) #[] #[ptrV g1]∧RBox w g1 R
 | .scan x=>ThereIs w R q u (.scan x)
def CmdB (w:World) (R g:Nat) (c:CmdE):Prop:=∃ A cA,CellB w g #[.slice A c.ws.length cA,.string (strB c.rest)] 68 ∧ Own w 0 9 1 A c.ws.length cA (strV c.ws)∧∀ b,blockOf A=some b→b < R
def TaskIs (w:World) (R:Nat) (q:Option Nat) (u:Value):TaskE→Prop
 | .cmd c=>∃ g1 g2,u = .func (.func 27) #[] #[ptrV g1,ptrV g2]∧RBox w g1 R∧CmdB w R g2 c
 | .ans p th=>∃ g1 g2 g3 v,u = .func (.func 66) #[] #[ptrV g1,ptrV g2,ptrV g3]∧CellB w g1 #[v] 79 ∧ ThenIs w R q v th∧RBox w g2 R∧SBox w g3 p
 | .line x y=>∃ g1 g2 g3 g4,u = .func (.func 70) #[] #[ptrV g1,ptrV g2,ptrV g3,ptrV g4]∧SBox w g1 x∧SBox w g2 y∧RBox w g3 R∧MBox w g4 q
section
variable {B:Nat} {w w':World} {R:Nat} {q:Option Nat}
theorem RBox.keep {g:Nat} (h:RBox w g R) (hb:TBut B w w'):RBox w' g R:=CellB.keep h hb (by decide) (by decide)
theorem SBox.keep {g:Nat} {s:TT} (h:SBox w g s) (hb:TBut B w w'):SBox w' g s:=CellB.keep h hb (by decide) (by decide)
theorem MBox.keep {g:Nat} (h:MBox w g q) (hb:TBut B w w'):MBox w' g q:=by
 obtain⟨m,h1,h2⟩:=h
 exact⟨m,h1,CellB.keep h2 hb (by decide) (by decide)⟩
theorem DataIs.keep {u:Value} {d:DataF} (h:DataIs w R q u d) (hb:TBut B w w'):DataIs w' R q u d:=by
 cases d with
 | add=>exact h
 | scan x =>
  obtain⟨g1,g2,g3,e,h1,h2,h3⟩:=h
  exact⟨g1,g2,g3,e,h1.keep hb,h2.keep hb,h3.keep hb⟩
theorem ThereIs.keep {u:Value} {d:DataF} (h:ThereIs w R q u d) (hb:TBut B w w'):ThereIs w' R q u d:=by
 obtain⟨g1,g2,v,e,h1,h2,h3⟩:=h
 exact⟨g1,g2,v,e,h1.keep hb,CellB.keep h2 hb (by decide) (by decide),h3.keep hb⟩
theorem ThenIs.keep {u:Value} {th:ThenE} (h:ThenIs w R q u th) (hb:TBut B w w'):ThenIs w' R q u th:=by
 cases th with
 | add=>exact ThereIs.keep h hb
 | try_ =>
  obtain⟨g1,e,h1⟩:=h
  exact⟨g1,e,h1.keep hb⟩
 | scan x=>exact ThereIs.keep h hb
theorem CmdB.keep {g:Nat} {c:CmdE} (h:CmdB w R g c) (hb:TBut B w w'):CmdB w' R g c:=by
 obtain⟨A,cA,h1,h2,h3⟩:=h
 exact⟨A,cA,CellB.keep h1 hb (by decide) (by decide),h2.tbut hb (by decide) (by decide),h3⟩
theorem TaskIs.keep {u:Value} {t:TaskE} (h:TaskIs w R q u t) (hb:TBut B w w'):TaskIs w' R q u t:=by
 cases t with
 | cmd c =>
  obtain⟨g1,g2,e,h1,h2⟩:=h
  exact⟨g1,g2,e,h1.keep hb,h2.keep hb⟩
 | ans p th =>
  obtain⟨g1,g2,g3,v,e,h1,h2,h3,h4⟩:=h
  exact⟨g1,g2,g3,v,e,CellB.keep h1 hb (by decide) (by decide),h2.keep hb,h3.keep hb,h4.keep hb⟩
 | line x y =>
  obtain⟨g1,g2,g3,g4,e,h1,h2,h3,h4⟩:=h
  exact⟨g1,g2,g3,g4,e,h1.keep hb,h2.keep hb,h3.keep hb,h4.keep hb⟩
end
def encK (k:KE):Value:=.agg #[.string (strB k.path),.bool k.is,.string (strB k.data)]
def encB (b:Bool):Value:=.bool b
def nrm (k:KE):KE:=if k.is=true then ⟨[],true,k.data⟩ else noK
def setV (l:List (TT × TT)):List Value:=l.flatMap fun p=>[.string (strB p.1),.string (strB p.2)]
def runV (A:Option Addr) (n c:Nat) (EA:Option Addr) (en ec:Nat) (buf:TT) (m:Nat) (asks:TT) (waits:Bool) (d:DE):Array Value :=
 #[.slice A n c,.slice EA en ec,.string (strB buf),.map (some m),.string (strB asks),.bool waits,.int .i64 d.kind,.string (strB d.path),.string (strB d.data),.int .i64 d.why]
structure RLay where
 B:Nat
 R:Nat
 m:Nat
 EA:Option Addr
 ec:Nat
def ThenE.noMap:ThenE→Bool
 | .scan _=>false
 | _=>true
def TaskE.noMap:TaskE→Bool
 | .cmd _=>true
 | .ans _ th=>th.noMap
 | .line _ _=>false
structure RunAt (w:World) (L:RLay) (v:Env) (q:Option Nat) (s:PS) (A:Option Addr) (c:Nat) (us:List Value):Prop where
 run:CellB w L.R (runV A s.todo.length c L.EA v.env.length L.ec s.buf L.m s.asks s.waits s.over) 63
 base:L.B≤L.R
 row:Own w L.B 1 1 A s.todo.length c us.reverse
 tasks:∀ (i:Nat) (t:TaskE),s.todo[i]?=some t→∃ u,us[i]?=some u∧TaskIs w L.R q u t
 env:Own w L.B 55 2 L.EA v.env.length L.ec (setV v.env)
 known:L.B≤L.m∧∃ (M:Tab KE),MapIs w Tryz.prog 9 encK L.m s.known.length M∧M.length=s.known.length∧∀ p,(getM M p).map nrm=getK s.known p
 seen:(∀ t∈s.todo,t.noMap=true)∨∃ (g:Nat) (M:Tab Bool),q=some g∧L.B≤g∧g≠L.m∧MapIs w Tryz.prog 9 encB g s.seen.length M∧∀ p,getM M p=if p∈s.seen then some true else none
def RunIs (w:World) (L:RLay) (v:Env) (q:Option Nat) (s:PS):Prop:=∃ A c us,RunAt w L v q s A c us
end Go.Proofs.YtnecjdhamohadaaGreatDoor
namespace Go.Proofs.YtnecjdhamohadaaGreatDoor
open Go.RowKit Go.Maps
set_option maxRecDepth 100000
theorem MapIs.isMap {α:Type} {enc:α→Value} {w:World} {P:Program} {k:TypeId} {b n:Nat} {M:Tab α} (h:MapIs w P k enc b n M) {cs:Array Value} {t:TypeId} {fr:Nat × Nat}:w.heap[b]?≠some (.cells cs t fr):=by
 obtain⟨es,clock,hb,_⟩:=h
 rw [hb]
 intro e
 cases e
section
variable {w w':World} {L:RLay} {v:Env} {q:Option Nat} {s:PS} {A:Option Addr} {c:Nat} {us:List Value}
theorem RunAt.count (h:RunAt w L v q s A c us):us.length=s.todo.length:=by
 have:=h.row.1
 rw [List.length_reverse] at this
 omega
theorem RunAt.cells (h:RunAt w L v q s A c us) {s':PS} (hR:CellB w' L.R (runV A s'.todo.length c L.EA v.env.length L.ec s'.buf L.m s'.asks s'.waits s'.over) 63) (hk:∀ k,k≠L.R→w'.heap[k]?=w.heap[k]?) (hb:TBut L.B w w')
  (e1:s'.todo=s.todo) (e2:s'.known=s.known) (e3:s'.seen=s.seen):RunAt w' L v q s' A c us:=by
 refine⟨hR,h.base,?_,?_,h.env.tbut hb (by decide) (by decide),?_,?_⟩
 ·rw [e1]
  refine h.row.keep fun b hbl _ _=>hk b ?_
  rintro rfl
  exact h.row.ne h.run (by decide) hbl
 ·intro i t ht
  rw [e1] at ht
  obtain⟨u,h1,h2⟩:=h.tasks i t ht
  exact⟨u,h1,h2.keep hb⟩
 ·obtain⟨h1,M,h2,h3,h4⟩:=h.known
  refine⟨h1,M,?_,by rw [e2];exact h3,by rw [e2];exact h4⟩
  rw [e2]
  refine h2.keep (hk _ fun e=>?_)
  have hr:=h.run
  unfold CellB at hr
  rw [← e] at hr
  exact h2.isMap hr
 ·rw [e1]
  rcases h.seen with h1 | ⟨g,M,h1,h2,h3,h4,h5⟩
  ·exact .inl h1
  ·refine .inr ⟨g,M,h1,h2,h3,?_,by rw [e3];exact h5⟩
   rw [e3]
   refine h4.keep (hk _ fun e=>?_)
   have hr:=h.run
   unfold CellB at hr
   rw [← e] at hr
   exact h4.isMap hr
theorem RunAt.below (h:RunAt w L v q s A c us) (hb:Below w.heap.size w w'):RunAt w' L v q s A c us:=by
 have hB:L.B≤w.heap.size:=Nat.le_trans h.base (Nat.le_of_lt h.run.lt)
 have ht:=TBut.of_below hb hB
 refine⟨(hb.block _ h.run.lt).trans h.run,h.base,h.row.below hb (Nat.le_refl _),fun i t hi=>?_,h.env.tbut ht (by decide) (by decide),?_,?_⟩
 ·obtain⟨u,h1,h2⟩:=h.tasks i t hi
  exact⟨u,h1,h2.keep ht⟩
 ·obtain⟨h1,M,h2,h3⟩:=h.known
  exact⟨h1,M,h2.below hb h2.lt,h3⟩
 ·rcases h.seen with h1 | ⟨g,M,h1,h2,h3,h4,h5⟩
  ·exact .inl h1
  ·exact .inr ⟨g,M,h1,h2,h3,h4.below hb h4.lt,h5⟩
theorem RunIs.below (h:RunIs w L v q s) (hb:Below w.heap.size w w'):RunIs w' L v q s:=by
 obtain⟨A,c,us,h⟩:=h
 exact⟨A,c,us,h.below hb⟩
theorem RunAt.size (h:RunAt w L v q s A c us):L.B≤w.heap.size:=Nat.le_trans h.base (Nat.le_of_lt h.run.lt)
theorem RunIs.size (h:RunIs w L v q s):L.B≤w.heap.size:=by
 obtain⟨A,c,us,h⟩:=h
 exact h.size
end
theorem TBut.setRow {B:Nat} {w w':World} (h:TBut B w w') {g:Nat} {cs:Array Value} {t:TypeId} {fr:Nat × Nat} (hg:w'.heap[g]?=some (.cells cs t fr)) (ht:t = 63 ∨ t = 1) (hB:B≤g) (cs':Array Value):TBut B w (w'.setRow g cs'):=by
 refine h.trans ⟨rfl,rfl,rfl,by simp [World.setRow],fun k hk=>setRow_other w' g k cs' (by omega),fun k c' t' fr' hk h1 h2=>setRow_other w' g k cs' ?_⟩
 rintro rfl
 rw [hg] at hk
 injection hk with hk
 injection hk with _ hk
 subst hk
 rcases ht with rfl | rfl
 ·exact h1 rfl
 ·exact h2 rfl
def VPost (w:World) (L:RLay) (v:Env) (q:Option Nat) (s:PS) (e:Ending) (w':World):Prop:=e = .returned (.tuple #[])∧RunIs w' L v q s∧TBut L.B w w'
theorem vcall {f:FuncId} {args:Array Value} {w:World} {L:RLay} {v:Env} {q:Option Nat} {s:PS} (h:Calls Tryz.prog f args w (VPost w L v q s)):Calls Tryz.prog f args w fun e w'=>e = .returned (.tuple #[])∧VPost w L v q s (.returned (.tuple #[])) w' :=
 h.mono fun _ _ k=>⟨k.1,rfl,k.2⟩
theorem one_do {k y:Int} {a b:ByteArray}:∀ v∈[Value.int .i64 k,.string a,.string b,.int .i64 y],v.oneCell'=true:=by simp [Value.oneCell']
theorem do_cells (k y:Int) (a b:ByteArray):(Value.agg #[.int .i64 k,.string a,.string b,.int .i64 y]).cells.toList=[Value.int .i64 k,.string a,.string b,.int .i64 y]:=rfl
theorem info_do4 (k y:Int) (a b:ByteArray):(Tryz.prog.info? 35).map (·.size)=some [Value.int .i64 k,.string a,.string b,.int .i64 y].length:=by kernel_rfl
set_option maxHeartbeats 1000000 in
theorem fail_any (w:World) (L:RLay) (v:Env) (q:Option Nat) (s:PS) (h:RunIs w L v q s) (y:Nat):Calls Tryz.prog 46 #[ptrV L.R,.int .i64 y] w (VPost w L v q (s.fail y)):=by
 obtain⟨A,c,us,h⟩:=h
 have hrow:=h.run
 unfold CellB at hrow
 have hfin:∀ w',w'=w.setRow L.R (runV A s.todo.length c L.EA v.env.length L.ec s.buf L.m s.asks s.waits ⟨4,[],[],y⟩)→VPost w L v q (s.fail y) (.returned (.tuple #[])) w':=by
  rintro w' rfl
  have hb:=TBut.setRow (TBut.refl L.B w) h.run (.inl rfl) h.base (runV A s.todo.length c L.EA v.env.length L.ec s.buf L.m s.asks s.waits ⟨4,[],[],y⟩)
  exact⟨rfl,⟨A,c,us,h.cells (s':=s.fail y) (setRow_heap w L.R _ _ _ _ h.run) (fun k hk=>setRow_other w L.R k _ hk) hb rfl rfl rfl⟩,hb⟩
 obtain⟨R,hR⟩:∃ R,R=L.R:=⟨_,rfl⟩
 rw [ptrV,← hR]
 rw [← hR] at hrow hfin
 obtain⟨Pq,hPq⟩:∃ Pq,Pq=VPost w L v q (s.fail y):=⟨_,rfl⟩
 rw [← hPq] at hfin ⊢
 have HF:=hid2 hfin
 obtain⟨cur,hcur⟩:∃ cur,cur=runV A s.todo.length c L.EA v.env.length L.ec s.buf L.m s.asks s.waits s.over:=⟨_,rfl⟩
 have hsz:cur.size=10:=by rw [hcur];rfl
 have hld:laid cur 6 [.int .i64 4,.string ⟨#[]⟩,.string ⟨#[]⟩,.int .i64 y]=runV A s.todo.length c L.EA v.env.length L.ec s.buf L.m s.asks s.waits ⟨4,[],[],y⟩:=by rw [hcur];rfl
 rw [← hcur] at hrow
 rw [← hld] at HF
 clear h hR hPq hfin hcur hld
 go_enter Tryz.func46,Tryz.ntmps46
 have hfit:6+[Value.int .i64 4,.string ⟨#[]⟩,.string ⟨#[]⟩,.int .i64 y].length≤cur.size:=by rw [hsz];simp
 go_wp2_with ((with_reducible refine wpList_store_lit R 6 (.agg #[.int .i64 4,.string ⟨#[]⟩,.string ⟨#[]⟩,.int .i64 y]) [.int .i64 4,.string ⟨#[]⟩,.string ⟨#[]⟩,.int .i64 y] (do_cells _ _ _ _) cur 63 hrow (info_do4 _ _ _ _) hfit one_do ?_ ?_);exact⟨rfl,rfl⟩)
 refine bodyPost_ret (results_none rfl _ _ _) rfl ?_
 exact HF.out _ rfl
theorem RunAt.one {w:World} {L:RLay} {v:Env} {q:Option Nat} {s s':PS} {A:Option Addr} {c i:Nat} {us:List Value} {u:Value} (h:RunAt w L v q s A c us)
  (hc:(runV A s.todo.length c L.EA v.env.length L.ec s.buf L.m s.asks s.waits s.over).setIfInBounds i u=runV A s'.todo.length c L.EA v.env.length L.ec s'.buf L.m s'.asks s'.waits s'.over)
  (e1:s'.todo=s.todo) (e2:s'.known=s.known) (e3:s'.seen=s.seen):RunAt (w.setCell ⟨L.R,i,none⟩ u) L v q s' A c us∧TBut L.B w (w.setCell ⟨L.R,i,none⟩ u):=by
 have hr:=h.run
 unfold CellB at hr
 have hb:=TBut.setCell (TBut.refl L.B w) h.run (.inl rfl) h.base i u
 refine⟨h.cells ?_ (fun k hk=>Below.heap_setCell _ _ _ k hk) hb e1 e2 e3,hb⟩
 unfold CellB
 rw [setCell_eq_setRow w L.R i _ _ _ _ hr,setRow_heap w L.R _ _ _ _ hr,hc]
theorem RunAt.cell {w:World} {L:RLay} {v:Env} {q:Option Nat} {s:PS} {A:Option Addr} {c:Nat} {us:List Value} (h:RunAt w L v q s A c us) (i:Nat):w.cell? ⟨L.R,i,none⟩=(runV A s.todo.length c L.EA v.env.length L.ec s.buf L.m s.asks s.waits s.over)[i]?∧w.frozen? ⟨L.R,i,none⟩=false :=
 ⟨cell_of_row w L.R i _ _ _ h.run,frozen_of_row w L.R i _ _ h.run⟩
set_option maxHeartbeats 1000000 in
theorem add_any (w:World) (L:RLay) (v:Env) (q:Option Nat) (s:PS) (h:RunIs w L v q s) (hb:s.buf.length≤65536) (t:TT) (ht:t.length≤1000000000):Calls Tryz.prog 41 #[ptrV L.R,.string (strB t)] w (VPost w L v q (s.add t)):=by
 have cF:=vcall (fail_any w L v q s h 6)
 obtain⟨A,c,us,h⟩:=h
 have hc:=(h.cell 2).1
 have hf:=(h.cell 2).2
 have hc2:w.cell? ⟨L.R,2,none⟩=some (.string (strB s.buf)):=hc
 have hs1:(strB s.buf).size=s.buf.length:=strB_size _
 have hs2:(strB t).size=t.length:=strB_size _
 have hap:strB s.buf++strB t=strB (s.buf++t):=strB_append _ _
 have hfin:¬ 65536 < s.buf.length+t.length→VPost w L v q (s.add t) (.returned (.tuple #[])) (w.setCell ⟨L.R,2,none⟩ (.string (strB s.buf++strB t))):=fun hn=>by
  have h2:=h.one (s':={ s with buf:=s.buf++t }) (i:=2) (u:=.string (strB (s.buf++t))) rfl rfl rfl rfl
  rw [hap,PS.add,if_neg hn]
  exact⟨rfl,⟨A,c,us,h2.1⟩,h2.2⟩
 have hfin2:65536 < s.buf.length+t.length→s.add t=s.fail 6:=fun hy=>by rw [PS.add,if_pos hy]
 obtain⟨Pq,hPq⟩:∃ Pq,Pq=VPost w L v q (s.add t):=⟨_,rfl⟩
 rw [← hPq] at hfin ⊢
 by_cases hbig:65536 < s.buf.length+t.length
 ·have hP2:Pq=VPost w L v q (s.fail 6):=by rw [hPq,hfin2 hbig]
  rw [← hP2] at cF
  obtain⟨R,hR⟩:∃ R,R=L.R:=⟨_,rfl⟩
  rw [ptrV,← hR] at cF ⊢
  rw [← hR] at hc2 hf
  obtain⟨X,hX⟩:∃ X,X=strB s.buf:=⟨_,rfl⟩
  obtain⟨Y,hY⟩:∃ Y,Y=strB t:=⟨_,rfl⟩
  rw [← hX] at hc2 hs1
  rw [← hY] at hs2 ⊢
  have hwr:IntKind.i64.wrap ((X.size:Int)+Y.size)=(X.size:Int)+Y.size:=IntWalk.i64_in _ (by constructor <;> omega)
  have hgt:(65536:Int) < (X.size:Int)+Y.size:=by omega
  have CF:=hid2 cF
  clear cF h hc hap hfin hfin2 hPq hP2 hR hX hY hs1 hs2 hbig
  go_enter Tryz.func41,Tryz.ntmps41
  go_wp2_with (go_at_call 46; refine CF.out.mono ?_;rintro e w1 ⟨rfl,hp⟩;have HP:=hid2 hp;clear hp)
  refine bodyPost_ret (results_none rfl _ _ _) rfl ?_
  exact HP.out
 ·have hfin:=hfin hbig
  obtain⟨R,hR⟩:∃ R,R=L.R:=⟨_,rfl⟩
  rw [ptrV,← hR]
  rw [← hR] at hc2 hf hfin
  obtain⟨X,hX⟩:∃ X,X=strB s.buf:=⟨_,rfl⟩
  obtain⟨Y,hY⟩:∃ Y,Y=strB t:=⟨_,rfl⟩
  rw [← hX] at hc2 hs1
  rw [← hY] at hs2 ⊢
  rw [← hX,← hY] at hfin
  have hwr:IntKind.i64.wrap ((X.size:Int)+Y.size)=(X.size:Int)+Y.size:=IntWalk.i64_in _ (by constructor <;> omega)
  have hgt:¬ (65536:Int) < (X.size:Int)+Y.size:=by omega
  have ha:¬ (X.size+Y.size > 9223372036854775807):=by omega
  obtain⟨Z,hZ⟩:∃ Z,X++Y=Z:=⟨_,rfl⟩
  rw [hZ] at hfin
  have HF:=hid2 hfin
  clear cF h hc hap hfin hfin2 hPq hR hX hY hs1 hs2 hbig
  go_enter Tryz.func41,Tryz.ntmps41
  go_wp2_with fail
  refine bodyPost_ret (results_none rfl _ _ _) rfl ?_
  exact HF.out
end Go.Proofs.YtnecjdhamohadaaGreatDoor
namespace Go.Proofs.YtnecjdhamohadaaGreatDoor
open Go.RowKit Go.Maps
set_option maxRecDepth 100000
def FnAt (w:World) (u a:Value) (P:Ending→World→Prop):Prop:=∃ (f:Nat) (fi ca:Array Value),u = .func (.func f) fi ca∧Enters Tryz.prog f∧Calls Tryz.prog f (fi++#[a]++ca) w P
def PS.data (s:PS) (d:DataF) (t:TT):PS:=match d with
 | .add=>s.add t
 | .scan w=>{ s with todo:=(linesT t).map (TaskE.line · w)++s.todo }
theorem PS.then_nrm (s:PS) (th:ThenE) (k:KE):s.then_ th (nrm k)=s.then_ th k:=by
 unfold nrm
 by_cases hk:k.is=true
 ·rw [if_pos hk]
  cases th <;> simp [PS.then_,hk]
 ·rw [if_neg hk]
  have:k.is=false:=by simpa using hk
  cases th <;> simp [PS.then_,this,noK]
theorem VPost.since {w w1 w2:World} {L:RLay} {v:Env} {q:Option Nat} {s:PS} {e:Ending} (h:VPost w1 L v q s e w2) (hb:Below w.heap.size w w1) (hB:L.B≤w.heap.size):VPost w L v q s e w2:=⟨h.1,h.2.1,(TBut.of_below hb hB).trans h.2.2⟩
theorem VPost.plain {w w1:World} {L:RLay} {v:Env} {q:Option Nat} {s:PS} (h:RunIs w L v q s) (hb:Below w.heap.size w w1):VPost w L v q s (.returned (.tuple #[])) w1:=⟨rfl,h.below hb,TBut.of_below hb h.size⟩
theorem RBox.cell {w:World} {g R:Nat} (h:RBox w g R):w.cell? ⟨g,0,none⟩=some (.pointer (some ⟨R,0,none⟩)):=cell_of_row w g 0 _ _ _ h
theorem CellB.cell {w:World} {g:Nat} {cs:Array Value} {t:TypeId} (h:CellB w g cs t) (i:Nat):w.cell? ⟨g,i,none⟩=cs[i]?:=cell_of_row w g i _ _ _ h
theorem CellB.below {w w':World} {g:Nat} {cs:Array Value} {t:TypeId} (h:CellB w g cs t) (hb:Below w.heap.size w w'):CellB w' g cs t:=(hb.block _ h.lt).trans h
set_option maxHeartbeats 1000000 in
theorem try1_any (w:World) (L:RLay) (v:Env) (q:Option Nat) (s:PS) (h:RunIs w L v q s) (g:Nat) (hg:RBox w g L.R) (hb:s.buf.length≤65536) (k:KE) (hk:k.is=true→k.data.length≤1000000000):Calls Tryz.prog 42 #[encK k,ptrV g] w (VPost w L v q (s.then_ .try_ k)):=by
 have hA:=fun (hi:k.is=true) (W:World) (hW:Below w.heap.size w W)=>add_any W L v q s (h.below hW) hb k.data (hk hi)
 have hB:=h.size
 have hc:=fun (W:World) (hW:Below w.heap.size w W)=>RBox.cell (CellB.below hg hW)
 have hlt:=hg.lt
 obtain⟨R,hR⟩:∃ R,R=L.R:=⟨_,rfl⟩
 rw [← hR] at hA hc
 obtain⟨X,hX⟩:∃ X,X=strB k.data:=⟨_,rfl⟩
 obtain⟨Y,hY⟩:∃ Y,Y=strB k.path:=⟨_,rfl⟩
 have hgc:=hc w (Below.refl _ _)
 rw [ptrV] at hA
 rw [ptrV]
 rw [← hX] at hA
 cases hi:k.is with
 | true =>
  have hA:=hA hi
  have he:s.then_ .try_ k=s.add k.data:=by rw [PS.then_,if_pos hi]
  rw [he,encK,hi,← hX,← hY]
  obtain⟨Pq,hPq⟩:∃ Pq:Ending→World→Prop,Pq=VPost w L v q (s.add k.data):=⟨_,rfl⟩
  have hA2:∀ (W:World),Below w.heap.size w W→Calls Tryz.prog 41 #[.pointer (some ⟨R,0,none⟩),.string X] W fun e w2=>e = .returned (.tuple #[])∧Pq (.returned (.tuple #[])) w2:=fun W hW=>(hA W hW).mono fun e w2 k=>⟨k.1,by rw [hPq];have:=k.since hW hB;rw [k.1] at this;exact this⟩
  rw [← hPq]
  have HA:=hid2 hA2
  have HB:=hid2 hb
  clear hA hA2 hPq hX hY hi he h hk hc hR hb hg
  have hb0:Below w.heap.size w w:=Below.refl _ _
  go_enter Tryz.func42,Tryz.ntmps42
  go_wp2_with (go_at_call 41; refine (HA.out _ ((Below.refl _ _).alloc (Nat.le_refl _) _)).mono ?_;rintro e w1 ⟨rfl,hp⟩;have HP:=hid2 hp;clear hp)
  refine bodyPost_ret (results_none rfl _ _ _) rfl ?_
  exact HP.out
 | false =>
  have he:s.then_ .try_ k=s:=by rw [PS.then_,hi];rfl
  rw [he,encK,hi,← hX,← hY]
  have hF:=fun (W:World) (hW:Below w.heap.size w W)=>VPost.plain h hW
  obtain⟨Pq,hPq⟩:∃ Pq:Ending→World→Prop,Pq=VPost w L v q s:=⟨_,rfl⟩
  rw [← hPq] at hF ⊢
  have HF:=hid2 hF
  clear hA hPq hX hY hi he h hk hc hR hb hg hF
  go_enter Tryz.func42,Tryz.ntmps42
  go_wp2_with fail
  refine bodyPost_ret (results_none rfl _ _ _) rfl ?_
  exact HF.out _ ((Below.refl _ _).alloc (Nat.le_refl _) _)
def thenOf:DataF→ThenE
 | .add=>.add
 | .scan x=>.scan x
theorem then_yes (s:PS) (d:DataF) (k:KE) (hi:k.is=true):s.then_ (thenOf d) k=s.data d k.data:=by
 cases d <;> simp [PS.then_,thenOf,PS.data,hi]
theorem then_no (s:PS) (d:DataF) (k:KE) (hi:k.is=false):s.then_ (thenOf d) k=s.fail 10:=by
 cases d <;> simp [PS.then_,thenOf,hi]
set_option maxHeartbeats 1000000 in
theorem there1_any (w:World) (L:RLay) (v:Env) (q:Option Nat) (s:PS) (h:RunIs w L v q s) (d:DataF) (g1 g2:Nat) (u:Value) (h1:RBox w g1 L.R) (h2:CellB w g2 #[u] 81) (k:KE)
  (hd:k.is=true→∀ W,Below w.heap.size w W→FnAt W u (.string (strB k.data)) (VPost W L v q (s.data d k.data))) :
  Calls Tryz.prog 67 #[encK k,ptrV g1,ptrV g2] w (VPost w L v q (s.then_ (thenOf d) k)):=by
 have hB:=h.size
 have hlt1:=h1.lt
 have hlt2:=h2.lt
 have c1:=RBox.cell h1
 have c2:w.cell? ⟨g2,0,none⟩=some u:=h2.cell 0
 obtain⟨X,hX⟩:∃ X,X=strB k.data:=⟨_,rfl⟩
 obtain⟨Y,hY⟩:∃ Y,Y=strB k.path:=⟨_,rfl⟩
 rw [ptrV,ptrV]
 cases hi:k.is with
 | true =>
  rw [then_yes s d k hi,encK,hi,← hX,← hY]
  obtain⟨Pq,hPq⟩:∃ Pq:Ending→World→Prop,Pq=VPost w L v q (s.data d k.data):=⟨_,rfl⟩
  have hW:Below w.heap.size w (w.alloc (.cells #[.string Y,.bool true,.string X] 41)):=(Below.refl _ _).alloc (Nat.le_refl _) _
  obtain⟨f,fi,ca,rfl,heg,hcall⟩:=hd hi _ hW
  rw [← hX] at hcall
  have eg:∀ (args:Array Value) (w:World),(callFunc f args).run Tryz.prog w = .ok (.enter f args) w:=heg
  have hcall2:=hcall.mono (R':=fun e w2=>e = .returned (.tuple #[])∧Pq (.returned (.tuple #[])) w2) fun e w2 k=>⟨k.1,by rw [hPq];have:=k.since hW hB;rw [k.1] at this;exact this⟩
  rw [← hPq]
  have HC:=hid2 hcall2
  clear hcall hcall2 hPq hX hY hi h heg hd h1 h2 hW
  go_enter Tryz.func67,Tryz.ntmps67
  go_wp2_with fail
  refine HC.out.mono ?_
  rintro e w1 ⟨rfl,hp⟩
  have HP:=hid2 hp
  clear hp
  go_wp2_with fail
  refine bodyPost_ret (results_none rfl _ _ _) rfl ?_
  exact HP.out
 | false =>
  rw [then_no s d k hi,encK,hi,← hX,← hY]
  have hA:=fun (W:World) (hW:Below w.heap.size w W)=>fail_any W L v q s (h.below hW) 10
  obtain⟨R,hR⟩:∃ R,R=L.R:=⟨_,rfl⟩
  rw [← hR] at hA c1
  rw [ptrV] at hA
  obtain⟨Pq,hPq⟩:∃ Pq:Ending→World→Prop,Pq=VPost w L v q (s.fail 10):=⟨_,rfl⟩
  have hA2:∀ (W:World),Below w.heap.size w W→Calls Tryz.prog 46 #[.pointer (some ⟨R,0,none⟩),.int .i64 10] W fun e w2=>e = .returned (.tuple #[])∧Pq (.returned (.tuple #[])) w2:=fun W hW=>(hA W hW).mono fun e w2 k=>⟨k.1,by rw [hPq];have:=k.since hW hB;rw [k.1] at this;exact this⟩
  rw [← hPq]
  have HA:=hid2 hA2
  clear hA hA2 hPq hX hY hi h hR hd h1 h2
  go_enter Tryz.func67,Tryz.ntmps67
  go_wp2_with (go_at_call 46; refine (HA.out _ ((Below.refl _ _).alloc (Nat.le_refl _) _)).mono ?_;rintro e w1 ⟨rfl,hp⟩;have HP:=hid2 hp;clear hp)
  refine bodyPost_ret (results_none rfl _ _ _) rfl ?_
  exact HP.out
set_option maxHeartbeats 1000000 in
theorem there_any (w:World) (R:Nat) (q:Option Nat) (u:Value) (d:DataF) (hd:DataIs w R q u d):Calls Tryz.prog 40 #[ptrV R,u] w fun e w'=>(∃ u2,e = .returned u2∧ThereIs w' R q u2 d)∧Below w.heap.size w w':=by
 have hA:Below w.heap.size w ((w.alloc (.cells #[.pointer (some ⟨R,0,none⟩)] 26)).alloc (.cells #[u] 81)):=(((Below.refl _ _).alloc (Nat.le_refl _) _)).alloc (by rw [World.size_alloc];omega) _
 have hT:ThereIs ((w.alloc (.cells #[.pointer (some ⟨R,0,none⟩)] 26)).alloc (.cells #[u] 81)) R q (.func (.func 67) #[] #[.pointer (some ⟨w.heap.size,0,none⟩),.pointer (some ⟨w.heap.size+1,0,none⟩)]) d:=by
  refine⟨w.heap.size,w.heap.size+1,u,rfl,?_,?_,?_⟩
  ·exact (Below.heap_alloc _ _ _ (by rw [World.size_alloc];omega)).trans (heap_alloc_new w _)
  ·have:=heap_alloc_new (w.alloc (.cells #[.pointer (some ⟨R,0,none⟩)] 26)) (.cells #[u] 81)
   rw [World.size_alloc] at this
   exact this
  ·exact DataIs.keep (B:=0) hd (TBut.of_below hA (Nat.zero_le _))
 obtain⟨f,fi,ca,rfl⟩:∃ f fi ca,u = .func f fi ca:=by
  cases d with
  | add=>exact⟨_,_,_,hd⟩
  | scan x =>
   obtain⟨a,b,c,e,_⟩:=hd
   exact⟨_,_,_,e⟩
 rw [ptrV]
 obtain⟨Pq,hPq⟩:∃ Pq:Value→World→Prop,Pq=fun u2 w'=>ThereIs w' R q u2 d∧Below w.heap.size w w':=⟨_,rfl⟩
 have HT:Hid2 (Pq _ _):=hid2 (by rw [hPq];exact⟨hT,hA⟩)
 refine Calls.mono (R:=fun e w'=>∃ u2,e = .returned u2∧Pq u2 w') ?_ fun e w' k=>by rw [hPq] at k;obtain⟨u2,k1,k2,k3⟩:=k;exact⟨⟨u2,k1,k2⟩,k3⟩
 clear hA hT hPq hd
 go_enter Tryz.func40,Tryz.ntmps40
 go_wp2_with fail
 go_ret
 exact⟨_,rfl,HT.out⟩
end Go.Proofs.YtnecjdhamohadaaGreatDoor
namespace Go.Proofs.YtnecjdhamohadaaGreatDoor
open Go
section
variable {P:Program} {lp n:Nat}
theorem fenced_round (P:Program) (m:Machine) (l:Nat):m.fenced P (Fence.wide.inRound l):=fenced_wide P m
theorem callsIn_round {f:FuncId} {args:Array Value} {w:World} {R:Ending→World→Prop} (h:Calls P f args w R):CallsIn (Fence.wide.inRound lp) n P f args w R:=(callsIn_wide (n:=n)).2 h
theorem rowsIn_round {row:String} {args:Array Value} {w:World} {R:Value→World→Prop} (h:Rows P row args w R):RowsIn (Fence.wide.inRound lp) n P row args w R:=fun c cs _=>by
 obtain⟨v,w',r,s⟩:=h c cs
 exact⟨v,w',r,(StepsIn.of_steps s).mono fun m _=>fenced_round P m lp⟩
theorem Oper.wpIn_round {o:Oper} {a:Act} {w:World} {K:Act→World→Prop} {Q:Exit→Act→World→Prop} (ho:∀ c,o.op ≠ .defer c) (h:o.wp P a w K Q):o.wpIn (Fence.wide.inRound lp) n P a w K Q:=by
 refine⟨fun _ _=>trivial,?_⟩
 rw [Oper.semAt_eq _ _ _ ho]
 unfold Oper.wp at h
 generalize (execOp a.eval o).run P w=r at *
 cases r with
 | ok x w' =>
  cases x <;> simp only [Oper.upon,Oper.uponIn] at h ⊢ <;>
   first
    | exact h
    | exact⟨fun e=>(by cases e),callsIn_round h⟩
    | exact⟨fun e=>(by cases e),rowsIn_round h⟩
 | halt x w'=>cases x <;> simp only [Oper.upon,Oper.uponIn] at h ⊢ <;> exact h
def NoOut (Q:Exit→Act→World→Prop):Exit→Act→World→Prop
 | .outgrown,_,_=>False
 | e,a,w=>Q e a w
theorem NoOut.imp {Q:Exit→Act→World→Prop}:∀ (e:Exit) (a:Act) (w:World),NoOut Q e a w→Q e a w:=fun e a w h=>by
 cases e <;> first | exact h | exact (h:False).elim
theorem NoOut.lets {Q:Exit→Act→World→Prop}:¬ LetsOut (NoOut Q):=by
 rintro⟨a,w,h⟩
 exact h
theorem wpAnyIn_round {ops:Array Oper} {md:Region.Mode} {Q:Exit→Act→World→Prop} (hd:∀ (i:Nat) (o:Oper) c,ops[i]?=some o→o.op ≠ .defer c) (hl:¬ LetsOut Q):∀ (fuel:Nat) (listed:Array Bool) (a:Act) (w:World),wpAny P md ops Q fuel listed a w→wpAnyIn (Fence.wide.inRound lp) n P md ops Q fuel listed a w
 | 0,_,_,_,h=>h
 | fuel+1,listed,a,w,h=>by
  refine⟨h.1,fun i hi=>?_⟩
  have h2:=h.2 i hi
  unfold wpOp at h2
  unfold wpOpIn
  cases ho:ops[i]? with
  | none =>
   simp only [ho] at h2 ⊢
   exact wpAnyIn_round hd hl fuel _ a w h2
  | some o =>
   simp only [ho] at h2 ⊢
   by_cases hw:Region.wanted o (yielded ops a.tmps)=true
   ·rw [if_pos hw] at h2
    rw [if_pos hw]
    rcases h2 with h2 | h2
    ·exact Oper.wpIn_mono (fun a w k=>wpAnyIn_round hd hl fuel _ a w k) (Oper.wpIn_round (hd i o · ho) h2)
    ·exact absurd h2.2 hl
   ·rw [if_neg hw] at h2
    rw [if_neg hw]
    exact⟨fun _ _=>trivial,wpAnyIn_round hd hl fuel _ _ w h2⟩
theorem wpIn_region_rel {id:Nat} {Q:Exit→Act→World→Prop} {w:World} {l:List Oper} {T:Array Value} {D:List Deferred} (m:Nat) (hm:P.follows .mixedOrders=true)
  (hB:headB l.toArray m=true) (hd:distinctB (l.take m)=true) (N:Nat) (hN:T.size=N) (hNB:(l.all fun o=>(o.dst.map fun d=>decide (d < N)).getD true)=true) (hde:(l.all fun o=>match o.op with | .defer _=>false | _=>true)=true)
  (V:Nat→Value→World→Prop) (M:World→Prop) (Ext:World→World→Prop) (hM0:M w.drew) (hV:∀ j v w w',Ext w w'→V j v w→V j v w')
  (hop:∀ i o,i < m→l[i]?=some o→o.guard=none∧∀ (T':Array Value) (w:World),M w→T'.size=T.size→(∀ t,dstIn t (l.take m)=false→T'[t]?=T[t]?) →
   (∀ e∈o.after,Region.binds .any e=true→∀ oe d,l[e.on]?=some oe→oe.dst=some d→∃ v,T'[d]?=some v∧V e.on v w) →
   ∀ K:Act→World→Prop,(∀ v w',V i v w'→M w'→Ext w w'→K ((⟨T',D⟩:Act).put o.dst v) w')→Oper.wp P o ⟨T',D⟩ w K (NoOut Q))
  (hend:∀ (u:Nat→Value) (w:World),M w→(∀ j,j < m→V j (u j) w)→wpList P l.toArray (NoOut Q) (l.drop m) ⟨fillAll T (l.take m) u 0,D⟩ w) :
  (Code.region id l.toArray true).wpIn (Fence.wide.inRound lp) n P Q ⟨T,D⟩ w:=by
 refine wpIn_mono (Q:=NoOut Q) (wpIn_region_any hm (wpAnyIn_round (fun i o c ho hc=>?_) NoOut.lets _ _ _ _ (wpAny_rel m hB hd N hN hNB V M Ext hM0 hV hop hend))) NoOut.imp
 have h1:=List.all_eq_true.1 hde o (List.mem_of_getElem? (by simpa using ho))
 rw [hc] at h1
 cases h1
end
end Go.Proofs.YtnecjdhamohadaaGreatDoor
namespace Go.Proofs.YtnecjdhamohadaaGreatDoor
open Go.RowKit Go.Maps
set_option maxRecDepth 100000
theorem info_fn:(Tryz.prog.info? 1).map (fun i=>(i.zero,i.size,i.bytes))=some (some .nilFunc,1,8):=by kernel_rfl
theorem grownBy_trans {a b c:World} {r:Option Nat} (h:a.grownBy b r) (k:b.grownBy c r):a.grownBy c r :=
 ⟨k.os.trans h.os,k.tape.trans h.tape,k.output.trans h.output,Nat.le_trans h.size k.size,fun i hi hr=>(k.block i (Nat.lt_of_lt_of_le hi h.size) hr).trans (h.block i hi hr)⟩
def PushM (W:World) (B:Nat) (A:Option Addr) (n c:Nat) (V:List Value) (w2:World):Prop:=W.grownBy w2 (blockOf A)∧Own w2 B 1 1 A n c V
def PushX (B:Nat) (A:Option Addr) (n c:Nat) (V:List Value) (u:Value) (j:Nat) (v:Value) (w:World):Prop :=
 (j=6→∃ g,v = .slice (some ⟨g,0,none⟩) 1 1∧w.heap[g]?=some (.cells #[u] 1 (0,0))∧some g≠blockOf A) ∧
 (j=7→∃ A' c',v = .slice A' (n+1) c'∧Came B 1 1 A c (n+1) (V++[u]) A' c' w)
theorem PushX.keep {B n c j:Nat} {A:Option Addr} {V:List Value} {u v:Value} {w w':World} (hk:KeptBut B 1 1 A c (n+1) (V++[u]) w w') (h:PushX B A n c V u j v w):PushX B A n c V u j v w' :=
 ⟨fun e=>by
  obtain⟨g,e1,e2,e3⟩:=h.1 e
  exact⟨g,e1,(hk.1.block g (heap_lt e2) e3).trans e2,e3⟩,fun e=>by
  obtain⟨A',c',e1,e2⟩:=h.2 e
  exact⟨A',c',e1,hk.2 _ _ e2⟩⟩
theorem PushM.tbut {W w2:World} {B n c:Nat} {A:Option Addr} {V:List Value} (h:PushM W B A n c V w2) (ho:Own W B 1 1 A n c V) (hB:B≤W.heap.size):TBut B W w2:=by
 refine⟨h.1.os,h.1.tape,h.1.output,h.1.size,fun k hk=>h.1.block k (by omega) fun e=>?_,fun k cs t fr hk _ h2=>h.1.block k (heap_lt hk) fun e=>?_⟩
 ·have:=(ho.block k e.symm).1
  omega
 ·exact ho.ne hk (Ne.symm h2) e.symm
theorem PushM.start {W:World} {B n c:Nat} {A:Option Addr} {V:List Value} (ho:Own W B 1 1 A n c V):PushM W B A n c V W.drew:=⟨⟨rfl,rfl,rfl,Nat.le_refl _,fun _ _ _=>rfl⟩,ho⟩
theorem PushM.newb {W w2:World} {B n c:Nat} {A:Option Addr} {V:List Value} (h:PushM W B A n c V w2):some w2.heap.size≠blockOf A:=fun e=>by
 have:=(h.2.block _ e.symm).2.1
 omega
theorem PushM.alloc {W w2:World} {B n c:Nat} {A:Option Addr} {V:List Value} (h:PushM W B A n c V w2) (o:Obj):PushM W B A n c V (w2.alloc o):=⟨grownBy_trans h.1 (World.grownBy_alloc w2 o _),h.2.alloc o⟩
def MapAt (w:World) (L:RLay) (q:Option Nat) (s:PS):Prop:=∃ (g:Nat) (M:Tab Bool),q=some g∧L.B≤g∧g≠L.m∧MapIs w Tryz.prog 9 encB g s.seen.length M∧∀ p,getM M p=if p∈s.seen then some true else none
theorem cells_ne_map {α:Type} {enc:α→Value} {w:World} {P:Program} {k:TypeId} {b n:Nat} {M:Tab α} (h:MapIs w P k enc b n M) {g:Nat} {cs:Array Value} {t:TypeId} {fr:Nat × Nat} (hg:w.heap[g]?=some (.cells cs t fr)):b≠g:=by
 rintro rfl
 exact h.isMap hg
theorem map_kept {α:Type} {enc:α→Value} {W w2:World} {B n c:Nat} {A:Option Addr} {V:List Value} (h:PushM W B A n c V w2) (ho:Own W B 1 1 A n c V) {P:Program} {k:TypeId} {b m:Nat} {M:Tab α} (hm:MapIs W P k enc b m M):MapIs w2 P k enc b m M:=by
 refine hm.keep (h.1.block b hm.lt fun e=>?_)
 obtain⟨_,_,cur,fr,hc⟩:=ho.block b e.symm
 exact hm.isMap hc
theorem MapAt.below {w w':World} {L:RLay} {q:Option Nat} {s:PS} (h:MapAt w L q s) (hb:Below w.heap.size w w'):MapAt w' L q s:=by
 obtain⟨g,M,h1,h2,h3,h4,h5⟩:=h
 exact⟨g,M,h1,h2,h3,h4.below hb h4.lt,h5⟩
theorem MapAt.setCell {w:World} {L:RLay} {q:Option Nat} {s:PS} (h:MapAt w L q s) {g:Nat} {cs:Array Value} {t:TypeId} {fr:Nat × Nat} (hg:w.heap[g]?=some (.cells cs t fr)) (o:Nat) (u:Value):MapAt (w.setCell ⟨g,o,none⟩ u) L q s:=by
 obtain⟨b,M,h1,h2,h3,h4,h5⟩:=h
 exact⟨b,M,h1,h2,h3,h4.keep (Below.heap_setCell _ _ _ _ (cells_ne_map h4 hg)),h5⟩
theorem RunAt.push {W w2:World} {L:RLay} {v:Env} {q:Option Nat} {s:PS} {A A':Option Addr} {c c':Nat} {us:List Value} {u:Value} {t:TaskE} (h:RunAt W L v q s A c us)
  (hm:PushM W L.B A s.todo.length c us.reverse w2) (hc:Came L.B 1 1 A c (s.todo.length+1) (us.reverse++[u]) A' c' w2) (ht:TaskIs w2 L.R q u t) (hs:t.noMap=true∨MapAt W L q s) :
  RunAt (w2.setCell ⟨L.R,0,none⟩ (.slice A' (s.todo.length+1) c')) L v q { s with todo:=t :: s.todo } A' c' (u :: us)∧TBut L.B W (w2.setCell ⟨L.R,0,none⟩ (.slice A' (s.todo.length+1) c')):=by
 have hB:=h.size
 have hb:=hm.tbut h.row hB
 have hrun:w2.heap[L.R]?=some (.cells (runV A s.todo.length c L.EA v.env.length L.ec s.buf L.m s.asks s.waits s.over) 63 (0,0)) :=
  (hm.1.block L.R h.run.lt fun e=>h.row.ne h.run (by decide) e.symm).trans h.run
 have hb2:TBut L.B w2 (w2.setCell ⟨L.R,0,none⟩ (.slice A' (s.todo.length+1) c')):=TBut.setCell (TBut.refl _ _) hrun (.inl rfl) h.base _ _
 have hb3:=hb.trans hb2
 have hmap:∀ {α:Type} {enc:α→Value} {b m:Nat} {M:Tab α},MapIs W Tryz.prog 9 enc b m M→MapIs (w2.setCell ⟨L.R,0,none⟩ (.slice A' (s.todo.length+1) c')) Tryz.prog 9 enc b m M:=fun hM =>
  (map_kept hm h.row hM).keep (Below.heap_setCell _ _ _ _ (cells_ne_map (map_kept hm h.row hM) hrun))
 refine⟨⟨?_,h.base,?_,?_,h.env.tbut hb3 (by decide) (by decide),?_,?_⟩,hb3⟩
 ·unfold CellB
  rw [setCell_eq_setRow w2 L.R 0 _ _ _ _ hrun,setRow_heap w2 L.R _ _ _ _ hrun]
  rfl
 ·rw [List.reverse_cons]
  exact hc.1.setOther (p:=⟨L.R,0,none⟩) (hc.1.ne hrun (by decide)) _
 ·intro i t' hi
  cases i with
  | zero =>
   rw [List.getElem?_cons_zero] at hi
   cases hi
   exact⟨u,rfl,ht.keep hb2⟩
  | succ i =>
   rw [List.getElem?_cons_succ] at hi
   obtain⟨x,h1,h2⟩:=h.tasks i t' hi
   exact⟨x,by rw [List.getElem?_cons_succ];exact h1,h2.keep hb3⟩
 ·obtain⟨h1,M,h2,h3⟩:=h.known
  exact⟨h1,M,hmap h2,h3⟩
 ·have hin:MapAt W L q s→(∃ (g:Nat) (M:Tab Bool),q=some g∧L.B≤g∧g≠L.m∧MapIs (w2.setCell ⟨L.R,0,none⟩ (.slice A' (s.todo.length+1) c')) Tryz.prog 9 encB g s.seen.length M∧∀ p,getM M p=if p∈s.seen then some true else none):=fun hx=>by
   obtain⟨g,M,h1,h2,h3,h4,h5⟩:=hx
   exact⟨g,M,h1,h2,h3,hmap h4,h5⟩
  rcases h.seen with h1 | h1
  ·rcases hs with hs | hs
   ·left
    intro x hx
    rcases List.mem_cons.1 hx with rfl | hx
    ·exact hs
    ·exact h1 x hx
   ·exact .inr (hin hs)
  ·exact .inr (hin h1)
end Go.Proofs.YtnecjdhamohadaaGreatDoor
