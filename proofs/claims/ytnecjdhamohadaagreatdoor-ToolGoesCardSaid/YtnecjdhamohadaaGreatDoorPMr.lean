/- A tool's start. -/
import Derived.Test.YtnecjdhamohadaaGreatDoorPMq
import Derived.Test.YtnecjdhamohadaaGreatDoorPMp
set_option linter.unusedSimpArgs false
set_option linter.unusedVariables false
namespace Go.Proofs.YtnecjdhamohadaaGreatDoor
open Go.RowKit Go.Maps Go.Shelf
attribute [local go_sem] Oper.semAt_some
set_option maxRecDepth 100000
theorem info_set2:(Tryz.prog.info? 55).map (fun i=>(i.zero,i.size,i.bytes))=some (some (.agg #[.string ⟨#[]⟩,.string ⟨#[]⟩]),2,32):=by kernel_rfl
theorem setV_one:∀ (l:List (TT × TT)),∀ v∈setV l,v.oneCell'=true:=fun l v hv=>by
 rw [setV,List.mem_flatMap] at hv
 obtain⟨p,_,hp⟩:=hv
 simp at hp
 rcases hp with rfl | rfl <;> rfl
theorem setV_len:∀ l:List (TT × TT),(setV l).length=l.length * 2
 | []=>rfl
 | x :: l=>by
  have:=setV_len l
  rw [List.length_cons,show setV (x :: l) = .string (strB x.1) :: .string (strB x.2) :: setV l from rfl,List.length_cons,List.length_cons,this]
  omega
theorem clone_any (w:World) (A:Option Addr) (c:Nat) (l:List (TT × TT)) (hr:Rd w 2 A l.length (setV l)) (hl:l.length≤1000000) :
  Calls Tryz.prog 25 #[.slice A l.length c] w fun e w'=>∃ A' c',e = .returned (.slice A' l.length c')∧Own w' w.heap.size 55 2 A' l.length c' (setV l)∧Below w.heap.size w w':=by
 cases A with
 | none =>
  have h0:l.length=0:=by
   rcases Nat.eq_zero_or_pos l.length with h0 | h0
   ·exact h0
   ·obtain⟨b,o,e,_⟩:=hr.2 h0
    cases e
  have hl0:l=[]:=List.eq_nil_of_length_eq_zero h0
  subst hl0
  refine (AnyE.slices_Clone_nil Tryz.tlClone 0 c w).mono ?_
  rintro e w' ⟨rfl,rfl⟩
  exact⟨none,0,rfl,Own.nil _ _ _ _,Below.refl _ _⟩
 | some a =>
  have hnl:∀ (W:World),(binOp .eql 22 (.slice (some a) l.length c) (.slice none 0 0)).run Tryz.prog W = .ok (.bool false) W:=fun W=>Lib.run_eql_slice_nil W _ _ (some a) l.length c 0 0 Tryz.underlying22
  obtain⟨n,hn⟩:∃ n,n=l.length:=⟨_,rfl⟩
  obtain⟨X,hX⟩:∃ X,X=setV l:=⟨_,rfl⟩
  have hone:∀ v∈X,v.oneCell'=true:=by rw [hX];exact setV_one l
  rw [← hn,← hX] at hr
  rw [← hn] at hl hnl ⊢
  rw [← hX]
  clear hn hX
  go_enter Tryz.func25,Tryz.ntmps25
  go_wp2_with (at_builtin;have _t:=hr;go_must ((with_reducible refine wpList_append_lit 55 (.agg #[.string ⟨#[]⟩,.string ⟨#[]⟩]) 2 32 Tryz.underlying22 info_set2 rfl w.heap.size (some ⟨w.heap.size,0,none⟩) 0 0 [] (Own.lit w #[] _ 2 0 _ (Nat.le_refl _) (by decide) rfl) n X (.slice (some a) n c) (Src.slice Tryz.underlying22 (hr.below_all ((Below.refl _ w).alloc (Nat.le_refl _) _))) hone ?_ ?_ ?_ ?_ ?_);(unfold maxLen;omega);omega;(simp);exact⟨rfl,rfl⟩;intro A3 c3 w3 hown3 hgr3 hbl3;clear hr))
  refine bodyPost_ret (results_tmp rfl _ _ _) rfl ?_
  rw [List.nil_append,Nat.zero_add] at hown3
  exact⟨A3,c3,rfl,hown3,((Below.refl _ w).alloc (Nat.le_refl _) _).grown hgr3 (by simp) (fun k e=>by cases e;exact Nat.le_refl _)⟩

def cmdsOn {P:TCmd→Prop} (pre:List (CX P)):List TaskE:=pre.reverse.map fun x=>TaskE.cmd x.1.2.c
theorem cmdsOn_snoc {P:TCmd→Prop} (pre:List (CX P)) (x:CX P):cmdsOn (pre++[x]) = .cmd x.1.2.c :: cmdsOn pre:=by simp [cmdsOn]
theorem cmdsOn_all {P:TCmd→Prop} {ys:List (CX P)} {l:List TCmd} (h:ys.map (·.1.2)=l.reverse):cmdsOn ys=(l.map (·.c)).map TaskE.cmd:=by
 have:ys.reverse.map (·.1.2)=l:=by rw [List.map_reverse,h,List.reverse_reverse]
 rw [← this,cmdsOn,List.map_map,List.map_map]
 rfl
def PS.begun (l:List TaskE):PS:=⟨l,[],[],[],false,DE.none,[]⟩
def StI {P:TCmd→Prop} (w:World) (L:RLay) (v:Env) (pre:List (CX P)) (W:World):Prop:=RunIs W L v none (PS.begun (cmdsOn pre))∧TBut L.B w W
theorem StI.below {P:TCmd→Prop} {w W W':World} {L:RLay} {v:Env} {pre:List (CX P)} (h:StI w L v pre W) (hb:Below W.heap.size W W'):StI w L v pre W':=⟨h.1.below hb,h.2.trans (TBut.of_below hb h.1.size)⟩
theorem run_new {w1:World} {B:Nat} {v:Env} {A:Option Addr} {c:Nat} (hB:B≤w1.heap.size) (he:Own w1 B 55 2 A v.env.length c (setV v.env)) :
  RunAt ((w1.alloc (.map #[] 0)).alloc (.cells (runV none 0 0 A v.env.length c [] w1.heap.size [] false DE.none) 63)) ⟨B,w1.heap.size+1,w1.heap.size,A,c⟩ v none (PS.begun []) none 0 []:=by
 refine⟨?_,Nat.le_succ_of_le hB,Own.nil _ _ _ _,fun i t ht=>by simp [PS.begun] at ht,((he.alloc _).alloc _),⟨hB,[],(MapIs.made w1 Tryz.prog 9 encK).alloc _,rfl,fun p=>rfl⟩,.inl fun t ht=>by simp [PS.begun] at ht⟩
 have:=World.alloc_heap_new (w1.alloc (.map #[] 0)) (.cells (runV none 0 0 A v.env.length c [] w1.heap.size [] false DE.none) 63)
 rw [World.size_alloc] at this
 exact this
def StartPost (w:World) (v:Env) (text:TT) (e:Ending) (w':World):Prop :=
 ((checkT mayB text).1≠0∧e = .returned (.tuple #[.pointer none,.int .i64 (checkT mayB text).1])∧Below w.heap.size w w') ∨
 ((checkT mayB text).1=0∧∃ L:RLay,e = .returned (.tuple #[ptrV L.R,.int .i64 0])∧L.B=w.heap.size∧RunIs w' L v none (PS.start (cmdsOf mayB (linesT text)))∧TBut L.B w w')
set_option maxHeartbeats 8000000 in
theorem start_bad (w:World) (v:Env) (text:TT) (hs:text.length≤1000000) (hM:MaxL w) (hbad:(checkT mayB text).1≠0) (A:Option Addr) (n c:Nat) :
  Calls Tryz.prog 11 #[.string (strB text),.slice A n c] w (StartPost w v text):=by
 have cC:=commands_any w text hs hM
 obtain⟨Pq,hPq⟩:∃ Pq:Ending→World→Prop,Pq=StartPost w v text:=⟨_,rfl⟩
 obtain⟨X,hX⟩:∃ X,X=strB text:=⟨_,rfl⟩
 obtain⟨ck,hck⟩:∃ ck:Int,ck=((checkT mayB text).1:Int):=⟨_,rfl⟩
 obtain⟨ln,hln⟩:∃ ln:Int,ln=((checkT mayB text).2:Int):=⟨_,rfl⟩
 have hfin:∀ w',Below w.heap.size w w'→Pq (.returned (.tuple #[.pointer none,.int .i64 ck])) w':=fun w' hb=>by
  rw [hPq,hck]
  exact .inl ⟨hbad,rfl,hb⟩
 have cC2:Calls Tryz.prog 24 #[.string X] w fun e w'=>∃ (A:Option Addr) (n c:Nat),e = .returned (.tuple #[.slice A n c,.int .i64 ck,.int .i64 ln])∧Below w.heap.size w w':=by
  rw [hX,hck,hln]
  refine cC.mono fun e w' k=>?_
  obtain⟨A,c,X,h1,_,_,h4⟩:=k
  exact⟨A,X.length,c,h1,h4⟩
 have hck0:ck≠0:=by omega
 have hckb:(ck != 0)=true:=by simpa using hck0
 have HF:=hid2 hfin
 have CC:=hid2 cC2
 rw [← hPq,← hX]
 clear cC cC2 hfin hPq hX hck hln hM hs hbad
 go_enter Tryz.func11,Tryz.ntmps11
 go_wp2_with (go_at_call 24; refine CC.out.mono ?_;rintro e w1 ⟨A1,n1,c1,rfl,hb⟩;have HB:=hid2 hb;clear hb)
 exact HF.out _ HB.out
set_option maxHeartbeats 8000000 in
theorem start_ok (w:World) (v:Env) (hv:EnvFit v) (text:TT) (hs:text.length≤1000000) (hM:MaxL w) (hok:(checkT mayB text).1=0) (EA:Option Addr) (ec:Nat) (hr:Rd w 2 EA v.env.length (setV v.env)) :
  Calls Tryz.prog 11 #[.string (strB text),.slice EA v.env.length ec] w (StartPost w v text):=by
 have cC:=commands_any w text hs hM
 have hcl:=cmdsOf_len mayB (linesT text)
 have hll:=linesT_len text
 have hcm:(cmdsT mayB text).1=cmdsOf mayB (linesT text):=by rw [cmdsT_eq,if_pos hok]
 obtain⟨Pq,hPq⟩:∃ Pq:Ending→World→Prop,Pq=StartPost w v text:=⟨_,rfl⟩
 obtain⟨X0,hX0⟩:∃ X,X=strB text:=⟨_,rfl⟩
 obtain⟨en,hen⟩:∃ en,en=v.env.length:=⟨_,rfl⟩
 have cC2:Calls Tryz.prog 24 #[.string X0] w fun e w'=>∃ (A:Option Addr) (n c:Nat) (X:List TCmd) (ln:Int),e = .returned (.tuple #[.slice A n c,.int .i64 0,.int .i64 ln])∧n=X.length∧CmdsAt w' w.heap.size A c X∧X.map (·.c)=cmdsOf mayB (linesT text)∧Below w.heap.size w w':=by
  rw [hX0]
  refine cC.mono fun e w' k=>?_
  obtain⟨A,c,X,h1,h2,h3,h4⟩:=k
  rw [hok] at h1
  exact⟨A,X.length,c,X,_,h1,rfl,h2,h3.trans hcm,h4⟩
 have cL:=hid2 (fun (w2:World) (hb:Below w.heap.size w w2)=>show Calls Tryz.prog 25 #[.slice EA en ec] w2 fun e w'=>∃ A' c',e = .returned (.slice A' en c')∧Own w' w2.heap.size 55 2 A' en c' (setV v.env)∧Below w2.heap.size w2 w' from by
  rw [hen]
  exact clone_any w2 EA ec v.env (hr.below_all hb) hv.len)
 have CC:=hid2 cC2
 have HPQ:=hid2 hPq
 have HEN:=hid2 hen
 have HOK:=hid2 hok
 have HCL:=hid2 (show (cmdsOf mayB (linesT text)).length≤1000001 by omega)
 rw [← hPq,← hX0,← hen]
 clear cC cC2 hPq hX0 hM hs hok hr hv hcl hll hcm hen
 have hfB:=wide_fn 26
 have hfC:=wide_fn 24
 have hfL:=wide_fn 25
 have hmm:=@run_makeMap Tryz.prog
 refine (callsIn_wide (n:=6)).1 ?_
 refine callsIn_of_wp_marks Tryz.func11 rfl trivial ?_ rfl
 simp only [Tryz.ntmps11,List.size_toArray,List.length_cons,List.length_nil,Nat.reduceAdd,Nat.reduceSub,Array.replicate_succ,Array.replicate_zero,List.push_toArray,List.append_toArray,List.nil_append,List.cons_append]
 gi_wp2_with (first
  | (gi_at_call 24; refine (callsIn_wide.2 CC.out).mono ?_;rintro e w1 ⟨A,n,c,X,ln,rfl,hn,hX,hXm,hb⟩;have HB1:=hid2 hb;have HX:=hid2 hX;have HXM:=hid2 hXm;have HNX:=hid2 hn;clear hb hX hXm hn)
  | (gi_at_call 25; refine (callsIn_wide.2 (cL.out w1 HB1.out)).mono ?_;rintro e w2 ⟨A2,c2,rfl,ho,hb⟩;have HO2:=hid2 ho;have HB2:=hid2 hb;clear ho hb)
  | (gi_at_call 26; refine (callsIn_wide.2 (cback_any _ A n c)).mono ?_;rintro e w' ⟨rfl,rfl⟩))
 obtain⟨L,hL⟩:∃ L:RLay,L=⟨w.heap.size,w2.heap.size+1,w2.heap.size,A2,c2⟩:=⟨_,rfl⟩
 have hb12:Below w.heap.size w w2:=HB1.out.trans (HB2.out.mono HB1.out.size)
 have hB2:w.heap.size≤w2.heap.size:=hb12.size
 have hrun:=run_new (w1:=w2) (B:=w.heap.size) (v:=v) (A:=A2) (c:=c2) hB2 (by have:=HO2.out.mono HB1.out.size;rw [HEN.out] at this;exact this)
 rw [← hL,← HEN.out] at hrun
 obtain⟨Wr,hWr⟩:∃ Wr,Wr=(w2.alloc (.map #[] 0)).alloc (.cells #[.slice none 0 0,.slice A2 en c2,.string ⟨#[]⟩,.map (some w2.heap.size),.string ⟨#[]⟩,.bool false,.int .i64 0,.string ⟨#[]⟩,.string ⟨#[]⟩,.int .i64 0] 63):=⟨_,rfl⟩
 have hrun2:RunAt Wr L v none (PS.begun []) none 0 []:=by rw [hWr];exact hrun
 have hsr:Wr.heap.size=w2.heap.size+1+1:=by rw [hWr];simp
 have hbr:Below w.heap.size w Wr:=by rw [hWr];exact (hb12.alloc hB2 _).alloc (by simp;omega) _
 have hbr2:Below w2.heap.size w2 Wr:=by rw [hWr];exact ((Below.refl _ _).alloc (Nat.le_refl _) _).alloc (by simp) _
 obtain⟨W0,hW0⟩:∃ W0,W0=(Wr.alloc (.cells #[.pointer (some ⟨w2.heap.size+1,0,none⟩)] 26)).alloc (.cells #[.slice A n c] 56):=⟨_,rfl⟩
 have hb0:Below Wr.heap.size Wr W0:=by rw [hW0];exact ((Below.refl _ _).alloc (Nat.le_refl _) _).alloc (by simp) _
 have hrb:CellB W0 (w2.heap.size+1+1) #[.pointer (some ⟨w2.heap.size+1,0,none⟩)] 26:=by
  rw [hW0,← hsr]
  unfold CellB
  rw [Below.heap_alloc _ _ _ (by simp)]
  exact World.alloc_heap_new Wr _
 have hsb:CellB W0 (w2.heap.size+1+1+1) #[.slice A n c] 56:=by
  rw [hW0,← hsr]
  have:=World.alloc_heap_new (Wr.alloc (.cells #[.pointer (some ⟨w2.heap.size+1,0,none⟩)] 26)) (.cells #[.slice A n c] 56)
  rwa [World.size_alloc] at this
 have hb10:Below w1.heap.size w1 W0:=(HB2.out.trans (hbr2.mono HB2.out.size)).trans (hb0.mono (by have:=HB2.out.size;omega))
 have hX0:=HX.out.below hb10
 have hbw0:Below w.heap.size w W0:=hbr.trans (hb0.mono hbr.size)
 have hnx:=HNX.out
 have hnl:n≤1000001:=by
  have h1:=congrArg List.length HXM.out
  rw [List.length_map] at h1
  have:=HCL.out
  omega
 have hLB:L.B=w.heap.size:=by rw [hL]
 have hLR:L.R=w2.heap.size+1:=by rw [hL]
 have hLm:L.m=w2.heap.size:=by rw [hL]
 have hs0:W0.heap.size=w2.heap.size+1+1+1+1:=by rw [hW0];simp [hsr]
 rw [show (((w2.alloc (.map #[] 0)).alloc (.cells #[.slice none 0 0,.slice A2 en c2,.string ⟨#[]⟩,.map (some w2.heap.size),.string ⟨#[]⟩,.bool false,.int .i64 0,.string ⟨#[]⟩,.string ⟨#[]⟩,.int .i64 0] 63)).alloc (.cells #[.pointer (some ⟨w2.heap.size+1,0,none⟩)] 26)).alloc (.cells #[.slice A n c] 56)=W0 by rw [hW0,hWr]]
 have hrun0:=hrun2.below hb0
 obtain⟨P,hP⟩:∃ P:TCmd→Prop,P=fun x=>Own W0 0 9 1 x.A x.c.ws.length x.cA (strV x.c.ws)∧∀ b,blockOf x.A=some b→b < L.R:=⟨_,rfl⟩
 have hall:∀ x∈X,P x:=fun x hx=>by
  rw [hP]
  refine⟨(hX0.words x hx).mono (Nat.zero_le _),fun b hb=>?_⟩
  have h1:=((HX.out.words x hx).block b hb).2.1
  have h2:=HB2.out.size
  rw [hLR]
  omega
 have hBW:L.B≤W0.heap.size:=by rw [hLB];exact hbw0.size
 have hstops:SeqStopsK Fence.wide 5 Tryz.prog 38 #[.pointer (some ⟨w2.heap.size+1+1+1,0,none⟩)] (encC (P:=P)) (TBut L.B) (fun ys=>ys.map (·.1.2)=X.reverse) (fun _=>True) n W0:=by
  have:=cback_stops P 5 (by omega) (w2.heap.size+1+1+1) L.B A c X (by omega) hall W0 hBW (by rw [← hnx];exact hsb) (fun W' hW=>(hX0.row.tbut hW (by decide) (by decide)).rd)
  rwa [← hnx] at this
 have h0:StI (P:=P) W0 L v [] W0:=⟨⟨none,0,[],hrun0⟩,TBut.refl _ _⟩
 have HB0:=hid2 hbw0
 have HRB:=hid2 hrb
 have HPP:=hid2 hP
 have HLR:=hid2 hLR
 have HLB:=hid2 hLB
 have HS0:=hid2 hs0
 have HBW:=hid2 hBW
 have hml:L.m < w2.heap.size+1:=by omega
 have hLBs:L.B≤w2.heap.size+1:=by omega
 obtain⟨R,hR⟩:∃ R,R=w2.heap.size+1:=⟨_,rfl⟩
 clear hrun hrun2 hWr hW0 hb0 hrb hsb hb10 hX0 hbw0 hbr hbr2 hsr hb12 hrun0 hP hall hL hLm hLR hnx
 refine wpIn_rangeFunc_ownH rfl (by omega) (gf:=38) (lb:=#[.pointer (some ⟨w2.heap.size+1+1+1,0,none⟩)]) rfl trivial (enters_of Tryz.func38 (by kernel_rfl) rfl)
  hstops TBut.trans (fun W l o o' hl h h1 _=>TBut.put W l o o' (Nat.le_trans HBW.out hl) h h1) (Below.refl _ _) (fun _=>rfl)
  (StI W0 L v)
  (fun _ _ _=>False)
  ?hI (fun _ _ _ _ _ hs _ _=>hs) h0
  (fun y a' W=>∃ Bx,CellB W Bx #[.slice y.1.2.A y.1.2.c.ws.length y.1.2.cA,.string (strB y.1.2.c.rest)] 68 ∧ a'={ tmps:=#[.string X0,.slice EA en ec,undef,undef,.pointer none,.int .i64 0,.slice A n c,.int .i64 0,.int .i64 ln,.pointer (some ⟨w2.heap.size+1+1,0,none⟩),undef,.pointer (some ⟨Bx,0,none⟩),.tuple #[.slice A n c,.int .i64 0,.int .i64 ln],.string X0,.tuple #[.slice A n c,.int .i64 0,.int .i64 ln],.slice A n c,.int .i64 0,.int .i64 ln,.int .i64 0,.bool false,undef,.slice EA en ec,.slice A2 en c2,.map (some w2.heap.size),.agg #[.slice none 0 0,.slice A2 en c2,.string ⟨#[]⟩,.map (some w2.heap.size),.string ⟨#[]⟩,.bool false,.int .i64 0,.string ⟨#[]⟩,.string ⟨#[]⟩,.int .i64 0],.pointer (some ⟨w2.heap.size+1,0,none⟩),.slice A n c,.func (.func 38) #[] #[.pointer (some ⟨w2.heap.size+1+1+1,0,none⟩)],.int .i64 y.1.1,.agg #[.slice y.1.2.A y.1.2.c.ws.length y.1.2.cA,.string (strB y.1.2.c.rest)],undef,undef,undef,undef,undef,undef,undef,undef,undef,undef,undef],defers:=[] })
  ?hAx ?assign ?body ?done ?stop
 case hI =>
  rintro pre W W' row ⟨⟨A1,c1,us,h1⟩,h3⟩ hg hrow
  exact⟨⟨A1,c1,us,h1.grow (n0:=W0.heap.size) hg hrow HBW.out h3.size (by rw [HS0.out];omega) (fun g e=>by cases e)⟩,h3.trans (TBut.grow (n0:=W0.heap.size) hg hrow HBW.out h3.size)⟩
 case hAx =>
  rintro y a' _ W W' row ⟨Bx,h1,h2⟩ hg hrow
  refine⟨Bx,?_,h2⟩
  unfold CellB at h1 ⊢
  refine (hg.block Bx (heap_lt h1) fun e=>?_).trans h1
  obtain⟨o,ho,hc⟩:=(hrow Bx e.symm).2
  rw [h1] at ho
  cases ho
  cases hc
 case assign =>
  rintro lp pre ⟨⟨ix,tc⟩,hx⟩ W K ⟨h1,h3⟩ hK
  simp only [encC]
  have HS:=hid2 (show StI (P:=P) W0 L v pre W from ⟨h1,h3⟩)
  have hBW':L.B≤W.heap.size:=h1.size
  clear h1 h3
  gi_wp2
  exact hK _ _ ((KeepsOthers.alloc _ _).from _) ((TBut.refl _ W).alloc hBW' _) (HS.out.below ((Below.refl _ W).alloc (Nat.le_refl _) _)) ⟨W.heap.size,World.alloc_heap_new W _,rfl⟩
 case body =>
  rintro lp pre ⟨⟨ix,tc⟩,hx⟩ a' W hlp hll ⟨⟨A1,c1,us,h1⟩,h3⟩ ⟨Bx,hBx,rfl⟩ hlt
  obtain⟨m,hm⟩:∃ m,m=(cmdsOn pre).length:=⟨_,rfl⟩
  have hm1:m≤1000000000000:=by
   rw [hm,cmdsOn,List.length_map,List.length_reverse]
   omega
  obtain⟨V,hV⟩:∃ V,V=us.reverse:=⟨_,rfl⟩
  have hB:L.B≤W.heap.size:=h1.size
  have hown:Own W L.B 1 1 A1 m c1 V:=by rw [hm,hV];exact h1.row
  have HOWN:=hid2 hown
  have hrb:RBox W (w2.heap.size+1+1) R:=by rw [hR];exact (CellB.keep HRB.out h3 (by decide) (by decide))
  have HRB2:=hid2 hrb
  have hrun0:=h1.run
  rw [HLR.out,← hR] at hrun0
  have HRR:=hid2 (show ∀ w3,PushM W L.B A1 m c1 V w3→CellB w3 R (runV A1 (cmdsOn pre).length c1 L.EA v.env.length L.ec [] L.m [] false DE.none) 63 from fun w3 hm=>(hm.1.block R hrun0.lt fun e=>HOWN.out.ne hrun0 (by decide) e.symm).trans hrun0)
  have HBOX:=hid2 (show ∀ w3,PushM W L.B A1 m c1 V w3→w3.cell? ⟨w2.heap.size+1+1,0,none⟩=some (.pointer (some ⟨R,0,none⟩)) from fun w3 hm=>(HRB2.out.keep (hm.tbut HOWN.out hB)).cell)
  have HRC:=hid2 (show ∀ w3,PushM W L.B A1 m c1 V w3→w3.cell? ⟨R,0,none⟩=some (.slice A1 m c1)∧w3.frozen? ⟨R,0,none⟩=false from fun w3 hmm=>by
   have hr:=HRR.out w3 hmm
   rw [← hm] at hr
   exact⟨cell_of_row w3 R 0 _ _ _ hr,frozen_of_row w3 R 0 _ _ hr⟩)
  have hwords:Own W 0 9 1 tc.A tc.c.ws.length tc.cA (strV tc.c.ws):=by
   rw [HPP.out] at hx
   exact Own.tbut hx.1 h3 (by decide) (by decide)
  have HWB:=hid2 (show ∀ b,blockOf tc.A=some b→b < L.R from by
   rw [HPP.out] at hx
   exact hx.2)
  have HWD:=hid2 hwords
  have HA:=hid2 h1
  have HTB:=hid2 h3
  have HBX:=hid2 hBx
  have HM:=hid2 hm
  have HV:=hid2 hV
  have HRE:=hid2 hR
  clear hm
  have hn:=hm1
  clear h1 h3 hBx hown hrb hrun0 hV hm1 hwords
  clear h0 hstops
  clear hR
  gi_wp2
  refine wpIn_region_rel 10 (by kernel_rfl) (by kernel_rfl) (by kernel_rfl) _ rfl (by kernel_rfl) (by kernel_rfl) (VV [some (.pointer (some ⟨R,0,none⟩)),some (.pointer (some ⟨R,0,none⟩)),some (.pointer (some ⟨R,0,none⟩)),some (.pointer (some ⟨R,0,none⟩)),some (.slice A1 m c1),some (.func (.func 27) #[] #[.pointer (some ⟨w2.heap.size+1+1,0,none⟩),.pointer (some ⟨Bx,0,none⟩)]),none,none,some (.pointer (some ⟨R,0,none⟩)),some (.pointer (some ⟨R,0,none⟩))] (PushX (L.B) A1 m c1 V (.func (.func 27) #[] #[.pointer (some ⟨w2.heap.size+1+1,0,none⟩),.pointer (some ⟨Bx,0,none⟩)]))) (PushM W (L.B) A1 m c1 V) (KeptBut (L.B) 1 1 A1 c1 (m+1) (V++[.func (.func 27) #[] #[.pointer (some ⟨w2.heap.size+1+1,0,none⟩),.pointer (some ⟨Bx,0,none⟩)]])) (PushM.start HOWN.out) (fun j v w1 w3 hb hv=>VV.keep (PushX.keep hb) hv) ?_ ?_
  ·refine of_allOps ⟨?_,?_,?_,?_,?_,?_,?_,?_,?_,?_,trivial⟩
   ·refine⟨rfl,fun T2 w3 hM hN hO hE K hK=>?_⟩
    have o9:T2[9]?=some (.pointer (some ⟨w2.heap.size+1+1,0,none⟩)):=hO 9 rfl
    clear hE hO hN
    have hcc:=HBOX.out w3 hM
    go_simp
    exact hK _ _ rfl hM (KeptBut.refl _)
   ·refine⟨rfl,fun T2 w3 hM hN hO hE K hK=>?_⟩
    have o9:T2[9]?=some (.pointer (some ⟨w2.heap.size+1+1,0,none⟩)):=hO 9 rfl
    clear hE hO hN
    have hcc:=HBOX.out w3 hM
    go_simp
    exact hK _ _ rfl hM (KeptBut.refl _)
   ·refine⟨rfl,fun T2 w3 hM hN hO hE K hK=>?_⟩
    obtain⟨v1,h1,e1⟩:=hE ⟨1,.data⟩ (by simp) rfl _ _ rfl rfl
    rw [show v1 = .pointer (some ⟨R,0,none⟩) from e1] at h1
    clear hE hO hN
    go_simp
    exact hK _ _ rfl hM (KeptBut.refl _)
   ·refine⟨rfl,fun T2 w3 hM hN hO hE K hK=>?_⟩
    obtain⟨v2,h2,e2⟩:=hE ⟨2,.data⟩ (by simp) rfl _ _ rfl rfl
    rw [show v2 = .pointer (some ⟨R,0,none⟩) from e2] at h2
    clear hE hO hN
    go_simp
    exact hK _ _ rfl hM (KeptBut.refl _)
   ·refine⟨rfl,fun T2 w3 hM hN hO hE K hK=>?_⟩
    obtain⟨v3,h3,e3⟩:=hE ⟨3,.data⟩ (by simp) rfl _ _ rfl rfl
    rw [show v3 = .pointer (some ⟨R,0,none⟩) from e3] at h3
    clear hE hO hN
    have hcc:=(HRC.out w3 hM).1
    go_simp
    exact hK _ _ rfl hM (KeptBut.refl _)
   ·refine⟨rfl,fun T2 w3 hM hN hO hE K hK=>?_⟩
    have o9:T2[9]?=some (.pointer (some ⟨w2.heap.size+1+1,0,none⟩)):=hO 9 rfl
    have o11:T2[11]?=some (.pointer (some ⟨Bx,0,none⟩)):=hO 11 rfl
    clear hE hO hN
    go_simp
    exact hK _ _ rfl hM (KeptBut.refl _)
   ·refine⟨rfl,fun T2 w3 hM hN hO hE K hK=>?_⟩
    obtain⟨v5,h5,e5⟩:=hE ⟨5,.data⟩ (by simp) rfl _ _ rfl rfl
    rw [show v5 = .func (.func 27) #[] #[.pointer (some ⟨w2.heap.size+1+1,0,none⟩),.pointer (some ⟨Bx,0,none⟩)] from e5] at h5
    clear hE hO hN
    go_simp
    exact hK _ _ ⟨fun _=>⟨_,rfl,World.alloc_heap_new w3 _,hM.newb⟩,fun e=>absurd e (by decide)⟩ (hM.alloc _) (KeptBut.alloc w3 _)
   ·refine⟨rfl,fun T2 w3 hM hN hO hE K hK=>?_⟩
    obtain⟨v4,h4,e4⟩:=hE ⟨4,.data⟩ (by simp) rfl _ _ rfl rfl
    rw [show v4 = .slice A1 m c1 from e4] at h4
    obtain⟨v6,h6,e6⟩:=hE ⟨6,.data⟩ (by simp) rfl _ _ rfl rfl
    clear hE hO hN
    obtain⟨g9,rfl,hr9,hne9⟩:=(show PushX (L.B) A1 m c1 V (.func (.func 27) #[] #[.pointer (some ⟨w2.heap.size+1+1,0,none⟩),.pointer (some ⟨Bx,0,none⟩)]) 6 v6 w3 from e6).1 rfl
    have rd9:Rd w3 1 (some ⟨g9,0,none⟩) 1 [.func (.func 27) #[] #[.pointer (some ⟨w2.heap.size+1+1,0,none⟩),.pointer (some ⟨Bx,0,none⟩)]]:=⟨rfl,fun _=>⟨g9,0,rfl,fun j u hu=>by rw [cell_of_row w3 g9 _ _ _ _ hr9,Nat.zero_add];simpa using hu⟩⟩
    refine wp_append_two _ _ _ _ rfl 1 .nilFunc 1 8 Tryz.underlying61 info_fn rfl (L.B) A1 m c1 V hM.2 1 [.func (.func 27) #[] #[.pointer (some ⟨w2.heap.size+1+1,0,none⟩),.pointer (some ⟨Bx,0,none⟩)]] (.slice (some ⟨g9,0,none⟩) 1 1) (Src.slice Tryz.underlying61 rd9) (fun u hu=>by rw [List.mem_singleton.1 hu];rfl) ?_ ?_ ?_ ?_ ?_
    ·unfold maxLen;omega
    ·omega
    ·exact Nat.le_trans hB hM.1.size
    ·exact⟨by simp [Act.eval,h4],by simp [Act.eval,h6]⟩
    ·intro A2 c2 w3 hcame hkept hown3
     exact hK _ _ ⟨fun e=>absurd e (by decide),fun _=>⟨A2,c2,rfl,hcame⟩⟩ ⟨grownBy_trans hM.1 hkept.1,hown3⟩ hkept
   ·refine⟨rfl,fun T2 w3 hM hN hO hE K hK=>?_⟩
    obtain⟨v0,h0,e0⟩:=hE ⟨0,.data⟩ (by simp) rfl _ _ rfl rfl
    rw [show v0 = .pointer (some ⟨R,0,none⟩) from e0] at h0
    clear hE hO hN
    go_simp
    exact hK _ _ rfl hM (KeptBut.refl _)
   ·refine⟨rfl,fun T2 w3 hM hN hO hE K hK=>?_⟩
    obtain⟨v8,h8,e8⟩:=hE ⟨8,.data⟩ (by simp) rfl _ _ rfl rfl
    rw [show v8 = .pointer (some ⟨R,0,none⟩) from e8] at h8
    clear hE hO hN
    go_simp
    exact hK _ _ rfl hM (KeptBut.refl _)
  ·intro u w3 hM hF
   have e9:u 9 = .pointer (some ⟨R,0,none⟩):=hF 9 (by omega)
   obtain⟨A7,c7,e7,hcame⟩:=(show PushX (L.B) A1 m c1 V (.func (.func 27) #[] #[.pointer (some ⟨w2.heap.size+1+1,0,none⟩),.pointer (some ⟨Bx,0,none⟩)]) 7 (u 7) w3 from hF 7 (by omega)).2 rfl
   clear hF
   simp only [fillAll,Nat.reduceAdd,e9,e7,List.take_succ_cons,List.take_zero,List.drop_succ_cons,List.drop_zero,List.setIfInBounds_toArray,List.set_cons_succ,List.set_cons_zero]
   have hcR:=(HRC.out w3 hM).1
   have hfR:=(HRC.out w3 hM).2
   have HM2:=hid2 hM
   have HCAME:=hid2 hcame
   clear hM hcame
   go_wp2_with fail
   have hb2:=HM2.out.tbut HOWN.out hB
   have hM3:=HM2.out
   have hC3:=HCAME.out
   rw [HM.out,HV.out] at hM3 hC3
   have e1:R=L.R:=HRE.out.trans HLR.out.symm
   have e2:(PS.begun (cmdsOn pre)).todo.length=m:=HM.out.symm
   have hrb2:RBox w3 (w2.heap.size+1+1) L.R:=by rw [← e1];exact HRB2.out.keep hb2
   have hf:=HA.out.push hM3 hC3 (t:=.cmd tc.c) ⟨_,_,rfl,hrb2,tc.A,tc.cA,CellB.keep HBX.out hb2 (by decide) (by decide),HWD.out.tbut hb2 (by decide) (by decide),HWB.out⟩ (.inl rfl)
   have hkf:=KeepsFrom.push (B':=W0.heap.size) HM2.out HOWN.out (HRR.out w3 HM2.out) 0 (.slice A7 (m+1) c7)
   have hri:RunIs (w3.setCell ⟨R,0,none⟩ (.slice A7 (m+1) c7)) L v none (PS.begun (cmdsOn (pre++[⟨(ix,tc),hx⟩]))):=by
    have hf1:=hf.1
    rw [e2,← e1] at hf1
    rw [cmdsOn_snoc]
    exact⟨_,_,_,hf1⟩
   have hf2:=hf.2
   rw [e2,← e1] at hf2
   exact⟨hkf,hf2,hri,HTB.out.trans hf2⟩
 case done =>
  rintro D ys W hD hS ⟨h1,h3⟩ hK
  have hrow:∀ r,some D=some r→W0.heap.size≤r∧∃ o:Obj,W.heap[r]?=some o∧o.isCells=false:=fun r e=>by cases e;exact⟨hD,_,hK,rfl⟩
  have hfin:Pq (.returned (.tuple #[.pointer (some ⟨R,0,none⟩),.int .i64 0])) (W.putObj D (.deferred none)):=by
   obtain⟨A1,c1,us,h1⟩:=h1
   rw [HPQ.out]
   refine .inr ⟨HOK.out,L,by rw [ptrV,HLR.out,hR],HLB.out,?_,?_⟩
   ·have hgr:=h1.grow (n0:=W0.heap.size) (grownBy_putObj' W D (.deferred none)) hrow HBW.out h3.size (by rw [HS0.out];omega) (fun g e=>by cases e)
    rw [cmdsOn_all hS,HXM.out] at hgr
    exact⟨_,_,_,hgr⟩
   ·have hg0:=(TBut.of_below HB0.out (by rw [HLB.out];exact Nat.le_refl _):TBut L.B w W0)
    exact (hg0.trans h3).trans (TBut.grow (n0:=W0.heap.size) (grownBy_putObj' W D _) hrow HBW.out h3.size)
  have HFIN:=hid2 hfin
  have hcr:W.cell? ⟨w2.heap.size+1+1,0,none⟩=some (.pointer (some ⟨R,0,none⟩)):=by rw [hR];exact (CellB.keep HRB.out h3 (by decide) (by decide)).cell 0
  have HKD:=hid2 hK
  clear h1 h3 hfin h0 hstops hrow hS hK
  gi_wp2
  refine⟨by simp,.inl ⟨_,_,rfl,run_takeDeferred HKD.out,?_⟩⟩
  refine⟨_,results_tmp2 rfl _ _ _,?_⟩
  have hf:=HFIN.out
  rw [hR] at hf
  exact hf
 case stop =>
  rintro D cc pre W _ _ h _
  exact h.elim
end Go.Proofs.YtnecjdhamohadaaGreatDoor
namespace Go.Proofs.YtnecjdhamohadaaGreatDoor
theorem nodup_le:∀ {l m:List TT},l.Nodup→(∀ x∈l,x∈m)→l.length≤m.length
 | [],_,_,_=>Nat.zero_le _
 | x :: l,m,h,hs=>by
  rw [List.nodup_cons] at h
  have hx:x∈m:=hs x (by simp)
  have h1:∀ y∈l,y∈m.erase x:=fun y hy=>by
   have hne:y≠x:=fun e=>h.1 (e ▸ hy)
   exact (List.mem_erase_of_ne hne).2 (hs y (by simp [hy]))
  have h2:=nodup_le h.2 h1
  rw [List.length_erase_of_mem hx] at h2
  have:0 < m.length:=List.length_pos_of_mem hx
  rw [List.length_cons]
  omega
def Known (s:PS) (p:TT):Prop:=(getK s.known p).isSome=true
structure SeenInv (s:PS):Prop where
 nodup:s.seen.Nodup
 len:s.seen.length≤501
 asked:s.over.kind=4∨∀ p∈s.seen,Known s p∨(s.waits=true∧p=s.asks)
theorem SeenInv.same {s s':PS} (h:SeenInv s) (hs:s'.seen=s.seen) (ha:s'.over.kind=4∨(∀ p∈s.seen,Known s p→Known s' p∨(s'.waits=true∧p=s'.asks))∧(s.over.kind=4→s'.over.kind=4)∧∀ p∈s.seen,s.waits=true→p=s.asks→Known s' p∨(s'.waits=true∧p=s'.asks)):SeenInv s':=by
 refine⟨by rw [hs];exact h.nodup,by rw [hs];exact h.len,?_⟩
 rcases ha with ha | ⟨h1,h2,h3⟩
 ·exact .inl ha
 ·rcases h.asked with h4 | h4
  ·exact .inl (h2 h4)
  ·right
   rw [hs]
   intro p hp
   rcases h4 p hp with h5 | ⟨h5,h6⟩
   ·exact h1 p hp h5
   ·exact h3 p hp h5 h6
theorem then_seen (s:PS) (th:ThenE) (k:KE):(s.then_ th k).seen=s.seen:=by
 unfold PS.then_
 cases th <;> simp only <;> split <;> first | rfl | exact (add_same s _).2.2.2.2
theorem ask_seen (s:PS) (p:TT) (th:ThenE):(s.ask p th).seen=s.seen:=by
 unfold PS.ask
 split
 ·exact then_seen s th _
 ·split <;> rfl
theorem scan_seen (s:PS) (p w:TT):(s.scan p w).seen=p :: s.seen:=ask_seen _ _ _
theorem ask_known (s:PS) (p:TT) (th:ThenE):(s.ask p th).over.kind=4∨Known (s.ask p th) p∨((s.ask p th).waits=true∧p=(s.ask p th).asks):=by
 have hg:=(grows_ask s p th).1
 unfold Known
 rw [hg]
 unfold PS.ask
 split
 ·rename_i k hk
  right
  left
  rw [hk]
  rfl
 ·split
  ·left
   rfl
  ·right
   right
   exact⟨rfl,rfl⟩
theorem SeenInv.grown {s s':PS} (h:SeenInv s) (h0:s.over.kind=0) (hw:s.waits=false) (hg:Grows s s') (hs:s'.seen=s.seen):SeenInv s':=by
 have hk:∀ p∈s.seen,Known s p:=fun p hp=>by
  rcases h.asked with h1 | h1
  ·omega
  ·rcases h1 p hp with h2 | ⟨h2,_⟩
   ·exact h2
   ·rw [hw] at h2;cases h2
 refine⟨by rw [hs];exact h.nodup,by rw [hs];exact h.len,.inr fun p hp=>.inl ?_⟩
 rw [hs] at hp
 have:=hk p hp
 unfold Known at this ⊢
 rw [hg.1]
 exact this
theorem SeenInv.scan {s:PS} (h:SeenInv s) (h0:s.over.kind=0) (hw:s.waits=false) (hl:s.known.length≤500) (p w:TT) (hp:p ∉ s.seen):SeenInv (s.scan p w):=by
 have hk:∀ x∈s.seen,Known s x:=fun x hx=>by
  rcases h.asked with h1 | h1
  ·omega
  ·rcases h1 x hx with h2 | ⟨h2,_⟩
   ·exact h2
   ·rw [hw] at h2;cases h2
 have hlen:s.seen.length≤500:=by
  have:=nodup_le h.nodup (m:=s.known.map (·.1)) fun x hx=>getK_iff.1 (hk x hx)
  rw [List.length_map] at this
  omega
 refine⟨?_,?_,?_⟩
 ·rw [scan_seen,List.nodup_cons]
  exact⟨hp,h.nodup⟩
 ·rw [scan_seen,List.length_cons]
  omega
 ·rcases ask_known { s with seen:=p :: s.seen } p (.scan w) with h1 | h1
  ·exact .inl h1
  ·right
   intro x hx
   rw [scan_seen] at hx
   rcases List.mem_cons.1 hx with rfl | hx
   ·exact h1
   ·left
    have h2:=hk x hx
    unfold Known at h2 ⊢
    rw [(grows_scan s p w).1]
    exact h2
theorem turn_seen (s:PS) (n a:TT) (l:List TT):(s.turn n a l).seen=s.seen:=(turn_same s n a l).2.2.2.2
theorem SeenInv.task {s:PS} (h:SeenInv s) (h0:s.over.kind=0) (hw:s.waits=false) (hl:s.known.length≤500) (v:Env) (t:TaskE):SeenInv (s.task v t):=by
 have hg:=grows_task s v t
 have hne:SeenInv { s with seen:=[] }:=⟨List.nodup_nil,Nat.zero_le _,.inr fun p hp=>by cases hp⟩
 cases t with
 | cmd c =>
  by_cases hn:c.ws.headD []=kScan
  ·have he:s.task v (.cmd c)=PS.scan { s with seen:=[] } ((c.ws.drop 1).headD []) ((c.ws.drop 2).headD []):=by
    show s.do_ v c=_
    unfold PS.do_
    simp only [hn]
    rfl
   rw [he]
   exact hne.scan h0 hw hl _ _ (by simp)
  ·refine h.grown h0 hw hg ?_
   show (s.do_ v c).seen=s.seen
   unfold PS.do_
   simp only
   repeat' split
   all_goals first
    | exact ask_seen s _ _
    | exact (add_same s _).2.2.2.2
    | rfl
    | exact turn_seen s _ _ _
    | (rename_i hx;exact absurd hx hn)
 | ans p th=>exact h.grown h0 hw hg (then_seen s th _)
 | line x w =>
  unfold PS.task PS.line at hg ⊢
  simp only at hg ⊢
  split
  ·rename_i a b hab
   split
   ·split
    ·exact h
    ·rename_i hb
     exact h.scan h0 hw hl _ _ hb
   ·refine h.grown h0 hw (grows_add s _) (add_same s _).2.2.2.2
  ·refine h.grown h0 hw (grows_add s _) (add_same s _).2.2.2.2
theorem SeenInv.todo {s:PS} (h:SeenInv s) (r:List TaskE):SeenInv { s with todo:=r }:=⟨h.nodup,h.len,h.asked⟩
structure Inv (U:List KE) (s:PS):Prop where
 agree:Agree U s
 ord:Ord s
 lay:Lay s.todo
 cmds:∀ c,TaskE.cmd c∈s.todo→CmdFit c
 seen:SeenInv s
 pot:pot U s≤10000000000
theorem Inv.good {U:List KE} {s:PS} (h:Inv U s):Good U s:=⟨h.agree,h.ord.pend⟩
theorem cmds_grow {s s':PS} (h:∀ c,TaskE.cmd c∈s.todo→CmdFit c) (hg:Grows s s'):∀ c,TaskE.cmd c∈s'.todo→CmdFit c:=fun c hc=>by
 rcases hg.2 with ⟨L,w,e,_⟩ | ⟨p,th,e,_⟩
 ·rw [e] at hc
  rcases List.mem_append.1 hc with hc | hc
  ·obtain⟨x,_,hx⟩:=List.mem_map.1 hc
   cases hx
  ·exact h c hc
 ·rw [e] at hc
  rcases List.mem_cons.1 hc with hc | hc
  ·cases hc
  ·exact h c hc
theorem Inv.step {U:List KE} {s:PS} (h:Inv U s) (v:Env):Inv U (s.step v):=by
 obtain⟨h1,h2,_⟩:=h.good.step v
 refine⟨h1.agree,h.ord.step,h.lay.step,?_,?_,Nat.le_trans h2 h.pot⟩
 ·by_cases hs:s.Still
  ·rw [PS.step_still hs];exact h.cmds
  ·cases ht:s.todo with
   | nil =>
    rw [step_nil hs ht]
    exact h.cmds
   | cons t r =>
    rw [step_cons hs ht]
    exact cmds_grow (s:={ s with todo:=r }) (fun c hc=>h.cmds c (by rw [ht];exact List.mem_cons_of_mem _ hc)) (grows_task _ v t)
 ·by_cases hs:s.Still
  ·rw [PS.step_still hs];exact h.seen
  ·obtain⟨h0,hw⟩:=not_still hs
   cases ht:s.todo with
   | nil =>
    rw [step_nil hs ht]
    refine⟨h.seen.nodup,h.seen.len,?_⟩
    rcases h.seen.asked with h3 | h3
    ·omega
    ·exact .inr h3
   | cons t r =>
    rw [step_cons hs ht]
    exact (h.seen.todo r).task h0 hw h.ord.lim.less v t
theorem Inv.run {U:List KE} {v:Env}:∀ (n:Nat) {s:PS},Inv U s→Inv U (s.run v n)
 | 0,_,h=>h
 | n+1,_,h=>Inv.run n (h.step v)
theorem Inv.sound {U:List KE} {s:PS} (h:Inv U s):Sound s:=⟨h.ord.lim,Nat.le_trans h.good.todo_le h.pot,by have:=h.seen.len;omega,h.lay,h.cmds⟩
theorem Inv.stands {U:List KE} {s:PS} (h:Inv U s) (v:Env):∃ n,(s.run v n).Still:=h.good.stands _ (Nat.le_refl _)
theorem Inv.next {U:List KE} {s:PS} (h:Inv U s):Inv U s.next:=by
 have ho:=h.ord.next
 have hl:=h.lay.next
 unfold PS.next at ho hl ⊢
 split at ho
 ·rename_i hw
  rw [if_pos hw]
  exact h
 ·rename_i hw
  rw [if_neg hw] at hl ⊢
  split at ho
  ·rename_i h2
   rw [if_pos h2] at hl ⊢
   refine⟨h.agree,ho,hl,h.cmds,⟨h.seen.nodup,h.seen.len,?_⟩,h.pot⟩
   rcases h.seen.asked with h3 | h3
   ·omega
   ·exact .inr h3
  ·rename_i h2
   rw [if_neg h2]
   exact h
theorem Inv.give {U:List KE} {s:PS} (h:Inv U s) (hw:s.waits=true) (hU:∀ p,(ansU U p).is=true→(ansU U p).data.length≤1000000):Inv U (s.give (nrm (ansU U s.asks))):=by
 obtain⟨w1,w2,w3⟩:=h.ord.waits hw
 have hn:(nrm (ansU U s.asks)).is=true→(nrm (ansU U s.asks)).data=(ansU U s.asks).data∧(ansU U s.asks).is=true:=fun hi=>by
  unfold nrm at hi ⊢
  by_cases hx:(ansU U s.asks).is=true
  ·rw [if_pos hx]
   exact⟨rfl,hx⟩
  ·rw [if_neg hx] at hi
   cases hi
 refine⟨fun p k hk hi=>?_,h.ord.give hw fun hi=>?_,h.lay,h.cmds,⟨h.seen.nodup,h.seen.len,?_⟩,h.pot⟩
 ·have hk':getK (s.known++[(s.asks,nrm (ansU U s.asks))]) p=some k:=hk
  rw [getK_snoc w2] at hk'
  split at hk'
  ·rename_i hp
   cases hk'
   rw [(hn hi).1,hp]
  ·exact h.agree p k hk' hi
 ·rw [(hn hi).1]
  exact hU _ (hn hi).2
 ·rcases h.seen.asked with h3 | h3
  ·exact .inl h3
  ·right
   intro p hp
   left
   show (getK (s.known++[(s.asks,nrm (ansU U s.asks))]) p).isSome=true
   rw [getK_snoc w2]
   split
   ·rfl
   ·rename_i hne
    rcases h3 p hp with h4 | ⟨_,h4⟩
    ·exact h4
    ·exact absurd h4 hne
theorem inv_start {U:List KE} {l:List CmdE} (hc:∀ c∈l,CmdFit c) (hl:l.length≤1000) (hU:allU U≤1000000):Inv U (PS.start l):=by
 refine⟨fun p k hk=>(by cases hk),ord_start fun c hx=>(hc c hx).1,lay_start l,fun c hx=>?_,⟨List.nodup_nil,Nat.zero_le _,.inr fun p hp=>(by cases hp)⟩,?_⟩
 ·obtain⟨c',h1,h2⟩:=List.mem_map.1 hx
  cases h2
  exact hc c h1
 ·have h1:=unseen_le U ([]:List TT)
  have h2:∀ k:List CmdE,((k.map TaskE.cmd).map (wTask U)).sum=k.length * (allU U+3):=by
   intro k
   induction k with
   | nil=>simp
   | cons c k ih =>
    simp only [List.map_cons,List.sum_cons,ih,List.length_cons,wTask,Nat.succ_mul]
    omega
  have h3:pot U (PS.start l)=l.length * (allU U+3)+unseen U []:=by
   unfold pot PS.start
   rw [h2]
  have h4:l.length * (allU U+3)≤1000 * 1000003:=Nat.mul_le_mul hl (by omega)
  rw [h3]
  omega
end Go.Proofs.YtnecjdhamohadaaGreatDoor
namespace Go.Proofs.YtnecjdhamohadaaGreatDoor
open Go.RowKit Go.Maps Go.Shelf
set_option maxRecDepth 100000
def kV (l:List KE):List Value:=l.flatMap fun k=>[.string (strB k.path),.bool k.is,.string (strB k.data)]
theorem kV_get:∀ {l:List KE} {k:Nat} {p:KE},l[k]?=some p→(kV l)[k * 3]?=some (.string (strB p.path))∧(kV l)[k * 3+1]?=some (.bool p.is)∧(kV l)[k * 3+2]?=some (.string (strB p.data))
 | [],_,_,h=>by simp at h
 | x :: l,0,p,h=>by
  rw [List.getElem?_cons_zero] at h
  cases h
  exact⟨rfl,rfl,rfl⟩
 | x :: l,k+1,p,h=>by
  rw [List.getElem?_cons_succ] at h
  have:=kV_get h
  have e1:(k+1) * 3=k * 3+3:=by omega
  rw [e1]
  exact this
theorem kV_len:∀ l:List KE,(kV l).length=l.length * 3
 | []=>rfl
 | x :: l=>by
  have:=kV_len l
  rw [List.length_cons,show kV (x :: l) = .string (strB x.path) :: .bool x.is :: .string (strB x.data) :: kV l from rfl,List.length_cons,List.length_cons,List.length_cons,this]
  omega
theorem ansU_at {l:List KE} {p:TT} {i:Nat} {x:KE} (h:l[i]?=some x) (hp:x.path=p) (hno:∀ (j:Nat) (y:KE),j < i→l[j]?=some y→y.path≠p):ansU l p=x:=by
 induction l generalizing i with
 | nil=>simp at h
 | cons y l ih =>
  cases i with
  | zero =>
   rw [List.getElem?_cons_zero] at h
   cases h
   simp [ansU,hp]
  | succ i =>
   rw [List.getElem?_cons_succ] at h
   have h0:=hno 0 y (by omega) rfl
   have:=ih h fun j z hj hz=>hno (j+1) z (by omega) (by rw [List.getElem?_cons_succ];exact hz)
   unfold ansU at this ⊢
   rw [List.find?_cons_of_neg (by simpa using h0)]
   exact this
theorem ansU_none {l:List KE} {p:TT} (hno:∀ (j:Nat) (y:KE),l[j]?=some y→y.path≠p):ansU l p=⟨p,false,[]⟩:=by
 have:l.find? (fun x=>x.path == p)=none:=by
  rw [List.find?_eq_none]
  intro y hy
  obtain⟨j,hj⟩:=List.getElem?_of_mem hy
  simpa using hno j y hj
 rw [ansU,this]
 rfl
theorem one_known {s t:ByteArray} {b:Bool}:∀ v∈[Value.string s,.bool b,.string t],v.oneCell'=true:=by simp [Value.oneCell']
theorem known_cells (s t:ByteArray) (b:Bool):(Value.agg #[.string s,.bool b,.string t]).cells.toList=[.string s,.bool b,.string t]:=rfl
theorem info_known3 (s t:ByteArray) (b:Bool):(Tryz.prog.info? 41).map (·.size)=some [Value.string s,.bool b,.string t].length:=by kernel_rfl
set_option maxHeartbeats 4000000 in
theorem answer_any (w:World) (A:Option Addr) (c:Nat) (l:List KE) (hl:l.length≤1000000) (hr:Rd w 3 A l.length (kV l)) (p:TT) :
  Calls Tryz.prog 15 #[.slice A l.length c,.string (strB p)] w fun e w'=>e = .returned (encK (ansU l p))∧Below w.heap.size w w':=by
 have htp:=toList_strBT p
 obtain⟨S,hS⟩:∃ S,S=strB p:=⟨_,rfl⟩
 obtain⟨n,hn⟩:∃ n,n=l.length:=⟨_,rfl⟩
 obtain⟨w1,hw1⟩:∃ w1,w1=w.alloc (.cells #[.string ⟨#[]⟩,.bool false,.string ⟨#[]⟩] 41):=⟨_,rfl⟩
 have hb1:Below w.heap.size w w1:=by rw [hw1];exact (Below.refl _ _).alloc (Nat.le_refl _) _
 have hg1:w1.heap[w.heap.size]?=some (.cells #[.string ⟨#[]⟩,.bool false,.string ⟨#[]⟩] 41 (0,0)):=by rw [hw1];exact World.alloc_heap_new w _
 rw [← hS] at htp ⊢
 rw [← hn] at hr hl ⊢
 have hr1:=hr.below_all hb1
 have HR:=hid2 hr1
 have HN:=hid2 hn
 have HW1:=hid2 hw1
 have HB1:=hid2 hb1
 have HS:=hid2 hS
 have HTP:=hid2 htp
 have hlim:(n:Int)≤1000000:=by omega
 have hF0:∀ (a b:ByteArray) (f:Bool),0+[Value.string a,.bool f,.string b].length≤(#[.string ⟨#[]⟩,.bool false,.string ⟨#[]⟩]:Array Value).size:=fun _ _ _=>Nat.le_refl _
 clear hr hr1 hn hw1 hb1 hS htp
 go_enter Tryz.func15,Tryz.ntmps15
 go_wp2_with fail
 rw [← HW1.out]
 go_loopg [5] n (fun gk iv wr=>wr=w1∧∃ i:Nat,i+gk=n∧iv = .int .i64 i∧∀ (j:Nat) (y:KE),j < i→l[j]?=some y→y.path≠p)
 case atStart=>exact⟨rfl,0,by omega,rfl,fun j y hj=>absurd hj (Nat.not_lt_zero _)⟩
 case round =>
  obtain⟨rfl,i,hi,rfl,hno⟩:=hrel
  by_cases hlt:i < n
  ·have hil:(i:Int) < n:=by omega
   have hi0:(0:Int)≤i:=by omega
   obtain⟨x,hx⟩:∃ x,l[i]?=some x:=⟨_,List.getElem?_eq_getElem (by rw [← HN.out];exact hlt)⟩
   obtain⟨b,o,rfl,hcell⟩:=HR.out.2 (by omega)
   have h0:wr.cell? ⟨b,o+i * 3,none⟩=some (.string (strB x.path)):=hcell _ _ (kV_get hx).1
   have h1:wr.cell? ⟨b,o+i * 3+1,none⟩=some (.bool x.is):=hcell _ _ (kV_get hx).2.1
   have h2:wr.cell? ⟨b,o+i * 3+2,none⟩=some (.string (strB x.data)):=hcell _ _ (kV_get hx).2.2
   have htx:=toList_strBT x.path
   by_cases hpx:x.path=p
   ·have hans:=ansU_at hx hpx hno
    have hval:encK x = .agg #[.string S,.bool x.is,.string (strB x.data)]:=by rw [encK,hpx,HS.out]
    rw [hpx,← HS.out] at h0
    obtain⟨D,hD⟩:∃ D,D=strB x.data:=⟨_,rfl⟩
    obtain⟨f,hf⟩:∃ f,f=x.is:=⟨_,rfl⟩
    rw [← hD] at h2 hval
    rw [← hf] at h1 hval
    have HV:=hid2 hval
    have HA:=hid2 hans
    have heq:(S.toList == S.toList)=true:=beq_self_eq_true _
    clear hx hcell hno hpx hans hval hD hf hi htx
    go_wp2_with ((with_reducible refine wpList_store_lit w.heap.size 0 (.agg #[.string S,.bool f,.string D]) [.string S,.bool f,.string D] (known_cells _ _ _) #[.string ⟨#[]⟩,.bool false,.string ⟨#[]⟩] 41 hg1 (info_known3 _ _ _) (hF0 _ _ _) one_known ?_ ?_);exact⟨rfl,rfl⟩)
    try simp only [Act.put]
    refine bodyPost_ret (v:=.agg [.string S,.bool f,.string D].toArray) (results_cell_row rfl _ _ _ 41 _ (0,0) _ rfl (stored_row (VX:=[.string S,.bool f,.string D]) hg1 rfl) Tryz.underlying41 rfl (by kernel_rfl)) rfl ?_
    exact⟨by rw [HA.out,HV.out],below_setRow HB1.out (Nat.le_refl _) _⟩
   ·have hneq:((strB x.path).toList == S.toList)=false:=by rw [htx,HTP.out,beq_eq_false_iff_ne];exact hpx
    have hneq2:¬ (strB x.path).toList=S.toList:=by rw [htx,HTP.out];exact hpx
    obtain⟨X,hX⟩:∃ X,X=strB x.path:=⟨_,rfl⟩
    rw [← hX] at h0 hneq hneq2
    have hno2:∀ (j:Nat) (y:KE),j < i+1→l[j]?=some y→y.path≠p:=fun j y hj hy=>by
     rcases Nat.lt_or_ge j i with h | h
     ·exact hno j y h hy
     ·have:j=i:=by omega
      subst this
      rw [hx] at hy
      cases hy
      exact hpx
    have HNO:=hid2 hno2
    have HI:=hid2 hi
    clear hx hcell hno hpx hX htx hno2 hi h1 h2
    go_wp2_with fail
    go_roundg (gk - 1)
    case rel=>exact⟨rfl,i+1,by have:=HI.out;omega,by go_num,HNO.out⟩
    case measure=>have:=HI.out;omega
  ·have hin:i=n:=by omega
   have hil:¬ (i:Int) < n:=by omega
   have hans:ansU l p=⟨p,false,[]⟩:=ansU_none fun j y hj=>hno j y (by rw [hin,HN.out];exact (List.getElem?_eq_some_iff.1 hj).1) hj
   have hval:encK ⟨p,false,[]⟩ = .agg #[.string S,.bool false,.string ⟨#[]⟩]:=by rw [encK,HS.out];rfl
   have HV:=hid2 hval
   have HA:=hid2 hans
   clear hno hans hval hin hi
   go_wp2_with ((with_reducible refine wpList_store_lit w.heap.size 0 (.agg #[.string S,.bool false,.string ⟨#[]⟩]) [.string S,.bool false,.string ⟨#[]⟩] (known_cells _ _ _) #[.string ⟨#[]⟩,.bool false,.string ⟨#[]⟩] 41 hg1 (info_known3 _ _ _) (hF0 _ _ _) one_known ?_ ?_);exact⟨rfl,rfl⟩)
   try simp only [Act.put]
   refine bodyPost_ret (v:=.agg [.string S,.bool false,.string ⟨#[]⟩].toArray) (results_cell_row rfl _ _ _ 41 _ (0,0) _ rfl (stored_row (VX:=[.string S,.bool false,.string ⟨#[]⟩]) hg1 rfl) Tryz.underlying41 rfl (by kernel_rfl)) rfl ?_
   exact⟨by rw [HA.out,HV.out],below_setRow HB1.out (Nat.le_refl _) _⟩
end Go.Proofs.YtnecjdhamohadaaGreatDoor
