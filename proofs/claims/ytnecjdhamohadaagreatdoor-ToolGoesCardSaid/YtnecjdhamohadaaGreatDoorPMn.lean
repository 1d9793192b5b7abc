/- A tool's run: a command that asks nothing of files. -/
import Derived.Test.YtnecjdhamohadaaGreatDoorPMm
set_option linter.unusedSimpArgs false
set_option linter.unusedVariables false
namespace Go.Proofs.YtnecjdhamohadaaGreatDoor
open Go.RowKit Go.Maps Go.Shelf
set_option maxRecDepth 100000
structure EnvFit (v:Env):Prop where
 may:v.may=mayB
 len:v.env.length≤1000000
 all:∀ x∈v.env,x.1.length≤1000000∧x.2.length≤1000000
theorem setV_get:∀ {l:List (TT × TT)} {k:Nat} {p:TT × TT},l[k]?=some p→(setV l)[k * 2]?=some (.string (strB p.1))∧(setV l)[k * 2+1]?=some (.string (strB p.2))
 | [],_,_,h=>by simp at h
 | x :: l,0,p,h=>by
  rw [List.getElem?_cons_zero] at h
  cases h
  exact⟨rfl,rfl⟩
 | x :: l,k+1,p,h=>by
  rw [List.getElem?_cons_succ] at h
  have:=setV_get h
  have e1:(k+1) * 2=k * 2+2:=by omega
  rw [e1]
  exact this
def setC (p:TT × TT):List Value:=[.string (strB p.1),.string (strB p.2)]
theorem name_any (w:World) (g:Nat) (arg:TT) (hc:w.cell? ⟨g,0,none⟩=some (.string (strB arg))) (x:TT × TT):Calls Tryz.prog 45 #[.agg (setC x).toArray,.pointer (some ⟨g,0,none⟩)] w fun e w'=>e = .returned (.bool (decide (x.1=arg)))∧Below w.heap.size w w':=by
 have hlt:=World.block_lt_of_cell? _ _ hc
 have h1:=toList_strBT x.1
 have h2:=toList_strBT arg
 show Calls Tryz.prog 45 #[.agg #[.string (strB x.1),.string (strB x.2)],.pointer (some ⟨g,0,none⟩)] w _
 obtain⟨X,hX⟩:∃ X,X=strB x.1:=⟨_,rfl⟩
 obtain⟨X2,hX2⟩:∃ X,X=strB x.2:=⟨_,rfl⟩
 obtain⟨Y,hY⟩:∃ X,X=strB arg:=⟨_,rfl⟩
 have hd:(X.toList == Y.toList)=decide (x.1=arg):=by rw [hX,hY,h1,h2];exact Bool.eq_iff_iff.2 (by simp)
 rw [← hY] at hc
 rw [← hX,← hX2]
 obtain⟨r,hr⟩:∃ r,r=decide (x.1=arg):=⟨_,rfl⟩
 rw [← hr] at hd ⊢
 clear hX hX2 hY hr h1 h2
 go_enter Tryz.func45,Tryz.ntmps45
 go_wp2
 go_ret
 exact⟨rfl,(Below.refl _ _).alloc (Nat.le_refl _) _⟩
theorem find_at (arg:TT):∀ (l:List (TT × TT)) (i:Nat),(Lib.idxByFrom (fun _ y=>decide (y.1=arg)) default l i = -1∧l.find? (fun x=>x.1 == arg)=none)∨∃ k x,l[k]?=some x∧Lib.idxByFrom (fun _ y=>decide (y.1=arg)) default l i=((i+k:Nat):Int)∧l.find? (fun x=>x.1 == arg)=some x
 | [],i=>.inl ⟨rfl,rfl⟩
 | y :: l,i=>by
  by_cases hy:y.1=arg
  ·refine .inr ⟨0,y,rfl,?_,?_⟩
   ·simp [Lib.idxByFrom,hy]
   ·simp [hy]
  ·rcases find_at arg l (i+1) with ⟨h1,h2⟩ | ⟨k,x,h1,h2,h3⟩
   ·refine .inl ⟨?_,?_⟩
    ·simpa [Lib.idxByFrom,hy] using h1
    ·rw [List.find?_cons_of_neg (by simpa using hy)]
     exact h2
   ·refine .inr ⟨k+1,x,by rw [List.getElem?_cons_succ];exact h1,?_,?_⟩
    ·have:i+1+k=i+(k+1):=by omega
     rw [this] at h2
     simpa [Lib.idxByFrom,hy] using h2
    ·rw [List.find?_cons_of_neg (by simpa using hy)]
     exact h3
theorem find_any (w:World) (A:Option Addr) (c:Nat) (l:List (TT × TT)) (hr:Rd w 2 A l.length (setV l)) (hl:l.length≤1000000) (g:Nat) (arg:TT) (hc:w.cell? ⟨g,0,none⟩=some (.string (strB arg))) :
  Calls Tryz.prog 44 #[.slice A l.length c,.func (.func 45) #[] #[.pointer (some ⟨g,0,none⟩)]] w fun e w'=>e = .returned (.int .i64 (Lib.idxByFrom (fun _ y=>decide (y.1=arg)) default l 0))∧Below w.heap.size w w':=by
 rcases Nat.eq_zero_or_pos l.length with h0 | h0
 ·obtain rfl:l=[]:=List.eq_nil_of_length_eq_zero h0
  have hfin:Below w.heap.size w w:=Below.refl _ _
  clear hr hc h0
  show Calls Tryz.prog 44 #[.slice A 0 c,.func (.func 45) #[] #[.pointer (some ⟨g,0,none⟩)]] w fun e w'=>e = .returned (.int .i64 (-1))∧Below w.heap.size w w'
  go_enter Tryz.func44,Tryz.ntmps44
  go_wp2
  go_loopw [8] (fun i wr=>i = .int .i64 0∧wr=w) (fun _ _=>0)
  case atStart=>exact⟨rfl,rfl⟩
  case round =>
   obtain⟨rfl,rfl⟩:=hrel
   go_wp2
   go_ret
   exact⟨rfl,hfin⟩
 ·obtain⟨b,o,rfl,hcell⟩:=hr.2 h0
  have hp:∃ p,l[0]?=some p:=⟨_,List.getElem?_eq_getElem h0⟩
  obtain⟨p0,hp0⟩:=hp
  have hb:=World.block_lt_of_cell? _ _ (hcell _ _ (setV_get hp0).1)
  have:=AnyQ.slices_IndexFunc Tryz.tlFind 2 Tryz.isAgg55 Tryz.sizeOf55 setC (fun _=>rfl) (fun y=>decide (y.1=arg)) 45 #[.pointer (some ⟨g,0,none⟩)] (enters_of Tryz.func45 (by kernel_rfl) rfl) b o l.length c l w
   (fun W x hbw=>name_any W g arg ((hbw.cell (p:=⟨g,0,none⟩) (World.block_lt_of_cell? _ _ hc)).trans hc) x |>.mono fun e w' k=>⟨k.1,hbw.trans (k.2.mono hbw.size)⟩) (Nat.le_refl _) (by omega) hb (fun j hj i v hv=>by
    have hi:i < 2:=(List.getElem?_eq_some_iff.1 hv).1
    have hp:l[j]?=some l[j]!:=by rw [List.getElem?_eq_getElem hj,getElem!_pos l j hj]
    obtain⟨h1,h2⟩:=setV_get hp
    rw [Nat.add_assoc]
    match i,hi,hv with
    | 0,_,hv=>exact (hcell _ _ h1).trans hv
    | 1,_,hv=>exact (hcell _ _ h2).trans hv)
  rw [List.take_length] at this
  exact this
set_option maxHeartbeats 8000000 in
theorem do_env_none (w:World) (L:RLay) (v:Env) (q:Option Nat) (s:PS) (h:RunIs w L v q s) (hf:Fit w L s) (A:Option Addr) (cA:Nat) (rest:TT) (hrest:rest.length≤1000000) (a:TT) (ha:a.length≤1000000) (hv:EnvFit v) (hno:v.env.find? (fun x=>x.1 == a)=none) (hr:Rd w 1 A 2 (strV [kEnv,a])) (hcap:2≤cA) :
  Calls Tryz.prog 28 #[ptrV L.R,.agg #[.slice A 2 cA,.string (strB rest)]] w (VPost w L v q (s.fail 10)):=by
 have hB:=h.size
 obtain⟨b1,o1,rfl,hb1,hcw⟩:=words_row hr (by decide)
 obtain⟨R,hR⟩:∃ R,R=L.R:=⟨_,rfl⟩
 obtain⟨X0,hX0⟩:∃ X0,X0=strB rest:=⟨_,rfl⟩
 obtain⟨X,hX⟩:∃ X,X=strB s.buf:=⟨_,rfl⟩
 obtain⟨Pq,hPq⟩:∃ Pq:Ending→World→Prop,Pq=(VPost w L v q (s.fail 10)):=⟨_,rfl⟩
 obtain⟨N,hN⟩:∃ N,N=strB kEnv:=⟨_,rfl⟩
 obtain⟨AR,hAR⟩:∃ AR,AR=strB a:=⟨_,rfl⟩
 have htn:N.toList=kEnv:=by rw [hN];exact toList_strBT _
 have tkRead:(N.toList == [114,101,97,100])=false:=by rw [htn];decide
 have ukRead:¬ N.toList=[114,101,97,100]:=by rw [htn];decide
 have tkTry:(N.toList == [116,114,121])=false:=by rw [htn];decide
 have ukTry:¬ N.toList=[116,114,121]:=by rw [htn];decide
 have tkScan:(N.toList == [115,99,97,110])=false:=by rw [htn];decide
 have ukScan:¬ N.toList=[115,99,97,110]:=by rw [htn];decide
 have tkText:(N.toList == [116,101,120,116])=false:=by rw [htn];decide
 have ukText:¬ N.toList=[116,101,120,116]:=by rw [htn];decide
 have tkEnv:(N.toList == [101,110,118])=true:=by rw [htn,beq_iff_eq]
 have ukEnv:N.toList=[101,110,118]:=htn
 have k0:w.cell? ⟨b1,o1,none⟩=some (.string N):=by rw [hN];exact hcw 0 _ rfl
 have k1:w.cell? ⟨b1,o1+1,none⟩=some (.string AR):=by rw [hAR];exact hcw 1 _ rfl
 have hW:=hid2 (show ∀ w2,Below w.heap.size w w2→w2.cell? ⟨b1,o1,none⟩=some (.string N)∧w2.cell? ⟨b1,o1+1,none⟩=some (.string AR)∧True from fun w2 hb=>⟨(hb.cell (p:=⟨b1,o1,none⟩) hb1).trans k0,(hb.cell (p:=⟨b1,o1+1,none⟩) hb1).trans k1,trivial⟩)
 have cL:=hid2 (fun (W:World) (hb:Below w.heap.size w W)=>show Calls Tryz.prog 36 #[.string X] W fun e w'=>∃ A c,e = .returned (.slice A (linesT s.buf).length c)∧Own w' W.heap.size 9 1 A (linesT s.buf).length c (strV (linesT s.buf))∧Below W.heap.size W w' from by rw [hX];exact lines_any W s.buf (by have:=hf.lim.buf;omega) (hf.lib.on hb))
 have hcb:=hid2 (show ∀ w2,Below w.heap.size w w2→w2.cell? ⟨R,2,none⟩=some (.string X) from fun w2 hb=>by
  obtain⟨_,_,_,hrr⟩:=h
  rw [hX,hR]
  exact ((hrr.below hb).cell 2).1)
 obtain⟨en,hen⟩:∃ en,en=v.env.length:=⟨_,rfl⟩
 have hEV:=hid2 (show ∀ w2,Below w.heap.size w w2→w2.cell? ⟨R,1,none⟩=some (.slice L.EA en L.ec)∧Rd w2 2 L.EA en (setV v.env) from fun w2 hb=>by
  obtain⟨_,_,_,hrr⟩:=h
  rw [hen,hR]
  exact⟨((hrr.below hb).cell 1).1,(hrr.below hb).env.rd⟩)
 obtain⟨ix,hix⟩:∃ ix,ix=Lib.idxByFrom (fun _ y=>decide (y.1=a)) default v.env 0:=⟨_,rfl⟩
 have cX:=hid2 (fun (w2:World) (hb:Below w.heap.size w w2) (g:Nat) (hc:w2.cell? ⟨g,0,none⟩=some (.string AR))=>show Calls Tryz.prog 44 #[.slice L.EA en L.ec,.func (.func 45) #[] #[.pointer (some ⟨g,0,none⟩)]] w2 fun e w'=>e = .returned (.int .i64 ix)∧Below w2.heap.size w2 w' from by
  have:=find_any w2 L.EA L.ec v.env (by rw [← hen];exact (hEV.out w2 hb).2) hv.len g a (by rw [← hAR];exact hc)
  rwa [← hen,← hix] at this)
 have hix2:ix = -1:=by
  rw [hix]
  rcases find_at a v.env 0 with ⟨h1,_⟩ | ⟨_,_,_,_,h3⟩
  ·exact h1
  ·rw [hno] at h3;cases h3
 have hneg:ix < 0:=by omega
 have cF:=hid2 (fun (w2:World) (hb:Below w.heap.size w w2)=>show Calls Tryz.prog 46 #[.pointer (some ⟨R,0,none⟩),.int .i64 10] w2 fun e w3=>e = .returned (.tuple #[])∧Pq (.returned (.tuple #[])) w3 from by
  have:=fail_any w2 L v q s (h.below hb) 10
  rw [ptrV,← hR] at this
  refine this.mono fun e w3 k=>⟨k.1,?_⟩
  rw [hPq]
  have:=k.since hb hB
  rw [k.1] at this
  exact this)
 rw [ptrV,← hR,← hX0,← hPq]
 clear hcw htn hR hX0 hX hPq hN hAR hr hB hb1 h hf hrest hen hix hix2 hv hno ha
 go_enter Tryz.func28,Tryz.ntmps28
 go_upto_region 2 with fail
 obtain⟨hmd,hb3⟩:=made_new w R (some ⟨b1,o1,none⟩) 2 cA X0
 obtain⟨W3,hW3⟩:∃ W3,W3=(((w.alloc (.cells #[.pointer (some ⟨R,0,none⟩)] 26)).alloc (.cells #[.slice (some ⟨b1,o1,none⟩) 2 cA,.string X0] 68)).alloc (.cells #[.string ⟨#[]⟩] 9)):=⟨_,rfl⟩
 rw [← hW3] at hmd hb3 ⊢
 have HMD:=hid2 hmd
 have HB3:=hid2 hb3
 have m0:W3.cell? ⟨w.heap.size+1,0,none⟩=some (.slice (some ⟨b1,o1,none⟩) 2 cA):=hmd.c.cell 0
 have m1:=(hW.out W3 hb3).2.1
 have m2:W3.cell? ⟨w.heap.size+1+1,0,none⟩=some (.string ⟨#[]⟩):=hmd.a.cell 0
 have m3:W3.frozen? ⟨w.heap.size+1+1,0,none⟩=false:=frozen_of_row W3 _ 0 _ _ hmd.a
 have hcapi:(2:Int)≤cA:=by omega
 clear hmd hb3 hW3
 go_upto_region 4 with fail
 have hmd4:=HMD.out.arg AR
 have hb4:Below w.heap.size w (W3.setCell ⟨w.heap.size+1+1,0,none⟩ (.string AR)):=HB3.out.setCell (by show w.heap.size≤w.heap.size+1+1;omega) _
 obtain⟨W4,hW4⟩:∃ W4,W4=W3.setCell ⟨w.heap.size+1+1,0,none⟩ (.string AR):=⟨_,rfl⟩
 rw [← hW4] at hmd4 hb4 ⊢
 clear hW4 m0 m1 m2 m3 HMD HB3
 have m0:W4.cell? ⟨w.heap.size,0,none⟩=some (.pointer (some ⟨R,0,none⟩)):=hmd4.r.cell 0
 have m1:=hcb.out W4 hb4
 have HMD:=hid2 hmd4
 have HB4:=hid2 hb4
 clear hmd4 hb4
 go_upto_region 5 with (go_at_call 36; refine (cL.out W4 HB4.out).mono ?_;rintro e w5 ⟨A5,c5,rfl,ho,hb⟩;have HO:=hid2 ho;have hmd5:=HMD.out.below hb;have hb5:=HB4.out.trans (hb.mono HB4.out.size);clear ho hb cL)
 have HMD5:=hid2 (fun (w2:World) (hb:Below w5.heap.size w5 w2)=>hmd5.below hb)
 have HB5:=hid2 (fun (w2:World) (hb:Below w5.heap.size w5 w2)=>hb5.trans (hb.mono hb5.size))
 have p0:w5.cell? ⟨w.heap.size+1,0,none⟩=some (.slice (some ⟨b1,o1,none⟩) 2 cA):=hmd5.c.cell 0
 have p1:=(hW.out w5 hb5).1
 have hc1:(1:Int)≤cA:=by omega
 have HB4S:=hid2 HB4.out.size
 clear m0 m1 hmd5 HMD HB4
 have p2:w5.cell? ⟨w.heap.size,0,none⟩=some (.pointer (some ⟨R,0,none⟩)):=(HMD5.out w5 (Below.refl _ _)).r.cell 0
 have p3:w5.cell? ⟨w.heap.size+1+1,0,none⟩=some (.string AR):=(HMD5.out w5 (Below.refl _ _)).a.cell 0
 have p5:=(hEV.out w5 (HB5.out w5 (Below.refl _ _))).1
 go_wp2_with (first
  | (go_at_call 44; refine (cX.out w5 (HB5.out w5 (Below.refl _ _)) _ p3).mono ?_;rintro e w6 ⟨rfl,hb6⟩;have HB6:=hid2 hb6;have p4:w6.cell? ⟨w.heap.size,0,none⟩=some (.pointer (some ⟨R,0,none⟩)):=(HMD5.out w6 hb6).r.cell 0;clear hb6 cX p2 p3)
  | (go_at_call 46; refine (cF.out w6 (HB5.out w6 HB6.out)).mono ?_;rintro e w7 ⟨rfl,hp⟩;have HP:=hid2 hp;clear hp))
 refine bodyPost_ret (results_none rfl _ _ _) rfl ?_
 exact HP.out
set_option maxHeartbeats 8000000 in
theorem do_env_some (w:World) (L:RLay) (v:Env) (q:Option Nat) (s:PS) (h:RunIs w L v q s) (hf:Fit w L s) (A:Option Addr) (cA:Nat) (rest:TT) (hrest:rest.length≤1000000) (a:TT) (ha:a.length≤1000000) (hv:EnvFit v) (x:TT × TT) (hyes:v.env.find? (fun x=>x.1 == a)=some x) (hr:Rd w 1 A 2 (strV [kEnv,a])) (hcap:2≤cA) :
  Calls Tryz.prog 28 #[ptrV L.R,.agg #[.slice A 2 cA,.string (strB rest)]] w (VPost w L v q (s.add x.2)):=by
 have hB:=h.size
 obtain⟨b1,o1,rfl,hb1,hcw⟩:=words_row hr (by decide)
 obtain⟨R,hR⟩:∃ R,R=L.R:=⟨_,rfl⟩
 obtain⟨X0,hX0⟩:∃ X0,X0=strB rest:=⟨_,rfl⟩
 obtain⟨X,hX⟩:∃ X,X=strB s.buf:=⟨_,rfl⟩
 obtain⟨Pq,hPq⟩:∃ Pq:Ending→World→Prop,Pq=(VPost w L v q (s.add x.2)):=⟨_,rfl⟩
 obtain⟨N,hN⟩:∃ N,N=strB kEnv:=⟨_,rfl⟩
 obtain⟨AR,hAR⟩:∃ AR,AR=strB a:=⟨_,rfl⟩
 have htn:N.toList=kEnv:=by rw [hN];exact toList_strBT _
 have tkRead:(N.toList == [114,101,97,100])=false:=by rw [htn];decide
 have ukRead:¬ N.toList=[114,101,97,100]:=by rw [htn];decide
 have tkTry:(N.toList == [116,114,121])=false:=by rw [htn];decide
 have ukTry:¬ N.toList=[116,114,121]:=by rw [htn];decide
 have tkScan:(N.toList == [115,99,97,110])=false:=by rw [htn];decide
 have ukScan:¬ N.toList=[115,99,97,110]:=by rw [htn];decide
 have tkText:(N.toList == [116,101,120,116])=false:=by rw [htn];decide
 have ukText:¬ N.toList=[116,101,120,116]:=by rw [htn];decide
 have tkEnv:(N.toList == [101,110,118])=true:=by rw [htn,beq_iff_eq]
 have ukEnv:N.toList=[101,110,118]:=htn
 have k0:w.cell? ⟨b1,o1,none⟩=some (.string N):=by rw [hN];exact hcw 0 _ rfl
 have k1:w.cell? ⟨b1,o1+1,none⟩=some (.string AR):=by rw [hAR];exact hcw 1 _ rfl
 have hW:=hid2 (show ∀ w2,Below w.heap.size w w2→w2.cell? ⟨b1,o1,none⟩=some (.string N)∧w2.cell? ⟨b1,o1+1,none⟩=some (.string AR)∧True from fun w2 hb=>⟨(hb.cell (p:=⟨b1,o1,none⟩) hb1).trans k0,(hb.cell (p:=⟨b1,o1+1,none⟩) hb1).trans k1,trivial⟩)
 have cL:=hid2 (fun (W:World) (hb:Below w.heap.size w W)=>show Calls Tryz.prog 36 #[.string X] W fun e w'=>∃ A c,e = .returned (.slice A (linesT s.buf).length c)∧Own w' W.heap.size 9 1 A (linesT s.buf).length c (strV (linesT s.buf))∧Below W.heap.size W w' from by rw [hX];exact lines_any W s.buf (by have:=hf.lim.buf;omega) (hf.lib.on hb))
 have hcb:=hid2 (show ∀ w2,Below w.heap.size w w2→w2.cell? ⟨R,2,none⟩=some (.string X) from fun w2 hb=>by
  obtain⟨_,_,_,hrr⟩:=h
  rw [hX,hR]
  exact ((hrr.below hb).cell 2).1)
 obtain⟨en,hen⟩:∃ en,en=v.env.length:=⟨_,rfl⟩
 have hEV:=hid2 (show ∀ w2,Below w.heap.size w w2→w2.cell? ⟨R,1,none⟩=some (.slice L.EA en L.ec)∧Rd w2 2 L.EA en (setV v.env) from fun w2 hb=>by
  obtain⟨_,_,_,hrr⟩:=h
  rw [hen,hR]
  exact⟨((hrr.below hb).cell 1).1,(hrr.below hb).env.rd⟩)
 obtain⟨ix,hix⟩:∃ ix,ix=Lib.idxByFrom (fun _ y=>decide (y.1=a)) default v.env 0:=⟨_,rfl⟩
 have cX:=hid2 (fun (w2:World) (hb:Below w.heap.size w w2) (g:Nat) (hc:w2.cell? ⟨g,0,none⟩=some (.string AR))=>show Calls Tryz.prog 44 #[.slice L.EA en L.ec,.func (.func 45) #[] #[.pointer (some ⟨g,0,none⟩)]] w2 fun e w'=>e = .returned (.int .i64 ix)∧Below w2.heap.size w2 w' from by
  have:=find_any w2 L.EA L.ec v.env (by rw [← hen];exact (hEV.out w2 hb).2) hv.len g a (by rw [← hAR];exact hc)
  rwa [← hen,← hix] at this)
 obtain⟨kk,hkk,hix2⟩:∃ kk:Nat,v.env[kk]?=some x∧ix=(kk:Int):=by
  rw [hix]
  rcases find_at a v.env 0 with ⟨_,h1⟩ | ⟨k,y,h1,h2,h3⟩
  ·rw [hyes] at h1;cases h1
  ·rw [hyes] at h3
   cases h3
   exact⟨k,h1,by rw [h2,Nat.zero_add]⟩
 have hkl:kk < en:=by rw [hen];exact (List.getElem?_eq_some_iff.1 hkk).1
 obtain⟨eb,eo,hEA,_⟩:=(hEV.out w (Below.refl _ _)).2.2 (by omega)
 obtain⟨V0,hV0⟩:∃ V0,V0=strB x.2:=⟨_,rfl⟩
 have hVL:=hid2 (show ∀ w2,Below w.heap.size w w2→w2.cell? ⟨eb,eo+kk * 2+1,none⟩=some (.string V0) from fun w2 hb=>by
  obtain⟨b',o',e',hc⟩:=(hEV.out w2 hb).2.2 (by omega)
  rw [hEA] at e'
  cases e'
  rw [hV0]
  exact hc _ _ (setV_get hkk).2)
 have hxl:=(hv.all x (List.mem_of_getElem? hkk)).2
 rw [hEA] at hEV cX
 have hneg:¬ (kk:Int) < 0:=by omega
 have hki:(kk:Int) < en:=by omega
 have hk0:(0:Int)≤kk:=by omega
 rw [hix2] at cX
 have cF:=hid2 (fun (w2:World) (hb:Below w.heap.size w w2)=>show Calls Tryz.prog 41 #[.pointer (some ⟨R,0,none⟩),.string V0] w2 fun e w3=>e = .returned (.tuple #[])∧Pq (.returned (.tuple #[])) w3 from by
  have:=add_any w2 L v q s (h.below hb) hf.lim.buf x.2 (by omega)
  rw [ptrV,← hR,← hV0] at this
  refine this.mono fun e w3 k=>⟨k.1,?_⟩
  rw [hPq]
  have:=k.since hb hB
  rw [k.1] at this
  exact this)
 rw [ptrV,← hR,← hX0,← hPq]
 clear hcw htn hR hX0 hX hPq hN hAR hr hB hb1 h hf hrest hen hix hix2 hv hyes ha hkk hEA hV0 hxl hkl
 go_enter Tryz.func28,Tryz.ntmps28
 go_upto_region 2 with fail
 obtain⟨hmd,hb3⟩:=made_new w R (some ⟨b1,o1,none⟩) 2 cA X0
 obtain⟨W3,hW3⟩:∃ W3,W3=(((w.alloc (.cells #[.pointer (some ⟨R,0,none⟩)] 26)).alloc (.cells #[.slice (some ⟨b1,o1,none⟩) 2 cA,.string X0] 68)).alloc (.cells #[.string ⟨#[]⟩] 9)):=⟨_,rfl⟩
 rw [← hW3] at hmd hb3 ⊢
 have HMD:=hid2 hmd
 have HB3:=hid2 hb3
 have m0:W3.cell? ⟨w.heap.size+1,0,none⟩=some (.slice (some ⟨b1,o1,none⟩) 2 cA):=hmd.c.cell 0
 have m1:=(hW.out W3 hb3).2.1
 have m2:W3.cell? ⟨w.heap.size+1+1,0,none⟩=some (.string ⟨#[]⟩):=hmd.a.cell 0
 have m3:W3.frozen? ⟨w.heap.size+1+1,0,none⟩=false:=frozen_of_row W3 _ 0 _ _ hmd.a
 have hcapi:(2:Int)≤cA:=by omega
 clear hmd hb3 hW3
 go_upto_region 4 with fail
 have hmd4:=HMD.out.arg AR
 have hb4:Below w.heap.size w (W3.setCell ⟨w.heap.size+1+1,0,none⟩ (.string AR)):=HB3.out.setCell (by show w.heap.size≤w.heap.size+1+1;omega) _
 obtain⟨W4,hW4⟩:∃ W4,W4=W3.setCell ⟨w.heap.size+1+1,0,none⟩ (.string AR):=⟨_,rfl⟩
 rw [← hW4] at hmd4 hb4 ⊢
 clear hW4 m0 m1 m2 m3 HMD HB3
 have m0:W4.cell? ⟨w.heap.size,0,none⟩=some (.pointer (some ⟨R,0,none⟩)):=hmd4.r.cell 0
 have m1:=hcb.out W4 hb4
 have HMD:=hid2 hmd4
 have HB4:=hid2 hb4
 clear hmd4 hb4
 go_upto_region 5 with (go_at_call 36; refine (cL.out W4 HB4.out).mono ?_;rintro e w5 ⟨A5,c5,rfl,ho,hb⟩;have HO:=hid2 ho;have hmd5:=HMD.out.below hb;have hb5:=HB4.out.trans (hb.mono HB4.out.size);clear ho hb cL)
 have HMD5:=hid2 (fun (w2:World) (hb:Below w5.heap.size w5 w2)=>hmd5.below hb)
 have HB5:=hid2 (fun (w2:World) (hb:Below w5.heap.size w5 w2)=>hb5.trans (hb.mono hb5.size))
 have p0:w5.cell? ⟨w.heap.size+1,0,none⟩=some (.slice (some ⟨b1,o1,none⟩) 2 cA):=hmd5.c.cell 0
 have p1:=(hW.out w5 hb5).1
 have hc1:(1:Int)≤cA:=by omega
 have HB4S:=hid2 HB4.out.size
 clear m0 m1 hmd5 HMD HB4
 have p2:w5.cell? ⟨w.heap.size,0,none⟩=some (.pointer (some ⟨R,0,none⟩)):=(HMD5.out w5 (Below.refl _ _)).r.cell 0
 have p3:w5.cell? ⟨w.heap.size+1+1,0,none⟩=some (.string AR):=(HMD5.out w5 (Below.refl _ _)).a.cell 0
 have p5:=(hEV.out w5 (HB5.out w5 (Below.refl _ _))).1
 go_wp2_with (first
  | (go_at_call 44; refine (cX.out w5 (HB5.out w5 (Below.refl _ _)) _ p3).mono ?_;rintro e w6 ⟨rfl,hb6⟩;have HB6:=hid2 hb6;have p4:w6.cell? ⟨w.heap.size,0,none⟩=some (.pointer (some ⟨R,0,none⟩)):=(HMD5.out w6 hb6).r.cell 0;clear hb6 cX p2 p3))
 refine wp_region_rel 9 (by kernel_rfl) (by kernel_rfl) (by kernel_rfl) _ rfl (by kernel_rfl) (VV [some (.pointer (some ⟨R,0,none⟩)),some (.pointer (some ⟨R,0,none⟩)),some (.pointer (some ⟨R,0,none⟩)),some (.pointer (some ⟨R,1,none⟩)),some (.slice (some ⟨eb,eo,none⟩) en L.ec),some (.int .i64 kk),some (.pointer (some ⟨eb,eo+kk * 2,none⟩)),some (.pointer (some ⟨eb,eo+kk * 2+1,none⟩)),some (.string V0)] (fun _ _ _=>False)) (fun w2=>Below w5.heap.size w5 w2) (fun a b=>Below a.heap.size a b) (HB6.out.drew) (fun j v w1 w2 hb hv=>VV.keep (fun h=>h.elim) hv) ?_ ?_
 ·refine of_allOps ⟨?_,?_,?_,?_,?_,?_,?_,?_,?_,trivial⟩
  ·refine⟨rfl,fun T2 w2 hM hN hO hE K hK=>?_⟩
   have o2:T2[2]?=some (.pointer (some ⟨w.heap.size,0,none⟩)):=hO 2 rfl
   clear hE hO hN
   have hc2:w2.cell? ⟨w.heap.size,0,none⟩=some (.pointer (some ⟨R,0,none⟩)):=(HMD5.out w2 hM).r.cell 0
   go_simp
   exact hK _ _ rfl hM (Below.refl _ _)
  ·refine⟨rfl,fun T2 w2 hM hN hO hE K hK=>?_⟩
   have o2:T2[2]?=some (.pointer (some ⟨w.heap.size,0,none⟩)):=hO 2 rfl
   clear hE hO hN
   have hc2:w2.cell? ⟨w.heap.size,0,none⟩=some (.pointer (some ⟨R,0,none⟩)):=(HMD5.out w2 hM).r.cell 0
   go_simp
   exact hK _ _ rfl hM (Below.refl _ _)
  ·refine⟨rfl,fun T2 w2 hM hN hO hE K hK=>?_⟩
   obtain⟨v1,h1,e1⟩:=hE ⟨1,.data⟩ (by simp) rfl _ _ rfl rfl
   rw [show v1 = .pointer (some ⟨R,0,none⟩) from e1] at h1
   clear hE hO hN
   go_simp
   exact hK _ _ rfl hM (Below.refl _ _)
  ·refine⟨rfl,fun T2 w2 hM hN hO hE K hK=>?_⟩
   obtain⟨v2,h2,e2⟩:=hE ⟨2,.data⟩ (by simp) rfl _ _ rfl rfl
   rw [show v2 = .pointer (some ⟨R,0,none⟩) from e2] at h2
   clear hE hO hN
   go_simp
   exact hK _ _ rfl hM (Below.refl _ _)
  ·refine⟨rfl,fun T2 w2 hM hN hO hE K hK=>?_⟩
   obtain⟨v3,h3,e3⟩:=hE ⟨3,.data⟩ (by simp) rfl _ _ rfl rfl
   rw [show v3 = .pointer (some ⟨R,1,none⟩) from e3] at h3
   clear hE hO hN
   have hcc:=(hEV.out w2 (HB5.out w2 hM)).1
   go_simp
   exact hK _ _ rfl hM (Below.refl _ _)
  ·refine⟨rfl,fun T2 w2 hM hN hO hE K hK=>?_⟩
   have o6:T2[6]?=some (.int .i64 kk):=hO 6 rfl
   clear hE hO hN
   go_simp
   exact hK _ _ rfl hM (Below.refl _ _)
  ·refine⟨rfl,fun T2 w2 hM hN hO hE K hK=>?_⟩
   obtain⟨v4,h4,e4⟩:=hE ⟨4,.data⟩ (by simp) rfl _ _ rfl rfl
   rw [show v4 = .slice (some ⟨eb,eo,none⟩) en L.ec from e4] at h4
   obtain⟨v5,h5,e5⟩:=hE ⟨5,.data⟩ (by simp) rfl _ _ rfl rfl
   rw [show v5 = .int .i64 kk from e5] at h5
   clear hE hO hN
   go_simp
   exact hK _ _ rfl hM (Below.refl _ _)
  ·refine⟨rfl,fun T2 w2 hM hN hO hE K hK=>?_⟩
   obtain⟨v6,h6,e6⟩:=hE ⟨6,.data⟩ (by simp) rfl _ _ rfl rfl
   rw [show v6 = .pointer (some ⟨eb,eo+kk * 2,none⟩) from e6] at h6
   clear hE hO hN
   go_simp
   exact hK _ _ rfl hM (Below.refl _ _)
  ·refine⟨rfl,fun T2 w2 hM hN hO hE K hK=>?_⟩
   obtain⟨v7,h7,e7⟩:=hE ⟨7,.data⟩ (by simp) rfl _ _ rfl rfl
   rw [show v7 = .pointer (some ⟨eb,eo+kk * 2+1,none⟩) from e7] at h7
   clear hE hO hN
   have hcc:=hVL.out w2 (HB5.out w2 hM)
   go_simp
   exact hK _ _ rfl hM (Below.refl _ _)
 ·intro u w2 hM hF
  have e0:u 0 = .pointer (some ⟨R,0,none⟩):=hF 0 (by omega)
  have e8:u 8 = .string V0:=hF 8 (by omega)
  clear hF
  simp only [fillAll,Nat.reduceAdd,e0,e8,List.take_succ_cons,List.take_zero,List.drop_succ_cons,List.drop_zero,List.setIfInBounds_toArray,List.set_cons_succ,List.set_cons_zero]
  have HMM:=hid2 (HB5.out w2 hM)
  clear hM
  go_wp2_with (go_at_call 41; refine (cF.out w2 HMM.out).mono ?_;rintro e w7 ⟨rfl,hp⟩;have HP:=hid2 hp;clear hp)
  refine bodyPost_ret (results_none rfl _ _ _) rfl ?_
  exact HP.out
set_option maxHeartbeats 8000000 in
theorem do_need_yes (w:World) (L:RLay) (v:Env) (q:Option Nat) (s:PS) (h:RunIs w L v q s) (hf:Fit w L s) (A:Option Addr) (cA:Nat) (rest:TT) (hrest:rest.length≤1000000) (a:TT) (ha:a.length≤1000000) (hany:(linesT s.buf).any (hasT · a)=true) (hr:Rd w 1 A 2 (strV [kNeed,a])) (hcap:2≤cA) :
  Calls Tryz.prog 28 #[ptrV L.R,.agg #[.slice A 2 cA,.string (strB rest)]] w (VPost w L v q (s)):=by
 have hB:=h.size
 obtain⟨b1,o1,rfl,hb1,hcw⟩:=words_row hr (by decide)
 obtain⟨R,hR⟩:∃ R,R=L.R:=⟨_,rfl⟩
 obtain⟨X0,hX0⟩:∃ X0,X0=strB rest:=⟨_,rfl⟩
 obtain⟨X,hX⟩:∃ X,X=strB s.buf:=⟨_,rfl⟩
 obtain⟨Pq,hPq⟩:∃ Pq:Ending→World→Prop,Pq=(VPost w L v q (s)):=⟨_,rfl⟩
 obtain⟨N,hN⟩:∃ N,N=strB kNeed:=⟨_,rfl⟩
 obtain⟨AR,hAR⟩:∃ AR,AR=strB a:=⟨_,rfl⟩
 have htn:N.toList=kNeed:=by rw [hN];exact toList_strBT _
 have tkRead:(N.toList == [114,101,97,100])=false:=by rw [htn];decide
 have ukRead:¬ N.toList=[114,101,97,100]:=by rw [htn];decide
 have tkTry:(N.toList == [116,114,121])=false:=by rw [htn];decide
 have ukTry:¬ N.toList=[116,114,121]:=by rw [htn];decide
 have tkScan:(N.toList == [115,99,97,110])=false:=by rw [htn];decide
 have ukScan:¬ N.toList=[115,99,97,110]:=by rw [htn];decide
 have tkText:(N.toList == [116,101,120,116])=false:=by rw [htn];decide
 have ukText:¬ N.toList=[116,101,120,116]:=by rw [htn];decide
 have tkEnv:(N.toList == [101,110,118])=false:=by rw [htn];decide
 have ukEnv:¬ N.toList=[101,110,118]:=by rw [htn];decide
 have tkWrite:(N.toList == [119,114,105,116,101])=false:=by rw [htn];decide
 have ukWrite:¬ N.toList=[119,114,105,116,101]:=by rw [htn];decide
 have tkNeed:(N.toList == [110,101,101,100])=true:=by rw [htn,beq_iff_eq]
 have ukNeed:N.toList=[110,101,101,100]:=htn
 have k0:w.cell? ⟨b1,o1,none⟩=some (.string N):=by rw [hN];exact hcw 0 _ rfl
 have k1:w.cell? ⟨b1,o1+1,none⟩=some (.string AR):=by rw [hAR];exact hcw 1 _ rfl
 have hW:=hid2 (show ∀ w2,Below w.heap.size w w2→w2.cell? ⟨b1,o1,none⟩=some (.string N)∧w2.cell? ⟨b1,o1+1,none⟩=some (.string AR)∧True from fun w2 hb=>⟨(hb.cell (p:=⟨b1,o1,none⟩) hb1).trans k0,(hb.cell (p:=⟨b1,o1+1,none⟩) hb1).trans k1,trivial⟩)
 have cL:=hid2 (fun (W:World) (hb:Below w.heap.size w W)=>show Calls Tryz.prog 36 #[.string X] W fun e w'=>∃ A c,e = .returned (.slice A (linesT s.buf).length c)∧Own w' W.heap.size 9 1 A (linesT s.buf).length c (strV (linesT s.buf))∧Below W.heap.size W w' from by rw [hX];exact lines_any W s.buf (by have:=hf.lim.buf;omega) (hf.lib.on hb))
 have hcb:=hid2 (show ∀ w2,Below w.heap.size w w2→w2.cell? ⟨R,2,none⟩=some (.string X) from fun w2 hb=>by
  obtain⟨_,_,_,hrr⟩:=h
  rw [hX,hR]
  exact ((hrr.below hb).cell 2).1)
 obtain⟨bx,hbx⟩:∃ bx,bx=(linesT s.buf).any (hasT · a):=⟨_,rfl⟩
 have hgl:=hf.glob
 have cX:=hid2 (fun (w2:World) (A:Option Addr) (c:Nat) (bb:Nat) (ho:Own w2 bb 9 1 A (linesT s.buf).length c (strV (linesT s.buf))) (hb:Below w.heap.size w w2) (g:Nat) (hc:w2.cell? ⟨g,0,none⟩=some (.string AR))=>show Calls Tryz.prog 47 #[.slice A (linesT s.buf).length c,.func (.func 48) #[] #[.pointer (some ⟨g,0,none⟩)]] w2 fun e w'=>e = .returned (.bool bx)∧Below w2.heap.size w2 w' from by
  have:=contains_any w2 bb A c (linesT s.buf) ho (by have:=linesT_len s.buf;have:=hf.lim.buf;omega) (fun y hy=>by have:=linesT_le hy;have:=hf.lim.buf;omega) g a ⟨by rw [← hAR];exact hc,hf.lib.on hb,ha⟩
  rwa [← hbx] at this)
 rw [hany] at hbx
 rw [hbx] at cX
 have hFN:=hid2 (fun (w2:World) (hb:Below w.heap.size w w2)=>show Pq (.returned (.tuple #[])) w2 from by rw [hPq];exact VPost.plain h hb)
 rw [ptrV,← hR,← hX0,← hPq]
 clear hcw htn hR hX0 hX hPq hN hAR hr hB hb1 h hf hrest hany hbx hgl ha
 go_enter Tryz.func28,Tryz.ntmps28
 go_upto_region 2 with fail
 obtain⟨hmd,hb3⟩:=made_new w R (some ⟨b1,o1,none⟩) 2 cA X0
 obtain⟨W3,hW3⟩:∃ W3,W3=(((w.alloc (.cells #[.pointer (some ⟨R,0,none⟩)] 26)).alloc (.cells #[.slice (some ⟨b1,o1,none⟩) 2 cA,.string X0] 68)).alloc (.cells #[.string ⟨#[]⟩] 9)):=⟨_,rfl⟩
 rw [← hW3] at hmd hb3 ⊢
 have HMD:=hid2 hmd
 have HB3:=hid2 hb3
 have m0:W3.cell? ⟨w.heap.size+1,0,none⟩=some (.slice (some ⟨b1,o1,none⟩) 2 cA):=hmd.c.cell 0
 have m1:=(hW.out W3 hb3).2.1
 have m2:W3.cell? ⟨w.heap.size+1+1,0,none⟩=some (.string ⟨#[]⟩):=hmd.a.cell 0
 have m3:W3.frozen? ⟨w.heap.size+1+1,0,none⟩=false:=frozen_of_row W3 _ 0 _ _ hmd.a
 have hcapi:(2:Int)≤cA:=by omega
 clear hmd hb3 hW3
 go_upto_region 4 with fail
 have hmd4:=HMD.out.arg AR
 have hb4:Below w.heap.size w (W3.setCell ⟨w.heap.size+1+1,0,none⟩ (.string AR)):=HB3.out.setCell (by show w.heap.size≤w.heap.size+1+1;omega) _
 obtain⟨W4,hW4⟩:∃ W4,W4=W3.setCell ⟨w.heap.size+1+1,0,none⟩ (.string AR):=⟨_,rfl⟩
 rw [← hW4] at hmd4 hb4 ⊢
 clear hW4 m0 m1 m2 m3 HMD HB3
 have m0:W4.cell? ⟨w.heap.size,0,none⟩=some (.pointer (some ⟨R,0,none⟩)):=hmd4.r.cell 0
 have m1:=hcb.out W4 hb4
 have HMD:=hid2 hmd4
 have HB4:=hid2 hb4
 clear hmd4 hb4
 go_upto_region 5 with (go_at_call 36; refine (cL.out W4 HB4.out).mono ?_;rintro e w5 ⟨A5,c5,rfl,ho,hb⟩;have HO:=hid2 ho;have hmd5:=HMD.out.below hb;have hb5:=HB4.out.trans (hb.mono HB4.out.size);clear ho hb cL)
 have HMD5:=hid2 (fun (w2:World) (hb:Below w5.heap.size w5 w2)=>hmd5.below hb)
 have HB5:=hid2 (fun (w2:World) (hb:Below w5.heap.size w5 w2)=>hb5.trans (hb.mono hb5.size))
 have p0:w5.cell? ⟨w.heap.size+1,0,none⟩=some (.slice (some ⟨b1,o1,none⟩) 2 cA):=hmd5.c.cell 0
 have p1:=(hW.out w5 hb5).1
 have hc1:(1:Int)≤cA:=by omega
 have HB4S:=hid2 HB4.out.size
 clear m0 m1 hmd5 HMD HB4
 have p2:w5.cell? ⟨w.heap.size,0,none⟩=some (.pointer (some ⟨R,0,none⟩)):=(HMD5.out w5 (Below.refl _ _)).r.cell 0
 have p3:w5.cell? ⟨w.heap.size+1+1,0,none⟩=some (.string AR):=(HMD5.out w5 (Below.refl _ _)).a.cell 0
 obtain⟨nl,hnl⟩:∃ nl,nl=(linesT s.buf).length:=⟨_,rfl⟩
 have HO2:=HO.out
 rw [← hnl] at cX HO2 ⊢
 have HO3:=hid2 HO2
 clear HO2 HO hnl
 go_wp2_with (first
  | (go_at_call 47; refine (cX.out w5 A5 c5 _ HO3.out (HB5.out w5 (Below.refl _ _)) _ p3).mono ?_;rintro e w6 ⟨rfl,hb6⟩;have HB6:=hid2 hb6;have p4:w6.cell? ⟨w.heap.size,0,none⟩=some (.pointer (some ⟨R,0,none⟩)):=(HMD5.out w6 hb6).r.cell 0;clear hb6 cX p2 p3))
 refine bodyPost_ret (results_none rfl _ _ _) rfl ?_
 exact hFN.out _ (HB5.out _ HB6.out)
set_option maxHeartbeats 8000000 in
theorem do_need_no (w:World) (L:RLay) (v:Env) (q:Option Nat) (s:PS) (h:RunIs w L v q s) (hf:Fit w L s) (A:Option Addr) (cA:Nat) (rest:TT) (hrest:rest.length≤1000000) (a:TT) (ha:a.length≤1000000) (hany:(linesT s.buf).any (hasT · a)=false) (hr:Rd w 1 A 2 (strV [kNeed,a])) (hcap:2≤cA) :
  Calls Tryz.prog 28 #[ptrV L.R,.agg #[.slice A 2 cA,.string (strB rest)]] w (VPost w L v q (s.fail 15)):=by
 have hB:=h.size
 obtain⟨b1,o1,rfl,hb1,hcw⟩:=words_row hr (by decide)
 obtain⟨R,hR⟩:∃ R,R=L.R:=⟨_,rfl⟩
 obtain⟨X0,hX0⟩:∃ X0,X0=strB rest:=⟨_,rfl⟩
 obtain⟨X,hX⟩:∃ X,X=strB s.buf:=⟨_,rfl⟩
 obtain⟨Pq,hPq⟩:∃ Pq:Ending→World→Prop,Pq=(VPost w L v q (s.fail 15)):=⟨_,rfl⟩
 obtain⟨N,hN⟩:∃ N,N=strB kNeed:=⟨_,rfl⟩
 obtain⟨AR,hAR⟩:∃ AR,AR=strB a:=⟨_,rfl⟩
 have htn:N.toList=kNeed:=by rw [hN];exact toList_strBT _
 have tkRead:(N.toList == [114,101,97,100])=false:=by rw [htn];decide
 have ukRead:¬ N.toList=[114,101,97,100]:=by rw [htn];decide
 have tkTry:(N.toList == [116,114,121])=false:=by rw [htn];decide
 have ukTry:¬ N.toList=[116,114,121]:=by rw [htn];decide
 have tkScan:(N.toList == [115,99,97,110])=false:=by rw [htn];decide
 have ukScan:¬ N.toList=[115,99,97,110]:=by rw [htn];decide
 have tkText:(N.toList == [116,101,120,116])=false:=by rw [htn];decide
 have ukText:¬ N.toList=[116,101,120,116]:=by rw [htn];decide
 have tkEnv:(N.toList == [101,110,118])=false:=by rw [htn];decide
 have ukEnv:¬ N.toList=[101,110,118]:=by rw [htn];decide
 have tkWrite:(N.toList == [119,114,105,116,101])=false:=by rw [htn];decide
 have ukWrite:¬ N.toList=[119,114,105,116,101]:=by rw [htn];decide
 have tkNeed:(N.toList == [110,101,101,100])=true:=by rw [htn,beq_iff_eq]
 have ukNeed:N.toList=[110,101,101,100]:=htn
 have k0:w.cell? ⟨b1,o1,none⟩=some (.string N):=by rw [hN];exact hcw 0 _ rfl
 have k1:w.cell? ⟨b1,o1+1,none⟩=some (.string AR):=by rw [hAR];exact hcw 1 _ rfl
 have hW:=hid2 (show ∀ w2,Below w.heap.size w w2→w2.cell? ⟨b1,o1,none⟩=some (.string N)∧w2.cell? ⟨b1,o1+1,none⟩=some (.string AR)∧True from fun w2 hb=>⟨(hb.cell (p:=⟨b1,o1,none⟩) hb1).trans k0,(hb.cell (p:=⟨b1,o1+1,none⟩) hb1).trans k1,trivial⟩)
 have cL:=hid2 (fun (W:World) (hb:Below w.heap.size w W)=>show Calls Tryz.prog 36 #[.string X] W fun e w'=>∃ A c,e = .returned (.slice A (linesT s.buf).length c)∧Own w' W.heap.size 9 1 A (linesT s.buf).length c (strV (linesT s.buf))∧Below W.heap.size W w' from by rw [hX];exact lines_any W s.buf (by have:=hf.lim.buf;omega) (hf.lib.on hb))
 have hcb:=hid2 (show ∀ w2,Below w.heap.size w w2→w2.cell? ⟨R,2,none⟩=some (.string X) from fun w2 hb=>by
  obtain⟨_,_,_,hrr⟩:=h
  rw [hX,hR]
  exact ((hrr.below hb).cell 2).1)
 obtain⟨bx,hbx⟩:∃ bx,bx=(linesT s.buf).any (hasT · a):=⟨_,rfl⟩
 have hgl:=hf.glob
 have cX:=hid2 (fun (w2:World) (A:Option Addr) (c:Nat) (bb:Nat) (ho:Own w2 bb 9 1 A (linesT s.buf).length c (strV (linesT s.buf))) (hb:Below w.heap.size w w2) (g:Nat) (hc:w2.cell? ⟨g,0,none⟩=some (.string AR))=>show Calls Tryz.prog 47 #[.slice A (linesT s.buf).length c,.func (.func 48) #[] #[.pointer (some ⟨g,0,none⟩)]] w2 fun e w'=>e = .returned (.bool bx)∧Below w2.heap.size w2 w' from by
  have:=contains_any w2 bb A c (linesT s.buf) ho (by have:=linesT_len s.buf;have:=hf.lim.buf;omega) (fun y hy=>by have:=linesT_le hy;have:=hf.lim.buf;omega) g a ⟨by rw [← hAR];exact hc,hf.lib.on hb,ha⟩
  rwa [← hbx] at this)
 rw [hany] at hbx
 rw [hbx] at cX
 have cF:=hid2 (fun (w2:World) (hb:Below w.heap.size w w2)=>show Calls Tryz.prog 46 #[.pointer (some ⟨R,0,none⟩),.int .i64 15] w2 fun e w3=>e = .returned (.tuple #[])∧Pq (.returned (.tuple #[])) w3 from by
  have:=fail_any w2 L v q s (h.below hb) 15
  rw [ptrV,← hR] at this
  refine this.mono fun e w3 k=>⟨k.1,?_⟩
  rw [hPq]
  have:=k.since hb hB
  rw [k.1] at this
  exact this)
 rw [ptrV,← hR,← hX0,← hPq]
 clear hcw htn hR hX0 hX hPq hN hAR hr hB hb1 h hf hrest hany hbx hgl ha
 go_enter Tryz.func28,Tryz.ntmps28
 go_upto_region 2 with fail
 obtain⟨hmd,hb3⟩:=made_new w R (some ⟨b1,o1,none⟩) 2 cA X0
 obtain⟨W3,hW3⟩:∃ W3,W3=(((w.alloc (.cells #[.pointer (some ⟨R,0,none⟩)] 26)).alloc (.cells #[.slice (some ⟨b1,o1,none⟩) 2 cA,.string X0] 68)).alloc (.cells #[.string ⟨#[]⟩] 9)):=⟨_,rfl⟩
 rw [← hW3] at hmd hb3 ⊢
 have HMD:=hid2 hmd
 have HB3:=hid2 hb3
 have m0:W3.cell? ⟨w.heap.size+1,0,none⟩=some (.slice (some ⟨b1,o1,none⟩) 2 cA):=hmd.c.cell 0
 have m1:=(hW.out W3 hb3).2.1
 have m2:W3.cell? ⟨w.heap.size+1+1,0,none⟩=some (.string ⟨#[]⟩):=hmd.a.cell 0
 have m3:W3.frozen? ⟨w.heap.size+1+1,0,none⟩=false:=frozen_of_row W3 _ 0 _ _ hmd.a
 have hcapi:(2:Int)≤cA:=by omega
 clear hmd hb3 hW3
 go_upto_region 4 with fail
 have hmd4:=HMD.out.arg AR
 have hb4:Below w.heap.size w (W3.setCell ⟨w.heap.size+1+1,0,none⟩ (.string AR)):=HB3.out.setCell (by show w.heap.size≤w.heap.size+1+1;omega) _
 obtain⟨W4,hW4⟩:∃ W4,W4=W3.setCell ⟨w.heap.size+1+1,0,none⟩ (.string AR):=⟨_,rfl⟩
 rw [← hW4] at hmd4 hb4 ⊢
 clear hW4 m0 m1 m2 m3 HMD HB3
 have m0:W4.cell? ⟨w.heap.size,0,none⟩=some (.pointer (some ⟨R,0,none⟩)):=hmd4.r.cell 0
 have m1:=hcb.out W4 hb4
 have HMD:=hid2 hmd4
 have HB4:=hid2 hb4
 clear hmd4 hb4
 go_upto_region 5 with (go_at_call 36; refine (cL.out W4 HB4.out).mono ?_;rintro e w5 ⟨A5,c5,rfl,ho,hb⟩;have HO:=hid2 ho;have hmd5:=HMD.out.below hb;have hb5:=HB4.out.trans (hb.mono HB4.out.size);clear ho hb cL)
 have HMD5:=hid2 (fun (w2:World) (hb:Below w5.heap.size w5 w2)=>hmd5.below hb)
 have HB5:=hid2 (fun (w2:World) (hb:Below w5.heap.size w5 w2)=>hb5.trans (hb.mono hb5.size))
 have p0:w5.cell? ⟨w.heap.size+1,0,none⟩=some (.slice (some ⟨b1,o1,none⟩) 2 cA):=hmd5.c.cell 0
 have p1:=(hW.out w5 hb5).1
 have hc1:(1:Int)≤cA:=by omega
 have HB4S:=hid2 HB4.out.size
 clear m0 m1 hmd5 HMD HB4
 have p2:w5.cell? ⟨w.heap.size,0,none⟩=some (.pointer (some ⟨R,0,none⟩)):=(HMD5.out w5 (Below.refl _ _)).r.cell 0
 have p3:w5.cell? ⟨w.heap.size+1+1,0,none⟩=some (.string AR):=(HMD5.out w5 (Below.refl _ _)).a.cell 0
 obtain⟨nl,hnl⟩:∃ nl,nl=(linesT s.buf).length:=⟨_,rfl⟩
 have HO2:=HO.out
 rw [← hnl] at cX HO2 ⊢
 have HO3:=hid2 HO2
 clear HO2 HO hnl
 go_wp2_with (first
  | (go_at_call 47; refine (cX.out w5 A5 c5 _ HO3.out (HB5.out w5 (Below.refl _ _)) _ p3).mono ?_;rintro e w6 ⟨rfl,hb6⟩;have HB6:=hid2 hb6;have p4:w6.cell? ⟨w.heap.size,0,none⟩=some (.pointer (some ⟨R,0,none⟩)):=(HMD5.out w6 hb6).r.cell 0;clear hb6 cX p2 p3)
  | (go_at_call 46; refine (cF.out w6 (HB5.out w6 HB6.out)).mono ?_;rintro e w7 ⟨rfl,hp⟩;have HP:=hid2 hp;clear hp))
 refine bodyPost_ret (results_none rfl _ _ _) rfl ?_
 exact HP.out
end Go.Proofs.YtnecjdhamohadaaGreatDoor
