/- A tool's run: what it writes; its buffer turned; a command, whichever it is. -/
import Derived.Test.YtnecjdhamohadaaGreatDoorPMn
set_option linter.unusedSimpArgs false
set_option linter.unusedVariables false
namespace Go.Proofs.YtnecjdhamohadaaGreatDoor
open Go.RowKit Go.Maps Go.Shelf
set_option maxRecDepth 100000
theorem laid_over (A:Option Addr) (n c:Nat) (EA:Option Addr) (en ec:Nat) (buf:TT) (m:Nat) (asks:TT) (waits:Bool) (d e:DE) :
  laid (runV A n c EA en ec buf m asks waits d) 6 [.int .i64 e.kind,.string (strB e.path),.string (strB e.data),.int .i64 e.why]=runV A n c EA en ec buf m asks waits e:=rfl
set_option maxHeartbeats 8000000 in
theorem do_write (w:World) (L:RLay) (v:Env) (q:Option Nat) (s:PS) (h:RunIs w L v q s) (hf:Fit w L s) (A:Option Addr) (cA:Nat) (rest:TT) (hrest:rest.length≤1000000) (a:TT) (ha:a.length≤1000000) (hr:Rd w 1 A 2 (strV [kWrite,a])) (hcap:2≤cA) :
  Calls Tryz.prog 28 #[ptrV L.R,.agg #[.slice A 2 cA,.string (strB rest)]] w (VPost w L v q ({ s with over:=⟨2,a,s.buf,0⟩,buf:=[] })):=by
 have hB:=h.size
 obtain⟨b1,o1,rfl,hb1,hcw⟩:=words_row hr (by decide)
 obtain⟨R,hR⟩:∃ R,R=L.R:=⟨_,rfl⟩
 obtain⟨X0,hX0⟩:∃ X0,X0=strB rest:=⟨_,rfl⟩
 obtain⟨X,hX⟩:∃ X,X=strB s.buf:=⟨_,rfl⟩
 obtain⟨Pq,hPq⟩:∃ Pq:Ending→World→Prop,Pq=(VPost w L v q ({ s with over:=⟨2,a,s.buf,0⟩,buf:=[] })):=⟨_,rfl⟩
 obtain⟨N,hN⟩:∃ N,N=strB kWrite:=⟨_,rfl⟩
 obtain⟨AR,hAR⟩:∃ AR,AR=strB a:=⟨_,rfl⟩
 have htn:N.toList=kWrite:=by rw [hN];exact toList_strBT _
 have tkRead:(N.toList == [114,101,97,100])=false:=by rw [htn];decide
 have ukRead:¬ N.toList=[114,101,97,100]:=by rw [htn];decide
 have tkTry:(N.toList == [116,114,121])=false:=by rw [htn];decide
 have ukTry:¬ N.toList=[116,114,121]:=by rw [htn];decide
 have tkScan:(N.toList == [115,99,97,110])=false:=by rw [htn];decide
 have ukScan:¬ N.toList=[115,99,97,110]:=by rw [htn];decide
 have tkText:(N.toList == [116,101,120,116])=false:=by rw [htn];decide
 have ukText:¬ N.toList=[116,101,120,116]:=by rw [htn];decide
 have tkEnv:(N.toList == [101,110,118])=false:=by rw [htn];decide
 have ukEnv:¬ N.toList=[101,110,118]:=by rw [htn];decide
 have tkWrite:(N.toList == [119,114,105,116,101])=true:=by rw [htn,beq_iff_eq]
 have ukWrite:N.toList=[119,114,105,116,101]:=htn
 have k0:w.cell? ⟨b1,o1,none⟩=some (.string N):=by rw [hN];exact hcw 0 _ rfl
 have k1:w.cell? ⟨b1,o1+1,none⟩=some (.string AR):=by rw [hAR];exact hcw 1 _ rfl
 have hW:=hid2 (show ∀ w2,Below w.heap.size w w2→w2.cell? ⟨b1,o1,none⟩=some (.string N)∧w2.cell? ⟨b1,o1+1,none⟩=some (.string AR)∧True from fun w2 hb=>⟨(hb.cell (p:=⟨b1,o1,none⟩) hb1).trans k0,(hb.cell (p:=⟨b1,o1+1,none⟩) hb1).trans k1,trivial⟩)
 have cL:=hid2 (fun (W:World) (hb:Below w.heap.size w W)=>show Calls Tryz.prog 36 #[.string X] W fun e w'=>∃ A c,e = .returned (.slice A (linesT s.buf).length c)∧Own w' W.heap.size 9 1 A (linesT s.buf).length c (strV (linesT s.buf))∧Below W.heap.size W w' from by rw [hX];exact lines_any W s.buf (by have:=hf.lim.buf;omega) (hf.lib.on hb))
 have hcb:=hid2 (show ∀ w2,Below w.heap.size w w2→w2.cell? ⟨R,2,none⟩=some (.string X) from fun w2 hb=>by
  obtain⟨_,_,_,hrr⟩:=h
  rw [hX,hR]
  exact ((hrr.below hb).cell 2).1)
 have HFN:=hid2 (fun (w2:World) (hb:Below w.heap.size w w2)=>show ∃ cur:Array Value,w2.heap[R]?=some (.cells cur 63 (0,0))∧cur.size=10∧(w2.setRow R (laid cur 6 [.int .i64 2,.string AR,.string X,.int .i64 0])).cell? ⟨R,2,none⟩=some (.string X)∧(w2.setRow R (laid cur 6 [.int .i64 2,.string AR,.string X,.int .i64 0])).frozen? ⟨R,2,none⟩=false ∧
   Pq (.returned (.tuple #[])) ((w2.setRow R (laid cur 6 [.int .i64 2,.string AR,.string X,.int .i64 0])).setCell ⟨R,2,none⟩ (.string ⟨#[]⟩)) from by
  obtain⟨Ar,cr,us,hr0⟩:=h
  have hr2:=hr0.below hb
  have hlaid:=laid_over Ar s.todo.length cr L.EA v.env.length L.ec s.buf L.m s.asks s.waits s.over ⟨2,a,s.buf,0⟩
  rw [← hAR,← hX] at hlaid
  have hrow:CellB (w2.setRow R (laid (runV Ar s.todo.length cr L.EA v.env.length L.ec s.buf L.m s.asks s.waits s.over) 6 [.int .i64 2,.string AR,.string X,.int .i64 0])) L.R (runV Ar s.todo.length cr L.EA v.env.length L.ec s.buf L.m s.asks s.waits ⟨2,a,s.buf,0⟩) 63:=by
   have h8:=hr2.run
   rw [← hR] at h8 ⊢
   unfold CellB at h8 ⊢
   rw [setRow_heap w2 R _ _ _ _ h8]
   exact congrArg (fun z=>some (Obj.cells z 63 (0,0))) hlaid
  have hb2:=TBut.setRow (TBut.refl L.B w2) hr2.run (.inl rfl) hr2.base (laid (runV Ar s.todo.length cr L.EA v.env.length L.ec s.buf L.m s.asks s.waits s.over) 6 [.int .i64 2,.string AR,.string X,.int .i64 0])
  rw [← hR] at hb2
  have h3:=hr2.cells (s':={ s with over:=⟨2,a,s.buf,0⟩ }) hrow (fun k hk=>setRow_other w2 R k _ (by rw [hR];exact hk)) hb2 rfl rfl rfl
  have h4:=h3.one (s':={ s with over:=⟨2,a,s.buf,0⟩,buf:=[] }) (i:=2) (u:=.string ⟨#[]⟩) rfl rfl rfl rfl
  have h5:=h3.cell 2
  rw [← hR] at h4 h5
  refine⟨runV Ar s.todo.length cr L.EA v.env.length L.ec s.buf L.m s.asks s.waits s.over,?_,rfl,?_,h5.2,?_⟩
  ·have h8:=hr2.run
   rw [← hR] at h8
   exact h8
  ·rw [hX]
   rw [hX] at h5
   exact h5.1
  ·rw [hPq]
   exact⟨rfl,⟨_,_,_,h4.1⟩,(TBut.of_below hb hB).trans (hb2.trans h4.2)⟩)
 rw [ptrV,← hR,← hX0,← hPq]
 clear hcw htn hR hX0 hX hPq hN hAR hr hB hb1 h hf hrest ha
 go_enter Tryz.func28,Tryz.ntmps28
 go_upto_region 2 with fail
 obtain⟨hmd,hb3⟩:=made_new w R (some ⟨b1,o1,none⟩) 2 cA X0
 obtain⟨W3,hW3⟩:∃ W3,W3=(((w.alloc (.cells #[.pointer (some ⟨R,0,none⟩)] 26)).alloc (.cells #[.slice (some ⟨b1,o1,none⟩) 2 cA,.string X0] 68)).alloc (.cells #[.string ⟨#[]⟩] 9)):=⟨_,rfl⟩
 rw [← hW3] at hmd hb3 ⊢
 have HMD:=hid2 hmd
 have HB3:=hid2 hb3
 have m0:W3.cell? ⟨w.heap.size+1,0,none⟩=some (.slice (some ⟨b1,o1,none⟩) 2 cA):=hmd.c.cell 0
 have m1:=(hW.out W3 hb3).2.1
 have m2:W3.cell? ⟨w.heap.size+1+1,0,none⟩=some (.string ⟨#[]⟩):=hmd.a.cell 0
 have m3:W3.frozen? ⟨w.heap.size+1+1,0,none⟩=false:=frozen_of_row W3 _ 0 _ _ hmd.a
 have hcapi:(2:Int)≤cA:=by omega
 clear hmd hb3 hW3
 go_upto_region 4 with fail
 have hmd4:=HMD.out.arg AR
 have hb4:Below w.heap.size w (W3.setCell ⟨w.heap.size+1+1,0,none⟩ (.string AR)):=HB3.out.setCell (by show w.heap.size≤w.heap.size+1+1;omega) _
 obtain⟨W4,hW4⟩:∃ W4,W4=W3.setCell ⟨w.heap.size+1+1,0,none⟩ (.string AR):=⟨_,rfl⟩
 rw [← hW4] at hmd4 hb4 ⊢
 clear hW4 m0 m1 m2 m3 HMD HB3
 have m0:W4.cell? ⟨w.heap.size,0,none⟩=some (.pointer (some ⟨R,0,none⟩)):=hmd4.r.cell 0
 have m1:=hcb.out W4 hb4
 have HMD:=hid2 hmd4
 have HB4:=hid2 hb4
 clear hmd4 hb4
 go_upto_region 5 with (go_at_call 36; refine (cL.out W4 HB4.out).mono ?_;rintro e w5 ⟨A5,c5,rfl,ho,hb⟩;have HO:=hid2 ho;have hmd5:=HMD.out.below hb;have hb5:=HB4.out.trans (hb.mono HB4.out.size);clear ho hb cL)
 have HMD5:=hid2 (fun (w2:World) (hb:Below w5.heap.size w5 w2)=>hmd5.below hb)
 have HB5:=hid2 (fun (w2:World) (hb:Below w5.heap.size w5 w2)=>hb5.trans (hb.mono hb5.size))
 have p0:w5.cell? ⟨w.heap.size+1,0,none⟩=some (.slice (some ⟨b1,o1,none⟩) 2 cA):=hmd5.c.cell 0
 have p1:=(hW.out w5 hb5).1
 have hc1:(1:Int)≤cA:=by omega
 have HB4S:=hid2 HB4.out.size
 clear m0 m1 hmd5 HMD HB4
 go_upto_region 21 with fail
 refine wp_region_rel 9 (by kernel_rfl) (by kernel_rfl) (by kernel_rfl) _ rfl (by kernel_rfl) (VV [some (.pointer (some ⟨R,0,none⟩)),some (.string AR),some (.pointer (some ⟨R,0,none⟩)),some (.pointer (some ⟨R,0,none⟩)),some (.pointer (some ⟨R,2,none⟩)),some (.string X),some (.agg #[.int .i64 2,.string AR,.string X,.int .i64 0]),some (.pointer (some ⟨R,0,none⟩)),some (.pointer (some ⟨R,6,none⟩))] (fun _ _ _=>False)) (fun w2=>Below w5.heap.size w5 w2) (fun a b=>Below a.heap.size a b) ((Below.refl _ w5).drew) (fun j v w1 w2 hb hv=>VV.keep (fun h=>h.elim) hv) ?_ ?_
 ·refine of_allOps ⟨?_,?_,?_,?_,?_,?_,?_,?_,?_,trivial⟩
  ·refine⟨rfl,fun T2 w2 hM hN hO hE K hK=>?_⟩
   have o2:T2[2]?=some (.pointer (some ⟨w.heap.size,0,none⟩)):=hO 2 rfl
   clear hE hO hN
   have hc2:w2.cell? ⟨w.heap.size,0,none⟩=some (.pointer (some ⟨R,0,none⟩)):=(HMD5.out w2 hM).r.cell 0
   go_simp
   exact hK _ _ rfl hM (Below.refl _ _)
  ·refine⟨rfl,fun T2 w2 hM hN hO hE K hK=>?_⟩
   have o4:T2[4]?=some (.pointer (some ⟨w.heap.size+1+1,0,none⟩)):=hO 4 rfl
   clear hE hO hN
   have hc2:w2.cell? ⟨w.heap.size+1+1,0,none⟩=some (.string AR):=(HMD5.out w2 hM).a.cell 0
   go_simp
   exact hK _ _ rfl hM (Below.refl _ _)
  ·refine⟨rfl,fun T2 w2 hM hN hO hE K hK=>?_⟩
   have o2:T2[2]?=some (.pointer (some ⟨w.heap.size,0,none⟩)):=hO 2 rfl
   clear hE hO hN
   have hc2:w2.cell? ⟨w.heap.size,0,none⟩=some (.pointer (some ⟨R,0,none⟩)):=(HMD5.out w2 hM).r.cell 0
   go_simp
   exact hK _ _ rfl hM (Below.refl _ _)
  ·refine⟨rfl,fun T2 w2 hM hN hO hE K hK=>?_⟩
   obtain⟨v2,h2,e2⟩:=hE ⟨2,.data⟩ (by simp) rfl _ _ rfl rfl
   rw [show v2 = .pointer (some ⟨R,0,none⟩) from e2] at h2
   clear hE hO hN
   go_simp
   exact hK _ _ rfl hM (Below.refl _ _)
  ·refine⟨rfl,fun T2 w2 hM hN hO hE K hK=>?_⟩
   obtain⟨v3,h3,e3⟩:=hE ⟨3,.data⟩ (by simp) rfl _ _ rfl rfl
   rw [show v3 = .pointer (some ⟨R,0,none⟩) from e3] at h3
   clear hE hO hN
   go_simp
   exact hK _ _ rfl hM (Below.refl _ _)
  ·refine⟨rfl,fun T2 w2 hM hN hO hE K hK=>?_⟩
   obtain⟨v4,h4,e4⟩:=hE ⟨4,.data⟩ (by simp) rfl _ _ rfl rfl
   rw [show v4 = .pointer (some ⟨R,2,none⟩) from e4] at h4
   clear hE hO hN
   have hcc:=hcb.out w2 (HB5.out w2 hM)
   go_simp
   exact hK _ _ rfl hM (Below.refl _ _)
  ·refine⟨rfl,fun T2 w2 hM hN hO hE K hK=>?_⟩
   obtain⟨v1,h1,e1⟩:=hE ⟨1,.data⟩ (by simp) rfl _ _ rfl rfl
   rw [show v1 = .string AR from e1] at h1
   obtain⟨v5,h5,e5⟩:=hE ⟨5,.data⟩ (by simp) rfl _ _ rfl rfl
   rw [show v5 = .string X from e5] at h5
   clear hE hO hN
   go_simp
   exact hK _ _ rfl hM (Below.refl _ _)
  ·refine⟨rfl,fun T2 w2 hM hN hO hE K hK=>?_⟩
   obtain⟨v0,h0,e0⟩:=hE ⟨0,.data⟩ (by simp) rfl _ _ rfl rfl
   rw [show v0 = .pointer (some ⟨R,0,none⟩) from e0] at h0
   clear hE hO hN
   go_simp
   exact hK _ _ rfl hM (Below.refl _ _)
  ·refine⟨rfl,fun T2 w2 hM hN hO hE K hK=>?_⟩
   obtain⟨v7,h7,e7⟩:=hE ⟨7,.data⟩ (by simp) rfl _ _ rfl rfl
   rw [show v7 = .pointer (some ⟨R,0,none⟩) from e7] at h7
   clear hE hO hN
   go_simp
   exact hK _ _ rfl hM (Below.refl _ _)
 ·intro u w2 hM hF
  have e6:u 6 = .agg #[.int .i64 2,.string AR,.string X,.int .i64 0]:=hF 6 (by omega)
  have e8:u 8 = .pointer (some ⟨R,6,none⟩):=hF 8 (by omega)
  clear hF
  simp only [fillAll,Nat.reduceAdd,e6,e8,List.take_succ_cons,List.take_zero,List.drop_succ_cons,List.drop_zero,List.setIfInBounds_toArray,List.set_cons_succ,List.set_cons_zero]
  have HMM:=hid2 (HB5.out w2 hM)
  have p4:w2.cell? ⟨w.heap.size,0,none⟩=some (.pointer (some ⟨R,0,none⟩)):=(HMD5.out w2 hM).r.cell 0
  have hglt:=CellB.lt (HMD5.out w2 hM).r
  obtain⟨cur,q1,q2,q3,q4,q5⟩:=HFN.out w2 HMM.out
  have hne:w.heap.size≠R:=by
   rintro rfl
   have:=(HMD5.out w2 hM).r
   unfold CellB at this
   rw [q1] at this
   injection this with this
   injection this with _ this
   cases this
  have p5:(w2.setRow R (laid cur 6 [.int .i64 2,.string AR,.string X,.int .i64 0])).cell? ⟨w.heap.size,0,none⟩=some (.pointer (some ⟨R,0,none⟩)):=(World.cell?_of_block (setRow_other w2 R _ _ hne)).trans p4
  have hfit:6+[Value.int .i64 2,.string AR,.string X,.int .i64 0].length≤cur.size:=by rw [q2];simp
  have HQ5:=hid2 q5
  clear hM HFN q5 q2 p4
  go_wp2_with ((with_reducible refine wpList_store_lit R 6 (.agg #[.int .i64 2,.string AR,.string X,.int .i64 0]) [.int .i64 2,.string AR,.string X,.int .i64 0] (do_cells _ _ _ _) cur 63 q1 (info_do4 _ _ _ _) hfit one_do ?_ ?_);exact⟨rfl,rfl⟩;obtain⟨W6,hW6⟩:∃ W6,W6=w2.setRow R (laid cur 6 [.int .i64 2,.string AR,.string X,.int .i64 0]):=⟨_,rfl⟩;rw [← hW6] at p5 q3 q4 HQ5 ⊢;clear hW6 q1)
  refine bodyPost_ret (results_none rfl _ _ _) rfl ?_
  exact HQ5.out
set_option maxHeartbeats 8000000 in
theorem do_sort (w:World) (L:RLay) (v:Env) (q:Option Nat) (s:PS) (h:RunIs w L v q s) (hf:Fit w L s) (A:Option Addr) (cA:Nat) (rest:TT) (hrest:rest.length≤1000000) (hr:Rd w 1 A 1 (strV [kSort])) (hcap:1≤cA) :
  Calls Tryz.prog 28 #[ptrV L.R,.agg #[.slice A 1 cA,.string (strB rest)]] w (VPost w L v q (s.setLines (sortT (linesT s.buf)))):=by
 have hB:=h.size
 obtain⟨b1,o1,rfl,hb1,hcw⟩:=words_row hr (by decide)
 obtain⟨R,hR⟩:∃ R,R=L.R:=⟨_,rfl⟩
 obtain⟨X0,hX0⟩:∃ X0,X0=strB rest:=⟨_,rfl⟩
 obtain⟨X,hX⟩:∃ X,X=strB s.buf:=⟨_,rfl⟩
 obtain⟨Pq,hPq⟩:∃ Pq:Ending→World→Prop,Pq=(VPost w L v q (s.setLines (sortT (linesT s.buf)))):=⟨_,rfl⟩
 obtain⟨N,hN⟩:∃ N,N=strB kSort:=⟨_,rfl⟩
 have htn:N.toList=kSort:=by rw [hN];exact toList_strBT _
 have tkRead:(N.toList == [114,101,97,100])=false:=by rw [htn];decide
 have ukRead:¬ N.toList=[114,101,97,100]:=by rw [htn];decide
 have tkTry:(N.toList == [116,114,121])=false:=by rw [htn];decide
 have ukTry:¬ N.toList=[116,114,121]:=by rw [htn];decide
 have tkScan:(N.toList == [115,99,97,110])=false:=by rw [htn];decide
 have ukScan:¬ N.toList=[115,99,97,110]:=by rw [htn];decide
 have tkText:(N.toList == [116,101,120,116])=false:=by rw [htn];decide
 have ukText:¬ N.toList=[116,101,120,116]:=by rw [htn];decide
 have tkEnv:(N.toList == [101,110,118])=false:=by rw [htn];decide
 have ukEnv:¬ N.toList=[101,110,118]:=by rw [htn];decide
 have tkWrite:(N.toList == [119,114,105,116,101])=false:=by rw [htn];decide
 have ukWrite:¬ N.toList=[119,114,105,116,101]:=by rw [htn];decide
 have tkNeed:(N.toList == [110,101,101,100])=false:=by rw [htn];decide
 have ukNeed:¬ N.toList=[110,101,101,100]:=by rw [htn];decide
 have tkFail:(N.toList == [102,97,105,108])=false:=by rw [htn];decide
 have ukFail:¬ N.toList=[102,97,105,108]:=by rw [htn];decide
 have k0:w.cell? ⟨b1,o1,none⟩=some (.string N):=by rw [hN];exact hcw 0 _ rfl
 have hW:=hid2 (show ∀ w2,Below w.heap.size w w2→w2.cell? ⟨b1,o1,none⟩=some (.string N)∧True from fun w2 hb=>⟨(hb.cell (p:=⟨b1,o1,none⟩) hb1).trans k0,trivial⟩)
 have cL:=hid2 (fun (W:World) (hb:Below w.heap.size w W)=>show Calls Tryz.prog 36 #[.string X] W fun e w'=>∃ A c,e = .returned (.slice A (linesT s.buf).length c)∧Own w' W.heap.size 9 1 A (linesT s.buf).length c (strV (linesT s.buf))∧Below W.heap.size W w' from by rw [hX];exact lines_any W s.buf (by have:=hf.lim.buf;omega) (hf.lib.on hb))
 have hcb:=hid2 (show ∀ w2,Below w.heap.size w w2→w2.cell? ⟨R,2,none⟩=some (.string X) from fun w2 hb=>by
  obtain⟨_,_,_,hrr⟩:=h
  rw [hX,hR]
  exact ((hrr.below hb).cell 2).1)
 obtain⟨nl,hnl⟩:∃ nl,nl=(linesT s.buf).length:=⟨_,rfl⟩
 have hbl:=hf.lim.buf
 have cX:=hid2 (fun (w2:World) (hb:Below w.heap.size w w2) (A:Option Addr) (c:Nat) (ho:Own w2 w.heap.size 9 1 A nl c (strV (linesT s.buf)))=>show Calls Tryz.prog 50 #[.pointer (some ⟨R,0,none⟩),.string N,.string ⟨#[]⟩,.slice A nl c] w2 fun e w3=>e = .returned (.tuple #[])∧Pq (.returned (.tuple #[])) w3 from by
  have:=turn_sort w w2 L v q s A c (linesT s.buf) ⟨h,hf,hb,by rw [← hnl];exact ho,by have:=linesT_len s.buf;omega,fun y hy=>by have:=linesT_le hy;omega,by have:=wholeT_lines s.buf;omega⟩ []
  rw [ptrV,← hR,← hN,← hnl,show strB []=⟨#[]⟩ from rfl] at this
  refine this.mono fun e w3 k=>⟨k.1,?_⟩
  rw [hPq]
  have k2:=k
  rw [k.1] at k2
  first
   | exact k2
   | (rw [← hnl];exact k2))
 rw [← hnl] at cL
 rw [ptrV,← hR,← hX0,← hPq]
 clear hcw htn hR hX0 hX hPq hN hr hB hb1 h hf hrest hnl hbl
 go_enter Tryz.func28,Tryz.ntmps28
 go_upto_region 2 with fail
 obtain⟨hmd,hb3⟩:=made_new w R (some ⟨b1,o1,none⟩) 1 cA X0
 obtain⟨W3,hW3⟩:∃ W3,W3=(((w.alloc (.cells #[.pointer (some ⟨R,0,none⟩)] 26)).alloc (.cells #[.slice (some ⟨b1,o1,none⟩) 1 cA,.string X0] 68)).alloc (.cells #[.string ⟨#[]⟩] 9)):=⟨_,rfl⟩
 rw [← hW3] at hmd hb3 ⊢
 have HMD:=hid2 hmd
 have HB3:=hid2 hb3
 have m0:W3.cell? ⟨w.heap.size+1,0,none⟩=some (.slice (some ⟨b1,o1,none⟩) 1 cA):=hmd.c.cell 0
 clear hmd hb3 hW3
 go_upto_region 4 with fail
 have hmd4:=HMD.out
 have hb4:=HB3.out
 obtain⟨W4,hW4⟩:∃ W4,W4=W3:=⟨_,rfl⟩
 rw [← hW4] at hmd4 hb4 ⊢
 clear hW4 m0 HMD HB3
 have m0:W4.cell? ⟨w.heap.size,0,none⟩=some (.pointer (some ⟨R,0,none⟩)):=hmd4.r.cell 0
 have m1:=hcb.out W4 hb4
 have HMD:=hid2 hmd4
 have HB4:=hid2 hb4
 clear hmd4 hb4
 go_upto_region 5 with (go_at_call 36; refine (cL.out W4 HB4.out).mono ?_;rintro e w5 ⟨A5,c5,rfl,ho,hb⟩;have HO:=hid2 ho;have hmd5:=HMD.out.below hb;have hb5:=HB4.out.trans (hb.mono HB4.out.size);clear ho hb cL)
 have HMD5:=hid2 (fun (w2:World) (hb:Below w5.heap.size w5 w2)=>hmd5.below hb)
 have HB5:=hid2 (fun (w2:World) (hb:Below w5.heap.size w5 w2)=>hb5.trans (hb.mono hb5.size))
 have p0:w5.cell? ⟨w.heap.size+1,0,none⟩=some (.slice (some ⟨b1,o1,none⟩) 1 cA):=hmd5.c.cell 0
 have p1:=(hW.out w5 hb5).1
 have hc1:(1:Int)≤cA:=by omega
 have HB4S:=hid2 HB4.out.size
 clear m0 m1 hmd5 HMD HB4
 go_upto_region 6 with fail
 have HO6:=hid2 (HO.out.mono (HB4S.out))
 refine wp_region_rel 7 (by kernel_rfl) (by kernel_rfl) (by kernel_rfl) _ rfl (by kernel_rfl) (VV [some (.pointer (some ⟨R,0,none⟩)),some (.pointer (some ⟨w.heap.size+1,0,none⟩)),some (.slice (some ⟨b1,o1,none⟩) 1 cA),some (.pointer (some ⟨b1,o1,none⟩)),some (.string N),some (.string ⟨#[]⟩),some (.slice A5 nl c5)] (fun _ _ _=>False)) (fun w2=>Below w5.heap.size w5 w2) (fun a b=>Below a.heap.size a b) ((Below.refl _ w5).drew) (fun j v w1 w2 hb hv=>VV.keep (fun h=>h.elim) hv) ?_ ?_
 ·refine of_allOps ⟨?_,?_,?_,?_,?_,?_,?_,trivial⟩
  ·refine⟨rfl,fun T2 w2 hM hN hO hE K hK=>?_⟩
   have o2:T2[2]?=some (.pointer (some ⟨w.heap.size,0,none⟩)):=hO 2 rfl
   clear hE hO hN
   have hc2:w2.cell? ⟨w.heap.size,0,none⟩=some (.pointer (some ⟨R,0,none⟩)):=(HMD5.out w2 hM).r.cell 0
   go_simp
   exact hK _ _ rfl hM (Below.refl _ _)
  ·refine⟨rfl,fun T2 w2 hM hN hO hE K hK=>?_⟩
   have o3:T2[3]?=some (.pointer (some ⟨w.heap.size+1,0,none⟩)):=hO 3 rfl
   clear hE hO hN
   go_simp
   exact hK _ _ rfl hM (Below.refl _ _)
  ·refine⟨rfl,fun T2 w2 hM hN hO hE K hK=>?_⟩
   obtain⟨v1,h1,e1⟩:=hE ⟨1,.data⟩ (by simp) rfl _ _ rfl rfl
   rw [show v1 = .pointer (some ⟨w.heap.size+1,0,none⟩) from e1] at h1
   clear hE hO hN
   have hc2:w2.cell? ⟨w.heap.size+1,0,none⟩=some (.slice (some ⟨b1,o1,none⟩) 1 cA):=(HMD5.out w2 hM).c.cell 0
   go_simp
   exact hK _ _ rfl hM (Below.refl _ _)
  ·refine⟨rfl,fun T2 w2 hM hN hO hE K hK=>?_⟩
   obtain⟨v2,h2,e2⟩:=hE ⟨2,.data⟩ (by simp) rfl _ _ rfl rfl
   rw [show v2 = .slice (some ⟨b1,o1,none⟩) 1 cA from e2] at h2
   clear hE hO hN
   go_simp
   exact hK _ _ rfl hM (Below.refl _ _)
  ·refine⟨rfl,fun T2 w2 hM hN hO hE K hK=>?_⟩
   obtain⟨v3,h3,e3⟩:=hE ⟨3,.data⟩ (by simp) rfl _ _ rfl rfl
   rw [show v3 = .pointer (some ⟨b1,o1,none⟩) from e3] at h3
   clear hE hO hN
   have hc2:=(hW.out w2 (HB5.out w2 hM)).1
   go_simp
   exact hK _ _ rfl hM (Below.refl _ _)
  ·refine⟨rfl,fun T2 w2 hM hN hO hE K hK=>?_⟩
   have o4:T2[4]?=some (.pointer (some ⟨w.heap.size+1+1,0,none⟩)):=hO 4 rfl
   clear hE hO hN
   have hc2:w2.cell? ⟨w.heap.size+1+1,0,none⟩=some (.string ⟨#[]⟩):=(HMD5.out w2 hM).a.cell 0
   go_simp
   exact hK _ _ rfl hM (Below.refl _ _)
  ·refine⟨rfl,fun T2 w2 hM hN hO hE K hK=>?_⟩
   have o5:T2[5]?=some (.slice A5 nl c5):=hO 5 rfl
   clear hE hO hN
   go_simp
   exact hK _ _ rfl hM (Below.refl _ _)
 ·intro u w2 hM hF
  have e0:u 0 = .pointer (some ⟨R,0,none⟩):=hF 0 (by omega)
  have e4:u 4 = .string N:=hF 4 (by omega)
  have e5:u 5 = .string ⟨#[]⟩:=hF 5 (by omega)
  have e6:u 6 = .slice A5 nl c5:=hF 6 (by omega)
  clear hF
  simp only [fillAll,Nat.reduceAdd,e0,e4,e5,e6,List.take_succ_cons,List.take_zero,List.drop_succ_cons,List.drop_zero,List.setIfInBounds_toArray,List.set_cons_succ,List.set_cons_zero]
  have HMM:=hid2 (HB5.out w2 hM)
  have HO7:=hid2 (HO6.out.below hM (Nat.le_refl _))
  clear hM
  go_wp2_with (go_at_call 50; refine (cX.out w2 HMM.out A5 c5 HO7.out).mono ?_;rintro e w7 ⟨rfl,hp⟩;have HP:=hid2 hp;clear hp)
  refine bodyPost_ret (results_none rfl _ _ _) rfl ?_
  exact HP.out
set_option maxHeartbeats 8000000 in
theorem do_uniq (w:World) (L:RLay) (v:Env) (q:Option Nat) (s:PS) (h:RunIs w L v q s) (hf:Fit w L s) (A:Option Addr) (cA:Nat) (rest:TT) (hrest:rest.length≤1000000) (hr:Rd w 1 A 1 (strV [kUniq])) (hcap:1≤cA) :
  Calls Tryz.prog 28 #[ptrV L.R,.agg #[.slice A 1 cA,.string (strB rest)]] w (VPost w L v q (s.setLines (uniqT (linesT s.buf)))):=by
 have hB:=h.size
 obtain⟨b1,o1,rfl,hb1,hcw⟩:=words_row hr (by decide)
 obtain⟨R,hR⟩:∃ R,R=L.R:=⟨_,rfl⟩
 obtain⟨X0,hX0⟩:∃ X0,X0=strB rest:=⟨_,rfl⟩
 obtain⟨X,hX⟩:∃ X,X=strB s.buf:=⟨_,rfl⟩
 obtain⟨Pq,hPq⟩:∃ Pq:Ending→World→Prop,Pq=(VPost w L v q (s.setLines (uniqT (linesT s.buf)))):=⟨_,rfl⟩
 obtain⟨N,hN⟩:∃ N,N=strB kUniq:=⟨_,rfl⟩
 have htn:N.toList=kUniq:=by rw [hN];exact toList_strBT _
 have tkRead:(N.toList == [114,101,97,100])=false:=by rw [htn];decide
 have ukRead:¬ N.toList=[114,101,97,100]:=by rw [htn];decide
 have tkTry:(N.toList == [116,114,121])=false:=by rw [htn];decide
 have ukTry:¬ N.toList=[116,114,121]:=by rw [htn];decide
 have tkScan:(N.toList == [115,99,97,110])=false:=by rw [htn];decide
 have ukScan:¬ N.toList=[115,99,97,110]:=by rw [htn];decide
 have tkText:(N.toList == [116,101,120,116])=false:=by rw [htn];decide
 have ukText:¬ N.toList=[116,101,120,116]:=by rw [htn];decide
 have tkEnv:(N.toList == [101,110,118])=false:=by rw [htn];decide
 have ukEnv:¬ N.toList=[101,110,118]:=by rw [htn];decide
 have tkWrite:(N.toList == [119,114,105,116,101])=false:=by rw [htn];decide
 have ukWrite:¬ N.toList=[119,114,105,116,101]:=by rw [htn];decide
 have tkNeed:(N.toList == [110,101,101,100])=false:=by rw [htn];decide
 have ukNeed:¬ N.toList=[110,101,101,100]:=by rw [htn];decide
 have tkFail:(N.toList == [102,97,105,108])=false:=by rw [htn];decide
 have ukFail:¬ N.toList=[102,97,105,108]:=by rw [htn];decide
 have k0:w.cell? ⟨b1,o1,none⟩=some (.string N):=by rw [hN];exact hcw 0 _ rfl
 have hW:=hid2 (show ∀ w2,Below w.heap.size w w2→w2.cell? ⟨b1,o1,none⟩=some (.string N)∧True from fun w2 hb=>⟨(hb.cell (p:=⟨b1,o1,none⟩) hb1).trans k0,trivial⟩)
 have cL:=hid2 (fun (W:World) (hb:Below w.heap.size w W)=>show Calls Tryz.prog 36 #[.string X] W fun e w'=>∃ A c,e = .returned (.slice A (linesT s.buf).length c)∧Own w' W.heap.size 9 1 A (linesT s.buf).length c (strV (linesT s.buf))∧Below W.heap.size W w' from by rw [hX];exact lines_any W s.buf (by have:=hf.lim.buf;omega) (hf.lib.on hb))
 have hcb:=hid2 (show ∀ w2,Below w.heap.size w w2→w2.cell? ⟨R,2,none⟩=some (.string X) from fun w2 hb=>by
  obtain⟨_,_,_,hrr⟩:=h
  rw [hX,hR]
  exact ((hrr.below hb).cell 2).1)
 obtain⟨nl,hnl⟩:∃ nl,nl=(linesT s.buf).length:=⟨_,rfl⟩
 have hbl:=hf.lim.buf
 have cX:=hid2 (fun (w2:World) (hb:Below w.heap.size w w2) (A:Option Addr) (c:Nat) (ho:Own w2 w.heap.size 9 1 A nl c (strV (linesT s.buf)))=>show Calls Tryz.prog 50 #[.pointer (some ⟨R,0,none⟩),.string N,.string ⟨#[]⟩,.slice A nl c] w2 fun e w3=>e = .returned (.tuple #[])∧Pq (.returned (.tuple #[])) w3 from by
  have:=turn_uniq w w2 L v q s A c (linesT s.buf) ⟨h,hf,hb,by rw [← hnl];exact ho,by have:=linesT_len s.buf;omega,fun y hy=>by have:=linesT_le hy;omega,by have:=wholeT_lines s.buf;omega⟩ []
  rw [ptrV,← hR,← hN,← hnl,show strB []=⟨#[]⟩ from rfl] at this
  refine this.mono fun e w3 k=>⟨k.1,?_⟩
  rw [hPq]
  have k2:=k
  rw [k.1] at k2
  first
   | exact k2
   | (rw [← hnl];exact k2))
 rw [← hnl] at cL
 rw [ptrV,← hR,← hX0,← hPq]
 clear hcw htn hR hX0 hX hPq hN hr hB hb1 h hf hrest hnl hbl
 go_enter Tryz.func28,Tryz.ntmps28
 go_upto_region 2 with fail
 obtain⟨hmd,hb3⟩:=made_new w R (some ⟨b1,o1,none⟩) 1 cA X0
 obtain⟨W3,hW3⟩:∃ W3,W3=(((w.alloc (.cells #[.pointer (some ⟨R,0,none⟩)] 26)).alloc (.cells #[.slice (some ⟨b1,o1,none⟩) 1 cA,.string X0] 68)).alloc (.cells #[.string ⟨#[]⟩] 9)):=⟨_,rfl⟩
 rw [← hW3] at hmd hb3 ⊢
 have HMD:=hid2 hmd
 have HB3:=hid2 hb3
 have m0:W3.cell? ⟨w.heap.size+1,0,none⟩=some (.slice (some ⟨b1,o1,none⟩) 1 cA):=hmd.c.cell 0
 clear hmd hb3 hW3
 go_upto_region 4 with fail
 have hmd4:=HMD.out
 have hb4:=HB3.out
 obtain⟨W4,hW4⟩:∃ W4,W4=W3:=⟨_,rfl⟩
 rw [← hW4] at hmd4 hb4 ⊢
 clear hW4 m0 HMD HB3
 have m0:W4.cell? ⟨w.heap.size,0,none⟩=some (.pointer (some ⟨R,0,none⟩)):=hmd4.r.cell 0
 have m1:=hcb.out W4 hb4
 have HMD:=hid2 hmd4
 have HB4:=hid2 hb4
 clear hmd4 hb4
 go_upto_region 5 with (go_at_call 36; refine (cL.out W4 HB4.out).mono ?_;rintro e w5 ⟨A5,c5,rfl,ho,hb⟩;have HO:=hid2 ho;have hmd5:=HMD.out.below hb;have hb5:=HB4.out.trans (hb.mono HB4.out.size);clear ho hb cL)
 have HMD5:=hid2 (fun (w2:World) (hb:Below w5.heap.size w5 w2)=>hmd5.below hb)
 have HB5:=hid2 (fun (w2:World) (hb:Below w5.heap.size w5 w2)=>hb5.trans (hb.mono hb5.size))
 have p0:w5.cell? ⟨w.heap.size+1,0,none⟩=some (.slice (some ⟨b1,o1,none⟩) 1 cA):=hmd5.c.cell 0
 have p1:=(hW.out w5 hb5).1
 have hc1:(1:Int)≤cA:=by omega
 have HB4S:=hid2 HB4.out.size
 clear m0 m1 hmd5 HMD HB4
 go_upto_region 6 with fail
 have HO6:=hid2 (HO.out.mono (HB4S.out))
 refine wp_region_rel 7 (by kernel_rfl) (by kernel_rfl) (by kernel_rfl) _ rfl (by kernel_rfl) (VV [some (.pointer (some ⟨R,0,none⟩)),some (.pointer (some ⟨w.heap.size+1,0,none⟩)),some (.slice (some ⟨b1,o1,none⟩) 1 cA),some (.pointer (some ⟨b1,o1,none⟩)),some (.string N),some (.string ⟨#[]⟩),some (.slice A5 nl c5)] (fun _ _ _=>False)) (fun w2=>Below w5.heap.size w5 w2) (fun a b=>Below a.heap.size a b) ((Below.refl _ w5).drew) (fun j v w1 w2 hb hv=>VV.keep (fun h=>h.elim) hv) ?_ ?_
 ·refine of_allOps ⟨?_,?_,?_,?_,?_,?_,?_,trivial⟩
  ·refine⟨rfl,fun T2 w2 hM hN hO hE K hK=>?_⟩
   have o2:T2[2]?=some (.pointer (some ⟨w.heap.size,0,none⟩)):=hO 2 rfl
   clear hE hO hN
   have hc2:w2.cell? ⟨w.heap.size,0,none⟩=some (.pointer (some ⟨R,0,none⟩)):=(HMD5.out w2 hM).r.cell 0
   go_simp
   exact hK _ _ rfl hM (Below.refl _ _)
  ·refine⟨rfl,fun T2 w2 hM hN hO hE K hK=>?_⟩
   have o3:T2[3]?=some (.pointer (some ⟨w.heap.size+1,0,none⟩)):=hO 3 rfl
   clear hE hO hN
   go_simp
   exact hK _ _ rfl hM (Below.refl _ _)
  ·refine⟨rfl,fun T2 w2 hM hN hO hE K hK=>?_⟩
   obtain⟨v1,h1,e1⟩:=hE ⟨1,.data⟩ (by simp) rfl _ _ rfl rfl
   rw [show v1 = .pointer (some ⟨w.heap.size+1,0,none⟩) from e1] at h1
   clear hE hO hN
   have hc2:w2.cell? ⟨w.heap.size+1,0,none⟩=some (.slice (some ⟨b1,o1,none⟩) 1 cA):=(HMD5.out w2 hM).c.cell 0
   go_simp
   exact hK _ _ rfl hM (Below.refl _ _)
  ·refine⟨rfl,fun T2 w2 hM hN hO hE K hK=>?_⟩
   obtain⟨v2,h2,e2⟩:=hE ⟨2,.data⟩ (by simp) rfl _ _ rfl rfl
   rw [show v2 = .slice (some ⟨b1,o1,none⟩) 1 cA from e2] at h2
   clear hE hO hN
   go_simp
   exact hK _ _ rfl hM (Below.refl _ _)
  ·refine⟨rfl,fun T2 w2 hM hN hO hE K hK=>?_⟩
   obtain⟨v3,h3,e3⟩:=hE ⟨3,.data⟩ (by simp) rfl _ _ rfl rfl
   rw [show v3 = .pointer (some ⟨b1,o1,none⟩) from e3] at h3
   clear hE hO hN
   have hc2:=(hW.out w2 (HB5.out w2 hM)).1
   go_simp
   exact hK _ _ rfl hM (Below.refl _ _)
  ·refine⟨rfl,fun T2 w2 hM hN hO hE K hK=>?_⟩
   have o4:T2[4]?=some (.pointer (some ⟨w.heap.size+1+1,0,none⟩)):=hO 4 rfl
   clear hE hO hN
   have hc2:w2.cell? ⟨w.heap.size+1+1,0,none⟩=some (.string ⟨#[]⟩):=(HMD5.out w2 hM).a.cell 0
   go_simp
   exact hK _ _ rfl hM (Below.refl _ _)
  ·refine⟨rfl,fun T2 w2 hM hN hO hE K hK=>?_⟩
   have o5:T2[5]?=some (.slice A5 nl c5):=hO 5 rfl
   clear hE hO hN
   go_simp
   exact hK _ _ rfl hM (Below.refl _ _)
 ·intro u w2 hM hF
  have e0:u 0 = .pointer (some ⟨R,0,none⟩):=hF 0 (by omega)
  have e4:u 4 = .string N:=hF 4 (by omega)
  have e5:u 5 = .string ⟨#[]⟩:=hF 5 (by omega)
  have e6:u 6 = .slice A5 nl c5:=hF 6 (by omega)
  clear hF
  simp only [fillAll,Nat.reduceAdd,e0,e4,e5,e6,List.take_succ_cons,List.take_zero,List.drop_succ_cons,List.drop_zero,List.setIfInBounds_toArray,List.set_cons_succ,List.set_cons_zero]
  have HMM:=hid2 (HB5.out w2 hM)
  have HO7:=hid2 (HO6.out.below hM (Nat.le_refl _))
  clear hM
  go_wp2_with (go_at_call 50; refine (cX.out w2 HMM.out A5 c5 HO7.out).mono ?_;rintro e w7 ⟨rfl,hp⟩;have HP:=hid2 hp;clear hp)
  refine bodyPost_ret (results_none rfl _ _ _) rfl ?_
  exact HP.out
set_option maxHeartbeats 8000000 in
theorem do_upper (w:World) (L:RLay) (v:Env) (q:Option Nat) (s:PS) (h:RunIs w L v q s) (hf:Fit w L s) (A:Option Addr) (cA:Nat) (rest:TT) (hrest:rest.length≤1000000) (hr:Rd w 1 A 1 (strV [kUpper])) (hcap:1≤cA) :
  Calls Tryz.prog 28 #[ptrV L.R,.agg #[.slice A 1 cA,.string (strB rest)]] w (VPost w L v q ({ s with buf:=upT s.buf })):=by
 have hB:=h.size
 obtain⟨b1,o1,rfl,hb1,hcw⟩:=words_row hr (by decide)
 obtain⟨R,hR⟩:∃ R,R=L.R:=⟨_,rfl⟩
 obtain⟨X0,hX0⟩:∃ X0,X0=strB rest:=⟨_,rfl⟩
 obtain⟨X,hX⟩:∃ X,X=strB s.buf:=⟨_,rfl⟩
 obtain⟨Pq,hPq⟩:∃ Pq:Ending→World→Prop,Pq=(VPost w L v q ({ s with buf:=upT s.buf })):=⟨_,rfl⟩
 obtain⟨N,hN⟩:∃ N,N=strB kUpper:=⟨_,rfl⟩
 have htn:N.toList=kUpper:=by rw [hN];exact toList_strBT _
 have tkRead:(N.toList == [114,101,97,100])=false:=by rw [htn];decide
 have ukRead:¬ N.toList=[114,101,97,100]:=by rw [htn];decide
 have tkTry:(N.toList == [116,114,121])=false:=by rw [htn];decide
 have ukTry:¬ N.toList=[116,114,121]:=by rw [htn];decide
 have tkScan:(N.toList == [115,99,97,110])=false:=by rw [htn];decide
 have ukScan:¬ N.toList=[115,99,97,110]:=by rw [htn];decide
 have tkText:(N.toList == [116,101,120,116])=false:=by rw [htn];decide
 have ukText:¬ N.toList=[116,101,120,116]:=by rw [htn];decide
 have tkEnv:(N.toList == [101,110,118])=false:=by rw [htn];decide
 have ukEnv:¬ N.toList=[101,110,118]:=by rw [htn];decide
 have tkWrite:(N.toList == [119,114,105,116,101])=false:=by rw [htn];decide
 have ukWrite:¬ N.toList=[119,114,105,116,101]:=by rw [htn];decide
 have tkNeed:(N.toList == [110,101,101,100])=false:=by rw [htn];decide
 have ukNeed:¬ N.toList=[110,101,101,100]:=by rw [htn];decide
 have tkFail:(N.toList == [102,97,105,108])=false:=by rw [htn];decide
 have ukFail:¬ N.toList=[102,97,105,108]:=by rw [htn];decide
 have k0:w.cell? ⟨b1,o1,none⟩=some (.string N):=by rw [hN];exact hcw 0 _ rfl
 have hW:=hid2 (show ∀ w2,Below w.heap.size w w2→w2.cell? ⟨b1,o1,none⟩=some (.string N)∧True from fun w2 hb=>⟨(hb.cell (p:=⟨b1,o1,none⟩) hb1).trans k0,trivial⟩)
 have cL:=hid2 (fun (W:World) (hb:Below w.heap.size w W)=>show Calls Tryz.prog 36 #[.string X] W fun e w'=>∃ A c,e = .returned (.slice A (linesT s.buf).length c)∧Own w' W.heap.size 9 1 A (linesT s.buf).length c (strV (linesT s.buf))∧Below W.heap.size W w' from by rw [hX];exact lines_any W s.buf (by have:=hf.lim.buf;omega) (hf.lib.on hb))
 have hcb:=hid2 (show ∀ w2,Below w.heap.size w w2→w2.cell? ⟨R,2,none⟩=some (.string X) from fun w2 hb=>by
  obtain⟨_,_,_,hrr⟩:=h
  rw [hX,hR]
  exact ((hrr.below hb).cell 2).1)
 obtain⟨nl,hnl⟩:∃ nl,nl=(linesT s.buf).length:=⟨_,rfl⟩
 have hbl:=hf.lim.buf
 have cX:=hid2 (fun (w2:World) (hb:Below w.heap.size w w2) (A:Option Addr) (c:Nat) (ho:Own w2 w.heap.size 9 1 A nl c (strV (linesT s.buf)))=>show Calls Tryz.prog 50 #[.pointer (some ⟨R,0,none⟩),.string N,.string ⟨#[]⟩,.slice A nl c] w2 fun e w3=>e = .returned (.tuple #[])∧Pq (.returned (.tuple #[])) w3 from by
  have:=turn_upper w w2 L v q s A c (linesT s.buf) ⟨h,hf,hb,by rw [← hnl];exact ho,by have:=linesT_len s.buf;omega,fun y hy=>by have:=linesT_le hy;omega,by have:=wholeT_lines s.buf;omega⟩ []
  rw [ptrV,← hR,← hN,← hnl,show strB []=⟨#[]⟩ from rfl] at this
  refine this.mono fun e w3 k=>⟨k.1,?_⟩
  rw [hPq]
  have k2:=k
  rw [k.1] at k2
  first
   | exact k2
   | (rw [← hnl];exact k2))
 rw [← hnl] at cL
 rw [ptrV,← hR,← hX0,← hPq]
 clear hcw htn hR hX0 hX hPq hN hr hB hb1 h hf hrest hnl hbl
 go_enter Tryz.func28,Tryz.ntmps28
 go_upto_region 2 with fail
 obtain⟨hmd,hb3⟩:=made_new w R (some ⟨b1,o1,none⟩) 1 cA X0
 obtain⟨W3,hW3⟩:∃ W3,W3=(((w.alloc (.cells #[.pointer (some ⟨R,0,none⟩)] 26)).alloc (.cells #[.slice (some ⟨b1,o1,none⟩) 1 cA,.string X0] 68)).alloc (.cells #[.string ⟨#[]⟩] 9)):=⟨_,rfl⟩
 rw [← hW3] at hmd hb3 ⊢
 have HMD:=hid2 hmd
 have HB3:=hid2 hb3
 have m0:W3.cell? ⟨w.heap.size+1,0,none⟩=some (.slice (some ⟨b1,o1,none⟩) 1 cA):=hmd.c.cell 0
 clear hmd hb3 hW3
 go_upto_region 4 with fail
 have hmd4:=HMD.out
 have hb4:=HB3.out
 obtain⟨W4,hW4⟩:∃ W4,W4=W3:=⟨_,rfl⟩
 rw [← hW4] at hmd4 hb4 ⊢
 clear hW4 m0 HMD HB3
 have m0:W4.cell? ⟨w.heap.size,0,none⟩=some (.pointer (some ⟨R,0,none⟩)):=hmd4.r.cell 0
 have m1:=hcb.out W4 hb4
 have HMD:=hid2 hmd4
 have HB4:=hid2 hb4
 clear hmd4 hb4
 go_upto_region 5 with (go_at_call 36; refine (cL.out W4 HB4.out).mono ?_;rintro e w5 ⟨A5,c5,rfl,ho,hb⟩;have HO:=hid2 ho;have hmd5:=HMD.out.below hb;have hb5:=HB4.out.trans (hb.mono HB4.out.size);clear ho hb cL)
 have HMD5:=hid2 (fun (w2:World) (hb:Below w5.heap.size w5 w2)=>hmd5.below hb)
 have HB5:=hid2 (fun (w2:World) (hb:Below w5.heap.size w5 w2)=>hb5.trans (hb.mono hb5.size))
 have p0:w5.cell? ⟨w.heap.size+1,0,none⟩=some (.slice (some ⟨b1,o1,none⟩) 1 cA):=hmd5.c.cell 0
 have p1:=(hW.out w5 hb5).1
 have hc1:(1:Int)≤cA:=by omega
 have HB4S:=hid2 HB4.out.size
 clear m0 m1 hmd5 HMD HB4
 go_upto_region 6 with fail
 have HO6:=hid2 (HO.out.mono (HB4S.out))
 refine wp_region_rel 7 (by kernel_rfl) (by kernel_rfl) (by kernel_rfl) _ rfl (by kernel_rfl) (VV [some (.pointer (some ⟨R,0,none⟩)),some (.pointer (some ⟨w.heap.size+1,0,none⟩)),some (.slice (some ⟨b1,o1,none⟩) 1 cA),some (.pointer (some ⟨b1,o1,none⟩)),some (.string N),some (.string ⟨#[]⟩),some (.slice A5 nl c5)] (fun _ _ _=>False)) (fun w2=>Below w5.heap.size w5 w2) (fun a b=>Below a.heap.size a b) ((Below.refl _ w5).drew) (fun j v w1 w2 hb hv=>VV.keep (fun h=>h.elim) hv) ?_ ?_
 ·refine of_allOps ⟨?_,?_,?_,?_,?_,?_,?_,trivial⟩
  ·refine⟨rfl,fun T2 w2 hM hN hO hE K hK=>?_⟩
   have o2:T2[2]?=some (.pointer (some ⟨w.heap.size,0,none⟩)):=hO 2 rfl
   clear hE hO hN
   have hc2:w2.cell? ⟨w.heap.size,0,none⟩=some (.pointer (some ⟨R,0,none⟩)):=(HMD5.out w2 hM).r.cell 0
   go_simp
   exact hK _ _ rfl hM (Below.refl _ _)
  ·refine⟨rfl,fun T2 w2 hM hN hO hE K hK=>?_⟩
   have o3:T2[3]?=some (.pointer (some ⟨w.heap.size+1,0,none⟩)):=hO 3 rfl
   clear hE hO hN
   go_simp
   exact hK _ _ rfl hM (Below.refl _ _)
  ·refine⟨rfl,fun T2 w2 hM hN hO hE K hK=>?_⟩
   obtain⟨v1,h1,e1⟩:=hE ⟨1,.data⟩ (by simp) rfl _ _ rfl rfl
   rw [show v1 = .pointer (some ⟨w.heap.size+1,0,none⟩) from e1] at h1
   clear hE hO hN
   have hc2:w2.cell? ⟨w.heap.size+1,0,none⟩=some (.slice (some ⟨b1,o1,none⟩) 1 cA):=(HMD5.out w2 hM).c.cell 0
   go_simp
   exact hK _ _ rfl hM (Below.refl _ _)
  ·refine⟨rfl,fun T2 w2 hM hN hO hE K hK=>?_⟩
   obtain⟨v2,h2,e2⟩:=hE ⟨2,.data⟩ (by simp) rfl _ _ rfl rfl
   rw [show v2 = .slice (some ⟨b1,o1,none⟩) 1 cA from e2] at h2
   clear hE hO hN
   go_simp
   exact hK _ _ rfl hM (Below.refl _ _)
  ·refine⟨rfl,fun T2 w2 hM hN hO hE K hK=>?_⟩
   obtain⟨v3,h3,e3⟩:=hE ⟨3,.data⟩ (by simp) rfl _ _ rfl rfl
   rw [show v3 = .pointer (some ⟨b1,o1,none⟩) from e3] at h3
   clear hE hO hN
   have hc2:=(hW.out w2 (HB5.out w2 hM)).1
   go_simp
   exact hK _ _ rfl hM (Below.refl _ _)
  ·refine⟨rfl,fun T2 w2 hM hN hO hE K hK=>?_⟩
   have o4:T2[4]?=some (.pointer (some ⟨w.heap.size+1+1,0,none⟩)):=hO 4 rfl
   clear hE hO hN
   have hc2:w2.cell? ⟨w.heap.size+1+1,0,none⟩=some (.string ⟨#[]⟩):=(HMD5.out w2 hM).a.cell 0
   go_simp
   exact hK _ _ rfl hM (Below.refl _ _)
  ·refine⟨rfl,fun T2 w2 hM hN hO hE K hK=>?_⟩
   have o5:T2[5]?=some (.slice A5 nl c5):=hO 5 rfl
   clear hE hO hN
   go_simp
   exact hK _ _ rfl hM (Below.refl _ _)
 ·intro u w2 hM hF
  have e0:u 0 = .pointer (some ⟨R,0,none⟩):=hF 0 (by omega)
  have e4:u 4 = .string N:=hF 4 (by omega)
  have e5:u 5 = .string ⟨#[]⟩:=hF 5 (by omega)
  have e6:u 6 = .slice A5 nl c5:=hF 6 (by omega)
  clear hF
  simp only [fillAll,Nat.reduceAdd,e0,e4,e5,e6,List.take_succ_cons,List.take_zero,List.drop_succ_cons,List.drop_zero,List.setIfInBounds_toArray,List.set_cons_succ,List.set_cons_zero]
  have HMM:=hid2 (HB5.out w2 hM)
  have HO7:=hid2 (HO6.out.below hM (Nat.le_refl _))
  clear hM
  go_wp2_with (go_at_call 50; refine (cX.out w2 HMM.out A5 c5 HO7.out).mono ?_;rintro e w7 ⟨rfl,hp⟩;have HP:=hid2 hp;clear hp)
  refine bodyPost_ret (results_none rfl _ _ _) rfl ?_
  exact HP.out
set_option maxHeartbeats 8000000 in
theorem do_count (w:World) (L:RLay) (v:Env) (q:Option Nat) (s:PS) (h:RunIs w L v q s) (hf:Fit w L s) (A:Option Addr) (cA:Nat) (rest:TT) (hrest:rest.length≤1000000) (hr:Rd w 1 A 1 (strV [kCount])) (hcap:1≤cA) :
  Calls Tryz.prog 28 #[ptrV L.R,.agg #[.slice A 1 cA,.string (strB rest)]] w (VPost w L v q ({ s with buf:=Lib.decDigits (linesT s.buf).length++[10] })):=by
 have hB:=h.size
 obtain⟨b1,o1,rfl,hb1,hcw⟩:=words_row hr (by decide)
 obtain⟨R,hR⟩:∃ R,R=L.R:=⟨_,rfl⟩
 obtain⟨X0,hX0⟩:∃ X0,X0=strB rest:=⟨_,rfl⟩
 obtain⟨X,hX⟩:∃ X,X=strB s.buf:=⟨_,rfl⟩
 obtain⟨Pq,hPq⟩:∃ Pq:Ending→World→Prop,Pq=(VPost w L v q ({ s with buf:=Lib.decDigits (linesT s.buf).length++[10] })):=⟨_,rfl⟩
 obtain⟨N,hN⟩:∃ N,N=strB kCount:=⟨_,rfl⟩
 have htn:N.toList=kCount:=by rw [hN];exact toList_strBT _
 have tkRead:(N.toList == [114,101,97,100])=false:=by rw [htn];decide
 have ukRead:¬ N.toList=[114,101,97,100]:=by rw [htn];decide
 have tkTry:(N.toList == [116,114,121])=false:=by rw [htn];decide
 have ukTry:¬ N.toList=[116,114,121]:=by rw [htn];decide
 have tkScan:(N.toList == [115,99,97,110])=false:=by rw [htn];decide
 have ukScan:¬ N.toList=[115,99,97,110]:=by rw [htn];decide
 have tkText:(N.toList == [116,101,120,116])=false:=by rw [htn];decide
 have ukText:¬ N.toList=[116,101,120,116]:=by rw [htn];decide
 have tkEnv:(N.toList == [101,110,118])=false:=by rw [htn];decide
 have ukEnv:¬ N.toList=[101,110,118]:=by rw [htn];decide
 have tkWrite:(N.toList == [119,114,105,116,101])=false:=by rw [htn];decide
 have ukWrite:¬ N.toList=[119,114,105,116,101]:=by rw [htn];decide
 have tkNeed:(N.toList == [110,101,101,100])=false:=by rw [htn];decide
 have ukNeed:¬ N.toList=[110,101,101,100]:=by rw [htn];decide
 have tkFail:(N.toList == [102,97,105,108])=false:=by rw [htn];decide
 have ukFail:¬ N.toList=[102,97,105,108]:=by rw [htn];decide
 have k0:w.cell? ⟨b1,o1,none⟩=some (.string N):=by rw [hN];exact hcw 0 _ rfl
 have hW:=hid2 (show ∀ w2,Below w.heap.size w w2→w2.cell? ⟨b1,o1,none⟩=some (.string N)∧True from fun w2 hb=>⟨(hb.cell (p:=⟨b1,o1,none⟩) hb1).trans k0,trivial⟩)
 have cL:=hid2 (fun (W:World) (hb:Below w.heap.size w W)=>show Calls Tryz.prog 36 #[.string X] W fun e w'=>∃ A c,e = .returned (.slice A (linesT s.buf).length c)∧Own w' W.heap.size 9 1 A (linesT s.buf).length c (strV (linesT s.buf))∧Below W.heap.size W w' from by rw [hX];exact lines_any W s.buf (by have:=hf.lim.buf;omega) (hf.lib.on hb))
 have hcb:=hid2 (show ∀ w2,Below w.heap.size w w2→w2.cell? ⟨R,2,none⟩=some (.string X) from fun w2 hb=>by
  obtain⟨_,_,_,hrr⟩:=h
  rw [hX,hR]
  exact ((hrr.below hb).cell 2).1)
 obtain⟨nl,hnl⟩:∃ nl,nl=(linesT s.buf).length:=⟨_,rfl⟩
 have hbl:=hf.lim.buf
 have cX:=hid2 (fun (w2:World) (hb:Below w.heap.size w w2) (A:Option Addr) (c:Nat) (ho:Own w2 w.heap.size 9 1 A nl c (strV (linesT s.buf)))=>show Calls Tryz.prog 50 #[.pointer (some ⟨R,0,none⟩),.string N,.string ⟨#[]⟩,.slice A nl c] w2 fun e w3=>e = .returned (.tuple #[])∧Pq (.returned (.tuple #[])) w3 from by
  have:=turn_count w w2 L v q s A c (linesT s.buf) ⟨h,hf,hb,by rw [← hnl];exact ho,by have:=linesT_len s.buf;omega,fun y hy=>by have:=linesT_le hy;omega,by have:=wholeT_lines s.buf;omega⟩ []
  rw [ptrV,← hR,← hN,← hnl,show strB []=⟨#[]⟩ from rfl] at this
  refine this.mono fun e w3 k=>⟨k.1,?_⟩
  rw [hPq]
  have k2:=k
  rw [k.1] at k2
  first
   | exact k2
   | (rw [← hnl];exact k2))
 rw [← hnl] at cL
 rw [ptrV,← hR,← hX0,← hPq]
 clear hcw htn hR hX0 hX hPq hN hr hB hb1 h hf hrest hnl hbl
 go_enter Tryz.func28,Tryz.ntmps28
 go_upto_region 2 with fail
 obtain⟨hmd,hb3⟩:=made_new w R (some ⟨b1,o1,none⟩) 1 cA X0
 obtain⟨W3,hW3⟩:∃ W3,W3=(((w.alloc (.cells #[.pointer (some ⟨R,0,none⟩)] 26)).alloc (.cells #[.slice (some ⟨b1,o1,none⟩) 1 cA,.string X0] 68)).alloc (.cells #[.string ⟨#[]⟩] 9)):=⟨_,rfl⟩
 rw [← hW3] at hmd hb3 ⊢
 have HMD:=hid2 hmd
 have HB3:=hid2 hb3
 have m0:W3.cell? ⟨w.heap.size+1,0,none⟩=some (.slice (some ⟨b1,o1,none⟩) 1 cA):=hmd.c.cell 0
 clear hmd hb3 hW3
 go_upto_region 4 with fail
 have hmd4:=HMD.out
 have hb4:=HB3.out
 obtain⟨W4,hW4⟩:∃ W4,W4=W3:=⟨_,rfl⟩
 rw [← hW4] at hmd4 hb4 ⊢
 clear hW4 m0 HMD HB3
 have m0:W4.cell? ⟨w.heap.size,0,none⟩=some (.pointer (some ⟨R,0,none⟩)):=hmd4.r.cell 0
 have m1:=hcb.out W4 hb4
 have HMD:=hid2 hmd4
 have HB4:=hid2 hb4
 clear hmd4 hb4
 go_upto_region 5 with (go_at_call 36; refine (cL.out W4 HB4.out).mono ?_;rintro e w5 ⟨A5,c5,rfl,ho,hb⟩;have HO:=hid2 ho;have hmd5:=HMD.out.below hb;have hb5:=HB4.out.trans (hb.mono HB4.out.size);clear ho hb cL)
 have HMD5:=hid2 (fun (w2:World) (hb:Below w5.heap.size w5 w2)=>hmd5.below hb)
 have HB5:=hid2 (fun (w2:World) (hb:Below w5.heap.size w5 w2)=>hb5.trans (hb.mono hb5.size))
 have p0:w5.cell? ⟨w.heap.size+1,0,none⟩=some (.slice (some ⟨b1,o1,none⟩) 1 cA):=hmd5.c.cell 0
 have p1:=(hW.out w5 hb5).1
 have hc1:(1:Int)≤cA:=by omega
 have HB4S:=hid2 HB4.out.size
 clear m0 m1 hmd5 HMD HB4
 go_upto_region 6 with fail
 have HO6:=hid2 (HO.out.mono (HB4S.out))
 refine wp_region_rel 7 (by kernel_rfl) (by kernel_rfl) (by kernel_rfl) _ rfl (by kernel_rfl) (VV [some (.pointer (some ⟨R,0,none⟩)),some (.pointer (some ⟨w.heap.size+1,0,none⟩)),some (.slice (some ⟨b1,o1,none⟩) 1 cA),some (.pointer (some ⟨b1,o1,none⟩)),some (.string N),some (.string ⟨#[]⟩),some (.slice A5 nl c5)] (fun _ _ _=>False)) (fun w2=>Below w5.heap.size w5 w2) (fun a b=>Below a.heap.size a b) ((Below.refl _ w5).drew) (fun j v w1 w2 hb hv=>VV.keep (fun h=>h.elim) hv) ?_ ?_
 ·refine of_allOps ⟨?_,?_,?_,?_,?_,?_,?_,trivial⟩
  ·refine⟨rfl,fun T2 w2 hM hN hO hE K hK=>?_⟩
   have o2:T2[2]?=some (.pointer (some ⟨w.heap.size,0,none⟩)):=hO 2 rfl
   clear hE hO hN
   have hc2:w2.cell? ⟨w.heap.size,0,none⟩=some (.pointer (some ⟨R,0,none⟩)):=(HMD5.out w2 hM).r.cell 0
   go_simp
   exact hK _ _ rfl hM (Below.refl _ _)
  ·refine⟨rfl,fun T2 w2 hM hN hO hE K hK=>?_⟩
   have o3:T2[3]?=some (.pointer (some ⟨w.heap.size+1,0,none⟩)):=hO 3 rfl
   clear hE hO hN
   go_simp
   exact hK _ _ rfl hM (Below.refl _ _)
  ·refine⟨rfl,fun T2 w2 hM hN hO hE K hK=>?_⟩
   obtain⟨v1,h1,e1⟩:=hE ⟨1,.data⟩ (by simp) rfl _ _ rfl rfl
   rw [show v1 = .pointer (some ⟨w.heap.size+1,0,none⟩) from e1] at h1
   clear hE hO hN
   have hc2:w2.cell? ⟨w.heap.size+1,0,none⟩=some (.slice (some ⟨b1,o1,none⟩) 1 cA):=(HMD5.out w2 hM).c.cell 0
   go_simp
   exact hK _ _ rfl hM (Below.refl _ _)
  ·refine⟨rfl,fun T2 w2 hM hN hO hE K hK=>?_⟩
   obtain⟨v2,h2,e2⟩:=hE ⟨2,.data⟩ (by simp) rfl _ _ rfl rfl
   rw [show v2 = .slice (some ⟨b1,o1,none⟩) 1 cA from e2] at h2
   clear hE hO hN
   go_simp
   exact hK _ _ rfl hM (Below.refl _ _)
  ·refine⟨rfl,fun T2 w2 hM hN hO hE K hK=>?_⟩
   obtain⟨v3,h3,e3⟩:=hE ⟨3,.data⟩ (by simp) rfl _ _ rfl rfl
   rw [show v3 = .pointer (some ⟨b1,o1,none⟩) from e3] at h3
   clear hE hO hN
   have hc2:=(hW.out w2 (HB5.out w2 hM)).1
   go_simp
   exact hK _ _ rfl hM (Below.refl _ _)
  ·refine⟨rfl,fun T2 w2 hM hN hO hE K hK=>?_⟩
   have o4:T2[4]?=some (.pointer (some ⟨w.heap.size+1+1,0,none⟩)):=hO 4 rfl
   clear hE hO hN
   have hc2:w2.cell? ⟨w.heap.size+1+1,0,none⟩=some (.string ⟨#[]⟩):=(HMD5.out w2 hM).a.cell 0
   go_simp
   exact hK _ _ rfl hM (Below.refl _ _)
  ·refine⟨rfl,fun T2 w2 hM hN hO hE K hK=>?_⟩
   have o5:T2[5]?=some (.slice A5 nl c5):=hO 5 rfl
   clear hE hO hN
   go_simp
   exact hK _ _ rfl hM (Below.refl _ _)
 ·intro u w2 hM hF
  have e0:u 0 = .pointer (some ⟨R,0,none⟩):=hF 0 (by omega)
  have e4:u 4 = .string N:=hF 4 (by omega)
  have e5:u 5 = .string ⟨#[]⟩:=hF 5 (by omega)
  have e6:u 6 = .slice A5 nl c5:=hF 6 (by omega)
  clear hF
  simp only [fillAll,Nat.reduceAdd,e0,e4,e5,e6,List.take_succ_cons,List.take_zero,List.drop_succ_cons,List.drop_zero,List.setIfInBounds_toArray,List.set_cons_succ,List.set_cons_zero]
  have HMM:=hid2 (HB5.out w2 hM)
  have HO7:=hid2 (HO6.out.below hM (Nat.le_refl _))
  clear hM
  go_wp2_with (go_at_call 50; refine (cX.out w2 HMM.out A5 c5 HO7.out).mono ?_;rintro e w7 ⟨rfl,hp⟩;have HP:=hid2 hp;clear hp)
  refine bodyPost_ret (results_none rfl _ _ _) rfl ?_
  exact HP.out
set_option maxHeartbeats 8000000 in
theorem do_keep (w:World) (L:RLay) (v:Env) (q:Option Nat) (s:PS) (h:RunIs w L v q s) (hf:Fit w L s) (A:Option Addr) (cA:Nat) (rest:TT) (hrest:rest.length≤1000000) (a:TT) (ha:a.length≤1000000) (hr:Rd w 1 A 2 (strV [kKeep,a])) (hcap:2≤cA) :
  Calls Tryz.prog 28 #[ptrV L.R,.agg #[.slice A 2 cA,.string (strB rest)]] w (VPost w L v q (s.setLines ((linesT s.buf).filter (hasT · a)))):=by
 have hB:=h.size
 obtain⟨b1,o1,rfl,hb1,hcw⟩:=words_row hr (by decide)
 obtain⟨R,hR⟩:∃ R,R=L.R:=⟨_,rfl⟩
 obtain⟨X0,hX0⟩:∃ X0,X0=strB rest:=⟨_,rfl⟩
 obtain⟨X,hX⟩:∃ X,X=strB s.buf:=⟨_,rfl⟩
 obtain⟨Pq,hPq⟩:∃ Pq:Ending→World→Prop,Pq=(VPost w L v q (s.setLines ((linesT s.buf).filter (hasT · a)))):=⟨_,rfl⟩
 obtain⟨N,hN⟩:∃ N,N=strB kKeep:=⟨_,rfl⟩
 obtain⟨AR,hAR⟩:∃ AR,AR=strB a:=⟨_,rfl⟩
 have htn:N.toList=kKeep:=by rw [hN];exact toList_strBT _
 have tkRead:(N.toList == [114,101,97,100])=false:=by rw [htn];decide
 have ukRead:¬ N.toList=[114,101,97,100]:=by rw [htn];decide
 have tkTry:(N.toList == [116,114,121])=false:=by rw [htn];decide
 have ukTry:¬ N.toList=[116,114,121]:=by rw [htn];decide
 have tkScan:(N.toList == [115,99,97,110])=false:=by rw [htn];decide
 have ukScan:¬ N.toList=[115,99,97,110]:=by rw [htn];decide
 have tkText:(N.toList == [116,101,120,116])=false:=by rw [htn];decide
 have ukText:¬ N.toList=[116,101,120,116]:=by rw [htn];decide
 have tkEnv:(N.toList == [101,110,118])=false:=by rw [htn];decide
 have ukEnv:¬ N.toList=[101,110,118]:=by rw [htn];decide
 have tkWrite:(N.toList == [119,114,105,116,101])=false:=by rw [htn];decide
 have ukWrite:¬ N.toList=[119,114,105,116,101]:=by rw [htn];decide
 have tkNeed:(N.toList == [110,101,101,100])=false:=by rw [htn];decide
 have ukNeed:¬ N.toList=[110,101,101,100]:=by rw [htn];decide
 have tkFail:(N.toList == [102,97,105,108])=false:=by rw [htn];decide
 have ukFail:¬ N.toList=[102,97,105,108]:=by rw [htn];decide
 have k0:w.cell? ⟨b1,o1,none⟩=some (.string N):=by rw [hN];exact hcw 0 _ rfl
 have k1:w.cell? ⟨b1,o1+1,none⟩=some (.string AR):=by rw [hAR];exact hcw 1 _ rfl
 have hW:=hid2 (show ∀ w2,Below w.heap.size w w2→w2.cell? ⟨b1,o1,none⟩=some (.string N)∧w2.cell? ⟨b1,o1+1,none⟩=some (.string AR)∧True from fun w2 hb=>⟨(hb.cell (p:=⟨b1,o1,none⟩) hb1).trans k0,(hb.cell (p:=⟨b1,o1+1,none⟩) hb1).trans k1,trivial⟩)
 have cL:=hid2 (fun (W:World) (hb:Below w.heap.size w W)=>show Calls Tryz.prog 36 #[.string X] W fun e w'=>∃ A c,e = .returned (.slice A (linesT s.buf).length c)∧Own w' W.heap.size 9 1 A (linesT s.buf).length c (strV (linesT s.buf))∧Below W.heap.size W w' from by rw [hX];exact lines_any W s.buf (by have:=hf.lim.buf;omega) (hf.lib.on hb))
 have hcb:=hid2 (show ∀ w2,Below w.heap.size w w2→w2.cell? ⟨R,2,none⟩=some (.string X) from fun w2 hb=>by
  obtain⟨_,_,_,hrr⟩:=h
  rw [hX,hR]
  exact ((hrr.below hb).cell 2).1)
 obtain⟨nl,hnl⟩:∃ nl,nl=(linesT s.buf).length:=⟨_,rfl⟩
 have hbl:=hf.lim.buf
 have cX:=hid2 (fun (w2:World) (hb:Below w.heap.size w w2) (A:Option Addr) (c:Nat) (ho:Own w2 w.heap.size 9 1 A nl c (strV (linesT s.buf)))=>show Calls Tryz.prog 50 #[.pointer (some ⟨R,0,none⟩),.string N,.string AR,.slice A nl c] w2 fun e w3=>e = .returned (.tuple #[])∧Pq (.returned (.tuple #[])) w3 from by
  have:=turn_keep w w2 L v q s A c (linesT s.buf) ⟨h,hf,hb,by rw [← hnl];exact ho,by have:=linesT_len s.buf;omega,fun y hy=>by have:=linesT_le hy;omega,by have:=wholeT_lines s.buf;omega⟩ a ha
  rw [ptrV,← hR,← hN,← hnl,← hAR] at this
  refine this.mono fun e w3 k=>⟨k.1,?_⟩
  rw [hPq]
  have k2:=k
  rw [k.1] at k2
  first
   | exact k2
   | (rw [← hnl];exact k2))
 rw [← hnl] at cL
 rw [ptrV,← hR,← hX0,← hPq]
 clear hcw htn hR hX0 hX hPq hN hAR hr hB hb1 h hf hrest hnl hbl ha
 go_enter Tryz.func28,Tryz.ntmps28
 go_upto_region 2 with fail
 obtain⟨hmd,hb3⟩:=made_new w R (some ⟨b1,o1,none⟩) 2 cA X0
 obtain⟨W3,hW3⟩:∃ W3,W3=(((w.alloc (.cells #[.pointer (some ⟨R,0,none⟩)] 26)).alloc (.cells #[.slice (some ⟨b1,o1,none⟩) 2 cA,.string X0] 68)).alloc (.cells #[.string ⟨#[]⟩] 9)):=⟨_,rfl⟩
 rw [← hW3] at hmd hb3 ⊢
 have HMD:=hid2 hmd
 have HB3:=hid2 hb3
 have m0:W3.cell? ⟨w.heap.size+1,0,none⟩=some (.slice (some ⟨b1,o1,none⟩) 2 cA):=hmd.c.cell 0
 have m1:=(hW.out W3 hb3).2.1
 have m2:W3.cell? ⟨w.heap.size+1+1,0,none⟩=some (.string ⟨#[]⟩):=hmd.a.cell 0
 have m3:W3.frozen? ⟨w.heap.size+1+1,0,none⟩=false:=frozen_of_row W3 _ 0 _ _ hmd.a
 have hcapi:(2:Int)≤cA:=by omega
 clear hmd hb3 hW3
 go_upto_region 4 with fail
 have hmd4:=HMD.out.arg AR
 have hb4:Below w.heap.size w (W3.setCell ⟨w.heap.size+1+1,0,none⟩ (.string AR)):=HB3.out.setCell (by show w.heap.size≤w.heap.size+1+1;omega) _
 obtain⟨W4,hW4⟩:∃ W4,W4=W3.setCell ⟨w.heap.size+1+1,0,none⟩ (.string AR):=⟨_,rfl⟩
 rw [← hW4] at hmd4 hb4 ⊢
 clear hW4 m0 m1 m2 m3 HMD HB3
 have m0:W4.cell? ⟨w.heap.size,0,none⟩=some (.pointer (some ⟨R,0,none⟩)):=hmd4.r.cell 0
 have m1:=hcb.out W4 hb4
 have HMD:=hid2 hmd4
 have HB4:=hid2 hb4
 clear hmd4 hb4
 go_upto_region 5 with (go_at_call 36; refine (cL.out W4 HB4.out).mono ?_;rintro e w5 ⟨A5,c5,rfl,ho,hb⟩;have HO:=hid2 ho;have hmd5:=HMD.out.below hb;have hb5:=HB4.out.trans (hb.mono HB4.out.size);clear ho hb cL)
 have HMD5:=hid2 (fun (w2:World) (hb:Below w5.heap.size w5 w2)=>hmd5.below hb)
 have HB5:=hid2 (fun (w2:World) (hb:Below w5.heap.size w5 w2)=>hb5.trans (hb.mono hb5.size))
 have p0:w5.cell? ⟨w.heap.size+1,0,none⟩=some (.slice (some ⟨b1,o1,none⟩) 2 cA):=hmd5.c.cell 0
 have p1:=(hW.out w5 hb5).1
 have hc1:(1:Int)≤cA:=by omega
 have HB4S:=hid2 HB4.out.size
 clear m0 m1 hmd5 HMD HB4
 go_upto_region 6 with fail
 have HO6:=hid2 (HO.out.mono (HB4S.out))
 refine wp_region_rel 7 (by kernel_rfl) (by kernel_rfl) (by kernel_rfl) _ rfl (by kernel_rfl) (VV [some (.pointer (some ⟨R,0,none⟩)),some (.pointer (some ⟨w.heap.size+1,0,none⟩)),some (.slice (some ⟨b1,o1,none⟩) 2 cA),some (.pointer (some ⟨b1,o1,none⟩)),some (.string N),some (.string AR),some (.slice A5 nl c5)] (fun _ _ _=>False)) (fun w2=>Below w5.heap.size w5 w2) (fun a b=>Below a.heap.size a b) ((Below.refl _ w5).drew) (fun j v w1 w2 hb hv=>VV.keep (fun h=>h.elim) hv) ?_ ?_
 ·refine of_allOps ⟨?_,?_,?_,?_,?_,?_,?_,trivial⟩
  ·refine⟨rfl,fun T2 w2 hM hN hO hE K hK=>?_⟩
   have o2:T2[2]?=some (.pointer (some ⟨w.heap.size,0,none⟩)):=hO 2 rfl
   clear hE hO hN
   have hc2:w2.cell? ⟨w.heap.size,0,none⟩=some (.pointer (some ⟨R,0,none⟩)):=(HMD5.out w2 hM).r.cell 0
   go_simp
   exact hK _ _ rfl hM (Below.refl _ _)
  ·refine⟨rfl,fun T2 w2 hM hN hO hE K hK=>?_⟩
   have o3:T2[3]?=some (.pointer (some ⟨w.heap.size+1,0,none⟩)):=hO 3 rfl
   clear hE hO hN
   go_simp
   exact hK _ _ rfl hM (Below.refl _ _)
  ·refine⟨rfl,fun T2 w2 hM hN hO hE K hK=>?_⟩
   obtain⟨v1,h1,e1⟩:=hE ⟨1,.data⟩ (by simp) rfl _ _ rfl rfl
   rw [show v1 = .pointer (some ⟨w.heap.size+1,0,none⟩) from e1] at h1
   clear hE hO hN
   have hc2:w2.cell? ⟨w.heap.size+1,0,none⟩=some (.slice (some ⟨b1,o1,none⟩) 2 cA):=(HMD5.out w2 hM).c.cell 0
   go_simp
   exact hK _ _ rfl hM (Below.refl _ _)
  ·refine⟨rfl,fun T2 w2 hM hN hO hE K hK=>?_⟩
   obtain⟨v2,h2,e2⟩:=hE ⟨2,.data⟩ (by simp) rfl _ _ rfl rfl
   rw [show v2 = .slice (some ⟨b1,o1,none⟩) 2 cA from e2] at h2
   clear hE hO hN
   go_simp
   exact hK _ _ rfl hM (Below.refl _ _)
  ·refine⟨rfl,fun T2 w2 hM hN hO hE K hK=>?_⟩
   obtain⟨v3,h3,e3⟩:=hE ⟨3,.data⟩ (by simp) rfl _ _ rfl rfl
   rw [show v3 = .pointer (some ⟨b1,o1,none⟩) from e3] at h3
   clear hE hO hN
   have hc2:=(hW.out w2 (HB5.out w2 hM)).1
   go_simp
   exact hK _ _ rfl hM (Below.refl _ _)
  ·refine⟨rfl,fun T2 w2 hM hN hO hE K hK=>?_⟩
   have o4:T2[4]?=some (.pointer (some ⟨w.heap.size+1+1,0,none⟩)):=hO 4 rfl
   clear hE hO hN
   have hc2:w2.cell? ⟨w.heap.size+1+1,0,none⟩=some (.string AR):=(HMD5.out w2 hM).a.cell 0
   go_simp
   exact hK _ _ rfl hM (Below.refl _ _)
  ·refine⟨rfl,fun T2 w2 hM hN hO hE K hK=>?_⟩
   have o5:T2[5]?=some (.slice A5 nl c5):=hO 5 rfl
   clear hE hO hN
   go_simp
   exact hK _ _ rfl hM (Below.refl _ _)
 ·intro u w2 hM hF
  have e0:u 0 = .pointer (some ⟨R,0,none⟩):=hF 0 (by omega)
  have e4:u 4 = .string N:=hF 4 (by omega)
  have e5:u 5 = .string AR:=hF 5 (by omega)
  have e6:u 6 = .slice A5 nl c5:=hF 6 (by omega)
  clear hF
  simp only [fillAll,Nat.reduceAdd,e0,e4,e5,e6,List.take_succ_cons,List.take_zero,List.drop_succ_cons,List.drop_zero,List.setIfInBounds_toArray,List.set_cons_succ,List.set_cons_zero]
  have HMM:=hid2 (HB5.out w2 hM)
  have HO7:=hid2 (HO6.out.below hM (Nat.le_refl _))
  clear hM
  go_wp2_with (go_at_call 50; refine (cX.out w2 HMM.out A5 c5 HO7.out).mono ?_;rintro e w7 ⟨rfl,hp⟩;have HP:=hid2 hp;clear hp)
  refine bodyPost_ret (results_none rfl _ _ _) rfl ?_
  exact HP.out
def CmdFit (c:CmdE):Prop:=CmdOk c∧Named c∧c.ws.length=if c.ws.headD []=kText then 1 else (takesT (c.ws.headD [])).1
theorem readC_fit {may:TT→Bool} {s:TT} {c:CmdE} (h:readC may s=some (some c)) (hs:s.length≤100000):CmdFit c:=by
 obtain⟨h1,h2⟩:=readC_ok h hs
 refine⟨h2,h1,?_⟩
 unfold readC at h
 cases hw:wordsT s with
 | nil=>rw [hw] at h;cases h
 | cons w r =>
  rw [hw] at h
  simp only at h
  split at h
  ·cases h
  ·split at h
   ·rename_i hk
    cases h
    simp [hk]
   ·rename_i hk
    split at h
    ·cases h
    ·rename_i hn
     cases h
     show (w :: r).length=if w=kText then 1 else (takesT w).1
     rw [if_neg hk,List.length_cons]
     simp only [not_or,Decidable.not_not] at hn
     exact hn.1.symm
theorem cmds_fit {may:TT→Bool} {text:TT} (h:text.length≤100000):∀ c∈cmdsOf may (linesT text),CmdFit c:=fun c hc=>by
 obtain⟨x,hx,h2⟩:=cmdsOf_mem hc
 exact readC_fit h2 (Nat.le_trans (linesT_le hx) h)
theorem do_any (w:World) (L:RLay) (v:Env) (hv:EnvFit v) (q:Option Nat) (s:PS) (h:RunIs w L v q s) (hf:Fit w L s) (hcm:∀ t∈s.todo,t.isCmd=true) (A:Option Addr) (cA:Nat) (c:CmdE) (hc:CmdFit c) (hr:Rd w 1 A c.ws.length (strV c.ws)) (hcap:c.ws.length≤cA) :
  Calls Tryz.prog 28 #[ptrV L.R,.agg #[.slice A c.ws.length cA,.string (strB c.rest)]] w fun e w'=>∃ q2,VPost w L v q2 (s.do_ v c) e w':=by
 obtain⟨ws,rest⟩:=c
 obtain⟨⟨h0,_,hl,hrest⟩,hnm,hlen⟩:=hc
 simp only at *
 obtain⟨k,r,rfl⟩:∃ k r,ws=k :: r:=by
  cases ws with
  | nil=>exact absurd rfl h0
  | cons k r=>exact⟨k,r,rfl⟩
 have one:∀ {P:TT→Prop},r.length=0→r=[]:=fun h=>List.eq_nil_of_length_eq_zero h
 have two:r.length=1→∃ a,r=[a]:=fun h=>by
  match r,h with
  | [a],_=>exact⟨a,rfl⟩
 have three:r.length=2→∃ a b,r=[a,b]:=fun h=>by
  match r,h with
  | [a,b],_=>exact⟨a,b,rfl⟩
 have up:∀ {S:PS} {n:Nat} {W:List TT} (e1:(k :: r).length=n),s.do_ v ⟨k :: r,rest⟩=S→Calls Tryz.prog 28 #[ptrV L.R,.agg #[.slice A n cA,.string (strB rest)]] w (VPost w L v q S)→Calls Tryz.prog 28 #[ptrV L.R,.agg #[.slice A (k :: r).length cA,.string (strB rest)]] w fun e w'=>∃ q2,VPost w L v q2 (s.do_ v ⟨k :: r,rest⟩) e w':=fun e1 e2 hx=>by
  rw [e1,e2]
  exact hx.mono fun e w' k=>⟨q,k⟩
 unfold Named at hnm
 simp only [List.headD_cons,List.length_cons,List.mem_cons,List.not_mem_nil,or_false] at hnm hlen
 have hla:∀ x∈r,x.length≤1000000:=fun x hx=>hl x (by simp [hx])
 rcases hnm with rfl | rfl | rfl | rfl | rfl | rfl | rfl | rfl | rfl | rfl | rfl | rfl | rfl
 ·have h9:=hlen.trans (show (if kRead=kText then 1 else (takesT kRead).1)=2 by decide)
  obtain⟨a,rfl⟩:=two (by omega)
  have ha:=hla a (by simp)
  exact up (n:=2) (W:=[]) rfl (by simp [PS.do_,PS.turn,kText,kRead,kTry,kWrite,kScan,kEnv,kKeep,kNeed,kSort,kUniq,kUpper,kCount,kFail]) (do_read w L v q s h hf A cA rest hrest a ha hr hcap)
 ·have h9:=hlen.trans (show (if kTry=kText then 1 else (takesT kTry).1)=2 by decide)
  obtain⟨a,rfl⟩:=two (by omega)
  have ha:=hla a (by simp)
  exact up (n:=2) (W:=[]) rfl (by simp [PS.do_,PS.turn,kText,kRead,kTry,kWrite,kScan,kEnv,kKeep,kNeed,kSort,kUniq,kUpper,kCount,kFail]) (do_try w L v q s h hf A cA rest hrest a ha hr hcap)
 ·have h9:=hlen.trans (show (if kWrite=kText then 1 else (takesT kWrite).1)=2 by decide)
  obtain⟨a,rfl⟩:=two (by omega)
  have ha:=hla a (by simp)
  exact up (n:=2) (W:=[]) rfl (by simp [PS.do_,PS.turn,kText,kRead,kTry,kWrite,kScan,kEnv,kKeep,kNeed,kSort,kUniq,kUpper,kCount,kFail]) (do_write w L v q s h hf A cA rest hrest a ha hr hcap)
 ·have h9:=hlen.trans (show (if kScan=kText then 1 else (takesT kScan).1)=3 by decide)
  obtain⟨a,b,rfl⟩:=three (by omega)
  have ha:=hla a (by simp)
  have hb:=hla b (by simp)
  have:=do_scan w L v q s h hf A cA rest hrest a ha b hb hcm hr hcap
  rw [show s.do_ v ⟨[kScan,a,b],rest⟩=PS.scan { s with seen:=[] } a b from by simp [PS.do_,PS.turn,kText,kRead,kTry,kWrite,kScan,kEnv,kKeep,kNeed,kSort,kUniq,kUpper,kCount,kFail]]
  exact this
 ·have h9:=hlen.trans (show (if kEnv=kText then 1 else (takesT kEnv).1)=2 by decide)
  obtain⟨a,rfl⟩:=two (by omega)
  have ha:=hla a (by simp)
  cases hfd:v.env.find? (fun x=>x.1 == a) with
  | none=>exact up (n:=2) (W:=[]) rfl (by simp [PS.do_,PS.turn,kText,kRead,kTry,kWrite,kScan,kEnv,kKeep,kNeed,kSort,kUniq,kUpper,kCount,kFail];rw [hfd]) (do_env_none w L v q s h hf A cA rest hrest a ha hv hfd hr hcap)
  | some x=>exact up (n:=2) (W:=[]) rfl (by simp [PS.do_,PS.turn,kText,kRead,kTry,kWrite,kScan,kEnv,kKeep,kNeed,kSort,kUniq,kUpper,kCount,kFail];rw [hfd]) (do_env_some w L v q s h hf A cA rest hrest a ha hv x hfd hr hcap)
 ·have h9:=hlen.trans (show (if kKeep=kText then 1 else (takesT kKeep).1)=2 by decide)
  obtain⟨a,rfl⟩:=two (by omega)
  have ha:=hla a (by simp)
  exact up (n:=2) (W:=[]) rfl (by simp [PS.do_,PS.turn,kText,kRead,kTry,kWrite,kScan,kEnv,kKeep,kNeed,kSort,kUniq,kUpper,kCount,kFail]) (do_keep w L v q s h hf A cA rest hrest a ha hr hcap)
 ·have h9:=hlen.trans (show (if kNeed=kText then 1 else (takesT kNeed).1)=2 by decide)
  obtain⟨a,rfl⟩:=two (by omega)
  have ha:=hla a (by simp)
  cases hfd:(linesT s.buf).any (hasT · a) with
  | true=>exact up (n:=2) (W:=[]) rfl (by show PS.do_ v s ⟨[kNeed,a],rest⟩=s;unfold PS.do_;simp only [List.headD_cons,List.drop_succ_cons,List.drop_zero,hfd];rfl) (do_need_yes w L v q s h hf A cA rest hrest a ha hfd hr hcap)
  | false=>exact up (n:=2) (W:=[]) rfl (by show PS.do_ v s ⟨[kNeed,a],rest⟩=s.fail 15;unfold PS.do_;simp only [List.headD_cons,List.drop_succ_cons,List.drop_zero,hfd];rfl) (do_need_no w L v q s h hf A cA rest hrest a ha hfd hr hcap)
 ·have h9:=hlen.trans (show (if kSort=kText then 1 else (takesT kSort).1)=1 by decide)
  obtain rfl:r=[]:=List.eq_nil_of_length_eq_zero (by omega)
  exact up (n:=1) (W:=[]) rfl (by simp [PS.do_,PS.turn,kText,kRead,kTry,kWrite,kScan,kEnv,kKeep,kNeed,kSort,kUniq,kUpper,kCount,kFail]) (do_sort w L v q s h hf A cA rest hrest  hr hcap)
 ·have h9:=hlen.trans (show (if kUniq=kText then 1 else (takesT kUniq).1)=1 by decide)
  obtain rfl:r=[]:=List.eq_nil_of_length_eq_zero (by omega)
  exact up (n:=1) (W:=[]) rfl (by simp [PS.do_,PS.turn,kText,kRead,kTry,kWrite,kScan,kEnv,kKeep,kNeed,kSort,kUniq,kUpper,kCount,kFail]) (do_uniq w L v q s h hf A cA rest hrest  hr hcap)
 ·have h9:=hlen.trans (show (if kUpper=kText then 1 else (takesT kUpper).1)=1 by decide)
  obtain rfl:r=[]:=List.eq_nil_of_length_eq_zero (by omega)
  exact up (n:=1) (W:=[]) rfl (by simp [PS.do_,PS.turn,kText,kRead,kTry,kWrite,kScan,kEnv,kKeep,kNeed,kSort,kUniq,kUpper,kCount,kFail]) (do_upper w L v q s h hf A cA rest hrest  hr hcap)
 ·have h9:=hlen.trans (show (if kCount=kText then 1 else (takesT kCount).1)=1 by decide)
  obtain rfl:r=[]:=List.eq_nil_of_length_eq_zero (by omega)
  exact up (n:=1) (W:=[]) rfl (by simp [PS.do_,PS.turn,kText,kRead,kTry,kWrite,kScan,kEnv,kKeep,kNeed,kSort,kUniq,kUpper,kCount,kFail]) (do_count w L v q s h hf A cA rest hrest  hr hcap)
 ·have h9:=hlen.trans (show (if kFail=kText then 1 else (takesT kFail).1)=1 by decide)
  obtain rfl:r=[]:=List.eq_nil_of_length_eq_zero (by omega)
  exact up (n:=1) (W:=[]) rfl (by simp [PS.do_,PS.turn,kText,kRead,kTry,kWrite,kScan,kEnv,kKeep,kNeed,kSort,kUniq,kUpper,kCount,kFail]) (do_fail w L v q s h hf A cA rest hrest  hr hcap)
 ·have h9:=hlen.trans (show (if kText=kText then 1 else (takesT kText).1)=1 by decide)
  obtain rfl:r=[]:=List.eq_nil_of_length_eq_zero (by omega)
  exact up (n:=1) (W:=[]) rfl (by simp [PS.do_,PS.turn,kText,kRead,kTry,kWrite,kScan,kEnv,kKeep,kNeed,kSort,kUniq,kUpper,kCount,kFail]) (do_text w L v q s h hf A cA rest hrest  hr hcap)
end Go.Proofs.YtnecjdhamohadaaGreatDoor
