/- A tool's run: a command. -/
import Derived.Test.YtnecjdhamohadaaGreatDoorPMl
set_option linter.unusedSimpArgs false
set_option linter.unusedVariables false
namespace Go.Proofs.YtnecjdhamohadaaGreatDoor
open Go.RowKit Go.Maps Go.Shelf
set_option maxRecDepth 100000
structure Made (w:World) (g:Nat) (R:Nat) (A:Option Addr) (n cA:Nat) (X0 Y:ByteArray):Prop where
 r:CellB w g #[.pointer (some ⟨R,0,none⟩)] 26
 c:CellB w (g+1) #[.slice A n cA,.string X0] 68
 a:CellB w (g+1+1) #[.string Y] 9
section
variable {w w':World} {g R n cA:Nat} {A:Option Addr} {X0 Y:ByteArray}
theorem Made.below (h:Made w g R A n cA X0 Y) (hb:Below w.heap.size w w'):Made w' g R A n cA X0 Y:=⟨h.r.below hb,h.c.below hb,h.a.below hb⟩
theorem Made.arg (h:Made w g R A n cA X0 Y) (Z:ByteArray):Made (w.setCell ⟨g+1+1,0,none⟩ (.string Z)) g R A n cA X0 Z:=by
 have ha:=h.a
 unfold CellB at ha
 refine⟨(Below.heap_setCell _ _ _ _ (by show g≠g+1+1;omega)).trans h.r,(Below.heap_setCell _ _ _ _ (by show g+1≠g+1+1;omega)).trans h.c,?_⟩
 unfold CellB
 rw [setCell_eq_setRow w _ 0 _ _ _ _ ha,setRow_heap w _ _ _ _ _ ha]
 rfl
theorem made_new (w:World) (R:Nat) (A:Option Addr) (n cA:Nat) (X0:ByteArray):Made (((w.alloc (.cells #[.pointer (some ⟨R,0,none⟩)] 26)).alloc (.cells #[.slice A n cA,.string X0] 68)).alloc (.cells #[.string ⟨#[]⟩] 9)) w.heap.size R A n cA X0 ⟨#[]⟩ ∧
  Below w.heap.size w (((w.alloc (.cells #[.pointer (some ⟨R,0,none⟩)] 26)).alloc (.cells #[.slice A n cA,.string X0] 68)).alloc (.cells #[.string ⟨#[]⟩] 9)):=by
 have h1:Below w.heap.size w (w.alloc (.cells #[.pointer (some ⟨R,0,none⟩)] 26)):=(Below.refl _ _).alloc (Nat.le_refl _) _
 refine⟨⟨?_,?_,?_⟩,(h1.alloc (by simp) _).alloc (by simp;omega) _⟩
 ·unfold CellB
  rw [Below.heap_alloc _ _ _ (by simp;omega),Below.heap_alloc _ _ _ (by simp)]
  exact World.alloc_heap_new w _
 ·unfold CellB
  rw [Below.heap_alloc _ _ _ (by simp)]
  have:=World.alloc_heap_new (w.alloc (.cells #[.pointer (some ⟨R,0,none⟩)] 26)) (.cells #[.slice A n cA,.string X0] 68)
  rwa [World.size_alloc] at this
 ·have:=World.alloc_heap_new ((w.alloc (.cells #[.pointer (some ⟨R,0,none⟩)] 26)).alloc (.cells #[.slice A n cA,.string X0] 68)) (.cells #[.string ⟨#[]⟩] 9)
  rwa [World.size_alloc,World.size_alloc] at this
end
theorem words_row {w:World} {A:Option Addr} {k:Nat} {l:List TT} (hr:Rd w 1 A k (strV l)) (hk:0 < k):∃ b o,A=some ⟨b,o,none⟩∧b < w.heap.size∧∀ j x,l[j]?=some x→w.cell? ⟨b,o+j,none⟩=some (.string (strB x)):=by
 obtain⟨b,o,rfl,hc⟩:=hr.2 hk
 have hl:=hr.1
 have hlen:0 < l.length:=by rw [strV,List.length_map] at hl;omega
 refine⟨b,o,rfl,?_,fun j x hx=>hc j _ (strV_get hx)⟩
 have:=hc 0 _ (strV_get (List.getElem?_eq_getElem hlen))
 exact World.block_lt_of_cell? _ _ this
set_option maxHeartbeats 8000000 in
theorem do_fail (w:World) (L:RLay) (v:Env) (q:Option Nat) (s:PS) (h:RunIs w L v q s) (hf:Fit w L s) (A:Option Addr) (cA:Nat) (rest:TT) (hrest:rest.length≤1000000) (hr:Rd w 1 A 1 (strV [kFail])) (hcap:1≤cA) :
  Calls Tryz.prog 28 #[ptrV L.R,.agg #[.slice A 1 cA,.string (strB rest)]] w (VPost w L v q (s.fail 15)):=by
 have hB:=h.size
 obtain⟨b1,o1,rfl,hb1,hcw⟩:=words_row hr (by decide)
 obtain⟨R,hR⟩:∃ R,R=L.R:=⟨_,rfl⟩
 obtain⟨X0,hX0⟩:∃ X0,X0=strB rest:=⟨_,rfl⟩
 obtain⟨X,hX⟩:∃ X,X=strB s.buf:=⟨_,rfl⟩
 obtain⟨Pq,hPq⟩:∃ Pq:Ending→World→Prop,Pq=(VPost w L v q (s.fail 15)):=⟨_,rfl⟩
 obtain⟨N,hN⟩:∃ N,N=strB kFail:=⟨_,rfl⟩
 have htn:N.toList=kFail:=by rw [hN];exact toList_strBT _
 have tkRead:(N.toList == [114,101,97,100])=false:=by rw [htn];decide
 have ukRead:¬ N.toList=[114,101,97,100]:=by rw [htn];decide
 have tkTry:(N.toList == [116,114,121])=false:=by rw [htn];decide
 have ukTry:¬ N.toList=[116,114,121]:=by rw [htn];decide
 have tkScan:(N.toList == [115,99,97,110])=false:=by rw [htn];decide
 have ukScan:¬ N.toList=[115,99,97,110]:=by rw [htn];decide
 have tkText:(N.toList == [116,101,120,116])=false:=by rw [htn];decide
 have ukText:¬ N.toList=[116,101,120,116]:=by rw [htn];decide
 have tkEnv:(N.toList == [101,110,118])=false:=by rw [htn];decide
 have ukEnv:¬ N.toList=[101,110,118]:=by rw [htn];decide
 have tkWrite:(N.toList == [119,114,105,116,101])=false:=by rw [htn];decide
 have ukWrite:¬ N.toList=[119,114,105,116,101]:=by rw [htn];decide
 have tkNeed:(N.toList == [110,101,101,100])=false:=by rw [htn];decide
 have ukNeed:¬ N.toList=[110,101,101,100]:=by rw [htn];decide
 have tkFail:(N.toList == [102,97,105,108])=true:=by rw [htn,beq_iff_eq]
 have ukFail:N.toList=[102,97,105,108]:=htn
 have k0:w.cell? ⟨b1,o1,none⟩=some (.string N):=by rw [hN];exact hcw 0 _ rfl
 have hW:=hid2 (show ∀ w2,Below w.heap.size w w2→w2.cell? ⟨b1,o1,none⟩=some (.string N)∧True from fun w2 hb=>⟨(hb.cell (p:=⟨b1,o1,none⟩) hb1).trans k0,trivial⟩)
 have cL:=hid2 (fun (W:World) (hb:Below w.heap.size w W)=>show Calls Tryz.prog 36 #[.string X] W fun e w'=>∃ A c,e = .returned (.slice A (linesT s.buf).length c)∧Own w' W.heap.size 9 1 A (linesT s.buf).length c (strV (linesT s.buf))∧Below W.heap.size W w' from by rw [hX];exact lines_any W s.buf (by have:=hf.lim.buf;omega) (hf.lib.on hb))
 have hcb:=hid2 (show ∀ w2,Below w.heap.size w w2→w2.cell? ⟨R,2,none⟩=some (.string X) from fun w2 hb=>by
  obtain⟨_,_,_,hrr⟩:=h
  rw [hX,hR]
  exact ((hrr.below hb).cell 2).1)
 have cF:=hid2 (fun (w2:World) (hb:Below w.heap.size w w2)=>show Calls Tryz.prog 46 #[.pointer (some ⟨R,0,none⟩),.int .i64 15] w2 fun e w3=>e = .returned (.tuple #[])∧Pq (.returned (.tuple #[])) w3 from by
  have:=fail_any w2 L v q s (h.below hb) 15
  rw [ptrV,← hR] at this
  refine this.mono fun e w3 k=>⟨k.1,?_⟩
  rw [hPq]
  have:=k.since hb hB
  rw [k.1] at this
  exact this)
 rw [ptrV,← hR,← hX0,← hPq]
 clear hcw htn hR hX0 hX hPq hN hr hB hb1 h hf hrest 
 go_enter Tryz.func28,Tryz.ntmps28
 go_upto_region 2 with fail
 obtain⟨hmd,hb3⟩:=made_new w R (some ⟨b1,o1,none⟩) 1 cA X0
 obtain⟨W3,hW3⟩:∃ W3,W3=(((w.alloc (.cells #[.pointer (some ⟨R,0,none⟩)] 26)).alloc (.cells #[.slice (some ⟨b1,o1,none⟩) 1 cA,.string X0] 68)).alloc (.cells #[.string ⟨#[]⟩] 9)):=⟨_,rfl⟩
 rw [← hW3] at hmd hb3 ⊢
 have HMD:=hid2 hmd
 have HB3:=hid2 hb3
 have m0:W3.cell? ⟨w.heap.size+1,0,none⟩=some (.slice (some ⟨b1,o1,none⟩) 1 cA):=hmd.c.cell 0
 clear hmd hb3 hW3
 go_upto_region 4 with fail
 have hmd4:=HMD.out
 have hb4:=HB3.out
 obtain⟨W4,hW4⟩:∃ W4,W4=W3:=⟨_,rfl⟩
 rw [← hW4] at hmd4 hb4 ⊢
 clear hW4 m0 HMD HB3
 have m0:W4.cell? ⟨w.heap.size,0,none⟩=some (.pointer (some ⟨R,0,none⟩)):=hmd4.r.cell 0
 have m1:=hcb.out W4 hb4
 have HMD:=hid2 hmd4
 have HB4:=hid2 hb4
 clear hmd4 hb4
 go_upto_region 5 with (go_at_call 36; refine (cL.out W4 HB4.out).mono ?_;rintro e w5 ⟨A5,c5,rfl,ho,hb⟩;have HO:=hid2 ho;have hmd5:=HMD.out.below hb;have hb5:=HB4.out.trans (hb.mono HB4.out.size);clear ho hb cL)
 have HMD5:=hid2 (fun (w2:World) (hb:Below w5.heap.size w5 w2)=>hmd5.below hb)
 have HB5:=hid2 (fun (w2:World) (hb:Below w5.heap.size w5 w2)=>hb5.trans (hb.mono hb5.size))
 have p0:w5.cell? ⟨w.heap.size+1,0,none⟩=some (.slice (some ⟨b1,o1,none⟩) 1 cA):=hmd5.c.cell 0
 have p1:=(hW.out w5 hb5).1
 have hc1:(1:Int)≤cA:=by omega
 have HB4S:=hid2 HB4.out.size
 clear m0 m1 hmd5 HMD HB4
 have p2:w5.cell? ⟨w.heap.size,0,none⟩=some (.pointer (some ⟨R,0,none⟩)):=(HMD5.out w5 (Below.refl _ _)).r.cell 0
 go_wp2_with (go_at_call 46; refine (cF.out w5 (HB5.out w5 (Below.refl _ _))).mono ?_;rintro e w6 ⟨rfl,hp⟩;have HP:=hid2 hp;clear hp)
 refine bodyPost_ret (results_none rfl _ _ _) rfl ?_
 exact HP.out
set_option maxHeartbeats 8000000 in
theorem do_text (w:World) (L:RLay) (v:Env) (q:Option Nat) (s:PS) (h:RunIs w L v q s) (hf:Fit w L s) (A:Option Addr) (cA:Nat) (rest:TT) (hrest:rest.length≤1000000) (hr:Rd w 1 A 1 (strV [kText])) (hcap:1≤cA) :
  Calls Tryz.prog 28 #[ptrV L.R,.agg #[.slice A 1 cA,.string (strB rest)]] w (VPost w L v q (s.add (rest++[10]))):=by
 have hB:=h.size
 obtain⟨b1,o1,rfl,hb1,hcw⟩:=words_row hr (by decide)
 obtain⟨R,hR⟩:∃ R,R=L.R:=⟨_,rfl⟩
 obtain⟨X0,hX0⟩:∃ X0,X0=strB rest:=⟨_,rfl⟩
 obtain⟨X,hX⟩:∃ X,X=strB s.buf:=⟨_,rfl⟩
 obtain⟨Pq,hPq⟩:∃ Pq:Ending→World→Prop,Pq=(VPost w L v q (s.add (rest++[10]))):=⟨_,rfl⟩
 obtain⟨N,hN⟩:∃ N,N=strB kText:=⟨_,rfl⟩
 have htn:N.toList=kText:=by rw [hN];exact toList_strBT _
 have tkRead:(N.toList == [114,101,97,100])=false:=by rw [htn];decide
 have ukRead:¬ N.toList=[114,101,97,100]:=by rw [htn];decide
 have tkTry:(N.toList == [116,114,121])=false:=by rw [htn];decide
 have ukTry:¬ N.toList=[116,114,121]:=by rw [htn];decide
 have tkScan:(N.toList == [115,99,97,110])=false:=by rw [htn];decide
 have ukScan:¬ N.toList=[115,99,97,110]:=by rw [htn];decide
 have tkText:(N.toList == [116,101,120,116])=true:=by rw [htn,beq_iff_eq]
 have ukText:N.toList=[116,101,120,116]:=htn
 have k0:w.cell? ⟨b1,o1,none⟩=some (.string N):=by rw [hN];exact hcw 0 _ rfl
 have hW:=hid2 (show ∀ w2,Below w.heap.size w w2→w2.cell? ⟨b1,o1,none⟩=some (.string N)∧True from fun w2 hb=>⟨(hb.cell (p:=⟨b1,o1,none⟩) hb1).trans k0,trivial⟩)
 have cL:=hid2 (fun (W:World) (hb:Below w.heap.size w W)=>show Calls Tryz.prog 36 #[.string X] W fun e w'=>∃ A c,e = .returned (.slice A (linesT s.buf).length c)∧Own w' W.heap.size 9 1 A (linesT s.buf).length c (strV (linesT s.buf))∧Below W.heap.size W w' from by rw [hX];exact lines_any W s.buf (by have:=hf.lim.buf;omega) (hf.lib.on hb))
 have hcb:=hid2 (show ∀ w2,Below w.heap.size w w2→w2.cell? ⟨R,2,none⟩=some (.string X) from fun w2 hb=>by
  obtain⟨_,_,_,hrr⟩:=h
  rw [hX,hR]
  exact ((hrr.below hb).cell 2).1)
 have hcat:X0++⟨#[10]⟩=strB (rest++[10]):=by rw [hX0];exact strB_append rest [10]
 have hX0s:X0.size≤1000000:=by rw [hX0,strB_size];exact hrest
 have hszc:¬ (X0.size+1 > 9223372036854775807):=by omega
 obtain⟨Z,hZ⟩:∃ Z,Z=strB (rest++[10]):=⟨_,rfl⟩
 rw [← hZ] at hcat
 have cF:=hid2 (fun (w2:World) (hb:Below w.heap.size w w2)=>show Calls Tryz.prog 41 #[.pointer (some ⟨R,0,none⟩),.string Z] w2 fun e w3=>e = .returned (.tuple #[])∧Pq (.returned (.tuple #[])) w3 from by
  have:=add_any w2 L v q s (h.below hb) hf.lim.buf (rest++[10]) (by simp;omega)
  rw [ptrV,← hR,← hZ] at this
  refine this.mono fun e w3 k=>⟨k.1,?_⟩
  rw [hPq]
  have:=k.since hb hB
  rw [k.1] at this
  exact this)
 rw [ptrV,← hR,← hX0,← hPq]
 clear hcw htn hR hX0 hX hPq hN hr hB hb1 h hf hrest hZ hX0s
 go_enter Tryz.func28,Tryz.ntmps28
 go_upto_region 2 with fail
 obtain⟨hmd,hb3⟩:=made_new w R (some ⟨b1,o1,none⟩) 1 cA X0
 obtain⟨W3,hW3⟩:∃ W3,W3=(((w.alloc (.cells #[.pointer (some ⟨R,0,none⟩)] 26)).alloc (.cells #[.slice (some ⟨b1,o1,none⟩) 1 cA,.string X0] 68)).alloc (.cells #[.string ⟨#[]⟩] 9)):=⟨_,rfl⟩
 rw [← hW3] at hmd hb3 ⊢
 have HMD:=hid2 hmd
 have HB3:=hid2 hb3
 have m0:W3.cell? ⟨w.heap.size+1,0,none⟩=some (.slice (some ⟨b1,o1,none⟩) 1 cA):=hmd.c.cell 0
 clear hmd hb3 hW3
 go_upto_region 4 with fail
 have hmd4:=HMD.out
 have hb4:=HB3.out
 obtain⟨W4,hW4⟩:∃ W4,W4=W3:=⟨_,rfl⟩
 rw [← hW4] at hmd4 hb4 ⊢
 clear hW4 m0 HMD HB3
 have m0:W4.cell? ⟨w.heap.size,0,none⟩=some (.pointer (some ⟨R,0,none⟩)):=hmd4.r.cell 0
 have m1:=hcb.out W4 hb4
 have HMD:=hid2 hmd4
 have HB4:=hid2 hb4
 clear hmd4 hb4
 go_upto_region 5 with (go_at_call 36; refine (cL.out W4 HB4.out).mono ?_;rintro e w5 ⟨A5,c5,rfl,ho,hb⟩;have HO:=hid2 ho;have hmd5:=HMD.out.below hb;have hb5:=HB4.out.trans (hb.mono HB4.out.size);clear ho hb cL)
 have HMD5:=hid2 (fun (w2:World) (hb:Below w5.heap.size w5 w2)=>hmd5.below hb)
 have HB5:=hid2 (fun (w2:World) (hb:Below w5.heap.size w5 w2)=>hb5.trans (hb.mono hb5.size))
 have p0:w5.cell? ⟨w.heap.size+1,0,none⟩=some (.slice (some ⟨b1,o1,none⟩) 1 cA):=hmd5.c.cell 0
 have p1:=(hW.out w5 hb5).1
 have hc1:(1:Int)≤cA:=by omega
 have HB4S:=hid2 HB4.out.size
 clear m0 m1 hmd5 HMD HB4
 have p2:w5.cell? ⟨w.heap.size,0,none⟩=some (.pointer (some ⟨R,0,none⟩)):=(HMD5.out w5 (Below.refl _ _)).r.cell 0
 have p3:w5.cell? ⟨w.heap.size+1,1,none⟩=some (.string X0):=(HMD5.out w5 (Below.refl _ _)).c.cell 1
 go_wp2_with (go_at_call 41; refine (cF.out w5 (HB5.out w5 (Below.refl _ _))).mono ?_;rintro e w6 ⟨rfl,hp⟩;have HP:=hid2 hp;clear hp)
 refine bodyPost_ret (results_none rfl _ _ _) rfl ?_
 exact HP.out
set_option maxHeartbeats 8000000 in
theorem do_read (w:World) (L:RLay) (v:Env) (q:Option Nat) (s:PS) (h:RunIs w L v q s) (hf:Fit w L s) (A:Option Addr) (cA:Nat) (rest:TT) (hrest:rest.length≤1000000) (a:TT) (ha:a.length≤1000000) (hr:Rd w 1 A 2 (strV [kRead,a])) (hcap:2≤cA) :
  Calls Tryz.prog 28 #[ptrV L.R,.agg #[.slice A 2 cA,.string (strB rest)]] w (VPost w L v q (s.ask a .add)):=by
 have hB:=h.size
 obtain⟨b1,o1,rfl,hb1,hcw⟩:=words_row hr (by decide)
 obtain⟨R,hR⟩:∃ R,R=L.R:=⟨_,rfl⟩
 obtain⟨X0,hX0⟩:∃ X0,X0=strB rest:=⟨_,rfl⟩
 obtain⟨X,hX⟩:∃ X,X=strB s.buf:=⟨_,rfl⟩
 obtain⟨Pq,hPq⟩:∃ Pq:Ending→World→Prop,Pq=(VPost w L v q (s.ask a .add)):=⟨_,rfl⟩
 obtain⟨N,hN⟩:∃ N,N=strB kRead:=⟨_,rfl⟩
 obtain⟨AR,hAR⟩:∃ AR,AR=strB a:=⟨_,rfl⟩
 have htn:N.toList=kRead:=by rw [hN];exact toList_strBT _
 have tkRead:(N.toList == [114,101,97,100])=true:=by rw [htn,beq_iff_eq]
 have ukRead:N.toList=[114,101,97,100]:=htn
 have k0:w.cell? ⟨b1,o1,none⟩=some (.string N):=by rw [hN];exact hcw 0 _ rfl
 have k1:w.cell? ⟨b1,o1+1,none⟩=some (.string AR):=by rw [hAR];exact hcw 1 _ rfl
 have hW:=hid2 (show ∀ w2,Below w.heap.size w w2→w2.cell? ⟨b1,o1,none⟩=some (.string N)∧w2.cell? ⟨b1,o1+1,none⟩=some (.string AR)∧True from fun w2 hb=>⟨(hb.cell (p:=⟨b1,o1,none⟩) hb1).trans k0,(hb.cell (p:=⟨b1,o1+1,none⟩) hb1).trans k1,trivial⟩)
 have cL:=hid2 (fun (W:World) (hb:Below w.heap.size w W)=>show Calls Tryz.prog 36 #[.string X] W fun e w'=>∃ A c,e = .returned (.slice A (linesT s.buf).length c)∧Own w' W.heap.size 9 1 A (linesT s.buf).length c (strV (linesT s.buf))∧Below W.heap.size W w' from by rw [hX];exact lines_any W s.buf (by have:=hf.lim.buf;omega) (hf.lib.on hb))
 have hcb:=hid2 (show ∀ w2,Below w.heap.size w w2→w2.cell? ⟨R,2,none⟩=some (.string X) from fun w2 hb=>by
  obtain⟨_,_,_,hrr⟩:=h
  rw [hX,hR]
  exact ((hrr.below hb).cell 2).1)
 have cA2:=hid2 (fun (w2:World) (hb:Below w.heap.size w w2) (u:Value) (hu:ThereIs w2 R q u .add)=>show Calls Tryz.prog 39 #[.pointer (some ⟨R,0,none⟩),.string AR,u] w2 fun e w3=>e = .returned (.tuple #[])∧Pq (.returned (.tuple #[])) w3 from by
  have:=ask_any (v:=v) (h.below hb) (hf.below hb) a ha (u:=u) (th:=.add) (by rw [← hR];exact hu) (.inl rfl)
  rw [ptrV,← hR,← hAR] at this
  refine this.mono fun e w3 k=>⟨k.1,?_⟩
  rw [hPq]
  have:=k.since hb hB
  rw [k.1] at this
  exact this)
 rw [ptrV,← hR,← hX0,← hPq]
 clear hcw htn hR hX0 hX hPq hN hAR hr hB hb1 h hf hrest ha
 go_enter Tryz.func28,Tryz.ntmps28
 go_upto_region 2 with fail
 obtain⟨hmd,hb3⟩:=made_new w R (some ⟨b1,o1,none⟩) 2 cA X0
 obtain⟨W3,hW3⟩:∃ W3,W3=(((w.alloc (.cells #[.pointer (some ⟨R,0,none⟩)] 26)).alloc (.cells #[.slice (some ⟨b1,o1,none⟩) 2 cA,.string X0] 68)).alloc (.cells #[.string ⟨#[]⟩] 9)):=⟨_,rfl⟩
 rw [← hW3] at hmd hb3 ⊢
 have HMD:=hid2 hmd
 have HB3:=hid2 hb3
 have m0:W3.cell? ⟨w.heap.size+1,0,none⟩=some (.slice (some ⟨b1,o1,none⟩) 2 cA):=hmd.c.cell 0
 have m1:=(hW.out W3 hb3).2.1
 have m2:W3.cell? ⟨w.heap.size+1+1,0,none⟩=some (.string ⟨#[]⟩):=hmd.a.cell 0
 have m3:W3.frozen? ⟨w.heap.size+1+1,0,none⟩=false:=frozen_of_row W3 _ 0 _ _ hmd.a
 have hcapi:(2:Int)≤cA:=by omega
 clear hmd hb3 hW3
 go_upto_region 4 with fail
 have hmd4:=HMD.out.arg AR
 have hb4:Below w.heap.size w (W3.setCell ⟨w.heap.size+1+1,0,none⟩ (.string AR)):=HB3.out.setCell (by show w.heap.size≤w.heap.size+1+1;omega) _
 obtain⟨W4,hW4⟩:∃ W4,W4=W3.setCell ⟨w.heap.size+1+1,0,none⟩ (.string AR):=⟨_,rfl⟩
 rw [← hW4] at hmd4 hb4 ⊢
 clear hW4 m0 m1 m2 m3 HMD HB3
 have m0:W4.cell? ⟨w.heap.size,0,none⟩=some (.pointer (some ⟨R,0,none⟩)):=hmd4.r.cell 0
 have m1:=hcb.out W4 hb4
 have HMD:=hid2 hmd4
 have HB4:=hid2 hb4
 clear hmd4 hb4
 go_upto_region 5 with (go_at_call 36; refine (cL.out W4 HB4.out).mono ?_;rintro e w5 ⟨A5,c5,rfl,ho,hb⟩;have HO:=hid2 ho;have hmd5:=HMD.out.below hb;have hb5:=HB4.out.trans (hb.mono HB4.out.size);clear ho hb cL)
 have HMD5:=hid2 (fun (w2:World) (hb:Below w5.heap.size w5 w2)=>hmd5.below hb)
 have HB5:=hid2 (fun (w2:World) (hb:Below w5.heap.size w5 w2)=>hb5.trans (hb.mono hb5.size))
 have p0:w5.cell? ⟨w.heap.size+1,0,none⟩=some (.slice (some ⟨b1,o1,none⟩) 2 cA):=hmd5.c.cell 0
 have p1:=(hW.out w5 hb5).1
 have hc1:(1:Int)≤cA:=by omega
 have HB4S:=hid2 HB4.out.size
 clear m0 m1 hmd5 HMD HB4
 go_upto_region 8 with fail
 refine wp_region_rel 6 (by kernel_rfl) (by kernel_rfl) (by kernel_rfl) _ rfl (by kernel_rfl) (VV [some (.pointer (some ⟨R,0,none⟩)),some (.string AR),some (.pointer (some ⟨R,0,none⟩)),some (.pointer (some ⟨R,0,none⟩)),some (.func (.func 41) #[.pointer (some ⟨R,0,none⟩)] #[]),none] (fun _ v w2=>ThereIs w2 R q v .add)) (fun w2=>Below w5.heap.size w5 w2) (fun a b=>Below a.heap.size a b) ((Below.refl _ w5).drew) (fun j v w1 w2 hb hv=>VV.keep (fun h=>h.keep (TBut.of_below hb (Nat.zero_le _))) hv) ?_ ?_
 ·refine of_allOps ⟨?_,?_,?_,?_,?_,?_,trivial⟩
  ·refine⟨rfl,fun T2 w2 hM hN hO hE K hK=>?_⟩
   have o2:T2[2]?=some (.pointer (some ⟨w.heap.size,0,none⟩)):=hO 2 rfl
   clear hE hO hN
   have hcc:=(HMD5.out w2 hM).r.cell 0
   have hc2:w2.cell? ⟨w.heap.size,0,none⟩=some (.pointer (some ⟨R,0,none⟩)):=hcc
   go_simp
   exact hK _ _ rfl hM (Below.refl _ _)
  ·refine⟨rfl,fun T2 w2 hM hN hO hE K hK=>?_⟩
   have o4:T2[4]?=some (.pointer (some ⟨w.heap.size+1+1,0,none⟩)):=hO 4 rfl
   clear hE hO hN
   have hcc:=(HMD5.out w2 hM).a.cell 0
   have hc2:w2.cell? ⟨w.heap.size+1+1,0,none⟩=some (.string AR):=hcc
   go_simp
   exact hK _ _ rfl hM (Below.refl _ _)
  ·refine⟨rfl,fun T2 w2 hM hN hO hE K hK=>?_⟩
   have o2:T2[2]?=some (.pointer (some ⟨w.heap.size,0,none⟩)):=hO 2 rfl
   clear hE hO hN
   have hcc:=(HMD5.out w2 hM).r.cell 0
   have hc2:w2.cell? ⟨w.heap.size,0,none⟩=some (.pointer (some ⟨R,0,none⟩)):=hcc
   go_simp
   exact hK _ _ rfl hM (Below.refl _ _)
  ·refine⟨rfl,fun T2 w2 hM hN hO hE K hK=>?_⟩
   have o2:T2[2]?=some (.pointer (some ⟨w.heap.size,0,none⟩)):=hO 2 rfl
   clear hE hO hN
   have hcc:=(HMD5.out w2 hM).r.cell 0
   have hc2:w2.cell? ⟨w.heap.size,0,none⟩=some (.pointer (some ⟨R,0,none⟩)):=hcc
   go_simp
   exact hK _ _ rfl hM (Below.refl _ _)
  ·refine⟨rfl,fun T2 w2 hM hN hO hE K hK=>?_⟩
   obtain⟨v3,h3,e3⟩:=hE ⟨3,.data⟩ (by simp) rfl _ _ rfl rfl
   rw [show v3 = .pointer (some ⟨R,0,none⟩) from e3] at h3
   clear hE hO hN
   go_simp
   exact hK _ _ rfl hM (Below.refl _ _)
  ·refine⟨rfl,fun T2 w2 hM hN hO hE K hK=>?_⟩
   obtain⟨v2,h2,e2⟩:=hE ⟨2,.data⟩ (by simp) rfl _ _ rfl rfl
   rw [show v2 = .pointer (some ⟨R,0,none⟩) from e2] at h2
   obtain⟨v4,h4,e4⟩:=hE ⟨4,.data⟩ (by simp) rfl _ _ rfl rfl
   rw [show v4 = .func (.func 41) #[.pointer (some ⟨R,0,none⟩)] #[] from e4] at h4
   clear hE hO hN
   go_simp
   refine (there_any w2 R q _ .add rfl).mono ?_
   rintro e w3 ⟨⟨u2,rfl,hth⟩,hb⟩
   exact hK _ _ hth (hM.trans (hb.mono hM.size)) hb
 ·intro u w2 hM hF
  have e0:u 0 = .pointer (some ⟨R,0,none⟩):=hF 0 (by omega)
  have e1:u 1 = .string AR:=hF 1 (by omega)
  have hX4:ThereIs w2 R q (u 5) .add:=hF 5 (by omega)
  clear hF
  simp only [fillAll,Nat.reduceAdd,e0,e1,List.take_succ_cons,List.take_zero,List.drop_succ_cons,List.drop_zero,List.setIfInBounds_toArray,List.set_cons_succ,List.set_cons_zero]
  have HX4:=hid2 hX4
  have HMM:=hid2 (HB5.out w2 hM)
  obtain⟨f9,fi9,ca9,e9⟩:∃ f fi ca,u 5 = .func (.func f) fi ca:=by
   obtain⟨_,_,_,e,_⟩:=hX4
   exact⟨_,_,_,e⟩
  rw [e9] at HX4 ⊢
  clear hX4 hM e9
  go_wp2_with (go_at_call 39; refine (cA2.out w2 HMM.out _ HX4.out).mono ?_;rintro e w3 ⟨rfl,hp⟩;have HP:=hid2 hp;clear hp)
  refine bodyPost_ret (results_none rfl _ _ _) rfl ?_
  exact HP.out
set_option maxHeartbeats 8000000 in
theorem do_try (w:World) (L:RLay) (v:Env) (q:Option Nat) (s:PS) (h:RunIs w L v q s) (hf:Fit w L s) (A:Option Addr) (cA:Nat) (rest:TT) (hrest:rest.length≤1000000) (a:TT) (ha:a.length≤1000000) (hr:Rd w 1 A 2 (strV [kTry,a])) (hcap:2≤cA) :
  Calls Tryz.prog 28 #[ptrV L.R,.agg #[.slice A 2 cA,.string (strB rest)]] w (VPost w L v q (s.ask a .try_)):=by
 have hB:=h.size
 obtain⟨b1,o1,rfl,hb1,hcw⟩:=words_row hr (by decide)
 obtain⟨R,hR⟩:∃ R,R=L.R:=⟨_,rfl⟩
 obtain⟨X0,hX0⟩:∃ X0,X0=strB rest:=⟨_,rfl⟩
 obtain⟨X,hX⟩:∃ X,X=strB s.buf:=⟨_,rfl⟩
 obtain⟨Pq,hPq⟩:∃ Pq:Ending→World→Prop,Pq=(VPost w L v q (s.ask a .try_)):=⟨_,rfl⟩
 obtain⟨N,hN⟩:∃ N,N=strB kTry:=⟨_,rfl⟩
 obtain⟨AR,hAR⟩:∃ AR,AR=strB a:=⟨_,rfl⟩
 have htn:N.toList=kTry:=by rw [hN];exact toList_strBT _
 have tkRead:(N.toList == [114,101,97,100])=false:=by rw [htn];decide
 have ukRead:¬ N.toList=[114,101,97,100]:=by rw [htn];decide
 have tkTry:(N.toList == [116,114,121])=true:=by rw [htn,beq_iff_eq]
 have ukTry:N.toList=[116,114,121]:=htn
 have k0:w.cell? ⟨b1,o1,none⟩=some (.string N):=by rw [hN];exact hcw 0 _ rfl
 have k1:w.cell? ⟨b1,o1+1,none⟩=some (.string AR):=by rw [hAR];exact hcw 1 _ rfl
 have hW:=hid2 (show ∀ w2,Below w.heap.size w w2→w2.cell? ⟨b1,o1,none⟩=some (.string N)∧w2.cell? ⟨b1,o1+1,none⟩=some (.string AR)∧True from fun w2 hb=>⟨(hb.cell (p:=⟨b1,o1,none⟩) hb1).trans k0,(hb.cell (p:=⟨b1,o1+1,none⟩) hb1).trans k1,trivial⟩)
 have cL:=hid2 (fun (W:World) (hb:Below w.heap.size w W)=>show Calls Tryz.prog 36 #[.string X] W fun e w'=>∃ A c,e = .returned (.slice A (linesT s.buf).length c)∧Own w' W.heap.size 9 1 A (linesT s.buf).length c (strV (linesT s.buf))∧Below W.heap.size W w' from by rw [hX];exact lines_any W s.buf (by have:=hf.lim.buf;omega) (hf.lib.on hb))
 have hcb:=hid2 (show ∀ w2,Below w.heap.size w w2→w2.cell? ⟨R,2,none⟩=some (.string X) from fun w2 hb=>by
  obtain⟨_,_,_,hrr⟩:=h
  rw [hX,hR]
  exact ((hrr.below hb).cell 2).1)
 have cA2:=hid2 (fun (w2:World) (hb:Below w.heap.size w w2) (u:Value) (hu:ThenIs w2 R q u .try_)=>show Calls Tryz.prog 39 #[.pointer (some ⟨R,0,none⟩),.string AR,u] w2 fun e w3=>e = .returned (.tuple #[])∧Pq (.returned (.tuple #[])) w3 from by
  have:=ask_any (v:=v) (h.below hb) (hf.below hb) a ha (u:=u) (th:=.try_) (by rw [← hR];exact hu) (.inl rfl)
  rw [ptrV,← hR,← hAR] at this
  refine this.mono fun e w3 k=>⟨k.1,?_⟩
  rw [hPq]
  have:=k.since hb hB
  rw [k.1] at this
  exact this)
 rw [ptrV,← hR,← hX0,← hPq]
 clear hcw htn hR hX0 hX hPq hN hAR hr hB hb1 h hf hrest ha
 go_enter Tryz.func28,Tryz.ntmps28
 go_upto_region 2 with fail
 obtain⟨hmd,hb3⟩:=made_new w R (some ⟨b1,o1,none⟩) 2 cA X0
 obtain⟨W3,hW3⟩:∃ W3,W3=(((w.alloc (.cells #[.pointer (some ⟨R,0,none⟩)] 26)).alloc (.cells #[.slice (some ⟨b1,o1,none⟩) 2 cA,.string X0] 68)).alloc (.cells #[.string ⟨#[]⟩] 9)):=⟨_,rfl⟩
 rw [← hW3] at hmd hb3 ⊢
 have HMD:=hid2 hmd
 have HB3:=hid2 hb3
 have m0:W3.cell? ⟨w.heap.size+1,0,none⟩=some (.slice (some ⟨b1,o1,none⟩) 2 cA):=hmd.c.cell 0
 have m1:=(hW.out W3 hb3).2.1
 have m2:W3.cell? ⟨w.heap.size+1+1,0,none⟩=some (.string ⟨#[]⟩):=hmd.a.cell 0
 have m3:W3.frozen? ⟨w.heap.size+1+1,0,none⟩=false:=frozen_of_row W3 _ 0 _ _ hmd.a
 have hcapi:(2:Int)≤cA:=by omega
 clear hmd hb3 hW3
 go_upto_region 4 with fail
 have hmd4:=HMD.out.arg AR
 have hb4:Below w.heap.size w (W3.setCell ⟨w.heap.size+1+1,0,none⟩ (.string AR)):=HB3.out.setCell (by show w.heap.size≤w.heap.size+1+1;omega) _
 obtain⟨W4,hW4⟩:∃ W4,W4=W3.setCell ⟨w.heap.size+1+1,0,none⟩ (.string AR):=⟨_,rfl⟩
 rw [← hW4] at hmd4 hb4 ⊢
 clear hW4 m0 m1 m2 m3 HMD HB3
 have m0:W4.cell? ⟨w.heap.size,0,none⟩=some (.pointer (some ⟨R,0,none⟩)):=hmd4.r.cell 0
 have m1:=hcb.out W4 hb4
 have HMD:=hid2 hmd4
 have HB4:=hid2 hb4
 clear hmd4 hb4
 go_upto_region 5 with (go_at_call 36; refine (cL.out W4 HB4.out).mono ?_;rintro e w5 ⟨A5,c5,rfl,ho,hb⟩;have HO:=hid2 ho;have hmd5:=HMD.out.below hb;have hb5:=HB4.out.trans (hb.mono HB4.out.size);clear ho hb cL)
 have HMD5:=hid2 (fun (w2:World) (hb:Below w5.heap.size w5 w2)=>hmd5.below hb)
 have HB5:=hid2 (fun (w2:World) (hb:Below w5.heap.size w5 w2)=>hb5.trans (hb.mono hb5.size))
 have p0:w5.cell? ⟨w.heap.size+1,0,none⟩=some (.slice (some ⟨b1,o1,none⟩) 2 cA):=hmd5.c.cell 0
 have p1:=(hW.out w5 hb5).1
 have hc1:(1:Int)≤cA:=by omega
 have HB4S:=hid2 HB4.out.size
 clear m0 m1 hmd5 HMD HB4
 have p2:w5.cell? ⟨w.heap.size,0,none⟩=some (.pointer (some ⟨R,0,none⟩)):=(HMD5.out w5 (Below.refl _ _)).r.cell 0
 have p3:w5.cell? ⟨w.heap.size+1+1,0,none⟩=some (.string AR):=(HMD5.out w5 (Below.refl _ _)).a.cell 0
 have HTH:=hid2 (show ThenIs w5 R q (.func (.func 42) #[] #[.pointer (some ⟨w.heap.size,0,none⟩)]) .try_ from ⟨_,rfl,(HMD5.out w5 (Below.refl _ _)).r⟩)
 go_wp2_with (go_at_call 39; refine (cA2.out w5 (HB5.out w5 (Below.refl _ _)) _ HTH.out).mono ?_;rintro e w6 ⟨rfl,hp⟩;have HP:=hid2 hp;clear hp)
 refine bodyPost_ret (results_none rfl _ _ _) rfl ?_
 exact HP.out
theorem RunAt.newMap {w:World} {L:RLay} {v:Env} {q:Option Nat} {s:PS} {A:Option Addr} {c:Nat} {us:List Value} (h:RunAt w L v q s A c us) (hc:∀ t∈s.todo,t.isCmd=true) {m:Nat} (hm:MapIs w Tryz.prog 9 encB m 0 ([]:Tab Bool)) (hB:L.B≤m) (hne:m≠L.m) :
  RunAt w L v (some m) { s with seen:=[] } A c us∧MapAt w L (some m) { s with seen:=[] }:=by
 have hmap:MapAt w L (some m) { s with seen:=[] }:=⟨m,[],rfl,hB,hne,hm,fun p=>by simp [getM]⟩
 refine⟨⟨h.run,h.base,h.row,fun i t hi=>?_,h.env,h.known,.inr hmap⟩,hmap⟩
 obtain⟨u,h1,h2⟩:=h.tasks i t hi
 refine⟨u,h1,?_⟩
 have:=hc t (List.mem_of_getElem? hi)
 cases t with
 | cmd c=>exact h2
 | ans p th=>cases this
 | line x y=>cases this
set_option maxHeartbeats 8000000 in
theorem do_scan (w:World) (L:RLay) (v:Env) (q:Option Nat) (s:PS) (h:RunIs w L v q s) (hf:Fit w L s) (A:Option Addr) (cA:Nat) (rest:TT) (hrest:rest.length≤1000000) (a:TT) (ha:a.length≤1000000) (b:TT) (hb:b.length≤1000000) (hcm:∀ t∈s.todo,t.isCmd=true) (hr:Rd w 1 A 3 (strV [kScan,a,b])) (hcap:3≤cA) :
  Calls Tryz.prog 28 #[ptrV L.R,.agg #[.slice A 3 cA,.string (strB rest)]] w (fun e w'=>∃ q2,VPost w L v q2 (PS.scan { s with seen:=[] } a b) e w'):=by
 have hB:=h.size
 obtain⟨b1,o1,rfl,hb1,hcw⟩:=words_row hr (by decide)
 obtain⟨R,hR⟩:∃ R,R=L.R:=⟨_,rfl⟩
 obtain⟨X0,hX0⟩:∃ X0,X0=strB rest:=⟨_,rfl⟩
 obtain⟨X,hX⟩:∃ X,X=strB s.buf:=⟨_,rfl⟩
 obtain⟨Pq,hPq⟩:∃ Pq:Ending→World→Prop,Pq=(fun e w'=>∃ q2,VPost w L v q2 (PS.scan { s with seen:=[] } a b) e w'):=⟨_,rfl⟩
 obtain⟨N,hN⟩:∃ N,N=strB kScan:=⟨_,rfl⟩
 obtain⟨AR,hAR⟩:∃ AR,AR=strB a:=⟨_,rfl⟩
 obtain⟨BR,hBR⟩:∃ BR,BR=strB b:=⟨_,rfl⟩
 have htn:N.toList=kScan:=by rw [hN];exact toList_strBT _
 have tkRead:(N.toList == [114,101,97,100])=false:=by rw [htn];decide
 have ukRead:¬ N.toList=[114,101,97,100]:=by rw [htn];decide
 have tkTry:(N.toList == [116,114,121])=false:=by rw [htn];decide
 have ukTry:¬ N.toList=[116,114,121]:=by rw [htn];decide
 have tkScan:(N.toList == [115,99,97,110])=true:=by rw [htn,beq_iff_eq]
 have ukScan:N.toList=[115,99,97,110]:=htn
 have k0:w.cell? ⟨b1,o1,none⟩=some (.string N):=by rw [hN];exact hcw 0 _ rfl
 have k1:w.cell? ⟨b1,o1+1,none⟩=some (.string AR):=by rw [hAR];exact hcw 1 _ rfl
 have k2:w.cell? ⟨b1,o1+2,none⟩=some (.string BR):=by rw [hBR];exact hcw 2 _ rfl
 have hW:=hid2 (show ∀ w2,Below w.heap.size w w2→w2.cell? ⟨b1,o1,none⟩=some (.string N)∧w2.cell? ⟨b1,o1+1,none⟩=some (.string AR)∧w2.cell? ⟨b1,o1+2,none⟩=some (.string BR)∧True from fun w2 hb=>⟨(hb.cell (p:=⟨b1,o1,none⟩) hb1).trans k0,(hb.cell (p:=⟨b1,o1+1,none⟩) hb1).trans k1,(hb.cell (p:=⟨b1,o1+2,none⟩) hb1).trans k2,trivial⟩)
 have cL:=hid2 (fun (W:World) (hb:Below w.heap.size w W)=>show Calls Tryz.prog 36 #[.string X] W fun e w'=>∃ A c,e = .returned (.slice A (linesT s.buf).length c)∧Own w' W.heap.size 9 1 A (linesT s.buf).length c (strV (linesT s.buf))∧Below W.heap.size W w' from by rw [hX];exact lines_any W s.buf (by have:=hf.lim.buf;omega) (hf.lib.on hb))
 have hcb:=hid2 (show ∀ w2,Below w.heap.size w w2→w2.cell? ⟨R,2,none⟩=some (.string X) from fun w2 hb=>by
  obtain⟨_,_,_,hrr⟩:=h
  rw [hX,hR]
  exact ((hrr.below hb).cell 2).1)
 have hml:L.m < w.heap.size:=by
  obtain⟨_,_,_,hr⟩:=h
  obtain⟨_,M,hm,_⟩:=hr.known
  exact hm.lt
 have cS:=hid2 (fun (w2:World) (hb:Below w.heap.size w w2) (m:Nat) (hm:MapIs w2 Tryz.prog 9 encB m 0 ([]:Tab Bool)) (hmb:w.heap.size≤m)=>show Calls Tryz.prog 43 #[.pointer (some ⟨R,0,none⟩),.string AR,.string BR,.map (some m)] w2 fun e w3=>e = .returned (.tuple #[])∧Pq (.returned (.tuple #[])) w3 from by
  obtain⟨Ar,cr,us,hrr⟩:=h
  have h1:=(hrr.below hb).newMap hcm hm (by omega) (by omega)
  have hf2:=hf.below hb
  have:=scan_any w2 L v (some m) { s with seen:=[] } ⟨_,_,_,h1.1⟩ ⟨hf2.lib,hf2.glob,⟨hf2.lim.buf,hf2.lim.tasks,hf2.lim.datas,fun x hx=>(by cases hx),hf2.lim.asks,hf2.lim.less⟩,hf2.todo,by simp,hf2.base,hf2.tabs⟩ h1.2 (by simp) a b ha m rfl
  rw [ptrV,← hR,← hAR,← hBR] at this
  refine this.mono fun e w3 k=>⟨k.1,?_⟩
  rw [hPq]
  have:=k.since hb hB
  rw [k.1] at this
  exact⟨_,this⟩)
 have hcap3:(3:Int)≤cA:=by omega
 rw [ptrV,← hR,← hX0,← hPq]
 clear hcw htn hR hX0 hX hPq hN hAR hBR hr hB hb1 h hf hrest ha hb hcm hml
 go_enter Tryz.func28,Tryz.ntmps28
 go_upto_region 2 with fail
 obtain⟨hmd,hb3⟩:=made_new w R (some ⟨b1,o1,none⟩) 3 cA X0
 obtain⟨W3,hW3⟩:∃ W3,W3=(((w.alloc (.cells #[.pointer (some ⟨R,0,none⟩)] 26)).alloc (.cells #[.slice (some ⟨b1,o1,none⟩) 3 cA,.string X0] 68)).alloc (.cells #[.string ⟨#[]⟩] 9)):=⟨_,rfl⟩
 rw [← hW3] at hmd hb3 ⊢
 have HMD:=hid2 hmd
 have HB3:=hid2 hb3
 have m0:W3.cell? ⟨w.heap.size+1,0,none⟩=some (.slice (some ⟨b1,o1,none⟩) 3 cA):=hmd.c.cell 0
 have m1:=(hW.out W3 hb3).2.1
 have m2:W3.cell? ⟨w.heap.size+1+1,0,none⟩=some (.string ⟨#[]⟩):=hmd.a.cell 0
 have m3:W3.frozen? ⟨w.heap.size+1+1,0,none⟩=false:=frozen_of_row W3 _ 0 _ _ hmd.a
 have hcapi:(2:Int)≤cA:=by omega
 clear hmd hb3 hW3
 go_upto_region 4 with fail
 have hmd4:=HMD.out.arg AR
 have hb4:Below w.heap.size w (W3.setCell ⟨w.heap.size+1+1,0,none⟩ (.string AR)):=HB3.out.setCell (by show w.heap.size≤w.heap.size+1+1;omega) _
 obtain⟨W4,hW4⟩:∃ W4,W4=W3.setCell ⟨w.heap.size+1+1,0,none⟩ (.string AR):=⟨_,rfl⟩
 rw [← hW4] at hmd4 hb4 ⊢
 clear hW4 m0 m1 m2 m3 HMD HB3
 have m0:W4.cell? ⟨w.heap.size,0,none⟩=some (.pointer (some ⟨R,0,none⟩)):=hmd4.r.cell 0
 have m1:=hcb.out W4 hb4
 have HMD:=hid2 hmd4
 have HB4:=hid2 hb4
 clear hmd4 hb4
 go_upto_region 5 with (go_at_call 36; refine (cL.out W4 HB4.out).mono ?_;rintro e w5 ⟨A5,c5,rfl,ho,hb⟩;have HO:=hid2 ho;have hmd5:=HMD.out.below hb;have hb5:=HB4.out.trans (hb.mono HB4.out.size);clear ho hb cL)
 have HMD5:=hid2 (fun (w2:World) (hb:Below w5.heap.size w5 w2)=>hmd5.below hb)
 have HB5:=hid2 (fun (w2:World) (hb:Below w5.heap.size w5 w2)=>hb5.trans (hb.mono hb5.size))
 have p0:w5.cell? ⟨w.heap.size+1,0,none⟩=some (.slice (some ⟨b1,o1,none⟩) 3 cA):=hmd5.c.cell 0
 have p1:=(hW.out w5 hb5).1
 have hc1:(1:Int)≤cA:=by omega
 have HB4S:=hid2 HB4.out.size
 clear m0 m1 hmd5 HMD HB4
 go_upto_region 12 with fail
 refine wp_region_rel 7 (by kernel_rfl) (by kernel_rfl) (by kernel_rfl) _ rfl (by kernel_rfl) (VV [some (.pointer (some ⟨R,0,none⟩)),some (.string AR),some (.pointer (some ⟨w.heap.size+1,0,none⟩)),some (.slice (some ⟨b1,o1,none⟩) 3 cA),some (.pointer (some ⟨b1,o1+2,none⟩)),some (.string BR),none] (fun _ v w2=>∃ m,v = .map (some m)∧MapIs w2 Tryz.prog 9 encB m 0 ([]:Tab Bool)∧w.heap.size≤m)) (fun w2=>Below w5.heap.size w5 w2) (fun a b=>Below a.heap.size a b) ((Below.refl _ w5).drew) (fun j v w1 w2 hb hv=>VV.keep (fun h=>by obtain⟨m,e1,e2,e3⟩:=h;exact⟨m,e1,e2.below hb e2.lt,e3⟩) hv) ?_ ?_
 ·refine of_allOps ⟨?_,?_,?_,?_,?_,?_,?_,trivial⟩
  ·refine⟨rfl,fun T2 w2 hM hN hO hE K hK=>?_⟩
   have o2:T2[2]?=some (.pointer (some ⟨w.heap.size,0,none⟩)):=hO 2 rfl
   clear hE hO hN
   have hc2:w2.cell? ⟨w.heap.size,0,none⟩=some (.pointer (some ⟨R,0,none⟩)):=(HMD5.out w2 hM).r.cell 0
   go_simp
   exact hK _ _ rfl hM (Below.refl _ _)
  ·refine⟨rfl,fun T2 w2 hM hN hO hE K hK=>?_⟩
   have o4:T2[4]?=some (.pointer (some ⟨w.heap.size+1+1,0,none⟩)):=hO 4 rfl
   clear hE hO hN
   have hc2:w2.cell? ⟨w.heap.size+1+1,0,none⟩=some (.string AR):=(HMD5.out w2 hM).a.cell 0
   go_simp
   exact hK _ _ rfl hM (Below.refl _ _)
  ·refine⟨rfl,fun T2 w2 hM hN hO hE K hK=>?_⟩
   have o3:T2[3]?=some (.pointer (some ⟨w.heap.size+1,0,none⟩)):=hO 3 rfl
   clear hE hO hN
   go_simp
   exact hK _ _ rfl hM (Below.refl _ _)
  ·refine⟨rfl,fun T2 w2 hM hN hO hE K hK=>?_⟩
   obtain⟨v2,h2,e2⟩:=hE ⟨2,.data⟩ (by simp) rfl _ _ rfl rfl
   rw [show v2 = .pointer (some ⟨w.heap.size+1,0,none⟩) from e2] at h2
   clear hE hO hN
   have hc2:w2.cell? ⟨w.heap.size+1,0,none⟩=some (.slice (some ⟨b1,o1,none⟩) 3 cA):=(HMD5.out w2 hM).c.cell 0
   go_simp
   exact hK _ _ rfl hM (Below.refl _ _)
  ·refine⟨rfl,fun T2 w2 hM hN hO hE K hK=>?_⟩
   obtain⟨v3,h3,e3⟩:=hE ⟨3,.data⟩ (by simp) rfl _ _ rfl rfl
   rw [show v3 = .slice (some ⟨b1,o1,none⟩) 3 cA from e3] at h3
   clear hE hO hN
   go_simp
   exact hK _ _ rfl hM (Below.refl _ _)
  ·refine⟨rfl,fun T2 w2 hM hN hO hE K hK=>?_⟩
   obtain⟨v4,h4,e4⟩:=hE ⟨4,.data⟩ (by simp) rfl _ _ rfl rfl
   rw [show v4 = .pointer (some ⟨b1,o1+2,none⟩) from e4] at h4
   clear hE hO hN
   have hc2:=(hW.out w2 (HB5.out w2 hM)).2.2.1
   go_simp
   exact hK _ _ rfl hM (Below.refl _ _)
  ·refine⟨rfl,fun T2 w2 hM hN hO hE K hK=>?_⟩
   clear hE hO hN
   go_simp
   exact hK _ _ ⟨_,rfl,MapIs.made w2 Tryz.prog 9 encB,(HB5.out w2 hM).size⟩ (hM.alloc hM.size _) ((Below.refl _ _).alloc (Nat.le_refl _) _)
 ·intro u w2 hM hF
  have e0:u 0 = .pointer (some ⟨R,0,none⟩):=hF 0 (by omega)
  have e1:u 1 = .string AR:=hF 1 (by omega)
  have e5:u 5 = .string BR:=hF 5 (by omega)
  obtain⟨m,e6,hmm,hmb⟩:∃ m,u 6 = .map (some m)∧MapIs w2 Tryz.prog 9 encB m 0 ([]:Tab Bool)∧w.heap.size≤m:=hF 6 (by omega)
  clear hF
  simp only [fillAll,Nat.reduceAdd,e0,e1,e5,e6,List.take_succ_cons,List.take_zero,List.drop_succ_cons,List.drop_zero,List.setIfInBounds_toArray,List.set_cons_succ,List.set_cons_zero]
  have HX4:=hid2 hmm
  have HMM:=hid2 (HB5.out w2 hM)
  clear hmm hM
  go_wp2_with (go_at_call 43; refine (cS.out w2 HMM.out m HX4.out hmb).mono ?_;rintro e w3 ⟨rfl,hp⟩;have HP:=hid2 hp;clear hp)
  refine bodyPost_ret (results_none rfl _ _ _) rfl ?_
  exact HP.out
end Go.Proofs.YtnecjdhamohadaaGreatDoor
