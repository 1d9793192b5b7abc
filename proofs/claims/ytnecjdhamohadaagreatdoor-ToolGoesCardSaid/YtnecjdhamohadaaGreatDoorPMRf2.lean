/- The document's check of a tool's text. -/
import Derived.Test.YtnecjdhamohadaaGreatDoorPMRf1
import Derived.Test.YtnecjdhamohadaaGreatDoorPMPath6
import Derived.Test.YtnecjdhamohadaaGreatDoorPMh
set_option linter.unusedSimpArgs false
set_option linter.unusedVariables false
namespace Go.Proofs.YtnecjdhamohadaaGreatDoor
open Go.RowKit
set_option maxRecDepth 100000
theorem strV_at {l:List TT} {k:Nat} {x:TT} (h:l[k]?=some x):(strV l)[k]?=some (.string (strB x)):=by rw [strV,List.getElem?_map,h];rfl
set_option maxHeartbeats 2000000 in
theorem rpassed_any (w:World) (ws:List TT) (hne:∀ x∈ws,x≠[]) (A:Option Addr) (c:Nat) (hr:Rd w 1 A ws.length (strV ws)) (hl:ws.length≤1000000001) :
  Calls Tryz.prog 31 #[.slice A ws.length c] w fun e w'=>e = .returned (.bool (passedW ws))∧w'=w:=by
 cases ws with
 | nil =>
  show Calls _ _ #[.slice A 0 c] w fun e w'=>e = .returned (.bool true)∧w'=w
  go_enter Tryz.func31,Tryz.ntmps31
  go_wp2_with fail
  go_ret
  exact⟨rfl,rfl⟩
 | cons a r =>
  obtain⟨a0,a1,rfl⟩:∃ a0 a1,a=a0 :: a1:=by cases a with
   | nil=>exact absurd rfl (hne _ (List.mem_cons_self ..))
   | cons x y=>exact⟨x,y,rfl⟩
  have hp:passedW ((a0 :: a1) :: r)=decide (a0=35):=by
   unfold passedW
   rw [Bool.eq_iff_iff]
   simp
  obtain⟨N,hN⟩:∃ N,N=((a0 :: a1) :: r).length:=⟨_,rfl⟩
  rw [← hN] at hr hl ⊢
  have hN0:(0:Int) < N:=by have:0 < N:=(by rw [hN];simp);omega
  obtain⟨b,o,rfl,hc⟩:=hr.2 (by omega)
  have hc0:w.cell? ⟨b,o,none⟩=some (.string (strB (a0 :: a1))):=hc 0 _ rfl
  have hix:∀ (wx:World),(Instr.index 9 (.string (strB (a0 :: a1))) (.int .i64 0)).run Tryz.prog wx = .ok (.int .u8 a0.toNat) wx:=fun wx=>by
   have:=run_index_txt (strB (a0 :: a1)) 0 0 rfl (by rw [strB_size];simp) wx
   rw [strB_list] at this
   exact this
  obtain⟨S,hS⟩:∃ S,S=strB (a0 :: a1):=⟨_,rfl⟩
  rw [← hS] at hc0 hix
  rw [hp]
  obtain⟨res,hres⟩:∃ res,res=decide (a0=35):=⟨_,rfl⟩
  have hre:((a0.toNat:Int) == 35)=res:=by
   rw [hres,Bool.eq_iff_iff,beq_iff_eq,decide_eq_true_eq,← UInt8.toNat_inj]
   have:(35:UInt8).toNat=35:=rfl
   omega
  have hN0b:((N:Int) == 0)=false:=by rw [beq_eq_false_iff_ne];omega
  have hNz:¬ (N:Int)=0:=by omega
  obtain⟨k0,hk0⟩:∃ k,k=a0.toNat:=⟨_,rfl⟩
  rw [← hk0] at hix hre
  rw [← hres]
  have HRE:=hid2 hre
  clear hne hr hc hS hp hres hk0 hN hl
  go_enter Tryz.func31,Tryz.ntmps31
  go_wp2_with fail
  go_ret
  exact⟨by rw [← HRE.out];rfl,rfl⟩
set_option maxHeartbeats 8000000 in
theorem rcommand_any (w:World) (a:TT) (r:List TT) (A:Option Addr) (c:Nat) (hr:Rd w 1 A (r.length+1) (strV (a :: r))) (hl:r.length≤1000000001) (hm:∀ x∈r,x.length≤100000) :
  Calls Tryz.prog 32 #[.slice A (r.length+1) c] w fun e w'=>e = .returned (.bool (okW mayB (a :: r)))∧Below w.heap.size w w':=by
 obtain⟨res,hres⟩:∃ res,res=okW mayB (a :: r):=⟨_,rfl⟩
 obtain⟨N,hN⟩:∃ N,N=r.length+1:=⟨_,rfl⟩
 rw [← hN] at hr ⊢
 rw [← hres]
 have hN0:(0:Int) < N:=by omega
 obtain⟨b,o,rfl,hc⟩:=hr.2 (by omega)
 have hc0:w.cell? ⟨b,o,none⟩=some (.string (strB a)):=hc 0 _ rfl
 have htn:=toList_strBT a
 obtain⟨S,hS⟩:∃ S,S=strB a:=⟨_,rfl⟩
 rw [← hS] at hc0 htn
 have HRES:=hid2 hres
 have HN:=hid2 hN
 rcases r with _ | ⟨r0,r1⟩
 ·
  have hN1:N=1:=hN
  subst hN1
  clear hS hc hr hm hres hN hl
  go_enter Tryz.func32,Tryz.ntmps32
  go_wp2
  all_goals go_ret
  all_goals (rw [HRES.out];refine⟨?_,Below.refl _ _⟩)
  all_goals simp only [beq_iff_eq,beq_eq_false_iff_ne,ne_eq] at *
  all_goals first
   | contradiction
   | (simp [okW,takesT,kRead,kTry,kWrite,kScan,kEnv,kKeep,kNeed,kSort,kUniq,kUpper,kCount,kFail,kText, *];done)
   | skip
 ·have hc1:w.cell? ⟨b,o+1,none⟩=some (.string (strB r0)):=hc 1 _ rfl
  have cM:=refmay_any w (strB r0) (by rw [strB_size];exact hm r0 (List.mem_cons_self ..))
  rw [strB_list] at cM
  obtain⟨m,hmm⟩:∃ m,m=mayB r0:=⟨_,rfl⟩
  rw [← hmm] at cM
  obtain⟨S1,hS1⟩:∃ S,S=strB r0:=⟨_,rfl⟩
  rw [← hS1] at cM hc1
  have CM:=hid2 cM
  have HMM:=hid2 hmm
  rcases r1 with _ | ⟨x1,_ | ⟨x2,r2⟩⟩
  ·
   have hN2:N=2:=hN
   subst hN2
   clear hS hc hr hm hres hN hl cM hmm hS1
   go_enter Tryz.func32,Tryz.ntmps32
   go_wp2_with (go_at_call 51; refine CM.out.mono ?_;rintro e w2 ⟨rfl,hb2⟩)
   all_goals go_ret
   all_goals (rw [HRES.out];refine⟨?_,by first | exact hb2 | exact Below.refl _ _⟩)
   all_goals (have e3:=HMM.out.symm;clear HRES HN CM HMM hc0 hc1 hN0)
   all_goals simp only [beq_iff_eq,beq_eq_false_iff_ne,ne_eq] at *
   all_goals first
    | contradiction
    | (simp [okW,takesT,kRead,kTry,kWrite,kScan,kEnv,kKeep,kNeed,kSort,kUniq,kUpper,kCount,kFail,kText, *];done)
    | skip
  ·
   have hN2:N=3:=hN
   subst hN2
   clear hS hc hr hm hres hN hl cM hmm hS1
   go_enter Tryz.func32,Tryz.ntmps32
   go_wp2_with (go_at_call 51; refine CM.out.mono ?_;rintro e w2 ⟨rfl,hb2⟩)
   all_goals go_ret
   all_goals (rw [HRES.out];refine⟨?_,by first | exact hb2 | exact Below.refl _ _⟩)
   all_goals (have e3:=HMM.out.symm;clear HRES HN CM HMM hc0 hc1 hN0)
   all_goals simp only [beq_iff_eq,beq_eq_false_iff_ne,ne_eq] at *
   all_goals first
    | contradiction
    | (simp [okW,takesT,kRead,kTry,kWrite,kScan,kEnv,kKeep,kNeed,kSort,kUniq,kUpper,kCount,kFail,kText, *];done)
    | skip
  ·
   have hN4:(N:Int)=r2.length+4:=by rw [hN];simp;omega
   have b1:((N:Int) == 1)=false:=by rw [beq_eq_false_iff_ne];omega
   have b2:((N:Int) == 2)=false:=by rw [beq_eq_false_iff_ne];omega
   have b3:((N:Int) == 3)=false:=by rw [beq_eq_false_iff_ne];omega
   have n1:¬ (N:Int)=1:=by omega
   have n2:¬ (N:Int)=2:=by omega
   have n3:¬ (N:Int)=3:=by omega
   clear hN4
   clear hS hc hr hm hres hN hl cM hmm hS1
   go_enter Tryz.func32,Tryz.ntmps32
   go_wp2_with fail
   all_goals go_ret
   all_goals (rw [HRES.out];refine⟨?_,by first | exact hb2 | exact Below.refl _ _⟩)
   all_goals (have e3:=HMM.out.symm;clear HRES HN CM HMM hc0 hc1 hN0 b1 b2 b3 n1 n2 n3)
   all_goals simp only [beq_iff_eq,beq_eq_false_iff_ne,ne_eq] at *
   all_goals first
    | contradiction
    | (simp [okW,takesT,kRead,kTry,kWrite,kScan,kEnv,kKeep,kNeed,kSort,kUniq,kUpper,kCount,kFail,kText, *];done)
    | skip
set_option maxHeartbeats 8000000 in
theorem rcheck_any (w:World) (s:ByteArray) (hs:s.size≤1000000000):Calls Tryz.prog 12 #[.string s] w fun e w'=>e = .returned (.tuple #[.int .i64 (checkT mayB s.data.toList).1,.int .i64 (checkT mayB s.data.toList).2])∧Below w.heap.size w w':=by
 have cL:=rlines_any w s hs
 obtain⟨l,hl⟩:∃ l,l=s.data.toList:=⟨_,rfl⟩
 rw [← hl] at cL ⊢
 have hsz:s.size=l.length:=by rw [hl,toList_length]
 obtain⟨L,hL⟩:∃ L,L=linesT l:=⟨_,rfl⟩
 obtain⟨n,hn⟩:∃ n,n=L.length:=⟨_,rfl⟩
 rw [← hL] at cL
 obtain⟨cr,hcr⟩:∃ cr,cr=checkT mayB l:=⟨_,rfl⟩
 rw [← hcr]
 have hnl:n≤s.size+1:=by rw [hn,hL,hsz];exact linesT_len l
 have cL2:Calls Tryz.prog 29 #[.string s] w fun e w'=>∃ A c,e = .returned (.slice A n c)∧Own w' w.heap.size 9 1 A n c (strV L)∧Below w.heap.size w w':=by
  rw [hn]
  exact cL
 have CL:=hid2 cL2
 have HCR:=hid2 hcr
 have HL:=hid2 hL
 have HN:=hid2 hn
 have HSZ:=hid2 hsz
 have hsi:(s.size:Int)≤1000000000:=by omega
 have hni:(n:Int)≤1000000001:=by omega
 clear hl cL cL2 hcr hL hn hs
 by_cases hbig:65536 < s.size
 ·have hb1:(65536:Int) < s.size:=by omega
  have hc6:cr=(6,0):=by rw [HCR.out,checkT,if_pos (.inl (by rw [← HSZ.out];exact hbig))]
  subst hc6
  clear hsz hbig
  go_enter Tryz.func12,Tryz.ntmps12
  go_wp2_with (go_at_call 29; refine CL.out.mono ?_;rintro e w1 ⟨A,c,rfl,ho,hb⟩;have HB:=hid2 hb;clear ho hb)
  go_ret2
  exact⟨rfl,HB.out⟩
 ·have hb1:¬ (65536:Int) < s.size:=by omega
  by_cases hmany:400 < n
  ·have hb2:(400:Int) < n:=by omega
   have hc6:cr=(6,0):=by rw [HCR.out,checkT,if_pos (.inr (by rw [← HL.out,← HN.out];exact hmany))]
   subst hc6
   clear hsz hbig hmany
   go_enter Tryz.func12,Tryz.ntmps12
   go_wp2_with (go_at_call 29; refine CL.out.mono ?_;rintro e w1 ⟨A,c,rfl,ho,hb⟩;have HB:=hid2 hb;clear ho hb)
   go_ret2
   exact⟨rfl,HB.out⟩
  ·have hb2:¬ (400:Int) < n:=by omega
   have hcb:cr=badL mayB L 0:=by rw [HCR.out,checkT,if_neg (by rw [← HSZ.out,← HL.out,← HN.out];omega),← HL.out]
   have HCB:=hid2 hcb
   have HLS:=hid2 (show ∀ x∈L,x.length≤65536 from fun x hx=>by
    rw [HL.out] at hx
    have:=linesT_le hx
    have:=HSZ.out
    omega)
   clear hsz hbig hmany hcb
   go_enter Tryz.func12,Tryz.ntmps12
   go_wp2_with (go_at_call 29; refine CL.out.mono ?_;rintro e w1 ⟨A,c,rfl,ho,hb⟩;have HB:=hid2 hb;have HO:=hid2 ho.rd;clear ho hb)
   go_loopg [5] n (fun gk iv wr=>Below w1.heap.size w1 wr∧∃ i:Nat,i+gk=n∧iv = .int .i64 i∧cr=badL mayB (L.drop i) i)
   case atStart=>exact⟨Below.refl _ _,0,by omega,rfl,HCB.out⟩
   case round =>
    obtain⟨hbe,i,hi,rfl,hcb⟩:=hrel
    have HBE:=hid2 hbe
    have HI:=hid2 hi
    by_cases hlt:i < n
    ·have hil:(i:Int) < n:=by omega
     have hi0:(0:Int)≤i:=by omega
     have hiL:i < L.length:=by rw [← HN.out];exact hlt
     obtain⟨x,hx⟩:∃ x,L[i]?=some x:=⟨_,List.getElem?_eq_getElem hiL⟩
     have hxe:L[i]'hiL=x:=by rw [List.getElem?_eq_getElem hiL] at hx;exact Option.some.inj hx
     rw [List.drop_eq_getElem_cons hiL,hxe,badL,readC_eq] at hcb
     obtain⟨b,o,rfl,hc⟩:=(HO.out.below_all hbe).2 (by omega)
     have hcx:=hc _ _ (strV_at hx)
     have hxl:=HLS.out x (List.mem_of_getElem? hx)
     have cW:=fun (W:World)=>rwords_any W (strB x) (by rw [strB_size];omega)
     rw [strB_list] at cW
     obtain⟨SX,hSX⟩:∃ S,S=strB x:=⟨_,rfl⟩
     rw [← hSX] at cW hcx
     obtain⟨ws,hws⟩:∃ ws,ws=wordsT x:=⟨_,rfl⟩
     rw [← hws] at cW hcb
     have hwl:ws.length≤65537:=by rw [hws];have:=wordsT_len x;omega
     have hwm:∀ y∈ws,y≠[]∧y.length≤65536:=fun y hy=>by
      rw [hws] at hy
      obtain⟨m1,_,m2⟩:=wordsT_mem hy
      exact⟨m1,by omega⟩
     obtain⟨wn,hwn⟩:∃ n,n=ws.length:=⟨_,rfl⟩
     have cW2:∀ W,Calls Tryz.prog 30 #[.string SX] W fun e w'=>∃ A c,e = .returned (.slice A wn c)∧Rd w' 1 A wn (strV ws)∧Below W.heap.size W w':=fun W=>by
      rw [hwn]
      refine (cW W).mono fun e w' k=>?_
      obtain⟨A,c,e1,e2,e3⟩:=k
      exact⟨A,c,e1,e2.rd,e3⟩
     have cP:∀ W A c,Rd W 1 A wn (strV ws)→Calls Tryz.prog 31 #[.slice A wn c] W fun e w'=>e = .returned (.bool (passedW ws))∧w'=W:=fun W A c hr=>by
      rw [hwn] at hr ⊢
      exact rpassed_any W ws (fun y hy=>(hwm y hy).1) A c hr (by omega)
     have cC:ws≠[]→∀ W A c,Rd W 1 A wn (strV ws)→Calls Tryz.prog 32 #[.slice A wn c] W fun e w'=>e = .returned (.bool (okW mayB ws))∧Below W.heap.size W w':=fun hne W A c hr=>by
      rw [hwn] at hr ⊢
      rcases ws with _ | ⟨a,r⟩
      ·exact absurd rfl hne
      ·exact rcommand_any W a r A c hr (by have:=hwl;simp at this;omega) (fun y hy=>by have:=(hwm y (List.mem_cons_of_mem _ hy)).2;omega)
     have CW:=hid2 cW2
     by_cases hp:passedW ws=true
     ·rw [hp] at cP hcb
      simp only [cond_true] at hcb
      have CP:=hid2 cP
      have HCB2:=hid2 hcb
      clear hbe hi hcb hx hxe hc hxl cW hSX hws hwl hwm hwn cW2 cP cC hp hiL
      go_wp2_with (first
       | (go_at_call 30; refine (CW.out _).mono ?_;rintro e w2 ⟨AW,cw,rfl,hr,hb⟩;have HRW:=hid2 hr;have HBW:=hid2 hb;clear hr hb CW)
       | (go_at_call 31; refine (CP.out _ _ _ HRW.out).mono ?_;rintro e w3 ⟨rfl,rfl⟩;clear CP))
      go_roundg (gk - 1)
      case rel=>exact⟨HBE.out.trans (HBW.out.mono HBE.out.size),i+1,by have:=HI.out;omega,by go_num,HCB2.out⟩
      case measure=>have:=HI.out;omega
     ·have hpf:passedW ws=false:=by simpa using hp
      have hne:ws≠[]:=fun e=>by rw [e] at hpf;cases hpf
      have cC2:=cC hne
      rw [hpf] at cP hcb
      by_cases hok:okW mayB ws=true
      ·rw [hok] at cC2 hcb
       simp only [cond_false,cond_true] at hcb
       have CP:=hid2 cP
       have CC:=hid2 cC2
       have HCB2:=hid2 hcb
       clear hbe hi hcb hx hxe hc hxl cW hSX hws hwl hwm hwn cW2 cP cC hp hpf hne cC2 hok hiL
       go_wp2_with (first
        | (go_at_call 30; refine (CW.out _).mono ?_;rintro e w2 ⟨AW,cw,rfl,hr,hb⟩;have HRW:=hid2 hr;have HBW:=hid2 hb;clear hr hb CW)
        | (go_at_call 31; refine (CP.out _ _ _ HRW.out).mono ?_;rintro e w3 ⟨rfl,rfl⟩;clear CP)
        | (go_at_call 32; refine (CC.out _ _ _ HRW.out).mono ?_;rintro e w4 ⟨rfl,hb⟩;have HB4:=hid2 hb;clear hb CC))
       go_roundg (gk - 1)
       case rel=>exact⟨(HBE.out.trans (HBW.out.mono HBE.out.size)).trans (HB4.out.mono (Nat.le_trans HBE.out.size HBW.out.size)),i+1,by have:=HI.out;omega,by go_num,HCB2.out⟩
       case measure=>have:=HI.out;omega
      ·have hof:okW mayB ws=false:=by simpa using hok
       rw [hof] at cC2 hcb
       simp only [cond_false] at hcb
       have CP:=hid2 cP
       have CC:=hid2 cC2
       have hw1:IntKind.i64.wrap ((i:Int)+1)=(i:Int)+1:=IntWalk.i64_in _ (by constructor <;> omega)
       have HCB2:=hid2 hcb
       clear hbe hi hcb hx hxe hc hxl cW hSX hws hwl hwm hwn cW2 cP cC hp hpf hne cC2 hok hof hiL
       go_wp2_with (first
        | (go_at_call 30; refine (CW.out _).mono ?_;rintro e w2 ⟨AW,cw,rfl,hr,hb⟩;have HRW:=hid2 hr;have HBW:=hid2 hb;clear hr hb CW)
        | (go_at_call 31; refine (CP.out _ _ _ HRW.out).mono ?_;rintro e w3 ⟨rfl,rfl⟩;clear CP)
        | (go_at_call 32; refine (CC.out _ _ _ HRW.out).mono ?_;rintro e w4 ⟨rfl,hb⟩;have HB4:=hid2 hb;clear hb CC))
       have hbf:=HB.out.trans ((HBE.out.trans ((HBW.out.mono HBE.out.size).trans (HB4.out.mono (Nat.le_trans HBE.out.size HBW.out.size)))).mono HB.out.size)
       go_ret2
       exact⟨by rw [HCB2.out];rfl,hbf⟩
    ·have hil:¬ (i:Int) < n:=by omega
     have hd:L.drop i=[]:=List.drop_of_length_le (by rw [← HN.out];omega)
     rw [hd] at hcb
     have hc0:cr=(0,0):=hcb
     have HC0:=hid2 hc0
     clear hbe hi hcb hd hc0
     go_wp2_with fail
     go_ret2
     exact⟨by rw [HC0.out];rfl,HB.out.trans (HBE.out.mono HB.out.size)⟩
end Go.Proofs.YtnecjdhamohadaaGreatDoor
