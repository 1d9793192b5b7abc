/- The document's run of a tool: the buffer turned. -/
import Derived.Test.YtnecjdhamohadaaGreatDoorPMu
import Derived.Test.YtnecjdhamohadaaGreatDoorPMRf2
import Derived.Test.YtnecjdhamohadaaGreatDoorPMRg2
import Derived.Test.YtnecjdhamohadaaGreatDoorPMRg3
import Derived.Test.YtnecjdhamohadaaGreatDoorPMRg4
set_option linter.unusedSimpArgs false
set_option linter.unusedVariables false
namespace Go.Proofs.YtnecjdhamohadaaGreatDoor
open Go.RowKit Go.Maps Go.Shelf
set_option maxRecDepth 100000
theorem rlines_n (w:World) (S:ByteArray) (hs:S.size≤1000000000) (L:List TT) (hL:L=linesT S.data.toList) (n:Nat) (hn:n=L.length):Calls Tryz.prog 29 #[.string S] w fun e w'=>∃ A c,e = .returned (.slice A n c)∧Own w' w.heap.size 9 1 A n c (strV L)∧Below w.heap.size w w':=by
 rw [hn,hL]
 exact rlines_any w S hs
theorem rwhole_n (w:World) (A:Option Addr) (c:Nat) (l:List TT) (n:Nat) (hn:n=l.length) (hl:n≤1000000000) (hz:(wholeT l).length≤100000000000) (hr:Rd w 1 A n (strV l)) :
  Calls Tryz.prog 57 #[.slice A n c] w fun e w'=>e = .returned (.string (strB (wholeT l)))∧w'=w:=by
 subst hn
 exact rwhole_any w A c l hl hz hr
theorem rsorted_n (w:World) (A:Option Addr) (c:Nat) (l:List TT) (n:Nat) (hn:n=l.length) (hl:n≤1000000000) (hr:Rd w 1 A n (strV l)) :
  Calls Tryz.prog 82 #[.slice A n c] w fun e w'=>∃ A c,e = .returned (.slice A n c)∧Rd w' 1 A n (strV (sortT l))∧Below w.heap.size w w':=by
 subst hn
 refine (rsorted_any w A c l hl hr).mono fun e w' h=>?_
 obtain⟨A2,c2,h1,h2,h3⟩:=h
 rw [sortT_length] at h1 h2
 exact⟨A2,c2,h1,h2.rd,h3⟩
set_option maxHeartbeats 8000000 in
theorem rturned_sort (w:World) (nm:TT) (hk:nm=kSort) (S:ByteArray) (hs:S.size≤65536) :
  Calls Tryz.prog 58 #[.string (strB nm),.string S] w fun e w'=>e = .returned (.string (strB (turnedR nm S.data.toList)))∧Below w.heap.size w w':=by
 obtain⟨L,hL⟩:∃ L,L=linesT S.data.toList:=⟨_,rfl⟩
 obtain⟨n,hn⟩:∃ n,n=L.length:=⟨_,rfl⟩
 have cL:=rlines_n w S (by omega) L hL n hn
 have hnl:n≤65537:=by
  rw [hn,hL]
  have:=linesT_len S.data.toList
  have e:S.data.toList.length=S.size:=toList_length S
  omega
 have hwl:(wholeT L).length≤65537:=by
  rw [hL]
  have:=wholeT_lines S.data.toList
  have e:S.data.toList.length=S.size:=toList_length S
  omega
 have htn:=toList_strBT nm
 obtain⟨R,hR⟩:∃ R,R=turnedR nm S.data.toList:=⟨_,rfl⟩
 rw [← hR]
 obtain⟨N,hN⟩:∃ N,N=strB nm:=⟨_,rfl⟩
 rw [← hN] at htn ⊢
 have tkSort:(N.toList == [115,111,114,116])=true:=by rw [htn,beq_iff_eq,hk]
 have ukSort:N.toList=[115,111,114,116]:=by rw [htn,hk]
 have cS:=fun (W:World) (A:Option Addr) (c:Nat) (hr:Rd W 1 A n (strV L))=>rsorted_n W A c L n hn (by omega) hr
 have cW:=fun (W:World) (A:Option Addr) (c:Nat) (hr:Rd W 1 A n (strV (sortT L)))=>rwhole_n W A c (sortT L) n (by rw [sortT_length];exact hn) (by omega) (by rw [wholeT_sort];omega) hr
 have hRe:R=wholeT (sortT L):=by rw [hR,turnedR,if_pos hk,hL]
 rw [← hRe] at cW
 have CL:=hid2 cL
 have CS:=hid2 cS
 have CW:=hid2 cW
 clear cL cS cW hRe hR hN hn hL htn hk hwl hnl
 go_enter Tryz.func58,Tryz.ntmps58
 go_wp2_with (first
  | (go_at_call 29; refine CL.out.mono ?_;rintro e w1 ⟨A,c,rfl,ho,hb⟩;have HO:=hid2 ho;have HB:=hid2 hb;clear ho hb)
  | (go_at_call 82; refine (CS.out w1 A c HO.out.rd).mono ?_;rintro e w2 ⟨A2,c2,rfl,hr,hb⟩;have HR2:=hid2 hr;have HB2:=hid2 hb;clear hr hb)
  | (go_at_call 57; refine (CW.out w2 A2 c2 HR2.out).mono ?_;rintro e w3 ⟨rfl,rfl⟩))
 refine bodyPost_ret (results_tmp rfl _ _ _) rfl ?_
 exact⟨rfl,HB.out.trans (HB2.out.mono HB.out.size)⟩
set_option maxHeartbeats 8000000 in
theorem rturned_count (w:World) (nm:TT) (hk:nm=kCount) (S:ByteArray) (hs:S.size≤65536) :
  Calls Tryz.prog 58 #[.string (strB nm),.string S] w fun e w'=>e = .returned (.string (strB (turnedR nm S.data.toList)))∧Below w.heap.size w w':=by
 obtain⟨L,hL⟩:∃ L,L=linesT S.data.toList:=⟨_,rfl⟩
 obtain⟨n,hn⟩:∃ n,n=L.length:=⟨_,rfl⟩
 have cL:=rlines_n w S (by omega) L hL n hn
 have hnl:n≤65537:=by
  rw [hn,hL]
  have:=linesT_len S.data.toList
  have e:S.data.toList.length=S.size:=toList_length S
  omega
 have hwl:(wholeT L).length≤65537:=by
  rw [hL]
  have:=wholeT_lines S.data.toList
  have e:S.data.toList.length=S.size:=toList_length S
  omega
 have htn:=toList_strBT nm
 obtain⟨R,hR⟩:∃ R,R=turnedR nm S.data.toList:=⟨_,rfl⟩
 rw [← hR]
 obtain⟨N,hN⟩:∃ N,N=strB nm:=⟨_,rfl⟩
 rw [← hN] at htn ⊢
 have tkSort:(N.toList == [115,111,114,116])=false:=by rw [htn,hk];decide
 have ukSort:¬ N.toList=[115,111,114,116]:=by rw [htn,hk];decide
 have tkUniq:(N.toList == [117,110,105,113])=false:=by rw [htn,hk];decide
 have ukUniq:¬ N.toList=[117,110,105,113]:=by rw [htn,hk];decide
 have tkCount:(N.toList == [99,111,117,110,116])=true:=by rw [htn,beq_iff_eq,hk]
 have ukCount:N.toList=[99,111,117,110,116]:=by rw [htn,hk]
 have cD:=rdigits_any n (by omega)
 have hdl:=dec_short n (by omega)
 have hRe:R=Lib.decDigits n++[10]:=by
  rw [hR,turnedR,hk,← hL,← hn]
  rfl
 have hcat:strB (Lib.decDigits n)++⟨#[10]⟩=strB R:=by rw [hRe];exact strB_append _ [10]
 obtain⟨D,hD⟩:∃ D,D=strB (Lib.decDigits n):=⟨_,rfl⟩
 obtain⟨Z,hZ⟩:∃ Z,Z=strB R:=⟨_,rfl⟩
 have hDs:D.size≤20:=by rw [hD,strB_size];exact hdl
 have hDi:¬ (D.size+1 > 9223372036854775807):=by omega
 rw [← hD] at cD hcat
 rw [← hZ] at hcat ⊢
 have CL:=hid2 cL
 have CD:=hid2 cD
 clear cL cD hRe hR hN hn hL htn hk hwl hnl hD hZ hdl hDs
 go_enter Tryz.func58,Tryz.ntmps58
 go_wp2_with (first
  | (go_at_call 29; refine CL.out.mono ?_;rintro e w1 ⟨A,c,rfl,ho,hb⟩;have HO:=hid2 ho;have HB:=hid2 hb;clear ho hb)
  | (go_at_call 83; refine (CD.out w1).mono ?_;rintro e w2 ⟨rfl,hb⟩;have HB2:=hid2 hb;clear hb))
 refine bodyPost_ret (results_tmp rfl _ _ _) rfl ?_
 exact⟨rfl,HB.out.trans (HB2.out.mono HB.out.size)⟩
theorem uniq_more {l:List TT} {i:Nat} {x:TT} (hx:l[i]?=some x) (hk:i=0∨∃ y,l[i - 1]?=some y∧x≠y):Lib.compactUpTo l.toArray (i+1)=Lib.compactUpTo l.toArray i++[x]:=by
 obtain⟨hi,rfl⟩:=List.getElem?_eq_some_iff.1 hx
 have hd:l.toArray[i]! = l[i]:=by simp [getElem!_pos,hi]
 have hke:Lib.keeps l.toArray i=true:=by
  unfold Lib.keeps
  rw [decide_eq_true_eq]
  rcases hk with h | ⟨y,hy,hne⟩
  ·exact .inl h
  ·obtain⟨hj,rfl⟩:=List.getElem?_eq_some_iff.1 hy
   have hd2:l.toArray[i - 1]! = l[i - 1]:=by simp [getElem!_pos,hj]
   rw [hd,hd2]
   exact .inr hne
 rw [Lib.compactUpTo_succ,if_pos hke,hd]
theorem uniq_same {l:List TT} {i:Nat} {x:TT} (hi0:i≠0) (hx:l[i]?=some x) (hy:l[i - 1]?=some x):Lib.compactUpTo l.toArray (i+1)=Lib.compactUpTo l.toArray i:=by
 obtain⟨hi,hxe⟩:=List.getElem?_eq_some_iff.1 hx
 obtain⟨hj,hye⟩:=List.getElem?_eq_some_iff.1 hy
 have hd:l.toArray[i]! = l[i]:=by simp [getElem!_pos,hi]
 have hd2:l.toArray[i - 1]! = l[i - 1]:=by simp [getElem!_pos,hj]
 have hke:Lib.keeps l.toArray i=false:=by
  unfold Lib.keeps
  rw [decide_eq_false_iff_not,hd,hd2,hxe,hye]
  simp [hi0]
 rw [Lib.compactUpTo_succ,hke]
 simp
theorem uniq_len (l:List TT):∀ i,(Lib.compactUpTo l.toArray i).length≤i
 | 0=>by simp [Lib.compactUpTo]
 | i+1=>by
  have:=uniq_len l i
  rw [Lib.compactUpTo_succ]
  split <;> simp <;> omega
set_option maxHeartbeats 8000000 in
theorem rturned_uniq (w:World) (nm:TT) (hk:nm=kUniq) (S:ByteArray) (hs:S.size≤65536) :
  Calls Tryz.prog 58 #[.string (strB nm),.string S] w fun e w'=>e = .returned (.string (strB (turnedR nm S.data.toList)))∧Below w.heap.size w w':=by
 obtain⟨L,hL⟩:∃ L,L=linesT S.data.toList:=⟨_,rfl⟩
 obtain⟨n,hn⟩:∃ n,n=L.length:=⟨_,rfl⟩
 have cL:=rlines_n w S (by omega) L hL n hn
 have hnl:n≤65537:=by
  rw [hn,hL]
  have:=linesT_len S.data.toList
  have e:S.data.toList.length=S.size:=toList_length S
  omega
 have hwl:(wholeT L).length≤65537:=by
  rw [hL]
  have:=wholeT_lines S.data.toList
  have e:S.data.toList.length=S.size:=toList_length S
  omega
 have htn:=toList_strBT nm
 obtain⟨R,hR⟩:∃ R,R=turnedR nm S.data.toList:=⟨_,rfl⟩
 rw [← hR]
 obtain⟨N,hN⟩:∃ N,N=strB nm:=⟨_,rfl⟩
 rw [← hN] at htn ⊢
 have tkSort:(N.toList == [115,111,114,116])=false:=by rw [htn,hk];decide
 have ukSort:¬ N.toList=[115,111,114,116]:=by rw [htn,hk];decide
 have tkUniq:(N.toList == [117,110,105,113])=true:=by rw [htn,beq_iff_eq,hk]
 have ukUniq:N.toList=[117,110,105,113]:=by rw [htn,hk]
 have cW:=fun (W:World) (A:Option Addr) (c m:Nat) (U:List TT) (hm:m=U.length) (hU:U=uniqT L) (hr:Rd W 1 A m (strV U))=>rwhole_n W A c U m hm (by rw [hm,hU];have:=(compact_sub L).length_le;unfold uniqT;omega) (by rw [hU];have:=wholeT_sub (compact_sub L);unfold uniqT;omega) hr
 have hRe:R=wholeT (uniqT L):=by
  rw [hR,turnedR,hk,← hL]
  rfl
 have HRE:=hid2 hRe
 have CL:=hid2 cL
 have CW:=hid2 cW
 have HN:=hid2 hn
 have hlim:(n:Int)≤65537:=by omega
 clear cL cW hRe hR hN hn hL htn hk hwl hnl
 go_enter Tryz.func58,Tryz.ntmps58
 go_wp2_with (go_at_call 29; refine CL.out.mono ?_;rintro e w1 ⟨A,c,rfl,ho,hb⟩;have HO:=hid2 ho;have HB:=hid2 hb;clear ho hb)
 go_loopg [6,7] n (fun gk ov iv wr=>Below w1.heap.size w1 wr∧∃ (i k:Nat) (AO:Option Addr) (co:Nat),i+gk=n∧iv = .int .i64 i∧ov = .slice AO k co∧k=(Lib.compactUpTo L.toArray i).length∧Own wr w1.heap.size 9 1 AO k co (strV (Lib.compactUpTo L.toArray i)))
 case atStart=>exact⟨Below.refl _ _,0,0,none,0,by omega,rfl,rfl,by simp [Lib.compactUpTo],by simpa [Lib.compactUpTo,strV] using Own.nil _ _ _ _⟩
 case round =>
  obtain⟨hbe,i,k,AO,co,hi,rfl,rfl,hk,hown⟩:=hrel
  have HBE:=hid2 hbe
  have HI:=hid2 hi
  have HK:=hid2 hk
  by_cases hlt:i < n
  ·have hil:(i:Int) < n:=by omega
   have hi0:(0:Int)≤i:=by omega
   have hki:k≤i:=by rw [hk];exact uniq_len L i
   obtain⟨x,hx⟩:∃ x,L[i]?=some x:=⟨_,List.getElem?_eq_getElem (by rw [← HN.out];exact hlt)⟩
   obtain⟨b1,o1,hA,hcell⟩:=(HO.out.rd.below_all hbe).2 (by omega)
   subst hA
   have hcx:=hcell _ _ (strV_at hx)
   have hblt:b1 < wr.heap.size:=World.block_lt_of_cell? _ _ hcx
   have HX:=hid2 hx
   have htx:=toList_strBT x
   obtain⟨SX,hSX⟩:∃ S,S=strB x:=⟨_,rfl⟩
   rw [← hSX] at hcx htx
   have HOW:=hid2 hown
   obtain⟨V,hV⟩:∃ V,V=strV (Lib.compactUpTo L.toArray i):=⟨_,rfl⟩
   rw [← hV] at HOW
   have HVE:=hid2 hV
   have hone:∀ u∈[Value.string SX],u.oneCell'=true:=one_str
   by_cases hiz:i=0
   ·have hib:((i:Int) == 0)=true:=by rw [beq_iff_eq];omega
    have hie:(i:Int)=0:=by omega
    have HC:=hid2 (show ∀ w2,Below wr.heap.size wr w2→w2.cell? ⟨b1,o1+i,none⟩=some (.string SX)∧True from fun w2 hb=>⟨(hb.cell (p:=⟨b1,o1+i,none⟩) hblt).trans hcx,trivial⟩)
    have HF:=hid2 (uniq_more hx (.inl hiz))
    have HV:=hid2 (show V++[Value.string SX]=strV (Lib.compactUpTo L.toArray i++[x]) from by rw [hV,hSX,strV_snoc])
    have HIE:=hid2 hie
    clear hbe hi hk hcell hx hiz hown hcx hblt htx hSX hV hie
    go_wp2_with fail
    refine wp_region_grd 14 (by kernel_rfl) (by kernel_rfl) (by kernel_rfl) _ rfl (by kernel_rfl) (VV [some (.int .i64 (i:Nat)),some (.bool true),some (.bool true),some (undef),some (undef),some (undef),some (undef),some (undef),some (undef),some (undef),some (undef),some (undef),some (undef),some (.bool true)] (fun _ _ _=>False)) (fun w2=>Below wr.heap.size wr w2) (fun a b=>Below a.heap.size a b) ((Below.refl _ wr).drew) (fun j v w1 w2 hb hv=>VV.keep (fun h=>h.elim) hv) ?_ ?_
    ·refine of_allOps ⟨?_,?_,?_,?_,?_,?_,?_,?_,?_,?_,?_,?_,?_,?_,trivial⟩
     ·intro T2 w2 hM hN hO hE K hK
      have o7:T2[7]?=some (.int .i64 (i:Nat)):=hO 7 rfl
      clear hE hO hN
      refine step_plain0 rfl ?_
      go_simp
      exact hK _ _ rfl hM (Below.refl _ _)
     ·intro T2 w2 hM hN hO hE K hK
      obtain⟨v0,h0,e0⟩:=hE ⟨0,.data⟩ (by simp) rfl _ _ rfl rfl
      rw [show v0 = .int .i64 (i:Nat) from e0] at h0
      clear hE hO hN
      refine step_plain0 rfl ?_
      go_simp
      exact hK _ _ rfl hM (Below.refl _ _)
     ·intro T2 w2 hM hN hO hE K hK
      obtain⟨v1,h1,e1⟩:=hE ⟨1,.data⟩ (by simp) rfl _ _ rfl rfl
      rw [show v1 = .bool true from e1] at h1
      clear hE hO hN
      refine step_plain0 rfl ?_
      go_simp
      exact hK _ _ rfl hM (Below.refl _ _)
     ·intro T2 w2 hM hN hO hE K hK
      obtain⟨v2,h2,e2⟩:=hE ⟨2,.guard⟩ (by simp) rfl _ _ rfl rfl
      rw [show v2 = .bool true from e2] at h2
      clear hE hO hN
      refine grd_not rfl rfl rfl h2 (by decide) ?_
      exact hK _ _ rfl hM (Below.refl _ _)
     ·intro T2 w2 hM hN hO hE K hK
      obtain⟨v2,h2,e2⟩:=hE ⟨2,.guard⟩ (by simp) rfl _ _ rfl rfl
      rw [show v2 = .bool true from e2] at h2
      clear hE hO hN
      refine grd_not rfl rfl rfl h2 (by decide) ?_
      exact hK _ _ rfl hM (Below.refl _ _)
     ·intro T2 w2 hM hN hO hE K hK
      obtain⟨v2,h2,e2⟩:=hE ⟨2,.guard⟩ (by simp) rfl _ _ rfl rfl
      rw [show v2 = .bool true from e2] at h2
      clear hE hO hN
      refine grd_not rfl rfl rfl h2 (by decide) ?_
      exact hK _ _ rfl hM (Below.refl _ _)
     ·intro T2 w2 hM hN hO hE K hK
      obtain⟨v2,h2,e2⟩:=hE ⟨2,.guard⟩ (by simp) rfl _ _ rfl rfl
      rw [show v2 = .bool true from e2] at h2
      clear hE hO hN
      refine grd_not rfl rfl rfl h2 (by decide) ?_
      exact hK _ _ rfl hM (Below.refl _ _)
     ·intro T2 w2 hM hN hO hE K hK
      obtain⟨v2,h2,e2⟩:=hE ⟨2,.guard⟩ (by simp) rfl _ _ rfl rfl
      rw [show v2 = .bool true from e2] at h2
      clear hE hO hN
      refine grd_not rfl rfl rfl h2 (by decide) ?_
      exact hK _ _ rfl hM (Below.refl _ _)
     ·intro T2 w2 hM hN hO hE K hK
      obtain⟨v2,h2,e2⟩:=hE ⟨2,.guard⟩ (by simp) rfl _ _ rfl rfl
      rw [show v2 = .bool true from e2] at h2
      clear hE hO hN
      refine grd_not rfl rfl rfl h2 (by decide) ?_
      exact hK _ _ rfl hM (Below.refl _ _)
     ·intro T2 w2 hM hN hO hE K hK
      obtain⟨v2,h2,e2⟩:=hE ⟨2,.guard⟩ (by simp) rfl _ _ rfl rfl
      rw [show v2 = .bool true from e2] at h2
      clear hE hO hN
      refine grd_not rfl rfl rfl h2 (by decide) ?_
      exact hK _ _ rfl hM (Below.refl _ _)
     ·intro T2 w2 hM hN hO hE K hK
      obtain⟨v2,h2,e2⟩:=hE ⟨2,.guard⟩ (by simp) rfl _ _ rfl rfl
      rw [show v2 = .bool true from e2] at h2
      clear hE hO hN
      refine grd_not rfl rfl rfl h2 (by decide) ?_
      exact hK _ _ rfl hM (Below.refl _ _)
     ·intro T2 w2 hM hN hO hE K hK
      obtain⟨v2,h2,e2⟩:=hE ⟨2,.guard⟩ (by simp) rfl _ _ rfl rfl
      rw [show v2 = .bool true from e2] at h2
      clear hE hO hN
      refine grd_not rfl rfl rfl h2 (by decide) ?_
      exact hK _ _ rfl hM (Below.refl _ _)
     ·intro T2 w2 hM hN hO hE K hK
      obtain⟨v2,h2,e2⟩:=hE ⟨2,.guard⟩ (by simp) rfl _ _ rfl rfl
      rw [show v2 = .bool true from e2] at h2
      clear hE hO hN
      refine grd_not rfl rfl rfl h2 (by decide) ?_
      exact hK _ _ rfl hM (Below.refl _ _)
     ·intro T2 w2 hM hN hO hE K hK
      obtain⟨v2,h2,e2⟩:=hE ⟨2,.data⟩ (by simp) rfl _ _ rfl rfl
      rw [show v2 = .bool true from e2] at h2
      obtain⟨v12,h12,e12⟩:=hE ⟨12,.data⟩ (by simp) rfl _ _ rfl rfl
      rw [show v12=undef from e12] at h12
      clear hE hO hN
      refine step_plain0 rfl ?_
      go_simp
      exact hK _ _ rfl hM (Below.refl _ _)
    ·intro u w4 hM hF
     have e13:u 13 = .bool true:=hF 13 (by omega)
     clear hF
     simp only [fillAll,Nat.reduceAdd,e13,List.take_succ_cons,List.take_zero,List.drop_succ_cons,List.drop_zero,List.setIfInBounds_toArray,List.set_cons_succ,List.set_cons_zero]
     obtain⟨HBE4,hown4,h1⟩:Hid2 (Below w1.heap.size w1 w4)∧Own w4 w1.heap.size 9 1 AO k co V∧w4.cell? ⟨b1,o1+i,none⟩=some (.string SX):=⟨hid2 (HBE.out.trans (hM.mono HBE.out.size)),HOW.out.below hM (Nat.le_refl _),(HC.out w4 hM).1⟩
     have hz:=HBE4.out.size
     clear hM
     go_wp2_with (at_builtin;have _t:=hown4;go_must ((with_reducible refine wpList_append_lit 9 (.string ⟨#[]⟩) 1 16 Tryz.underlying32 info_str rfl w1.heap.size AO k co V (hown4.alloc _) 1 [.string SX] (.slice (some ⟨w4.heap.size,0,none⟩) 1 1) (Src.slice Tryz.underlying32 (Rd.one w4 _ _)) hone ?_ ?_ ?_ ?_ ?_);(unfold maxLen;omega);omega;(simp;omega);exact⟨rfl,rfl⟩;intro A3 c3 w3 hown3 hgr3 hbl3;clear hown4))
     rw [HV.out] at hown3
     go_roundg (gk - 1)
     case rel =>
      refine⟨?_,i+1,k+1,A3,c3,by have:=HI.out;omega,by go_num,rfl,by rw [HF.out,List.length_append,← HK.out];rfl,by rw [HF.out];exact hown3⟩
      exact (HBE4.out.alloc hz _).grown hgr3 (by simp;omega) (fun g e=>(HOW.out.block g e).1)
     case measure=>have:=HI.out;omega
   ·obtain⟨j,hj⟩:∃ j,i=j+1:=⟨i - 1,by omega⟩
    obtain⟨y,hy⟩:∃ y,L[j]?=some y:=⟨_,List.getElem?_eq_getElem (by rw [← HN.out];omega)⟩
    have hy2:L[i - 1]?=some y:=by rw [show i - 1=j by omega];exact hy
    have hib:((i:Int) == 0)=false:=by rw [beq_eq_false_iff_ne];omega
    have hie:¬ (i:Int)=0:=by omega
    have hij:(i:Int) - 1=j:=by omega
    have hwj:IntKind.i64.wrap ((i:Int) - 1)=(j:Int):=by rw [hij];exact IntWalk.i64_in _ (by constructor <;> omega)
    have hwj2:IntKind.i64.wrap (j:Int)=(j:Int):=IntWalk.i64_in _ (by constructor <;> omega)
    have hj0:(0:Int)≤j:=by omega
    have hjl:(j:Int) < n:=by omega
    have hcy:=hcell _ _ (strV_at hy)
    have hty:=toList_strBT y
    obtain⟨SY,hSY⟩:∃ S,S=strB y:=⟨_,rfl⟩
    rw [← hSY] at hcy hty
    have HC:=hid2 (show ∀ w2,Below wr.heap.size wr w2→w2.cell? ⟨b1,o1+i,none⟩=some (.string SX)∧w2.cell? ⟨b1,o1+j,none⟩=some (.string SY) from fun w2 hb=>⟨(hb.cell (p:=⟨b1,o1+i,none⟩) hblt).trans hcx,(hb.cell (p:=⟨b1,o1+j,none⟩) hblt).trans hcy⟩)
    by_cases hxy:x=y
    ·have heq:(SX.toList != SY.toList)=false:=by rw [htx,hty,hxy];simp
     have heq2:SX.toList=SY.toList:=by rw [htx,hty,hxy]
     have HF:=hid2 (uniq_same (by omega) hx (by rw [hxy];exact hy2))
     clear hbe hi hk hcell hx hiz hown hcx hcy hblt htx hty hSX hSY hV hy hy2 hxy hj
     go_wp2_with fail
     refine wp_region_grd 14 (by kernel_rfl) (by kernel_rfl) (by kernel_rfl) _ rfl (by kernel_rfl) (VV [some (.int .i64 (i:Nat)),some (.bool false),some (.bool false),some (.slice (some ⟨b1,o1,none⟩) n c),some (.int .i64 (i:Nat)),some (.pointer (some ⟨b1,o1+i,none⟩)),some (.string SX),some (.slice (some ⟨b1,o1,none⟩) n c),some (.int .i64 (i:Nat)),some (.int .i64 (j:Nat)),some (.pointer (some ⟨b1,o1+j,none⟩)),some (.string SY),some (.bool false),some (.bool false)] (fun _ _ _=>False)) (fun w2=>Below wr.heap.size wr w2) (fun a b=>Below a.heap.size a b) ((Below.refl _ wr).drew) (fun j v w1 w2 hb hv=>VV.keep (fun h=>h.elim) hv) ?_ ?_
     ·refine of_allOps ⟨?_,?_,?_,?_,?_,?_,?_,?_,?_,?_,?_,?_,?_,?_,trivial⟩
      ·intro T2 w2 hM hN hO hE K hK
       have o7:T2[7]?=some (.int .i64 (i:Nat)):=hO 7 rfl
       clear hE hO hN
       refine step_plain0 rfl ?_
       go_simp
       exact hK _ _ rfl hM (Below.refl _ _)
      ·intro T2 w2 hM hN hO hE K hK
       obtain⟨v0,h0,e0⟩:=hE ⟨0,.data⟩ (by simp) rfl _ _ rfl rfl
       rw [show v0 = .int .i64 (i:Nat) from e0] at h0
       clear hE hO hN
       refine step_plain0 rfl ?_
       go_simp
       exact hK _ _ rfl hM (Below.refl _ _)
      ·intro T2 w2 hM hN hO hE K hK
       obtain⟨v1,h1,e1⟩:=hE ⟨1,.data⟩ (by simp) rfl _ _ rfl rfl
       rw [show v1 = .bool false from e1] at h1
       clear hE hO hN
       refine step_plain0 rfl ?_
       go_simp
       exact hK _ _ rfl hM (Below.refl _ _)
      ·intro T2 w2 hM hN hO hE K hK
       have o5:T2[5]?=some (.slice (some ⟨b1,o1,none⟩) n c):=hO 5 rfl
       obtain⟨v2,h2,e2⟩:=hE ⟨2,.guard⟩ (by simp) rfl _ _ rfl rfl
       rw [show v2 = .bool false from e2] at h2
       clear hE hO hN
       refine grd_met rfl rfl rfl h2 ?_
       go_simp
       exact hK _ _ rfl hM (Below.refl _ _)
      ·intro T2 w2 hM hN hO hE K hK
       have o7:T2[7]?=some (.int .i64 (i:Nat)):=hO 7 rfl
       obtain⟨v2,h2,e2⟩:=hE ⟨2,.guard⟩ (by simp) rfl _ _ rfl rfl
       rw [show v2 = .bool false from e2] at h2
       clear hE hO hN
       refine grd_met rfl rfl rfl h2 ?_
       go_simp
       exact hK _ _ rfl hM (Below.refl _ _)
      ·intro T2 w2 hM hN hO hE K hK
       obtain⟨v3,h3,e3⟩:=hE ⟨3,.data⟩ (by simp) rfl _ _ rfl rfl
       rw [show v3 = .slice (some ⟨b1,o1,none⟩) n c from e3] at h3
       obtain⟨v4,h4,e4⟩:=hE ⟨4,.data⟩ (by simp) rfl _ _ rfl rfl
       rw [show v4 = .int .i64 (i:Nat) from e4] at h4
       obtain⟨v2,h2,e2⟩:=hE ⟨2,.guard⟩ (by simp) rfl _ _ rfl rfl
       rw [show v2 = .bool false from e2] at h2
       clear hE hO hN
       refine grd_met rfl rfl rfl h2 ?_
       go_simp
       exact hK _ _ rfl hM (Below.refl _ _)
      ·intro T2 w2 hM hN hO hE K hK
       obtain⟨v5,h5,e5⟩:=hE ⟨5,.data⟩ (by simp) rfl _ _ rfl rfl
       rw [show v5 = .pointer (some ⟨b1,o1+i,none⟩) from e5] at h5
       obtain⟨v2,h2,e2⟩:=hE ⟨2,.guard⟩ (by simp) rfl _ _ rfl rfl
       rw [show v2 = .bool false from e2] at h2
       clear hE hO hN
       refine grd_met rfl rfl rfl h2 ?_
       obtain⟨y1,y2⟩:=HC.out w2 hM
       go_simp
       exact hK _ _ rfl hM (Below.refl _ _)
      ·intro T2 w2 hM hN hO hE K hK
       have o5:T2[5]?=some (.slice (some ⟨b1,o1,none⟩) n c):=hO 5 rfl
       obtain⟨v2,h2,e2⟩:=hE ⟨2,.guard⟩ (by simp) rfl _ _ rfl rfl
       rw [show v2 = .bool false from e2] at h2
       clear hE hO hN
       refine grd_met rfl rfl rfl h2 ?_
       go_simp
       exact hK _ _ rfl hM (Below.refl _ _)
      ·intro T2 w2 hM hN hO hE K hK
       have o7:T2[7]?=some (.int .i64 (i:Nat)):=hO 7 rfl
       obtain⟨v2,h2,e2⟩:=hE ⟨2,.guard⟩ (by simp) rfl _ _ rfl rfl
       rw [show v2 = .bool false from e2] at h2
       clear hE hO hN
       refine grd_met rfl rfl rfl h2 ?_
       go_simp
       exact hK _ _ rfl hM (Below.refl _ _)
      ·intro T2 w2 hM hN hO hE K hK
       obtain⟨v8,h8,e8⟩:=hE ⟨8,.data⟩ (by simp) rfl _ _ rfl rfl
       rw [show v8 = .int .i64 (i:Nat) from e8] at h8
       obtain⟨v2,h2,e2⟩:=hE ⟨2,.guard⟩ (by simp) rfl _ _ rfl rfl
       rw [show v2 = .bool false from e2] at h2
       clear hE hO hN
       refine grd_met rfl rfl rfl h2 ?_
       go_simp
       exact hK _ _ rfl hM (Below.refl _ _)
      ·intro T2 w2 hM hN hO hE K hK
       obtain⟨v7,h7,e7⟩:=hE ⟨7,.data⟩ (by simp) rfl _ _ rfl rfl
       rw [show v7 = .slice (some ⟨b1,o1,none⟩) n c from e7] at h7
       obtain⟨v9,h9,e9⟩:=hE ⟨9,.data⟩ (by simp) rfl _ _ rfl rfl
       rw [show v9 = .int .i64 (j:Nat) from e9] at h9
       obtain⟨v2,h2,e2⟩:=hE ⟨2,.guard⟩ (by simp) rfl _ _ rfl rfl
       rw [show v2 = .bool false from e2] at h2
       clear hE hO hN
       refine grd_met rfl rfl rfl h2 ?_
       go_simp
       exact hK _ _ rfl hM (Below.refl _ _)
      ·intro T2 w2 hM hN hO hE K hK
       obtain⟨v10,h10,e10⟩:=hE ⟨10,.data⟩ (by simp) rfl _ _ rfl rfl
       rw [show v10 = .pointer (some ⟨b1,o1+j,none⟩) from e10] at h10
       obtain⟨v2,h2,e2⟩:=hE ⟨2,.guard⟩ (by simp) rfl _ _ rfl rfl
       rw [show v2 = .bool false from e2] at h2
       clear hE hO hN
       refine grd_met rfl rfl rfl h2 ?_
       obtain⟨y1,y2⟩:=HC.out w2 hM
       go_simp
       exact hK _ _ rfl hM (Below.refl _ _)
      ·intro T2 w2 hM hN hO hE K hK
       obtain⟨v6,h6,e6⟩:=hE ⟨6,.data⟩ (by simp) rfl _ _ rfl rfl
       rw [show v6 = .string SX from e6] at h6
       obtain⟨v11,h11,e11⟩:=hE ⟨11,.data⟩ (by simp) rfl _ _ rfl rfl
       rw [show v11 = .string SY from e11] at h11
       obtain⟨v2,h2,e2⟩:=hE ⟨2,.guard⟩ (by simp) rfl _ _ rfl rfl
       rw [show v2 = .bool false from e2] at h2
       clear hE hO hN
       refine grd_met rfl rfl rfl h2 ?_
       go_simp
       exact hK _ _ rfl hM (Below.refl _ _)
      ·intro T2 w2 hM hN hO hE K hK
       obtain⟨v2,h2,e2⟩:=hE ⟨2,.data⟩ (by simp) rfl _ _ rfl rfl
       rw [show v2 = .bool false from e2] at h2
       obtain⟨v12,h12,e12⟩:=hE ⟨12,.data⟩ (by simp) rfl _ _ rfl rfl
       rw [show v12 = .bool false from e12] at h12
       clear hE hO hN
       refine step_plain0 rfl ?_
       go_simp
       exact hK _ _ rfl hM (Below.refl _ _)
     ·intro u w4 hM hF
      have e13:u 13 = .bool false:=hF 13 (by omega)
      clear hF
      simp only [fillAll,Nat.reduceAdd,e13,List.take_succ_cons,List.take_zero,List.drop_succ_cons,List.drop_zero,List.setIfInBounds_toArray,List.set_cons_succ,List.set_cons_zero]
      have HB4:=hid2 (HBE.out.trans (hM.mono HBE.out.size))
      have HO4:=hid2 (HOW.out.below hM (Nat.le_refl _))
      clear hM
      go_wp2_with fail
      go_roundg (gk - 1)
      case rel=>exact⟨HB4.out,i+1,k,AO,co,by have:=HI.out;omega,by go_num,rfl,by rw [HF.out];exact HK.out,by rw [HF.out,← HVE.out];exact HO4.out⟩
      case measure=>have:=HI.out;omega
    ·have heq:(SX.toList == SY.toList)=false:=by rw [htx,hty,beq_eq_false_iff_ne];exact hxy
     have heq2:¬ SX.toList=SY.toList:=by rw [htx,hty];exact hxy
     have HF:=hid2 (uniq_more hx (.inr ⟨y,hy2,hxy⟩))
     have HV:=hid2 (show V++[Value.string SX]=strV (Lib.compactUpTo L.toArray i++[x]) from by rw [hV,hSX,strV_snoc])
     clear hbe hi hk hcell hx hiz hown hcx hcy hblt htx hty hSX hSY hV hy hy2 hxy hj
     go_wp2_with fail
     refine wp_region_grd 14 (by kernel_rfl) (by kernel_rfl) (by kernel_rfl) _ rfl (by kernel_rfl) (VV [some (.int .i64 (i:Nat)),some (.bool false),some (.bool false),some (.slice (some ⟨b1,o1,none⟩) n c),some (.int .i64 (i:Nat)),some (.pointer (some ⟨b1,o1+i,none⟩)),some (.string SX),some (.slice (some ⟨b1,o1,none⟩) n c),some (.int .i64 (i:Nat)),some (.int .i64 (j:Nat)),some (.pointer (some ⟨b1,o1+j,none⟩)),some (.string SY),some (.bool true),some (.bool true)] (fun _ _ _=>False)) (fun w2=>Below wr.heap.size wr w2) (fun a b=>Below a.heap.size a b) ((Below.refl _ wr).drew) (fun j v w1 w2 hb hv=>VV.keep (fun h=>h.elim) hv) ?_ ?_
     ·refine of_allOps ⟨?_,?_,?_,?_,?_,?_,?_,?_,?_,?_,?_,?_,?_,?_,trivial⟩
      ·intro T2 w2 hM hN hO hE K hK
       have o7:T2[7]?=some (.int .i64 (i:Nat)):=hO 7 rfl
       clear hE hO hN
       refine step_plain0 rfl ?_
       go_simp
       exact hK _ _ rfl hM (Below.refl _ _)
      ·intro T2 w2 hM hN hO hE K hK
       obtain⟨v0,h0,e0⟩:=hE ⟨0,.data⟩ (by simp) rfl _ _ rfl rfl
       rw [show v0 = .int .i64 (i:Nat) from e0] at h0
       clear hE hO hN
       refine step_plain0 rfl ?_
       go_simp
       exact hK _ _ rfl hM (Below.refl _ _)
      ·intro T2 w2 hM hN hO hE K hK
       obtain⟨v1,h1,e1⟩:=hE ⟨1,.data⟩ (by simp) rfl _ _ rfl rfl
       rw [show v1 = .bool false from e1] at h1
       clear hE hO hN
       refine step_plain0 rfl ?_
       go_simp
       exact hK _ _ rfl hM (Below.refl _ _)
      ·intro T2 w2 hM hN hO hE K hK
       have o5:T2[5]?=some (.slice (some ⟨b1,o1,none⟩) n c):=hO 5 rfl
       obtain⟨v2,h2,e2⟩:=hE ⟨2,.guard⟩ (by simp) rfl _ _ rfl rfl
       rw [show v2 = .bool false from e2] at h2
       clear hE hO hN
       refine grd_met rfl rfl rfl h2 ?_
       go_simp
       exact hK _ _ rfl hM (Below.refl _ _)
      ·intro T2 w2 hM hN hO hE K hK
       have o7:T2[7]?=some (.int .i64 (i:Nat)):=hO 7 rfl
       obtain⟨v2,h2,e2⟩:=hE ⟨2,.guard⟩ (by simp) rfl _ _ rfl rfl
       rw [show v2 = .bool false from e2] at h2
       clear hE hO hN
       refine grd_met rfl rfl rfl h2 ?_
       go_simp
       exact hK _ _ rfl hM (Below.refl _ _)
      ·intro T2 w2 hM hN hO hE K hK
       obtain⟨v3,h3,e3⟩:=hE ⟨3,.data⟩ (by simp) rfl _ _ rfl rfl
       rw [show v3 = .slice (some ⟨b1,o1,none⟩) n c from e3] at h3
       obtain⟨v4,h4,e4⟩:=hE ⟨4,.data⟩ (by simp) rfl _ _ rfl rfl
       rw [show v4 = .int .i64 (i:Nat) from e4] at h4
       obtain⟨v2,h2,e2⟩:=hE ⟨2,.guard⟩ (by simp) rfl _ _ rfl rfl
       rw [show v2 = .bool false from e2] at h2
       clear hE hO hN
       refine grd_met rfl rfl rfl h2 ?_
       go_simp
       exact hK _ _ rfl hM (Below.refl _ _)
      ·intro T2 w2 hM hN hO hE K hK
       obtain⟨v5,h5,e5⟩:=hE ⟨5,.data⟩ (by simp) rfl _ _ rfl rfl
       rw [show v5 = .pointer (some ⟨b1,o1+i,none⟩) from e5] at h5
       obtain⟨v2,h2,e2⟩:=hE ⟨2,.guard⟩ (by simp) rfl _ _ rfl rfl
       rw [show v2 = .bool false from e2] at h2
       clear hE hO hN
       refine grd_met rfl rfl rfl h2 ?_
       obtain⟨y1,y2⟩:=HC.out w2 hM
       go_simp
       exact hK _ _ rfl hM (Below.refl _ _)
      ·intro T2 w2 hM hN hO hE K hK
       have o5:T2[5]?=some (.slice (some ⟨b1,o1,none⟩) n c):=hO 5 rfl
       obtain⟨v2,h2,e2⟩:=hE ⟨2,.guard⟩ (by simp) rfl _ _ rfl rfl
       rw [show v2 = .bool false from e2] at h2
       clear hE hO hN
       refine grd_met rfl rfl rfl h2 ?_
       go_simp
       exact hK _ _ rfl hM (Below.refl _ _)
      ·intro T2 w2 hM hN hO hE K hK
       have o7:T2[7]?=some (.int .i64 (i:Nat)):=hO 7 rfl
       obtain⟨v2,h2,e2⟩:=hE ⟨2,.guard⟩ (by simp) rfl _ _ rfl rfl
       rw [show v2 = .bool false from e2] at h2
       clear hE hO hN
       refine grd_met rfl rfl rfl h2 ?_
       go_simp
       exact hK _ _ rfl hM (Below.refl _ _)
      ·intro T2 w2 hM hN hO hE K hK
       obtain⟨v8,h8,e8⟩:=hE ⟨8,.data⟩ (by simp) rfl _ _ rfl rfl
       rw [show v8 = .int .i64 (i:Nat) from e8] at h8
       obtain⟨v2,h2,e2⟩:=hE ⟨2,.guard⟩ (by simp) rfl _ _ rfl rfl
       rw [show v2 = .bool false from e2] at h2
       clear hE hO hN
       refine grd_met rfl rfl rfl h2 ?_
       go_simp
       exact hK _ _ rfl hM (Below.refl _ _)
      ·intro T2 w2 hM hN hO hE K hK
       obtain⟨v7,h7,e7⟩:=hE ⟨7,.data⟩ (by simp) rfl _ _ rfl rfl
       rw [show v7 = .slice (some ⟨b1,o1,none⟩) n c from e7] at h7
       obtain⟨v9,h9,e9⟩:=hE ⟨9,.data⟩ (by simp) rfl _ _ rfl rfl
       rw [show v9 = .int .i64 (j:Nat) from e9] at h9
       obtain⟨v2,h2,e2⟩:=hE ⟨2,.guard⟩ (by simp) rfl _ _ rfl rfl
       rw [show v2 = .bool false from e2] at h2
       clear hE hO hN
       refine grd_met rfl rfl rfl h2 ?_
       go_simp
       exact hK _ _ rfl hM (Below.refl _ _)
      ·intro T2 w2 hM hN hO hE K hK
       obtain⟨v10,h10,e10⟩:=hE ⟨10,.data⟩ (by simp) rfl _ _ rfl rfl
       rw [show v10 = .pointer (some ⟨b1,o1+j,none⟩) from e10] at h10
       obtain⟨v2,h2,e2⟩:=hE ⟨2,.guard⟩ (by simp) rfl _ _ rfl rfl
       rw [show v2 = .bool false from e2] at h2
       clear hE hO hN
       refine grd_met rfl rfl rfl h2 ?_
       obtain⟨y1,y2⟩:=HC.out w2 hM
       go_simp
       exact hK _ _ rfl hM (Below.refl _ _)
      ·intro T2 w2 hM hN hO hE K hK
       obtain⟨v6,h6,e6⟩:=hE ⟨6,.data⟩ (by simp) rfl _ _ rfl rfl
       rw [show v6 = .string SX from e6] at h6
       obtain⟨v11,h11,e11⟩:=hE ⟨11,.data⟩ (by simp) rfl _ _ rfl rfl
       rw [show v11 = .string SY from e11] at h11
       obtain⟨v2,h2,e2⟩:=hE ⟨2,.guard⟩ (by simp) rfl _ _ rfl rfl
       rw [show v2 = .bool false from e2] at h2
       clear hE hO hN
       refine grd_met rfl rfl rfl h2 ?_
       go_simp
       exact hK _ _ rfl hM (Below.refl _ _)
      ·intro T2 w2 hM hN hO hE K hK
       obtain⟨v2,h2,e2⟩:=hE ⟨2,.data⟩ (by simp) rfl _ _ rfl rfl
       rw [show v2 = .bool false from e2] at h2
       obtain⟨v12,h12,e12⟩:=hE ⟨12,.data⟩ (by simp) rfl _ _ rfl rfl
       rw [show v12 = .bool true from e12] at h12
       clear hE hO hN
       refine step_plain0 rfl ?_
       go_simp
       exact hK _ _ rfl hM (Below.refl _ _)
     ·intro u w4 hM hF
      have e13:u 13 = .bool true:=hF 13 (by omega)
      clear hF
      simp only [fillAll,Nat.reduceAdd,e13,List.take_succ_cons,List.take_zero,List.drop_succ_cons,List.drop_zero,List.setIfInBounds_toArray,List.set_cons_succ,List.set_cons_zero]
      obtain⟨HBE4,hown4,h1⟩:Hid2 (Below w1.heap.size w1 w4)∧Own w4 w1.heap.size 9 1 AO k co V∧w4.cell? ⟨b1,o1+i,none⟩=some (.string SX):=⟨hid2 (HBE.out.trans (hM.mono HBE.out.size)),HOW.out.below hM (Nat.le_refl _),(HC.out w4 hM).1⟩
      have hz:=HBE4.out.size
      clear hM
      go_wp2_with (at_builtin;have _t:=hown4;go_must ((with_reducible refine wpList_append_lit 9 (.string ⟨#[]⟩) 1 16 Tryz.underlying32 info_str rfl w1.heap.size AO k co V (hown4.alloc _) 1 [.string SX] (.slice (some ⟨w4.heap.size,0,none⟩) 1 1) (Src.slice Tryz.underlying32 (Rd.one w4 _ _)) hone ?_ ?_ ?_ ?_ ?_);(unfold maxLen;omega);omega;(simp;omega);exact⟨rfl,rfl⟩;intro A3 c3 w3 hown3 hgr3 hbl3;clear hown4))
      rw [HV.out] at hown3
      go_roundg (gk - 1)
      case rel =>
       refine⟨?_,i+1,k+1,A3,c3,by have:=HI.out;omega,by go_num,rfl,by rw [HF.out,List.length_append,← HK.out];rfl,by rw [HF.out];exact hown3⟩
       exact (HBE4.out.alloc hz _).grown hgr3 (by simp;omega) (fun g e=>(HOW.out.block g e).1)
      case measure=>have:=HI.out;omega
  ·have hil:¬ (i:Int) < n:=by omega
   have hie:i=n:=by omega
   have hU:Lib.compactUpTo L.toArray i=uniqT L:=by
    rw [uniqT,Lib.compact,hie,HN.out]
   have CW2:=hid2 (CW.out wr AO co k _ hk hU hown.rd)
   rw [hU,← HRE.out] at CW2
   have HBE:=hid2 hbe
   clear hbe hi hk hown hie hU
   go_wp2_with (go_at_call 57; refine CW2.out.mono ?_;rintro e w3 ⟨rfl,rfl⟩)
   refine bodyPost_ret (results_tmp rfl _ _ _) rfl ?_
   exact⟨rfl,HB.out.trans (HBE.out.mono HB.out.size)⟩
set_option maxHeartbeats 8000000 in
theorem rturned_upper (w:World) (nm:TT) (nkSort:nm≠kSort) (nkUniq:nm≠kUniq) (nkCount:nm≠kCount) (S:ByteArray) (hs:S.size≤65536) :
  Calls Tryz.prog 58 #[.string (strB nm),.string S] w fun e w'=>e = .returned (.string (strB (turnedR nm S.data.toList)))∧Below w.heap.size w w':=by
 obtain⟨L,hL⟩:∃ L,L=linesT S.data.toList:=⟨_,rfl⟩
 obtain⟨n,hn⟩:∃ n,n=L.length:=⟨_,rfl⟩
 have cL:=rlines_n w S (by omega) L hL n hn
 have hnl:n≤65537:=by
  rw [hn,hL]
  have:=linesT_len S.data.toList
  have e:S.data.toList.length=S.size:=toList_length S
  omega
 have hwl:(wholeT L).length≤65537:=by
  rw [hL]
  have:=wholeT_lines S.data.toList
  have e:S.data.toList.length=S.size:=toList_length S
  omega
 have htn:=toList_strBT nm
 obtain⟨R,hR⟩:∃ R,R=turnedR nm S.data.toList:=⟨_,rfl⟩
 rw [← hR]
 obtain⟨N,hN⟩:∃ N,N=strB nm:=⟨_,rfl⟩
 rw [← hN] at htn ⊢
 have tkSort:(N.toList == [115,111,114,116])=false:=by rw [htn,beq_eq_false_iff_ne];exact nkSort
 have ukSort:¬ N.toList=[115,111,114,116]:=by rw [htn];exact nkSort
 have tkUniq:(N.toList == [117,110,105,113])=false:=by rw [htn,beq_eq_false_iff_ne];exact nkUniq
 have ukUniq:¬ N.toList=[117,110,105,113]:=by rw [htn];exact nkUniq
 have tkCount:(N.toList == [99,111,117,110,116])=false:=by rw [htn,beq_eq_false_iff_ne];exact nkCount
 have ukCount:¬ N.toList=[99,111,117,110,116]:=by rw [htn];exact nkCount
 obtain⟨bf,hbf⟩:∃ bf,bf=S.data.toList:=⟨_,rfl⟩
 have hRe:R=upT bf:=by rw [hR,turnedR,if_neg nkSort,if_neg nkUniq,if_neg nkCount,hbf]
 obtain⟨Z,hZ⟩:∃ Z,Z=strB R:=⟨_,rfl⟩
 rw [← hZ]
 obtain⟨m,hm⟩:∃ m,m=S.size:=⟨_,rfl⟩
 have hml:m≤65536:=by omega
 have hmb:m=bf.length:=by rw [hm,hbf,toList_length]
 have CL:=hid2 cL
 have HXD:=hid2 hbf
 have HM:=hid2 hmb
 have HMS:=hid2 hm
 have HZ:=hid2 (show Z=strB (upT bf) from by rw [hZ,hRe])
 have hXm:S.size≤maxLen:=by unfold maxLen;omega
 clear cL hRe hR hN hn hL htn hwl hnl hbf hm hmb hZ nkSort nkUniq nkCount hs
 go_enter Tryz.func58,Tryz.ntmps58
 go_wp2_with (first
  | (go_at_call 29; refine CL.out.mono ?_;rintro e w1 ⟨A,c,rfl,ho,hb⟩;have HO:=hid2 ho;have HB:=hid2 hb;clear ho hb)
  | ((with_reducible refine wpList_to_bytes_lit 5 w1.heap.size S Tryz.underlying9 Tryz.underlying46 Tryz.underlying5 (Nat.le_refl _) hXm ?_ ?_);exact rfl;intro A2 c2 w2 ho hb hbk;have HO2:=hid2 ho;have hb2:Below w.heap.size w w2:=HB.out.trans (hb.mono HB.out.size);have HB2:=hid2 hb2;clear ho hb hb2 hbk;rw [← HMS.out]))
 have ho2:Own w2 w1.heap.size 5 1 A2 m c2 (u8s bf):=by
  have:=HO2.out
  rw [← HXD.out,← HMS.out] at this
  exact this
 have hmi:(m:Int)≤65536:=by omega
 go_loopw [9] (fun i wr=>∃ k:Nat,k≤m∧i = .int .i64 k∧Own wr w1.heap.size 5 1 A2 m c2 (u8s (mixT k bf))∧Below w.heap.size w wr) (fun i _=>m - (intOf i).toNat)
 case atStart=>exact⟨0,by omega,rfl,by rw [mixT_zero];exact ho2,HB2.out⟩
 case round =>
  obtain⟨k,hk,rfl,ho,hbe⟩:=hrel
  clear ho2
  by_cases hlt:k < m
  ·have hkl:(k:Int) < m:=by omega
   obtain⟨x,hx⟩:∃ x,bf[k]?=some x:=⟨_,List.getElem?_eq_getElem (by rw [← HM.out];exact hlt)⟩
   obtain⟨b,o,u,rfl,hbb,hblt,hu,hcu,hfu,hset⟩:=ho.spot hlt
   rw [u8s_at (mixT_at hx)] at hu
   obtain rfl:=Option.some.inj hu
   have hst:=hset (.int .u8 (upC x).toNat)
   rw [u8s_set,← mixT_step hx] at hst
   have hxl:x.toNat < 256:=x.toNat_lt
   by_cases hup:97≤x.toNat∧x.toNat≤122
   ·have hval:((upC x).toNat:Int)=(x.toNat:Int) - 32:=by
     rw [upC,if_pos hup,UInt8.toNat_sub_of_le _ _ (by rw [UInt8.le_iff_toNat_le];have:(32:UInt8).toNat=32:=rfl;omega)]
     have:(32:UInt8).toNat=32:=rfl
     omega
    have h97:(97:Int)≤x.toNat:=by omega
    have h122:(x.toNat:Int)≤122:=by omega
    have hwr:IntKind.u8.wrap ((x.toNat:Int) - 32)=(x.toNat:Int) - 32:=IntWalk.u8_in _ (by constructor <;> omega)
    rw [hval] at hst
    obtain⟨y,hy⟩:∃ y:Int,y=x.toNat:=⟨_,rfl⟩
    rw [← hy] at hcu hst hwr h97 h122
    have HST:=hid2 hst
    have HBE:=hid2 hbe
    have HBB:=hid2 (show w.heap.size≤b from Nat.le_trans HB.out.size hbb)
    clear hx hu hset hst ho hup hval hy hxl hbe
    go_wp2_with fail
    go_roundw
    case rel=>exact⟨k+1,by omega,by go_num,HST.out,HBE.out.setCell HBB.out _⟩
    case measure=>simp [intOf];omega
   ·have hsame:upC x=x:=by rw [upC,if_neg hup]
    have hst2:Own wr w1.heap.size 5 1 (some ⟨b,o,none⟩) m c2 (u8s (mixT (k+1) bf)):=by rw [mixT_step hx,hsame,tset_same (mixT_at hx)];exact ho
    have HST:=hid2 hst2
    have HBE:=hid2 hbe
    by_cases h97:97≤x.toNat
    ·have h97i:(97:Int)≤x.toNat:=by omega
     have h122:¬ (x.toNat:Int)≤122:=by omega
     obtain⟨y,hy⟩:∃ y:Int,y=x.toNat:=⟨_,rfl⟩
     rw [← hy] at hcu h97i h122
     clear hx hu hset hst ho hup hy hxl hbe hst2 hsame h97
     go_wp2_with fail
     go_roundw
     case rel=>exact⟨k+1,by omega,by go_num,HST.out,HBE.out⟩
     case measure=>simp [intOf];omega
    ·have h97i:¬ (97:Int)≤x.toNat:=by omega
     obtain⟨y,hy⟩:∃ y:Int,y=x.toNat:=⟨_,rfl⟩
     rw [← hy] at hcu h97i
     clear hx hu hset hst ho hup hy hxl hbe hst2 hsame h97
     go_wp2_with fail
     go_roundw
     case rel=>exact⟨k+1,by omega,by go_num,HST.out,HBE.out⟩
     case measure=>simp [intOf];omega
  ·have hkm:k=m:=by omega
   have hkl:¬ (k:Int) < m:=by omega
   rw [mixT_all (by rw [← HM.out];omega)] at ho
   have hul:(upT bf).length=m:=by rw [HM.out];simp [upT]
   have hrd:=ho.rd
   have hzz:(⟨(upT bf).toArray⟩:ByteArray)=Z:=HZ.out.symm
   have HBE:=hid2 hbe
   have HRD:=hid2 hrd
   have HZZ:=hid2 hzz
   clear hkm hbe ho hrd hzz
   go_wp2_with ((with_reducible refine wpList_to_string_lit 5 A2 m c2 (upT bf) Tryz.underlying46 Tryz.underlying5 Tryz.underlying9 hul HRD.out ?_ ?_);exact rfl;rw [HZZ.out])
   refine bodyPost_ret (results_tmp rfl _ _ _) rfl ?_
   exact⟨rfl,HBE.out⟩
theorem rturned_any (w:World) (nm:TT) (S:ByteArray) (hs:S.size≤65536) :
  Calls Tryz.prog 58 #[.string (strB nm),.string S] w fun e w'=>e = .returned (.string (strB (turnedR nm S.data.toList)))∧Below w.heap.size w w':=by
 by_cases h1:nm=kSort
 ·exact rturned_sort w nm h1 S hs
 by_cases h2:nm=kUniq
 ·exact rturned_uniq w nm h2 S hs
 by_cases h3:nm=kCount
 ·exact rturned_count w nm h3 S hs
 ·exact rturned_upper w nm h1 h2 h3 S hs
end Go.Proofs.YtnecjdhamohadaaGreatDoor
