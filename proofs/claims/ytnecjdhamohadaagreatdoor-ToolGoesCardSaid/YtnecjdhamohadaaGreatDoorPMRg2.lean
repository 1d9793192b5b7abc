/- The document's run of a tool: what it makes of lines. -/
import Derived.Test.YtnecjdhamohadaaGreatDoorPMu
import Derived.Test.YtnecjdhamohadaaGreatDoorPMRf2
set_option linter.unusedSimpArgs false
set_option linter.unusedVariables false
namespace Go.Proofs.YtnecjdhamohadaaGreatDoor
open Go.RowKit Go.Maps Go.Shelf
set_option maxRecDepth 100000
set_option maxHeartbeats 4000000 in
theorem rhas_any (w:World) (A:Option Addr) (c:Nat) (l:List TT) (p:TT) (hl:l.length≤1000000000) (hr:Rd w 1 A l.length (strV l)) :
  Calls Tryz.prog 80 #[.slice A l.length c,.string (strB p)] w fun e w'=>e = .returned (.bool (decide (p∈l)))∧w'=w:=by
 have htp:=toList_strBT p
 obtain⟨S,hS⟩:∃ S,S=strB p:=⟨_,rfl⟩
 obtain⟨n,hn⟩:∃ n,n=l.length:=⟨_,rfl⟩
 rw [← hS] at htp ⊢
 rw [← hn] at hr hl ⊢
 have HR:=hid2 hr
 have HN:=hid2 hn
 have HTP:=hid2 htp
 have hlim:(n:Int)≤1000000000:=by omega
 clear hr hn hS htp
 go_enter Tryz.func80,Tryz.ntmps80
 go_wp2_with fail
 go_loopg [5] n (fun gk iv wr=>wr=w∧∃ i:Nat,i+gk=n∧iv = .int .i64 i∧p ∉ l.take i)
 case atStart=>exact⟨rfl,0,by omega,rfl,by simp⟩
 case round =>
  obtain⟨rfl,i,hi,rfl,hno⟩:=hrel
  by_cases hlt:i < n
  ·have hil:(i:Int) < n:=by omega
   have hi0:(0:Int)≤i:=by omega
   obtain⟨x,hx⟩:∃ x,l[i]?=some x:=⟨_,List.getElem?_eq_getElem (by rw [← HN.out];exact hlt)⟩
   obtain⟨b,o,rfl,hcell⟩:=HR.out.2 (by omega)
   have h1:wr.cell? ⟨b,o+i,none⟩=some (.string (strB x)):=hcell _ _ (strV_at hx)
   have htx:=toList_strBT x
   by_cases hpx:x=p
   ·have hans:decide (p∈l)=true:=by rw [decide_eq_true_eq,← hpx];exact List.mem_of_getElem? hx
    obtain⟨X,hX⟩:∃ X,X=strB x:=⟨_,rfl⟩
    rw [← hX] at h1 htx
    have heq:(X.toList == S.toList)=true:=by rw [htx,HTP.out,hpx,beq_self_eq_true]
    have heq2:X.toList=S.toList:=by rw [htx,HTP.out,hpx]
    have HANS:=hid2 hans
    clear hx hcell hno hpx hX htx hi hans
    go_wp2_with fail
    refine bodyPost_ret (results_tmp rfl _ _ _) rfl ?_
    exact⟨by rw [HANS.out];rfl,rfl⟩
   ·have hneq:((strB x).toList == S.toList)=false:=by rw [htx,HTP.out,beq_eq_false_iff_ne];exact hpx
    have hneq2:¬ (strB x).toList=S.toList:=by rw [htx,HTP.out];exact hpx
    have HNO:=hid2 (show p ∉ l.take (i+1) from by
     rw [List.take_add_one,hx]
     intro h
     rcases List.mem_append.1 h with h | h
     ·exact hno h
     ·have:p=x:=by simpa using h
      exact hpx this.symm)
    obtain⟨X,hX⟩:∃ X,X=strB x:=⟨_,rfl⟩
    rw [← hX] at h1 hneq hneq2
    have HI:=hid2 hi
    clear hx hcell hno hpx hX htx hi
    go_wp2_with fail
    go_roundg (gk - 1)
    case rel=>exact⟨rfl,i+1,by have:=HI.out;omega,by go_num,HNO.out⟩
    case measure=>have:=HI.out;omega
  ·have hil:¬ (i:Int) < n:=by omega
   have hans:decide (p∈l)=false:=by
    rw [List.take_of_length_le (by rw [← HN.out];omega)] at hno
    rw [decide_eq_false_iff_not]
    exact hno
   have HANS:=hid2 hans
   clear hno hi hans
   go_wp2_with fail
   refine bodyPost_ret (results_tmp rfl _ _ _) rfl ?_
   exact⟨by rw [HANS.out];rfl,rfl⟩
theorem wholeT_take_le (l:List TT):∀ i,(wholeT (l.take i)).length≤(wholeT l).length:=fun i=>by
 have h:=List.take_append_drop i l
 have e:wholeT l=wholeT (l.take i)++wholeT (l.drop i):=by
  unfold wholeT
  rw [← List.flatMap_append,h]
 rw [e,List.length_append]
 omega
set_option maxHeartbeats 4000000 in
theorem rwhole_any (w:World) (A:Option Addr) (c:Nat) (l:List TT) (hl:l.length≤1000000000) (hz:(wholeT l).length≤100000000000) (hr:Rd w 1 A l.length (strV l)) :
  Calls Tryz.prog 57 #[.slice A l.length c] w fun e w'=>e = .returned (.string (strB (wholeT l)))∧w'=w:=by
 obtain⟨n,hn⟩:∃ n,n=l.length:=⟨_,rfl⟩
 rw [← hn] at hr hl ⊢
 have HR:=hid2 hr
 have HN:=hid2 hn
 have HZ:=hid2 hz
 have hlim:(n:Int)≤1000000000:=by omega
 clear hr hn hz
 go_enter Tryz.func57,Tryz.ntmps57
 go_wp2_with fail
 go_loopg [3,4] n (fun gk ov iv wr=>wr=w∧∃ (i:Nat) (O:ByteArray),i+gk=n∧iv = .int .i64 i∧ov = .string O∧O.data.toList=wholeT (l.take i))
 case atStart=>exact⟨rfl,0,⟨#[]⟩,by omega,rfl,rfl,rfl⟩
 case round =>
  obtain⟨rfl,i,O,hi,rfl,rfl,hO⟩:=hrel
  by_cases hlt:i < n
  ·have hil:(i:Int) < n:=by omega
   have hi0:(0:Int)≤i:=by omega
   obtain⟨x,hx⟩:∃ x,l[i]?=some x:=⟨_,List.getElem?_eq_getElem (by rw [← HN.out];exact hlt)⟩
   obtain⟨b,o,rfl,hcell⟩:=HR.out.2 (by omega)
   have h1:wr.cell? ⟨b,o+i,none⟩=some (.string (strB x)):=hcell _ _ (strV_at hx)
   have htk:wholeT (l.take (i+1))=wholeT (l.take i)++(x++[10]):=by
    rw [List.take_add_one,hx]
    unfold wholeT
    rw [List.flatMap_append]
    simp
   obtain⟨X,hX⟩:∃ X,X=strB x:=⟨_,rfl⟩
   rw [← hX] at h1
   obtain⟨O1,hO1⟩:∃ O1,O1=O++X:=⟨_,rfl⟩
   obtain⟨O2,hO2⟩:∃ O2,O2=O1++(⟨#[10]⟩:ByteArray):=⟨_,rfl⟩
   have hl1:O1.data.toList=wholeT (l.take i)++x:=by rw [hO1,string_append_toList,hO,hX,strB_list]
   have hl2:O2.data.toList=wholeT (l.take (i+1)):=by rw [hO2,string_append_toList,hl1,htk,List.append_assoc]
   have hs2:O2.size≤100000000000:=by
    rw [← toList_length,hl2]
    exact Nat.le_trans (wholeT_take_le l _) HZ.out
   have hs1:O1.size+1=O2.size:=by rw [← toList_length O1,← toList_length O2,hl1,hl2,htk];simp;omega
   have hs0:O.size+X.size=O1.size:=by rw [← toList_length O,← toList_length O1,hl1,hO,hX,strB_size];simp
   have hadd1:¬ (O.size+X.size > 9223372036854775807):=by omega
   have hadd2:¬ (O1.size+(⟨#[10]⟩:ByteArray).size > 9223372036854775807):=by
    have:(⟨#[10]⟩:ByteArray).size=1:=rfl
    omega
   have hO1':=hO1.symm
   have hO2':=hO2.symm
   have HL2:=hid2 hl2
   have HI:=hid2 hi
   clear hx hcell htk hX hO hO1 hO2 hl1 hl2 hs2 hs1 hs0 hi
   go_wp2_with fail
   go_roundg (gk - 1)
   case rel=>exact⟨rfl,i+1,O2,by have:=HI.out;omega,by go_num,rfl,HL2.out⟩
   case measure=>have:=HI.out;omega
  ·have hil:¬ (i:Int) < n:=by omega
   have hend:O=strB (wholeT l):=by
    rw [List.take_of_length_le (by rw [← HN.out];omega)] at hO
    exact strB_eq hO
   have HE:=hid2 hend
   clear hO hi hend
   go_wp2_with fail
   refine bodyPost_ret (results_tmp rfl _ _ _) rfl ?_
   exact⟨by rw [← HE.out];rfl,rfl⟩
theorem hasT_true {l q:TT} {i:Nat} (hi:i≤l.length) (h:(l.drop i).take q.length=q):hasT l q=true:=by
 unfold hasT Go.Lib.contains
 rcases Go.Lib.index_spec l q with ⟨_,hno⟩ | ⟨j,hj,_⟩
 ·have:=hno i hi
  unfold Go.Lib.occAt at this
  rw [show q.isPrefixOf (l.drop i)=true from List.isPrefixOf_iff_prefix.2 ⟨(l.drop i).drop q.length,by
   have e:=List.take_append_drop q.length (l.drop i)
   rw [h] at e
   exact e⟩] at this
  cases this
 ·rw [hj,decide_eq_true_eq]
  omega
theorem hasT_false {l q:TT} (h:∀ i,i+q.length≤l.length→(l.drop i).take q.length≠q):hasT l q=false:=by
 unfold hasT Go.Lib.contains
 rcases Go.Lib.index_spec l q with ⟨hj,_⟩ | ⟨j,hj,hjl,hoc,_⟩
 ·rw [hj]
  rfl
 ·exfalso
  unfold Go.Lib.occAt at hoc
  obtain⟨t,ht⟩:=List.isPrefixOf_iff_prefix.1 hoc
  refine h j ?_ ?_
  ·have:=congrArg List.length ht
   rw [List.length_append,List.length_drop] at this
   omega
  ·rw [← ht]
   exact List.take_left
set_option maxHeartbeats 4000000 in
theorem rwithin_any (w:World) (s q:ByteArray) (hs:s.size≤1000000000) (hq:q.size≤1000000000) :
  Calls Tryz.prog 81 #[.string s,.string q] w fun e w'=>e = .returned (.bool (hasT s.data.toList q.data.toList))∧w'=w:=by
 have hsi:(s.size:Int)≤1000000000:=by omega
 have hqi:(q.size:Int)≤1000000000:=by omega
 obtain⟨l,hl⟩:∃ l,l=s.data.toList:=⟨_,rfl⟩
 obtain⟨m,hm⟩:∃ m,m=q.data.toList:=⟨_,rfl⟩
 have hll:l.length=s.size:=by rw [hl,toList_length]
 have hml:m.length=q.size:=by rw [hm,toList_length]
 have htq:q.toList=m:=by rw [hm];exact ByteArray.toList_eq q
 rw [← hl,← hm]
 have HL:=hid2 hl
 have HLL:=hid2 hll
 have HML:=hid2 hml
 have HTQ:=hid2 htq
 clear hl hm hll hml htq hs hq
 go_enter Tryz.func81,Tryz.ntmps81
 go_wp2_with fail
 go_loopg [5] (s.size+1) (fun gk iv wr=>wr=w∧∃ i:Nat,i+gk=s.size+1∧iv = .int .i64 i∧∀ j,j < i→j+m.length≤l.length→(l.drop j).take m.length≠m)
 case atStart=>exact⟨rfl,0,by omega,rfl,fun j hj=>absurd hj (Nat.not_lt_zero _)⟩
 case round =>
  obtain⟨rfl,i,hi,rfl,hno⟩:=hrel
  have hw:IntKind.i64.wrap ((i:Int)+q.size)=(i:Int)+q.size:=IntWalk.i64_in _ (by constructor <;> omega)
  by_cases hle:i+q.size≤s.size
  ·have hlei:(i:Int)+q.size≤s.size:=by omega
   have hi0:(0:Int)≤i:=by omega
   have hii:(i:Int)≤(i:Int)+q.size:=by omega
   have hiq0:(0:Int)≤(i:Int)+q.size:=by omega
   have hiqn:((i:Int)+q.size).toNat=i+q.size:=by omega
   obtain⟨X,hX⟩:∃ X,X=s.extract i (i+q.size):=⟨_,rfl⟩
   have hXl:X.data.toList=(l.drop i).take m.length:=by rw [hX,extract_list,← HL.out,HML.out,Nat.add_sub_cancel_left]
   have htx:X.toList=(l.drop i).take m.length:=by rw [ByteArray.toList_eq,hXl]
   have hX':=hX.symm
   by_cases heq0:(l.drop i).take m.length=m
   ·have heq:(X.toList == q.toList)=true:=by rw [htx,HTQ.out,heq0,beq_self_eq_true]
    have heq2:X.toList=q.toList:=by rw [htx,HTQ.out,heq0]
    have HANS:=hid2 (hasT_true (l:=l) (q:=m) (i:=i) (by rw [HLL.out];omega) heq0)
    clear hno hX hXl htx heq0 hi hle
    go_wp2_with fail
    refine bodyPost_ret (results_tmp rfl _ _ _) rfl ?_
    exact⟨by rw [HANS.out];rfl,rfl⟩
   ·have heq2:¬ X.toList=q.toList:=by rw [htx,HTQ.out];exact heq0
    have heq:(X.toList == q.toList)=false:=by rw [beq_eq_false_iff_ne];exact heq2
    have HNO:=hid2 (show ∀ j,j < i+1→j+m.length≤l.length→(l.drop j).take m.length≠m from fun j hj hjl=>by
     rcases Nat.lt_or_ge j i with h | h
     ·exact hno j h hjl
     ·have:j=i:=by omega
      subst this
      exact heq0)
    have HI:=hid2 hi
    clear hno hX hXl htx heq0 hi hle
    go_wp2_with fail
    go_roundg (gk - 1)
    case rel=>exact⟨rfl,i+1,by have:=HI.out;omega,by go_num,HNO.out⟩
    case measure=>have:=HI.out;omega
  ·have hlei:¬ (i:Int)+q.size≤s.size:=by omega
   have HANS:=hid2 (hasT_false (l:=l) (q:=m) fun j hj=>hno j (by rw [HLL.out,HML.out] at hj;omega) hj)
   clear hno hi hle
   go_wp2_with fail
   refine bodyPost_ret (results_tmp rfl _ _ _) rfl ?_
   exact⟨by rw [HANS.out];rfl,rfl⟩
set_option maxHeartbeats 8000000 in
theorem rkept_any (w:World) (A:Option Addr) (c:Nat) (l:List TT) (q:ByteArray) (hl:l.length≤1000000000) (hx9:∀ x∈l,x.length≤1000000000) (hq:q.size≤1000000000) (hr:Rd w 1 A l.length (strV l)) :
  Calls Tryz.prog 56 #[.slice A l.length c,.string q] w (LPost w (l.filter (hasT · q.data.toList))):=by
 obtain⟨n,hn⟩:∃ n,n=l.length:=⟨_,rfl⟩
 obtain⟨m,hm⟩:∃ m,m=q.data.toList:=⟨_,rfl⟩
 obtain⟨PQ,hPQ⟩:∃ PQ,PQ=LPost w (l.filter (hasT · m)):=⟨_,rfl⟩
 rw [← hm]
 rw [← hn] at hr hl ⊢
 rw [← hPQ]
 have HR:=hid2 hr
 have HN:=hid2 hn
 have HM:=hid2 hm
 have HPQ:=hid2 hPQ
 have HX9:=hid2 hx9
 have hlim:(n:Int)≤1000000000:=by omega
 clear hr hn hm hPQ hx9
 go_enter Tryz.func56,Tryz.ntmps56
 go_wp2_with fail
 go_loopg [5,6] n (fun gk ov iv wr=>Below w.heap.size w wr∧∃ (i k:Nat) (AO:Option Addr) (co:Nat),i+gk=n∧iv = .int .i64 i∧ov = .slice AO k co∧k=((l.take i).filter (hasT · m)).length∧Own wr w.heap.size 9 1 AO k co (strV ((l.take i).filter (hasT · m))))
 case atStart=>exact⟨Below.refl _ _,0,0,none,0,by omega,rfl,rfl,rfl,Own.nil _ _ _ _⟩
 case round =>
  obtain⟨hbe,i,k,AO,co,hi,rfl,rfl,hk,hown⟩:=hrel
  have HBE:=hid2 hbe
  have HI:=hid2 hi
  have HK:=hid2 hk
  have hz:=hbe.size
  by_cases hlt:i < n
  ·have hil:(i:Int) < n:=by omega
   have hi0:(0:Int)≤i:=by omega
   have hki:k≤i:=by
    rw [hk]
    refine Nat.le_trans (List.length_filter_le _ _) ?_
    rw [List.length_take]
    omega
   obtain⟨x,hx⟩:∃ x,l[i]?=some x:=⟨_,List.getElem?_eq_getElem (by rw [← HN.out];exact hlt)⟩
   have htk:l.take (i+1)=l.take i++[x]:=by rw [List.take_add_one,hx];rfl
   obtain⟨b,o,rfl,hcell⟩:=(HR.out.below_all hbe).2 (by omega)
   have h1:wr.cell? ⟨b,o+i,none⟩=some (.string (strB x)):=hcell _ _ (strV_at hx)
   have cW:=rwithin_any wr (strB x) q (by rw [strB_size];exact HX9.out x (List.mem_of_getElem? hx)) hq
   rw [strB_list,← HM.out] at cW
   obtain⟨X,hX⟩:∃ X,X=strB x:=⟨_,rfl⟩
   rw [← hX] at h1 cW
   have HXE:=hid2 hX
   have HTK:=hid2 htk
   have HOW:=hid2 hown
   by_cases ht:hasT x m=true
   ·rw [ht] at cW
    have CW:=hid2 cW
    have HF:=hid2 (show (l.take (i+1)).filter (hasT · m)=(l.take i).filter (hasT · m)++[x] from by
     rw [htk,List.filter_append]
     simp [ht])
    obtain⟨V,hV⟩:∃ V,V=strV ((l.take i).filter (hasT · m)):=⟨_,rfl⟩
    rw [← hV] at hown
    have HV:=hid2 (show V++[Value.string X]=strV ((l.take i).filter (hasT · m)++[x]) from by rw [hV,hX,strV_snoc])
    have hone:∀ u∈[Value.string X],u.oneCell'=true:=one_str
    clear hbe hi hk hcell hx htk cW hX ht hV
    go_wp2_with (first
     | (go_at_call 81; refine CW.out.mono ?_;rintro e w2 ⟨rfl,rfl⟩;clear CW)
     | (at_builtin;have _t:=hown;go_must ((with_reducible refine wpList_append_lit 9 (.string ⟨#[]⟩) 1 16 Tryz.underlying32 info_str rfl w.heap.size AO k co V (hown.alloc _) 1 [.string X] (.slice (some ⟨w2.heap.size,0,none⟩) 1 1) (Src.slice Tryz.underlying32 (Rd.one w2 _ _)) hone ?_ ?_ ?_ ?_ ?_);(unfold maxLen;omega);omega;(simp;omega);exact⟨rfl,rfl⟩;intro A3 c3 w3 hown3 hgr3 hbl3;clear hown)))
    rw [HV.out] at hown3
    go_roundg (gk - 1)
    case rel =>
     refine⟨?_,i+1,k+1,A3,c3,by have:=HI.out;omega,by go_num,rfl,by rw [HF.out,List.length_append,← HK.out];rfl,by rw [HF.out];exact hown3⟩
     exact (HBE.out.alloc hz _).grown hgr3 (by simp;omega) (fun g e=>(HOW.out.block g e).1)
    case measure=>have:=HI.out;omega
   ·have htf:hasT x m=false:=by simpa using ht
    rw [htf] at cW
    have CW:=hid2 cW
    have HF:=hid2 (show (l.take (i+1)).filter (hasT · m)=(l.take i).filter (hasT · m) from by
     rw [htk,List.filter_append]
     simp [htf])
    clear hbe hi hk hcell hx htk cW hX ht htf
    go_wp2_with (go_at_call 81; refine CW.out.mono ?_;rintro e w2 ⟨rfl,rfl⟩;clear CW)
    go_roundg (gk - 1)
    case rel=>exact⟨HBE.out,i+1,k,AO,co,by have:=HI.out;omega,by go_num,rfl,by rw [HF.out];exact HK.out,by rw [HF.out];exact hown⟩
    case measure=>have:=HI.out;omega
  ·have hil:¬ (i:Int) < n:=by omega
   have hall:l.take i=l:=List.take_of_length_le (by rw [← HN.out];omega)
   rw [hall] at hk hown
   have HK2:=hid2 hk
   have HOW:=hid2 hown
   clear hbe hi hk hown hall
   go_wp2_with fail
   rw [HPQ.out]
   exact⟨AO,co,by rw [← HK2.out],by rw [← HK2.out];exact HOW.out,HBE.out⟩
end Go.Proofs.YtnecjdhamohadaaGreatDoor
