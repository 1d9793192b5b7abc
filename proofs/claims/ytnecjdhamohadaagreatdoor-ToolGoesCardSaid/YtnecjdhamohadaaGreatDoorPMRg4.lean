/- The document's run of a tool: lines sorted by insertion. -/
import Derived.Test.YtnecjdhamohadaaGreatDoorPMu
import Derived.Test.YtnecjdhamohadaaGreatDoorPMRf2
set_option linter.unusedSimpArgs false
set_option linter.unusedVariables false
namespace Go.Proofs.YtnecjdhamohadaaGreatDoor
open Go.RowKit Go.Maps Go.Shelf
set_option maxRecDepth 100000
theorem sorted_is {l o:List TT} (hp:o.Perm l) (hs:o.Pairwise (·≤·)):o=sortT l:=by
 refine List.Perm.eq_of_pairwise (le:=(·≤·)) (fun a b _ _ h1 h2=>List.le_antisymm h1 h2) hs (sortT_le l) (hp.trans (List.mergeSort_perm l _).symm)
theorem placed {A B:List TT} {x:TT} (hs:(A++B).Pairwise (·≤·)) (hb:∀ y∈B,x≤y) (ha:∀ a,A.getLast?=some a→a≤x):(A++x :: B).Pairwise (·≤·):=by
 rw [List.pairwise_append] at hs ⊢
 obtain⟨h1,h2,h3⟩:=hs
 refine⟨h1,List.pairwise_cons.2 ⟨hb,h2⟩,fun a hA y hy=>?_⟩
 rcases List.mem_cons.1 hy with rfl | hy
 ·rcases List.eq_nil_or_concat A with rfl | ⟨A',z,rfl⟩
  ·cases hA
  ·rw [List.concat_eq_append] at hA h1 ha
   have hz:=ha z (by simp)
   rcases List.mem_append.1 hA with h | h
   ·exact List.le_trans ((List.pairwise_append.1 h1).2.2 a h z (by simp)) hz
   ·have:a=z:=by simpa using h
    rw [this]
    exact hz
 ·exact h3 a hA y hy
theorem less_str (x y:TT):Go.Op.bytesLess (strB x).toList (strB y).toList=decide (x < y):=by rw [toList_strBT,toList_strBT];exact bytesLess_eq x y
theorem set_two (A B C:List TT) (a x:TT):((strV (A++[a]++x :: B++C)).set (A.length+1) (.string (strB a))).set A.length (.string (strB x))=strV (A++x :: a :: B++C):=by
 unfold strV
 simp only [List.map_append,List.map_cons,List.map_nil,List.append_assoc,List.cons_append,List.nil_append]
 rw [List.set_append_right _ _ (by simp),List.length_map,show A.length+1 - A.length=1 by omega,List.set_append_right _ _ (by simp),List.length_map,Nat.sub_self]
 rfl
set_option maxHeartbeats 16000000 in
theorem rsorted_any (w:World) (A:Option Addr) (c:Nat) (l:List TT) (hl:l.length≤1000000000) (hr:Rd w 1 A l.length (strV l)) :
  Calls Tryz.prog 82 #[.slice A l.length c] w (LPost w (sortT l)):=by
 obtain⟨n,hn⟩:∃ n,n=l.length:=⟨_,rfl⟩
 obtain⟨PQ,hPQ⟩:∃ PQ,PQ=LPost w (sortT l):=⟨_,rfl⟩
 rw [← hn] at hr hl ⊢
 rw [← hPQ]
 have HN:=hid2 hn
 have HPQ:=hid2 hPQ
 have hlim:(n:Int)≤1000000000:=by omega
 obtain⟨w1,hw1⟩:∃ w1,w1=w.alloc (.cells #[] 9):=⟨_,rfl⟩
 have hown1:Own w1 w.heap.size 9 1 (some ⟨w.heap.size,0,none⟩) 0 0 []:=by
  rw [hw1]
  exact Own.lit w #[] 9 1 0 w.heap.size (Nat.le_refl _) (Nat.zero_le _) rfl
 have hb1:Below w.heap.size w w1:=by rw [hw1];exact (Below.refl _ _).alloc (Nat.le_refl _) _
 have hr1:=hr.below_all hb1
 have hsz1:=hb1.size
 have hw1':=hw1.symm
 have HB1:=hid2 hb1
 have HO1:=hid2 hown1
 have hone:∀ u∈strV l,u.oneCell'=true:=fun u hu=>by
  unfold strV at hu
  obtain⟨x,_,rfl⟩:=List.mem_map.1 hu
  rfl
 clear hr hn hPQ hw1 hb1
 go_enter Tryz.func82,Tryz.ntmps82
 go_wp2_with (at_builtin;have _t:=hown1;go_must ((with_reducible refine wpList_append_lit 9 (.string ⟨#[]⟩) 1 16 Tryz.underlying32 info_str rfl w.heap.size (some ⟨w.heap.size,0,none⟩) 0 0 [] hown1 n (strV l) (.slice A n c) (Src.slice Tryz.underlying32 hr1) hone ?_ ?_ ?_ ?_ ?_);(unfold maxLen;omega);omega;exact hsz1;exact⟨rfl,rfl⟩;intro A3 c3 w3 hown3 hgr3 hbl3;rw [Nat.zero_add];rw [Nat.zero_add,List.nil_append] at hown3;have HO3:=hid2 hown3;have HB3:=hid2 (HB1.out.grown hgr3 hsz1 (fun k e=>(HO1.out.block k e).1));clear hown1 hr1 _t hown3 hgr3 hbl3))
 clear hone hsz1 hw1'
 go_loopg [4] n (fun gk iv wr=>Below w.heap.size w wr∧∃ (i:Nat) (o:List TT),i+gk=n+1∧1≤i∧iv = .int .i64 i∧Own wr w.heap.size 9 1 A3 n c3 (strV o)∧o.Perm l∧(o.take i).Pairwise (·≤·))
 case atStart =>
  refine⟨HB3.out,1,l,by omega,Nat.le_refl _,rfl,HO3.out,List.Perm.refl _,?_⟩
  cases l with
  | nil=>simp
  | cons x r=>simp
 case round =>
  obtain⟨hbe,i,o,hi,hi1,rfl,hown,hperm,hsort⟩:=hrel
  have hol:o.length=n:=by rw [HN.out];exact hperm.length_eq
  by_cases hlt:i < n
  ·have hil:(i:Int) < n:=by omega
   have hi0:(0:Int)≤i:=by omega
   obtain⟨gz,hgz⟩:∃ g0,g0=gk:=⟨_,rfl⟩
   have HG0:=hid2 hgz
   have HI:=hid2 hi
   have hiL:i < o.length:=by omega
   have hdec:o=o.take i++o[i] :: o.drop (i+1):=by rw [← List.drop_eq_getElem_cons hiL,List.take_append_drop]
   have HSTART:=hid2 (show ∃ (F:List TT) (x:TT) (B C:List TT),F.length=i∧B.length+i=i∧(F++B).Pairwise (·≤·)∧(∀ y∈B,x≤y)∧(F++x :: B++C).Perm l∧Own wr w.heap.size 9 1 A3 n c3 (strV (F++x :: B++C)) from by
    refine⟨o.take i,o[i],[],o.drop (i+1),by rw [List.length_take];omega,by simp,by rw [List.append_nil];exact hsort,fun y hy=>(by cases hy),?_,?_⟩
    ·rw [List.append_assoc,List.cons_append,List.nil_append,← hdec];exact hperm
    ·rw [List.append_assoc,List.cons_append,List.nil_append,← hdec];exact hown)
   have HBE:=hid2 hbe
   clear hbe hi hown hperm hsort hgz hiL hdec hol
   go_wp2_with fail
   go_loopg [5] i (fun gj kv wq=>Below w.heap.size w wq∧kv = .int .i64 gj∧∃ (F:List TT) (x:TT) (B C:List TT),F.length=gj∧B.length+gj=i∧(F++B).Pairwise (·≤·)∧(∀ y∈B,x≤y)∧(F++x :: B++C).Perm l∧Own wq w.heap.size 9 1 A3 n c3 (strV (F++x :: B++C)))
   case atStart=>exact⟨HBE.out,rfl,HSTART.out⟩
   case round =>
    obtain⟨hbq,rfl,F,x,B,C,hF,hBl,hs,hxb,hp,hown⟩:=hrel
    have HBQ:=hid2 hbq
    have hlen:(F++x :: B++C).length=n:=by rw [HN.out];exact hp.length_eq
    rcases List.eq_nil_or_concat F with hF0 | ⟨F',a,hF1⟩
    ·
     subst hF0
     have hg0:gk=0:=by rw [← hF];rfl
     subst hg0
     have HFIN:=hid2 (show ((x :: B++C).take (i+1)).Pairwise (·≤·) from by
      have e:(x :: B++C).take (i+1)=x :: B:=by
       rw [show i+1=(x :: B).length by rw [List.length_cons];omega]
       exact List.take_left
      rw [e]
      exact placed (A:=[]) hs hxb (fun a ha=>by cases ha))
     have HP:=hid2 hp
     have HOW:=hid2 hown
     clear hbq hF hBl hs hxb hp hown hlen
     go_wp2_with fail
     refine wp_region_grd 14 (by kernel_rfl) (by kernel_rfl) (by kernel_rfl) _ rfl (by kernel_rfl) (VV [some (.int .i64 (0:Nat)),some (.bool false),some (.bool false),some (undef),some (undef),some (undef),some (undef),some (undef),some (undef),some (undef),some (undef),some (undef),some (undef),some (.bool false)] (fun _ _ _=>False)) (fun w2=>Below wr.heap.size wr w2) (fun a b=>Below a.heap.size a b) ((Below.refl _ wr).drew) (fun j v w1 w2 hb hv=>VV.keep (fun h=>h.elim) hv) ?_ ?_
     ·refine of_allOps ⟨?_,?_,?_,?_,?_,?_,?_,?_,?_,?_,?_,?_,?_,?_,trivial⟩
      ·intro T2 w2 hM hN hO hE K hK
       have o5:T2[5]?=some (.int .i64 (0:Nat)):=hO 5 rfl
       clear hE hO hN
       refine step_plain0 rfl ?_
       go_simp
       exact hK _ _ rfl hM (Below.refl _ _)
      ·intro T2 w2 hM hN hO hE K hK
       obtain⟨v0,h0,e0⟩:=hE ⟨0,.data⟩ (by simp) rfl _ _ rfl rfl
       rw [show v0 = .int .i64 (0:Nat) from e0] at h0
       clear hE hO hN
       refine step_plain0 rfl ?_
       go_simp
       exact hK _ _ rfl hM (Below.refl _ _)
      ·intro T2 w2 hM hN hO hE K hK
       obtain⟨v1,h1,e1⟩:=hE ⟨1,.data⟩ (by simp) rfl _ _ rfl rfl
       rw [show v1 = .bool false from e1] at h1
       clear hE hO hN
       refine step_plain0 rfl ?_
       go_simp
       exact hK _ _ rfl hM (Below.refl _ _)
      ·intro T2 w2 hM hN hO hE K hK
       obtain⟨v2,h2,e2⟩:=hE ⟨2,.guard⟩ (by simp) rfl _ _ rfl rfl
       rw [show v2 = .bool false from e2] at h2
       clear hE hO hN
       refine grd_not rfl rfl rfl h2 (by decide) ?_
       exact hK _ _ rfl hM (Below.refl _ _)
      ·intro T2 w2 hM hN hO hE K hK
       obtain⟨v2,h2,e2⟩:=hE ⟨2,.guard⟩ (by simp) rfl _ _ rfl rfl
       rw [show v2 = .bool false from e2] at h2
       clear hE hO hN
       refine grd_not rfl rfl rfl h2 (by decide) ?_
       exact hK _ _ rfl hM (Below.refl _ _)
      ·intro T2 w2 hM hN hO hE K hK
       obtain⟨v2,h2,e2⟩:=hE ⟨2,.guard⟩ (by simp) rfl _ _ rfl rfl
       rw [show v2 = .bool false from e2] at h2
       clear hE hO hN
       refine grd_not rfl rfl rfl h2 (by decide) ?_
       exact hK _ _ rfl hM (Below.refl _ _)
      ·intro T2 w2 hM hN hO hE K hK
       obtain⟨v2,h2,e2⟩:=hE ⟨2,.guard⟩ (by simp) rfl _ _ rfl rfl
       rw [show v2 = .bool false from e2] at h2
       clear hE hO hN
       refine grd_not rfl rfl rfl h2 (by decide) ?_
       exact hK _ _ rfl hM (Below.refl _ _)
      ·intro T2 w2 hM hN hO hE K hK
       obtain⟨v2,h2,e2⟩:=hE ⟨2,.guard⟩ (by simp) rfl _ _ rfl rfl
       rw [show v2 = .bool false from e2] at h2
       clear hE hO hN
       refine grd_not rfl rfl rfl h2 (by decide) ?_
       exact hK _ _ rfl hM (Below.refl _ _)
      ·intro T2 w2 hM hN hO hE K hK
       obtain⟨v2,h2,e2⟩:=hE ⟨2,.guard⟩ (by simp) rfl _ _ rfl rfl
       rw [show v2 = .bool false from e2] at h2
       clear hE hO hN
       refine grd_not rfl rfl rfl h2 (by decide) ?_
       exact hK _ _ rfl hM (Below.refl _ _)
      ·intro T2 w2 hM hN hO hE K hK
       obtain⟨v2,h2,e2⟩:=hE ⟨2,.guard⟩ (by simp) rfl _ _ rfl rfl
       rw [show v2 = .bool false from e2] at h2
       clear hE hO hN
       refine grd_not rfl rfl rfl h2 (by decide) ?_
       exact hK _ _ rfl hM (Below.refl _ _)
      ·intro T2 w2 hM hN hO hE K hK
       obtain⟨v2,h2,e2⟩:=hE ⟨2,.guard⟩ (by simp) rfl _ _ rfl rfl
       rw [show v2 = .bool false from e2] at h2
       clear hE hO hN
       refine grd_not rfl rfl rfl h2 (by decide) ?_
       exact hK _ _ rfl hM (Below.refl _ _)
      ·intro T2 w2 hM hN hO hE K hK
       obtain⟨v2,h2,e2⟩:=hE ⟨2,.guard⟩ (by simp) rfl _ _ rfl rfl
       rw [show v2 = .bool false from e2] at h2
       clear hE hO hN
       refine grd_not rfl rfl rfl h2 (by decide) ?_
       exact hK _ _ rfl hM (Below.refl _ _)
      ·intro T2 w2 hM hN hO hE K hK
       obtain⟨v2,h2,e2⟩:=hE ⟨2,.guard⟩ (by simp) rfl _ _ rfl rfl
       rw [show v2 = .bool false from e2] at h2
       clear hE hO hN
       refine grd_not rfl rfl rfl h2 (by decide) ?_
       exact hK _ _ rfl hM (Below.refl _ _)
      ·intro T2 w2 hM hN hO hE K hK
       obtain⟨v2,h2,e2⟩:=hE ⟨2,.data⟩ (by simp) rfl _ _ rfl rfl
       rw [show v2 = .bool false from e2] at h2
       obtain⟨v12,h12,e12⟩:=hE ⟨12,.data⟩ (by simp) rfl _ _ rfl rfl
       rw [show v12=undef from e12] at h12
       clear hE hO hN
       refine step_plain0 rfl ?_
       go_simp
       exact hK _ _ rfl hM (Below.refl _ _)
     ·intro u w2 hM hF
      have e13:u 13 = .bool false:=hF 13 (by omega)
      clear hF
      simp only [fillAll,Nat.reduceAdd,e13,List.take_succ_cons,List.take_zero,List.drop_succ_cons,List.drop_zero,List.setIfInBounds_toArray,List.set_cons_succ,List.set_cons_zero]
      have hbf:=HBQ.out.trans (hM.mono HBQ.out.size)
      have hof:=HOW.out.below hM (Nat.le_refl _)
      have HBF:=hid2 hbf
      have HOF:=hid2 hof
      clear hM hbf hof
      go_wp2_with fail
      go_roundg (gz - 1)
      case rel=>exact⟨HBF.out,i+1,x :: B++C,by have:=HI.out;have:=HG0.out;omega,by omega,by go_num,HOF.out,HP.out,HFIN.out⟩
      case measure=>have:=HI.out;have:=HG0.out;omega
    ·rw [List.concat_eq_append] at hF1
     subst hF1
     obtain⟨k,hk⟩:∃ k,k=F'.length:=⟨_,rfl⟩
     have hgk:gk=k+1:=by rw [← hF,List.length_append,hk];rfl
     subst hgk
     have hkn:k+1 < n:=by omega
     have hx1:(strV (F'++[a]++x :: B++C))[k+1]?=some (.string (strB x)):=by
      refine strV_at ?_
      rw [List.append_assoc,List.append_assoc,List.getElem?_append_right (by omega),← hk,show k+1 - k=1 by omega]
      rfl
     have ha1:(strV (F'++[a]++x :: B++C))[k]?=some (.string (strB a)):=by
      refine strV_at ?_
      rw [List.append_assoc,List.append_assoc,List.getElem?_append_right (by omega),← hk,Nat.sub_self]
      rfl
     obtain⟨b1,o1,hA3,hcells⟩:=hown.rd.2 (by omega)
     subst hA3
     have hcx:=hcells _ _ hx1
     have hca:=hcells _ _ ha1
     obtain⟨SX,hSX⟩:∃ S,S=strB x:=⟨_,rfl⟩
     obtain⟨SA,hSA⟩:∃ S,S=strB a:=⟨_,rfl⟩
     rw [← hSX] at hcx
     rw [← hSA] at hca
     have hlts:Go.Op.bytesLess SX.toList SA.toList=decide (x < a):=by rw [hSX,hSA];exact less_str x a
     have hblt:b1 < wr.heap.size:=World.block_lt_of_cell? _ _ hcx
     have HC:=hid2 (show ∀ w2,Below wr.heap.size wr w2→w2.cell? ⟨b1,o1+(k+1),none⟩=some (.string SX)∧w2.cell? ⟨b1,o1+k,none⟩=some (.string SA) from fun w2 hb=>⟨(hb.cell (p:=⟨b1,o1+(k+1),none⟩) hblt).trans hcx,(hb.cell (p:=⟨b1,o1+k,none⟩) hblt).trans hca⟩)
     have hk1:((k+1:Nat):Int)=(k:Int)+1:=by omega
     rw [hk1]
     have hkp:(0:Int) < (k:Int)+1:=by omega
     have hkm:(k:Int)+1 - 1=k:=by omega
     have hk0:(0:Int)≤k:=by omega
     have hkl:(k:Int)+1 < n:=by omega
     have hkl2:(k:Int) < n:=by omega
     have hwm:IntKind.i64.wrap ((k:Int)+1 - 1)=k:=by rw [hkm];exact IntWalk.i64_in _ (by constructor <;> omega)
     have hkt:((k:Int)+1).toNat=k+1:=by omega
     have hwk:IntKind.i64.wrap (k:Int)=k:=IntWalk.i64_in _ (by constructor <;> omega)
     have HOW:=hid2 hown
     have HSX:=hid2 hSX
     have HSA:=hid2 hSA
     have HKF:=hid2 hk
     by_cases hxa:x < a
     ·have hlt1:Go.Op.bytesLess SX.toList SA.toList=true:=by rw [hlts,decide_eq_true hxa]
      have HP2:=hid2 (show (F'++x :: (a :: B)++C).Perm l from by
       refine List.Perm.trans ?_ hp
       refine List.Perm.append_right C ?_
       rw [List.append_assoc]
       exact List.Perm.append_left F' (List.Perm.swap a x B))
      have HS2:=hid2 (show (F'++a :: B).Pairwise (·≤·) from by
       rw [List.append_assoc] at hs
       exact hs)
      have HX2:=hid2 (show ∀ y∈a :: B,x≤y from fun y hy=>by
       rcases List.mem_cons.1 hy with rfl | hy
       ·exact List.le_of_lt hxa
       ·exact hxb y hy)
      have HBL:=hid2 hBl
      clear hbq hF hBl hs hxb hp hown hlen hx1 ha1 hcells hSX hSA hlts hblt hcx hca hxa hk hk1
      go_wp2_with fail
      refine wp_region_grd 14 (by kernel_rfl) (by kernel_rfl) (by kernel_rfl) _ rfl (by kernel_rfl) (VV [some (.int .i64 ((k:Int)+1)),some (.bool true),some (.bool true),some (.slice (some ⟨b1,o1,none⟩) n c3),some (.int .i64 ((k:Int)+1)),some (.pointer (some ⟨b1,o1+(k+1),none⟩)),some (.string SX),some (.slice (some ⟨b1,o1,none⟩) n c3),some (.int .i64 ((k:Int)+1)),some (.int .i64 k),some (.pointer (some ⟨b1,o1+k,none⟩)),some (.string SA),some (.bool true),some (.bool true)] (fun _ _ _=>False)) (fun w2=>Below wr.heap.size wr w2) (fun a b=>Below a.heap.size a b) ((Below.refl _ wr).drew) (fun j v w1 w2 hb hv=>VV.keep (fun h=>h.elim) hv) ?_ ?_
      ·refine of_allOps ⟨?_,?_,?_,?_,?_,?_,?_,?_,?_,?_,?_,?_,?_,?_,trivial⟩
       ·intro T2 w2 hM hN hO hE K hK
        have o5:T2[5]?=some (.int .i64 ((k:Int)+1)):=hO 5 rfl
        clear hE hO hN
        refine step_plain0 rfl ?_
        go_simp
        exact hK _ _ rfl hM (Below.refl _ _)
       ·intro T2 w2 hM hN hO hE K hK
        obtain⟨v0,h0,e0⟩:=hE ⟨0,.data⟩ (by simp) rfl _ _ rfl rfl
        rw [show v0 = .int .i64 ((k:Int)+1) from e0] at h0
        clear hE hO hN
        refine step_plain0 rfl ?_
        go_simp
        exact hK _ _ rfl hM (Below.refl _ _)
       ·intro T2 w2 hM hN hO hE K hK
        obtain⟨v1,h1,e1⟩:=hE ⟨1,.data⟩ (by simp) rfl _ _ rfl rfl
        rw [show v1 = .bool true from e1] at h1
        clear hE hO hN
        refine step_plain0 rfl ?_
        go_simp
        exact hK _ _ rfl hM (Below.refl _ _)
       ·intro T2 w2 hM hN hO hE K hK
        have o3:T2[3]?=some (.slice (some ⟨b1,o1,none⟩) n c3):=hO 3 rfl
        obtain⟨v2,h2,e2⟩:=hE ⟨2,.guard⟩ (by simp) rfl _ _ rfl rfl
        rw [show v2 = .bool true from e2] at h2
        clear hE hO hN
        refine grd_met rfl rfl rfl h2 ?_
        go_simp
        exact hK _ _ rfl hM (Below.refl _ _)
       ·intro T2 w2 hM hN hO hE K hK
        have o5:T2[5]?=some (.int .i64 ((k:Int)+1)):=hO 5 rfl
        obtain⟨v2,h2,e2⟩:=hE ⟨2,.guard⟩ (by simp) rfl _ _ rfl rfl
        rw [show v2 = .bool true from e2] at h2
        clear hE hO hN
        refine grd_met rfl rfl rfl h2 ?_
        go_simp
        exact hK _ _ rfl hM (Below.refl _ _)
       ·intro T2 w2 hM hN hO hE K hK
        obtain⟨v3,h3,e3⟩:=hE ⟨3,.data⟩ (by simp) rfl _ _ rfl rfl
        rw [show v3 = .slice (some ⟨b1,o1,none⟩) n c3 from e3] at h3
        obtain⟨v4,h4,e4⟩:=hE ⟨4,.data⟩ (by simp) rfl _ _ rfl rfl
        rw [show v4 = .int .i64 ((k:Int)+1) from e4] at h4
        obtain⟨v2,h2,e2⟩:=hE ⟨2,.guard⟩ (by simp) rfl _ _ rfl rfl
        rw [show v2 = .bool true from e2] at h2
        clear hE hO hN
        refine grd_met rfl rfl rfl h2 ?_
        go_simp
        exact hK _ _ rfl hM (Below.refl _ _)
       ·intro T2 w2 hM hN hO hE K hK
        obtain⟨v5,h5,e5⟩:=hE ⟨5,.data⟩ (by simp) rfl _ _ rfl rfl
        rw [show v5 = .pointer (some ⟨b1,o1+(k+1),none⟩) from e5] at h5
        obtain⟨v2,h2,e2⟩:=hE ⟨2,.guard⟩ (by simp) rfl _ _ rfl rfl
        rw [show v2 = .bool true from e2] at h2
        clear hE hO hN
        refine grd_met rfl rfl rfl h2 ?_
        obtain⟨y1,y2⟩:=HC.out w2 hM
        go_simp
        exact hK _ _ rfl hM (Below.refl _ _)
       ·intro T2 w2 hM hN hO hE K hK
        have o3:T2[3]?=some (.slice (some ⟨b1,o1,none⟩) n c3):=hO 3 rfl
        obtain⟨v2,h2,e2⟩:=hE ⟨2,.guard⟩ (by simp) rfl _ _ rfl rfl
        rw [show v2 = .bool true from e2] at h2
        clear hE hO hN
        refine grd_met rfl rfl rfl h2 ?_
        go_simp
        exact hK _ _ rfl hM (Below.refl _ _)
       ·intro T2 w2 hM hN hO hE K hK
        have o5:T2[5]?=some (.int .i64 ((k:Int)+1)):=hO 5 rfl
        obtain⟨v2,h2,e2⟩:=hE ⟨2,.guard⟩ (by simp) rfl _ _ rfl rfl
        rw [show v2 = .bool true from e2] at h2
        clear hE hO hN
        refine grd_met rfl rfl rfl h2 ?_
        go_simp
        exact hK _ _ rfl hM (Below.refl _ _)
       ·intro T2 w2 hM hN hO hE K hK
        obtain⟨v8,h8,e8⟩:=hE ⟨8,.data⟩ (by simp) rfl _ _ rfl rfl
        rw [show v8 = .int .i64 ((k:Int)+1) from e8] at h8
        obtain⟨v2,h2,e2⟩:=hE ⟨2,.guard⟩ (by simp) rfl _ _ rfl rfl
        rw [show v2 = .bool true from e2] at h2
        clear hE hO hN
        refine grd_met rfl rfl rfl h2 ?_
        go_simp
        exact hK _ _ rfl hM (Below.refl _ _)
       ·intro T2 w2 hM hN hO hE K hK
        obtain⟨v7,h7,e7⟩:=hE ⟨7,.data⟩ (by simp) rfl _ _ rfl rfl
        rw [show v7 = .slice (some ⟨b1,o1,none⟩) n c3 from e7] at h7
        obtain⟨v9,h9,e9⟩:=hE ⟨9,.data⟩ (by simp) rfl _ _ rfl rfl
        rw [show v9 = .int .i64 k from e9] at h9
        obtain⟨v2,h2,e2⟩:=hE ⟨2,.guard⟩ (by simp) rfl _ _ rfl rfl
        rw [show v2 = .bool true from e2] at h2
        clear hE hO hN
        refine grd_met rfl rfl rfl h2 ?_
        go_simp
        exact hK _ _ rfl hM (Below.refl _ _)
       ·intro T2 w2 hM hN hO hE K hK
        obtain⟨v10,h10,e10⟩:=hE ⟨10,.data⟩ (by simp) rfl _ _ rfl rfl
        rw [show v10 = .pointer (some ⟨b1,o1+k,none⟩) from e10] at h10
        obtain⟨v2,h2,e2⟩:=hE ⟨2,.guard⟩ (by simp) rfl _ _ rfl rfl
        rw [show v2 = .bool true from e2] at h2
        clear hE hO hN
        refine grd_met rfl rfl rfl h2 ?_
        obtain⟨y1,y2⟩:=HC.out w2 hM
        go_simp
        exact hK _ _ rfl hM (Below.refl _ _)
       ·intro T2 w2 hM hN hO hE K hK
        obtain⟨v6,h6,e6⟩:=hE ⟨6,.data⟩ (by simp) rfl _ _ rfl rfl
        rw [show v6 = .string SX from e6] at h6
        obtain⟨v11,h11,e11⟩:=hE ⟨11,.data⟩ (by simp) rfl _ _ rfl rfl
        rw [show v11 = .string SA from e11] at h11
        obtain⟨v2,h2,e2⟩:=hE ⟨2,.guard⟩ (by simp) rfl _ _ rfl rfl
        rw [show v2 = .bool true from e2] at h2
        clear hE hO hN
        refine grd_met rfl rfl rfl h2 ?_
        go_simp
        exact hK _ _ rfl hM (Below.refl _ _)
       ·intro T2 w2 hM hN hO hE K hK
        obtain⟨v2,h2,e2⟩:=hE ⟨2,.data⟩ (by simp) rfl _ _ rfl rfl
        rw [show v2 = .bool true from e2] at h2
        obtain⟨v12,h12,e12⟩:=hE ⟨12,.data⟩ (by simp) rfl _ _ rfl rfl
        rw [show v12 = .bool true from e12] at h12
        clear hE hO hN
        refine step_plain0 rfl ?_
        go_simp
        exact hK _ _ rfl hM (Below.refl _ _)
      ·intro u w4 hM hF
       have e13:u 13 = .bool true:=hF 13 (by omega)
       clear hF
       simp only [fillAll,Nat.reduceAdd,e13,List.take_succ_cons,List.take_zero,List.drop_succ_cons,List.drop_zero,List.setIfInBounds_toArray,List.set_cons_succ,List.set_cons_zero]
       obtain⟨c1,c2⟩:=HC.out w4 hM
       have ho4:=HOW.out.below hM (Nat.le_refl _)
       have HB4:=hid2 (HBQ.out.trans (hM.mono HBQ.out.size))
       obtain⟨b2,o2,u2,e2,hbb,hbs,hu2,hcl2,hfr2,hset2⟩:=ho4.spot (j:=k+1) (by omega)
       obtain⟨b3,o3,u3,e3,_,_,hu3,hcl3,hfr3,_⟩:=ho4.spot (j:=k) (by omega)
       cases e2
       cases e3
       have hown5:=hset2 (.string SA)
       obtain⟨b5,o5,u5',e5,_,_,_,hcl5,hfr5,hset5⟩:=hown5.spot (j:=k) (by omega)
       cases e5
       have hown6:=hset5 (.string SX)
       have HB5:=hid2 (hbb)
       have HO6:=hid2 hown6
       clear hM hu2 hu3 hcl2 hcl3 hset2 hset5 hown5 hown6 ho4 HOW HC hcl5 hfr5
       go_upto_region 8 with fail
       go_region
       go_wp2_with fail
       have hown7:=HO6.out
       rw [HSX.out,HSA.out,HKF.out,set_two] at hown7
       rw [← HSX.out,← HSA.out,← HKF.out] at hown7
       have hb7:=(HB4.out.setCell (p:=⟨b1,o1+(k+1),none⟩) HB5.out (.string SA)).setCell (p:=⟨b1,o1+k,none⟩) HB5.out (.string SX)
       go_roundg k
       case rel=>exact⟨by first | exact hb7 | exact hb7.drew,rfl,F',x,a :: B,C,HKF.out.symm,by have:=HBL.out;rw [List.length_cons];omega,HS2.out,HX2.out,HP2.out,by first | exact hown7 | exact hown7.drew⟩
       case measure=>omega
     ·have hlt1:Go.Op.bytesLess SX.toList SA.toList=false:=by rw [hlts,decide_eq_false hxa]
      have HFIN:=hid2 (show ((F'++[a]++x :: B++C).take (i+1)).Pairwise (·≤·) from by
       have e:(F'++[a]++x :: B++C).take (i+1)=F'++[a]++x :: B:=by
        rw [show i+1=(F'++[a]++x :: B).length by simp only [List.length_append,List.length_cons,List.length_nil];omega]
        exact List.take_left
       rw [e]
       exact placed hs hxb (fun z hz=>by
        have:a=z:=by simpa using hz
        rw [← this]
        exact List.not_lt.1 hxa))
      have HP:=hid2 hp
      clear hbq hF hBl hs hxb hp hown hlen hx1 ha1 hcells hSX hSA hlts hblt hcx hca hxa hk hk1
      go_wp2_with fail
      refine wp_region_grd 14 (by kernel_rfl) (by kernel_rfl) (by kernel_rfl) _ rfl (by kernel_rfl) (VV [some (.int .i64 ((k:Int)+1)),some (.bool true),some (.bool true),some (.slice (some ⟨b1,o1,none⟩) n c3),some (.int .i64 ((k:Int)+1)),some (.pointer (some ⟨b1,o1+(k+1),none⟩)),some (.string SX),some (.slice (some ⟨b1,o1,none⟩) n c3),some (.int .i64 ((k:Int)+1)),some (.int .i64 k),some (.pointer (some ⟨b1,o1+k,none⟩)),some (.string SA),some (.bool false),some (.bool false)] (fun _ _ _=>False)) (fun w2=>Below wr.heap.size wr w2) (fun a b=>Below a.heap.size a b) ((Below.refl _ wr).drew) (fun j v w1 w2 hb hv=>VV.keep (fun h=>h.elim) hv) ?_ ?_
      ·refine of_allOps ⟨?_,?_,?_,?_,?_,?_,?_,?_,?_,?_,?_,?_,?_,?_,trivial⟩
       ·intro T2 w2 hM hN hO hE K hK
        have o5:T2[5]?=some (.int .i64 ((k:Int)+1)):=hO 5 rfl
        clear hE hO hN
        refine step_plain0 rfl ?_
        go_simp
        exact hK _ _ rfl hM (Below.refl _ _)
       ·intro T2 w2 hM hN hO hE K hK
        obtain⟨v0,h0,e0⟩:=hE ⟨0,.data⟩ (by simp) rfl _ _ rfl rfl
        rw [show v0 = .int .i64 ((k:Int)+1) from e0] at h0
        clear hE hO hN
        refine step_plain0 rfl ?_
        go_simp
        exact hK _ _ rfl hM (Below.refl _ _)
       ·intro T2 w2 hM hN hO hE K hK
        obtain⟨v1,h1,e1⟩:=hE ⟨1,.data⟩ (by simp) rfl _ _ rfl rfl
        rw [show v1 = .bool true from e1] at h1
        clear hE hO hN
        refine step_plain0 rfl ?_
        go_simp
        exact hK _ _ rfl hM (Below.refl _ _)
       ·intro T2 w2 hM hN hO hE K hK
        have o3:T2[3]?=some (.slice (some ⟨b1,o1,none⟩) n c3):=hO 3 rfl
        obtain⟨v2,h2,e2⟩:=hE ⟨2,.guard⟩ (by simp) rfl _ _ rfl rfl
        rw [show v2 = .bool true from e2] at h2
        clear hE hO hN
        refine grd_met rfl rfl rfl h2 ?_
        go_simp
        exact hK _ _ rfl hM (Below.refl _ _)
       ·intro T2 w2 hM hN hO hE K hK
        have o5:T2[5]?=some (.int .i64 ((k:Int)+1)):=hO 5 rfl
        obtain⟨v2,h2,e2⟩:=hE ⟨2,.guard⟩ (by simp) rfl _ _ rfl rfl
        rw [show v2 = .bool true from e2] at h2
        clear hE hO hN
        refine grd_met rfl rfl rfl h2 ?_
        go_simp
        exact hK _ _ rfl hM (Below.refl _ _)
       ·intro T2 w2 hM hN hO hE K hK
        obtain⟨v3,h3,e3⟩:=hE ⟨3,.data⟩ (by simp) rfl _ _ rfl rfl
        rw [show v3 = .slice (some ⟨b1,o1,none⟩) n c3 from e3] at h3
        obtain⟨v4,h4,e4⟩:=hE ⟨4,.data⟩ (by simp) rfl _ _ rfl rfl
        rw [show v4 = .int .i64 ((k:Int)+1) from e4] at h4
        obtain⟨v2,h2,e2⟩:=hE ⟨2,.guard⟩ (by simp) rfl _ _ rfl rfl
        rw [show v2 = .bool true from e2] at h2
        clear hE hO hN
        refine grd_met rfl rfl rfl h2 ?_
        go_simp
        exact hK _ _ rfl hM (Below.refl _ _)
       ·intro T2 w2 hM hN hO hE K hK
        obtain⟨v5,h5,e5⟩:=hE ⟨5,.data⟩ (by simp) rfl _ _ rfl rfl
        rw [show v5 = .pointer (some ⟨b1,o1+(k+1),none⟩) from e5] at h5
        obtain⟨v2,h2,e2⟩:=hE ⟨2,.guard⟩ (by simp) rfl _ _ rfl rfl
        rw [show v2 = .bool true from e2] at h2
        clear hE hO hN
        refine grd_met rfl rfl rfl h2 ?_
        obtain⟨y1,y2⟩:=HC.out w2 hM
        go_simp
        exact hK _ _ rfl hM (Below.refl _ _)
       ·intro T2 w2 hM hN hO hE K hK
        have o3:T2[3]?=some (.slice (some ⟨b1,o1,none⟩) n c3):=hO 3 rfl
        obtain⟨v2,h2,e2⟩:=hE ⟨2,.guard⟩ (by simp) rfl _ _ rfl rfl
        rw [show v2 = .bool true from e2] at h2
        clear hE hO hN
        refine grd_met rfl rfl rfl h2 ?_
        go_simp
        exact hK _ _ rfl hM (Below.refl _ _)
       ·intro T2 w2 hM hN hO hE K hK
        have o5:T2[5]?=some (.int .i64 ((k:Int)+1)):=hO 5 rfl
        obtain⟨v2,h2,e2⟩:=hE ⟨2,.guard⟩ (by simp) rfl _ _ rfl rfl
        rw [show v2 = .bool true from e2] at h2
        clear hE hO hN
        refine grd_met rfl rfl rfl h2 ?_
        go_simp
        exact hK _ _ rfl hM (Below.refl _ _)
       ·intro T2 w2 hM hN hO hE K hK
        obtain⟨v8,h8,e8⟩:=hE ⟨8,.data⟩ (by simp) rfl _ _ rfl rfl
        rw [show v8 = .int .i64 ((k:Int)+1) from e8] at h8
        obtain⟨v2,h2,e2⟩:=hE ⟨2,.guard⟩ (by simp) rfl _ _ rfl rfl
        rw [show v2 = .bool true from e2] at h2
        clear hE hO hN
        refine grd_met rfl rfl rfl h2 ?_
        go_simp
        exact hK _ _ rfl hM (Below.refl _ _)
       ·intro T2 w2 hM hN hO hE K hK
        obtain⟨v7,h7,e7⟩:=hE ⟨7,.data⟩ (by simp) rfl _ _ rfl rfl
        rw [show v7 = .slice (some ⟨b1,o1,none⟩) n c3 from e7] at h7
        obtain⟨v9,h9,e9⟩:=hE ⟨9,.data⟩ (by simp) rfl _ _ rfl rfl
        rw [show v9 = .int .i64 k from e9] at h9
        obtain⟨v2,h2,e2⟩:=hE ⟨2,.guard⟩ (by simp) rfl _ _ rfl rfl
        rw [show v2 = .bool true from e2] at h2
        clear hE hO hN
        refine grd_met rfl rfl rfl h2 ?_
        go_simp
        exact hK _ _ rfl hM (Below.refl _ _)
       ·intro T2 w2 hM hN hO hE K hK
        obtain⟨v10,h10,e10⟩:=hE ⟨10,.data⟩ (by simp) rfl _ _ rfl rfl
        rw [show v10 = .pointer (some ⟨b1,o1+k,none⟩) from e10] at h10
        obtain⟨v2,h2,e2⟩:=hE ⟨2,.guard⟩ (by simp) rfl _ _ rfl rfl
        rw [show v2 = .bool true from e2] at h2
        clear hE hO hN
        refine grd_met rfl rfl rfl h2 ?_
        obtain⟨y1,y2⟩:=HC.out w2 hM
        go_simp
        exact hK _ _ rfl hM (Below.refl _ _)
       ·intro T2 w2 hM hN hO hE K hK
        obtain⟨v6,h6,e6⟩:=hE ⟨6,.data⟩ (by simp) rfl _ _ rfl rfl
        rw [show v6 = .string SX from e6] at h6
        obtain⟨v11,h11,e11⟩:=hE ⟨11,.data⟩ (by simp) rfl _ _ rfl rfl
        rw [show v11 = .string SA from e11] at h11
        obtain⟨v2,h2,e2⟩:=hE ⟨2,.guard⟩ (by simp) rfl _ _ rfl rfl
        rw [show v2 = .bool true from e2] at h2
        clear hE hO hN
        refine grd_met rfl rfl rfl h2 ?_
        go_simp
        exact hK _ _ rfl hM (Below.refl _ _)
       ·intro T2 w2 hM hN hO hE K hK
        obtain⟨v2,h2,e2⟩:=hE ⟨2,.data⟩ (by simp) rfl _ _ rfl rfl
        rw [show v2 = .bool true from e2] at h2
        obtain⟨v12,h12,e12⟩:=hE ⟨12,.data⟩ (by simp) rfl _ _ rfl rfl
        rw [show v12 = .bool false from e12] at h12
        clear hE hO hN
        refine step_plain0 rfl ?_
        go_simp
        exact hK _ _ rfl hM (Below.refl _ _)
      ·intro u w2 hM hF
       have e13:u 13 = .bool false:=hF 13 (by omega)
       clear hF
       simp only [fillAll,Nat.reduceAdd,e13,List.take_succ_cons,List.take_zero,List.drop_succ_cons,List.drop_zero,List.setIfInBounds_toArray,List.set_cons_succ,List.set_cons_zero]
       have hbf:=HBQ.out.trans (hM.mono HBQ.out.size)
       have hof:=HOW.out.below hM (Nat.le_refl _)
       have HBF:=hid2 hbf
       have HOF:=hid2 hof
       clear hM hbf hof
       go_wp2_with fail
       go_roundg (gz - 1)
       case rel=>exact⟨HBF.out,i+1,F'++[a]++x :: B++C,by have:=HI.out;have:=HG0.out;omega,by omega,by go_num,HOF.out,HP.out,HFIN.out⟩
       case measure=>have:=HI.out;have:=HG0.out;omega
  ·have hil:¬ (i:Int) < n:=by omega
   rw [List.take_of_length_le (by omega)] at hsort
   have hos:=sorted_is hperm hsort
   have HO:=hid2 hos
   have HOW:=hid2 hown
   have HBE:=hid2 hbe
   clear hbe hi hown hperm hsort hos hol
   go_wp2_with fail
   rw [HPQ.out]
   have hln:(sortT l).length=n:=by rw [sortT_length];exact HN.out.symm
   exact⟨A3,c3,by rw [hln],by rw [hln,← HO.out];exact HOW.out,HBE.out⟩
end Go.Proofs.YtnecjdhamohadaaGreatDoor
