/- The walks of the document's Part and May. -/
import Derived.Test.YtnecjdhamohadaaGreatDoorPMPath5
set_option linter.unusedSimpArgs false
set_option linter.unusedVariables false
set_option maxRecDepth 100000
namespace Go.Proofs.YtnecjdhamohadaaGreatDoor
open Go.RowKit
theorem all_take_false {l:List UInt8} {k:Nat} (h:k < l.length) (hb:signB l[k]=false):l.all signB=false:=by
  rw [← Bool.not_eq_true,List.all_eq_true]
  intro ha
  have:=ha _ (List.getElem_mem h)
  rw [hb] at this;cases this
theorem all_take_succ {l:List UInt8} {k:Nat} (h:k < l.length) (ha:(l.take k).all signB=true) (hb:signB l[k]=true):(l.take (k+1)).all signB=true:=by
  rw [List.take_succ_eq_append_getElem h,List.all_append,ha];simp [hb]
set_option maxHeartbeats 2000000 in
set_option maxRecDepth 100000 in
theorem refpart_any (w:World) (s:ByteArray):Calls Tryz.prog 79 #[.string s] w fun e w'=>e = .returned (.bool (partB s.data.toList))∧w'=w:=by
  have hsz:=hid2 (toList_length s)
  have hl:=hid2 (ByteArray.toList_eq s)
  by_cases h64:s.size≤64
  · have h64':(s.size:Int)≤64:=by omega
    by_cases h0:s.toList=[]
    · rw [partB_0 (hl.out ▸ h0)]
      go_enter Tryz.func79,Tryz.ntmps79
      go_wp2_with fail
      go_ret
      exact⟨rfl,rfl⟩
    by_cases h1:s.toList=[46]
    · rw [partB_1 (hl.out ▸ h1)]
      have e1:(s.toList == [46])=true:=by rw [h1];rfl
      have e0:s.toList.isEmpty=false:=by rw [h1];rfl
      clear h0 h1
      go_enter Tryz.func79,Tryz.ntmps79
      go_wp2_with fail
      go_ret
      exact⟨rfl,rfl⟩
    by_cases h2:s.toList=[46,46]
    · rw [partB_2 (hl.out ▸ h2)]
      have e2:(s.toList == [46,46])=true:=by rw [h2];rfl
      have e1:(s.toList == [46])=false:=by rw [h2];rfl
      have e0:s.toList.isEmpty=false:=by rw [h2];rfl
      clear h0 h1 h2
      go_enter Tryz.func79,Tryz.ntmps79
      go_wp2_with fail
      go_ret
      exact⟨rfl,rfl⟩
    · rw [partB_all (hl.out ▸ h0) (hl.out ▸ h1) (hl.out ▸ h2) (by rw [hsz.out];exact h64)]
      have e2:(s.toList == [46,46])=false:=by simpa using h2
      have e1:(s.toList == [46])=false:=by simpa using h1
      have e0:s.toList.isEmpty=false:=by cases h:s.toList <;> simp_all
      clear h0 h1 h2
      obtain⟨l,hL⟩:∃ l,l=s.data.toList:=⟨_,rfl⟩
      rw [← hL]
      have HL:=hid2 hL
      clear hL
      go_enter Tryz.func79,Tryz.ntmps79
      go_wp2_with fail
      go_loop [3] (fun i=>∃ k:Nat,k≤s.size∧i = .int .i64 k∧Hid2 ((l.take k).all signB=true)) (fun i=>s.size - (intOf i).toNat)
      case atStart=>exact⟨0,Nat.zero_le _,rfl,hid2 rfl⟩
      case round =>
        obtain⟨k,hk,rfl,hall⟩:=hrel
        by_cases hlt:k < s.size
        · have hkl:Hid2 (k < l.length):=hid2 (by rw [HL.out,hsz.out];exact hlt)
          have hb:Hid2 (l[k]'hkl.out=s[k]'hlt):=hid2 (by simp only [HL.out];simp;rfl)
          go_wp2_with fail
          all_goals first
            | (have hy:signB (s[k]'hlt)=true:=by
                 rw [signB_int]
                 simp only [Bool.not_eq_true',Bool.not_eq_false',decide_eq_true_eq,decide_eq_false_iff_not,bne_iff_ne,bne_eq_false_iff_eq,ne_eq,Decidable.not_not] at *
                 omega
               have hall2:Hid2 ((l.take (k+1)).all signB=true):=hid2 (all_take_succ hkl.out hall.out (by rw [hb.out];exact hy))
               clear hy
               go_round
               case rel=>exact⟨k+1,by omega,by go_num,hall2⟩
               case measure=>simp [intOf];omega)
            | (have hy:signB (s[k]'hlt)=false:=by
                 rw [← Bool.not_eq_true,signB_int]
                 simp only [Bool.not_eq_true',Bool.not_eq_false',decide_eq_true_eq,decide_eq_false_iff_not,bne_iff_ne,bne_eq_false_iff_eq,ne_eq,Decidable.not_not] at *
                 omega
               have hall2:Hid2 (l.all signB=false):=hid2 (all_take_false hkl.out (by rw [hb.out];exact hy))
               clear hy
               go_ret
               exact⟨by rw [hall2.out];rfl,rfl⟩)
        · have hkall:Hid2 (l.all signB=true):=hid2 (by rw [← List.take_of_length_le (l:=l) (i:=k) (by rw [HL.out,hsz.out];omega)];exact hall.out)
          go_wp2_with fail
          go_ret
          exact⟨by rw [hkall.out];rfl,rfl⟩
  · rw [partB_64 (by rw [hsz.out];exact h64)]
    have h64':(64:Int) < s.size:=by omega
    go_enter Tryz.func79,Tryz.ntmps79
    go_wp2_with fail
    all_goals go_ret
    all_goals exact⟨by simp,rfl⟩
theorem refmay_any (w:World) (s:ByteArray) (hs:s.size≤100000):Calls Tryz.prog 51 #[.string s] w fun e w'=>e = .returned (.bool (mayB s.data.toList))∧Below w.heap.size w w':=by
  obtain⟨l,hL⟩:∃ l,l=s.data.toList:=⟨_,rfl⟩
  rw [← hL]
  have HL:=hid2 hL
  clear hL
  obtain⟨L,hLs⟩:∃ L,L=splitL l:=⟨_,rfl⟩
  obtain⟨N,hN⟩:∃ N,N=L.length:=⟨_,rfl⟩
  have hNb:(N:Int)≤100001:=by
    have:=splitL_length_le l
    rw [HL.out,toList_length] at this
    rw [hN,hLs,HL.out]
    omega
  have HLs:=hid2 hLs
  have HN:=hid2 hN
  clear hLs hN
  go_enter Tryz.func51,Tryz.ntmps51
  go_wp2_with (first | (go_at_call 78; refine (parts_any _ _ hs).mono ?_;rintro e w1 ⟨A,c,rfl,hr,hb⟩;rw [← HL.out,← HLs.out,← HN.out] at hr;rw [← HL.out,← HLs.out,← HN.out]))
  go_loop [4] (fun i=>∃ k:Nat,k≤N∧i = .int .i64 k∧Hid2 ((L.take k).all partB=true)) (fun i=>N - (intOf i).toNat)
  case atStart=>exact⟨0,Nat.zero_le _,rfl,hid2 rfl⟩
  case round =>
    obtain⟨k,hk,rfl,hall⟩:=hrel
    by_cases hlt:k < N
    · have hkl:Hid2 (k < L.length):=hid2 (by rw [← HN.out];exact hlt)
      have hlt':(k:Int) < N:=by omega
      obtain⟨b,o,rfl,hcell⟩:=hr.cell (j:=k) (by rw [strV_length];exact hkl.out)
      have hget:(strV L)[k]'(by rw [strV_length];exact hkl.out) = .string (strB (L[k]'hkl.out)):=by simp [strV]
      rw [hget] at hcell
      clear hget
      obtain⟨P,hP⟩:∃ P,P=strB (L[k]'hkl.out):=⟨_,rfl⟩
      rw [← hP] at hcell
      have hPl:P.data.toList=L[k]'hkl.out:=by rw [hP,strB_list]
      have hpc:=refpart_any
      by_cases hx:partB (L[k]'hkl.out)=true
      · have hpc:∀ w,Calls Tryz.prog 79 #[.string P] w fun e w'=>e = .returned (.bool true)∧w'=w:=fun w=>by
          have:=refpart_any w P
          rw [hPl,hx] at this
          exact this
        have hall2:Hid2 ((L.take (k+1)).all partB=true):=hid2 (by rw [List.take_succ_eq_append_getElem hkl.out,List.all_append,hall.out];simp [hx])
        clear hx hP hPl
        go_wp2_with (go_at_call 79; refine (hpc _).mono ?_;rintro e w2 ⟨rfl,rfl⟩)
        go_round
        case rel=>exact⟨k+1,by omega,by go_num,hall2⟩
        case measure=>simp [intOf];omega
      · have hx':partB (L[k]'hkl.out)=false:=by simpa using hx
        have hpc:∀ w,Calls Tryz.prog 79 #[.string P] w fun e w'=>e = .returned (.bool false)∧w'=w:=fun w=>by
          have:=refpart_any w P
          rw [hPl,hx'] at this
          exact this
        have hno:Hid2 (mayB l=false):=hid2 (by
          have:L.all partB=false:=by
            rw [← Bool.not_eq_true,List.all_eq_true]
            exact fun h=>hx (h _ (List.getElem_mem hkl.out))
          rw [mayB,← HLs.out,this];rfl)
        clear hx hx' hP hPl
        go_wp2_with (go_at_call 79; refine (hpc _).mono ?_;rintro e w2 ⟨rfl,rfl⟩)
        go_ret
        exact⟨by rw [hno.out];rfl,hb⟩
    · have hlt':¬ (k:Int) < N:=by omega
      have hyes:Hid2 (mayB l=decide (N≤16)):=hid2 (by
        have h:=hall.out
        rw [List.take_of_length_le (by rw [← HN.out];omega)] at h
        rw [mayB,← HLs.out,h,← HN.out];rfl)
      go_wp2_with fail
      go_ret
      refine⟨?_,hb⟩
      rw [hyes.out]
      exact ret_bool (by simp;omega)
end Go.Proofs.YtnecjdhamohadaaGreatDoor
