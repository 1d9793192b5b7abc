/- The document's run of a tool: digits of a number, and what stands behind a line's first word. -/
import Derived.Test.YtnecjdhamohadaaGreatDoorPMu
import Derived.Test.YtnecjdhamohadaaGreatDoorPMRf2
set_option linter.unusedSimpArgs false
set_option linter.unusedVariables false
namespace Go.Proofs.YtnecjdhamohadaaGreatDoor
open Go.RowKit Go.Maps Go.Shelf
open Go.Lib (decDigits)
set_option maxRecDepth 100000
theorem digit_cut:∀ n:Nat,n < 10→(⟨#[48,49,50,51,52,53,54,55,56,57]⟩:ByteArray).extract n (n+1)=strB [UInt8.ofNat (48+n)]:=by
 intro n hn
 have:n=0∨n=1∨n=2∨n=3∨n=4∨n=5∨n=6∨n=7∨n=8∨n=9:=by omega
 rcases this with rfl | rfl | rfl | rfl | rfl | rfl | rfl | rfl | rfl | rfl <;> rfl
theorem rdigits_any:∀ (n:Nat),n≤1000000000→∀ w:World,Calls Tryz.prog 83 #[.int .i64 n] w fun e w'=>e = .returned (.string (strB (decDigits n)))∧Below w.heap.size w w':=fun n=>by
 induction n using Nat.strongRecOn with
 | _ n ih =>
  intro hn w
  by_cases h:n < 10
  ·have hi:(n:Int) < 10:=by omega
   have hd:decDigits n=[UInt8.ofNat (48+n)]:=by rw [decDigits,dif_pos h]
   obtain⟨X,hX⟩:∃ X,X=(⟨#[48,49,50,51,52,53,54,55,56,57]⟩:ByteArray).extract n (n+1):=⟨_,rfl⟩
   have hXd:X=strB (decDigits n):=by rw [hX,digit_cut n h,hd]
   have hX':=hX.symm
   have h0:(0:Int)≤n:=by omega
   have h1:(n:Int)≤(n:Int)+1:=by omega
   have h2:(n:Int)+1≤10:=by omega
   have h3:((n:Int)+1).toNat=n+1:=by omega
   have hw:IntKind.i64.wrap ((n:Int)+1)=(n:Int)+1:=IntWalk.i64_in _ (by constructor <;> omega)
   have HX:=hid2 hXd
   clear hd ih hn hX hXd h
   go_enter Tryz.func83,Tryz.ntmps83
   go_wp2_with fail
   go_ret
   exact⟨by rw [← HX.out];rfl,Below.refl _ _⟩
  ·have hi:¬ (n:Int) < 10:=by omega
   have hd:decDigits n=decDigits (n / 10)++decDigits (n % 10):=by
    rw [decDigits,dif_neg h]
    congr 1
    rw [decDigits,dif_pos (by omega)]
   have i1:=ih (n / 10) (by omega) (by omega)
   have i2:=ih (n % 10) (by omega) (by omega)
   have hs1:(strB (decDigits (n / 10))).size≤10:=by rw [strB_size];exact dec_len 9 _ (by omega)
   have hs2:(strB (decDigits (n % 10))).size≤10:=by rw [strB_size];exact dec_len 9 _ (by omega)
   have hc1:¬ 9223372036854775807 < (strB (decDigits (n / 10))).size+(strB (decDigits (n % 10))).size:=by omega
   have HD:=hid2 hd
   clear hd ih hs1 hs2
   go_enter Tryz.func83,Tryz.ntmps83
   go_wp2_with (first
    | (go_at_call 83; rw [show ((n:Int) % 10)=((n % 10:Nat):Int) from by omega];refine (i2 w1).mono ?_;rintro e w2 ⟨rfl,hb2⟩)
    | (go_at_call 83; rw [show ((n:Int) / 10)=((n / 10:Nat):Int) from by omega];refine (i1 w).mono ?_;rintro e w1 ⟨rfl,hb1⟩))
   go_ret
   exact⟨by rw [strB_append,← HD.out];rfl,hb1.trans (hb2.mono hb1.size)⟩
theorem dropWhile_at {p:UInt8→Bool} {l:TT} {i:Nat} (h:i < l.length) (hp:p l[i]=true):(l.drop i).dropWhile p=(l.drop (i+1)).dropWhile p:=by
 rw [List.drop_eq_getElem_cons h,List.dropWhile_cons,if_pos hp]
theorem dropWhile_stop {p:UInt8→Bool} {l:TT} {i:Nat} (h:i < l.length) (hp:p l[i]=false):(l.drop i).dropWhile p=l.drop i:=by
 conv=>lhs;rw [List.drop_eq_getElem_cons h,List.dropWhile_cons,if_neg (by rw [hp];simp)]
 rw [List.drop_eq_getElem_cons h]
set_option maxHeartbeats 8000000 in
theorem rbehind_any (w:World) (s:ByteArray) (hs:s.size≤1000000000):Calls Tryz.prog 55 #[.string s] w fun e w'=>e = .returned (.string (strB (behindT s.data.toList)))∧w'=w:=by
 have hs0:(s.size:Int)≤1000000000:=by omega
 obtain⟨l,hl⟩:∃ l,l=s.data.toList:=⟨_,rfl⟩
 have hll:l.length=s.size:=by rw [hl,toList_length]
 rw [← hl]
 have HL:=hid2 hl
 have HLL:=hid2 hll
 obtain⟨R,hR⟩:∃ R,R=strB (behindT l):=⟨_,rfl⟩
 rw [← hR]
 have HR:=hid2 hR
 clear hl hll hs hR
 have HB:=hid2 (show ∀ (k:Nat) (hk:k < s.size),isB (l[k]'(by rw [HLL.out];exact hk))=(decide ((s[k]'hk).toNat=32) || decide ((s[k]'hk).toNat=9)) from fun k hk=>by
  have hel:l[k]'(by rw [HLL.out];exact hk)=s[k]'hk:=by simp only [HL.out];simp;rfl
  rw [hel]
  unfold isB
  rw [Bool.eq_iff_iff]
  simp only [Bool.or_eq_true,beq_iff_eq,decide_eq_true_eq,← UInt8.toNat_inj]
  rfl)
 go_enter Tryz.func55,Tryz.ntmps55
 go_wp2_with fail
 go_loopg [3] s.size (fun gk iv wr=>wr=w∧∃ i:Nat,i+gk=s.size∧iv = .int .i64 i∧l.dropWhile isB=(l.drop i).dropWhile isB)
 case atStart=>exact⟨rfl,0,by omega,rfl,rfl⟩
 case round =>
  obtain⟨rfl,i,hi,rfl,hdw⟩:=hrel
  have HI:=hid2 hi
  have HDW:=hid2 hdw
  -- the second loop, from where the first one stops
  have second:∀ (K:Prop),K→K:=fun _ h=>h
  by_cases hlt:i < s.size
  ·have hil:(i:Int) < s.size:=by omega
   have hiL:i < l.length:=by rw [HLL.out];exact hlt
   by_cases h32:(s[i]'hlt).toNat=32
   ·have hb:isB (l[i]'hiL)=true:=by rw [HB.out i hlt,h32];rfl
    have h1:((s[i]'hlt).toNat:Int)=32:=by omega
    have HN:=hid2 (hdw.trans (dropWhile_at hiL hb))
    clear hi hdw h32 hb
    go_wp2_with fail
    go_roundg (gk - 1)
    case rel=>exact⟨rfl,i+1,by have:=HI.out;omega,by go_num,HN.out⟩
    case measure=>have:=HI.out;omega
   ·by_cases h9:(s[i]'hlt).toNat=9
    ·have hb:isB (l[i]'hiL)=true:=by rw [HB.out i hlt,h9];rfl
     have h1:((s[i]'hlt).toNat:Int)=9:=by omega
     have h1b:(((s[i]'hlt).toNat:Int) == 32)=false:=by rw [beq_eq_false_iff_ne];omega
     have HN:=hid2 (hdw.trans (dropWhile_at hiL hb))
     clear hi hdw h32 hb h9
     go_wp2_with fail
     go_roundg (gk - 1)
     case rel=>exact⟨rfl,i+1,by have:=HI.out;omega,by go_num,HN.out⟩
     case measure=>have:=HI.out;omega
    ·have hb:isB (l[i]'hiL)=false:=by
      rw [HB.out i hlt]
      simp [h32,h9]
     have h1:¬ ((s[i]'hlt).toNat:Int)=32:=by omega
     have h2:¬ ((s[i]'hlt).toNat:Int)=9:=by omega
     have h1b:(((s[i]'hlt).toNat:Int) == 32)=false:=by rw [beq_eq_false_iff_ne];exact h1
     have h2b:(((s[i]'hlt).toNat:Int) == 9)=false:=by rw [beq_eq_false_iff_ne];exact h2
     have HN:=hid2 (show l.dropWhile isB=l.drop i from hdw.trans (dropWhile_stop hiL hb))
     have hile:i≤s.size:=by omega
     have HLE:=hid2 hile
     clear hi hdw h32 hb h9 hile
     go_wp2_with fail
     clear h1 h2 h1b h2b HDW HI
     go_loopg [3] s.size (fun gk iv wq=>wq=wr∧∃ k:Nat,k+gk=s.size+i∧iv = .int .i64 k∧k≤s.size∧(l.drop i).dropWhile (fun c=>!isB c)=(l.drop k).dropWhile (fun c=>!isB c))
     case atStart=>exact⟨rfl,i,by have:=HLE.out;omega,rfl,HLE.out,rfl⟩
     case round =>
      obtain⟨rfl,k,hk,rfl,hks,hdk⟩:=hrel
      have HK:=hid2 hk
      by_cases hltk:k < s.size
      ·have hkl:(k:Int) < s.size:=by omega
       have hkL:k < l.length:=by rw [HLL.out];exact hltk
       have fin:(s[k]'hltk).toNat=32∨(s[k]'hltk).toNat=9→R=strB ((l.drop k).drop 1):=fun h=>by
        have hb:(fun c=>!isB c) (l[k]'hkL)=false:=by
         show (!isB (l[k]'hkL))=false
         rw [HB.out k hltk]
         rcases h with h | h <;> rw [h] <;> rfl
        rw [HR.out,behindT,HN.out,hdk,dropWhile_stop hkL hb]
       have hk1:(k:Int)+1≤s.size:=by omega
       have hk2:(0:Int)≤(k:Int)+1:=by omega
       have hk3:((k:Int)+1).toNat=k+1:=by omega
       have hkn:¬ (k:Int)=s.size:=by omega
       have hknb:((k:Int) == s.size)=false:=by rw [beq_eq_false_iff_ne];exact hkn
       have hwk:IntKind.i64.wrap ((k:Int)+1)=(k:Int)+1:=IntWalk.i64_in _ (by constructor <;> omega)
       obtain⟨Y,hY⟩:∃ Y,Y=s.extract (k+1) s.size:=⟨_,rfl⟩
       have hYR:(s[k]'hltk).toNat=32∨(s[k]'hltk).toNat=9→Y=R:=fun h=>by
        rw [fin h,hY]
        refine strB_eq ?_
        rw [extract_list,← HL.out,List.drop_drop]
        exact List.take_of_length_le (by rw [List.length_drop,HLL.out];omega)
       have hY':=hY.symm
       have HYR:=hid2 hYR
       by_cases h32:(s[k]'hltk).toNat=32
       ·have h1:((s[k]'hltk).toNat:Int)=32:=by omega
        have HE:=hid2 (hYR (.inl h32))
        clear hk hdk h32 fin hYR hY
        go_wp2_with fail
        refine bodyPost_ret (results_tmp rfl _ _ _) rfl ?_
        exact⟨by rw [← HE.out];rfl,rfl⟩
       ·by_cases h9:(s[k]'hltk).toNat=9
        ·have h1:((s[k]'hltk).toNat:Int)=9:=by omega
         have h1b:(((s[k]'hltk).toNat:Int) != 32)=true:=by
          have:¬ ((s[k]'hltk).toNat:Int)=32:=by omega
          simpa using this
         have HE:=hid2 (hYR (.inr h9))
         clear hk hdk h32 h9 fin hYR hY
         go_wp2_with fail
         refine bodyPost_ret (results_tmp rfl _ _ _) rfl ?_
         exact⟨by rw [← HE.out];rfl,rfl⟩
        ·have hb:(fun c=>!isB c) (l[k]'hkL)=true:=by
          show (!isB (l[k]'hkL))=true
          rw [HB.out k hltk]
          simp [h32,h9]
         have h1:¬ ((s[k]'hltk).toNat:Int)=32:=by omega
         have h2:¬ ((s[k]'hltk).toNat:Int)=9:=by omega
         have h1b:(((s[k]'hltk).toNat:Int) != 32)=true:=by simpa using h1
         have h2b:(((s[k]'hltk).toNat:Int) != 9)=true:=by simpa using h2
         have HN2:=hid2 (hdk.trans (dropWhile_at (p:=fun c=>!isB c) hkL hb))
         clear hk hdk h32 h9 fin hYR hb hY hY'
         go_wp2_with fail
         go_roundg (gk - 1)
         case rel=>exact⟨rfl,k+1,by have:=HK.out;omega,by go_num,by omega,HN2.out⟩
         case measure=>have:=HK.out;omega
      ·have hkl:¬ (k:Int) < s.size:=by omega
       have hkn:(k:Int)=s.size:=by have:=hks;omega
       have hknb:((k:Int) == s.size)=true:=by rw [beq_iff_eq];exact hkn
       have HE:=hid2 (show R=⟨#[]⟩ from by
        rw [HR.out,behindT,HN.out,hdk,show l.drop k=[] from List.drop_of_length_le (by rw [HLL.out];omega)]
        rfl)
       clear hk hdk hkn
       go_wp2_with fail
       refine bodyPost_ret (results_tmp rfl _ _ _) rfl ?_
       exact⟨by rw [HE.out];rfl,rfl⟩
  ·have hil:¬ (i:Int) < s.size:=by omega
   have HN:=hid2 (show l.dropWhile isB=l.drop i from by rw [hdw,List.drop_of_length_le (by rw [HLL.out];omega)];rfl)
   have hile:i≤s.size:=by omega
   have HLE:=hid2 hile
   clear hi hdw hile
   go_wp2_with fail
   clear HDW HI
   go_loopg [3] s.size (fun gk iv wq=>wq=wr∧∃ k:Nat,k+gk=s.size+i∧iv = .int .i64 k∧k≤s.size∧(l.drop i).dropWhile (fun c=>!isB c)=(l.drop k).dropWhile (fun c=>!isB c))
   case atStart=>exact⟨rfl,i,by have:=HLE.out;omega,rfl,HLE.out,rfl⟩
   case round =>
    obtain⟨rfl,k,hk,rfl,hks,hdk⟩:=hrel
    have HK:=hid2 hk
    by_cases hltk:k < s.size
    ·have hkl:(k:Int) < s.size:=by omega
     have hkL:k < l.length:=by rw [HLL.out];exact hltk
     have fin:(s[k]'hltk).toNat=32∨(s[k]'hltk).toNat=9→R=strB ((l.drop k).drop 1):=fun h=>by
      have hb:(fun c=>!isB c) (l[k]'hkL)=false:=by
       show (!isB (l[k]'hkL))=false
       rw [HB.out k hltk]
       rcases h with h | h <;> rw [h] <;> rfl
      rw [HR.out,behindT,HN.out,hdk,dropWhile_stop hkL hb]
     have hk1:(k:Int)+1≤s.size:=by omega
     have hk2:(0:Int)≤(k:Int)+1:=by omega
     have hk3:((k:Int)+1).toNat=k+1:=by omega
     have hkn:¬ (k:Int)=s.size:=by omega
     have hknb:((k:Int) == s.size)=false:=by rw [beq_eq_false_iff_ne];exact hkn
     have hwk:IntKind.i64.wrap ((k:Int)+1)=(k:Int)+1:=IntWalk.i64_in _ (by constructor <;> omega)
     obtain⟨Y,hY⟩:∃ Y,Y=s.extract (k+1) s.size:=⟨_,rfl⟩
     have hYR:(s[k]'hltk).toNat=32∨(s[k]'hltk).toNat=9→Y=R:=fun h=>by
      rw [fin h,hY]
      refine strB_eq ?_
      rw [extract_list,← HL.out,List.drop_drop]
      exact List.take_of_length_le (by rw [List.length_drop,HLL.out];omega)
     have hY':=hY.symm
     have HYR:=hid2 hYR
     by_cases h32:(s[k]'hltk).toNat=32
     ·have h1:((s[k]'hltk).toNat:Int)=32:=by omega
      have HE:=hid2 (hYR (.inl h32))
      clear hk hdk h32 fin hYR hY
      go_wp2_with fail
      refine bodyPost_ret (results_tmp rfl _ _ _) rfl ?_
      exact⟨by rw [← HE.out];rfl,rfl⟩
     ·by_cases h9:(s[k]'hltk).toNat=9
      ·have h1:((s[k]'hltk).toNat:Int)=9:=by omega
       have h1b:(((s[k]'hltk).toNat:Int) != 32)=true:=by
        have:¬ ((s[k]'hltk).toNat:Int)=32:=by omega
        simpa using this
       have HE:=hid2 (hYR (.inr h9))
       clear hk hdk h32 h9 fin hYR hY
       go_wp2_with fail
       refine bodyPost_ret (results_tmp rfl _ _ _) rfl ?_
       exact⟨by rw [← HE.out];rfl,rfl⟩
      ·have hb:(fun c=>!isB c) (l[k]'hkL)=true:=by
        show (!isB (l[k]'hkL))=true
        rw [HB.out k hltk]
        simp [h32,h9]
       have h1:¬ ((s[k]'hltk).toNat:Int)=32:=by omega
       have h2:¬ ((s[k]'hltk).toNat:Int)=9:=by omega
       have h1b:(((s[k]'hltk).toNat:Int) != 32)=true:=by simpa using h1
       have h2b:(((s[k]'hltk).toNat:Int) != 9)=true:=by simpa using h2
       have HN2:=hid2 (hdk.trans (dropWhile_at (p:=fun c=>!isB c) hkL hb))
       clear hk hdk h32 h9 fin hYR hb hY hY'
       go_wp2_with fail
       go_roundg (gk - 1)
       case rel=>exact⟨rfl,k+1,by have:=HK.out;omega,by go_num,by omega,HN2.out⟩
       case measure=>have:=HK.out;omega
    ·have hkl:¬ (k:Int) < s.size:=by omega
     have hkn:(k:Int)=s.size:=by have:=hks;omega
     have hknb:((k:Int) == s.size)=true:=by rw [beq_iff_eq];exact hkn
     have HE:=hid2 (show R=⟨#[]⟩ from by
      rw [HR.out,behindT,HN.out,hdk,show l.drop k=[] from List.drop_of_length_le (by rw [HLL.out];omega)]
      rfl)
     clear hk hdk hkn
     go_wp2_with fail
     refine bodyPost_ret (results_tmp rfl _ _ _) rfl ?_
     exact⟨by rw [HE.out];rfl,rfl⟩
end Go.Proofs.YtnecjdhamohadaaGreatDoor
