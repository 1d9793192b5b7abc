/- The walks of the document's Part, Parts and May. -/
import Derived.Test.YtnecjdhamohadaaGreatDoorPMg
import Derived.Test.YtnecjdhamohadaaGreatDoorPMa
import Derived.StillTailTactics
import Derived.OwnWalk
set_option linter.unusedSimpArgs false
set_option linter.unusedVariables false
set_option maxRecDepth 100000
namespace Go.Proofs.YtnecjdhamohadaaGreatDoor
open Go.RowKit
theorem signB_int (c:UInt8):signB c=true ↔ ((97≤(c.toNat:Int)∧(c.toNat:Int)≤122)∨(65≤(c.toNat:Int)∧(c.toNat:Int)≤90)∨(48≤(c.toNat:Int)∧(c.toNat:Int)≤57)∨(c.toNat:Int)=95∨(c.toNat:Int)=46∨(c.toNat:Int)=45∨(c.toNat:Int)=43):=by
 unfold signB
 simp only [Bool.or_eq_true,Bool.and_eq_true,decide_eq_true_eq]
 omega
theorem splitL_mem_length:∀ (l:List UInt8) {p:List UInt8},p∈splitL l→p.length≤l.length
 | [],p,h=>by rw [splitL,List.mem_singleton] at h;subst h;simp
 | c :: l,p,h=>by
  obtain⟨q,r,hq⟩:=splitL_ex l
  have ih:∀ {x:List UInt8},x∈splitL l→x.length≤l.length:=fun hx=>splitL_mem_length l hx
  by_cases hc:c=47
  ·subst hc
   rw [splitL_stroke,List.mem_cons] at h
   rcases h with rfl | h
   ·simp
   ·have:=ih h;simp;omega
  ·rw [splitL_other hc hq,List.mem_cons] at h
   rcases h with rfl | h
   ·have:=ih (x:=q) (by rw [hq];simp)
    simp;omega
   ·have:=ih (x:=p) (by rw [hq];exact List.mem_cons_of_mem _ h)
    simp;omega
def PPost (w:World) (l:List UInt8) (e:Ending) (w':World):Prop :=
 ∃ A c,e = .returned (.slice A (splitL l).length c)∧Rd w' 1 A (splitL l).length (strV (splitL l))∧Below w.heap.size w w'
theorem parts_any (w:World) (s:ByteArray) (hs:s.size≤100000):Calls Tryz.prog 78 #[.string s] w (PPost w s.data.toList):=by
 have hs0:(s.size:Int)≤100000:=by omega
 obtain⟨l,hl⟩:∃ l,l=s.data.toList:=⟨_,rfl⟩
 have hll:l.length=s.size:=by rw [hl,toList_length]
 rw [← hl]
 have HL:=hid2 hl
 have HLL:=hid2 hll
 clear hl hll hs
 go_enter Tryz.func78,Tryz.ntmps78
 go_wp2_with fail
 go_loopg [3,4] s.size (fun gk v i wr=>∃ (k:Nat),k+gk=s.size∧i = .int .i64 k∧Below w.heap.size w wr∧∃ A c,v = .slice A (splitL (l.take k)).length c∧Own wr w.heap.size 9 1 A (splitL (l.take k)).length c (strV (splitL (l.take k))))
 case atStart =>
  refine⟨0,by omega,rfl,(Below.refl _ _).alloc (Nat.le_refl _) _,_,_,rfl,?_⟩
  exact Own.lit w #[.string ⟨#[]⟩] 9 1 1 w.heap.size (Nat.le_refl _) (by unfold maxLen;omega) rfl
 case round =>
  obtain⟨k,hk,rfl,hbe,A,c,rfl,hown⟩:=hrel
  by_cases hlt:k < s.size
  ·have hkl:k < l.length:=by rw [HLL.out];exact hlt
   obtain⟨N,hN⟩:∃ N,N=(splitL (l.take k)).length:=⟨_,rfl⟩
   obtain⟨X,hX⟩:∃ X,X=strV (splitL (l.take k)):=⟨_,rfl⟩
   have hN1:1≤N:=by rw [hN];exact splitL_length_pos _
   have hN2:N≤100001:=by rw [hN];have:=splitL_length_le (l.take k);rw [List.length_take] at this;omega
   rw [← hN,← hX] at hown
   rw [← hN]
   have hnc:=hown.2.1
   have hz:=hbe.size
   obtain⟨b,o,u,rfl,hbb,hbs,hu,hcell,hfro,hset⟩:=hown.spot (j:=N - 1) (by omega)
   have HN:=hid2 hN
   have HX:=hid2 hX
   have HKL:=hid2 hkl
   have HK:=hid2 hk
   have HU:=hid2 hu
   clear hN hX hkl hk hu
   have hw1:((N - 1:Nat):Int)=(N:Int) - 1:=by omega
   by_cases h47:(s[k]'hlt).toNat=47
   ·have h47':((s[k]'hlt).toNat:Int)=47:=by omega
    clear hcell hfro hset hw1 h47
    go_wp2_with (at_builtin;go_must ((with_reducible refine wpList_append_lit 9 (.string ⟨#[]⟩) 1 16 Tryz.underlying32 info_str rfl w.heap.size (some ⟨b,o,none⟩) N c X (hown.alloc _) 1 [.string ⟨#[]⟩] (.slice (some ⟨wr.heap.size,0,none⟩) 1 1) (Src.slice Tryz.underlying32 (Rd.one wr _ _)) one_str ?_ ?_ ?_ ?_ ?_);(unfold maxLen;omega);omega;(simp;omega);exact⟨rfl,rfl⟩;intro A3 c3 w3 hown3 hgr3 hbl3;clear hown))
    have htk:l.take (k+1)=l.take k++[47]:=by
     rw [List.take_succ_eq_append_getElem HKL.out]
     congr 2
     have e:l[k]'HKL.out=s[k]'hlt:=by simp only [HL.out];simp;rfl
     rw [e]
     exact UInt8.toNat_inj.1 (by have:=h47';simp;omega)
    have hspl:splitL (l.take (k+1))=splitL (l.take k)++[[]]:=by rw [htk,splitL_snoc_stroke]
    go_roundg (gk - 1)
    case rel =>
     have hN':(splitL (l.take (k+1))).length=N+1:=by rw [hspl,List.length_append,HN.out];rfl
     refine⟨k+1,by have:=HK.out;omega,by go_num,?_,A3,c3,?_,?_⟩
     ·exact (hbe.alloc hz _).grown hgr3 (by simp;omega) (fun g e=>by cases e;omega)
     ·rw [hN']
     ·rw [hN',hspl,← strV_snoc,← HX.out];exact hown3
    case measure=>have:=HK.out;omega
   ·have hc47:l[k]'HKL.out≠47:=by
     have e:l[k]'HKL.out=s[k]'hlt:=by simp only [HL.out];simp;rfl
     rw [e]
     intro e'
     exact h47 (by rw [e'];rfl)
    obtain⟨r,p,e1,e2⟩:=splitL_snoc (l.take k) hc47
    rw [← List.take_succ_eq_append_getElem HKL.out] at e2
    have hpl:p.length≤l.length:=by
     have:=splitL_mem_length (l.take k) (p:=p) (by rw [e1];simp)
     rw [List.length_take] at this
     omega
    have hX2:X=strV r++[.string (strB p)]:=by rw [HX.out,e1,strV_snoc]
    have hr:r.length=N - 1:=by rw [HN.out,e1];simp
    have hup:u = .string (strB p):=by
     have:=HU.out
     rw [hX2,List.getElem?_append_right (by rw [strV_length];omega),strV_length,hr,Nat.sub_self] at this
     simpa using this.symm
    subst hup
    obtain⟨Pb,hPb⟩:∃ Pb,Pb=strB p:=⟨_,rfl⟩
    obtain⟨ch,hch⟩:∃ ch,ch=s.extract k (k+1):=⟨_,rfl⟩
    have hPs:Pb.size≤100000:=by rw [hPb,strB_size];have:=HLL.out;omega
    have hchl:ch.data.toList=[l[k]'HKL.out]:=by
     rw [hch,extract_list,← HL.out,List.drop_eq_getElem_cons HKL.out,show k+1 - k=1 by omega]
     rfl
    have hcs:ch.size=1:=by rw [← toList_length,hchl];rfl
    have hadd:¬ (Pb.size+ch.size > 9223372036854775807):=by omega
    have HS2:=hid2 hset
    have HCH:=hid2 hchl
    have HPB:=hid2 hPb
    have HX2:=hid2 hX2
    have HR:=hid2 hr
    have HE1:=hid2 e1
    have HE2:=hid2 e2
    have hne:¬ ((s[k]'hlt).toNat:Int)=47:=by omega
    rw [← hPb] at hcell
    have hch':=hch.symm
    clear hw1
    have ha0:(0:Int)≤(N:Int) - 1:=by omega
    have ha1:(N:Int) - 1 < N:=by omega
    have hat:((N:Int) - 1).toNat=N - 1:=by omega
    have hk0:(k:Int)+1≤s.size:=by omega
    have hN3:(1:Int)≤N:=by omega
    have hk1:(k:Int)≤(k:Int)+1:=by omega
    have hk2:(0:Int)≤(k:Int)+1:=by omega
    have hk3:((k:Int)+1).toNat=k+1:=by omega
    have hw1:IntKind.i64.wrap ((N:Int) - 1)=(N:Int) - 1:=IntWalk.i64_in _ (by constructor <;> omega)
    have hw2:IntKind.i64.wrap ((k:Int)+1)=(k:Int)+1:=IntWalk.i64_in _ (by constructor <;> omega)
    clear hset hchl hPb hX2 hr e1 e2 hc47 h47 hch hcs hpl
    go_wp2_with fail
    go_still_tail 17,(by kernel_rfl)
    change wpList _ _ _ _ _ wr.drew
    go_wp2_with fail
    have hown4:=HS2.out (.string (Pb++ch))
    have hnw:Pb++ch=strB (p++[l[k]'HKL.out]):=strB_eq (by rw [string_append_toList,HPB.out,strB_list,HCH.out])
    have hset4:X.set (N - 1) (.string (Pb++ch))=strV (splitL (l.take (k+1))):=by
     rw [HX2.out,hnw,HE2.out,← strV_snoc,List.set_append_right _ _ (by rw [strV_length,HR.out];exact Nat.le_refl _),strV_length,HR.out,Nat.sub_self]
     rfl
    have hN4:(splitL (l.take (k+1))).length=N:=by rw [HE2.out,List.length_append,HR.out,List.length_singleton];omega
    rw [hset4] at hown4
    go_roundg (gk - 1)
    case rel =>
     refine⟨k+1,by have:=HK.out;omega,by go_num,?_,some ⟨b,o,none⟩,c,?_,?_⟩
     ·exact (hbe.setCell (p:=⟨b,o+(N - 1),none⟩) hbb _).drew
     ·rw [hN4]
     ·rw [hN4];exact hown4.drew
    case measure=>have:=HK.out;omega
  ·have hks:k=s.size:=by omega
   have hlt':¬ (k:Int) < s.size:=by omega
   have hall:l.take k=l:=List.take_of_length_le (by rw [HLL.out];omega)
   rw [hall] at hown ⊢
   obtain⟨N,hN⟩:∃ N,N=(splitL l).length:=⟨_,rfl⟩
   rw [← hN] at hown ⊢
   have HN:=hid2 hN
   clear hall hks hN
   go_wp2_with fail
   go_ret
   refine⟨A,c,by rw [← HN.out];rfl,?_,hbe⟩
   rw [← HN.out];exact hown.rd
end Go.Proofs.YtnecjdhamohadaaGreatDoor
