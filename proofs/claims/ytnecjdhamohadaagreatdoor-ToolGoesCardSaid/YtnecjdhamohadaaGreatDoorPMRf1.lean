/- The document's lines and words. -/
import Derived.Test.YtnecjdhamohadaaGreatDoorPMf
import Derived.Test.YtnecjdhamohadaaGreatDoorPMPath5
set_option linter.unusedSimpArgs false
set_option linter.unusedVariables false
namespace Go.Proofs.YtnecjdhamohadaaGreatDoor
open Go.RowKit
set_option maxRecDepth 100000
def LPost (w:World) (L:List TT) (e:Ending) (w':World):Prop:=∃ A c,e = .returned (.slice A L.length c)∧Own w' w.heap.size 9 1 A L.length c (strV L)∧Below w.heap.size w w'
theorem drop_at {l:TT} {f k:Nat} (hf:f≤k) (hk:k < l.length):l.drop f=(l.drop f).take (k - f)++l[k] :: l.drop (k+1):=by
 have e1:(l.drop f).drop (k - f)=l.drop k:=by rw [List.drop_drop];congr 1;omega
 conv=>lhs;rw [← List.take_append_drop (k - f) (l.drop f),e1,List.drop_eq_getElem_cons hk]
theorem take_more {l:TT} {f k:Nat} (hf:f≤k) (hk:k < l.length):(l.drop f).take (k+1 - f)=(l.drop f).take (k - f)++[l[k]]:=by
 rw [show k+1 - f=(k - f)+1 by omega,List.take_succ_eq_append_getElem (by rw [List.length_drop];omega)]
 congr 2
 rw [List.getElem_drop]
 congr 1
 omega
set_option maxHeartbeats 4000000 in
theorem rlines_any (w:World) (s:ByteArray) (hs:s.size≤1000000000):Calls Tryz.prog 29 #[.string s] w (LPost w (linesT s.data.toList)):=by
 have hs0:(s.size:Int)≤1000000000:=by omega
 obtain⟨l,hl⟩:∃ l,l=s.data.toList:=⟨_,rfl⟩
 have hll:l.length=s.size:=by rw [hl,toList_length]
 rw [← hl]
 have HL:=hid2 hl
 have HLL:=hid2 hll
 obtain⟨PQ,hPQ⟩:∃ PQ,PQ=LPost w (linesT l):=⟨_,rfl⟩
 rw [← hPQ]
 have HPQ:=hid2 hPQ
 clear hl hll hs hPQ
 go_enter Tryz.func29,Tryz.ntmps29
 go_wp2_with fail
 go_loopg [3,4,5] s.size (fun gk ov fv iv wr=>∃ (k f:Nat) (D:List TT) (A:Option Addr) (c n:Nat),k+gk=s.size∧f≤k∧n=D.length∧n≤f∧iv = .int .i64 k∧fv = .int .i64 f∧ov = .slice A n c∧(∀ x∈(l.drop f).take (k - f),x≠10)∧linesT l=D++linesT (l.drop f)∧Own wr w.heap.size 9 1 A n c (strV D)∧Below w.heap.size w wr)
 case atStart=>exact⟨0,0,[],none,0,0,by omega,Nat.le_refl _,rfl,Nat.le_refl _,rfl,rfl,rfl,by simp,rfl,Own.nil _ _ _ _,Below.refl _ _⟩
 case round =>
  obtain⟨k,f,D,A,c,n,hk,hf,hn,hnf,rfl,rfl,rfl,hno,hlin,hown,hbe⟩:=hrel
  obtain⟨X,hX⟩:∃ X,X=strV D:=⟨_,rfl⟩
  rw [← hX] at hown
  have hz:=hbe.size
  have hfk:(f:Int)≤k:=by omega
  have hf0:(0:Int)≤f:=by omega
  by_cases hlt:k < s.size
  ·have hkl:k < l.length:=by rw [HLL.out];exact hlt
   have hki:(k:Int) < s.size:=by omega
   have hkle:(k:Int)≤s.size:=by omega
   have hel:l[k]'hkl=s[k]'hlt:=by simp only [HL.out];simp;rfl
   by_cases h10:(s[k]'hlt).toNat=10
   ·have h10':((s[k]'hlt).toNat:Int)=10:=by omega
    obtain⟨ch,hch⟩:∃ ch,ch=s.extract f k:=⟨_,rfl⟩
    have hchl:ch.data.toList=(l.drop f).take (k - f):=by rw [hch,extract_list,← HL.out]
    have hdrop:=drop_at hf hkl
    have hx10:l[k]'hkl=10:=by rw [hel];exact UInt8.toNat_inj.1 (by rw [h10];rfl)
    rw [hx10] at hdrop
    have hlin2:linesT l=(D++[(l.drop f).take (k - f)])++linesT (l.drop (k+1)):=by
     rw [hlin,hdrop,linesT_at hno,List.append_assoc]
     congr 2
     rw [← hdrop]
    have hv1:X++[Value.string ch]=strV (D++[(l.drop f).take (k - f)]):=by rw [hX,← hchl,← strV_snoc,strB_of]
    have HV:=hid2 hv1
    have HLI:=hid2 hlin2
    have HN:=hid2 hn
    have HK:=hid2 hk
    have HNF:=hid2 hnf
    have HF:=hid2 hf
    have hch':=hch.symm
    have hone:∀ u∈[Value.string ch],u.oneCell'=true:=one_str
    have hmax:n+1≤1000000001:=by omega
    clear h10 hch hchl hdrop hx10 hlin2 hv1 hn hk hnf hf hno hlin hX hel
    go_wp2_with (at_builtin;have _t:=hown;go_must ((with_reducible refine wpList_append_lit 9 (.string ⟨#[]⟩) 1 16 Tryz.underlying32 info_str rfl w.heap.size A n c X (hown.alloc _) 1 [.string ch] (.slice (some ⟨wr.heap.size,0,none⟩) 1 1) (Src.slice Tryz.underlying32 (Rd.one wr _ _)) hone ?_ ?_ ?_ ?_ ?_);(unfold maxLen;omega);omega;(simp;omega);exact⟨rfl,rfl⟩;intro A3 c3 w3 hown3 hgr3 hbl3;have HOB:=hid2 hown;clear hown))
    rw [HV.out] at hown3
    go_roundg (gk - 1)
    case rel =>
     refine⟨k+1,k+1,D++[(l.drop f).take (k - f)],A3,c3,n+1,by have:=HK.out;omega,Nat.le_refl _,by rw [List.length_append,HN.out];rfl,by have:=HNF.out;have:=HF.out;omega,by go_num,by go_num,rfl,by simp,HLI.out,hown3,?_⟩
     exact (hbe.alloc hz _).grown hgr3 (by simp;omega) (fun g e=>(HOB.out.block g e).1)
    case measure=>have:=HK.out;omega
   ·have h10':¬ ((s[k]'hlt).toNat:Int)=10:=by omega
    have hno2:∀ x∈(l.drop f).take (k+1 - f),x≠10:=by
     rw [take_more hf hkl]
     intro x hx
     rcases List.mem_append.1 hx with hx | hx
     ·exact hno x hx
     ·rw [List.mem_singleton] at hx
      rw [hx,hel]
      intro e
      exact h10 (by rw [e];rfl)
    have HNO:=hid2 hno2
    have HLI:=hid2 hlin
    have HN:=hid2 hn
    have HK:=hid2 hk
    have HNF:=hid2 hnf
    have HF:=hid2 hf
    have HX:=hid2 hX
    clear h10 hno2 hlin hn hk hnf hf hno hX hel
    go_wp2_with fail
    go_roundg (gk - 1)
    case rel=>exact⟨k+1,f,D,A,c,n,by have:=HK.out;omega,by have:=HF.out;omega,HN.out,HNF.out,by go_num,rfl,rfl,HNO.out,HLI.out,by rw [← HX.out];exact hown,hbe⟩
    case measure=>have:=HK.out;omega
  ·have hks:k=s.size:=by omega
   have hlt':¬ (k:Int) < s.size:=by omega
   have hall:(l.drop f).take (k - f)=l.drop f:=List.take_of_length_le (by rw [List.length_drop,HLL.out];omega)
   rw [hall] at hno
   by_cases hfs:f < s.size
   ·have hfi:(f:Int) < s.size:=by omega
    have hfle:(f:Int)≤s.size:=by omega
    have hlast:linesT l=D++[l.drop f]:=by
     rw [hlin,linesT_one (fun e=>by have:=congrArg List.length e;rw [List.length_drop,HLL.out] at this;simp at this;omega) hno]
    obtain⟨ch,hch⟩:∃ ch,ch=s.extract f s.size:=⟨_,rfl⟩
    have hchl:ch.data.toList=l.drop f:=by
     rw [hch,extract_list,← HL.out]
     exact List.take_of_length_le (by rw [List.length_drop,HLL.out];omega)
    have hv1:X++[Value.string ch]=strV (linesT l):=by rw [hX,hlast,← hchl,← strV_snoc,strB_of]
    have hnl:(linesT l).length=n+1:=by rw [hlast,List.length_append,← hn];rfl
    have HV:=hid2 hv1
    have HNL:=hid2 hnl
    have hch':=hch.symm
    have hone:∀ u∈[Value.string ch],u.oneCell'=true:=one_str
    have hmax:n+1≤1000000001:=by omega
    clear hch hchl hlast hv1 hnl hn hk hnf hf hno hlin hX hall hks hfs hlt
    go_wp2_with (at_builtin;have _t:=hown;go_must ((with_reducible refine wpList_append_lit 9 (.string ⟨#[]⟩) 1 16 Tryz.underlying32 info_str rfl w.heap.size A n c X (hown.alloc _) 1 [.string ch] (.slice (some ⟨wr.heap.size,0,none⟩) 1 1) (Src.slice Tryz.underlying32 (Rd.one wr _ _)) hone ?_ ?_ ?_ ?_ ?_);(unfold maxLen;omega);omega;(simp;omega);exact⟨rfl,rfl⟩;intro A3 c3 w3 hown3 hgr3 hbl3;have HOB:=hid2 hown;clear hown))
    rw [HV.out] at hown3
    rw [HPQ.out]
    exact⟨A3,c3,by rw [HNL.out],by rw [HNL.out];exact hown3,(hbe.alloc hz _).grown hgr3 (by simp;omega) (fun g e=>(HOB.out.block g e).1)⟩
   ·have hfi:¬ (f:Int) < s.size:=by omega
    have hlast:linesT l=D:=by
     rw [hlin,List.drop_of_length_le (by rw [HLL.out];omega),linesT_nil,List.append_nil]
    have HLA:=hid2 hlast
    have HN:=hid2 hn
    have HX:=hid2 hX
    clear hlast hn hk hnf hf hno hlin hX hall hks hfs hlt
    go_wp2_with fail
    rw [HPQ.out]
    exact⟨A,c,by rw [HLA.out,← HN.out],by rw [HLA.out,← HN.out,← HX.out];exact hown,hbe⟩
def WIn (l:TT) (D:List TT) (inb:Bool) (k:Nat):Prop :=
 (inb=false∧wordsT l=D++wordsT (l.drop k)) ∨
 (inb=true∧∃ E cur,D=E++[cur]∧cur≠[]∧(∀ c∈cur,isB c=false)∧cur.length≤k∧wordsT l=E++wordsT (cur++l.drop k))
theorem WIn.blank {l:TT} {D:List TT} {inb:Bool} {k:Nat} (h:WIn l D inb k) (hk:k < l.length) (hb:isB l[k]=true):WIn l D false (k+1):=by
 refine .inl ⟨rfl,?_⟩
 rcases h with ⟨_,h⟩ | ⟨_,E,cur,e1,e2,e3,_,h⟩
 ·rw [h,List.drop_eq_getElem_cons hk,wordsT_blank hb]
 ·rw [h,List.drop_eq_getElem_cons hk,wordsT_at e2 e3 hb,e1,List.append_assoc]
  rfl
theorem WIn.begin {l:TT} {D:List TT} {k:Nat} (h:WIn l D false k) (hk:k < l.length) (hb:isB l[k]=false):WIn l (D++[[l[k]]]) true (k+1):=by
 refine .inr ⟨rfl,D,[l[k]],rfl,by simp,fun c hc=>?_,by simp,?_⟩
 ·rw [List.mem_singleton] at hc
  rw [hc]
  exact hb
 ·rcases h with ⟨_,h⟩ | ⟨e,_⟩
  ·rw [h,List.drop_eq_getElem_cons hk]
   rfl
  ·cases e
theorem WIn.more {l:TT} {D:List TT} {k:Nat} (h:WIn l D true k) (hk:k < l.length) (hb:isB l[k]=false):∃ E cur,D=E++[cur]∧cur.length≤k∧WIn l (E++[cur++[l[k]]]) true (k+1):=by
 rcases h with ⟨e,_⟩ | ⟨_,E,cur,e1,e2,e3,e4,h⟩
 ·cases e
 ·refine⟨E,cur,e1,e4,.inr ⟨rfl,E,cur++[l[k]],rfl,by simp,fun c hc=>?_,by simp;omega,?_⟩⟩
  ·rcases List.mem_append.1 hc with hc | hc
   ·exact e3 c hc
   ·rw [List.mem_singleton] at hc
    rw [hc]
    exact hb
  ·rw [h,List.drop_eq_getElem_cons hk,List.append_assoc]
   rfl
theorem WIn.done {l:TT} {D:List TT} {inb:Bool} {k:Nat} (h:WIn l D inb k) (hk:l.length≤k):wordsT l=D:=by
 have hd:l.drop k=[]:=List.drop_of_length_le hk
 rcases h with ⟨_,h⟩ | ⟨_,E,cur,e1,e2,e3,_,h⟩
 ·rw [h,hd,wordsT_nil,List.append_nil]
 ·rw [h,hd,List.append_nil,wordsT_one e2 e3,e1]
set_option maxHeartbeats 8000000 in
theorem rwords_any (w:World) (s:ByteArray) (hs:s.size≤1000000000):Calls Tryz.prog 30 #[.string s] w (LPost w (wordsT s.data.toList)):=by
 have hs0:(s.size:Int)≤1000000000:=by omega
 obtain⟨l,hl⟩:∃ l,l=s.data.toList:=⟨_,rfl⟩
 have hll:l.length=s.size:=by rw [hl,toList_length]
 rw [← hl]
 have HL:=hid2 hl
 have HLL:=hid2 hll
 obtain⟨PQ,hPQ⟩:∃ PQ,PQ=LPost w (wordsT l):=⟨_,rfl⟩
 rw [← hPQ]
 have HPQ:=hid2 hPQ
 clear hl hll hs hPQ
 go_enter Tryz.func30,Tryz.ntmps30
 go_wp2_with fail
 go_loopg [3,4,5] s.size (fun gk ov nv iv wr=>∃ (k:Nat) (D:List TT) (inb:Bool) (A:Option Addr) (c n:Nat),k+gk=s.size∧n=D.length∧n≤k∧iv = .int .i64 k∧nv = .bool inb∧ov = .slice A n c∧WIn l D inb k∧Own wr w.heap.size 9 1 A n c (strV D)∧Below w.heap.size w wr)
 case atStart=>exact⟨0,[],false,none,0,0,by omega,rfl,Nat.le_refl _,rfl,rfl,rfl,.inl ⟨rfl,rfl⟩,Own.nil _ _ _ _,Below.refl _ _⟩
 case round =>
  obtain⟨k,D,inb,A,c,n,hk,hn,hnk,rfl,rfl,rfl,hin,hown,hbe⟩:=hrel
  obtain⟨X,hX⟩:∃ X,X=strV D:=⟨_,rfl⟩
  rw [← hX] at hown
  have hz:=hbe.size
  by_cases hlt:k < s.size
  ·have hkl:k < l.length:=by rw [HLL.out];exact hlt
   have hki:(k:Int) < s.size:=by omega
   have hel:l[k]'hkl=s[k]'hlt:=by simp only [HL.out];simp;rfl
   obtain⟨cc,hcc⟩:∃ cc:Nat,cc=(s[k]'hlt).toNat:=⟨_,rfl⟩
   have hisb:isB (l[k]'hkl)=(decide (cc=32) || decide (cc=9)):=by
    rw [hel,hcc]
    unfold isB
    rw [Bool.eq_iff_iff]
    simp only [Bool.or_eq_true,beq_iff_eq,decide_eq_true_eq,← UInt8.toNat_inj]
    rfl
   by_cases hb:cc=32∨cc=9
   ·have hblank:isB (l[k]'hkl)=true:=by
     rw [hisb]
     rcases hb with h | h <;> simp [h]
    have HIN:=hid2 (hin.blank hkl hblank)
    have HN:=hid2 hn
    have HK:=hid2 hk
    have HNK:=hid2 hnk
    have HX:=hid2 hX
    rcases hb with h32 | h9
    ·have h1:((s[k]'hlt).toNat:Int)=32:=by omega
     clear hisb hblank hin hn hk hnk hX hel hcc h32
     go_wp2_with fail
     go_roundg (gk - 1)
     case rel=>exact⟨k+1,D,false,A,c,n,by have:=HK.out;omega,HN.out,by have:=HNK.out;omega,by go_num,rfl,rfl,HIN.out,by rw [← HX.out];exact hown,hbe⟩
     case measure=>have:=HK.out;omega
    ·have h1:((s[k]'hlt).toNat:Int)=9:=by omega
     clear hisb hblank hin hn hk hnk hX hel hcc h9
     go_wp2_with fail
     go_roundg (gk - 1)
     case rel=>exact⟨k+1,D,false,A,c,n,by have:=HK.out;omega,HN.out,by have:=HNK.out;omega,by go_num,rfl,rfl,HIN.out,by rw [← HX.out];exact hown,hbe⟩
     case measure=>have:=HK.out;omega
   ·have hword:isB (l[k]'hkl)=false:=by
     rw [hisb]
     rw [not_or] at hb
     simp [hb.1,hb.2]
    rw [not_or] at hb
    have h1:¬ ((s[k]'hlt).toNat:Int)=32:=by omega
    have h2:¬ ((s[k]'hlt).toNat:Int)=9:=by omega
    have h1b:(((s[k]'hlt).toNat:Int) == 32)=false:=by rw [beq_eq_false_iff_ne];exact h1
    have h2b:(((s[k]'hlt).toNat:Int) == 9)=false:=by rw [beq_eq_false_iff_ne];exact h2
    obtain⟨ch,hch⟩:∃ ch,ch=s.extract k (k+1):=⟨_,rfl⟩
    have hchl:ch.data.toList=[l[k]'hkl]:=by
     rw [hch,extract_list,← HL.out,List.drop_eq_getElem_cons hkl,show k+1 - k=1 by omega]
     rfl
    have hcs:ch.size=1:=by rw [← toList_length,hchl];rfl
    have hch':=hch.symm
    have hk0:(k:Int)+1≤s.size:=by omega
    have hk1:(k:Int)≤(k:Int)+1:=by omega
    have hk2:(0:Int)≤(k:Int)+1:=by omega
    have hk3:((k:Int)+1).toNat=k+1:=by omega
    have hw2:IntKind.i64.wrap ((k:Int)+1)=(k:Int)+1:=IntWalk.i64_in _ (by constructor <;> omega)
    have HN:=hid2 hn
    have HK:=hid2 hk
    have HNK:=hid2 hnk
    have HX:=hid2 hX
    have HCH:=hid2 hchl
    have HKL:=hid2 hkl
    cases inb with
    | false =>
     have HIN:=hid2 (hin.begin hkl hword)
     have hmax:n+1≤1000000001:=by omega
     clear hisb hword hin hn hk hnk hX hel hcc hb hch hchl
     go_upto_region 11 with (at_builtin;have _t:=hown;go_must ((with_reducible refine wpList_append_lit 9 (.string ⟨#[]⟩) 1 16 Tryz.underlying32 info_str rfl w.heap.size A n c X (hown.alloc _) 1 [.string ⟨#[]⟩] (.slice (some ⟨wr.heap.size,0,none⟩) 1 1) (Src.slice Tryz.underlying32 (Rd.one wr _ _)) one_str ?_ ?_ ?_ ?_ ?_);(unfold maxLen;omega);omega;(simp;omega);exact⟨rfl,rfl⟩;intro A3 c3 w3 hown3 hgr3 hbl3;have HOB:=hid2 hown;clear hown))
     have hbe3:Below w.heap.size w w3:=(hbe.alloc hz _).grown hgr3 (by simp;omega) (fun g e=>(HOB.out.block g e).1)
     obtain⟨Pb,hPb⟩:∃ Pb:ByteArray,Pb=⟨#[]⟩:=⟨_,rfl⟩
     obtain⟨XN,hXN⟩:∃ XN,XN=X++[Value.string ⟨#[]⟩]:=⟨_,rfl⟩
     rw [← hXN] at hown3
     obtain⟨N,hNn⟩:∃ N,N=n+1:=⟨_,rfl⟩
     rw [← hNn] at hown3 ⊢
     have hlast:XN[N - 1]?=some (.string Pb):=by
      rw [hXN,HX.out,hNn,hPb,List.getElem?_append_right (by rw [strV_length,← HN.out];omega),strV_length,← HN.out,show n+1 - 1 - n=0 by omega]
      rfl
     have hXF:XN.set (N - 1) (.string (Pb++ch))=strV (D++[[l[k]'HKL.out]]):=by
      have:Pb++ch=strB [l[k]'HKL.out]:=strB_eq (by rw [string_append_toList,HCH.out,hPb];rfl)
      rw [hXN,HX.out,this,hNn,List.set_append_right _ _ (by rw [strV_length,← HN.out];omega),strV_length,← HN.out,show n+1 - 1 - n=0 by omega,← strV_snoc]
      rfl
     have HLN:=hid2 (show N=(D++[[l[k]'HKL.out]]).length from by rw [hNn,List.length_append,HN.out];rfl)
     have hPs:Pb.size≤1000000000:=by rw [hPb];decide
     have hN1:1≤N:=by omega
     have hN2:N≤1000000001:=by omega
     have HNk:=hid2 (show N≤k+1 from by have:=HNK.out;omega)
     have HXF:=hid2 hXF
     have HLS:=hid2 hlast
     clear hNn hXN hPb hlast hXF hgr3 hbl3 _t hmax
     obtain⟨b,o,u,rfl,hbb,hbs,hu,hcell,hfro,hset⟩:=hown3.spot (j:=N - 1) (by omega)
     have hup:u = .string Pb:=by
      rw [HLS.out] at hu
      exact (Option.some.inj hu).symm
     subst hup
     have HS2:=hid2 hset
     have hadd:¬ (Pb.size+ch.size > 9223372036854775807):=by omega
     have ha0:(0:Int)≤(N:Int) - 1:=by omega
     have ha1:(N:Int) - 1 < N:=by omega
     have hat:((N:Int) - 1).toNat=N - 1:=by omega
     have hw1:IntKind.i64.wrap ((N:Int) - 1)=(N:Int) - 1:=IntWalk.i64_in _ (by constructor <;> omega)
     have hN3:(1:Int)≤N:=by omega
     clear hu hset hown3 hcs
     go_still_tail 17,(by kernel_rfl)
     change wpList _ _ _ _ _ w3.drew
     go_wp2_with fail
     have hown4:=HS2.out (.string (Pb++ch))
     rw [HXF.out] at hown4
     go_roundg (gk - 1)
     case rel=>exact⟨k+1,D++[[l[k]]],true,some ⟨b,o,none⟩,c3,N,by have:=HK.out;omega,HLN.out,HNk.out,by go_num,rfl,rfl,HIN.out,hown4.drew,(hbe3.setCell (p:=⟨b,o+(N - 1),none⟩) hbb _).drew⟩
     case measure=>have:=HK.out;omega
    | true =>
     obtain⟨E,cur,hE,hcur,hin2⟩:=hin.more hkl hword
     have HIN:=hid2 hin2
     obtain⟨Pb,hPb⟩:∃ Pb:ByteArray,Pb=strB cur:=⟨_,rfl⟩
     have hlE:n=E.length+1:=by rw [hn,hE,List.length_append];rfl
     obtain⟨N,hNn⟩:∃ N,N=n:=⟨_,rfl⟩
     obtain⟨XN,hXN⟩:∃ XN,XN=X:=⟨_,rfl⟩
     obtain⟨w3,hw3⟩:∃ w3,w3=wr:=⟨_,rfl⟩
     obtain⟨A3,hA3⟩:∃ A3,A3=A:=⟨_,rfl⟩
     obtain⟨c3,hc3⟩:∃ c3,c3=c:=⟨_,rfl⟩
     have hown3:Own w3 w.heap.size 9 1 A3 N c3 XN:=by rw [hw3,hA3,hc3,hNn,hXN];exact hown
     have hbe3:Below w.heap.size w w3:=by rw [hw3];exact hbe
     have hlast:XN[N - 1]?=some (.string Pb):=by
      rw [hXN,hX,hE,hNn,hPb,← strV_snoc,List.getElem?_append_right (by rw [strV_length];omega),strV_length,show n - 1 - E.length=0 by omega]
      rfl
     have hXF:XN.set (N - 1) (.string (Pb++ch))=strV (E++[cur++[l[k]'HKL.out]]):=by
      have:Pb++ch=strB (cur++[l[k]'HKL.out]):=strB_eq (by rw [string_append_toList,HCH.out,hPb,strB_list])
      rw [hXN,hX,hE,this,hNn,← strV_snoc,List.set_append_right _ _ (by rw [strV_length];omega),strV_length,show n - 1 - E.length=0 by omega,← strV_snoc]
      rfl
     have HLN:=hid2 (show N=(E++[cur++[l[k]'HKL.out]]).length from by rw [hNn,hlE,List.length_append];rfl)
     have hPs:Pb.size≤1000000000:=by rw [hPb,strB_size];omega
     have hN1:1≤N:=by omega
     have hN2:N≤1000000001:=by omega
     have HNk:=hid2 (show N≤k+1 from by omega)
     have HXF:=hid2 hXF
     have HLS:=hid2 hlast
     rw [← hw3,← hNn,← hA3,← hc3]
     clear hisb hword hin hn hk hnk hX hel hcc hb hch hchl hin2 hE hcur hPb hlE hNn hXN hw3 hA3 hc3 hlast hXF hown hbe
     go_upto_region 11 with fail
     obtain⟨b,o,u,rfl,hbb,hbs,hu,hcell,hfro,hset⟩:=hown3.spot (j:=N - 1) (by omega)
     have hup:u = .string Pb:=by
      rw [HLS.out] at hu
      exact (Option.some.inj hu).symm
     subst hup
     have HS2:=hid2 hset
     have hadd:¬ (Pb.size+ch.size > 9223372036854775807):=by omega
     have ha0:(0:Int)≤(N:Int) - 1:=by omega
     have ha1:(N:Int) - 1 < N:=by omega
     have hat:((N:Int) - 1).toNat=N - 1:=by omega
     have hw1:IntKind.i64.wrap ((N:Int) - 1)=(N:Int) - 1:=IntWalk.i64_in _ (by constructor <;> omega)
     have hN3:(1:Int)≤N:=by omega
     clear hu hset hown3 hcs
     go_still_tail 17,(by kernel_rfl)
     change wpList _ _ _ _ _ w3.drew
     go_wp2_with fail
     have hown4:=HS2.out (.string (Pb++ch))
     rw [HXF.out] at hown4
     go_roundg (gk - 1)
     case rel=>exact⟨k+1,E++[cur++[l[k]]],true,some ⟨b,o,none⟩,c3,N,by have:=HK.out;omega,HLN.out,HNk.out,by go_num,rfl,rfl,HIN.out,hown4.drew,(hbe3.setCell (p:=⟨b,o+(N - 1),none⟩) hbb _).drew⟩
     case measure=>have:=HK.out;omega
  ·have hks:k=s.size:=by omega
   have hlt':¬ (k:Int) < s.size:=by omega
   have hend:=hin.done (by rw [HLL.out];omega)
   have HE:=hid2 hend
   have HN:=hid2 hn
   have HX:=hid2 hX
   clear hend hin hn hk hnk hX hks
   go_wp2_with fail
   rw [HPQ.out]
   exact⟨A,c,by rw [HE.out,← HN.out],by rw [HE.out,← HN.out,← HX.out];exact hown,hbe⟩
end Go.Proofs.YtnecjdhamohadaaGreatDoor
