/- The words of a line, as strings.FieldsFunc finds them: rune by rune. Plain: no program is named. -/
import Derived.Test.YtnecjdhamohadaaGreatDoorPMc
import Derived.Lib.FieldsP
import Derived.Lib.MapLaws
import Derived.Test.YtnecjdhamohadaaGreatDoorPMd
import Derived.Lib.IndexMore
import Derived.Test.YtnecjdhamohadaaGreatDoorPMa
import Derived.Lib.Split
import Derived.Lib.SplitLaws
import Derived.Lib.Bytealg
import Derived.Lib.BytesEntry
import Derived.Lib.Join
import Derived.Shelf.Abstract
import Derived.Maps.Ext
import Derived.Maps.OwnSet
import Derived.Sort.KeysCollected
import Derived.Test.YtnecjdhamohadaaGreatDoorPMb
set_option linter.unusedSimpArgs false
set_option linter.unusedVariables false
namespace Go.Proofs.YtnecjdhamohadaaGreatDoor
open Go.Lib
def isR (x:Nat):Bool:=x == 32 || x == 9
theorem get_byte (s:ByteArray) {i:Nat} (h:i < s.size):s.data.toList[i]?=some (s.get! i):=by
 obtain⟨bs⟩:=s
 have h':i < bs.size:=h
 show bs.toList[i]?=some bs[i]!
 rw [Array.getElem?_toList,Array.getElem?_eq_getElem h',getElem!_pos bs i h']
theorem isB_toNat (c:UInt8):isB c=isR c.toNat:=by
 unfold isB isR
 rw [Bool.eq_iff_iff]
 simp only [Bool.or_eq_true,beq_iff_eq]
 constructor
 ·rintro (rfl | rfl)
  ·exact .inl rfl
  ·exact .inr rfl
 ·rintro (h | h)
  ·exact .inl (UInt8.toNat_inj.1 h)
  ·exact .inr (UInt8.toNat_inj.1 h)
theorem isR_high {x:Nat} (h:128≤x):isR x=false:=by
 unfold isR
 rw [Bool.or_eq_false_iff]
 exact⟨by simp;omega,by simp;omega⟩
theorem dec_step (s:ByteArray) (pos:Nat) (h:pos < s.size):1≤(Utf8.decode s pos).2∧pos+(Utf8.decode s pos).2≤s.size ∧
  (isR (Utf8.decode s pos).1=true→(Utf8.decode s pos).2=1∧isB (s.get! pos)=true)∧(isR (Utf8.decode s pos).1=false→∀ i,i < (Utf8.decode s pos).2→isB (s.get! (pos+i))=false):=by
 rw [decode_at]
 have hlow:∀ b0:Nat,b0 < 128→∀ n b1 b2 b3,decodeN n b0 b1 b2 b3=(b0,1):=fun b0 hb n b1 b2 b3=>by simp [decodeN,hb]
 have hh:∀ i,128≤(s.get! i).toNat→isB (s.get! i)=false:=fun i hi=>by rw [isB_toNat];exact isR_high hi
 rcases decodeN_shape (s.size - pos) (s.get! pos).toNat (s.get! (pos+1)).toNat (s.get! (pos+2)).toNat (s.get! (pos+3)).toNat with ⟨h1,e⟩ | ⟨h1,h2,h3,h4,e⟩ | ⟨h1,h2,h3,h4,h5,h6,e⟩ | ⟨h1,h2,h3,h4,h5,h6,h7,e⟩ | e
 ·rw [e]
  refine⟨Nat.le_refl _,by simp only;omega,fun hr=>⟨rfl,by rw [isB_toNat];exact hr⟩,fun hr i hi=>?_⟩
  obtain rfl:i=0:=by simp only at hi;omega
  rw [isB_toNat]
  exact hr
 ·rw [e]
  refine⟨by simp,by simp only;omega,fun hr=>?_,fun _ i hi=>?_⟩
  ·simp only at hr
   rw [isR_high h4] at hr
   cases hr
  ·simp only at hi
   match i,hi with
   | 0,_=>exact hh _ (by simp only [Nat.add_zero];omega)
   | 1,_=>exact hh _ (by omega)
 ·rw [e]
  refine⟨by simp,by simp only;omega,fun hr=>?_,fun _ i hi=>?_⟩
  ·simp only at hr
   rw [isR_high (by omega)] at hr
   cases hr
  ·simp only at hi
   match i,hi with
   | 0,_=>exact hh _ (by simp only [Nat.add_zero];omega)
   | 1,_=>exact hh _ (by omega)
   | 2,_=>exact hh _ (by omega)
 ·rw [e]
  refine⟨by simp,by simp only;omega,fun hr=>?_,fun _ i hi=>?_⟩
  ·simp only at hr
   rw [isR_high (by omega)] at hr
   cases hr
  ·simp only at hi
   match i,hi with
   | 0,_=>exact hh _ (by simp only [Nat.add_zero];omega)
   | 1,_=>exact hh _ (by omega)
   | 2,_=>exact hh _ (by omega)
   | 3,_=>exact hh _ (by omega)
 ·rw [e]
  refine⟨by simp,by simp only;omega,fun hr=>?_,fun _ i hi=>?_⟩
  ·simp only at hr
   rw [isR_high (by omega)] at hr
   cases hr
  ·obtain rfl:i=0:=by simp only at hi;omega
   refine hh _ ?_
   rcases Nat.lt_or_ge (s.get! pos).toNat 128 with hb | hb
   ·rw [hlow _ hb] at e
    have:=congrArg (·.1) e
    simp only at this
    omega
   ·simpa using hb
def pieceL (s:ByteArray) (x:Nat × Nat):TT:=(s.extract x.1 x.2).data.toList
theorem piece_list (s:ByteArray) (a b:Nat):pieceL s (a,b)=(s.data.toList.drop a).take (b - a):=by
 unfold pieceL
 rw [ByteArray.data_extract,Array.toList_extract]
theorem spans_words (s:ByteArray):∀ (f pos:Nat) (st:Option Nat) (acc:List (Nat × Nat)),s.size - pos≤f→pos≤s.size→(∀ a,st=some a→a < pos∧∀ i,a≤i→i < pos→isB (s.get! i)=false) →
  (closeSpans s (spansFromP isR s f pos st acc)).map (pieceL s)=acc.map (pieceL s)++(match st with | none=>wordsT (s.data.toList.drop pos) | some a=>wordsT (s.data.toList.drop a))
 | f,pos,st,acc,hf,hp,hst=>by
  have hlen:s.data.toList.length=s.size:=Array.length_toList
  rcases Nat.lt_or_ge pos s.size with hlt | hge
  ·obtain⟨f,rfl⟩:∃ k,f=k+1:=⟨f - 1,by omega⟩
   obtain⟨d1,d2,d3,d4⟩:=dec_step s pos hlt
   unfold spansFromP
   rw [if_pos hlt]
   have hb:=get_byte s hlt
   have hdrop:s.data.toList.drop pos=s.get! pos :: s.data.toList.drop (pos+1):=by
    obtain⟨h1,h2⟩:=List.getElem?_eq_some_iff.1 hb
    rw [List.drop_eq_getElem_cons h1,h2]
   cases hr:isR (Utf8.decode s pos).1 with
   | true =>
    obtain⟨w1,w2⟩:=d3 hr
    rw [if_pos rfl]
    cases st with
    | none =>
     simp only
     rw [w1] at d2 ⊢
     rw [spans_words s f (pos+1) none acc (by omega) (by omega) (fun a e=>by cases e)]
     simp only
     rw [hdrop,wordsT_blank w2]
    | some a =>
     simp only
     obtain⟨ha1,ha2⟩:=hst a rfl
     rw [w1] at d2 ⊢
     rw [spans_words s f (pos+1) none (acc++[(a,pos)]) (by omega) (by omega) (fun a e=>by cases e)]
     simp only
     rw [List.map_append,List.map_cons,List.map_nil,piece_list,List.append_assoc]
     congr 1
     have hsplit:s.data.toList.drop a=(s.data.toList.drop a).take (pos - a)++s.get! pos :: s.data.toList.drop (pos+1):=by
      rw [← hdrop]
      have:=(List.take_append_drop (pos - a) (s.data.toList.drop a)).symm
      rw [List.drop_drop,show a+(pos - a)=pos by omega] at this
      exact this
     rw [hsplit,wordsT_at _ _ w2,← hsplit]
     ·rfl
     ·intro e
      have:=congrArg List.length e
      rw [List.length_take,List.length_drop,hlen] at this
      simp at this
      omega
     ·intro c hc
      obtain⟨i,hi⟩:=List.getElem?_of_mem hc
      rw [List.getElem?_take] at hi
      split at hi
      ·rename_i hi2
       rw [List.getElem?_drop,get_byte s (by omega)] at hi
       cases hi
       exact ha2 _ (by omega) (by omega)
      ·cases hi
   | false =>
    have w:=d4 hr
    rw [if_neg (by simp)]
    cases st with
    | none =>
     simp only
     rw [spans_words s f _ (some pos) acc (by omega) d2 (fun a e=>by
      cases e
      refine⟨by omega,fun i h1 h2=>?_⟩
      have:=w (i - pos) (by omega)
      rwa [show pos+(i - pos)=i by omega] at this)]
    | some a =>
     simp only
     obtain⟨ha1,ha2⟩:=hst a rfl
     rw [spans_words s f _ (some a) acc (by omega) d2 (fun a' e=>by
      cases e
      refine⟨by omega,fun i h1 h2=>?_⟩
      rcases Nat.lt_or_ge i pos with h3 | h3
      ·exact ha2 i h1 h3
      ·have:=w (i - pos) (by omega)
       rwa [show pos+(i - pos)=i by omega] at this)]
  ·obtain rfl:pos=s.size:=by omega
   rw [spansFromP_end isR s f _ st acc (by omega)]
   cases st with
   | none =>
    simp only [closeSpans]
    rw [List.drop_of_length_le (by omega),wordsT_nil,List.append_nil]
   | some a =>
    obtain⟨ha1,ha2⟩:=hst a rfl
    simp only [closeSpans]
    rw [List.map_append,List.map_cons,List.map_nil,piece_list,List.take_of_length_le (by rw [List.length_drop,hlen];omega),wordsT_one]
    ·intro e
     have:=congrArg List.length e
     rw [List.length_drop,hlen] at this
     simp at this
     omega
    ·intro c hc
     obtain⟨i,hi⟩:=List.getElem?_of_mem hc
     have hi2:=(List.getElem?_eq_some_iff.1 hi).1
     rw [List.length_drop,hlen] at hi2
     rw [List.getElem?_drop,get_byte s (by omega)] at hi
     cases hi
     exact ha2 _ (by omega) (by omega)
theorem fields_words (s:ByteArray):(goFieldsP isR s).map (·.data.toList)=wordsT s.data.toList:=by
 have h:=spans_words s s.size 0 none [] (by omega) (by omega) (fun a e=>by cases e)
 simp only [List.map_nil,List.nil_append,List.drop_zero] at h
 rw [goFieldsP,List.map_map,← h]
 rfl
end Go.Proofs.YtnecjdhamohadaaGreatDoor
namespace Go.Proofs.YtnecjdhamohadaaGreatDoor
open Go.Lib
theorem words_head:∀ (s:TT) {a:TT} {r:List TT},wordsT s=a :: r→∃ pre post,s=pre++a++post∧(∀ c∈pre,isB c=true)∧(post=[]∨∃ b t,post=b :: t∧isB b=true)∧a≠[]∧∀ c∈a,isB c=false
 | [],_,_,h=>by cases h
 | c :: s,a,r,h=>by
  cases hc:isB c with
  | true =>
   rw [wordsT_blank hc] at h
   obtain⟨pre,post,h1,h2,h3,h4⟩:=words_head s h
   refine⟨c :: pre,post,by rw [h1];rfl,fun d hd=>?_,h3,h4⟩
   rcases List.mem_cons.1 hd with rfl | hd
   ·exact hc
   ·exact h2 d hd
  | false =>
   have hs:c :: s=((c :: s).takeWhile fun d=>!isB d)++(c :: s).dropWhile fun d=>!isB d:=(List.takeWhile_append_dropWhile).symm
   obtain⟨a',ha'⟩:∃ a',a'=(c :: s).takeWhile fun d=>!isB d:=⟨_,rfl⟩
   obtain⟨post,hpost⟩:∃ p,p=(c :: s).dropWhile fun d=>!isB d:=⟨_,rfl⟩
   rw [← ha',← hpost] at hs
   have hne:a'≠[]:=by
    rw [ha',List.takeWhile_cons,hc]
    simp
   have hfr:∀ d∈a',isB d=false:=fun d hd=>by
    rw [ha'] at hd
    have:=List.all_eq_true.1 (List.all_takeWhile (p:=fun d=>!isB d) (l:=c :: s)) d hd
    simpa using this
   cases hp:post with
   | nil =>
    rw [hs,hp,List.append_nil,wordsT_one hne hfr] at h
    injection h with h1 h2
    subst h1
    exact⟨[],[],by rw [hs,hp];simp,by simp,.inl rfl,hne,hfr⟩
   | cons b t =>
    have hb:isB b=true:=by
     have h0:post≠[]:=by rw [hp];simp
     have:=List.head_dropWhile_not (fun d=>!isB d) (by rw [← hpost];exact h0)
     have hh:((c :: s).dropWhile fun d=>!isB d).head?=some b:=by rw [← hpost,hp];rfl
     rw [List.head?_eq_some_head (by rw [← hpost];exact h0)] at hh
     injection hh with hh
     rw [hh] at this
     simpa using this
    rw [hs,hp,wordsT_at hne hfr hb] at h
    injection h with h1 h2
    subst h1
    exact⟨[],b :: t,by rw [hs,hp];simp,by simp,.inr ⟨b,t,rfl,hb⟩,hne,hfr⟩
theorem dropWhile_all {p:UInt8→Bool}:∀ {a b:TT},(∀ c∈a,p c=true)→(a++b).dropWhile p=b.dropWhile p
 | [],_,_=>rfl
 | c :: a,b,h=>by
  rw [List.cons_append,List.dropWhile_cons,h c (by simp),if_pos rfl]
  exact dropWhile_all fun d hd=>h d (by simp [hd])
theorem behind_at {pre a post:TT} (h1:∀ c∈pre,isB c=true) (h2:post=[]∨∃ b t,post=b :: t∧isB b=true) (h3:a≠[]) (h4:∀ c∈a,isB c=false):behindT (pre++a++post)=post.drop 1:=by
 unfold behindT
 rw [List.append_assoc,dropWhile_all h1]
 have e1:(a++post).dropWhile isB=a++post:=by
  cases a with
  | nil=>exact absurd rfl h3
  | cons c a=>rw [List.cons_append,List.dropWhile_cons,h4 c (by simp)];rfl
 rw [e1,dropWhile_all (p:=fun c=>!isB c) (fun c hc=>by simp [h4 c hc])]
 rcases h2 with rfl | ⟨b,t,rfl,hb⟩
 ·rfl
 ·rw [List.dropWhile_cons,hb]
  rfl
theorem index_text {pre post:TT} (h1:∀ c∈pre,isB c=true):Lib.index (pre++kText++post) kText=pre.length:=by
 refine Lib.index_first (by simp) ?_ (fun j hj=>?_)
 ·unfold Lib.occAt
  rw [List.append_assoc,List.drop_left]
  simp [List.isPrefixOf_iff_prefix]
 ·unfold Lib.occAt
  have hd:(pre++kText++post).drop j=pre[j] :: (pre++kText++post).drop (j+1):=by
   have hl:j < (pre++kText++post).length:=by simp;omega
   rw [List.drop_eq_getElem_cons hl]
   congr 1
   rw [List.getElem_append_left (by simp;omega),List.getElem_append_left hj]
  rw [hd]
  have hb:=h1 pre[j] (List.getElem_mem hj)
  have hne:((116:UInt8) == pre[j])=false:=by
   rw [beq_eq_false_iff_ne]
   intro e
   rw [← e] at hb
   revert hb
   decide
  simp [kText,List.isPrefixOf,hne]
end Go.Proofs.YtnecjdhamohadaaGreatDoor
namespace Go.Proofs.YtnecjdhamohadaaGreatDoor
open Go.RowKit Go.Shelf
set_option maxRecDepth 100000
theorem indexB_at (c:UInt8) (x r:TT) (h:c ∉ x):Lib.index (x++c :: r) [c]=x.length:=by
 rw [Lib.index_one]
 have hc:(x++c :: r)[x.length]?=some c:=by simp
 rcases Int.lt_or_le (Lib.indexByte (x++c :: r) c) 0 with hn | hn
 ·have h1:Lib.indexByte (x++c :: r) c = -1:=by have:=Lib.indexByte_ge (x++c :: r) c;omega
  exact absurd hc (Lib.indexByte_none h1 _)
 ·obtain⟨k,hk⟩:∃ k:Nat,Lib.indexByte (x++c :: r) c=k:=⟨_,(Int.toNat_of_nonneg hn).symm⟩
  obtain⟨h1,h2⟩:=Lib.indexByte_some hk
  rw [hk]
  rcases Nat.lt_trichotomy k x.length with hlt | heq | hgt
  ·rw [List.getElem?_append_left hlt] at h1
   exact absurd (List.mem_of_getElem? h1) h
  ·rw [heq]
  ·exact absurd hc (h2 _ hgt)
theorem indexB_not (c:UInt8) (x:TT) (h:c ∉ x):Lib.index x [c] = -1:=by
 rw [Lib.index_one]
 rcases Int.lt_or_le (Lib.indexByte x c) 0 with hn | hn
 ·have:=Lib.indexByte_ge x c;omega
 ·obtain⟨k,hk⟩:∃ k:Nat,Lib.indexByte x c=k:=⟨_,(Int.toNat_of_nonneg hn).symm⟩
  exact absurd (List.mem_of_getElem? (Lib.indexByte_some hk).1) h
theorem indexB_strB (l m:TT):Lib.indexB (strB l) (strB m)=Lib.index l m:=by
 show Lib.index (strB l).data.toList (strB m).data.toList=_
 rw [strB_list,strB_list]
theorem drop_strB (l r:TT) (c:UInt8):(strB (l++c :: r)).extract (l.length+(strB [c]).size) (strB (l++c :: r)).size=strB r:=by
 refine bytes_ext ?_
 rw [extract_list,strB_list,strB_list,strB_size,strB_size]
 simp
 exact List.take_of_length_le (by omega)
theorem take_strB (l r:TT):(strB (l++r)).extract 0 (l.length+0)=strB l:=by
 refine bytes_ext ?_
 rw [extract_list,strB_list,strB_list]
 simp
theorem join_two (c:UInt8) (x y:TT) (r:List TT):Lib.join (x :: y :: r) [c]=x++c :: Lib.join (y :: r) [c]:=by
 rw [Lib.join_cons,Lib.join_cons,Lib.joinTail]
 simp [Lib.joinTail]
theorem split_join (c:UInt8):∀ (xs:List TT),xs≠[]→(∀ x∈xs,c ∉ x)→Lib.countB (strB (Lib.join xs [c])) (strB [c])=xs.length - 1∧Lib.splitB (strB [c]) 0 (xs.length - 1) (strB (Lib.join xs [c]))=xs.map strB
 | [],h,_=>absurd rfl h
 | [x],_,h=>by
  have hi:Lib.indexB (strB (Lib.join [x] [c])) (strB [c]) = -1:=by
   rw [Lib.join_one,indexB_strB]
   exact indexB_not c x (h x (by simp))
  refine⟨Lib.countB_miss _ _ hi,?_⟩
  rw [Lib.splitB_miss _ _ _ _ hi,Lib.join_one]
  rfl
 | x :: y :: r,_,h=>by
  have ih:=split_join c (y :: r) (by simp) (fun z hz=>h z (by simp only [List.mem_cons] at hz ⊢;exact .inr hz))
  have hi:Lib.indexB (strB (Lib.join (x :: y :: r) [c])) (strB [c])=(x.length:Nat):=by
   rw [join_two,indexB_strB]
   exact indexB_at c x _ (h x (by simp))
  have hd:=drop_strB x (Lib.join (y :: r) [c]) c
  have ht:=take_strB x (c :: Lib.join (y :: r) [c])
  rw [← join_two] at hd ht
  constructor
  ·rw [Lib.countB_hit _ _ _ (by rw [strB_size];simp) hi,hd,ih.1]
   simp
   omega
  ·rw [show (x :: y :: r).length - 1=((y :: r).length - 1)+1 by simp,Lib.splitB_hit _ _ _ _ _ hi,hd,ht,ih.2]
   rfl
theorem join_segs (c:UInt8):∀ s:TT,Lib.join (segs (· == c) s) [c]=s
 | []=>rfl
 | d :: s=>by
  obtain⟨x,r,h1,h2⟩:=segs_cons (· == c) d s
  have ih:=join_segs c s
  rw [h1] at ih
  rw [h2]
  split
  ·rename_i hd
   have hd':d=c:=by simpa using hd
   rw [join_two,List.nil_append,ih,hd']
  ·cases r with
   | nil =>
    rw [Lib.join_one] at ih ⊢
    rw [ih]
   | cons y r =>
    rw [join_two] at ih ⊢
    rw [List.cons_append,ih]
theorem segs_no_c (c:UInt8) (s:TT):∀ x∈segs (· == c) s,c ∉ x:=fun x hx hc=>by
 have:=segs_free hx c hc
 simp at this
end Go.Proofs.YtnecjdhamohadaaGreatDoor
namespace Go.Proofs.YtnecjdhamohadaaGreatDoor
open Go.RowKit Go.Maps Go.WideMaps Go.WideAt Go.MapKept Go.ChangeMaps
section
variable {α:Type} {enc:α→Value}
open Classical in
noncomputable def elemR (enc:α→Value) (v:Value):Option (DataW α × List MemPlace):=if h:∃ a,v=enc a then some (.held (Classical.choose h),[]) else none
theorem elemR_mk (hinj:∀ a b,enc a=enc b→a=b) (a:α):elemR enc (enc a)=some (.held a,[]):=by
 have h:∃ b,enc a=enc b:=⟨a,rfl⟩
 unfold elemR
 rw [dif_pos h,← hinj _ _ (Classical.choose_spec h)]
theorem elemR_inv {v:Value} {d:DataW α} {ps:List MemPlace} (h:elemR enc v=some (d,ps)):∃ a,v=enc a∧d = .held a:=by
 unfold elemR at h
 split at h
 ·rename_i hx
  simp only [Option.some.injEq,Prod.mk.injEq] at h
  exact⟨_,Classical.choose_spec hx,h.1.symm⟩
 ·cases h

abbrev Tab (α:Type):=List (List UInt8 × α)
def mapD (M:Tab α):DataW α:=.map (M.map fun p=>(.string p.1,.held p.2))
def getM (M:Tab α) (k:List UInt8):Option α:=(M.find? (fun p=>p.1 == k)).map (·.2)
def insM (x:List UInt8 × α):Tab α→Tab α
 | []=>[x]
 | y :: r=>if bytesBefore x.1 y.1 then x :: y :: r else y :: insM x r
def delM (M:Tab α) (k:List UInt8):Tab α:=M.filter fun p=>!(p.1 == k)
def putM (M:Tab α) (k:List UInt8) (a:α):Tab α:=insM (k,a) (delM M k)
theorem mapD_ins (x:List UInt8 × α):∀ M:Tab α,DataW.insert (.string x.1,.held x.2) (M.map fun p=>((.string p.1:Lit),(.held p.2:DataW α)))=(insM x M).map fun p=>(.string p.1,.held p.2)
 | []=>rfl
 | y :: r=>by
  have ih:=mapD_ins x r
  rw [List.map_cons]
  unfold DataW.insert insM
  by_cases h:bytesBefore x.1 y.1=true
  ·rw [if_pos (show (Lit.string x.1).before (Lit.string y.1)=true from h),if_pos h];rfl
  ·rw [if_neg (show ¬ (Lit.string x.1).before (Lit.string y.1)=true from h),if_neg h,List.map_cons,ih]
theorem filter_mapD (M:Tab α) (k:List UInt8):((M.map fun p=>((.string p.1:Lit),(.held p.2:DataW α))).filter fun p=>!p.1.sameKey (.string k))=(delM M k).map fun p=>(.string p.1,.held p.2):=by
 unfold delM
 rw [List.filter_map]
 rfl
theorem mapD_put (M:Tab α) (k:List UInt8) (a:α):(mapD M).put (.string k) (.held a)=mapD (putM M k a):=by
 show DataW.map _=DataW.map _
 rw [filter_mapD]
 exact congrArg _ (mapD_ins (k,a) _)
theorem mapD_del (M:Tab α) (k:List UInt8):(mapD M).del (.string k)=mapD (delM M k):=by
 show DataW.map _=DataW.map _
 rw [filter_mapD]
theorem find_mapD (k:List UInt8):∀ M:Tab α,(M.map fun p=>((.string p.1:Lit),(.held p.2:DataW α))).find? (fun p=>p.1.sameKey (.string k))=(M.find? (fun p=>p.1 == k)).map fun p=>(.string p.1,.held p.2)
 | []=>rfl
 | y :: r=>by
  have ih:=find_mapD k r
  simp only [List.map_cons,List.find?_cons,Lit.sameKey]
  cases h:(y.1 == k)
  ·exact ih
  ·rfl
theorem any_find {β:Type} (f:β→Bool):∀ l:List β,l.any f=(l.find? f).isSome
 | []=>rfl
 | x :: r=>by
  rw [List.any_cons,List.find?_cons,any_find f r]
  cases f x <;> rfl
theorem has_mapD (M:Tab α) (k:List UInt8):has (mapD M) (.string k)=(getM M k).isSome:=by
 show List.any _ _=_
 rw [any_find,find_mapD,getM,Option.isSome_map,Option.isSome_map]
theorem atKey_mapD (M:Tab α) (k:List UInt8) (z:DataW α):(mapD M).atKey (.string k) z=match getM M k with | some a=>.held a | none=>z:=by
 unfold DataW.atKey mapD getM
 simp only [find_mapD]
 cases M.find? (fun p=>p.1 == k) <;> rfl
theorem size_mapD (M:Tab α):size (mapD M)=M.length:=by show List.length _=_;simp
def MapIs (w:World) (P:Program) (k:TypeId) (enc:α→Value) (b n:Nat) (M:Tab α):Prop:=w.ownsMap P k (elemR enc) b n (mapD M)
variable {w w':World} {P:Program} {k:TypeId} {b n:Nat} {M:Tab α}
theorem MapIs.length_le (h:MapIs w P k enc b n M):M.length≤n:=by
 obtain⟨es,clock,_,_,hs,hD⟩:=h
 have h1:=congrArg Maps.size hD
 rw [size_mapD] at h1
 rw [h1,size_eq,length_sorted,List.length_map,Array.length_toList]
 exact hs
theorem MapIs.made (w:World) (P:Program) (k:TypeId) (enc:α→Value):MapIs (w.alloc (.map #[] 0)) P k enc w.heap.size 0 ([]:Tab α):=World.ownsMap_made w P k _
theorem MapIs.mono (h:MapIs w P k enc b n M) {n':Nat} (hn:n≤n'):MapIs w P k enc b n' M:=World.ownsMap.mono h hn
theorem MapIs.lt (h:MapIs w P k enc b n M):b < w.heap.size:=World.ownsMap.lt h
theorem MapIs.keep (h:MapIs w P k enc b n M) (hb:w'.heap[b]?=w.heap[b]?):MapIs w' P k enc b n M:=by
 obtain⟨es,clock,hh,F,hs,hD⟩:=h
 exact⟨es,clock,hb.trans hh,F,hs,hD⟩
theorem MapIs.alloc (h:MapIs w P k enc b n M) (o:Obj):MapIs (w.alloc o) P k enc b n M:=h.keep (Below.heap_alloc w o _ h.lt)
theorem MapIs.below (h:MapIs w P k enc b n M) {B:Nat} (hb:Below B w w') (hB:b < B):MapIs w' P k enc b n M:=h.keep (hb.block _ hB)
theorem MapIs.setCell (h:MapIs w P k enc b n M) (p:Addr) (v:Value) (hne:b≠p.block):MapIs (w.setCell p v) P k enc b n M:=h.keep (Below.heap_setCell w p v b hne)
theorem MapIs.drewN (h:MapIs w P k enc b n M) (m:Nat):MapIs (w.drewN m) P k enc b n M:=h
end

section
variable {α:Type} {enc:α→Value} {w:World} {P:Program} {k t e:TypeId} {b n:Nat} {M:Tab α}
theorem MapIs.look_ok (h:MapIs w P k enc b n M) (hinj:∀ a b,enc a=enc b→a=b) (hk:P.underlying k=some .string) (ht:P.underlying t=some (.map k e)) (z0:α) (hz:(zeroValue e).run P w = .ok (enc z0) w) (s:ByteArray) (hs:s.size≤maxLen) :
  (Instr.lookup t (.map (some b)) (.string s) true).run P w = .ok (.tuple #[enc ((getM M s.data.toList).getD z0),.bool (getM M s.data.toList).isSome]) w:=by
 obtain⟨v,ps,hrun,hv⟩:=World.ownsMap.look_ok h (string_keyed hk) ht hz (elemR_mk hinj z0) (keyOf_string_mk hk hs)
 rw [has_mapD] at hrun
 rw [atKey_mapD] at hv
 obtain⟨a,rfl,ha⟩:=elemR_inv hv
 rw [hrun]
 cases hg:getM M s.data.toList with
 | none=>rw [hg] at ha;injection ha with ha;subst ha;rfl
 | some x=>rw [hg] at ha;injection ha with ha;subst ha;rfl
theorem MapIs.look (h:MapIs w P k enc b n M) (hinj:∀ a b,enc a=enc b→a=b) (hk:P.underlying k=some .string) (ht:P.underlying t=some (.map k e)) (z0:α) (hz:(zeroValue e).run P w = .ok (enc z0) w) (s:ByteArray) (hs:s.size≤maxLen) :
  (Instr.lookup t (.map (some b)) (.string s) false).run P w = .ok (enc ((getM M s.data.toList).getD z0)) w:=by
 obtain⟨v,ps,hrun,hv⟩:=World.ownsMap.lookup h (string_keyed hk) ht hz (elemR_mk hinj z0) (keyOf_string_mk hk hs)
 rw [atKey_mapD] at hv
 obtain⟨a,rfl,ha⟩:=elemR_inv hv
 rw [hrun]
 cases hg:getM M s.data.toList with
 | none=>rw [hg] at ha;injection ha with ha;subst ha;rfl
 | some x=>rw [hg] at ha;injection ha with ha;subst ha;rfl
def Turn (b:Nat) (w w':World):Prop:=w'.os=w.os∧w'.tape=w.tape∧w'.output=w.output∧w'.heap.size=w.heap.size∧∀ k,k≠b→w'.heap[k]?=w.heap[k]?
theorem turn_of {w':World} (h:w.mapTurned w' b):Turn b w w':=by
 obtain⟨es,clock,es',clock',hb,rfl⟩:=h
 exact⟨rfl,rfl,rfl,by simp [setBlock],fun k hk=>heap_setBlock_other hb _ hk⟩
theorem MapIs.update (h:MapIs w P k enc b n M) (hinj:∀ a b,enc a=enc b→a=b) (hk:P.underlying k=some .string) (ht:P.underlying t=some (.map k e)) (hn:n < maxLen) (s:ByteArray) (hs:s.size≤maxLen) (a:α) :
  ∃ w',(Instr.mapUpdate t (.map (some b)) (.string s) (enc a)).run P w = .ok () w'∧MapIs w' P k enc b (n+1) (putM M s.data.toList a)∧Turn b w w':=by
 obtain⟨w',hrun,h1,h2⟩:=World.ownsMap.store h (string_keyed hk) ht hn (keyOf_string_mk hk hs) (elemR_mk hinj a)
 rw [mapD_put] at h1
 exact⟨w',hrun,h1,turn_of h2⟩
theorem MapIs.drop (h:MapIs w P k enc b n M) (hk:P.underlying k=some .string) (ht:P.underlying t=some (.map k e)) (s:ByteArray) (hs:s.size≤maxLen) (ty:TypeId) :
  ∃ w',(Builtin.delete_ #[t,k] ty #[.map (some b),.string s]).run P w = .ok (.tuple #[]) w'∧MapIs w' P k enc b n (delM M s.data.toList)∧Turn b w w':=by
 obtain⟨w',hrun,h1,h2⟩:=World.ownsMap.drop h (string_keyed hk) ht (keyOf_string_mk hk hs) ty
 rw [mapD_del] at h1
 exact⟨w',hrun,h1,turn_of h2⟩
theorem wpList_update_map {ops:Array Oper} {rest:List Oper} {a:Act} {Q:Exit→Act→World→Prop} {dst:Option Tmp} {tt:TypeId} {m x v:Operand} {pos:String} {after:Array Edge}
  (h:MapIs w P k enc b n M) (hinj:∀ a b,enc a=enc b→a=b) (hk:P.underlying k=some .string) (ht:P.underlying t=some (.map k e)) (hn:n < maxLen) (s:ByteArray) (hs:s.size≤maxLen) (y:α)
  (hx:a.eval m = .map (some b)∧a.eval x = .string s∧a.eval v=enc y)
  (hK:∀ w',MapIs w' P k enc b (n+1) (putM M s.data.toList y)→Turn b w w'→wpList P ops Q rest (a.put dst undef) w') :
  wpList P ops Q (⟨dst,.mapUpdate t m x v,tt,pos,after,none⟩ :: rest) a w:=by
 refine wpList_plain rfl fun K' hK'=>?_
 obtain⟨w',hrun,r1,r2⟩:=h.update hinj hk ht hn s hs y
 unfold Oper.wp
 simp [execOp,hx.1,hx.2.1,hx.2.2,hrun,Result.andThen]
 exact hK' _ _ (hK w' r1 r2)
end

end Go.Proofs.YtnecjdhamohadaaGreatDoor
namespace Go.Proofs.YtnecjdhamohadaaGreatDoor
def VV (vals:List (Option Value)) (X:Nat→Value→World→Prop) (j:Nat) (v:Value) (w:World):Prop :=
 match vals.getD j none with
 | some u=>v=u
 | none=>X j v w
theorem VV.keep {vals:List (Option Value)} {X:Nat→Value→World→Prop} {j:Nat} {v:Value} {w w':World} (hX:X j v w→X j v w') (h:VV vals X j v w):VV vals X j v w':=by
 unfold VV at *
 split at h
 ·exact h
 ·exact hX h
end Go.Proofs.YtnecjdhamohadaaGreatDoor
namespace Go.Proofs.YtnecjdhamohadaaGreatDoor
open Go.RowKit
section
variable {P:Program} {w:World}
theorem run_append_two (t u ty e:TypeId) (i:TypeInfo) (z:Value) (sz bytes:Nat) (ht:P.underlying t=some (.slice e)) (hi:P.info? e=some i) (hz:i.zero=some z)
  (hsize:i.size=sz) (hby:i.bytes=bytes) (hzs:z.cells.size=sz)
  {base:Nat} {A:Option Addr} {n c:Nat} {xs:List Value} (hown:Own w base e sz A n c xs)
  {x:Value} {m:Nat} {news:List Value} (hsrc:Src P w u sz x m news) (h1:∀ v∈news,v.oneCell'=true)
  (h63:n+m≤maxLen) (hbytes:(n+m) * bytes≤140737488355328) (hbase:base≤w.heap.size) :
  ∃ A' c' w',(Builtin.append_ #[t,u] ty #[.slice A n c,x]).run P w = .ok (.slice A' (n+m) c') w'∧Own w' base e sz A' (n+m) c' (xs++news)∧w.grownBy w' (blockOf A) ∧
   ((A'=A∧c'=c)∨(blockOf A'=some w.heap.size∧Below w.heap.size w w')):=by
 subst hsize
 subst hby
 have hsmall:n+m≤9223372036854775807:=by simp only [maxLen] at h63;omega
 obtain⟨hl,hnc,hcm,hc⟩:=hown
 obtain⟨hnl,hd,hlen,hfirst⟩:=hsrc
 have hlen0:=hlen 0
 have hlen':(xs++news).length=(n+m) * i.size:=by rw [List.length_append,hl,hnl,Nat.add_mul]
 by_cases hroom:n+m≤c
 ·-- there is room
  rcases Nat.eq_zero_or_pos c with h0 | h0
  ·subst h0
   obtain rfl:n=0:=by omega
   obtain rfl:m=0:=by omega
   have hx0:xs=[]:=List.eq_nil_of_length_eq_zero (by simpa using hl)
   have hn0:news=[]:=List.eq_nil_of_length_eq_zero (by simpa using hnl)
   subst hx0 hn0
   refine⟨A,0,w,?_,⟨by simp,Nat.le_refl _,hcm,hc⟩,⟨rfl,rfl,rfl,Nat.le_refl _,fun _ _ _=>rfl⟩,.inl ⟨rfl,rfl⟩⟩
   have hf:=hfirst 0
   simp only [World.drewN_zero] at hf hlen0
   rcases hd with ⟨_,hd⟩ | hd <;> cases A <;> simp [Builtin.append_,run_underlying ht,run_underlying hd,sizeOf,typeInfo,hi,hlen0,hf,storeCells]
  ·obtain⟨b,o,cur,fr,rfl,hb,hg,hfr,hs,hx⟩:=hc.resolve_left (fun e=>by omega)
   have hns:n * i.size+news.length≤c * i.size:=by rw [hnl,← Nat.add_mul];exact Nat.mul_le_mul_right _ hroom
   have hst:=run_storeCells_free P b (o+n * i.size) e fr news 0 cur w hfr hg (by omega) h1
   simp only [Nat.add_zero] at hst
   have hf:=hfirst 0
   simp only [World.drewN_zero] at hf hlen0
   refine⟨some ⟨b,o,none⟩,c,w.setRow b (cur.toList.take (o+n * i.size)++news++cur.toList.drop (o+n * i.size+news.length)).toArray,?_,?_,?_,.inl ⟨rfl,rfl⟩⟩
   ·rcases hd with ⟨_,hd⟩ | hd <;> simp [Builtin.append_,run_underlying ht,run_underlying hd,sizeOf,typeInfo,hi,hlen0,hf,hroom,addr_add,hst]
   ·refine⟨hlen',hroom,hcm,.inr ⟨b,o,_,fr,rfl,hb,setRow_heap w b cur _ e _ hg,?_,?_,fun j hj=>?_⟩⟩
    ·simp only [List.size_toArray,List.length_append,List.length_take,List.length_drop,Array.length_toList]
     rw [show min (o+n * i.size) cur.size+news.length+(cur.size - (o+n * i.size+news.length))=cur.size by omega]
     exact hfr
    ·simp only [List.size_toArray,List.length_append,List.length_take,List.length_drop,Array.length_toList]
     omega
    ·have hlt:(cur.toList.take (o+n * i.size)).length=o+n * i.size:=by rw [List.length_take,Array.length_toList];omega
     have hnx:n * i.size=xs.length:=hl.symm
     simp only [List.getElem?_toArray]
     rw [List.append_assoc]
     by_cases hjn:j < n * i.size
     ·rw [List.getElem?_append_left (by omega),List.getElem?_append_left (by omega),List.getElem?_take,if_pos (by omega),← hx j hjn]
      simp
     ·rw [Nat.add_mul] at hj
      rw [List.getElem?_append_right (by omega),List.getElem?_append_left (by omega),List.getElem?_append_right (l₁:=xs) (by omega)]
      congr 1
      omega
   ·exact⟨rfl,rfl,rfl,by simp,fun k _ hk=>setRow_other w b k _ (fun e=>hk (by simp [blockOf,e]))⟩
 ·-- a new row
  have hge:=grownCap_ge w (n+m) c e
  have hcm':grownCap w (n+m) c e≤maxLen:=grownCap_le_maxLen w (n+m) c e h63
  have h63':¬ (9223372036854775807 < ((n:Int)+(m:Int))):=by omega
  have h48':¬ (281474976710656 < Builtin.nextslicecap (n+m) c * i.bytes):=by
   have:=growslice_fits (need:=n+m) (old:=c) (by omega) hbytes
   omega
  have hf:=hfirst 1
  have hfo:(Builtin.firstCells i.size n (.slice A n c)).run P (w.drewN 1) = .ok xs.toArray (w.drewN 1):=by
   rcases Nat.eq_zero_or_pos c with h0 | h0
   ·obtain rfl:n=0:=by omega
    have hx0:xs=[]:=List.eq_nil_of_length_eq_zero (by simpa using hl)
    subst hx0
    cases A <;> simp [Builtin.firstCells,loadCells,loadCellsFrom]
   ·obtain⟨b,o,cur,fr,rfl,hb,hg,hfr,hs,hx⟩:=hc.resolve_left (fun e=>by omega)
    refine run_firstCells_some (P:=P) (w.drewN 1) i.size n ⟨b,o,none⟩ n c xs hl (fun j v hv=>?_)
    have hj:j < xs.length:=by
     rcases Nat.lt_or_ge j xs.length with hlt | hge
     ·exact hlt
     ·rw [List.getElem?_eq_none hge] at hv;cases hv
    rw [addr_add]
    show w.cell? _=_
    rw [cell_of_row w b _ cur e _ hg,hx j (by omega),hv]
  have e1:w.drewN 1=w.drew:=rfl
  rw [e1] at hf hfo
  simp only [World.drewN_zero] at hlen0
  refine⟨some ⟨w.heap.size,0,none⟩,grownCap w (n+m) c e,w.drew.alloc (.cells (xs.toArray++news.toArray++Builtin.zeroCells z.cells (grownCap w (n+m) c e - (n+m))) e),?_,?_,?_,.inr ⟨rfl,(Below.refl _ w).drew.alloc (Nat.le_refl _) _⟩⟩
  ·rcases hd with ⟨_,hd⟩ | hd <;> simp [Builtin.append_,run_underlying ht,run_underlying hd,sizeOf,typeInfo,zeroValue,hi,hz,hlen0,hroom,h63',h48',Question.forced,hf,hfo,newRow,grownCap,-List.append_toArray]
  ·have hsz:(xs.toArray++news.toArray++Builtin.zeroCells z.cells (grownCap w (n+m) c e - (n+m))).size=grownCap w (n+m) c e * i.size:=by
    simp only [Array.size_append,List.size_toArray,size_zeroCells,hzs,hl,hnl,← Nat.add_mul]
    congr 1;omega
   have h:=Own.made w.drew (xs.toArray++news.toArray++Builtin.zeroCells z.cells (grownCap w (n+m) c e - (n+m))) e i.size (n+m) _ base hbase hge hcm' hsz
   have ht:(xs.toArray++news.toArray++Builtin.zeroCells z.cells (grownCap w (n+m) c e - (n+m))).toList.take ((n+m) * i.size)=xs++news:=by
    simp only [Array.toList_append]
    rw [← hlen']
    exact List.take_left
   rw [ht] at h
   exact h
  ·exact⟨rfl,rfl,rfl,by simp,fun k hk _=>Below.heap_alloc w.drew _ k hk⟩


def Came (base:Nat) (t:TypeId) (sz:Nat) (A:Option Addr) (c:Nat) (n:Nat) (xs:List Value) (A':Option Addr) (c':Nat) (w:World):Prop :=
 Own w base t sz A' n c' xs∧((A'=A∧c'=c)∨blockOf A'≠blockOf A)
def KeptBut (base:Nat) (t:TypeId) (sz:Nat) (A:Option Addr) (c:Nat) (n:Nat) (xs:List Value) (w w':World):Prop :=
 w.grownBy w' (blockOf A)∧∀ A' c',Came base t sz A c n xs A' c' w→Came base t sz A c n xs A' c' w'
theorem KeptBut.refl {base:Nat} {t:TypeId} {sz:Nat} {A:Option Addr} {c n:Nat} {xs:List Value} (w:World):KeptBut base t sz A c n xs w w:=⟨⟨rfl,rfl,rfl,Nat.le_refl _,fun _ _ _=>rfl⟩,fun _ _ h=>h⟩
theorem KeptBut.alloc {base:Nat} {t:TypeId} {sz:Nat} {A:Option Addr} {c n:Nat} {xs:List Value} (w:World) (o:Obj):KeptBut base t sz A c n xs w (w.alloc o):=⟨World.grownBy_alloc w o _,fun _ _ h=>⟨h.1.alloc o,h.2⟩⟩
theorem wp_append_two {o:Oper} {a:Act} {K:Act→World→Prop} {Q:Exit→Act→World→Prop} (s x:Operand) (t u:TypeId)
  (ho:o.op = .call { callee:=.builtin .append,args:=#[s,x],argTypes:=#[t,u] })
  (e:TypeId) (z:Value) (sz bytes:Nat) (ht:P.underlying t=some (.slice e)) (hi:(P.info? e).map (fun i=>(i.zero,i.size,i.bytes))=some (some z,sz,bytes)) (hzs:z.cells.size=sz)
  (base:Nat) (A:Option Addr) (n c:Nat) (xs:List Value) (hown:Own w base e sz A n c xs)
  (m:Nat) (news:List Value) (v:Value) (hsrc:Src P w u sz v m news) (h1:∀ v∈news,v.oneCell'=true)
  (h63:n+m≤maxLen) (hbytes:(n+m) * bytes≤140737488355328) (hbase:base≤w.heap.size) (hsx:a.eval s = .slice A n c∧a.eval x=v)
  (h:∀ A' c' w',Came base e sz A c (n+m) (xs++news) A' c' w'→KeptBut base e sz A c (n+m) (xs++news) w w'→Own w' base e sz A n c xs→K (a.put o.dst (.slice A' (n+m) c')) w'):o.wp P a w K Q:=by
 obtain⟨i,hi0,hz,hsz,hby⟩:=info_parts hi
 obtain⟨A',c',w',hr,h2,h3,h4⟩:=run_append_two (P:=P) t u o.type e i z sz bytes ht hi0 hz hsz hby hzs hown hsrc h1 h63 hbytes hbase
 unfold Oper.wp execOp
 simp only [ho,resolve,invoke,builtin,Sem.run_bind,Sem.run_pure,Result.andThen_ok,List.map_toArray,List.map_cons,List.map_nil,hsx.1,hsx.2,hr]
 have hl:=hown.1
 rcases h4 with ⟨rfl,rfl⟩ | ⟨h5,h6⟩
 ·refine h A' c' w' ⟨h2,.inl ⟨rfl,rfl⟩⟩ ⟨h3,fun B cB hB=>?_⟩ ?_
  ·rcases hB with ⟨hB1,⟨rfl,rfl⟩ | hB2⟩
   ·exact⟨h2,.inl ⟨rfl,rfl⟩⟩
   ·exact⟨hB1.grown h3 fun b hb e=>hB2 (by rw [hb,e]),.inr hB2⟩
  ·have:=h2.take (k:=n) (by omega)
   rwa [List.take_append_of_le_length (by omega),List.take_of_length_le (by omega)] at this
 ·have hne:blockOf A'≠blockOf A:=fun e=>by
   rw [h5] at e
   have:=(hown.block _ e.symm).2.1
   omega
  refine h A' c' w' ⟨h2,.inr hne⟩ ⟨h3,fun B cB hB=>⟨hB.1.below h6 (Nat.le_refl _),hB.2⟩⟩ (hown.below h6 (Nat.le_refl _))
end
end Go.Proofs.YtnecjdhamohadaaGreatDoor
