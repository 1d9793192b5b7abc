/- A text cut at a byte: strings.Split's pieces are its segments. -/
import Derived.Test.YtjjpecggcjggpaaGreatDoorKa
import Derived.Lib.Split
import Derived.Lib.SplitLaws
import Derived.Lib.Bytealg
import Derived.Lib.BytesEntry
import Derived.Lib.Join
import Derived.Shelf.Abstract
import Derived.Lib.FieldsP
import Derived.Lib.MapLaws
import Derived.Test.YtjjpecggcjggpaaGreatDoorKc
import Derived.Lib.IndexMore
import Derived.Test.YtjjpecggcjggpaaGreatDoorToolD
import Derived.Test.YtjjpecggcjggpaaGreatDoorKh
set_option linter.unusedSimpArgs false
set_option linter.unusedVariables false
namespace Go.Proofs.YtjjpecggcjggpaaGreatDoor
open Go.RowKit Go.Shelf
set_option maxRecDepth 100000
theorem indexB_at (c : UInt8) (x r : TT) (h : c ∉ x) : Lib.index (x ++ c :: r) [c] = x.length := by
  rw [Lib.index_one]
  have hc : (x ++ c :: r)[x.length]? = some c := by simp
  rcases Int.lt_or_le (Lib.indexByte (x ++ c :: r) c) 0 with hn | hn
  · have h1 : Lib.indexByte (x ++ c :: r) c = -1 := by have := Lib.indexByte_ge (x ++ c :: r) c; omega
    exact absurd hc (Lib.indexByte_none h1 _)
  · obtain ⟨k, hk⟩ : ∃ k : Nat, Lib.indexByte (x ++ c :: r) c = k := ⟨_, (Int.toNat_of_nonneg hn).symm⟩
    obtain ⟨h1, h2⟩ := Lib.indexByte_some hk
    rw [hk]
    rcases Nat.lt_trichotomy k x.length with hlt | heq | hgt
    · rw [List.getElem?_append_left hlt] at h1
      exact absurd (List.mem_of_getElem? h1) h
    · rw [heq]
    · exact absurd hc (h2 _ hgt)
theorem indexB_not (c : UInt8) (x : TT) (h : c ∉ x) : Lib.index x [c] = -1 := by
  rw [Lib.index_one]
  rcases Int.lt_or_le (Lib.indexByte x c) 0 with hn | hn
  · have := Lib.indexByte_ge x c; omega
  · obtain ⟨k, hk⟩ : ∃ k : Nat, Lib.indexByte x c = k := ⟨_, (Int.toNat_of_nonneg hn).symm⟩
    exact absurd (List.mem_of_getElem? (Lib.indexByte_some hk).1) h
theorem indexB_strB (l m : TT) : Lib.indexB (strB l) (strB m) = Lib.index l m := by
  show Lib.index (strB l).data.toList (strB m).data.toList = _
  rw [strB_list, strB_list]
theorem drop_strB (l r : TT) (c : UInt8) : (strB (l ++ c :: r)).extract (l.length + (strB [c]).size) (strB (l ++ c :: r)).size = strB r := by
  refine bytes_ext ?_
  rw [extract_list, strB_list, strB_list, strB_size, strB_size]
  simp
  exact List.take_of_length_le (by omega)
theorem take_strB (l r : TT) : (strB (l ++ r)).extract 0 (l.length + 0) = strB l := by
  refine bytes_ext ?_
  rw [extract_list, strB_list, strB_list]
  simp
theorem join_two (c : UInt8) (x y : TT) (r : List TT) : Lib.join (x :: y :: r) [c] = x ++ c :: Lib.join (y :: r) [c] := by
  rw [Lib.join_cons, Lib.join_cons, Lib.joinTail]
  simp [Lib.joinTail]
theorem split_join (c : UInt8) : ∀ (xs : List TT), xs ≠ [] → (∀ x ∈ xs, c ∉ x) → Lib.countB (strB (Lib.join xs [c])) (strB [c]) = xs.length - 1 ∧ Lib.splitB (strB [c]) 0 (xs.length - 1) (strB (Lib.join xs [c])) = xs.map strB
  | [], h, _ => absurd rfl h
  | [x], _, h => by
    have hi : Lib.indexB (strB (Lib.join [x] [c])) (strB [c]) = -1 := by
      rw [Lib.join_one, indexB_strB]
      exact indexB_not c x (h x (by simp))
    refine ⟨Lib.countB_miss _ _ hi, ?_⟩
    rw [Lib.splitB_miss _ _ _ _ hi, Lib.join_one]
    rfl
  | x :: y :: r, _, h => by
    have ih := split_join c (y :: r) (by simp) (fun z hz => h z (by simp only [List.mem_cons] at hz ⊢; exact .inr hz))
    have hi : Lib.indexB (strB (Lib.join (x :: y :: r) [c])) (strB [c]) = (x.length : Nat) := by
      rw [join_two, indexB_strB]
      exact indexB_at c x _ (h x (by simp))
    have hd := drop_strB x (Lib.join (y :: r) [c]) c
    have ht := take_strB x (c :: Lib.join (y :: r) [c])
    rw [← join_two] at hd ht
    constructor
    · rw [Lib.countB_hit _ _ _ (by rw [strB_size]; simp) hi, hd, ih.1]
      simp
      omega
    · rw [show (x :: y :: r).length - 1 = ((y :: r).length - 1) + 1 by simp, Lib.splitB_hit _ _ _ _ _ hi, hd, ht, ih.2]
      rfl
theorem join_segs (c : UInt8) : ∀ s : TT, Lib.join (segs (· == c) s) [c] = s
  | [] => rfl
  | d :: s => by
    obtain ⟨x, r, h1, h2⟩ := segs_cons (· == c) d s
    have ih := join_segs c s
    rw [h1] at ih
    rw [h2]
    split
    · rename_i hd
      have hd' : d = c := by simpa using hd
      rw [join_two, List.nil_append, ih, hd']
    · cases r with
      | nil =>
        rw [Lib.join_one] at ih ⊢
        rw [ih]
      | cons y r =>
        rw [join_two] at ih ⊢
        rw [List.cons_append, ih]
theorem segs_no_c (c : UInt8) (s : TT) : ∀ x ∈ segs (· == c) s, c ∉ x := fun x hx hc => by
  have := segs_free hx c hc
  simp at this
end Go.Proofs.YtjjpecggcjggpaaGreatDoor
/- The words of a line, as strings.FieldsFunc finds them: rune by rune. Plain: no program is named. -/
namespace Go.Proofs.YtjjpecggcjggpaaGreatDoor
open Go.Lib
def isR (x : Nat) : Bool := x == 32 || x == 9
theorem get_byte (s : ByteArray) {i : Nat} (h : i < s.size) : s.data.toList[i]? = some (s.get! i) := by
  obtain ⟨bs⟩ := s
  have h' : i < bs.size := h
  show bs.toList[i]? = some bs[i]!
  rw [Array.getElem?_toList, Array.getElem?_eq_getElem h', getElem!_pos bs i h']
theorem isB_toNat (c : UInt8) : isB c = isR c.toNat := by
  unfold isB isR
  rw [Bool.eq_iff_iff]
  simp only [Bool.or_eq_true, beq_iff_eq]
  constructor
  · rintro (rfl | rfl)
    · exact .inl rfl
    · exact .inr rfl
  · rintro (h | h)
    · exact .inl (UInt8.toNat_inj.1 h)
    · exact .inr (UInt8.toNat_inj.1 h)
theorem isR_high {x : Nat} (h : 128 ≤ x) : isR x = false := by
  unfold isR
  rw [Bool.or_eq_false_iff]
  exact ⟨by simp; omega, by simp; omega⟩
theorem dec_step (s : ByteArray) (pos : Nat) (h : pos < s.size) : 1 ≤ (Utf8.decode s pos).2 ∧ pos + (Utf8.decode s pos).2 ≤ s.size ∧
    (isR (Utf8.decode s pos).1 = true → (Utf8.decode s pos).2 = 1 ∧ isB (s.get! pos) = true) ∧ (isR (Utf8.decode s pos).1 = false → ∀ i, i < (Utf8.decode s pos).2 → isB (s.get! (pos + i)) = false) := by
  rw [decode_at]
  have hlow : ∀ b0 : Nat, b0 < 128 → ∀ n b1 b2 b3, decodeN n b0 b1 b2 b3 = (b0, 1) := fun b0 hb n b1 b2 b3 => by simp [decodeN, hb]
  have hh : ∀ i, 128 ≤ (s.get! i).toNat → isB (s.get! i) = false := fun i hi => by rw [isB_toNat]; exact isR_high hi
  rcases decodeN_shape (s.size - pos) (s.get! pos).toNat (s.get! (pos + 1)).toNat (s.get! (pos + 2)).toNat (s.get! (pos + 3)).toNat with ⟨h1, e⟩ | ⟨h1, h2, h3, h4, e⟩ | ⟨h1, h2, h3, h4, h5, h6, e⟩ | ⟨h1, h2, h3, h4, h5, h6, h7, e⟩ | e
  · rw [e]
    refine ⟨Nat.le_refl _, by simp only; omega, fun hr => ⟨rfl, by rw [isB_toNat]; exact hr⟩, fun hr i hi => ?_⟩
    obtain rfl : i = 0 := by simp only at hi; omega
    rw [isB_toNat]
    exact hr
  · rw [e]
    refine ⟨by simp, by simp only; omega, fun hr => ?_, fun _ i hi => ?_⟩
    · simp only at hr
      rw [isR_high h4] at hr
      cases hr
    · simp only at hi
      match i, hi with
      | 0, _ => exact hh _ (by simp only [Nat.add_zero]; omega)
      | 1, _ => exact hh _ (by omega)
  · rw [e]
    refine ⟨by simp, by simp only; omega, fun hr => ?_, fun _ i hi => ?_⟩
    · simp only at hr
      rw [isR_high (by omega)] at hr
      cases hr
    · simp only at hi
      match i, hi with
      | 0, _ => exact hh _ (by simp only [Nat.add_zero]; omega)
      | 1, _ => exact hh _ (by omega)
      | 2, _ => exact hh _ (by omega)
  · rw [e]
    refine ⟨by simp, by simp only; omega, fun hr => ?_, fun _ i hi => ?_⟩
    · simp only at hr
      rw [isR_high (by omega)] at hr
      cases hr
    · simp only at hi
      match i, hi with
      | 0, _ => exact hh _ (by simp only [Nat.add_zero]; omega)
      | 1, _ => exact hh _ (by omega)
      | 2, _ => exact hh _ (by omega)
      | 3, _ => exact hh _ (by omega)
  · rw [e]
    refine ⟨by simp, by simp only; omega, fun hr => ?_, fun _ i hi => ?_⟩
    · simp only at hr
      rw [isR_high (by omega)] at hr
      cases hr
    · obtain rfl : i = 0 := by simp only at hi; omega
      refine hh _ ?_
      rcases Nat.lt_or_ge (s.get! pos).toNat 128 with hb | hb
      · rw [hlow _ hb] at e
        have := congrArg (·.1) e
        simp only at this
        omega
      · simpa using hb
def pieceL (s : ByteArray) (x : Nat × Nat) : TT := (s.extract x.1 x.2).data.toList
theorem piece_list (s : ByteArray) (a b : Nat) : pieceL s (a, b) = (s.data.toList.drop a).take (b - a) := by
  unfold pieceL
  rw [ByteArray.data_extract, Array.toList_extract]
theorem spans_words (s : ByteArray) : ∀ (f pos : Nat) (st : Option Nat) (acc : List (Nat × Nat)), s.size - pos ≤ f → pos ≤ s.size → (∀ a, st = some a → a < pos ∧ ∀ i, a ≤ i → i < pos → isB (s.get! i) = false) →
    (closeSpans s (spansFromP isR s f pos st acc)).map (pieceL s) = acc.map (pieceL s) ++ (match st with | none => wordsT (s.data.toList.drop pos) | some a => wordsT (s.data.toList.drop a))
  | f, pos, st, acc, hf, hp, hst => by
    have hlen : s.data.toList.length = s.size := Array.length_toList
    rcases Nat.lt_or_ge pos s.size with hlt | hge
    · obtain ⟨f, rfl⟩ : ∃ k, f = k + 1 := ⟨f - 1, by omega⟩
      obtain ⟨d1, d2, d3, d4⟩ := dec_step s pos hlt
      unfold spansFromP
      rw [if_pos hlt]
      have hb := get_byte s hlt
      have hdrop : s.data.toList.drop pos = s.get! pos :: s.data.toList.drop (pos + 1) := by
        obtain ⟨h1, h2⟩ := List.getElem?_eq_some_iff.1 hb
        rw [List.drop_eq_getElem_cons h1, h2]
      cases hr : isR (Utf8.decode s pos).1 with
      | true =>
        obtain ⟨w1, w2⟩ := d3 hr
        rw [if_pos rfl]
        cases st with
        | none =>
          simp only
          rw [w1] at d2 ⊢
          rw [spans_words s f (pos + 1) none acc (by omega) (by omega) (fun a e => by cases e)]
          simp only
          rw [hdrop, wordsT_blank w2]
        | some a =>
          simp only
          obtain ⟨ha1, ha2⟩ := hst a rfl
          rw [w1] at d2 ⊢
          rw [spans_words s f (pos + 1) none (acc ++ [(a, pos)]) (by omega) (by omega) (fun a e => by cases e)]
          simp only
          rw [List.map_append, List.map_cons, List.map_nil, piece_list, List.append_assoc]
          congr 1
          have hsplit : s.data.toList.drop a = (s.data.toList.drop a).take (pos - a) ++ s.get! pos :: s.data.toList.drop (pos + 1) := by
            rw [← hdrop]
            have := (List.take_append_drop (pos - a) (s.data.toList.drop a)).symm
            rw [List.drop_drop, show a + (pos - a) = pos by omega] at this
            exact this
          rw [hsplit, wordsT_at _ _ w2, ← hsplit]
          · rfl
          · intro e
            have := congrArg List.length e
            rw [List.length_take, List.length_drop, hlen] at this
            simp at this
            omega
          · intro c hc
            obtain ⟨i, hi⟩ := List.getElem?_of_mem hc
            rw [List.getElem?_take] at hi
            split at hi
            · rename_i hi2
              rw [List.getElem?_drop, get_byte s (by omega)] at hi
              cases hi
              exact ha2 _ (by omega) (by omega)
            · cases hi
      | false =>
        have w := d4 hr
        rw [if_neg (by simp)]
        cases st with
        | none =>
          simp only
          rw [spans_words s f _ (some pos) acc (by omega) d2 (fun a e => by
            cases e
            refine ⟨by omega, fun i h1 h2 => ?_⟩
            have := w (i - pos) (by omega)
            rwa [show pos + (i - pos) = i by omega] at this)]
        | some a =>
          simp only
          obtain ⟨ha1, ha2⟩ := hst a rfl
          rw [spans_words s f _ (some a) acc (by omega) d2 (fun a' e => by
            cases e
            refine ⟨by omega, fun i h1 h2 => ?_⟩
            rcases Nat.lt_or_ge i pos with h3 | h3
            · exact ha2 i h1 h3
            · have := w (i - pos) (by omega)
              rwa [show pos + (i - pos) = i by omega] at this)]
    · obtain rfl : pos = s.size := by omega
      rw [spansFromP_end isR s f _ st acc (by omega)]
      cases st with
      | none =>
        simp only [closeSpans]
        rw [List.drop_of_length_le (by omega), wordsT_nil, List.append_nil]
      | some a =>
        obtain ⟨ha1, ha2⟩ := hst a rfl
        simp only [closeSpans]
        rw [List.map_append, List.map_cons, List.map_nil, piece_list, List.take_of_length_le (by rw [List.length_drop, hlen]; omega), wordsT_one]
        · intro e
          have := congrArg List.length e
          rw [List.length_drop, hlen] at this
          simp at this
          omega
        · intro c hc
          obtain ⟨i, hi⟩ := List.getElem?_of_mem hc
          have hi2 := (List.getElem?_eq_some_iff.1 hi).1
          rw [List.length_drop, hlen] at hi2
          rw [List.getElem?_drop, get_byte s (by omega)] at hi
          cases hi
          exact ha2 _ (by omega) (by omega)
/-- strings.FieldsFunc at blanks and tabs -/
theorem fields_words (s : ByteArray) : (goFieldsP isR s).map (·.data.toList) = wordsT s.data.toList := by
  have h := spans_words s s.size 0 none [] (by omega) (by omega) (fun a e => by cases e)
  simp only [List.map_nil, List.nil_append, List.drop_zero] at h
  rw [goFieldsP, List.map_map, ← h]
  rfl
end Go.Proofs.YtjjpecggcjggpaaGreatDoor
/- A tool as a machine, in plain: its commands and steps. No program is named. -/
namespace Go.Proofs.YtjjpecggcjggpaaGreatDoor
open Go.Lib
/-! the commands' names -/
abbrev kRead : TT := [114, 101, 97, 100]
abbrev kTry : TT := [116, 114, 121]
abbrev kWrite : TT := [119, 114, 105, 116, 101]
abbrev kScan : TT := [115, 99, 97, 110]
abbrev kEnv : TT := [101, 110, 118]
abbrev kKeep : TT := [107, 101, 101, 112]
abbrev kNeed : TT := [110, 101, 101, 100]
abbrev kSort : TT := [115, 111, 114, 116]
abbrev kUniq : TT := [117, 110, 105, 113]
abbrev kUpper : TT := [117, 112, 112, 101, 114]
abbrev kCount : TT := [99, 111, 117, 110, 116]
abbrev kFail : TT := [102, 97, 105, 108]
abbrev kText : TT := [116, 101, 120, 116]
structure CmdE where
  ws : List TT
  rest : TT
def behindT (s : TT) : TT := ((s.dropWhile isB).dropWhile fun c => !isB c).drop 1
def takesT (n : TT) : Nat × Bool :=
  if n = kRead ∨ n = kTry ∨ n = kWrite then (2, true)
  else if n = kScan then (3, true)
  else if n = kEnv ∨ n = kKeep ∨ n = kNeed then (2, false)
  else if n = kSort ∨ n = kUniq ∨ n = kUpper ∨ n = kCount ∨ n = kFail then (1, false)
  else (0, false)
def readC (may : TT → Bool) (s : TT) : Option (Option CmdE) := match wordsT s with
  | [] => some none
  | w :: r =>
    if w.head? = some 35 then some none
    else if w = kText then some (some ⟨[w], behindT s⟩)
    else if (takesT w).1 ≠ r.length + 1 ∨ (takesT w).1 = 0 ∨ ((takesT w).2 = true ∧ may (r.headD []) = false) then none
    else some (some ⟨w :: r, []⟩)
/-- the commands of lines, from the i-th on; the error's number, and its line -/
def cmdsL (may : TT → Bool) : List TT → Nat → List CmdE → List CmdE × Nat × Nat
  | [], _, out => (out, 0, 0)
  | s :: l, i, out => match readC may s with
    | none => ([], 3, i + 1)
    | some none => cmdsL may l (i + 1) out
    | some (some c) => cmdsL may l (i + 1) (out ++ [c])
def cmdsT (may : TT → Bool) (text : TT) : List CmdE × Nat × Nat :=
  if 65536 < text.length ∨ 400 < (linesT text).length then ([], 6, 0) else cmdsL may (linesT text) 0 []
/-! what is known, and what is done -/
structure KE where
  path : TT
  is : Bool
  data : TT
structure DE where
  kind : Nat
  path : TT
  data : TT
  why : Nat
def DE.none : DE := ⟨0, [], [], 0⟩
inductive ThenE where
  | add
  | try_
  | scan (w : TT)
inductive TaskE where
  | cmd (c : CmdE)
  | ans (p : TT) (th : ThenE)
  | line (s w : TT)
structure PS where
  todo : List TaskE
  buf : TT
  known : List (TT × KE)
  asks : TT
  waits : Bool
  over : DE
  seen : List TT
def PS.fail (s : PS) (why : Nat) : PS := { s with over := ⟨4, [], [], why⟩ }
def PS.add (s : PS) (t : TT) : PS := if 65536 < s.buf.length + t.length then s.fail 6 else { s with buf := s.buf ++ t }
def PS.then_ (s : PS) (th : ThenE) (k : KE) : PS := match th with
  | .add => if k.is then s.add k.data else s.fail 10
  | .try_ => if k.is then s.add k.data else s
  | .scan w => if k.is then { s with todo := (linesT k.data).map (TaskE.line · w) ++ s.todo } else s.fail 10
def wholeT (l : List TT) : TT := l.flatMap (· ++ [10])
def hasT (line w : TT) : Bool := Lib.contains line w
def upT (b : TT) : TT := b.map fun c => if 97 ≤ c.toNat ∧ c.toNat ≤ 122 then c - 32 else c
def uniqT (l : List TT) : List TT := Lib.compact l
def PS.setLines (s : PS) (l : List TT) : PS := PS.add { s with buf := [] } (wholeT l)
def PS.turn (s : PS) (name arg : TT) (l : List TT) : PS :=
  if name = kSort then s.setLines (sortT l)
  else if name = kUniq then s.setLines (uniqT l)
  else if name = kUpper then { s with buf := upT s.buf }
  else if name = kCount then { s with buf := decDigits l.length ++ [10] }
  else if name = kKeep then s.setLines (l.filter (hasT · arg))
  else s
/-- where the answers are known -/
def getK (t : List (TT × KE)) (p : TT) : Option KE := (t.find? fun x => x.1 == p).map (·.2)
structure Env where
  may : TT → Bool
  env : List (TT × TT)
def PS.ask (s : PS) (p : TT) (th : ThenE) : PS := match getK s.known p with
  | some k => s.then_ th k
  | none => if 500 ≤ s.known.length then s.fail 6 else { s with asks := p, waits := true, todo := .ans p th :: s.todo }
def PS.scan (s : PS) (p w : TT) : PS := PS.ask { s with seen := p :: s.seen } p (.scan w)
def PS.do_ (v : Env) (s : PS) (c : CmdE) : PS :=
  let name := c.ws.headD []
  let arg := (c.ws.drop 1).headD []
  if name = kRead then s.ask arg .add
  else if name = kTry then s.ask arg .try_
  else if name = kScan then PS.scan { s with seen := [] } arg ((c.ws.drop 2).headD [])
  else if name = kText then s.add (c.rest ++ [10])
  else if name = kEnv then (match v.env.find? fun x => x.1 == arg with
    | none => s.fail 10
    | some x => s.add x.2)
  else if name = kWrite then { s with over := ⟨2, arg, s.buf, 0⟩, buf := [] }
  else if name = kNeed then (if (linesT s.buf).any (hasT · arg) then s else s.fail 15)
  else if name = kFail then s.fail 15
  else s.turn name arg (linesT s.buf)
def PS.line (v : Env) (s : PS) (x w : TT) : PS := match wordsT x with
  | [a, b] => if a = w ∧ v.may b = true then (if b ∈ s.seen then s else s.scan b w) else s.add (x ++ [10])
  | _ => s.add (x ++ [10])
def PS.task (v : Env) (s : PS) : TaskE → PS
  | .cmd c => s.do_ v c
  | .ans p th => s.then_ th ((getK s.known p).getD ⟨[], false, []⟩)
  | .line x w => s.line v x w
/-- one step on the way to where something is told, or asked for -/
def PS.step (v : Env) (s : PS) : PS :=
  if s.over.kind ≠ 0 ∨ s.waits = true then s else match s.todo with
    | [] => { s with over := ⟨3, [], [], 0⟩ }
    | t :: r => PS.task v { s with todo := r } t
def PS.run (v : Env) : Nat → PS → PS
  | 0, s => s
  | n + 1, s => PS.run v n (s.step v)
def PS.Still (s : PS) : Prop := s.over.kind ≠ 0 ∨ s.waits = true
theorem PS.step_still {v : Env} {s : PS} (h : s.Still) : s.step v = s := by
  unfold PS.Still at h
  rw [PS.step, if_pos h]
theorem PS.run_still {v : Env} {s : PS} (h : s.Still) : ∀ n, s.run v n = s
  | 0 => rfl
  | n + 1 => by rw [PS.run, PS.step_still h, PS.run_still h n]
end Go.Proofs.YtjjpecggcjggpaaGreatDoor
/- A tool as a machine: it comes to a stand, and what it keeps stays small. No program is named. -/
namespace Go.Proofs.YtjjpecggcjggpaaGreatDoor
open Go.Lib
/-- what is known of a path: the first file of its name -/
def ansU (U : List KE) (p : TT) : KE := (U.find? fun x => x.path == p).getD ⟨p, false, []⟩
def wL (U : List KE) (p : TT) : Nat := (linesT (ansU U p).data).length
def uW (U : List KE) (u : KE) : Nat := 2 * wL U u.path + 2
def unseen (U : List KE) (seen : List TT) : Nat := ((U.filter fun u => !decide (u.path ∈ seen)).map (uW U)).sum
def allU (U : List KE) : Nat := (U.map (uW U)).sum
def wTask (U : List KE) : TaskE → Nat
  | .cmd _ => allU U + 3
  | .ans p (.scan _) => 1 + 2 * wL U p
  | .ans _ _ => 1
  | .line _ _ => 2
def pot (U : List KE) (s : PS) : Nat := (s.todo.map (wTask U)).sum + unseen U s.seen
/-- what is known is as U has it -/
def Agree (U : List KE) (s : PS) : Prop := ∀ p k, getK s.known p = some k → k.is = true → k.data = (ansU U p).data
theorem sum_filter_le (U : List KE) (f : KE → Nat) (q : KE → Bool) : ∀ L : List KE, ((L.filter q).map f).sum ≤ (L.map f).sum
  | [] => by simp
  | u :: L => by
    have ih := sum_filter_le U f q L
    rw [List.filter_cons]
    split <;> simp <;> omega
theorem unseen_le (U : List KE) (seen : List TT) : unseen U seen ≤ allU U := sum_filter_le U _ _ U
theorem unseen_more (U : List KE) (seen : List TT) (p : TT) (hp : p ∉ seen) : unseen U (p :: seen) + 2 * wL U p ≤ unseen U seen := by
  by_cases hu : ∃ u ∈ U, u.path = p
  · obtain ⟨u, hu, rfl⟩ := hu
    have key : ∀ L : List KE, u ∈ L → ((L.filter fun x => !decide (x.path ∈ u.path :: seen)).map (uW U)).sum + uW U u ≤ ((L.filter fun x => !decide (x.path ∈ seen)).map (uW U)).sum := by
      intro L
      have low : ∀ L : List KE, ((L.filter fun x => !decide (x.path ∈ u.path :: seen)).map (uW U)).sum ≤ ((L.filter fun x => !decide (x.path ∈ seen)).map (uW U)).sum := by
        intro L
        induction L with
        | nil => simp
        | cons x L ih =>
          rw [List.filter_cons, List.filter_cons]
          by_cases h1 : x.path ∈ seen
          · rw [if_neg (by simp [h1]), if_neg (by simp [h1])]
            exact ih
          · by_cases h2 : x.path = u.path
            · rw [if_neg (by simp [h2]), if_pos (by simp [h1])]
              simp only [List.map_cons, List.sum_cons]
              omega
            · rw [if_pos (by simp [h1, h2]), if_pos (by simp [h1])]
              simp only [List.map_cons, List.sum_cons]
              omega
      induction L with
      | nil => intro h; cases h
      | cons x L ih =>
        intro h
        rw [List.filter_cons, List.filter_cons]
        rcases List.mem_cons.1 h with rfl | h
        · rw [if_neg (by simp), if_pos (by simp [hp])]
          simp only [List.map_cons, List.sum_cons]
          have := low L
          omega
        · have ih := ih h
          by_cases h1 : x.path ∈ seen
          · rw [if_neg (by simp [h1]), if_neg (by simp [h1])]
            exact ih
          · by_cases h2 : x.path = u.path
            · rw [if_neg (by simp [h2]), if_pos (by simp [h1])]
              simp only [List.map_cons, List.sum_cons]
              omega
            · rw [if_pos (by simp [h1, h2]), if_pos (by simp [h1])]
              simp only [List.map_cons, List.sum_cons]
              omega
    have := key U hu
    unfold unseen
    unfold uW at this ⊢
    omega
  · have h0 : wL U p = 0 := by
      rw [wL, ansU]
      have : (U.find? fun x => x.path == p) = none := by
        rw [List.find?_eq_none]
        intro x hx e
        exact hu ⟨x, hx, by simpa using e⟩
      rw [this]
      rfl
    have h1 : (U.filter fun u => !decide (u.path ∈ p :: seen)) = U.filter fun u => !decide (u.path ∈ seen) := by
      apply List.filter_congr
      intro x hx
      have : x.path ≠ p := fun e => hu ⟨x, hx, e⟩
      simp [this]
    rw [unseen, unseen, h1, h0]
    omega
theorem pot_fail (U : List KE) (s : PS) (y : Nat) : pot U (s.fail y) = pot U s := rfl
theorem pot_add (U : List KE) (s : PS) (t : TT) : pot U (s.add t) = pot U s := by
  unfold PS.add
  split <;> rfl
theorem pot_set (U : List KE) (s : PS) (l : List TT) : pot U (s.setLines l) = pot U s := by
  unfold PS.setLines
  rw [pot_add]
  rfl
theorem pot_turn (U : List KE) (s : PS) (n a : TT) (l : List TT) : pot U (s.turn n a l) = pot U s := by
  unfold PS.turn
  repeat' split
  all_goals first
    | exact pot_set U s _
    | rfl
theorem sum_lines (U : List KE) (w : TT) (L : List TT) (r : List TaskE) : ((L.map (TaskE.line · w) ++ r).map (wTask U)).sum = 2 * L.length + (r.map (wTask U)).sum := by
  induction L with
  | nil => simp
  | cons x L ih =>
    simp only [List.map_cons, List.cons_append, List.sum_cons, List.length_cons] at ih ⊢
    rw [ih]
    simp only [wTask]
    omega
def thenW (U : List KE) (p : TT) : ThenE → Nat
  | .scan _ => 2 * wL U p
  | _ => 0
theorem pot_then {U : List KE} (s : PS) {p : TT} (th : ThenE) {k : KE} (hk : k.is = true → k.data = (ansU U p).data) : pot U (s.then_ th k) ≤ pot U s + thenW U p th := by
  cases th with
  | add =>
    unfold PS.then_
    simp only
    split
    · rw [pot_add]; exact Nat.le_add_right _ _
    · exact Nat.le_add_right _ _
  | try_ =>
    unfold PS.then_
    simp only
    split
    · rw [pot_add]; exact Nat.le_add_right _ _
    · exact Nat.le_add_right _ _
  | scan w =>
    unfold PS.then_
    simp only
    split
    · rename_i hi
      unfold pot
      simp only
      rw [sum_lines, hk hi]
      show _ ≤ _ + 2 * wL U p
      unfold wL
      omega
    · exact Nat.le_add_right _ _
theorem wTask_ans (U : List KE) (p : TT) (th : ThenE) : wTask U (.ans p th) = 1 + thenW U p th := by cases th <;> rfl
theorem pot_ask {U : List KE} {s : PS} (hs : Agree U s) (p : TT) (th : ThenE) : pot U (s.ask p th) ≤ pot U s + 1 + thenW U p th := by
  unfold PS.ask
  split
  · rename_i k hk
    have := pot_then s th (hs p k hk)
    omega
  · split
    · rw [pot_fail]; omega
    · unfold pot
      simp only [List.map_cons, List.sum_cons, wTask_ans]
      omega
theorem pot_scan {U : List KE} {s : PS} (hs : Agree U s) (p w : TT) (hp : p ∉ s.seen) : pot U (s.scan p w) ≤ pot U s + 1 := by
  have h1 := pot_ask (s := { s with seen := p :: s.seen }) (U := U) hs p (.scan w)
  have h2 := unseen_more U s.seen p hp
  unfold PS.scan
  simp only [thenW] at h1
  refine Nat.le_trans h1 ?_
  unfold pot
  simp only
  omega
theorem pot_scan0 {U : List KE} {s : PS} (hs : Agree U s) (p w : TT) : pot U (PS.scan { s with seen := [] } p w) ≤ pot U s + allU U + 1 := by
  have h1 := pot_scan (s := { s with seen := [] }) (U := U) hs p w (by simp)
  refine Nat.le_trans h1 ?_
  have := unseen_le U []
  unfold pot
  simp only
  omega
theorem pot_do {U : List KE} {s : PS} (hs : Agree U s) (v : Env) (c : CmdE) : pot U (s.do_ v c) ≤ pot U s + allU U + 1 := by
  have ha : ∀ p th, thenW U p th = 0 → pot U (s.ask p th) ≤ pot U s + allU U + 1 := fun p th h0 => by
    have := pot_ask hs p th
    omega
  have hadd : ∀ t, pot U (s.add t) ≤ pot U s + allU U + 1 := fun t => by rw [pot_add]; omega
  have hf : ∀ y, pot U (s.fail y) ≤ pot U s + allU U + 1 := fun y => by rw [pot_fail]; omega
  unfold PS.do_
  simp only
  repeat' split
  all_goals first
    | exact ha _ _ rfl
    | exact hadd _
    | exact hf _
    | exact pot_scan0 hs _ _
    | (rw [pot_turn]; omega)
    | (show pot U s ≤ _; omega)
theorem pot_line {U : List KE} {s : PS} (hs : Agree U s) (v : Env) (x w : TT) : pot U (s.line v x w) ≤ pot U s + 1 := by
  unfold PS.line
  split
  · split
    · split
      · omega
      · rename_i h
        exact pot_scan hs _ _ h
    · rw [pot_add]; omega
  · rw [pot_add]; omega
theorem pot_task {U : List KE} {s : PS} (hs : Agree U s) (v : Env) (t : TaskE) (ht : ∀ p th, t = .ans p th → (getK s.known p).isSome = true) : pot U (s.task v t) + 1 ≤ pot U s + wTask U t := by
  cases t with
  | cmd c =>
    have := pot_do hs v c
    simp only [PS.task, wTask]
    omega
  | ans p th =>
    have h0 := ht p th rfl
    obtain ⟨k, hk⟩ := Option.isSome_iff_exists.1 h0
    simp only [PS.task]
    rw [hk, wTask_ans]
    have := pot_then s th (hs p k hk)
    simp only [Option.getD_some]
    omega
  | line x w =>
    have := pot_line hs v x w
    simp only [PS.task, wTask]
    omega
/-- the answers that are waited for are known, but for the one that is asked for -/
def Pend (s : PS) : Prop := ∀ p th, TaskE.ans p th ∈ s.todo → (getK s.known p).isSome = true ∨ (s.waits = true ∧ s.asks = p)
theorem add_same (s : PS) (t : TT) : (s.add t).todo = s.todo ∧ (s.add t).known = s.known ∧ (s.add t).waits = s.waits ∧ (s.add t).asks = s.asks ∧ (s.add t).seen = s.seen := by
  unfold PS.add
  split <;> exact ⟨rfl, rfl, rfl, rfl, rfl⟩
theorem set_same (s : PS) (l : List TT) : (s.setLines l).todo = s.todo ∧ (s.setLines l).known = s.known ∧ (s.setLines l).waits = s.waits ∧ (s.setLines l).asks = s.asks ∧ (s.setLines l).seen = s.seen := by
  unfold PS.setLines
  exact add_same _ _
theorem turn_same (s : PS) (n a : TT) (l : List TT) : (s.turn n a l).todo = s.todo ∧ (s.turn n a l).known = s.known ∧ (s.turn n a l).waits = s.waits ∧ (s.turn n a l).asks = s.asks ∧ (s.turn n a l).seen = s.seen := by
  unfold PS.turn
  repeat' split
  all_goals first
    | exact set_same s _
    | exact ⟨rfl, rfl, rfl, rfl, rfl⟩
/-- what a step may do to the tasks: lines come ahead, or one answer that is waited for -/
def Grows (s s' : PS) : Prop := s'.known = s.known ∧ ((∃ (L : List TT) (w : TT), s'.todo = L.map (TaskE.line · w) ++ s.todo ∧ s'.waits = s.waits ∧ s'.asks = s.asks) ∨ (∃ p th, s'.todo = .ans p th :: s.todo ∧ s'.waits = true ∧ s'.asks = p ∧ getK s.known p = none ∧ s.known.length < 500 ∧ s'.over = s.over))
theorem Grows.same {s s' : PS} (h : s'.todo = s.todo ∧ s'.known = s.known ∧ s'.waits = s.waits ∧ s'.asks = s.asks) : Grows s s' := ⟨h.2.1, .inl ⟨[], [], h.1, h.2.2.1, h.2.2.2⟩⟩
theorem grows_add (s : PS) (t : TT) : Grows s (s.add t) := by
  obtain ⟨h1, h2, h3, h4, _⟩ := add_same s t
  exact .same ⟨h1, h2, h3, h4⟩
theorem grows_fail (s : PS) (y : Nat) : Grows s (s.fail y) := .same ⟨rfl, rfl, rfl, rfl⟩
theorem grows_then (s : PS) (th : ThenE) (k : KE) : Grows s (s.then_ th k) := by
  cases th <;> unfold PS.then_ <;> simp only <;> split
  · exact grows_add s _
  · exact grows_fail s _
  · exact grows_add s _
  · exact .same ⟨rfl, rfl, rfl, rfl⟩
  · exact ⟨rfl, .inl ⟨_, _, rfl, rfl, rfl⟩⟩
  · exact grows_fail s _
theorem grows_ask (s : PS) (p : TT) (th : ThenE) : Grows s (s.ask p th) := by
  unfold PS.ask
  split
  · exact grows_then s th _
  · rename_i h
    split
    · exact grows_fail s _
    · exact ⟨rfl, .inr ⟨p, th, rfl, rfl, rfl, h, by omega, rfl⟩⟩
theorem grows_scan (s : PS) (p w : TT) : Grows s (s.scan p w) := by
  have := grows_ask { s with seen := p :: s.seen } p (.scan w)
  exact this
theorem grows_task (s : PS) (v : Env) (t : TaskE) : Grows s (s.task v t) := by
  cases t with
  | cmd c =>
    unfold PS.task PS.do_
    simp only
    have hturn : ∀ n a l, Grows s (s.turn n a l) := fun n a l => by
      obtain ⟨h1, h2, h3, h4, _⟩ := turn_same s n a l
      exact .same ⟨h1, h2, h3, h4⟩
    repeat' split
    all_goals first
      | exact grows_ask s _ _
      | exact grows_add s _
      | exact grows_fail s _
      | exact grows_scan { s with seen := [] } _ _
      | exact hturn _ _ _
      | exact .same ⟨rfl, rfl, rfl, rfl⟩
  | ans p th => exact grows_then s th _
  | line x w =>
    unfold PS.task PS.line
    simp only
    repeat' split
    all_goals first
      | exact grows_scan s _ _
      | exact grows_add s _
      | exact .same ⟨rfl, rfl, rfl, rfl⟩
theorem Pend.task {s : PS} {t : TaskE} {r : List TaskE} (h : Pend s) (hw : s.waits = false) (ht : s.todo = t :: r) (v : Env) : Pend (PS.task v { s with todo := r } t) := by
  obtain ⟨h1, h2⟩ := grows_task { s with todo := r } v t
  have hr : ∀ p th, TaskE.ans p th ∈ r → (getK s.known p).isSome = true := fun p th hm => by
    rcases h p th (by rw [ht]; exact List.mem_cons_of_mem _ hm) with h | h
    · exact h
    · rw [hw] at h; cases h.1
  intro p th hm
  rw [h1]
  rcases h2 with ⟨L, w, e, _, _⟩ | ⟨q, th', e, e1, e2, _⟩
  · rw [e, List.mem_append] at hm
    rcases hm with hm | hm
    · obtain ⟨x, _, hx⟩ := List.mem_map.1 hm
      cases hx
    · exact .inl (hr p th hm)
  · rw [e] at hm
    rcases List.mem_cons.1 hm with hm | hm
    · cases hm
      exact .inr ⟨e1, e2⟩
    · exact .inl (hr p th hm)
theorem not_still {s : PS} (h : ¬ s.Still) : s.over.kind = 0 ∧ s.waits = false := by
  unfold PS.Still at h
  rw [not_or] at h
  exact ⟨by simpa using h.1, by simpa using h.2⟩
theorem step_nil {v : Env} {s : PS} (h : ¬ s.Still) (ht : s.todo = []) : s.step v = { s with over := ⟨3, [], [], 0⟩ } := by
  unfold PS.Still at h
  rw [PS.step, if_neg h, ht]
theorem step_cons {v : Env} {s : PS} (h : ¬ s.Still) {t : TaskE} {r : List TaskE} (ht : s.todo = t :: r) : s.step v = PS.task v { s with todo := r } t := by
  unfold PS.Still at h
  rw [PS.step, if_neg h, ht]
structure Good (U : List KE) (s : PS) : Prop where
  agree : Agree U s
  pend : Pend s
theorem Good.step {U : List KE} {s : PS} (h : Good U s) (v : Env) : Good U (s.step v) ∧ pot U (s.step v) ≤ pot U s ∧ (¬ s.Still → (s.step v).Still ∨ pot U (s.step v) < pot U s) := by
  by_cases hs : s.Still
  · rw [PS.step_still hs]
    exact ⟨h, Nat.le_refl _, fun hn => absurd hs hn⟩
  · obtain ⟨h0, hw⟩ := not_still hs
    cases ht : s.todo with
    | nil =>
      rw [step_nil hs ht]
      exact ⟨⟨h.agree, h.pend⟩, Nat.le_refl _, fun _ => .inl (.inl (by simp))⟩
    | cons t r =>
      rw [step_cons hs ht]
      have hp : pot U (PS.task v { s with todo := r } t) + 1 ≤ pot U s := by
        have := pot_task (U := U) (s := { s with todo := r }) h.agree v t (fun p th e => by
          subst e
          rcases h.pend p th (by rw [ht]; simp) with h | h
          · exact h
          · rw [hw] at h; cases h.1)
        refine Nat.le_trans this ?_
        unfold pot
        simp only [ht, List.map_cons, List.sum_cons]
        omega
      refine ⟨⟨fun p k hk => ?_, h.pend.task hw ht v⟩, by omega, fun _ => .inr (by omega)⟩
      rw [(grows_task { s with todo := r } v t).1] at hk
      exact h.agree p k hk
theorem Good.run {U : List KE} {v : Env} : ∀ (n : Nat) {s : PS}, Good U s → Good U (s.run v n) ∧ pot U (s.run v n) ≤ pot U s
  | 0, _, h => ⟨h, Nat.le_refl _⟩
  | n + 1, s, h => by
    obtain ⟨h1, h2, _⟩ := h.step v
    obtain ⟨h3, h4⟩ := Good.run n h1
    exact ⟨h3, Nat.le_trans h4 h2⟩
/-- it comes to a stand -/
theorem Good.stands {U : List KE} {v : Env} : ∀ (m : Nat) {s : PS}, Good U s → pot U s ≤ m → ∃ n, (s.run v n).Still
  | m, s, h, hm => by
    by_cases hs : s.Still
    · exact ⟨0, hs⟩
    · obtain ⟨h1, h2, h3⟩ := h.step v
      rcases h3 hs with h4 | h4
      · exact ⟨1, h4⟩
      · cases m with
        | zero => omega
        | succ m =>
          obtain ⟨n, hn⟩ := Good.stands m h1 (by omega)
          exact ⟨n + 1, hn⟩
theorem Good.todo_le {U : List KE} {s : PS} (_ : Good U s) : s.todo.length ≤ pot U s := by
  have : ∀ l : List TaskE, l.length ≤ (l.map (wTask U)).sum := by
    intro l
    induction l with
    | nil => simp
    | cons t l ih =>
      have : 1 ≤ wTask U t := by
        cases t with
        | cmd _ => simp only [wTask]; omega
        | ans p th => rw [wTask_ans]; omega
        | line _ _ => simp only [wTask]; omega
      simp only [List.length_cons, List.map_cons, List.sum_cons]
      omega
  have := this s.todo
  unfold pot
  omega
end Go.Proofs.YtjjpecggcjggpaaGreatDoor
/- A tool as a machine: what it keeps stays small. No program is named. -/
namespace Go.Proofs.YtjjpecggcjggpaaGreatDoor
open Go.Lib
def CmdOk (c : CmdE) : Prop := c.ws ≠ [] ∧ c.ws.length ≤ 1000000 ∧ (∀ x ∈ c.ws, x.length ≤ 1000000) ∧ c.rest.length ≤ 1000000
def ThenOk : ThenE → Prop
  | .scan w => w.length ≤ 1000000
  | _ => True
def TaskOk : TaskE → Prop
  | .cmd c => CmdOk c
  | .ans p th => p.length ≤ 1000000 ∧ ThenOk th
  | .line x w => x.length ≤ 1000000 ∧ w.length ≤ 1000000
structure Lim (s : PS) : Prop where
  buf : s.buf.length ≤ 65536
  tasks : ∀ t ∈ s.todo, TaskOk t
  datas : ∀ p k, getK s.known p = some k → k.is = true → k.data.length ≤ 1000000
  seens : ∀ p ∈ s.seen, p.length ≤ 1000000
  asks : s.asks.length ≤ 1000000
  less : s.known.length ≤ 500
theorem dec_short (n : Nat) (h : n < 10 ^ 20) : (decDigits n).length ≤ 20 := dec_len 19 n h
theorem Lim.fail {s : PS} (h : Lim s) (y : Nat) : Lim (s.fail y) := ⟨h.buf, h.tasks, h.datas, h.seens, h.asks, h.less⟩
theorem Lim.add {s : PS} (h : Lim s) (t : TT) : Lim (s.add t) := by
  unfold PS.add
  split
  · exact h.fail 6
  · refine ⟨?_, h.tasks, h.datas, h.seens, h.asks, h.less⟩
    simp only [List.length_append]
    omega
theorem Lim.buffer {s : PS} (h : Lim s) {b : TT} (hb : b.length ≤ 65536) : Lim { s with buf := b } := ⟨hb, h.tasks, h.datas, h.seens, h.asks, h.less⟩
theorem Lim.setLines {s : PS} (h : Lim s) (l : List TT) : Lim (s.setLines l) := (h.buffer (b := []) (by simp)).add _
theorem Lim.turn {s : PS} (h : Lim s) (n a : TT) (l : List TT) (hl : l.length < 10 ^ 20) : Lim (s.turn n a l) := by
  unfold PS.turn
  repeat' split
  · exact h.setLines _
  · exact h.setLines _
  · exact h.buffer (by rw [upT, List.length_map]; exact h.buf)
  · refine h.buffer ?_
    have := dec_short l.length hl
    rw [List.length_append, List.length_singleton]
    omega
  · exact h.setLines _
  · exact h
theorem Lim.then_ {s : PS} (h : Lim s) {th : ThenE} (hth : ThenOk th) {k : KE} (hk : k.is = true → k.data.length ≤ 1000000) : Lim (s.then_ th k) := by
  cases th <;> unfold PS.then_ <;> simp only <;> split
  · exact h.add _
  · exact h.fail _
  · exact h.add _
  · exact h
  · rename_i w hi
    refine ⟨h.buf, fun t ht => ?_, h.datas, h.seens, h.asks, h.less⟩
    rcases List.mem_append.1 ht with ht | ht
    · obtain ⟨x, hx, rfl⟩ := List.mem_map.1 ht
      exact ⟨Nat.le_trans (linesT_le hx) (hk hi), hth⟩
    · exact h.tasks t ht
  · exact h.fail _
theorem Lim.ask {s : PS} (h : Lim s) {p : TT} (hp : p.length ≤ 1000000) {th : ThenE} (hth : ThenOk th) : Lim (s.ask p th) := by
  unfold PS.ask
  split
  · rename_i k hk
    exact h.then_ hth (h.datas p k hk)
  · split
    · exact h.fail _
    · refine ⟨h.buf, fun t ht => ?_, h.datas, h.seens, hp, h.less⟩
      rcases List.mem_cons.1 ht with rfl | ht
      · exact ⟨hp, hth⟩
      · exact h.tasks t ht
theorem Lim.scan {s : PS} (h : Lim s) {p w : TT} (hp : p.length ≤ 1000000) (hw : w.length ≤ 1000000) : Lim (s.scan p w) := by
  refine Lim.ask (s := { s with seen := p :: s.seen }) ⟨h.buf, h.tasks, h.datas, fun q hq => ?_, h.asks, h.less⟩ hp (th := .scan w) hw
  rcases List.mem_cons.1 hq with rfl | hq
  · exact hp
  · exact h.seens q hq
theorem headD_ok {l : List TT} (h : ∀ x ∈ l, x.length ≤ 1000000) : (l.headD []).length ≤ 1000000 := by
  cases l with
  | nil => simp
  | cons x l => exact h x (by simp)
theorem Lim.do_ {s : PS} (h : Lim s) (v : Env) {c : CmdE} (hc : CmdOk c) : Lim (s.do_ v c) := by
  obtain ⟨_, _, h1, h2⟩ := hc
  have ha : ((c.ws.drop 1).headD []).length ≤ 1000000 := headD_ok fun x hx => h1 x (List.mem_of_mem_drop hx)
  have hb : ((c.ws.drop 2).headD []).length ≤ 1000000 := headD_ok fun x hx => h1 x (List.mem_of_mem_drop hx)
  have hl : (linesT s.buf).length < 10 ^ 20 := by
    have := linesT_len s.buf
    have := h.buf
    omega
  have h0 : Lim { s with seen := [] } := ⟨h.buf, h.tasks, h.datas, by simp, h.asks, h.less⟩
  unfold PS.do_
  simp only
  repeat' split
  all_goals first
    | exact h.ask ha (th := .add) trivial
    | exact h.ask ha (th := .try_) trivial
    | exact h0.scan ha hb
    | exact h.add _
    | exact h.fail _
    | exact h.turn _ _ _ hl
    | exact h
    | exact h.buffer (b := []) (by simp)
    | exact ⟨by simp, h.tasks, h.datas, h.seens, h.asks, h.less⟩
theorem Lim.line {s : PS} (h : Lim s) (v : Env) {x w : TT} (hx : x.length ≤ 1000000) (hw : w.length ≤ 1000000) : Lim (s.line v x w) := by
  unfold PS.line
  split
  · rename_i a b hab
    split
    · split
      · exact h
      · refine h.scan ?_ hw
        have := (wordsT_mem (s := x) (x := b) (by rw [hab]; simp)).2.2
        omega
    · exact h.add _
  · exact h.add _
theorem Lim.task {s : PS} (h : Lim s) (v : Env) {t : TaskE} (ht : TaskOk t) : Lim (s.task v t) := by
  cases t with
  | cmd c => exact h.do_ v ht
  | ans p th =>
    refine h.then_ ht.2 fun hi => ?_
    cases hk : getK s.known p with
    | none => rw [hk] at hi; cases hi
    | some k => rw [hk] at hi; exact h.datas p k hk hi
  | line x w => exact h.line v ht.1 ht.2
theorem Lim.step {s : PS} (h : Lim s) (v : Env) : Lim (s.step v) := by
  by_cases hs : s.Still
  · rw [PS.step_still hs]
    exact h
  · cases ht : s.todo with
    | nil =>
      rw [step_nil hs ht]
      exact ⟨h.buf, h.tasks, h.datas, h.seens, h.asks, h.less⟩
    | cons t r =>
      rw [step_cons hs ht]
      exact Lim.task (s := { s with todo := r }) ⟨h.buf, fun u hu => h.tasks u (by rw [ht]; exact List.mem_cons_of_mem _ hu), h.datas, h.seens, h.asks, h.less⟩ v (h.tasks t (by rw [ht]; simp))
theorem Lim.run {v : Env} : ∀ (n : Nat) {s : PS}, Lim s → Lim (s.run v n)
  | 0, _, h => h
  | n + 1, _, h => Lim.run n (h.step v)
end Go.Proofs.YtjjpecggcjggpaaGreatDoor
/- A tool as a machine: what it does step by step, answered by what is known, is the document's answer. No program is named. -/
namespace Go.Proofs.YtjjpecggcjggpaaGreatDoor
open Go.Lib
/-! the machine, answered -/
def PS.give (s : PS) (k : KE) : PS := { s with known := s.known ++ [(s.asks, k)], asks := [], waits := false }
abbrev MS := PS × List DE
def mstep (v : Env) (O : TT → Option KE) (m : MS) : MS :=
  if m.1.over.kind = 2 then ({ m.1 with over := DE.none }, m.2 ++ [m.1.over])
  else if m.1.over.kind ≠ 0 then m
  else if m.1.waits = true then (match O m.1.asks with
    | some k => (m.1.give k, m.2 ++ [⟨1, m.1.asks, [], 0⟩])
    | none => m)
  else (m.1.step v, m.2)
def mrun (v : Env) (O : TT → Option KE) : Nat → MS → MS
  | 0, m => m
  | n + 1, m => mrun v O n (mstep v O m)
theorem mrun_add (v : Env) (O : TT → Option KE) : ∀ (a b : Nat) (m : MS), mrun v O (a + b) m = mrun v O b (mrun v O a m)
  | 0, b, m => by rw [Nat.zero_add]; rfl
  | a + 1, b, m => by rw [show a + 1 + b = (a + b) + 1 by omega, mrun, mrun, mrun_add v O a b]
/-- m leads to m' -/
def Leads (v : Env) (O : TT → Option KE) (m m' : MS) : Prop := ∃ n, mrun v O n m = m'
theorem Leads.refl {v : Env} {O : TT → Option KE} (m : MS) : Leads v O m m := ⟨0, rfl⟩
theorem Leads.trans {v : Env} {O : TT → Option KE} {a b c : MS} (h : Leads v O a b) (k : Leads v O b c) : Leads v O a c := by
  obtain ⟨n, rfl⟩ := h
  obtain ⟨m, rfl⟩ := k
  exact ⟨n + m, mrun_add v O n m a⟩
theorem Leads.one {v : Env} {O : TT → Option KE} {a b : MS} (h : mstep v O a = b) : Leads v O a b := ⟨1, h⟩
/-! the document's -/
structure RS where
  buf : TT
  asked : List TT
  wrote : List DE
  stop : DE
def RS.fail (s : RS) (y : Nat) : RS := { s with stop := ⟨4, [], [], y⟩ }
def RS.add (s : RS) (t : TT) : RS := if 65536 < s.buf.length + t.length then s.fail 6 else { s with buf := s.buf ++ t }
def noK : KE := ⟨[], false, []⟩
def RS.askIn (O : TT → Option KE) (s : RS) (p : TT) : RS × KE := match O p with
  | some k => (s, k)
  | none => ({ s with stop := ⟨1, p, [], 0⟩ }, noK)
def RS.ask (O : TT → Option KE) (s : RS) (p : TT) : RS × KE :=
  if p ∈ s.asked then RS.askIn O s p
  else if s.asked.length = 500 then (s.fail 6, noK)
  else RS.askIn O { s with asked := s.asked ++ [p] } p
def scanL (v : Env) (f : RS → TT → List TT → RS × List TT) (w : TT) : List TT → RS → List TT → RS × List TT
  | [], s, d => (s, d)
  | x :: l, s, d => if s.stop.kind ≠ 0 then (s, d) else match wordsT x with
    | [a, b] => if a = w ∧ v.may b = true then (if b ∈ d then scanL v f w l s d else scanL v f w l (f s b d).1 (f s b d).2) else scanL v f w l (s.add (x ++ [10])) d
    | _ => scanL v f w l (s.add (x ++ [10])) d
def scanF (v : Env) (O : TT → Option KE) (w : TT) : Nat → RS → TT → List TT → RS × List TT
  | 0, s, _, d => (s, d)
  | n + 1, s, p, d =>
    if (s.ask O p).1.stop.kind ≠ 0 then ((s.ask O p).1, d ++ [p])
    else if (s.ask O p).2.is = false then ((s.ask O p).1.fail 10, d ++ [p])
    else scanL v (fun s b d => scanF v O w n s b d) w (linesT (s.ask O p).2.data) (s.ask O p).1 (d ++ [p])
def turnedR (name buf : TT) : TT :=
  if name = kSort then wholeT (sortT (linesT buf))
  else if name = kUniq then wholeT (uniqT (linesT buf))
  else if name = kCount then decDigits (linesT buf).length ++ [10]
  else upT buf
def RS.step (v : Env) (O : TT → Option KE) (N : Nat) (s : RS) (c : CmdE) : RS :=
  let name := c.ws.headD []
  let arg := (c.ws.drop 1).headD []
  if name = kRead ∨ name = kTry then
    (if (s.ask O arg).1.stop.kind ≠ 0 then (s.ask O arg).1
     else if (s.ask O arg).2.is = true then (s.ask O arg).1.add (s.ask O arg).2.data
     else if name = kRead then (s.ask O arg).1.fail 10
     else (s.ask O arg).1)
  else if name = kScan then (scanF v O ((c.ws.drop 2).headD []) N s arg []).1
  else if name = kText then s.add (c.rest ++ [10])
  else if name = kEnv then (match v.env.find? fun x => x.1 == arg with
    | none => s.fail 10
    | some x => s.add x.2)
  else if name = kFail then s.fail 15
  else if name = kNeed then (if (linesT s.buf).any (hasT · arg) then s else s.fail 15)
  else if name = kKeep then RS.add { s with buf := [] } (wholeT ((linesT s.buf).filter (hasT · arg)))
  else if name = kWrite then { s with wrote := s.wrote ++ [⟨2, arg, s.buf, 0⟩], buf := [] }
  else RS.add { s with buf := [] } (turnedR name s.buf)
def farL (v : Env) (O : TT → Option KE) (N : Nat) : List CmdE → RS → RS
  | [], s => { s with stop := ⟨3, [], [], 0⟩ }
  | c :: l, s => if (s.step v O N c).stop.kind ≠ 0 then s.step v O N c else farL v O N l (s.step v O N c)
/-! both -/
def writesOf (E : List DE) : List DE := E.filter fun d => d.kind == 2
structure Rel (O : TT → Option KE) (s : PS) (E : List DE) (r : RS) : Prop where
  goes : s.over = DE.none
  runs : s.waits = false
  buf : s.buf = r.buf
  asked : s.known.map (·.1) = r.asked
  known : ∀ p k, getK s.known p = some k → O p = some k
  wrote : writesOf E = r.wrote
  stop : r.stop.kind = 0
  less : s.known.length ≤ 500
  short : s.buf.length ≤ 65536
structure RelStop (O : TT → Option KE) (s : PS) (E : List DE) (r : RS) : Prop where
  wrote : writesOf E = r.wrote
  stop : (s.waits = true ∧ s.over = DE.none ∧ O s.asks = none ∧ r.stop = ⟨1, s.asks, [], 0⟩) ∨ (s.over = r.stop ∧ (r.stop.kind = 3 ∨ r.stop.kind = 4))
theorem getK_iff {t : List (TT × KE)} {p : TT} : (getK t p).isSome = true ↔ p ∈ t.map (·.1) := by
  unfold getK
  rw [Option.isSome_map, List.find?_isSome]
  constructor
  · rintro ⟨x, hx, h⟩
    exact List.mem_map.2 ⟨x, hx, by simpa using h⟩
  · intro h
    obtain ⟨x, hx, h⟩ := List.mem_map.1 h
    exact ⟨x, hx, by simpa using h⟩
theorem getK_snoc {t : List (TT × KE)} {p : TT} (h : getK t p = none) (k : KE) (q : TT) : getK (t ++ [(p, k)]) q = if q = p then some k else getK t q := by
  unfold getK at h ⊢
  rw [List.find?_append]
  by_cases hq : q = p
  · subst hq
    rw [if_pos rfl]
    rw [Option.map_eq_none_iff] at h
    rw [h]
    simp
  · rw [if_neg hq]
    have : ([(p, k)].find? fun x => x.1 == q) = none := by simp [Ne.symm hq]
    rw [this, Option.or_none]
theorem Rel.fail {O : TT → Option KE} {s : PS} {E : List DE} {r : RS} (h : Rel O s E r) (y : Nat) : RelStop O (s.fail y) E (r.fail y) := ⟨h.wrote, .inr ⟨rfl, .inr rfl⟩⟩
theorem Rel.add {O : TT → Option KE} {s : PS} {E : List DE} {r : RS} (h : Rel O s E r) (t : TT) : (Rel O (s.add t) E (r.add t) ∧ (s.add t).todo = s.todo ∧ (s.add t).seen = s.seen) ∨ ((r.add t).stop.kind ≠ 0 ∧ RelStop O (s.add t) E (r.add t)) := by
  unfold PS.add RS.add
  rw [h.buf]
  split
  · exact .inr ⟨by simp [RS.fail], h.fail 6⟩
  · refine .inl ⟨⟨h.goes, h.runs, rfl, h.asked, h.known, h.wrote, h.stop, h.less, ?_⟩, rfl, rfl⟩
    simp only [List.length_append]
    omega
theorem Rel.todo {O : TT → Option KE} {s : PS} {E : List DE} {r : RS} (h : Rel O s E r) (T : List TaskE) (S : List TT) : Rel O { s with todo := T, seen := S } E r := ⟨h.goes, h.runs, h.buf, h.asked, h.known, h.wrote, h.stop, h.less, h.short⟩
theorem Rel.not_still {O : TT → Option KE} {s : PS} {E : List DE} {r : RS} (h : Rel O s E r) : ¬ s.Still := by
  unfold PS.Still
  rw [h.goes, h.runs]
  simp [DE.none]
theorem mstep_goes {v : Env} {O : TT → Option KE} {s : PS} {E : List DE} (h : ¬ s.Still) : mstep v O (s, E) = (s.step v, E) := by
  obtain ⟨h0, h1⟩ := not_still h
  unfold mstep
  simp [h0, h1]
/-- a file is asked for -/
theorem leads_ask {v : Env} {O : TT → Option KE} {s : PS} {E : List DE} {r : RS} (h : Rel O s E r) (p : TT) (th : ThenE) :
    ((r.ask O p).1.stop.kind = 0 ∧ ∃ s1 E1, Leads v O (s.ask p th, E) (s1.then_ th (r.ask O p).2, E1) ∧ Rel O s1 E1 (r.ask O p).1 ∧ s1.todo = s.todo ∧ s1.seen = s.seen ∧ O p = some (r.ask O p).2)
    ∨ ((r.ask O p).1.stop.kind ≠ 0 ∧ ∃ s1, Leads v O (s.ask p th, E) (s1, E) ∧ RelStop O s1 E (r.ask O p).1) := by
  unfold PS.ask RS.ask
  cases hk : getK s.known p with
  | some k =>
    have hm : p ∈ r.asked := by rw [← h.asked]; exact getK_iff.1 (by rw [hk]; rfl)
    have ho := h.known p k hk
    rw [if_pos hm]
    unfold RS.askIn
    rw [ho]
    exact .inl ⟨h.stop, s, E, Leads.refl _, h, rfl, rfl, rfl⟩
  | none =>
    have hm : p ∉ r.asked := by
      rw [← h.asked]
      intro hm
      have := getK_iff.2 hm
      rw [hk] at this
      cases this
    have hl : s.known.length = r.asked.length := by rw [← h.asked, List.length_map]
    have hno := h.not_still
    rw [if_neg hm]
    simp only
    by_cases h5 : r.asked.length = 500
    · rw [if_pos h5, if_pos (by omega)]
      exact .inr ⟨by simp [RS.fail], _, Leads.refl _, h.fail 6⟩
    · have hless := h.less
      rw [if_neg h5, if_neg (by omega)]
      unfold RS.askIn
      cases ho : O p with
      | none =>
        refine .inr ⟨by simp, _, Leads.refl _, h.wrote, .inl ⟨rfl, h.goes, ho, rfl⟩⟩
      | some k =>
        refine .inl ⟨h.stop, { s with known := s.known ++ [(p, k)], asks := [], waits := false }, E ++ [⟨1, p, [], 0⟩], ?_, ⟨h.goes, rfl, h.buf, ?_, fun q j hj => ?_, ?_, h.stop, ?_, h.short⟩, rfl, rfl, rfl⟩
        · refine (Leads.one (b := (PS.give { s with asks := p, waits := true, todo := .ans p th :: s.todo } k, E ++ [⟨1, p, [], 0⟩])) ?_).trans (Leads.one ?_)
          · have hg := h.goes
            unfold mstep
            simp [hg, DE.none, ho]
          · have hn : ¬ (PS.give { s with asks := p, waits := true, todo := .ans p th :: s.todo } k).Still := by
              unfold PS.Still PS.give
              simp [h.goes, DE.none]
            rw [mstep_goes hn, step_cons hn (t := .ans p th) (r := s.todo) rfl]
            have hg := getK_snoc hk k p
            rw [if_pos rfl] at hg
            simp only [PS.task, PS.give]
            rw [hg]
            rfl
        · show (s.known ++ [(p, k)]).map (·.1) = r.asked ++ [p]
          rw [List.map_append, h.asked]
          rfl
        · have hg := getK_snoc hk k q
          have hj' : getK (s.known ++ [(p, k)]) q = some j := hj
          rw [hg] at hj'
          split at hj'
          · rename_i e
            subst e
            rw [ho, hj']
          · exact h.known q j hj'
        · rw [← h.wrote]
          simp [writesOf]
        · show (s.known ++ [(p, k)]).length ≤ 500
          rw [List.length_append, List.length_singleton]
          omega
/-- what becomes of a file that was scanned -/
theorem leads_then {v : Env} {O : TT → Option KE} {s : PS} {E : List DE} (h : ¬ s.Still) {t : TaskE} {T : List TaskE} (ht : s.todo = t :: T) : Leads v O (s, E) (PS.task v { s with todo := T } t, E) := by
  refine Leads.one ?_
  rw [mstep_goes h, step_cons h ht]
/-- the paths seen -/
def SeenAs (s : PS) (d : List TT) : Prop := ∀ p, p ∈ s.seen ↔ p ∈ d
def left (L : List TT) (d : List TT) : Nat := (L.filter fun p => !decide (p ∈ d)).length
theorem left_more {L d : List TT} {p : TT} (hp : p ∈ L) (hd : p ∉ d) : left L (d ++ [p]) < left L d := by
  unfold left
  have low : ∀ L : List TT, (L.filter fun q => !decide (q ∈ d ++ [p])).length ≤ (L.filter fun q => !decide (q ∈ d)).length := by
    intro L
    induction L with
    | nil => simp
    | cons x L ih =>
      rw [List.filter_cons, List.filter_cons]
      by_cases h1 : x ∈ d
      · rw [if_neg (by simp [h1]), if_neg (by simp [h1])]; exact ih
      · by_cases h2 : x = p
        · rw [if_neg (by simp [h2]), if_pos (by simp [h1])]; simp only [List.length_cons]; omega
        · rw [if_pos (by simp [h1, h2]), if_pos (by simp [h1])]; simp only [List.length_cons]; omega
  induction L with
  | nil => cases hp
  | cons x L ih =>
    rw [List.filter_cons, List.filter_cons]
    rcases List.mem_cons.1 hp with rfl | hp
    · rw [if_neg (by simp), if_pos (by simp [hd])]
      have := low L
      simp only [List.length_cons]
      omega
    · have ih := ih hp
      by_cases h1 : x ∈ d
      · rw [if_neg (by simp [h1]), if_neg (by simp [h1])]; exact ih
      · by_cases h2 : x = p
        · rw [if_neg (by simp [h2]), if_pos (by simp [h1])]; simp only [List.length_cons]; omega
        · rw [if_pos (by simp [h1, h2]), if_pos (by simp [h1])]; simp only [List.length_cons]; omega
/-- the answer of a scan, or of some of its lines -/
def Scanned (v : Env) (O : TT → Option KE) (m : MS) (T : List TaskE) (x : RS × List TT) : Prop :=
  (x.1.stop.kind = 0 ∧ ∃ s E, Leads v O m (s, E) ∧ Rel O s E x.1 ∧ s.todo = T ∧ SeenAs s x.2) ∨ (x.1.stop.kind ≠ 0 ∧ ∃ s E, Leads v O m (s, E) ∧ RelStop O s E x.1)
theorem Scanned.lead {v : Env} {O : TT → Option KE} {m m' : MS} {T : List TaskE} {x : RS × List TT} (h : Leads v O m m') (k : Scanned v O m' T x) : Scanned v O m T x := by
  rcases k with ⟨h0, s, E, h1, h2, h3, h4⟩ | ⟨h0, s, E, h1, h2⟩
  · exact .inl ⟨h0, s, E, h.trans h1, h2, h3, h4⟩
  · exact .inr ⟨h0, s, E, h.trans h1, h2⟩
theorem scanL_stop {v : Env} {f : RS → TT → List TT → RS × List TT} {w : TT} {l : List TT} {s : RS} {d : List TT} (h : s.stop.kind ≠ 0) : scanL v f w l s d = (s, d) := by
  cases l with
  | nil => rfl
  | cons x l => rw [scanL, if_pos h]
theorem leads_lines {v : Env} {O : TT → Option KE} {w : TT} {T : List TaskE} {f : RS → TT → List TT → RS × List TT} {n : Nat} {L : List TT}
    (hf : ∀ (s : PS) (E : List DE) (r : RS) (d : List TT) (p : TT), Rel O s E r → SeenAs s d → p ∉ d → left L d < n → Scanned v O (s.scan p w, E) s.todo (f r p d) ∧ left L (f r p d).2 ≤ left L d) :
    ∀ (l : List TT) (s : PS) (E : List DE) (r : RS) (d : List TT), Rel O s E r → SeenAs s d → s.todo = l.map (TaskE.line · w) ++ T → left L d < n → Scanned v O (s, E) T (scanL v f w l r d) ∧ left L (scanL v f w l r d).2 ≤ left L d
  | [], s, E, r, d, h, hs, ht, _ => ⟨.inl ⟨h.stop, s, E, Leads.refl _, h, ht, hs⟩, Nat.le_refl _⟩
  | x :: l, s, E, r, d, h, hs, ht, hn => by
    have ht' : s.todo = .line x w :: (l.map (TaskE.line · w) ++ T) := ht
    have hl := leads_then (v := v) (O := O) (E := E) h.not_still ht'
    rw [scanL, if_neg (by rw [h.stop]; simp)]
    have hr : Rel O { s with todo := l.map (TaskE.line · w) ++ T } E r := h.todo _ _
    have hadd : ∀ t : TT, Scanned v O (PS.add { s with todo := l.map (TaskE.line · w) ++ T } t, E) T (scanL v f w l (r.add t) d) ∧ left L (scanL v f w l (r.add t) d).2 ≤ left L d := by
      intro t
      rcases hr.add t with ⟨h1, h2, h3⟩ | ⟨h1, h2⟩
      · exact leads_lines hf l _ E _ d h1 (fun p => by rw [h3]; exact hs p) h2 hn
      · rw [scanL_stop h1]
        exact ⟨.inr ⟨h1, _, _, Leads.refl _, h2⟩, Nat.le_refl _⟩
    have hline : PS.task v { s with todo := l.map (TaskE.line · w) ++ T } (.line x w) = PS.line v { s with todo := l.map (TaskE.line · w) ++ T } x w := rfl
    rw [hline] at hl
    unfold PS.line at hl
    split
    · rename_i a b hab
      rw [hab] at hl
      simp only at hl
      by_cases hc : a = w ∧ v.may b = true
      · rw [if_pos hc] at hl ⊢
        by_cases hb : b ∈ d
        · rw [if_pos hb]
          rw [if_pos ((hs b).2 hb)] at hl
          obtain ⟨k1, k2⟩ := leads_lines hf l _ E r d hr hs rfl hn
          exact ⟨k1.lead hl, k2⟩
        · rw [if_neg hb]
          rw [if_neg (fun e => hb ((hs b).1 e))] at hl
          obtain ⟨k1, k2⟩ := hf _ E r d b hr hs hb hn
          rcases k1 with ⟨h0, s1, E1, g1, g2, g3, g4⟩ | ⟨h0, s1, E1, g1, g2⟩
          · obtain ⟨k3, k4⟩ := leads_lines hf l s1 E1 _ _ g2 g4 g3 (by omega)
            exact ⟨(k3.lead g1).lead hl, by omega⟩
          · rw [scanL_stop h0]
            exact ⟨.inr ⟨h0, s1, E1, hl.trans g1, g2⟩, k2⟩
      · rw [if_neg hc] at hl ⊢
        obtain ⟨k1, k2⟩ := hadd (x ++ [10])
        exact ⟨k1.lead hl, k2⟩
    · rename_i hne
      obtain ⟨k1, k2⟩ := hadd (x ++ [10])
      refine ⟨k1.lead ?_, k2⟩
      cases hw : wordsT x with
      | nil => rw [hw] at hl; exact hl
      | cons a r1 =>
        cases r1 with
        | nil => rw [hw] at hl; exact hl
        | cons b r2 =>
          cases r2 with
          | nil => exact absurd hw (hne a b)
          | cons c r3 => rw [hw] at hl; exact hl
/-- a scan -/
theorem leads_scan {v : Env} {O : TT → Option KE} {w : TT} {L : List TT} (hL : ∀ p k, O p = some k → p ∈ L) : ∀ (n : Nat) (s : PS) (E : List DE) (r : RS) (d : List TT) (p : TT), Rel O s E r → SeenAs s d → p ∉ d → left L d < n → Scanned v O (s.scan p w, E) s.todo (scanF v O w n r p d) ∧ left L (scanF v O w n r p d).2 ≤ left L d
  | 0, _, _, _, d, _, _, _, _, hn => absurd hn (Nat.not_lt_zero _)
  | n + 1, s, E, r, d, p, h, hs, hp, hn => by
    have h1 : Rel O { s with seen := p :: s.seen } E r := h.todo _ _
    have hseen : SeenAs { s with seen := p :: s.seen } (d ++ [p]) := fun q => by
      simp only [List.mem_cons, List.mem_append, List.not_mem_nil, or_false]
      rw [hs q]
      exact Or.comm
    have hle : left L (d ++ [p]) ≤ left L d := by
      by_cases hpL : p ∈ L
      · exact Nat.le_of_lt (left_more hpL hp)
      · unfold left
        refine Nat.le_of_eq (congrArg List.length (List.filter_congr fun q hq => ?_))
        have : q ≠ p := fun e => hpL (e ▸ hq)
        simp [this]
    have hask := leads_ask (v := v) h1 p (.scan w)
    have hsc : s.scan p w = PS.ask { s with seen := p :: s.seen } p (.scan w) := rfl
    rw [scanF, hsc]
    rcases hask with ⟨g0, s1, E1, g1, g2, g3, g4, g5⟩ | ⟨g0, s1, g1, g2⟩
    · rw [if_neg (by rw [g0]; simp)]
      have hpL := hL p _ g5
      have hlt := left_more hpL hp
      by_cases hi : (r.ask O p).2.is = false
      · rw [if_pos hi]
        refine ⟨.inr ⟨by simp [RS.fail], s1.fail 10, E1, ?_, g2.fail 10⟩, hle⟩
        unfold PS.then_ at g1
        simp only [hi] at g1
        exact g1
      · rw [if_neg hi]
        unfold PS.then_ at g1
        simp only [hi] at g1
        obtain ⟨k1, k2⟩ := leads_lines (T := s.todo) (fun s E r d p a b c e => leads_scan hL n s E r d p a b c e) (linesT (r.ask O p).2.data) { s1 with todo := (linesT (r.ask O p).2.data).map (TaskE.line · w) ++ s1.todo } E1 (r.ask O p).1 (d ++ [p]) (g2.todo _ _) (fun q => by rw [← hseen q, ← g4]) (by rw [g3]) (by omega)
        exact ⟨k1.lead g1, Nat.le_trans k2 hle⟩
    · rw [if_pos g0]
      exact ⟨.inr ⟨g0, s1, E, g1, g2⟩, hle⟩
/-- its name is one of the commands' -/
def Named (c : CmdE) : Prop := c.ws.headD [] ∈ [kRead, kTry, kWrite, kScan, kEnv, kKeep, kNeed, kSort, kUniq, kUpper, kCount, kFail, kText]
def Done (v : Env) (O : TT → Option KE) (m : MS) (T : List TaskE) (x : RS) : Prop :=
  (x.stop.kind = 0 ∧ ∃ s E, Leads v O m (s, E) ∧ Rel O s E x ∧ s.todo = T) ∨ (x.stop.kind ≠ 0 ∧ ∃ s E, Leads v O m (s, E) ∧ RelStop O s E x)
theorem Rel.buffer {O : TT → Option KE} {s : PS} {E : List DE} {r : RS} (h : Rel O s E r) {b : TT} (hb : b.length ≤ 65536) : Rel O { s with buf := b } E { r with buf := b } := ⟨h.goes, h.runs, rfl, h.asked, h.known, h.wrote, h.stop, h.less, hb⟩
theorem Rel.done {v : Env} {O : TT → Option KE} {s : PS} {E : List DE} {r : RS} (h : Rel O s E r) : Done v O (s, E) s.todo r := .inl ⟨h.stop, s, E, Leads.refl _, h, rfl⟩
theorem Rel.done_add {v : Env} {O : TT → Option KE} {s : PS} {E : List DE} {r : RS} (h : Rel O s E r) (t : TT) : Done v O (s.add t, E) s.todo (r.add t) := by
  rcases h.add t with ⟨h1, h2, _⟩ | ⟨h1, h2⟩
  · exact .inl ⟨h1.stop, _, _, Leads.refl _, h1, h2⟩
  · exact .inr ⟨h1, _, _, Leads.refl _, h2⟩
theorem Rel.done_fail {v : Env} {O : TT → Option KE} {s : PS} {E : List DE} {r : RS} (h : Rel O s E r) (y : Nat) : Done v O (s.fail y, E) s.todo (r.fail y) := .inr ⟨by simp [RS.fail], _, _, Leads.refl _, h.fail y⟩
theorem Rel.done_set {v : Env} {O : TT → Option KE} {s : PS} {E : List DE} {r : RS} (h : Rel O s E r) (l : List TT) : Done v O (s.setLines l, E) s.todo (RS.add { r with buf := [] } (wholeT l)) := by
  have := (h.buffer (b := []) (by simp)).done_add (v := v) (wholeT l)
  exact this
theorem add_short {r : RS} {t : TT} (ht : t.length ≤ 65536) : RS.add { r with buf := [] } t = { r with buf := t } := by
  unfold RS.add
  rw [if_neg (by simp; omega)]
  rfl
def ThenE.isAdd : ThenE → Bool
  | .add => true
  | _ => false
theorem leads_cmd {v : Env} {O : TT → Option KE} {L : List TT} (hL : ∀ p k, O p = some k → p ∈ L) {N : Nat} (hN : L.length < N) {s : PS} {E : List DE} {r : RS} (h : Rel O s E r) {c : CmdE} (hc : Named c) : Done v O (s.do_ v c, E) s.todo (r.step v O N c) := by
  obtain ⟨nm, hnm⟩ : ∃ nm, nm = c.ws.headD [] := ⟨_, rfl⟩
  obtain ⟨arg, harg⟩ : ∃ a, a = (c.ws.drop 1).headD [] := ⟨_, rfl⟩
  unfold Named at hc
  unfold PS.do_ RS.step
  simp only
  rw [← hnm] at hc ⊢
  rw [← harg]
  have hask : ∀ th, th = ThenE.add ∨ th = ThenE.try_ → Done v O (s.ask arg th, E) s.todo (if (r.ask O arg).1.stop.kind ≠ 0 then (r.ask O arg).1 else if (r.ask O arg).2.is = true then (r.ask O arg).1.add (r.ask O arg).2.data else if th.isAdd = true then (r.ask O arg).1.fail 10 else (r.ask O arg).1) := by
    intro th hth
    rcases leads_ask (v := v) h arg th with ⟨g0, s1, E1, g1, g2, g3, g4, g5⟩ | ⟨g0, s1, g1, g2⟩
    · rw [if_neg (by rw [g0]; simp)]
      have key : Done v O (s1.then_ th (r.ask O arg).2, E1) s1.todo (if (r.ask O arg).2.is = true then (r.ask O arg).1.add (r.ask O arg).2.data else if th.isAdd = true then (r.ask O arg).1.fail 10 else (r.ask O arg).1) := by
        rcases hth with rfl | rfl
        · unfold PS.then_
          simp only
          split
          · exact g2.done_add _
          · exact g2.done_fail 10
        · unfold PS.then_
          simp only
          split
          · exact g2.done_add _
          · exact g2.done
      rw [g3] at key
      rcases key with ⟨k0, s2, E2, k1, k2, k3⟩ | ⟨k0, s2, E2, k1, k2⟩
      · exact .inl ⟨k0, s2, E2, g1.trans k1, k2, k3⟩
      · exact .inr ⟨k0, s2, E2, g1.trans k1, k2⟩
    · rw [if_pos g0]
      exact .inr ⟨g0, s1, E, g1, g2⟩
  have hcount : (decDigits (linesT s.buf).length ++ [10]).length ≤ 65536 := by
    have h1 := linesT_len s.buf
    have h2 := h.short
    have h3 := dec_short (linesT s.buf).length (by omega)
    rw [List.length_append, List.length_singleton]
    omega
  have hup : (upT s.buf).length ≤ 65536 := by rw [upT, List.length_map]; exact h.short
  have hset := fun l => h.done_set (v := v) l
  simp only [List.mem_cons, List.not_mem_nil, or_false] at hc
  rcases hc with rfl | rfl | rfl | rfl | rfl | rfl | rfl | rfl | rfl | rfl | rfl | rfl | rfl
  · simpa [ThenE.isAdd] using hask .add (.inl rfl)
  · simpa [ThenE.isAdd] using hask .try_ (.inr rfl)
  · -- write
    simp
    refine .inl ⟨h.stop, { s with buf := [] }, E ++ [⟨2, arg, s.buf, 0⟩], Leads.one ?_, ⟨h.goes, h.runs, rfl, h.asked, h.known, ?_, h.stop, h.less, by simp⟩, rfl⟩
    · unfold mstep
      have hg := h.goes
      simp [hg]
    · rw [← h.wrote, h.buf]
      simp [writesOf]
  · -- scan
    simp
    have h0 : Rel O { s with seen := [] } E r := h.todo s.todo []
    have hl : left L [] < N := by
      unfold left
      exact Nat.lt_of_le_of_lt (List.length_filter_le _ _) hN
    obtain ⟨k1, _⟩ := leads_scan (v := v) (w := (c.ws.drop 2).headD []) hL N { s with seen := [] } E r [] arg h0 (fun p => Iff.rfl) (by simp) hl
    simp at k1
    rcases k1 with ⟨g0, s1, E1, g1, g2, g3, _⟩ | ⟨g0, s1, E1, g1, g2⟩
    · exact .inl ⟨g0, s1, E1, g1, g2, g3⟩
    · exact .inr ⟨g0, s1, E1, g1, g2⟩
  · -- env
    simp
    cases hf : v.env.find? fun x => x.1 == arg with
    | none => exact h.done_fail 10
    | some x => exact h.done_add x.2
  · -- keep
    simp [PS.turn]
    rw [← h.buf]
    exact hset _
  · -- need
    simp
    rw [← h.buf]
    split
    · exact h.done
    · exact h.done_fail 15
  · simp [PS.turn, turnedR]
    rw [← h.buf]
    exact hset _
  · simp [PS.turn, turnedR]
    rw [← h.buf]
    exact hset _
  · simp [PS.turn, turnedR]
    rw [← h.buf, add_short hup]
    exact (h.buffer hup).done
  · simp [PS.turn, turnedR]
    rw [← h.buf, add_short hcount]
    exact (h.buffer hcount).done
  · simp
    exact h.done_fail 15
  · simp
    exact h.done_add _
/-- the whole: the machine comes to where the document's answer stands -/
theorem leads_far {v : Env} {O : TT → Option KE} {L : List TT} (hL : ∀ p k, O p = some k → p ∈ L) {N : Nat} (hN : L.length < N) : ∀ (l : List CmdE) (s : PS) (E : List DE) (r : RS), Rel O s E r → s.todo = l.map .cmd → (∀ c ∈ l, Named c) → ∃ s1 E1, Leads v O (s, E) (s1, E1) ∧ RelStop O s1 E1 (farL v O N l r)
  | [], s, E, r, h, ht, _ => by
    refine ⟨{ s with over := ⟨3, [], [], 0⟩ }, E, Leads.one ?_, h.wrote, .inr ⟨rfl, .inl rfl⟩⟩
    rw [mstep_goes h.not_still, step_nil h.not_still ht]
  | c :: l, s, E, r, h, ht, hc => by
    have hl := leads_then (v := v) (O := O) (E := E) h.not_still (t := .cmd c) (T := l.map .cmd) ht
    have hd := leads_cmd (v := v) hL hN (h.todo (l.map TaskE.cmd) s.seen) (hc c (by simp))
    rw [farL]
    rcases hd with ⟨g0, s1, E1, g1, g2, g3⟩ | ⟨g0, s1, E1, g1, g2⟩
    · rw [if_neg (by rw [g0]; simp)]
      obtain ⟨s2, E2, k1, k2⟩ := leads_far hL hN l s1 E1 _ g2 g3 fun x hx => hc x (by simp [hx])
      exact ⟨s2, E2, (hl.trans g1).trans k1, k2⟩
    · rw [if_pos g0]
      exact ⟨s1, E1, hl.trans g1, g2⟩
end Go.Proofs.YtjjpecggcjggpaaGreatDoor
/- A tool as a machine, answered one by one: what is told next. No program is named. -/
namespace Go.Proofs.YtjjpecggcjggpaaGreatDoor
open Go.Lib
variable {v : Env} {O O' : TT → Option KE}
theorem run_leads : ∀ (n : Nat) (s : PS) (E : List DE), Leads v O (s, E) (s.run v n, E)
  | 0, s, E => Leads.refl _
  | n + 1, s, E => by
    rw [PS.run]
    by_cases hs : s.Still
    · rw [PS.step_still hs, PS.run_still hs n]
      exact Leads.refl _
    · exact (Leads.one (mstep_goes hs)).trans (run_leads n _ E)
def Fixed (v : Env) (O : TT → Option KE) (m : MS) : Prop := mstep v O m = m
theorem Fixed.run {m : MS} (h : Fixed v O m) : ∀ n, mrun v O n m = m
  | 0 => rfl
  | n + 1 => by
    rw [mrun, show mstep v O m = m from h]
    exact Fixed.run h n
theorem Leads.meet {a b c : MS} (h : Leads v O a b) (k : Leads v O a c) (hc : Fixed v O c) : Leads v O b c := by
  obtain ⟨n, rfl⟩ := h
  obtain ⟨m, rfl⟩ := k
  rcases Nat.le_total n m with hl | hl
  · obtain ⟨d, rfl⟩ := Nat.exists_eq_add_of_le hl
    exact ⟨d, (mrun_add v O n d a).symm⟩
  · obtain ⟨d, rfl⟩ := Nat.exists_eq_add_of_le hl
    rw [mrun_add v O m d a, hc.run d]
    exact Leads.refl _
theorem mstep_prefix (m : MS) : ∃ F, (mstep v O m).2 = m.2 ++ F := by
  unfold mstep
  split
  · exact ⟨_, rfl⟩
  · split
    · exact ⟨[], by simp⟩
    · split
      · split
        · exact ⟨_, rfl⟩
        · exact ⟨[], by simp⟩
      · exact ⟨[], by simp⟩
theorem mrun_prefix : ∀ (n : Nat) (m : MS), ∃ F, (mrun v O n m).2 = m.2 ++ F
  | 0, m => ⟨[], by simp [mrun]⟩
  | n + 1, m => by
    obtain ⟨F, hF⟩ := mstep_prefix (v := v) (O := O) m
    obtain ⟨G, hG⟩ := mrun_prefix n (mstep v O m)
    exact ⟨F ++ G, by rw [mrun, hG, hF, List.append_assoc]⟩
theorem Leads.front {a b : MS} (h : Leads v O a b) : ∃ F, b.2 = a.2 ++ F := by
  obtain ⟨n, rfl⟩ := h
  exact mrun_prefix n a
/-- more is known: the way is the same -/
theorem mrun_more (hO : ∀ p k, O p = some k → O' p = some k) : ∀ (n : Nat) (m : MS), Leads v O' m (mrun v O n m)
  | 0, m => Leads.refl _
  | n + 1, m => by
    rw [mrun]
    by_cases hf : mstep v O m = m
    · rw [hf, Fixed.run (show Fixed v O m from hf) n]
      exact Leads.refl _
    · have he : mstep v O' m = mstep v O m := by
        unfold mstep at hf ⊢
        by_cases h2 : m.1.over.kind = 2
        · rw [if_pos h2, if_pos h2]
        · rw [if_neg h2] at hf ⊢
          rw [if_neg h2]
          by_cases h0 : m.1.over.kind ≠ 0
          · rw [if_pos h0, if_pos h0]
          · rw [if_neg h0] at hf ⊢
            rw [if_neg h0]
            by_cases hw : m.1.waits = true
            · rw [if_pos hw] at hf ⊢
              rw [if_pos hw]
              cases ho : O m.1.asks with
              | none => rw [ho] at hf; exact absurd rfl hf
              | some k => rw [hO _ _ ho]
            · rw [if_neg hw, if_neg hw]
      exact (Leads.one he).trans (mrun_more hO n _)
theorem Leads.more (hO : ∀ p k, O p = some k → O' p = some k) {a b : MS} (h : Leads v O a b) : Leads v O' a b := by
  obtain ⟨n, rfl⟩ := h
  exact mrun_more hO n a
/-! what is told next -/
def nextV (s : PS) : DE := if s.waits = true then ⟨1, s.asks, [], 0⟩ else s.over
def PS.next (s : PS) : PS := if s.waits = true then s else if s.over.kind = 2 then { s with over := DE.none } else s
/-- what is waited for is not known, and there is room for it; nothing is told while it is waited -/
def Waits (s : PS) : Prop := s.waits = true → s.over = DE.none ∧ getK s.known s.asks = none ∧ s.known.length < 500
theorem Waits.task {s : PS} (h0 : s.waits = false) (h1 : s.over = DE.none) (t : TaskE) : Waits (s.task v t) := by
  obtain ⟨hk, hg⟩ := grows_task s v t
  intro hw
  rcases hg with ⟨L, w, _, e, _⟩ | ⟨p, th, _, _, e2, e3, e4, e5⟩
  · rw [e, h0] at hw
    cases hw
  · rw [hk, e2, e5]
    exact ⟨h1, e3, e4⟩
/-- in order: between two calls -/
structure Ord (s : PS) : Prop where
  lim : Lim s
  pend : Pend s
  waits : Waits s
  over : s.over = DE.none ∨ s.over.kind = 2 ∨ s.over.kind = 3 ∨ s.over.kind = 4
theorem over_task (s : PS) (h : s.over = DE.none) (t : TaskE) : (s.task v t).over = DE.none ∨ (s.task v t).over.kind = 2 ∨ (s.task v t).over.kind = 3 ∨ (s.task v t).over.kind = 4 := by
  have hf : ∀ y, (s.fail y).over.kind = 4 := fun y => rfl
  have hadd : ∀ (s : PS) t, s.over = DE.none → (s.add t).over = DE.none ∨ (s.add t).over.kind = 2 ∨ (s.add t).over.kind = 3 ∨ (s.add t).over.kind = 4 := fun s t h => by
    unfold PS.add
    split
    · exact .inr (.inr (.inr rfl))
    · exact .inl h
  have hthen : ∀ (s : PS) th k, s.over = DE.none → (s.then_ th k).over = DE.none ∨ (s.then_ th k).over.kind = 2 ∨ (s.then_ th k).over.kind = 3 ∨ (s.then_ th k).over.kind = 4 := fun s th k h => by
    cases th <;> unfold PS.then_ <;> simp only <;> split
    · exact hadd s _ h
    · exact .inr (.inr (.inr rfl))
    · exact hadd s _ h
    · exact .inl h
    · exact .inl h
    · exact .inr (.inr (.inr rfl))
  have hask : ∀ (s : PS) p th, s.over = DE.none → (s.ask p th).over = DE.none ∨ (s.ask p th).over.kind = 2 ∨ (s.ask p th).over.kind = 3 ∨ (s.ask p th).over.kind = 4 := fun s p th h => by
    unfold PS.ask
    split
    · exact hthen s _ _ h
    · split
      · exact .inr (.inr (.inr rfl))
      · exact .inl h
  cases t with
  | cmd c =>
    unfold PS.task PS.do_
    simp only
    have hturn : ∀ n a l, (s.turn n a l).over = DE.none ∨ (s.turn n a l).over.kind = 2 ∨ (s.turn n a l).over.kind = 3 ∨ (s.turn n a l).over.kind = 4 := fun n a l => by
      unfold PS.turn
      repeat' split
      all_goals first
        | exact hadd { s with buf := [] } _ h
        | exact .inl h
    repeat' split
    all_goals first
      | exact hask s _ _ h
      | exact hadd s _ h
      | exact .inr (.inr (.inr rfl))
      | exact hask { s with seen := _ } _ _ h
      | exact .inr (.inl rfl)
      | exact hturn _ _ _
      | exact .inl h
  | ans p th => exact hthen s _ _ h
  | line x w =>
    unfold PS.task PS.line
    simp only
    repeat' split
    all_goals first
      | exact hask { s with seen := _ } _ _ h
      | exact hadd s _ h
      | exact .inl h
theorem over_zero {s : PS} (h : s.over = DE.none ∨ s.over.kind = 2 ∨ s.over.kind = 3 ∨ s.over.kind = 4) (h0 : s.over.kind = 0) : s.over = DE.none := by
  rcases h with h | h | h | h
  · exact h
  · omega
  · omega
  · omega
theorem Ord.step {s : PS} (h : Ord s) : Ord (s.step v) := by
  refine ⟨h.lim.step v, ?_, ?_, ?_⟩
  · by_cases hs : s.Still
    · rw [PS.step_still hs]; exact h.pend
    · cases ht : s.todo with
      | nil => rw [step_nil hs ht]; exact h.pend
      | cons t r => rw [step_cons hs ht]; exact h.pend.task (not_still hs).2 ht v
  · by_cases hs : s.Still
    · rw [PS.step_still hs]; exact h.waits
    · obtain ⟨h0, hw⟩ := not_still hs
      cases ht : s.todo with
      | nil =>
        rw [step_nil hs ht]
        intro e
        rw [show (PS.waits { s with over := ⟨3, [], [], 0⟩ }) = s.waits from rfl, hw] at e
        cases e
      | cons t r =>
        rw [step_cons hs ht]
        exact Waits.task (s := { s with todo := r }) hw (over_zero h.over h0) t
  · by_cases hs : s.Still
    · rw [PS.step_still hs]; exact h.over
    · obtain ⟨h0, hw⟩ := not_still hs
      cases ht : s.todo with
      | nil => rw [step_nil hs ht]; exact .inr (.inr (.inl rfl))
      | cons t r =>
        rw [step_cons hs ht]
        exact over_task { s with todo := r } (over_zero h.over h0) t
theorem Ord.run : ∀ (n : Nat) {s : PS}, Ord s → Ord (s.run v n)
  | 0, _, h => h
  | n + 1, _, h => Ord.run n h.step
theorem Ord.next {s : PS} (h : Ord s) : Ord s.next := by
  unfold PS.next
  split
  · exact h
  · rename_i hw
    split
    · exact ⟨⟨h.lim.buf, h.lim.tasks, h.lim.datas, h.lim.seens, h.lim.asks, h.lim.less⟩, h.pend, fun e => absurd e hw, .inl rfl⟩
    · exact h
theorem Ord.give {s : PS} (h : Ord s) (hw : s.waits = true) {k : KE} (hk : k.is = true → k.data.length ≤ 1000000) : Ord (s.give k) := by
  obtain ⟨w1, w2, w3⟩ := h.waits hw
  refine ⟨⟨h.lim.buf, h.lim.tasks, fun p j hj => ?_, h.lim.seens, by simp [PS.give], ?_⟩, fun p th hm => ?_, fun e => ?_, h.over⟩
  · have hj' : getK (s.known ++ [(s.asks, k)]) p = some j := hj
    rw [getK_snoc w2] at hj'
    split at hj'
    · cases hj'; exact hk
    · exact h.lim.datas p j hj'
  · show (s.known ++ [(s.asks, k)]).length ≤ 500
    rw [List.length_append, List.length_singleton]
    omega
  · left
    have hg := getK_snoc w2 k p
    show (getK (s.known ++ [(s.asks, k)]) p).isSome = true
    rw [hg]
    split
    · rfl
    · rename_i hne
      rcases h.pend p th hm with h1 | h1
      · exact h1
      · exact absurd h1.2.symm hne
  · cases e
theorem writesOf_append (a b : List DE) : writesOf (a ++ b) = writesOf a ++ writesOf b := List.filter_append ..
theorem fixed_end {s : PS} {E : List DE} (h : s.over.kind = 3 ∨ s.over.kind = 4) : Fixed v O (s, E) := by
  unfold Fixed mstep
  rcases h with h | h <;> simp [h]
theorem fixed_wait {s : PS} {E : List DE} (h0 : s.over = DE.none) (hw : s.waits = true) (ho : O s.asks = none) : Fixed v O (s, E) := by
  unfold Fixed mstep
  simp [h0, DE.none, hw, ho]
theorem leads_write {s : PS} {E : List DE} (h : s.over.kind = 2) : Leads v O (s, E) ({ s with over := DE.none }, E ++ [s.over]) := by
  refine Leads.one ?_
  unfold mstep
  simp [h]
theorem leads_give {s : PS} {E : List DE} (h0 : s.over = DE.none) (hw : s.waits = true) {k : KE} (ho : O s.asks = some k) : Leads v O (s, E) (s.give k, E ++ [⟨1, s.asks, [], 0⟩]) := by
  refine Leads.one ?_
  unfold mstep
  simp [h0, DE.none, hw, ho]
/-- how it stands: it waits, it has written, or it has ended -/
theorem Ord.cases {s : PS} (h : Ord s) (hs : s.Still) : (s.waits = true ∧ s.over = DE.none) ∨ (s.waits = false ∧ s.over.kind = 2) ∨ (s.waits = false ∧ (s.over.kind = 3 ∨ s.over.kind = 4)) := by
  cases hw : s.waits with
  | true => exact .inl ⟨rfl, (h.waits hw).1⟩
  | false =>
    rcases h.over with h0 | h0 | h0 | h0
    · unfold PS.Still at hs
      rw [h0, hw] at hs
      simp [DE.none] at hs
    · exact .inr (.inl ⟨rfl, h0⟩)
    · exact .inr (.inr ⟨rfl, .inl h0⟩)
    · exact .inr (.inr ⟨rfl, .inr h0⟩)
/-- on the way to where it stops: what is told next -/
theorem goes_next {s s1 : PS} {E E1 : List DE} (hl : Leads v O (s, E) (s1, E1)) (hf : Fixed v O (s1, E1)) {n : Nat} (ho : Ord s) (hs : (s.run v n).Still) (hw : (s.run v n).waits = true → O (s.run v n).asks = none) :
    ((writesOf E).length < (writesOf E1).length → (writesOf E1)[(writesOf E).length]? = some (nextV (s.run v n)) ∧ ∃ E2, Leads v O (s, E) ((s.run v n).next, E2) ∧ Leads v O ((s.run v n).next, E2) (s1, E1) ∧ (writesOf E2).length = (writesOf E).length + 1) ∧
    ((writesOf E).length = (writesOf E1).length → s.run v n = s1 ∧ E = E1) := by
  have hr := run_leads (v := v) (O := O) n s E
  have hm := hr.meet hl hf
  have hor : Ord (s.run v n) := Ord.run n ho
  obtain ⟨s', hs'⟩ : ∃ s', s' = s.run v n := ⟨_, rfl⟩
  rw [← hs'] at hs hw hr hm hor ⊢
  have hend : Fixed v O (s', E) → s' = s1 ∧ E = E1 := fun hx => by
    obtain ⟨k, hk⟩ := hm
    rw [hx.run k] at hk
    exact ⟨congrArg (·.1) hk, congrArg (·.2) hk⟩
  rcases hor.cases hs with ⟨h1, h2⟩ | ⟨h1, h2⟩ | ⟨h1, h2⟩
  · have := hend (fixed_wait h2 h1 (hw h1))
    exact ⟨fun hlt => by rw [this.2] at hlt; omega, fun _ => this⟩
  · have hstep := leads_write (v := v) (O := O) (E := E) h2
    have hm2 := hstep.meet hm hf
    obtain ⟨F, hF⟩ := hm2.front
    simp only at hF
    have hwr : writesOf [s'.over] = [s'.over] := by simp [writesOf, h2]
    have he : writesOf E1 = writesOf E ++ s'.over :: writesOf F := by rw [hF, writesOf_append, writesOf_append, hwr]; simp
    have hnv : nextV s' = s'.over := by simp [nextV, h1]
    have hnx : s'.next = { s' with over := DE.none } := by simp [PS.next, h1, h2]
    refine ⟨fun _ => ⟨?_, E ++ [s'.over], ?_, ?_, ?_⟩, fun e => ?_⟩
    · rw [he, hnv, List.getElem?_append_right (Nat.le_refl _), Nat.sub_self]
      rfl
    · rw [hnx]; exact hr.trans hstep
    · rw [hnx]; exact hm2
    · rw [writesOf_append, hwr, List.length_append, List.length_singleton]
    · rw [he, List.length_append, List.length_cons] at e
      omega
  · have := hend (fixed_end h2)
    exact ⟨fun hlt => by rw [this.2] at hlt; omega, fun _ => this⟩
theorem stop_next {s : PS} (h : s.waits = true ∨ (s.over.kind = 3 ∨ s.over.kind = 4)) : s.next = s := by
  unfold PS.next
  split
  · rfl
  · rename_i hw
    rcases h with h | h
    · exact absurd h hw
    · rw [if_neg (by omega)]
theorem RelStop.value {s : PS} {E : List DE} {r : RS} (h : RelStop O s E r) (ho : Ord s) : nextV s = r.stop ∧ (s.waits = true ∨ (s.over.kind = 3 ∨ s.over.kind = 4)) ∧ Fixed v O (s, E) := by
  rcases h.stop with ⟨h1, h2, h3, h4⟩ | ⟨h1, h2⟩
  · refine ⟨?_, .inl h1, fixed_wait h2 h1 h3⟩
    rw [nextV, if_pos h1, h4]
  · rw [← h1] at h2
    have hw : s.waits = false := by
      cases hw : s.waits with
      | false => rfl
      | true =>
        have := (ho.waits hw).1
        rw [this] at h2
        simp [DE.none] at h2
    refine ⟨?_, .inr h2, fixed_end h2⟩
    rw [nextV, if_neg (by rw [hw]; simp), h1]
theorem Ord.mstep {s : PS} {E : List DE} (h : Ord s) (hO : ∀ p k, O p = some k → k.is = true → k.data.length ≤ 1000000) : Ord (mstep v O (s, E)).1 := by
  unfold Go.Proofs.YtjjpecggcjggpaaGreatDoor.mstep
  simp only
  split
  · rename_i h2
    refine ⟨⟨h.lim.buf, h.lim.tasks, h.lim.datas, h.lim.seens, h.lim.asks, h.lim.less⟩, h.pend, fun hw => ?_, .inl rfl⟩
    have := h.waits hw
    rw [this.1] at h2
    simp [DE.none] at h2
  · split
    · exact h
    · split
      · rename_i hw
        split
        · rename_i k hk
          exact h.give hw (hO _ k hk)
        · exact h
      · exact h.step
theorem Ord.mrun (hO : ∀ p k, O p = some k → k.is = true → k.data.length ≤ 1000000) : ∀ (n : Nat) {m : MS}, Ord m.1 → Ord (mrun v O n m).1
  | 0, _, h => h
  | n + 1, (s, E), h => by
    have := h.mstep (v := v) (E := E) hO
    exact Ord.mrun hO n this
theorem Ord.leads (hO : ∀ p k, O p = some k → k.is = true → k.data.length ≤ 1000000) {a b : MS} (h : Ord a.1) (hl : Leads v O a b) : Ord b.1 := by
  obtain ⟨n, rfl⟩ := hl
  exact Ord.mrun hO n h
/-- at its start -/
def PS.start (l : List CmdE) : PS := ⟨l.map .cmd, [], [], [], false, DE.none, []⟩
def RS.start : RS := ⟨[], [], [], DE.none⟩
theorem rel_start (l : List CmdE) : Rel O (PS.start l) [] RS.start := ⟨rfl, rfl, rfl, rfl, fun _ _ h => (by cases h), rfl, rfl, (by simp [PS.start]), (by simp [PS.start])⟩
theorem ord_start {l : List CmdE} (h : ∀ c ∈ l, CmdOk c) : Ord (PS.start l) := by
  refine ⟨⟨by simp [PS.start], fun t ht => ?_, fun p k hk => (by cases hk), (by simp [PS.start]), (by simp [PS.start]), (by simp [PS.start])⟩, fun p th hm => ?_, fun hw => (by cases hw), .inl rfl⟩
  · obtain ⟨c, hc, rfl⟩ := List.mem_map.1 ht
    exact h c hc
  · obtain ⟨c, _, hx⟩ := List.mem_map.1 hm
    cases hx
end Go.Proofs.YtjjpecggcjggpaaGreatDoor
/- A tool's text and its commands, plain. No program is named. -/
namespace Go.Proofs.YtjjpecggcjggpaaGreatDoor
open Go.Lib
def passedW : List TT → Bool
  | [] => true
  | a :: _ => a.head? == some 35
def okW (may : TT → Bool) : List TT → Bool
  | [] => false
  | a :: r => decide (a = kText) || (decide ((takesT a).1 = r.length + 1) && decide ((takesT a).1 ≠ 0) && (!(takesT a).2 || may (r.headD [])))
def cmdW (s : TT) : CmdE := match wordsT s with
  | [] => ⟨[], []⟩
  | a :: r => if a = kText then ⟨[a], behindT s⟩ else ⟨a :: r, []⟩
theorem readC_eq (may : TT → Bool) (s : TT) : readC may s = bif passedW (wordsT s) then some none else bif okW may (wordsT s) then some (some (cmdW s)) else none := by
  unfold readC cmdW
  cases hw : wordsT s with
  | nil => rfl
  | cons a r =>
    simp only
    by_cases h1 : a.head? = some 35
    · rw [if_pos h1, show passedW (a :: r) = true by simp [passedW, h1], cond_true]
    · rw [if_neg h1, show passedW (a :: r) = false by simpa [passedW] using h1, cond_false]
      by_cases h2 : a = kText
      · rw [if_pos h2, if_pos h2, show okW may (a :: r) = true by simp [okW, h2], cond_true]
      · rw [if_neg h2, if_neg h2]
        by_cases h3 : (takesT a).1 ≠ r.length + 1 ∨ (takesT a).1 = 0 ∨ ((takesT a).2 = true ∧ may (r.headD []) = false)
        · have : okW may (a :: r) = false := by
            cases hok : okW may (a :: r) with
            | false => rfl
            | true =>
              simp only [okW, Bool.and_eq_true, decide_eq_true_eq, Bool.or_eq_true, Bool.not_eq_true'] at hok
              rcases hok with hok | hok
              · exact absurd hok h2
              · rcases h3 with h3 | h3 | h3
                · exact absurd hok.1.1 h3
                · exact absurd h3 hok.1.2
                · rcases hok.2 with e | e
                  · rw [h3.1] at e; cases e
                  · rw [h3.2] at e; cases e
          rw [if_pos h3, this, cond_false]
        · have : okW may (a :: r) = true := by
            rw [not_or, not_or] at h3
            obtain ⟨k1, k2, k3⟩ := h3
            simp only [okW, Bool.and_eq_true, decide_eq_true_eq, Bool.or_eq_true, Bool.not_eq_true']
            refine .inr ⟨⟨by simpa using k1, k2⟩, ?_⟩
            cases hb : (takesT a).2 with
            | false => exact .inl rfl
            | true =>
              right
              cases hm : may (r.headD []) with
              | true => rfl
              | false => exact absurd ⟨hb, hm⟩ k3
          rw [if_neg h3, this, cond_true]
def cmdsOf (may : TT → Bool) : List TT → List CmdE
  | [] => []
  | s :: l => match readC may s with
    | some (some c) => c :: cmdsOf may l
    | _ => cmdsOf may l
/-- the first line that is no command's: its number -/
def badL (may : TT → Bool) : List TT → Nat → Nat × Nat
  | [], _ => (0, 0)
  | s :: l, i => match readC may s with
    | none => (3, i + 1)
    | some _ => badL may l (i + 1)
theorem cmdsL_eq (may : TT → Bool) : ∀ (l : List TT) (i : Nat) (out : List CmdE), cmdsL may l i out = (if (badL may l i).1 = 0 then out ++ cmdsOf may l else [], (badL may l i).1, (badL may l i).2)
  | [], i, out => by simp [cmdsL, badL, cmdsOf]
  | s :: l, i, out => by
    cases h : readC may s with
    | none => simp [cmdsL, badL, h]
    | some o =>
      cases o with
      | none => simp [cmdsL, badL, cmdsOf, h, cmdsL_eq may l (i + 1) out]
      | some c => simp [cmdsL, badL, cmdsOf, h, cmdsL_eq may l (i + 1) (out ++ [c])]
def checkT (may : TT → Bool) (text : TT) : Nat × Nat := if 65536 < text.length ∨ 400 < (linesT text).length then (6, 0) else badL may (linesT text) 0
theorem cmdsT_eq (may : TT → Bool) (text : TT) : cmdsT may text = (if (checkT may text).1 = 0 then cmdsOf may (linesT text) else [], (checkT may text).1, (checkT may text).2) := by
  unfold cmdsT checkT
  split
  · rfl
  · rw [cmdsL_eq]
    simp
theorem cmdsOf_append (may : TT → Bool) : ∀ (a b : List TT), cmdsOf may (a ++ b) = cmdsOf may a ++ cmdsOf may b
  | [], b => rfl
  | s :: a, b => by
    rw [List.cons_append, cmdsOf, cmdsOf]
    split <;> simp [cmdsOf_append may a b]
theorem cmdsOf_len (may : TT → Bool) : ∀ l : List TT, (cmdsOf may l).length ≤ l.length
  | [] => Nat.le_refl _
  | s :: l => by
    have := cmdsOf_len may l
    rw [cmdsOf]
    split <;> simp <;> omega
theorem cmdsOf_mem {may : TT → Bool} {c : CmdE} : ∀ {l : List TT}, c ∈ cmdsOf may l → ∃ s ∈ l, readC may s = some (some c)
  | [], h => by cases h
  | s :: l, h => by
    rw [cmdsOf] at h
    split at h
    · rename_i c' hc
      rcases List.mem_cons.1 h with rfl | h
      · exact ⟨s, by simp, hc⟩
      · obtain ⟨t, ht, e⟩ := cmdsOf_mem h
        exact ⟨t, by simp [ht], e⟩
    · obtain ⟨t, ht, e⟩ := cmdsOf_mem h
      exact ⟨t, by simp [ht], e⟩
theorem takes_named {a : TT} (h : (takesT a).1 ≠ 0) : a ∈ [kRead, kTry, kWrite, kScan, kEnv, kKeep, kNeed, kSort, kUniq, kUpper, kCount, kFail, kText] := by
  unfold takesT at h
  simp only [List.mem_cons, List.not_mem_nil, or_false]
  split at h
  · rename_i h1; rcases h1 with h1 | h1 | h1 <;> simp [h1]
  · split at h
    · rename_i h1; simp [h1]
    · split at h
      · rename_i h1; rcases h1 with h1 | h1 | h1 <;> simp [h1]
      · split at h
        · rename_i h1; rcases h1 with h1 | h1 | h1 | h1 | h1 <;> simp [h1]
        · simp at h
theorem behindT_len (s : TT) : (behindT s).length ≤ s.length := by
  unfold behindT
  rw [List.length_drop]
  have h1 := (List.dropWhile_sublist (fun c => !isB c) (l := s.dropWhile isB)).length_le
  have h2 := (List.dropWhile_sublist isB (l := s)).length_le
  omega
theorem readC_ok {may : TT → Bool} {s : TT} {c : CmdE} (h : readC may s = some (some c)) (hs : s.length ≤ 100000) : Named c ∧ CmdOk c := by
  rw [readC_eq] at h
  cases hp : passedW (wordsT s) with
  | true => rw [hp, cond_true] at h; cases h
  | false =>
    cases hok : okW may (wordsT s) with
    | true =>
      rw [hp, cond_false, hok, cond_true] at h
      injection h with h
      injection h with h
      subst h
      have hm : ∀ x ∈ wordsT s, x.length ≤ 1000000 := fun x hx => by have := (wordsT_mem hx).2.2; omega
      have hl := wordsT_len s
      unfold cmdW
      cases hw : wordsT s with
      | nil => rw [hw] at hok; cases hok
      | cons a r =>
        rw [hw] at hm hok hl
        simp only [okW, Bool.or_eq_true, Bool.and_eq_true, decide_eq_true_eq] at hok
        by_cases ht : a = kText
        · have := behindT_len s
          simp only [ht, if_true]
          refine ⟨by simp [Named], by simp, by simp, fun x hx => ?_, by simp only; omega⟩
          simp at hx
          subst hx
          simp
        · simp only [ht, if_false]
          refine ⟨?_, by simp, by simp only; omega, hm, by simp⟩
          rcases hok with hok | hok
          · exact absurd hok ht
          · exact takes_named hok.1.2
    | false => rw [hp, cond_false, hok, cond_false] at h; cases h
theorem cmds_ok {may : TT → Bool} {text : TT} (h : text.length ≤ 100000) : ∀ c ∈ cmdsOf may (linesT text), Named c ∧ CmdOk c := fun c hc => by
  obtain ⟨s, hs, e⟩ := cmdsOf_mem hc
  exact readC_ok e (Nat.le_trans (linesT_le hs) h)
end Go.Proofs.YtjjpecggcjggpaaGreatDoor
/- What a tool did, as a list: how much it is, and what it hangs on. Plain: no program is named. -/
namespace Go.Proofs.YtjjpecggcjggpaaGreatDoor
open Go.Lib
variable {v : Env} {O O' : TT → Option KE}
def readsOf (E : List DE) : List TT := (E.filter fun d => d.kind == 1).map (·.path)
theorem readsOf_append (a b : List DE) : readsOf (a ++ b) = readsOf a ++ readsOf b := by rw [readsOf, readsOf, readsOf, List.filter_append, List.map_append]
def TaskE.isCmd : TaskE → Bool
  | .cmd _ => true
  | _ => false
def nCmd (l : List TaskE) : Nat := (l.filter TaskE.isCmd).length
structure Ev (N : Nat) (s : PS) (E : List DE) : Prop where
  reads : readsOf E = s.known.map (·.1)
  writes : (writesOf E).length + nCmd s.todo + (if s.over.kind = 2 then 1 else 0) ≤ N
  kinds : ∀ d ∈ E, d.kind = 1 ∨ d.kind = 2
  nodup : (s.known.map (·.1)).Nodup
theorem two_task (s : PS) (h : s.over = DE.none) (t : TaskE) (h2 : (s.task v t).over.kind = 2) : t.isCmd = true := by
  have hadd : ∀ (s : PS) t, s.over = DE.none → (s.add t).over.kind ≠ 2 := fun s t h => by
    unfold PS.add
    split
    · simp [PS.fail]
    · simp [h, DE.none]
  have hthen : ∀ (s : PS) th k, s.over = DE.none → (s.then_ th k).over.kind ≠ 2 := fun s th k h => by
    cases th <;> unfold PS.then_ <;> simp only <;> split
    · exact hadd s _ h
    · simp [PS.fail]
    · exact hadd s _ h
    · simp [h, DE.none]
    · simp [h, DE.none]
    · simp [PS.fail]
  have hask : ∀ (s : PS) p th, s.over = DE.none → (s.ask p th).over.kind ≠ 2 := fun s p th h => by
    unfold PS.ask
    split
    · exact hthen s _ _ h
    · split
      · simp [PS.fail]
      · simp [h, DE.none]
  cases t with
  | cmd c => rfl
  | ans p th => exact absurd h2 (hthen s _ _ h)
  | line x w =>
    refine absurd h2 ?_
    unfold PS.task PS.line
    simp only
    repeat' split
    all_goals first
      | exact hask { s with seen := _ } _ _ h
      | exact hadd s _ h
      | simp [h, DE.none]
theorem nCmd_lines (L : List TT) (w : TT) (r : List TaskE) : nCmd (L.map (TaskE.line · w) ++ r) = nCmd r := by
  unfold nCmd
  rw [List.filter_append]
  have : (L.map (TaskE.line · w)).filter TaskE.isCmd = [] := by
    rw [List.filter_eq_nil_iff]
    intro t ht
    obtain ⟨x, _, rfl⟩ := List.mem_map.1 ht
    simp [TaskE.isCmd]
  rw [this, List.nil_append]
theorem nCmd_cons (t : TaskE) (r : List TaskE) : nCmd (t :: r) = nCmd r + if t.isCmd = true then 1 else 0 := by
  unfold nCmd
  rw [List.filter_cons]
  split <;> rfl
theorem Ev.on_step {N : Nat} {s : PS} {E : List DE} (h : Ev N s E) (ho : Ord s) : Ev N (mstep v O (s, E)).1 (mstep v O (s, E)).2 := by
  by_cases h2 : s.over.kind = 2
  · have : mstep v O (s, E) = ({ s with over := DE.none }, E ++ [s.over]) := by unfold mstep; simp [h2]
    rw [this]
    refine ⟨?_, ?_, fun d hd => ?_, h.nodup⟩
    · rw [readsOf_append, h.reads]
      simp [readsOf, h2]
    · have := h.writes
      rw [if_pos h2] at this
      rw [writesOf_append]
      simp [writesOf, h2, DE.none] at this ⊢
      omega
    · rcases List.mem_append.1 hd with hd | hd
      · exact h.kinds d hd
      · rw [List.mem_singleton] at hd
        subst hd
        exact .inr h2
  · by_cases h0 : s.over.kind = 0
    · by_cases hw : s.waits = true
      · cases hk : O s.asks with
        | none =>
          have : mstep v O (s, E) = (s, E) := by unfold mstep; simp [h0, hw, hk]
          rw [this]
          exact h
        | some k =>
          have : mstep v O (s, E) = (s.give k, E ++ [⟨1, s.asks, [], 0⟩]) := by unfold mstep; simp [h0, hw, hk]
          rw [this]
          obtain ⟨w1, w2, w3⟩ := ho.waits hw
          refine ⟨?_, ?_, fun d hd => ?_, ?_⟩
          · rw [readsOf_append, h.reads]
            simp [readsOf, PS.give]
          · have := h.writes
            rw [writesOf_append]
            simp [writesOf, PS.give, h2] at this ⊢
            omega
          · rcases List.mem_append.1 hd with hd | hd
            · exact h.kinds d hd
            · rw [List.mem_singleton] at hd
              subst hd
              exact .inl rfl
          · show ((s.known ++ [(s.asks, k)]).map (·.1)).Nodup
            rw [List.map_append, List.nodup_append]
            refine ⟨h.nodup, by simp, fun a ha b hb => ?_⟩
            simp at hb
            subst hb
            intro e
            subst e
            have := getK_iff.2 ha
            rw [w2] at this
            cases this
      · have hn : ¬ s.Still := by unfold PS.Still; simp [h0, hw]
        rw [mstep_goes hn]
        have hz := over_zero ho.over h0
        cases ht : s.todo with
        | nil =>
          rw [step_nil hn ht]
          have := h.writes
          exact ⟨h.reads, by simpa [h2] using this, h.kinds, h.nodup⟩
        | cons t r =>
          rw [step_cons hn ht]
          obtain ⟨g1, g2⟩ := grows_task { s with todo := r } v t
          have hn2 : nCmd (PS.task v { s with todo := r } t).todo = nCmd r := by
            rcases g2 with ⟨L, w, e, _⟩ | ⟨p, th, e, _⟩
            · rw [e, nCmd_lines]
            · rw [e, nCmd_cons]; rfl
          refine ⟨by rw [h.reads, g1], ?_, h.kinds, by rw [g1]; exact h.nodup⟩
          have hwr := h.writes
          rw [ht, nCmd_cons, if_neg h2] at hwr
          simp only
          rw [hn2]
          by_cases hk2 : (PS.task v { s with todo := r } t).over.kind = 2
          · have := two_task (v := v) { s with todo := r } hz t hk2
            rw [this] at hwr
            simp at hwr
            rw [if_pos hk2]
            omega
          · rw [if_neg hk2]
            omega
    · have : mstep v O (s, E) = (s, E) := by unfold mstep; simp [h2, h0]
      rw [this]
      exact h
theorem Ev.on_run {N : Nat} (hO : ∀ p k, O p = some k → k.is = true → k.data.length ≤ 1000000) : ∀ (n : Nat) {m : MS}, Ev N m.1 m.2 → Ord m.1 → Ev N (mrun v O n m).1 (mrun v O n m).2
  | 0, _, h, _ => h
  | n + 1, (_, _), h, ho => Ev.on_run hO n (h.on_step ho) (ho.mstep hO)
theorem ev_start (l : List CmdE) : Ev l.length (PS.start l) [] := by
  refine ⟨rfl, ?_, fun d hd => (by cases hd), by simp [PS.start]⟩
  have : ∀ l : List CmdE, nCmd (l.map .cmd) = l.length := by
    intro l
    induction l with
    | nil => rfl
    | cons c l ih => rw [List.map_cons, nCmd_cons, ih]; rfl
  simp [writesOf, PS.start, DE.none, this]
theorem Ev.len {N : Nat} {s : PS} {E : List DE} (h : Ev N s E) (hl : Lim s) : E.length ≤ N + 500 := by
  have hs : ∀ L : List DE, (∀ d ∈ L, d.kind = 1 ∨ d.kind = 2) → L.length = (readsOf L).length + (writesOf L).length := by
    intro L
    induction L with
    | nil => intro _; rfl
    | cons d L ih =>
      intro hk
      have ih := ih fun x hx => hk x (by simp [hx])
      unfold readsOf writesOf at ih ⊢
      rw [List.filter_cons, List.filter_cons]
      rcases hk d (by simp) with e | e
      · simp [e] at ih ⊢
        omega
      · simp [e] at ih ⊢
        omega
  have h1 := hs E h.kinds
  have h2 := h.writes
  have h3 := hl.less
  rw [h.reads, List.length_map] at h1
  omega
/-- where the answers to what was asked for are alike, the way is the same -/
theorem mrun_alike (hf : ∀ p, ∃ k, O p = some k) : ∀ (n : Nat) (m : MS), (∀ p ∈ readsOf (mrun v O n m).2, O' p = O p) → mrun v O' n m = mrun v O n m
  | 0, _, _ => rfl
  | n + 1, m, h => by
    have he : mstep v O' m = mstep v O m := by
      unfold mstep
      by_cases h2 : m.1.over.kind = 2
      · rw [if_pos h2, if_pos h2]
      · rw [if_neg h2, if_neg h2]
        by_cases h0 : m.1.over.kind ≠ 0
        · rw [if_pos h0, if_pos h0]
        · rw [if_neg h0, if_neg h0]
          by_cases hw : m.1.waits = true
          · rw [if_pos hw, if_pos hw]
            have : O' m.1.asks = O m.1.asks := by
              refine h _ ?_
              obtain ⟨k, hk⟩ := hf m.1.asks
              have hs : mstep v O m = (m.1.give k, m.2 ++ [⟨1, m.1.asks, [], 0⟩]) := by
                unfold mstep
                rw [if_neg h2, if_neg h0, if_pos hw, hk]
              obtain ⟨F, hF⟩ := mrun_prefix (v := v) (O := O) n (mstep v O m)
              rw [mrun, hF, hs, readsOf_append, readsOf_append]
              simp [readsOf]
            rw [this]
          · rw [if_neg hw, if_neg hw]
    rw [mrun, mrun, he]
    rw [mrun] at h
    exact mrun_alike hf n _ h
end Go.Proofs.YtjjpecggcjggpaaGreatDoor
/- A block of cells of the call's own, by the list of its cells. Nothing of the program is named. -/
namespace Go.Proofs.YtjjpecggcjggpaaGreatDoor
open Go.RowKit
/-- block g of w is the row of cells cs, none of them frozen -/
def Box (w : World) (g : Nat) (cs : List Value) : Prop := ∃ t, w.heap[g]? = some (.cells cs.toArray t (0, 0))
section
variable {w w' : World} {g : Nat} {cs : List Value}
theorem Box.cells (h : Box w g cs) (i : Nat) : w.cell? ⟨g, i, none⟩ = cs[i]? := by
  obtain ⟨t, h⟩ := h
  rw [cell_of_row w g i _ t _ h]
  simp
theorem Box.free (h : Box w g cs) (i : Nat) : w.frozen? ⟨g, i, none⟩ = false := by
  obtain ⟨t, h⟩ := h
  exact frozen_of_row w g i _ t h
theorem Box.lt (h : Box w g cs) : g < w.heap.size := by
  obtain ⟨t, h⟩ := h
  exact heap_lt h
theorem Box.keep (h : Box w g cs) (hk : w'.heap[g]? = w.heap[g]?) : Box w' g cs := by
  obtain ⟨t, h⟩ := h
  exact ⟨t, hk.trans h⟩
theorem Box.below {B : Nat} (h : Box w g cs) (hb : Below B w w') (hg : g < B) : Box w' g cs := h.keep (hb.block _ hg)
theorem Box.below_all (h : Box w g cs) (hb : Below w.heap.size w w') : Box w' g cs := h.below hb h.lt
theorem Box.alloc (h : Box w g cs) (o : Obj) : Box (w.alloc o) g cs := h.keep (Below.heap_alloc w o _ h.lt)
theorem Box.drew (h : Box w g cs) : Box w.drew g cs := h
theorem Box.drewN (h : Box w g cs) (n : Nat) : Box (w.drewN n) g cs := h
theorem Box.other (h : Box w g cs) {p : Addr} (hp : g ≠ p.block) (v : Value) : Box (w.setCell p v) g cs := h.keep (Below.heap_setCell w p v g hp)
theorem Box.set (h : Box w g cs) (i : Nat) (v : Value) : Box (w.setCell ⟨g, i, none⟩ v) g (cs.set i v) := by
  obtain ⟨t, h⟩ := h
  refine ⟨t, ?_⟩
  rw [setCell_eq_setRow w g i _ t _ _ h, setRow_heap w g _ _ t _ h]
  simp
theorem Box.new (w : World) (cs : List Value) (t : TypeId) : Box (w.alloc (.cells cs.toArray t)) w.heap.size cs := ⟨t, heap_alloc_new w _⟩
theorem Box.new' (w : World) (cs : List Value) (t : TypeId) {g : Nat} (hg : w.heap.size = g) : Box (w.alloc (.cells cs.toArray t)) g cs := by
  subst hg
  exact Box.new w cs t
theorem Box.grown {row : Option Nat} (h : Box w g cs) (hg : w.grownBy w' row) (hr : some g ≠ row) : Box w' g cs := h.keep (hg.block g h.lt hr)
end
end Go.Proofs.YtjjpecggcjggpaaGreatDoor
/- The tool's words and lines: contracts of what it leans on, laid at this program. -/
namespace Go.Proofs.YtjjpecggcjggpaaGreatDoor
open Go.RowKit Go.Shelf Go.Sort
set_option maxRecDepth 100000
/-- the world has that variable of the library's -/
def MaxL (w : World) : Prop := ∃ m, w.cell? ⟨1, 0, none⟩ = some (.int .i64 m)
theorem MaxL.on {w w' : World} (h : MaxL w) (hb : Below w.heap.size w w') : MaxL w' := by
  obtain ⟨m, hm⟩ := h
  exact ⟨m, (hb.cell (World.block_lt_of_cell? w _ hm)).trans hm⟩
theorem own_of_row {w : World} {base : Nat} {e : TypeId} {sz : Nat} {v : Value} {n : Nat} {xs : List Value} (h : w.ownsRow base e sz v n xs) : ∃ A c, v = .slice A n c ∧ Own w base e sz A n c xs := by
  obtain ⟨hl, ⟨rfl, rfl⟩ | ⟨g, cap, cur, rfl, hb, hg, hn, hm, hc, hx⟩⟩ := h
  · have : xs = [] := List.eq_nil_of_length_eq_zero (by simpa using hl)
    subst this
    exact ⟨none, 0, rfl, Own.nil _ _ _ _⟩
  · refine ⟨some ⟨g, 0, none⟩, cap, rfl, hl, hn, hm, .inr ⟨g, 0, cur, (0, 0), rfl, hb, hg, .inl rfl, by omega, fun j hj => ?_⟩⟩
    rw [Nat.zero_add, ← hx, List.getElem?_take, if_pos hj]; simp
theorem blank_any (w : World) (x : Nat) : Calls Tryz.prog 112 #[.int .i32 x] w fun e w' => e = .returned (.bool (isR x)) ∧ Below w.heap.size w w' := by
  have h1 : isR x = (decide (x = 32) || decide (x = 9)) := by
    unfold isR
    rw [Bool.eq_iff_iff]
    simp
  rw [h1]
  go_enter Tryz.func112, Tryz.ntmps112
  go_wp2
  all_goals go_ret
  · rename_i h
    obtain rfl : x = 32 := by omega
    exact ⟨rfl, Below.refl _ _⟩
  · refine ⟨?_, Below.refl _ _⟩
    show Ending.returned (Value.bool ((x : Int) == 32 || (x : Int) == 9)) = _
    have e1 : ((x : Int) == 32) = decide (x = 32) := by rw [Bool.eq_iff_iff]; simp; omega
    have e2 : ((x : Int) == 9) = decide (x = 9) := by rw [Bool.eq_iff_iff]; simp; omega
    rw [e1, e2]
theorem blank_pays (w : World) : PredGrows Tryz.prog 112 #[] isR w := fun W x _ _ => blank_any W x
theorem info_span : (Tryz.prog.info? (Tryz.tlFields_ren.t 154)).map (fun i => (i.zero, i.size, i.bytes)) = some (some (.agg #[.int .i64 0, .int .i64 0]), 2, 16) := by kernel_rfl
theorem info_str9 : (Tryz.prog.info? (Tryz.tlFields_ren.t 9)).map (fun i => (i.zero, i.size, i.bytes)) = some (some (.string ⟨#[]⟩), 1, 16) := by kernel_rfl
theorem fields_any (w : World) (s : TT) (hs : s.length ≤ 1000000000) :
    Calls Tryz.prog 111 #[.string (strB s), .func (.func 112) #[] #[]] w fun e w' => ∃ A c, e = .returned (.slice A (wordsT s).length c) ∧ Own w' w.heap.size 9 1 A (wordsT s).length c (strV (wordsT s)) ∧ Below w.heap.size w w' := by
  have h := Any.strings_FieldsFunc_grows Tryz.tlFields 112 #[] (enters_of Tryz.func112 (by kernel_rfl) rfl) isR (strB s) w (by rw [strB_size]; omega) (blank_pays w) info_span info_str9
  have hw := fields_words (strB s)
  rw [strB_list] at hw
  have hl : (Lib.goFieldsP isR (strB s)).length = (wordsT s).length := by rw [← hw, List.length_map]
  have hv : (Lib.goFieldsP isR (strB s)).map Value.string = strV (wordsT s) := by
    rw [← hw, strV, List.map_map]
    exact List.map_congr_left fun x _ => by simp only [Function.comp_apply, strB_of]
  rw [hl, hv] at h
  refine h.mono ?_
  rintro e w' ⟨A, rfl, _, ho, hb⟩
  obtain ⟨A2, c2, e2, ho2⟩ := own_of_row ho
  cases e2
  exact ⟨_, _, rfl, ho2, hb⟩
theorem words_any (w : World) (s : TT) (hs : s.length ≤ 1000000000) :
    Calls Tryz.prog 84 #[.string (strB s)] w fun e w' => ∃ A c, e = .returned (.slice A (wordsT s).length c) ∧ Own w' w.heap.size 9 1 A (wordsT s).length c (strV (wordsT s)) ∧ Below w.heap.size w w' := by
  have h := fields_any w s hs
  obtain ⟨S, hS⟩ : ∃ S, S = strB s := ⟨_, rfl⟩
  obtain ⟨L, hL⟩ : ∃ L, L = wordsT s := ⟨_, rfl⟩
  rw [← hS, ← hL] at h ⊢
  have H := hid2 h
  clear h hS hL
  go_enter Tryz.func84, Tryz.ntmps84
  go_wp2_with (go_at_call 111; refine H.out.mono ?_; rintro e w1 ⟨A, c, rfl, ho, hb⟩; have HO := hid2 ho; have HB := hid2 hb; clear ho hb)
  go_ret
  exact ⟨A, c, rfl, HO.out, HB.out⟩
theorem trim_eq (s : TT) : Lib.trimSuffix s [10] = if s.getLast? = some 10 then s.dropLast else s := by
  unfold Lib.trimSuffix Lib.hasSuffix
  rcases List.eq_nil_or_concat s with rfl | ⟨b, x, rfl⟩
  · rfl
  · rw [List.concat_eq_append, List.getLast?_concat, List.dropLast_concat]
    have h1 : List.isSuffixOf [10] (b ++ [x]) = (10 == x) := by
      simp [List.isSuffixOf, List.isPrefixOf]
    rw [h1]
    by_cases hx : x = 10
    · subst hx
      simp
    · have : ((10 : UInt8) == x) = false := by simpa using Ne.symm hx
      rw [this, if_neg (by simp), if_neg (by simpa using hx)]
theorem split_any (w : World) (s : TT) (hl : s.length ≤ 1000000000) (hM : MaxL w) :
    Calls Tryz.prog 47 #[.string (strB s), .string ⟨#[10]⟩] w fun e w' => ∃ A c, e = .returned (.slice A (segs (· == 10) s).length c) ∧ Own w' w.heap.size 9 1 A (segs (· == 10) s).length c (strV (segs (· == 10) s)) ∧ Below w.heap.size w w' := by
  obtain ⟨m, hm⟩ := hM
  have h := Any.strings_Split { Tryz.tlSplit with } (by kernel_rfl) (strB s) (strB [10]) m w (by rw [strB_size]; omega) hm (by decide)
  obtain ⟨h1, h2⟩ := split_join 10 (segs (· == 10) s) (segs_ne _ s) (segs_no_c 10 s)
  rw [join_segs] at h1 h2
  have hp : 0 < (segs (· == 10) s).length := List.length_pos_iff.2 (segs_ne _ s)
  have hlen := segs_len (· == 10) s
  rw [h1, h2, show (segs (· == 10) s).length - 1 + 1 = (segs (· == 10) s).length by omega] at h
  refine h.mono ?_
  rintro e w' ⟨rfl, rfl⟩
  have e1 : ((segs (· == 10) s).map strB).map Value.string = strV (segs (· == 10) s) := by rw [strV, List.map_map]; rfl
  rw [e1]
  have ho := Own.lit w (strV (segs (· == 10) s)).toArray 9 1 (segs (· == 10) s).length w.heap.size (Nat.le_refl _) (by unfold maxLen; omega) (by rw [List.size_toArray, strV_length]; omega)
  exact ⟨_, _, rfl, ho, (Below.refl _ _).alloc (Nat.le_refl _) _⟩
theorem lines_any (w : World) (s : TT) (hl : s.length ≤ 1000000000) (hM : MaxL w) :
    Calls Tryz.prog 66 #[.string (strB s)] w fun e w' => ∃ A c, e = .returned (.slice A (linesT s).length c) ∧ Own w' w.heap.size 9 1 A (linesT s).length c (strV (linesT s)) ∧ Below w.heap.size w w' := by
  by_cases h0 : s = []
  · subst h0
    rw [show strB [] = ⟨#[]⟩ from rfl, linesT_nil]
    go_enter Tryz.func66, Tryz.ntmps66
    go_wp2
    go_ret
    exact ⟨none, 0, rfl, Own.nil _ _ _ _, Below.refl _ _⟩
  · obtain ⟨t, ht⟩ : ∃ t, t = if s.getLast? = some 10 then s.dropLast else s := ⟨_, rfl⟩
    have hlt : linesT s = segs (· == 10) t := by
      rw [linesT, if_neg h0, ht]
      split <;> rfl
    have htl : t.length ≤ 1000000000 := by
      rw [ht]
      split
      · rw [List.length_dropLast]; omega
      · exact hl
    have c1 := Any.strings_TrimSuffix Tryz.tlTrim (strB s) (strB [10]) w (by rw [strB_size]; omega)
    rw [strB_list, strB_list, trim_eq, ← ht] at c1
    have c1' : Calls Tryz.prog 83 #[.string (strB s), .string ⟨#[10]⟩] w fun e w' => e = .returned (.string (strB t)) ∧ w' = w := c1
    have c2 := split_any w t htl hM
    have hne : (strB s).toList.isEmpty = false := by
      rw [ByteArray.toList_eq, strB_list]
      simpa using h0
    rw [hlt]
    obtain ⟨S, hS⟩ : ∃ S, S = strB s := ⟨_, rfl⟩
    obtain ⟨T, hT⟩ : ∃ T, T = strB t := ⟨_, rfl⟩
    obtain ⟨L, hL⟩ : ∃ L, L = segs (· == 10) t := ⟨_, rfl⟩
    rw [← hS] at c1' hne ⊢
    rw [← hT] at c1' c2
    rw [← hL] at c2 ⊢
    have C1 := hid2 c1'
    have C2 := hid2 c2
    clear c1 c1' c2 hS hT hL hlt ht htl h0 hl hM
    go_enter Tryz.func66, Tryz.ntmps66
    go_wp2_with (first
      | (go_at_call 83; refine C1.out.mono ?_; rintro e w1 ⟨rfl, rfl⟩)
      | (go_at_call 47; refine C2.out.mono ?_; rintro e w2 ⟨A, c, rfl, ho, hb⟩; have HO := hid2 ho; have HB := hid2 hb; clear ho hb))
    go_ret
    exact ⟨A, c, rfl, HO.out, HB.out⟩
end Go.Proofs.YtjjpecggcjggpaaGreatDoor
/- The walks of globs.May, path.Under and the closures. -/
namespace Go.Proofs.YtjjpecggcjggpaaGreatDoor
open Go.RowKit Go.Shelf
set_option maxRecDepth 100000
theorem kmay_of {v : Bool} (w : World) (s : ByteArray) (l : List UInt8) (hs : s.size ≤ 1000000) (hl : s.data.toList = l) (h : mayB l = v) : Calls Tryz.prog 23 #[.string s] w fun e w' => e = .returned (.bool v) ∧ Below w.heap.size w w' := by
  have := may_any w s hs
  rw [hl, h] at this
  exact this
theorem kunder_any (w : World) (s d : ByteArray) (hs : s.size ≤ 900000) (hd : d.size ≤ 900000) : Calls Tryz.prog 21 #[.string s, .string d] w fun e w' => e = .returned (.bool (underB s.data.toList d.data.toList)) ∧ Below w.heap.size w w' := by
  have hd0 : (d.size : Int) ≤ 900000 := by omega
  have hsl := hid2 (ByteArray.toList_eq s)
  have hdl := hid2 (ByteArray.toList_eq d)
  by_cases hm : mayB s.data.toList = true
  · have hmc := fun w => kmay_of w s _ (by omega) rfl hm
    by_cases h0 : d.toList = []
    · have hr : underB s.data.toList d.data.toList = true := by rw [← hdl.out, h0]; exact underB_nil hm
      rw [hr]
      clear hr hm
      go_enter Tryz.func21, Tryz.ntmps21
      go_wp2_with (go_at_call 23; refine (hmc _).mono ?_; rintro e w2 ⟨rfl, hb⟩)
      go_ret
      exact ⟨rfl, hb⟩
    · have he : d.toList.isEmpty = false := by cases h : d.toList <;> simp_all
      have he2 : d.data.toList.isEmpty = false := by rw [← hdl.out]; exact he
      by_cases hmd : mayB d.data.toList = true
      · have hmdc := fun w => kmay_of w d _ (by omega) rfl hmd
        obtain ⟨D, hD⟩ : ∃ D, D = d ++ ⟨#[47]⟩ := ⟨_, rfl⟩
        have hDl : D.data.toList = d.data.toList ++ [47] := by rw [hD, string_append_toList]
        have hDs : D.size = d.size + 1 := by rw [← toList_length, hDl]; simp
        obtain ⟨v, hv⟩ : ∃ v, v = (d.data.toList ++ [47]).isPrefixOf s.data.toList := ⟨_, rfl⟩
        have hhc := fun w => khas_any w s D v (by omega) (by omega) (by rw [hDl, hv])
        have hr : underB s.data.toList d.data.toList = v := by rw [underB, hm, he2, hmd, hv]; simp
        rw [hr]
        have hadd : ¬ (d.size + (⟨#[47]⟩ : ByteArray).size > 9223372036854775807) := by show ¬ (d.size + 1 > _); omega
        have hD' := hD.symm
        clear hr hm hmd hDl hDs hv h0 he2 hD
        go_enter Tryz.func21, Tryz.ntmps21
        go_wp2_with (first
          | (go_at_call 23; (with_reducible refine (hmc _).mono ?_); rintro e w2 ⟨rfl, hb⟩; have hb2 := hb; clear hb)
          | (go_at_call 23; (with_reducible refine (hmdc _).mono ?_); rintro e w3 ⟨rfl, hb3⟩)
          | (go_at_call 44; refine (hhc _).mono ?_; rintro e w4 ⟨rfl, rfl⟩))
        go_ret
        exact ⟨rfl, hb2.trans (hb3.mono hb2.size)⟩
      · have hmd' : mayB d.data.toList = false := by simpa using hmd
        have hmdc := fun w => kmay_of w d _ (by omega) rfl hmd'
        have hr : underB s.data.toList d.data.toList = false := by rw [underB, he2, hmd']; simp
        rw [hr]
        clear hr hm hmd hmd' h0 he2
        go_enter Tryz.func21, Tryz.ntmps21
        go_wp2_with (first
          | (go_at_call 23; (with_reducible refine (hmc _).mono ?_); rintro e w2 ⟨rfl, hb⟩; have hb2 := hb; clear hb)
          | (go_at_call 23; (with_reducible refine (hmdc _).mono ?_); rintro e w3 ⟨rfl, hb3⟩))
        go_ret
        exact ⟨rfl, hb2.trans (hb3.mono hb2.size)⟩
  · have hm' : mayB s.data.toList = false := by simpa using hm
    have hmc := fun w => kmay_of w s _ (by omega) rfl hm'
    rw [underB_no hm']
    clear hm hm'
    go_enter Tryz.func21, Tryz.ntmps21
    go_wp2_with (go_at_call 23; refine (hmc _).mono ?_; rintro e w2 ⟨rfl, hb⟩)
    go_ret
    exact ⟨rfl, hb⟩
theorem ksplit_any (w : World) (s : Tx) (hl : s.length ≤ 1000000000) (hM : MaxL w) :
    Calls Tryz.prog 47 #[.string (strB s), .string ⟨#[47]⟩] w fun e w' => ∃ A c, e = .returned (.slice A (segs (· == 47) s).length c) ∧ Own w' w.heap.size 9 1 A (segs (· == 47) s).length c (strV (segs (· == 47) s)) ∧ Below w.heap.size w w' := by
  obtain ⟨m, hm⟩ := hM
  have h := Any.strings_Split { Tryz.tlSplit with } (by kernel_rfl) (strB s) (strB [47]) m w (by rw [strB_size]; omega) hm (by decide)
  obtain ⟨h1, h2⟩ := split_join 47 (segs (· == 47) s) (segs_ne _ s) (segs_no_c 47 s)
  rw [join_segs] at h1 h2
  have hp : 0 < (segs (· == 47) s).length := List.length_pos_iff.2 (segs_ne _ s)
  have hlen := segs_len (· == 47) s
  rw [h1, h2, show (segs (· == 47) s).length - 1 + 1 = (segs (· == 47) s).length by omega] at h
  refine h.mono ?_
  rintro e w' ⟨rfl, rfl⟩
  have e1 : ((segs (· == 47) s).map strB).map Value.string = strV (segs (· == 47) s) := by rw [strV, List.map_map]; rfl
  rw [e1]
  have ho := Own.lit w (strV (segs (· == 47) s)).toArray 9 1 (segs (· == 47) s).length w.heap.size (Nat.le_refl _) (by unfold maxLen; omega) (by rw [List.size_toArray, strV_length]; omega)
  exact ⟨_, _, rfl, ho, (Below.refl _ _).alloc (Nat.le_refl _) _⟩
theorem gmaycl_any (w : World) (s : Tx) (hs : s.length ≤ 100000) : Calls Tryz.prog 48 #[.string (strB s)] w fun e w' => e = .returned (.bool (!partG s)) ∧ Below w.heap.size w w' := by
  have h := gpart_any w s hs
  obtain ⟨S, hS⟩ : ∃ S, S = strB s := ⟨_, rfl⟩
  obtain ⟨v, hv⟩ : ∃ v, v = partG s := ⟨_, rfl⟩
  rw [← hS, ← hv] at h
  rw [← hS, ← hv]
  clear hS hv
  go_enter Tryz.func48, Tryz.ntmps48
  go_wp2_with (go_at_call 49; refine h.mono ?_; rintro e w2 ⟨rfl, hb⟩)
  go_ret
  exact ⟨rfl, hb⟩
theorem gmay_any (w : World) (s : Tx) (hs : s.length ≤ 900) (hM : MaxL w) : Calls Tryz.prog 25 #[.string (strB s)] w fun e w' => e = .returned (.bool (mayG s)) ∧ Below w.heap.size w w' := by
  have h1 := ksplit_any w s (by omega) hM
  have hlen := segs_len (· == 47) s
  have hle : ∀ x ∈ segs (· == 47) s, x.length ≤ 100000 := fun x hx => by have := segs_le (· == 47) hx; omega
  have HG := hid2 (show mayG s = (decide ((segs (· == 47) s).length ≤ 16) && !((segs (· == 47) s).any fun x => !partG x)) from rfl)
  obtain ⟨ps, hps⟩ : ∃ ps, ps = segs (· == 47) s := ⟨_, rfl⟩
  rw [← hps] at h1 hlen hle HG
  obtain ⟨n, hn⟩ : ∃ n, n = ps.length := ⟨_, rfl⟩
  have h2 := fun (W : World) (A : Option Addr) (c : Nat) (h : Own W w.heap.size 9 1 A ps.length c (strV ps)) => kpcontains_any W A c ps h.rd (by omega) 48 #[] (enters_of Tryz.func48 (by kernel_rfl) rfl) (fun x => !partG x) fun W2 _ x hx => gmaycl_any W2 x (hle x hx)
  obtain ⟨S, hS⟩ : ∃ S, S = strB s := ⟨_, rfl⟩
  obtain ⟨R, hR⟩ : ∃ R, R = mayG s := ⟨_, rfl⟩
  obtain ⟨v, hv⟩ : ∃ v, v = ps.any fun x => !partG x := ⟨_, rfl⟩
  rw [← hR, ← hn, ← hv] at HG
  rw [← hS, ← hn] at h1
  rw [← hn, ← hv] at h2
  rw [← hS, ← hR]
  have H1 := hid2 h1
  have H2 := hid2 h2
  have hlim : (n : Int) ≤ 9223372036854775807 := by omega
  clear h1 h2 hlen hle hps hS hR hv hM hn
  by_cases h16 : n ≤ 16
  · have h16i : (n : Int) ≤ 16 := by omega
    have HG2 := hid2 (show R = !v by rw [HG.out]; simp [h16])
    go_enter Tryz.func25, Tryz.ntmps25
    go_wp2_with (first
      | (go_at_call 47; refine H1.out.mono ?_; rintro e w2 ⟨A, c, rfl, hown, hb⟩; have HB := hid2 hb; have HC := hid2 (H2.out w2 A c hown); clear hb hown)
      | (go_at_call 26; refine HC.out.mono ?_; rintro e w3 ⟨rfl, hb3⟩; have HB3 := hid2 hb3; clear hb3))
    go_ret
    exact ⟨by rw [HG2.out]; rfl, HB.out.trans (HB3.out.mono HB.out.size)⟩
  · have h16i : ¬ (n : Int) ≤ 16 := by omega
    have HG2 := hid2 (show R = false by rw [HG.out]; simp [h16])
    go_enter Tryz.func25, Tryz.ntmps25
    go_wp2_with (first
      | (go_at_call 47; refine H1.out.mono ?_; rintro e w2 ⟨A, c, rfl, hown, hb⟩; have HB := hid2 hb; clear hb hown))
    go_ret
    exact ⟨by rw [HG2.out]; rfl, HB.out⟩
theorem look1_any (w : World) (s : Tx) (hs : s.length ≤ 100000) : Calls Tryz.prog 20 #[.string (strB s)] w fun e w' => e = .returned (.bool (!underB s [111, 117, 116])) ∧ Below w.heap.size w w' := by
  have h := kunder_any w (strB s) ⟨#[111, 117, 116]⟩ (by rw [strB_size]; omega) (by decide)
  rw [strB_list] at h
  obtain ⟨S, hS⟩ : ∃ S, S = strB s := ⟨_, rfl⟩
  obtain ⟨v, hv⟩ : ∃ v, v = underB s [111, 117, 116] := ⟨_, rfl⟩
  rw [← hS, show underB s (⟨#[111, 117, 116]⟩ : ByteArray).data.toList = v from hv.symm] at h
  rw [← hS, ← hv]
  clear hS hv
  go_enter Tryz.func20, Tryz.ntmps20
  go_wp2_with (go_at_call 21; refine h.mono ?_; rintro e w2 ⟨rfl, hb⟩)
  go_ret
  exact ⟨rfl, hb⟩
theorem look2_any (w : World) (s : Tx) (hs : s.length ≤ 100000) : Calls Tryz.prog 22 #[.string (strB s)] w fun e w' => e = .returned (.bool (!mayB s)) ∧ Below w.heap.size w w' := by
  have h := kmay_of w (strB s) s (by rw [strB_size]; omega) (strB_list s) rfl
  obtain ⟨S, hS⟩ : ∃ S, S = strB s := ⟨_, rfl⟩
  obtain ⟨v, hv⟩ : ∃ v, v = mayB s := ⟨_, rfl⟩
  rw [← hS, ← hv] at h
  rw [← hS, ← hv]
  clear hS hv
  go_enter Tryz.func22, Tryz.ntmps22
  go_wp2_with (go_at_call 23; refine h.mono ?_; rintro e w2 ⟨rfl, hb⟩)
  go_ret
  exact ⟨rfl, hb⟩
theorem look3_any (w : World) (s : Tx) (hs : s.length ≤ 900) (hM : MaxL w) : Calls Tryz.prog 24 #[.string (strB s)] w fun e w' => e = .returned (.bool (!mayG s)) ∧ Below w.heap.size w w' := by
  have h := gmay_any w s hs hM
  obtain ⟨S, hS⟩ : ∃ S, S = strB s := ⟨_, rfl⟩
  obtain ⟨v, hv⟩ : ∃ v, v = mayG s := ⟨_, rfl⟩
  rw [← hS, ← hv] at h
  rw [← hS, ← hv]
  clear hS hv
  go_enter Tryz.func24, Tryz.ntmps24
  go_wp2_with (go_at_call 25; refine h.mono ?_; rintro e w2 ⟨rfl, hb⟩)
  go_ret
  exact ⟨rfl, hb⟩
theorem under_no {s : Tx} (h : underB s [111, 117, 116] = true) : s ≠ [] := by
  rintro rfl
  revert h
  decide
end Go.Proofs.YtjjpecggcjggpaaGreatDoor
/- The tool's commands: which words a line's command takes. -/
namespace Go.Proofs.YtjjpecggcjggpaaGreatDoor
open Go.RowKit
set_option maxRecDepth 100000
theorem toList_strBT (s : TT) : (strB s).toList = s := by rw [ByteArray.toList_eq, strB_list]
set_option maxHeartbeats 1000000 in
theorem takes_any (w : World) (s : TT) : Calls Tryz.prog 87 #[.string (strB s)] w fun e w' => e = .returned (.tuple #[.int .i64 (takesT s).1, .bool (takesT s).2]) ∧ w' = w := by
  have htn := toList_strBT s
  obtain ⟨S, hS⟩ : ∃ S, S = strB s := ⟨_, rfl⟩
  rw [← hS] at htn ⊢
  clear hS
  obtain ⟨r, hr⟩ : ∃ r, r = takesT s := ⟨_, rfl⟩
  have HR := hid2 hr
  rw [← hr]
  clear hr
  go_enter Tryz.func87, Tryz.ntmps87
  go_wp2
  all_goals go_ret2
  all_goals (rw [HR.out]; refine ⟨?_, rfl⟩)
  all_goals simp only [beq_iff_eq, beq_eq_false_iff_ne, ne_eq] at *
  all_goals first
    | contradiction
    | (simp [takesT, kRead, kTry, kWrite, kScan, kEnv, kKeep, kNeed, kSort, kUniq, kUpper, kCount, kFail, *]; done)
    | skip
end Go.Proofs.YtjjpecggcjggpaaGreatDoor
