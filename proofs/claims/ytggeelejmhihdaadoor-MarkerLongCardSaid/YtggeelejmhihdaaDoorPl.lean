/- The plain words of lines and marker: texts as lists of bytes; no program in sight. -/
import Derived.Laws.Strings
import Derived.Lib.Strings
import Derived.Lib.IndexLaws
namespace Go.Proofs.YtggeelejmhihdaaDoor.Pl

abbrev Str := List UInt8
/-- A list of bytes as a text. -/
abbrev B (l : Str) : ByteArray := ⟨l.toArray⟩

theorem B_of (s : ByteArray) : s = B s.data.toList := by
  cases s with | mk d => simp
theorem B_size (l : Str) : (B l).size = l.length := by simp [ByteArray.size]
theorem B_append (a b : Str) : B a ++ B b = B (a ++ b) := by
  apply ByteArray.ext; simp
theorem B_extract (a : Str) (i j : Nat) : (B a).extract i j = B ((a.drop i).take (j - i)) := by
  apply ByteArray.ext; simp
theorem B_toList (a : Str) : (B a).toList = a := by
  rw [ByteArray.toList_eq]
theorem take_end (s : Str) (k : Nat) : (s.drop k).take (s.length - k) = s.drop k := List.take_of_length_le (by simp)
theorem B_inj {a b : Str} (h : B a = B b) : a = b := by
  have := congrArg (fun x : ByteArray => x.data.toList) h
  simpa using this

/-! ### lines -/
/-- A text's lines, each with what ends it. -/
def splitL : Str → List Str
  | [] => []
  | c :: t => if c = 10 then [c] :: splitL t else match splitL t with
    | [] => [[c]]
    | l :: r => (c :: l) :: r

theorem splitL_flatten (s : Str) : (splitL s).flatten = s := by
  induction s with
  | nil => rfl
  | cons c t ih =>
    unfold splitL
    split
    · simp [ih]
    · split
      · rename_i h; rw [h] at ih; simp at ih; simp [← ih]
      · rename_i l r h; rw [h] at ih; simp at ih; simp [ih]

theorem splitL_ne (s : Str) : ∀ l ∈ splitL s, l ≠ [] := by
  induction s with
  | nil => simp [splitL]
  | cons c t ih =>
    unfold splitL
    split
    · intro l hl; simp at hl; rcases hl with rfl | hl
      · simp
      · exact ih l hl
    · split
      · intro l hl; simp at hl; subst hl; simp
      · rename_i l r h; intro x hx; simp at hx; rcases hx with rfl | hx
        · simp
        · exact ih x (by rw [h]; simp [hx])

theorem splitL_line (l t : Str) (h : (10 : UInt8) ∉ l) : splitL (l ++ 10 :: t) = (l ++ [10]) :: splitL t := by
  induction l with
  | nil => simp [splitL]
  | cons c l ih =>
    simp at h
    have hc : c ≠ 10 := fun e => h.1 e.symm
    simp [splitL, hc, ih h.2]

theorem splitL_last (l : Str) (h : (10 : UInt8) ∉ l) (h0 : l ≠ []) : splitL l = [l] := by
  induction l with
  | nil => exact absurd rfl h0
  | cons c l ih =>
    simp at h
    have hc : c ≠ 10 := fun e => h.1 e.symm
    by_cases e : l = []
    · subst e; simp [splitL, hc]
    · simp [splitL, hc, ih h.2 e]

/-- Is a text empty, or does its last line have an end? -/
def endedL (s : Str) : Bool := s.isEmpty || s.getLast? == some 10
/-- A text whose last line has an end. -/
def wholeL (s : Str) : Str := if endedL s then s else s ++ [10]

theorem endedL_suffix (s : Str) : (s.isEmpty || Lib.hasSuffix s [10]) = endedL s := by
  unfold endedL Lib.hasSuffix
  congr 1
  rw [Bool.eq_iff_iff, List.isSuffixOf_iff_suffix, beq_iff_eq]
  constructor
  · rintro ⟨t, rfl⟩; simp
  · intro h
    obtain ⟨t, rfl⟩ := List.getLast?_eq_some_iff.1 h
    exact ⟨t, rfl⟩

/-- Where the first newline is; below 0: nowhere. -/
def nlI (s : Str) : Int := Lib.indexByte s 10
theorem nlI_lo (s : Str) : -1 ≤ nlI s := by
  unfold nlI
  induction s with
  | nil => simp [Lib.indexByte]
  | cons c t ih => unfold Lib.indexByte; split <;> (try split) <;> omega
theorem nlI_none {s : Str} (h : nlI s = -1) : (10 : UInt8) ∉ s := by
  intro hm
  obtain ⟨k, hk, he⟩ := List.getElem_of_mem hm
  exact Lib.indexByte_none h k (by rw [List.getElem?_eq_getElem hk, he])
theorem nlI_some {s : Str} {o : Nat} (h : nlI s = o) : ∃ a t, s = a ++ 10 :: t ∧ a.length = o ∧ (10 : UInt8) ∉ a := by
  obtain ⟨h1, h2⟩ := Lib.indexByte_some h
  obtain ⟨hlt, he⟩ := List.getElem?_eq_some_iff.1 h1
  refine ⟨s.take o, s.drop (o + 1), ?_, by simp; omega, ?_⟩
  · rw [← he, List.getElem_cons_drop, List.take_append_drop]
  · intro hm
    obtain ⟨k, hk, hek⟩ := List.getElem_of_mem hm
    have hk' : k < o := by simp at hk; omega
    refine h2 k hk' ?_
    rw [List.getElem_take] at hek
    rw [List.getElem?_eq_getElem (by omega), hek]
theorem nlI_hi {s : Str} (h0 : s ≠ []) : nlI s < s.length := by
  have hl : 0 < s.length := List.length_pos_iff.2 h0
  by_cases h : nlI s < 0
  · omega
  · obtain ⟨o, ho⟩ := Int.eq_ofNat_of_zero_le (Int.not_lt.1 h)
    obtain ⟨a, t, rfl, hla, _⟩ := nlI_some ho
    rw [ho]; simp; omega
/-- How long the first line is. -/
def lineN (s : Str) : Nat := if nlI s = -1 then s.length else (nlI s + 1).toNat
theorem lineN_pos {s : Str} (h0 : s ≠ []) : 0 < lineN s := by
  have := nlI_lo s
  have hl : 0 < s.length := List.length_pos_iff.2 h0
  unfold lineN; split <;> omega
theorem lineN_le (s : Str) : lineN s ≤ s.length := by
  by_cases h0 : s = []
  · subst h0; simp [lineN, nlI, Lib.indexByte]
  · have := nlI_hi h0
    unfold lineN; split <;> omega
theorem splitL_first {s : Str} (h0 : s ≠ []) : splitL s = s.take (lineN s) :: splitL (s.drop (lineN s)) := by
  unfold lineN
  split
  · rename_i h
    rw [splitL_last s (nlI_none h) h0]; simp [splitL]
  · rename_i h
    have hlo := nlI_lo s
    obtain ⟨o, ho⟩ := Int.eq_ofNat_of_zero_le (a := nlI s) (by omega)
    obtain ⟨a, t, rfl, hla, hna⟩ := nlI_some ho
    have e : (nlI (a ++ 10 :: t) + 1).toNat = a.length + 1 := by rw [ho]; omega
    have e1 : (a ++ 10 :: t).take (a.length + 1) = a ++ [10] := by
      rw [show a ++ 10 :: t = (a ++ [10]) ++ t by simp, List.take_append_of_le_length (by simp), List.take_of_length_le (by simp)]
    have e2 : (a ++ 10 :: t).drop (a.length + 1) = t := by
      rw [show a ++ 10 :: t = (a ++ [10]) ++ t by simp, List.drop_append_of_le_length (by simp), List.drop_of_length_le (by simp)]; simp
    rw [e, e1, e2, splitL_line _ _ hna]

/-! ### marker -/
structure Part where
  clash : Bool
  o : Str
  a : Str
  b : Str
  deriving DecidableEq

def wOurs : Str := [111, 117, 114, 115]
def wBase : Str := [98, 97, 115, 101]
def wTheirs : Str := [116, 104, 101, 105, 114, 115]

/-- How many bytes of one kind a line begins with. -/
def runL (c : UInt8) (l : Str) : Nat := (l.takeWhile (· == c)).length
def lineMax (n : Nat) (l : Str) : Nat := max (max (max (max n (runL 60 l + 1)) (runL 124 l + 1)) (runL 61 l + 1)) (runL 62 l + 1)
def textMax (n : Nat) (t : Str) : Nat := (splitL t).foldl lineMax n
/-- How long marks are to be. -/
def lengthL (ts : List Str) : Nat := ts.foldl textMax 7

/-- .. behind the first k signs. -/
def lineMaxK (n : Nat) (l : Str) : Nat → Nat
  | 0 => n
  | 1 => max n (runL 60 l + 1)
  | 2 => max (max n (runL 60 l + 1)) (runL 124 l + 1)
  | 3 => max (max (max n (runL 60 l + 1)) (runL 124 l + 1)) (runL 61 l + 1)
  | _ => lineMax n l
theorem runL_eq (c : UInt8) (l : Str) : (l.length : Int) - ((l.dropWhile (· == c)).length : Int) + 1 = ((runL c l + 1 : Nat) : Int) := by
  have h : l.takeWhile (· == c) ++ l.dropWhile (· == c) = l := List.takeWhile_append_dropWhile
  have h2 := congrArg List.length h
  rw [List.length_append] at h2
  unfold runL; omega
theorem dw_le (c : UInt8) (l : Str) : (l.dropWhile (· == c)).length ≤ l.length := by
  have h : l.takeWhile (· == c) ++ l.dropWhile (· == c) = l := List.takeWhile_append_dropWhile
  have h2 := congrArg List.length h
  rw [List.length_append] at h2
  omega
theorem max_cast (a b : Nat) : max (a : Int) (b : Int) = ((max a b : Nat) : Int) := by omega
theorem le_sum_len {l : Str} : ∀ {ls : List Str}, l ∈ ls → l.length ≤ (ls.map List.length).sum
  | a :: t, h => by
    rcases List.mem_cons.1 h with rfl | h
    · simp
    · have := le_sum_len h
      simp; omega
theorem splitL_len (s : Str) : ∀ l ∈ splitL s, l.length ≤ s.length := by
  intro l hl
  have h := splitL_flatten s
  have h2 := congrArg List.length h
  rw [List.length_flatten] at h2
  rw [← h2]
  exact le_sum_len hl
theorem splitL_count (s : Str) : (splitL s).length ≤ s.length := by
  have h := splitL_flatten s
  have h2 := congrArg List.length h
  rw [List.length_flatten] at h2
  rw [← h2]
  have hne := splitL_ne s
  generalize splitL s = ls at hne ⊢
  induction ls with
  | nil => simp
  | cons a t ih =>
    have ha : 0 < a.length := List.length_pos_iff.2 (hne a (by simp))
    have := ih (fun l hl => hne l (by simp [hl]))
    simp; omega

/-- A mark's line. -/
def lineL (c : UInt8) (n : Nat) (cut : Bool) (word : Str) : Str :=
  List.replicate n c ++ (if cut then [33] else []) ++ (if word = [] then [] else 32 :: word) ++ [10]
/-- A text, and the mark's line behind it. -/
def sectionL (t : Str) (c : UInt8) (n : Nat) (word : Str) : Str := wholeL t ++ lineL c n (wholeL t != t) word
theorem wholeL_length (t : Str) : (wholeL t).length ≤ t.length + 1 := by
  unfold wholeL; split <;> simp
theorem lineL_length (c : UInt8) (n : Nat) (cut : Bool) (word : Str) : (lineL c n cut word).length ≤ n + word.length + 3 := by
  unfold lineL; split <;> split <;> simp <;> omega
theorem sectionL_length (t : Str) (c : UInt8) (n : Nat) (word : Str) : (sectionL t c n word).length ≤ t.length + n + word.length + 4 := by
  have h1 := wholeL_length t
  have h2 := lineL_length c n (wholeL t != t) word
  unfold sectionL; rw [List.length_append]; omega
def partL (n : Nat) (old : Bool) (p : Part) : Str :=
  if p.clash then
    lineL 60 n false wOurs ++ (if old then sectionL p.a 124 n wBase ++ sectionL p.o 61 n [] else sectionL p.a 61 n []) ++ sectionL p.b 62 n wTheirs
  else p.a
def printL (l : List Part) (n : Nat) (old : Bool) : Str := l.flatMap (partL n old)
def textsL (l : List Part) : List Str := l.flatMap fun p => [p.o, p.a, p.b]

/-- Is it the line of the mark c, with its word or without; whether it bears the sign. -/
def markOne (line : Str) (n : Nat) (c : UInt8) (word : Str) : Option Bool :=
  if (List.replicate n c).isPrefixOf line then
    let rest := line.drop n
    let cut := [33].isPrefixOf rest
    let rest := if cut then rest.drop 1 else rest
    if rest = [10] ∨ (word ≠ [] ∧ rest = 32 :: word ++ [10]) then some cut else none
  else none
/-- Which sign's line it is. -/
def markL (line : Str) (n : Nat) : Option (Nat × Bool) :=
  match markOne line n 60 wOurs with
  | some c => some (0, c)
  | none => match markOne line n 124 wBase with
    | some c => some (1, c)
    | none => match markOne line n 61 [] with
      | some c => some (2, c)
      | none => match markOne line n 62 wTheirs with
        | some c => some (3, c)
        | none => none

structure St where
  out : List Part
  p : Part
  now : Str
  at_ : Nat
/-- What stands outside is told. -/
def outerL (out : List Part) (now : Str) : List Part := if now = [] then out else out ++ [⟨false, now, now, now⟩]
/-- What is gathered, cut if that is wanted. -/
def takeL (now : Str) (cut : Bool) : Option Str :=
  if cut then (if now.getLast? = some 10 then some now.dropLast else none) else some now
def meetL (s : St) (k : Nat) (cut : Bool) : Option St :=
  if s.at_ = 0 then
    if k = 0 ∧ cut = false then some ⟨outerL s.out s.now, ⟨true, [], [], []⟩, [], 1⟩ else none
  else match takeL s.now cut with
    | none => none
    | some t =>
      if s.at_ = 3 ∧ k = 3 then some ⟨s.out ++ [{ s.p with b := t }], { s.p with b := t }, [], 0⟩
      else if s.at_ = 1 ∧ k = 1 then some ⟨s.out, { s.p with a := t }, [], 2⟩
      else if s.at_ = 1 ∧ k = 2 then some ⟨s.out, { s.p with a := t }, [], 3⟩
      else if s.at_ = 2 ∧ k = 2 then some ⟨s.out, { s.p with o := t }, [], 3⟩
      else none
def stepL (n : Nat) (s : St) (line : Str) : Option St :=
  match markL line n with
  | none => some { s with now := s.now ++ line }
  | some (k, cut) => meetL s k cut
def foldL (n : Nat) : St → List Str → Option St
  | s, [] => some s
  | s, l :: r => (stepL n s l).bind fun s' => foldL n s' r
def st0 : St := ⟨[], ⟨false, [], [], []⟩, [], 0⟩
/-- The parts of a text with marks of a length. -/
def parseL (text : Str) (n : Nat) : Option (List Part) :=
  (foldL n st0 (splitL text)).bind fun s => if s.at_ = 0 then some (outerL s.out s.now) else none

end Go.Proofs.YtggeelejmhihdaaDoor.Pl
