/- The plain words of lines and marker: texts as lists of bytes; no program in sight. Small words on memory: a boxed variable that is appended to, beside other boxes. Contracts of package lines. The plain words of lcs, diff3 and weave: rows of numbers; no program in sight. The plain words of diff3 and weave: chunks, parts; no program in sight. strings.Builder wherever it lies in a block of the call's own: copyCheck, WriteString, String, Reset. -/
import Derived.Laws.Strings
import Derived.Lib.Strings
import Derived.Lib.IndexLaws
import Derived.RangeFuncBox
import Derived.Lib.OthersKept
import Derived.Test.YtogfkfkejaiecaaGreatDoorTwa
import Derived.RangeFuncLeaves
import Derived.Shelf.Abstract
import Derived.WalkKit
import Derived.WalkSpells
import Derived.OwnWalkIn
import Derived.TacticsInMore
import Derived.LoopNIn
import Derived.LoopIn
import Derived.Maps.AppendAt
import Derived.BigQuiet
import Derived.Deep.QuietTactic
import Derived.Lib.Hide
import Derived.Test.YtogfkfkejaiecaaGreatDoorShelf
import Derived.WalkLawsBesides
import Derived.Lib.Builder
import Derived.Lib.AppendStr
import Derived.Lib.UnsafeStr
import Derived.Lib.FrozenHead
import Derived.Laws.Externs
import Derived.Laws.IdiomCopy
import Derived.RegionTactic

namespace Go.Proofs.YtogfkfkejaiecaaGreatDoor.Pl

abbrev Str := List UInt8
/-- A list of bytes as a text. -/
abbrev B (l : Str) : ByteArray := ⟨l.toArray⟩

theorem B_of (s : ByteArray) : s = B s.data.toList := by
  cases s with | mk d => simp
theorem B_size (l : Str) : (B l).size = l.length := by simp [ByteArray.size]
theorem B_append (a b : Str) : B a ++ B b = B (a ++ b) := by
  apply ByteArray.ext; simp
theorem B_extract (a : Str) (i j : Nat) : (B a).extract i j = B ((a.drop i).take (j - i)) := by
  apply ByteArray.ext; simp
theorem B_toList (a : Str) : (B a).toList = a := by
  rw [ByteArray.toList_eq]
theorem take_end (s : Str) (k : Nat) : (s.drop k).take (s.length - k) = s.drop k := List.take_of_length_le (by simp)
/-! ### lines -/
/-- A text's lines, each with what ends it. -/
def splitL : Str → List Str
  | [] => []
  | c :: t => if c = 10 then [c] :: splitL t else match splitL t with
    | [] => [[c]]
    | l :: r => (c :: l) :: r

theorem splitL_flatten (s : Str) : (splitL s).flatten = s := by
  induction s with
  | nil => rfl
  | cons c t ih =>
    unfold splitL
    split
    · simp [ih]
    · split
      · rename_i h; rw [h] at ih; simp at ih; simp [← ih]
      · rename_i l r h; rw [h] at ih; simp at ih; simp [ih]

theorem splitL_ne (s : Str) : ∀ l ∈ splitL s, l ≠ [] := by
  induction s with
  | nil => simp [splitL]
  | cons c t ih =>
    unfold splitL
    split
    · intro l hl; simp at hl; rcases hl with rfl | hl
      · simp
      · exact ih l hl
    · split
      · intro l hl; simp at hl; subst hl; simp
      · rename_i l r h; intro x hx; simp at hx; rcases hx with rfl | hx
        · simp
        · exact ih x (by rw [h]; simp [hx])

theorem splitL_line (l t : Str) (h : (10 : UInt8) ∉ l) : splitL (l ++ 10 :: t) = (l ++ [10]) :: splitL t := by
  induction l with
  | nil => simp [splitL]
  | cons c l ih =>
    simp at h
    have hc : c ≠ 10 := fun e => h.1 e.symm
    simp [splitL, hc, ih h.2]

theorem splitL_last (l : Str) (h : (10 : UInt8) ∉ l) (h0 : l ≠ []) : splitL l = [l] := by
  induction l with
  | nil => exact absurd rfl h0
  | cons c l ih =>
    simp at h
    have hc : c ≠ 10 := fun e => h.1 e.symm
    by_cases e : l = []
    · subst e; simp [splitL, hc]
    · simp [splitL, hc, ih h.2 e]

/-- Is a text empty, or does its last line have an end? -/
def endedL (s : Str) : Bool := s.isEmpty || s.getLast? == some 10
/-- A text whose last line has an end. -/
def wholeL (s : Str) : Str := if endedL s then s else s ++ [10]

theorem endedL_suffix (s : Str) : (s.isEmpty || Lib.hasSuffix s [10]) = endedL s := by
  unfold endedL Lib.hasSuffix
  congr 1
  rw [Bool.eq_iff_iff, List.isSuffixOf_iff_suffix, beq_iff_eq]
  constructor
  · rintro ⟨t, rfl⟩; simp
  · intro h
    obtain ⟨t, rfl⟩ := List.getLast?_eq_some_iff.1 h
    exact ⟨t, rfl⟩

/-- Where the first newline is; below 0: nowhere. -/
def nlI (s : Str) : Int := Lib.indexByte s 10
theorem nlI_lo (s : Str) : -1 ≤ nlI s := by
  unfold nlI
  induction s with
  | nil => simp [Lib.indexByte]
  | cons c t ih => unfold Lib.indexByte; split <;> (try split) <;> omega
theorem nlI_none {s : Str} (h : nlI s = -1) : (10 : UInt8) ∉ s := by
  intro hm
  obtain ⟨k, hk, he⟩ := List.getElem_of_mem hm
  exact Lib.indexByte_none h k (by rw [List.getElem?_eq_getElem hk, he])
theorem nlI_some {s : Str} {o : Nat} (h : nlI s = o) : ∃ a t, s = a ++ 10 :: t ∧ a.length = o ∧ (10 : UInt8) ∉ a := by
  obtain ⟨h1, h2⟩ := Lib.indexByte_some h
  obtain ⟨hlt, he⟩ := List.getElem?_eq_some_iff.1 h1
  refine ⟨s.take o, s.drop (o + 1), ?_, by simp; omega, ?_⟩
  · rw [← he, List.getElem_cons_drop, List.take_append_drop]
  · intro hm
    obtain ⟨k, hk, hek⟩ := List.getElem_of_mem hm
    have hk' : k < o := by simp at hk; omega
    refine h2 k hk' ?_
    rw [List.getElem_take] at hek
    rw [List.getElem?_eq_getElem (by omega), hek]
theorem nlI_hi {s : Str} (h0 : s ≠ []) : nlI s < s.length := by
  have hl : 0 < s.length := List.length_pos_iff.2 h0
  by_cases h : nlI s < 0
  · omega
  · obtain ⟨o, ho⟩ := Int.eq_ofNat_of_zero_le (Int.not_lt.1 h)
    obtain ⟨a, t, rfl, hla, _⟩ := nlI_some ho
    rw [ho]; simp; omega
/-- How long the first line is. -/
def lineN (s : Str) : Nat := if nlI s = -1 then s.length else (nlI s + 1).toNat
theorem splitL_first {s : Str} (h0 : s ≠ []) : splitL s = s.take (lineN s) :: splitL (s.drop (lineN s)) := by
  unfold lineN
  split
  · rename_i h
    rw [splitL_last s (nlI_none h) h0]; simp [splitL]
  · rename_i h
    have hlo := nlI_lo s
    obtain ⟨o, ho⟩ := Int.eq_ofNat_of_zero_le (a := nlI s) (by omega)
    obtain ⟨a, t, rfl, hla, hna⟩ := nlI_some ho
    have e : (nlI (a ++ 10 :: t) + 1).toNat = a.length + 1 := by rw [ho]; omega
    have e1 : (a ++ 10 :: t).take (a.length + 1) = a ++ [10] := by
      rw [show a ++ 10 :: t = (a ++ [10]) ++ t by simp, List.take_append_of_le_length (by simp), List.take_of_length_le (by simp)]
    have e2 : (a ++ 10 :: t).drop (a.length + 1) = t := by
      rw [show a ++ 10 :: t = (a ++ [10]) ++ t by simp, List.drop_append_of_le_length (by simp), List.drop_of_length_le (by simp)]; simp
    rw [e, e1, e2, splitL_line _ _ hna]

/-! ### marker -/
structure Part where
  clash : Bool
  o : Str
  a : Str
  b : Str
  deriving DecidableEq

def wOurs : Str := [111, 117, 114, 115]
def wBase : Str := [98, 97, 115, 101]
def wTheirs : Str := [116, 104, 101, 105, 114, 115]

/-- How many bytes of one kind a line begins with. -/
def runL (c : UInt8) (l : Str) : Nat := (l.takeWhile (· == c)).length
def lineMax (n : Nat) (l : Str) : Nat := max (max (max (max n (runL 60 l + 1)) (runL 124 l + 1)) (runL 61 l + 1)) (runL 62 l + 1)
def textMax (n : Nat) (t : Str) : Nat := (splitL t).foldl lineMax n
/-- How long marks are to be. -/
def lengthL (ts : List Str) : Nat := ts.foldl textMax 7

/-- .. behind the first k signs. -/
def lineMaxK (n : Nat) (l : Str) : Nat → Nat
  | 0 => n
  | 1 => max n (runL 60 l + 1)
  | 2 => max (max n (runL 60 l + 1)) (runL 124 l + 1)
  | 3 => max (max (max n (runL 60 l + 1)) (runL 124 l + 1)) (runL 61 l + 1)
  | _ => lineMax n l
theorem runL_eq (c : UInt8) (l : Str) : (l.length : Int) - ((l.dropWhile (· == c)).length : Int) + 1 = ((runL c l + 1 : Nat) : Int) := by
  have h : l.takeWhile (· == c) ++ l.dropWhile (· == c) = l := List.takeWhile_append_dropWhile
  have h2 := congrArg List.length h
  rw [List.length_append] at h2
  unfold runL; omega
theorem dw_le (c : UInt8) (l : Str) : (l.dropWhile (· == c)).length ≤ l.length := by
  have h : l.takeWhile (· == c) ++ l.dropWhile (· == c) = l := List.takeWhile_append_dropWhile
  have h2 := congrArg List.length h
  rw [List.length_append] at h2
  omega
theorem max_cast (a b : Nat) : max (a : Int) (b : Int) = ((max a b : Nat) : Int) := by omega
theorem le_sum_len {l : Str} : ∀ {ls : List Str}, l ∈ ls → l.length ≤ (ls.map List.length).sum
  | a :: t, h => by
    rcases List.mem_cons.1 h with rfl | h
    · simp
    · have := le_sum_len h
      simp; omega
theorem splitL_len (s : Str) : ∀ l ∈ splitL s, l.length ≤ s.length := by
  intro l hl
  have h := splitL_flatten s
  have h2 := congrArg List.length h
  rw [List.length_flatten] at h2
  rw [← h2]
  exact le_sum_len hl
theorem splitL_count (s : Str) : (splitL s).length ≤ s.length := by
  have h := splitL_flatten s
  have h2 := congrArg List.length h
  rw [List.length_flatten] at h2
  rw [← h2]
  have hne := splitL_ne s
  generalize splitL s = ls at hne ⊢
  induction ls with
  | nil => simp
  | cons a t ih =>
    have ha : 0 < a.length := List.length_pos_iff.2 (hne a (by simp))
    have := ih (fun l hl => hne l (by simp [hl]))
    simp; omega

/-- A mark's line. -/
def lineL (c : UInt8) (n : Nat) (cut : Bool) (word : Str) : Str :=
  List.replicate n c ++ (if cut then [33] else []) ++ (if word = [] then [] else 32 :: word) ++ [10]
/-- A text, and the mark's line behind it. -/
def sectionL (t : Str) (c : UInt8) (n : Nat) (word : Str) : Str := wholeL t ++ lineL c n (wholeL t != t) word
theorem wholeL_length (t : Str) : (wholeL t).length ≤ t.length + 1 := by
  unfold wholeL; split <;> simp
theorem lineL_length (c : UInt8) (n : Nat) (cut : Bool) (word : Str) : (lineL c n cut word).length ≤ n + word.length + 3 := by
  unfold lineL; split <;> split <;> simp <;> omega
theorem sectionL_length (t : Str) (c : UInt8) (n : Nat) (word : Str) : (sectionL t c n word).length ≤ t.length + n + word.length + 4 := by
  have h1 := wholeL_length t
  have h2 := lineL_length c n (wholeL t != t) word
  unfold sectionL; rw [List.length_append]; omega
def partL (n : Nat) (old : Bool) (p : Part) : Str :=
  if p.clash then
    lineL 60 n false wOurs ++ (if old then sectionL p.a 124 n wBase ++ sectionL p.o 61 n [] else sectionL p.a 61 n []) ++ sectionL p.b 62 n wTheirs
  else p.a
def printL (l : List Part) (n : Nat) (old : Bool) : Str := l.flatMap (partL n old)
def textsL (l : List Part) : List Str := l.flatMap fun p => [p.o, p.a, p.b]

/-- Is it the line of the mark c, with its word or without; whether it bears the sign. -/
def markOne (line : Str) (n : Nat) (c : UInt8) (word : Str) : Option Bool :=
  if (List.replicate n c).isPrefixOf line then
    let rest := line.drop n
    let cut := [33].isPrefixOf rest
    let rest := if cut then rest.drop 1 else rest
    if rest = [10] ∨ (word ≠ [] ∧ rest = 32 :: word ++ [10]) then some cut else none
  else none
/-- Which sign's line it is. -/
def markL (line : Str) (n : Nat) : Option (Nat × Bool) :=
  match markOne line n 60 wOurs with
  | some c => some (0, c)
  | none => match markOne line n 124 wBase with
    | some c => some (1, c)
    | none => match markOne line n 61 [] with
      | some c => some (2, c)
      | none => match markOne line n 62 wTheirs with
        | some c => some (3, c)
        | none => none

structure St where
  out : List Part
  p : Part
  now : Str
  at_ : Nat
/-- What stands outside is told. -/
def outerL (out : List Part) (now : Str) : List Part := if now = [] then out else out ++ [⟨false, now, now, now⟩]
/-- What is gathered, cut if that is wanted. -/
def takeL (now : Str) (cut : Bool) : Option Str :=
  if cut then (if now.getLast? = some 10 then some now.dropLast else none) else some now
def meetL (s : St) (k : Nat) (cut : Bool) : Option St :=
  if s.at_ = 0 then
    if k = 0 ∧ cut = false then some ⟨outerL s.out s.now, ⟨true, [], [], []⟩, [], 1⟩ else none
  else match takeL s.now cut with
    | none => none
    | some t =>
      if s.at_ = 3 ∧ k = 3 then some ⟨s.out ++ [{ s.p with b := t }], { s.p with b := t }, [], 0⟩
      else if s.at_ = 1 ∧ k = 1 then some ⟨s.out, { s.p with a := t }, [], 2⟩
      else if s.at_ = 1 ∧ k = 2 then some ⟨s.out, { s.p with a := t }, [], 3⟩
      else if s.at_ = 2 ∧ k = 2 then some ⟨s.out, { s.p with o := t }, [], 3⟩
      else none
def stepL (n : Nat) (s : St) (line : Str) : Option St :=
  match markL line n with
  | none => some { s with now := s.now ++ line }
  | some (k, cut) => meetL s k cut
def foldL (n : Nat) : St → List Str → Option St
  | s, [] => some s
  | s, l :: r => (stepL n s l).bind fun s' => foldL n s' r
def st0 : St := ⟨[], ⟨false, [], [], []⟩, [], 0⟩
/-- The parts of a text with marks of a length. -/
def parseL (text : Str) (n : Nat) : Option (List Part) :=
  (foldL n st0 (splitL text)).bind fun s => if s.at_ = 0 then some (outerL s.out s.now) else none

end Go.Proofs.YtogfkfkejaiecaaGreatDoor.Pl

namespace Go.Proofs.YtogfkfkejaiecaaGreatDoor.Ut
open Go.RowKit Pl Go.Proofs.YtogfkfkejaiecaaGreatDoorW.PrintWords

/-- What a box holds it holds still. -/
def KpBox (Bs : Nat) (W W' : World) : Prop := ∀ c, W.cell? ⟨Bs, 0, none⟩ = some c → W'.cell? ⟨Bs, 0, none⟩ = some c
theorem kpBox_t {Bs : Nat} {A B C : World} (h : KpBox Bs A B) (k : KpBox Bs B C) : KpBox Bs A C := fun c hc => k c (h c hc)
theorem kpBox_b {Bs : Nat} {w : World} (W : World) (l : Nat) (o o' : Obj) (_ : w.heap.size ≤ l) (h : W.heap[l]? = some o) (hc : o.isCells = false) (_ : o.isWalk = false) : KpBox Bs W (W.putObj l o') := by
  intro c hcell
  have hne : Bs ≠ l := by
    rintro rfl
    unfold World.cell? at hcell
    rw [h] at hcell
    cases o <;> simp_all [Obj.isCells]
  have : (W.putObj l o').heap[Bs]? = W.heap[Bs]? := World.putObj_heap_other hne
  unfold World.cell? at hcell ⊢
  rw [this]; exact hcell
theorem kpBox_of {Bs : Nat} {W W' : World} (h : W'.heap[Bs]? = W.heap[Bs]?) : KpBox Bs W W' := by
  intro c hc
  unfold World.cell? at hc ⊢
  rw [h]; exact hc

/-- 'out = append(out, ..)', out in box B below n₁, its row from n₁ on. -/
theorem box_appended {W w1 : World} {n₁ B : Nat} {t e : TypeId} {size : Nat} {v v' : Value} {k m : Nat} {xs ys : List Value} {tmp : Obj}
    (hv : Boxed W B t v) (hrow : W.ownsRow n₁ e size v k xs) (hn₁ : n₁ ≤ W.heap.size) (hB : B < n₁)
    (hown' : w1.ownsRow n₁ e size v' m ys) (hgrow : (W.alloc tmp).grownBy w1 v.ownBlock) :
    Boxed w1 B t v ∧ Boxed (w1.setCell ⟨B, 0, none⟩ v') B t v' ∧ (w1.setCell ⟨B, 0, none⟩ v').ownsRow n₁ e size v' m ys ∧ KeepsOthers W (w1.setCell ⟨B, 0, none⟩ v') ∧
      Below B W (w1.setCell ⟨B, 0, none⟩ v') ∧ ∀ j, j < n₁ → j ≠ B → (w1.setCell ⟨B, 0, none⟩ v').heap[j]? = W.heap[j]? := by
  have hne : some B ≠ v.ownBlock := fun e' => by have := own_base hrow B e'.symm; omega
  have hne' : some B ≠ v'.ownBlock := fun e' => by have := own_base hown' B e'.symm; omega
  have hv1 : Boxed w1 B t v := (hv.alloc tmp).kept hgrow hne
  have hblk : ∀ j, j < n₁ → j ≠ B → (w1.setCell ⟨B, 0, none⟩ v').heap[j]? = W.heap[j]? := by
    intro j hj hjB
    rw [Below.heap_setCell w1 ⟨B, 0, none⟩ v' j hjB, hgrow.block j (by simp; omega) (fun e' => by have := own_base hrow j e'.symm; omega)]
    exact Below.heap_alloc W tmp j (by omega)
  refine ⟨hv1, hv1.set v', hown'.kept (grownBy_setCell' w1 B v') (.inr hne'.symm), ?_, ?_, hblk⟩
  · refine ((KeepsOthers.alloc W tmp).trans (KeepsOthers.of_grownBy hgrow fun j o ej hj => ?_)).trans (KeepsOthers.setCell _ _ _)
    rcases (hrow.alloc tmp).2 with ⟨rfl, _⟩ | ⟨g, cap, cur, rfl, _, hgb, _⟩
    · simp [Value.ownBlock] at ej
    · obtain rfl : g = j := by simpa [Value.ownBlock] using ej
      rw [hgb] at hj; cases hj; rfl
  · refine (((Below.refl B W).alloc (by omega) tmp).grown hgrow (by simp; omega) fun j ej => ?_).setCell (p := ⟨B, 0, none⟩) (Nat.le_refl _) v'
    have := own_base hrow j ej; omega

/-- Texts, as a kind. -/
def kStr : Kd Str := Kd.scalar (fun l : Str => .string (B l)) (fun _ => rfl)

theorem othersKept_below {e : TypeId} {b : Option Nat} {w w' : World} (hb : Below w.heap.size w w') : Lib.OthersKept e b w w' :=
  fun k _ hk _ _ => (hb.block k (Array.getElem?_eq_some_iff.1 hk).1).trans hk
theorem cell_alloc {w : World} {a : Addr} {v : Value} (h : w.cell? a = some v) (o : Obj) : (w.alloc o).cell? a = some v := pw_cell_below (below_alloc (Below.refl _ _) o) h

/-- Parts, as a kind. -/
def kPart : Kd Part := Kd.iso (Kd.pair Kd.bool (Kd.pair kStr (Kd.pair kStr kStr))) (fun x : Part => (x.clash, x.o, x.a, x.b))
def partCells (x : Part) : List Value := [.bool x.clash, .string (B x.o), .string (B x.a), .string (B x.b)]
theorem kPart_open {w : World} {x : Part} {cs : List Value} (h : kPart.K w x cs) : cs = partCells x := by
  obtain ⟨_, _, rfl, rfl, ⟨_, _, rfl, rfl, ⟨_, _, rfl, rfl, rfl⟩⟩⟩ := h
  exact rfl
theorem kPart_mk (w : World) (base : Nat) (ok : Nat → Prop) (x : Part) : kPart.M w base ok x (partCells x) := ⟨[.bool x.clash], [.string (B x.o), .string (B x.a), .string (B x.b)], rfl, rfl, ⟨[.string (B x.o)], [.string (B x.a), .string (B x.b)], rfl, rfl, ⟨[.string (B x.a)], [.string (B x.b)], rfl, rfl, rfl⟩⟩⟩
theorem at_part {w : World} {A : Option Addr} {n : Nat} {xs : List Part} (h : Kd.C kPart w A n xs) (k : Nat) (hk : k < n) (x : Part) (hx : xs[k]? = some x) :
    ∃ ad, A = some ad ∧ w.cell? (ad.add (k * 4)) = some (.bool x.clash) ∧ w.cell? ⟨(ad.add (k * 4)).block, (ad.add (k * 4)).off + 1, none⟩ = some (.string (B x.o)) ∧
      w.cell? ⟨(ad.add (k * 4)).block, (ad.add (k * 4)).off + 2, none⟩ = some (.string (B x.a)) ∧ w.cell? ⟨(ad.add (k * 4)).block, (ad.add (k * 4)).off + 3, none⟩ = some (.string (B x.b)) := by
  obtain ⟨ad, c, e, _, hK, hc0⟩ := Kd.C_get h x (k : Int) (by omega) (by omega)
  have hd : xs.getD (k : Int).toNat x = x := by simp [List.getD, hx]
  rw [hd] at hK
  have hc : ∀ j u, c[j]? = some u → w.cell? (ad.add (k * 4 + j)) = some u := hc0
  obtain rfl := kPart_open hK
  exact ⟨ad, e, hc 0 _ rfl, by rw [← add_field _ _ 1 (by omega)]; exact hc 1 _ rfl, by rw [← add_field _ _ 2 (by omega)]; exact hc 2 _ rfl, by rw [← add_field _ _ 3 (by omega)]; exact hc 3 _ rfl⟩
theorem at_str {w : World} {A : Option Addr} {n : Nat} {xs : List Str} (h : Kd.C kStr w A n xs) (k : Nat) (hk : k < n) (x : Str) (hx : xs[k]? = some x) :
    ∃ ad, A = some ad ∧ w.cell? (ad.add k) = some (.string (B x)) := by
  obtain ⟨ad, c, e, _, hK, hc0⟩ := Kd.C_get h x (k : Int) (by omega) (by omega)
  have hd : xs.getD (k : Int).toNat x = x := by simp [List.getD, hx]
  rw [hd] at hK
  have hc : ∀ j u, c[j]? = some u → w.cell? (ad.add (k * 1 + j)) = some u := hc0
  have hK' : c = [.string (B x)] := hK
  subst hK'
  exact ⟨ad, e, by have := hc 0 _ rfl; simpa using this⟩

/-- The table of signs. -/
def Signs (w : World) : Prop :=
  w.cell? ⟨0, 0, none⟩ = some (.string (B [60])) ∧ w.cell? ⟨0, 1, none⟩ = some (.string (B wOurs)) ∧
  w.cell? ⟨0, 2, none⟩ = some (.string (B [124])) ∧ w.cell? ⟨0, 3, none⟩ = some (.string (B wBase)) ∧
  w.cell? ⟨0, 4, none⟩ = some (.string (B [61])) ∧ w.cell? ⟨0, 5, none⟩ = some (.string (B [])) ∧
  w.cell? ⟨0, 6, none⟩ = some (.string (B [62])) ∧ w.cell? ⟨0, 7, none⟩ = some (.string (B wTheirs))
theorem Signs.below {w w' : World} (h : Signs w) (hb : Below w.heap.size w w') : Signs w' := by
  obtain ⟨h0, h1, h2, h3, h4, h5, h6, h7⟩ := h
  exact ⟨pw_cell_below hb h0, pw_cell_below hb h1, pw_cell_below hb h2, pw_cell_below hb h3, pw_cell_below hb h4, pw_cell_below hb h5, pw_cell_below hb h6, pw_cell_below hb h7⟩

end Go.Proofs.YtogfkfkejaiecaaGreatDoor.Ut

namespace Go.Proofs.YtogfkfkejaiecaaGreatDoor.Ln
open Go.RowKit Go.Shelf Pl Ut Go.Proofs.YtogfkfkejaiecaaGreatDoorW.PrintWords
attribute [local go_sem] B_append B_extract B_toList B_size take_end

set_option maxHeartbeats 400000 in
theorem ended_any (s : Str) (w : World) (hs : s.length ≤ 4611686018427387904) :
    Calls Tryz.prog 79 #[.string (B s)] w fun e w' => e = .returned (.bool (endedL s)) ∧ w = w' := by
  go_enter Tryz.func79, Tryz.ntmps79
  go_wp2_with (first | (go_at_call 98; refine (Tryz.strings_HasSuffix _ _ _ (by rw [B_size]; omega)).mono ?_; rintro e w' ⟨rfl, rfl⟩))
  all_goals go_ret
  · have h : s = [] := by assumption
    subst h
    exact ⟨rfl, rfl⟩
  · refine ⟨?_, rfl⟩
    have e := endedL_suffix s
    simp only [← e]
    simp

set_option maxHeartbeats 400000 in
theorem whole_any (s : Str) (w : World) (hs : s.length ≤ 4611686018427387904) :
    Calls Tryz.prog 64 #[.string (B s)] w fun e w' => e = .returned (.string (B (wholeL s))) ∧ w = w' := by
  go_enter Tryz.func64, Tryz.ntmps64
  go_wp2_with (first | (go_at_call 79; refine (ended_any _ _ (by omega)).mono ?_; rintro e w' ⟨rfl, rfl⟩))
  all_goals go_ret
  · have h : endedL s = true := by assumption
    exact ⟨by simp [wholeL, h], rfl⟩
  · have h : endedL s = false := by assumption
    exact ⟨by simp [wholeL, h], rfl⟩

set_option maxHeartbeats 400000 in
/-- lines.all: the iterator: it has captured the text's box. -/
theorem all_any (s : Str) (w : World) :
    Calls Tryz.prog 67 #[.string (B s)] w fun e w' => e = .returned (.func (.func 82) #[] #[.pointer (some ⟨w.heap.size, 0, none⟩)]) ∧ w' = w.alloc (.cells #[.string (B s)] 9) := by
  go_enter Tryz.func67, Tryz.ntmps67
  go_wp2
  go_ret
  exact ⟨rfl, rfl⟩

theorem indexNL (s : Str) (w : World) :
    Calls Tryz.prog 83 #[.string (B s), .int .u8 10] w fun e w' => e = .returned (.int .i64 (nlI s)) ∧ w = w' :=
  (Tryz.strings_IndexByte (B s) 10 w).mono fun _ _ ⟨he, hw⟩ => ⟨he, hw.symm⟩

attribute [local go_sem] Oper.semAt_some

set_option maxRecDepth 100000 in
set_option maxHeartbeats 2000000 in
/-- lines.all's closure: for every loop body that keeps what lay below n₀. -/
theorem all1_in (n : Nat) (hn : 1 ≤ n) (l Bs : Nat) (s : Str) (hs : s.length ≤ 4611686018427387904) (J Jx : List (Nat × Str) → World → Prop)
    (hY : ∀ pre x W, J pre W → pre.length < s.length + 1 → YieldAt Fence.wide (n - 1) Tryz.prog l #[.int .i64 (x.1 : Int), .string (B x.2)] W fun e W' =>
      (e = .returned (.bool true) ∧ J (pre ++ [x]) W' ∧ KpBox Bs W W') ∨ (e = .returned (.bool false) ∧ Jx (pre ++ [x]) W'))
    (W : World) (hBs : W.cell? ⟨Bs, 0, none⟩ = some (.string (B s))) (h0 : J [] W) :
    CallsIn Fence.wide n Tryz.prog 82 #[.func (.yield l) #[] #[], .pointer (some ⟨Bs, 0, none⟩)] W fun e W' => (∃ v, e = .returned v) ∧
      ((∃ ys : List (Nat × Str), ys.map (·.2) = splitL s ∧ J ys W') ∨ (∃ pre, True ∧ Jx pre W')) := by
  refine callsIn_of_wp Tryz.func82 rfl trivial ?_ rfl
  simp only [Tryz.ntmps82, List.size_toArray, List.length_cons, List.length_nil, Nat.reduceAdd, Nat.reduceSub, Array.replicate_succ, Array.replicate_zero, List.push_toArray, List.append_toArray, List.nil_append, List.cons_append]
  gi_wp2
  gi_loopw [3] (fun i wr => ∃ (k : Nat) (pre : List (Nat × Str)), k ≤ s.length ∧ i = .int .i64 k ∧ pre.map (·.2) ++ splitL (s.drop k) = splitL s ∧ pre.length ≤ k ∧ J pre wr ∧ KpBox Bs W wr)
    (fun i _ => s.length - (intOf i).toNat)
  case atStart => exact ⟨0, [], Nat.zero_le _, rfl, by simp, by simp, h0, fun _ h => h⟩
  case round =>
    obtain ⟨k, pre, hk, rfl, hsp, hpl, hJs, hnx⟩ := hrel
    have hc : wr.cell? ⟨Bs, 0, none⟩ = some (.string (B s)) := hnx _ hBs
    by_cases hlt : k < s.length
    · have ht : s.drop k ≠ [] := by intro e; have := congrArg List.length e; simp at this; omega
      have hlo := nlI_lo (s.drop k)
      have hhi := nlI_hi ht
      rw [List.length_drop] at hhi
      have hfirst := splitL_first ht
      by_cases hm : nlI (s.drop k) = -1
      · have hl : lineN (s.drop k) = (s.drop k).length := by unfold lineN; rw [if_pos hm]
        rw [hl, List.take_length, List.drop_length] at hfirst
        have HS := Lib.hid hfirst
        clear hfirst hl
        obtain ⟨fn, tmps, assign, body, hy, hR⟩ := hY pre (k, s.drop k) wr hJs (by omega)
        dsimp only at hy
        gi_wp2_with (refine ⟨trivial, ?_⟩; gi_at_call 83; refine (callsIn_wide.2 (indexNL _ _)).mono ?_; rintro e w' ⟨rfl, rfl⟩)
        refine hR.mono ?_
        rintro e W3 (⟨rfl, hJ3, hk3⟩ | ⟨rfl, hJx3⟩)
        · gi_wp2
          go_roundw
          case rel => exact ⟨s.length, pre ++ [(k, s.drop k)], Nat.le_refl _, by go_num, by rw [← hsp, HS.out]; simp [splitL], by simp; omega, hJ3, kpBox_t hnx hk3⟩
          case measure => simp [intOf]; omega
        · gi_wp2
          refine bodyPost_ret (results_none rfl _ _ _) rfl ?_
          exact ⟨⟨_, rfl⟩, .inr ⟨_, trivial, hJx3⟩⟩
      · obtain ⟨o, ho⟩ := Int.eq_ofNat_of_zero_le (a := nlI (s.drop k)) (by omega)
        have hne : ((o : Int) + 1 == 0) = false := by rw [beq_eq_false_iff_ne]; omega
        have hl : lineN (s.drop k) = o + 1 := by unfold lineN; rw [if_neg hm, ho]; omega
        rw [hl] at hfirst
        have HS := Lib.hid hfirst
        clear hfirst hl hm
        obtain ⟨fn, tmps, assign, body, hy, hR⟩ := hY pre (k, (s.drop k).take (o + 1)) wr hJs (by omega)
        dsimp only at hy
        gi_wp2_with (refine ⟨trivial, ?_⟩; gi_at_call 83; refine (callsIn_wide.2 (indexNL _ _)).mono ?_; rintro e w' ⟨rfl, rfl⟩)
        refine hR.mono ?_
        rintro e W3 (⟨rfl, hJ3, hk3⟩ | ⟨rfl, hJx3⟩)
        · gi_wp2
          go_roundw
          case rel => exact ⟨k + (o + 1), pre ++ [(k, (s.drop k).take (o + 1))], by omega, by go_num, by rw [← hsp, HS.out]; simp, by simp; omega, hJ3, kpBox_t hnx hk3⟩
          case measure => simp [intOf]; omega
        · gi_wp2
          refine bodyPost_ret (results_none rfl _ _ _) rfl ?_
          exact ⟨⟨_, rfl⟩, .inr ⟨_, trivial, hJx3⟩⟩
    · obtain rfl : k = s.length := by omega
      gi_wp2
      go_end0
      exact ⟨⟨_, rfl⟩, .inl ⟨pre, by simpa [splitL] using hsp, hJs⟩⟩

/-- lines.all hands back a value that 'SeqStopsK': all lines, or some. -/
theorem all_stops (n : Nat) (hn : 1 ≤ n) (Bs : Nat) (s : Str) (hs : s.length ≤ 4611686018427387904) (w : World) (hB : Bs < w.heap.size) (hc : w.cell? ⟨Bs, 0, none⟩ = some (.string (B s))) :
    SeqStopsK Fence.wide n Tryz.prog 82 #[.pointer (some ⟨Bs, 0, none⟩)] (fun x : Nat × Str => #[Value.int .i64 (x.1 : Int), .string (B x.2)]) (KpBox Bs) (fun ys => ys.map (·.2) = splitL s) (fun _ => True) (s.length + 1) w := fun l J Jx W hW _ _ hY h0 =>
  all1_in n hn l Bs s hs J Jx hY W ((hW.cell (p := ⟨Bs, 0, none⟩) hB).trans hc) h0

theorem infoString : (Tryz.prog.info? 9).map (fun i => (i.zero, i.size, i.bytes)) = some (some (.string ⟨#[]⟩), 1, 16) := by kernel_rfl

set_option maxRecDepth 100000 in
set_option maxHeartbeats 2000000 in
theorem split_any (s : Str) (hs : s.length ≤ 1000000000) (w : World) :
    Calls Tryz.prog 45 #[.string (B s)] w fun e w' => ∃ v, e = .returned v ∧ kStr.R 9 w' w.heap.size (fun _ => True) v (splitL s) ∧ Below w.heap.size w w' := by
  have h1 : 1 ≤ 4 := by omega
  obtain ⟨i0, hi, hz0, hz1, hz2⟩ := info_parts infoString
  refine (callsIn_wide (n := 4)).1 ?_
  refine callsIn_of_wp_marks Tryz.func45 rfl trivial ?_ rfl
  simp only [Tryz.ntmps45, List.size_toArray, List.length_cons, List.length_nil, Nat.reduceAdd, Nat.reduceSub, Array.replicate_succ, Array.replicate_zero, List.push_toArray, List.append_toArray, List.nil_append, List.cons_append]
  gi_wp2_with (refine ⟨trivial, ?_⟩; gi_at_call 67; refine (callsIn_wide.2 (all_any _ _)).mono ?_; rintro e w' ⟨rfl, rfl⟩)
  have bO := Boxed.new w 62 (.slice none 0 0)
  have bN := Boxed.new (w.alloc (.cells #[.slice none 0 0] 62)) 9 (.string (B s))
  rw [World.size_alloc] at bN
  have hB0 : Below w.heap.size w ((w.alloc (.cells #[.slice none 0 0] 62)).alloc (.cells #[.string (B s)] 9)) := ((Below.refl _ w).alloc (Nat.le_refl _) _).alloc (by simp) _
  refine wpIn_rangeFunc_ownG rfl h1 (gf := 82) (lb := #[.pointer (some ⟨w.heap.size + 1, 0, none⟩)]) rfl trivial (enters_of Tryz.func82 (by kernel_rfl) rfl)
    (all_stops 3 (by omega) (w.heap.size + 1) s (by omega) _ (by simp) bN.cell) kpBox_t kpBox_b (Below.refl _ _) (fun _ => rfl)
    (fun pre W => (∃ v, Boxed W w.heap.size 62 v ∧ W.ownsRow (w.heap.size + 2) 9 1 v (pre.map (·.2)).length (encs (fun l : Str => .string (B l)) (pre.map (·.2))) ∧ 0 = 0) ∧ Below w.heap.size w W ∧ w.heap.size + 2 ≤ W.heap.size)
    (fun _ _ _ => False)
    (OwnFrom.and (Own.from (holdsRow_own (w.heap.size + 2) w.heap.size 62 9 1 (fun pre : List (Nat × Str) => (pre.map (·.2)).length) (fun pre => encs (fun l : Str => .string (B l)) (pre.map (·.2))) (fun pre v => 0 = 0)) _) (OwnFrom.and (ownFrom_below (Nat.le_refl _) (by simp; omega)) (fun _ _ _ _ h hg _ => Nat.le_trans h hg.size)))
    (fun _ _ _ _ _ hs _ _ => hs)
    ⟨⟨_, bO.alloc _, World.ownsRow_nil _ _ _ _, rfl⟩, hB0, by simp⟩
    (fun x => { tmps := #[.string (B s), undef, .slice none 0 0, .pointer (some ⟨w.heap.size, 0, none⟩), undef, .string (B x.2), .string (B s), .func (.func 82) #[] #[.pointer (some ⟨w.heap.size + 1, 0, none⟩)], .int .i64 (x.1 : Int), .string (B x.2), undef, undef, undef, undef, undef], defers := [] }) ?assign ?body ?done ?stop
  case assign =>
    intro l x W K hK
    gi_wp2
    exact hK
  case body =>
    rintro l pre x W ⟨⟨v, hv, hrow, -⟩, hB, hsz⟩ hlt
    have hc := hv.cell
    rw [List.length_map] at hrow
    gi_wp2_with (gi_at_builtin; go_loud (refine wpListIn_append_own _ rfl _ _ 62 rfl (w.heap.size + 2) 9 i0 (.string ⟨#[]⟩) 1 16 Tryz.underlying62 hi hz0 hz1 hz2 rfl (by decide) _ _ _ rfl (hrow.alloc _) ⟨W.heap.size, 0, none⟩ 1 1 [.string (B x.2)] rfl rfl (cell_one_new _ _ _) (by simp [Value.oneCell']) (by unfold maxLen; omega) (by omega) (by simp; omega) ?_); intro v' w1 hown' hgrow _; obtain ⟨g', cap', rfl⟩ := ownsRow_succ hown'; obtain ⟨hv1, hv2, hr2, hk2, hb2, hk3⟩ := box_appended hv hrow hsz (by omega) hown' hgrow; have hc1 := hv1.cell; have hf1 := hv1.frozen)
    have hsz2 := hb2.size
    exact ⟨hk2.from _, kpBox_of (hk3 _ (by omega) (by omega)), ⟨_, hv2, by simpa [encs] using hr2⟩, hB.trans hb2, by omega⟩
  case done =>
    rintro D ys W hD hys ⟨⟨v, hv, hrow, -⟩, hB, hsz⟩ hK
    have hc := hv.cell
    have hr := ownsRow_putObj hrow (.deferred none) hK rfl
    rw [hys] at hr
    gi_wp2
    refine ⟨by simp, .inl ⟨_, _, rfl, run_takeDeferred hK, ?_⟩⟩
    refine ⟨_, results_tmp rfl _ _ _, v, rfl, Kd.R_of_own (own_weaken hr (by omega)) (fun _ _ => trivial), hB.trans (belowK_b (w := w) (Nat.le_refl _) W D _ _ (by simp at hD; omega) hK rfl rfl)⟩
  case stop =>
    rintro D c pre W _ _ h _
    exact h.elim

end Go.Proofs.YtogfkfkejaiecaaGreatDoor.Ln

namespace Go.Proofs.YtogfkfkejaiecaaGreatDoor.Da
open Pl
set_option linter.unusedVariables false
set_option linter.unusedSimpArgs false

/-! ### numbers -/
/-- A text's place among those that were seen; it is seen from now on. -/
def numOne (seen : List Str) (s : Str) : Nat := seen.idxOf s
def seeOne (seen : List Str) (s : Str) : List Str := if s ∈ seen then seen else seen ++ [s]
def numRow (seen : List Str) : List Str → List Nat
  | [] => []
  | s :: r => numOne seen s :: numRow (seeOne seen s) r
def seeRow (seen : List Str) : List Str → List Str
  | [] => seen
  | s :: r => seeRow (seeOne seen s) r
def numRows (seen : List Str) : List (List Str) → List (List Nat)
  | [] => []
  | l :: r => numRow seen l :: numRows (seeRow seen l) r
theorem numRow_length : ∀ (l : List Str) (seen : List Str), (numRow seen l).length = l.length
  | [], _ => rfl
  | _ :: r, seen => by simp [numRow, numRow_length r]
theorem seeOne_nodup {seen : List Str} (h : seen.Nodup) (s : Str) : (seeOne seen s).Nodup := by
  unfold seeOne
  split
  · exact h
  · rename_i hs
    rw [List.nodup_append]
    exact ⟨h, by simp, fun a ha b hb => by simp at hb; subst hb; exact fun e => hs (e ▸ ha)⟩
theorem seeOne_length (seen : List Str) (s : Str) : (seeOne seen s).length ≤ seen.length + 1 := by
  unfold seeOne; split <;> simp
theorem seeRow_length : ∀ (l : List Str) (seen : List Str), (seeRow seen l).length ≤ seen.length + l.length
  | [], _ => by simp [seeRow]
  | s :: r, seen => by
    have h1 := seeRow_length r (seeOne seen s)
    have h2 := seeOne_length seen s
    simp only [seeRow, List.length_cons]; omega
/-! ### what two rows have in common -/
/-- How long the longest common row is. -/
def lcsN : List Nat → List Nat → Nat
  | [], _ => 0
  | _ :: _, [] => 0
  | a :: s, b :: t => if a = b then lcsN s t + 1 else max (lcsN s (b :: t)) (lcsN (a :: s) t)
termination_by a b => a.length + b.length
theorem lcsN_nil (b : List Nat) : lcsN [] b = 0 := by unfold lcsN; rfl
theorem lcsN_nil' (a : List Nat) : lcsN a [] = 0 := by cases a <;> (unfold lcsN; rfl)
theorem lcsN_cons (a b : Nat) (s t : List Nat) : lcsN (a :: s) (b :: t) = if a = b then lcsN s t + 1 else max (lcsN s (b :: t)) (lcsN (a :: s) t) := by
  conv => lhs; unfold lcsN
theorem lcsN_le : ∀ (n : Nat) (a b : List Nat), a.length + b.length ≤ n → lcsN a b ≤ a.length
  | 0, [], b, _ => by simp [lcsN_nil]
  | 0, _ :: _, _, h => by simp at h
  | n + 1, [], b, _ => by simp [lcsN_nil]
  | n + 1, x :: s, [], _ => by simp [lcsN_nil']
  | n + 1, x :: s, y :: t, h => by
    simp only [List.length_cons] at h
    rw [lcsN_cons]
    split
    · have := lcsN_le n s t (by omega)
      simp; omega
    · have h1 := lcsN_le n s (y :: t) (by simp; omega)
      have h2 := lcsN_le n (x :: s) t (by simp; omega)
      simp only [List.length_cons] at h2 ⊢
      omega

/-- Each thing's match, from a place of the other row on; below 0: none. -/
def matchW : List Nat → List Nat → Nat → List Int
  | [], _, _ => []
  | x :: s, [], _ => List.replicate (s.length + 1) (-1)
  | x :: s, y :: t, k => if x = y then (k : Int) :: matchW s t (k + 1) else if lcsN (x :: s) t ≤ lcsN s (y :: t) then -1 :: matchW s (y :: t) k else matchW (x :: s) t (k + 1)
termination_by a b => a.length + b.length
/-- How far two rows begin alike. -/
def headN : List Nat → List Nat → Nat
  | a :: s, b :: t => if a = b then headN s t + 1 else 0
  | _, _ => 0
/-- .. and end alike, behind that. -/
def tailN (a b : List Nat) : Nat := headN ((a.drop (headN a b)).reverse) ((b.drop (headN a b)).reverse)
/-- The matches of rows that are too long. -/
def matchB (a b : List Nat) : List Int :=
  (List.range a.length).map fun i => if i < headN a b then (i : Int) else if a.length - tailN a b ≤ i then (i : Int) - a.length + b.length else -1
def matchL (a b : List Nat) : List Int := if 2000 < a.length ∨ 2000 < b.length then matchB a b else matchW a b 0

/-- What a row of matches is: increasing, within the other row. -/
structure Rising (m : List Int) (lo hi : Nat) : Prop where
  low : ∀ (i : Nat) (v : Int), m[i]? = some v → 0 ≤ v → (lo : Int) ≤ v ∧ v < hi
  up : ∀ (i j : Nat) (v u : Int), i < j → m[i]? = some v → m[j]? = some u → 0 ≤ v → 0 ≤ u → v < u
theorem Rising.none (n : Nat) (lo hi : Nat) : Rising (List.replicate n (-1)) lo hi := by
  constructor
  · intro i v h hv
    rw [List.getElem?_replicate] at h
    split at h <;> simp at h
    omega
  · intro i j v u _ h _ hv
    rw [List.getElem?_replicate] at h
    split at h <;> simp at h
    omega
theorem Rising.skip {m : List Int} {lo hi : Nat} (h : Rising m lo hi) : Rising (-1 :: m) lo hi := by
  constructor
  · intro i v hi hv
    cases i with
    | zero => simp at hi; omega
    | succ i => exact h.low i v (by simpa using hi) hv
  · intro i j v u hij hi hj hv hu
    cases i with
    | zero => simp at hi; omega
    | succ i =>
      cases j with
      | zero => omega
      | succ j => exact h.up i j v u (by omega) (by simpa using hi) (by simpa using hj) hv hu
theorem Rising.hit {m : List Int} {lo hi : Nat} (h : Rising m (lo + 1) hi) (hl : lo < hi) : Rising ((lo : Int) :: m) lo hi := by
  constructor
  · intro i v hi hv
    cases i with
    | zero => simp at hi; omega
    | succ i => have := h.low i v (by simpa using hi) hv; omega
  · intro i j v u hij hi hj hv hu
    cases j with
    | zero => omega
    | succ j =>
      have h2 := h.low j u (by simpa using hj) hu
      cases i with
      | zero => simp at hi; omega
      | succ i => exact h.up i j v u (by omega) (by simpa using hi) (by simpa using hj) hv hu
theorem Rising.lower {m : List Int} {lo lo' hi : Nat} (h : Rising m lo hi) (hl : lo' ≤ lo) : Rising m lo' hi :=
  ⟨fun i v h1 h2 => by have := h.low i v h1 h2; omega, h.up⟩
theorem matchW_rising : ∀ (n : Nat) (a b : List Nat) (k : Nat), a.length + b.length ≤ n → Rising (matchW a b k) k (k + b.length) ∧ (matchW a b k).length = a.length
  | _, [], b, k, _ => by
    unfold matchW
    exact ⟨by have := Rising.none 0 k (k + b.length); simpa using this, rfl⟩
  | 0, _ :: _, _, _, h => by simp at h
  | n + 1, x :: s, [], k, _ => by
    unfold matchW
    exact ⟨Rising.none _ _ _, by simp⟩
  | n + 1, x :: s, y :: t, k, h => by
    simp only [List.length_cons] at h
    unfold matchW
    split
    · obtain ⟨h1, h2⟩ := matchW_rising n s t (k + 1) (by omega)
      refine ⟨Rising.hit ?_ (by simp), by simp [h2]⟩
      rw [List.length_cons, show k + (t.length + 1) = k + 1 + t.length by omega]
      exact h1
    · split
      · obtain ⟨h1, h2⟩ := matchW_rising n s (y :: t) k (by simp; omega)
        exact ⟨Rising.skip h1, by simp [h2]⟩
      · obtain ⟨h1, h2⟩ := matchW_rising n (x :: s) t (k + 1) (by simp; omega)
        refine ⟨?_, h2⟩
        rw [List.length_cons, show k + (t.length + 1) = k + 1 + t.length by omega]
        exact Rising.lower h1 (by omega)
theorem headN_le : ∀ (a b : List Nat), headN a b ≤ a.length ∧ headN a b ≤ b.length
  | [], b => by simp [headN]
  | _ :: _, [] => by simp [headN]
  | a :: s, b :: t => by
    unfold headN
    split
    · have := headN_le s t; simp; omega
    · simp
theorem tailN_le (a b : List Nat) : tailN a b ≤ a.length - headN a b ∧ tailN a b ≤ b.length - headN a b := by
  unfold tailN
  have := headN_le ((a.drop (headN a b)).reverse) ((b.drop (headN a b)).reverse)
  simpa using this
theorem matchB_rising (a b : List Nat) : Rising (matchB a b) 0 b.length ∧ (matchB a b).length = a.length := by
  have h1 := headN_le a b
  have h2 := tailN_le a b
  have get : ∀ i v, (matchB a b)[i]? = some v → i < a.length ∧ v = if i < headN a b then (i : Int) else if a.length - tailN a b ≤ i then (i : Int) - a.length + b.length else -1 := by
    intro i v h
    unfold matchB at h
    rw [List.getElem?_map] at h
    cases hr : (List.range a.length)[i]? with
    | none => rw [hr] at h; cases h
    | some j =>
      rw [hr] at h
      have hj := List.getElem?_eq_some_iff.1 hr
      obtain ⟨hl, hj⟩ := hj
      simp at hl hj
      subst hj
      exact ⟨hl, (Option.some.inj h).symm⟩
  refine ⟨⟨fun i v h hv => ?_, fun i j v u hij hi hj hv hu => ?_⟩, by simp [matchB]⟩
  · obtain ⟨hl, rfl⟩ := get i v h
    split
    · constructor <;> omega
    · rename_i hh
      rw [if_neg hh] at hv
      split
      · constructor <;> omega
      · rename_i h3; rw [if_neg h3] at hv; omega
  · obtain ⟨hl, rfl⟩ := get i v hi
    obtain ⟨hl', rfl⟩ := get j u hj
    split at hv <;> split at hu <;> (try split at hv) <;> (try split at hu) <;> (try omega) <;> simp_all <;> omega
theorem matchL_rising (a b : List Nat) : Rising (matchL a b) 0 b.length ∧ (matchL a b).length = a.length := by
  unfold matchL
  split
  · exact matchB_rising a b
  · have := matchW_rising _ a b 0 (Nat.le_refl _)
    simpa using this

end Go.Proofs.YtogfkfkejaiecaaGreatDoor.Da

namespace Go.Proofs.YtogfkfkejaiecaaGreatDoor.Db
open Pl Da
set_option linter.unusedVariables false
set_option linter.unusedSimpArgs false

structure Ck where
  kind : Nat
  o1 : Nat
  o2 : Nat
  a1 : Nat
  a2 : Nat
  b1 : Nat
  b2 : Nat
  deriving DecidableEq

/-- A part of a row. -/
def cutL {α : Type} (l : List α) (i j : Nat) : List α := (l.drop i).take (j - i)
def kindL (x y z : List Nat) : Nat :=
  if x = y then (if x = z then 0 else 2) else if x = z then 1 else if y = z then 3 else 4
/-- How long all three go on alike. -/
def stabN : List Int → List Int → Nat → Nat → Nat
  | x :: m, y :: m', q, s => if x = q ∧ y = s then stabN m m' (q + 1) (s + 1) + 1 else 0
  | _, _, _, _ => 0
/-- The next thing that both sides have. -/
def nextN : List Int → List Int → Nat → Option (Nat × Int × Int)
  | x :: m, y :: m', p => if 0 ≤ x ∧ 0 ≤ y then some (p, x, y) else nextN m m' (p + 1)
  | _, _, _ => none
/-- Where a chunk ends. -/
def stepC (ma mb : List Int) (lo la lb p q s : Nat) : Nat × Nat × Nat :=
  if 0 < stabN (ma.drop p) (mb.drop p) q s then (p + stabN (ma.drop p) (mb.drop p) q s, q + stabN (ma.drop p) (mb.drop p) q s, s + stabN (ma.drop p) (mb.drop p) q s)
  else match nextN (ma.drop p) (mb.drop p) p with
    | some (pe, x, y) => (pe, x.toNat, y.toNat)
    | none => (lo, la, lb)
def chunkGo (o a b : List Nat) : Nat → Nat → Nat → Nat → List Ck
  | 0, _, _, _ => []
  | f + 1, p, q, s =>
    if p = o.length ∧ q = a.length ∧ s = b.length then []
    else
      let t := stepC (matchL o a) (matchL o b) o.length a.length b.length p q s
      ⟨kindL (cutL o p t.1) (cutL a q t.2.1) (cutL b s t.2.2), p, t.1, q, t.2.1, s, t.2.2⟩ :: chunkGo o a b f t.1 t.2.1 t.2.2
def chunksL (o a b : List Nat) : List Ck := chunkGo o a b (o.length + a.length + b.length) 0 0 0

/-- Where a walk over the chunks may stand. -/
structure AtC (o a b : List Nat) (p q s : Nat) : Prop where
  po : p ≤ o.length
  qa : q ≤ a.length
  sb : s ≤ b.length
  ma : ∀ (i : Nat) (v : Int), p ≤ i → (matchL o a)[i]? = some v → 0 ≤ v → (q : Int) ≤ v
  mb : ∀ (i : Nat) (v : Int), p ≤ i → (matchL o b)[i]? = some v → 0 ≤ v → (s : Int) ≤ v
theorem AtC.start (o a b : List Nat) : AtC o a b 0 0 0 := ⟨Nat.zero_le _, Nat.zero_le _, Nat.zero_le _, fun _ _ _ _ h => h, fun _ _ _ _ h => h⟩

theorem stabN_spec : ∀ (m m' : List Int) (q s : Nat), stabN m m' q s ≤ m.length ∧ stabN m m' q s ≤ m'.length ∧ (∀ i, i < stabN m m' q s → m[i]? = some ((q : Int) + i) ∧ m'[i]? = some ((s : Int) + i)) ∧
    ¬ (m[stabN m m' q s]? = some ((q : Int) + stabN m m' q s) ∧ m'[stabN m m' q s]? = some ((s : Int) + stabN m m' q s))
  | [], m', q, s => by simp [stabN]
  | x :: m, [], q, s => by simp [stabN]
  | x :: m, y :: m', q, s => by
    unfold stabN
    split
    · rename_i h
      obtain ⟨rfl, rfl⟩ := h
      obtain ⟨h1, h2, h3, h4⟩ := stabN_spec m m' (q + 1) (s + 1)
      refine ⟨by simp; omega, by simp; omega, fun i hi => ?_, fun hc => h4 ?_⟩
      · cases i with
        | zero => simp
        | succ i =>
          have := h3 i (by omega)
          simp only [List.getElem?_cons_succ]
          rw [this.1, this.2]
          constructor <;> (congr 1; push_cast; omega)
      · obtain ⟨c1, c2⟩ := hc
        simp only [List.getElem?_cons_succ] at c1 c2
        rw [c1, c2]
        constructor <;> (congr 1; push_cast; omega)
    · rename_i h
      refine ⟨by simp, by simp, fun i hi => by omega, fun hc => h ?_⟩
      simpa using hc
theorem nextN_some : ∀ (m m' : List Int) (p pe : Nat) (x y : Int), nextN m m' p = some (pe, x, y) → p ≤ pe ∧ m[pe - p]? = some x ∧ m'[pe - p]? = some y ∧ 0 ≤ x ∧ 0 ≤ y
  | [], m', p, pe, x, y, h => by simp [nextN] at h
  | _ :: _, [], p, pe, x, y, h => by simp [nextN] at h
  | u :: m, v :: m', p, pe, x, y, h => by
    unfold nextN at h
    split at h
    · rename_i hc
      cases h
      simp [hc.1, hc.2]
    · obtain ⟨h1, h2, h3, h4⟩ := nextN_some m m' (p + 1) pe x y h
      have e : pe - p = (pe - (p + 1)) + 1 := by omega
      exact ⟨by omega, by rw [e]; simpa using h2, by rw [e]; simpa using h3, h4⟩
/-- A chunk's end stands, and it is further on. -/
theorem stepC_at {o a b : List Nat} {p q s : Nat} (h : AtC o a b p q s) (hne : ¬ (p = o.length ∧ q = a.length ∧ s = b.length)) :
    ∃ t : Nat × Nat × Nat, t = stepC (matchL o a) (matchL o b) o.length a.length b.length p q s ∧ AtC o a b t.1 t.2.1 t.2.2 ∧ p ≤ t.1 ∧ q ≤ t.2.1 ∧ s ≤ t.2.2 ∧ p + q + s < t.1 + t.2.1 + t.2.2 := by
  obtain ⟨hpo, hqa, hsb, hma, hmb⟩ := h
  obtain ⟨ra, la⟩ := matchL_rising o a
  obtain ⟨rb, lb⟩ := matchL_rising o b
  obtain ⟨s1, s2, s3, s4⟩ := stabN_spec ((matchL o a).drop p) ((matchL o b).drop p) q s
  refine ⟨_, rfl, ?_⟩
  unfold stepC
  generalize hn : stabN ((matchL o a).drop p) ((matchL o b).drop p) q s = n at *
  rw [List.length_drop, la] at s1
  rw [List.length_drop, lb] at s2
  by_cases hn0 : 0 < n
  · rw [if_pos hn0]
    obtain ⟨e1, e2⟩ := s3 (n - 1) (by omega)
    rw [List.getElem?_drop] at e1 e2
    have b1 := ra.low _ _ e1 (by omega)
    have b2 := rb.low _ _ e2 (by omega)
    refine ⟨⟨by simp only; omega, by simp only; omega, by simp only; omega, fun i v hi hv h0 => ?_, fun i v hi hv h0 => ?_⟩, by simp only; omega, by simp only; omega, by simp only; omega, by simp only; omega⟩
    · simp only at hi ⊢
      have := ra.up (p + (n - 1)) i _ v (by omega) e1 hv (by omega) h0
      omega
    · simp only at hi ⊢
      have := rb.up (p + (n - 1)) i _ v (by omega) e2 hv (by omega) h0
      omega
  · rw [if_neg hn0]
    have hn1 : n = 0 := by omega
    cases hx : nextN ((matchL o a).drop p) ((matchL o b).drop p) p with
    | none =>
      simp only
      refine ⟨⟨Nat.le_refl _, Nat.le_refl _, Nat.le_refl _, fun i v hi hv _ => ?_, fun i v hi hv _ => ?_⟩, hpo, hqa, hsb, by omega⟩
      · have := (List.getElem?_eq_some_iff.1 hv).1; omega
      · have := (List.getElem?_eq_some_iff.1 hv).1; omega
    | some r =>
      obtain ⟨pe, x, y⟩ := r
      simp only
      obtain ⟨n1, n2, n3, n4, n5⟩ := nextN_some _ _ _ _ _ _ hx
      rw [List.getElem?_drop] at n2 n3
      rw [show p + (pe - p) = pe by omega] at n2 n3
      have b1 := ra.low _ _ n2 n4
      have b2 := rb.low _ _ n3 n5
      have g1 := hma pe x n1 n2 n4
      have g2 := hmb pe y n1 n3 n5
      have hpe := (List.getElem?_eq_some_iff.1 n2).1
      refine ⟨⟨by omega, by omega, by omega, fun i v hi hv h0 => ?_, fun i v hi hv h0 => ?_⟩, n1, by omega, by omega, ?_⟩
      · rcases Nat.lt_or_ge pe i with h | h
        · have := ra.up pe i x v h n2 hv n4 h0; omega
        · obtain rfl : i = pe := by omega
          rw [n2] at hv; cases hv; omega
      · rcases Nat.lt_or_ge pe i with h | h
        · have := rb.up pe i y v h n3 hv n5 h0; omega
        · obtain rfl : i = pe := by omega
          rw [n3] at hv; cases hv; omega
      · by_cases hpp : pe = p
        · subst hpp
          rcases Nat.lt_or_ge q x.toNat with h | h
          · omega
          · rcases Nat.lt_or_ge s y.toNat with h' | h'
            · omega
            · exfalso
              apply s4
              subst hn1
              rw [List.getElem?_drop, List.getElem?_drop]
              simp only [Nat.add_zero, Int.natCast_zero, Int.add_zero]
              rw [n2, n3]
              constructor <;> (congr 1; omega)
        · omega

/-! ### parts -/
def joinL (l : List Str) : Str := l.flatten
def partOf (o a b : List Str) (c : Ck) : Part :=
  if c.kind = 4 then ⟨true, joinL (cutL o c.o1 c.o2), joinL (cutL a c.a1 c.a2), joinL (cutL b c.b1 c.b2)⟩
  else if c.kind = 2 then ⟨false, joinL (cutL o c.o1 c.o2), joinL (cutL b c.b1 c.b2), joinL (cutL b c.b1 c.b2)⟩
  else ⟨false, joinL (cutL o c.o1 c.o2), joinL (cutL a c.a1 c.a2), joinL (cutL a c.a1 c.a2)⟩
def addPart (out : List Part) (p : Part) : List Part :=
  match out.getLast? with
  | some l => if p.clash = false ∧ l.clash = false then out.dropLast ++ [⟨false, l.o ++ p.o, l.a ++ p.a, l.b ++ p.b⟩] else out ++ [p]
  | none => out ++ [p]
def partsL (o a b : List Str) : List Part :=
  match numRows [] [o, a, b] with
  | [x, y, z] => (chunksL x y z).foldl (fun out c => addPart out (partOf o a b c)) []
  | _ => []
/-- Three texts as one, line by line. -/
def linesL (o a b : Str) : List Part := partsL (splitL o) (splitL a) (splitL b)

end Go.Proofs.YtogfkfkejaiecaaGreatDoor.Db

namespace Go.Proofs.YtogfkfkejaiecaaGreatDoor.Bl
open Go.RowKit Go.Shelf Pl Ut Go.Proofs.YtogfkfkejaiecaaGreatDoorW.PrintWords

/-- Block b (of b from Bs on) holds the cells cs of type T; the two at off are a builder that holds l. -/
structure Bld (T : TypeId) (Bs b off : Nat) (cs : Array Value) (l : Str) (w : World) : Prop where
  base : Bs ≤ b
  neT : T ≠ 5
  blk : w.heap[b]? = some (.cells cs T (0, 0))
  addr : cs[off]? = some (.pointer none) ∨ cs[off]? = some (.pointer (some ⟨b, off, none⟩))
  buf : ∃ v, cs[off + 1]? = some v ∧ w.ownsRowF Bs 5 1 v l.length (Lib.byteCells l)

section
variable {T : TypeId} {Bs b off : Nat} {cs : Array Value} {l : Str} {w w' : World}
theorem Bld.lt (h : Bld T Bs b off cs l w) : b < w.heap.size := (Array.getElem?_eq_some_iff.1 h.blk).1
theorem Bld.cell (h : Bld T Bs b off cs l w) (j : Nat) : w.cell? ⟨b, j, none⟩ = cs[j]? := cell_of_row w b j cs T (0, 0) h.blk
theorem Bld.frozen (h : Bld T Bs b off cs l w) (j : Nat) : w.frozen? ⟨b, j, none⟩ = false := by simp [World.frozen?, h.blk]
theorem Bld.below (h : Bld T Bs b off cs l w) (hb : Below w.heap.size w w') : Bld T Bs b off cs l w' := by
  obtain ⟨h1, h2, h3, h4, v, hv, ho⟩ := h
  exact ⟨h1, h2, (hb.block b (Array.getElem?_eq_some_iff.1 h3).1).trans h3, h4, v, hv, ho.kept (grown_of_below hb none) (by cases hv : v.ownBlock <;> simp)⟩
theorem blk_setCell {cs : Array Value} (h : w.heap[b]? = some (.cells cs T (0, 0))) (j : Nat) (u : Value) : (w.setCell ⟨b, j, none⟩ u).heap[b]? = some (.cells (cs.setIfInBounds j u) T (0, 0)) := by
  simp [World.setCell, Array.getElem?_modify, h]
/-- A store into the block, beside the builder's two cells. -/
theorem Bld.put (h : Bld T Bs b off cs l w) {j : Nat} (h1 : j ≠ off) (h2 : j ≠ off + 1) (u : Value) : Bld T Bs b off (cs.setIfInBounds j u) l (w.setCell ⟨b, j, none⟩ u) := by
  obtain ⟨hb, hT, hk, ha, v, hv, ho⟩ := h
  refine ⟨hb, hT, blk_setCell hk j u, ?_, v, ?_, ?_⟩
  · rw [Array.getElem?_setIfInBounds_ne h1]; exact ha
  · rw [Array.getElem?_setIfInBounds_ne h2]; exact hv
  · refine ho.kept (row := some b) ⟨rfl, rfl, rfl, by simp [World.setCell], fun k _ hk => Below.heap_setCell _ _ _ _ (fun e => hk (by simp [e]))⟩ (.inr ?_)
    exact Lib.ownBlock_neF ho hk hT
end

theorem infoB : (Tryz.prog.info? 81).map (·.size) = some 2 := by kernel_rfl
theorem infoU : (Tryz.prog.info? 5).map (fun i => (i.zero, i.size, i.bytes)) = some (some (.int .u8 0), 1, 1) := by kernel_rfl
theorem cellsU : Tryz.prog.cellsOf 5 = 1 := by kernel_rfl

theorem addr_off (b off j : Nat) : (⟨b, off, none⟩ : Addr).add j = ⟨b, off + j, none⟩ := by unfold Addr.add; split <;> simp_all
attribute [local go_sem] addr_off

theorem set_same {cs : Array Value} {i : Nat} {v : Value} (h : cs[i]? = some v) : cs.setIfInBounds i v = cs := by
  apply Array.ext_getElem?
  intro j
  by_cases e : i = j
  · subst e
    rw [Array.getElem?_setIfInBounds_self_of_lt (Array.getElem?_eq_some_iff.1 h).1, h]
  · rw [Array.getElem?_setIfInBounds_ne e]

set_option maxHeartbeats 1000000 in
set_option maxRecDepth 100000 in
theorem copyCheck_used (b off : Nat) (w : World) (h0 : w.cell? ⟨b, off, none⟩ = some (.pointer (some ⟨b, off, none⟩))) :
    Calls Tryz.prog 70 #[.pointer (some ⟨b, off, none⟩)] w fun e w' => e = .returned (.tuple #[]) ∧ w' = w := by
  obtain ⟨j, hj, _⟩ := Option.map_eq_some_iff.1 infoB
  go_enter Tryz.func70, Tryz.ntmps70
  go_wp2
  rw [Lib.run_neq_ptr_same w _ Tryz.underlying78 hj]
  go_wp2
  go_end0
  exact ⟨rfl, rfl⟩

set_option maxHeartbeats 1000000 in
set_option maxRecDepth 100000 in
theorem copyCheck_fresh (T n b off : Nat) (w : World) (hl : liesAt Tryz.prog Tryz.prog.depth T (n / Tryz.prog.cellsOf T) off 81 1 = true) (hn : off < n)
    (h0 : w.cell? ⟨b, off, none⟩ = some (.pointer none)) (hsh : w.shape? b = some (T, n)) (hfz : w.frozen? ⟨b, off, none⟩ = false) :
    Calls Tryz.prog 70 #[.pointer (some ⟨b, off, none⟩)] w fun e w' => e = .returned (.tuple #[]) ∧ w' = w.setCell ⟨b, off, none⟩ (.pointer (some ⟨b, off, none⟩)) := by
  obtain ⟨j, hj, hjs⟩ := Option.map_eq_some_iff.1 infoB
  go_enter Tryz.func70, Tryz.ntmps70
  go_wp2
  rw [Lib.run_to_unsafe w ⟨b, off, none⟩ Tryz.underlying78 Tryz.underlying142 hj (by rw [hjs]; decide) hsh hn]
  simp only [Result.andThen]
  rw [Oper.upon_value]
  go_wp2
  rw [run_callFunc_extern Tryz.func89 (by kernel_rfl) (by kernel_rfl) (by kernel_rfl) (e := Extern.AbiNoEscape.same) (by kernel_rfl)]
  rw [Lib.run_noEscape]
  simp only [Result.andThen]
  rw [Oper.upon_value]
  go_wp2
  rw [Lib.run_from_unsafe w ⟨b, off, none⟩ Tryz.underlying142 Tryz.underlying78 hj hsh hl]
  simp only [Result.andThen]
  rw [Oper.upon_value]
  go_wp2
  go_end0
  exact ⟨rfl, rfl⟩

theorem copyCheck_any {T Bs b off : Nat} {cs : Array Value} {l : Str} {w : World} (h : Bld T Bs b off cs l w) (hl : liesAt Tryz.prog Tryz.prog.depth T (cs.size / Tryz.prog.cellsOf T) off 81 1 = true) :
    Calls Tryz.prog 70 #[.pointer (some ⟨b, off, none⟩)] w fun e w' => e = .returned (.tuple #[]) ∧ Bld T Bs b off (cs.setIfInBounds off (.pointer (some ⟨b, off, none⟩))) l w' ∧
      Below Bs w w' ∧ Lib.OthersKept 5 (some b) w w' := by
  rcases h.addr with ha | ha
  · have hlt : off < cs.size := (Array.getElem?_eq_some_iff.1 ha).1
    refine (copyCheck_fresh T cs.size b off w hl hlt (by rw [h.cell, ha]) (by simp [World.shape?, h.blk]) (h.frozen _)).mono ?_
    rintro e w' ⟨rfl, rfl⟩
    obtain ⟨hb, hT, hk, _, v, hv, ho⟩ := h
    refine ⟨rfl, ⟨hb, hT, blk_setCell hk _ _, .inr (by rw [Array.getElem?_setIfInBounds_self_of_lt hlt]), v, by rw [Array.getElem?_setIfInBounds_ne (by omega)]; exact hv, ?_⟩, (Below.refl _ _).setCell (p := ⟨b, off, none⟩) hb _, (Lib.OthersKept.refl _ _ w).setCell ⟨b, off, none⟩ rfl _⟩
    exact ho.kept (row := some b) ⟨rfl, rfl, rfl, by simp [World.setCell], fun k _ hk => Below.heap_setCell _ _ _ _ (fun e => hk (by simp [e]))⟩ (.inr (Lib.ownBlock_neF ho hk hT))
  · refine (copyCheck_used b off w (by rw [h.cell, ha])).mono ?_
    rintro e w' ⟨rfl, rfl⟩
    rw [set_same ha]
    exact ⟨rfl, h, Below.refl _ _, Lib.OthersKept.refl _ _ _⟩

theorem ownF_slice {w : World} {base : Nat} {e : TypeId} {size n : Nat} {v : Value} {xs : List Value} (h : w.ownsRowF base e size v n xs) : ∃ A c, v = .slice A n c := by
  rcases h.2 with ⟨rfl, rfl⟩ | ⟨g, cap, cur, fz, rfl, _⟩
  · exact ⟨_, _, rfl⟩
  · exact ⟨_, _, rfl⟩

set_option maxHeartbeats 2000000 in
set_option maxRecDepth 100000 in
theorem writeString_any {T Bs b off : Nat} {cs : Array Value} {l : Str} (s : Str) {w : World} (h : Bld T Bs b off cs l w) (hl : liesAt Tryz.prog Tryz.prog.depth T (cs.size / Tryz.prog.cellsOf T) off 81 1 = true)
    (hlen : l.length + s.length ≤ 140737488355328) (hBw : Bs ≤ w.heap.size) :
    Calls Tryz.prog 47 #[.pointer (some ⟨b, off, none⟩), .string (B s)] w fun e w' => e = .returned (.tuple #[.int .i64 s.length, .nilIface]) ∧
      (∃ v', Bld T Bs b off ((cs.setIfInBounds off (.pointer (some ⟨b, off, none⟩))).setIfInBounds (off + 1) v') (l ++ s) w') ∧ Below Bs w w' ∧ Lib.OthersKept 5 (some b) w w' := by
  obtain ⟨i0, hi, hz0, hz1, hz2⟩ := info_parts infoU
  go_enter Tryz.func47, Tryz.ntmps47
  go_wp2_with (go_at_call 70; refine (copyCheck_any h hl).mono ?_)
  rintro e w1 ⟨rfl, h1, hb1, hk1⟩
  obtain ⟨ds, hds⟩ : ∃ ds, ds = cs.setIfInBounds off (.pointer (some ⟨b, off, none⟩)) := ⟨_, rfl⟩
  rw [← hds] at h1
  have HDS := Lib.hid hds
  clear hds
  have c0 := h1.cell off
  have c1 := h1.cell (off + 1)
  have hlt := h1.lt
  obtain ⟨hB, hT, hbk, ha, v, hv, hown⟩ := h1
  rw [hv] at c1
  have hds1 : off + 1 < ds.size := (Array.getElem?_eq_some_iff.1 hv).1
  have hne := Lib.ownBlock_neF hown hbk hT
  clear c0 ha
  go_wp2_with (at_builtin; refine Lib.wpList_append_own_stringF _ rfl _ _ 79 9 rfl Bs 5 i0 Tryz.underlying79 Tryz.underlying9 hi hz0 hz1 hz2 _ _ _ rfl hown (B s) rfl ?c3 ?c4 ?c5 ?_)
  case c3 => unfold maxLen; rw [B_size]; omega
  case c4 => rw [B_size]; omega
  case c5 => have := hb1.size; omega
  intro v' w2 hown' hgrow _
  have hb2 : w2.heap[b]? = some (.cells ds T (0, 0)) := by
    rw [hgrow.block b hlt (fun e => hne e.symm)]
    exact hbk
  have d1 : w2.cell? ⟨b, off + 1, none⟩ = some v := by rw [cell_of_row w2 b _ ds T (0, 0) hb2]; exact hv
  have f1 : w2.frozen? ⟨b, off + 1, none⟩ = false := by simp [World.frozen?, hb2]
  obtain ⟨ao, cap, rfl⟩ := ownF_slice hown'
  have hneb := Lib.ownBlock_neF hown' hb2 hT
  have HV := Lib.hid hv
  have HB2 := Lib.hid hb2
  clear hv hb2
  go_wp2
  go_ret2
  refine ⟨by simp, ⟨_, hB, hT, by rw [← HDS.out]; exact blk_setCell HB2.out _ _, .inr ?_, .slice ao (l.length + s.length) cap, ?_, ?_⟩, ?_, ?_⟩
  · rw [← HDS.out, Array.getElem?_setIfInBounds_ne (by omega), HDS.out, Array.getElem?_setIfInBounds_self_of_lt (by have := congrArg Array.size HDS.out; simp at this; omega)]
  · rw [← HDS.out, Array.getElem?_setIfInBounds_self_of_lt hds1]
  · have ho : w2.ownsRowF Bs 5 1 (.slice ao (l.length + s.length) cap) (l ++ s).length (Lib.byteCells (l ++ s)) := by
      rw [Lib.byteCells_append, List.length_append]; exact hown'
    exact ho.kept (row := some b) ⟨rfl, rfl, rfl, by simp [World.setCell], fun k _ hk => Below.heap_setCell _ _ _ _ (fun e => hk (by simp [e]))⟩ (.inr hneb)
  · exact (hb1.grown hgrow (by have := hb1.size; omega) (fun k hk => (hown.lt k hk).1)).setCell (p := ⟨b, off + 1, none⟩) hB _
  · exact (hk1.grown hgrow (fun g hg => Lib.ownsRowF_kind hown g hg)).setCell ⟨b, off + 1, none⟩ rfl _

set_option maxHeartbeats 1000000 in
theorem reset_any {T Bs b off : Nat} {cs : Array Value} {l : Str} {w : World} (h : Bld T Bs b off cs l w) :
    Calls Tryz.prog 90 #[.pointer (some ⟨b, off, none⟩)] w fun e w' => e = .returned (.tuple #[]) ∧
      Bld T Bs b off ((cs.setIfInBounds off (.pointer none)).setIfInBounds (off + 1) (.slice none 0 0)) [] w' ∧ Below Bs w w' ∧ Lib.OthersKept 5 (some b) w w' := by
  obtain ⟨hB, hT, hbk, ha, v, hv, hown⟩ := h
  have hlt1 : off + 1 < cs.size := (Array.getElem?_eq_some_iff.1 hv).1
  obtain ⟨p0, hp0⟩ : ∃ p0, cs[off]? = some p0 := ⟨cs[off]'(by omega), Array.getElem?_eq_getElem (by omega)⟩
  have c0 : w.cell? ⟨b, off, none⟩ = some p0 := by rw [cell_of_row w b _ cs T (0, 0) hbk]; exact hp0
  have c1 : w.cell? ⟨b, off + 1, none⟩ = some v := by rw [cell_of_row w b _ cs T (0, 0) hbk]; exact hv
  have f0 : w.frozen? ⟨b, off, none⟩ = false := by simp [World.frozen?, hbk]
  have f1 : w.frozen? ⟨b, off + 1, none⟩ = false := by simp [World.frozen?, hbk]
  clear ha hown
  have HBK := Lib.hid hbk
  have HV := Lib.hid hv
  clear hbk hv hp0
  go_enter Tryz.func90, Tryz.ntmps90
  go_wp2
  go_end0
  refine ⟨rfl, ⟨hB, hT, blk_setCell (blk_setCell HBK.out _ _) _ _, .inl ?_, _, ?_, World.ownsRowF_nil _ _ _ _⟩, ?_, ?_⟩
  · rw [Array.getElem?_setIfInBounds_ne (by omega), Array.getElem?_setIfInBounds_self_of_lt (by omega)]
  · rw [Array.getElem?_setIfInBounds_self_of_lt (by simpa using hlt1)]
  · exact ((Below.refl _ _).setCell (p := ⟨b, off, none⟩) hB _).setCell (p := ⟨b, off + 1, none⟩) hB _
  · exact ((Lib.OthersKept.refl _ _ _).setCell ⟨b, off, none⟩ rfl _).setCell ⟨b, off + 1, none⟩ rfl _

theorem ownF_froze {w : World} {base : Nat} {e : TypeId} {g n cap : Nat} {xs : List Value} (h : w.ownsRowF base e 1 (.slice (some ⟨g, 0, none⟩) n cap) n xs) : (w.freeze ⟨g, 0, none⟩ n).ownsRowF base e 1 (.slice (some ⟨g, 0, none⟩) n cap) n xs := by
  unfold World.freeze
  split
  · exact h
  · rename_i hn0
    refine ⟨h.1, ?_⟩
    rcases h.2 with ⟨hv, _⟩ | ⟨g', cap', cur, fz, hv, hbg, hg, hfz, rest⟩
    · cases hv
    · injection hv with ha _ hcap
      injection ha with ha
      injection ha with hgg _ _
      subst hgg
      subst hcap
      obtain ⟨lo, hi⟩ := fz
      refine .inr ⟨g, _, cur, (if lo == hi then (0, 0 + n) else (min lo 0, max hi (0 + n))), rfl, hbg, ?_, ?_, rest⟩
      · simp [Array.getElem?_modify, hg]
      · simp only at hfz
        split <;> simp <;> omega

theorem Bld.froze {T : TypeId} {Bs b off g cap : Nat} {cs : Array Value} {l : Str} {w : World} (h : Bld T Bs b off cs l w) (hc : cs[off + 1]? = some (.slice (some ⟨g, 0, none⟩) l.length cap)) : Bld T Bs b off cs l (w.freeze ⟨g, 0, none⟩ l.length) := by
  obtain ⟨hB, hT, hbk, ha, v, hv, ho⟩ := h
  rw [hc] at hv
  cases hv
  have hne := Lib.ownBlock_neF ho hbk hT
  have hgb : g ≠ b := fun e => hne (by simp [Value.ownBlock, e])
  refine ⟨hB, hT, ?_, ha, _, hc, ownF_froze ho⟩
  unfold World.freeze
  split
  · exact hbk
  · simp only [Array.getElem?_modify]
    rw [if_neg hgb]
    exact hbk

theorem unsafeString_none (W : World) (q : Option Addr) : (Builtin.unsafeString_ #[122, 3] 9 #[.pointer q, .int .i64 0]).run Tryz.prog W = .ok (.string .empty) W :=
  Lib.run_unsafeString_none W _ _ _ q

set_option maxHeartbeats 1000000 in
set_option maxRecDepth 100000 in
theorem string_some {T Bs b off : Nat} {cs : Array Value} {l : Str} {w : World} (h : Bld T Bs b off cs l w) (h0 : l ≠ []) :
    Calls Tryz.prog 50 #[.pointer (some ⟨b, off, none⟩)] w fun e w' => e = .returned (.string (B l)) ∧ Bld T Bs b off cs l w' ∧ Below Bs w w' ∧ Lib.OthersKept 5 (some b) w w' := by
  have hl0 : l.length ≠ 0 := by simpa using h0
  have h' := h
  obtain ⟨hB, hT, hbk, ha, v, hv, hown⟩ := h'
  obtain ⟨g, cap, cur, fz, rfl, hbg, hg, hfz, hnc, hcm, hcs, htake⟩ : ∃ g cap cur fz, v = .slice (some ⟨g, 0, none⟩) l.length cap ∧ Bs ≤ g ∧ w.heap[g]? = some (.cells cur 5 fz) ∧ fz.2 ≤ l.length * 1 ∧ l.length ≤ cap ∧ cap ≤ maxLen ∧ cur.size = cap * 1 ∧ cur.toList.take (l.length * 1) = Lib.byteCells l := by
    rcases hown.2 with ⟨_, hz⟩ | ⟨g, cap, cur, fz, hv, r⟩
    · exact absurd hz hl0
    · exact ⟨g, cap, cur, fz, hv, r⟩
  have c1 : w.drew.cell? ⟨b, off + 1, none⟩ = some (.slice (some ⟨g, 0, none⟩) l.length cap) := by
    have : w.drew.heap[b]? = some (.cells cs T (0, 0)) := hbk
    rw [cell_of_row w.drew b _ cs T (0, 0) this]; exact hv
  have hSD : (Builtin.unsafeSliceData_ #[79] 122 #[.slice (some ⟨g, 0, none⟩) l.length cap]).run Tryz.prog w.drew = .ok (.pointer (some ⟨g, 0, none⟩)) w.drew :=
    Lib.run_unsafeSliceData_row _ _ _ _ _ _ (by omega)
  have hUS : (Builtin.unsafeString_ #[122, 3] 9 #[.pointer (some ⟨g, 0, none⟩), .int .i64 l.length]).run Tryz.prog w.drew = .ok (.string ⟨l.toArray⟩) (w.drew.freeze ⟨g, 0, none⟩ l.length) := by
    refine Lib.run_unsafeString_row w.drew 122 3 9 5 Tryz.underlying122 cellsU g cur.size (by have hg' : w.drew.heap[g]? = some (.cells cur 5 fz) := hg; simp [World.shape?, hg']) l h0 (by omega) (by unfold maxLen at hcm; omega) ?_
    intro j x hx
    have := hown.cells (g := g) rfl j (.int .u8 x.toNat) (by simp [Lib.byteCells, hx])
    exact this
  have hkeep : Bld T Bs b off cs l (w.drew.freeze ⟨g, 0, none⟩ l.length) := Bld.froze (w := w.drew) ⟨hB, hT, hbk, ha, _, hv, hown⟩ hv
  have hok : Lib.OthersKept 5 (some b) w (w.drew.freeze ⟨g, 0, none⟩ l.length) := (Lib.OthersKept.refl _ _ w).drew.freeze ⟨g, 0, none⟩ _ ⟨_, _, hg⟩
  have hbl : Below Bs w (w.drew.freeze ⟨g, 0, none⟩ l.length) := Lib.below_freeze (Below.drew (Below.refl Bs w)) (p := ⟨g, 0, none⟩) hbg _
  clear hown htake hfz hg hbk ha hv h
  have HK := Lib.hid hkeep
  have HO := Lib.hid hok
  have HB := Lib.hid hbl
  clear hkeep hok hbl
  go_enter Tryz.func50, Tryz.ntmps50
  go_wp2
  go_region
  all_goals (go_wp2; go_ret; exact ⟨rfl, HK.out, HB.out, HO.out⟩)

set_option maxHeartbeats 2000000 in
set_option maxRecDepth 100000 in
theorem string_none {T Bs b off : Nat} {cs : Array Value} {w : World} (h : Bld T Bs b off cs [] w) (hBw : Bs ≤ w.heap.size) :
    Calls Tryz.prog 50 #[.pointer (some ⟨b, off, none⟩)] w fun e w' => e = .returned (.string (B [])) ∧ Bld T Bs b off cs [] w' ∧ Below Bs w w' ∧ Lib.OthersKept 5 (some b) w w' := by
  have hlt := h.lt
  have hUS := unsafeString_none
  have HH := Lib.hid h
  obtain ⟨hB, hT, hbk, ha, v, hv, hown⟩ := h
  have HBW := Lib.hid hBw
  rcases hown.2 with ⟨rfl, _⟩ | ⟨g, cap, cur, fz, rfl, hbg, hg, _, _, _, _, _⟩
  · have c1 : w.drew.cell? ⟨b, off + 1, none⟩ = some (.slice none 0 0) := by
      have : w.drew.heap[b]? = some (.cells cs T (0, 0)) := hbk
      rw [cell_of_row w.drew b _ cs T (0, 0) this]; exact hv
    have hSD : (Builtin.unsafeSliceData_ #[79] 122 #[.slice none 0 0]).run Tryz.prog w.drew = .ok (.pointer none) w.drew := rfl
    clear hown hbk ha hv
    go_enter Tryz.func50, Tryz.ntmps50
    go_wp2
    go_region
    all_goals (go_wp2; go_ret; exact ⟨rfl, HH.out.below (Below.refl _ _).drew, (Below.refl _ _).drew, (Lib.OthersKept.refl _ _ w).drew⟩)
  · by_cases hc0 : cap = 0
    · subst hc0
      have c1 : w.drew.cell? ⟨b, off + 1, none⟩ = some (.slice (some ⟨g, 0, none⟩) 0 0) := by
        have : w.drew.heap[b]? = some (.cells cs T (0, 0)) := hbk
        rw [cell_of_row w.drew b _ cs T (0, 0) this]; exact hv
      have hSD : (Builtin.unsafeSliceData_ #[79] 122 #[.slice (some ⟨g, 0, none⟩) 0 0]).run Tryz.prog w.drew = .ok (.pointer (some ⟨w.drew.heap.size, 0, none⟩)) (w.drew.alloc (.view ⟨g, 0, none⟩ 5)) :=
        Lib.run_unsafeSliceData_zero w.drew _ _ 5 Tryz.underlying122 ⟨g, 0, none⟩ 0 (5, cur.size) (by have hg' : w.drew.heap[g]? = some (.cells cur 5 fz) := hg; simp [World.shape?, hg'])
      have c2 : (w.drew.alloc (.view ⟨g, 0, none⟩ 5)).cell? ⟨b, off + 1, none⟩ = some (.slice (some ⟨g, 0, none⟩) 0 0) := by
        have : (w.drew.alloc (.view ⟨g, 0, none⟩ 5)).heap[b]? = _ := (Lib.alloc_old w.drew _ b hlt).trans hbk
        rw [cell_of_row _ b _ cs T (0, 0) this]; exact hv
      have c3 : (w.alloc (.view ⟨g, 0, none⟩ 5)).drew.cell? ⟨b, off + 1, none⟩ = some (.slice (some ⟨g, 0, none⟩) 0 0) := c2
      have c0 : w.cell? ⟨b, off + 1, none⟩ = some (.slice (some ⟨g, 0, none⟩) 0 0) := c1
      clear hown hbk ha hv hg
      go_enter Tryz.func50, Tryz.ntmps50
      go_wp2
      go_region
      all_goals (go_wp2; go_ret; exact ⟨rfl, HH.out.below ((Below.refl _ _).drew.alloc (Nat.le_refl _) _), (Below.refl _ _).drew.alloc HBW.out _, (Lib.OthersKept.refl _ _ w).drew.alloc _⟩)
    · have c1 : w.drew.cell? ⟨b, off + 1, none⟩ = some (.slice (some ⟨g, 0, none⟩) 0 cap) := by
        have : w.drew.heap[b]? = some (.cells cs T (0, 0)) := hbk
        rw [cell_of_row w.drew b _ cs T (0, 0) this]; exact hv
      have hSD : (Builtin.unsafeSliceData_ #[79] 122 #[.slice (some ⟨g, 0, none⟩) 0 cap]).run Tryz.prog w.drew = .ok (.pointer (some ⟨g, 0, none⟩)) w.drew :=
        Lib.run_unsafeSliceData_row _ _ _ _ _ _ hc0
      clear hc0 hown hbk ha hv hg
      go_enter Tryz.func50, Tryz.ntmps50
      go_wp2
      go_region
      all_goals (go_wp2; go_ret; exact ⟨rfl, HH.out.below (Below.refl _ _).drew, (Below.refl _ _).drew, (Lib.OthersKept.refl _ _ w).drew⟩)

theorem string_any {T Bs b off : Nat} {cs : Array Value} {l : Str} {w : World} (h : Bld T Bs b off cs l w) (hBw : Bs ≤ w.heap.size) :
    Calls Tryz.prog 50 #[.pointer (some ⟨b, off, none⟩)] w fun e w' => e = .returned (.string (B l)) ∧ Bld T Bs b off cs l w' ∧ Below Bs w w' ∧ Lib.OthersKept 5 (some b) w w' := by
  cases l with
  | nil => exact string_none h hBw
  | cons x r => exact string_some h (by simp)

/-- What lies beside the builder stands. -/
theorem box_kept {e t : TypeId} {b k : Nat} {cs : Array Value} {fz : Nat × Nat} {w w' : World} (h : Lib.OthersKept e (some b) w w') (hv : w.heap[k]? = some (.cells cs t fz)) (hk : k ≠ b) (ht : t ≠ e) : w'.heap[k]? = some (.cells cs t fz) :=
  h k _ hv (fun e1 => hk (Option.some.inj e1)) (fun _ _ e1 => by injection e1 with _ e2; exact ht e2)

theorem lies_own : liesAt Tryz.prog Tryz.prog.depth 81 (2 / Tryz.prog.cellsOf 81) 0 81 1 = true := by kernel_rfl

/-- A builder in a block of its own. -/
def IsB (Bs b : Nat) (l : Str) (w : World) : Prop := ∃ cs : Array Value, cs.size = 2 ∧ Bld 81 Bs b 0 cs l w
theorem IsB.lt {Bs b : Nat} {l : Str} {w : World} (h : IsB Bs b l w) : b < w.heap.size := h.elim fun _ h => h.2.lt
theorem IsB.below {Bs b : Nat} {l : Str} {w w' : World} (h : IsB Bs b l w) (hb : Below w.heap.size w w') : IsB Bs b l w' := h.elim fun cs h => ⟨cs, h.1, h.2.below hb⟩
theorem IsB.alloc {Bs b : Nat} {l : Str} {w : World} (h : IsB Bs b l w) (o : Obj) : IsB Bs b l (w.alloc o) := h.below (below_alloc (Below.refl _ _) o)
theorem IsB.new {Bs b : Nat} {w : World} (hB : Bs ≤ b) (h : w.heap[b]? = some (.cells #[.pointer none, .slice none 0 0] 81 (0, 0))) : IsB Bs b [] w :=
  ⟨_, rfl, hB, by decide, h, .inl rfl, _, rfl, World.ownsRowF_nil _ _ _ _⟩
theorem IsB.write {Bs b : Nat} {l : Str} (s : Str) {w : World} (h : IsB Bs b l w) (hlen : l.length + s.length ≤ 140737488355328) (hBw : Bs ≤ w.heap.size) :
    Calls Tryz.prog 47 #[.pointer (some ⟨b, 0, none⟩), .string (B s)] w fun e w' => e = .returned (.tuple #[.int .i64 s.length, .nilIface]) ∧
      IsB Bs b (l ++ s) w' ∧ Below Bs w w' ∧ Lib.OthersKept 5 (some b) w w' := by
  obtain ⟨cs, hs, h⟩ := h
  refine (writeString_any s h (by rw [hs]; exact lies_own) hlen hBw).mono ?_
  rintro e w' ⟨he, ⟨v', hb⟩, h1, h2⟩
  exact ⟨he, ⟨_, by simpa using hs, hb⟩, h1, h2⟩
theorem IsB.string {Bs b : Nat} {l : Str} {w : World} (h : IsB Bs b l w) (hBw : Bs ≤ w.heap.size) :
    Calls Tryz.prog 50 #[.pointer (some ⟨b, 0, none⟩)] w fun e w' => e = .returned (.string (B l)) ∧ IsB Bs b l w' ∧ Below Bs w w' ∧ Lib.OthersKept 5 (some b) w w' := by
  obtain ⟨cs, hs, h⟩ := h
  refine (string_any h hBw).mono ?_
  rintro e w' ⟨he, hb, h1, h2⟩
  exact ⟨he, ⟨_, hs, hb⟩, h1, h2⟩

end Go.Proofs.YtogfkfkejaiecaaGreatDoor.Bl
