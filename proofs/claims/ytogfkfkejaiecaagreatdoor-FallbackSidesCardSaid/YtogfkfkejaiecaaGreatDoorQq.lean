/- Plain law: what is shown with marks is read back, side by side. Plain facts of the parts of three texts: which of them end a line; how long marks are. The law FallbackSides, as a walk. -/
import Derived.Test.YtogfkfkejaiecaaGreatDoorQi
import Derived.Test.YtogfkfkejaiecaaGreatDoorQo
import Derived.Test.YtogfkfkejaiecaaGreatDoorQn

namespace Go.Proofs.YtogfkfkejaiecaaGreatDoor.Ha
open Go.Proofs.YtogfkfkejaiecaaGreatDoor.Pl Go.Proofs.YtogfkfkejaiecaaGreatDoor.Da Go.Proofs.YtogfkfkejaiecaaGreatDoor.Db Go.Proofs.YtogfkfkejaiecaaGreatDoor.Dp
set_option linter.unusedVariables false
set_option linter.unusedSimpArgs false

/-! ### lines -/
theorem ended_nil : endedL [] = true := rfl
theorem ended_snoc (s : Str) : endedL (s ++ [10]) = true := by unfold endedL; simp
theorem ended_of_last {s : Str} (h : s.getLast? = some 10) : endedL s = true := by unfold endedL; simp [h]
theorem ended_last {s : Str} (h : endedL s = true) (h0 : s ≠ []) : s.getLast? = some 10 := by
  unfold endedL at h
  rcases s with _ | ⟨c, r⟩
  · exact absurd rfl h0
  · simpa using h
theorem ended_append {s t : Str} (hs : endedL s = true) (ht : endedL t = true) : endedL (s ++ t) = true := by
  rcases t with _ | ⟨c, r⟩
  · simpa using hs
  · have := ended_last ht (by simp)
    exact ended_of_last (by rw [List.getLast?_append, this]; simp)
theorem ended_cons {c : UInt8} {r : Str} (h : endedL (c :: r) = true) (h0 : r ≠ []) : endedL r = true := by
  have := ended_last h (by simp)
  rw [List.getLast?_cons] at this
  cases hr : r.getLast? with
  | none => exact absurd (List.getLast?_eq_none_iff.1 hr) h0
  | some x => rw [hr] at this; exact ended_of_last (by rw [hr]; simpa using this)
theorem splitL_nil_iff {s : Str} (h : splitL s = []) : s = [] := by
  have := splitL_flatten s
  rw [h] at this
  exact this.symm
theorem splitL_cons (c : UInt8) (r : Str) : splitL (c :: r) = if c = 10 then [c] :: splitL r else match splitL r with
    | [] => [[c]]
    | l :: q => (c :: l) :: q := rfl
theorem splitL_append : ∀ (s t : Str), endedL s = true → splitL (s ++ t) = splitL s ++ splitL t
  | [], t, _ => rfl
  | c :: r, t, h => by
    rcases r with _ | ⟨d, r'⟩
    · have : c = 10 := by have := ended_last h (by simp); simpa using this
      subst this
      simp [splitL]
    · have ih := splitL_append (d :: r') t (ended_cons h (by simp))
      rw [List.cons_append, splitL_cons c (d :: r' ++ t), splitL_cons c (d :: r'), ih]
      by_cases hc : c = 10
      · rw [if_pos hc, if_pos hc]; rfl
      · rw [if_neg hc, if_neg hc]
        cases hs : splitL (d :: r') with
        | nil => exact absurd (splitL_nil_iff hs) (by simp)
        | cons l q => rfl
theorem whole_ended (t : Str) : endedL (wholeL t) = true := by
  unfold wholeL
  split
  · assumption
  · exact ended_snoc t
/-- A text whose last line has no end: what lies before that line, and the line. -/
theorem open_parts : ∀ (t : Str), endedL t = false → ∃ u v, t = u ++ v ∧ endedL u = true ∧ v ≠ [] ∧ (10 : UInt8) ∉ v
  | [], h => by cases h
  | c :: r, h => by
    rcases r with _ | ⟨d, r'⟩
    · have hc : c ≠ 10 := by rintro rfl; cases h
      exact ⟨[], [c], rfl, rfl, by simp, by simpa using fun e => hc e.symm⟩
    · have hr : endedL (d :: r') = false := by
        cases hh : endedL (d :: r') with
        | false => rfl
        | true =>
          have := ended_last hh (by simp)
          rw [ended_of_last (s := c :: d :: r') (by rw [List.getLast?_cons, this]; rfl)] at h
          cases h
      obtain ⟨u, v, e, hu, hv, hn⟩ := open_parts (d :: r') hr
      by_cases hcu : c ≠ 10 ∧ u = []
      · obtain ⟨hc, rfl⟩ := hcu
        refine ⟨[], c :: v, by rw [e]; rfl, rfl, by simp, ?_⟩
        simp only [List.mem_cons, not_or]
        exact ⟨fun e => hc e.symm, hn⟩
      · refine ⟨c :: u, v, by rw [e]; rfl, ?_, hv, hn⟩
        rcases u with _ | ⟨x, u'⟩
        · have : c = 10 := by
            by_cases h1 : c = 10
            · exact h1
            · exact absurd ⟨h1, rfl⟩ hcu
          subst this; rfl
        · have := ended_last hu (by simp)
          exact ended_of_last (by rw [List.getLast?_cons, this]; rfl)
/-- The lines of a text whose last line got its end. -/
theorem splitL_snoc (t : Str) (h : endedL t = false) : ∀ l ∈ splitL (t ++ [10]), l ∈ splitL t ∨ ∃ l' ∈ splitL t, l = l' ++ [10] := by
  obtain ⟨u, v, rfl, hu, hv, hn⟩ := open_parts t h
  intro l hl
  rw [List.append_assoc, splitL_append u _ hu, splitL_line v [] hn] at hl
  rw [splitL_append u _ hu, splitL_last v hn hv]
  simp only [splitL, List.mem_append, List.mem_singleton] at hl ⊢
  rcases hl with hl | hl
  · exact .inl (.inl hl)
  · exact .inr ⟨v, .inr rfl, hl⟩

/-! ### what looks like a mark -/
/-- No line of a text begins with so many signs. -/
def Low (n : Nat) (t : Str) : Prop := ∀ l ∈ splitL t, runL 60 l < n ∧ runL 124 l < n ∧ runL 61 l < n ∧ runL 62 l < n
theorem run_snoc (c : UInt8) (hc : c ≠ 10) : ∀ l : Str, runL c (l ++ [10]) = runL c l
  | [] => by unfold runL; rw [List.nil_append, List.takeWhile_cons, if_neg (by rw [beq_iff_eq]; exact fun e => hc e.symm)]; rfl
  | x :: r => by
    have ih := run_snoc c hc r
    unfold runL at ih ⊢
    rw [List.cons_append, List.takeWhile_cons, List.takeWhile_cons]
    split
    · simp only [List.length_cons, ih]
    · rfl
theorem Low.whole {n : Nat} {t : Str} (h : Low n t) : Low n (wholeL t) := by
  unfold wholeL
  cases he : endedL t with
  | true => simpa using h
  | false =>
    simp only [Bool.false_eq_true, if_false]
    intro l hl
    rcases splitL_snoc t he l hl with h1 | ⟨l', h1, rfl⟩
    · exact h l h1
    · obtain ⟨a, b, c, d⟩ := h l' h1
      rw [run_snoc _ (by decide), run_snoc _ (by decide), run_snoc _ (by decide), run_snoc _ (by decide)]
      exact ⟨a, b, c, d⟩
theorem run_prefix {c : UInt8} : ∀ {n : Nat} {l : Str}, (List.replicate n c).isPrefixOf l = true → n ≤ runL c l
  | 0, _, _ => Nat.zero_le _
  | n + 1, [], h => by simp [List.replicate_succ] at h
  | n + 1, x :: r, h => by
    rw [List.replicate_succ, List.isPrefixOf_cons_cons, Bool.and_eq_true] at h
    have := run_prefix h.2
    have hx : (x == c) = true := by rw [beq_iff_eq]; exact (beq_iff_eq.1 h.1).symm
    unfold runL at this ⊢
    rw [List.takeWhile_cons, if_pos hx, List.length_cons]
    omega
theorem markOne_low {l : Str} {n : Nat} {c : UInt8} (w : Str) (h : runL c l < n) : markOne l n c w = none := by
  unfold markOne
  rw [if_neg]
  intro hp
  have := run_prefix hp
  omega
theorem markL_low {l : Str} {n : Nat} (h : runL 60 l < n ∧ runL 124 l < n ∧ runL 61 l < n ∧ runL 62 l < n) : markL l n = none := by
  obtain ⟨a, b, c, d⟩ := h
  unfold markL
  rw [markOne_low _ a, markOne_low _ b, markOne_low _ c, markOne_low _ d]

/-! ### the marks' own lines -/
theorem line_other {c c' : UInt8} {n : Nat} (cut : Bool) (w w' : Str) (hn : 1 ≤ n) (hc : c' ≠ c) : markOne (lineL c n cut w) n c' w' = none := by
  apply markOne_low
  obtain ⟨m, rfl⟩ : ∃ m, n = m + 1 := ⟨n - 1, by omega⟩
  have : runL c' (lineL c (m + 1) cut w) = 0 := by
    unfold lineL runL
    rw [List.replicate_succ]
    simp only [List.cons_append, List.takeWhile_cons]
    rw [if_neg (by rw [beq_iff_eq]; exact fun e => hc e.symm)]
    rfl
  omega
theorem line_own (c : UInt8) (n : Nat) (cut : Bool) (w : Str) : markOne (lineL c n cut w) n c w = some cut := by
  have hp : (List.replicate n c).isPrefixOf (lineL c n cut w) = true := by
    rw [List.isPrefixOf_iff_prefix]
    unfold lineL
    simp only [List.append_assoc]
    exact List.prefix_append _ _
  have hd : (lineL c n cut w).drop n = (if cut then [33] else []) ++ ((if w = [] then [] else 32 :: w) ++ [10]) := by
    unfold lineL
    simp only [List.append_assoc]
    rw [List.drop_append_of_le_length (by simp), List.drop_of_length_le (by simp)]
    rfl
  unfold markOne
  rw [if_pos hp, hd]
  cases cut with
  | true =>
    by_cases hw : w = []
    · subst hw; simp
    · simp [hw]
  | false =>
    by_cases hw : w = []
    · subst hw; simp; rfl
    · simp [hw]; rfl
theorem mark0 (n : Nat) (cut : Bool) : markL (lineL 60 n cut wOurs) n = some (0, cut) := by unfold markL; rw [line_own]
theorem mark1 (n : Nat) (hn : 1 ≤ n) (cut : Bool) : markL (lineL 124 n cut wBase) n = some (1, cut) := by unfold markL; rw [line_other _ _ _ hn (by decide), line_own]
theorem mark2 (n : Nat) (hn : 1 ≤ n) (cut : Bool) : markL (lineL 61 n cut []) n = some (2, cut) := by unfold markL; rw [line_other _ _ _ hn (by decide), line_other _ _ _ hn (by decide), line_own]
theorem mark3 (n : Nat) (hn : 1 ≤ n) (cut : Bool) : markL (lineL 62 n cut wTheirs) n = some (3, cut) := by
  unfold markL; rw [line_other _ _ _ hn (by decide), line_other _ _ _ hn (by decide), line_other _ _ _ hn (by decide), line_own]
theorem line_split (c : UInt8) (n : Nat) (cut : Bool) (w : Str) (hc : c ≠ 10) (hw : (10 : UInt8) ∉ w) : splitL (lineL c n cut w) = [lineL c n cut w] := by
  obtain ⟨x, hx, hn⟩ : ∃ x, lineL c n cut w = x ++ [10] ∧ (10 : UInt8) ∉ x := by
    refine ⟨List.replicate n c ++ (if cut then [33] else []) ++ (if w = [] then [] else 32 :: w), rfl, ?_⟩
    simp only [List.mem_append, not_or, List.mem_replicate]
    refine ⟨⟨fun h => hc h.2.symm, ?_⟩, ?_⟩
    · cases cut <;> simp
    · split
      · simp
      · simp only [List.mem_cons, not_or]; exact ⟨by decide, hw⟩
  rw [hx, splitL_line x [] hn]
  rfl
theorem line_ended (c : UInt8) (n : Nat) (cut : Bool) (w : Str) : endedL (lineL c n cut w) = true := by
  unfold lineL
  exact ended_snoc _


/-! ### reading what was shown -/
theorem fold_cons (n : Nat) (x : Str) (r : List Str) (s : St) : foldL n s (x :: r) = (stepL n s x).bind fun s' => foldL n s' r := rfl
theorem fold_append (n : Nat) : ∀ (xs ys : List Str) (s : St), foldL n s (xs ++ ys) = (foldL n s xs).bind fun s' => foldL n s' ys
  | [], ys, s => rfl
  | x :: r, ys, s => by
    rw [List.cons_append, fold_cons, fold_cons]
    cases stepL n s x with
    | none => rfl
    | some s' => exact fold_append n r ys s'
theorem fold_low (n : Nat) : ∀ (ls : List Str) (s : St), (∀ l ∈ ls, markL l n = none) → foldL n s ls = some { s with now := s.now ++ ls.flatten }
  | [], s, _ => by simp [foldL]
  | l :: r, s, h => by
    unfold foldL stepL
    rw [h l (by simp)]
    simp only [Option.bind_some]
    rw [fold_low n r _ (fun x hx => h x (by simp [hx]))]
    simp
theorem fold_text {n : Nat} {t : Str} (h : Low n t) (s : St) : foldL n s (splitL t) = some { s with now := s.now ++ t } := by
  rw [fold_low n _ s (fun l hl => markL_low (h l hl)), splitL_flatten]
theorem fold_line {n : Nat} {l : Str} {k : Nat} {cut : Bool} (hm : markL l n = some (k, cut)) (s : St) : foldL n s [l] = meetL s k cut := by
  have e : stepL n s l = meetL s k cut := by unfold stepL; rw [hm]
  rw [fold_cons, e]
  cases meetL s k cut with
  | none => rfl
  | some s' => rfl
theorem take_whole (t : Str) : takeL (wholeL t) (wholeL t != t) = some t := by
  unfold wholeL takeL
  cases he : endedL t with
  | true => simp
  | false => simp
/-- A text and the mark behind it. -/
theorem fold_section {n : Nat} {t : Str} (h : Low n t) (c : UInt8) (w : Str) (k : Nat) (hc : c ≠ 10) (hw : (10 : UInt8) ∉ w) (hm : ∀ cut, markL (lineL c n cut w) n = some (k, cut)) (s : St) (h0 : s.now = []) :
    foldL n s (splitL (sectionL t c n w)) = meetL { s with now := wholeL t } k (wholeL t != t) := by
  unfold sectionL
  rw [splitL_append _ _ (whole_ended t), fold_append, fold_text h.whole, line_split c n _ w hc hw]
  simp only [Option.bind_some, h0, List.nil_append]
  exact fold_line (hm _) _
theorem section_ended (t : Str) (c : UInt8) (n : Nat) (w : Str) : endedL (sectionL t c n w) = true := ended_append (whole_ended t) (line_ended c n _ w)

/-- The sides outside, with what is gathered. -/
theorem side_outer (i : Nat) (out : List Part) (now : Str) : sideL i (outerL out now) = sideL i out ++ now := by
  unfold outerL
  split
  · rename_i h; subst h; simp
  · unfold sideL
    rw [List.map_append, List.flatten_append]
    simp [pickL]
theorem side_snoc (i : Nat) (out : List Part) (p : Part) : sideL i (out ++ [p]) = sideL i out ++ pickL i p := by
  unfold sideL; rw [List.map_append, List.flatten_append]; simp

theorem fold_part {n : Nat} (hn : 1 ≤ n) (old : Bool) (p : Part) (ha : Low n p.a) (hc : p.clash = true → Low n p.o ∧ Low n p.b) (s : St) (h0 : s.at_ = 0) :
    ∃ s', foldL n s (splitL (partL n old p)) = some s' ∧ s'.at_ = 0 ∧ sideL 1 (outerL s'.out s'.now) = sideL 1 (outerL s.out s.now) ++ p.a ∧ sideL 2 (outerL s'.out s'.now) = sideL 2 (outerL s.out s.now) ++ (if p.clash then p.b else p.a) := by
  cases hp : p.clash with
  | false =>
    refine ⟨{ s with now := s.now ++ p.a }, ?_, h0, ?_, ?_⟩
    · unfold partL; rw [hp]; exact fold_text ha s
    · rw [side_outer, side_outer, List.append_assoc]
    · rw [side_outer, side_outer, List.append_assoc]; rfl
  | true =>
    obtain ⟨ho, hb⟩ := hc hp
    have w1 : (10 : UInt8) ∉ wOurs := by decide
    have w2 : (10 : UInt8) ∉ wBase := by decide
    have w3 : (10 : UInt8) ∉ wTheirs := by decide
    have w4 : (10 : UInt8) ∉ ([] : Str) := by simp
    obtain ⟨s1, hs1⟩ : ∃ s1 : St, s1 = ⟨outerL s.out s.now, ⟨true, [], [], []⟩, [], 1⟩ := ⟨_, rfl⟩
    have f0 : foldL n s (splitL (lineL 60 n false wOurs)) = some s1 := by
      rw [line_split _ _ _ _ (by decide) w1, fold_line (mark0 n false), hs1]
      unfold meetL; simp [h0]
    have fin : ∀ (s3 : St), s3.at_ = 3 → s3.now = [] → foldL n s3 (splitL (sectionL p.b 62 n wTheirs)) = some ⟨s3.out ++ [{ s3.p with b := p.b }], { s3.p with b := p.b }, [], 0⟩ := by
      intro s3 e1 e2
      rw [fold_section hb 62 wTheirs 3 (by decide) w3 (fun cut => mark3 n hn cut) s3 e2]
      unfold meetL
      rw [take_whole]
      simp [e1]
    cases old with
    | true =>
      have f1 : foldL n s1 (splitL (sectionL p.a 124 n wBase)) = some ⟨s1.out, { s1.p with a := p.a }, [], 2⟩ := by
        rw [fold_section ha 124 wBase 1 (by decide) w2 (fun cut => mark1 n hn cut) s1 (by rw [hs1])]
        unfold meetL
        rw [take_whole]
        simp [hs1]
      have f2 : ∀ s2 : St, s2.at_ = 2 → s2.now = [] → foldL n s2 (splitL (sectionL p.o 61 n [])) = some ⟨s2.out, { s2.p with o := p.o }, [], 3⟩ := by
        intro s2 e1 e2
        rw [fold_section ho 61 [] 2 (by decide) w4 (fun cut => mark2 n hn cut) s2 e2]
        unfold meetL
        rw [take_whole]
        simp [e1]
      have whole : foldL n s (splitL (partL n true p)) = some ⟨outerL s.out s.now ++ [⟨true, p.o, p.a, p.b⟩], ⟨true, p.o, p.a, p.b⟩, [], 0⟩ := by
        unfold partL
        rw [hp]
        simp only [if_true]
        rw [List.append_assoc, splitL_append _ _ (line_ended _ _ _ _), fold_append, f0, Option.bind_some, List.append_assoc, splitL_append _ _ (section_ended _ _ _ _), fold_append, f1, Option.bind_some,
          splitL_append _ _ (section_ended _ _ _ _), fold_append, f2 _ rfl rfl, Option.bind_some, fin _ rfl rfl, hs1]
      refine ⟨_, whole, rfl, ?_, ?_⟩
      · rw [side_outer, side_snoc, List.append_nil, side_outer]; rfl
      · rw [side_outer, side_snoc, List.append_nil, side_outer]; rfl
    | false =>
      have f1 : foldL n s1 (splitL (sectionL p.a 61 n [])) = some ⟨s1.out, { s1.p with a := p.a }, [], 3⟩ := by
        rw [fold_section ha 61 [] 2 (by decide) w4 (fun cut => mark2 n hn cut) s1 (by rw [hs1])]
        unfold meetL
        rw [take_whole]
        simp [hs1]
      have whole : foldL n s (splitL (partL n false p)) = some ⟨outerL s.out s.now ++ [⟨true, [], p.a, p.b⟩], ⟨true, [], p.a, p.b⟩, [], 0⟩ := by
        unfold partL
        rw [hp]
        simp only [if_true, Bool.false_eq_true, if_false]
        rw [List.append_assoc, splitL_append _ _ (line_ended _ _ _ _), fold_append, f0, Option.bind_some, splitL_append _ _ (section_ended _ _ _ _), fold_append, f1, Option.bind_some, fin _ rfl rfl, hs1]
      refine ⟨_, whole, rfl, ?_, ?_⟩
      · rw [side_outer, side_snoc, List.append_nil, side_outer]; rfl
      · rw [side_outer, side_snoc, List.append_nil, side_outer]; rfl

/-- Parts of which each but the last, if it is no clash, ends a line. -/
def GoodL : List Part → Prop
  | [] => True
  | [_] => True
  | p :: q :: r => (p.clash = false → endedL p.a = true) ∧ GoodL (q :: r)
theorem part_ended {n : Nat} {old : Bool} {p : Part} (h : p.clash = false → endedL p.a = true) : endedL (partL n old p) = true := by
  unfold partL
  cases hp : p.clash with
  | false => exact h hp
  | true =>
    simp only [if_true]
    refine ended_append (ended_append (line_ended _ _ _ _) ?_) (section_ended _ _ _ _)
    cases old with
    | true => exact ended_append (section_ended _ _ _ _) (section_ended _ _ _ _)
    | false => exact section_ended _ _ _ _
theorem fold_parts {n : Nat} (hn : 1 ≤ n) (old : Bool) : ∀ (ps : List Part) (s : St), GoodL ps → (∀ p ∈ ps, Low n p.a ∧ (p.clash = true → Low n p.o ∧ Low n p.b)) → (∀ p ∈ ps, p.clash = false → p.b = p.a) → s.at_ = 0 →
    ∃ s', foldL n s (splitL (printL ps n old)) = some s' ∧ s'.at_ = 0 ∧ sideL 1 (outerL s'.out s'.now) = sideL 1 (outerL s.out s.now) ++ sideL 1 ps ∧ sideL 2 (outerL s'.out s'.now) = sideL 2 (outerL s.out s.now) ++ sideL 2 ps
  | [], s, _, _, _, h0 => ⟨s, rfl, h0, by simp [sideL], by simp [sideL]⟩
  | p :: r, s, hg, hl, he, h0 => by
    obtain ⟨la, lc⟩ := hl p (by simp)
    obtain ⟨s1, f1, a1, x1, y1⟩ := fold_part hn old p la lc s h0
    have hg2 : GoodL r := by
      rcases r with _ | ⟨q, r'⟩
      · trivial
      · exact hg.2
    obtain ⟨s2, f2, a2, x2, y2⟩ := fold_parts hn old r s1 hg2 (fun q hq => hl q (by simp [hq])) (fun q hq => he q (by simp [hq])) a1
    refine ⟨s2, ?_, a2, ?_, ?_⟩
    · have e : printL (p :: r) n old = partL n old p ++ printL r n old := rfl
      rw [e]
      rcases r with _ | ⟨q, r'⟩
      · have e2 : printL [] n old = [] := rfl
        rw [e2] at f2 ⊢
        rw [List.append_nil, f1]
        exact f2
      · rw [splitL_append _ _ (part_ended hg.1), fold_append, f1]
        exact f2
    · rw [x2, x1, List.append_assoc]; rfl
    · rw [y2, y1, List.append_assoc]
      congr 1
      have e : sideL 2 (p :: r) = p.b ++ sideL 2 r := rfl
      rw [e]
      cases hp : p.clash with
      | true => rfl
      | false => rw [he p (by simp) hp]; rfl
/-- WHAT IS SHOWN IS READ BACK, SIDE BY SIDE. -/
theorem parse_print {n : Nat} (hn : 1 ≤ n) (old : Bool) (ps : List Part) (hg : GoodL ps) (hl : ∀ p ∈ ps, Low n p.a ∧ (p.clash = true → Low n p.o ∧ Low n p.b)) (he : ∀ p ∈ ps, p.clash = false → p.b = p.a) :
    ∃ qs, parseL (printL ps n old) n = some qs ∧ sideL 1 qs = sideL 1 ps ∧ sideL 2 qs = sideL 2 ps := by
  obtain ⟨s, f, a, x, y⟩ := fold_parts hn old ps st0 hg hl he rfl
  refine ⟨outerL s.out s.now, ?_, ?_, ?_⟩
  · unfold parseL
    rw [f]
    simp [a]
  · rw [x, side_outer]; simp [st0, sideL]
  · rw [y, side_outer]; simp [st0, sideL]

end Go.Proofs.YtogfkfkejaiecaaGreatDoor.Ha

namespace Go.Proofs.YtogfkfkejaiecaaGreatDoor.Hb
open Go.Proofs.YtogfkfkejaiecaaGreatDoor.Pl Go.Proofs.YtogfkfkejaiecaaGreatDoor.Da Go.Proofs.YtogfkfkejaiecaaGreatDoor.Db Go.Proofs.YtogfkfkejaiecaaGreatDoor.Dl Go.Proofs.YtogfkfkejaiecaaGreatDoor.Dm Go.Proofs.YtogfkfkejaiecaaGreatDoor.Dn Go.Proofs.YtogfkfkejaiecaaGreatDoor.Dp Go.Proofs.YtogfkfkejaiecaaGreatDoor.Dq Go.Proofs.YtogfkfkejaiecaaGreatDoor.Ds Go.Proofs.YtogfkfkejaiecaaGreatDoor.Ha
set_option linter.unusedVariables false
set_option linter.unusedSimpArgs false

/-! ### marks are longer than what lines begin with -/
theorem lineMax_run (n : Nat) (l : Str) : runL 60 l < lineMax n l ∧ runL 124 l < lineMax n l ∧ runL 61 l < lineMax n l ∧ runL 62 l < lineMax n l := by
  unfold lineMax; omega
theorem lines_run : ∀ (ls : List Str) (n : Nat) (l : Str), l ∈ ls → runL 60 l < ls.foldl lineMax n ∧ runL 124 l < ls.foldl lineMax n ∧ runL 61 l < ls.foldl lineMax n ∧ runL 62 l < ls.foldl lineMax n
  | x :: r, n, l, h => by
    rw [List.foldl_cons]
    rcases List.mem_cons.1 h with rfl | h
    · have h1 := lineMax_run n l
      have h2 : ∀ (ls : List Str) (n : Nat), n ≤ ls.foldl lineMax n := by
        intro ls
        induction ls with
        | nil => intro n; exact Nat.le_refl _
        | cons a r ih => intro n; exact Nat.le_trans (lineMax_ge n a) (ih _)
      have := h2 r (lineMax n l)
      omega
    · exact lines_run r _ l h
theorem texts_low : ∀ (ts : List Str) (n : Nat) (t : Str), t ∈ ts → Low (ts.foldl textMax n) t
  | x :: r, n, t, h => by
    rw [List.foldl_cons]
    rcases List.mem_cons.1 h with rfl | h
    · intro l hl
      have h1 := lines_run (splitL t) n l hl
      have h2 : ∀ (ts : List Str) (n : Nat), n ≤ ts.foldl textMax n := by
        intro ts
        induction ts with
        | nil => intro n; exact Nat.le_refl _
        | cons a r ih => intro n; exact Nat.le_trans (textMax_ge n a) (ih _)
      have h3 := h2 r (textMax n t)
      have e : textMax n t = (splitL t).foldl lineMax n := rfl
      rw [← e] at h1
      omega
    · exact texts_low r _ t h
theorem low_parts (ps : List Part) : ∀ p ∈ ps, Low (lengthL (textsL ps)) p.a ∧ (p.clash = true → Low (lengthL (textsL ps)) p.o ∧ Low (lengthL (textsL ps)) p.b) := by
  intro p hp
  have hm : ∀ t, t ∈ [p.o, p.a, p.b] → t ∈ textsL ps := fun t ht => List.mem_flatMap.2 ⟨p, hp, ht⟩
  exact ⟨texts_low _ _ _ (hm _ (by simp)), fun _ => ⟨texts_low _ _ _ (hm _ (by simp)), texts_low _ _ _ (hm _ (by simp))⟩⟩
theorem low_len {n : Nat} {t : Str} (h : t.length < n) : Low n t := fun l hl => by
  have h1 := splitL_len t l hl
  have r : ∀ c, runL c l ≤ l.length := fun c => by
    unfold runL
    have h : l.takeWhile (· == c) ++ l.dropWhile (· == c) = l := List.takeWhile_append_dropWhile
    have h2 := congrArg List.length h
    rw [List.length_append] at h2
    omega
  have := r 60; have := r 124; have := r 61; have := r 62
  omega

/-! ### parts without a clash -/
theorem print_plain (n : Nat) (old : Bool) : ∀ (ps : List Part), ps.any (·.clash) = false → printL ps n old = sideL 1 ps
  | [], _ => rfl
  | p :: r, h => by
    rw [List.any_cons, Bool.or_eq_false_iff] at h
    have e : printL (p :: r) n old = partL n old p ++ printL r n old := rfl
    have e2 : sideL 1 (p :: r) = p.a ++ sideL 1 r := rfl
    rw [e, e2, print_plain n old r h.2]
    unfold partL
    rw [h.1]
    rfl
theorem side_plain : ∀ (ps : List Part), ps.any (·.clash) = false → (∀ p ∈ ps, p.clash = false → p.b = p.a) → sideL 2 ps = sideL 1 ps
  | [], _, _ => rfl
  | p :: r, h, he => by
    rw [List.any_cons, Bool.or_eq_false_iff] at h
    have e : sideL 2 (p :: r) = p.b ++ sideL 2 r := rfl
    have e2 : sideL 1 (p :: r) = p.a ++ sideL 1 r := rfl
    rw [e, e2, side_plain r h.2 (fun q hq => he q (by simp [hq])), he p (by simp) h.1]
theorem side_mem {ps : List Part} {p : Part} (h : p ∈ ps) : p.a.length ≤ (sideL 1 ps).length := by
  induction ps with
  | nil => cases h
  | cons x r ih =>
    have e2 : sideL 1 (x :: r) = x.a ++ sideL 1 r := rfl
    rw [e2, List.length_append]
    rcases List.mem_cons.1 h with rfl | h
    · omega
    · have := ih h; omega
theorem clash_long {n : Nat} {old : Bool} : ∀ {ps : List Part}, ps.any (·.clash) = true → n ≤ (printL ps n old).length
  | p :: r, h => by
    have e : printL (p :: r) n old = partL n old p ++ printL r n old := rfl
    rw [e, List.length_append]
    rw [List.any_cons, Bool.or_eq_true] at h
    rcases h with h | h
    · have : n ≤ (partL n old p).length := by
        unfold partL
        rw [h]
        simp only [if_true, List.length_append]
        have : n ≤ (lineL 60 n false wOurs).length := by unfold lineL; simp [wOurs]
        omega
      omega
    · have := clash_long (n := n) (old := old) h
      omega

/-! ### which parts end a line -/
/-- Rows of which each but the last ends a line. -/
def RowOk (A : List Str) : Prop := ∀ (i : Nat) (x : Str), A[i]? = some x → i + 1 < A.length → endedL x = true
theorem rowOk_split : ∀ s : Str, RowOk (splitL s)
  | [], i, x, hx, _ => by simp [splitL] at hx
  | c :: r, i, x, hx, hl => by
    have ih := rowOk_split r
    rw [splitL_cons] at hx hl
    split at hx
    · rename_i hc
      rw [if_pos hc] at hl
      cases i with
      | zero => simp at hx; subst hx; rw [hc]; rfl
      | succ i => exact ih i x (by simpa using hx) (by simpa using hl)
    · rename_i hc
      rw [if_neg hc] at hl
      cases hs : splitL r with
      | nil => rw [hs] at hl; simp at hl
      | cons l q =>
        rw [hs] at hx hl ih
        simp only at hx hl
        cases i with
        | zero =>
          simp only [List.getElem?_cons_zero, Option.some.injEq] at hx
          subst hx
          have h1 := ih 0 l rfl (by simpa using hl)
          rcases l with _ | ⟨d, l'⟩
          · have := splitL_ne r [] (by rw [hs]; simp)
            exact absurd rfl this
          · exact ended_of_last (by rw [List.getLast?_cons, ended_last h1 (by simp)]; rfl)
        | succ i => exact ih (i + 1) x (by simpa using hx) (by simpa using hl)
theorem ended_flatten : ∀ (l : List Str), (∀ x ∈ l, endedL x = true) → endedL l.flatten = true
  | [], _ => rfl
  | x :: r, h => by
    rw [List.flatten_cons]
    exact ended_append (h x (by simp)) (ended_flatten r (fun y hy => h y (by simp [hy])))
theorem cut_get {A : List Str} {i j : Nat} {x : Str} (h : x ∈ cutL A i j) : ∃ k, i ≤ k ∧ k < j ∧ A[k]? = some x := by
  unfold cutL at h
  obtain ⟨m, hm, he⟩ := List.getElem_of_mem h
  have h2 : ((A.drop i).take (j - i))[m]? = some x := by rw [List.getElem?_eq_getElem hm, he]
  rw [List.getElem?_take] at h2
  split at h2
  · rw [List.getElem?_drop] at h2
    exact ⟨i + m, by omega, by omega, h2⟩
  · cases h2
theorem cut_ended {A : List Str} (hR : RowOk A) {i j : Nat} (hj : j < A.length) : endedL (joinL (cutL A i j)) = true :=
  ended_flatten _ fun x hx => by
    obtain ⟨k, _, hk, hg⟩ := cut_get hx
    exact hR k x hg (by omega)

theorem matchW_eq : ∀ (n : Nat) (a b : List Nat) (k i : Nat) (v : Int), a.length + b.length ≤ n → (matchW a b k)[i]? = some v → 0 ≤ v → ∃ x, a[i]? = some x ∧ ∃ j : Nat, v = ((k + j : Nat) : Int) ∧ b[j]? = some x
  | _, [], b, k, i, v, _, h, _ => by unfold matchW at h; simp at h
  | 0, _ :: _, _, _, _, _, h, _, _ => by simp at h
  | n + 1, x :: s, [], k, i, v, _, h, hv => by
    unfold matchW at h
    rw [List.getElem?_replicate] at h
    split at h
    · have := Option.some.inj h; omega
    · cases h
  | n + 1, x :: s, y :: t, k, i, v, hn, h, hv => by
    simp only [List.length_cons] at hn
    unfold matchW at h
    split at h
    · rename_i hxy
      subst hxy
      cases i with
      | zero => exact ⟨x, rfl, 0, by simpa using (Option.some.inj h).symm, rfl⟩
      | succ i =>
        obtain ⟨z, h1, j, h2, h3⟩ := matchW_eq n s t (k + 1) i v (by omega) (by simpa using h) hv
        exact ⟨z, by simpa using h1, j + 1, by rw [h2]; congr 1; omega, by simpa using h3⟩
    · split at h
      · cases i with
        | zero => have := Option.some.inj h; omega
        | succ i =>
          obtain ⟨z, h1, j, h2, h3⟩ := matchW_eq n s (y :: t) k i v (by simp; omega) (by simpa using h) hv
          exact ⟨z, by simpa using h1, j, h2, h3⟩
      · obtain ⟨z, h1, j, h2, h3⟩ := matchW_eq n (x :: s) t (k + 1) i v (by simp; omega) h hv
        exact ⟨z, h1, j + 1, by rw [h2]; congr 1; omega, by simpa using h3⟩
theorem matchL_eq {a b : List Nat} (ha : a.length ≤ 2000) (hb : b.length ≤ 2000) {i j : Nat} (h : (matchL a b)[i]? = some (j : Int)) : ∃ x, a[i]? = some x ∧ b[j]? = some x := by
  unfold matchL at h
  rw [if_neg (by omega)] at h
  obtain ⟨x, h1, j', h2, h3⟩ := matchW_eq _ a b 0 i j (Nat.le_refl _) h (by omega)
  obtain rfl : j = j' := by omega
  exact ⟨x, h1, h3⟩

theorem idx_prefix {seen S : List Str} {s : Str} (h : seen <+: S) (hs : s ∈ seen) : S.idxOf s = seen.idxOf s := by
  obtain ⟨r, rfl⟩ := h
  rw [List.idxOf_append, if_pos hs]
theorem numRow_at : ∀ (l : List Str) (seen S : List Str) (i n : Nat) (s : Str), seeRow seen l <+: S → (numRow seen l)[i]? = some n → l[i]? = some s → n = S.idxOf s ∧ s ∈ S
  | x :: r, seen, S, i, n, s, hp, hn, hs => by
    cases i with
    | zero =>
      simp only [numRow, List.getElem?_cons_zero, Option.some.injEq] at hn hs
      subst hn hs
      have hp2 : seeOne seen x <+: S := (seeRow_prefix r _).trans hp
      have hm := seeOne_mem seen x
      refine ⟨?_, hp2.subset hm⟩
      rw [idx_prefix hp2 hm]
      unfold numOne seeOne
      split
      · rfl
      · rename_i hx
        rw [List.idxOf_append, if_neg hx, List.idxOf_eq_length hx]
        simp
    | succ i =>
      exact numRow_at r _ S i n s hp (by simpa [numRow] using hn) (by simpa using hs)
/-- Rows of texts as rows of numbers: alike where the texts are. -/
structure Num3 (O A B : List Str) (o a b : List Nat) : Prop where
  lo : o.length = O.length
  la : a.length = A.length
  lb : b.length = B.length
  oa : ∀ (i j x : Nat) (s t : Str), o[i]? = some x → a[j]? = some x → O[i]? = some s → A[j]? = some t → s = t
  ob : ∀ (i j x : Nat) (s t : Str), o[i]? = some x → b[j]? = some x → O[i]? = some s → B[j]? = some t → s = t
theorem idx_inj {S : List Str} {s t : Str} (hs : s ∈ S) (ht : t ∈ S) (h : S.idxOf s = S.idxOf t) : s = t := by
  have h1 := List.getElem_idxOf (List.idxOf_lt_length_iff.2 hs)
  have h2 := List.getElem_idxOf (List.idxOf_lt_length_iff.2 ht)
  rw [← h1, ← h2]
  simp only [h]
theorem num3 (O A B : List Str) : ∃ o a b, numRows [] [O, A, B] = [o, a, b] ∧ Num3 O A B o a b := by
  refine ⟨_, _, _, rfl, ⟨numRow_length _ _, numRow_length _ _, numRow_length _ _, fun i j x s t h1 h2 h3 h4 => ?_, fun i j x s t h1 h2 h3 h4 => ?_⟩⟩
  · obtain ⟨e1, m1⟩ := numRow_at O [] (seeRow (seeRow [] O) A) i x s (seeRow_prefix A _) h1 h3
    obtain ⟨e2, m2⟩ := numRow_at A (seeRow [] O) (seeRow (seeRow [] O) A) j x t (List.prefix_refl _) h2 h4
    exact idx_inj m1 m2 (e1.symm.trans e2)
  · obtain ⟨e1, m1⟩ := numRow_at O [] (seeRow (seeRow (seeRow [] O) A) B) i x s ((seeRow_prefix A _).trans (seeRow_prefix B _)) h1 h3
    obtain ⟨e2, m2⟩ := numRow_at B (seeRow (seeRow [] O) A) (seeRow (seeRow (seeRow [] O) A) B) j x t (List.prefix_refl _) h2 h4
    exact idx_inj m1 m2 (e1.symm.trans e2)

theorem go_end (o a b : List Nat) (f : Nat) : chunkGo o a b f o.length a.length b.length = [] := by
  cases f with
  | zero => rfl
  | succ f => unfold chunkGo; rw [if_pos ⟨rfl, rfl, rfl⟩]
theorem chunks_ended (O A B : List Str) (o a b : List Nat) (hN : Num3 O A B o a b) (hO : RowOk O) (hA : RowOk A) (hB : RowOk B) (lo : o.length ≤ 2000) (la : a.length ≤ 2000) (lb : b.length ≤ 2000) :
    ∀ (f p q s : Nat), AtC o a b p q s → ∀ (i : Nat) (c : Ck), (chunkGo o a b f p q s)[i]? = some c → i + 1 < (chunkGo o a b f p q s).length → endedL (joinL (cutL A c.a1 c.a2)) = true ∧ endedL (joinL (cutL B c.b1 c.b2)) = true
  | 0, _, _, _, _, i, c, h, _ => by simp [chunkGo] at h
  | f + 1, p, q, s, hat, i, c, h, hl => by
    unfold chunkGo at h hl
    split at h
    · simp at h
    · rename_i hne
      rw [if_neg hne] at hl
      obtain ⟨t, ht, hat2, y1, y2, y3, y4⟩ := stepC_at hat hne
      simp only [← ht] at h hl
      cases i with
      | succ i => exact chunks_ended O A B o a b hN hO hA hB lo la lb f t.1 t.2.1 t.2.2 hat2 i c (by simpa using h) (by simpa using hl)
      | zero =>
        simp only [List.getElem?_cons_zero, Option.some.injEq] at h
        subst h
        simp only
        have hnend : ¬ (t.1 = o.length ∧ t.2.1 = a.length ∧ t.2.2 = b.length) := by
          rintro ⟨e1, e2, e3⟩
          rw [e1, e2, e3, go_end] at hl
          simp at hl
        have x1 := hat2.po
        have x2 := hat2.qa
        have x3 := hat2.sb
        have l1 := hN.lo
        have l2 := hN.la
        have l3 := hN.lb
        obtain ⟨s1, s2, s3, s4⟩ := stabN_spec ((matchL o a).drop p) ((matchL o b).drop p) q s
        unfold stepC at ht
        generalize hn : stabN ((matchL o a).drop p) ((matchL o b).drop p) q s = n at *
        by_cases hn0 : 0 < n
        · rw [if_pos hn0] at ht
          subst ht
          simp only at x1 x2 x3 hnend ⊢
          obtain ⟨m1, m2⟩ := s3 (n - 1) (by omega)
          rw [List.getElem?_drop] at m1 m2
          obtain ⟨xa, ga, gb⟩ := matchL_eq lo la (i := p + (n - 1)) (j := q + (n - 1)) (by rw [m1]; congr 1)
          obtain ⟨xb, ga', gb'⟩ := matchL_eq lo lb (i := p + (n - 1)) (j := s + (n - 1)) (by rw [m2]; congr 1)
          obtain ⟨so, hso⟩ : ∃ x, O[p + (n - 1)]? = some x := ⟨_, List.getElem?_eq_getElem (by omega)⟩
          obtain ⟨sa, hsa⟩ : ∃ x, A[q + (n - 1)]? = some x := ⟨_, List.getElem?_eq_getElem (by omega)⟩
          obtain ⟨sb, hsb⟩ : ∃ x, B[s + (n - 1)]? = some x := ⟨_, List.getElem?_eq_getElem (by omega)⟩
          have e1 := hN.oa _ _ _ _ _ ga gb hso hsa
          have e2 := hN.ob _ _ _ _ _ ga' gb' hso hsb
          subst e1 e2
          have hend : endedL so = true := by
            by_cases h1 : p + n < o.length
            · exact hO _ _ hso (by omega)
            · by_cases h2 : q + n < a.length
              · exact hA _ _ hsa (by omega)
              · exact hB _ _ hsb (by omega)
          constructor
          · refine ended_flatten _ fun x hx => ?_
            obtain ⟨k, hk1, hk2, hg⟩ := cut_get hx
            by_cases hk : k = q + (n - 1)
            · subst hk; rw [hsa] at hg; cases hg; exact hend
            · exact hA k x hg (by omega)
          · refine ended_flatten _ fun x hx => ?_
            obtain ⟨k, hk1, hk2, hg⟩ := cut_get hx
            by_cases hk : k = s + (n - 1)
            · subst hk; rw [hsb] at hg; cases hg; exact hend
            · exact hB k x hg (by omega)
        · rw [if_neg hn0] at ht
          cases hx : nextN ((matchL o a).drop p) ((matchL o b).drop p) p with
          | none => rw [hx] at ht; subst ht; exact absurd ⟨rfl, rfl, rfl⟩ hnend
          | some r =>
            obtain ⟨pe, x, y⟩ := r
            rw [hx] at ht
            subst ht
            simp only at x1 x2 x3 hnend ⊢
            obtain ⟨n1, n2, n3, n4, n5⟩ := nextN_some _ _ _ _ _ _ hx
            rw [List.getElem?_drop] at n2 n3
            have b1 := (matchL_rising o a).1.low _ _ n2 n4
            have b2 := (matchL_rising o b).1.low _ _ n3 n5
            exact ⟨cut_ended hA (by omega), cut_ended hB (by omega)⟩

/-! ### parts -/
theorem good_all : ∀ (ps : List Part), (∀ p ∈ ps, endedL p.a = true) → GoodL ps
  | [], _ => trivial
  | [_], _ => trivial
  | p :: q :: r, h => ⟨fun _ => h p (by simp), good_all (q :: r) (fun x hx => h x (by simp [hx]))⟩
theorem good_snoc (x : Part) : ∀ (ps : List Part), (∀ p ∈ ps, endedL p.a = true) → GoodL (ps ++ [x])
  | [], _ => trivial
  | [p], h => ⟨fun _ => h p (by simp), trivial⟩
  | p :: q :: r, h => ⟨fun _ => h p (by simp), good_snoc x (q :: r) (fun y hy => h y (by simp [hy]))⟩
theorem add_ended {out : List Part} {p : Part} (h : ∀ q ∈ out, endedL q.a = true) (hp : endedL p.a = true) : ∀ q ∈ addPart out p, endedL q.a = true := by
  rcases List.eq_nil_or_concat out with rfl | ⟨pre, l, rfl⟩
  · intro q hq; rw [addPart_nil] at hq; simp at hq; subst hq; exact hp
  · rw [List.concat_eq_append] at h ⊢
    have all : ∀ q ∈ (pre ++ [l]) ++ [p], endedL q.a = true := fun q hq => by
      rcases List.mem_append.1 hq with hq | hq
      · exact h q hq
      · rw [List.mem_singleton.1 hq]; exact hp
    cases hpc : p.clash with
    | true => rw [addPart_clash _ _ hpc]; exact all
    | false =>
      cases hlc : l.clash with
      | true => rw [addPart_last _ _ _ hlc]; exact all
      | false =>
        rw [addPart_merge _ _ _ hlc hpc]
        intro q hq
        rcases List.mem_append.1 hq with hq | hq
        · exact h q (by simp [hq])
        · rw [List.mem_singleton.1 hq]; exact ended_append (h l (by simp)) hp
theorem add_good {out : List Part} (p : Part) (h : ∀ q ∈ out, endedL q.a = true) : GoodL (addPart out p) := by
  rcases List.eq_nil_or_concat out with rfl | ⟨pre, l, rfl⟩
  · trivial
  · rw [List.concat_eq_append] at h ⊢
    cases hpc : p.clash with
    | true => rw [addPart_clash _ _ hpc]; exact good_snoc p _ h
    | false =>
      cases hlc : l.clash with
      | true => rw [addPart_last _ _ _ hlc]; exact good_snoc p _ h
      | false =>
        rw [addPart_merge _ _ _ hlc hpc]
        exact good_snoc _ pre (fun q hq => h q (by simp [hq]))
theorem fold_good (f : Ck → Part) : ∀ (cs : List Ck) (out : List Part), (∀ q ∈ out, endedL q.a = true) → (∀ (i : Nat) (c : Ck), cs[i]? = some c → i + 1 < cs.length → endedL (f c).a = true) → GoodL (cs.foldl (fun out c => addPart out (f c)) out)
  | [], out, h, _ => good_all out h
  | [c], out, h, _ => add_good (f c) h
  | c :: d :: r, out, h, hc => by
    rw [List.foldl_cons]
    exact fold_good f (d :: r) _ (add_ended h (hc 0 c rfl (by simp))) (fun i x hx hl => hc (i + 1) x (by simpa using hx) (by simpa using hl))
theorem fold_same (f : Ck → Part) (hf : ∀ c, (f c).clash = false → (f c).b = (f c).a) : ∀ (cs : List Ck) (out : List Part), (∀ q ∈ out, q.clash = false → q.b = q.a) → ∀ q ∈ cs.foldl (fun out c => addPart out (f c)) out, q.clash = false → q.b = q.a
  | [], out, h => h
  | c :: r, out, h => by
    rw [List.foldl_cons]
    refine fold_same f hf r _ ?_
    rcases List.eq_nil_or_concat out with rfl | ⟨pre, l, rfl⟩
    · intro q hq; rw [addPart_nil] at hq; simp at hq; subst hq; exact hf c
    · rw [List.concat_eq_append] at h ⊢
      have all : ∀ q ∈ (pre ++ [l]) ++ [f c], q.clash = false → q.b = q.a := fun q hq => by
        rcases List.mem_append.1 hq with hq | hq
        · exact h q hq
        · rw [List.mem_singleton.1 hq]; exact hf c
      cases hpc : (f c).clash with
      | true => rw [addPart_clash _ _ hpc]; exact all
      | false =>
        cases hlc : l.clash with
        | true => rw [addPart_last _ _ _ hlc]; exact all
        | false =>
          rw [addPart_merge _ _ _ hlc hpc]
          intro q hq
          rcases List.mem_append.1 hq with hq | hq
          · exact h q (by simp [hq])
          · rw [List.mem_singleton.1 hq]
            intro _
            simp only
            rw [h l (by simp) hlc, hf c hpc]
theorem partOf_same (o a b : List Str) (c : Ck) : (partOf o a b c).clash = false → (partOf o a b c).b = (partOf o a b c).a := by
  unfold partOf
  split
  · intro h; cases h
  · split <;> (intro _; rfl)
theorem lines_same (o a b : Str) : ∀ p ∈ linesL o a b, p.clash = false → p.b = p.a := by
  unfold linesL
  rw [partsL_eq]
  exact fold_same _ (partOf_same _ _ _) _ [] (fun _ h => by cases h)
theorem lines_good (o a b : Str) (lo : o.length ≤ 2000) (la : a.length ≤ 2000) (lb : b.length ≤ 2000) : GoodL (linesL o a b) := by
  unfold linesL
  rw [partsL_eq]
  obtain ⟨x, y, z, h, hN⟩ := num3 (splitL o) (splitL a) (splitL b)
  have n1 := splitL_count o
  have n2 := splitL_count a
  have n3 := splitL_count b
  have k1 := hN.lo
  have k2 := hN.la
  have k3 := hN.lb
  refine fold_good _ _ [] (fun _ h => by cases h) (fun i c hc hl => ?_)
  rw [partsC_of h] at hc hl
  obtain ⟨e1, e2⟩ := chunks_ended _ _ _ x y z hN (rowOk_split o) (rowOk_split a) (rowOk_split b) (by omega) (by omega) (by omega) _ 0 0 0 (AtC.start x y z) i c hc hl
  unfold partOf
  split
  · exact e1
  · split
    · exact e2
    · exact e1

/-- WHAT THE FALLBACK SHOWS IS READ BACK: in either form, with marks as long as they are to be. -/
theorem sides_back (o a b : Str) (lo : o.length ≤ 2000) (la : a.length ≤ 2000) (lb : b.length ≤ 2000) (old : Bool) (m : Nat)
    (hm : m = min (lengthL (textsL (linesL o a b))) ((printL (linesL o a b) (lengthL (textsL (linesL o a b))) old).length + 1)) :
    ∃ qs, parseL (printL (linesL o a b) (lengthL (textsL (linesL o a b))) old) m = some qs ∧ sideL 1 qs = sideL 1 (linesL o a b) ∧ sideL 2 qs = sideL 2 (linesL o a b) := by
  have hg := lines_good o a b lo la lb
  have he := lines_same o a b
  have hl := low_parts (linesL o a b)
  have h7 := lengthL_ge (textsL (linesL o a b))
  generalize linesL o a b = ps at *
  generalize lengthL (textsL ps) = N at *
  cases hc : ps.any (·.clash) with
  | true =>
    have := clash_long (n := N) (old := old) hc
    obtain rfl : m = N := by omega
    exact parse_print (by omega) old ps hg hl he
  | false =>
    rw [print_plain N old ps hc] at hm ⊢
    have hps : ∀ p ∈ ps, p.clash = false := fun p hp => by
      cases hp2 : p.clash with
      | false => rfl
      | true => rw [List.any_eq_true.2 ⟨p, hp, hp2⟩] at hc; cases hc
    have hlow : ∀ p ∈ ps, Low m p.a ∧ (p.clash = true → Low m p.o ∧ Low m p.b) := fun p hp => by
      refine ⟨?_, fun h => by rw [hps p hp] at h; cases h⟩
      rcases Nat.le_total N ((sideL 1 ps).length + 1) with h | h
      · obtain rfl : m = N := by omega
        exact (hl p hp).1
      · exact low_len (by have := side_mem hp; omega)
    have := parse_print (n := m) (by omega) old ps hg hlow he
    rw [print_plain m old ps hc] at this
    exact this

end Go.Proofs.YtogfkfkejaiecaaGreatDoor.Hb

namespace Go.Proofs.YtogfkfkejaiecaaGreatDoor.Hc
open Go.RowKit Go.Shelf Go.Proofs.YtogfkfkejaiecaaGreatDoor.Pl Go.Proofs.YtogfkfkejaiecaaGreatDoor.Ut Go.Proofs.YtogfkfkejaiecaaGreatDoor.Ln Go.Proofs.YtogfkfkejaiecaaGreatDoor.Mk Go.Proofs.YtogfkfkejaiecaaGreatDoor.Ml Go.Proofs.YtogfkfkejaiecaaGreatDoor.Ms Go.Proofs.YtogfkfkejaiecaaGreatDoor.Mp Go.Proofs.YtogfkfkejaiecaaGreatDoor.Da Go.Proofs.YtogfkfkejaiecaaGreatDoor.Db Go.Proofs.YtogfkfkejaiecaaGreatDoor.Dc Go.Proofs.YtogfkfkejaiecaaGreatDoor.Dp Go.Proofs.YtogfkfkejaiecaaGreatDoor.Dq Go.Proofs.YtogfkfkejaiecaaGreatDoor.Ds Go.Proofs.YtogfkfkejaiecaaGreatDoor.Du Go.Proofs.YtogfkfkejaiecaaGreatDoor.Dv Go.Proofs.YtogfkfkejaiecaaGreatDoor.Ea Go.Proofs.YtogfkfkejaiecaaGreatDoor.Ec Go.Proofs.YtogfkfkejaiecaaGreatDoor.Ed Go.Proofs.YtogfkfkejaiecaaGreatDoor.Fa Go.Proofs.YtogfkfkejaiecaaGreatDoor.Ha Go.Proofs.YtogfkfkejaiecaaGreatDoor.Hb Go.Proofs.YtogfkfkejaiecaaGreatDoorW.PrintWords
set_option linter.unusedVariables false
set_option linter.unusedSimpArgs false
attribute [local go_sem] B_append B_extract B_toList B_size take_end

set_option maxRecDepth 100000 in
set_option maxHeartbeats 8000000 in
theorem rjoin_plain (ps : List Part) (A : Option Addr) (c : Nat) (w : World) (hC : Kd.C kPart w A ps.length ps) (hl : ps.length ≤ 1000000000) (ht : (sideL 1 ps).length ≤ 1000000000) (hp : ∀ p ∈ ps, p.clash = false) :
    Calls Tryz.prog 20 #[.slice A ps.length c] w fun e w' => e = .returned (.tuple #[.string (B (sideL 1 ps)), .bool true]) ∧ w' = w := by
  have HC := Lib.hid hC
  have HT := Lib.hid ht
  have HP := Lib.hid hp
  clear hC ht hp
  go_enter Tryz.func20, Tryz.ntmps20
  go_wp2
  go_loopw [4, 5] (fun t i wr => ∃ k : Nat, k ≤ ps.length ∧ t = .string (B (sideL 1 (ps.take k))) ∧ i = .int .i64 (k : Int) ∧ wr = w) (fun _ i _ => ps.length - (intOf i).toNat)
  case atStart => exact ⟨0, by omega, rfl, rfl, rfl⟩
  case round =>
    obtain ⟨k, hk, rfl, rfl, rfl⟩ := hrel
    rcases Nat.eq_or_lt_of_le hk with hk0 | hk0
    · have hlt : ¬ (k : Int) < (ps.length : Int) := by omega
      have HS := Lib.hid (show sideL 1 (ps.take k) = sideL 1 ps from by rw [hk0, List.take_length])
      go_wp2
      go_ret2
      exact ⟨by rw [← HS.out]; rfl, rfl⟩
    · have hlt : (k : Int) < (ps.length : Int) := by omega
      obtain ⟨x, hx⟩ : ∃ x, ps[k]? = some x := ⟨_, List.getElem?_eq_getElem hk0⟩
      obtain ⟨ad, rfl, e0, e1, e2, e3⟩ := at_part HC.out k hk0 x hx
      rw [HP.out x (List.mem_of_getElem? hx)] at e0
      have HNX := Lib.hid (sideL_take 1 ps k x hx)
      have hle : ¬ 9223372036854775807 < (sideL 1 (ps.take k)).length + x.a.length := by
        have := sideL_le 1 ps (k + 1)
        rw [HNX.out, List.length_append] at this
        have h2 : pickL 1 x = x.a := rfl
        rw [h2] at this
        have := HT.out
        omega
      have cadd : IntKind.i64.wrap ((k : Int) + 1) = ((k + 1 : Nat) : Int) := by rw [IntWalk.i64_in _ (by omega)]; omega
      have HK := Lib.hid hk0
      go_wp2
      go_roundw
      case rel => exact ⟨k + 1, HK.out, by rw [HNX.out]; rfl, rfl, trivial⟩
      · have := HK.out; simp only [intOf]; omega

set_option maxRecDepth 100000 in
set_option maxHeartbeats 8000000 in
theorem sides_walk (hA : AwakeOk) (hL : LinesOk) (o a b : Str) (z0 : o.length ≤ 9223372036854775807) (z1 : a.length ≤ 9223372036854775807) (z2 : b.length ≤ 9223372036854775807) (w : World) (hS : Signs w) :
    Calls Tryz.prog 5 #[.string (B o), .string (B a), .string (B b)] w fun e w' => e = .returned (.bool true) ∧ Below w.heap.size w w' := by
  go_enter Tryz.func5, Tryz.ntmps5
  go_wp2_with fail
  refine (hA _ hS).mono ?_
  rintro e w1 ⟨rfl, hb1⟩
  have HB1 := Lib.hid hb1
  clear hb1
  by_cases hq : 500 < o.length
  · have hl : decide ((500 : Int) < (o.length : Int)) = true := by rw [decide_eq_true_iff]; omega
    go_wp2
    go_ret
    exact ⟨rfl, HB1.out⟩
  · have hl : decide ((500 : Int) < (o.length : Int)) = false := by rw [decide_eq_false_iff_not]; omega
    by_cases hq2 : 500 < a.length
    · have hl2 : decide ((500 : Int) < (a.length : Int)) = true := by rw [decide_eq_true_iff]; omega
      go_wp2
      go_ret
      exact ⟨rfl, HB1.out⟩
    · have hl2 : decide ((500 : Int) < (a.length : Int)) = false := by rw [decide_eq_false_iff_not]; omega
      by_cases hq3 : 500 < b.length
      · have hl3 : decide ((500 : Int) < (b.length : Int)) = true := by rw [decide_eq_true_iff]; omega
        go_wp2
        go_ret
        exact ⟨rfl, HB1.out⟩
      · have hl3 : decide ((500 : Int) < (b.length : Int)) = false := by rw [decide_eq_false_iff_not]; omega
        have l0 : o.length ≤ 500 := by omega
        have l1 : a.length ≤ 500 := by omega
        have l2 : b.length ≤ 500 := by omega
        obtain ⟨n1, n2, n3, n4, n5⟩ := lines_fit o a b l0 l1 l2 true _ rfl
        obtain ⟨_, _, _, n4', _⟩ := lines_fit o a b l0 l1 l2 false _ rfl
        have h7 : 7 ≤ marksL o a b := lengthL_ge _
        have hMl : marksL o a b ≤ 9223372036854775807 := by unfold marksL; omega
        obtain ⟨S, hSd⟩ : ∃ S, S = printL (linesL o a b) (marksL o a b) true := ⟨_, rfl⟩
        obtain ⟨T, hTd⟩ : ∃ T, T = printL (linesL o a b) (marksL o a b) false := ⟨_, rfl⟩
        obtain ⟨ls, hls⟩ : ∃ ls, ls = linesL o a b := ⟨_, rfl⟩
        obtain ⟨K, hK⟩ : ∃ K : Bool, K = ls.any (·.clash) := ⟨_, rfl⟩
        have f1 : fileL o a b true true true true = (S, true, if K then 1 else 0) := by rw [hK, hls, hSd]; simp [fileL, threeL, clL, showL, marksL]
        have f2 : fileL o a b true true true false = (T, true, if K then 1 else 0) := by rw [hK, hls, hTd]; simp [fileL, threeL, clL, showL, marksL]
        have hS1 : S.length ≤ 20000000 := by rw [hSd]; exact n4
        have hT1 : T.length ≤ 20000000 := by rw [hTd]; exact n4'
        obtain ⟨qs, p1, p2, p3⟩ := sides_back o a b (by omega) (by omega) (by omega) true (min (marksL o a b) (S.length + 1)) (by rw [hSd]; rfl)
        obtain ⟨rs, q1, q2, q3⟩ := sides_back o a b (by omega) (by omega) (by omega) false (min (marksL o a b) (T.length + 1)) (by rw [hTd]; rfl)
        have K1 := Lib.hid (fun (W : World) (h : Below w.heap.size w W) => file_any o a b true true true true l0 l1 l2 W (hS.below h))
        have K2 := Lib.hid (fun (W : World) (h : Below w.heap.size w W) => file_any o a b true true true false l0 l1 l2 W (hS.below h))
        rw [f1] at K1
        rw [f2] at K2
        have K3 := Lib.hid (fun (W : World) (h : Below w.heap.size w W) => marks_any o a b l0 l1 l2 W (hS.below h))
        have K4 := Lib.hid (fun (W : World) (h : Below w.heap.size w W) => sides_any S (marksL o a b) _ (by omega) rfl hMl (by omega) W (hS.below h))
        have K5 := Lib.hid (fun (W : World) (h : Below w.heap.size w W) => sides_any T (marksL o a b) _ (by omega) rfl hMl (by omega) W (hS.below h))
        have K6 := Lib.hid (fun (W : World) => hL o a b W l0 l1 l2)
        have r1 : parseL S (min (marksL o a b) (S.length + 1)) = some qs := by conv => { lhs; arg 1; rw [hSd] }; exact p1
        have r2 : parseL T (min (marksL o a b) (T.length + 1)) = some rs := by conv => { lhs; arg 1; rw [hTd] }; exact q1
        rw [← hls] at p2 p3 q2 q3
        have e1 : sidesR S (min (marksL o a b) (S.length + 1)) = (sideL 0 qs, sideL 1 ls, sideL 2 ls, 0) := by
          unfold sidesR; rw [r1]; simp only; rw [p2, p3]
        have e2 : sidesR T (min (marksL o a b) (T.length + 1)) = (sideL 0 rs, sideL 1 ls, sideL 2 ls, 0) := by
          unfold sidesR; rw [r2]; simp only; rw [q2, q3]
        rw [e1] at K4
        rw [e2] at K5
        rw [← hls] at K6 n2 n5
        have hls2 : ls.length ≤ 1000000000 := by omega
        have hs1 : (sideL 1 ls).length ≤ 1000000000 := by have := sideL_size 1 ls; omega
        have hs2 : (sideL 2 ls).length ≤ 1000000000 := by have := sideL_size 2 ls; omega
        have hsame : ∀ p ∈ ls, p.clash = false → p.b = p.a := by rw [hls]; exact lines_same o a b
        have KJ := Lib.hid (fun (A : Option Addr) (c : Nat) (W : World) (hC : Kd.C kPart W A ls.length ls) (hp : ∀ p ∈ ls, p.clash = false) => rjoin_plain ls A c W hC hls2 hs1 hp)
        have KA := Lib.hid (fun (A : Option Addr) (c : Nat) (W : World) (hC : Kd.C kPart W A ls.length ls) => rside1 ls A c W hC hls2 hs1)
        have KB := Lib.hid (fun (A : Option Addr) (c : Nat) (W : World) (hC : Kd.C kPart W A ls.length ls) => rside2 ls A c W hC hls2 hs2)
        have hpl : K = false → S = sideL 1 ls ∧ T = sideL 1 ls ∧ sideL 2 ls = sideL 1 ls ∧ ∀ p ∈ ls, p.clash = false := fun h => by
          have hany : ls.any (·.clash) = false := by rw [← hK]; exact h
          refine ⟨by rw [hSd, ← hls]; exact print_plain _ _ ls hany, by rw [hTd, ← hls]; exact print_plain _ _ ls hany, side_plain ls hany hsame, fun p hp => ?_⟩
          cases hp2 : p.clash with
          | false => rfl
          | true => rw [List.any_eq_true.2 ⟨p, hp, hp2⟩] at hany; cases hany
        have HPL := Lib.hid hpl
        obtain ⟨M, hM⟩ : ∃ M, M = marksL o a b := ⟨_, rfl⟩
        obtain ⟨X0, hX0⟩ : ∃ X, X = sideL 0 qs := ⟨_, rfl⟩
        obtain ⟨Y0, hY0⟩ : ∃ X, X = sideL 0 rs := ⟨_, rfl⟩
        obtain ⟨J1, hJ1⟩ : ∃ X, X = sideL 1 ls := ⟨_, rfl⟩
        obtain ⟨J2, hJ2⟩ : ∃ X, X = sideL 2 ls := ⟨_, rfl⟩
        obtain ⟨kk, hkk⟩ : ∃ kk : Int, kk = if K then 1 else 0 := ⟨_, rfl⟩
        rw [← hM] at K3 K4 K5
        rw [← hX0, ← hJ1, ← hJ2] at K4
        rw [← hY0, ← hJ1, ← hJ2] at K5
        rw [← hkk] at K1 K2
        rw [← hJ1] at KJ KA
        rw [← hJ2] at KB
        rw [← hJ1, ← hJ2] at HPL
        have HKK := Lib.hid hkk
        clear hpl hsame hs1 hs2 hls2 e1 e2 r1 r2 p1 p2 p3 q1 q2 q3 n1 n2 n3 n4 n5 n4' f1 f2 hS1 hT1 h7 hMl hSd hTd hM hX0 hY0 hJ1 hJ2 hkk hls hK hA hL
        (try dsimp only at K1); (try dsimp only at K2); (try dsimp only at K4); (try dsimp only at K5)
        go_wp2_with fail
        obtain ⟨U, hU⟩ : ∃ U, U = w1.alloc (.cells #[.bool true, .bool true, .bool true] 23) := ⟨_, rfl⟩
        have hbU : Below w1.heap.size w1 U := by rw [hU]; exact below_alloc (Below.refl _ _) _
        have HG := Lib.hid (show U.heap[w1.heap.size]? = some (.cells #[.bool true, .bool true, .bool true] 23 (0, 0)) from by rw [hU]; exact blk_new _ _)
        have HBU := Lib.hid (HB1.out.trans (hbU.mono HB1.out.size))
        rw [← hU]
        clear hU hbU
        refine (K1.out _ HBU.out).mono ?_
        rintro e w2 ⟨rfl, hb2⟩
        have HG2 := Lib.hid (blk_below HG.out hb2)
        have HB2 := Lib.hid (HBU.out.trans (hb2.mono HBU.out.size))
        have b0 : w2.cell? ⟨w1.heap.size, 0, none⟩ = some (.bool true) := by rw [blk_cell HG2.out]; rfl
        have b1 : w2.cell? ⟨w1.heap.size, 1, none⟩ = some (.bool true) := by rw [blk_cell HG2.out]; rfl
        have b2 : w2.cell? ⟨w1.heap.size, 2, none⟩ = some (.bool true) := by rw [blk_cell HG2.out]; rfl
        clear hb2 K1
        go_wp2_with fail
        refine (K2.out _ HB2.out).mono ?_
        rintro e w3 ⟨rfl, hb3⟩
        have HB3 := Lib.hid (HB2.out.trans (hb3.mono HB2.out.size))
        clear hb3 b0 b1 b2 K2
        go_wp2_with fail
        refine (K3.out _ HB3.out).mono ?_
        rintro e w4 ⟨rfl, hb4⟩
        have HB4 := Lib.hid (HB3.out.trans (hb4.mono HB3.out.size))
        clear hb4 K3
        go_wp2_with fail
        refine (K4.out _ HB4.out).mono ?_
        rintro e w5 ⟨rfl, hb5⟩
        have HB5 := Lib.hid (HB4.out.trans (hb5.mono HB4.out.size))
        clear hb5 K4
        go_upto_region 11 with fail
        obtain ⟨u5, hu5⟩ : ∃ u, u = w5.alloc (.cells #[.string (B X0), .string (B J1), .string (B J2)] 22) := ⟨_, rfl⟩
        have hbu5 : Below w5.heap.size w5 u5 := by rw [hu5]; exact below_alloc (Below.refl _ _) _
        have HX := Lib.hid (show u5.heap[w5.heap.size]? = some (.cells #[.string (B X0), .string (B J1), .string (B J2)] 22 (0, 0)) from by rw [hu5]; exact blk_new _ _)
        have HBu5 := Lib.hid (HB5.out.trans (hbu5.mono HB5.out.size))
        rw [← hu5]
        clear hu5 hbu5
        go_wp2_with fail
        refine (K5.out _ HBu5.out).mono ?_
        rintro e w6 ⟨rfl, hb6⟩
        have HX6 := Lib.hid (blk_below HX.out hb6)
        have HB6 := Lib.hid (HBu5.out.trans (hb6.mono HBu5.out.size))
        clear hb6 K5 HX
        go_upto_region 12 with fail
        obtain ⟨u6', hu6⟩ : ∃ u, u = w6.alloc (.cells #[.string (B Y0), .string (B J1), .string (B J2)] 22) := ⟨_, rfl⟩
        have hbu6 : Below w6.heap.size w6 u6' := by rw [hu6]; exact below_alloc (Below.refl _ _) _
        have HY := Lib.hid (show u6'.heap[w6.heap.size]? = some (.cells #[.string (B Y0), .string (B J1), .string (B J2)] 22 (0, 0)) from by rw [hu6]; exact blk_new _ _)
        have HX7 := Lib.hid (blk_below HX6.out hbu6)
        have HBu6 := Lib.hid (HB6.out.trans (hbu6.mono HB6.out.size))
        rw [← hu6]
        clear hu6 hbu6 HX6
        go_wp2_with fail
        refine (K6.out _).mono ?_
        rintro e w8 ⟨v, rfl, hR8, hb8⟩
        obtain ⟨AL, cL, rfl, _, hC8⟩ := Kd.R_reads hR8
        have HC8 := Lib.hid hC8
        have HX8 := Lib.hid (blk_below HX7.out hb8)
        have HY8 := Lib.hid (blk_below HY.out hb8)
        have HB8 := Lib.hid (HBu6.out.trans (hb8.mono HBu6.out.size))
        have s1 : w8.cell? ⟨w5.heap.size, 1, none⟩ = some (.string (B J1)) := by rw [blk_cell HX8.out]; rfl
        have s2 : w8.cell? ⟨w5.heap.size, 2, none⟩ = some (.string (B J2)) := by rw [blk_cell HX8.out]; rfl
        have t1 : w8.cell? ⟨w6.heap.size, 1, none⟩ = some (.string (B J1)) := by rw [blk_cell HY8.out]; rfl
        have t2 : w8.cell? ⟨w6.heap.size, 2, none⟩ = some (.string (B J2)) := by rw [blk_cell HY8.out]; rfl
        clear hR8 hC8 hb8 K6
        cases K with
        | false =>
          obtain ⟨j1, j2, j3, j4⟩ := HPL.out rfl
          subst j1 j2
          have hk0 : kk = 0 := by rw [HKK.out]; rfl
          subst hk0
          subst j3
          have HJ4 := Lib.hid j4
          clear j4
          go_wp2_with fail
          refine (KJ.out _ _ _ HC8.out HJ4.out).mono ?_
          rintro e w9 ⟨rfl, rfl⟩
          go_wp2_with fail
          go_ret
          exact ⟨rfl, HB8.out⟩
        | true =>
          have hk0 : kk = 1 := by rw [HKK.out]; rfl
          subst hk0
          go_wp2_with fail
          go_quiet (first | (go_at_call_of 21 (Value.int IntKind.i64 1); exact Calls.quiet_of_same (KA.out _ _ _ (Kd.C_below HC8.out (pw_below_drewN (Below.refl _ _) _)))) | (go_at_call_of 21 (Value.int IntKind.i64 2); exact Calls.quiet_of_same (KB.out _ _ _ (Kd.C_below HC8.out (pw_below_drewN (Below.refl _ _) _)))))
          go_wp2
          go_ret
          exact ⟨rfl, pw_below_drewN HB8.out _⟩

end Go.Proofs.YtogfkfkejaiecaaGreatDoor.Hc
