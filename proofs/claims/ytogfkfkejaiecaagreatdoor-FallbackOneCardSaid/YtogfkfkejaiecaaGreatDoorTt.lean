/- FallbackOne: what the texts of FallbackTrees left out; the plain law; the walk; the card. -/
import Derived.Test.YtogfkfkejaiecaaGreatDoorTp
import Derived.Test.YtogfkfkejaiecaaGreatDoorTq
import Derived.Test.YtogfkfkejaiecaaGreatDoorTr

namespace Go.Proofs.YtogfkfkejaiecaaGreatDoor.Da
open Pl
set_option linter.unusedVariables false
set_option linter.unusedSimpArgs false

theorem seeOne_mem (seen : List Str) (s : Str) : s ∈ seeOne seen s := by
  unfold seeOne; split <;> simp_all
theorem seeOne_prefix (seen : List Str) (s : Str) : seen <+: seeOne seen s := by
  unfold seeOne; split
  · exact List.prefix_refl _
  · exact List.prefix_append _ _
theorem seeRow_prefix : ∀ (l : List Str) (seen : List Str), seen <+: seeRow seen l
  | [], seen => List.prefix_refl _
  | s :: r, seen => (seeOne_prefix seen s).trans (seeRow_prefix r _)
end Go.Proofs.YtogfkfkejaiecaaGreatDoor.Da

namespace Go.Proofs.YtogfkfkejaiecaaGreatDoor.Jq
open Pl Ga Gb Jp
set_option linter.unusedVariables false
set_option linter.unusedSimpArgs false

theorem paths_up (ts : List (List Fl)) : Up (pathsL ts) ∧ ∀ x, x ∈ pathsL ts ↔ x ∈ allL ts := sorted_up (allL ts)

theorem getL_mem {l : List Fl} (h : Up (keysF l)) {f : Fl} (hf : f ∈ l) : getL l f.1 = (f.2, true) := by
  induction l with
  | nil => cases hf
  | cons g r ih =>
    unfold getL
    rcases List.mem_cons.1 hf with rfl | hf
    · simp
    · have hlt : g.1 < f.1 := Up.head h f.1 (List.mem_map_of_mem hf)
      have hne : (g.1 == f.1) = false := by rw [beq_eq_false_iff_ne]; exact fun e => lt_irrefl' f.1 (by rw [e] at hlt; exact hlt)
      rw [List.find?_cons_of_neg (by rw [hne]; simp)]
      exact ih (Up.tail h) hf
theorem getL_none {l : List Fl} {p : Str} (h : p ∉ keysF l) : getL l p = ([], false) := by
  unfold getL
  rw [List.find?_eq_none.2 (fun f hf => by
    rw [beq_iff_eq]
    rintro rfl
    exact h (List.mem_map_of_mem hf))]
theorem getL_cases (l : List Fl) (p : Str) : ((getL l p).2 = true ∧ p ∈ keysF l) ∨ (getL l p = ([], false) ∧ p ∉ keysF l) := by
  by_cases h : p ∈ keysF l
  · refine .inl ⟨?_, h⟩
    obtain ⟨f, hf, rfl⟩ := List.mem_map.1 h
    unfold getL
    cases hx : l.find? (fun g => g.1 == f.1) with
    | none => have := List.find?_eq_none.1 hx f hf; simp at this
    | some g => rfl
  · exact .inr ⟨getL_none h, h⟩
/-- A tree whose paths rise is told by its paths and their texts. -/
theorem told_back {t : List Fl} (h : Up (keysF t)) : ∀ {l : List Fl}, (∀ f ∈ l, f ∈ t) → (keysF l).map (fun p => (p, (getL t p).1)) = l
  | [], _ => rfl
  | f :: r, hl => by
    have h1 := getL_mem h (hl f (by simp))
    have h2 := told_back h (l := r) (fun g hg => hl g (by simp [hg]))
    unfold keysF at h2 ⊢
    rw [List.map_cons, List.map_cons, h2, h1]

end Go.Proofs.YtogfkfkejaiecaaGreatDoor.Jq

namespace Go.Proofs.YtogfkfkejaiecaaGreatDoor.Jr
open Pl Da Db Dc Dm Dp Dq Ds
set_option linter.unusedVariables false
set_option linter.unusedSimpArgs false

theorem idx_prefix {seen S : List Str} {s : Str} (h : seeOne seen s <+: S) : S.idxOf s = seen.idxOf s ∧ s ∈ S := by
  have hm : s ∈ seeOne seen s := seeOne_mem seen s
  obtain ⟨r, rfl⟩ := h
  refine ⟨?_, List.mem_append_left _ hm⟩
  rw [List.idxOf_append, if_pos hm]
  unfold seeOne
  by_cases hs : s ∈ seen
  · rw [if_pos hs]
  · rw [if_neg hs, List.idxOf_append, if_neg hs]
    simp [List.idxOf_eq_length hs]
theorem numRow_map {S : List Str} : ∀ (l : List Str) (seen : List Str), seeRow seen l <+: S → numRow seen l = l.map (fun s => S.idxOf s) ∧ ∀ s ∈ l, s ∈ S
  | [], _, _ => ⟨rfl, fun s hs => by cases hs⟩
  | s :: r, seen, h => by
    have h1 : seeOne seen s <+: S := (seeRow_prefix r (seeOne seen s)).trans h
    obtain ⟨i1, i2⟩ := idx_prefix h1
    obtain ⟨j1, j2⟩ := numRow_map r (seeOne seen s) h
    refine ⟨?_, fun x hx => ?_⟩
    · rw [numRow, List.map_cons, i1, j1]; rfl
    · rcases List.mem_cons.1 hx with rfl | hx
      · exact i2
      · exact j2 x hx
/-- The three rows' numbers: one to each line. -/
theorem nums3 (o a b : List Str) : ∃ S : List Str, numRows [] [o, a, b] = [o.map (fun s => S.idxOf s), a.map (fun s => S.idxOf s), b.map (fun s => S.idxOf s)] ∧ (∀ s ∈ o, s ∈ S) ∧ (∀ s ∈ a, s ∈ S) ∧ (∀ s ∈ b, s ∈ S) := by
  have p2 := seeRow_prefix b (seeRow (seeRow [] o) a)
  have p1 := (seeRow_prefix a (seeRow [] o)).trans p2
  obtain ⟨x1, y1⟩ := numRow_map o [] p1
  obtain ⟨x2, y2⟩ := numRow_map a (seeRow [] o) p2
  obtain ⟨x3, y3⟩ := numRow_map b (seeRow (seeRow [] o) a) (List.prefix_refl _)
  refine ⟨_, ?_, y1, y2, y3⟩
  show [numRow [] o, numRow (seeRow [] o) a, numRow (seeRow (seeRow [] o) a) b] = _
  rw [x1, x2, x3]
theorem idx_inj {S : List Str} {s t : Str} (hs : s ∈ S) (ht : t ∈ S) (h : S.idxOf s = S.idxOf t) : s = t := by
  have h1 := List.getElem_idxOf (List.idxOf_lt_length_of_mem hs)
  have h2 := List.getElem_idxOf (List.idxOf_lt_length_of_mem ht)
  rw [← h1, ← h2]
  congr 1
theorem map_inj {S : List Str} : ∀ {l m : List Str}, (∀ s ∈ l, s ∈ S) → (∀ s ∈ m, s ∈ S) → l.map (fun s => S.idxOf s) = m.map (fun s => S.idxOf s) → l = m
  | [], [], _, _, _ => rfl
  | [], _ :: _, _, _, h => by simp at h
  | _ :: _, [], _, _, h => by simp at h
  | x :: l, y :: m, hl, hm, h => by
    rw [List.map_cons, List.map_cons] at h
    injection h with h1 h2
    rw [idx_inj (hl x (by simp)) (hm y (by simp)) h1, map_inj (fun s hs => hl s (by simp [hs])) (fun s hs => hm s (by simp [hs])) h2]
theorem cutL_map {α β : Type} (f : α → β) (l : List α) (i j : Nat) : cutL (l.map f) i j = (cutL l i j).map f := by
  unfold cutL; rw [← List.map_drop, ← List.map_take]
theorem cutL_mem {α : Type} {l : List α} {i j : Nat} {x : α} (h : x ∈ cutL l i j) : x ∈ l := List.mem_of_mem_drop (List.mem_of_mem_take h)

theorem matchW_self : ∀ (x : List Nat) (k i : Nat), i < x.length → (matchW x x k)[i]? = some ((k + i : Nat) : Int)
  | [], _, _, h => by simp at h
  | a :: s, k, i, h => by
    rw [matchW, if_pos rfl]
    cases i with
    | zero => rfl
    | succ i =>
      rw [List.getElem?_cons_succ, matchW_self s (k + 1) i (by simpa using h)]
      congr 2; omega
theorem headN_self : ∀ x : List Nat, headN x x = x.length
  | [] => rfl
  | a :: s => by rw [headN, if_pos rfl, headN_self s]; rfl
theorem matchL_self (x : List Nat) (i : Nat) (h : i < x.length) : (matchL x x)[i]? = some (i : Int) := by
  unfold matchL
  split
  · unfold matchB
    rw [List.getElem?_map, List.getElem?_range h, headN_self]
    simp [h]
  · rw [matchW_self x 0 i h, Nat.zero_add]
theorem matchL_in {x y : List Nat} {i : Nat} {v : Int} (h : (matchL x y)[i]? = some v) : i < x.length := by
  have := (List.getElem?_eq_some_iff.1 h).1
  rwa [(matchL_rising x y).2] at this

theorem step_oa (x z : List Nat) (p s : Nat) : (stepC (matchL x x) (matchL x z) x.length x.length z.length p p s).1 = (stepC (matchL x x) (matchL x z) x.length x.length z.length p p s).2.1 := by
  unfold stepC
  split
  · rfl
  · cases hn : nextN (List.drop p (matchL x x)) (List.drop p (matchL x z)) p with
    | none => rfl
    | some t =>
      obtain ⟨pe, u, v⟩ := t
      obtain ⟨h0, h1, _, _, _⟩ := nextN_some _ _ _ _ _ _ hn
      rw [List.getElem?_drop, show p + (pe - p) = pe by omega] at h1
      have h2 := matchL_self x pe (matchL_in h1)
      rw [h1] at h2
      cases h2
      rfl
theorem step_ob (x y : List Nat) (p q : Nat) : (stepC (matchL x y) (matchL x x) x.length y.length x.length p q p).1 = (stepC (matchL x y) (matchL x x) x.length y.length x.length p q p).2.2 := by
  unfold stepC
  split
  · rfl
  · cases hn : nextN (List.drop p (matchL x y)) (List.drop p (matchL x x)) p with
    | none => rfl
    | some t =>
      obtain ⟨pe, u, v⟩ := t
      obtain ⟨h0, _, h1, _, _⟩ := nextN_some _ _ _ _ _ _ hn
      rw [List.getElem?_drop, show p + (pe - p) = pe by omega] at h1
      have h2 := matchL_self x pe (matchL_in h1)
      rw [h1] at h2
      cases h2
      rfl
theorem next_ab : ∀ (m : List Int) (p pe : Nat) (u v : Int), nextN m m p = some (pe, u, v) → u = v
  | [], _, _, _, _, h => by simp [nextN] at h
  | x :: m, p, pe, u, v, h => by
    unfold nextN at h
    split at h
    · cases h; rfl
    · exact next_ab m (p + 1) pe u v h
theorem step_ab (x y : List Nat) (p q : Nat) : (stepC (matchL x y) (matchL x y) x.length y.length y.length p q q).2.1 = (stepC (matchL x y) (matchL x y) x.length y.length y.length p q q).2.2 := by
  unfold stepC
  split
  · rfl
  · cases hn : nextN (List.drop p (matchL x y)) (List.drop p (matchL x y)) p with
    | none => rfl
    | some t =>
      obtain ⟨pe, u, v⟩ := t
      have h1 := next_ab _ _ _ _ _ hn
      subst h1
      rfl
def KindOk (o a b : List Nat) (c : Ck) : Prop := c.kind = kindL (cutL o c.o1 c.o2) (cutL a c.a1 c.a2) (cutL b c.b1 c.b2)
theorem go_oa (x z : List Nat) : ∀ (f p s : Nat), ∀ c ∈ chunkGo x x z f p p s, KindOk x x z c ∧ c.o1 = c.a1 ∧ c.o2 = c.a2
  | 0, _, _, c, h => by simp [chunkGo] at h
  | f + 1, p, s, c, h => by
    unfold chunkGo at h
    split at h
    · cases h
    · have hs := step_oa x z p s
      rcases List.mem_cons.1 h with rfl | h
      · exact ⟨rfl, rfl, hs⟩
      · rw [← hs] at h
        exact go_oa x z f _ _ c h
theorem go_ob (x y : List Nat) : ∀ (f p q : Nat), ∀ c ∈ chunkGo x y x f p q p, KindOk x y x c ∧ c.o1 = c.b1 ∧ c.o2 = c.b2
  | 0, _, _, c, h => by simp [chunkGo] at h
  | f + 1, p, q, c, h => by
    unfold chunkGo at h
    split at h
    · cases h
    · have hs := step_ob x y p q
      rcases List.mem_cons.1 h with rfl | h
      · exact ⟨rfl, rfl, hs⟩
      · rw [← hs] at h
        exact go_ob x y f _ _ c h
theorem go_ab (x y : List Nat) : ∀ (f p q : Nat), ∀ c ∈ chunkGo x y y f p q q, KindOk x y y c ∧ c.a1 = c.b1 ∧ c.a2 = c.b2
  | 0, _, _, c, h => by simp [chunkGo] at h
  | f + 1, p, q, c, h => by
    unfold chunkGo at h
    split at h
    · cases h
    · have hs := step_ab x y p q
      rcases List.mem_cons.1 h with rfl | h
      · exact ⟨rfl, rfl, hs⟩
      · rw [← hs] at h
        exact go_ab x y f _ _ c h

theorem add_plain {out : List Part} {p : Part} (h : ∀ q ∈ out, q.clash = false) (hp : p.clash = false) : (∀ q ∈ addPart out p, q.clash = false) ∧ sideL 1 (addPart out p) = sideL 1 out ++ p.a := by
  have one : ∀ (l : List Part) (x : Part), sideL 1 (l ++ [x]) = sideL 1 l ++ x.a := fun l x => by simp [sideL, pickL]
  unfold addPart
  rcases List.eq_nil_or_concat out with rfl | ⟨pre, l, rfl⟩
  · exact ⟨fun q hq => by simp at hq; rw [hq]; exact hp, one [] p⟩
  · rw [List.concat_eq_append] at h ⊢
    have hl := h l (by simp)
    rw [show (pre ++ [l]).getLast? = some l from List.getLast?_concat]
    simp only [hp, hl, and_self, if_true, List.dropLast_concat]
    refine ⟨fun q hq => ?_, ?_⟩
    · rcases List.mem_append.1 hq with hq | hq
      · exact h q (by simp [hq])
      · simp at hq; rw [hq]
    · rw [one, one, List.append_assoc]
theorem fold_plain (f : Ck → Part) : ∀ (cs : List Ck) (out : List Part), (∀ q ∈ out, q.clash = false) → (∀ c ∈ cs, (f c).clash = false) →
    (∀ q ∈ cs.foldl (fun out c => addPart out (f c)) out, q.clash = false) ∧ sideL 1 (cs.foldl (fun out c => addPart out (f c)) out) = sideL 1 out ++ (cs.map (fun c => (f c).a)).flatten
  | [], out, h, _ => ⟨h, by simp⟩
  | c :: r, out, h, hc => by
    obtain ⟨h1, h2⟩ := add_plain h (hc c (by simp))
    obtain ⟨i1, i2⟩ := fold_plain f r _ h1 (fun c hc' => hc c (by simp [hc']))
    refine ⟨i1, ?_⟩
    rw [List.foldl_cons, i2, h2]
    simp
/-- No part clashes, and each is the side's: the lines' outcome is that side. -/
theorem parts_plain {o a b : List Str} {g : Ck → Str} (h : ∀ c ∈ partsC o a b, (partOf o a b c).clash = false ∧ (partOf o a b c).a = g c) :
    (∀ q ∈ partsL o a b, q.clash = false) ∧ sideL 1 (partsL o a b) = ((partsC o a b).map g).flatten := by
  have e : partsL o a b = (partsC o a b).foldl (fun out c => addPart out (partOf o a b c)) [] := by
    obtain ⟨x, y, z, hn, _⟩ := numRows3 o a b
    unfold partsL partsC
    rw [hn]
  rw [e]
  obtain ⟨h1, h2⟩ := fold_plain (partOf o a b) (partsC o a b) [] (fun q hq => by cases hq) (fun c hc => (h c hc).1)
  refine ⟨h1, ?_⟩
  rw [h2]
  have : (partsC o a b).map (fun c => (partOf o a b c).a) = (partsC o a b).map g := List.map_congr_left (fun c hc => (h c hc).2)
  rw [this]
  simp [sideL]
theorem partsC_oa (o b : List Str) : ∀ c ∈ partsC o o b, (partOf o o b c).clash = false ∧ (partOf o o b c).a = joinL (cutL b c.b1 c.b2) := by
  obtain ⟨S, hn, m1, _, m3⟩ := nums3 o o b
  rw [partsC_of hn]
  intro c hc
  obtain ⟨hk, e1, e2⟩ := go_oa _ _ _ _ _ c hc
  unfold KindOk kindL at hk
  rw [e1, e2, if_pos rfl] at hk
  unfold partOf
  split at hk
  · rename_i he
    rw [cutL_map, cutL_map] at he
    have := map_inj (fun s hs => m1 s (cutL_mem hs)) (fun s hs => m3 s (cutL_mem hs)) he
    rw [hk, if_neg (by decide), if_neg (by decide)]
    exact ⟨rfl, by simp only; rw [this]⟩
  · rw [hk, if_neg (by decide), if_pos rfl]
    exact ⟨rfl, rfl⟩
theorem partsC_ob (o a : List Str) : ∀ c ∈ partsC o a o, (partOf o a o c).clash = false ∧ (partOf o a o c).a = joinL (cutL a c.a1 c.a2) := by
  obtain ⟨S, hn, _⟩ := nums3 o a o
  rw [partsC_of hn]
  intro c hc
  obtain ⟨hk, e1, e2⟩ := go_ob _ _ _ _ _ c hc
  unfold KindOk kindL at hk
  rw [e1, e2] at hk
  have : c.kind ≠ 4 ∧ c.kind ≠ 2 := by
    rw [hk]
    split
    · rename_i he
      rw [if_pos rfl]
      decide
    · rw [if_pos rfl]
      decide
  unfold partOf
  rw [if_neg this.1, if_neg this.2]
  exact ⟨rfl, rfl⟩
theorem partsC_ab (o a : List Str) : ∀ c ∈ partsC o a a, (partOf o a a c).clash = false ∧ (partOf o a a c).a = joinL (cutL a c.a1 c.a2) := by
  obtain ⟨S, hn, _⟩ := nums3 o a a
  rw [partsC_of hn]
  intro c hc
  obtain ⟨hk, e1, e2⟩ := go_ab _ _ _ _ _ c hc
  unfold KindOk kindL at hk
  rw [e1, e2] at hk
  have : c.kind ≠ 4 ∧ c.kind ≠ 2 := by
    rw [hk]
    split
    · rename_i he
      first | decide | (rw [if_pos he]; decide)
    · rename_i he
      first | decide | (rw [if_pos rfl]; decide) | (rw [if_neg he, if_pos rfl]; decide)
  unfold partOf
  rw [if_neg this.1, if_neg this.2]
  exact ⟨rfl, rfl⟩
theorem show_plain {ps : List Part} (h : ∀ q ∈ ps, q.clash = false) (old : Bool) (kind : Int) : showL ps old kind = (sideL 1 ps, true, 0) := by
  have hany : ps.any (·.clash) = false := by
    rw [List.any_eq_false]
    intro q hq
    rw [h q hq]; simp
  have hp : ∀ n, printL ps n old = sideL 1 ps := fun n => by
    unfold printL sideL
    rw [List.flatMap_def]
    congr 1
    refine List.map_congr_left (fun q hq => ?_)
    unfold partL pickL
    rw [h q hq]
    simp
  unfold showL
  rw [hany, hp]
  rfl
theorem show_oa (o b : Str) (old : Bool) (kind : Int) : showL (linesL o o b) old kind = (b, true, 0) := by
  obtain ⟨h1, h2⟩ := parts_plain (partsC_oa (splitL o) (splitL b))
  unfold linesL
  rw [show_plain h1, h2, (partsC_tile _ _ _).2.2, joinL_split]
theorem show_ob (o a : Str) (old : Bool) (kind : Int) : showL (linesL o a o) old kind = (a, true, 0) := by
  obtain ⟨h1, h2⟩ := parts_plain (partsC_ob (splitL o) (splitL a))
  unfold linesL
  rw [show_plain h1, h2, (partsC_tile _ _ _).2.1, joinL_split]
theorem show_ab (o a : Str) (old : Bool) (kind : Int) : showL (linesL o a a) old kind = (a, true, 0) := by
  obtain ⟨h1, h2⟩ := parts_plain (partsC_ab (splitL o) (splitL a))
  unfold linesL
  rw [show_plain h1, h2, (partsC_tile _ _ _).2.1, joinL_split]

theorem file_a (u v : Str) (hu hv old : Bool) (eu : hu = false → u = []) (ev : hv = false → v = []) : (hv = true → fileL u u v hu hu hv old = (v, true, 0)) ∧ (hv = false → (fileL u u v hu hu hv old).2.1 = false ∧ (fileL u u v hu hu hv old).2.2 = 0) := by
  unfold fileL threeL clL
  cases hu <;> cases hv <;> simp [show_oa]
theorem file_b (u v : Str) (hu hv old : Bool) (eu : hu = false → u = []) (ev : hv = false → v = []) : (hv = true → fileL u v u hu hv hu old = (v, true, 0)) ∧ (hv = false → (fileL u v u hu hv hu old).2.1 = false ∧ (fileL u v u hu hv hu old).2.2 = 0) := by
  unfold fileL threeL clL
  cases hu <;> cases hv <;> simp [show_ob]
theorem file_c (u v : Str) (hu hv old : Bool) (eu : hu = false → u = []) (ev : hv = false → v = []) : (hv = true → fileL u v v hu hv hv old = (v, true, 0)) ∧ (hv = false → (fileL u v v hu hv hv old).2.1 = false ∧ (fileL u v v hu hv hv old).2.2 = 0) := by
  unfold fileL threeL clL
  cases hu <;> cases hv <;> simp [show_ab]

end Go.Proofs.YtogfkfkejaiecaaGreatDoor.Jr

namespace Go.Proofs.YtogfkfkejaiecaaGreatDoor.Js
open Pl Ds Ga Gb Gc Gd Jp Jq Jr
set_option linter.unusedVariables false
set_option linter.unusedSimpArgs false

theorem putGo_mem {p t : Str} {f : Fl} : ∀ {l : List Fl} {dn : Bool}, f ∈ putGo p t l dn → f = (p, t) ∨ f ∈ l
  | [], dn, h => by
    unfold putGo at h
    split at h
    · cases h
    · simp at h; exact .inl h
  | x :: r, dn, h => by
    unfold putGo at h
    rcases List.mem_append.1 h with h | h
    · split at h
      · simp at h; exact .inl h
      · cases h
    · rcases List.mem_append.1 h with h | h
      · split at h
        · cases h
        · simp at h; exact .inr (by simp [h])
      · rcases putGo_mem h with h | h
        · exact .inl h
        · exact .inr (by simp [h])
theorem sortF_mem {f : Fl} : ∀ (n : Nat) (l : List Fl), l.length = n → f ∈ sortF l → f ∈ l
  | 0, l, h, hf => by
    obtain rfl := List.length_eq_zero_iff.1 h
    exact hf
  | n + 1, l, h, hf => by
    rcases List.eq_nil_or_concat l with rfl | ⟨pre, g, rfl⟩
    · simp at h
    · rw [List.concat_eq_append] at h hf ⊢
      rw [sortF_snoc] at hf
      rcases putGo_mem hf with hf | hf
      · rw [hf]; simp
      · exact List.mem_append_left _ (sortF_mem n pre (by simpa using h) hf)
theorem putOut_back {t : List Fl} {r : Str → Str × Bool × Int} : ∀ (P : List Str) (acc : List Fl), (∀ p ∈ P, p ∈ keysF t → r p = ((getL t p).1, true, 0)) → (∀ p ∈ P, p ∉ keysF t → (r p).2.1 = false ∧ (r p).2.2 = 0) →
    P.foldl (fun acc p => putOut acc p (r p)) acc = acc ++ (P.filter (fun p => decide (p ∈ keysF t))).map (fun p => (p, (getL t p).1))
  | [], acc, _, _ => by simp
  | p :: P, acc, h1, h2 => by
    rw [List.foldl_cons, putOut_back P _ (fun q hq => h1 q (by simp [hq])) (fun q hq => h2 q (by simp [hq]))]
    by_cases hp : p ∈ keysF t
    · rw [h1 p (by simp) hp, List.filter_cons_of_pos (by simpa using hp)]
      simp [putOut]
    · rw [List.filter_cons_of_neg (by simpa using hp)]
      unfold putOut
      rw [(h2 p (by simp) hp).1]
      simp
theorem putBad_back {t : List Fl} {r : Str → Str × Bool × Int} : ∀ (P : List Str), (∀ p ∈ P, p ∈ keysF t → r p = ((getL t p).1, true, 0)) → (∀ p ∈ P, p ∉ keysF t → (r p).2.1 = false ∧ (r p).2.2 = 0) →
    P.foldl (fun acc p => putBad acc p (r p)) [] = []
  | [], _, _ => rfl
  | p :: P, h1, h2 => by
    have h0 : (r p).2.2 = 0 := by
      by_cases hp : p ∈ keysF t
      · rw [h1 p (by simp) hp]
      · exact (h2 p (by simp) hp).2
    rw [List.foldl_cons]
    unfold putBad
    rw [if_pos h0]
    exact putBad_back P (fun q hq => h1 q (by simp [hq])) (fun q hq => h2 q (by simp [hq]))
theorem trees_back {t o a b : List Fl} {old : Bool} (hu : Up (keysF t)) (hsub : ∀ x ∈ keysF t, x ∈ pathsL [o, a, b]) (h1 : ∀ p, p ∈ keysF t → outOf o a b old p = ((getL t p).1, true, 0)) (h2 : ∀ p, p ∉ keysF t → (outOf o a b old p).2.1 = false ∧ (outOf o a b old p).2.2 = 0) :
    treesL o a b old = (t, []) := by
  have hP := (paths_up [o, a, b]).1
  have hf : (pathsL [o, a, b]).filter (fun p => decide (p ∈ keysF t)) = keysF t := by
    refine Up.unique (List.Pairwise.filter _ hP) hu fun x => ?_
    rw [List.mem_filter, decide_eq_true_eq]
    exact ⟨fun h => h.2, fun h => ⟨hsub x h, h⟩⟩
  unfold treesL outsL badsL
  rw [putOut_back _ _ (fun p _ => h1 p) (fun p _ => h2 p), putBad_back _ (fun p _ => h1 p) (fun p _ => h2 p), hf, told_back hu (fun f hf => hf)]
  rfl
theorem in_paths {t : List Fl} {ts : List (List Fl)} (h : t ∈ ts) : ∀ x ∈ keysF t, x ∈ pathsL ts := fun x hx => by
  rw [(paths_up ts).2]
  unfold allL
  exact List.mem_flatMap.2 ⟨t, h, hx⟩
theorem get_none {l : List Fl} {p : Str} (h : (getL l p).2 = false) : (getL l p).1 = [] := by
  rcases getL_cases l p with ⟨h1, _⟩ | ⟨h1, _⟩
  · rw [h1] at h; cases h
  · rw [h1]
theorem get_is {l : List Fl} {p : Str} (h : p ∈ keysF l) : (getL l p).2 = true := by
  rcases getL_cases l p with ⟨h1, _⟩ | ⟨_, h1⟩
  · exact h1
  · exact absurd h h1
theorem get_not {l : List Fl} {p : Str} (h : p ∉ keysF l) : (getL l p).2 = false := by rw [getL_none h]
theorem trees_a (s t : List Fl) (old : Bool) (hu : Up (keysF t)) : treesL s s t old = (t, []) :=
  trees_back hu (in_paths (by simp))
    (fun p hp => (file_a (getL s p).1 (getL t p).1 _ _ old get_none get_none).1 (get_is hp))
    (fun p hp => (file_a (getL s p).1 (getL t p).1 _ _ old get_none get_none).2 (get_not hp))
theorem trees_b (s t : List Fl) (old : Bool) (hu : Up (keysF t)) : treesL s t s old = (t, []) :=
  trees_back hu (in_paths (by simp))
    (fun p hp => (file_b (getL s p).1 (getL t p).1 _ _ old get_none get_none).1 (get_is hp))
    (fun p hp => (file_b (getL s p).1 (getL t p).1 _ _ old get_none get_none).2 (get_not hp))
theorem trees_c (s t : List Fl) (old : Bool) (hu : Up (keysF t)) : treesL s t t old = (t, []) :=
  trees_back hu (in_paths (by simp))
    (fun p hp => (file_c (getL s p).1 (getL t p).1 _ _ old get_none get_none).1 (get_is hp))
    (fun p hp => (file_c (getL s p).1 (getL t p).1 _ _ old get_none get_none).2 (get_not hp))
theorem sort_up (l : List Fl) : Up (keysF (sortF l)) := (sortF_up _ l rfl).1
theorem sort_small {l : List Fl} (h : l.length ≤ 100 ∧ ∀ f ∈ l, f.2.length ≤ 2500) : (sortF l).length ≤ 100 ∧ ∀ f ∈ sortF l, f.2.length ≤ 2500 :=
  ⟨Nat.le_trans (Jd.sortF_length l) h.1, fun f hf => h.2 f (sortF_mem _ l rfl hf)⟩

end Go.Proofs.YtogfkfkejaiecaaGreatDoor.Js

namespace Go.Proofs.YtogfkfkejaiecaaGreatDoor.Kb
open Go.RowKit Go.Shelf Pl Ut Ln Dc Dn Ds Ed Fa Ga Gb Gc Gd Ja Jb Jd Jf Jq Js Ka Go.Proofs.YtogfkfkejaiecaaGreatDoorW.PrintWords
set_option linter.unusedVariables false
set_option linter.unusedSimpArgs false
attribute [local go_sem] B_append B_extract B_toList B_size take_end

theorem sort_of (xs : List Fl) (A : Option Addr) (c : Nat) (w : World) (hC : Kd.C kFl w A xs.length xs) (hl : xs.length ≤ 1000) (W : World) (hb : Below w.heap.size w W) :
    Calls Tryz.prog 22 #[.slice A xs.length c] W fun e w' => ∃ V cv, e = .returned (.slice V (sortF xs).length cv) ∧ (sortF xs).length ≤ cv ∧ Hid (Kd.C kFl w' V (sortF xs).length (sortF xs)) ∧ Hid (Below W.heap.size W w') := by
  refine (sort_any xs A c W (Kd.C_below hC hb) hl).mono ?_
  rintro e w' ⟨v, rfl, hv, hb2⟩
  obtain ⟨V, cv, rfl, lv, hV⟩ := Kd.R_reads hv
  exact ⟨V, cv, rfl, lv, Lib.hid hV, Lib.hid hb2⟩
theorem told_of {o a b t : List Fl} {A1 A2 A3 : Option Addr} {c1 c2 c3 : Nat} {old : Bool} {W : World} (he : treesL o a b old = (t, []))
    (h : Calls Tryz.prog 15 #[.slice A1 o.length c1, .slice A2 a.length c2, .slice A3 b.length c3, .bool old] W fun e w' => ∃ V cv U cu, e = .returned (.tuple #[.slice V (treesL o a b old).1.length cv, .slice U (treesL o a b old).2.length cu]) ∧
      Hid (Kd.C kFl w' V (treesL o a b old).1.length (treesL o a b old).1) ∧ Hid (Kd.C kCf w' U (treesL o a b old).2.length (treesL o a b old).2) ∧ Hid (Below W.heap.size W w')) :
    Calls Tryz.prog 15 #[.slice A1 o.length c1, .slice A2 a.length c2, .slice A3 b.length c3, .bool old] W fun e w' => ∃ V cv U cu, e = .returned (.tuple #[.slice V t.length cv, .slice U 0 cu]) ∧ Hid (Kd.C kFl w' V t.length t) ∧ Hid (Below W.heap.size W w') := by
  rw [he] at h
  refine h.mono ?_
  rintro e w' ⟨V, cv, U, cu, rfl, h1, _, h2⟩
  exact ⟨V, cv, U, cu, rfl, h1, h2⟩

set_option maxRecDepth 100000 in
set_option maxHeartbeats 8000000 in
theorem one_walk (hA : AwakeOk) (o a : List Fl) (A1 A2 : Option Addr) (c1 c2 : Nat) (w : World) (hS : Signs w) (h1 : Kd.C kFl w A1 o.length o) (h2 : Kd.C kFl w A2 a.length a)
    (l1 : o.length ≤ c1) (l2 : a.length ≤ c2) (z1 : o.length ≤ 9223372036854775807) (z2 : a.length ≤ 9223372036854775807)
    (s1 : ∀ f ∈ o, f.1.length ≤ 1000000000000000 ∧ f.2.length ≤ 1000000000000000) (s2 : ∀ f ∈ a, f.1.length ≤ 1000000000000000 ∧ f.2.length ≤ 1000000000000000) :
    Calls Tryz.prog 6 #[.slice A1 o.length c1, .slice A2 a.length c2] w fun e w' => e = .returned (.bool true) ∧ Below w.heap.size w w' := by
  have F1 := Lib.hid (few_of o A1 c1 w h1 z1 s1)
  have F2 := Lib.hid (few_of a A2 c2 w h2 z2 s2)
  have HC := Lib.hid (And.intro h1 h2)
  have HS := Lib.hid hS
  have HA := Lib.hid (hA w hS)
  obtain ⟨f1, hf1⟩ : ∃ f, f = fewL o := ⟨_, rfl⟩
  obtain ⟨f2, hf2⟩ : ∃ f, f = fewL a := ⟨_, rfl⟩
  rw [← hf1] at F1
  rw [← hf2] at F2
  have HF := Lib.hid (And.intro hf1 hf2)
  clear hS h1 h2 l1 l2 s1 s2 hf1 hf2
  go_enter Tryz.func6, Tryz.ntmps6
  go_wp2_with fail
  refine HA.out.mono ?_
  rintro e w1 ⟨rfl, hb1⟩
  have HB1 := Lib.hid hb1
  clear hb1 HA
  go_wp2_with fail
  refine (F1.out _ HB1.out).mono ?_
  rintro e w2 ⟨rfl, HB2⟩
  clear HB1 F1
  go_wp2_with fail
  refine (F2.out _ HB2.out).mono ?_
  rintro e w3 ⟨rfl, HB3⟩
  clear HB2 F2
  cases f1 with
  | false =>
    go_wp2
    go_ret
    exact ⟨rfl, HB3.out⟩
  | true =>
    cases f2 with
    | false =>
      go_wp2
      go_ret
      exact ⟨rfl, HB3.out⟩
    | true =>
      have i1 := small_of HF.out.1.symm
      have i2 := small_of HF.out.2.symm
      have SO := Lib.hid (sort_of o A1 c1 w HC.out.1 (by omega))
      have SA := Lib.hid (sort_of a A2 c2 w HC.out.2 (by omega))
      have HUp := Lib.hid (sort_up a)
      have j1 := Lib.hid (sort_small i1)
      have j2 := Lib.hid (sort_small i2)
      obtain ⟨s, hs⟩ : ∃ q, q = sortF o := ⟨_, rfl⟩
      obtain ⟨t, ht⟩ : ∃ q, q = sortF a := ⟨_, rfl⟩
      rw [← hs] at SO j1
      rw [← ht] at SA j2 HUp
      clear hs ht i1 i2 HF HC
      go_wp2_with fail
      refine (SO.out w3 HB3.out).mono ?_
      rintro e w4 ⟨V1, d1, rfl, hd1, hv1, hb4⟩
      have HB4 := Lib.hid (HB3.out.trans (hb4.out.mono HB3.out.size))
      have HD1 := Lib.hid hd1
      clear hb4 SO HB3 hd1
      go_wp2_with fail
      refine (SA.out w4 HB4.out).mono ?_
      rintro e w5 ⟨V2, d2, rfl, hd2, hv2, hb5⟩
      have HB5 := Lib.hid (HB4.out.trans (hb5.out.mono HB4.out.size))
      have HD2 := Lib.hid hd2
      have gv1 := Lib.hid (Kd.C_below hv1.out hb5.out)
      clear hb5 SA HB4 hd2 hv1
      have S5 := HS.out.below HB5.out
      have K1 := Lib.hid (fun (W : World) (hb : Below w5.heap.size w5 W) => told_of (trees_a s t true HUp.out) (ptrees_of s s t V1 V1 V2 d1 d1 d2 w5 S5 gv1.out gv1.out hv2.out HD1.out HD1.out HD2.out j1.out j1.out j2.out true W hb))
      have K2 := Lib.hid (fun (W : World) (hb : Below w5.heap.size w5 W) => told_of (trees_b s t false HUp.out) (ptrees_of s t s V1 V2 V1 d1 d2 d1 w5 S5 gv1.out hv2.out gv1.out HD1.out HD2.out HD1.out j1.out j2.out j1.out false W hb))
      have K3 := Lib.hid (fun (W : World) (hb : Below w5.heap.size w5 W) => told_of (trees_c s t true HUp.out) (ptrees_of s t t V1 V2 V2 d1 d2 d2 w5 S5 gv1.out hv2.out hv2.out HD1.out HD2.out HD2.out j1.out j2.out j2.out true W hb))
      have n1 : t.length ≤ 1000 := by have := j2.out.1; omega
      clear S5 HUp HD1 HD2 j1 j2 HS gv1
      go_wp2_with fail
      refine (K1.out w5 (Below.refl _ _)).mono ?_
      rintro e w6 ⟨X1, x1, U1, y1, rfl, hx1, hb6⟩
      clear K1
      go_wp2_with fail
      refine (K2.out w6 hb6.out).mono ?_
      rintro e w7 ⟨X2, x2, U2, y2, rfl, hx2, hb7⟩
      have HB7 := Lib.hid (hb6.out.trans (hb7.out.mono hb6.out.size))
      have kx1 := Lib.hid (Kd.C_below hx1.out hb7.out)
      clear K2 hb6 hb7 hx1
      go_wp2_with fail
      refine (K3.out w7 HB7.out).mono ?_
      rintro e w8 ⟨X3, x3, U3, y3, rfl, hx3, hb8⟩
      have HB8 := Lib.hid (HB7.out.trans (hb8.out.mono HB7.out.size))
      have S1 := Lib.hid (same_of t X1 V2 x1 d2 w8 (Kd.C_below kx1.out hb8.out) (Kd.C_below hv2.out HB8.out) n1)
      have S2 := Lib.hid (same_of t X2 V2 x2 d2 w8 (Kd.C_below hx2.out hb8.out) (Kd.C_below hv2.out HB8.out) n1)
      have S3 := Lib.hid (same_of t X3 V2 x3 d2 w8 hx3.out (Kd.C_below hv2.out HB8.out) n1)
      clear K3 HB7 hb8 kx1 hx2 hx3 hv2
      go_wp2_with fail
      refine (S1.out w8 (Below.refl _ _)).mono ?_
      rintro e w9 ⟨rfl, hb9⟩
      clear S1
      go_wp2_with fail
      refine (S2.out w9 hb9.out).mono ?_
      rintro e wa ⟨rfl, hba⟩
      have HBa := Lib.hid (hb9.out.trans (hba.out.mono hb9.out.size))
      clear S2 hba hb9
      go_wp2_with fail
      refine (S3.out wa HBa.out).mono ?_
      rintro e wb ⟨rfl, hbb⟩
      have HBb := Lib.hid (HBa.out.trans (hbb.out.mono HBa.out.size))
      clear S3 hbb HBa
      go_wp2
      go_ret
      exact ⟨rfl, HB5.out.trans ((HB8.out.trans (HBb.out.mono HB8.out.size)).mono HB5.out.size)⟩

end Go.Proofs.YtogfkfkejaiecaaGreatDoor.Kb

namespace Go.Proofs.YtogfkfkejaiecaaGreatDoor.lawOne
open Go.RowKit Go.Shelf Go.ChangeShapes Go.WideShapes Go.ChangeAt Go.ChangeMaps Pl Ut Sg
set_option linter.unusedVariables false
set_option linter.unusedSimpArgs false

theorem readable : ∀ t ∈ Tryz.f6.params.toList, Tryz.prog.readableRec t = true ∧ t < Tryz.prog.types.size := by
  rw [Tryz.params6]
  intro t ht
  have ht : t ∈ [33, 33] := ht
  simp only [List.mem_cons, List.not_mem_nil, or_false] at ht
  rcases ht with rfl | rfl
  · exact ⟨by kernel_rfl, of_decide_eq_true (by kernel_rfl)⟩
  · exact ⟨by kernel_rfl, of_decide_eq_true (by kernel_rfl)⟩
theorem laidOut : laidOutB Tryz.prog = true := by kernel_rfl

set_option maxRecDepth 100000 in
/-- WHAT THE WALK GIVES, FOR EVERY ARGUMENT AND EVERY WORLD THAT HOLDS THE TABLE. -/
theorem contract (H : Type) (enc : TypeId × Value → H) (W : World) (base : Nat) (args : Array Value) (ds gs : List (DataW H)) (before : List MemPlace)
    (hval : ∀ (j : Nat) t v, Tryz.f6.params[j]? = some t → args[j]? = some v → Value.okWide Tryz.prog W .any base t v)
    (hW : DataW.Whole enc Tryz.prog Tryz.f6.params.toList Rows.fallbackOneSpec.vars false W args.toList ds gs before) (hL : laidMetH Tryz.prog Rows.fallbackOneRow.laid W)
    (hsz : (DataW.weightsEach Tryz.prog (Tryz.f6.params.toList ++ (OpenSpec.ofChange Rows.fallbackOneSpec).bare.plain.varTypes Tryz.prog) (ds ++ gs)).all (· ≤ reachBytes) = true) :
    Calls Tryz.prog 6 args W fun e W' => ∃ v, e = .returned v ∧ Rows.fallbackOneSpec.post enc Tryz.prog Tryz.f6 false true false false W args v W' := by
  have hW' := hW
  obtain ⟨p, q, hA0, hV, rfl, hfz, hnd⟩ := hW
  have hA : DataW.TrodAll enc Tryz.prog W 0 (fun _ => true) true Tryz.f6.params.toList args.toList ds p := hA0
  rw [Tryz.params6] at hA hval hsz
  obtain ⟨v0, vs0, d0, ds0, p0, q0, hargs, rfl, rfl, h0, r0⟩ := trodAll_cons hA
  obtain ⟨v1, vs1, d1, ds1, p1, q1, rfl, rfl, rfl, h1, r1⟩ := trodAll_cons r0
  obtain ⟨rfl, rfl, rfl⟩ := trodAll_nil r1
  obtain rfl : args = #[v0, v1] := by cases args; simp_all
  obtain ⟨rfl, rfl⟩ := trodVars_none hV
  obtain ⟨A0, c0, xs0, rfl, hx0, hz0, hC0, hs0⟩ := Sr.fls_arg2 (hval 0 33 v0 rfl rfl) h0 (fun m hm => by simpa using List.all_eq_true.1 hsz m (DataW.weights_mem_each (j := 0) (t := 33) rfl rfl m hm))
  obtain ⟨A1, c1, xs1, rfl, hx1, hz1, hC1, hs1⟩ := Sr.fls_arg2 (hval 1 33 v1 rfl rfl) h1 (fun m hm => by simpa using List.all_eq_true.1 hsz m (DataW.weights_mem_each (j := 1) (t := 33) rfl rfl m hm))
  have walk := Kb.one_walk Ge.awakeOk xs0 xs1 A0 A1 c0 c1 W (signs_of_laid hL) hC0 hC1 hx0 hx1 hz0 hz1 hs0 hs1
  refine walk.mono fun e W' ⟨he, hb⟩ => ?_
  subst he
  exact ⟨_, rfl, law_post laidOut readable rfl (by kernel_rfl) Tryz.underlying4 hW' hb rfl⟩

theorem laid_met (os : Os) : laidMet Tryz.prog Rows.fallbackOneRow.laid ((laidWorld os).forCall (fun _ _ => 0) ⟨#[], #[.slice none 0 0, .slice none 0 0], []⟩).memory :=
  laidMet_of_run' 8 (by kernel_rfl) (by kernel_rfl)
theorem reads (os : Os) {H : Type} (enc : TypeId × Value → H) : ∃ places, DataW.whole enc Tryz.prog ((laidWorld os).forCall (fun _ _ => 0) ⟨#[], #[.slice none 0 0, .slice none 0 0], []⟩).memory Tryz.f6.params.toList Rows.fallbackOneSpec.vars false #[Value.slice none 0 0, Value.slice none 0 0].toList 8 = some ([.nil, .nil], [], places) :=
  ⟨[], by kernel_rfl⟩

set_option maxRecDepth 100000 in
theorem lifted (os : Os) (started : os.Started) (H : Type) (enc : TypeId × Value → H) (F : Stop.Interp) :
    ReturnsInHanded {} Tryz.checked os 6 .any ((OpenSpec.ofChange Rows.fallbackOneSpec).preRow enc Tryz.prog Tryz.f6 Rows.fallbackOneRow.domain false Rows.fallbackOneRow.laid) (((OpenSpec.ofChange Rows.fallbackOneSpec).at F).post enc Tryz.prog Tryz.f6 false true false false) := by
  obtain ⟨places, hx⟩ := reads os enc
  refine returnsInHanded_of_row (C := Tryz.checked) (s := OpenSpec.ofChange Rows.fallbackOneSpec) own started (by kernel_rfl) Tryz.func6
    (witness_row_at (enc := enc) (C := Tryz.checked) false (laidWorld os) #[.slice none 0 0, .slice none 0 0] rfl (by kernel_rfl) (by kernel_rfl) (by kernel_rfl)
      (OpenSpec.preRow_of_cond 8 hx (by kernel_rfl) (fun k hk => by cases hk) (by kernel_rfl) (laid_met os))) ?_
  intro W base args ds gs before hval hW _ _ hsz hL _ _
  exact contract H enc W base args ds gs before hval hW hL hsz

theorem said : Rows.FallbackOneSaid :=
  OpenClaim.holds_of_cond 6 Tryz.f6 rfl rfl rfl rfl rfl rfl rfl ⟨rfl, rfl, rfl, rfl, rfl⟩ rfl rfl rfl rfl rfl (by kernel_rfl) Tryz.func6 (by kernel_rfl)
    (of_decide_eq_true (by kernel_rfl)) (by unfold Func.isWrapper; first | (rw [if_pos (by decide +kernel)]; kernel_rfl) | (rw [if_neg (by decide +kernel)]; exact ⟨rfl, rfl⟩))
    (fun os started H enc _ F => by rw [OpenClaim.pre_eq_preRow]; exact lifted os started H enc F)

/-- No parameter wants a stand-in; the program's own looks are off: what the card asks. -/
theorem plain (f : FuncId) (fn : Func) (hf : Tryz.pinned.checked.prog.funcNamed "concordat/concordatlaw32.FallbackOne" = some f) (hfn : Tryz.pinned.checked.prog.funcs[f]? = some fn) :
    false = Tryz.pinned.checked.prog.looks [] ∧ ∀ (j : Nat) t, fn.params[j]? = some t → Tryz.pinned.checked.prog.wantsStandIn t = false := by
  obtain rfl : f = 6 := Option.some.inj ((show Tryz.prog.funcNamed "concordat/concordatlaw32.FallbackOne" = some 6 by kernel_rfl).symm.trans hf) |>.symm
  obtain rfl : fn = Tryz.f6 := (Option.some.inj (Tryz.func6.symm.trans hfn)).symm
  refine ⟨by kernel_rfl, fun j t ht => ?_⟩
  rw [Tryz.params6] at ht
  have hm := Array.mem_of_getElem? ht
  have : t = 33 ∨ t = 33 := by simpa using hm
  rcases this with rfl | rfl
  · exact (show Tryz.prog.wantsStandIn 33 = false by kernel_rfl)
  · exact (show Tryz.prog.wantsStandIn 33 = false by kernel_rfl)

/-- THE CARD: FallbackOne: for any two trees the law returns true, and its arguments read as they did; the table of signs holds what the text of the program lays. -/
theorem card : Rows.FallbackOneCardSaid :=
  Claim7.holds_tied_plain_at .later [] _ _ _ _ said (fun _ h => by cases h) (by kernel_rfl) (fun _ h => by cases h) fallbackOne_row_tie rfl ⟨rfl, rfl⟩ (by kernel_rfl) rfl plain (by kernel_rfl)

end Go.Proofs.YtogfkfkejaiecaaGreatDoor.lawOne
