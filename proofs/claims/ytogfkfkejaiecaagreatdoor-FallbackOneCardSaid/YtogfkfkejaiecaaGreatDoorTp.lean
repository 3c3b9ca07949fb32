/- Plain facts of rising rows of texts: sorting and compacting give the one rising row of the same things. Plain law: the reference's insertion gives the same paths as sorting and compacting. Contracts of the references ref10: Get, Same, Few; ref30: Conflicts. Contracts of the references ref10.Few, ref30.Conflicts. Contracts of the references ref10.Put, Sort. Contracts of the references ref10.Sort. Contracts of the references ref10.Paths. Contract of the reference ref32.Trees. -/
import Derived.Test.YtogfkfkejaiecaaGreatDoorTa
import Derived.Lib.SlicesCompact
import Derived.Test.YtogfkfkejaiecaaGreatDoorTi
import Derived.Test.YtogfkfkejaiecaaGreatDoorTwm
import Derived.BigQuiet
import Derived.Sort.Walk0
import Derived.Deep.RegionHeld3
import Derived.Test.YtogfkfkejaiecaaGreatDoorTm

namespace Go.Proofs.YtogfkfkejaiecaaGreatDoor.Jp
open Go Pl
set_option linter.unusedVariables false
set_option linter.unusedSimpArgs false

theorem lt_irrefl' (x : Str) : ¬ x < x := List.lt_irrefl x
theorem lt_trans' {x y z : Str} (h : x < y) (h2 : y < z) : x < z := List.lt_trans h h2
theorem le_of_lt' {x y : Str} (h : x < y) : x ≤ y := List.le_of_lt h
theorem lt_of_le' {x y : Str} (h : x ≤ y) (hne : x ≠ y) : x < y := by
  rcases List.le_iff_lt_or_eq.1 h with h | h
  · exact h
  · exact absurd h hne
theorem tri (x y : Str) : x < y ∨ x = y ∨ y < x := by
  by_cases h : x = y
  · exact .inr (.inl h)
  · rcases List.le_total x y with h1 | h1
    · exact .inl (lt_of_le' h1 h)
    · exact .inr (.inr (lt_of_le' h1 (fun e => h e.symm)))

/-- Rising, each once. -/
def Up (l : List Str) : Prop := l.Pairwise (· < ·)
theorem Up.nil : Up [] := List.Pairwise.nil
theorem Up.tail {x : Str} {l : List Str} (h : Up (x :: l)) : Up l := (List.pairwise_cons.1 h).2
theorem Up.head {x : Str} {l : List Str} (h : Up (x :: l)) : ∀ y ∈ l, x < y := (List.pairwise_cons.1 h).1
/-- Two rising rows of the same things are one. -/
theorem Up.unique : ∀ {l m : List Str}, Up l → Up m → (∀ x, x ∈ l ↔ x ∈ m) → l = m
  | [], [], _, _, _ => rfl
  | [], y :: m, _, _, h => by have := (h y).2 (by simp); cases this
  | x :: l, [], _, _, h => by have := (h x).1 (by simp); cases this
  | x :: l, y :: m, hl, hm, h => by
    have hxy : x = y := by
      have h1 := (h x).1 (by simp)
      have h2 := (h y).2 (by simp)
      rcases List.mem_cons.1 h1 with e | h1
      · exact e
      · rcases List.mem_cons.1 h2 with e | h2
        · exact e.symm
        · exact absurd (lt_trans' (hl.head y h2) (hm.head x h1)) (lt_irrefl' x)
    subst hxy
    have : l = m := by
      refine Up.unique hl.tail hm.tail fun z => ⟨fun hz => ?_, fun hz => ?_⟩
      · rcases List.mem_cons.1 ((h z).1 (by simp [hz])) with e | h1
        · subst e; exact absurd (hl.head z hz) (lt_irrefl' z)
        · exact h1
      · rcases List.mem_cons.1 ((h z).2 (by simp [hz])) with e | h1
        · subst e; exact absurd (hm.head z hz) (lt_irrefl' z)
        · exact h1
    rw [this]

/-! ### compact -/
theorem upTo_snoc (l : List Str) (z : Str) (m : Nat) (hm : m ≤ l.length) : Lib.compactUpTo (l ++ [z]).toArray m = Lib.compactUpTo l.toArray m := by
  induction m with
  | zero => rfl
  | succ m ih =>
    rw [Lib.compactUpTo_succ, Lib.compactUpTo_succ, ih (by omega)]
    have hg : ∀ k, k < l.length → (l ++ [z]).toArray[k]! = l.toArray[k]! := fun k hk => by
      simp [List.getElem?_append_left hk]
    have hk : Lib.keeps (l ++ [z]).toArray m = Lib.keeps l.toArray m := by
      unfold Lib.keeps
      rw [hg m (by omega), hg (m - 1) (by omega)]
    rw [hk, hg m (by omega)]
theorem compact_snoc (l : List Str) (z : Str) : Lib.compact (l ++ [z]) = Lib.compact l ++ (if l.getLast? = some z then [] else [z]) := by
  unfold Lib.compact
  rw [List.length_append, List.length_singleton, Lib.compactUpTo_succ, upTo_snoc l z _ (Nat.le_refl _)]
  congr 1
  have hz : (l ++ [z]).toArray[l.length]! = z := by simp
  rw [hz]
  rcases List.eq_nil_or_concat l with rfl | ⟨pre, x, rfl⟩
  · simp [Lib.keeps]
  · rw [List.concat_eq_append] at hz ⊢
    have hp : ((pre ++ [x]) ++ [z]).toArray[(pre ++ [x]).length - 1]! = x := by simp
    have hk : Lib.keeps ((pre ++ [x]) ++ [z]).toArray (pre ++ [x]).length = decide (z ≠ x) := by
      unfold Lib.keeps
      rw [hz, hp]
      simp
    rw [hk]
    by_cases h : x = z
    · subst h; simp
    · have h2 : z ≠ x := fun e => h e.symm
      simp [h, h2]
/-- A row that does not fall, each thing once: it rises, it has the same things, and the same end. -/
theorem compact_up : ∀ (n : Nat) (l : List Str), l.length = n → l.Pairwise (· ≤ ·) → Up (Lib.compact l) ∧ (∀ x, x ∈ Lib.compact l ↔ x ∈ l) ∧ (Lib.compact l).getLast? = l.getLast?
  | 0, l, h, _ => by
    obtain rfl := List.length_eq_zero_iff.1 h
    exact ⟨Up.nil, fun x => Iff.rfl, rfl⟩
  | n + 1, l, h, hs => by
    rcases List.eq_nil_or_concat l with rfl | ⟨pre, z, rfl⟩
    · simp at h
    · rw [List.concat_eq_append] at h hs ⊢
      have hl : pre.length = n := by simpa using h
      obtain ⟨h1, h2, h3⟩ := List.pairwise_append.1 hs
      obtain ⟨i1, i2, i3⟩ := compact_up n pre hl h1
      rw [compact_snoc]
      by_cases he : pre.getLast? = some z
      · rw [if_pos he, List.append_nil]
        refine ⟨i1, fun x => ?_, ?_⟩
        · rw [i2, List.mem_append, List.mem_singleton]
          exact ⟨.inl, fun h => h.elim id (fun e => by rw [e]; exact List.mem_of_getLast? he)⟩
        · rw [i3, he]; simp
      · rw [if_neg he]
        refine ⟨?_, fun x => ?_, by simp⟩
        · unfold Up
          rw [List.pairwise_append]
          refine ⟨i1, List.pairwise_singleton _ _, fun x hx y hy => ?_⟩
          rw [List.mem_singleton] at hy
          subst hy
          have hxp : x ∈ pre := (i2 x).1 hx
          refine lt_of_le' (h3 x hxp y (by simp)) fun e => he ?_
          subst e
          -- the last thing is at least x, and at most x
          rcases List.eq_nil_or_concat pre with rfl | ⟨q, w, rfl⟩
          · cases hxp
          · rw [List.concat_eq_append] at h1 h3 hxp ⊢
            have hw : w ≤ x := h3 w (by simp) x (by simp)
            have hx2 : x ≤ w := by
              rcases List.mem_append.1 hxp with hm | hm
              · exact (List.pairwise_append.1 h1).2.2 x hm w (by simp)
              · rw [List.mem_singleton.1 hm]; exact List.le_refl _
            rw [List.le_antisymm hw hx2]
            simp
        · rw [List.mem_append, List.mem_append, i2]

/-- SORTED AND COMPACTED: the rising row of the same things. -/
theorem sorted_up (l : List Str) : Up (Lib.compact (l.mergeSort fun x y => decide (x ≤ y))) ∧ ∀ x, x ∈ Lib.compact (l.mergeSort fun x y => decide (x ≤ y)) ↔ x ∈ l := by
  have hs : (l.mergeSort fun x y => decide (x ≤ y)).Pairwise (· ≤ ·) := by
    have := List.pairwise_mergeSort (le := fun x y : Str => decide (x ≤ y)) (fun a b c h1 h2 => by simp only [decide_eq_true_eq] at *; exact List.le_trans h1 h2) (fun a b => by simp only [Bool.or_eq_true, decide_eq_true_eq]; exact List.le_total a b) l
    exact this.imp (fun h => by simpa using h)
  obtain ⟨h1, h2, _⟩ := compact_up _ _ rfl hs
  exact ⟨h1, fun x => by rw [h2]; exact (List.mergeSort_perm l _).mem_iff⟩

end Go.Proofs.YtogfkfkejaiecaaGreatDoor.Jp

namespace Go.Proofs.YtogfkfkejaiecaaGreatDoor.Jq
open Pl Ga Gb Jp
set_option linter.unusedVariables false
set_option linter.unusedSimpArgs false

/-- One file more, in the place of the one of its path. -/
def putGo (p t : Str) : List Fl → Bool → List Fl
  | [], done => if done then [] else [(p, t)]
  | f :: r, done => (if p ≤ f.1 ∧ done = false then [(p, t)] else []) ++ ((if f.1 = p then [] else [f]) ++ putGo p t r (done || decide (p ≤ f.1)))
def putL (l : List Fl) (p t : Str) : List Fl := putGo p t l false
def sortF (l : List Fl) : List Fl := l.foldl (fun out f => putL out f.1 f.2) []
def keysF (l : List Fl) : List Str := l.map (·.1)
theorem putGo_done (p t : Str) : ∀ (l : List Fl), (∀ f ∈ l, p < f.1) → putGo p t l true = l
  | [], _ => rfl
  | f :: r, h => by
    have h1 := h f (by simp)
    have hne : f.1 ≠ p := fun e => lt_irrefl' p (by rw [e] at h1; exact h1)
    unfold putGo
    rw [if_neg (by simp), if_neg hne, Bool.true_or, putGo_done p t r (fun g hg => h g (by simp [hg]))]
    rfl
theorem putGo_up (p t : Str) : ∀ (l : List Fl), Up (keysF l) → Up (keysF (putGo p t l false)) ∧ ∀ x, x ∈ keysF (putGo p t l false) ↔ x = p ∨ x ∈ keysF l
  | [], _ => ⟨by unfold putGo keysF Up; simp, fun x => by unfold putGo keysF; simp⟩
  | f :: r, h => by
    have hr : Up (keysF r) := Up.tail h
    have hf : ∀ g ∈ r, f.1 < g.1 := fun g hg => Up.head h g.1 (List.mem_map_of_mem hg)
    unfold putGo
    by_cases hp : p ≤ f.1
    · rw [if_pos ⟨hp, rfl⟩, decide_eq_true hp, Bool.false_or]
      have hgt : ∀ g ∈ r, p < g.1 := fun g hg => by
        rcases List.le_iff_lt_or_eq.1 hp with h1 | h1
        · exact lt_trans' h1 (hf g hg)
        · rw [h1]; exact hf g hg
      rw [putGo_done p t r hgt]
      by_cases he : f.1 = p
      · rw [if_pos he]
        refine ⟨List.pairwise_cons.2 ⟨fun y hy => ?_, hr⟩, fun x => ?_⟩
        · obtain ⟨g, hg, rfl⟩ := List.mem_map.1 hy
          exact hgt g hg
        · simp [keysF, he]
      · rw [if_neg he]
        have hlt : p < f.1 := lt_of_le' hp (fun e => he e.symm)
        refine ⟨List.pairwise_cons.2 ⟨fun y hy => ?_, h⟩, fun x => ?_⟩
        · rcases List.mem_cons.1 hy with rfl | hy
          · exact hlt
          · obtain ⟨g, hg, rfl⟩ := List.mem_map.1 hy
            exact hgt g hg
        · simp [keysF]
    · have hlt : f.1 < p := by
        rcases tri f.1 p with h1 | h1 | h1
        · exact h1
        · exact absurd (by rw [h1]; exact List.le_refl _) hp
        · exact absurd (le_of_lt' h1) hp
      have hne : f.1 ≠ p := fun e => lt_irrefl' p (by rw [e] at hlt; exact hlt)
      rw [if_neg (fun h => hp h.1), if_neg hne, decide_eq_false hp, Bool.false_or]
      obtain ⟨i1, i2⟩ := putGo_up p t r hr
      refine ⟨List.pairwise_cons.2 ⟨fun y hy => ?_, i1⟩, fun x => ?_⟩
      · rcases (i2 y).1 hy with rfl | hy
        · exact hlt
        · exact Up.head h y hy
      · show x ∈ f.1 :: keysF (putGo p t r false) ↔ _
        rw [List.mem_cons, i2]
        show _ ↔ x = p ∨ x ∈ f.1 :: keysF r
        rw [List.mem_cons]
        constructor
        · rintro (h | h | h)
          · exact .inr (.inl h)
          · exact .inl h
          · exact .inr (.inr h)
        · rintro (h | h | h)
          · exact .inr (.inl h)
          · exact .inl h
          · exact .inr (.inr h)
theorem sortF_snoc (l : List Fl) (f : Fl) : sortF (l ++ [f]) = putL (sortF l) f.1 f.2 := by unfold sortF; rw [List.foldl_append]; rfl
theorem sortF_up : ∀ (n : Nat) (l : List Fl), l.length = n → Up (keysF (sortF l)) ∧ ∀ x, x ∈ keysF (sortF l) ↔ x ∈ keysF l
  | 0, l, h => by
    obtain rfl := List.length_eq_zero_iff.1 h
    exact ⟨Up.nil, fun x => Iff.rfl⟩
  | n + 1, l, h => by
    rcases List.eq_nil_or_concat l with rfl | ⟨pre, f, rfl⟩
    · simp at h
    · rw [List.concat_eq_append] at h ⊢
      obtain ⟨i1, i2⟩ := sortF_up n pre (by simpa using h)
      rw [sortF_snoc]
      obtain ⟨j1, j2⟩ := putGo_up f.1 f.2 (sortF pre) i1
      refine ⟨j1, fun x => ?_⟩
      show x ∈ keysF (putGo f.1 f.2 (sortF pre) false) ↔ _
      rw [j2, i2]
      simp [keysF, or_comm]
/-- All paths of some trees, rising: the reference's way. -/
def pathsR (ts : List (List Fl)) : List Str := keysF (sortF ts.flatten)
theorem paths_same (ts : List (List Fl)) : pathsR ts = pathsL ts := by
  obtain ⟨h1, h2⟩ := sortF_up _ ts.flatten rfl
  obtain ⟨h3, h4⟩ := sorted_up (allL ts)
  refine Up.unique h1 h3 fun x => ?_
  have e0 : x ∈ pathsR ts ↔ x ∈ keysF ts.flatten := h2 x
  rw [e0]
  have e : x ∈ pathsL ts ↔ x ∈ allL ts := h4 x
  rw [e]
  unfold keysF allL
  simp only [List.mem_map, List.mem_flatten, List.mem_flatMap]
  constructor
  · rintro ⟨f, ⟨l, hl, hf⟩, rfl⟩
    exact ⟨l, hl, f, hf, rfl⟩
  · rintro ⟨l, hl, f, hf, rfl⟩
    exact ⟨f, ⟨l, hl, hf⟩, rfl⟩
/-! ### a path's text, where paths rise -/
end Go.Proofs.YtogfkfkejaiecaaGreatDoor.Jq

namespace Go.Proofs.YtogfkfkejaiecaaGreatDoor.Ja
open Go.RowKit Go.Shelf Pl Ut Ln Dc Dn Ga Gb Gc Go.Proofs.YtogfkfkejaiecaaGreatDoorW.PrintWords
set_option linter.unusedVariables false
set_option linter.unusedSimpArgs false
attribute [local go_sem] B_append B_extract B_toList B_size take_end

set_option maxRecDepth 100000 in
set_option maxHeartbeats 8000000 in
theorem rget_any (xs : List Fl) (p : Str) (A : Option Addr) (c : Nat) (w : World) (hC : Kd.C kFl w A xs.length xs) (hl : xs.length ≤ 1000000000) :
    Calls Tryz.prog 34 #[.slice A xs.length c, .string (B p)] w fun e w' => e = .returned (.tuple #[.string (B (getL xs p).1), .bool (getL xs p).2]) ∧ w' = w := by
  have HC := Lib.hid hC
  clear hC
  go_enter Tryz.func34, Tryz.ntmps34
  go_wp2
  go_loopw [6] (fun i wr => ∃ k : Nat, k ≤ xs.length ∧ i = .int .i64 (k : Int) ∧ Hid (getL xs p = getL (xs.drop k) p) ∧ wr = w) (fun i _ => xs.length - (intOf i).toNat)
  case atStart => exact ⟨0, Nat.zero_le _, rfl, Lib.hid rfl, rfl⟩
  case round =>
    obtain ⟨k, hk, rfl, HN, rfl⟩ := hrel
    rcases Nat.eq_or_lt_of_le hk with hk0 | hk0
    · have hlt : ¬ (k : Int) < (xs.length : Int) := by omega
      have HF := Lib.hid (show getL xs p = ([], false) from by rw [HN.out, hk0, List.drop_length]; rfl)
      go_wp2
      go_ret2
      exact ⟨by rw [HF.out]; rfl, rfl⟩
    · have hlt : (k : Int) < (xs.length : Int) := by omega
      obtain ⟨x, hx⟩ : ∃ x, xs[k]? = some x := ⟨_, List.getElem?_eq_getElem hk0⟩
      obtain ⟨ad, rfl, e0, e1⟩ := at_fl HC.out k hk0 x hx
      have HK := Lib.hid hk0
      have hd : xs.drop k = x :: xs.drop (k + 1) := by
        obtain ⟨h1, h2⟩ := List.getElem?_eq_some_iff.1 hx
        rw [List.drop_eq_getElem_cons h1, h2]
      have cadd : IntKind.i64.wrap ((k : Int) + 1) = ((k + 1 : Nat) : Int) := by rw [IntWalk.i64_in _ (by omega)]; omega
      by_cases hp : x.1 = p
      · have hq : (x.1 == p) = true := by rw [beq_iff_eq]; exact hp
        have HF := Lib.hid (show getL xs p = (x.2, true) from by rw [HN.out, hd]; unfold getL; simp [hp])
        clear hx hd hp
        go_wp2
        go_ret2
        exact ⟨by rw [HF.out]; rfl, rfl⟩
      · have hq : (x.1 == p) = false := by rw [beq_eq_false_iff_ne]; exact hp
        have HF := Lib.hid (show getL xs p = getL (xs.drop (k + 1)) p from by rw [HN.out, hd]; unfold getL; simp [hp])
        clear hx hd hp
        go_wp2
        go_roundw
        case rel => exact ⟨k + 1, HK.out, rfl, HF, trivial⟩
        · have := HK.out; simp only [intOf]; omega

def eqF (x y : Fl) : Bool := x.1 == y.1 && x.2 == y.2
theorem eqF_iff (x y : Fl) : eqF x y = decide (x = y) := by
  unfold eqF
  rw [Bool.eq_iff_iff, Bool.and_eq_true, beq_iff_eq, beq_iff_eq, decide_eq_true_eq]
  exact ⟨fun h => Prod.ext h.1 h.2, fun h => by rw [h]; exact ⟨rfl, rfl⟩⟩
theorem eqFl (d : Nat) (w : World) (x0 x1 y0 y1 : Str) : (Op.equalIn (d + 2) 49 (.agg #[.string (B x0), .string (B x1)]) (.agg #[.string (B y0), .string (B y1)])).run Tryz.prog w = .ok (eqF (x0, x1) (y0, y1)) w := by
  refine eqA_of Tryz.underlying49 (by kernel_rfl) ?_
  unfold eqF
  refine eqf_cons (by rfl) (by go_simp; rfl) (by go_simp; rfl) (by go_simp) ?_
  exact eqf_last (by rfl) (by go_simp; rfl) (by go_simp; rfl) (by go_simp)
def eqC (x y : Cf) : Bool := x.1 == y.1 && x.2 == y.2
theorem eqC_iff (x y : Cf) : eqC x y = decide (x = y) := by
  unfold eqC
  rw [Bool.eq_iff_iff, Bool.and_eq_true, beq_iff_eq, beq_iff_eq, decide_eq_true_eq]
  exact ⟨fun h => Prod.ext h.1 h.2, fun h => by rw [h]; exact ⟨rfl, rfl⟩⟩
theorem eqCf (d : Nat) (w : World) (x0 y0 : Int) (x1 y1 : Str) : (Op.equalIn (d + 2) 60 (.agg #[.int .i64 x0, .string (B x1)]) (.agg #[.int .i64 y0, .string (B y1)])).run Tryz.prog w = .ok (eqC (x0, x1) (y0, y1)) w := by
  refine eqA_of Tryz.underlying60 (by kernel_rfl) ?_
  unfold eqC
  refine eqf_cons (by rfl) (by go_simp; rfl) (by go_simp; rfl) (by go_simp) ?_
  exact eqf_last (by rfl) (by go_simp; rfl) (by go_simp; rfl) (by go_simp)
attribute [local go_sem high] eqFl eqCf
theorem at_cf {w : World} {A : Option Addr} {n : Nat} {xs : List Cf} (h : Kd.C kCf w A n xs) (k : Nat) (hk : k < n) (x : Cf) (hx : xs[k]? = some x) :
    ∃ ad, A = some ad ∧ w.cell? (ad.add (k * 2)) = some (.int .i64 x.1) ∧ w.cell? ⟨(ad.add (k * 2)).block, (ad.add (k * 2)).off + 1, none⟩ = some (.string (B x.2)) := by
  obtain ⟨ad, c, e, _, hK, hc0⟩ := Kd.C_get h x (k : Int) (by omega) (by omega)
  have hd : xs.getD (k : Int).toNat x = x := by simp [List.getD, hx]
  rw [hd] at hK
  have hc : ∀ j u, c[j]? = some u → w.cell? (ad.add (k * 2 + j)) = some u := hc0
  obtain rfl := kCf_open hK
  exact ⟨ad, e, hc 0 _ rfl, by rw [← add_field _ _ 1 (by omega)]; exact hc 1 _ rfl⟩

set_option maxRecDepth 100000 in
set_option maxHeartbeats 8000000 in
theorem rsameF_any (x y : List Fl) (A A' : Option Addr) (c c' : Nat) (w : World) (hx : Kd.C kFl w A x.length x) (hy : Kd.C kFl w A' y.length y) (lx : x.length ≤ 1000000) (ly : y.length ≤ 1000000) :
    Calls Tryz.prog 17 #[.slice A x.length c, .slice A' y.length c'] w fun e w' => e = .returned (.bool (decide (x = y))) ∧ ∃ m, w' = w.drewN m := by
  have HX := Lib.hid hx
  have HY := Lib.hid hy
  clear hx hy
  go_enter Tryz.func17, Tryz.ntmps17
  by_cases hl : x.length = y.length
  · obtain ⟨n, hn⟩ : ∃ n, n = x.length := ⟨_, rfl⟩
    have HNX := Lib.hid hn
    have HNY := Lib.hid (hn.trans hl)
    rw [← hl, ← hn]
    clear hl hn
    go_wp2
    go_loopw [5] (fun i wr => ∃ k m : Nat, k ≤ n ∧ i = .int .i64 (k : Int) ∧ Hid (x.take k = y.take k) ∧ wr = w.drewN m) (fun i _ => n - (intOf i).toNat)
    case atStart => exact ⟨0, 0, by omega, rfl, Lib.hid rfl, rfl⟩
    case round =>
      obtain ⟨k, m, hk, rfl, HE, rfl⟩ := hrel
      have hn1 := HNX.out
      rcases Nat.eq_or_lt_of_le hk with hk0 | hk0
      · have hlt : ¬ (k : Int) < (n : Int) := by omega
        have HF := Lib.hid (show decide (x = y) = true from by
          rw [decide_eq_true_eq]
          have h1 := HE.out
          have h2 := HNX.out
          have h3 := HNY.out
          rwa [List.take_of_length_le (by omega), List.take_of_length_le (by omega)] at h1)
        clear hn1
        go_wp2
        go_ret
        exact ⟨by rw [HF.out]; rfl, _, rfl⟩
      · have hlt : (k : Int) < (n : Int) := by omega
        have hky : k < y.length := by have := HNY.out; omega
        have hkx : k < x.length := by omega
        have gx := List.getElem?_eq_getElem hkx
        have gy := List.getElem?_eq_getElem hky
        obtain ⟨ad, rfl, e0, e1⟩ := at_fl HX.out k hkx _ gx
        obtain ⟨ad', rfl, e2, e3⟩ := at_fl HY.out k hky _ gy
        have cadd : IntKind.i64.wrap ((k : Int) + 1) = ((k + 1 : Nat) : Int) := by rw [IntWalk.i64_in _ (by omega)]; omega
        have HG := Lib.hid (And.intro gx gy)
        have HK := Lib.hid hk0
        generalize x[k] = xk at *
        generalize y[k] = yk at *
        clear gx gy hn1 hkx hky
        obtain ⟨bb, hbb⟩ : ∃ bb, bb = eqF (xk.1, xk.2) (yk.1, yk.2) := ⟨_, rfl⟩
        have HBB := Lib.hid (hbb.trans (eqF_iff xk yk))
        cases bb with
        | true =>
          have hq := hbb.symm
          clear hbb
          go_wp2
          go_quiet (fail)
          go_wp2
          go_roundw
          case rel =>
            refine ⟨k + 1, m + nq, HK.out, rfl, Lib.hid ?_, rfl⟩
            have := of_decide_eq_true HBB.out.symm
            rw [List.take_add_one, List.take_add_one, HE.out, HG.out.1, HG.out.2, this]
          · have := HK.out; simp only [intOf]; omega
        | false =>
          have hq := hbb.symm
          clear hbb
          have HF := Lib.hid (show decide (x = y) = false from by
            rw [decide_eq_false_iff_not]
            rintro rfl
            have h1 := HG.out.1.symm.trans HG.out.2
            exact of_decide_eq_false HBB.out.symm (by injection h1))
          go_wp2
          go_quiet (fail)
          go_wp2
          go_ret
          exact ⟨by rw [HF.out]; rfl, m + nq, by rw [World.drewN_drewN]⟩
  · have hl2 : ((x.length : Int) == (y.length : Int)) = false := by rw [beq_eq_false_iff_ne]; omega
    have HF := Lib.hid (show decide (x = y) = false from by rw [decide_eq_false_iff_not]; rintro rfl; exact hl rfl)
    have hl3 : ¬ (x.length : Int) = (y.length : Int) := by omega
    go_wp2
    go_ret
    exact ⟨by rw [HF.out]; rfl, 0, rfl⟩

end Go.Proofs.YtogfkfkejaiecaaGreatDoor.Ja

namespace Go.Proofs.YtogfkfkejaiecaaGreatDoor.Jb
open Go.RowKit Go.Shelf Pl Ut Ln Dc Dn Ga Gb Gc Ja Go.Proofs.YtogfkfkejaiecaaGreatDoorW.PrintWords
set_option linter.unusedVariables false
set_option linter.unusedSimpArgs false
attribute [local go_sem] B_append B_extract B_toList B_size take_end
attribute [local go_sem high] eqCf

def sizF (l : List Fl) : Nat := (l.map fun f => f.2.length + f.1.length).sum
theorem sizF_take {l : List Fl} {k : Nat} {x : Fl} (h : l[k]? = some x) : sizF (l.take (k + 1)) = sizF (l.take k) + (x.2.length + x.1.length) := by
  unfold sizF; rw [take_snoc h]; simp
theorem sizF_take_le (l : List Fl) (k : Nat) : sizF (l.take k) ≤ sizF l := by
  unfold sizF; conv => rhs; rw [← List.take_append_drop k l]
  rw [List.map_append, List.sum_append]; omega
def fewL (l : List Fl) : Bool := decide (l.length ≤ 10 ∧ sizF l ≤ 2500)
theorem fewL_each {l : List Fl} (h : fewL l = true) : l.length ≤ 10 ∧ ∀ f ∈ l, f.2.length ≤ 2500 ∧ f.1.length ≤ 2500 := by
  obtain ⟨h1, h2⟩ := of_decide_eq_true h
  refine ⟨h1, fun f hf => ?_⟩
  obtain ⟨a, b, rfl⟩ := List.append_of_mem hf
  unfold sizF at h2
  simp only [List.map_append, List.map_cons, List.sum_append, List.sum_cons] at h2
  omega

set_option maxRecDepth 100000 in
set_option maxHeartbeats 8000000 in
theorem few_any (xs : List Fl) (A : Option Addr) (c : Nat) (w : World) (hC : Kd.C kFl w A xs.length xs) (hl : xs.length ≤ 9223372036854775807) (hs : ∀ f ∈ xs, f.1.length ≤ 1000000000000000 ∧ f.2.length ≤ 1000000000000000) :
    Calls Tryz.prog 14 #[.slice A xs.length c, .int .i64 10, .int .i64 2500] w fun e w' => e = .returned (.bool (fewL xs)) ∧ ∃ m, w' = w.drewN m := by
  have HC := Lib.hid hC
  have HSZ := Lib.hid hs
  clear hC hs
  go_enter Tryz.func14, Tryz.ntmps14
  by_cases h10 : xs.length ≤ 10
  · have h10' : ¬ (10 : Int) < (xs.length : Int) := by omega
    go_wp2
    go_loopw [7, 8] (fun v i wr => ∃ (k m s : Nat), k ≤ xs.length ∧ i = .int .i64 (k : Int) ∧ v = .int .i64 (s : Int) ∧ Hid (s = sizF (xs.take k)) ∧ s ≤ 2500 ∧ wr = w.drewN m) (fun _ i _ => xs.length - (intOf i).toNat)
    case atStart => exact ⟨0, 0, 0, Nat.zero_le _, rfl, rfl, Lib.hid rfl, by omega, rfl⟩
    case round =>
      obtain ⟨k, m, s, hk, rfl, rfl, HS, hs, rfl⟩ := hrel
      rcases Nat.eq_or_lt_of_le hk with hk0 | hk0
      · have hlt : ¬ (k : Int) < (xs.length : Int) := by omega
        have HF := Lib.hid (show fewL xs = true from by
          unfold fewL
          rw [decide_eq_true_eq]
          refine ⟨h10, ?_⟩
          have h1 := HS.out
          rw [hk0, List.take_length] at h1
          omega)
        clear hk0
        go_wp2
        go_ret
        exact ⟨by rw [HF.out]; rfl, _, rfl⟩
      · have hlt : (k : Int) < (xs.length : Int) := by omega
        obtain ⟨x, hx⟩ : ∃ x, xs[k]? = some x := ⟨_, List.getElem?_eq_getElem hk0⟩
        obtain ⟨ad, rfl, e0, e1⟩ := at_fl HC.out k hk0 x hx
        obtain ⟨z1, z2⟩ := HSZ.out x (List.mem_of_getElem? hx)
        have HK := Lib.hid hk0
        have HS2 := Lib.hid (show s + (x.2.length + x.1.length) = sizF (xs.take (k + 1)) from by rw [sizF_take hx, ← HS.out])
        clear hx hk0
        by_cases h25 : s + (x.2.length + x.1.length) ≤ 2500
        · have h25' : ¬ (2500 : Int) < (s : Int) + ((x.2.length : Int) + (x.1.length : Int)) := by omega
          go_wp2
          go_quiet (fail)
          go_wp2
          go_roundw
          case rel => exact ⟨k + 1, m + nq, s + (x.2.length + x.1.length), HK.out, rfl, rfl, HS2, h25, rfl⟩
          · have := HK.out; simp only [intOf]; omega
        · have h25' : (2500 : Int) < (s : Int) + ((x.2.length : Int) + (x.1.length : Int)) := by omega
          have HF := Lib.hid (show fewL xs = false from by
            unfold fewL
            rw [decide_eq_false_iff_not]
            intro h
            have := sizF_take_le xs (k + 1)
            rw [← HS2.out] at this
            omega)
          go_wp2
          go_quiet (fail)
          go_wp2
          go_ret
          exact ⟨by rw [HF.out]; rfl, m + nq, rfl⟩
  · have h10' : (10 : Int) < (xs.length : Int) := by omega
    have HF := Lib.hid (show fewL xs = false from by unfold fewL; rw [decide_eq_false_iff_not]; intro h; exact h10 h.1)
    go_wp2
    go_ret
    exact ⟨by rw [HF.out]; rfl, 0, rfl⟩

set_option maxRecDepth 100000 in
set_option maxHeartbeats 8000000 in
theorem conflicts_any (x y : List Cf) (A A' : Option Addr) (c c' : Nat) (w : World) (hx : Kd.C kCf w A x.length x) (hy : Kd.C kCf w A' y.length y) (lx : x.length ≤ 1000000) (ly : y.length ≤ 1000000) :
    Calls Tryz.prog 18 #[.slice A x.length c, .slice A' y.length c'] w fun e w' => e = .returned (.bool (decide (x = y))) ∧ ∃ m, w' = w.drewN m := by
  have HX := Lib.hid hx
  have HY := Lib.hid hy
  clear hx hy
  go_enter Tryz.func18, Tryz.ntmps18
  by_cases hl : x.length = y.length
  · obtain ⟨n, hn⟩ : ∃ n, n = x.length := ⟨_, rfl⟩
    have HNX := Lib.hid hn
    have HNY := Lib.hid (hn.trans hl)
    rw [← hl, ← hn]
    clear hl hn
    go_wp2
    go_loopw [5] (fun i wr => ∃ k m : Nat, k ≤ n ∧ i = .int .i64 (k : Int) ∧ Hid (x.take k = y.take k) ∧ wr = w.drewN m) (fun i _ => n - (intOf i).toNat)
    case atStart => exact ⟨0, 0, by omega, rfl, Lib.hid rfl, rfl⟩
    case round =>
      obtain ⟨k, m, hk, rfl, HE, rfl⟩ := hrel
      have hn1 := HNX.out
      rcases Nat.eq_or_lt_of_le hk with hk0 | hk0
      · have hlt : ¬ (k : Int) < (n : Int) := by omega
        have HF := Lib.hid (show decide (x = y) = true from by
          rw [decide_eq_true_eq]
          have h1 := HE.out
          have h2 := HNX.out
          have h3 := HNY.out
          rwa [List.take_of_length_le (by omega), List.take_of_length_le (by omega)] at h1)
        clear hn1
        go_wp2
        go_ret
        exact ⟨by rw [HF.out]; rfl, _, rfl⟩
      · have hlt : (k : Int) < (n : Int) := by omega
        have hky : k < y.length := by have := HNY.out; omega
        have hkx : k < x.length := by omega
        have gx := List.getElem?_eq_getElem hkx
        have gy := List.getElem?_eq_getElem hky
        obtain ⟨ad, rfl, e0, e1⟩ := at_cf HX.out k hkx _ gx
        obtain ⟨ad', rfl, e2, e3⟩ := at_cf HY.out k hky _ gy
        have cadd : IntKind.i64.wrap ((k : Int) + 1) = ((k + 1 : Nat) : Int) := by rw [IntWalk.i64_in _ (by omega)]; omega
        have HG := Lib.hid (And.intro gx gy)
        have HK := Lib.hid hk0
        generalize x[k] = xk at *
        generalize y[k] = yk at *
        clear gx gy hn1 hkx hky
        obtain ⟨bb, hbb⟩ : ∃ bb, bb = eqC (xk.1, xk.2) (yk.1, yk.2) := ⟨_, rfl⟩
        have HBB := Lib.hid (hbb.trans (eqC_iff xk yk))
        cases bb with
        | true =>
          have hq := hbb.symm
          clear hbb
          go_wp2
          go_quiet (fail)
          go_wp2
          go_roundw
          case rel =>
            refine ⟨k + 1, m + nq, HK.out, rfl, Lib.hid ?_, rfl⟩
            have := of_decide_eq_true HBB.out.symm
            rw [List.take_add_one, List.take_add_one, HE.out, HG.out.1, HG.out.2, this]
          · have := HK.out; simp only [intOf]; omega
        | false =>
          have hq := hbb.symm
          clear hbb
          have HF := Lib.hid (show decide (x = y) = false from by
            rw [decide_eq_false_iff_not]
            rintro rfl
            have h1 := HG.out.1.symm.trans HG.out.2
            exact of_decide_eq_false HBB.out.symm (by injection h1))
          go_wp2
          go_quiet (fail)
          go_wp2
          go_ret
          exact ⟨by rw [HF.out]; rfl, m + nq, by rw [World.drewN_drewN]⟩
  · have hl2 : ((x.length : Int) == (y.length : Int)) = false := by rw [beq_eq_false_iff_ne]; omega
    have HF := Lib.hid (show decide (x = y) = false from by rw [decide_eq_false_iff_not]; rintro rfl; exact hl rfl)
    have hl3 : ¬ (x.length : Int) = (y.length : Int) := by omega
    go_wp2
    go_ret
    exact ⟨by rw [HF.out]; rfl, 0, rfl⟩

end Go.Proofs.YtogfkfkejaiecaaGreatDoor.Jb

namespace Go.Proofs.YtogfkfkejaiecaaGreatDoor.Jc
open Go.RowKit Go.Shelf Pl Ut Ln Dc Dn Ga Gb Gc Ja Jq Go.Proofs.YtogfkfkejaiecaaGreatDoorW.PrintWords
set_option linter.unusedVariables false
set_option linter.unusedSimpArgs false
attribute [local go_sem] B_append B_extract B_toList B_size take_end

theorem at_fl2 {w w' : World} {ad : Addr} {n : Nat} {xs : List Fl} (h : Kd.C kFl w (some ad) n xs) (hb : Below w.heap.size w w') (k : Nat) (hk : k < n) (x : Fl) (hx : xs[k]? = some x) :
    w'.cell? (ad.add (k * 2)) = some (.string (B x.1)) ∧ w'.cell? ⟨(ad.add (k * 2)).block, (ad.add (k * 2)).off + 1, none⟩ = some (.string (B x.2)) := by
  obtain ⟨ad', e, h0, h1⟩ := at_fl (Kd.C_below h hb) k hk x hx
  cases e
  exact ⟨h0, h1⟩
theorem putGo_lt {p t : Str} {x : Fl} {r : List Fl} {dn : Bool} (h : x.1 < p) : putGo p t (x :: r) dn = x :: putGo p t r dn := by
  have hne : x.1 ≠ p := fun e => Jp.lt_irrefl' p (by rw [e] at h; exact h)
  have hnle : ¬ p ≤ x.1 := fun e => e h
  rw [putGo, if_neg (fun q => hnle q.1), if_neg hne, decide_eq_false hnle, Bool.or_false]
  rfl
theorem putGo_ge {p t : Str} {x : Fl} {r : List Fl} {dn : Bool} (h : ¬ x.1 < p) : putGo p t (x :: r) dn = (if dn then [] else [(p, t)]) ++ ((if x.1 = p then [] else [x]) ++ putGo p t r true) := by
  have hle : p ≤ x.1 := h
  rw [putGo, decide_eq_true hle, Bool.or_true]
  cases dn
  · rw [if_pos ⟨hle, rfl⟩]; rfl
  · rw [if_neg (fun q => by cases q.2)]; rfl

set_option maxRecDepth 100000 in
set_option maxHeartbeats 8000000 in
theorem put_any (xs : List Fl) (p t : Str) (A : Option Addr) (c : Nat) (w : World) (hC : Kd.C kFl w A xs.length xs) (hl : xs.length ≤ 1000) :
    Calls Tryz.prog 37 #[.slice A xs.length c, .string (B p), .string (B t)] w fun e w' => ∃ v, e = .returned v ∧ kFl.R 49 w' w.heap.size (fun _ => True) v (putL xs p t) ∧ Below w.heap.size w w' := by
  have HC := Lib.hid hC
  clear hC
  go_enter Tryz.func37, Tryz.ntmps37
  go_wp2
  go_loopw [7, 8, 9] (fun v d i wr => ∃ (k : Nat) (pre : List Fl) (dn : Bool), k ≤ xs.length ∧ i = .int .i64 (k : Int) ∧ d = .bool dn ∧ Hid (putL xs p t = pre ++ putGo p t (xs.drop k) dn) ∧ Hid (pre.length ≤ 2 * k) ∧
    Hid (kFl.R 49 wr w.heap.size (fun _ => True) v pre) ∧ Hid (Below w.heap.size w wr)) (fun _ _ i _ => xs.length - (intOf i).toNat)
  case atStart => exact ⟨0, [], false, Nat.zero_le _, rfl, rfl, Lib.hid rfl, Lib.hid (by simp), Lib.hid (Kd.R_nil _ _ _ _ _), Lib.hid (Below.refl _ _)⟩
  case round =>
    obtain ⟨k, pre, dn, hk, rfl, rfl, HP, HL, HR, HB⟩ := hrel
    obtain ⟨wo, rfl⟩ : ∃ wo : World, wo = wr := ⟨_, rfl⟩
    have hpl : pre.length ≤ 2000 := by have := HL.out; omega
    rcases Nat.eq_or_lt_of_le hk with hk0 | hk0
    · have hlt : ¬ (k : Int) < (xs.length : Int) := by omega
      have HF := Lib.hid (show putL xs p t = pre ++ (if dn then [] else [(p, t)]) from by rw [HP.out, hk0, List.drop_length]; rfl)
      clear hk0
      cases dn with
      | true =>
        go_wp2
        go_ret
        exact ⟨_, rfl, by rw [HF.out]; simpa using HR.out, HB.out⟩
      | false =>
        have hszw1 := HB.out.size
        go_wp2_with (at_builtin; go_loud (refine Kd.R_append kFl (w0 := w) w.heap.size rfl _ _ 33 49 _ 32 rfl Tryz.underlying33 infoFl rfl (by decide) (by decide) u7 pre (p, t) (flCells (p, t)) (fun _ => True) (fun _ => False) rfl rfl (kFl_mk _ _ _ _) (fun _ h => h.elim) (fun _ _ => trivial) HR.out HB.out hszw1 (by omega) ?_))
        intro v1 w1 hRw1 hbw1 hgw1 _
        have HRw1 := Lib.hid hRw1
        have HBw1 := Lib.hid hbw1
        clear hRw1 hbw1 hgw1
        go_wp2
        go_ret
        exact ⟨_, rfl, by rw [HF.out]; exact HRw1.out, HBw1.out⟩
    · have hlt : (k : Int) < (xs.length : Int) := by omega
      obtain ⟨x, hx⟩ : ∃ x, xs[k]? = some x := ⟨_, List.getElem?_eq_getElem hk0⟩
      obtain ⟨ad, rfl, e0, e1⟩ := at_fl (Kd.C_below HC.out HB.out) k hk0 x hx
      have HK := Lib.hid hk0
      have HX := Lib.hid hx
      have hd : xs.drop k = x :: xs.drop (k + 1) := by
        obtain ⟨h1, h2⟩ := List.getElem?_eq_some_iff.1 hx
        rw [List.drop_eq_getElem_cons h1, h2]
      by_cases hp : x.1 < p
      · have hq : Op.bytesLess x.1 p = true := by rw [bytesLess_eq, decide_eq_true_eq]; exact hp
        have hq2 : (x.1 == p) = false := by rw [beq_eq_false_iff_ne]; exact fun e => Jp.lt_irrefl' p (by rw [e] at hp; exact hp)
        have HF := Lib.hid (show putL xs p t = (pre ++ [x]) ++ putGo p t (xs.drop (k + 1)) dn from by rw [HP.out, hd, putGo_lt hp]; simp)
        clear hx hk0 hd hp
        have hszw1 := HB.out.size
        go_wp2_with (at_builtin; go_loud (refine Kd.R_append kFl (w0 := w) w.heap.size rfl _ _ 33 49 _ 32 rfl Tryz.underlying33 infoFl rfl (by decide) (by decide) u7 pre x (flCells x) (fun _ => True) (fun _ => False) rfl rfl (kFl_mk _ _ _ _) (fun _ h => h.elim) (fun _ _ => trivial) HR.out HB.out hszw1 (by omega) ?_))
        intro v1 w1 hRw1 hbw1 hgw1 _
        have HRw1 := Lib.hid hRw1
        have HBw1 := Lib.hid hbw1
        clear hRw1 hbw1 hgw1
        go_wp2
        go_roundw
        case rel => exact ⟨k + 1, pre ++ [x], dn, HK.out, rfl, rfl, HF, Lib.hid (by have := HL.out; simp; omega), HRw1, HBw1⟩
        · have := HK.out; simp only [intOf]; omega
      · have hq : Op.bytesLess x.1 p = false := by rw [bytesLess_eq, decide_eq_false_iff_not]; exact hp
        have HF0 := Lib.hid (show putL xs p t = pre ++ ((if dn then [] else [(p, t)]) ++ ((if x.1 = p then [] else [x]) ++ putGo p t (xs.drop (k + 1)) true)) from by rw [HP.out, hd, putGo_ge hp])
        clear hx hk0 hd hp
        cases dn with
        | true =>
          by_cases he : x.1 = p
          · have hq2 : (x.1 == p) = true := by rw [beq_iff_eq]; exact he
            have HF := Lib.hid (show putL xs p t = pre ++ putGo p t (xs.drop (k + 1)) true from by rw [HF0.out, if_pos he]; simp)
            clear he
            go_wp2
            go_roundw
            case rel => exact ⟨k + 1, pre, true, HK.out, rfl, rfl, HF, Lib.hid (by have := HL.out; simp; omega), HR, HB⟩
            · have := HK.out; simp only [intOf]; omega
          · have hq2 : (x.1 == p) = false := by rw [beq_eq_false_iff_ne]; exact he
            have HF := Lib.hid (show putL xs p t = (pre ++ [x]) ++ putGo p t (xs.drop (k + 1)) true from by rw [HF0.out, if_neg he]; simp)
            clear he
            have hszw1 := HB.out.size
            go_wp2_with (at_builtin; go_loud (refine Kd.R_append kFl (w0 := w) w.heap.size rfl _ _ 33 49 _ 32 rfl Tryz.underlying33 infoFl rfl (by decide) (by decide) u7 pre x (flCells x) (fun _ => True) (fun _ => False) rfl rfl (kFl_mk _ _ _ _) (fun _ h => h.elim) (fun _ _ => trivial) HR.out HB.out hszw1 (by omega) ?_))
            intro v1 w1 hRw1 hbw1 hgw1 _
            have HRw1 := Lib.hid hRw1
            have HBw1 := Lib.hid hbw1
            clear hRw1 hbw1 hgw1
            go_wp2
            go_roundw
            case rel => exact ⟨k + 1, pre ++ [x], true, HK.out, rfl, rfl, HF, Lib.hid (by have := HL.out; simp; omega), HRw1, HBw1⟩
            · have := HK.out; simp only [intOf]; omega
        | false =>
          have hszw1 := HB.out.size
          go_wp2_with (at_builtin; go_loud (refine Kd.R_append kFl (w0 := w) w.heap.size rfl _ _ 33 49 _ 32 rfl Tryz.underlying33 infoFl rfl (by decide) (by decide) u7 pre (p, t) (flCells (p, t)) (fun _ => True) (fun _ => False) rfl rfl (kFl_mk _ _ _ _) (fun _ h => h.elim) (fun _ _ => trivial) HR.out HB.out hszw1 (by omega) ?_))
          intro v1 w1 hRw1 hbw1 hgw1 _
          have HRw1 := Lib.hid hRw1
          have HBw1 := Lib.hid hbw1
          clear hRw1 hbw1 hgw1
          have hpl1 : (pre ++ [(p, t)]).length ≤ 2001 := by simp; omega
          clear e0 e1
          obtain ⟨e0, e1⟩ := at_fl2 HC.out HBw1.out k HK.out x HX.out
          by_cases he : x.1 = p
          · have hq2 : (x.1 == p) = true := by rw [beq_iff_eq]; exact he
            have HF := Lib.hid (show putL xs p t = (pre ++ [(p, t)]) ++ putGo p t (xs.drop (k + 1)) true from by rw [HF0.out, if_pos he]; simp)
            clear he
            go_wp2
            go_roundw
            case rel => exact ⟨k + 1, pre ++ [(p, t)], true, HK.out, rfl, rfl, HF, Lib.hid (by have := HL.out; simp; omega), HRw1, HBw1⟩
            · have := HK.out; simp only [intOf]; omega
          · have hq2 : (x.1 == p) = false := by rw [beq_eq_false_iff_ne]; exact he
            have HF := Lib.hid (show putL xs p t = (pre ++ [(p, t), x]) ++ putGo p t (xs.drop (k + 1)) true from by rw [HF0.out, if_neg he]; simp)
            clear he
            have hszw2 := HBw1.out.size
            go_wp2_with (at_builtin; go_loud (refine Kd.R_append kFl (w0 := w) w.heap.size rfl _ _ 33 49 _ 32 rfl Tryz.underlying33 infoFl rfl (by decide) (by decide) v1 (pre ++ [(p, t)]) x (flCells x) (fun _ => True) (fun _ => False) rfl rfl (kFl_mk _ _ _ _) (fun _ h => h.elim) (fun _ _ => trivial) HRw1.out HBw1.out hszw2 (by omega) ?_))
            intro v2 w2 hRw2 hbw2 hgw2 _
            have HRw2 := Lib.hid hRw2
            have HBw2 := Lib.hid hbw2
            clear hRw2 hbw2 hgw2
            go_wp2
            go_roundw
            case rel => exact ⟨k + 1, pre ++ [(p, t), x], true, HK.out, rfl, rfl, HF, Lib.hid (by have := HL.out; simp; omega), HRw2, HBw2⟩
            · have := HK.out; simp only [intOf]; omega

end Go.Proofs.YtogfkfkejaiecaaGreatDoor.Jc

namespace Go.Proofs.YtogfkfkejaiecaaGreatDoor.Jd
open Go.RowKit Go.Shelf Pl Ut Ln Dc Dn Ga Gb Gc Ja Jq Jc Go.Proofs.YtogfkfkejaiecaaGreatDoorW.PrintWords
set_option linter.unusedVariables false
set_option linter.unusedSimpArgs false
attribute [local go_sem] B_append B_extract B_toList B_size take_end

theorem putGo_length (p t : Str) : ∀ (l : List Fl) (dn : Bool), (putGo p t l dn).length ≤ l.length + 1 ∧ (dn = true → (putGo p t l dn).length ≤ l.length)
  | [], dn => by cases dn <;> simp [putGo]
  | x :: r, dn => by
    obtain ⟨a1, a2⟩ := putGo_length p t r (dn || decide (p ≤ x.1))
    unfold putGo
    simp only [List.length_append, List.length_cons]
    have h0 : (if x.1 = p then [] else [x]).length ≤ 1 := by split <;> simp
    cases dn with
    | true =>
      have a3 := a2 (by simp)
      rw [if_neg (by simp)]
      simp only [List.length_nil]
      omega
    | false =>
      by_cases hp : p ≤ x.1
      · have a3 := a2 (by simp [hp])
        rw [if_pos ⟨hp, rfl⟩]
        simp only [List.length_cons, List.length_nil]
        exact ⟨by omega, fun h => by cases h⟩
      · rw [if_neg (fun h => hp h.1)]
        simp only [List.length_nil]
        exact ⟨by omega, fun h => by cases h⟩
theorem sortF_length (l : List Fl) : (sortF l).length ≤ l.length := by
  obtain ⟨n, hn⟩ : ∃ n, l.length = n := ⟨_, rfl⟩
  induction n generalizing l with
  | zero => obtain rfl := List.length_eq_zero_iff.1 hn; simp [sortF]
  | succ n ih =>
    rcases List.eq_nil_or_concat l with rfl | ⟨pre, f, rfl⟩
    · simp at hn
    · rw [List.concat_eq_append] at hn ⊢
      have h1 := ih pre (by simpa using hn)
      rw [sortF_snoc]
      have := (putGo_length f.1 f.2 (sortF pre) false).1
      unfold putL
      simp
      omega

set_option maxRecDepth 100000 in
set_option maxHeartbeats 8000000 in
theorem sort_any (xs : List Fl) (A : Option Addr) (c : Nat) (w : World) (hC : Kd.C kFl w A xs.length xs) (hl : xs.length ≤ 1000) :
    Calls Tryz.prog 22 #[.slice A xs.length c] w fun e w' => ∃ v, e = .returned v ∧ kFl.R 49 w' w.heap.size (fun _ => True) v (sortF xs) ∧ Below w.heap.size w w' := by
  have HC := Lib.hid hC
  clear hC
  go_enter Tryz.func22, Tryz.ntmps22
  go_wp2
  go_loopw [3, 4] (fun v i wr => ∃ k : Nat, k ≤ xs.length ∧ i = .int .i64 (k : Int) ∧ Hid (kFl.R 49 wr w.heap.size (fun _ => True) v (sortF (xs.take k))) ∧ Hid (Below w.heap.size w wr)) (fun _ i _ => xs.length - (intOf i).toNat)
  case atStart => exact ⟨0, Nat.zero_le _, rfl, Lib.hid (Kd.R_nil _ _ _ _ _), Lib.hid (Below.refl _ _)⟩
  case round =>
    obtain ⟨k, hk, rfl, HR, HB⟩ := hrel
    obtain ⟨wo, rfl⟩ : ∃ wo : World, wo = wr := ⟨_, rfl⟩
    rcases Nat.eq_or_lt_of_le hk with hk0 | hk0
    · have hlt : ¬ (k : Int) < (xs.length : Int) := by omega
      have HF := Lib.hid (show xs.take k = xs from by rw [hk0, List.take_length])
      clear hk0
      go_wp2
      go_ret
      exact ⟨_, rfl, by have := HR.out; rwa [HF.out] at this, HB.out⟩
    · have hlt : (k : Int) < (xs.length : Int) := by omega
      obtain ⟨x, hx⟩ : ∃ x, xs[k]? = some x := ⟨_, List.getElem?_eq_getElem hk0⟩
      obtain ⟨ad, rfl, e0, e1⟩ := at_fl (Kd.C_below HC.out HB.out) k hk0 x hx
      obtain ⟨A3, c3, rfl, lc, hC3⟩ := Kd.R_reads HR.out
      have HPUT : Hid (∀ W', Below wo.heap.size wo W' → Calls Tryz.prog 37 #[.slice A3 (sortF (xs.take k)).length c3, .string (B x.1), .string (B x.2)] W' (fun e w' => ∃ v, e = .returned v ∧ Hid (kFl.R 49 w' w.heap.size (fun _ => True) v (sortF (xs.take (k + 1)))) ∧ Hid (Below w.heap.size w w') ∧ Below wo.heap.size wo w')) := Lib.hid (fun W' hb => by
        refine (put_any (sortF (xs.take k)) x.1 x.2 A3 c3 W' (Kd.C_below hC3 hb) (Nat.le_trans (sortF_length _) (by rw [List.length_take]; omega))).mono ?_
        rintro e w' ⟨v, he, hr, hb2⟩
        refine ⟨v, he, Lib.hid ?_, Lib.hid (HB.out.trans ((hb.trans (hb2.mono hb.size)).mono HB.out.size)), hb.trans (hb2.mono hb.size)⟩
        rw [take_snoc hx, sortF_snoc]
        exact Kd.R_lower hr (Nat.le_trans HB.out.size hb.size))
      have HKS : Hid (∀ W', Below wo.heap.size wo W' → (W'.cell? (ad.add (k * 2)) = some (.string (B x.1)) ∧ W'.cell? ⟨(ad.add (k * 2)).block, (ad.add (k * 2)).off + 1, none⟩ = some (.string (B x.2))) ∧ Below wo.heap.size wo W') :=
        Lib.hid (fun W' hb => ⟨at_fl2 HC.out (HB.out.trans (hb.mono HB.out.size)) k hk0 x hx, hb⟩)
      have HK := Lib.hid hk0
      clear hx hk0 hC3
      go_upto_region 5 with fail
      go_region_held3 (fun w' => (w'.cell? (ad.add (k * 2)) = some (.string (B x.1)) ∧ w'.cell? ⟨(ad.add (k * 2)).block, (ad.add (k * 2)).off + 1, none⟩ = some (.string (B x.2))) ∧ Below wo.heap.size wo w')
        ((refine HKS.out _ ?_; first | assumption | exact below_drew (Below.refl _ _)))
        ((go_at_call 37; refine (HPUT.out _ (by go_split_ands; assumption)).mono ?_; rintro e w1 ⟨v1, rfl, HR1, HB1, hb1⟩))
      all_goals
        go_wp2
        go_roundw
        case rel => exact ⟨k + 1, HK.out, rfl, HR1, HB1⟩
        · have := HK.out; simp only [intOf]; omega

end Go.Proofs.YtogfkfkejaiecaaGreatDoor.Jd

namespace Go.Proofs.YtogfkfkejaiecaaGreatDoor.Je
open Go.RowKit Jd Go.Shelf Pl Ut Ln Dc Dn Ga Gb Gc Ja Jq Jc Go.Proofs.YtogfkfkejaiecaaGreatDoorW.PrintWords
set_option linter.unusedVariables false
set_option linter.unusedSimpArgs false
attribute [local go_sem] B_append B_extract B_toList B_size take_end

theorem keysF_take_snoc {l : List Fl} {k : Nat} {x : Fl} (h : l[k]? = some x) : keysF (l.take (k + 1)) = keysF (l.take k) ++ [x.1] := by
  unfold keysF; rw [take_snoc h]; simp

set_option maxRecDepth 100000 in
set_option maxHeartbeats 8000000 in
theorem rpaths_any (ts : List (List Fl)) (A : Option Addr) (c : Nat) (w : World) (hC : Kd.C kFls w A ts.length ts) (hlen : ts.length ≤ 1000) (hsum : (ts.map List.length).sum ≤ 1000) :
    Calls Tryz.prog 33 #[.slice A ts.length c] w fun e w' => ∃ v, e = .returned v ∧ kStr.R 9 w' w.heap.size (fun _ => True) v (pathsL ts) ∧ Below w.heap.size w w' := by
  have HC := Lib.hid hC
  clear hC
  go_enter Tryz.func33, Tryz.ntmps33
  go_wp2
  go_loopw [3, 4] (fun v i wr => ∃ k : Nat, k ≤ ts.length ∧ i = .int .i64 (k : Int) ∧ Hid (kFl.R 49 wr w.heap.size (fun _ => True) v (ts.take k).flatten) ∧ Hid (Below w.heap.size w wr)) (fun _ i _ => ts.length - (intOf i).toNat)
  case atStart => exact ⟨0, Nat.zero_le _, rfl, Lib.hid (Kd.R_nil _ _ _ _ _), Lib.hid (Below.refl _ _)⟩
  case round =>
    obtain ⟨k, hk, rfl, HR, HB⟩ := hrel
    obtain ⟨wo, rfl⟩ : ∃ wo : World, wo = wr := ⟨_, rfl⟩
    have HSZ : Hid ((ts.take k).flatten.length ≤ 1000) := Lib.hid (by
      rw [List.length_flatten]
      exact Nat.le_trans (sum_take_leN ts k) hsum)
    rcases Nat.eq_or_lt_of_le hk with hk0 | hk0
    · have hlt : ¬ (k : Int) < (ts.length : Int) := by omega
      have HF := Lib.hid (show ts.take k = ts from by rw [hk0, List.take_length])
      clear hk0
      rw [HF.out] at HR HSZ
      obtain ⟨fl, hfl⟩ : ∃ fl, fl = ts.flatten := ⟨_, rfl⟩
      have HFT := Lib.hid (show keysF (sortF fl) = pathsL ts from by rw [hfl]; exact paths_same ts)
      rw [← hfl] at HR HSZ
      clear hfl HF
      obtain ⟨A3, c3, rfl, lc, hC3⟩ := Kd.R_reads HR.out
      have hs := sort_any fl A3 c3 wo hC3 HSZ.out
      have HS := Lib.hid hs
      have HFL := Lib.hid (Nat.le_trans (sortF_length fl) HSZ.out)
      clear hs hC3 lc
      go_wp2_with fail
      refine HS.out.mono ?_
      rintro e w1 ⟨v1, rfl, hr1, hb1⟩
      have HB1 := Lib.hid (HB.out.trans (hb1.mono HB.out.size))
      obtain ⟨A4, c4, rfl, lc4, hC4⟩ := Kd.R_reads hr1
      have HC4 := Lib.hid hC4
      obtain ⟨s, hs⟩ : ∃ s, s = sortF fl := ⟨_, rfl⟩
      rw [← hs] at HC4 HFL HFT
      rw [← hs]
      have hsl := HFL.out
      clear hr1 hb1 lc4 hC4 hs HS
      go_wp2
      go_loopw [6, 7] (fun v i wr => ∃ j : Nat, j ≤ s.length ∧ i = .int .i64 (j : Int) ∧ Hid (kStr.R 9 wr w1.heap.size (fun _ => True) v (keysF (s.take j))) ∧ Hid (Below w1.heap.size w1 wr)) (fun _ i _ => s.length - (intOf i).toNat)
      case atStart => exact ⟨0, Nat.zero_le _, rfl, Lib.hid (Kd.R_nil _ _ _ _ _), Lib.hid (Below.refl _ _)⟩
      case round =>
        obtain ⟨j, hj, rfl, HR2, HB2⟩ := hrel
        obtain ⟨wi, rfl⟩ : ∃ wi : World, wi = wr := ⟨_, rfl⟩
        rcases Nat.eq_or_lt_of_le hj with hj0 | hj0
        · have hlt : ¬ (j : Int) < (s.length : Int) := by omega
          have HF2 := Lib.hid (show keysF (s.take j) = pathsL ts from by rw [hj0, List.take_length, HFT.out])
          clear hj0
          go_wp2
          go_ret
          refine ⟨_, rfl, ?_, HB1.out.trans (HB2.out.mono HB1.out.size)⟩
          rw [← HF2.out]
          exact Kd.R_lower HR2.out HB1.out.size
        · have hlt : (j : Int) < (s.length : Int) := by omega
          obtain ⟨x, hx⟩ : ∃ x, s[j]? = some x := ⟨_, List.getElem?_eq_getElem hj0⟩
          obtain ⟨ad, rfl, e0, e1⟩ := at_fl (Kd.C_below HC4.out HB2.out) j hj0 x hx
          have HJ := Lib.hid hj0
          have HTJ := Lib.hid (keysF_take_snoc hx)
          have hsz := HB2.out.size
          obtain ⟨out, hout⟩ : ∃ out, out = keysF (s.take j) := ⟨_, rfl⟩
          rw [← hout] at HR2 HTJ
          have hol : out.length ≤ 1000 := by rw [hout]; unfold keysF; rw [List.length_map, List.length_take]; omega
          clear hx hj0 hout
          go_wp2_with (at_builtin; go_loud (refine Kd.R_append kStr (w0 := w1) w1.heap.size rfl _ _ 62 9 _ 16 rfl Tryz.underlying62 infoString rfl (by decide) (by decide) u6 out x.1 _ (fun _ => True) (fun _ => False) rfl rfl ?k1 ?k2 ?k3 HR2.out HB2.out hsz (by omega) ?_))
          case k1 => exact rfl
          case k2 => exact fun _ h => h.elim
          case k3 => exact fun _ _ => trivial
          intro v2 w2 hR3 hb3 hg3 _
          have HR3 := Lib.hid hR3
          have HB3 := Lib.hid hb3
          clear hR3 hb3 hg3
          go_wp2
          go_roundw
          case rel => exact ⟨j + 1, HJ.out, rfl, Lib.hid (by rw [HTJ.out]; exact HR3.out), HB3⟩
          · have := HJ.out; simp only [intOf]; omega
    · have hlt : (k : Int) < (ts.length : Int) := by omega
      obtain ⟨l, hl⟩ : ∃ l, ts[k]? = some l := ⟨_, List.getElem?_eq_getElem hk0⟩
      obtain ⟨ad, A0, c0, rfl, p0w, hlc, hCl⟩ := at_fls HC.out k hk0 l hl
      have p0 := pw_cell_below HB.out p0w
      have HCl := Lib.hid (Kd.C_below hCl HB.out)
      have HTK := Lib.hid (take_snoc hl)
      have HK := Lib.hid hk0
      have hsz := HB.out.size
      obtain ⟨pre, hpre⟩ : ∃ pre, pre = (ts.take k).flatten := ⟨_, rfl⟩
      have hb2 : pre.length + l.length ≤ 1000 := by
        have h2 := sum_take_leN ts (k + 1)
        rw [take_snoc hl, List.map_append, List.sum_append] at h2
        simp only [List.map_cons, List.map_nil, List.sum_cons, List.sum_nil] at h2
        rw [hpre, List.length_flatten]
        omega
      rw [← hpre] at HR
      have HPRE := Lib.hid hpre
      clear hl hk0 p0w hCl hpre HSZ
      go_wp2_with (at_builtin; go_loud (refine Kd.R_append_rows kFl (Rr := kFl.K wo) (w0 := w) w.heap.size rfl _ _ 33 49 _ 32 rfl Tryz.underlying33 infoFl rfl (by decide) (by decide) u3 pre l A0 l.length c0 (fun _ => True) (fun _ => False) rfl rfl HR.out HCl.out (fun x cs h => by rw [kFl_open h]; exact kFl_mk _ _ _ _) (fun _ h => h.elim) (fun _ _ => trivial) HB.out hsz (by omega) ?_))
      intro v2 w2 hR3 hb3 hg3 _
      have HR3 := Lib.hid hR3
      have HB3 := Lib.hid hb3
      clear hR3 hb3 hg3
      go_wp2
      go_roundw
      case rel => exact ⟨k + 1, HK.out, rfl, Lib.hid (by rw [HTK.out, List.flatten_append, ← HPRE.out]; simpa using HR3.out), HB3⟩
      · have := HK.out; simp only [intOf]; omega

end Go.Proofs.YtogfkfkejaiecaaGreatDoor.Je

namespace Go.Proofs.YtogfkfkejaiecaaGreatDoor.Jf
open Go.RowKit Go.Shelf Pl Ut Ln Dc Dn Ds Ed Ga Gb Gc Gd Ja Jq Je Go.Proofs.YtogfkfkejaiecaaGreatDoorW.PrintWords
set_option linter.unusedVariables false
set_option linter.unusedSimpArgs false
attribute [local go_sem] B_append B_extract B_toList B_size take_end

theorem at_str2 {w w' : World} {ad : Addr} {n : Nat} {xs : List Str} (h : Kd.C kStr w (some ad) n xs) (hb : Below w.heap.size w w') (k : Nat) (hk : k < n) (x : Str) (hx : xs[k]? = some x) : w'.cell? (ad.add k) = some (.string (B x)) := by
  obtain ⟨ad', e, h0⟩ := at_str (Kd.C_below h hb) k hk x hx
  cases e
  exact h0
theorem getL_len {l : List Fl} {n : Nat} (h : ∀ f ∈ l, f.2.length ≤ n) (p : Str) : (getL l p).1.length ≤ n := by
  unfold getL
  cases hx : l.find? (fun f => f.1 == p) with
  | none => simp
  | some f => exact h f (List.mem_of_find?_eq_some hx)

set_option maxRecDepth 100000 in
set_option maxHeartbeats 8000000 in
theorem rtrees_any (hLk : LinesOk) (o a b : List Fl) (old : Bool) (A1 A2 A3 : Option Addr) (c1 c2 c3 : Nat) (w : World) (h1 : Kd.C kFl w A1 o.length o) (h2 : Kd.C kFl w A2 a.length a) (h3 : Kd.C kFl w A3 b.length b)
    (l1 : o.length ≤ c1) (l2 : a.length ≤ c2) (l3 : b.length ≤ c3) (lo : o.length ≤ 100) (la : a.length ≤ 100) (lb : b.length ≤ 100) (tO : ∀ f ∈ o, f.2.length ≤ 2500) (ta : ∀ f ∈ a, f.2.length ≤ 2500) (tb : ∀ f ∈ b, f.2.length ≤ 2500) :
    Calls Tryz.prog 16 #[.slice A1 o.length c1, .slice A2 a.length c2, .slice A3 b.length c3, .bool old] w
      fun e w' => ∃ v u, e = .returned (.tuple #[v, u]) ∧ kFl.R 49 w' w.heap.size (fun _ => True) v (treesL o a b old).1 ∧ kCf.R 60 w' w.heap.size (fun _ => True) u (treesL o a b old).2 ∧ Below w.heap.size w w' := by
  obtain ⟨U, hU⟩ : ∃ U, U = w.alloc (.cells #[.slice A1 o.length c1, .slice A2 a.length c2, .slice A3 b.length c3] 33) := ⟨_, rfl⟩
  have hbU : Below w.heap.size w U := by rw [hU]; exact below_alloc (Below.refl _ _) _
  have k0 : U.heap[w.heap.size]? = some (.cells #[.slice A1 o.length c1, .slice A2 a.length c2, .slice A3 b.length c3] 33 (0, 0)) := by rw [hU]; exact blk_new _ _
  have HP := Lib.hid (rpaths_any [o, a, b] (some ⟨w.heap.size, 0, none⟩) 3 U (three_fls k0 (Kd.C_below h1 hbU) (Kd.C_below h2 hbU) (Kd.C_below h3 hbU) l1 l2 l3) (by simp) (by simp; omega))
  have HBU := Lib.hid hbU
  have HG1 := Lib.hid (fun (W : World) (hb : Below w.heap.size w W) p => rget_any o p A1 c1 W (Kd.C_below h1 hb) (by omega))
  have HG2 := Lib.hid (fun (W : World) (hb : Below w.heap.size w W) p => rget_any a p A2 c2 W (Kd.C_below h2 hb) (by omega))
  have HG3 := Lib.hid (fun (W : World) (hb : Below w.heap.size w W) p => rget_any b p A3 c3 W (Kd.C_below h3 hb) (by omega))
  have HFI := Lib.hid (fun p W => rfile_of hLk (getL o p).1 (getL a p).1 (getL b p).1 (getL o p).2 (getL a p).2 (getL b p).2 old (getL_len tO p) (getL_len ta p) (getL_len tb p) W)
  obtain ⟨P, hPP⟩ : ∃ P, P = pathsL [o, a, b] := ⟨_, rfl⟩
  have HPL : Hid (P.length ≤ 300) := Lib.hid (by
    have := compact_len [o, a, b]
    rw [hPP]
    simp at this
    omega)
  have HT := Lib.hid (show treesL o a b old = (outsL o a b old P, badsL o a b old P) from by rw [hPP]; rfl)
  rw [← hPP] at HP
  rw [HT.out]
  rw [hU] at HP HBU
  clear hU hbU k0 h1 h2 h3 tO ta tb hPP HT
  go_enter Tryz.func16, Tryz.ntmps16
  go_wp2_with fail
  refine HP.out.mono ?_
  rintro e w2 ⟨vp, rfl, hRp, hb2⟩
  have HB2 := Lib.hid (HBU.out.trans (hb2.mono HBU.out.size))
  obtain ⟨AP, cp, rfl, lcp, hCp⟩ := Kd.R_reads hRp
  have HCp := Lib.hid hCp
  clear hRp hb2 lcp hCp HP HBU
  have hpl := HPL.out
  go_wp2
  go_loopw [10, 11, 13] (fun v u i wr => ∃ k : Nat, k ≤ P.length ∧ i = .int .i64 (k : Int) ∧ Hid (kFl.R 49 wr w2.heap.size (fun _ => True) v (outsL o a b old (P.take k))) ∧ Hid (kCf.R 60 wr w2.heap.size (fun _ => True) u (badsL o a b old (P.take k))) ∧ Hid (Below w2.heap.size w2 wr)) (fun _ _ i _ => P.length - (intOf i).toNat)
  case atStart => exact ⟨0, Nat.zero_le _, rfl, Lib.hid (Kd.R_nil _ _ _ _ _), Lib.hid (Kd.R_nil _ _ _ _ _), Lib.hid (Below.refl _ _)⟩
  case round =>
    obtain ⟨k, hk, rfl, HR, HU, HB⟩ := hrel
    obtain ⟨wo, rfl⟩ : ∃ wo : World, wo = wr := ⟨_, rfl⟩
    rcases Nat.eq_or_lt_of_le hk with hk0 | hk0
    · have hlt : ¬ (k : Int) < (P.length : Int) := by omega
      have HF := Lib.hid (show P.take k = P from by rw [hk0, List.take_length])
      clear hk0
      rw [HF.out] at HR HU
      go_wp2
      go_ret2
      exact ⟨_, _, rfl, Kd.R_lower HR.out HB2.out.size, Kd.R_lower HU.out HB2.out.size, HB2.out.trans (HB.out.mono HB2.out.size)⟩
    · have hlt : (k : Int) < (P.length : Int) := by omega
      obtain ⟨p, hp⟩ : ∃ p, P[k]? = some p := ⟨_, List.getElem?_eq_getElem hk0⟩
      obtain ⟨ad, rfl, e0⟩ := at_str (Kd.C_below HCp.out HB.out) k hk0 p hp
      have HK := Lib.hid hk0
      have HX := Lib.hid hp
      have HWB := Lib.hid (HB2.out.trans (HB.out.mono HB2.out.size))
      obtain ⟨outs, ho⟩ : ∃ q, q = outsL o a b old (P.take k) := ⟨_, rfl⟩
      obtain ⟨bads, hb⟩ : ∃ q, q = badsL o a b old (P.take k) := ⟨_, rfl⟩
      have lq1 : outs.length ≤ 300 := by have := outsL_length o a b old (P.take k); rw [← ho, List.length_take] at this; omega
      have lq2 : bads.length ≤ 300 := by have := badsL_length o a b old (P.take k); rw [← hb, List.length_take] at this; omega
      rw [← ho] at HR
      rw [← hb] at HU
      have HNO := Lib.hid (show outsL o a b old (P.take (k + 1)) = putOut outs p (outOf o a b old p) from by rw [take_snoc hp, outsL_snoc, ho])
      have HNB := Lib.hid (show badsL o a b old (P.take (k + 1)) = putBad bads p (outOf o a b old p) from by rw [take_snoc hp, badsL_snoc, hb])
      have HGO := Lib.hid (HG1.out wo HWB.out p)
      have HGA := Lib.hid (HG2.out wo HWB.out p)
      have HGB := Lib.hid (HG3.out wo HWB.out p)
      have HFP := Lib.hid (HFI.out p wo)
      have HOO := Lib.hid (show outOf o a b old p = fileL (getL o p).1 (getL a p).1 (getL b p).1 (getL o p).2 (getL a p).2 (getL b p).2 old from rfl)
      rw [← HOO.out] at HFP
      obtain ⟨⟨r1, r2, r3⟩, hr⟩ : ∃ r, r = outOf o a b old p := ⟨_, rfl⟩
      rw [← hr] at HFP HNO HNB
      obtain ⟨⟨x1, x2⟩, hx⟩ : ∃ r, r = getL o p := ⟨_, rfl⟩
      obtain ⟨⟨y1, y2⟩, hy⟩ : ∃ r, r = getL a p := ⟨_, rfl⟩
      obtain ⟨⟨z1, z2⟩, hz⟩ : ∃ r, r = getL b p := ⟨_, rfl⟩
      rw [← hx] at HGO HFP
      rw [← hy] at HGA HFP
      rw [← hz] at HGB HFP
      clear hp hk0 ho hb hr hx hy hz HOO
      go_wp2_with fail
      refine HGO.out.mono ?_
      rintro e w3 ⟨rfl, rfl⟩
      clear HGO
      go_wp2_with fail
      refine HGA.out.mono ?_
      rintro e w4 ⟨rfl, rfl⟩
      clear HGA
      go_wp2_with fail
      refine HGB.out.mono ?_
      rintro e w5 ⟨rfl, rfl⟩
      clear HGB
      go_wp2_with fail
      refine HFP.out.mono ?_
      rintro e w6 ⟨rfl, hb6⟩
      have HB6 := Lib.hid (HB.out.trans (hb6.mono HB.out.size))
      have HR6 := Lib.hid (Kd.R_below HR.out hb6)
      have HU6 := Lib.hid (Kd.R_below HU.out hb6)
      have hsz6 := HB6.out.size
      clear hb6 HFP HR HU e0
      have e0 := at_str2 HCp.out HB6.out k HK.out p HX.out
      cases r2 with
      | true =>
        have hszw7 := HB6.out.size
        go_wp2_with (at_builtin; go_loud (refine Kd.R_append kFl (w0 := w2) w2.heap.size rfl _ _ 33 49 _ 32 rfl Tryz.underlying33 infoFl rfl (by decide) (by decide) u10 outs (p, r1) (flCells (p, r1)) (fun _ => True) (fun _ => False) rfl rfl (kFl_mk _ _ _ _) (fun _ h => h.elim) (fun _ _ => trivial) HR6.out HB6.out hszw7 (by omega) ?_))
        intro v7 w7 hRw7 hbw7 hgw7 _
        have HRw7 := Lib.hid hRw7
        have HBw7 := Lib.hid hbw7
        have HUw7 := Lib.hid (Kd.R_over' (v := u10) HU6.out (Kd.R_typed HR6.out) (fun q hq => by rw [mem_cf hq]; decide) hgw7)
        clear hRw7 hbw7 hgw7 e0
        have e0 := at_str2 HCp.out HBw7.out k HK.out p HX.out
        by_cases hr3 : r3 = 0
        · have HZ := Lib.hid hr3
          go_wp2
          go_roundw
          case rel => exact ⟨k + 1, HK.out, rfl, Lib.hid (by rw [HNO.out]; exact HRw7.out), Lib.hid (by rw [HNB.out]; unfold putBad; rw [if_pos HZ.out]; exact HUw7.out), HBw7⟩
          · have := HK.out; simp only [intOf]; omega
        · have hq3 : (r3 == 0) = false := by rw [beq_eq_false_iff_ne]; exact hr3
          have HZ := Lib.hid hr3
          clear hr3
          have hszw8 := HBw7.out.size
          go_wp2_with (at_builtin; go_loud (refine Kd.R_append kCf (w0 := w2) w2.heap.size rfl _ _ 35 60 _ 24 rfl Tryz.underlying35 infoCf rfl (by decide) (by decide) u11 bads (r3, p) (cfCells (r3, p)) (fun _ => True) (fun _ => False) rfl rfl (kCf_mk _ _ _ _) (fun _ h => h.elim) (fun _ _ => trivial) HUw7.out HBw7.out hszw8 (by omega) ?_))
          intro v8 w8 hRw8 hbw8 hgw8 _
          have HUw8 := Lib.hid hRw8
          have HBw8 := Lib.hid hbw8
          have HRw8 := Lib.hid (Kd.R_over' (v := u11) HRw7.out (Kd.R_typed HUw7.out) (fun q hq => by rw [mem_fl hq]; decide) hgw8)
          clear hRw8 hbw8 hgw8
          go_wp2
          go_roundw
          case rel => exact ⟨k + 1, HK.out, rfl, Lib.hid (by rw [HNO.out]; exact HRw8.out), Lib.hid (by rw [HNB.out]; unfold putBad; rw [if_neg HZ.out]; exact HUw8.out), HBw8⟩
          · have := HK.out; simp only [intOf]; omega
      | false =>
        by_cases hr3 : r3 = 0
        · have HZ := Lib.hid hr3
          go_wp2
          go_roundw
          case rel => exact ⟨k + 1, HK.out, rfl, Lib.hid (by rw [HNO.out]; exact HR6.out), Lib.hid (by rw [HNB.out]; unfold putBad; rw [if_pos HZ.out]; exact HU6.out), HB6⟩
          · have := HK.out; simp only [intOf]; omega
        · have hq3 : (r3 == 0) = false := by rw [beq_eq_false_iff_ne]; exact hr3
          have HZ := Lib.hid hr3
          clear hr3
          have hszw8 := HB6.out.size
          go_wp2_with (at_builtin; go_loud (refine Kd.R_append kCf (w0 := w2) w2.heap.size rfl _ _ 35 60 _ 24 rfl Tryz.underlying35 infoCf rfl (by decide) (by decide) u11 bads (r3, p) (cfCells (r3, p)) (fun _ => True) (fun _ => False) rfl rfl (kCf_mk _ _ _ _) (fun _ h => h.elim) (fun _ _ => trivial) HU6.out HB6.out hszw8 (by omega) ?_))
          intro v8 w8 hRw8 hbw8 hgw8 _
          have HUw8 := Lib.hid hRw8
          have HBw8 := Lib.hid hbw8
          have HRw8 := Lib.hid (Kd.R_over' (v := u11) HR6.out (Kd.R_typed HU6.out) (fun q hq => by rw [mem_fl hq]; decide) hgw8)
          clear hRw8 hbw8 hgw8
          go_wp2
          go_roundw
          case rel => exact ⟨k + 1, HK.out, rfl, Lib.hid (by rw [HNO.out]; exact HRw8.out), Lib.hid (by rw [HNB.out]; unfold putBad; rw [if_neg HZ.out]; exact HUw8.out), HBw8⟩
          · have := HK.out; simp only [intOf]; omega

end Go.Proofs.YtogfkfkejaiecaaGreatDoor.Jf
