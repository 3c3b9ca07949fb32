/- Contracts of the references ref05.Same, ref07.kind. Contracts of the references: Join, clashes, Side. Contracts of the reference's marker: which, trimmed. -/
import Derived.Test.YtogfkfkejaiecaaGreatDoorTf
import Derived.BigQuiet
import Derived.Test.YtogfkfkejaiecaaGreatDoorTj
import Derived.Test.YtogfkfkejaiecaaGreatDoorTh
import Derived.Test.YtogfkfkejaiecaaGreatDoorTg
import Derived.Test.YtogfkfkejaiecaaGreatDoorTa

namespace Go.Proofs.YtogfkfkejaiecaaGreatDoor.Eo
open Go.RowKit Go.Shelf Pl Ut Ln Da Db Dc Dd Dk Go.Proofs.YtogfkfkejaiecaaGreatDoorW.PrintWords
set_option linter.unusedVariables false
set_option linter.unusedSimpArgs false
attribute [local go_sem] B_append B_extract B_toList B_size take_end

set_option maxRecDepth 100000 in
set_option maxHeartbeats 8000000 in
theorem rsame_any (x y : List Nat) (A A' : Option Addr) (c c' : Nat) (w : World) (hx : Lies w w.heap.size A x) (hy : Lies w w.heap.size A' y) (lx : x.length ≤ 1000000) (ly : y.length ≤ 1000000) :
    Calls Tryz.prog 119 #[.slice A x.length c, .slice A' y.length c'] w fun e w' => e = .returned (.bool (decide (x = y))) ∧ Below w.heap.size w w' := by
  have HX := Lib.hid hx
  have HY := Lib.hid hy
  clear hx hy
  go_enter Tryz.func119, Tryz.ntmps119
  by_cases hl : x.length = y.length
  · obtain ⟨n, hn⟩ : ∃ n, n = x.length := ⟨_, rfl⟩
    have HNX := Lib.hid hn
    have HNY := Lib.hid (hn.trans hl)
    rw [← hl, ← hn]
    clear hl hn
    go_wp2
    go_loopw [5] (fun i wr => ∃ k : Nat, k ≤ n ∧ i = .int .i64 (k : Int) ∧ Hid (x.take k = y.take k) ∧ Hid (Below w.heap.size w wr)) (fun i _ => n - (intOf i).toNat)
    case atStart => exact ⟨0, by omega, rfl, Lib.hid rfl, Lib.hid (Below.refl _ _)⟩
    case round =>
      obtain ⟨k, hk, rfl, HE, HB⟩ := hrel
      have hn1 := HNX.out
      rcases Nat.eq_or_lt_of_le hk with hk0 | hk0
      · have hlt : ¬ (k : Int) < (n : Int) := by omega
        have HF := Lib.hid (show decide (x = y) = true from by
          rw [decide_eq_true_eq]
          have h1 := HE.out
          have h2 := HNX.out
          have h3 := HNY.out
          rwa [List.take_of_length_le (by omega), List.take_of_length_le (by omega)] at h1)
        clear hn1
        go_wp2
        go_ret
        exact ⟨by rw [HF.out]; rfl, HB.out⟩
      · have hlt : (k : Int) < (n : Int) := by omega
        have hky : k < y.length := by have := HNY.out; omega
        have hkx : k < x.length := by omega
        have gx := List.getElem?_eq_getElem hkx
        have gy := List.getElem?_eq_getElem hky
        obtain ⟨ad, rfl, _, e0⟩ := (HX.out.below HB.out) k _ gx
        obtain ⟨ad', rfl, _, e1⟩ := (HY.out.below HB.out) k _ gy
        have cadd : IntKind.i64.wrap ((k : Int) + 1) = ((k + 1 : Nat) : Int) := by rw [IntWalk.i64_in _ (by omega)]; omega
        have HG := Lib.hid (And.intro gx gy)
        have HK := Lib.hid hk0
        generalize x[k] = xk at *
        generalize y[k] = yk at *
        clear gx gy hn1 hkx hky
        by_cases hq : xk = yk
        · subst hq
          go_wp2
          go_quiet (fail)
          go_wp2
          go_roundw
          case rel =>
            refine ⟨k + 1, HK.out, rfl, Lib.hid ?_, ?_⟩
            · rw [List.take_add_one, List.take_add_one, HE.out, HG.out.1, HG.out.2]
            · exact Lib.hid (pw_below_drewN HB.out _)
          · have := HK.out; simp only [intOf]; omega
        · have hq1 : ¬ (xk : Int) = (yk : Int) := by omega
          have hq2 : ((xk : Int) == (yk : Int)) = false := by rw [beq_eq_false_iff_ne]; omega
          have HF := Lib.hid (show decide (x = y) = false from by
            rw [decide_eq_false_iff_not]
            rintro rfl
            have := HG.out.1.symm.trans HG.out.2
            exact hq (by injection this))
          go_wp2
          go_quiet (fail)
          go_wp2
          go_ret
          exact ⟨by rw [HF.out]; rfl, (pw_below_drewN HB.out _)⟩
  · have hl2 : ((x.length : Int) == (y.length : Int)) = false := by rw [beq_eq_false_iff_ne]; omega
    have HF := Lib.hid (show decide (x = y) = false from by rw [decide_eq_false_iff_not]; rintro rfl; exact hl rfl)
    have hl3 : ¬ (x.length : Int) = (y.length : Int) := by omega
    go_wp2
    go_ret
    exact ⟨by rw [HF.out]; rfl, Below.refl _ _⟩

set_option maxRecDepth 100000 in
set_option maxHeartbeats 8000000 in
theorem rkind_any (x y z : List Nat) (A1 A2 A3 : Option Addr) (c1 c2 c3 : Nat) (w : World) (hx : Lies w w.heap.size A1 x) (hy : Lies w w.heap.size A2 y) (hz : Lies w w.heap.size A3 z)
    (lx : x.length ≤ 1000000) (ly : y.length ≤ 1000000) (lz : z.length ≤ 1000000) :
    Calls Tryz.prog 97 #[.slice A1 x.length c1, .slice A2 y.length c2, .slice A3 z.length c3] w fun e w' => e = .returned (.int .i64 (kindL x y z : Nat)) ∧ Below w.heap.size w w' := by
  obtain ⟨b1, hb1⟩ : ∃ b, b = decide (x = y) := ⟨_, rfl⟩
  obtain ⟨b2, hb2⟩ : ∃ b, b = decide (x = z) := ⟨_, rfl⟩
  obtain ⟨b3, hb3⟩ : ∃ b, b = decide (y = z) := ⟨_, rfl⟩
  have up : ∀ {W : World} {A : Option Addr} {l : List Nat}, Lies w w.heap.size A l → Below w.heap.size w W → Lies W W.heap.size A l := fun h hb k x hx => by
    obtain ⟨ad, h1, h2, h3⟩ := (h.below hb) k x hx
    exact ⟨ad, h1, Nat.lt_of_lt_of_le h2 hb.size, h3⟩
  have K1 : Hid (∀ W, Below w.heap.size w W → Calls Tryz.prog 119 #[.slice A1 x.length c1, .slice A2 y.length c2] W fun e w' => e = .returned (.bool b1) ∧ Below w.heap.size w w') := Lib.hid fun W hb => by
    rw [hb1]; exact (rsame_any x y A1 A2 c1 c2 W (up hx hb) (up hy hb) lx ly).mono fun e w' ⟨he, h⟩ => ⟨he, hb.trans (h.mono hb.size)⟩
  have K2 : Hid (∀ W, Below w.heap.size w W → Calls Tryz.prog 119 #[.slice A1 x.length c1, .slice A3 z.length c3] W fun e w' => e = .returned (.bool b2) ∧ Below w.heap.size w w') := Lib.hid fun W hb => by
    rw [hb2]; exact (rsame_any x z A1 A3 c1 c3 W (up hx hb) (up hz hb) lx lz).mono fun e w' ⟨he, h⟩ => ⟨he, hb.trans (h.mono hb.size)⟩
  have K3 : Hid (∀ W, Below w.heap.size w W → Calls Tryz.prog 119 #[.slice A2 y.length c2, .slice A3 z.length c3] W fun e w' => e = .returned (.bool b3) ∧ Below w.heap.size w w') := Lib.hid fun W hb => by
    rw [hb3]; exact (rsame_any y z A2 A3 c2 c3 W (up hy hb) (up hz hb) ly lz).mono fun e w' ⟨he, h⟩ => ⟨he, hb.trans (h.mono hb.size)⟩
  have HK : Hid (kindL x y z = if b1 then (if b2 then 0 else 2) else if b2 then 1 else if b3 then 3 else 4) := Lib.hid (by unfold kindL; rw [hb1, hb2, hb3]; simp only [decide_eq_true_eq])
  clear hb1 hb2 hb3 hx hy hz up
  rw [HK.out]
  go_enter Tryz.func97, Tryz.ntmps97
  go_wp2_with fail
  refine (K1.out _ (Below.refl _ _)).mono ?_
  rintro e w1 ⟨rfl, h1⟩
  have B1 := Lib.hid h1
  clear h1
  go_wp2_with fail
  refine (K2.out _ B1.out).mono ?_
  rintro e w2 ⟨rfl, h2⟩
  have B2 := Lib.hid h2
  clear h2
  cases b1 <;> cases b2
  · go_wp2_with fail
    refine (K3.out _ B2.out).mono ?_
    rintro e w3 ⟨rfl, h3⟩
    have B3 := Lib.hid h3
    clear h3
    cases b3
    · go_wp2
      go_ret
      exact ⟨rfl, B3.out⟩
    · go_wp2
      go_ret
      exact ⟨rfl, B3.out⟩
  · go_wp2
    go_ret
    exact ⟨rfl, B2.out⟩
  · go_wp2
    go_ret
    exact ⟨rfl, B2.out⟩
  · go_wp2
    go_ret
    exact ⟨rfl, B2.out⟩

end Go.Proofs.YtogfkfkejaiecaaGreatDoor.Eo

namespace Go.Proofs.YtogfkfkejaiecaaGreatDoor.Ea
open Go.RowKit Go.Shelf Pl Ut Ln Da Db Dc Dd Dk Dm Dn Dp Dq Go.Proofs.YtogfkfkejaiecaaGreatDoorW.PrintWords
set_option linter.unusedVariables false
set_option linter.unusedSimpArgs false
attribute [local go_sem] B_append B_extract B_toList B_size take_end

set_option maxRecDepth 100000 in
set_option maxHeartbeats 8000000 in
theorem rjoin_any (xs : List Str) (A : Option Addr) (c : Nat) (w : World) (h : LiesS w w.heap.size A xs) (hl : xs.length ≤ 1000000) (ht : (joinL xs).length ≤ 1000000000000) :
    Calls Tryz.prog 56 #[.slice A xs.length c] w fun e w' => e = .returned (.string (B (joinL xs))) ∧ w' = w := by
  have HC := Lib.hid h
  have HT := Lib.hid ht
  clear h ht
  go_enter Tryz.func56, Tryz.ntmps56
  go_wp2
  go_loopw [3, 4] (fun t i wr => ∃ k : Nat, k ≤ xs.length ∧ t = .string (B (joinL (xs.take k))) ∧ i = .int .i64 (k : Int) ∧ wr = w) (fun _ i _ => xs.length - (intOf i).toNat)
  case atStart => exact ⟨0, by omega, rfl, rfl, rfl⟩
  case round =>
    obtain ⟨k, hk, rfl, rfl, rfl⟩ := hrel
    rcases Nat.eq_or_lt_of_le hk with hk0 | hk0
    · have hlt : ¬ (k : Int) < (xs.length : Int) := by omega
      have HS := Lib.hid (show joinL (xs.take k) = joinL xs from by rw [hk0, List.take_length])
      go_wp2
      go_ret
      exact ⟨by rw [← HS.out]; rfl, rfl⟩
    · have hlt : (k : Int) < (xs.length : Int) := by omega
      obtain ⟨xk, gx⟩ : ∃ x, xs[k]? = some x := ⟨_, List.getElem?_eq_getElem hk0⟩
      have HNX := Lib.hid (show joinL (xs.take (k + 1)) = joinL (xs.take k) ++ xk from by unfold joinL; rw [List.take_add_one, gx, List.flatten_append]; simp)
      have hle : ¬ 9223372036854775807 < (joinL (xs.take k)).length + xk.length := by
        have h1 : (joinL (xs.take (k + 1))).length ≤ (joinL xs).length := by
          have := joinL_cut xs 0 (k + 1)
          simpa [cutL] using this
        rw [HNX.out, List.length_append] at h1
        have := HT.out
        omega
      have cadd : IntKind.i64.wrap ((k : Int) + 1) = ((k + 1 : Nat) : Int) := by rw [IntWalk.i64_in _ (by omega)]; omega
      have hat : ∃ ad, A = some ad ∧ wr.cell? (ad.add k) = some (.string (B xk)) := by
        rcases HC.out with h | ⟨b, o, h1, h2, h3⟩
        · rw [h] at hk0; simp at hk0
        · exact ⟨_, h1, by rw [add_at]; exact h3 k _ gx⟩
      obtain ⟨ad, rfl, e0⟩ := hat
      have HK := Lib.hid hk0
      clear gx
      go_wp2
      go_roundw
      case rel => exact ⟨k + 1, HK.out, by rw [HNX.out], rfl, trivial⟩
      · have := HK.out; simp only [intOf]; omega

set_option maxRecDepth 100000 in
set_option maxHeartbeats 8000000 in
theorem clashes_any (ps : List Part) (A : Option Addr) (c : Nat) (w : World) (hC : Kd.C kPart w A ps.length ps) (hl : ps.length ≤ 1000000000) :
    Calls Tryz.prog 25 #[.slice A ps.length c] w fun e w' => e = .returned (.bool (ps.any (·.clash))) ∧ w' = w := by
  have HC := Lib.hid hC
  clear hC
  go_enter Tryz.func25, Tryz.ntmps25
  go_wp2
  go_loopw [3] (fun i wr => ∃ k : Nat, k ≤ ps.length ∧ i = .int .i64 (k : Int) ∧ Hid ((ps.take k).any (·.clash) = false) ∧ wr = w) (fun i _ => ps.length - (intOf i).toNat)
  case atStart => exact ⟨0, by omega, rfl, Lib.hid rfl, rfl⟩
  case round =>
    obtain ⟨k, hk, rfl, HN, rfl⟩ := hrel
    rcases Nat.eq_or_lt_of_le hk with hk0 | hk0
    · have hlt : ¬ (k : Int) < (ps.length : Int) := by omega
      have HF := Lib.hid (show ps.any (·.clash) = false from by have := HN.out; rwa [hk0, List.take_length] at this)
      go_wp2
      go_ret
      exact ⟨by rw [HF.out]; rfl, rfl⟩
    · have hlt : (k : Int) < (ps.length : Int) := by omega
      obtain ⟨x, hx⟩ : ∃ x, ps[k]? = some x := ⟨_, List.getElem?_eq_getElem hk0⟩
      obtain ⟨ad, rfl, e0, e1, e2, e3⟩ := at_part HC.out k hk0 x hx
      have HX := Lib.hid hx
      have HK := Lib.hid hk0
      have cadd : IntKind.i64.wrap ((k : Int) + 1) = ((k + 1 : Nat) : Int) := by rw [IntWalk.i64_in _ (by omega)]; omega
      cases hc : x.clash with
      | true =>
        rw [hc] at e0
        have HF := Lib.hid (show ps.any (·.clash) = true from List.any_eq_true.2 ⟨x, List.mem_of_getElem? HX.out, hc⟩)
        go_wp2
        go_ret
        exact ⟨by rw [HF.out]; rfl, rfl⟩
      | false =>
        rw [hc] at e0
        go_wp2
        go_roundw
        case rel => exact ⟨k + 1, HK.out, rfl, Lib.hid (by rw [List.take_add_one, HX.out, List.any_append, HN.out]; simp [hc]), trivial⟩
        · have := HK.out; simp only [intOf]; omega

end Go.Proofs.YtogfkfkejaiecaaGreatDoor.Ea

namespace Go.Proofs.YtogfkfkejaiecaaGreatDoor.Rd
open Go.RowKit Go.Shelf Pl Ut Ln Bl Mm Ra Rb Go.Proofs.YtogfkfkejaiecaaGreatDoorW.PrintWords
set_option linter.unusedVariables false
set_option linter.unusedSimpArgs false
attribute [local go_sem] B_append B_extract B_toList B_size take_end addr_off

/-- What stands behind the marks. -/
def tailL (cut : Bool) (word : Str) : Str := (if cut then [33] else []) ++ (if word = [] then [] else 32 :: word) ++ [10]
/-- The line is one of the two. -/
def hitL (line : Str) (c : UInt8) (n : Nat) (cut : Bool) (word : Str) : Prop := line = lineL c n cut word ∨ line = lineL c n cut []
/-- The result of the reference, as numbers. -/
def whichR : Option (Nat × Bool) → Int × Bool
  | none => (0, false)
  | some (q, c) => (q + 1, c)

end Go.Proofs.YtogfkfkejaiecaaGreatDoor.Rd
