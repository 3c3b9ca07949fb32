/- Contracts of the references ref05.Same, ref07.kind. Contracts of the references: Join, clashes, Side. Contracts of the reference's marker: which, trimmed. -/
import Derived.Test.YtogfkfkejaiecaaGreatDoorQe
import Derived.BigQuiet
import Derived.Test.YtogfkfkejaiecaaGreatDoorQi
import Derived.Test.YtogfkfkejaiecaaGreatDoorQg
import Derived.Test.YtogfkfkejaiecaaGreatDoorQf
import Derived.Test.YtogfkfkejaiecaaGreatDoorQa

namespace Go.Proofs.YtogfkfkejaiecaaGreatDoor.Eo
open Go.RowKit Go.Shelf Go.Proofs.YtogfkfkejaiecaaGreatDoor.Pl Go.Proofs.YtogfkfkejaiecaaGreatDoor.Ut Go.Proofs.YtogfkfkejaiecaaGreatDoor.Ln Go.Proofs.YtogfkfkejaiecaaGreatDoor.Da Go.Proofs.YtogfkfkejaiecaaGreatDoor.Db Go.Proofs.YtogfkfkejaiecaaGreatDoor.Dc Go.Proofs.YtogfkfkejaiecaaGreatDoor.Dd Go.Proofs.YtogfkfkejaiecaaGreatDoor.Dk Go.Proofs.YtogfkfkejaiecaaGreatDoorW.PrintWords
set_option linter.unusedVariables false
set_option linter.unusedSimpArgs false
attribute [local go_sem] B_append B_extract B_toList B_size take_end

set_option maxRecDepth 100000 in
set_option maxHeartbeats 8000000 in
theorem rsame_any (x y : List Nat) (A A' : Option Addr) (c c' : Nat) (w : World) (hx : Lies w w.heap.size A x) (hy : Lies w w.heap.size A' y) (lx : x.length ≤ 1000000) (ly : y.length ≤ 1000000) :
    Calls Tryz.prog 119 #[.slice A x.length c, .slice A' y.length c'] w fun e w' => e = .returned (.bool (decide (x = y))) ∧ Below w.heap.size w w' := by
  have HX := Lib.hid hx
  have HY := Lib.hid hy
  clear hx hy
  go_enter Tryz.func119, Tryz.ntmps119
  by_cases hl : x.length = y.length
  · obtain ⟨n, hn⟩ : ∃ n, n = x.length := ⟨_, rfl⟩
    have HNX := Lib.hid hn
    have HNY := Lib.hid (hn.trans hl)
    rw [← hl, ← hn]
    clear hl hn
    go_wp2
    go_loopw [5] (fun i wr => ∃ k : Nat, k ≤ n ∧ i = .int .i64 (k : Int) ∧ Hid (x.take k = y.take k) ∧ Hid (Below w.heap.size w wr)) (fun i _ => n - (intOf i).toNat)
    case atStart => exact ⟨0, by omega, rfl, Lib.hid rfl, Lib.hid (Below.refl _ _)⟩
    case round =>
      obtain ⟨k, hk, rfl, HE, HB⟩ := hrel
      have hn1 := HNX.out
      rcases Nat.eq_or_lt_of_le hk with hk0 | hk0
      · have hlt : ¬ (k : Int) < (n : Int) := by omega
        have HF := Lib.hid (show decide (x = y) = true from by
          rw [decide_eq_true_eq]
          have h1 := HE.out
          have h2 := HNX.out
          have h3 := HNY.out
          rwa [List.take_of_length_le (by omega), List.take_of_length_le (by omega)] at h1)
        clear hn1
        go_wp2
        go_ret
        exact ⟨by rw [HF.out]; rfl, HB.out⟩
      · have hlt : (k : Int) < (n : Int) := by omega
        have hky : k < y.length := by have := HNY.out; omega
        have hkx : k < x.length := by omega
        have gx := List.getElem?_eq_getElem hkx
        have gy := List.getElem?_eq_getElem hky
        obtain ⟨ad, rfl, _, e0⟩ := (HX.out.below HB.out) k _ gx
        obtain ⟨ad', rfl, _, e1⟩ := (HY.out.below HB.out) k _ gy
        have cadd : IntKind.i64.wrap ((k : Int) + 1) = ((k + 1 : Nat) : Int) := by rw [IntWalk.i64_in _ (by omega)]; omega
        have HG := Lib.hid (And.intro gx gy)
        have HK := Lib.hid hk0
        generalize x[k] = xk at *
        generalize y[k] = yk at *
        clear gx gy hn1 hkx hky
        by_cases hq : xk = yk
        · subst hq
          go_wp2
          go_quiet (fail)
          go_wp2
          go_roundw
          case rel =>
            refine ⟨k + 1, HK.out, rfl, Lib.hid ?_, ?_⟩
            · rw [List.take_add_one, List.take_add_one, HE.out, HG.out.1, HG.out.2]
            · exact Lib.hid (pw_below_drewN HB.out _)
          · have := HK.out; simp only [intOf]; omega
        · have hq1 : ¬ (xk : Int) = (yk : Int) := by omega
          have hq2 : ((xk : Int) == (yk : Int)) = false := by rw [beq_eq_false_iff_ne]; omega
          have HF := Lib.hid (show decide (x = y) = false from by
            rw [decide_eq_false_iff_not]
            rintro rfl
            have := HG.out.1.symm.trans HG.out.2
            exact hq (by injection this))
          go_wp2
          go_quiet (fail)
          go_wp2
          go_ret
          exact ⟨by rw [HF.out]; rfl, (pw_below_drewN HB.out _)⟩
  · have hl2 : ((x.length : Int) == (y.length : Int)) = false := by rw [beq_eq_false_iff_ne]; omega
    have HF := Lib.hid (show decide (x = y) = false from by rw [decide_eq_false_iff_not]; rintro rfl; exact hl rfl)
    have hl3 : ¬ (x.length : Int) = (y.length : Int) := by omega
    go_wp2
    go_ret
    exact ⟨by rw [HF.out]; rfl, Below.refl _ _⟩

set_option maxRecDepth 100000 in
set_option maxHeartbeats 8000000 in
theorem rkind_any (x y z : List Nat) (A1 A2 A3 : Option Addr) (c1 c2 c3 : Nat) (w : World) (hx : Lies w w.heap.size A1 x) (hy : Lies w w.heap.size A2 y) (hz : Lies w w.heap.size A3 z)
    (lx : x.length ≤ 1000000) (ly : y.length ≤ 1000000) (lz : z.length ≤ 1000000) :
    Calls Tryz.prog 97 #[.slice A1 x.length c1, .slice A2 y.length c2, .slice A3 z.length c3] w fun e w' => e = .returned (.int .i64 (kindL x y z : Nat)) ∧ Below w.heap.size w w' := by
  obtain ⟨b1, hb1⟩ : ∃ b, b = decide (x = y) := ⟨_, rfl⟩
  obtain ⟨b2, hb2⟩ : ∃ b, b = decide (x = z) := ⟨_, rfl⟩
  obtain ⟨b3, hb3⟩ : ∃ b, b = decide (y = z) := ⟨_, rfl⟩
  have up : ∀ {W : World} {A : Option Addr} {l : List Nat}, Lies w w.heap.size A l → Below w.heap.size w W → Lies W W.heap.size A l := fun h hb k x hx => by
    obtain ⟨ad, h1, h2, h3⟩ := (h.below hb) k x hx
    exact ⟨ad, h1, Nat.lt_of_lt_of_le h2 hb.size, h3⟩
  have K1 : Hid (∀ W, Below w.heap.size w W → Calls Tryz.prog 119 #[.slice A1 x.length c1, .slice A2 y.length c2] W fun e w' => e = .returned (.bool b1) ∧ Below w.heap.size w w') := Lib.hid fun W hb => by
    rw [hb1]; exact (rsame_any x y A1 A2 c1 c2 W (up hx hb) (up hy hb) lx ly).mono fun e w' ⟨he, h⟩ => ⟨he, hb.trans (h.mono hb.size)⟩
  have K2 : Hid (∀ W, Below w.heap.size w W → Calls Tryz.prog 119 #[.slice A1 x.length c1, .slice A3 z.length c3] W fun e w' => e = .returned (.bool b2) ∧ Below w.heap.size w w') := Lib.hid fun W hb => by
    rw [hb2]; exact (rsame_any x z A1 A3 c1 c3 W (up hx hb) (up hz hb) lx lz).mono fun e w' ⟨he, h⟩ => ⟨he, hb.trans (h.mono hb.size)⟩
  have K3 : Hid (∀ W, Below w.heap.size w W → Calls Tryz.prog 119 #[.slice A2 y.length c2, .slice A3 z.length c3] W fun e w' => e = .returned (.bool b3) ∧ Below w.heap.size w w') := Lib.hid fun W hb => by
    rw [hb3]; exact (rsame_any y z A2 A3 c2 c3 W (up hy hb) (up hz hb) ly lz).mono fun e w' ⟨he, h⟩ => ⟨he, hb.trans (h.mono hb.size)⟩
  have HK : Hid (kindL x y z = if b1 then (if b2 then 0 else 2) else if b2 then 1 else if b3 then 3 else 4) := Lib.hid (by unfold kindL; rw [hb1, hb2, hb3]; simp only [decide_eq_true_eq])
  clear hb1 hb2 hb3 hx hy hz up
  rw [HK.out]
  go_enter Tryz.func97, Tryz.ntmps97
  go_wp2_with fail
  refine (K1.out _ (Below.refl _ _)).mono ?_
  rintro e w1 ⟨rfl, h1⟩
  have B1 := Lib.hid h1
  clear h1
  go_wp2_with fail
  refine (K2.out _ B1.out).mono ?_
  rintro e w2 ⟨rfl, h2⟩
  have B2 := Lib.hid h2
  clear h2
  cases b1 <;> cases b2
  · go_wp2_with fail
    refine (K3.out _ B2.out).mono ?_
    rintro e w3 ⟨rfl, h3⟩
    have B3 := Lib.hid h3
    clear h3
    cases b3
    · go_wp2
      go_ret
      exact ⟨rfl, B3.out⟩
    · go_wp2
      go_ret
      exact ⟨rfl, B3.out⟩
  · go_wp2
    go_ret
    exact ⟨rfl, B2.out⟩
  · go_wp2
    go_ret
    exact ⟨rfl, B2.out⟩
  · go_wp2
    go_ret
    exact ⟨rfl, B2.out⟩

end Go.Proofs.YtogfkfkejaiecaaGreatDoor.Eo

namespace Go.Proofs.YtogfkfkejaiecaaGreatDoor.Ea
open Go.RowKit Go.Shelf Go.Proofs.YtogfkfkejaiecaaGreatDoor.Pl Go.Proofs.YtogfkfkejaiecaaGreatDoor.Ut Go.Proofs.YtogfkfkejaiecaaGreatDoor.Ln Go.Proofs.YtogfkfkejaiecaaGreatDoor.Da Go.Proofs.YtogfkfkejaiecaaGreatDoor.Db Go.Proofs.YtogfkfkejaiecaaGreatDoor.Dc Go.Proofs.YtogfkfkejaiecaaGreatDoor.Dd Go.Proofs.YtogfkfkejaiecaaGreatDoor.Dk Go.Proofs.YtogfkfkejaiecaaGreatDoor.Dm Go.Proofs.YtogfkfkejaiecaaGreatDoor.Dn Go.Proofs.YtogfkfkejaiecaaGreatDoor.Dp Go.Proofs.YtogfkfkejaiecaaGreatDoor.Dq Go.Proofs.YtogfkfkejaiecaaGreatDoorW.PrintWords
set_option linter.unusedVariables false
set_option linter.unusedSimpArgs false
attribute [local go_sem] B_append B_extract B_toList B_size take_end

set_option maxRecDepth 100000 in
set_option maxHeartbeats 8000000 in
theorem rjoin_any (xs : List Str) (A : Option Addr) (c : Nat) (w : World) (h : LiesS w w.heap.size A xs) (hl : xs.length ≤ 1000000) (ht : (joinL xs).length ≤ 1000000000000) :
    Calls Tryz.prog 56 #[.slice A xs.length c] w fun e w' => e = .returned (.string (B (joinL xs))) ∧ w' = w := by
  have HC := Lib.hid h
  have HT := Lib.hid ht
  clear h ht
  go_enter Tryz.func56, Tryz.ntmps56
  go_wp2
  go_loopw [3, 4] (fun t i wr => ∃ k : Nat, k ≤ xs.length ∧ t = .string (B (joinL (xs.take k))) ∧ i = .int .i64 (k : Int) ∧ wr = w) (fun _ i _ => xs.length - (intOf i).toNat)
  case atStart => exact ⟨0, by omega, rfl, rfl, rfl⟩
  case round =>
    obtain ⟨k, hk, rfl, rfl, rfl⟩ := hrel
    rcases Nat.eq_or_lt_of_le hk with hk0 | hk0
    · have hlt : ¬ (k : Int) < (xs.length : Int) := by omega
      have HS := Lib.hid (show joinL (xs.take k) = joinL xs from by rw [hk0, List.take_length])
      go_wp2
      go_ret
      exact ⟨by rw [← HS.out]; rfl, rfl⟩
    · have hlt : (k : Int) < (xs.length : Int) := by omega
      obtain ⟨xk, gx⟩ : ∃ x, xs[k]? = some x := ⟨_, List.getElem?_eq_getElem hk0⟩
      have HNX := Lib.hid (show joinL (xs.take (k + 1)) = joinL (xs.take k) ++ xk from by unfold joinL; rw [List.take_add_one, gx, List.flatten_append]; simp)
      have hle : ¬ 9223372036854775807 < (joinL (xs.take k)).length + xk.length := by
        have h1 : (joinL (xs.take (k + 1))).length ≤ (joinL xs).length := by
          have := joinL_cut xs 0 (k + 1)
          simpa [cutL] using this
        rw [HNX.out, List.length_append] at h1
        have := HT.out
        omega
      have cadd : IntKind.i64.wrap ((k : Int) + 1) = ((k + 1 : Nat) : Int) := by rw [IntWalk.i64_in _ (by omega)]; omega
      have hat : ∃ ad, A = some ad ∧ wr.cell? (ad.add k) = some (.string (B xk)) := by
        rcases HC.out with h | ⟨b, o, h1, h2, h3⟩
        · rw [h] at hk0; simp at hk0
        · exact ⟨_, h1, by rw [add_at]; exact h3 k _ gx⟩
      obtain ⟨ad, rfl, e0⟩ := hat
      have HK := Lib.hid hk0
      clear gx
      go_wp2
      go_roundw
      case rel => exact ⟨k + 1, HK.out, by rw [HNX.out], rfl, trivial⟩
      · have := HK.out; simp only [intOf]; omega

set_option maxRecDepth 100000 in
set_option maxHeartbeats 8000000 in
theorem clashes_any (ps : List Part) (A : Option Addr) (c : Nat) (w : World) (hC : Kd.C kPart w A ps.length ps) (hl : ps.length ≤ 1000000000) :
    Calls Tryz.prog 25 #[.slice A ps.length c] w fun e w' => e = .returned (.bool (ps.any (·.clash))) ∧ w' = w := by
  have HC := Lib.hid hC
  clear hC
  go_enter Tryz.func25, Tryz.ntmps25
  go_wp2
  go_loopw [3] (fun i wr => ∃ k : Nat, k ≤ ps.length ∧ i = .int .i64 (k : Int) ∧ Hid ((ps.take k).any (·.clash) = false) ∧ wr = w) (fun i _ => ps.length - (intOf i).toNat)
  case atStart => exact ⟨0, by omega, rfl, Lib.hid rfl, rfl⟩
  case round =>
    obtain ⟨k, hk, rfl, HN, rfl⟩ := hrel
    rcases Nat.eq_or_lt_of_le hk with hk0 | hk0
    · have hlt : ¬ (k : Int) < (ps.length : Int) := by omega
      have HF := Lib.hid (show ps.any (·.clash) = false from by have := HN.out; rwa [hk0, List.take_length] at this)
      go_wp2
      go_ret
      exact ⟨by rw [HF.out]; rfl, rfl⟩
    · have hlt : (k : Int) < (ps.length : Int) := by omega
      obtain ⟨x, hx⟩ : ∃ x, ps[k]? = some x := ⟨_, List.getElem?_eq_getElem hk0⟩
      obtain ⟨ad, rfl, e0, e1, e2, e3⟩ := at_part HC.out k hk0 x hx
      have HX := Lib.hid hx
      have HK := Lib.hid hk0
      have cadd : IntKind.i64.wrap ((k : Int) + 1) = ((k + 1 : Nat) : Int) := by rw [IntWalk.i64_in _ (by omega)]; omega
      cases hc : x.clash with
      | true =>
        rw [hc] at e0
        have HF := Lib.hid (show ps.any (·.clash) = true from List.any_eq_true.2 ⟨x, List.mem_of_getElem? HX.out, hc⟩)
        go_wp2
        go_ret
        exact ⟨by rw [HF.out]; rfl, rfl⟩
      | false =>
        rw [hc] at e0
        go_wp2
        go_roundw
        case rel => exact ⟨k + 1, HK.out, rfl, Lib.hid (by rw [List.take_add_one, HX.out, List.any_append, HN.out]; simp [hc]), trivial⟩
        · have := HK.out; simp only [intOf]; omega

set_option maxRecDepth 100000 in
set_option maxHeartbeats 8000000 in
theorem rside0 (ps : List Part) (A : Option Addr) (c : Nat) (w : World) (hC : Kd.C kPart w A ps.length ps) (hl : ps.length ≤ 1000000000) (ht : (sideL 0 ps).length ≤ 1000000000) :
    Calls Tryz.prog 21 #[.slice A ps.length c, .int .i64 0] w fun e w' => e = .returned (.string (B (sideL 0 ps))) ∧ w' = w := by
  have HC := Lib.hid hC
  have HT := Lib.hid ht
  clear hC ht
  go_enter Tryz.func21, Tryz.ntmps21
  go_wp2
  go_loopw [5, 6] (fun t i wr => ∃ k : Nat, k ≤ ps.length ∧ t = .string (B (sideL 0 (ps.take k))) ∧ i = .int .i64 (k : Int) ∧ wr = w) (fun _ i _ => ps.length - (intOf i).toNat)
  case atStart => exact ⟨0, by omega, rfl, rfl, rfl⟩
  case round =>
    obtain ⟨k, hk, rfl, rfl, rfl⟩ := hrel
    rcases Nat.eq_or_lt_of_le hk with hk0 | hk0
    · have hlt : ¬ (k : Int) < (ps.length : Int) := by omega
      have HS := Lib.hid (show sideL 0 (ps.take k) = sideL 0 ps from by rw [hk0, List.take_length])
      go_wp2
      go_ret
      exact ⟨by rw [← HS.out]; rfl, rfl⟩
    · have hlt : (k : Int) < (ps.length : Int) := by omega
      obtain ⟨x, hx⟩ : ∃ x, ps[k]? = some x := ⟨_, List.getElem?_eq_getElem hk0⟩
      obtain ⟨ad, rfl, e0, e1, e2, e3⟩ := at_part HC.out k hk0 x hx
      have HNX := Lib.hid (sideL_take 0 ps k x hx)
      have hle : ¬ 9223372036854775807 < (sideL 0 (ps.take k)).length + x.o.length := by
        have := sideL_le 0 ps (k + 1)
        rw [HNX.out, List.length_append] at this
        have h2 : pickL 0 x = x.o := rfl
        rw [h2] at this
        have := HT.out
        omega
      have cadd : IntKind.i64.wrap ((k : Int) + 1) = ((k + 1 : Nat) : Int) := by rw [IntWalk.i64_in _ (by omega)]; omega
      have HK := Lib.hid hk0
      go_wp2
      go_roundw
      case rel => exact ⟨k + 1, HK.out, by rw [HNX.out]; rfl, rfl, trivial⟩
      · have := HK.out; simp only [intOf]; omega

set_option maxRecDepth 100000 in
set_option maxHeartbeats 8000000 in
theorem rside1 (ps : List Part) (A : Option Addr) (c : Nat) (w : World) (hC : Kd.C kPart w A ps.length ps) (hl : ps.length ≤ 1000000000) (ht : (sideL 1 ps).length ≤ 1000000000) :
    Calls Tryz.prog 21 #[.slice A ps.length c, .int .i64 1] w fun e w' => e = .returned (.string (B (sideL 1 ps))) ∧ w' = w := by
  have HC := Lib.hid hC
  have HT := Lib.hid ht
  clear hC ht
  go_enter Tryz.func21, Tryz.ntmps21
  go_wp2
  go_loopw [5, 6] (fun t i wr => ∃ k : Nat, k ≤ ps.length ∧ t = .string (B (sideL 1 (ps.take k))) ∧ i = .int .i64 (k : Int) ∧ wr = w) (fun _ i _ => ps.length - (intOf i).toNat)
  case atStart => exact ⟨0, by omega, rfl, rfl, rfl⟩
  case round =>
    obtain ⟨k, hk, rfl, rfl, rfl⟩ := hrel
    rcases Nat.eq_or_lt_of_le hk with hk0 | hk0
    · have hlt : ¬ (k : Int) < (ps.length : Int) := by omega
      have HS := Lib.hid (show sideL 1 (ps.take k) = sideL 1 ps from by rw [hk0, List.take_length])
      go_wp2
      go_ret
      exact ⟨by rw [← HS.out]; rfl, rfl⟩
    · have hlt : (k : Int) < (ps.length : Int) := by omega
      obtain ⟨x, hx⟩ : ∃ x, ps[k]? = some x := ⟨_, List.getElem?_eq_getElem hk0⟩
      obtain ⟨ad, rfl, e0, e1, e2, e3⟩ := at_part HC.out k hk0 x hx
      have HNX := Lib.hid (sideL_take 1 ps k x hx)
      have hle : ¬ 9223372036854775807 < (sideL 1 (ps.take k)).length + x.a.length := by
        have := sideL_le 1 ps (k + 1)
        rw [HNX.out, List.length_append] at this
        have h2 : pickL 1 x = x.a := rfl
        rw [h2] at this
        have := HT.out
        omega
      have cadd : IntKind.i64.wrap ((k : Int) + 1) = ((k + 1 : Nat) : Int) := by rw [IntWalk.i64_in _ (by omega)]; omega
      have HK := Lib.hid hk0
      go_wp2
      go_roundw
      case rel => exact ⟨k + 1, HK.out, by rw [HNX.out]; rfl, rfl, trivial⟩
      · have := HK.out; simp only [intOf]; omega

set_option maxRecDepth 100000 in
set_option maxHeartbeats 8000000 in
theorem rside2 (ps : List Part) (A : Option Addr) (c : Nat) (w : World) (hC : Kd.C kPart w A ps.length ps) (hl : ps.length ≤ 1000000000) (ht : (sideL 2 ps).length ≤ 1000000000) :
    Calls Tryz.prog 21 #[.slice A ps.length c, .int .i64 2] w fun e w' => e = .returned (.string (B (sideL 2 ps))) ∧ w' = w := by
  have HC := Lib.hid hC
  have HT := Lib.hid ht
  clear hC ht
  go_enter Tryz.func21, Tryz.ntmps21
  go_wp2
  go_loopw [5, 6] (fun t i wr => ∃ k : Nat, k ≤ ps.length ∧ t = .string (B (sideL 2 (ps.take k))) ∧ i = .int .i64 (k : Int) ∧ wr = w) (fun _ i _ => ps.length - (intOf i).toNat)
  case atStart => exact ⟨0, by omega, rfl, rfl, rfl⟩
  case round =>
    obtain ⟨k, hk, rfl, rfl, rfl⟩ := hrel
    rcases Nat.eq_or_lt_of_le hk with hk0 | hk0
    · have hlt : ¬ (k : Int) < (ps.length : Int) := by omega
      have HS := Lib.hid (show sideL 2 (ps.take k) = sideL 2 ps from by rw [hk0, List.take_length])
      go_wp2
      go_ret
      exact ⟨by rw [← HS.out]; rfl, rfl⟩
    · have hlt : (k : Int) < (ps.length : Int) := by omega
      obtain ⟨x, hx⟩ : ∃ x, ps[k]? = some x := ⟨_, List.getElem?_eq_getElem hk0⟩
      obtain ⟨ad, rfl, e0, e1, e2, e3⟩ := at_part HC.out k hk0 x hx
      have HNX := Lib.hid (sideL_take 2 ps k x hx)
      have hle : ¬ 9223372036854775807 < (sideL 2 (ps.take k)).length + x.b.length := by
        have := sideL_le 2 ps (k + 1)
        rw [HNX.out, List.length_append] at this
        have h2 : pickL 2 x = x.b := rfl
        rw [h2] at this
        have := HT.out
        omega
      have cadd : IntKind.i64.wrap ((k : Int) + 1) = ((k + 1 : Nat) : Int) := by rw [IntWalk.i64_in _ (by omega)]; omega
      have HK := Lib.hid hk0
      go_wp2
      go_roundw
      case rel => exact ⟨k + 1, HK.out, by rw [HNX.out]; rfl, rfl, trivial⟩
      · have := HK.out; simp only [intOf]; omega

end Go.Proofs.YtogfkfkejaiecaaGreatDoor.Ea

namespace Go.Proofs.YtogfkfkejaiecaaGreatDoor.Rd
open Go.RowKit Go.Shelf Go.Proofs.YtogfkfkejaiecaaGreatDoor.Pl Go.Proofs.YtogfkfkejaiecaaGreatDoor.Ut Go.Proofs.YtogfkfkejaiecaaGreatDoor.Ln Go.Proofs.YtogfkfkejaiecaaGreatDoor.Bl Go.Proofs.YtogfkfkejaiecaaGreatDoor.Mm Go.Proofs.YtogfkfkejaiecaaGreatDoor.Ra Go.Proofs.YtogfkfkejaiecaaGreatDoor.Rb Go.Proofs.YtogfkfkejaiecaaGreatDoorW.PrintWords
set_option linter.unusedVariables false
set_option linter.unusedSimpArgs false
attribute [local go_sem] B_append B_extract B_toList B_size take_end addr_off

/-- What stands behind the marks. -/
def tailL (cut : Bool) (word : Str) : Str := (if cut then [33] else []) ++ (if word = [] then [] else 32 :: word) ++ [10]
theorem lineL_tail (c : UInt8) (n : Nat) (cut : Bool) (word : Str) : lineL c n cut word = List.replicate n c ++ tailL cut word := by
  unfold lineL tailL; simp [List.append_assoc]
theorem tail_false_head (word : Str) (t : Str) : tailL false word ≠ 33 :: t := by
  unfold tailL
  by_cases h : word = [] <;> simp [h]
theorem tail_true (word : Str) : tailL true word = 33 :: tailL false word := by
  unfold tailL; simp
theorem tail_false (word : Str) : tailL false word = if word = [] then [10] else 32 :: word ++ [10] := by
  unfold tailL
  by_cases h : word = [] <;> simp [h]
/-- The line is one of the two. -/
def hitL (line : Str) (c : UInt8) (n : Nat) (cut : Bool) (word : Str) : Prop := line = lineL c n cut word ∨ line = lineL c n cut []
theorem hit_iff (rest word : Str) : (rest = [10] ∨ (word ≠ [] ∧ rest = 32 :: word ++ [10])) ↔ (rest = tailL false word ∨ rest = tailL false []) := by
  rw [tail_false, tail_false, if_pos rfl]
  by_cases h : word = []
  · simp [h]
  · rw [if_neg h]
    constructor
    · rintro (h1 | ⟨_, h1⟩)
      · exact .inr h1
      · exact .inl h1
    · rintro (h1 | h1)
      · exact .inr ⟨h, h1⟩
      · exact .inl h1
theorem markOne_lines (line : Str) (n : Nat) (c : UInt8) (word : Str) : (hitL line c n false word → markOne line n c word = some false) ∧ (¬ hitL line c n false word → hitL line c n true word → markOne line n c word = some true) ∧ (¬ hitL line c n false word → ¬ hitL line c n true word → markOne line n c word = none) := by
  unfold hitL
  rw [lineL_tail, lineL_tail, lineL_tail, lineL_tail]
  by_cases hp : (List.replicate n c).isPrefixOf line = true
  · obtain ⟨r, rfl⟩ := List.isPrefixOf_iff_prefix.1 hp
    have hd : (List.replicate n c ++ r).drop n = r := by
      have := List.drop_left (l₁ := List.replicate n c) (l₂ := r)
      rwa [List.length_replicate] at this
    have e : ∀ x : Str, (List.replicate n c ++ r = List.replicate n c ++ x) ↔ r = x := fun x => ⟨fun h => List.append_cancel_left h, fun h => by rw [h]⟩
    rw [e, e, e, e]
    unfold markOne
    rw [if_pos hp]
    simp only [hd]
    by_cases hr : [33].isPrefixOf r = true
    · obtain ⟨t, rfl⟩ := List.isPrefixOf_iff_prefix.1 hr
      have hpp : [33].isPrefixOf (33 :: t) = true := by simp [List.isPrefixOf]
      simp only [List.singleton_append, List.drop_succ_cons, List.drop_zero, hpp, if_true]
      rw [tail_true, tail_true]
      have n1 : ∀ w : Str, ¬ (33 :: t = tailL false w) := fun w h => tail_false_head w t h.symm
      simp only [n1, or_false, false_or, List.cons.injEq, true_and, not_false_eq_true, true_implies, false_implies, hit_iff]
      refine ⟨fun h => ?_, fun h => ?_⟩
      · rw [if_pos h]
      · rw [if_neg h]
    · have hrb : [33].isPrefixOf r = false := Bool.eq_false_iff.2 hr
      simp only [hrb, Bool.false_eq_true, if_false]
      rw [tail_true, tail_true]
      have n1 : ∀ w : Str, ¬ (r = 33 :: w) := fun w h => hr (by rw [h]; simp [List.isPrefixOf])
      simp only [n1, or_false, false_or, not_false_eq_true, true_implies, false_implies, implies_true, hit_iff]
      refine ⟨fun h => ?_, trivial, fun h => ?_⟩
      · rw [if_pos h]
      · rw [if_neg h]
  · have n1 : ∀ x : Str, ¬ (line = List.replicate n c ++ x) := fun x h => hp (List.isPrefixOf_iff_prefix.2 ⟨x, h.symm⟩)
    simp only [n1, or_false, false_implies, not_false_eq_true, true_implies, true_and]
    unfold markOne
    rw [if_neg hp]
theorem markOne_short (line : Str) (n : Nat) (c : UInt8) (word : Str) (h : line.length ≤ n) : markOne line n c word = none := by
  have hl : ∀ cut w, line ≠ lineL c n cut w := fun cut w e => by
    have := congrArg List.length e
    rw [lineL_tail, List.length_append, List.length_replicate] at this
    have : 0 < (tailL cut w).length := by unfold tailL; simp; omega
    omega
  refine (markOne_lines line n c word).2.2 ?_ ?_
  · rintro (h | h) <;> exact hl _ _ h
  · rintro (h | h) <;> exact hl _ _ h
/-- The result of the reference, as numbers. -/
def whichR : Option (Nat × Bool) → Int × Bool
  | none => (0, false)
  | some (q, c) => (q + 1, c)

set_option maxRecDepth 100000 in
set_option maxHeartbeats 4000000 in
theorem which_any (line : Str) (n : Nat) (w : World) (hn : n ≤ 1000000000) (hl : line.length ≤ 1000000000) :
    Calls Tryz.prog 51 #[.string (B line), .int .i64 n] w fun e w' => e = .returned (.tuple #[.int .i64 (whichR (markL line n)).1, .bool (whichR (markL line n)).2]) ∧ Below w.heap.size w w' := by
  go_enter Tryz.func51, Tryz.ntmps51
  by_cases hs : line.length ≤ n
  · have hs1 : decide (line.length ≤ n) = true := by simpa using hs
    have HM := Lib.hid (show markL line n = none from markL_none line n (fun p _ => markOne_short _ _ _ _ hs))
    go_wp2
    go_ret2
    rw [HM.out]
    exact ⟨rfl, Below.refl _ _⟩
  · have hs1 : decide (line.length ≤ n) = false := by simpa using hs
    obtain ⟨W1, hW1⟩ : ∃ W1, W1 = (w.alloc (.cells #[.string (B [60]), .string (B [124]), .string (B [61]), .string (B [62])] 9)).alloc (.cells #[.string (B wOurs), .string (B wBase), .string (B []), .string (B wTheirs)] 9) := ⟨_, rfl⟩
    have hB0 : Below w.heap.size w W1 := by rw [hW1]; exact ((Below.refl _ w).alloc (Nat.le_refl _) _).alloc (by simp) _
    have hk1 : W1.heap[w.heap.size]? = some (.cells #[.string (B [60]), .string (B [124]), .string (B [61]), .string (B [62])] 9 (0, 0)) := by
      rw [hW1]
      exact (Below.heap_alloc _ _ _ (by simp)).trans (heap_alloc_new w _)
    have hk2 : W1.heap[w.heap.size + 1]? = some (.cells #[.string (B wOurs), .string (B wBase), .string (B []), .string (B wTheirs)] 9 (0, 0)) := by
      rw [hW1]
      have := heap_alloc_new (w.alloc (.cells #[.string (B [60]), .string (B [124]), .string (B [61]), .string (B [62])] 9)) (.cells #[.string (B wOurs), .string (B wBase), .string (B []), .string (B wTheirs)] 9)
      simpa using this
    have hc1 : ∀ i, i < 4 → W1.cell? ⟨w.heap.size, i, none⟩ = some (.string (B [signC i])) := fun i hi => by
      rw [cell_of_row W1 _ _ _ _ _ hk1]
      have : i = 0 ∨ i = 1 ∨ i = 2 ∨ i = 3 := by omega
      rcases this with rfl | rfl | rfl | rfl <;> rfl
    have hc2 : ∀ i, i < 4 → W1.cell? ⟨w.heap.size + 1, i, none⟩ = some (.string (B (signW i))) := fun i hi => by
      rw [cell_of_row W1 _ _ _ _ _ hk2]
      have : i = 0 ∨ i = 1 ∨ i = 2 ∨ i = 3 := by omega
      rcases this with rfl | rfl | rfl | rfl <;> rfl
    have hww : ∀ i, (signW i).length ≤ 1000000000 := fun i => by
      unfold signW
      split <;> decide
    have hl1 : w.heap.size < W1.heap.size := by rw [hW1]; simp; omega
    have hl2 : w.heap.size + 1 < W1.heap.size := by rw [hW1]; simp
    have HC1 := Lib.hid hc1
    have HC2 := Lib.hid hc2
    have HWW := Lib.hid hww
    clear hc1 hc2 hk1 hk2 hww
    go_wp2_with fail
    change Code.wp _ _ _ _ ((w.alloc (.cells #[.string (B [60]), .string (B [124]), .string (B [61]), .string (B [62])] 9)).alloc (.cells #[.string (B wOurs), .string (B wBase), .string (B []), .string (B wTheirs)] 9))
    rw [← hW1]
    clear hW1
    go_loopw [8] (fun i wr => ∃ q : Nat, q ≤ 4 ∧ i = .int .i64 q ∧ Hid (∀ p, p < q → markQ line n p = none) ∧ Below W1.heap.size W1 wr) (fun i _ => 4 - (intOf i).toNat)
    case atStart => exact ⟨0, by omega, rfl, Lib.hid (fun p hp => absurd hp (Nat.not_lt_zero _)), Below.refl _ _⟩
    case round =>
      obtain ⟨q, hq, rfl, HNO, hB⟩ := hrel
      obtain ⟨wo, rfl⟩ : ∃ wo : World, wo = wr := ⟨_, rfl⟩
      have hsz := hB.size
      by_cases hlt : q < 4
      · obtain ⟨c, hc⟩ : ∃ c, c = signC q := ⟨_, rfl⟩
        obtain ⟨wd, hwd⟩ : ∃ wd, wd = signW q := ⟨_, rfl⟩
        have hwl : wd.length ≤ 1000000000 := by rw [hwd]; exact HWW.out q
        have e1 := HC1.out q hlt
        have e2 := HC2.out q hlt
        rw [← hc] at e1
        rw [← hwd] at e2
        have HQ := Lib.hid (show ∀ r, markOne line n c wd = r → markQ line n q = r from fun r h => by rw [← h, hc, hwd]; rfl)
        clear hc hwd
        have hd4 : decide ((q : Int) < 4) = true := by rw [decide_eq_true_iff]; omega
        go_wp2
        go_loopw [9] (fun j wr => ∃ k : Nat, k ≤ 2 ∧ j = .int .i64 k ∧ Hid ((1 ≤ k → ¬ hitL line c n false wd) ∧ (2 ≤ k → ¬ hitL line c n true wd)) ∧ Below W1.heap.size W1 wr) (fun j _ => 2 - (intOf j).toNat)
        case atStart => exact ⟨0, by omega, rfl, Lib.hid ⟨fun h => by omega, fun h => by omega⟩, hB⟩
        case round =>
          obtain ⟨k, hk, rfl, HK, hB1⟩ := hrel
          obtain ⟨wi, rfl⟩ : ∃ wi : World, wi = wr := ⟨_, rfl⟩
          have b1 : wi.cell? ⟨w.heap.size, q, none⟩ = some (.string (B [c])) := (hB1.cell (p := ⟨w.heap.size, q, none⟩) hl1).trans e1
          have b2 : wi.cell? ⟨w.heap.size + 1, q, none⟩ = some (.string (B wd)) := (hB1.cell (p := ⟨w.heap.size + 1, q, none⟩) hl2).trans e2
          have hcase : k = 0 ∨ k = 1 ∨ k = 2 := by omega
          rcases hcase with rfl | rfl | rfl
          · obtain ⟨l1, h1⟩ : ∃ l, l = lineL c n false wd := ⟨_, rfl⟩
            obtain ⟨l2, h2⟩ : ∃ l, l = lineL c n false [] := ⟨_, rfl⟩
            have k1 : ∀ W, Calls Tryz.prog 60 #[.string (B [c]), .int .i64 n, .bool false, .string (B wd)] W fun e w' => e = .returned (.string (B l1)) ∧ w' = W := fun W => by rw [h1]; exact rmark_any _ _ _ _ W hn hwl
            have k2 : ∀ W, Calls Tryz.prog 60 #[.string (B [c]), .int .i64 n, .bool false, .string (B [])] W fun e w' => e = .returned (.string (B l2)) ∧ w' = W := fun W => by rw [h2]; exact rmark_any _ _ _ _ W hn (by decide)
            have K1 := Lib.hid k1
            have K2 := Lib.hid k2
            have HH := Lib.hid (show (line = l1 ∨ line = l2) ↔ hitL line c n false wd from by rw [h1, h2]; exact Iff.rfl)
            clear k1 k2 h1 h2
            go_wp2_with fail
            go_quiet ((go_at_call 60; exact Calls.quiet_of_same (K1.out _)))
            go_wp2_with fail
            refine (K2.out _).mono ?_
            rintro e w2 ⟨rfl, rfl⟩
            by_cases hh : hitL line c n false wd
            · have HM := Lib.hid (markL_hit line n q false hlt HNO.out (HQ.out _ ((markOne_lines line n c wd).1 hh)))
              have hor := HH.out.2 hh
              have HHH := Lib.hid hh
              clear hh
              by_cases a1 : line = l1
              · have a2 : (line == l1) = true := by simpa using a1
                have A1 := Lib.hid a1
                clear a1 hor
                go_wp2
                go_ret2
                rw [HM.out]
                exact ⟨rfl, hB0.trans ((pw_below_drewN hB1 _).mono hB0.size)⟩
              · have a2 : (line == l1) = false := by simpa using a1
                have a3 : (line == l2) = true := by simpa using hor.resolve_left a1
                have A1 := Lib.hid a1
                clear a1 hor
                go_wp2
                go_ret2
                rw [HM.out]
                exact ⟨rfl, hB0.trans ((pw_below_drewN hB1 _).mono hB0.size)⟩
            · have a1 : (line == l1) = false := by simpa using fun h => hh (HH.out.1 (.inl h))
              have a2 : (line == l2) = false := by simpa using fun h => hh (HH.out.1 (.inr h))
              have HHH := Lib.hid hh
              clear hh
              go_wp2
              go_roundw
              case rel => exact ⟨0+1, by omega, by first | rfl | go_num, Lib.hid ⟨fun _ => HHH.out, fun h => by omega⟩, pw_below_drewN hB1 _⟩
              case measure => simp [intOf]
          · obtain ⟨l1, h1⟩ : ∃ l, l = lineL c n true wd := ⟨_, rfl⟩
            obtain ⟨l2, h2⟩ : ∃ l, l = lineL c n true [] := ⟨_, rfl⟩
            have k1 : ∀ W, Calls Tryz.prog 60 #[.string (B [c]), .int .i64 n, .bool true, .string (B wd)] W fun e w' => e = .returned (.string (B l1)) ∧ w' = W := fun W => by rw [h1]; exact rmark_any _ _ _ _ W hn hwl
            have k2 : ∀ W, Calls Tryz.prog 60 #[.string (B [c]), .int .i64 n, .bool true, .string (B [])] W fun e w' => e = .returned (.string (B l2)) ∧ w' = W := fun W => by rw [h2]; exact rmark_any _ _ _ _ W hn (by decide)
            have K1 := Lib.hid k1
            have K2 := Lib.hid k2
            have HH := Lib.hid (show (line = l1 ∨ line = l2) ↔ hitL line c n true wd from by rw [h1, h2]; exact Iff.rfl)
            clear k1 k2 h1 h2
            go_wp2_with fail
            go_quiet ((go_at_call 60; exact Calls.quiet_of_same (K1.out _)))
            go_wp2_with fail
            refine (K2.out _).mono ?_
            rintro e w2 ⟨rfl, rfl⟩
            by_cases hh : hitL line c n true wd
            · have HM := Lib.hid (markL_hit line n q true hlt HNO.out (HQ.out _ ((markOne_lines line n c wd).2.1 (HK.out.1 (by omega)) hh)))
              have hor := HH.out.2 hh
              have HHH := Lib.hid hh
              clear hh
              by_cases a1 : line = l1
              · have a2 : (line == l1) = true := by simpa using a1
                have A1 := Lib.hid a1
                clear a1 hor
                go_wp2
                go_ret2
                rw [HM.out]
                exact ⟨rfl, hB0.trans ((pw_below_drewN hB1 _).mono hB0.size)⟩
              · have a2 : (line == l1) = false := by simpa using a1
                have a3 : (line == l2) = true := by simpa using hor.resolve_left a1
                have A1 := Lib.hid a1
                clear a1 hor
                go_wp2
                go_ret2
                rw [HM.out]
                exact ⟨rfl, hB0.trans ((pw_below_drewN hB1 _).mono hB0.size)⟩
            · have a1 : (line == l1) = false := by simpa using fun h => hh (HH.out.1 (.inl h))
              have a2 : (line == l2) = false := by simpa using fun h => hh (HH.out.1 (.inr h))
              have HHH := Lib.hid hh
              clear hh
              go_wp2
              go_roundw
              case rel => exact ⟨1+1, by omega, by first | rfl | go_num, Lib.hid ⟨fun _ => HK.out.1 (by omega), fun _ => HHH.out⟩, pw_below_drewN hB1 _⟩
              case measure => simp [intOf]
          · have HM := Lib.hid (HQ.out _ ((markOne_lines line n c wd).2.2 (HK.out.1 (by omega)) (HK.out.2 (by omega))))
            go_wp2
            go_roundw
            case rel =>
              refine ⟨q + 1, by omega, by go_num, Lib.hid (fun p hp => ?_), hB1⟩
              by_cases e : p = q
              · subst e; exact HM.out
              · exact HNO.out p (by omega)
            case measure => simp [intOf]; omega
      · obtain rfl : q = 4 := by omega
        have HM := Lib.hid (markL_none line n HNO.out)
        go_wp2
        go_ret2
        rw [HM.out]
        exact ⟨rfl, hB0.trans (hB.mono hB0.size)⟩

end Go.Proofs.YtogfkfkejaiecaaGreatDoor.Rd
