/- Contracts of package marker: which mark a line is. Contracts of package marker: the reader. Contracts of weave: parts. -/
import Derived.Test.YtogfkfkejaiecaaGreatDoorTb
import Derived.Test.YtogfkfkejaiecaaGreatDoorTa
import Derived.Maps.AppendAt
import Derived.Deep.RegionHeld3
import Derived.Deep.AppendLies
import Derived.StillTactics
import Derived.Laws.Pointers
import Derived.Test.YtogfkfkejaiecaaGreatDoorTf
import Derived.BigRegion
import Derived.WalkMore
import Derived.Deep.CutRange

namespace Go.Proofs.YtogfkfkejaiecaaGreatDoor.Mm
open Go.RowKit Go.Shelf Pl Ut Ln Mk Ml Go.Proofs.YtogfkfkejaiecaaGreatDoorW.PrintWords
set_option linter.unusedVariables false
set_option linter.unusedSimpArgs false
attribute [local go_sem] B_append B_extract B_toList B_size take_end

def signC : Nat → UInt8
  | 0 => 60
  | 1 => 124
  | 2 => 61
  | _ => 62
def signW : Nat → Str
  | 0 => wOurs
  | 1 => wBase
  | 2 => []
  | _ => wTheirs
def markQ (line : Str) (n q : Nat) : Option Bool := markOne line n (signC q) (signW q)
/-- The result, as numbers. -/
def markR : Option (Nat × Bool) → Int × Bool
  | none => (-1, false)
  | some (k, c) => (k, c)
theorem markL_hit (line : Str) (n q : Nat) (cut : Bool) (hq : q < 4) (hno : ∀ p, p < q → markQ line n p = none) (h : markQ line n q = some cut) : markL line n = some (q, cut) := by
  have hcase : q = 0 ∨ q = 1 ∨ q = 2 ∨ q = 3 := by omega
  unfold markL
  rcases hcase with rfl | rfl | rfl | rfl
  · have h0 : markOne line n 60 wOurs = some cut := h
    rw [h0]
  · have h0 : markOne line n 60 wOurs = none := hno 0 (by omega)
    have h1 : markOne line n 124 wBase = some cut := h
    rw [h0, h1]
  · have h0 : markOne line n 60 wOurs = none := hno 0 (by omega)
    have h1 : markOne line n 124 wBase = none := hno 1 (by omega)
    have h2 : markOne line n 61 [] = some cut := h
    rw [h0, h1, h2]
  · have h0 : markOne line n 60 wOurs = none := hno 0 (by omega)
    have h1 : markOne line n 124 wBase = none := hno 1 (by omega)
    have h2 : markOne line n 61 [] = none := hno 2 (by omega)
    have h3 : markOne line n 62 wTheirs = some cut := h
    rw [h0, h1, h2, h3]
theorem markL_none (line : Str) (n : Nat) (hno : ∀ p, p < 4 → markQ line n p = none) : markL line n = none := by
  have h0 : markOne line n 60 wOurs = none := hno 0 (by omega)
  have h1 : markOne line n 124 wBase = none := hno 1 (by omega)
  have h2 : markOne line n 61 [] = none := hno 2 (by omega)
  have h3 : markOne line n 62 wTheirs = none := hno 3 (by omega)
  unfold markL
  rw [h0, h1, h2, h3]
/-- What is left behind the marks, and behind the sign. -/
def restOf (r : Str) : Str := Lib.trimPrefix r [33]
theorem markOne_eq (line : Str) (n : Nat) (c : UInt8) (word : Str) : markOne line n c word =
    if Lib.hasPrefix line (List.replicate n c) then (if restOf (line.drop n) = [10] ∨ (word ≠ [] ∧ restOf (line.drop n) = 32 :: word ++ [10]) then some (Lib.hasPrefix (line.drop n) [33]) else none) else none := by
  unfold markOne restOf Lib.trimPrefix Lib.hasPrefix
  rfl
theorem cutPrefix_any (s p : Str) (w : World) :
    Calls Tryz.prog 68 #[.string (B s), .string (B p)] w fun e w' => e = .returned (.tuple #[.string (B (Lib.trimPrefix s p)), .bool (Lib.hasPrefix s p)]) ∧ w = w' :=
  (Tryz.strings_CutPrefix (B s) (B p) w).mono fun _ _ ⟨he, hw⟩ => ⟨he, hw.symm⟩
theorem trim_hit {line : Str} {n : Nat} {c : UInt8} (h : Lib.hasPrefix line (List.replicate n c) = true) : Lib.trimPrefix line (List.replicate n c) = line.drop n := by
  unfold Lib.trimPrefix; rw [if_pos h, List.length_replicate]

set_option maxRecDepth 100000 in
set_option maxHeartbeats 8000000 in
theorem mark_any (line : Str) (n : Nat) (w : World) (hS : Signs w) (hn : n ≤ 1000000000) (hl : line.length ≤ 1000000000) :
    Calls Tryz.prog 46 #[.string (B line), .int .i64 n] w fun e w' => e = .returned (.tuple #[.int .i64 (markR (markL line n)).1, .bool (markR (markL line n)).2]) ∧ Below w.heap.size w w' := by
  obtain ⟨s0, s1, s2, s3, s4, s5, s6, s7⟩ := hS
  go_enter Tryz.func46, Tryz.ntmps46
  go_wp2
  clear s0 s1 s2 s3 s4 s5 s6 s7
  go_loopw [12] (fun i wr => ∃ q : Nat, q ≤ 4 ∧ i = .int .i64 q ∧ Hid (∀ p, p < q → markQ line n p = none) ∧ Below w.heap.size w wr) (fun i _ => 4 - (intOf i).toNat)
  case atStart => exact ⟨0, by omega, rfl, Lib.hid (fun p hp => absurd hp (Nat.not_lt_zero _)), Below.refl _ _⟩
  case round =>
    obtain ⟨q, hq, rfl, HNO, hB⟩ := hrel
    have hsz := hB.size
    have hcase : q = 0 ∨ q = 1 ∨ q = 2 ∨ q = 3 ∨ q = 4 := by omega
    rcases hcase with rfl | rfl | rfl | rfl | rfl
    · have hidx : ∀ W, (Instr.index 108 (.agg #[.string (B [60]), .string (B wOurs), .string (B [124]), .string (B wBase), .string (B [61]), .string (B []), .string (B [62]), .string (B wTheirs)]) (.int .i64 0)).run Tryz.prog W = .ok (.agg #[.string (B [60]), .string (B wOurs)]) W := fun _ => by kernel_rfl
      have HQ := Lib.hid (show markQ line n 0 = _ from markOne_eq line n 60 wOurs)
      obtain ⟨r, hr⟩ : ∃ r, r = List.replicate n (60 : UInt8) := ⟨_, rfl⟩
      obtain ⟨m1, hm1⟩ : ∃ m, Lib.hasPrefix line r = m := ⟨_, rfl⟩
      have HR := Lib.hid hr
      clear hr
      go_wp2_with fail
      refine (repeat_any 60 n _ hn).mono ?_
      rw [← HR.out]
      rintro e W1 ⟨rfl, hb1⟩
      have hB1 : Below w.heap.size w W1 := (hB.alloc hsz _).trans (hb1.mono (by simp; omega))
      have p1 : W1.cell? ⟨wr.heap.size, 1, none⟩ = some (.string (B wOurs)) := by
        have h := heap_alloc_new wr (.cells #[.string (B [60]), .string (B wOurs)] 107)
        rw [hb1.cell (p := ⟨wr.heap.size, 1, none⟩) (by simp), cell_of_row _ _ _ _ _ _ h]; rfl
      go_wp2_with fail
      refine (cutPrefix_any line r _).mono ?_
      rw [hm1]
      rintro e w' ⟨rfl, rfl⟩
      cases m1 with
      | false =>
        go_wp2
        go_roundw
        case rel =>
          refine ⟨1, by omega, rfl, Lib.hid (fun p hp => ?_), hB1⟩
          by_cases e : p = 0
          · subst e; rw [HQ.out, ← HR.out, hm1]; rfl
          · exact HNO.out p (by omega)
        case measure => simp [intOf]
      | true =>
        have htr : Lib.trimPrefix line r = line.drop n := by rw [HR.out] at hm1 ⊢; exact trim_hit hm1
        obtain ⟨d, hd⟩ : ∃ d, d = line.drop n := ⟨_, rfl⟩
        rw [htr, ← hd]
        have hdl : d.length ≤ 1000000000 := by rw [hd, List.length_drop]; omega
        have HDD := Lib.hid hd
        clear hd htr
        go_wp2_with fail
        refine (cutPrefix_any d [33] _).mono ?_
        obtain ⟨m2, hm2⟩ : ∃ m, Lib.hasPrefix d [33] = m := ⟨_, rfl⟩
        obtain ⟨t, ht⟩ : ∃ t, t = restOf d := ⟨_, rfl⟩
        rw [hm2, show Lib.trimPrefix d [33] = t from ht.symm]
        rintro e w' ⟨rfl, rfl⟩
        have HM1 := Lib.hid hm1
        have HM2 := Lib.hid hm2
        have HTT := Lib.hid ht
        clear hm1 hm2 ht
        have HQ2 := Lib.hid (show markQ line n 0 = if t = [10] ∨ ((wOurs : Str) ≠ [] ∧ t = 32 :: wOurs ++ [10]) then some m2 else none by rw [HQ.out, ← HR.out, HM1.out, ← HDD.out, HM2.out, ← HTT.out]; rfl)
        by_cases hA : t = [10]
        · have HH := Lib.hid (markL_hit line n 0 m2 (by omega) HNO.out (by rw [HQ2.out, if_pos (.inl hA)]))
          have hA1 : (t == [10]) = true := by rw [hA]; rfl
          clear hA
          go_wp2
          go_ret2
          exact ⟨by rw [HH.out]; rfl, hB1⟩
        · have hwl : List.length wOurs ≤ 100 := by decide
          have hwn : ¬ wOurs = [] := by decide
          have hA1 : (t == [10]) = false := by simpa using hA
          by_cases hBn : t = 32 :: wOurs ++ [10]
          · have HH := Lib.hid (markL_hit line n 0 m2 (by omega) HNO.out (by rw [HQ2.out, if_pos (.inr ⟨hwn, hBn⟩)]))
            have hB2 : (t == 32 :: (wOurs ++ [10])) = true := by rw [hBn]; simp
            clear hBn
            go_wp2
            go_ret2
            exact ⟨by rw [HH.out]; rfl, hB1⟩
          · have hB2 : (t == 32 :: (wOurs ++ [10])) = false := by simpa using hBn
            have hA := Lib.hid hA
            have hBn := Lib.hid hBn
            go_wp2
            go_roundw
            case rel =>
              refine ⟨1, by omega, rfl, Lib.hid (fun p hp => ?_), hB1⟩
              by_cases e : p = 0
              · subst e; rw [HQ2.out, if_neg (by rintro (h | ⟨h1, h2⟩); exact hA.out h; exact hBn.out h2)]
              · exact HNO.out p (by omega)
            case measure => simp [intOf]
    · have hidx : ∀ W, (Instr.index 108 (.agg #[.string (B [60]), .string (B wOurs), .string (B [124]), .string (B wBase), .string (B [61]), .string (B []), .string (B [62]), .string (B wTheirs)]) (.int .i64 1)).run Tryz.prog W = .ok (.agg #[.string (B [124]), .string (B wBase)]) W := fun _ => by kernel_rfl
      have HQ := Lib.hid (show markQ line n 1 = _ from markOne_eq line n 124 wBase)
      obtain ⟨r, hr⟩ : ∃ r, r = List.replicate n (124 : UInt8) := ⟨_, rfl⟩
      obtain ⟨m1, hm1⟩ : ∃ m, Lib.hasPrefix line r = m := ⟨_, rfl⟩
      have HR := Lib.hid hr
      clear hr
      go_wp2_with fail
      refine (repeat_any 124 n _ hn).mono ?_
      rw [← HR.out]
      rintro e W1 ⟨rfl, hb1⟩
      have hB1 : Below w.heap.size w W1 := (hB.alloc hsz _).trans (hb1.mono (by simp; omega))
      have p1 : W1.cell? ⟨wr.heap.size, 1, none⟩ = some (.string (B wBase)) := by
        have h := heap_alloc_new wr (.cells #[.string (B [124]), .string (B wBase)] 107)
        rw [hb1.cell (p := ⟨wr.heap.size, 1, none⟩) (by simp), cell_of_row _ _ _ _ _ _ h]; rfl
      go_wp2_with fail
      refine (cutPrefix_any line r _).mono ?_
      rw [hm1]
      rintro e w' ⟨rfl, rfl⟩
      cases m1 with
      | false =>
        go_wp2
        go_roundw
        case rel =>
          refine ⟨2, by omega, rfl, Lib.hid (fun p hp => ?_), hB1⟩
          by_cases e : p = 1
          · subst e; rw [HQ.out, ← HR.out, hm1]; rfl
          · exact HNO.out p (by omega)
        case measure => simp [intOf]
      | true =>
        have htr : Lib.trimPrefix line r = line.drop n := by rw [HR.out] at hm1 ⊢; exact trim_hit hm1
        obtain ⟨d, hd⟩ : ∃ d, d = line.drop n := ⟨_, rfl⟩
        rw [htr, ← hd]
        have hdl : d.length ≤ 1000000000 := by rw [hd, List.length_drop]; omega
        have HDD := Lib.hid hd
        clear hd htr
        go_wp2_with fail
        refine (cutPrefix_any d [33] _).mono ?_
        obtain ⟨m2, hm2⟩ : ∃ m, Lib.hasPrefix d [33] = m := ⟨_, rfl⟩
        obtain ⟨t, ht⟩ : ∃ t, t = restOf d := ⟨_, rfl⟩
        rw [hm2, show Lib.trimPrefix d [33] = t from ht.symm]
        rintro e w' ⟨rfl, rfl⟩
        have HM1 := Lib.hid hm1
        have HM2 := Lib.hid hm2
        have HTT := Lib.hid ht
        clear hm1 hm2 ht
        have HQ2 := Lib.hid (show markQ line n 1 = if t = [10] ∨ ((wBase : Str) ≠ [] ∧ t = 32 :: wBase ++ [10]) then some m2 else none by rw [HQ.out, ← HR.out, HM1.out, ← HDD.out, HM2.out, ← HTT.out]; rfl)
        by_cases hA : t = [10]
        · have HH := Lib.hid (markL_hit line n 1 m2 (by omega) HNO.out (by rw [HQ2.out, if_pos (.inl hA)]))
          have hA1 : (t == [10]) = true := by rw [hA]; rfl
          clear hA
          go_wp2
          go_ret2
          exact ⟨by rw [HH.out]; rfl, hB1⟩
        · have hwl : List.length wBase ≤ 100 := by decide
          have hwn : ¬ wBase = [] := by decide
          have hA1 : (t == [10]) = false := by simpa using hA
          by_cases hBn : t = 32 :: wBase ++ [10]
          · have HH := Lib.hid (markL_hit line n 1 m2 (by omega) HNO.out (by rw [HQ2.out, if_pos (.inr ⟨hwn, hBn⟩)]))
            have hB2 : (t == 32 :: (wBase ++ [10])) = true := by rw [hBn]; simp
            clear hBn
            go_wp2
            go_ret2
            exact ⟨by rw [HH.out]; rfl, hB1⟩
          · have hB2 : (t == 32 :: (wBase ++ [10])) = false := by simpa using hBn
            have hA := Lib.hid hA
            have hBn := Lib.hid hBn
            go_wp2
            go_roundw
            case rel =>
              refine ⟨2, by omega, rfl, Lib.hid (fun p hp => ?_), hB1⟩
              by_cases e : p = 1
              · subst e; rw [HQ2.out, if_neg (by rintro (h | ⟨h1, h2⟩); exact hA.out h; exact hBn.out h2)]
              · exact HNO.out p (by omega)
            case measure => simp [intOf]
    · have hidx : ∀ W, (Instr.index 108 (.agg #[.string (B [60]), .string (B wOurs), .string (B [124]), .string (B wBase), .string (B [61]), .string (B []), .string (B [62]), .string (B wTheirs)]) (.int .i64 2)).run Tryz.prog W = .ok (.agg #[.string (B [61]), .string (B [])]) W := fun _ => by kernel_rfl
      have HQ := Lib.hid (show markQ line n 2 = _ from markOne_eq line n 61 [])
      obtain ⟨r, hr⟩ : ∃ r, r = List.replicate n (61 : UInt8) := ⟨_, rfl⟩
      obtain ⟨m1, hm1⟩ : ∃ m, Lib.hasPrefix line r = m := ⟨_, rfl⟩
      have HR := Lib.hid hr
      clear hr
      go_wp2_with fail
      refine (repeat_any 61 n _ hn).mono ?_
      rw [← HR.out]
      rintro e W1 ⟨rfl, hb1⟩
      have hB1 : Below w.heap.size w W1 := (hB.alloc hsz _).trans (hb1.mono (by simp; omega))
      have p1 : W1.cell? ⟨wr.heap.size, 1, none⟩ = some (.string (B [])) := by
        have h := heap_alloc_new wr (.cells #[.string (B [61]), .string (B [])] 107)
        rw [hb1.cell (p := ⟨wr.heap.size, 1, none⟩) (by simp), cell_of_row _ _ _ _ _ _ h]; rfl
      go_wp2_with fail
      refine (cutPrefix_any line r _).mono ?_
      rw [hm1]
      rintro e w' ⟨rfl, rfl⟩
      cases m1 with
      | false =>
        go_wp2
        go_roundw
        case rel =>
          refine ⟨3, by omega, rfl, Lib.hid (fun p hp => ?_), hB1⟩
          by_cases e : p = 2
          · subst e; rw [HQ.out, ← HR.out, hm1]; rfl
          · exact HNO.out p (by omega)
        case measure => simp [intOf]
      | true =>
        have htr : Lib.trimPrefix line r = line.drop n := by rw [HR.out] at hm1 ⊢; exact trim_hit hm1
        obtain ⟨d, hd⟩ : ∃ d, d = line.drop n := ⟨_, rfl⟩
        rw [htr, ← hd]
        have hdl : d.length ≤ 1000000000 := by rw [hd, List.length_drop]; omega
        have HDD := Lib.hid hd
        clear hd htr
        go_wp2_with fail
        refine (cutPrefix_any d [33] _).mono ?_
        obtain ⟨m2, hm2⟩ : ∃ m, Lib.hasPrefix d [33] = m := ⟨_, rfl⟩
        obtain ⟨t, ht⟩ : ∃ t, t = restOf d := ⟨_, rfl⟩
        rw [hm2, show Lib.trimPrefix d [33] = t from ht.symm]
        rintro e w' ⟨rfl, rfl⟩
        have HM1 := Lib.hid hm1
        have HM2 := Lib.hid hm2
        have HTT := Lib.hid ht
        clear hm1 hm2 ht
        have HQ2 := Lib.hid (show markQ line n 2 = if t = [10] ∨ (([] : Str) ≠ [] ∧ t = 32 :: [] ++ [10]) then some m2 else none by rw [HQ.out, ← HR.out, HM1.out, ← HDD.out, HM2.out, ← HTT.out]; rfl)
        by_cases hA : t = [10]
        · have HH := Lib.hid (markL_hit line n 2 m2 (by omega) HNO.out (by rw [HQ2.out, if_pos (.inl hA)]))
          have hA1 : (t == [10]) = true := by rw [hA]; rfl
          clear hA
          go_wp2
          go_ret2
          exact ⟨by rw [HH.out]; rfl, hB1⟩
        · have hA1 : (t == [10]) = false := by simpa using hA
          have hA := Lib.hid hA
          go_wp2
          go_roundw
          case rel =>
            refine ⟨3, by omega, rfl, Lib.hid (fun p hp => ?_), hB1⟩
            by_cases e : p = 2
            · subst e; rw [HQ2.out, if_neg (by rintro (h | ⟨h1, h2⟩); exact hA.out h; exact h1 rfl)]
            · exact HNO.out p (by omega)
          case measure => simp [intOf]
    · have hidx : ∀ W, (Instr.index 108 (.agg #[.string (B [60]), .string (B wOurs), .string (B [124]), .string (B wBase), .string (B [61]), .string (B []), .string (B [62]), .string (B wTheirs)]) (.int .i64 3)).run Tryz.prog W = .ok (.agg #[.string (B [62]), .string (B wTheirs)]) W := fun _ => by kernel_rfl
      have HQ := Lib.hid (show markQ line n 3 = _ from markOne_eq line n 62 wTheirs)
      obtain ⟨r, hr⟩ : ∃ r, r = List.replicate n (62 : UInt8) := ⟨_, rfl⟩
      obtain ⟨m1, hm1⟩ : ∃ m, Lib.hasPrefix line r = m := ⟨_, rfl⟩
      have HR := Lib.hid hr
      clear hr
      go_wp2_with fail
      refine (repeat_any 62 n _ hn).mono ?_
      rw [← HR.out]
      rintro e W1 ⟨rfl, hb1⟩
      have hB1 : Below w.heap.size w W1 := (hB.alloc hsz _).trans (hb1.mono (by simp; omega))
      have p1 : W1.cell? ⟨wr.heap.size, 1, none⟩ = some (.string (B wTheirs)) := by
        have h := heap_alloc_new wr (.cells #[.string (B [62]), .string (B wTheirs)] 107)
        rw [hb1.cell (p := ⟨wr.heap.size, 1, none⟩) (by simp), cell_of_row _ _ _ _ _ _ h]; rfl
      go_wp2_with fail
      refine (cutPrefix_any line r _).mono ?_
      rw [hm1]
      rintro e w' ⟨rfl, rfl⟩
      cases m1 with
      | false =>
        go_wp2
        go_roundw
        case rel =>
          refine ⟨4, by omega, rfl, Lib.hid (fun p hp => ?_), hB1⟩
          by_cases e : p = 3
          · subst e; rw [HQ.out, ← HR.out, hm1]; rfl
          · exact HNO.out p (by omega)
        case measure => simp [intOf]
      | true =>
        have htr : Lib.trimPrefix line r = line.drop n := by rw [HR.out] at hm1 ⊢; exact trim_hit hm1
        obtain ⟨d, hd⟩ : ∃ d, d = line.drop n := ⟨_, rfl⟩
        rw [htr, ← hd]
        have hdl : d.length ≤ 1000000000 := by rw [hd, List.length_drop]; omega
        have HDD := Lib.hid hd
        clear hd htr
        go_wp2_with fail
        refine (cutPrefix_any d [33] _).mono ?_
        obtain ⟨m2, hm2⟩ : ∃ m, Lib.hasPrefix d [33] = m := ⟨_, rfl⟩
        obtain ⟨t, ht⟩ : ∃ t, t = restOf d := ⟨_, rfl⟩
        rw [hm2, show Lib.trimPrefix d [33] = t from ht.symm]
        rintro e w' ⟨rfl, rfl⟩
        have HM1 := Lib.hid hm1
        have HM2 := Lib.hid hm2
        have HTT := Lib.hid ht
        clear hm1 hm2 ht
        have HQ2 := Lib.hid (show markQ line n 3 = if t = [10] ∨ ((wTheirs : Str) ≠ [] ∧ t = 32 :: wTheirs ++ [10]) then some m2 else none by rw [HQ.out, ← HR.out, HM1.out, ← HDD.out, HM2.out, ← HTT.out]; rfl)
        by_cases hA : t = [10]
        · have HH := Lib.hid (markL_hit line n 3 m2 (by omega) HNO.out (by rw [HQ2.out, if_pos (.inl hA)]))
          have hA1 : (t == [10]) = true := by rw [hA]; rfl
          clear hA
          go_wp2
          go_ret2
          exact ⟨by rw [HH.out]; rfl, hB1⟩
        · have hwl : List.length wTheirs ≤ 100 := by decide
          have hwn : ¬ wTheirs = [] := by decide
          have hA1 : (t == [10]) = false := by simpa using hA
          by_cases hBn : t = 32 :: wTheirs ++ [10]
          · have HH := Lib.hid (markL_hit line n 3 m2 (by omega) HNO.out (by rw [HQ2.out, if_pos (.inr ⟨hwn, hBn⟩)]))
            have hB2 : (t == 32 :: (wTheirs ++ [10])) = true := by rw [hBn]; simp
            clear hBn
            go_wp2
            go_ret2
            exact ⟨by rw [HH.out]; rfl, hB1⟩
          · have hB2 : (t == 32 :: (wTheirs ++ [10])) = false := by simpa using hBn
            have hA := Lib.hid hA
            have hBn := Lib.hid hBn
            go_wp2
            go_roundw
            case rel =>
              refine ⟨4, by omega, rfl, Lib.hid (fun p hp => ?_), hB1⟩
              by_cases e : p = 3
              · subst e; rw [HQ2.out, if_neg (by rintro (h | ⟨h1, h2⟩); exact hA.out h; exact hBn.out h2)]
              · exact HNO.out p (by omega)
            case measure => simp [intOf]
    · go_wp2
      go_ret2
      exact ⟨by rw [markL_none line n HNO.out]; rfl, hB⟩

end Go.Proofs.YtogfkfkejaiecaaGreatDoor.Mm

namespace Go.Proofs.YtogfkfkejaiecaaGreatDoor.Mr
open Go.RowKit Go.Shelf Pl Ut Ln Bl Mk Ml Mm Go.Proofs.YtogfkfkejaiecaaGreatDoorW.PrintWords
set_option linter.unusedVariables false
set_option linter.unusedSimpArgs false
attribute [local go_sem] B_append B_extract B_toList B_size take_end addr_off

theorem R_others {α : Type} {d : Kd α} {e t : Nat} {b : Nat} {w w' : World} {base : Nat} {ok : Nat → Prop} {v : Value} {xs : List α} (h : d.R e w base ok v xs) (hO : Lib.OthersKept t (some b) w w') (hok : ∀ k, ok k → k ≠ b) (ht : ∀ q, q ∈ e :: d.E → q ≠ t) : d.R e w' base ok v xs := by
  refine Kd.R_mono (Kd.R_move (Kd.R_bound h) (fun k hk => ?_)) (fun _ hk => hk.1)
  obtain ⟨h1, h2, h3, q, hq, cells, hc⟩ := hk
  rw [hc]
  exact hO k _ hc (fun e1 => hok k h1 (Option.some.inj e1)) (fun c fz e1 => by injection e1 with _ e2; exact ht q hq e2)

theorem Bld.grown {T : TypeId} {Bs b off : Nat} {cs : Array Value} {l : Str} {w w' : World} (h : Bld T Bs b off cs l w) {row : Option Nat} (hg : w.grownBy w' row) (hr : ∀ g, row = some g → ∃ cells e, w.heap[g]? = some (.cells cells e (0, 0)) ∧ e ≠ T ∧ e ≠ 5) : Bld T Bs b off cs l w' := by
  obtain ⟨hb, hT, hk, ha, v, hv, ho⟩ := h
  have hne : some b ≠ row := by
    intro e
    obtain ⟨cells, e', hc, h1, _⟩ := hr b e.symm
    rw [hk] at hc
    injection hc with hc
    injection hc with _ hc
    exact h1 hc.symm
  refine ⟨hb, hT, (hg.block b (Array.getElem?_eq_some_iff.1 hk).1 hne).trans hk, ha, v, hv, ho.kept hg ?_⟩
  cases hrow : row with
  | none =>
    cases hv : v.ownBlock with
    | none => exact .inl rfl
    | some g => exact .inr (by simp)
  | some g =>
    refine .inr fun e => ?_
    obtain ⟨cells, e', hc, _, h2⟩ := hr g hrow
    obtain ⟨c, fz, hc2⟩ := Lib.ownsRowF_kind ho g e
    rw [hc] at hc2
    injection hc2 with hc2
    injection hc2 with _ hc2
    exact h2 hc2

theorem Bld.drew {T : TypeId} {Bs b off : Nat} {cs : Array Value} {l : Str} {w : World} (h : Bld T Bs b off cs l w) : Bld T Bs b off cs l w.drew := h.below (Below.refl _ _).drew

/-- Block b, the rows of parts and the rows of bytes apart, what is kept from w to w'. -/
def TK (b : Nat) (w w' : World) : Prop := ∀ k cs t fz, w.heap[k]? = some (.cells cs t fz) → k ≠ b → t ≠ 5 → t ≠ 55 → w'.heap[k]? = some (.cells cs t fz)
theorem TK.refl (b : Nat) (w : World) : TK b w w := fun _ _ _ _ h _ _ _ => h
theorem TK.trans {b : Nat} {w w1 w2 : World} (h : TK b w w1) (h2 : TK b w1 w2) : TK b w w2 := fun k cs t fz hk h1 h3 h4 => h2 k cs t fz (h k cs t fz hk h1 h3 h4) h1 h3 h4
theorem TK.of_others {b : Nat} {w w' : World} (h : Lib.OthersKept 5 (some b) w w') : TK b w w' := fun k cs t fz hk h1 h3 h4 => h k _ hk (fun e => h1 (Option.some.inj e)) (fun c f e => by injection e with _ e; exact h3 e)
theorem TK.of_below {b : Nat} {w w' : World} (h : Below w.heap.size w w') : TK b w w' := fun k cs t fz hk _ _ _ => (h.block k (Array.getElem?_eq_some_iff.1 hk).1).trans hk
theorem TK.of_set {b : Nat} (w : World) {p : Addr} (hp : p.block = b) (v : Value) : TK b w (w.setCell p v) := fun k cs t fz hk h1 _ _ => (Below.heap_setCell _ _ _ _ (fun e => h1 (by rw [← hp, e]))).trans hk
theorem TK.of_grown {b : Nat} {w w' : World} {row : Option Nat} (hg : w.grownBy w' row) (hr : ∀ g, row = some g → ∃ cells e, w.heap[g]? = some (.cells cells e (0, 0)) ∧ e = 55) : TK b w w' := by
  intro k cs t fz hk h1 h3 h4
  refine (hg.block k (Array.getElem?_eq_some_iff.1 hk).1 (fun e => ?_)).trans hk
  obtain ⟨cells, e', hc, he⟩ := hr k e.symm
  rw [hk] at hc
  injection hc with hc
  injection hc with _ hc
  exact h4 (hc.trans he)
/-- What the reader's steps leave alone. -/
structure Bel (base b : Nat) (w w' : World) : Prop where
  bel : Below base w w'
  tk : TK b w w'
theorem Bel.size {base b : Nat} {w w' : World} (h : Bel base b w w') : w.heap.size ≤ w'.heap.size := h.bel.size
theorem Bel.refl (base b : Nat) (w : World) : Bel base b w w := ⟨Below.refl _ _, TK.refl _ _⟩
theorem Bel.trans {base b : Nat} {w w1 w2 : World} (h : Bel base b w w1) (h2 : Bel base b w1 w2) : Bel base b w w2 := ⟨h.bel.trans h2.bel, h.tk.trans h2.tk⟩
theorem Bel.setCell {base b : Nat} {w w' : World} (h : Bel base b w w') {p : Addr} (hp : base ≤ p.block) (v : Value) (hb : p.block = b := by rfl) : Bel base b w (w'.setCell p v) := ⟨h.bel.setCell hp v, h.tk.trans (TK.of_set _ hb v)⟩
theorem R_tk {α : Type} {d : Kd α} {e b : Nat} {w w' : World} {base : Nat} {ok : Nat → Prop} {v : Value} {xs : List α} (h : d.R e w base ok v xs) (hO : TK b w w') (hok : ∀ k, ok k → k ≠ b) (ht : ∀ q, q ∈ e :: d.E → q ≠ 5 ∧ q ≠ 55) : d.R e w' base ok v xs := by
  refine Kd.R_mono (Kd.R_move (Kd.R_bound h) (fun k hk => ?_)) (fun _ hk => hk.1)
  obtain ⟨h1, h2, h3, q, hq, cells, hc⟩ := hk
  rw [hc]
  exact hO k _ _ _ hc (hok k h1) (ht q hq).1 (ht q hq).2

/-- The reader's cells. -/
def rCells (outv : Value) (p : Part) (pa pv : Value) (at_ : Nat) : Array Value := #[outv, .bool p.clash, .string (B p.o), .string (B p.a), .string (B p.b), pa, pv, .int .i64 at_]
/-- Block b is a reader in a state; the parts that it has told are outv. -/
def Rdr (base b : Nat) (st : St) (w : World) : Prop :=
  ∃ outv pa pv, Bld 83 base b 5 (rCells outv st.p pa pv st.at_) st.now w ∧ kPart.R 55 w base (fun k => k ≠ b) outv st.out
theorem lies_reader : liesAt Tryz.prog Tryz.prog.depth 83 (8 / Tryz.prog.cellsOf 83) 5 81 1 = true := by kernel_rfl
theorem Rdr.lt {base b : Nat} {st : St} {w : World} (h : Rdr base b st w) : b < w.heap.size := by obtain ⟨_, _, _, h, _⟩ := h; exact h.lt
theorem Rdr.below {base b : Nat} {st : St} {w w' : World} (h : Rdr base b st w) (hb : Below w.heap.size w w') : Rdr base b st w' := by
  obtain ⟨o, pa, pv, h1, h2⟩ := h
  exact ⟨o, pa, pv, h1.below hb, Kd.R_below h2 hb⟩

/-- What take hands back. -/
def takeR (now : Str) (cut : Bool) : Str × Bool := if cut then (Lib.trimSuffix now [10], Lib.hasSuffix now [10]) else (now, true)

set_option maxHeartbeats 2000000 in
set_option maxRecDepth 100000 in
theorem take_any {base b : Nat} {st : St} {w : World} (cut : Bool) (h : Rdr base b st w) (hB : base ≤ w.heap.size) (hl : st.now.length ≤ 1000000000) :
    Calls Tryz.prog 71 #[.pointer (some ⟨b, 0, none⟩), .bool cut] w fun e w' =>
      e = .returned (.tuple #[.string (B (takeR st.now cut).1), .bool (takeR st.now cut).2]) ∧ Rdr base b { st with now := [] } w' ∧ Bel base b w w' := by
  obtain ⟨outv, pa, pv, hb, hR⟩ := h
  obtain ⟨now, hnow⟩ : ∃ now, now = st.now := ⟨_, rfl⟩
  rw [← hnow] at hb hl
  have HN := Lib.hid hnow
  clear hnow
  go_enter Tryz.func71, Tryz.ntmps71
  go_wp2_with fail
  refine (string_any hb hB).mono ?_
  rintro e w1 ⟨rfl, hb1, hB1, hO1⟩
  have hR1 := R_others hR hO1 (fun _ h => h) (by decide)
  clear hR
  go_wp2_with fail
  refine (reset_any hb1).mono ?_
  rintro e w2 ⟨rfl, hb2, hB2, hO2⟩
  have hR2 := R_others hR1 hO2 (fun _ h => h) (by decide)
  clear hR1
  have hBB : Bel base b w w2 := ⟨hB1.trans hB2, (TK.of_others hO1).trans (TK.of_others hO2)⟩
  have HR := Lib.hid (show Rdr base b { st with now := [] } w2 from ⟨outv, _, _, hb2, hR2⟩)
  clear hR2 hb2 hb1 hb
  cases cut with
  | false =>
    go_wp2
    go_ret2
    exact ⟨by rw [← HN.out]; rfl, HR.out, hBB⟩
  | true =>
    go_wp2_with fail
    refine (Tryz.strings_CutSuffix (B now) (B [10]) _ (by rw [B_size]; omega)).mono ?_
    rintro e w' ⟨rfl, rfl⟩
    go_wp2
    go_ret2
    exact ⟨by rw [← HN.out]; rfl, HR.out, hBB⟩

theorem row_part {w : World} {base b : Nat} {outv : Value} {l : List Part} (h : kPart.R 55 w base (fun k => k ≠ b) outv l) : ∀ g, outv.ownBlock = some g → ∃ cells e, w.heap[g]? = some (.cells cells e (0, 0)) ∧ e = 55 := by
  intro g hg
  obtain ⟨inner, ho⟩ := Kd.R_own h
  obtain ⟨cells, hc⟩ := own_typed ho g hg
  exact ⟨cells, _, hc, rfl⟩
theorem infoPart : (Tryz.prog.info? 55).map (fun i => (i.zero, i.size, i.bytes)) = some (some (.agg #[.bool false, .string ⟨#[]⟩, .string ⟨#[]⟩, .string ⟨#[]⟩]), kPart.sz, 56) := by kernel_rfl
theorem row_other {w : World} {base b : Nat} {outv : Value} {l : List Part} (h : kPart.R 55 w base (fun k => k ≠ b) outv l) : ∀ g, outv.ownBlock = some g → ∃ cells e, w.heap[g]? = some (.cells cells e (0, 0)) ∧ e ≠ 83 ∧ e ≠ 5 := by
  intro g hg
  obtain ⟨inner, ho⟩ := Kd.R_own h
  obtain ⟨cells, hc⟩ := own_typed ho g hg
  exact ⟨cells, _, hc, by decide, by decide⟩

set_option maxHeartbeats 4000000 in
set_option maxRecDepth 100000 in
theorem outer_any {base b : Nat} {st : St} {w : World} (h : Rdr base b st w) (hB : base ≤ w.heap.size) (hl : st.now.length ≤ 1000000000) (ho : st.out.length ≤ 1000000000) :
    Calls Tryz.prog 49 #[.pointer (some ⟨b, 0, none⟩)] w fun e w' =>
      e = .returned (.tuple #[]) ∧ Rdr base b { st with out := outerL st.out st.now, now := [] } w' ∧ Bel base b w w' := by
  obtain ⟨now, hnow⟩ : ∃ now, now = st.now := ⟨_, rfl⟩
  go_enter Tryz.func49, Tryz.ntmps49
  go_wp2_with fail
  refine (take_any false h hB hl).mono ?_
  rintro e w1 ⟨rfl, hR, hB1⟩
  have hsz := hB1.size
  have e1 : (takeR st.now false).1 = now := hnow.symm
  have e2 : (takeR st.now false).2 = true := rfl
  rw [e1, e2]
  have HN := Lib.hid hnow
  clear hnow e1 e2 h
  by_cases hn : now = []
  · have hn1 : (now != []) = false := by rw [hn]; rfl
    have HH := Lib.hid hn
    have hn2 : (!List.isEmpty now) = false := by rw [hn]; rfl
    clear hn
    go_wp2
    go_end0
    refine ⟨rfl, ?_, hB1⟩
    rw [show outerL st.out st.now = st.out by unfold outerL; rw [← HN.out, if_pos HH.out]]
    exact hR
  · have hn2 : (!List.isEmpty now) = true := by simpa using hn
    have hlt := hR.lt
    obtain ⟨outv, pa, pv, hb, hR⟩ := hR
    have c0 : w1.cell? ⟨b, 0, none⟩ = some outv := hb.cell 0
    have hrow := row_other hR
    have HROW := Lib.hid hrow
    have HROW2 := Lib.hid (fun g hg => row_part hR g hg)
    clear hrow
    go_wp2_with (at_builtin; refine Kd.R_append kPart base rfl _ _ 41 55 _ 56 rfl Tryz.underlying41 infoPart rfl (by decide) (by decide) outv st.out ⟨false, now, now, now⟩ _ (fun k => k ≠ b) (fun _ => False) rfl rfl (kPart_mk _ _ _ _) ?k1 ?k2 hR (Below.refl base w1) (by omega) (by omega) ?_)
    case k1 => exact fun _ h => h.elim
    case k2 => exact fun k hk => by omega
    intro v1 w2 hR2 hb2 hg2 _
    have hbl2 := Bld.grown hb hg2 HROW.out
    have d0 : w2.cell? ⟨b, 0, none⟩ = some outv := hbl2.cell 0
    have f0 := hbl2.frozen 0
    have hlt2 := hbl2.lt
    obtain ⟨A1, c1, rfl⟩ := Kd.R_slice hR2
    have hbl3 := Lib.hid (hbl2.put (j := 0) (by decide) (by decide) (.slice A1 (st.out ++ [(⟨false, now, now, now⟩ : Part)]).length c1))
    have hR3 := Lib.hid (Kd.R_far hR2 (p := ⟨b, 0, none⟩) (fun _ h => h) (.slice A1 (st.out ++ [(⟨false, now, now, now⟩ : Part)]).length c1))
    have hbb := Lib.hid ((hB1.trans ⟨hb2, TK.of_grown hg2 HROW2.out⟩).setCell (p := ⟨b, 0, none⟩) hb.base (.slice A1 (st.out ++ [(⟨false, now, now, now⟩ : Part)]).length c1))
    have HNN := Lib.hid hn
    clear hb hR hR2 hbl2 hg2 hb2 hn
    obtain ⟨L, hL⟩ : ∃ L, L = (st.out ++ [(⟨false, now, now, now⟩ : Part)]).length := ⟨_, rfl⟩
    rw [← hL] at hbl3 hR3 hbb ⊢
    have HL := Lib.hid hL
    clear hL
    go_wp2
    go_end0
    refine ⟨rfl, ⟨_, pa, pv, hbl3.out, ?_⟩, hbb.out⟩
    rw [show outerL st.out st.now = st.out ++ [⟨false, now, now, now⟩] by unfold outerL; rw [← HN.out, if_neg HNN.out]]
    exact hR3.out

/-- What meet's answer leaves. -/
def MeetPost (base b : Nat) (r : Option St) (w : World) (e : Ending) (w' : World) : Prop :=
  e = .returned (.bool r.isSome) ∧ (∀ st', r = some st' → Rdr base b st' w') ∧ Bel base b w w'

theorem takeL_R (now : Str) (cut : Bool) : takeL now cut = if (takeR now cut).2 then some (takeR now cut).1 else none := by
  cases cut with
  | false => rfl
  | true =>
    unfold takeL takeR Lib.trimSuffix
    simp only [if_true]
    by_cases h : now.getLast? = some 10
    · have hs : Lib.hasSuffix now [10] = true := by
        unfold Lib.hasSuffix
        rw [List.isSuffixOf_iff_suffix]
        obtain ⟨t, rfl⟩ := List.getLast?_eq_some_iff.1 h
        exact ⟨t, rfl⟩
      rw [if_pos h, hs]
      simp [List.dropLast_eq_take]
    · have hs : Lib.hasSuffix now [10] = false := by
        rw [Bool.eq_false_iff]
        unfold Lib.hasSuffix
        rw [ne_eq, List.isSuffixOf_iff_suffix]
        rintro ⟨t, rfl⟩
        exact h (by simp)
      rw [if_neg h, hs]
      rfl

set_option maxHeartbeats 4000000 in
set_option maxRecDepth 100000 in
theorem meet0_any {base b : Nat} {st : St} {w : World} (k : Nat) (cut : Bool) (hat : st.at_ = 0) (h : Rdr base b st w) (hB : base ≤ w.heap.size) (hl : st.now.length ≤ 1000000000) (ho : st.out.length ≤ 1000000000) :
    Calls Tryz.prog 48 #[.pointer (some ⟨b, 0, none⟩), .int .i64 k, .bool cut] w (MeetPost base b (meetL st k cut) w) := by
  have hlt := h.lt
  have hc7 : w.cell? ⟨b, 7, none⟩ = some (.int .i64 ((0 : Nat) : Int)) := by
    obtain ⟨o, pa, pv, h1, _⟩ := h
    have := h1.cell 7
    rw [← hat]; exact this
  have HAT := Lib.hid hat
  clear hat
  obtain ⟨r, hr⟩ : ∃ r, r = meetL st k cut := ⟨_, rfl⟩
  have hr1 : (k = 0 ∧ cut = false ∧ r = some ⟨outerL st.out st.now, ⟨true, [], [], []⟩, [], 1⟩) ∨ ((k ≠ 0 ∨ cut = true) ∧ r = none) := by
    rw [hr]; unfold meetL
    rw [if_pos HAT.out]
    by_cases hc : k = 0 ∧ cut = false
    · exact .inl ⟨hc.1, hc.2, by rw [if_pos hc]⟩
    · refine .inr ⟨?_, by rw [if_neg hc]⟩
      by_cases hk : k = 0
      · right; cases cut with
        | true => rfl
        | false => exact absurd ⟨hk, rfl⟩ hc
      · exact .inl hk
  rw [← hr]
  clear hr
  go_enter Tryz.func48, Tryz.ntmps48
  go_wp2_with fail
  refine (outer_any h hB hl ho).mono ?_
  rintro e w1 ⟨rfl, ⟨outv, pa, pv, hb, hR⟩, hB1⟩
  have hlt1 := hb.lt
  have hbase := hb.base
  have f1 := hb.frozen 1
  have f2 := hb.frozen 2
  have f3 := hb.frozen 3
  have f4 := hb.frozen 4
  have f7 := hb.frozen 7
  have c1 : w1.cell? ⟨b, 1, none⟩ = some (.bool st.p.clash) := hb.cell 1
  have c2 : w1.cell? ⟨b, 2, none⟩ = some (.string (B st.p.o)) := hb.cell 2
  have c3 : w1.cell? ⟨b, 3, none⟩ = some (.string (B st.p.a)) := hb.cell 3
  have c4 : w1.cell? ⟨b, 4, none⟩ = some (.string (B st.p.b)) := hb.cell 4
  have c7 : w1.cell? ⟨b, 7, none⟩ = some (.int .i64 st.at_) := hb.cell 7
  rw [HAT.out] at c7
  obtain ⟨W5, hW5⟩ : ∃ W5, W5 = (((((w1.setCell ⟨b, 1, none⟩ (.bool true)).setCell ⟨b, 2, none⟩ (.string (B []))).setCell ⟨b, 3, none⟩ (.string (B []))).setCell ⟨b, 4, none⟩ (.string (B []))).setCell ⟨b, 7, none⟩ (.int .i64 1)) := ⟨_, rfl⟩
  have HRD := Lib.hid (show Rdr base b ⟨outerL st.out st.now, ⟨true, [], [], []⟩, [], 1⟩ W5 from by
    rw [hW5]
    exact ⟨outv, pa, pv, ((((hb.put (j := 1) (by decide) (by decide) (.bool true)).put (j := 2) (by decide) (by decide) (.string (B []))).put (j := 3) (by decide) (by decide) (.string (B []))).put (j := 4) (by decide) (by decide) (.string (B []))).put (j := 7) (by decide) (by decide) (.int .i64 1),
      Kd.R_far (Kd.R_far (Kd.R_far (Kd.R_far (Kd.R_far hR (fun _ h => h) _) (fun _ h => h) _) (fun _ h => h) _) (fun _ h => h) _) (fun _ h => h) _⟩)
  have HBB := Lib.hid (show Bel base b w W5 from by
    rw [hW5]
    exact ((((hB1.setCell (p := ⟨b, 1, none⟩) hbase _).setCell (p := ⟨b, 2, none⟩) hbase _).setCell (p := ⟨b, 3, none⟩) hbase _).setCell (p := ⟨b, 4, none⟩) hbase _).setCell (p := ⟨b, 7, none⟩) hbase _)
  have HW5 := Lib.hid hW5
  clear hb hR h hW5
  have hfin : ∀ v : Bool, v = r.isSome → MeetPost base b r w (.returned (.bool v)) W5 := by
    intro v hv
    refine ⟨by rw [hv], fun st' hst => ?_, HBB.out⟩
    rcases hr1 with ⟨_, _, rfl⟩ | ⟨_, rfl⟩
    · cases hst; exact HRD.out
    · cases hst
  have HF := Lib.hid hfin
  clear hfin
  have HR1 := Lib.hid hr1
  rcases hr1 with ⟨rfl, rfl, hr⟩ | ⟨hk, hr⟩
  · have HRR := Lib.hid hr
    clear hr
    go_wp2
    go_ret
    have h := HF.out true (by rw [HRR.out]; rfl)
    rw [HW5.out] at h
    exact h
  · have HRR := Lib.hid hr
    clear hr
    by_cases hk0 : k = 0
    · subst hk0
      have hcut : cut = true := hk.resolve_left (by simp)
      subst hcut
      clear hk
      go_wp2
      go_ret
      have h := HF.out false (by rw [HRR.out]; rfl)
      rw [HW5.out] at h
      exact h
    · have hk1 : ((k : Int) == 0) = false := by rw [beq_eq_false_iff_ne]; omega
      clear hk hk0
      go_wp2
      go_ret
      have h := HF.out false (by rw [HRR.out]; rfl)
      rw [HW5.out] at h
      exact h

end Go.Proofs.YtogfkfkejaiecaaGreatDoor.Mr

namespace Go.Proofs.YtogfkfkejaiecaaGreatDoor.Dn
open Go.RowKit Go.Shelf Pl Ut Ln Mr Da Db Dc Dd De Dk Dl Dm Go.Proofs.YtogfkfkejaiecaaGreatDoorW.PrintWords
set_option linter.unusedVariables false
set_option linter.unusedSimpArgs false
attribute [local go_sem] B_append B_extract B_toList B_size take_end

/-- A row of texts that lies at a place of its own below what is written; or it is empty. -/
def LiesS (w : World) (B0 : Nat) (A : Option Addr) (xs : List Str) : Prop := xs = [] ∨ ∃ b o, A = some ⟨b, o, none⟩ ∧ b < B0 ∧ ∀ (k : Nat) (x : Str), xs[k]? = some x → w.cell? ⟨b, o + k, none⟩ = some (.string (B x))
theorem LiesS.below {w w' : World} {B0 : Nat} {A : Option Addr} {xs : List Str} (h : LiesS w B0 A xs) (hb : Below B0 w w') : LiesS w' B0 A xs := by
  rcases h with rfl | ⟨b, o, rfl, hlt, hc⟩
  · exact .inl rfl
  · exact .inr ⟨b, o, rfl, hlt, fun k x hx => (hb.cell (p := ⟨b, o + k, none⟩) hlt).trans (hc k x hx)⟩
theorem LiesS.up {w : World} {B0 B1 : Nat} {A : Option Addr} {xs : List Str} (h : LiesS w B0 A xs) (hb : B0 ≤ B1) : LiesS w B1 A xs := by
  rcases h with rfl | ⟨b, o, rfl, hlt, hc⟩
  · exact .inl rfl
  · exact .inr ⟨b, o, rfl, Nat.lt_of_lt_of_le hlt hb, hc⟩
theorem LiesS.cut {w : World} {B0 : Nat} {A : Option Addr} {xs : List Str} {c i j : Nat} (h : LiesS w B0 A xs) (hij : i ≤ j) (hj : j ≤ xs.length) (hc : xs.length ≤ c) : LiesS w B0 (if c = i then A else A.map (·.add i)) (cutL xs i j) := by
  rcases Nat.eq_or_lt_of_le hij with e | hlt
  · left; unfold cutL; rw [e, Nat.sub_self, List.take_zero]
  · rcases h with rfl | ⟨b, o, rfl, hb, hcl⟩
    · simp at hj; omega
    · right
      have hne : c ≠ i := by omega
      refine ⟨b, o + i, by rw [if_neg hne]; simp [add_at], hb, fun k x hx => ?_⟩
      unfold cutL at hx
      rw [List.getElem?_take] at hx
      split at hx
      · rw [List.getElem?_drop] at hx
        rw [Nat.add_assoc]; exact hcl _ _ hx
      · cases hx
theorem LiesS.of_R {w : World} {base : Nat} {ok : Nat → Prop} {v : Value} {xs : List Str} (h : kStr.R 9 w base ok v xs) : ∃ A c, v = .slice A xs.length c ∧ xs.length ≤ c ∧ LiesS w w.heap.size A xs ∧ Kd.C kStr w A xs.length xs := by
  obtain ⟨A, c, rfl, hc, hC⟩ := Kd.R_reads h
  refine ⟨A, c, rfl, hc, ?_, hC⟩
  cases xs with
  | nil => exact .inl rfl
  | cons x r =>
    obtain ⟨g, cap, e, _, hlt, _⟩ := Kd.R_form h (by simp)
    cases e
    refine .inr ⟨g, 0, rfl, hlt, fun k y hy => ?_⟩
    obtain ⟨ad, e2, hcell⟩ := at_str hC k (List.getElem?_eq_some_iff.1 hy).1 y hy
    cases e2
    rw [add_plain] at hcell
    rw [Nat.zero_add]; exact hcell

theorem join_none (l : List Str) : Lib.join l [] = l.flatten := by
  cases l with
  | nil => rfl
  | cons x r => rw [Lib.join_cons]; simp [Lib.joinTail]
theorem join_any (xs : List Str) (A : Option Addr) (c : Nat) (w : World) (h : LiesS w w.heap.size A xs) (hc : xs.length ≤ c) (hl : xs.length ≤ 1000000) (ht : (joinL xs).length ≤ 1000000000000) :
    Calls Tryz.prog 81 #[.slice A xs.length c, .string (B [])] w fun e w' => e = .returned (.string (B (joinL xs))) ∧ Below w.heap.size w w' := by
  rcases h with rfl | ⟨b, o, rfl, hb, hcl⟩
  · exact (Tryz.strings_Join_none A c (B []) w).mono fun e w' ⟨he, hw⟩ => ⟨he, by rw [hw]; exact Below.refl _ _⟩
  · have hm : (xs.map B).map (·.data.toList) = xs := by
      rw [List.map_map]
      conv => rhs; rw [← List.map_id xs]
      apply List.map_congr_left
      intro x _
      rfl
    have h := Tryz.strings_Join b o c (xs.map B) (B []) w (fun j x hx => by
      rw [List.getElem?_map] at hx
      cases hj : xs[j]? with
      | none => rw [hj] at hx; cases hx
      | some y => rw [hj] at hx; cases hx; exact hcl j y hj) hb (by simp; omega) (by simpa using hc) (by
        rw [hm, show (B []).data.toList = [] from rfl, join_none]
        unfold joinL at ht; omega)
    rw [hm, List.length_map, show (B []).data.toList = [] from rfl, join_none] at h
    exact h

/-! ### the row of parts -/
def RL (w : World) (base g cap : Nat) (pre : List Part) (l : Part) : Prop := kPart.R 55 w base (fun _ => True) (.slice (some ⟨g, 0, none⟩) (pre.length + 1) cap) (pre ++ [l])
theorem RL.cells {w : World} {base g cap : Nat} {pre : List Part} {l : Part} (h : RL w base g cap pre l) :
    ∀ j u, (partCells l)[j]? = some u → w.cell? ⟨g, pre.length * 4 + j, none⟩ = some u ∧ w.frozen? ⟨g, pre.length * 4 + j, none⟩ = false := by
  obtain ⟨c, hl, hM, hc, hf⟩ := Kd.R_elem h l (pre.length : Int) (by omega) (by simp; omega)
  have hd : (pre ++ [l]).getD ((pre.length : Int)).toNat l = l := by simp [List.getD]
  rw [hd] at hM
  have hk := kPart_open (kPart.K_of_M hM)
  subst hk
  intro j u hu
  exact ⟨hc j u hu, hf j⟩
theorem RL.base {w : World} {base g cap : Nat} {pre : List Part} {l : Part} (h : RL w base g cap pre l) : base ≤ g := Kd.R_base h g (by simp [Value.ownBlock])
theorem RL.put {w : World} {base g cap : Nat} {pre : List Part} {l : Part} (h : RL w base g cap pre l) (j : Nat) (s : Str) (l' : Part) (hj : j = 1 ∧ l' = { l with o := s } ∨ j = 2 ∧ l' = { l with a := s } ∨ j = 3 ∧ l' = { l with b := s }) :
    RL (w.setCell ⟨g, pre.length * 4 + j, none⟩ (.string (B s))) base g cap pre l' := by
  have hs := Kd.R_seg (d := kPart) (c := partCells l) (seg := [.string (B s)]) (j := j) (x' := l') (okp := fun k => True ∧ k ≠ g) h (pre.length : Int) (by omega) (by simp; omega) rfl (fun i u hi => (h.cells i u hi).1) (by rcases hj with ⟨rfl, _⟩ | ⟨rfl, _⟩ | ⟨rfl, _⟩ <;> (show _ + 1 ≤ 4; omega))
    (by rcases hj with ⟨rfl, rfl⟩ | ⟨rfl, rfl⟩ | ⟨rfl, rfl⟩ <;> exact kPart_mk _ _ _ _) (fun _ hk => hk)
  have h2 := hs.1
  have e : (pre ++ [l]).set ((pre.length : Int)).toNat l' = pre ++ [l'] := by simp
  rw [e] at h2
  exact h2
theorem cut_strs (A : Option Addr) (n c p q : Nat) (h1 : p ≤ q) (h2 : q ≤ n) (h3 : n ≤ c) (W : World) :
    (Instr.slice 62 (.slice A n c) (some (.int .i64 (p : Int))) (some (.int .i64 (q : Int))) none).run Tryz.prog W = .ok (.slice (if c = p then A else A.map (·.add p)) (q - p) (c - p)) W := by
  obtain ⟨i0, hi, _, hz1, _⟩ := info_parts infoString
  have hel : Tryz.prog.elem 62 = 9 := by simp [Program.elem, Tryz.underlying62]
  have hu : Tryz.prog.underlying 62 = some (.slice (Tryz.prog.elem 62)) := by rw [hel]; exact Tryz.underlying62
  rw [run_slice_lh W 62 A n c hu .i64 .i64 (p : Int) (q : Int) (by omega) (by omega) (by omega), hel]
  simp [sizeOf, typeInfo, hi, hz1, sliced, Result.andThen]

theorem partsL_eq (o a b : List Str) : partsL o a b = (partsC o a b).foldl (fun out c => addPart out (partOf o a b c)) [] := by
  obtain ⟨x, y, z, h, _⟩ := numRows3 o a b
  unfold partsL partsC
  rw [h]
theorem partsC_facts (o a b : List Str) : (partsC o a b).length ≤ o.length + a.length + b.length ∧ ∀ c ∈ partsC o a b, c.o1 ≤ c.o2 ∧ c.o2 ≤ o.length ∧ c.a1 ≤ c.a2 ∧ c.a2 ≤ a.length ∧ c.b1 ≤ c.b2 ∧ c.b2 ≤ b.length ∧ c.kind ≤ 4 := by
  obtain ⟨x, y, z, h, ex, ey, ez⟩ := numRows3 o a b
  rw [partsC_of h, ← ex, ← ey, ← ez]
  obtain ⟨h1, h2⟩ := chunksL_facts x y z
  refine ⟨h1, fun c hc => ?_⟩
  obtain ⟨a1, a2, a3, a4, a5, a6, a7⟩ := h2 c hc
  refine ⟨a1, a2, a3, a4, a5, a6, ?_⟩
  rw [a7]
  unfold kindL
  split <;> (try split) <;> (try split) <;> omega
theorem joinL_cut (l : List Str) (i j : Nat) : (joinL (cutL l i j)).length ≤ (joinL l).length := by
  have h : ∀ (l : List Str) (n : Nat), (joinL (l.take n)).length ≤ (joinL l).length := by
    intro l n
    conv => rhs; rw [← List.take_append_drop n l]
    unfold joinL
    rw [List.flatten_append, List.length_append]; omega
  have h2 : (joinL (l.drop i)).length ≤ (joinL l).length := by
    conv => rhs; rw [← List.take_append_drop i l]
    unfold joinL
    rw [List.flatten_append, List.length_append]; omega
  exact Nat.le_trans (h _ _) h2
theorem joinL_mem {l : List Str} {s : Str} (h : s ∈ l) : s.length ≤ (joinL l).length := by
  induction l with
  | nil => cases h
  | cons x r ih =>
    unfold joinL at ih ⊢
    rw [List.flatten_cons, List.length_append]
    rcases List.mem_cons.1 h with rfl | h
    · omega
    · have := ih h; omega
theorem at_ck {w : World} {A : Option Addr} {n : Nat} {xs : List Ck} (h : Kd.C kCk w A n xs) (k : Nat) (hk : k < n) (x : Ck) (hx : xs[k]? = some x) :
    ∃ ad, A = some ad ∧ w.cell? (ad.add (k * 7)) = some (.int .i64 (x.kind : Int)) ∧ ∀ j u, 0 < j → (ckCells x)[j]? = some u → w.cell? ⟨(ad.add (k * 7)).block, (ad.add (k * 7)).off + j, none⟩ = some u := by
  obtain ⟨ad, c, e, _, hK, hc0⟩ := Kd.C_get h x (k : Int) (by omega) (by omega)
  have hd : xs.getD (k : Int).toNat x = x := by simp [List.getD, hx]
  rw [hd] at hK
  have hc : ∀ j u, c[j]? = some u → w.cell? (ad.add (k * 7 + j)) = some u := hc0
  obtain rfl := kCk_open hK
  exact ⟨ad, e, hc 0 _ rfl, fun j u hj hu => by rw [← add_field _ _ j hj]; exact hc j u hu⟩

theorem below_seti {B : Nat} {w W : World} (h : Below B w W) {g : Nat} (hg : B ≤ g) (i : Nat) (v : Value) : Below B w (W.setCell ⟨g, i, none⟩ v) := h.setCell (p := ⟨g, i, none⟩) hg v
theorem box4 {w : World} {g : Nat} {v0 v1 v2 v3 : Value} {t : TypeId} (h : w.heap[g]? = some (.cells #[v0, v1, v2, v3] t (0, 0))) (u0 u1 u2 u3 : Value) :
    ((((w.setCell ⟨g, 0, none⟩ u0).setCell ⟨g, 1, none⟩ u1).setCell ⟨g, 2, none⟩ u2).setCell ⟨g, 3, none⟩ u3).heap[g]? = some (.cells #[u0, u1, u2, u3] t (0, 0)) := blk_set (blk_set (blk_set (blk_set h 0 u0) 1 u1) 2 u2) 3 u3
theorem boxP {w w' : World} {g : Nat} (h : w.heap[g]? = some (.cells #[.bool false, .string ⟨#[]⟩, .string ⟨#[]⟩, .string ⟨#[]⟩] 55 (0, 0))) (hb : Below w.heap.size w w') :
    w'.heap[g]? = some (.cells #[.bool false, .string ⟨#[]⟩, .string ⟨#[]⟩, .string ⟨#[]⟩] 55 (0, 0)) ∧
    w'.cell? ⟨g, 0, none⟩ = some (.bool false) ∧ w'.cell? ⟨g, 1, none⟩ = some (.string ⟨#[]⟩) ∧ w'.cell? ⟨g, 2, none⟩ = some (.string ⟨#[]⟩) ∧ w'.cell? ⟨g, 3, none⟩ = some (.string ⟨#[]⟩) ∧
    w'.frozen? ⟨g, 0, none⟩ = false ∧ w'.frozen? ⟨g, 1, none⟩ = false ∧ w'.frozen? ⟨g, 2, none⟩ = false ∧ w'.frozen? ⟨g, 3, none⟩ = false ∧ g < w'.heap.size ∧ ¬ g = w'.heap.size ∧ ¬ w'.heap.size = g := by
  have h' := blk_below h hb
  have hl := blk_lt h'
  exact ⟨h', by rw [blk_cell h']; rfl, by rw [blk_cell h']; rfl, by rw [blk_cell h']; rfl, by rw [blk_cell h']; rfl, blk_frozen h' _, blk_frozen h' _, blk_frozen h' _, blk_frozen h' _, hl, by omega, by omega⟩

theorem addPart_length (out : List Part) (p : Part) : (addPart out p).length ≤ out.length + 1 := by
  unfold addPart
  split
  · split
    · simp <;> omega
    · simp
  · simp
theorem addParts_length (f : Ck → Part) (cs : List Ck) : (cs.foldl (fun out c => addPart out (f c)) []).length ≤ cs.length := by
  have h : ∀ (cs : List Ck) (out : List Part), (cs.foldl (fun out c => addPart out (f c)) out).length ≤ out.length + cs.length := by
    intro cs
    induction cs with
    | nil => intro out; simp
    | cons c r ih => intro out; have := ih (addPart out (f c)); have := addPart_length out (f c); simp only [List.foldl_cons, List.length_cons]; omega
  have := h cs []
  simpa using this
theorem addPart_clash (out : List Part) (p : Part) (h : p.clash = true) : addPart out p = out ++ [p] := by
  unfold addPart; split <;> simp [h]
theorem addPart_nil (p : Part) : addPart [] p = [p] := rfl
theorem addPart_last (pre : List Part) (l p : Part) (h : l.clash = true) : addPart (pre ++ [l]) p = (pre ++ [l]) ++ [p] := by
  unfold addPart; simp [h]
theorem addPart_merge (pre : List Part) (l p : Part) (h : l.clash = false) (hp : p.clash = false) : addPart (pre ++ [l]) p = pre ++ [⟨false, l.o ++ p.o, l.a ++ p.a, l.b ++ p.b⟩] := by
  unfold addPart; simp [h, hp]
def Fits (n : Nat) (p : Part) : Prop := p.o.length ≤ n ∧ p.a.length ≤ n ∧ p.b.length ≤ n
theorem addPart_fits {n T : Nat} {out : List Part} {p : Part} (h : ∀ q ∈ out, Fits n q) (hp : Fits T p) : ∀ q ∈ addPart out p, Fits (n + T) q := by
  have up : ∀ q, Fits n q → Fits (n + T) q := fun q ⟨h1, h2, h3⟩ => ⟨by omega, by omega, by omega⟩
  have upp : Fits (n + T) p := ⟨by have := hp.1; omega, by have := hp.2.1; omega, by have := hp.2.2; omega⟩
  have all : ∀ q ∈ out ++ [p], Fits (n + T) q := fun q hq => by
    rcases List.mem_append.1 hq with hq | hq
    · exact up q (h q hq)
    · rw [List.mem_singleton.1 hq]; exact upp
  rcases List.eq_nil_or_concat out with rfl | ⟨pre, l, rfl⟩
  · exact all
  · rw [List.concat_eq_append] at h all ⊢
    cases hpc : p.clash with
    | true => rw [addPart_clash _ _ hpc]; exact all
    | false =>
      cases hlc : l.clash with
      | true => rw [addPart_last _ _ _ hlc]; exact all
      | false =>
        rw [addPart_merge _ _ _ hlc hpc]
        intro q hq
        rcases List.mem_append.1 hq with hq | hq
        · exact up q (h q (List.mem_append_left _ hq))
        · rw [List.mem_singleton.1 hq]
          obtain ⟨h1, h2, h3⟩ := h l (by simp)
          obtain ⟨g1, g2, g3⟩ := hp
          exact ⟨by simp only [List.length_append]; omega, by simp only [List.length_append]; omega, by simp only [List.length_append]; omega⟩
theorem addParts_fits {T : Nat} (f : Ck → Part) (hf : ∀ c, Fits T (f c)) : ∀ (cs : List Ck) (out : List Part) (n : Nat), (∀ q ∈ out, Fits n q) → ∀ q ∈ cs.foldl (fun out c => addPart out (f c)) out, Fits (n + cs.length * T) q
  | [], out, n, h, q, hq => by simpa using h q hq
  | c :: r, out, n, h, q, hq => by
    have := addParts_fits f hf r (addPart out (f c)) (n + T) (addPart_fits h (hf c)) q hq
    rw [List.length_cons, Nat.succ_mul]
    rw [show n + (r.length * T + T) = n + T + r.length * T by omega]
    exact this
theorem partOf_fits (o a b : List Str) (tO : (joinL o).length ≤ 100000) (tA : (joinL a).length ≤ 100000) (tB : (joinL b).length ≤ 100000) (c : Ck) : Fits 100000 (partOf o a b c) := by
  have h1 := joinL_cut o c.o1 c.o2
  have h2 := joinL_cut a c.a1 c.a2
  have h3 := joinL_cut b c.b1 c.b2
  unfold partOf
  split
  · exact ⟨by simp only; omega, by simp only; omega, by simp only; omega⟩
  · split
    · exact ⟨by simp only; omega, by simp only; omega, by simp only; omega⟩
    · exact ⟨by simp only; omega, by simp only; omega, by simp only; omega⟩

set_option maxRecDepth 100000 in
set_option maxHeartbeats 8000000 in
theorem parts_any (o a b : List Str) (A1 A2 A3 : Option Addr) (c1 c2 c3 : Nat) (w : World) (h1 : LiesS w w.heap.size A1 o) (h2 : LiesS w w.heap.size A2 a) (h3 : LiesS w w.heap.size A3 b)
    (k1 : Kd.C kStr w A1 o.length o) (k2 : Kd.C kStr w A2 a.length a) (k3 : Kd.C kStr w A3 b.length b)
    (l1 : o.length ≤ c1) (l2 : a.length ≤ c2) (l3 : b.length ≤ c3) (lo : o.length ≤ 3000) (la : a.length ≤ 3000) (lb : b.length ≤ 3000) (tO : (joinL o).length ≤ 100000) (tA : (joinL a).length ≤ 100000) (tB : (joinL b).length ≤ 100000) :
    Calls Tryz.prog 66 #[.slice A1 o.length c1, .slice A2 a.length c2, .slice A3 b.length c3] w fun e w' => ∃ v, e = .returned v ∧ kPart.R 55 w' w.heap.size (fun _ => True) v (partsL o a b) ∧ Below w.heap.size w w' := by
  have hN := dparts_any o a b A1 A2 A3 c1 c2 c3 w k1 k2 k3 l1 l2 l3 lo la lb (fun l hl s hs => by
    have := joinL_mem hs
    simp only [List.mem_cons, List.not_mem_nil, or_false] at hl
    rcases hl with rfl | rfl | rfl <;> omega)
  obtain ⟨hlen, hall⟩ := partsC_facts o a b
  have hP := partsL_eq o a b
  obtain ⟨cs, hcs⟩ : ∃ cs, cs = partsC o a b := ⟨_, rfl⟩
  rw [← hcs] at hN hlen hall hP
  rw [hP]
  have HN := Lib.hid hN
  have HALL := Lib.hid hall
  have H1 := Lib.hid h1
  have H2 := Lib.hid h2
  have H3 := Lib.hid h3
  have hn6 : cs.length ≤ 9000 := by omega
  clear hN hall hP k1 k2 k3 h1 h2 h3 hcs hlen
  have HFI := Lib.hid (partOf_fits o a b tO tA tB)
  go_enter Tryz.func66, Tryz.ntmps66
  go_wp2
  go_step3
  go_wp2
  go_step3
  go_wp2_with (go_at_call 80; refine HN.out.mono ?_; rintro e W2 ⟨v, rfl, hR, hb2⟩; obtain ⟨AC, cc, rfl, lc, hC⟩ := Kd.R_reads hR)
  have HC := Lib.hid hC
  have HB2 := Lib.hid hb2
  have hbz := hb2.size
  clear hR hb2 HN
  go_loopw [7, 18] (fun v i wr => ∃ k : Nat, k ≤ cs.length ∧ i = .int .i64 (k : Int) ∧ Hid (kPart.R 55 wr W2.heap.size (fun _ => True) v ((cs.take k).foldl (fun out c => addPart out (partOf o a b c)) [])) ∧ Hid (Below W2.heap.size W2 wr)) (fun v i _ => cs.length - (intOf i).toNat)
  case atStart => exact ⟨0, by omega, rfl, Lib.hid (Kd.R_nil _ _ _ _ _), Lib.hid (Below.refl _ _)⟩
  case round =>
    obtain ⟨k, hk, rfl, HR, HB⟩ := hrel
    rcases Nat.eq_or_lt_of_le hk with hk0 | hk0
    · have hlt : ¬ (k : Int) < (cs.length : Int) := by omega
      have HF := Lib.hid (show (cs.take k).foldl (fun out c => addPart out (partOf o a b c)) [] = cs.foldl (fun out c => addPart out (partOf o a b c)) [] from by rw [hk0, List.take_length])
      have HRz := Lib.hid (Kd.R_lower HR.out hbz)
      have HBz := Lib.hid (HB2.out.trans (HB.out.mono hbz))
      go_wp2
      go_ret
      exact ⟨_, rfl, by rw [← HF.out]; exact HRz.out, HBz.out⟩
    · have hlt : (k : Int) < (cs.length : Int) := by omega
      obtain ⟨x, hx⟩ : ∃ x, cs[k]? = some x := ⟨_, List.getElem?_eq_getElem hk0⟩
      obtain ⟨ad, rfl, e0, hca⟩ := at_ck (Kd.C_below HC.out HB.out) k hk0 x hx
      have e1 := hca 1 _ (by omega) rfl
      have e2 := hca 2 _ (by omega) rfl
      have e3 := hca 3 _ (by omega) rfl
      have e4 := hca 4 _ (by omega) rfl
      have e5 := hca 5 _ (by omega) rfl
      have e6 := hca 6 _ (by omega) rfl
      clear hca
      go_upto_region 5 with fail
      obtain ⟨x1, x2, x3, x4, x5, x6, x7⟩ := HALL.out x (List.mem_of_getElem? hx)
      obtain ⟨G, hG⟩ : ∃ G, G = wr.heap.size := ⟨_, rfl⟩
      obtain ⟨U, hU⟩ : ∃ U, U = wr.alloc (.cells #[.int .i64 (x.kind : Int), .int .i64 (x.o1 : Int), .int .i64 (x.o2 : Int), .int .i64 (x.a1 : Int), .int .i64 (x.a2 : Int), .int .i64 (x.b1 : Int), .int .i64 (x.b2 : Int)] 99) := ⟨_, rfl⟩
      have hUG : U.heap[G]? = some (.cells #[.int .i64 (x.kind : Int), .int .i64 (x.o1 : Int), .int .i64 (x.o2 : Int), .int .i64 (x.a1 : Int), .int .i64 (x.a2 : Int), .int .i64 (x.b1 : Int), .int .i64 (x.b2 : Int)] 99 (0, 0)) := by rw [hU, hG]; exact blk_new _ _
      have hUB : Below wr.heap.size wr U := by rw [hU]; exact below_alloc (Below.refl _ _) _
      rw [← hU]
      subst hG
      have hUw : Below w.heap.size w U := HB2.out.trans ((HB.out.trans (hUB.mono HB.out.size)).mono hbz)
      have g0 : U.cell? ⟨wr.heap.size, 0, none⟩ = some (.int .i64 (x.kind : Int)) := by rw [blk_cell hUG]; rfl
      have g1 : U.cell? ⟨wr.heap.size, 1, none⟩ = some (.int .i64 (x.o1 : Int)) := by rw [blk_cell hUG]; rfl
      have g2 : U.cell? ⟨wr.heap.size, 2, none⟩ = some (.int .i64 (x.o2 : Int)) := by rw [blk_cell hUG]; rfl
      have g3 : U.cell? ⟨wr.heap.size, 3, none⟩ = some (.int .i64 (x.a1 : Int)) := by rw [blk_cell hUG]; rfl
      have g4 : U.cell? ⟨wr.heap.size, 4, none⟩ = some (.int .i64 (x.a2 : Int)) := by rw [blk_cell hUG]; rfl
      have g5 : U.cell? ⟨wr.heap.size, 5, none⟩ = some (.int .i64 (x.b1 : Int)) := by rw [blk_cell hUG]; rfl
      have g6 : U.cell? ⟨wr.heap.size, 6, none⟩ = some (.int .i64 (x.b2 : Int)) := by rw [blk_cell hUG]; rfl
      obtain ⟨Z1, hZ1⟩ : ∃ Z1, Z1 = if c1 = x.o1 then A1 else A1.map (·.add x.o1) := ⟨_, rfl⟩
      obtain ⟨Z2, hZ2⟩ : ∃ Z2, Z2 = if c2 = x.a1 then A2 else A2.map (·.add x.a1) := ⟨_, rfl⟩
      obtain ⟨Z3, hZ3⟩ : ∃ Z3, Z3 = if c3 = x.b1 then A3 else A3.map (·.add x.b1) := ⟨_, rfl⟩
      have q1 := fun W => cut_strs A1 o.length c1 x.o1 x.o2 x1 x2 l1 W
      have q2 := fun W => cut_strs A2 a.length c2 x.a1 x.a2 x3 x4 l2 W
      have q3 := fun W => cut_strs A3 b.length c3 x.b1 x.b2 x5 x6 l3 W
      rw [← hZ1] at q1
      rw [← hZ2] at q2
      rw [← hZ3] at q3
      have y1 := Lib.hid (LiesS.cut H1.out x1 x2 l1)
      have y2 := Lib.hid (LiesS.cut H2.out x3 x4 l2)
      have y3 := Lib.hid (LiesS.cut H3.out x5 x6 l3)
      rw [← hZ1] at y1
      rw [← hZ2] at y2
      rw [← hZ3] at y3
      obtain ⟨N1, hN1⟩ : ∃ N1, N1 = x.o2 - x.o1 := ⟨_, rfl⟩
      obtain ⟨N2, hN2⟩ : ∃ N2, N2 = x.a2 - x.a1 := ⟨_, rfl⟩
      obtain ⟨N3, hN3⟩ : ∃ N3, N3 = x.b2 - x.b1 := ⟨_, rfl⟩
      obtain ⟨D1, hD1⟩ : ∃ D1, D1 = c1 - x.o1 := ⟨_, rfl⟩
      obtain ⟨D2, hD2⟩ : ∃ D2, D2 = c2 - x.a1 := ⟨_, rfl⟩
      obtain ⟨D3, hD3⟩ : ∃ D3, D3 = c3 - x.b1 := ⟨_, rfl⟩
      have m1 := cutL_length o x.o1 x.o2 x2
      have m2 := cutL_length a x.a1 x.a2 x4
      have m3 := cutL_length b x.b1 x.b2 x6
      rw [← hN1] at m1 q1
      rw [← hN2] at m2 q2
      rw [← hN3] at m3 q3
      rw [← hD1] at q1
      rw [← hD2] at q2
      rw [← hD3] at q3
      have t1 := joinL_cut o x.o1 x.o2
      have t2 := joinL_cut a x.a1 x.a2
      have t3 := joinL_cut b x.b1 x.b2
      have KJ : ∀ (Z : Option Addr) (N D : Nat) (s : List Str) (W' : World), (Z = Z1 ∧ N = N1 ∧ D = D1 ∧ s = cutL o x.o1 x.o2 ∨ Z = Z2 ∧ N = N2 ∧ D = D2 ∧ s = cutL a x.a1 x.a2 ∨ Z = Z3 ∧ N = N3 ∧ D = D3 ∧ s = cutL b x.b1 x.b2) → Below U.heap.size U W' →
          Calls Tryz.prog 81 #[.slice Z N D, .string (B [])] W' fun e w' => e = .returned (.string (B (joinL s))) ∧ Below W'.heap.size W' w' := by
        intro Z N D s W' hz hb
        have hw : Below w.heap.size w W' := hUw.trans (hb.mono hUw.size)
        have join : ∀ (Z : Option Addr) (N D : Nat) (s : List Str), LiesS w w.heap.size Z s → s.length = N → N ≤ D → N ≤ 3000 → (joinL s).length ≤ 100000 → Calls Tryz.prog 81 #[.slice Z N D, .string (B [])] W' fun e w' => e = .returned (.string (B (joinL s))) ∧ Below W'.heap.size W' w' := by
          intro Z N D s h hn hd hn2 ht
          subst hn
          exact join_any s Z D W' ((h.below hw).up hw.size) hd (by omega) (by omega)
        rcases hz with ⟨rfl, rfl, rfl, rfl⟩ | ⟨rfl, rfl, rfl, rfl⟩ | ⟨rfl, rfl, rfl, rfl⟩
        · exact join _ _ _ _ y1.out m1 (by omega) (by omega) (by omega)
        · exact join _ _ _ _ y2.out m2 (by omega) (by omega) (by omega)
        · exact join _ _ _ _ y3.out m3 (by omega) (by omega) (by omega)
      obtain ⟨jo, hjo⟩ : ∃ s, s = joinL (cutL o x.o1 x.o2) := ⟨_, rfl⟩
      obtain ⟨ja, hja⟩ : ∃ s, s = joinL (cutL a x.a1 x.a2) := ⟨_, rfl⟩
      obtain ⟨jb, hjb⟩ : ∃ s, s = joinL (cutL b x.b1 x.b2) := ⟨_, rfl⟩
      have KJ2 : ∀ (Z : Option Addr) (N D : Nat) (s : Str) (W' : World), (Z = Z1 ∧ N = N1 ∧ D = D1 ∧ s = jo ∨ Z = Z2 ∧ N = N2 ∧ D = D2 ∧ s = ja ∨ Z = Z3 ∧ N = N3 ∧ D = D3 ∧ s = jb) → Below U.heap.size U W' →
          Calls Tryz.prog 81 #[.slice Z N D, .string ⟨#[]⟩] W' fun e w' => e = .returned (.string (B s)) ∧ Hid (Below U.heap.size U w') ∧ Below W'.heap.size W' w' := by
        intro Z N D s W' hz hb
        rcases hz with ⟨h1, h2, h3, rfl⟩ | ⟨h1, h2, h3, rfl⟩ | ⟨h1, h2, h3, rfl⟩
        · rw [hjo]; exact (KJ Z N D _ W' (.inl ⟨h1, h2, h3, rfl⟩) hb).mono fun e w' ⟨he, h⟩ => ⟨he, Lib.hid (hb.trans (h.mono hb.size)), h⟩
        · rw [hja]; exact (KJ Z N D _ W' (.inr (.inl ⟨h1, h2, h3, rfl⟩)) hb).mono fun e w' ⟨he, h⟩ => ⟨he, Lib.hid (hb.trans (h.mono hb.size)), h⟩
        · rw [hjb]; exact (KJ Z N D _ W' (.inr (.inr ⟨h1, h2, h3, rfl⟩)) hb).mono fun e w' ⟨he, h⟩ => ⟨he, Lib.hid (hb.trans (h.mono hb.size)), h⟩
      have KS : ∀ W', Below U.heap.size U W' → (W'.cell? ⟨wr.heap.size, 0, none⟩ = some (.int .i64 (x.kind : Int)) ∧ W'.cell? ⟨wr.heap.size, 1, none⟩ = some (.int .i64 (x.o1 : Int)) ∧ W'.cell? ⟨wr.heap.size, 2, none⟩ = some (.int .i64 (x.o2 : Int)) ∧ W'.cell? ⟨wr.heap.size, 3, none⟩ = some (.int .i64 (x.a1 : Int)) ∧ W'.cell? ⟨wr.heap.size, 4, none⟩ = some (.int .i64 (x.a2 : Int)) ∧ W'.cell? ⟨wr.heap.size, 5, none⟩ = some (.int .i64 (x.b1 : Int)) ∧ W'.cell? ⟨wr.heap.size, 6, none⟩ = some (.int .i64 (x.b2 : Int))) ∧ Below U.heap.size U W' :=
        fun W' h => ⟨⟨pw_cell_below h g0, pw_cell_below h g1, pw_cell_below h g2, pw_cell_below h g3, pw_cell_below h g4, pw_cell_below h g5, pw_cell_below h g6⟩, h⟩
      have HKS := Lib.hid KS
      have HKJ := Lib.hid KJ2
      have HJ := Lib.hid (And.intro hjo (And.intro hja hjb))
      have hBU := Below.refl U.heap.size U
      have HUG := Lib.hid hUG
      have HUB := Lib.hid hUB
      have HUw := Lib.hid hUw
      clear KS KJ KJ2 hjo hja hjb hUG hUB hUw t1 t2 t3 m1 m2 m3 hN1 hN2 hN3 hD1 hD2 hD3 y1 y2 y3 hZ1 hZ2 hZ3 e0 e1 e2 e3 e4 e5 e6 H1 H2 H3 tO tA tB HALL hC HC hlt hU
      go_cut [10] from 22 to 52 (fun p wc => ∃ g, p = .pointer (some ⟨g, 0, none⟩) ∧ Hid (wc.heap[g]? = some (.cells #[.bool ((x.kind : Int) == 4), .string (B jo), .string (B ja), .string (B jb)] 55 (0, 0))) ∧ Hid (Below U.heap.size U wc) ∧ U.heap.size ≤ g)
      case first =>
        go_region_held3 (fun w' => (w'.cell? ⟨wr.heap.size, 0, none⟩ = some (.int .i64 (x.kind : Int)) ∧ w'.cell? ⟨wr.heap.size, 1, none⟩ = some (.int .i64 (x.o1 : Int)) ∧ w'.cell? ⟨wr.heap.size, 2, none⟩ = some (.int .i64 (x.o2 : Int)) ∧ w'.cell? ⟨wr.heap.size, 3, none⟩ = some (.int .i64 (x.a1 : Int)) ∧ w'.cell? ⟨wr.heap.size, 4, none⟩ = some (.int .i64 (x.a2 : Int)) ∧ w'.cell? ⟨wr.heap.size, 5, none⟩ = some (.int .i64 (x.b1 : Int)) ∧ w'.cell? ⟨wr.heap.size, 6, none⟩ = some (.int .i64 (x.b2 : Int))) ∧ Below U.heap.size U w')
          ((refine HKS.out _ ?_; go_split_ands; (repeat (first | assumption | exact Hid.out (by assumption) | refine below_drew ?_ | refine below_alloc ?_ _ | refine below_seti ?_ (by first | omega | (simp; done) | (simp; omega)) _ _))))
          ((go_at_call 81; refine (HKJ.out _ _ _ _ _ (by first | exact .inl ⟨rfl, rfl, rfl, rfl⟩ | exact .inr (.inl ⟨rfl, rfl, rfl, rfl⟩) | exact .inr (.inr ⟨rfl, rfl, rfl, rfl⟩)) (by go_split_ands; assumption)).mono ?_; rintro e wj ⟨rfl, hbj, hbk⟩; have hsj := hbj.out.size; (try (have hbx := boxP (by first | exact blk_new _ _ | assumption) hbk; obtain ⟨hx0, hx1, hx2, hx3, hx4, hx5, hx6, hx7, hx8, hx9, hx10⟩ := hbx.2; have hbxx := hbx.1))))
        all_goals
          go_step
          go_step
          go_meet
          refine ⟨_, rfl, Lib.hid ?_, Lib.hid ?_, ?_⟩
          · (first | (with_reducible exact blk_new _ _) | exact box4 (by assumption) _ _ _ _)
          · (repeat (first | assumption | exact Hid.out (by assumption) | (with_reducible refine below_alloc ?_ _) | (with_reducible refine below_seti ?_ (by first | omega | (simp; done) | (simp; omega)) _ _)))
          · (first | omega | (simp; done) | (simp; omega))
      case rest =>
        obtain ⟨g, rfl, hg, hbg, hgs⟩ := hcut
        clear hBU HKS HKJ q1 q2 q3 g1 g2 g3 g4 g5 g6
        have HG := Lib.hid (blk_below HUG.out hbg.out)
        have e0 : wc.cell? ⟨wr.heap.size, 0, none⟩ = some (.int .i64 (x.kind : Int)) := by rw [blk_cell HG.out]; rfl
        have p0 : wc.cell? ⟨g, 0, none⟩ = some (.bool ((x.kind : Int) == 4)) := by rw [blk_cell hg.out]; rfl
        have p1 : wc.cell? ⟨g, 1, none⟩ = some (.string (B jo)) := by rw [blk_cell hg.out]; rfl
        have p2 : wc.cell? ⟨g, 2, none⟩ = some (.string (B ja)) := by rw [blk_cell hg.out]; rfl
        have p3 : wc.cell? ⟨g, 3, none⟩ = some (.string (B jb)) := by rw [blk_cell hg.out]; rfl
        have f2 := blk_frozen hg.out 2
        have f3 := blk_frozen hg.out 3
        go_step
        go_step
        go_cut [] from 53 to 64 (fun wd => Hid (wd.heap[g]? = some (.cells #[.bool (partOf o a b x).clash, .string (B (partOf o a b x).o), .string (B (partOf o a b x).a), .string (B (partOf o a b x).b)] 55 (0, 0))) ∧ Hid (Below U.heap.size U wd))
        case first =>
          obtain ⟨z1, z2, z3⟩ := HJ.out
          have q1 := Lib.hid z1
          have q2 := Lib.hid z2
          have q3 := Lib.hid z3
          clear z1 z2 z3
          by_cases hk4 : x.kind = 4
          · have i4 : (x.kind : Int) = 4 := by omega
            go_wp2
            go_meet
            refine ⟨Lib.hid ?_, hbg⟩
            rw [show partOf o a b x = ⟨true, jo, ja, jb⟩ by unfold partOf; rw [if_pos hk4, q1.out, q2.out, q3.out]]
            have h := hg.out
            rw [show ((x.kind : Int) == 4) = true by simp [i4]] at h
            exact h
          · by_cases hk2 : x.kind = 2
            · have i4 : ¬ (x.kind : Int) = 4 := by omega
              have i2 : (x.kind : Int) = 2 := by omega
              go_wp2
              go_meet
              refine ⟨Lib.hid ?_, Lib.hid (below_seti hbg.out hgs _ _)⟩
              rw [show partOf o a b x = ⟨false, jo, jb, jb⟩ by unfold partOf; rw [if_neg hk4, if_pos hk2, q1.out, q3.out]]
              have h := hg.out
              rw [show ((x.kind : Int) == 4) = false by simp [hk2]] at h
              exact blk_set h 2 _
            · have i4 : ¬ (x.kind : Int) = 4 := by omega
              have i2 : ¬ (x.kind : Int) = 2 := by omega
              go_wp2
              go_meet
              refine ⟨Lib.hid ?_, Lib.hid (below_seti hbg.out hgs _ _)⟩
              rw [show partOf o a b x = ⟨false, jo, ja, ja⟩ by unfold partOf; rw [if_neg hk4, if_neg hk2, q1.out, q2.out]]
              have h := hg.out
              rw [show ((x.kind : Int) == 4) = false by simp; omega] at h
              exact blk_set h 3 _
        case rest =>
          obtain ⟨hg2, hb2⟩ := hcut
          clear p0 p1 p2 p3 f2 f3 e0 hg hbg HG
          obtain ⟨P, hP⟩ : ∃ P, P = partOf o a b x := ⟨_, rfl⟩
          rw [← hP] at hg2
          obtain ⟨out, hout⟩ : ∃ out, out = (cs.take k).foldl (fun out c => addPart out (partOf o a b c)) [] := ⟨_, rfl⟩
          rw [← hout] at HR
          have HNX : Hid ((cs.take (k + 1)).foldl (fun out c => addPart out (partOf o a b c)) [] = addPart out P) := Lib.hid (by rw [List.take_add_one, hx, hout, hP]; simp)
          have hol : out.length ≤ k := by rw [hout]; exact Nat.le_trans (addParts_length _ _) (by rw [List.length_take]; exact Nat.min_le_left _ _)
          have HFO : Hid (∀ q ∈ out, Fits (k * 100000) q) := Lib.hid (fun q hq => by
            rw [hout] at hq
            have := addParts_fits (T := 100000) (partOf o a b) HFI.out (cs.take k) [] 0 (fun _ h => by cases h) q hq
            rw [List.length_take, Nat.min_eq_left hk, Nat.zero_add] at this
            exact this)
          have HFP : Hid (Fits 100000 P) := Lib.hid (by rw [hP]; exact HFI.out x)
          have cadd : IntKind.i64.wrap ((k : Int) + 1) = ((k + 1 : Nat) : Int) := by rw [IntWalk.i64_in _ (by omega)]; omega
          have hbw : Below wr.heap.size wr wc := HUB.out.trans (hb2.out.mono HUB.out.size)
          have HRw : Hid (kPart.R 55 wc W2.heap.size (fun _ => True) u7 out) := Lib.hid (Kd.R_below HR.out hbw)
          have HBc : Hid (Below W2.heap.size W2 wc) := Lib.hid (HB.out.trans (hbw.mono HB.out.size))
          have HZc : Hid (W2.heap.size ≤ wc.heap.size) := Lib.hid HBc.out.size
          have hzg : W2.heap.size ≤ g := Nat.le_trans HB.out.size (Nat.le_trans HUB.out.size hgs)
          clear HR HB hb2 hbw hP hout HJ HUG HUB HUw hgs g0 x1 x2 x3 x4 x5 x6 x7
          obtain ⟨pc, po, pa, pb⟩ := P
          simp only at hg2
          have p0 : wc.cell? ⟨g, 0, none⟩ = some (.bool pc) := by rw [blk_cell hg2.out]; rfl
          have p1 : wc.cell? ⟨g, 1, none⟩ = some (.string (B po)) := by rw [blk_cell hg2.out]; rfl
          have p2 : wc.cell? ⟨g, 2, none⟩ = some (.string (B pa)) := by rw [blk_cell hg2.out]; rfl
          have p3 : wc.cell? ⟨g, 3, none⟩ = some (.string (B pb)) := by rw [blk_cell hg2.out]; rfl
          have pl := blk_lt hg2.out
          cases pc with
          | true =>
            obtain ⟨A0, c0, rfl, hc0, hC0⟩ := Kd.R_reads HRw.out
            clear hC0
            go_wp2_with (at_builtin; go_loud (refine Kd.R_append kPart (w0 := W2) W2.heap.size rfl _ _ 41 55 _ 56 rfl Tryz.underlying41 infoPart rfl (by decide) (by decide) (.slice A0 out.length c0) out ⟨true, po, pa, pb⟩ (partCells ⟨true, po, pa, pb⟩) (fun _ => True) (fun _ => False) rfl rfl (kPart_mk _ _ _ _) (fun _ h => h.elim) (fun _ _ => trivial) HRw.out HBc.out HZc.out (by first | omega | (simp; omega)) ?_; intro v1 w1 hR1 hb1 hg1 hat1))
            go_roundw
            case rel =>
              exact ⟨k + 1, by omega, rfl, Lib.hid (by rw [HNX.out, addPart_clash _ _ rfl]; exact hR1), Lib.hid hb1⟩
            · simp only [intOf]; omega
          | false =>
            rcases List.eq_nil_or_concat out with rfl | ⟨pre, l, rfl⟩
            · obtain ⟨A0, c0, rfl, hc0, hC0⟩ := Kd.R_reads HRw.out
              clear hC0
              go_wp2_with (at_builtin; go_loud (refine Kd.R_append kPart (w0 := W2) W2.heap.size rfl _ _ 41 55 _ 56 rfl Tryz.underlying41 infoPart rfl (by decide) (by decide) (.slice A0 0 c0) [] ⟨false, po, pa, pb⟩ (partCells ⟨false, po, pa, pb⟩) (fun _ => True) (fun _ => False) rfl rfl (kPart_mk _ _ _ _) (fun _ h => h.elim) (fun _ _ => trivial) HRw.out HBc.out HZc.out (by first | omega | (simp; omega)) ?_; intro v1 w1 hR1 hb1 hg1 hat1))
              go_roundw
              case rel =>
                exact ⟨k + 1, by omega, rfl, Lib.hid (by rw [HNX.out, addPart_nil]; exact hR1), Lib.hid hb1⟩
              · simp only [intOf]; omega
            · rw [List.concat_eq_append] at HRw HNX hol
              obtain ⟨gr, cr, rfl, hgr, _⟩ := Kd.R_form HRw.out (by simp)
              obtain ⟨M, hM⟩ : ∃ M, M = pre.length := ⟨_, rfl⟩
              obtain ⟨N, hN⟩ : ∃ N, N = M + 1 := ⟨_, rfl⟩
              have hlN : (pre ++ [l]).length = N := by simp; omega
              rw [hlN] at HRw hol ⊢
              obtain ⟨lk, lo', la', lb'⟩ := l
              have HRL : Hid (RL wc W2.heap.size gr cr pre ⟨lk, lo', la', lb'⟩) := Lib.hid (by unfold RL; rw [← hM, ← hN]; exact HRw.out)
              have i1 : (0 : Int) < (N : Int) := by omega
              have i2 : IntKind.i64.wrap ((N : Int) - 1) = (M : Int) := by rw [IntWalk.i64_in _ (by omega)]; omega
              have i3 : (M : Int) < (N : Int) := by omega
              have l0 := HRL.out.cells 0 _ rfl
              rw [← hM] at l0
              have l0' := l0.1
              have l1 := HRL.out.cells 1 _ rfl
              have l2 := HRL.out.cells 2 _ rfl
              have l3 := HRL.out.cells 3 _ rfl
              rw [← hM] at l1 l2 l3
              obtain ⟨l1, k1⟩ := l1
              obtain ⟨l2, k2⟩ := l2
              obtain ⟨l3, k3⟩ := l3
              simp only [Nat.add_zero] at l0'
              have HM := Lib.hid hM
              have HN := Lib.hid hN
              have HLN := Lib.hid hlN
              clear l0 hM hN hlN
              cases lk with
              | true =>
                go_wp2_with (at_builtin; go_loud (refine Kd.R_append kPart (w0 := W2) W2.heap.size rfl _ _ 41 55 _ 56 rfl Tryz.underlying41 infoPart rfl (by decide) (by decide) (.slice (some ⟨gr, 0, none⟩) N cr) (pre ++ [⟨true, lo', la', lb'⟩]) ⟨false, po, pa, pb⟩ (partCells ⟨false, po, pa, pb⟩) (fun _ => True) (fun _ => False) rfl rfl (kPart_mk _ _ _ _) (fun _ h => h.elim) (fun _ _ => trivial) HRw.out HBc.out HZc.out (by rw [HLN.out]; omega) ?_; intro v1 w1 hR1 hb1 hg1 hat1))
                go_roundw
                case rel =>
                  exact ⟨k + 1, by omega, rfl, Lib.hid (by rw [HNX.out, addPart_last _ _ _ rfl]; exact hR1), Lib.hid hb1⟩
                · simp only [intOf]; omega
              | false =>
                simp only at l1 l2 l3
                obtain ⟨w1, w2, w3⟩ := HFO.out ⟨false, lo', la', lb'⟩ (by simp)
                obtain ⟨w4, w5, w6⟩ := HFP.out
                simp only at w1 w2 w3 w4 w5 w6
                have s1 : ¬ 9223372036854775807 < lo'.length + po.length := by omega
                have s2 : ¬ 9223372036854775807 < la'.length + pa.length := by omega
                have s3 : ¬ 9223372036854775807 < lb'.length + pb.length := by omega
                clear w1 w2 w3 w4 w5 w6
                go_upto_region 14 with fail
                go_cut [] from 87 to 116 (fun wd => Hid (RL wd W2.heap.size gr cr pre ⟨false, lo' ++ po, la' ++ pa, lb' ++ pb⟩) ∧ Hid (Below W2.heap.size W2 wd))
                case first =>
                  have r3 := ((HRL.out.put 1 (lo' ++ po) _ (.inl ⟨rfl, rfl⟩)).put 2 (la' ++ pa) _ (.inr (.inl ⟨rfl, rfl⟩))).put 3 (lb' ++ pb) _ (.inr (.inr ⟨rfl, rfl⟩))
                  rw [← HM.out] at r3
                  have HR3 := Lib.hid r3
                  have HG := Lib.hid hgr
                  clear r3
                  go_region
                  go_step
                  go_step
                  go_meet
                  exact ⟨Lib.hid (Kd.R_drew HR3.out), Lib.hid ((below_seti (below_seti (below_seti HBc.out HG.out _ _) HG.out _ _) HG.out _ _).drew)⟩
                case rest =>
                  obtain ⟨hR4, hb4⟩ := hcut
                  go_wp2
                  go_roundw
                  case rel =>
                    exact ⟨k + 1, by omega, rfl, Lib.hid (by rw [HNX.out, addPart_merge _ _ _ rfl rfl]; have := hR4.out; unfold RL at this; rw [← HM.out, ← HN.out] at this; exact this), hb4⟩
                  · simp only [intOf]; omega

end Go.Proofs.YtogfkfkejaiecaaGreatDoor.Dn
