/- Contracts of package marker: which mark a line is. -/
import Derived.Test.YtggeelejmhihdaaDoorMk
import Derived.Test.YtggeelejmhihdaaDoorMl
namespace Go.Proofs.YtggeelejmhihdaaDoor.Mm
open Go.RowKit Go.Shelf Go.Proofs.YtggeelejmhihdaaDoor.Pl Go.Proofs.YtggeelejmhihdaaDoor.Ut Go.Proofs.YtggeelejmhihdaaDoor.Ln Go.Proofs.YtggeelejmhihdaaDoor.Mk Go.Proofs.YtggeelejmhihdaaDoor.Ml Go.Proofs.YtggeelejmhihdaaDoorW.PrintWords
set_option linter.unusedVariables false
set_option linter.unusedSimpArgs false
attribute [local go_sem] B_append B_extract B_toList B_size take_end

def signC : Nat → UInt8
  | 0 => 60
  | 1 => 124
  | 2 => 61
  | _ => 62
def signW : Nat → Str
  | 0 => wOurs
  | 1 => wBase
  | 2 => []
  | _ => wTheirs
def markQ (line : Str) (n q : Nat) : Option Bool := markOne line n (signC q) (signW q)
/-- The result, as numbers. -/
def markR : Option (Nat × Bool) → Int × Bool
  | none => (-1, false)
  | some (k, c) => (k, c)
theorem markL_hit (line : Str) (n q : Nat) (cut : Bool) (hq : q < 4) (hno : ∀ p, p < q → markQ line n p = none) (h : markQ line n q = some cut) : markL line n = some (q, cut) := by
  have hcase : q = 0 ∨ q = 1 ∨ q = 2 ∨ q = 3 := by omega
  unfold markL
  rcases hcase with rfl | rfl | rfl | rfl
  · have h0 : markOne line n 60 wOurs = some cut := h
    rw [h0]
  · have h0 : markOne line n 60 wOurs = none := hno 0 (by omega)
    have h1 : markOne line n 124 wBase = some cut := h
    rw [h0, h1]
  · have h0 : markOne line n 60 wOurs = none := hno 0 (by omega)
    have h1 : markOne line n 124 wBase = none := hno 1 (by omega)
    have h2 : markOne line n 61 [] = some cut := h
    rw [h0, h1, h2]
  · have h0 : markOne line n 60 wOurs = none := hno 0 (by omega)
    have h1 : markOne line n 124 wBase = none := hno 1 (by omega)
    have h2 : markOne line n 61 [] = none := hno 2 (by omega)
    have h3 : markOne line n 62 wTheirs = some cut := h
    rw [h0, h1, h2, h3]
theorem markL_none (line : Str) (n : Nat) (hno : ∀ p, p < 4 → markQ line n p = none) : markL line n = none := by
  have h0 : markOne line n 60 wOurs = none := hno 0 (by omega)
  have h1 : markOne line n 124 wBase = none := hno 1 (by omega)
  have h2 : markOne line n 61 [] = none := hno 2 (by omega)
  have h3 : markOne line n 62 wTheirs = none := hno 3 (by omega)
  unfold markL
  rw [h0, h1, h2, h3]
/-- What is left behind the marks, and behind the sign. -/
def restOf (r : Str) : Str := Lib.trimPrefix r [33]
theorem markOne_eq (line : Str) (n : Nat) (c : UInt8) (word : Str) : markOne line n c word =
    if Lib.hasPrefix line (List.replicate n c) then (if restOf (line.drop n) = [10] ∨ (word ≠ [] ∧ restOf (line.drop n) = 32 :: word ++ [10]) then some (Lib.hasPrefix (line.drop n) [33]) else none) else none := by
  unfold markOne restOf Lib.trimPrefix Lib.hasPrefix
  rfl
theorem cutPrefix_any (s p : Str) (w : World) :
    Calls Tryd.prog 38 #[.string (B s), .string (B p)] w fun e w' => e = .returned (.tuple #[.string (B (Lib.trimPrefix s p)), .bool (Lib.hasPrefix s p)]) ∧ w = w' :=
  (Tryd.strings_CutPrefix (B s) (B p) w).mono fun _ _ ⟨he, hw⟩ => ⟨he, hw.symm⟩
theorem trim_hit {line : Str} {n : Nat} {c : UInt8} (h : Lib.hasPrefix line (List.replicate n c) = true) : Lib.trimPrefix line (List.replicate n c) = line.drop n := by
  unfold Lib.trimPrefix; rw [if_pos h, List.length_replicate]

set_option maxRecDepth 100000 in
set_option maxHeartbeats 8000000 in
theorem mark_any (line : Str) (n : Nat) (w : World) (hS : Signs w) (hn : n ≤ 1000000000) (hl : line.length ≤ 1000000000) :
    Calls Tryd.prog 28 #[.string (B line), .int .i64 n] w fun e w' => e = .returned (.tuple #[.int .i64 (markR (markL line n)).1, .bool (markR (markL line n)).2]) ∧ Below w.heap.size w w' := by
  obtain ⟨s0, s1, s2, s3, s4, s5, s6, s7⟩ := hS
  go_enter Tryd.func28, Tryd.ntmps28
  go_wp2
  clear s0 s1 s2 s3 s4 s5 s6 s7
  go_loopw [12] (fun i wr => ∃ q : Nat, q ≤ 4 ∧ i = .int .i64 q ∧ Hid (∀ p, p < q → markQ line n p = none) ∧ Below w.heap.size w wr) (fun i _ => 4 - (intOf i).toNat)
  case atStart => exact ⟨0, by omega, rfl, Lib.hid (fun p hp => absurd hp (Nat.not_lt_zero _)), Below.refl _ _⟩
  case round =>
    obtain ⟨q, hq, rfl, HNO, hB⟩ := hrel
    have hsz := hB.size
    have hcase : q = 0 ∨ q = 1 ∨ q = 2 ∨ q = 3 ∨ q = 4 := by omega
    rcases hcase with rfl | rfl | rfl | rfl | rfl
    · have hidx : ∀ W, (Instr.index 52 (.agg #[.string (B [60]), .string (B wOurs), .string (B [124]), .string (B wBase), .string (B [61]), .string (B []), .string (B [62]), .string (B wTheirs)]) (.int .i64 0)).run Tryd.prog W = .ok (.agg #[.string (B [60]), .string (B wOurs)]) W := fun _ => by kernel_rfl
      have HQ := Lib.hid (show markQ line n 0 = _ from markOne_eq line n 60 wOurs)
      obtain ⟨r, hr⟩ : ∃ r, r = List.replicate n (60 : UInt8) := ⟨_, rfl⟩
      obtain ⟨m1, hm1⟩ : ∃ m, Lib.hasPrefix line r = m := ⟨_, rfl⟩
      have HR := Lib.hid hr
      clear hr
      go_wp2_with fail
      refine (repeat_any 60 n _ hn).mono ?_
      rw [← HR.out]
      rintro e W1 ⟨rfl, hb1⟩
      have hB1 : Below w.heap.size w W1 := (hB.alloc hsz _).trans (hb1.mono (by simp; omega))
      have p1 : W1.cell? ⟨wr.heap.size, 1, none⟩ = some (.string (B wOurs)) := by
        have h := heap_alloc_new wr (.cells #[.string (B [60]), .string (B wOurs)] 44)
        rw [hb1.cell (p := ⟨wr.heap.size, 1, none⟩) (by simp), cell_of_row _ _ _ _ _ _ h]; rfl
      go_wp2_with fail
      refine (cutPrefix_any line r _).mono ?_
      rw [hm1]
      rintro e w' ⟨rfl, rfl⟩
      cases m1 with
      | false =>
        go_wp2
        go_roundw
        case rel =>
          refine ⟨1, by omega, rfl, Lib.hid (fun p hp => ?_), hB1⟩
          by_cases e : p = 0
          · subst e; rw [HQ.out, ← HR.out, hm1]; rfl
          · exact HNO.out p (by omega)
        case measure => simp [intOf]
      | true =>
        have htr : Lib.trimPrefix line r = line.drop n := by rw [HR.out] at hm1 ⊢; exact trim_hit hm1
        obtain ⟨d, hd⟩ : ∃ d, d = line.drop n := ⟨_, rfl⟩
        rw [htr, ← hd]
        have hdl : d.length ≤ 1000000000 := by rw [hd, List.length_drop]; omega
        have HDD := Lib.hid hd
        clear hd htr
        go_wp2_with fail
        refine (cutPrefix_any d [33] _).mono ?_
        obtain ⟨m2, hm2⟩ : ∃ m, Lib.hasPrefix d [33] = m := ⟨_, rfl⟩
        obtain ⟨t, ht⟩ : ∃ t, t = restOf d := ⟨_, rfl⟩
        rw [hm2, show Lib.trimPrefix d [33] = t from ht.symm]
        rintro e w' ⟨rfl, rfl⟩
        have HM1 := Lib.hid hm1
        have HM2 := Lib.hid hm2
        have HTT := Lib.hid ht
        clear hm1 hm2 ht
        have HQ2 := Lib.hid (show markQ line n 0 = if t = [10] ∨ ((wOurs : Str) ≠ [] ∧ t = 32 :: wOurs ++ [10]) then some m2 else none by rw [HQ.out, ← HR.out, HM1.out, ← HDD.out, HM2.out, ← HTT.out]; rfl)
        by_cases hA : t = [10]
        · have HH := Lib.hid (markL_hit line n 0 m2 (by omega) HNO.out (by rw [HQ2.out, if_pos (.inl hA)]))
          have hA1 : (t == [10]) = true := by rw [hA]; rfl
          clear hA
          go_wp2
          go_ret2
          exact ⟨by rw [HH.out]; rfl, hB1⟩
        · have hwl : List.length wOurs ≤ 100 := by decide
          have hwn : ¬ wOurs = [] := by decide
          have hA1 : (t == [10]) = false := by simpa using hA
          by_cases hBn : t = 32 :: wOurs ++ [10]
          · have HH := Lib.hid (markL_hit line n 0 m2 (by omega) HNO.out (by rw [HQ2.out, if_pos (.inr ⟨hwn, hBn⟩)]))
            have hB2 : (t == 32 :: (wOurs ++ [10])) = true := by rw [hBn]; simp
            clear hBn
            go_wp2
            go_ret2
            exact ⟨by rw [HH.out]; rfl, hB1⟩
          · have hB2 : (t == 32 :: (wOurs ++ [10])) = false := by simpa using hBn
            have hA := Lib.hid hA
            have hBn := Lib.hid hBn
            go_wp2
            go_roundw
            case rel =>
              refine ⟨1, by omega, rfl, Lib.hid (fun p hp => ?_), hB1⟩
              by_cases e : p = 0
              · subst e; rw [HQ2.out, if_neg (by rintro (h | ⟨h1, h2⟩); exact hA.out h; exact hBn.out h2)]
              · exact HNO.out p (by omega)
            case measure => simp [intOf]
    · have hidx : ∀ W, (Instr.index 52 (.agg #[.string (B [60]), .string (B wOurs), .string (B [124]), .string (B wBase), .string (B [61]), .string (B []), .string (B [62]), .string (B wTheirs)]) (.int .i64 1)).run Tryd.prog W = .ok (.agg #[.string (B [124]), .string (B wBase)]) W := fun _ => by kernel_rfl
      have HQ := Lib.hid (show markQ line n 1 = _ from markOne_eq line n 124 wBase)
      obtain ⟨r, hr⟩ : ∃ r, r = List.replicate n (124 : UInt8) := ⟨_, rfl⟩
      obtain ⟨m1, hm1⟩ : ∃ m, Lib.hasPrefix line r = m := ⟨_, rfl⟩
      have HR := Lib.hid hr
      clear hr
      go_wp2_with fail
      refine (repeat_any 124 n _ hn).mono ?_
      rw [← HR.out]
      rintro e W1 ⟨rfl, hb1⟩
      have hB1 : Below w.heap.size w W1 := (hB.alloc hsz _).trans (hb1.mono (by simp; omega))
      have p1 : W1.cell? ⟨wr.heap.size, 1, none⟩ = some (.string (B wBase)) := by
        have h := heap_alloc_new wr (.cells #[.string (B [124]), .string (B wBase)] 44)
        rw [hb1.cell (p := ⟨wr.heap.size, 1, none⟩) (by simp), cell_of_row _ _ _ _ _ _ h]; rfl
      go_wp2_with fail
      refine (cutPrefix_any line r _).mono ?_
      rw [hm1]
      rintro e w' ⟨rfl, rfl⟩
      cases m1 with
      | false =>
        go_wp2
        go_roundw
        case rel =>
          refine ⟨2, by omega, rfl, Lib.hid (fun p hp => ?_), hB1⟩
          by_cases e : p = 1
          · subst e; rw [HQ.out, ← HR.out, hm1]; rfl
          · exact HNO.out p (by omega)
        case measure => simp [intOf]
      | true =>
        have htr : Lib.trimPrefix line r = line.drop n := by rw [HR.out] at hm1 ⊢; exact trim_hit hm1
        obtain ⟨d, hd⟩ : ∃ d, d = line.drop n := ⟨_, rfl⟩
        rw [htr, ← hd]
        have hdl : d.length ≤ 1000000000 := by rw [hd, List.length_drop]; omega
        have HDD := Lib.hid hd
        clear hd htr
        go_wp2_with fail
        refine (cutPrefix_any d [33] _).mono ?_
        obtain ⟨m2, hm2⟩ : ∃ m, Lib.hasPrefix d [33] = m := ⟨_, rfl⟩
        obtain ⟨t, ht⟩ : ∃ t, t = restOf d := ⟨_, rfl⟩
        rw [hm2, show Lib.trimPrefix d [33] = t from ht.symm]
        rintro e w' ⟨rfl, rfl⟩
        have HM1 := Lib.hid hm1
        have HM2 := Lib.hid hm2
        have HTT := Lib.hid ht
        clear hm1 hm2 ht
        have HQ2 := Lib.hid (show markQ line n 1 = if t = [10] ∨ ((wBase : Str) ≠ [] ∧ t = 32 :: wBase ++ [10]) then some m2 else none by rw [HQ.out, ← HR.out, HM1.out, ← HDD.out, HM2.out, ← HTT.out]; rfl)
        by_cases hA : t = [10]
        · have HH := Lib.hid (markL_hit line n 1 m2 (by omega) HNO.out (by rw [HQ2.out, if_pos (.inl hA)]))
          have hA1 : (t == [10]) = true := by rw [hA]; rfl
          clear hA
          go_wp2
          go_ret2
          exact ⟨by rw [HH.out]; rfl, hB1⟩
        · have hwl : List.length wBase ≤ 100 := by decide
          have hwn : ¬ wBase = [] := by decide
          have hA1 : (t == [10]) = false := by simpa using hA
          by_cases hBn : t = 32 :: wBase ++ [10]
          · have HH := Lib.hid (markL_hit line n 1 m2 (by omega) HNO.out (by rw [HQ2.out, if_pos (.inr ⟨hwn, hBn⟩)]))
            have hB2 : (t == 32 :: (wBase ++ [10])) = true := by rw [hBn]; simp
            clear hBn
            go_wp2
            go_ret2
            exact ⟨by rw [HH.out]; rfl, hB1⟩
          · have hB2 : (t == 32 :: (wBase ++ [10])) = false := by simpa using hBn
            have hA := Lib.hid hA
            have hBn := Lib.hid hBn
            go_wp2
            go_roundw
            case rel =>
              refine ⟨2, by omega, rfl, Lib.hid (fun p hp => ?_), hB1⟩
              by_cases e : p = 1
              · subst e; rw [HQ2.out, if_neg (by rintro (h | ⟨h1, h2⟩); exact hA.out h; exact hBn.out h2)]
              · exact HNO.out p (by omega)
            case measure => simp [intOf]
    · have hidx : ∀ W, (Instr.index 52 (.agg #[.string (B [60]), .string (B wOurs), .string (B [124]), .string (B wBase), .string (B [61]), .string (B []), .string (B [62]), .string (B wTheirs)]) (.int .i64 2)).run Tryd.prog W = .ok (.agg #[.string (B [61]), .string (B [])]) W := fun _ => by kernel_rfl
      have HQ := Lib.hid (show markQ line n 2 = _ from markOne_eq line n 61 [])
      obtain ⟨r, hr⟩ : ∃ r, r = List.replicate n (61 : UInt8) := ⟨_, rfl⟩
      obtain ⟨m1, hm1⟩ : ∃ m, Lib.hasPrefix line r = m := ⟨_, rfl⟩
      have HR := Lib.hid hr
      clear hr
      go_wp2_with fail
      refine (repeat_any 61 n _ hn).mono ?_
      rw [← HR.out]
      rintro e W1 ⟨rfl, hb1⟩
      have hB1 : Below w.heap.size w W1 := (hB.alloc hsz _).trans (hb1.mono (by simp; omega))
      have p1 : W1.cell? ⟨wr.heap.size, 1, none⟩ = some (.string (B [])) := by
        have h := heap_alloc_new wr (.cells #[.string (B [61]), .string (B [])] 44)
        rw [hb1.cell (p := ⟨wr.heap.size, 1, none⟩) (by simp), cell_of_row _ _ _ _ _ _ h]; rfl
      go_wp2_with fail
      refine (cutPrefix_any line r _).mono ?_
      rw [hm1]
      rintro e w' ⟨rfl, rfl⟩
      cases m1 with
      | false =>
        go_wp2
        go_roundw
        case rel =>
          refine ⟨3, by omega, rfl, Lib.hid (fun p hp => ?_), hB1⟩
          by_cases e : p = 2
          · subst e; rw [HQ.out, ← HR.out, hm1]; rfl
          · exact HNO.out p (by omega)
        case measure => simp [intOf]
      | true =>
        have htr : Lib.trimPrefix line r = line.drop n := by rw [HR.out] at hm1 ⊢; exact trim_hit hm1
        obtain ⟨d, hd⟩ : ∃ d, d = line.drop n := ⟨_, rfl⟩
        rw [htr, ← hd]
        have hdl : d.length ≤ 1000000000 := by rw [hd, List.length_drop]; omega
        have HDD := Lib.hid hd
        clear hd htr
        go_wp2_with fail
        refine (cutPrefix_any d [33] _).mono ?_
        obtain ⟨m2, hm2⟩ : ∃ m, Lib.hasPrefix d [33] = m := ⟨_, rfl⟩
        obtain ⟨t, ht⟩ : ∃ t, t = restOf d := ⟨_, rfl⟩
        rw [hm2, show Lib.trimPrefix d [33] = t from ht.symm]
        rintro e w' ⟨rfl, rfl⟩
        have HM1 := Lib.hid hm1
        have HM2 := Lib.hid hm2
        have HTT := Lib.hid ht
        clear hm1 hm2 ht
        have HQ2 := Lib.hid (show markQ line n 2 = if t = [10] ∨ (([] : Str) ≠ [] ∧ t = 32 :: [] ++ [10]) then some m2 else none by rw [HQ.out, ← HR.out, HM1.out, ← HDD.out, HM2.out, ← HTT.out]; rfl)
        by_cases hA : t = [10]
        · have HH := Lib.hid (markL_hit line n 2 m2 (by omega) HNO.out (by rw [HQ2.out, if_pos (.inl hA)]))
          have hA1 : (t == [10]) = true := by rw [hA]; rfl
          clear hA
          go_wp2
          go_ret2
          exact ⟨by rw [HH.out]; rfl, hB1⟩
        · have hA1 : (t == [10]) = false := by simpa using hA
          have hA := Lib.hid hA
          go_wp2
          go_roundw
          case rel =>
            refine ⟨3, by omega, rfl, Lib.hid (fun p hp => ?_), hB1⟩
            by_cases e : p = 2
            · subst e; rw [HQ2.out, if_neg (by rintro (h | ⟨h1, h2⟩); exact hA.out h; exact h1 rfl)]
            · exact HNO.out p (by omega)
          case measure => simp [intOf]
    · have hidx : ∀ W, (Instr.index 52 (.agg #[.string (B [60]), .string (B wOurs), .string (B [124]), .string (B wBase), .string (B [61]), .string (B []), .string (B [62]), .string (B wTheirs)]) (.int .i64 3)).run Tryd.prog W = .ok (.agg #[.string (B [62]), .string (B wTheirs)]) W := fun _ => by kernel_rfl
      have HQ := Lib.hid (show markQ line n 3 = _ from markOne_eq line n 62 wTheirs)
      obtain ⟨r, hr⟩ : ∃ r, r = List.replicate n (62 : UInt8) := ⟨_, rfl⟩
      obtain ⟨m1, hm1⟩ : ∃ m, Lib.hasPrefix line r = m := ⟨_, rfl⟩
      have HR := Lib.hid hr
      clear hr
      go_wp2_with fail
      refine (repeat_any 62 n _ hn).mono ?_
      rw [← HR.out]
      rintro e W1 ⟨rfl, hb1⟩
      have hB1 : Below w.heap.size w W1 := (hB.alloc hsz _).trans (hb1.mono (by simp; omega))
      have p1 : W1.cell? ⟨wr.heap.size, 1, none⟩ = some (.string (B wTheirs)) := by
        have h := heap_alloc_new wr (.cells #[.string (B [62]), .string (B wTheirs)] 44)
        rw [hb1.cell (p := ⟨wr.heap.size, 1, none⟩) (by simp), cell_of_row _ _ _ _ _ _ h]; rfl
      go_wp2_with fail
      refine (cutPrefix_any line r _).mono ?_
      rw [hm1]
      rintro e w' ⟨rfl, rfl⟩
      cases m1 with
      | false =>
        go_wp2
        go_roundw
        case rel =>
          refine ⟨4, by omega, rfl, Lib.hid (fun p hp => ?_), hB1⟩
          by_cases e : p = 3
          · subst e; rw [HQ.out, ← HR.out, hm1]; rfl
          · exact HNO.out p (by omega)
        case measure => simp [intOf]
      | true =>
        have htr : Lib.trimPrefix line r = line.drop n := by rw [HR.out] at hm1 ⊢; exact trim_hit hm1
        obtain ⟨d, hd⟩ : ∃ d, d = line.drop n := ⟨_, rfl⟩
        rw [htr, ← hd]
        have hdl : d.length ≤ 1000000000 := by rw [hd, List.length_drop]; omega
        have HDD := Lib.hid hd
        clear hd htr
        go_wp2_with fail
        refine (cutPrefix_any d [33] _).mono ?_
        obtain ⟨m2, hm2⟩ : ∃ m, Lib.hasPrefix d [33] = m := ⟨_, rfl⟩
        obtain ⟨t, ht⟩ : ∃ t, t = restOf d := ⟨_, rfl⟩
        rw [hm2, show Lib.trimPrefix d [33] = t from ht.symm]
        rintro e w' ⟨rfl, rfl⟩
        have HM1 := Lib.hid hm1
        have HM2 := Lib.hid hm2
        have HTT := Lib.hid ht
        clear hm1 hm2 ht
        have HQ2 := Lib.hid (show markQ line n 3 = if t = [10] ∨ ((wTheirs : Str) ≠ [] ∧ t = 32 :: wTheirs ++ [10]) then some m2 else none by rw [HQ.out, ← HR.out, HM1.out, ← HDD.out, HM2.out, ← HTT.out]; rfl)
        by_cases hA : t = [10]
        · have HH := Lib.hid (markL_hit line n 3 m2 (by omega) HNO.out (by rw [HQ2.out, if_pos (.inl hA)]))
          have hA1 : (t == [10]) = true := by rw [hA]; rfl
          clear hA
          go_wp2
          go_ret2
          exact ⟨by rw [HH.out]; rfl, hB1⟩
        · have hwl : List.length wTheirs ≤ 100 := by decide
          have hwn : ¬ wTheirs = [] := by decide
          have hA1 : (t == [10]) = false := by simpa using hA
          by_cases hBn : t = 32 :: wTheirs ++ [10]
          · have HH := Lib.hid (markL_hit line n 3 m2 (by omega) HNO.out (by rw [HQ2.out, if_pos (.inr ⟨hwn, hBn⟩)]))
            have hB2 : (t == 32 :: (wTheirs ++ [10])) = true := by rw [hBn]; simp
            clear hBn
            go_wp2
            go_ret2
            exact ⟨by rw [HH.out]; rfl, hB1⟩
          · have hB2 : (t == 32 :: (wTheirs ++ [10])) = false := by simpa using hBn
            have hA := Lib.hid hA
            have hBn := Lib.hid hBn
            go_wp2
            go_roundw
            case rel =>
              refine ⟨4, by omega, rfl, Lib.hid (fun p hp => ?_), hB1⟩
              by_cases e : p = 3
              · subst e; rw [HQ2.out, if_neg (by rintro (h | ⟨h1, h2⟩); exact hA.out h; exact hBn.out h2)]
              · exact HNO.out p (by omega)
            case measure => simp [intOf]
    · go_wp2
      go_ret2
      exact ⟨by rw [markL_none line n HNO.out]; rfl, hB⟩

end Go.Proofs.YtggeelejmhihdaaDoor.Mm
