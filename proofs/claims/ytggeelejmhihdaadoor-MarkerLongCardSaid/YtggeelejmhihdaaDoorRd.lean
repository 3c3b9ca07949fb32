/- Contracts of the reference's marker: which, trimmed. -/
import Derived.Test.YtggeelejmhihdaaDoorRc
import Derived.Test.YtggeelejmhihdaaDoorMm
import Derived.Test.YtggeelejmhihdaaDoorBl
namespace Go.Proofs.YtggeelejmhihdaaDoor.Rd
open Go.RowKit Go.Shelf Go.Proofs.YtggeelejmhihdaaDoor.Pl Go.Proofs.YtggeelejmhihdaaDoor.Ut Go.Proofs.YtggeelejmhihdaaDoor.Ln Go.Proofs.YtggeelejmhihdaaDoor.Bl Go.Proofs.YtggeelejmhihdaaDoor.Mm Go.Proofs.YtggeelejmhihdaaDoor.Ra Go.Proofs.YtggeelejmhihdaaDoor.Rb Go.Proofs.YtggeelejmhihdaaDoorW.PrintWords
set_option linter.unusedVariables false
set_option linter.unusedSimpArgs false
attribute [local go_sem] B_append B_extract B_toList B_size take_end addr_off

/-- What stands behind the marks. -/
def tailL (cut : Bool) (word : Str) : Str := (if cut then [33] else []) ++ (if word = [] then [] else 32 :: word) ++ [10]
theorem lineL_tail (c : UInt8) (n : Nat) (cut : Bool) (word : Str) : lineL c n cut word = List.replicate n c ++ tailL cut word := by
  unfold lineL tailL; simp [List.append_assoc]
theorem tail_false_head (word : Str) (t : Str) : tailL false word ≠ 33 :: t := by
  unfold tailL
  by_cases h : word = [] <;> simp [h]
theorem tail_true (word : Str) : tailL true word = 33 :: tailL false word := by
  unfold tailL; simp
theorem tail_false (word : Str) : tailL false word = if word = [] then [10] else 32 :: word ++ [10] := by
  unfold tailL
  by_cases h : word = [] <;> simp [h]
/-- The line is one of the two. -/
def hitL (line : Str) (c : UInt8) (n : Nat) (cut : Bool) (word : Str) : Prop := line = lineL c n cut word ∨ line = lineL c n cut []
theorem hit_iff (rest word : Str) : (rest = [10] ∨ (word ≠ [] ∧ rest = 32 :: word ++ [10])) ↔ (rest = tailL false word ∨ rest = tailL false []) := by
  rw [tail_false, tail_false, if_pos rfl]
  by_cases h : word = []
  · simp [h]
  · rw [if_neg h]
    constructor
    · rintro (h1 | ⟨_, h1⟩)
      · exact .inr h1
      · exact .inl h1
    · rintro (h1 | h1)
      · exact .inr ⟨h, h1⟩
      · exact .inl h1
theorem markOne_lines (line : Str) (n : Nat) (c : UInt8) (word : Str) : (hitL line c n false word → markOne line n c word = some false) ∧ (¬ hitL line c n false word → hitL line c n true word → markOne line n c word = some true) ∧ (¬ hitL line c n false word → ¬ hitL line c n true word → markOne line n c word = none) := by
  unfold hitL
  rw [lineL_tail, lineL_tail, lineL_tail, lineL_tail]
  by_cases hp : (List.replicate n c).isPrefixOf line = true
  · obtain ⟨r, rfl⟩ := List.isPrefixOf_iff_prefix.1 hp
    have hd : (List.replicate n c ++ r).drop n = r := by
      have := List.drop_left (l₁ := List.replicate n c) (l₂ := r)
      rwa [List.length_replicate] at this
    have e : ∀ x : Str, (List.replicate n c ++ r = List.replicate n c ++ x) ↔ r = x := fun x => ⟨fun h => List.append_cancel_left h, fun h => by rw [h]⟩
    rw [e, e, e, e]
    unfold markOne
    rw [if_pos hp]
    simp only [hd]
    by_cases hr : [33].isPrefixOf r = true
    · obtain ⟨t, rfl⟩ := List.isPrefixOf_iff_prefix.1 hr
      have hpp : [33].isPrefixOf (33 :: t) = true := by simp [List.isPrefixOf]
      simp only [List.singleton_append, List.drop_succ_cons, List.drop_zero, hpp, if_true]
      rw [tail_true, tail_true]
      have n1 : ∀ w : Str, ¬ (33 :: t = tailL false w) := fun w h => tail_false_head w t h.symm
      simp only [n1, or_false, false_or, List.cons.injEq, true_and, not_false_eq_true, true_implies, false_implies, hit_iff]
      refine ⟨fun h => ?_, fun h => ?_⟩
      · rw [if_pos h]
      · rw [if_neg h]
    · have hrb : [33].isPrefixOf r = false := Bool.eq_false_iff.2 hr
      simp only [hrb, Bool.false_eq_true, if_false]
      rw [tail_true, tail_true]
      have n1 : ∀ w : Str, ¬ (r = 33 :: w) := fun w h => hr (by rw [h]; simp [List.isPrefixOf])
      simp only [n1, or_false, false_or, not_false_eq_true, true_implies, false_implies, implies_true, hit_iff]
      refine ⟨fun h => ?_, trivial, fun h => ?_⟩
      · rw [if_pos h]
      · rw [if_neg h]
  · have n1 : ∀ x : Str, ¬ (line = List.replicate n c ++ x) := fun x h => hp (List.isPrefixOf_iff_prefix.2 ⟨x, h.symm⟩)
    simp only [n1, or_false, false_implies, not_false_eq_true, true_implies, true_and]
    unfold markOne
    rw [if_neg hp]
theorem markOne_short (line : Str) (n : Nat) (c : UInt8) (word : Str) (h : line.length ≤ n) : markOne line n c word = none := by
  have hl : ∀ cut w, line ≠ lineL c n cut w := fun cut w e => by
    have := congrArg List.length e
    rw [lineL_tail, List.length_append, List.length_replicate] at this
    have : 0 < (tailL cut w).length := by unfold tailL; simp; omega
    omega
  refine (markOne_lines line n c word).2.2 ?_ ?_
  · rintro (h | h) <;> exact hl _ _ h
  · rintro (h | h) <;> exact hl _ _ h
/-- The result of the reference, as numbers. -/
def whichR : Option (Nat × Bool) → Int × Bool
  | none => (0, false)
  | some (q, c) => (q + 1, c)

set_option maxRecDepth 100000 in
set_option maxHeartbeats 4000000 in
theorem which_any (line : Str) (n : Nat) (w : World) (hn : n ≤ 1000000000) (hl : line.length ≤ 1000000000) :
    Calls Tryd.prog 31 #[.string (B line), .int .i64 n] w fun e w' => e = .returned (.tuple #[.int .i64 (whichR (markL line n)).1, .bool (whichR (markL line n)).2]) ∧ Below w.heap.size w w' := by
  go_enter Tryd.func31, Tryd.ntmps31
  by_cases hs : line.length ≤ n
  · have hs1 : decide (line.length ≤ n) = true := by simpa using hs
    have HM := Lib.hid (show markL line n = none from markL_none line n (fun p _ => markOne_short _ _ _ _ hs))
    go_wp2
    go_ret2
    rw [HM.out]
    exact ⟨rfl, Below.refl _ _⟩
  · have hs1 : decide (line.length ≤ n) = false := by simpa using hs
    obtain ⟨W1, hW1⟩ : ∃ W1, W1 = (w.alloc (.cells #[.string (B [60]), .string (B [124]), .string (B [61]), .string (B [62])] 9)).alloc (.cells #[.string (B wOurs), .string (B wBase), .string (B []), .string (B wTheirs)] 9) := ⟨_, rfl⟩
    have hB0 : Below w.heap.size w W1 := by rw [hW1]; exact ((Below.refl _ w).alloc (Nat.le_refl _) _).alloc (by simp) _
    have hk1 : W1.heap[w.heap.size]? = some (.cells #[.string (B [60]), .string (B [124]), .string (B [61]), .string (B [62])] 9 (0, 0)) := by
      rw [hW1]
      exact (Below.heap_alloc _ _ _ (by simp)).trans (heap_alloc_new w _)
    have hk2 : W1.heap[w.heap.size + 1]? = some (.cells #[.string (B wOurs), .string (B wBase), .string (B []), .string (B wTheirs)] 9 (0, 0)) := by
      rw [hW1]
      have := heap_alloc_new (w.alloc (.cells #[.string (B [60]), .string (B [124]), .string (B [61]), .string (B [62])] 9)) (.cells #[.string (B wOurs), .string (B wBase), .string (B []), .string (B wTheirs)] 9)
      simpa using this
    have hc1 : ∀ i, i < 4 → W1.cell? ⟨w.heap.size, i, none⟩ = some (.string (B [signC i])) := fun i hi => by
      rw [cell_of_row W1 _ _ _ _ _ hk1]
      have : i = 0 ∨ i = 1 ∨ i = 2 ∨ i = 3 := by omega
      rcases this with rfl | rfl | rfl | rfl <;> rfl
    have hc2 : ∀ i, i < 4 → W1.cell? ⟨w.heap.size + 1, i, none⟩ = some (.string (B (signW i))) := fun i hi => by
      rw [cell_of_row W1 _ _ _ _ _ hk2]
      have : i = 0 ∨ i = 1 ∨ i = 2 ∨ i = 3 := by omega
      rcases this with rfl | rfl | rfl | rfl <;> rfl
    have hww : ∀ i, (signW i).length ≤ 1000000000 := fun i => by
      unfold signW
      split <;> decide
    have hl1 : w.heap.size < W1.heap.size := by rw [hW1]; simp; omega
    have hl2 : w.heap.size + 1 < W1.heap.size := by rw [hW1]; simp
    have HC1 := Lib.hid hc1
    have HC2 := Lib.hid hc2
    have HWW := Lib.hid hww
    clear hc1 hc2 hk1 hk2 hww
    go_wp2_with fail
    change Code.wp _ _ _ _ ((w.alloc (.cells #[.string (B [60]), .string (B [124]), .string (B [61]), .string (B [62])] 9)).alloc (.cells #[.string (B wOurs), .string (B wBase), .string (B []), .string (B wTheirs)] 9))
    rw [← hW1]
    clear hW1
    go_loopw [8] (fun i wr => ∃ q : Nat, q ≤ 4 ∧ i = .int .i64 q ∧ Hid (∀ p, p < q → markQ line n p = none) ∧ Below W1.heap.size W1 wr) (fun i _ => 4 - (intOf i).toNat)
    case atStart => exact ⟨0, by omega, rfl, Lib.hid (fun p hp => absurd hp (Nat.not_lt_zero _)), Below.refl _ _⟩
    case round =>
      obtain ⟨q, hq, rfl, HNO, hB⟩ := hrel
      obtain ⟨wo, rfl⟩ : ∃ wo : World, wo = wr := ⟨_, rfl⟩
      have hsz := hB.size
      by_cases hlt : q < 4
      · obtain ⟨c, hc⟩ : ∃ c, c = signC q := ⟨_, rfl⟩
        obtain ⟨wd, hwd⟩ : ∃ wd, wd = signW q := ⟨_, rfl⟩
        have hwl : wd.length ≤ 1000000000 := by rw [hwd]; exact HWW.out q
        have e1 := HC1.out q hlt
        have e2 := HC2.out q hlt
        rw [← hc] at e1
        rw [← hwd] at e2
        have HQ := Lib.hid (show ∀ r, markOne line n c wd = r → markQ line n q = r from fun r h => by rw [← h, hc, hwd]; rfl)
        clear hc hwd
        have hd4 : decide ((q : Int) < 4) = true := by rw [decide_eq_true_iff]; omega
        go_wp2
        go_loopw [9] (fun j wr => ∃ k : Nat, k ≤ 2 ∧ j = .int .i64 k ∧ Hid ((1 ≤ k → ¬ hitL line c n false wd) ∧ (2 ≤ k → ¬ hitL line c n true wd)) ∧ Below W1.heap.size W1 wr) (fun j _ => 2 - (intOf j).toNat)
        case atStart => exact ⟨0, by omega, rfl, Lib.hid ⟨fun h => by omega, fun h => by omega⟩, hB⟩
        case round =>
          obtain ⟨k, hk, rfl, HK, hB1⟩ := hrel
          obtain ⟨wi, rfl⟩ : ∃ wi : World, wi = wr := ⟨_, rfl⟩
          have b1 : wi.cell? ⟨w.heap.size, q, none⟩ = some (.string (B [c])) := (hB1.cell (p := ⟨w.heap.size, q, none⟩) hl1).trans e1
          have b2 : wi.cell? ⟨w.heap.size + 1, q, none⟩ = some (.string (B wd)) := (hB1.cell (p := ⟨w.heap.size + 1, q, none⟩) hl2).trans e2
          have hcase : k = 0 ∨ k = 1 ∨ k = 2 := by omega
          rcases hcase with rfl | rfl | rfl
          · obtain ⟨l1, h1⟩ : ∃ l, l = lineL c n false wd := ⟨_, rfl⟩
            obtain ⟨l2, h2⟩ : ∃ l, l = lineL c n false [] := ⟨_, rfl⟩
            have k1 : ∀ W, Calls Tryd.prog 22 #[.string (B [c]), .int .i64 n, .bool false, .string (B wd)] W fun e w' => e = .returned (.string (B l1)) ∧ w' = W := fun W => by rw [h1]; exact rmark_any _ _ _ _ W hn hwl
            have k2 : ∀ W, Calls Tryd.prog 22 #[.string (B [c]), .int .i64 n, .bool false, .string (B [])] W fun e w' => e = .returned (.string (B l2)) ∧ w' = W := fun W => by rw [h2]; exact rmark_any _ _ _ _ W hn (by decide)
            have K1 := Lib.hid k1
            have K2 := Lib.hid k2
            have HH := Lib.hid (show (line = l1 ∨ line = l2) ↔ hitL line c n false wd from by rw [h1, h2]; exact Iff.rfl)
            clear k1 k2 h1 h2
            go_wp2_with fail
            go_quiet ((go_at_call 22; exact Calls.quiet_of_same (K1.out _)))
            go_wp2_with fail
            refine (K2.out _).mono ?_
            rintro e w2 ⟨rfl, rfl⟩
            by_cases hh : hitL line c n false wd
            · have HM := Lib.hid (markL_hit line n q false hlt HNO.out (HQ.out _ ((markOne_lines line n c wd).1 hh)))
              have hor := HH.out.2 hh
              have HHH := Lib.hid hh
              clear hh
              by_cases a1 : line = l1
              · have a2 : (line == l1) = true := by simpa using a1
                have A1 := Lib.hid a1
                clear a1 hor
                go_wp2
                go_ret2
                rw [HM.out]
                exact ⟨rfl, hB0.trans ((pw_below_drewN hB1 _).mono hB0.size)⟩
              · have a2 : (line == l1) = false := by simpa using a1
                have a3 : (line == l2) = true := by simpa using hor.resolve_left a1
                have A1 := Lib.hid a1
                clear a1 hor
                go_wp2
                go_ret2
                rw [HM.out]
                exact ⟨rfl, hB0.trans ((pw_below_drewN hB1 _).mono hB0.size)⟩
            · have a1 : (line == l1) = false := by simpa using fun h => hh (HH.out.1 (.inl h))
              have a2 : (line == l2) = false := by simpa using fun h => hh (HH.out.1 (.inr h))
              have HHH := Lib.hid hh
              clear hh
              go_wp2
              go_roundw
              case rel => exact ⟨0+1, by omega, by first | rfl | go_num, Lib.hid ⟨fun _ => HHH.out, fun h => by omega⟩, pw_below_drewN hB1 _⟩
              case measure => simp [intOf]
          · obtain ⟨l1, h1⟩ : ∃ l, l = lineL c n true wd := ⟨_, rfl⟩
            obtain ⟨l2, h2⟩ : ∃ l, l = lineL c n true [] := ⟨_, rfl⟩
            have k1 : ∀ W, Calls Tryd.prog 22 #[.string (B [c]), .int .i64 n, .bool true, .string (B wd)] W fun e w' => e = .returned (.string (B l1)) ∧ w' = W := fun W => by rw [h1]; exact rmark_any _ _ _ _ W hn hwl
            have k2 : ∀ W, Calls Tryd.prog 22 #[.string (B [c]), .int .i64 n, .bool true, .string (B [])] W fun e w' => e = .returned (.string (B l2)) ∧ w' = W := fun W => by rw [h2]; exact rmark_any _ _ _ _ W hn (by decide)
            have K1 := Lib.hid k1
            have K2 := Lib.hid k2
            have HH := Lib.hid (show (line = l1 ∨ line = l2) ↔ hitL line c n true wd from by rw [h1, h2]; exact Iff.rfl)
            clear k1 k2 h1 h2
            go_wp2_with fail
            go_quiet ((go_at_call 22; exact Calls.quiet_of_same (K1.out _)))
            go_wp2_with fail
            refine (K2.out _).mono ?_
            rintro e w2 ⟨rfl, rfl⟩
            by_cases hh : hitL line c n true wd
            · have HM := Lib.hid (markL_hit line n q true hlt HNO.out (HQ.out _ ((markOne_lines line n c wd).2.1 (HK.out.1 (by omega)) hh)))
              have hor := HH.out.2 hh
              have HHH := Lib.hid hh
              clear hh
              by_cases a1 : line = l1
              · have a2 : (line == l1) = true := by simpa using a1
                have A1 := Lib.hid a1
                clear a1 hor
                go_wp2
                go_ret2
                rw [HM.out]
                exact ⟨rfl, hB0.trans ((pw_below_drewN hB1 _).mono hB0.size)⟩
              · have a2 : (line == l1) = false := by simpa using a1
                have a3 : (line == l2) = true := by simpa using hor.resolve_left a1
                have A1 := Lib.hid a1
                clear a1 hor
                go_wp2
                go_ret2
                rw [HM.out]
                exact ⟨rfl, hB0.trans ((pw_below_drewN hB1 _).mono hB0.size)⟩
            · have a1 : (line == l1) = false := by simpa using fun h => hh (HH.out.1 (.inl h))
              have a2 : (line == l2) = false := by simpa using fun h => hh (HH.out.1 (.inr h))
              have HHH := Lib.hid hh
              clear hh
              go_wp2
              go_roundw
              case rel => exact ⟨1+1, by omega, by first | rfl | go_num, Lib.hid ⟨fun _ => HK.out.1 (by omega), fun _ => HHH.out⟩, pw_below_drewN hB1 _⟩
              case measure => simp [intOf]
          · have HM := Lib.hid (HQ.out _ ((markOne_lines line n c wd).2.2 (HK.out.1 (by omega)) (HK.out.2 (by omega))))
            go_wp2
            go_roundw
            case rel =>
              refine ⟨q + 1, by omega, by go_num, Lib.hid (fun p hp => ?_), hB1⟩
              by_cases e : p = q
              · subst e; exact HM.out
              · exact HNO.out p (by omega)
            case measure => simp [intOf]; omega
      · obtain rfl : q = 4 := by omega
        have HM := Lib.hid (markL_none line n HNO.out)
        go_wp2
        go_ret2
        rw [HM.out]
        exact ⟨rfl, hB0.trans (hB.mono hB0.size)⟩

end Go.Proofs.YtggeelejmhihdaaDoor.Rd
