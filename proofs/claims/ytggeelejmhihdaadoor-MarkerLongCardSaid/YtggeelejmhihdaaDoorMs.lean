/- Contracts of package marker: Show. -/
import Derived.Test.YtggeelejmhihdaaDoorMk
import Derived.Test.YtggeelejmhihdaaDoorMl
import Derived.Maps.AppendAt
namespace Go.Proofs.YtggeelejmhihdaaDoor.Ms
open Go.RowKit Go.Shelf Go.Proofs.YtggeelejmhihdaaDoor.Pl Go.Proofs.YtggeelejmhihdaaDoor.Ut Go.Proofs.YtggeelejmhihdaaDoor.Ln Go.Proofs.YtggeelejmhihdaaDoor.Mk Go.Proofs.YtggeelejmhihdaaDoor.Ml Go.Proofs.YtggeelejmhihdaaDoorW.PrintWords
set_option linter.unusedVariables false
set_option linter.unusedSimpArgs false
attribute [local go_sem] B_append B_extract B_toList B_size take_end

theorem textsL_take (xs : List Part) (k : Nat) (x : Part) (hx : xs[k]? = some x) : textsL (xs.take (k + 1)) = textsL (xs.take k) ++ [x.o, x.a, x.b] := by
  rw [List.take_add_one, hx]
  simp [textsL]
theorem textsL_length (xs : List Part) : (textsL xs).length = 3 * xs.length := by
  induction xs with
  | nil => rfl
  | cons a t ih => simp [textsL] at ih ⊢; omega
theorem cell_three_new (w : World) (e : TypeId) (a b c : Value) : ∀ (j : Nat) (u : Value), [a, b, c][j]? = some u → (w.alloc (.cells #[a, b, c] e)).cell? ((⟨w.heap.size, 0, none⟩ : Addr).add j) = some u := by
  intro j u hj
  have hb : (w.alloc (.cells #[a, b, c] e)).heap[w.heap.size]? = some (.cells #[a, b, c] e (0, 0)) := heap_alloc_new w _
  rw [add_plain, cell_of_row _ _ _ _ _ _ hb]
  simpa using hj

set_option maxRecDepth 100000 in
set_option maxHeartbeats 4000000 in
theorem show_any (xs : List Part) (N : Nat) (old : Bool) (A : Option Addr) (c : Nat) (w : World) (hC : Kd.C kPart w A xs.length xs) (hS : Signs w) (hN : lengthL (textsL xs) = N) (hN9 : N ≤ 1000000000)
    (hlen : xs.length ≤ 300000) (hx : ∀ p ∈ xs, p.o.length ≤ 1000000000 ∧ p.a.length ≤ 1000000000 ∧ p.b.length ≤ 1000000000) (htot : (printL xs N old).length ≤ 1000000000000) :
    Calls Tryd.prog 8 #[.slice A xs.length c, .bool old] w fun e w' => e = .returned (.tuple #[.string (B (printL xs N old)), .int .i64 N]) ∧ Below w.heap.size w w' := by
  obtain ⟨i0, hi, hz0, hz1, hz2⟩ := info_parts infoString
  have HX := Lib.hid hx
  have HCC := Lib.hid hC
  have HS := Lib.hid hS
  have HN := Lib.hid hN
  have HTOT := Lib.hid htot
  clear hx hC hS hN htot
  go_enter Tryd.func8, Tryd.ntmps8
  go_wp2
  go_loopw [6, 12] (fun v i wr => ∃ k : Nat, k ≤ xs.length ∧ i = .int .i64 k ∧ wr.ownsRow w.heap.size 9 1 v (3 * k) (encs (fun l : Str => .string (B l)) (textsL (xs.take k))) ∧ Below w.heap.size w wr) (fun _ i _ => xs.length - (intOf i).toNat)
  case atStart => exact ⟨0, Nat.zero_le _, rfl, World.ownsRow_nil _ _ _ _, Below.refl _ _⟩
  case round =>
    obtain ⟨k, hk, rfl, hown, hB⟩ := hrel
    have hsz := hB.size
    by_cases hlt : k < xs.length
    · obtain ⟨x, hxk⟩ : ∃ x, xs[k]? = some x := ⟨xs[k], List.getElem?_eq_getElem hlt⟩
      obtain ⟨ad, rfl, p0, p1, p2, p3⟩ := at_part (Kd.C_below HCC.out hB) k hlt x hxk
      have HXK := Lib.hid (textsL_take xs k x hxk)
      clear hxk
      go_wp2_with (at_builtin; refine wpList_append_own _ rfl _ _ 27 rfl w.heap.size 9 i0 (.string ⟨#[]⟩) 1 16 Tryd.underlying27 hi hz0 hz1 hz2 rfl (by decide) _ _ _ rfl ((hown.alloc _).alloc _) ⟨wr.heap.size + 1, 0, none⟩ 3 3 [.string (B x.o), .string (B x.a), .string (B x.b)] rfl rfl ?c1 ?c2 ?c3 ?c4 ?c5 ?_)
      case c1 => have h := cell_three_new (wr.alloc (.cells #[.bool x.clash, .string (B x.o), .string (B x.a), .string (B x.b)] 29)) 9 (.string (B x.o)) (.string (B x.a)) (.string (B x.b)); simpa using h
      case c2 => intro u hu; simp at hu; rcases hu with rfl | rfl | rfl <;> rfl
      case c3 => unfold maxLen; omega
      case c4 => omega
      case c5 => simp; omega
      intro v' w1 hown' hgrow _
      have hB1 : Below w.heap.size w w1 := ((hB.alloc hsz _).alloc (by simp; omega) _).grown hgrow (by simp; omega) (own_base hown)
      go_wp2
      go_roundw
      case rel => exact ⟨k + 1, by omega, by go_num, by rw [HXK.out]; simpa [encs, Nat.mul_add] using hown', hB1⟩
      case measure => simp [intOf]; omega
    · obtain rfl : k = xs.length := by omega
      rw [List.take_length, ← textsL_length] at hown
      have hR : kStr.R 9 wr w.heap.size (fun _ => True) _ (textsL xs) := Kd.R_of_own hown (fun _ _ => trivial)
      obtain ⟨A2, c2, rfl, hc2, hC2⟩ := Kd.R_reads hR
      have hl3 := textsL_length xs
      have HC2 := Lib.hid hC2
      clear hown hR hC2
      have HL3 := Lib.hid hl3
      have hl4 : (textsL xs).length ≤ 1000000 := by omega
      clear hl3
      go_wp2_with fail
      refine (length_any (textsL xs) A2 c2 _ HC2.out (HS.out.below hB) hl4 ?_).mono ?_
      · intro t ht
        simp only [textsL, List.mem_flatMap] at ht
        obtain ⟨p, hp, ht⟩ := ht
        obtain ⟨h1, h2, h3⟩ := HX.out p hp
        simp at ht
        rcases ht with rfl | rfl | rfl <;> assumption
      rw [HN.out]
      rintro e w1 ⟨rfl, hb1⟩
      have hB1 : Below w.heap.size w w1 := hB.trans (hb1.mono hB.size)
      have hN7 : 7 ≤ N := by
        rw [← HN.out]
        have : ∀ (ts : List Str) (n : Nat), n ≤ ts.foldl textMax n := by
          intro ts
          induction ts with
          | nil => intro n; exact Nat.le_refl _
          | cons a t ih =>
            intro n
            refine Nat.le_trans ?_ (ih (textMax n a))
            unfold textMax
            generalize splitL a = ls
            induction ls generalizing n with
            | nil => exact Nat.le_refl _
            | cons b r ih2 => exact Nat.le_trans (by unfold lineMax; omega) (ih2 (lineMax n b))
        exact this _ 7
      go_wp2_with fail
      refine (print_any xs N N old A c _ (Kd.C_below HCC.out hB1) (HS.out.below hB1) (by omega) hN9 (by omega) HX.out HTOT.out).mono ?_
      rintro e w2 ⟨rfl, hb2⟩
      go_wp2
      go_ret2
      exact ⟨rfl, hB1.trans (hb2.mono hB1.size)⟩

end Go.Proofs.YtggeelejmhihdaaDoor.Ms
