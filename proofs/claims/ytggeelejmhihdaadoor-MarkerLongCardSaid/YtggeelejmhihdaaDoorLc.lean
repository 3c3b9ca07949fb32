/- The law MarkerParses, as a walk. -/
import Derived.Test.YtggeelejmhihdaaDoorLb
namespace Go.Proofs.YtggeelejmhihdaaDoor.Lc
open Go.RowKit Go.Shelf Go.Proofs.YtggeelejmhihdaaDoor.Pl Go.Proofs.YtggeelejmhihdaaDoor.Ut Go.Proofs.YtggeelejmhihdaaDoor.Ln Go.Proofs.YtggeelejmhihdaaDoor.Mk Go.Proofs.YtggeelejmhihdaaDoor.Ml Go.Proofs.YtggeelejmhihdaaDoor.Ms Go.Proofs.YtggeelejmhihdaaDoor.Mp Go.Proofs.YtggeelejmhihdaaDoor.Re Go.Proofs.YtggeelejmhihdaaDoor.La Go.Proofs.YtggeelejmhihdaaDoor.Lb Go.Proofs.YtggeelejmhihdaaDoorW.PrintWords
set_option linter.unusedVariables false
set_option linter.unusedSimpArgs false
attribute [local go_sem] B_append B_extract B_toList B_size take_end

theorem foldL_grown {n : Nat} : ∀ (ls : List Str) (s s' : St) (k m : Nat), foldL n s ls = some s' → Grown s k m → Grown s' (k + ls.length) (m + ls.flatten.length)
  | [], s, s', k, m, h, hg => by simp [foldL] at h; subst h; simpa using hg
  | x :: xs, s, s', k, m, h, hg => by
    simp only [foldL] at h
    cases h1 : stepL n s x with
    | none => rw [h1] at h; cases h
    | some s1 =>
      rw [h1, Option.bind_some] at h
      have := foldL_grown xs s1 s' _ _ h (stepL_grown h1 hg)
      simp only [List.length_cons, List.flatten_cons, List.length_append]
      rw [show k + (xs.length + 1) = k + 1 + xs.length by omega, show m + (x.length + xs.flatten.length) = m + x.length + xs.flatten.length by omega]
      exact this
theorem parseL_len {text : Str} {n : Nat} {l : List Part} (h : parseL text n = some l) : l.length ≤ text.length + 1 := by
  unfold parseL at h
  cases h1 : foldL n st0 (splitL text) with
  | none => rw [h1] at h; cases h
  | some s =>
    rw [h1, Option.bind_some] at h
    split at h
    · cases h
      have h2 := foldL_grown _ _ _ 0 0 h1 ⟨by decide, by simp [st0], by simp [st0]⟩
      have h3 := outerL_len s.out s.now
      have h4 := splitL_count text
      have := h2.2.2
      omega
    · cases h

set_option maxRecDepth 100000 in
set_option maxHeartbeats 8000000 in
theorem parses_walk (text : Str) (n : Int) (hn : -9223372036854775808 ≤ n ∧ n ≤ 9223372036854775807) (h63 : text.length ≤ 9223372036854775807) (w : World) (hS : Signs w) :
    Calls Tryd.prog 4 #[.string (B text), .int .i64 n] w fun e w' => e = .returned (.bool true) ∧ Below w.heap.size w w' := by
  go_enter Tryd.func4, Tryd.ntmps4
  go_wp2_with fail
  refine (awake_any w hS).mono ?_
  rintro e w1 ⟨rfl, hB1⟩
  have HS1 := Lib.hid (hS.below hB1)
  have hz1 := hB1.size
  clear hS
  by_cases hl : 1500 < text.length
  · have hl1 : decide ((1500 : Int) < (text.length : Int)) = true := by rw [decide_eq_true_iff]; omega
    go_wp2
    go_ret
    exact ⟨rfl, hB1⟩
  · have hl1 : decide ((1500 : Int) < (text.length : Int)) = false := by rw [decide_eq_false_iff_not]; omega
    by_cases hn1 : n < 1
    · go_wp2_with fail
      refine (parse_low text n hn1 w1).mono ?_
      rintro e w2 ⟨rfl, rfl⟩
      go_wp2_with fail
      refine (rparse_low text n hn1 _).mono ?_
      rintro e w3 ⟨rfl, rfl⟩
      go_wp2_with fail
      refine (same_any [] [] none none 0 0 _ (Kd.C_nil kPart _) (Kd.C_nil kPart _) (by simp) (by simp)).mono ?_
      rw [show decide (([] : List Part) = []) = true from by simp]
      rintro e w4 ⟨rfl, hb4⟩
      go_wp2
      go_ret
      exact ⟨rfl, hB1.trans (hb4.mono hz1)⟩
    · obtain ⟨N, rfl⟩ := Int.eq_ofNat_of_zero_le (show 0 ≤ n by omega)
      obtain ⟨m, hm⟩ : ∃ m, m = min N (text.length + 1) := ⟨_, rfl⟩
      obtain ⟨r, hr⟩ : ∃ r, r = parseL text m := ⟨_, rfl⟩
      go_wp2_with fail
      refine (parse_any text N m (by omega) hm (by omega) (by omega) w1 HS1.out).mono ?_
      rw [← hr]
      rintro e w2 ⟨hp, hb2⟩
      have hB2 := hB1.trans (hb2.mono hz1)
      have hz2 := hB2.size
      cases r with
      | none =>
        subst hp
        go_wp2_with fail
        refine (rparse_any text N m (by omega) hm (by omega) (by omega) w2).mono ?_
        rw [← hr]
        rintro e w3 ⟨hp, hb3⟩
        subst hp
        have hB3 := hB2.trans (hb3.mono hz2)
        have hz3 := hB3.size
        go_wp2_with fail
        refine (same_any [] [] none none 0 0 _ (Kd.C_nil kPart _) (Kd.C_nil kPart _) (by simp) (by simp)).mono ?_
        rw [show decide (([] : List Part) = []) = true from by simp]
        rintro e w4 ⟨rfl, hb4⟩
        go_wp2
        go_ret
        exact ⟨rfl, hB3.trans (hb4.mono hz3)⟩
      | some l =>
        obtain ⟨v, rfl, hR⟩ := hp
        obtain ⟨A, c, rfl, hc, hC⟩ := Kd.R_reads hR
        have HC := Lib.hid hC
        clear hR hC
        go_wp2_with fail
        refine (rparse_any text N m (by omega) hm (by omega) (by omega) w2).mono ?_
        rw [← hr]
        rintro e w3 ⟨hp, hb3⟩
        obtain ⟨v, rfl, hR⟩ := hp
        obtain ⟨A', c', rfl, hc', hC'⟩ := Kd.R_reads hR
        have HC' := Lib.hid hC'
        have HC3 := Lib.hid (Kd.C_below HC.out hb3)
        have hB3 := hB2.trans (hb3.mono hz2)
        have hz3 := hB3.size
        have hll : l.length ≤ 1000000000 := by have := parseL_len hr.symm; omega
        clear hR hC' hb3
        go_wp2_with fail
        refine (same_any l l _ _ _ _ w3 HC3.out HC'.out hll hll).mono ?_
        rw [show decide (l = l) = true from by simp]
        rintro e w4 ⟨rfl, hb4⟩
        go_wp2
        go_ret
        exact ⟨rfl, hB3.trans (hb4.mono hz3)⟩

end Go.Proofs.YtggeelejmhihdaaDoor.Lc
