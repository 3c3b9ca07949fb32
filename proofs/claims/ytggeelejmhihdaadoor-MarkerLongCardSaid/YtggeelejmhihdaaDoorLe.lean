/- The law MarkerLong: the plain law, and the walk. -/
import Derived.Test.YtggeelejmhihdaaDoorLd
namespace Go.Proofs.YtggeelejmhihdaaDoor.Le
open Go.RowKit Go.Shelf Go.Proofs.YtggeelejmhihdaaDoor.Pl Go.Proofs.YtggeelejmhihdaaDoor.Ut Go.Proofs.YtggeelejmhihdaaDoor.Ln Go.Proofs.YtggeelejmhihdaaDoor.Mk Go.Proofs.YtggeelejmhihdaaDoor.Ml Go.Proofs.YtggeelejmhihdaaDoor.Ms Go.Proofs.YtggeelejmhihdaaDoor.Mp Go.Proofs.YtggeelejmhihdaaDoor.Rc Go.Proofs.YtggeelejmhihdaaDoor.Re Go.Proofs.YtggeelejmhihdaaDoor.La Go.Proofs.YtggeelejmhihdaaDoor.Lb Go.Proofs.YtggeelejmhihdaaDoor.Lc Go.Proofs.YtggeelejmhihdaaDoor.Ld Go.Proofs.YtggeelejmhihdaaDoorW.PrintWords
set_option linter.unusedVariables false
set_option linter.unusedSimpArgs false
attribute [local go_sem] B_append B_extract B_toList B_size take_end

theorem run_of_prefix (c : UInt8) : ∀ (n : Nat) (l : Str), (List.replicate n c).isPrefixOf l = true → n ≤ runL c l
  | 0, _, _ => Nat.zero_le _
  | n + 1, [], h => by simp [List.replicate_succ, List.isPrefixOf] at h
  | n + 1, a :: l, h => by
    rw [List.replicate_succ] at h
    simp only [List.isPrefixOf, Bool.and_eq_true, beq_iff_eq] at h
    obtain ⟨rfl, h⟩ := h
    have ih := run_of_prefix c n l h
    unfold runL at ih ⊢
    rw [List.takeWhile_cons_of_pos (by simp), List.length_cons]
    omega
theorem markOne_far (line : Str) (n : Nat) (c : UInt8) (word : Str) (h : runL c line < n) : markOne line n c word = none := by
  unfold markOne
  rw [if_neg]
  intro hp
  have := run_of_prefix c n line hp
  omega
theorem markL_far (line : Str) (n : Nat) (h : lineMax 0 line ≤ n) : markL line n = none := by
  unfold lineMax at h
  unfold markL
  rw [markOne_far line n 60 _ (by omega), markOne_far line n 124 _ (by omega), markOne_far line n 61 _ (by omega), markOne_far line n 62 _ (by omega)]
theorem lineMax_max (n : Nat) (l : Str) : lineMax n l = max n (lineMax 0 l) := by unfold lineMax; omega
theorem foldl_max (ls : List Str) : ∀ n, ls.foldl lineMax n = max n (ls.foldl lineMax 0) := by
  induction ls with
  | nil => intro n; simp
  | cons a r ih =>
    intro n
    simp only [List.foldl_cons]
    rw [ih (lineMax n a), ih (lineMax 0 a), lineMax_max n a]
    omega
theorem textMax_max (n : Nat) (t : Str) : textMax n t = max n (textMax 0 t) := foldl_max (splitL t) n
theorem line_le_fold {l : Str} : ∀ {ls : List Str}, l ∈ ls → lineMax 0 l ≤ ls.foldl lineMax 0
  | a :: r, h => by
    simp only [List.foldl_cons]
    rw [foldl_max]
    rcases List.mem_cons.1 h with rfl | h
    · omega
    · have := line_le_fold h
      omega
theorem lengthL_one (t : Str) : lengthL [t] = max 7 (textMax 0 t) := textMax_max 7 t
theorem lengthL_two (t : Str) : lengthL [t, t] = lengthL [t] := by
  have e : lengthL [t, t] = textMax (textMax 7 t) t := rfl
  rw [e, lengthL_one, textMax_max (textMax 7 t) t, textMax_max 7 t]
  omega
theorem foldL_none (m : Nat) : ∀ (ls : List Str) (s : St), (∀ l ∈ ls, markL l m = none) → foldL m s ls = some { s with now := s.now ++ ls.flatten }
  | [], s, _ => by simp [foldL]
  | a :: r, s, h => by
    have h1 : stepL m s a = some { s with now := s.now ++ a } := by
      unfold stepL
      rw [h a (by simp)]
    simp only [foldL, h1, Option.bind_some]
    rw [foldL_none m r _ (fun l hl => h l (by simp [hl]))]
    simp
/-- Marks that are longer than what any line begins with: no line is one. -/
theorem parse_long (t : Str) (k : Nat) (hk : lengthL [t] ≤ k) : parseL t (min k (t.length + 1)) = some (outerL [] t) := by
  have h : ∀ l ∈ splitL t, markL l (min k (t.length + 1)) = none := fun l hl => by
    apply markL_far
    have h1 : lineMax 0 l ≤ textMax 0 t := line_le_fold hl
    rw [lengthL_one] at hk
    have h2 := splitL_len t l hl
    have r1 := runL_le 60 l
    have r2 := runL_le 124 l
    have r3 := runL_le 61 l
    have r4 := runL_le 62 l
    have h3 : lineMax 0 l ≤ l.length + 1 := by unfold lineMax; omega
    omega
  unfold parseL
  rw [foldL_none _ _ _ h, Option.bind_some]
  simp only [st0, List.nil_append, splitL_flatten, if_true]
theorem print_long (t : Str) (k : Nat) : printL (outerL [] t) k true = t := by
  unfold outerL
  by_cases h : t = []
  · rw [if_pos h, h]; rfl
  · rw [if_neg h]
    simp [printL, partL]
theorem C_str2 {w : World} {b : Nat} {x y : Str} {t : TypeId} (h : w.heap[b]? = some (.cells #[.string (B x), .string (B y)] t (0, 0))) : Kd.C kStr w (some ⟨b, 0, none⟩) [x, y].length [x, y] := by
  refine ⟨rfl, by simp, fun _ => ⟨_, rfl, fun j p hj => ?_⟩⟩
  refine ⟨[.string (B p)], rfl, rfl, fun i u hi => ?_⟩
  have hi0 : i = 0 := by
    have := (List.getElem?_eq_some_iff.1 hi).1
    simp at this; exact this
  subst hi0
  have hj2 : j = 0 ∨ j = 1 := by
    have := (List.getElem?_eq_some_iff.1 hj).1
    simp at this; omega
  rw [add_plain, cell_of_row w b _ _ _ _ h]
  rcases hj2 with rfl | rfl
  · simp at hj hi; subst hj; subst hi; rfl
  · simp at hj hi; subst hj; subst hi; rfl

theorem and15 (n : Int) : bits .and .i64 n 15 = n % 16 := by
  have h : (BitVec.ofInt 64 n &&& BitVec.ofInt 64 15).toNat = (BitVec.ofInt 64 n).toNat % 16 := by
    have h15 : (BitVec.ofInt 64 15).toNat = 2 ^ 4 - 1 := by decide
    rw [BitVec.toNat_and, h15, Nat.and_two_pow_sub_one_eq_mod]
  have e : bits .and .i64 n 15 = IntKind.i64.wrap ((BitVec.ofInt 64 n &&& BitVec.ofInt 64 15).toNat : Int) := rfl
  rw [e, h, BitVec.toNat_ofInt, IntKind.wrap_i64]
  omega

set_option maxRecDepth 100000 in
set_option maxHeartbeats 16000000 in
theorem long_walk (text : Str) (more : Int) (hm : -9223372036854775808 ≤ more ∧ more ≤ 9223372036854775807) (h63 : text.length ≤ 9223372036854775807) (w : World) (hS : Signs w) :
    Calls Tryd.prog 5 #[.string (B text), .int .i64 more] w fun e w' => e = .returned (.bool true) ∧ Below w.heap.size w w' := by
  go_enter Tryd.func5, Tryd.ntmps5
  go_wp2_with fail
  refine (awake_any w hS).mono ?_
  rintro e w1 ⟨rfl, hB1⟩
  have HS1 := Lib.hid (hS.below hB1)
  have hz1 := hB1.size
  clear hS
  by_cases hl : 1500 < text.length
  · have hl1 : decide ((1500 : Int) < (text.length : Int)) = true := by rw [decide_eq_true_iff]; omega
    go_wp2
    go_ret
    exact ⟨rfl, hB1⟩
  · have hl1 : decide ((1500 : Int) < (text.length : Int)) = false := by rw [decide_eq_false_iff_not]; omega
    obtain ⟨n, hn⟩ : ∃ n, n = lengthL [text] := ⟨_, rfl⟩
    have hn7 : 7 ≤ n := by rw [hn]; exact lengthL_ge _
    have hn9 : n ≤ 1501 := by rw [hn]; exact lengthL_le (by omega) (fun t ht => by simp at ht; subst ht; omega)
    have HN := Lib.hid hn
    clear hn
    go_wp2_with fail
    obtain ⟨W2, hW2⟩ : ∃ W2, W2 = w1.alloc (.cells #[.string (B text)] 9) := ⟨_, rfl⟩
    have hB2 : Below w.heap.size w W2 := by rw [hW2]; exact hB1.alloc hz1 _
    have hC2 : Kd.C kStr W2 (some ⟨w1.heap.size, 0, none⟩) [text].length [text] := by rw [hW2]; exact C_str (heap_alloc_new w1 _)
    have hS2 : Signs W2 := by rw [hW2]; exact HS1.out.below ((Below.refl _ _).alloc (Nat.le_refl _) _)
    rw [← hW2]
    clear hW2
    refine (length_any [text] _ _ W2 hC2 hS2 (by simp) (fun t ht => by simp at ht; subst ht; omega)).mono ?_
    rw [← HN.out]
    rintro e w3 ⟨rfl, hb3⟩
    have HS3 := Lib.hid (hS2.below hb3)
    have hB3 := hB2.trans (hb3.mono hB2.size)
    have hz3 := hB3.size
    clear hb3 hC2 hS2
    obtain ⟨m4, hm4⟩ : ∃ m4 : Nat, bits .and .i64 more 15 = (m4 : Int) := ⟨(more % 16).toNat, by rw [and15]; omega⟩
    have hm15 : m4 ≤ 15 := by rw [and15] at hm4; omega
    obtain ⟨K, hK⟩ : ∃ K, K = n + m4 := ⟨_, rfl⟩
    have hKi : (n : Int) + (m4 : Int) = (K : Int) := by omega
    have hK7 : 7 ≤ K := by omega
    have hK9 : K ≤ 1516 := by omega
    have HK := Lib.hid (show lengthL [text] ≤ K from by rw [← HN.out]; omega)
    clear hK
    go_wp2_with fail
    refine (parse_any text K (min K (text.length + 1)) (by omega) rfl (by omega) (by omega) w3 HS3.out).mono ?_
    rw [parse_long text K HK.out]
    rintro e w4 ⟨hp, hb4⟩
    obtain ⟨v, rfl, hR⟩ := hp
    obtain ⟨A, c, rfl, hc, hC⟩ := Kd.R_reads hR
    have HC4 := Lib.hid hC
    have HS4 := Lib.hid (HS3.out.below hb4)
    have hB4 := hB3.trans (hb4.mono hz3)
    have hz4 := hB4.size
    have hol := outerL_len [] text
    have hol1 : (outerL [] text).length ≤ 1 := by simpa using hol
    have hoe : ∀ p ∈ outerL [] text, p.o.length ≤ 1000000000 ∧ p.a.length ≤ 1000000000 ∧ p.b.length ≤ 1000000000 := fun p hp => by
      unfold outerL at hp
      split at hp
      · cases hp
      · simp at hp; subst hp; simp only; omega
    obtain ⟨out, hout⟩ : ∃ out, out = outerL [] text := ⟨_, rfl⟩
    rw [← hout] at hol1 hoe hc HC4 ⊢
    have HOE := Lib.hid hoe
    have HPR := Lib.hid (show printL out K true = text from by rw [hout]; exact print_long text K)
    have HOUT := Lib.hid hout
    clear hR hC hb4 hol hoe hout
    go_wp2_with fail
    refine (print_any out K K true A c w4 HC4.out HS4.out (by omega) (by omega) (by omega) HOE.out (by rw [HPR.out]; omega)).mono ?_
    rw [HPR.out]
    rintro e w5 ⟨rfl, hb5⟩
    have HC5 := Lib.hid (Kd.C_below HC4.out hb5)
    have HS5 := Lib.hid (HS4.out.below hb5)
    have hB5 := hB4.trans (hb5.mono hz4)
    have hz5 := hB5.size
    clear hb5
    have hn70 : decide ((n : Int) < 7) = false := by rw [decide_eq_false_iff_not]; omega
    go_wp2_with fail
    refine (length_any [] none 0 w5 (Kd.C_nil kStr w5) HS5.out (by simp) (fun t ht => by cases ht)).mono ?_
    rw [show lengthL [] = 7 from rfl]
    rintro e w6 ⟨rfl, hb6⟩
    have HC6 := Lib.hid (Kd.C_below HC5.out hb6)
    have HS6 := Lib.hid (HS5.out.below hb6)
    have hB6 := hB5.trans (hb6.mono hz5)
    have hz6 := hB6.size
    clear hb6
    go_wp2_with fail
    obtain ⟨W7, hW7⟩ : ∃ W7, W7 = w6.alloc (.cells #[.string (B text), .string (B text)] 9) := ⟨_, rfl⟩
    have hB7 : Below w.heap.size w W7 := by rw [hW7]; exact hB6.alloc hz6 _
    have hC7 : Kd.C kStr W7 (some ⟨w6.heap.size, 0, none⟩) [text, text].length [text, text] := by rw [hW7]; exact C_str2 (heap_alloc_new w6 _)
    have hS7 : Signs W7 := by rw [hW7]; exact HS6.out.below ((Below.refl _ _).alloc (Nat.le_refl _) _)
    have HC7 : Hid (Kd.C kPart W7 A out.length out) := by rw [hW7]; exact Lib.hid (Kd.C_below HC6.out ((Below.refl _ _).alloc (Nat.le_refl _) _))
    rw [← hW7]
    clear hW7
    refine (length_any [text, text] _ _ W7 hC7 hS7 (by simp) (fun t ht => by simp at ht; subst ht; omega)).mono ?_
    rw [lengthL_two, ← HN.out]
    rintro e w8 ⟨rfl, hb8⟩
    have HC8 := Lib.hid (Kd.C_below HC7.out hb8)
    have hB8 := hB7.trans (hb8.mono hB7.size)
    have hz8 := hB8.size
    clear hb8 hC7 hS7 HC7
    by_cases ht : text = []
    · have ht1 : (text == []) = true := by rw [ht]; rfl
      have ht2 : List.isEmpty text = true := by rw [ht]; rfl
      have hol0 : out = [] := by rw [HOUT.out]; unfold outerL; rw [if_pos ht]
      have HHT := Lib.hid ht
      subst hol0
      clear ht
      go_wp2
      go_ret
      exact ⟨rfl, hB8⟩
    · have ht1 : (text == []) = false := by simpa using ht
      have ht2 : List.isEmpty text = false := by simpa using ht
      have hol1 : out = [⟨false, text, text, text⟩] := by rw [HOUT.out]; unfold outerL; rw [if_neg ht]; rfl
      have HHT := Lib.hid ht
      subst hol1
      clear ht
      obtain ⟨ad, rfl, p0, p1, p2, p3⟩ := at_part HC8.out 0 (by simp) ⟨false, text, text, text⟩ rfl
      simp only [Nat.zero_mul, Addr.add_zero'] at p0 p1 p2 p3
      go_wp2
      go_ret
      exact ⟨rfl, hB8⟩

end Go.Proofs.YtggeelejmhihdaaDoor.Le
