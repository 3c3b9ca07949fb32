/- Contracts of the reference's marker: Whole, run, mark, section. -/
import Derived.Test.YtggeelejmhihdaaDoorRa
namespace Go.Proofs.YtggeelejmhihdaaDoor.Rb
open Go.RowKit Go.Shelf Go.Proofs.YtggeelejmhihdaaDoor.Pl Go.Proofs.YtggeelejmhihdaaDoor.Ut Go.Proofs.YtggeelejmhihdaaDoor.Ln Go.Proofs.YtggeelejmhihdaaDoor.Ra Go.Proofs.YtggeelejmhihdaaDoorW.PrintWords
set_option linter.unusedVariables false
set_option linter.unusedSimpArgs false
attribute [local go_sem] B_append B_extract B_toList B_size take_end

theorem wholeL_nil : wholeL [] = [] := rfl
theorem wholeL_snoc (t : Str) (c : UInt8) : wholeL (t ++ [c]) = if c = 10 then t ++ [c] else t ++ [c] ++ [10] := by
  unfold wholeL endedL
  by_cases h : c = 10
  · subst h; simp
  · simp [h]

set_option maxRecDepth 100000 in
set_option maxHeartbeats 4000000 in
theorem rwhole_any (s : Str) (hs : s.length ≤ 1000000000000) (w : World) :
    Calls Tryd.prog 36 #[.string (B s)] w fun e w' => e = .returned (.string (B (wholeL s))) ∧ w' = w := by
  go_enter Tryd.func36, Tryd.ntmps36
  rcases List.eq_nil_or_concat s with rfl | ⟨t, c, rfl⟩
  · go_wp2
    go_ret
    exact ⟨rfl, rfl⟩
  · rw [List.concat_eq_append] at hs ⊢
    obtain ⟨s, hse⟩ : ∃ s, s = t ++ [c] := ⟨_, rfl⟩
    obtain ⟨n, hn⟩ : ∃ n, n = t.length := ⟨_, rfl⟩
    have hl : s.length = n + 1 := by rw [hse, hn]; simp
    have hc : s[n]? = some c := by rw [hse, hn]; simp
    have HW := wholeL_snoc t c
    rw [← hse] at hs HW ⊢
    have hat := str_at hc
    have h10 := toNat_eq10 c
    have HH := Lib.hid HW
    clear HW hse hn hc
    cases hx10 : (c == 10) with
    | true =>
      rw [hx10] at h10
      have h11 : ((c.toNat : Int) != 10) = false := by rw [bne, h10]; rfl
      go_wp2
      go_ret
      exact ⟨by rw [HH.out, if_pos (eq_of_beq hx10)]; rfl, rfl⟩
    | false =>
      rw [hx10] at h10
      have h11 : ((c.toNat : Int) != 10) = true := by rw [bne, h10]; rfl
      go_wp2
      go_ret
      exact ⟨by rw [HH.out, if_neg (by simpa using hx10)]; rfl, rfl⟩

/-- The bytes of one kind ahead. -/
theorem runL_step {c : UInt8} {l : Str} {n : Nat} (h : ∀ i, i < n → l[i]? = some c) (hn : n ≤ l.length) (he : l[n]? ≠ some c) : runL c l = n := by
  unfold runL
  induction l generalizing n with
  | nil => simp at hn; subst hn; rfl
  | cons a t ih =>
    cases n with
    | zero =>
      simp at he
      rw [List.takeWhile_cons_of_neg (by simpa using he)]; rfl
    | succ n =>
      have h0 := h 0 (by omega)
      simp at h0
      subst h0
      rw [List.takeWhile_cons_of_pos (by simp), List.length_cons]
      rw [ih (n := n) (fun i hi => by have := h (i + 1) (by omega); simpa using this) (by simp at hn; omega) (by simpa using he)]

theorem toNat_beq (c d : UInt8) : ((c.toNat : Int) == (d.toNat : Int)) = (c == d) := by
  rw [Bool.eq_iff_iff, beq_iff_eq, beq_iff_eq]
  constructor
  · intro h
    exact UInt8.toNat_inj.1 (by omega)
  · rintro rfl; rfl

set_option maxRecDepth 100000 in
set_option maxHeartbeats 4000000 in
theorem run_any (l : Str) (d : UInt8) (hl : l.length ≤ 1000000000000) (w : World) :
    Calls Tryd.prog 27 #[.string (B l), .int .u8 d.toNat] w fun e w' => e = .returned (.int .i64 (runL d l : Nat)) ∧ w' = w := by
  go_enter Tryd.func27, Tryd.ntmps27
  go_wp2
  go_loopw [5] (fun v wr => ∃ n : Nat, n ≤ l.length ∧ v = .int .i64 n ∧ Hid (∀ i, i < n → l[i]? = some d) ∧ wr = w) (fun v _ => l.length - (intOf v).toNat)
  case atStart => exact ⟨0, Nat.zero_le _, rfl, Lib.hid (fun i hi => absurd hi (Nat.not_lt_zero _)), rfl⟩
  case round =>
    obtain ⟨n, hn, rfl, HI, rfl⟩ := hrel
    by_cases hlt : n < l.length
    · obtain ⟨x, hx⟩ : ∃ x, l[n]? = some x := ⟨l[n], List.getElem?_eq_getElem hlt⟩
      have hat := str_at hx
      have hxd := toNat_beq x d
      have HX := Lib.hid hx
      clear hx
      cases hb : (x == d) with
      | true =>
        rw [hb] at hxd
        go_wp2
        go_roundw
        case rel => exact ⟨n + 1, by omega, by go_num, Lib.hid (fun i hi => by
          rcases Nat.lt_or_ge i n with h | h
          · exact HI.out i h
          · obtain rfl : i = n := by omega
            rw [HX.out, eq_of_beq hb]), by first | rfl | trivial⟩
        case measure => simp [intOf]; omega
      | false =>
        rw [hb] at hxd
        go_wp2
        go_ret
        exact ⟨by rw [runL_step HI.out hn (by rw [HX.out]; simpa using hb)]; rfl, rfl⟩
    · obtain rfl : n = l.length := by omega
      go_wp2
      go_ret
      exact ⟨by rw [runL_step HI.out (Nat.le_refl _) (by simp)]; rfl, rfl⟩

theorem rep_snoc (n : Nat) (c : UInt8) : List.replicate n c ++ [c] = List.replicate (n + 1) c := by
  rw [List.replicate_succ']
set_option maxRecDepth 100000 in
set_option maxHeartbeats 4000000 in
theorem rmark_any (c : UInt8) (n : Nat) (cut : Bool) (word : Str) (w : World) (hn : n ≤ 1000000000) (hw : word.length ≤ 1000000000) :
    Calls Tryd.prog 22 #[.string (B [c]), .int .i64 n, .bool cut, .string (B word)] w fun e w' => e = .returned (.string (B (lineL c n cut word))) ∧ w' = w := by
  go_enter Tryd.func22, Tryd.ntmps22
  go_wp2
  go_loopw [9, 10] (fun v i wr => ∃ k : Nat, k ≤ n ∧ v = .string (B (List.replicate k c)) ∧ i = .int .i64 k ∧ wr = w) (fun _ i _ => n - (intOf i).toNat)
  case atStart => exact ⟨0, Nat.zero_le _, rfl, rfl, rfl⟩
  case round =>
    obtain ⟨k, hk, rfl, rfl, rfl⟩ := hrel
    have hrl : (List.replicate k c).length = k := List.length_replicate
    obtain ⟨r, hr⟩ : ∃ r, r = List.replicate k c := ⟨_, rfl⟩
    rw [← hr] at hrl ⊢
    have HR := Lib.hid hr
    clear hr
    by_cases hlt : k < n
    · go_wp2
      go_roundw
      case rel => exact ⟨k + 1, by omega, by rw [HR.out, rep_snoc], by go_num, by first | rfl | trivial⟩
      case measure => simp [intOf]; omega
    · obtain rfl : k = n := by omega
      cases cut with
      | true =>
        cases word with
        | nil =>
          go_wp2
          go_ret
          exact ⟨by unfold lineL; rw [← HR.out]; simp, rfl⟩
        | cons a t =>
          simp only [List.length_cons] at hw
          go_wp2
          go_ret
          exact ⟨by unfold lineL; rw [← HR.out]; simp, rfl⟩
      | false =>
        cases word with
        | nil =>
          go_wp2
          go_ret
          exact ⟨by unfold lineL; rw [← HR.out]; simp, rfl⟩
        | cons a t =>
          simp only [List.length_cons] at hw
          go_wp2
          go_ret
          exact ⟨by unfold lineL; rw [← HR.out]; simp, rfl⟩

set_option maxRecDepth 100000 in
set_option maxHeartbeats 4000000 in
theorem rsection_any (t : Str) (c : UInt8) (n : Nat) (word : Str) (w : World) (hn : n ≤ 1000000000) (hw : word.length ≤ 1000000000) (ht : t.length ≤ 1000000000) :
    Calls Tryd.prog 23 #[.string (B t), .string (B [c]), .int .i64 n, .string (B word)] w fun e w' => e = .returned (.string (B (sectionL t c n word))) ∧ w' = w := by
  have hl1 := wholeL_length t
  have hl2 := lineL_length c n (!wholeL t == t) word
  go_enter Tryd.func23, Tryd.ntmps23
  go_wp2_with fail
  refine (rwhole_any t (by omega) w).mono ?_
  rintro e w' ⟨rfl, rfl⟩
  go_wp2_with fail
  refine (rmark_any c n _ word w' hn hw).mono ?_
  rintro e w1 ⟨rfl, rfl⟩
  go_wp2
  go_ret
  exact ⟨rfl, rfl⟩

end Go.Proofs.YtggeelejmhihdaaDoor.Rb
