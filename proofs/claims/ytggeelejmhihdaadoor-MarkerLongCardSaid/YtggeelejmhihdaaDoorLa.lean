/- Contracts of the laws' own helpers: Same, few. -/
import Derived.Test.YtggeelejmhihdaaDoorRe
import Derived.Test.YtggeelejmhihdaaDoorWEqStruct
namespace Go.Proofs.YtggeelejmhihdaaDoor.La
open Go.RowKit Go.Shelf Go.Proofs.YtggeelejmhihdaaDoor.Pl Go.Proofs.YtggeelejmhihdaaDoor.Ut Go.Proofs.YtggeelejmhihdaaDoor.Ln Go.Proofs.YtggeelejmhihdaaDoorW.PrintWords
set_option linter.unusedVariables false
set_option linter.unusedSimpArgs false
attribute [local go_sem] B_append B_extract B_toList B_size take_end

/-- Are two parts the same? -/
def eqP (x y : Part) : Bool := x.clash == y.clash && (x.o == y.o && (x.a == y.a && x.b == y.b))
theorem eqP_iff (x y : Part) : eqP x y = true ↔ x = y := by
  cases x; cases y
  simp [eqP]
theorem eqPart (d : Nat) (w : World) (x0 y0 : Bool) (x1 y1 x2 y2 x3 y3 : Str) :
    (Op.equalIn (d + 2) 29 (.agg #[.bool x0, .string (B x1), .string (B x2), .string (B x3)]) (.agg #[.bool y0, .string (B y1), .string (B y2), .string (B y3)])).run Tryd.prog w = .ok (eqP ⟨x0, x1, x2, x3⟩ ⟨y0, y1, y2, y3⟩) w := by
  have h : eqP ⟨x0, x1, x2, x3⟩ ⟨y0, y1, y2, y3⟩ = (x0 == y0 && ((B x1).toList == (B y1).toList && ((B x2).toList == (B y2).toList && ((B x3).toList == (B y3).toList)))) := by
    simp only [B_toList]; rfl
  rw [h]
  refine eqA_of Tryd.underlying29 (by kernel_rfl) ?_
  refine eqf_cons (by rfl) (by go_simp; rfl) (by go_simp; rfl) (by go_simp) ?_
  refine eqf_cons (by rfl) (by go_simp; rfl) (by go_simp; rfl) (by go_simp) ?_
  refine eqf_cons (by rfl) (by go_simp; rfl) (by go_simp; rfl) (by go_simp) ?_
  exact eqf_last (by rfl) (by go_simp; rfl) (by go_simp; rfl) (by go_simp)
attribute [local go_sem high] eqPart

set_option maxRecDepth 100000 in
set_option maxHeartbeats 4000000 in
theorem same_any (xs ys : List Part) (A A' : Option Addr) (c c' : Nat) (w : World) (hC : Kd.C kPart w A xs.length xs) (hC' : Kd.C kPart w A' ys.length ys) (hl : xs.length ≤ 1000000000) (hl' : ys.length ≤ 1000000000) :
    Calls Tryd.prog 16 #[.slice A xs.length c, .slice A' ys.length c'] w fun e w' => e = .returned (.bool (decide (xs = ys))) ∧ Below w.heap.size w w' := by
  have HC := Lib.hid hC
  have HC' := Lib.hid hC'
  clear hC hC'
  by_cases hlen : xs.length = ys.length
  · have hl1 : ((xs.length : Int) != (ys.length : Int)) = false := by rw [hlen]; simp
    have hl2 : ((xs.length : Int) == (ys.length : Int)) = true := by rw [hlen]; simp
    have HL := Lib.hid hlen
    clear hlen
    go_enter Tryd.func16, Tryd.ntmps16
    go_wp2
    go_loopw [5] (fun i wr => ∃ k : Nat, k ≤ xs.length ∧ i = .int .i64 k ∧ Hid (xs.take k = ys.take k) ∧ Below w.heap.size w wr) (fun i _ => xs.length - (intOf i).toNat)
    case atStart => exact ⟨0, Nat.zero_le _, rfl, Lib.hid (by simp), Below.refl _ _⟩
    case round =>
      obtain ⟨k, hk, rfl, HT, hB⟩ := hrel
      by_cases hlt : k < xs.length
      · have hlt2 : k < ys.length := by have := HL.out; omega
        obtain ⟨x, hx⟩ : ∃ x, xs[k]? = some x := ⟨xs[k], List.getElem?_eq_getElem hlt⟩
        obtain ⟨y, hy⟩ : ∃ y, ys[k]? = some y := ⟨ys[k], List.getElem?_eq_getElem hlt2⟩
        obtain ⟨ad, rfl, p0, p1, p2, p3⟩ := at_part (Kd.C_below HC.out hB) k hlt x hx
        obtain ⟨ad', rfl, q0, q1, q2, q3⟩ := at_part (Kd.C_below HC'.out hB) k hlt2 y hy
        obtain ⟨x0, x1, x2, x3⟩ := x
        obtain ⟨y0, y1, y2, y3⟩ := y
        simp only at p0 p1 p2 p3 q0 q1 q2 q3
        have HX := Lib.hid hx
        have HY := Lib.hid hy
        clear hx hy
        have hk0 : (0 : Int) ≤ (k : Int) := Int.natCast_nonneg _
        have HTX := Lib.hid (show xs.take (k + 1) = xs.take k ++ [⟨x0, x1, x2, x3⟩] from by rw [List.take_add_one, HX.out]; rfl)
        have HTY := Lib.hid (show ys.take (k + 1) = ys.take k ++ [⟨y0, y1, y2, y3⟩] from by rw [List.take_add_one, HY.out]; rfl)
        cases he : eqP ⟨x0, x1, x2, x3⟩ ⟨y0, y1, y2, y3⟩ with
        | true =>
          have HE := Lib.hid ((eqP_iff _ _).1 he)
          go_wp2_with fail
          go_quiet (fail)
          go_wp2
          go_roundw
          case rel => exact ⟨k + 1, by omega, by go_num, Lib.hid (by rw [HTX.out, HTY.out, HT.out, HE.out]), pw_below_drewN hB _⟩
          case measure => simp [intOf]; omega
        | false =>
          have HE := Lib.hid (show xs ≠ ys from fun e => by
            have h1 := HX.out
            rw [e, HY.out] at h1
            have h2 := (eqP_iff _ _).2 (Option.some.inj h1).symm
            rw [he] at h2
            cases h2)
          go_wp2_with fail
          go_quiet (fail)
          go_wp2
          go_ret
          exact ⟨by rw [decide_eq_false HE.out]; rfl, pw_below_drewN hB _⟩
      · obtain rfl : k = xs.length := by omega
        have HE := Lib.hid (show xs = ys from by
          have h := HT.out
          rwa [List.take_length, HL.out, List.take_length] at h)
        go_wp2
        go_ret
        exact ⟨by rw [decide_eq_true HE.out]; rfl, hB⟩
  · have hl1 : ((xs.length : Int) != (ys.length : Int)) = true := by rw [bne_iff_ne]; omega
    have hl2 : ((xs.length : Int) == (ys.length : Int)) = false := by rw [beq_eq_false_iff_ne]; omega
    have hl3 : (xs.length == ys.length) = false := by rw [beq_eq_false_iff_ne]; omega
    have HE := Lib.hid (show xs ≠ ys from fun e => hlen (by rw [e]))
    go_enter Tryd.func16, Tryd.ntmps16
    go_wp2
    go_ret
    exact ⟨by rw [decide_eq_false HE.out]; rfl, Below.refl _ _⟩

/-- Are parts few, and short? -/
def fewL (xs : List Part) : Bool := decide (xs.length ≤ 30) && xs.all fun p => decide (p.o.length ≤ 300) && decide (p.a.length ≤ 300) && decide (p.b.length ≤ 300)

set_option maxRecDepth 100000 in
set_option maxHeartbeats 4000000 in
theorem few_any (xs : List Part) (A : Option Addr) (c : Nat) (w : World) (hC : Kd.C kPart w A xs.length xs) (hn : xs.length ≤ 9223372036854775807) :
    Calls Tryd.prog 7 #[.slice A xs.length c] w fun e w' => e = .returned (.bool (fewL xs)) ∧ Below w.heap.size w w' := by
  have HC := Lib.hid hC
  clear hC
  by_cases hlen : xs.length ≤ 30
  · go_enter Tryd.func7, Tryd.ntmps7
    have hl1 : decide ((30 : Int) < (xs.length : Int)) = false := by rw [decide_eq_false_iff_not]; omega
    go_wp2
    go_loopw [3] (fun i wr => ∃ k : Nat, k ≤ xs.length ∧ i = .int .i64 k ∧ Hid (∀ p ∈ xs.take k, p.o.length ≤ 300 ∧ p.a.length ≤ 300 ∧ p.b.length ≤ 300) ∧ Below w.heap.size w wr) (fun i _ => xs.length - (intOf i).toNat)
    case atStart => exact ⟨0, Nat.zero_le _, rfl, Lib.hid (by simp), Below.refl _ _⟩
    case round =>
      obtain ⟨k, hk, rfl, HT, hB⟩ := hrel
      by_cases hlt : k < xs.length
      · obtain ⟨x, hx⟩ : ∃ x, xs[k]? = some x := ⟨xs[k], List.getElem?_eq_getElem hlt⟩
        obtain ⟨ad, rfl, p0, p1, p2, p3⟩ := at_part (Kd.C_below HC.out hB) k hlt x hx
        obtain ⟨x0, x1, x2, x3⟩ := x
        simp only at p0 p1 p2 p3
        have HX := Lib.hid hx
        clear hx
        have hk0 : (0 : Int) ≤ (k : Int) := Int.natCast_nonneg _
        have HTX := Lib.hid (show xs.take (k + 1) = xs.take k ++ [⟨x0, x1, x2, x3⟩] from by rw [List.take_add_one, HX.out]; rfl)
        have HMEM := Lib.hid (List.mem_of_getElem? HX.out)
        by_cases hs : x1.length ≤ 300 ∧ x2.length ≤ 300 ∧ x3.length ≤ 300
        · have b1 : decide ((300 : Int) < (x1.length : Int)) = false := by rw [decide_eq_false_iff_not]; omega
          have b2 : decide ((300 : Int) < (x2.length : Int)) = false := by rw [decide_eq_false_iff_not]; omega
          have b3 : decide ((300 : Int) < (x3.length : Int)) = false := by rw [decide_eq_false_iff_not]; omega
          have HSS := Lib.hid hs
          clear hs
          go_wp2
          go_roundw
          case rel =>
            refine ⟨k + 1, by omega, by go_num, Lib.hid (fun p hp => ?_), hB⟩
            rw [HTX.out, List.mem_append] at hp
            rcases hp with hp | hp
            · exact HT.out p hp
            · simp at hp; subst hp; exact HSS.out
          case measure => simp [intOf]; omega
        · have HE := Lib.hid (show fewL xs = false from by
            unfold fewL
            rw [Bool.and_eq_false_iff]
            right
            rw [List.all_eq_false]
            exact ⟨_, HMEM.out, by simp only [Bool.and_eq_true, decide_eq_true_iff]; intro h; exact hs ⟨h.1.1, h.1.2, h.2⟩⟩)
          by_cases s1 : x1.length ≤ 300
          · have b1 : decide ((300 : Int) < (x1.length : Int)) = false := by rw [decide_eq_false_iff_not]; omega
            by_cases s2 : x2.length ≤ 300
            · have b2 : decide ((300 : Int) < (x2.length : Int)) = false := by rw [decide_eq_false_iff_not]; omega
              have b3 : decide ((300 : Int) < (x3.length : Int)) = true := by rw [decide_eq_true_iff]; have : ¬ x3.length ≤ 300 := fun h => hs ⟨s1, s2, h⟩; omega
              have HSS := Lib.hid hs
              clear hs s1 s2
              go_wp2
              go_ret
              exact ⟨by rw [HE.out]; rfl, hB⟩
            · have b2 : decide ((300 : Int) < (x2.length : Int)) = true := by rw [decide_eq_true_iff]; omega
              have HSS := Lib.hid hs
              clear hs s1 s2
              go_wp2
              go_ret
              exact ⟨by rw [HE.out]; rfl, hB⟩
          · have b1 : decide ((300 : Int) < (x1.length : Int)) = true := by rw [decide_eq_true_iff]; omega
            have HSS := Lib.hid hs
            clear hs s1
            go_wp2
            go_ret
            exact ⟨by rw [HE.out]; rfl, hB⟩
      · obtain rfl : k = xs.length := by omega
        have HE := Lib.hid (show fewL xs = true from by
          unfold fewL
          rw [Bool.and_eq_true]
          refine ⟨by simpa using hlen, ?_⟩
          rw [List.all_eq_true]
          intro p hp
          have h := HT.out p (by rw [List.take_length]; exact hp)
          simp only [Bool.and_eq_true, decide_eq_true_iff]
          exact ⟨⟨h.1, h.2.1⟩, h.2.2⟩)
        go_wp2
        go_ret
        exact ⟨by rw [HE.out]; rfl, hB⟩
  · have hl1 : decide ((30 : Int) < (xs.length : Int)) = true := by rw [decide_eq_true_iff]; omega
    have HE := Lib.hid (show fewL xs = false from by unfold fewL; rw [decide_eq_false hlen]; rfl)
    go_enter Tryd.func7, Tryd.ntmps7
    go_wp2
    go_ret
    exact ⟨by rw [HE.out]; rfl, Below.refl _ _⟩

end Go.Proofs.YtggeelejmhihdaaDoor.La
