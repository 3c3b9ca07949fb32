/- Contracts of the reference ref32: Sides; and of ref32.Marks, File where ref08.Lines is told. Contracts of the reference ref32: Marks, File, where ref08.Lines is told. -/
import Derived.Test.YtogfkfkejaiecaaGreatDoorTk
import Derived.Test.YtogfkfkejaiecaaGreatDoorTl

namespace Go.Proofs.YtogfkfkejaiecaaGreatDoor.Ec
open Go.RowKit Go.Shelf Pl Ut Ln Mk Ml Ms Mp Rc Re Da Db Dc Dm Dn Dp Dq Ds Du Dv Ea Go.Proofs.YtogfkfkejaiecaaGreatDoorW.PrintWords
set_option linter.unusedVariables false
set_option linter.unusedSimpArgs false
attribute [local go_sem] B_append B_extract B_toList B_size take_end

end Go.Proofs.YtogfkfkejaiecaaGreatDoor.Ec

namespace Go.Proofs.YtogfkfkejaiecaaGreatDoor.Ed
open Go.RowKit Go.Shelf Pl Ut Ln Mk Ml Ms Mp Rc Da Db Dc Dm Dn Dp Dq Ds Du Dv Ea Go.Proofs.YtogfkfkejaiecaaGreatDoorW.PrintWords
set_option linter.unusedVariables false
set_option linter.unusedSimpArgs false
attribute [local go_sem] B_append B_extract B_toList B_size take_end

/-- What is told of ref08.Lines. -/
def LinesOk : Prop := ∀ (o a b : Str) (w : World), o.length ≤ 2500 → a.length ≤ 2500 → b.length ≤ 2500 →
  Calls Tryz.prog 19 #[.string (B o), .string (B a), .string (B b)] w fun e w' => ∃ v, e = .returned v ∧ kPart.R 55 w' w.heap.size (fun _ => True) v (linesL o a b) ∧ Below w.heap.size w w'

set_option maxRecDepth 100000 in
set_option maxHeartbeats 8000000 in
theorem rfile_of (hL : LinesOk) (o a b : Str) (ho ha hb old : Bool) (lo : o.length ≤ 2500) (la : a.length ≤ 2500) (lb : b.length ≤ 2500) (w : World) :
    Calls Tryz.prog 9 #[.string (B o), .string (B a), .string (B b), .bool ho, .bool ha, .bool hb, .bool old] w fun e w' =>
      e = .returned (.tuple #[.string (B (fileL o a b ho ha hb old).1), .bool (fileL o a b ho ha hb old).2.1, .int .i64 (fileL o a b ho ha hb old).2.2]) ∧ Below w.heap.size w w' := by
  have s1 : ¬ 9223372036854775807 < a.length + b.length := by omega
  have s2 : ¬ 9223372036854775807 < a.length := by omega
  have s3 : ¬ 9223372036854775807 < b.length := by omega
  cases ho with
  | true =>
    cases ha with
    | true =>
      cases hb with
      | true =>
        obtain ⟨n1, n2, n3, n4, n5⟩ := lines_fitB o a b (by first | omega | (simp; done) | (simp; omega)) la lb old _ rfl
        have HLi := Lib.hid (fun W => hL o a b W (by first | omega | (simp; done) | (simp; omega)) la lb)
        obtain ⟨K, hK⟩ : ∃ K : Bool, K = (linesL o a b).any (·.clash) := ⟨_, rfl⟩
        have HL2 := Lib.hid (show fileL o a b true true true old = (printL (linesL o a b) (lengthL (textsL (linesL o a b))) old, true, if K then 1 else 0) by rw [hK]; simp [fileL, threeL, clL, showL])
        have HSo := Lib.hid (fun (A : Option Addr) (c : Nat) (W : World) (hC : Kd.C kPart W A (linesL o a b).length (linesL o a b)) =>
          rshow_any (linesL o a b) _ old A c W hC rfl (by omega) (lengthL_ge _) (by omega) (fun p hp => by obtain ⟨q1, q2, q3⟩ := n3 p hp; exact ⟨by omega, by omega, by omega⟩) (by omega))
        have HCl : Hid (∀ (A : Option Addr) (c : Nat) (W : World) (hC : Kd.C kPart W A (linesL o a b).length (linesL o a b)),
          Calls Tryz.prog 25 #[.slice A (linesL o a b).length c] W fun e w' => e = .returned (.bool K) ∧ w' = W) := Lib.hid (fun A c W hC => by rw [hK]; exact clashes_any (linesL o a b) A c W hC (by omega))
        clear n1 n2 n3 n4 n5 hK
        rw [HL2.out]
        go_enter Tryz.func9, Tryz.ntmps9
        cases K with
        | true =>
          go_wp2_with (first | (go_at_call 19; refine (HLi.out _).mono ?_; rintro e w1 ⟨v, rfl, hR, hb⟩; obtain ⟨A, c, rfl, lc, hC⟩ := Kd.R_reads hR; have HC := Lib.hid hC; have HB1 := Lib.hid hb; clear hR hb hC) | (go_at_call 24; refine (HSo.out _ _ _ HC.out).mono ?_; rintro e w2 ⟨rfl, hb⟩; have HC2 := Lib.hid (Kd.C_below HC.out hb); have HB2 := Lib.hid (HB1.out.trans (hb.mono HB1.out.size)); clear hb) | (go_at_call 25; refine (HCl.out _ _ _ HC2.out).mono ?_; rintro e w3 ⟨rfl, rfl⟩))
          go_ret3
          exact ⟨rfl, HB2.out⟩
        | false =>
          go_wp2_with (first | (go_at_call 19; refine (HLi.out _).mono ?_; rintro e w1 ⟨v, rfl, hR, hb⟩; obtain ⟨A, c, rfl, lc, hC⟩ := Kd.R_reads hR; have HC := Lib.hid hC; have HB1 := Lib.hid hb; clear hR hb hC) | (go_at_call 24; refine (HSo.out _ _ _ HC.out).mono ?_; rintro e w2 ⟨rfl, hb⟩; have HC2 := Lib.hid (Kd.C_below HC.out hb); have HB2 := Lib.hid (HB1.out.trans (hb.mono HB1.out.size)); clear hb) | (go_at_call 25; refine (HCl.out _ _ _ HC2.out).mono ?_; rintro e w3 ⟨rfl, rfl⟩))
          go_ret3
          exact ⟨rfl, HB2.out⟩
      | false =>
        by_cases hq : a = o
        · have HL2 := Lib.hid (show fileL o a b true true false old = ([], false, 0) by simp [fileL, threeL, clL, hq])
          rw [HL2.out]
          subst hq
          go_enter Tryz.func9, Tryz.ntmps9
          go_wp2
          go_ret3
          exact ⟨rfl, Below.refl _ _⟩
        · have hqb : (a == o) = false := by simpa using hq
          have HL2 := Lib.hid (show fileL o a b true true false old = showL [⟨true, o, a, []⟩] old 3 by simp [fileL, threeL, clL, hq])
          rw [HL2.out]
          have HSo := Lib.hid (fun (A : Option Addr) (W : World) (hC : Kd.C kPart W A 1 [⟨true, o, a, []⟩]) =>
            rshow_any [⟨true, o, a, []⟩] _ old A 1 W hC rfl (by have := (one_fitB o a [] lo (by first | omega | (simp; done) | (simp; omega)) (by first | omega | (simp; done) | (simp; omega)) old _ rfl).1; omega) (lengthL_ge _) (by simp) (fun p hp => by rw [List.mem_singleton.1 hp]; exact ⟨by simp only; omega, by first | omega | (simp; done) | (simp; omega), by first | omega | (simp; done) | (simp; omega)⟩) (by have := (one_fitB o a [] lo (by first | omega | (simp; done) | (simp; omega)) (by first | omega | (simp; done) | (simp; omega)) old _ rfl).2; omega))
          go_enter Tryz.func9, Tryz.ntmps9
          go_wp2_with (go_at_call 24; refine (HSo.out _ _ (one_row _ ⟨true, o, a, []⟩)).mono ?_; rintro e w2 ⟨rfl, hb⟩; have HB2 := Lib.hid ((below_alloc (Below.refl w.heap.size w) _).trans (hb.mono (below_alloc (Below.refl w.heap.size w) _).size)); clear hb)
          go_ret3
          exact ⟨rfl, HB2.out⟩
    | false =>
      cases hb with
      | true =>
        by_cases hq : b = o
        · have HL2 := Lib.hid (show fileL o a b true false true old = ([], false, 0) by simp [fileL, threeL, clL, hq])
          rw [HL2.out]
          subst hq
          go_enter Tryz.func9, Tryz.ntmps9
          go_wp2
          go_ret3
          exact ⟨rfl, Below.refl _ _⟩
        · have hqb : (b == o) = false := by simpa using hq
          have HL2 := Lib.hid (show fileL o a b true false true old = showL [⟨true, o, [], b⟩] old 3 by simp [fileL, threeL, clL, hq])
          rw [HL2.out]
          have HSo := Lib.hid (fun (A : Option Addr) (W : World) (hC : Kd.C kPart W A 1 [⟨true, o, [], b⟩]) =>
            rshow_any [⟨true, o, [], b⟩] _ old A 1 W hC rfl (by have := (one_fitB o [] b lo (by first | omega | (simp; done) | (simp; omega)) (by first | omega | (simp; done) | (simp; omega)) old _ rfl).1; omega) (lengthL_ge _) (by simp) (fun p hp => by rw [List.mem_singleton.1 hp]; exact ⟨by simp only; omega, by first | omega | (simp; done) | (simp; omega), by first | omega | (simp; done) | (simp; omega)⟩) (by have := (one_fitB o [] b lo (by first | omega | (simp; done) | (simp; omega)) (by first | omega | (simp; done) | (simp; omega)) old _ rfl).2; omega))
          go_enter Tryz.func9, Tryz.ntmps9
          go_wp2_with (go_at_call 24; refine (HSo.out _ _ (one_row _ ⟨true, o, [], b⟩)).mono ?_; rintro e w2 ⟨rfl, hb⟩; have HB2 := Lib.hid ((below_alloc (Below.refl w.heap.size w) _).trans (hb.mono (below_alloc (Below.refl w.heap.size w) _).size)); clear hb)
          go_ret3
          exact ⟨rfl, HB2.out⟩
      | false =>
        have HL2 := Lib.hid (show fileL o a b true false false old = ([], false, 0) by simp [fileL, threeL])
        rw [HL2.out]
        go_enter Tryz.func9, Tryz.ntmps9
        go_wp2
        go_ret3
        exact ⟨rfl, Below.refl _ _⟩
  | false =>
    cases ha with
    | true =>
      cases hb with
      | true =>
        obtain ⟨n1, n2, n3, n4, n5⟩ := lines_fitB [] a b (by first | omega | (simp; done) | (simp; omega)) la lb old _ rfl
        have HLi := Lib.hid (fun W => hL [] a b W (by first | omega | (simp; done) | (simp; omega)) la lb)
        obtain ⟨K, hK⟩ : ∃ K : Bool, K = (linesL [] a b).any (·.clash) := ⟨_, rfl⟩
        have HL2 := Lib.hid (show fileL o a b false true true old = (printL (linesL [] a b) (lengthL (textsL (linesL [] a b))) old, true, if K then 1 else 0) by rw [hK]; simp [fileL, threeL, clL, showL])
        have HSo := Lib.hid (fun (A : Option Addr) (c : Nat) (W : World) (hC : Kd.C kPart W A (linesL [] a b).length (linesL [] a b)) =>
          rshow_any (linesL [] a b) _ old A c W hC rfl (by omega) (lengthL_ge _) (by omega) (fun p hp => by obtain ⟨q1, q2, q3⟩ := n3 p hp; exact ⟨by omega, by omega, by omega⟩) (by omega))
        have HCl : Hid (∀ (A : Option Addr) (c : Nat) (W : World) (hC : Kd.C kPart W A (linesL [] a b).length (linesL [] a b)),
          Calls Tryz.prog 25 #[.slice A (linesL [] a b).length c] W fun e w' => e = .returned (.bool K) ∧ w' = W) := Lib.hid (fun A c W hC => by rw [hK]; exact clashes_any (linesL [] a b) A c W hC (by omega))
        clear n1 n2 n3 n4 n5 hK
        rw [HL2.out]
        go_enter Tryz.func9, Tryz.ntmps9
        cases K with
        | true =>
          go_wp2_with (first | (go_at_call 19; refine (HLi.out _).mono ?_; rintro e w1 ⟨v, rfl, hR, hb⟩; obtain ⟨A, c, rfl, lc, hC⟩ := Kd.R_reads hR; have HC := Lib.hid hC; have HB1 := Lib.hid hb; clear hR hb hC) | (go_at_call 24; refine (HSo.out _ _ _ HC.out).mono ?_; rintro e w2 ⟨rfl, hb⟩; have HC2 := Lib.hid (Kd.C_below HC.out hb); have HB2 := Lib.hid (HB1.out.trans (hb.mono HB1.out.size)); clear hb) | (go_at_call 25; refine (HCl.out _ _ _ HC2.out).mono ?_; rintro e w3 ⟨rfl, rfl⟩))
          go_ret3
          exact ⟨rfl, HB2.out⟩
        | false =>
          go_wp2_with (first | (go_at_call 19; refine (HLi.out _).mono ?_; rintro e w1 ⟨v, rfl, hR, hb⟩; obtain ⟨A, c, rfl, lc, hC⟩ := Kd.R_reads hR; have HC := Lib.hid hC; have HB1 := Lib.hid hb; clear hR hb hC) | (go_at_call 24; refine (HSo.out _ _ _ HC.out).mono ?_; rintro e w2 ⟨rfl, hb⟩; have HC2 := Lib.hid (Kd.C_below HC.out hb); have HB2 := Lib.hid (HB1.out.trans (hb.mono HB1.out.size)); clear hb) | (go_at_call 25; refine (HCl.out _ _ _ HC2.out).mono ?_; rintro e w3 ⟨rfl, rfl⟩))
          go_ret3
          exact ⟨rfl, HB2.out⟩
      | false =>
        have HL2 := Lib.hid (show fileL o a b false true false old = (a, true, 0) by simp [fileL, threeL, clL])
        rw [HL2.out]
        go_enter Tryz.func9, Tryz.ntmps9
        go_wp2
        go_ret3
        exact ⟨rfl, Below.refl _ _⟩
    | false =>
      cases hb with
      | true =>
        have HL2 := Lib.hid (show fileL o a b false false true old = (b, true, 0) by simp [fileL, threeL, clL])
        rw [HL2.out]
        go_enter Tryz.func9, Tryz.ntmps9
        go_wp2
        go_ret3
        exact ⟨rfl, Below.refl _ _⟩
      | false =>
        have HL2 := Lib.hid (show fileL o a b false false false old = ([], false, 0) by simp [fileL, threeL])
        rw [HL2.out]
        go_enter Tryz.func9, Tryz.ntmps9
        go_wp2
        go_ret3
        exact ⟨rfl, Below.refl _ _⟩

end Go.Proofs.YtogfkfkejaiecaaGreatDoor.Ed
