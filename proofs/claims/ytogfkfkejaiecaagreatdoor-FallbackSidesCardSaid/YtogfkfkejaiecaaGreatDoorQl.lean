/- Contracts of the reference ref32: Sides; and of ref32.Marks, File where ref08.Lines is told. Contracts of the reference ref32: Marks, File, where ref08.Lines is told. -/
import Derived.Test.YtogfkfkejaiecaaGreatDoorQj
import Derived.Test.YtogfkfkejaiecaaGreatDoorQk

namespace Go.Proofs.YtogfkfkejaiecaaGreatDoor.Ec
open Go.RowKit Go.Shelf Go.Proofs.YtogfkfkejaiecaaGreatDoor.Pl Go.Proofs.YtogfkfkejaiecaaGreatDoor.Ut Go.Proofs.YtogfkfkejaiecaaGreatDoor.Ln Go.Proofs.YtogfkfkejaiecaaGreatDoor.Mk Go.Proofs.YtogfkfkejaiecaaGreatDoor.Ml Go.Proofs.YtogfkfkejaiecaaGreatDoor.Ms Go.Proofs.YtogfkfkejaiecaaGreatDoor.Mp Go.Proofs.YtogfkfkejaiecaaGreatDoor.Rc Go.Proofs.YtogfkfkejaiecaaGreatDoor.Re Go.Proofs.YtogfkfkejaiecaaGreatDoor.Da Go.Proofs.YtogfkfkejaiecaaGreatDoor.Db Go.Proofs.YtogfkfkejaiecaaGreatDoor.Dc Go.Proofs.YtogfkfkejaiecaaGreatDoor.Dm Go.Proofs.YtogfkfkejaiecaaGreatDoor.Dn Go.Proofs.YtogfkfkejaiecaaGreatDoor.Dp Go.Proofs.YtogfkfkejaiecaaGreatDoor.Dq Go.Proofs.YtogfkfkejaiecaaGreatDoor.Ds Go.Proofs.YtogfkfkejaiecaaGreatDoor.Du Go.Proofs.YtogfkfkejaiecaaGreatDoor.Dv Go.Proofs.YtogfkfkejaiecaaGreatDoor.Ea Go.Proofs.YtogfkfkejaiecaaGreatDoorW.PrintWords
set_option linter.unusedVariables false
set_option linter.unusedSimpArgs false
attribute [local go_sem] B_append B_extract B_toList B_size take_end

set_option maxRecDepth 100000 in
set_option maxHeartbeats 8000000 in
theorem rsides_any (text : Str) (n m : Nat) (h1 : 1 ≤ n) (hm : m = min n (text.length + 1)) (hn : n ≤ 9223372036854775807) (ht : text.length ≤ 100000000) (w : World) :
    Calls Tryz.prog 12 #[.string (B text), .int .i64 (n : Int)] w fun e w' =>
      e = .returned (.tuple #[.agg #[.string (B (sidesR text m).1), .string (B (sidesR text m).2.1), .string (B (sidesR text m).2.2.1)], .int .i64 (sidesR text m).2.2.2]) ∧ Below w.heap.size w w' := by
  have HP := Lib.hid (fun (W : World) => rparse_any text n m h1 hm hn ht W)
  cases hp : parseL text m with
  | none =>
    have HR := Lib.hid (show sidesR text m = ([], [], [], 90) from by unfold sidesR; rw [hp])
    generalize sidesR text m = R at HR ⊢
    rw [HR.out]
    rw [hp] at HP
    unfold ParsePost at HP
    go_enter Tryz.func12, Tryz.ntmps12
    go_wp2_with (go_at_call 30; refine (HP.out _).mono ?_; rintro e w1 ⟨rfl, hb⟩; have HZ := Lib.hid (blk_below (blk_new w (.cells #[.string ⟨#[]⟩, .string ⟨#[]⟩, .string ⟨#[]⟩] 22)) hb); have hlt1 := blk_lt HZ.out; have HB1 := Lib.hid ((below_alloc (Below.refl w.heap.size w) _).trans (hb.mono (below_alloc (Below.refl w.heap.size w) _).size)); have z0 := blk_frozen HZ.out 0; have z1 := blk_frozen HZ.out 1; have z2 := blk_frozen HZ.out 2; have y0 : w1.cell? ⟨w.heap.size, 0, none⟩ = some (.string ⟨#[]⟩) := (by rw [blk_cell HZ.out]; rfl); have y1 : w1.cell? ⟨w.heap.size, 1, none⟩ = some (.string ⟨#[]⟩) := (by rw [blk_cell HZ.out]; rfl); have y2 : w1.cell? ⟨w.heap.size, 2, none⟩ = some (.string ⟨#[]⟩) := (by rw [blk_cell HZ.out]; rfl); clear hb)
    (try simp only [Exit.inBlock, Exit.then])
    refine bodyPost_ret (results_ct rfl _ _ w.heap.size 22 _ (0, 0) _ rfl (set3s HZ.out _ _ _) Tryz.underlying22 rfl info3s) rfl ?_
    exact ⟨rfl, ((HB1.out.setCell (p := ⟨w.heap.size, 0, none⟩) (Nat.le_refl _) _).setCell (p := ⟨w.heap.size, 1, none⟩) (Nat.le_refl _) _).setCell (p := ⟨w.heap.size, 2, none⟩) (Nat.le_refl _) _⟩
  | some l =>
    have HR := Lib.hid (show sidesR text m = (sideL 0 l, sideL 1 l, sideL 2 l, 0) from by unfold sidesR; rw [hp])
    generalize sidesR text m = R at HR ⊢
    rw [HR.out]
    rw [hp] at HP
    unfold ParsePost at HP
    have hsz := parseL_size hp
    have hln := parseL_len hp
    have b0 := sideL_size 0 l
    have b1 := sideL_size 1 l
    have b2 := sideL_size 2 l
    go_enter Tryz.func12, Tryz.ntmps12
    go_wp2_with fail
    refine (HP.out _).mono ?_
    rintro e w1 ⟨⟨v, rfl, hR⟩, hb⟩
    obtain ⟨A, c, rfl, lc, hC⟩ := Kd.R_reads hR
    have HS0 := Lib.hid (rside0 l A c w1 hC (by omega) (by omega))
    have HS1 := Lib.hid (rside1 l A c w1 hC (by omega) (by omega))
    have HS2 := Lib.hid (rside2 l A c w1 hC (by omega) (by omega))
    have HZ := Lib.hid (blk_below (blk_new w (.cells #[.string ⟨#[]⟩, .string ⟨#[]⟩, .string ⟨#[]⟩] 22)) hb)
    have hlt1 := blk_lt HZ.out
    have HB1 := Lib.hid ((below_alloc (Below.refl w.heap.size w) _).trans (hb.mono (below_alloc (Below.refl w.heap.size w) _).size))
    have z0 := blk_frozen HZ.out 0
    have z1 := blk_frozen HZ.out 1
    have z2 := blk_frozen HZ.out 2
    have y0 : w1.cell? ⟨w.heap.size, 0, none⟩ = some (.string ⟨#[]⟩) := (by rw [blk_cell HZ.out]; rfl)
    have y1 : w1.cell? ⟨w.heap.size, 1, none⟩ = some (.string ⟨#[]⟩) := (by rw [blk_cell HZ.out]; rfl)
    have y2 : w1.cell? ⟨w.heap.size, 2, none⟩ = some (.string ⟨#[]⟩) := (by rw [blk_cell HZ.out]; rfl)
    clear hb hR hC
    clear HP hsz hln b0 b1 b2
    go_wp2_with fail
    refine HS0.out.mono ?_
    rintro e w2 ⟨rfl, rfl⟩
    go_wp2_with fail
    refine HS1.out.mono ?_
    rintro e w3 ⟨rfl, rfl⟩
    go_wp2_with fail
    refine HS2.out.mono ?_
    rintro e w4 ⟨rfl, rfl⟩
    go_wp2
    (try simp only [Exit.inBlock, Exit.then])
    refine bodyPost_ret (results_ct rfl _ _ w.heap.size 22 _ (0, 0) _ rfl (set3s HZ.out _ _ _) Tryz.underlying22 rfl info3s) rfl ?_
    exact ⟨rfl, ((HB1.out.setCell (p := ⟨w.heap.size, 0, none⟩) (Nat.le_refl _) _).setCell (p := ⟨w.heap.size, 1, none⟩) (Nat.le_refl _) _).setCell (p := ⟨w.heap.size, 2, none⟩) (Nat.le_refl _) _⟩

end Go.Proofs.YtogfkfkejaiecaaGreatDoor.Ec

namespace Go.Proofs.YtogfkfkejaiecaaGreatDoor.Ed
open Go.RowKit Go.Shelf Go.Proofs.YtogfkfkejaiecaaGreatDoor.Pl Go.Proofs.YtogfkfkejaiecaaGreatDoor.Ut Go.Proofs.YtogfkfkejaiecaaGreatDoor.Ln Go.Proofs.YtogfkfkejaiecaaGreatDoor.Mk Go.Proofs.YtogfkfkejaiecaaGreatDoor.Ml Go.Proofs.YtogfkfkejaiecaaGreatDoor.Ms Go.Proofs.YtogfkfkejaiecaaGreatDoor.Mp Go.Proofs.YtogfkfkejaiecaaGreatDoor.Rc Go.Proofs.YtogfkfkejaiecaaGreatDoor.Da Go.Proofs.YtogfkfkejaiecaaGreatDoor.Db Go.Proofs.YtogfkfkejaiecaaGreatDoor.Dc Go.Proofs.YtogfkfkejaiecaaGreatDoor.Dm Go.Proofs.YtogfkfkejaiecaaGreatDoor.Dn Go.Proofs.YtogfkfkejaiecaaGreatDoor.Dp Go.Proofs.YtogfkfkejaiecaaGreatDoor.Dq Go.Proofs.YtogfkfkejaiecaaGreatDoor.Ds Go.Proofs.YtogfkfkejaiecaaGreatDoor.Du Go.Proofs.YtogfkfkejaiecaaGreatDoor.Dv Go.Proofs.YtogfkfkejaiecaaGreatDoor.Ea Go.Proofs.YtogfkfkejaiecaaGreatDoorW.PrintWords
set_option linter.unusedVariables false
set_option linter.unusedSimpArgs false
attribute [local go_sem] B_append B_extract B_toList B_size take_end

/-- What is told of ref08.Lines. -/
def LinesOk : Prop := ∀ (o a b : Str) (w : World), o.length ≤ 500 → a.length ≤ 500 → b.length ≤ 500 →
  Calls Tryz.prog 19 #[.string (B o), .string (B a), .string (B b)] w fun e w' => ∃ v, e = .returned v ∧ kPart.R 55 w' w.heap.size (fun _ => True) v (linesL o a b) ∧ Below w.heap.size w w'

set_option maxRecDepth 100000 in
set_option maxHeartbeats 8000000 in
theorem rmarks_of (hL : LinesOk) (o a b : Str) (lo : o.length ≤ 500) (la : a.length ≤ 500) (lb : b.length ≤ 500) (w : World) :
    Calls Tryz.prog 13 #[.string (B o), .string (B a), .string (B b)] w fun e w' => e = .returned (.int .i64 (marksL o a b : Int)) ∧ Below w.heap.size w w' := by
  obtain ⟨n1, n2, n3, n4, n5⟩ := lines_fit o a b lo la lb true _ rfl
  have HLi := Lib.hid (fun W => hL o a b W lo la lb)
  have HSo : Hid (∀ (A : Option Addr) (c : Nat) (W : World), Kd.C kPart W A (linesL o a b).length (linesL o a b) →
      Calls Tryz.prog 24 #[.slice A (linesL o a b).length c, .bool true] W fun e w' => e = .returned (.tuple #[.string (B (printL (linesL o a b) (marksL o a b) true)), .int .i64 (marksL o a b : Int)]) ∧ Below W.heap.size W w') := Lib.hid (fun A c W hC =>
    rshow_any (linesL o a b) (marksL o a b) true A c W hC rfl (by unfold marksL; omega) (lengthL_ge _) (by omega) (fun p hp => by obtain ⟨q1, q2, q3⟩ := n3 p hp; exact ⟨by omega, by omega, by omega⟩) (by unfold marksL; omega))
  generalize marksL o a b = M at HSo ⊢
  clear n1 n2 n3 n4 n5
  go_enter Tryz.func13, Tryz.ntmps13
  go_wp2_with (first | (go_at_call 19; refine (HLi.out _).mono ?_; rintro e w1 ⟨v, rfl, hR, hb⟩; obtain ⟨A, c, rfl, lc, hC⟩ := Kd.R_reads hR; have HC := Lib.hid hC; have HB1 := Lib.hid hb; clear hR hb hC) | (go_at_call 24; refine (HSo.out _ _ _ HC.out).mono ?_; rintro e w2 ⟨rfl, hb⟩; have HB2 := Lib.hid (HB1.out.trans (hb.mono HB1.out.size)); clear hb))
  go_ret
  exact ⟨rfl, HB2.out⟩

set_option maxRecDepth 100000 in
set_option maxHeartbeats 8000000 in
theorem rfile_of (hL : LinesOk) (o a b : Str) (ho ha hb old : Bool) (lo : o.length ≤ 500) (la : a.length ≤ 500) (lb : b.length ≤ 500) (w : World) :
    Calls Tryz.prog 9 #[.string (B o), .string (B a), .string (B b), .bool ho, .bool ha, .bool hb, .bool old] w fun e w' =>
      e = .returned (.tuple #[.string (B (fileL o a b ho ha hb old).1), .bool (fileL o a b ho ha hb old).2.1, .int .i64 (fileL o a b ho ha hb old).2.2]) ∧ Below w.heap.size w w' := by
  have s1 : ¬ 9223372036854775807 < a.length + b.length := by omega
  have s2 : ¬ 9223372036854775807 < a.length := by omega
  have s3 : ¬ 9223372036854775807 < b.length := by omega
  cases ho with
  | true =>
    cases ha with
    | true =>
      cases hb with
      | true =>
        obtain ⟨n1, n2, n3, n4, n5⟩ := lines_fit o a b (by first | omega | (simp; done) | (simp; omega)) la lb old _ rfl
        have HLi := Lib.hid (fun W => hL o a b W (by first | omega | (simp; done) | (simp; omega)) la lb)
        obtain ⟨K, hK⟩ : ∃ K : Bool, K = (linesL o a b).any (·.clash) := ⟨_, rfl⟩
        have HL2 := Lib.hid (show fileL o a b true true true old = (printL (linesL o a b) (lengthL (textsL (linesL o a b))) old, true, if K then 1 else 0) by rw [hK]; simp [fileL, threeL, clL, showL])
        have HSo := Lib.hid (fun (A : Option Addr) (c : Nat) (W : World) (hC : Kd.C kPart W A (linesL o a b).length (linesL o a b)) =>
          rshow_any (linesL o a b) _ old A c W hC rfl (by omega) (lengthL_ge _) (by omega) (fun p hp => by obtain ⟨q1, q2, q3⟩ := n3 p hp; exact ⟨by omega, by omega, by omega⟩) (by omega))
        have HCl : Hid (∀ (A : Option Addr) (c : Nat) (W : World) (hC : Kd.C kPart W A (linesL o a b).length (linesL o a b)),
          Calls Tryz.prog 25 #[.slice A (linesL o a b).length c] W fun e w' => e = .returned (.bool K) ∧ w' = W) := Lib.hid (fun A c W hC => by rw [hK]; exact clashes_any (linesL o a b) A c W hC (by omega))
        clear n1 n2 n3 n4 n5 hK
        rw [HL2.out]
        go_enter Tryz.func9, Tryz.ntmps9
        cases K with
        | true =>
          go_wp2_with (first | (go_at_call 19; refine (HLi.out _).mono ?_; rintro e w1 ⟨v, rfl, hR, hb⟩; obtain ⟨A, c, rfl, lc, hC⟩ := Kd.R_reads hR; have HC := Lib.hid hC; have HB1 := Lib.hid hb; clear hR hb hC) | (go_at_call 24; refine (HSo.out _ _ _ HC.out).mono ?_; rintro e w2 ⟨rfl, hb⟩; have HC2 := Lib.hid (Kd.C_below HC.out hb); have HB2 := Lib.hid (HB1.out.trans (hb.mono HB1.out.size)); clear hb) | (go_at_call 25; refine (HCl.out _ _ _ HC2.out).mono ?_; rintro e w3 ⟨rfl, rfl⟩))
          go_ret3
          exact ⟨rfl, HB2.out⟩
        | false =>
          go_wp2_with (first | (go_at_call 19; refine (HLi.out _).mono ?_; rintro e w1 ⟨v, rfl, hR, hb⟩; obtain ⟨A, c, rfl, lc, hC⟩ := Kd.R_reads hR; have HC := Lib.hid hC; have HB1 := Lib.hid hb; clear hR hb hC) | (go_at_call 24; refine (HSo.out _ _ _ HC.out).mono ?_; rintro e w2 ⟨rfl, hb⟩; have HC2 := Lib.hid (Kd.C_below HC.out hb); have HB2 := Lib.hid (HB1.out.trans (hb.mono HB1.out.size)); clear hb) | (go_at_call 25; refine (HCl.out _ _ _ HC2.out).mono ?_; rintro e w3 ⟨rfl, rfl⟩))
          go_ret3
          exact ⟨rfl, HB2.out⟩
      | false =>
        by_cases hq : a = o
        · have HL2 := Lib.hid (show fileL o a b true true false old = ([], false, 0) by simp [fileL, threeL, clL, hq])
          rw [HL2.out]
          subst hq
          go_enter Tryz.func9, Tryz.ntmps9
          go_wp2
          go_ret3
          exact ⟨rfl, Below.refl _ _⟩
        · have hqb : (a == o) = false := by simpa using hq
          have HL2 := Lib.hid (show fileL o a b true true false old = showL [⟨true, o, a, []⟩] old 3 by simp [fileL, threeL, clL, hq])
          rw [HL2.out]
          have HSo := Lib.hid (fun (A : Option Addr) (W : World) (hC : Kd.C kPart W A 1 [⟨true, o, a, []⟩]) =>
            rshow_any [⟨true, o, a, []⟩] _ old A 1 W hC rfl (by have := (one_fit o a [] lo (by first | omega | (simp; done) | (simp; omega)) (by first | omega | (simp; done) | (simp; omega)) old _ rfl).1; omega) (lengthL_ge _) (by simp) (fun p hp => by rw [List.mem_singleton.1 hp]; exact ⟨by simp only; omega, by first | omega | (simp; done) | (simp; omega), by first | omega | (simp; done) | (simp; omega)⟩) (by have := (one_fit o a [] lo (by first | omega | (simp; done) | (simp; omega)) (by first | omega | (simp; done) | (simp; omega)) old _ rfl).2; omega))
          go_enter Tryz.func9, Tryz.ntmps9
          go_wp2_with (go_at_call 24; refine (HSo.out _ _ (one_row _ ⟨true, o, a, []⟩)).mono ?_; rintro e w2 ⟨rfl, hb⟩; have HB2 := Lib.hid ((below_alloc (Below.refl w.heap.size w) _).trans (hb.mono (below_alloc (Below.refl w.heap.size w) _).size)); clear hb)
          go_ret3
          exact ⟨rfl, HB2.out⟩
    | false =>
      cases hb with
      | true =>
        by_cases hq : b = o
        · have HL2 := Lib.hid (show fileL o a b true false true old = ([], false, 0) by simp [fileL, threeL, clL, hq])
          rw [HL2.out]
          subst hq
          go_enter Tryz.func9, Tryz.ntmps9
          go_wp2
          go_ret3
          exact ⟨rfl, Below.refl _ _⟩
        · have hqb : (b == o) = false := by simpa using hq
          have HL2 := Lib.hid (show fileL o a b true false true old = showL [⟨true, o, [], b⟩] old 3 by simp [fileL, threeL, clL, hq])
          rw [HL2.out]
          have HSo := Lib.hid (fun (A : Option Addr) (W : World) (hC : Kd.C kPart W A 1 [⟨true, o, [], b⟩]) =>
            rshow_any [⟨true, o, [], b⟩] _ old A 1 W hC rfl (by have := (one_fit o [] b lo (by first | omega | (simp; done) | (simp; omega)) (by first | omega | (simp; done) | (simp; omega)) old _ rfl).1; omega) (lengthL_ge _) (by simp) (fun p hp => by rw [List.mem_singleton.1 hp]; exact ⟨by simp only; omega, by first | omega | (simp; done) | (simp; omega), by first | omega | (simp; done) | (simp; omega)⟩) (by have := (one_fit o [] b lo (by first | omega | (simp; done) | (simp; omega)) (by first | omega | (simp; done) | (simp; omega)) old _ rfl).2; omega))
          go_enter Tryz.func9, Tryz.ntmps9
          go_wp2_with (go_at_call 24; refine (HSo.out _ _ (one_row _ ⟨true, o, [], b⟩)).mono ?_; rintro e w2 ⟨rfl, hb⟩; have HB2 := Lib.hid ((below_alloc (Below.refl w.heap.size w) _).trans (hb.mono (below_alloc (Below.refl w.heap.size w) _).size)); clear hb)
          go_ret3
          exact ⟨rfl, HB2.out⟩
      | false =>
        have HL2 := Lib.hid (show fileL o a b true false false old = ([], false, 0) by simp [fileL, threeL])
        rw [HL2.out]
        go_enter Tryz.func9, Tryz.ntmps9
        go_wp2
        go_ret3
        exact ⟨rfl, Below.refl _ _⟩
  | false =>
    cases ha with
    | true =>
      cases hb with
      | true =>
        obtain ⟨n1, n2, n3, n4, n5⟩ := lines_fit [] a b (by first | omega | (simp; done) | (simp; omega)) la lb old _ rfl
        have HLi := Lib.hid (fun W => hL [] a b W (by first | omega | (simp; done) | (simp; omega)) la lb)
        obtain ⟨K, hK⟩ : ∃ K : Bool, K = (linesL [] a b).any (·.clash) := ⟨_, rfl⟩
        have HL2 := Lib.hid (show fileL o a b false true true old = (printL (linesL [] a b) (lengthL (textsL (linesL [] a b))) old, true, if K then 1 else 0) by rw [hK]; simp [fileL, threeL, clL, showL])
        have HSo := Lib.hid (fun (A : Option Addr) (c : Nat) (W : World) (hC : Kd.C kPart W A (linesL [] a b).length (linesL [] a b)) =>
          rshow_any (linesL [] a b) _ old A c W hC rfl (by omega) (lengthL_ge _) (by omega) (fun p hp => by obtain ⟨q1, q2, q3⟩ := n3 p hp; exact ⟨by omega, by omega, by omega⟩) (by omega))
        have HCl : Hid (∀ (A : Option Addr) (c : Nat) (W : World) (hC : Kd.C kPart W A (linesL [] a b).length (linesL [] a b)),
          Calls Tryz.prog 25 #[.slice A (linesL [] a b).length c] W fun e w' => e = .returned (.bool K) ∧ w' = W) := Lib.hid (fun A c W hC => by rw [hK]; exact clashes_any (linesL [] a b) A c W hC (by omega))
        clear n1 n2 n3 n4 n5 hK
        rw [HL2.out]
        go_enter Tryz.func9, Tryz.ntmps9
        cases K with
        | true =>
          go_wp2_with (first | (go_at_call 19; refine (HLi.out _).mono ?_; rintro e w1 ⟨v, rfl, hR, hb⟩; obtain ⟨A, c, rfl, lc, hC⟩ := Kd.R_reads hR; have HC := Lib.hid hC; have HB1 := Lib.hid hb; clear hR hb hC) | (go_at_call 24; refine (HSo.out _ _ _ HC.out).mono ?_; rintro e w2 ⟨rfl, hb⟩; have HC2 := Lib.hid (Kd.C_below HC.out hb); have HB2 := Lib.hid (HB1.out.trans (hb.mono HB1.out.size)); clear hb) | (go_at_call 25; refine (HCl.out _ _ _ HC2.out).mono ?_; rintro e w3 ⟨rfl, rfl⟩))
          go_ret3
          exact ⟨rfl, HB2.out⟩
        | false =>
          go_wp2_with (first | (go_at_call 19; refine (HLi.out _).mono ?_; rintro e w1 ⟨v, rfl, hR, hb⟩; obtain ⟨A, c, rfl, lc, hC⟩ := Kd.R_reads hR; have HC := Lib.hid hC; have HB1 := Lib.hid hb; clear hR hb hC) | (go_at_call 24; refine (HSo.out _ _ _ HC.out).mono ?_; rintro e w2 ⟨rfl, hb⟩; have HC2 := Lib.hid (Kd.C_below HC.out hb); have HB2 := Lib.hid (HB1.out.trans (hb.mono HB1.out.size)); clear hb) | (go_at_call 25; refine (HCl.out _ _ _ HC2.out).mono ?_; rintro e w3 ⟨rfl, rfl⟩))
          go_ret3
          exact ⟨rfl, HB2.out⟩
      | false =>
        have HL2 := Lib.hid (show fileL o a b false true false old = (a, true, 0) by simp [fileL, threeL, clL])
        rw [HL2.out]
        go_enter Tryz.func9, Tryz.ntmps9
        go_wp2
        go_ret3
        exact ⟨rfl, Below.refl _ _⟩
    | false =>
      cases hb with
      | true =>
        have HL2 := Lib.hid (show fileL o a b false false true old = (b, true, 0) by simp [fileL, threeL, clL])
        rw [HL2.out]
        go_enter Tryz.func9, Tryz.ntmps9
        go_wp2
        go_ret3
        exact ⟨rfl, Below.refl _ _⟩
      | false =>
        have HL2 := Lib.hid (show fileL o a b false false false old = ([], false, 0) by simp [fileL, threeL])
        rw [HL2.out]
        go_enter Tryz.func9, Tryz.ntmps9
        go_wp2
        go_ret3
        exact ⟨rfl, Below.refl _ _⟩

end Go.Proofs.YtogfkfkejaiecaaGreatDoor.Ed
