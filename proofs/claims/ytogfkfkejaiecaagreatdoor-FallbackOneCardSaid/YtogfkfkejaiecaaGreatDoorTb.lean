/- Contracts of package marker: the marks' lines, the printer. Contracts of package marker: how long marks are to be; which mark a line is. Contracts of package marker: Show. Contracts of the reference's lines: Split, Whole; run, mark, section. Contracts of lcs: Numbers. Contracts of lcs: none; rows of numbers in memory. Tables of what two rows have in common, in memory: row by row from the last on. -/
import Derived.WalkKit
import Derived.WalkSpells
import Derived.WalkLawsBesides
import Derived.BigQuiet
import Derived.Deep.QuietTactic
import Derived.Lib.Hide
import Derived.Test.YtogfkfkejaiecaaGreatDoorTa
import Derived.BigCall
import Derived.Lib.OthersKept
import Derived.Maps.AppendAt
import Derived.Maps.Own
import Derived.Maps.OwnOps
import Derived.Maps.OwnSet
import Derived.Maps.Views
import Derived.Laws.MakeOwn
import Derived.Laws.OwnMore
import Derived.Test.YtogfkfkejaiecaaGreatDoorTwa
import Derived.Test.YtogfkfkejaiecaaGreatDoorProg

namespace Go.Proofs.YtogfkfkejaiecaaGreatDoor.Mk
open Go.RowKit Go.Shelf Pl Ut Ln Bl Go.Proofs.YtogfkfkejaiecaaGreatDoorW.PrintWords
attribute [local go_sem] B_append B_extract B_toList B_size take_end

theorem repeat_one (c : UInt8) (n : Nat) : Lib.repeatL [c] n = List.replicate n c := by
  induction n with
  | zero => rfl
  | succ n ih => rw [Lib.repeatL, ih]; rfl

theorem repeat_any (c : UInt8) (n : Nat) (w : World) (hn : n ≤ 1000000000) :
    Calls Tryz.prog 69 #[.string (B [c]), .int .i64 n] w fun e w' => e = .returned (.string (B (List.replicate n c))) ∧ Below w.heap.size w w' :=
  (Tryz.strings_Repeat (B [c]) n w (by omega) (by rw [B_size]; simp; omega)).mono fun _ _ ⟨he, hw⟩ => ⟨by rw [he, repeat_one], hw⟩

set_option maxHeartbeats 1000000 in
theorem line_any (c : UInt8) (word0 : Str) (n : Nat) (cut : Bool) (word : Str) (w : World) (hn : n ≤ 1000000000) (hw : word.length ≤ 1000000000) :
    Calls Tryz.prog 65 #[.agg #[.string (B [c]), .string (B word0)], .int .i64 n, .bool cut, .string (B word)] w fun e w' => e = .returned (.string (B (lineL c n cut word))) ∧ Below w.heap.size w w' := by
  have hl : (List.replicate n c).length = n := List.length_replicate
  obtain ⟨r, hr⟩ : ∃ r, r = List.replicate n c := ⟨_, rfl⟩
  have hrl : r.length ≤ 1000000000 := by rw [hr, hl]; exact hn
  have HR := Lib.hid hr
  clear hr hl
  go_enter Tryz.func65, Tryz.ntmps65
  go_wp2_with (go_at_call 69; refine (repeat_any _ _ _ hn).mono ?_; rw [← HR.out]; rintro e w' ⟨rfl, hb⟩)
  all_goals go_ret
  all_goals
    refine ⟨?_, ((Below.refl _ _).alloc (Nat.le_refl _) _).trans (hb.mono (by simp))⟩
    have hr := HR.out
    cases word with
    | nil => first | (simp at *; done) | simp [lineL, *]
    | cons a t => first | (simp at *; done) | simp [lineL, *]

set_option maxHeartbeats 1000000 in
/-- The closure of Print: b's box, n's box. -/
theorem section_any (t : Str) (c : UInt8) (word : Str) (n : Nat) (Bs b bn : Nat) (acc : Str) (w : World) (hn : n ≤ 1000000000) (hw : word.length ≤ 1000000000) (ht : t.length ≤ 1000000000) (hacc : acc.length ≤ 1000000000000)
    (hI : IsB Bs b acc w) (hbn : w.cell? ⟨bn, 0, none⟩ = some (.int .i64 n)) (hB : Bs ≤ w.heap.size) :
    Calls Tryz.prog 63 #[.string (B t), .agg #[.string (B [c]), .string (B word)], .pointer (some ⟨b, 0, none⟩), .pointer (some ⟨bn, 0, none⟩)] w fun e w' =>
      e = .returned (.tuple #[]) ∧ IsB Bs b (acc ++ sectionL t c n word) w' ∧ Below Bs w w' ∧ Lib.OthersKept 5 (some b) w w' := by
  have hbn1 := cell_alloc hbn (.cells #[.string (B [c]), .string (B word)] 107)
  have hlt : b < w.heap.size := hI.lt
  go_enter Tryz.func63, Tryz.ntmps63
  go_wp2_with (first | (go_at_call 64; refine (whole_any _ _ (by omega)).mono ?_; rintro e w' ⟨rfl, rfl⟩) | fail)
  refine (line_any c word n _ word _ hn hw).mono ?_
  rintro e w1 ⟨rfl, hb1⟩
  have hI1 := (hI.alloc (.cells #[.string (B [c]), .string (B word)] 107)).below hb1
  have hlen := sectionL_length t c n word
  have hl1 := wholeL_length t
  have hl2 := lineL_length c n (!wholeL t == t) word
  have hB1 : Below Bs w w1 := ((Below.refl _ _).alloc hB _).trans (hb1.mono (by simp; omega))
  have hO1 : Lib.OthersKept 5 (some b) w w1 := ((Lib.OthersKept.refl _ _ _).alloc _).trans (othersKept_below hb1)
  go_wp2_with fail
  refine (hI1.write (sectionL t c n word) (by omega) (by have := hB1.size; omega)).mono ?_
  rintro e w2 ⟨rfl, hA2, hb2, hO2⟩
  go_wp2
  go_end0
  exact ⟨rfl, hA2, hB1.trans hb2, hO1.trans hO2⟩

/-- Within a round of Print: the builder, n's box, the part's box. -/
def RS (w0 : World) (bn b pb N : Nat) (x : Part) (acc : Str) (W : World) : Prop :=
  IsB w0.heap.size b acc W ∧ W.heap[bn]? = some (.cells #[.int .i64 N] 3 (0, 0)) ∧ W.heap[pb]? = some (.cells (partCells x).toArray 55 (0, 0)) ∧ Below w0.heap.size w0 W ∧ bn ≠ b ∧ pb ≠ b
theorem RS.step {w0 W W' : World} {bn b pb N : Nat} {x : Part} {acc acc' : Str} (h : RS w0 bn b pb N x acc W) (hI : IsB w0.heap.size b acc' W') (hb : Below w0.heap.size W W') (hO : Lib.OthersKept 5 (some b) W W') : RS w0 bn b pb N x acc' W' := by
  obtain ⟨_, h2, h3, h4, h5, h6⟩ := h
  exact ⟨hI, box_kept hO h2 h5 (by decide), box_kept hO h3 h6 (by decide), h4.trans hb, h5, h6⟩
theorem RS.below {w0 W W' : World} {bn b pb N : Nat} {x : Part} {acc : Str} (h : RS w0 bn b pb N x acc W) (hb : Below W.heap.size W W') : RS w0 bn b pb N x acc W' :=
  h.step (h.1.below hb) (hb.mono h.2.2.2.1.size) (othersKept_below hb)
theorem RS.part {w0 W : World} {bn b pb N : Nat} {x : Part} {acc : Str} (h : RS w0 bn b pb N x acc W) :
    W.cell? ⟨pb, 0, none⟩ = some (.bool x.clash) ∧ W.cell? ⟨pb, 1, none⟩ = some (.string (B x.o)) ∧ W.cell? ⟨pb, 2, none⟩ = some (.string (B x.a)) ∧ W.cell? ⟨pb, 3, none⟩ = some (.string (B x.b)) ∧ W.cell? ⟨bn, 0, none⟩ = some (.int .i64 N) := by
  obtain ⟨_, h2, h3, _⟩ := h
  refine ⟨?_, ?_, ?_, ?_, ?_⟩
  · rw [cell_of_row W pb _ _ _ _ h3]; rfl
  · rw [cell_of_row W pb _ _ _ _ h3]; rfl
  · rw [cell_of_row W pb _ _ _ _ h3]; rfl
  · rw [cell_of_row W pb _ _ _ _ h3]; rfl
  · rw [cell_of_row W bn _ _ _ _ h2]; rfl
theorem RS.signs {w0 W : World} {bn b pb N : Nat} {x : Part} {acc : Str} (h : RS w0 bn b pb N x acc W) (hS : Signs w0) : Signs W := hS.below h.2.2.2.1
theorem RS.size {w0 W : World} {bn b pb N : Nat} {x : Part} {acc : Str} (h : RS w0 bn b pb N x acc W) : w0.heap.size ≤ W.heap.size := h.2.2.2.1.size

theorem printL_take (xs : List Part) (N : Nat) (old : Bool) (k : Nat) (x : Part) (hx : xs[k]? = some x) : printL (xs.take (k + 1)) N old = printL (xs.take k) N old ++ partL N old x := by
  have hk : k < xs.length := (List.getElem?_eq_some_iff.1 hx).1
  rw [List.take_add_one, hx]
  simp [printL]
theorem printL_take_le (xs : List Part) (N : Nat) (old : Bool) (k : Nat) : (printL (xs.take k) N old).length ≤ (printL xs N old).length := by
  have h : printL xs N old = printL (xs.take k) N old ++ printL (xs.drop k) N old := by
    rw [printL, printL, printL, ← List.flatMap_append, List.take_append_drop]
  rw [h, List.length_append]; omega

set_option maxHeartbeats 2000000 in
set_option maxRecDepth 100000 in
theorem print_any (xs : List Part) (n : Int) (N : Nat) (old : Bool) (A : Option Addr) (c : Nat) (w : World) (hC : Kd.C kPart w A xs.length xs) (hS : Signs w) (hN : max n 1 = (N : Int)) (hN9 : N ≤ 1000000000)
    (hlen : xs.length ≤ 1000000) (hx : ∀ p ∈ xs, p.o.length ≤ 1000000000 ∧ p.a.length ≤ 1000000000 ∧ p.b.length ≤ 1000000000) (htot : (printL xs N old).length ≤ 1000000000000) :
    Calls Tryz.prog 42 #[.slice A xs.length c, .int .i64 n, .bool old] w fun e w' => e = .returned (.string (B (printL xs N old))) ∧ Below w.heap.size w w' := by
  have htot' : ∀ k, (printL (xs.take k) N old).length ≤ 1000000000000 := fun k => Nat.le_trans (printL_take_le xs N old k) htot
  have HT := Lib.hid htot'
  have HX := Lib.hid hx
  have HCC := Lib.hid hC
  have HS := Lib.hid hS
  clear htot' hx hC htot hS
  go_enter Tryz.func42, Tryz.ntmps42
  go_wp2
  go_loopw [16] (fun i wr => ∃ k : Nat, k ≤ xs.length ∧ i = .int .i64 k ∧ IsB w.heap.size (w.heap.size + 1) (printL (xs.take k) N old) wr ∧ wr.heap[w.heap.size]? = some (.cells #[.int .i64 N] 3 (0, 0)) ∧ Below w.heap.size w wr)
    (fun i _ => xs.length - (intOf i).toNat)
  case atStart =>
    refine ⟨0, Nat.zero_le _, rfl, ?_, ?_, ((Below.refl _ _).alloc (Nat.le_refl _) _).alloc (by simp) _⟩
    · exact IsB.new (by omega) (by have := heap_alloc_new (w.alloc (Obj.cells #[Value.int IntKind.i64 N] 3)) (Obj.cells #[Value.pointer none, Value.slice none 0 0] 81); simpa using this)
    · exact (Below.heap_alloc _ _ _ (by simp)).trans (heap_alloc_new w _)
  case round =>
    obtain ⟨k, hk, rfl, hI, hbn, hB⟩ := hrel
    by_cases hlt : k < xs.length
    · obtain ⟨x, hxk⟩ : ∃ x, xs[k]? = some x := ⟨xs[k], List.getElem?_eq_getElem hlt⟩
      obtain ⟨ad, rfl, p0, p1, p2, p3⟩ := at_part (Kd.C_below HCC.out hB) k hlt x hxk
      have hmem : x ∈ xs := List.mem_of_getElem? hxk
      obtain ⟨lo, la, lb⟩ := HX.out x hmem
      have hacc := HT.out k
      have hacc1 := HT.out (k + 1)
      have HA := Lib.hid (printL_take xs N old k x hxk)
      obtain ⟨cl, xo, xa, xb⟩ := x
      have hS0 := HS.out.below hB
      have RN := Lib.hid (show RS w w.heap.size (w.heap.size + 1) wr.heap.size N ⟨cl, xo, xa, xb⟩ (printL (xs.take k) N old) (wr.alloc (.cells #[.bool cl, .string (B xo), .string (B xa), .string (B xb)] 55)) from
        ⟨hI.alloc _, (Below.heap_alloc _ _ _ (by have := hI.lt; omega)).trans hbn, heap_alloc_new wr _, hB.alloc hB.size _, by omega, by have := hI.lt; omega⟩)
      clear hI hbn
      have hsz := hB.size
      simp only at lo la lb p0 p1 p2 p3
      cases cl with
      | false =>
        go_wp2_with fail
        refine (RN.out.1.write xa (by omega) (by simp; omega)).mono ?_
        rintro e w1 ⟨rfl, hI1, hb1, hO1⟩
        have R1 := Lib.hid (RN.out.step hI1 hb1 hO1)
        go_wp2
        go_roundw
        case rel => exact ⟨k + 1, by omega, by go_num, by rw [HA.out]; exact R1.out.1, R1.out.2.1, R1.out.2.2.2.1⟩
        case measure => simp [intOf]; omega
      | true =>
        cases old with
        | true =>
          have hP : (printL (xs.take k) N true).length + (partL N true ⟨true, xo, xa, xb⟩).length ≤ 1000000000000 := by rw [← List.length_append, ← HA.out]; exact hacc1
          simp only [partL, if_true, List.length_append] at hP
          have hwo : wOurs.length ≤ 1000000000 := by decide
          have hwb : wBase.length ≤ 1000000000 := by decide
          have hwt : wTheirs.length ≤ 1000000000 := by decide
          have R0 := RN
          clear RN
          obtain ⟨s0, s1, s2, s3, s4, s5, s6, s7⟩ := R0.out.signs HS.out
          obtain ⟨-, r1, r2, r3, q0⟩ := R0.out.part
          have z0 := R0.out.size
          go_wp2_with fail
          refine (line_any 60 wOurs N false wOurs _ hN9 hwo).mono ?_
          rintro e w1 ⟨rfl, hb1⟩
          have R1 := Lib.hid (R0.out.below hb1)
          clear p0 p1 p2 p3
          clear s0 s1 s2 s3 s4 s5 s6 s7 r1 r2 r3 q0
          obtain ⟨s0, s1, s2, s3, s4, s5, s6, s7⟩ := R1.out.signs HS.out
          obtain ⟨-, r1, r2, r3, q0⟩ := R1.out.part
          have z1 := R1.out.size
          go_wp2_with fail
          refine (R1.out.1.write (lineL 60 N false wOurs) (by omega) z1).mono ?_
          rintro e w2 ⟨rfl, hI2, hb2, hO2⟩
          have R2 := Lib.hid (R1.out.step hI2 hb2 hO2)
          clear s0 s1 s2 s3 s4 s5 s6 s7 r1 r2 r3 q0
          clear hI2
          obtain ⟨s0, s1, s2, s3, s4, s5, s6, s7⟩ := R2.out.signs HS.out
          obtain ⟨-, r1, r2, r3, q0⟩ := R2.out.part
          have z2 := R2.out.size
          go_wp2_with fail
          refine (section_any xa 124 wBase N w.heap.size (w.heap.size + 1) w.heap.size _ _ hN9 hwb la (by simp only [List.length_append]; omega) R2.out.1 q0 z2).mono ?_
          rintro e w3 ⟨rfl, hI3, hb3, hO3⟩
          have R3 := Lib.hid (R2.out.step hI3 hb3 hO3)
          clear s0 s1 s2 s3 s4 s5 s6 s7 r1 r2 r3 q0
          clear hI3
          obtain ⟨s0, s1, s2, s3, s4, s5, s6, s7⟩ := R3.out.signs HS.out
          obtain ⟨-, r1, r2, r3, q0⟩ := R3.out.part
          have z3 := R3.out.size
          go_wp2_with fail
          refine (section_any xo 61 [] N w.heap.size (w.heap.size + 1) w.heap.size _ _ hN9 (by simp) lo (by simp only [List.length_append]; omega) R3.out.1 q0 z3).mono ?_
          rintro e w4 ⟨rfl, hI4, hb4, hO4⟩
          have R4 := Lib.hid (R3.out.step hI4 hb4 hO4)
          clear s0 s1 s2 s3 s4 s5 s6 s7 r1 r2 r3 q0
          clear hI4
          obtain ⟨s0, s1, s2, s3, s4, s5, s6, s7⟩ := R4.out.signs HS.out
          obtain ⟨-, r1, r2, r3, q0⟩ := R4.out.part
          have z4 := R4.out.size
          go_wp2_with fail
          refine (section_any xb 62 wTheirs N w.heap.size (w.heap.size + 1) w.heap.size _ _ hN9 hwt lb (by simp only [List.length_append]; omega) R4.out.1 q0 z4).mono ?_
          rintro e w5 ⟨rfl, hI5, hb5, hO5⟩
          have R5 := Lib.hid (R4.out.step hI5 hb5 hO5)
          clear s0 s1 s2 s3 s4 s5 s6 s7 r1 r2 r3 q0
          clear hI5
          obtain ⟨s0, s1, s2, s3, s4, s5, s6, s7⟩ := R5.out.signs HS.out
          obtain ⟨-, r1, r2, r3, q0⟩ := R5.out.part
          have z5 := R5.out.size
          go_wp2
          go_roundw
          case rel => exact ⟨k + 1, by omega, by go_num, by rw [HA.out]; have h := R5.out.1; simp only [partL, if_true]; simpa only [List.append_assoc] using h, R5.out.2.1, R5.out.2.2.2.1⟩
          case measure => simp [intOf]; omega
        | false =>
          have hP : (printL (xs.take k) N false).length + (partL N false ⟨true, xo, xa, xb⟩).length ≤ 1000000000000 := by rw [← List.length_append, ← HA.out]; exact hacc1
          simp only [partL, if_true, Bool.false_eq_true, if_false, List.length_append] at hP
          have hwo : wOurs.length ≤ 1000000000 := by decide
          have hwb : wBase.length ≤ 1000000000 := by decide
          have hwt : wTheirs.length ≤ 1000000000 := by decide
          have R0 := RN
          clear RN
          obtain ⟨s0, s1, s2, s3, s4, s5, s6, s7⟩ := R0.out.signs HS.out
          obtain ⟨-, r1, r2, r3, q0⟩ := R0.out.part
          have z0 := R0.out.size
          go_wp2_with fail
          refine (line_any 60 wOurs N false wOurs _ hN9 hwo).mono ?_
          rintro e w1 ⟨rfl, hb1⟩
          have R1 := Lib.hid (R0.out.below hb1)
          clear p0 p1 p2 p3
          clear s0 s1 s2 s3 s4 s5 s6 s7 r1 r2 r3 q0
          obtain ⟨s0, s1, s2, s3, s4, s5, s6, s7⟩ := R1.out.signs HS.out
          obtain ⟨-, r1, r2, r3, q0⟩ := R1.out.part
          have z1 := R1.out.size
          go_wp2_with fail
          refine (R1.out.1.write (lineL 60 N false wOurs) (by omega) z1).mono ?_
          rintro e w2 ⟨rfl, hI2, hb2, hO2⟩
          have R2 := Lib.hid (R1.out.step hI2 hb2 hO2)
          clear s0 s1 s2 s3 s4 s5 s6 s7 r1 r2 r3 q0
          clear hI2
          obtain ⟨s0, s1, s2, s3, s4, s5, s6, s7⟩ := R2.out.signs HS.out
          obtain ⟨-, r1, r2, r3, q0⟩ := R2.out.part
          have z2 := R2.out.size
          go_wp2_with fail
          refine (section_any xa 61 [] N w.heap.size (w.heap.size + 1) w.heap.size _ _ hN9 (by simp) la (by simp only [List.length_append]; omega) R2.out.1 q0 z2).mono ?_
          rintro e w3 ⟨rfl, hI3, hb3, hO3⟩
          have R3 := Lib.hid (R2.out.step hI3 hb3 hO3)
          clear s0 s1 s2 s3 s4 s5 s6 s7 r1 r2 r3 q0
          clear hI3
          obtain ⟨s0, s1, s2, s3, s4, s5, s6, s7⟩ := R3.out.signs HS.out
          obtain ⟨-, r1, r2, r3, q0⟩ := R3.out.part
          have z3 := R3.out.size
          go_wp2_with fail
          refine (section_any xb 62 wTheirs N w.heap.size (w.heap.size + 1) w.heap.size _ _ hN9 hwt lb (by simp only [List.length_append]; omega) R3.out.1 q0 z3).mono ?_
          rintro e w4 ⟨rfl, hI4, hb4, hO4⟩
          have R4 := Lib.hid (R3.out.step hI4 hb4 hO4)
          clear s0 s1 s2 s3 s4 s5 s6 s7 r1 r2 r3 q0
          clear hI4
          obtain ⟨s0, s1, s2, s3, s4, s5, s6, s7⟩ := R4.out.signs HS.out
          obtain ⟨-, r1, r2, r3, q0⟩ := R4.out.part
          have z4 := R4.out.size
          go_wp2
          go_roundw
          case rel => exact ⟨k + 1, by omega, by go_num, by rw [HA.out]; have h := R4.out.1; simp only [partL, if_true, Bool.false_eq_true, if_false]; simpa only [List.append_assoc] using h, R4.out.2.1, R4.out.2.2.2.1⟩
          case measure => simp [intOf]; omega
    · obtain rfl : k = xs.length := by omega
      go_wp2_with fail
      refine (hI.string (by have := hB.size; omega)).mono ?_
      rintro e w1 ⟨rfl, -, hb1, -⟩
      go_wp2
      go_ret
      exact ⟨rfl, hB.trans hb1⟩

end Go.Proofs.YtogfkfkejaiecaaGreatDoor.Mk

namespace Go.Proofs.YtogfkfkejaiecaaGreatDoor.Ml
open Go.RowKit Go.Shelf Pl Ut Ln Go.Proofs.YtogfkfkejaiecaaGreatDoorW.PrintWords
set_option linter.unusedVariables false
set_option linter.unusedSimpArgs false
attribute [local go_sem] B_append B_extract B_toList B_size take_end

theorem iter_new (w : World) (s : ByteArray) : (w.iter s 0).heap[w.heap.size]? = some (.stringIter s 0) := World.iter_heap w s 0

theorem dw_all (c : UInt8) : ∀ (s : Str), (∀ j, j < s.length → s[j]? = some c) → s.dropWhile (· == c) = []
  | [], _ => rfl
  | x :: t, h => by
    have h0 := h 0 (by simp)
    simp at h0
    subst h0
    simp only [List.dropWhile_cons, beq_self_eq_true, if_true]
    exact dw_all x t (fun j hj => by have := h (j + 1) (by simp; omega); simpa using this)
theorem dw_at (c : UInt8) : ∀ (s : Str) (k : Nat), k < s.length → (∀ j, j < k → s[j]? = some c) → s[k]? ≠ some c → s.dropWhile (· == c) = s.drop k
  | [], k, h, _, _ => by simp at h
  | x :: t, 0, _, _, hn => by
    have : x ≠ c := by simpa using hn
    simp [this]
  | x :: t, k + 1, hk, h, hn => by
    have h0 := h 0 (by omega)
    simp at h0
    subst h0
    simp only [List.dropWhile_cons, beq_self_eq_true, if_true, List.drop_succ_cons]
    exact dw_at x t k (by simpa using hk) (fun j hj => by have := h (j + 1) (by omega); simpa using this) (by simpa using hn)

set_option maxRecDepth 100000 in
set_option maxHeartbeats 2000000 in
theorem cutLeft_any (c : UInt8) (hc : c.toNat < 128) (s : Str) (w : World) (hs : s.length ≤ 1000000000) :
    Calls Tryz.prog 62 #[.string (B s), .string (B [c])] w fun e w' => e = .returned (.string (B (s.dropWhile (· == c)))) ∧ Below w.heap.size w w' := by
  go_enter Tryz.func62, Tryz.ntmps62
  go_wp2
  go_loopw [] (fun wr => ∃ pos : Nat, pos ≤ s.length ∧ wr.heap[w.heap.size]? = some (.stringIter (B s) pos) ∧ Below w.heap.size w wr ∧ ∀ j, j < pos → s[j]? = some c) (fun wr => s.length - wr.iterPos w.heap.size)
  case atStart =>
    exact ⟨0, Nat.zero_le _, iter_new w _, (Below.refl _ w).alloc (Nat.le_refl _) _, fun j h => absurd h (Nat.not_lt_zero _)⟩
  case round =>
    obtain ⟨pos, hpl, hit, hbw, hall⟩ := hrel
    have HALL := Lib.hid hall
    clear hall
    have hsz : w.heap.size < wr.heap.size := (Array.getElem?_eq_some_iff.1 hit).1
    by_cases hp : pos < s.length
    · have hp' : pos < (B s).size := by rw [B_size]; exact hp
      obtain ⟨r, hr⟩ : ∃ r, r = (Utf8.decode (B s) pos).1 := ⟨_, rfl⟩
      obtain ⟨d, hd⟩ : ∃ d, d = (Utf8.decode (B s) pos).2 := ⟨_, rfl⟩
      have hnx : ∀ ty, (Instr.next (.pointer (some ⟨w.heap.size, 0, none⟩)) true ty).run Tryz.prog wr = .ok (.tuple #[.bool true, .int .i64 pos, .int .i32 r]) (wr.iterAt w.heap.size (B s) (pos + d)) := fun ty => by rw [hr, hd]; exact Lib.run_next_any_at wr w.heap.size (B s) pos ty hit hp'
      have hr2 : r ≤ 2147483647 := by rw [hr]; exact decode_le _ _
      have hdec : (r = c.toNat ∧ d = 1 ∧ s[pos]? = some c) ∨ (r ≠ c.toNat ∧ s[pos]? ≠ some c) := by
        by_cases ha : (s[pos]'hp).toNat < 128
        · have := decode_ascii (B s) pos hp' ha
          rw [this] at hr hd
          have hg : (B s)[pos]'hp' = s[pos] := rfl
          simp only [hg] at hr hd
          by_cases e : s[pos] = c
          · exact .inl ⟨by rw [hr, e], hd, by rw [List.getElem?_eq_getElem hp, e]⟩
          · exact .inr ⟨by rw [hr]; intro h; exact e (UInt8.toNat_inj.1 h), by rw [List.getElem?_eq_getElem hp]; simpa using e⟩
        · have := decode_high (B s) pos hp' (Nat.not_lt.1 ha)
          rw [← hr] at this
          exact .inr ⟨by omega, by rw [List.getElem?_eq_getElem hp]; intro h; injection h with h; rw [h] at ha; exact ha hc⟩
      have HD := Lib.hid hdec
      clear hr hd hdec
      obtain ⟨W, hW⟩ : ∃ W, W = wr.iterAt w.heap.size (B s) (pos + d) := ⟨_, rfl⟩
      rw [← hW] at hnx
      have hitW : W.heap[w.heap.size]? = some (.stringIter (B s) (pos + d)) := by rw [hW]; exact Lib.iterAt_heap wr w.heap.size (B s) pos (pos + d) hit
      have hbW : Below w.heap.size w W := by rw [hW]; exact Lib.below_iterAt hbw (Nat.le_refl _) (B s) (pos + d)
      have hszW : w.heap.size < W.heap.size := (Array.getElem?_eq_some_iff.1 hitW).1
      have HHIT := Lib.hid hit
      have HW := Lib.hid hW
      clear hW hit
      obtain ⟨m, hm⟩ : ∃ m, ((r : Int) == (c.toNat : Int)) = m := ⟨_, rfl⟩
      have hmm : (m = true ∧ d = 1 ∧ s[pos]? = some c) ∨ (m = false ∧ s[pos]? ≠ some c) := by
        rcases HD.out with ⟨h1, h2, h3⟩ | ⟨h1, h3⟩
        · exact .inl ⟨by rw [← hm, h1]; simp, h2, h3⟩
        · refine .inr ⟨?_, h3⟩
          rw [← hm, beq_eq_false_iff_ne]
          intro h; exact h1 (by omega)
      have HM := Lib.hid hmm
      clear hmm HD
      have hc0 : ([c] : Str).length = 1 := rfl
      obtain ⟨wo, rfl⟩ : ∃ wo : World, wo = wr := ⟨_, rfl⟩
      go_wp2
      go_loopw [7] (fun v wi => ∃ p2 : Nat, ((p2 = 0 ∧ v = .bool false) ∨ (p2 = 1 ∧ v = .bool m)) ∧ wi.heap[W.heap.size]? = some (.stringIter (B [c]) p2) ∧ wi.heap[w.heap.size]? = some (.stringIter (B s) (pos + d)) ∧ Below w.heap.size w wi) (fun _ wi => 1 - wi.iterPos W.heap.size)
      case atStart =>
        exact ⟨0, .inl ⟨rfl, rfl⟩, iter_new W _, (Below.heap_alloc W _ _ hszW).trans hitW, hbW.alloc hbW.size _⟩
      case round =>
        obtain ⟨p2, hv, hi2, hi1, hbi⟩ := hrel
        have hsz2 : W.heap.size < wr.heap.size := (Array.getElem?_eq_some_iff.1 hi2).1
        clear hnx
        rcases hv with ⟨rfl, rfl⟩ | ⟨rfl, rfl⟩
        · have hda := decode_ascii (B [c]) 0 (by rw [B_size]; simp) hc
          have hnx2 : ∀ ty, (Instr.next (.pointer (some ⟨W.heap.size, 0, none⟩)) true ty).run Tryz.prog wr = .ok (.tuple #[.bool true, .int .i64 ((0 : Nat) : Int), .int .i32 (c.toNat : Int)]) (wr.iterAt W.heap.size (B [c]) 1) := fun ty => by
            have h := Lib.run_next_any_at (P := Tryz.prog) wr W.heap.size (B [c]) 0 ty hi2 (by rw [B_size]; simp)
            rw [hda] at h
            exact h
          have hi2' := Lib.iterAt_heap wr W.heap.size (B [c]) 0 1 hi2
          have hi1' : (wr.iterAt W.heap.size (B [c]) 1).heap[w.heap.size]? = some (.stringIter (B s) (pos + d)) := by rw [Lib.iterAt_other _ _ _ _ _ (by omega)]; exact hi1
          have hbi' := Lib.below_iterAt hbi (k := W.heap.size) (by omega) (B [c]) 1
          have HI := Lib.hid hi2
          clear hi2 hda
          go_wp2
          go_roundw
          case rel => exact ⟨1, .inr ⟨rfl, rfl⟩, hi2', hi1', hbi'⟩
          case measure => simp only [World.iterPos, HI.out, hi2']; omega
        · have hnx2 : ∀ ty, (Instr.next (.pointer (some ⟨W.heap.size, 0, none⟩)) true ty).run Tryz.prog wr = .ok (.tuple #[.bool false]) wr := fun ty => Lib.run_next_end_at wr W.heap.size (B [c]) 1 ty hi2 (by rw [B_size]; simp)
          rcases HM.out with ⟨rfl, rfl, hsc⟩ | ⟨rfl, hsc⟩
          · go_wp2
            go_roundw
            case rel =>
              refine ⟨pos + 1, by omega, hi1, hbi, fun j hj => ?_⟩
              by_cases e : j = pos
              · rw [e]; exact hsc
              · exact HALL.out j (by omega)
            case measure => simp only [World.iterPos, HHIT.out, hi1]; omega
          · go_wp2
            go_ret
            exact ⟨by rw [dw_at c s pos hp HALL.out hsc]; rfl, hbi⟩
    · have hnx : ∀ ty, (Instr.next (.pointer (some ⟨w.heap.size, 0, none⟩)) true ty).run Tryz.prog wr = _ := fun ty => Lib.run_next_end_at wr w.heap.size (B s) pos ty hit (by rw [B_size]; omega)
      go_wp2
      go_ret
      exact ⟨by rw [dw_all c s (fun j hj => HALL.out j (by omega))]; rfl, hbw⟩

theorem foldl_take {α β : Type} (f : β → α → β) (b : β) (l : List α) (k : Nat) (x : α) (h : l[k]? = some x) : (l.take (k + 1)).foldl f b = f ((l.take k).foldl f b) x := by
  rw [List.take_add_one, h]; simp

set_option maxRecDepth 100000 in
set_option maxHeartbeats 4000000 in
theorem length_any (ts : List Str) (A : Option Addr) (c : Nat) (w : World) (hC : Kd.C kStr w A ts.length ts) (hS : Signs w) (hlen : ts.length ≤ 1000000) (hx : ∀ t ∈ ts, t.length ≤ 1000000000) :
    Calls Tryz.prog 41 #[.slice A ts.length c] w fun e w' => e = .returned (.int .i64 (lengthL ts)) ∧ Below w.heap.size w w' := by
  have HX := Lib.hid hx
  have HCC := Lib.hid hC
  have HS := Lib.hid hS
  clear hx hC hS
  go_enter Tryz.func41, Tryz.ntmps41
  go_wp2
  go_loopw [3, 12] (fun v i wr => ∃ k : Nat, k ≤ ts.length ∧ i = .int .i64 k ∧ v = .int .i64 ((ts.take k).foldl textMax 7 : Nat) ∧ Below w.heap.size w wr) (fun _ i _ => ts.length - (intOf i).toNat)
  case atStart => exact ⟨0, Nat.zero_le _, rfl, rfl, Below.refl _ _⟩
  case round =>
    obtain ⟨k, hk, rfl, rfl, hB⟩ := hrel
    obtain ⟨n0, hn0⟩ : ∃ n0, n0 = (ts.take k).foldl textMax 7 := ⟨_, rfl⟩
    rw [← hn0]
    have HN0 := Lib.hid hn0
    clear hn0
    by_cases hlt : k < ts.length
    · obtain ⟨t, htk⟩ : ∃ t, ts[k]? = some t := ⟨ts[k], List.getElem?_eq_getElem hlt⟩
      have htl := HX.out t (List.mem_of_getElem? htk)
      obtain ⟨ad, rfl, p0⟩ := at_str (Kd.C_below HCC.out hB) k hlt t htk
      have HT := Lib.hid htk
      clear htk
      go_wp2_with fail
      refine (split_any t (by omega) _).mono ?_
      rintro e W1 ⟨v, rfl, hR, hb1⟩
      obtain ⟨A2, c2, rfl, hc2, hC2⟩ := Kd.R_reads hR
      have hcnt := splitL_count t
      have HC2 := Lib.hid hC2
      clear hR hC2
      obtain ⟨wo, rfl⟩ : ∃ wo : World, wo = wr := ⟨_, rfl⟩
      have hBW : Below w.heap.size w W1 := hB.trans (hb1.mono hB.size)
      go_wp2
      go_loopw [3, 19] (fun v i wr => ∃ j n : Nat, j ≤ (splitL t).length ∧ i = .int .i64 j ∧ v = .int .i64 n ∧ n = ((splitL t).take j).foldl lineMax n0 ∧ Below W1.heap.size W1 wr) (fun _ i _ => (splitL t).length - (intOf i).toNat)
      case atStart => exact ⟨0, n0, Nat.zero_le _, rfl, rfl, rfl, Below.refl _ _⟩
      case round =>
        obtain ⟨j, n1, hj, rfl, rfl, hn1, hB1⟩ := hrel
        have HN1 := Lib.hid hn1
        clear hn1
        by_cases hjl : j < (splitL t).length
        · obtain ⟨x, hxj⟩ : ∃ x, (splitL t)[j]? = some x := ⟨_, List.getElem?_eq_getElem hjl⟩
          have hxl : x.length ≤ 1000000000 := Nat.le_trans (splitL_len t x (List.mem_of_getElem? hxj)) htl
          obtain ⟨ad2, rfl, q0⟩ := at_str (Kd.C_below HC2.out hB1) j hjl x hxj
          have HXJ := Lib.hid hxj
          clear hxj
          obtain ⟨wo2, rfl⟩ : ∃ wo2 : World, wo2 = wr := ⟨_, rfl⟩
          have hBo : Below w.heap.size w wo2 := hBW.trans (hB1.mono hBW.size)
          obtain ⟨s0, s1, s2, s3, s4, s5, s6, s7⟩ := HS.out.below hBo
          go_wp2
          go_loopw [3, 24] (fun v i wr => ∃ q : Nat, q ≤ 4 ∧ i = .int .i64 q ∧ v = .int .i64 (lineMaxK n1 x q : Nat) ∧ Below W1.heap.size W1 wr) (fun _ i _ => 4 - (intOf i).toNat)
          case atStart => exact ⟨0, by omega, rfl, rfl, hB1⟩
          case round =>
            obtain ⟨q, hq, rfl, rfl, hB2⟩ := hrel
            have hsz1 := hB2.size
            have hcase : q = 0 ∨ q = 1 ∨ q = 2 ∨ q = 3 ∨ q = 4 := by omega
            rcases hcase with rfl | rfl | rfl | rfl | rfl
            · have hidx : ∀ W, (Instr.index 108 (.agg #[.string (B [60]), .string (B wOurs), .string (B [124]), .string (B wBase), .string (B [61]), .string (B []), .string (B [62]), .string (B wTheirs)]) (.int .i64 0)).run Tryz.prog W = .ok (.agg #[.string (B [60]), .string (B wOurs)]) W := fun _ => by kernel_rfl
              have hre := runL_eq 60 x
              have hdl := dw_le 60 x
              obtain ⟨dw, hdw⟩ : ∃ dw, dw = x.dropWhile (· == 60) := ⟨_, rfl⟩
              rw [← hdw] at hre hdl
              have HRE := Lib.hid hre
              have HDW := Lib.hid hdw
              clear hre hdw
              obtain ⟨m0, hm0⟩ : ∃ m0, m0 = lineMaxK n1 x 0 := ⟨_, rfl⟩
              have HM0 := Lib.hid hm0
              simp only [← hm0]
              clear hm0
              go_wp2_with fail
              refine (cutLeft_any 60 (by decide) x _ hxl).mono ?_
              rw [← HDW.out]
              rintro e W2 ⟨rfl, hb2⟩
              go_wp2
              go_roundw
              case rel => exact ⟨1, by omega, rfl, by rw [HRE.out, max_cast, HM0.out]; rfl, (hB2.alloc hB2.size _).trans (hb2.mono (by simp; omega))⟩
              case measure => simp [intOf]
            · have hidx : ∀ W, (Instr.index 108 (.agg #[.string (B [60]), .string (B wOurs), .string (B [124]), .string (B wBase), .string (B [61]), .string (B []), .string (B [62]), .string (B wTheirs)]) (.int .i64 1)).run Tryz.prog W = .ok (.agg #[.string (B [124]), .string (B wBase)]) W := fun _ => by kernel_rfl
              have hre := runL_eq 124 x
              have hdl := dw_le 124 x
              obtain ⟨dw, hdw⟩ : ∃ dw, dw = x.dropWhile (· == 124) := ⟨_, rfl⟩
              rw [← hdw] at hre hdl
              have HRE := Lib.hid hre
              have HDW := Lib.hid hdw
              clear hre hdw
              obtain ⟨m0, hm0⟩ : ∃ m0, m0 = lineMaxK n1 x 1 := ⟨_, rfl⟩
              have HM0 := Lib.hid hm0
              simp only [← hm0]
              clear hm0
              go_wp2_with fail
              refine (cutLeft_any 124 (by decide) x _ hxl).mono ?_
              rw [← HDW.out]
              rintro e W2 ⟨rfl, hb2⟩
              go_wp2
              go_roundw
              case rel => exact ⟨2, by omega, rfl, by rw [HRE.out, max_cast, HM0.out]; rfl, (hB2.alloc hB2.size _).trans (hb2.mono (by simp; omega))⟩
              case measure => simp [intOf]
            · have hidx : ∀ W, (Instr.index 108 (.agg #[.string (B [60]), .string (B wOurs), .string (B [124]), .string (B wBase), .string (B [61]), .string (B []), .string (B [62]), .string (B wTheirs)]) (.int .i64 2)).run Tryz.prog W = .ok (.agg #[.string (B [61]), .string (B [])]) W := fun _ => by kernel_rfl
              have hre := runL_eq 61 x
              have hdl := dw_le 61 x
              obtain ⟨dw, hdw⟩ : ∃ dw, dw = x.dropWhile (· == 61) := ⟨_, rfl⟩
              rw [← hdw] at hre hdl
              have HRE := Lib.hid hre
              have HDW := Lib.hid hdw
              clear hre hdw
              obtain ⟨m0, hm0⟩ : ∃ m0, m0 = lineMaxK n1 x 2 := ⟨_, rfl⟩
              have HM0 := Lib.hid hm0
              simp only [← hm0]
              clear hm0
              go_wp2_with fail
              refine (cutLeft_any 61 (by decide) x _ hxl).mono ?_
              rw [← HDW.out]
              rintro e W2 ⟨rfl, hb2⟩
              go_wp2
              go_roundw
              case rel => exact ⟨3, by omega, rfl, by rw [HRE.out, max_cast, HM0.out]; rfl, (hB2.alloc hB2.size _).trans (hb2.mono (by simp; omega))⟩
              case measure => simp [intOf]
            · have hidx : ∀ W, (Instr.index 108 (.agg #[.string (B [60]), .string (B wOurs), .string (B [124]), .string (B wBase), .string (B [61]), .string (B []), .string (B [62]), .string (B wTheirs)]) (.int .i64 3)).run Tryz.prog W = .ok (.agg #[.string (B [62]), .string (B wTheirs)]) W := fun _ => by kernel_rfl
              have hre := runL_eq 62 x
              have hdl := dw_le 62 x
              obtain ⟨dw, hdw⟩ : ∃ dw, dw = x.dropWhile (· == 62) := ⟨_, rfl⟩
              rw [← hdw] at hre hdl
              have HRE := Lib.hid hre
              have HDW := Lib.hid hdw
              clear hre hdw
              obtain ⟨m0, hm0⟩ : ∃ m0, m0 = lineMaxK n1 x 3 := ⟨_, rfl⟩
              have HM0 := Lib.hid hm0
              simp only [← hm0]
              clear hm0
              go_wp2_with fail
              refine (cutLeft_any 62 (by decide) x _ hxl).mono ?_
              rw [← HDW.out]
              rintro e W2 ⟨rfl, hb2⟩
              go_wp2
              go_roundw
              case rel => exact ⟨4, by omega, rfl, by rw [HRE.out, max_cast, HM0.out]; rfl, (hB2.alloc hB2.size _).trans (hb2.mono (by simp; omega))⟩
              case measure => simp [intOf]
            · go_wp2
              go_roundw
              case rel => exact ⟨j + 1, lineMax n1 x, by omega, by go_num, rfl, by rw [foldl_take _ _ _ _ _ HXJ.out, ← HN1.out], hB2⟩
              case measure => simp [intOf]; omega
        · obtain rfl : j = (splitL t).length := by omega
          go_wp2
          go_roundw
          case rel => exact ⟨k + 1, by omega, by go_num, by rw [foldl_take _ _ _ _ _ HT.out, ← HN0.out, HN1.out, List.take_length]; rfl, hBW.trans (hB1.mono hBW.size)⟩
          case measure => simp [intOf]; omega
    · obtain rfl : k = ts.length := by omega
      go_wp2
      go_ret
      exact ⟨by rw [HN0.out, List.take_length]; rfl, hB⟩

end Go.Proofs.YtogfkfkejaiecaaGreatDoor.Ml

namespace Go.Proofs.YtogfkfkejaiecaaGreatDoor.Ms
open Go.RowKit Go.Shelf Pl Ut Ln Mk Ml Go.Proofs.YtogfkfkejaiecaaGreatDoorW.PrintWords
set_option linter.unusedVariables false
set_option linter.unusedSimpArgs false
attribute [local go_sem] B_append B_extract B_toList B_size take_end

theorem textsL_take (xs : List Part) (k : Nat) (x : Part) (hx : xs[k]? = some x) : textsL (xs.take (k + 1)) = textsL (xs.take k) ++ [x.o, x.a, x.b] := by
  rw [List.take_add_one, hx]
  simp [textsL]
theorem textsL_length (xs : List Part) : (textsL xs).length = 3 * xs.length := by
  induction xs with
  | nil => rfl
  | cons a t ih => simp [textsL] at ih ⊢; omega
theorem cell_three_new (w : World) (e : TypeId) (a b c : Value) : ∀ (j : Nat) (u : Value), [a, b, c][j]? = some u → (w.alloc (.cells #[a, b, c] e)).cell? ((⟨w.heap.size, 0, none⟩ : Addr).add j) = some u := by
  intro j u hj
  have hb : (w.alloc (.cells #[a, b, c] e)).heap[w.heap.size]? = some (.cells #[a, b, c] e (0, 0)) := heap_alloc_new w _
  rw [add_plain, cell_of_row _ _ _ _ _ _ hb]
  simpa using hj

set_option maxRecDepth 100000 in
set_option maxHeartbeats 4000000 in
theorem show_any (xs : List Part) (N : Nat) (old : Bool) (A : Option Addr) (c : Nat) (w : World) (hC : Kd.C kPart w A xs.length xs) (hS : Signs w) (hN : lengthL (textsL xs) = N) (hN9 : N ≤ 1000000000)
    (hlen : xs.length ≤ 300000) (hx : ∀ p ∈ xs, p.o.length ≤ 1000000000 ∧ p.a.length ≤ 1000000000 ∧ p.b.length ≤ 1000000000) (htot : (printL xs N old).length ≤ 1000000000000) :
    Calls Tryz.prog 26 #[.slice A xs.length c, .bool old] w fun e w' => e = .returned (.tuple #[.string (B (printL xs N old)), .int .i64 N]) ∧ Below w.heap.size w w' := by
  obtain ⟨i0, hi, hz0, hz1, hz2⟩ := info_parts infoString
  have HX := Lib.hid hx
  have HCC := Lib.hid hC
  have HS := Lib.hid hS
  have HN := Lib.hid hN
  have HTOT := Lib.hid htot
  clear hx hC hS hN htot
  go_enter Tryz.func26, Tryz.ntmps26
  go_wp2
  go_loopw [6, 12] (fun v i wr => ∃ k : Nat, k ≤ xs.length ∧ i = .int .i64 k ∧ wr.ownsRow w.heap.size 9 1 v (3 * k) (encs (fun l : Str => .string (B l)) (textsL (xs.take k))) ∧ Below w.heap.size w wr) (fun _ i _ => xs.length - (intOf i).toNat)
  case atStart => exact ⟨0, Nat.zero_le _, rfl, World.ownsRow_nil _ _ _ _, Below.refl _ _⟩
  case round =>
    obtain ⟨k, hk, rfl, hown, hB⟩ := hrel
    have hsz := hB.size
    by_cases hlt : k < xs.length
    · obtain ⟨x, hxk⟩ : ∃ x, xs[k]? = some x := ⟨xs[k], List.getElem?_eq_getElem hlt⟩
      obtain ⟨ad, rfl, p0, p1, p2, p3⟩ := at_part (Kd.C_below HCC.out hB) k hlt x hxk
      have HXK := Lib.hid (textsL_take xs k x hxk)
      clear hxk
      go_wp2_with (at_builtin; refine wpList_append_own _ rfl _ _ 62 rfl w.heap.size 9 i0 (.string ⟨#[]⟩) 1 16 Tryz.underlying62 hi hz0 hz1 hz2 rfl (by decide) _ _ _ rfl ((hown.alloc _).alloc _) ⟨wr.heap.size + 1, 0, none⟩ 3 3 [.string (B x.o), .string (B x.a), .string (B x.b)] rfl rfl ?c1 ?c2 ?c3 ?c4 ?c5 ?_)
      case c1 => have h := cell_three_new (wr.alloc (.cells #[.bool x.clash, .string (B x.o), .string (B x.a), .string (B x.b)] 55)) 9 (.string (B x.o)) (.string (B x.a)) (.string (B x.b)); simpa using h
      case c2 => intro u hu; simp at hu; rcases hu with rfl | rfl | rfl <;> rfl
      case c3 => unfold maxLen; omega
      case c4 => omega
      case c5 => simp; omega
      intro v' w1 hown' hgrow _
      have hB1 : Below w.heap.size w w1 := ((hB.alloc hsz _).alloc (by simp; omega) _).grown hgrow (by simp; omega) (own_base hown)
      go_wp2
      go_roundw
      case rel => exact ⟨k + 1, by omega, by go_num, by rw [HXK.out]; simpa [encs, Nat.mul_add] using hown', hB1⟩
      case measure => simp [intOf]; omega
    · obtain rfl : k = xs.length := by omega
      rw [List.take_length, ← textsL_length] at hown
      have hR : kStr.R 9 wr w.heap.size (fun _ => True) _ (textsL xs) := Kd.R_of_own hown (fun _ _ => trivial)
      obtain ⟨A2, c2, rfl, hc2, hC2⟩ := Kd.R_reads hR
      have hl3 := textsL_length xs
      have HC2 := Lib.hid hC2
      clear hown hR hC2
      have HL3 := Lib.hid hl3
      have hl4 : (textsL xs).length ≤ 1000000 := by omega
      clear hl3
      go_wp2_with fail
      refine (length_any (textsL xs) A2 c2 _ HC2.out (HS.out.below hB) hl4 ?_).mono ?_
      · intro t ht
        simp only [textsL, List.mem_flatMap] at ht
        obtain ⟨p, hp, ht⟩ := ht
        obtain ⟨h1, h2, h3⟩ := HX.out p hp
        simp at ht
        rcases ht with rfl | rfl | rfl <;> assumption
      rw [HN.out]
      rintro e w1 ⟨rfl, hb1⟩
      have hB1 : Below w.heap.size w w1 := hB.trans (hb1.mono hB.size)
      have hN7 : 7 ≤ N := by
        rw [← HN.out]
        have : ∀ (ts : List Str) (n : Nat), n ≤ ts.foldl textMax n := by
          intro ts
          induction ts with
          | nil => intro n; exact Nat.le_refl _
          | cons a t ih =>
            intro n
            refine Nat.le_trans ?_ (ih (textMax n a))
            unfold textMax
            generalize splitL a = ls
            induction ls generalizing n with
            | nil => exact Nat.le_refl _
            | cons b r ih2 => exact Nat.le_trans (by unfold lineMax; omega) (ih2 (lineMax n b))
        exact this _ 7
      go_wp2_with fail
      refine (print_any xs N N old A c _ (Kd.C_below HCC.out hB1) (HS.out.below hB1) (by omega) hN9 (by omega) HX.out HTOT.out).mono ?_
      rintro e w2 ⟨rfl, hb2⟩
      go_wp2
      go_ret2
      exact ⟨rfl, hB1.trans (hb2.mono hB1.size)⟩

end Go.Proofs.YtogfkfkejaiecaaGreatDoor.Ms

namespace Go.Proofs.YtogfkfkejaiecaaGreatDoor.Ra
open Go.RowKit Go.Shelf Pl Ut Ln Go.Proofs.YtogfkfkejaiecaaGreatDoorW.PrintWords
set_option linter.unusedVariables false
set_option linter.unusedSimpArgs false
attribute [local go_sem] B_append B_extract B_toList B_size take_end

theorem str_at {s : Str} {i : Nat} {c : UInt8} (h : s[i]? = some c) : ∀ hh : i < (B s).size, (B s)[i]'hh = c := by
  intro hh
  have h2 : i < s.length := (List.getElem?_eq_some_iff.1 h).1
  have h3 : s[i] = c := (List.getElem?_eq_some_iff.1 h).2
  rw [← h3]
  rfl
theorem toNat_eq10 (c : UInt8) : ((c.toNat : Int) == 10) = (c == 10) := by
  rw [Bool.eq_iff_iff, beq_iff_eq, beq_iff_eq]
  constructor
  · intro h
    apply UInt8.toNat_inj.1
    have : c.toNat = 10 := by omega
    rw [this]; rfl
  · rintro rfl; rfl

/-- Between the lines that are told and the place that is read. -/
structure SplitAt (s : Str) (os : List Str) (f i : Nat) : Prop where
  fi : f ≤ i
  il : i ≤ s.length
  cut : splitL s = os ++ splitL (s.drop f)
  free : (10 : UInt8) ∉ (s.drop f).take (i - f)
  cnt : os.length ≤ f
theorem SplitAt.start (s : Str) : SplitAt s [] 0 0 := ⟨Nat.le_refl _, Nat.zero_le _, rfl, by simp, Nat.le_refl _⟩
theorem SplitAt.next {s : Str} {os : List Str} {f i : Nat} (h : SplitAt s os f i) {c : UInt8} (hc : s[i]? = some c) (hn : c ≠ 10) : SplitAt s os f (i + 1) := by
  obtain ⟨h1, h2, h3, h4, h5⟩ := h
  have hi : i < s.length := (List.getElem?_eq_some_iff.1 hc).1
  refine ⟨by omega, by omega, h3, ?_, h5⟩
  rw [show i + 1 - f = (i - f) + 1 by omega, List.take_add_one, List.getElem?_drop, show f + (i - f) = i by omega, hc]
  simp only [Option.toList_some, List.mem_append, List.mem_singleton, not_or]
  exact ⟨h4, fun e => hn e.symm⟩
theorem SplitAt.line {s : Str} {os : List Str} {f i : Nat} (h : SplitAt s os f i) (hc : s[i]? = some 10) : SplitAt s (os ++ [(s.drop f).take (i + 1 - f)]) (i + 1) (i + 1) := by
  obtain ⟨h1, h2, h3, h4, h5⟩ := h
  have hi : i < s.length := (List.getElem?_eq_some_iff.1 hc).1
  have hg : s[i] = 10 := (List.getElem?_eq_some_iff.1 hc).2
  have e : s.drop f = (s.drop f).take (i - f) ++ 10 :: s.drop (i + 1) := by
    conv => lhs; rw [← List.take_append_drop (i - f) (s.drop f)]
    rw [List.drop_drop, show f + (i - f) = i by omega, List.drop_eq_getElem_cons hi, hg]
  have e2 : (s.drop f).take (i + 1 - f) = (s.drop f).take (i - f) ++ [10] := by
    rw [show i + 1 - f = (i - f) + 1 by omega, List.take_add_one, List.getElem?_drop, show f + (i - f) = i by omega, hc]
    rfl
  refine ⟨Nat.le_refl _, by omega, ?_, by simp, by simp; omega⟩
  rw [h3, e2, List.append_assoc]
  congr 1
  conv => lhs; rw [e]
  rw [splitL_line _ _ h4]
  rfl
theorem SplitAt.last {s : Str} {os : List Str} {f : Nat} (h : SplitAt s os f s.length) (hf : f < s.length) : splitL s = os ++ [s.drop f] := by
  obtain ⟨h1, h2, h3, h4, h5⟩ := h
  rw [h3]
  have e : (s.drop f).take (s.length - f) = s.drop f := take_end s f
  rw [e] at h4
  rw [splitL_last _ h4 (by intro e; have := congrArg List.length e; rw [List.length_drop, List.length_nil] at this; omega)]
theorem SplitAt.all {s : Str} {os : List Str} {f : Nat} (h : SplitAt s os f s.length) (hf : ¬ f < s.length) : splitL s = os := by
  obtain ⟨h1, h2, h3, h4, h5⟩ := h
  rw [h3, List.drop_eq_nil_of_le (by omega)]
  simp [splitL]

set_option maxRecDepth 100000 in
set_option maxHeartbeats 4000000 in
theorem rsplit_any (s : Str) (hs : s.length ≤ 1000000000) (w : World) :
    Calls Tryz.prog 36 #[.string (B s)] w fun e w' => ∃ v, e = .returned v ∧ kStr.R 9 w' w.heap.size (fun _ => True) v (splitL s) ∧ Below w.heap.size w w' := by
  go_enter Tryz.func36, Tryz.ntmps36
  go_wp2
  go_loopw [3, 4, 5] (fun v f i wr => ∃ (os : List Str) (p q : Nat), f = .int .i64 p ∧ i = .int .i64 q ∧ Hid (SplitAt s os p q) ∧ Hid (kStr.R 9 wr w.heap.size (fun _ => True) v os) ∧ Below w.heap.size w wr) (fun _ _ i _ => s.length - (intOf i).toNat)
  case atStart => exact ⟨[], 0, 0, rfl, rfl, SplitAt.start s, Kd.R_nil _ _ _ _ _, Below.refl _ _⟩
  case round =>
    obtain ⟨os, p, q, rfl, rfl, HA, HR, hB⟩ := hrel
    have hsz := hB.size
    obtain ⟨wo, rfl⟩ : ∃ wo : World, wo = wr := ⟨_, rfl⟩
    have hpq := HA.out.fi
    have hql := HA.out.il
    have hcnt := HA.out.cnt
    by_cases hlt : q < s.length
    · obtain ⟨x, hx⟩ : ∃ x, s[q]? = some x := ⟨s[q], List.getElem?_eq_getElem hlt⟩
      have hat := str_at hx
      have HX := Lib.hid hx
      clear hx
      have h10 := toNat_eq10 x
      cases hx10 : (x == 10) with
      | true =>
        rw [hx10] at h10
        go_wp2_with (at_builtin; go_loud (refine Kd.R_append kStr (w0 := w) w.heap.size rfl _ _ 62 9 _ 16 rfl Tryz.underlying62 infoString rfl (by decide) (by decide) u3 os ((s.drop p).take (q + 1 - p)) _ (fun _ => True) (fun _ => False) rfl rfl ?k1 ?k2 ?k3 HR.out hB (by omega) (by omega) ?_))
        case k1 => exact rfl
        case k2 => exact fun _ h => h.elim
        case k3 => exact fun _ _ => trivial
        intro v1 w1 hR1 hb1 hg1 _
        have HR1 := Lib.hid hR1
        clear hR1 hg1
        go_wp2
        go_roundw
        case rel => exact ⟨os ++ [(s.drop p).take (q + 1 - p)], q + 1, q + 1, by go_num, by go_num, HA.out.line (by rw [HX.out, eq_of_beq hx10]), HR1, hb1⟩
        case measure => simp [intOf]; omega
      | false =>
        rw [hx10] at h10
        go_wp2
        go_roundw
        case rel => exact ⟨os, p, q + 1, rfl, by go_num, HA.out.next HX.out (by simpa using hx10), HR, hB⟩
        case measure => simp [intOf]; omega
    · obtain rfl : q = s.length := by omega
      by_cases hp : p < s.length
      · have HL := Lib.hid (HA.out.last hp)
        go_wp2_with (at_builtin; go_loud (refine Kd.R_append kStr (w0 := w) w.heap.size rfl _ _ 62 9 _ 16 rfl Tryz.underlying62 infoString rfl (by decide) (by decide) u3 os (s.drop p) _ (fun _ => True) (fun _ => False) rfl rfl ?k1 ?k2 ?k3 HR.out hB (by omega) (by omega) ?_))
        case k1 => exact rfl
        case k2 => exact fun _ h => h.elim
        case k3 => exact fun _ _ => trivial
        intro v1 w1 hR1 hb1 hg1 _
        have HR1 := Lib.hid hR1
        clear hR1 hg1
        go_wp2
        go_ret
        rw [HL.out]
        exact ⟨_, rfl, HR1.out, hb1⟩
      · have HL := Lib.hid (HA.out.all hp)
        go_wp2
        go_ret
        rw [HL.out]
        exact ⟨_, rfl, HR.out, hB⟩

end Go.Proofs.YtogfkfkejaiecaaGreatDoor.Ra

namespace Go.Proofs.YtogfkfkejaiecaaGreatDoor.Dc
open Go.RowKit Go.Shelf Go.Maps Pl Ut Ln Da Db Go.Proofs.YtogfkfkejaiecaaGreatDoorW.PrintWords
set_option linter.unusedVariables false
set_option linter.unusedSimpArgs false
attribute [local go_sem] B_append B_extract B_toList B_size take_end

/-- A number of a row. -/
def kNat : Kd Nat := Kd.scalar (fun n : Nat => .int .i64 (n : Int)) (fun _ => rfl)
def kNats : Kd (List Nat) := Kd.slice 3 kNat
def kStrs : Kd (List Str) := Kd.slice 9 kStr

theorem R_kept {α : Type} {d : Kd α} {e : Nat} {w w' : World} {base : Nat} {ok : Nat → Prop} {v : Value} {xs : List α} {row : Option Nat} (h : d.R e w base ok v xs) (hg : w.grownBy w' row) (hok : ∀ k, ok k → some k ≠ row) : d.R e w' base ok v xs := by
  refine Kd.R_mono (Kd.R_move (Kd.R_bound h) (fun k hk => ?_)) (fun _ hk => hk.1)
  exact hg.block k hk.2.2.1 (hok k hk.1)
/-- Rows are cells: a map's block is none of them. -/
theorem R_map {α : Type} {d : Kd α} {e : Nat} {w w' : World} {base b : Nat} {ok : Nat → Prop} {v : Value} {xs : List α} (h : d.R e w base ok v xs) (hm : ∀ c t f, w.heap[b]? ≠ some (.cells c t f)) (hg : w.grownBy w' (some b)) : d.R e w' base ok v xs := by
  refine Kd.R_mono (Kd.R_move (Kd.R_bound h) (fun k hk => ?_)) (fun _ hk => hk.1)
  obtain ⟨_, _, hl, q, _, cells, hc⟩ := hk
  exact hg.block k hl (fun e => by cases e; exact hm _ _ _ hc)
theorem at_strs {w : World} {A : Option Addr} {n : Nat} {xs : List (List Str)} (h : Kd.C kStrs w A n xs) (k : Nat) (hk : k < n) (x : List Str) (hx : xs[k]? = some x) :
    ∃ ad A0 c0, A = some ad ∧ w.cell? (ad.add k) = some (.slice A0 x.length c0) ∧ x.length ≤ c0 ∧ Kd.C kStr w A0 x.length x := by
  obtain ⟨ad, c, e, _, hK, hc0⟩ := Kd.C_get h x (k : Int) (by omega) (by omega)
  have hd : xs.getD (k : Int).toNat x = x := by simp [List.getD, hx]
  rw [hd] at hK
  have hc : ∀ j u, c[j]? = some u → w.cell? (ad.add (k * 1 + j)) = some u := hc0
  obtain ⟨A0, c0, rfl, l0, g0⟩ := hK
  exact ⟨ad, A0, c0, e, by have := hc 0 _ rfl; simpa using this, l0, g0⟩
theorem at_nat {w : World} {A : Option Addr} {n : Nat} {xs : List Nat} (h : Kd.C kNat w A n xs) (k : Nat) (hk : k < n) (x : Nat) (hx : xs[k]? = some x) :
    ∃ ad, A = some ad ∧ w.cell? (ad.add k) = some (.int .i64 (x : Int)) := by
  obtain ⟨ad, c, e, _, hK, hc0⟩ := Kd.C_get h x (k : Int) (by omega) (by omega)
  have hd : xs.getD (k : Int).toNat x = x := by simp [List.getD, hx]
  rw [hd] at hK
  have hc : ∀ j u, c[j]? = some u → w.cell? (ad.add (k * 1 + j)) = some u := hc0
  have hK' : c = [.int .i64 (x : Int)] := hK
  subst hK'
  exact ⟨ad, e, by have := hc 0 _ rfl; simpa using this⟩

/-- The map of what was seen. -/
def seenMap {H : Type} (seen : List Str) : DataW H := seen.zipIdx.foldl (fun m p => m.put (.string p.1) (.lit (.int .i64 (p.2 : Int)))) (.map [])
theorem seenMap_snoc {H : Type} (seen : List Str) (s : Str) : seenMap (H := H) (seen ++ [s]) = (seenMap seen).put (.string s) (.lit (.int .i64 (seen.length : Int))) := by
  unfold seenMap
  rw [List.zipIdx_append, List.foldl_append]
  simp
theorem keyLit (s : Str) : WideAt.IsKeyLit (.string s) := trivial
theorem seenMap_facts {H : Type} (seen : List Str) (hnd : seen.Nodup) : Tidy (seenMap (H := H) seen) ∧ (∀ s, Maps.has (seenMap (H := H) seen) (.string s) = decide (s ∈ seen)) ∧
    (∀ s z, s ∈ seen → (seenMap (H := H) seen).atKey (.string s) z = .lit (.int .i64 (numOne seen s : Int))) ∧ Maps.size (seenMap (H := H) seen) = seen.length := by
  generalize hn : seen.length = n
  induction n generalizing seen with
  | zero =>
    obtain rfl : seen = [] := List.length_eq_zero_iff.1 hn
    refine ⟨tidy_empty, fun s => ?_, fun s z h => ?_, rfl⟩
    · simp [seenMap, Maps.has]
    · cases h
  | succ n ih =>
    rcases List.eq_nil_or_concat seen with rfl | ⟨l, x, rfl⟩
    · cases hn
    · rw [List.concat_eq_append] at hn hnd ⊢
      have hl : l.length = n := by simpa using hn
      have hnd1 : l.Nodup := (List.nodup_append.1 hnd).1
      have hx : x ∉ l := fun h => (List.nodup_append.1 hnd).2.2 x h x (by simp) rfl
      obtain ⟨i1, i2, i3, i4⟩ := ih l hnd1 hl
      rw [seenMap_snoc]
      have hhas : Maps.has (seenMap (H := H) l) (.string x) = false := by rw [i2]; simpa using hx
      refine ⟨i1.put (keyLit x) _, fun s => ?_, fun s z h => ?_, ?_⟩
      · by_cases e : s = x
        · subst e
          rw [has_put_same i1.isMap (keyLit s)]
          simp
        · rw [has_put_other (by intro h; injection h with h; exact e h), i2]
          simp [e]
      · by_cases e : s = x
        · subst e
          rw [atKey_put_same i1.isMap (keyLit s)]
          have : numOne (l ++ [s]) s = l.length := by
            unfold numOne
            rw [List.idxOf_append, if_neg hx]
            simp
          rw [this]
        · have hs : s ∈ l := by simpa [e] using h
          rw [atKey_put_other (by intro h; injection h with h; exact e h), i3 s z hs]
          have : numOne (l ++ [x]) s = numOne l s := by
            unfold numOne
            rw [List.idxOf_append, if_pos hs]
          rw [this]
      · rw [size_put i1, hhas, i4]
        simp [hl]

theorem lawS : Keyed Tryz.prog 9 := string_keyed Tryz.underlying9
theorem zeroI (w : World) : (zeroValue 3).run Tryz.prog w = .ok (.int .i64 0) w := by kernel_rfl
theorem infoInt : (Tryz.prog.info? 3).map (fun i => (i.zero, i.size, i.bytes)) = some (some (.int .i64 0), 1, 8) := by kernel_rfl
theorem infoInts : (Tryz.prog.info? 130).map (fun i => (i.zero, i.size, i.bytes)) = some (some (.slice none 0 0), 1, 24) := by kernel_rfl
/-- What was seen behind the first rows. -/
def seeRows (seen : List Str) : List (List Str) → List Str
  | [] => seen
  | l :: r => seeRows (seeRow seen l) r
theorem numRow_snoc : ∀ (l : List Str) (seen : List Str) (s : Str), numRow seen (l ++ [s]) = numRow seen l ++ [numOne (seeRow seen l) s]
  | [], _, _ => rfl
  | x :: r, seen, s => by simp [numRow, seeRow, numRow_snoc r]
theorem seeRow_snoc : ∀ (l : List Str) (seen : List Str) (s : Str), seeRow seen (l ++ [s]) = seeOne (seeRow seen l) s
  | [], _, _ => rfl
  | x :: r, seen, s => by simp [seeRow, seeRow_snoc r]
theorem numRows_snoc : ∀ (rs : List (List Str)) (seen : List Str) (l : List Str), numRows seen (rs ++ [l]) = numRows seen rs ++ [numRow (seeRows seen rs) l]
  | [], _, _ => rfl
  | x :: r, seen, l => by simp [numRows, seeRows, numRows_snoc r]
theorem seeRows_snoc : ∀ (rs : List (List Str)) (seen : List Str) (l : List Str), seeRows seen (rs ++ [l]) = seeRow (seeRows seen rs) l
  | [], _, _ => rfl
  | x :: r, seen, l => by simp [seeRows, seeRows_snoc r]
theorem numRows_length : ∀ (rs : List (List Str)) (seen : List Str), (numRows seen rs).length = rs.length
  | [], _ => rfl
  | x :: r, seen => by simp [numRows, numRows_length r]
theorem seeRow_nodup : ∀ (l : List Str) (seen : List Str), seen.Nodup → (seeRow seen l).Nodup
  | [], _, h => h
  | x :: r, seen, h => seeRow_nodup r _ (seeOne_nodup h x)
theorem seeRows_nodup : ∀ (rs : List (List Str)) (seen : List Str), seen.Nodup → (seeRows seen rs).Nodup
  | [], _, h => h
  | x :: r, seen, h => seeRows_nodup r _ (seeRow_nodup x _ h)
theorem seeRows_length : ∀ (rs : List (List Str)) (seen : List Str), (seeRows seen rs).length ≤ seen.length + (rs.map List.length).sum
  | [], _ => by simp [seeRows]
  | x :: r, seen => by
    have h1 := seeRows_length r (seeRow seen x)
    have h2 := seeRow_length x seen
    simp only [seeRows, List.map_cons, List.sum_cons]; omega
theorem take_snoc {α : Type} {l : List α} {k : Nat} {x : α} (h : l[k]? = some x) : l.take (k + 1) = l.take k ++ [x] := by
  rw [List.take_add_one, h]; rfl
theorem sum_take_le (rs : List (List Str)) (k : Nat) : ((rs.take k).map List.length).sum ≤ (rs.map List.length).sum := by
  conv => rhs; rw [← List.take_append_drop k rs]
  rw [List.map_append, List.sum_append]; omega

theorem R_after {α : Type} {d : Kd α} {e : Nat} {w w1 : World} {base : Nat} {o v v1 : Value} {xs : List α} (h : d.R e w base (fun q => some q ≠ v.ownBlock) o xs) (hg : w.grownBy w1 v.ownBlock) (hat : v1.ownBlock = v.ownBlock ∨ ∃ b, v1.ownBlock = some b ∧ w.heap.size ≤ b) :
    d.R e w1 base (fun q => some q ≠ v1.ownBlock) o xs := by
  have h1 := Kd.R_bound h
  have h2 : d.R e w base (fun q => some q ≠ v.ownBlock ∧ some q ≠ v1.ownBlock) o xs := Kd.R_mono h1 (fun q hq => ⟨hq.1, fun e => by
    rcases hat with hat | ⟨b, hb, hle⟩
    · exact hq.1 (by rw [e, hat])
    · rw [hb] at e; cases e; have := hq.2.2.1; omega⟩)
  exact Kd.R_mono (R_kept h2 hg (fun q hq => hq.1)) (fun q hq => hq.2)
theorem map_block {w : World} {P : Program} {k : TypeId} {R : Value → Option (DataW Unit × List MemPlace)} {b n : Nat} {D : DataW Unit} (h : w.ownsMap P k R b n D) : ∀ c t f, w.heap[b]? ≠ some (.cells c t f) := by
  obtain ⟨es, clock, hb, _⟩ := h
  intro c t f e
  rw [hb] at e
  cases e
theorem own_not_map {α : Type} {d : Kd α} {e : Nat} {w : World} {base : Nat} {ok : Nat → Prop} {v : Value} {xs : List α} {P : Program} {k : TypeId} {R : Value → Option (DataW Unit × List MemPlace)} {b n : Nat} {D : DataW Unit}
    (h : d.R e w base ok v xs) (hm : w.ownsMap P k R b n D) : some b ≠ v.ownBlock := fun hv => by
  obtain ⟨inner, ho⟩ := Kd.R_own h
  obtain ⟨cells, hc⟩ := own_typed ho b hv.symm
  exact map_block hm _ _ _ hc
theorem row_M {w : World} {base : Nat} {ok : Nat → Prop} {v : Value} {xs : List Nat} (h : kNat.R 3 w base ok v xs) : kNats.M w base (fun q => some q = v.ownBlock) xs [v] := by
  refine ⟨v, rfl, fun k hk => hk.symm, ?_⟩
  obtain ⟨h0, inner, ho, hr⟩ := h
  exact ⟨inner, ho, hr.imp_ (fun _ _ hp => hp)⟩
theorem out_apart {w : World} {base : Nat} {o v : Value} {xs : List (List Nat)} (h : kNats.R 130 w base (fun q => some q ≠ v.ownBlock) o xs) : ∀ q, some q = v.ownBlock → True ∧ some q ≠ o.ownBlock := fun q hq => ⟨trivial, fun e => h.1 q e.symm hq⟩
/-- A row of numbers is put behind a row of rows. -/
theorem append_row {ops : Array Oper} {rest : List Oper} {o : Oper} {a : Act} {Q : Exit → Act → World → Prop} {w0 W : World} (base : Nat) (hgd : o.guard = none) (s x : Operand)
    (ho : o.op = .call { callee := .builtin .append, args := #[s, x], argTypes := #[126, 126] }) (v u : Value) (xs : List (List Nat)) (l : List Nat) (hs : a.eval s = v) (hx : a.eval x = .slice (some ⟨W.heap.size, 0, none⟩) 1 1)
    (hl : kNat.R 3 W base (fun _ => True) u l) (HO : kNats.R 130 W base (fun q => some q ≠ u.ownBlock) v xs) (HB : Below base w0 W) (hbase : base ≤ W.heap.size) (hlen : xs.length ≤ 1000000)
    (h : ∀ v1 w1, kNats.R 130 w1 base (fun _ => True) v1 (xs ++ [l]) → Below base w0 w1 → W.grownBy w1 v.ownBlock → wpList Tryz.prog ops Q rest (a.put o.dst v1) w1) :
    wpList Tryz.prog ops Q (o :: rest) a (W.alloc (.cells #[u] 130)) := by
  refine Kd.R_append kNats (w0 := w0) base hgd s x 126 130 (.slice none 0 0) 24 ho Tryz.underlying126 infoInts rfl (by decide) (by decide) v xs l [u] (fun _ => True) (fun q => some q = u.ownBlock) hs hx (row_M hl) (out_apart HO) (fun _ _ => trivial) (Kd.R_mono HO (fun _ _ => trivial)) HB hbase (by omega) ?_
  intro v1 w1 h1 h2 h3 _
  exact h v1 w1 h1 h2 h3
theorem len_le_sum {α : Type} {l : List α} : ∀ {ls : List (List α)}, l ∈ ls → l.length ≤ (ls.map List.length).sum
  | a :: t, h => by
    rcases List.mem_cons.1 h with rfl | h
    · simp
    · have := len_le_sum h
      simp; omega
theorem numOne_not {seen : List Str} {s : Str} (h : s ∉ seen) : numOne seen s = seen.length := by
  unfold numOne
  exact List.idxOf_eq_length h

set_option maxRecDepth 100000 in
set_option maxHeartbeats 4000000 in
theorem numbers_any (rs : List (List Str)) (A : Option Addr) (c : Nat) (w : World) (hC : Kd.C kStrs w A rs.length rs) (hlen : rs.length ≤ 1000) (hsum : (rs.map List.length).sum ≤ 1000000000) (hs : ∀ l ∈ rs, ∀ s ∈ l, s.length ≤ 1000000000) :
    Calls Tryz.prog 99 #[.slice A rs.length c] w fun e w' => ∃ v, e = .returned v ∧ kNats.R 130 w' w.heap.size (fun _ => True) v (numRows [] rs) ∧ Below w.heap.size w w' := by
  have HC := Lib.hid hC
  have HS := Lib.hid hs
  clear hC hs
  have hmm := @run_makeMap Tryz.prog
  go_enter Tryz.func99, Tryz.ntmps99
  go_wp2
  go_loopw [4, 15] (fun v i wr => ∃ k : Nat, k ≤ rs.length ∧ i = .int .i64 k ∧ Hid (kNats.R 130 wr w.heap.size (fun _ => True) v (numRows [] (rs.take k))) ∧ Hid (wr.ownsMap (H := Unit) Tryz.prog 9 (plainElem Tryz.prog 3) w.heap.size (seeRows [] (rs.take k)).length (seenMap (seeRows [] (rs.take k)))) ∧ Below w.heap.size w wr) (fun _ i _ => rs.length - (intOf i).toNat)
  case atStart => exact ⟨0, Nat.zero_le _, rfl, Kd.R_nil _ _ _ _ _, World.ownsMap_made _ _ _ _, (Below.refl _ _).alloc (Nat.le_refl _) _⟩
  case round =>
    obtain ⟨k, hk, rfl, HR, HMp, hB⟩ := hrel
    have hsz := hB.size
    obtain ⟨wo, rfl⟩ : ∃ wo : World, wo = wr := ⟨_, rfl⟩
    by_cases hlt : k < rs.length
    · obtain ⟨l, hl⟩ : ∃ l, rs[k]? = some l := ⟨rs[k], List.getElem?_eq_getElem hlt⟩
      obtain ⟨ad, A0, c0, rfl, p0w, hlc, hCl⟩ := at_strs HC.out k hlt l hl
      have p0 := pw_cell_below hB p0w
      have HL := Lib.hid hl
      have HCl := Lib.hid hCl
      have hlm := List.mem_of_getElem? hl
      have hll : l.length ≤ (rs.map List.length).sum := len_le_sum hlm
      have HLS := Lib.hid (HS.out l hlm)
      have hseen : (seeRows [] (rs.take k)).length + l.length ≤ (rs.map List.length).sum := by
        have h1 := seeRows_length (rs.take k) []
        have h2 : ((rs.take (k + 1)).map List.length).sum ≤ (rs.map List.length).sum := sum_take_le rs (k + 1)
        rw [take_snoc hl, List.map_append, List.sum_append] at h2
        simp at h1 h2
        omega
      obtain ⟨s0, hs0⟩ : ∃ s0, s0 = seeRows [] (rs.take k) := ⟨_, rfl⟩
      have hnd0 : s0.Nodup := by rw [hs0]; exact seeRows_nodup _ _ List.nodup_nil
      rw [← hs0] at hseen HMp
      have HS0 := Lib.hid hs0
      clear hl hCl hlm hs0 p0w
      go_wp2
      go_loopw [7, 21] (fun v i wr => ∃ j : Nat, j ≤ l.length ∧ i = .int .i64 j ∧ Hid (kNat.R 3 wr w.heap.size (fun _ => True) v (numRow s0 (l.take j))) ∧ Hid (kNats.R 130 wr w.heap.size (fun q => some q ≠ v.ownBlock) u4 (numRows [] (rs.take k))) ∧
          Hid (wr.ownsMap (H := Unit) Tryz.prog 9 (plainElem Tryz.prog 3) w.heap.size (seeRow s0 (l.take j)).length (seenMap (seeRow s0 (l.take j)))) ∧ Below w.heap.size w wr) (fun _ i _ => l.length - (intOf i).toNat)
      case atStart => exact ⟨0, Nat.zero_le _, rfl, Kd.R_nil _ _ _ _ _, Kd.R_mono HR.out (fun _ _ => by simp [Value.ownBlock]), HMp, hB⟩
      case round =>
        obtain ⟨j, hj, rfl, HRl, HRo, HM2, hB1⟩ := hrel
        have hsz1 := hB1.size
        obtain ⟨wi, rfl⟩ : ∃ wi : World, wi = wr := ⟨_, rfl⟩
        by_cases hjl : j < l.length
        · obtain ⟨x, hx⟩ : ∃ x, l[j]? = some x := ⟨l[j], List.getElem?_eq_getElem hjl⟩
          obtain ⟨ad2, rfl, q0⟩ := at_str (Kd.C_below HCl.out hB1) j hjl x hx
          have hxl := HLS.out x (List.mem_of_getElem? hx)
          have HTK := Lib.hid (take_snoc hx)
          clear hx
          obtain ⟨sn, hsn⟩ : ∃ sn, sn = seeRow s0 (l.take j) := ⟨_, rfl⟩
          have hnd : sn.Nodup := by rw [hsn]; exact seeRow_nodup _ _ hnd0
          have hsl : sn.length ≤ s0.length + j := by
            rw [hsn]
            have := seeRow_length (l.take j) s0
            rw [List.length_take] at this; omega
          obtain ⟨D, hD⟩ : ∃ D : DataW Unit, D = seenMap sn := ⟨_, rfl⟩
          obtain ⟨f1, f2, f3, f4⟩ := seenMap_facts (H := Unit) sn hnd
          rw [← hsn, ← hD] at HM2
          rw [← hD] at f1 f2 f3 f4
          have hkey : keyOf Tryz.prog 9 (.string (B x)) = some (.string x) := WideMaps.keyOf_string_mk Tryz.underlying9 (by rw [B_size]; unfold maxLen; omega)
          have HSN := Lib.hid hsn
          have HDD := Lib.hid hD
          have HND := Lib.hid hnd
          have HF1 := Lib.hid f1
          have HF3 := Lib.hid f3
          clear hsn hD hnd f1 f3
          by_cases hin : x ∈ sn
          · have hhas : Maps.has D (.string x) = true := by rw [f2]; simpa using hin
            have HIN := Lib.hid hin
            clear f2 hin
            have hnum := HF3.out x (.lit (.int .i64 0)) HIN.out
            obtain ⟨nn, hnn⟩ : ∃ nn, nn = numOne sn x := ⟨_, rfl⟩
            rw [← hnn] at hnum
            have HNN := Lib.hid hnn
            clear hnn
            go_wp2_with (first
              | (at_lookup; refine wpList_lookup_own_ok_int _ rfl _ _ 168 rfl 9 3 .i64 lawS Tryz.underlying168 Tryz.underlying3 (zeroI _) w.heap.size sn.length D rfl HM2.out _ (.string x) rfl hkey ?_; intro cc hat hwc; obtain rfl : (nn : Int) = cc := by (rw [hnum] at hat; injection hat with hat; injection hat))
              | (at_builtin; go_loud (refine Kd.R_append kNat (w0 := w) w.heap.size rfl _ _ 130 3 _ 8 rfl Tryz.underlying130 infoInt rfl (by decide) (by decide) u7 (numRow s0 (l.take j)) nn _ (fun _ => True) (fun _ => False) rfl rfl ?k1 ?k2 ?k3 HRl.out hB1 ?k4 ?k5 ?_)))
            case k1 => exact rfl
            case k2 => exact fun _ h => h.elim
            case k3 => exact fun _ _ => trivial
            case k4 => exact hsz1
            case k5 => rw [numRow_length, List.length_take]; omega
            intro v1 w3 hR3 hb3 hg3 hat3
            have HR3 := Lib.hid hR3
            have HO3 := Lib.hid (R_after HRo.out hg3 hat3)
            have HM3 := Lib.hid (HM2.out.kept hg3 (own_not_map HRl.out HM2.out))
            have hsee : seeRow s0 (l.take (j + 1)) = sn := by rw [HTK.out, seeRow_snoc, ← HSN.out]; unfold seeOne; rw [if_pos HIN.out]
            have HSEE := Lib.hid hsee
            clear hR3 hg3 hat3 hsee
            go_wp2
            go_roundw
            case rel =>
              refine ⟨j + 1, by omega, by go_num, Lib.hid ?_, HO3, ?_, hb3⟩
              · rw [HTK.out, numRow_snoc, ← HSN.out, ← HNN.out]; exact HR3.out
              · rw [HSEE.out, ← HDD.out]; exact HM3
            case measure => simp [intOf]; omega
          · have hhas : Maps.has D (.string x) = false := by rw [f2]; simpa using hin
            have HIN := Lib.hid hin
            have hnn := numOne_not hin
            have hWF : (Lit.int .i64 (sn.length : Int)).wf = true := by simp [Lit.wf, IntKind.min, IntKind.max, IntKind.signed, IntKind.bits]; omega
            have HNN := Lib.hid hnn
            clear f2 hin hnn
            go_wp2_with (first
              | (at_lookup; refine wpList_lookup_own_ok_int _ rfl _ _ 168 rfl 9 3 .i64 lawS Tryz.underlying168 Tryz.underlying3 (zeroI _) w.heap.size sn.length D rfl HM2.out _ (.string x) rfl hkey ?_; intro cc hat hwc)
              | (at_len; refine wpList_len_own _ rfl _ 168 rfl 9 3 Tryz.underlying168 _ w.heap.size sn.length D rfl HM2.out ?_)
              | (at_mapUpdate; go_loud (refine wpList_mapUpdate_own _ rfl _ _ _ 168 rfl 9 3 lawS Tryz.underlying168 _ w.heap.size sn.length D rfl HM2.out (by unfold maxLen; omega) _ _ _ rfl rfl hkey _ [] (plainElem_int Tryz.underlying3 hWF) ?_; intro w2 hown2 hgrow2; have HRl2 := Lib.hid (R_map HRl.out (map_block HM2.out) hgrow2); have HRo2 := Lib.hid (R_map HRo.out (map_block HM2.out) hgrow2); have HM3 := Lib.hid hown2; have hB2 : Below w.heap.size w w2 := hB1.grown hgrow2 hsz1 (fun j hj => by cases hj; exact Nat.le_refl _); have hz2 := hB2.size; clear hown2 hgrow2))
              | (at_builtin; go_loud (refine Kd.R_append kNat (w0 := w) w.heap.size rfl _ _ 130 3 _ 8 rfl Tryz.underlying130 infoInt rfl (by decide) (by decide) u7 (numRow s0 (l.take j)) sn.length _ (fun _ => True) (fun _ => False) rfl rfl ?k1 ?k2 ?k3 HRl2.out hB2 ?k4 ?k5 ?_)))
            case k1 => exact rfl
            case k2 => exact fun _ h => h.elim
            case k3 => exact fun _ _ => trivial
            case k4 => exact hz2
            case k5 => rw [numRow_length, List.length_take]; omega
            intro v1 w3 hR3 hb3 hg3 hat3
            have HR3 := Lib.hid hR3
            have HO3 := Lib.hid (R_after HRo2.out hg3 hat3)
            have HM4 := Lib.hid (HM3.out.kept hg3 (own_not_map HRl2.out HM3.out))
            have hsee : seeRow s0 (l.take (j + 1)) = sn ++ [x] := by rw [HTK.out, seeRow_snoc, ← HSN.out]; unfold seeOne; rw [if_neg HIN.out]
            have HSEE := Lib.hid hsee
            clear hR3 hg3 hat3 hsee
            go_wp2
            go_roundw
            case rel =>
              refine ⟨j + 1, by omega, by go_num, Lib.hid ?_, HO3, ?_, hb3⟩
              · rw [HTK.out, numRow_snoc, ← HSN.out, HNN.out]; exact HR3.out
              · rw [HSEE.out, seenMap_snoc, ← HDD.out, List.length_append]; exact HM4
            case measure => simp [intOf]; omega
        · obtain rfl : j = l.length := by omega
          rw [List.take_length] at HRl HM2
          have hol : (numRows [] (rs.take k)).length ≤ 1000000 := by rw [numRows_length, List.length_take]; omega
          obtain ⟨Al, cl, rfl⟩ := Kd.R_slice HRl.out
          go_wp2_with (at_builtin; go_loud (refine append_row w.heap.size rfl _ _ rfl u4 (.slice Al (numRow s0 l).length cl) _ _ rfl rfl HRl.out HRo.out hB1 hsz1 hol ?_))
          intro v1 w3 hR3 hb3 hg3
          have HR3 := Lib.hid hR3
          have HM3 := Lib.hid (HM2.out.kept hg3 (own_not_map HRo.out HM2.out))
          have HTK := Lib.hid (take_snoc HL.out)
          clear hR3 hg3
          go_wp2
          go_roundw
          case rel =>
            refine ⟨k + 1, by omega, by go_num, Lib.hid ?_, Lib.hid ?_, hb3⟩
            · rw [HTK.out, numRows_snoc, ← HS0.out]; exact HR3.out
            · rw [HTK.out, seeRows_snoc, ← HS0.out]; exact HM3.out
          case measure => simp [intOf]; omega
    · obtain rfl : k = rs.length := by omega
      have HR2 : Hid (kNats.R 130 wo w.heap.size (fun _ => True) u4 (numRows [] rs)) := by have := HR; rwa [List.take_length] at this
      go_wp2
      go_ret
      exact ⟨_, rfl, HR2.out, hB⟩

end Go.Proofs.YtogfkfkejaiecaaGreatDoor.Dc

namespace Go.Proofs.YtogfkfkejaiecaaGreatDoor.Dd
open Go.RowKit Go.Shelf Pl Ut Ln Da Db Dc Go.Proofs.YtogfkfkejaiecaaGreatDoorW.PrintWords
set_option linter.unusedVariables false
set_option linter.unusedSimpArgs false

/-- Block g is a row of these numbers. -/
def RowI (w : World) (g : Nat) (xs : List Int) : Prop := w.heap[g]? = some (.cells (xs.map (Value.int .i64)).toArray 3 (0, 0))
theorem RowI.cell {w : World} {g : Nat} {xs : List Int} (h : RowI w g xs) {i : Nat} {x : Int} (hx : xs[i]? = some x) : w.cell? ⟨g, i, none⟩ = some (.int .i64 x) := by
  rw [cell_of_row w g i _ _ _ h]
  simp [hx]
theorem RowI.frozen {w : World} {g : Nat} {xs : List Int} (h : RowI w g xs) (i : Nat) : w.frozen? ⟨g, i, none⟩ = false := by
  unfold RowI at h
  simp [World.frozen?, h]
theorem RowI.set {w : World} {g : Nat} {xs : List Int} (h : RowI w g xs) (i : Nat) (x : Int) : RowI (w.setCell ⟨g, i, none⟩ (.int .i64 x)) g (xs.set i x) := by
  unfold RowI at h ⊢
  simp [World.setCell, Array.getElem?_modify, h, List.map_set]
theorem RowI.lt {w : World} {g : Nat} {xs : List Int} (h : RowI w g xs) : g < w.heap.size := (Array.getElem?_eq_some_iff.1 h).1
theorem RowI.below {w w' : World} {g B : Nat} {xs : List Int} (h : RowI w g xs) (hb : Below B w w') (hg : g < B) : RowI w' g xs := (hb.block g hg).trans h

theorem make_ints (n : Nat) (hn : n ≤ 1000000000) (w : World) : (Instr.makeSlice 130 (.int .i64 n) (.int .i64 n)).run Tryz.prog w =
    .ok (.slice (some ⟨w.heap.size, 0, none⟩) n n) (w.alloc (.cells ((List.replicate n (0 : Int)).map (Value.int .i64)).toArray 3)) := by
  obtain ⟨i0, hi, hz0, hz1, hz2⟩ := info_parts infoInt
  have h := run_make (P := Tryz.prog) w 130 3 i0 (.int .i64 0) Tryz.underlying130 hi hz0 .i64 .i64 n n (by omega) (by omega) (by rw [hz2]; omega) (by omega)
  rw [h, hz1]
  have e : madeCells (Value.int .i64 0).cells ((n : Int).toNat * 1) = ((List.replicate n (0 : Int)).map (Value.int .i64)).toArray := by
    apply Array.ext'
    have e2 : (Value.int .i64 0).cells = #[.int .i64 0] := rfl
    rw [e2, toList_madeCells_one]
    simp
  rw [e]
  simp

set_option maxRecDepth 100000 in
set_option maxHeartbeats 4000000 in
theorem none_any (n : Nat) (hn : n ≤ 1000000000) (w : World) :
    Calls Tryz.prog 137 #[.int .i64 n] w fun e w' => e = .returned (.slice (some ⟨w.heap.size, 0, none⟩) n n) ∧ RowI w' w.heap.size (List.replicate n (-1)) ∧ Below w.heap.size w w' := by
  have hmk := make_ints n hn w
  obtain ⟨W1, hW1⟩ : ∃ W1, W1 = w.alloc (.cells ((List.replicate n (0 : Int)).map (Value.int .i64)).toArray 3) := ⟨_, rfl⟩
  have hr : RowI W1 w.heap.size (List.replicate n 0) := by rw [hW1]; exact heap_alloc_new w _
  have hB : Below w.heap.size w W1 := by rw [hW1]; exact (Below.refl _ _).alloc (Nat.le_refl _) _
  rw [← hW1] at hmk
  have HR := Lib.hid hr
  clear hW1 hr
  go_enter Tryz.func137, Tryz.ntmps137
  go_wp2
  go_loopw [8] (fun i wr => ∃ k : Nat, k ≤ n ∧ i = .int .i64 k ∧ Hid (RowI wr w.heap.size (List.replicate k (-1) ++ List.replicate (n - k) 0)) ∧ Below w.heap.size w wr) (fun i _ => n - (intOf i).toNat)
  case atStart => exact ⟨0, Nat.zero_le _, rfl, HR, hB⟩
  case round =>
    obtain ⟨k, hk, rfl, HRk, hBk⟩ := hrel
    by_cases hlt : k < n
    · have hk0 : (0 : Int) ≤ (k : Int) := Int.natCast_nonneg _
      have hc := HRk.out.cell (i := k) (x := 0) (by rw [List.getElem?_append_right (by simp), List.getElem?_replicate, if_pos (by simp; omega)])
      have hf := HRk.out.frozen k
      have hset : (List.replicate k (-1 : Int) ++ List.replicate (n - k) 0).set k (-1) = List.replicate (k + 1) (-1) ++ List.replicate (n - (k + 1)) 0 := by
        rw [List.set_append_right _ _ (by simp)]
        simp only [List.length_replicate, Nat.sub_self]
        rw [show n - k = (n - (k + 1)) + 1 by omega, List.replicate_succ, List.set_cons_zero, List.replicate_succ', List.append_assoc]
        rfl
      have hS := HRk.out.set k (-1)
      rw [hset] at hS
      have HS := Lib.hid hS
      have hB2 := hBk.setCell (p := ⟨w.heap.size, k, none⟩) (Nat.le_refl _) (.int .i64 (-1))
      clear hS hset
      go_wp2
      go_roundw
      case rel => exact ⟨k + 1, by omega, by go_num, HS, hB2⟩
      case measure => simp [intOf]; omega
    · obtain rfl : k = n := by omega
      have HE : Hid (RowI wr w.heap.size (List.replicate k (-1))) := by have := HRk; rw [Nat.sub_self, List.replicate_zero, List.append_nil] at this; exact this
      go_wp2
      go_ret
      exact ⟨rfl, HE.out, hBk⟩

theorem map_range_set {n k : Nat} {f : Nat → Int} {v : Int} (g : Nat → Int) (hk : g k = v) (ho : ∀ i, i < n → i ≠ k → g i = f i) : ((List.range n).map f).set k v = (List.range n).map g := by
  apply List.ext_getElem?
  intro i
  rw [List.getElem?_set]
  simp only [List.length_map, List.length_range, List.getElem?_map]
  by_cases hi : i < n
  · rw [List.getElem?_range hi]
    by_cases e : k = i
    · subst e; rw [if_pos rfl, if_pos hi]; simp [hk]
    · rw [if_neg e]; simp [ho i hi (fun h => e h.symm)]
  · rw [List.getElem?_eq_none (by simpa using hi)]
    by_cases e : k = i
    · subst e; rw [if_pos rfl, if_neg hi]; rfl
    · rw [if_neg e]; rfl
theorem headN_cons {a b : List Nat} {k x : Nat} (ha : a[k]? = some x) (hb : b[k]? = some x) : headN (a.drop k) (b.drop k) = headN (a.drop (k + 1)) (b.drop (k + 1)) + 1 := by
  obtain ⟨ha1, ha2⟩ := List.getElem?_eq_some_iff.1 ha
  obtain ⟨hb1, hb2⟩ := List.getElem?_eq_some_iff.1 hb
  rw [List.drop_eq_getElem_cons ha1, List.drop_eq_getElem_cons hb1, ha2, hb2]
  conv => lhs; unfold headN
  rw [if_pos rfl]
theorem headN_stop {a b : List Nat} {k x y : Nat} (ha : a[k]? = some x) (hb : b[k]? = some y) (hne : x ≠ y) : headN (a.drop k) (b.drop k) = 0 := by
  obtain ⟨ha1, ha2⟩ := List.getElem?_eq_some_iff.1 ha
  obtain ⟨hb1, hb2⟩ := List.getElem?_eq_some_iff.1 hb
  rw [List.drop_eq_getElem_cons ha1, List.drop_eq_getElem_cons hb1, ha2, hb2]
  unfold headN
  rw [if_neg hne]
theorem headN_end {a b : List Nat} {k : Nat} (h : ¬ k < min a.length b.length) : headN (a.drop k) (b.drop k) = 0 := by
  have := headN_le (a.drop k) (b.drop k)
  simp only [List.length_drop] at this
  omega

theorem add_block (ad : Addr) (k : Nat) : (ad.add k).block = ad.block := by unfold Addr.add; split <;> rfl
/-- A row that lies below what is written. -/
def Lies (w : World) (B0 : Nat) (A : Option Addr) (xs : List Nat) : Prop := ∀ (k x : Nat), xs[k]? = some x → ∃ ad, A = some ad ∧ ad.block < B0 ∧ w.cell? (ad.add k) = some (.int .i64 (x : Int))
theorem Lies.below {w w' : World} {B0 : Nat} {A : Option Addr} {xs : List Nat} (h : Lies w B0 A xs) (hb : Below B0 w w') : Lies w' B0 A xs := fun k x hx => by
  obtain ⟨ad, h1, h2, h3⟩ := h k x hx
  exact ⟨ad, h1, h2, (hb.cell (p := ad.add k) (by rw [add_block]; exact h2)).trans h3⟩
def rowH (n h : Nat) : List Int := (List.range n).map fun i => if i < h then (i : Int) else -1
theorem rowH_zero (n : Nat) : List.replicate n (-1 : Int) = rowH n 0 := by
  unfold rowH
  apply List.ext_getElem?
  intro i
  simp only [List.getElem?_map, List.getElem?_replicate]
  by_cases hi : i < n
  · rw [List.getElem?_range hi, if_pos hi]; simp
  · rw [List.getElem?_eq_none (by simpa using hi), if_neg hi]; rfl
theorem rowH_set (n h : Nat) : (rowH n h).set h (h : Int) = rowH n (h + 1) := by
  unfold rowH
  refine map_range_set _ (by simp) (fun i hi hne => ?_)
  by_cases h1 : i < h
  · rw [if_pos h1, if_pos (by omega)]
  · rw [if_neg h1, if_neg (by omega)]

theorem rev_at {a : List Nat} {k t : Nat} (h : k + t < a.length) : ((a.drop k).reverse)[t]? = a[a.length - 1 - t]? := by
  rw [List.getElem?_reverse (by rw [List.length_drop]; omega), List.length_drop, List.getElem?_drop]
  congr 1
  omega

end Go.Proofs.YtogfkfkejaiecaaGreatDoor.Dd

namespace Go.Proofs.YtogfkfkejaiecaaGreatDoor.Dt
open Go.RowKit Pl Da Db Go.Proofs.YtogfkfkejaiecaaGreatDoorW.PrintWords
set_option linter.unusedVariables false
set_option linter.unusedSimpArgs false

theorem lcsN_le_left (a b : List Nat) : lcsN a b ≤ a.length := lcsN_le _ a b (Nat.le_refl _)
/-- What is left from two places on has this in common. -/
def cm (a b : List Nat) (i k : Nat) : Nat := lcsN (a.drop i) (b.drop k)
theorem cm_le (a b : List Nat) (i k : Nat) : cm a b i k ≤ a.length := by
  have := lcsN_le_left (a.drop i) (b.drop k)
  rw [List.length_drop] at this
  unfold cm; omega
theorem cm_end (a b : List Nat) (i : Nat) : cm a b i b.length = 0 := by unfold cm; rw [List.drop_length]; exact lcsN_nil' _
theorem cm_end' (a b : List Nat) (k : Nat) : cm a b a.length k = 0 := by unfold cm; rw [List.drop_length]; exact lcsN_nil _
theorem cm_step {a b : List Nat} {i k x y : Nat} (hx : a[i]? = some x) (hy : b[k]? = some y) : cm a b i k = if x = y then cm a b (i + 1) (k + 1) + 1 else max (cm a b (i + 1) k) (cm a b i (k + 1)) := by
  obtain ⟨ha1, ha2⟩ := List.getElem?_eq_some_iff.1 hx
  obtain ⟨hb1, hb2⟩ := List.getElem?_eq_some_iff.1 hy
  unfold cm
  rw [List.drop_eq_getElem_cons ha1, List.drop_eq_getElem_cons hb1, ha2, hb2, lcsN_cons]
theorem cm_same {a b : List Nat} {i k x : Nat} (hx : a[i]? = some x) (hy : b[k]? = some x) : cm a b i k = cm a b (i + 1) (k + 1) + 1 := by rw [cm_step hx hy, if_pos rfl]
theorem cm_other {a b : List Nat} {i k x y : Nat} (hx : a[i]? = some x) (hy : b[k]? = some y) (h : x ≠ y) : cm a b i k = max (cm a b (i + 1) k) (cm a b i (k + 1)) := by rw [cm_step hx hy, if_neg h]

/-- A row of the table that is known from place q on. -/
def rowP (a b : List Nat) (j q : Nat) : List Nat := (List.range (b.length + 1)).map fun k => if q ≤ k then cm a b j k else 0
theorem rowP_at (a b : List Nat) {j q k : Nat} (hk : k ≤ b.length) (hq : q ≤ k) : (rowP a b j q)[k]? = some (cm a b j k) := by
  unfold rowP
  rw [List.getElem?_map, List.getElem?_range (by omega)]
  simp [hq]
theorem rowP_any (a b : List Nat) {j q k : Nat} (hk : k ≤ b.length) : ∃ v, (rowP a b j q)[k]? = some v := by
  unfold rowP
  rw [List.getElem?_map, List.getElem?_range (by omega)]
  exact ⟨_, rfl⟩
theorem rowP_set (a b : List Nat) {j q : Nat} (hq : q ≤ b.length) : (rowP a b j (q + 1)).set q (cm a b j q) = rowP a b j q := by
  unfold rowP
  apply List.ext_getElem?
  intro i
  rw [List.getElem?_set]
  simp only [List.length_map, List.length_range, List.getElem?_map]
  by_cases hi : i < b.length + 1
  · rw [List.getElem?_range hi]
    by_cases e : q = i
    · subst e; rw [if_pos rfl, if_pos hi]; simp
    · rw [if_neg e]
      simp only [Option.map_some, Option.some.injEq]
      by_cases h1 : q ≤ i
      · rw [if_pos h1, if_pos (by omega)]
      · rw [if_neg h1, if_neg (by omega)]
  · rw [List.getElem?_eq_none (by simpa using hi)]
    by_cases e : q = i
    · subst e; rw [if_pos rfl, if_neg hi]; rfl
    · rw [if_neg e]; rfl
theorem rowP_zero (a b : List Nat) (j : Nat) : rowP a b j b.length = List.replicate (b.length + 1) 0 := by
  unfold rowP
  apply List.ext_getElem?
  intro i
  simp only [List.getElem?_map, List.getElem?_replicate]
  by_cases hi : i < b.length + 1
  · rw [List.getElem?_range hi, if_pos hi]
    by_cases h1 : b.length ≤ i
    · obtain rfl : i = b.length := by omega
      simp [cm_end]
    · simp [h1]
  · rw [List.getElem?_eq_none (by simpa using hi), if_neg hi]; rfl
theorem rowP_last (a b : List Nat) (q : Nat) : rowP a b a.length q = List.replicate (b.length + 1) 0 := by
  unfold rowP
  apply List.ext_getElem?
  intro i
  simp only [List.getElem?_map, List.getElem?_replicate]
  by_cases hi : i < b.length + 1
  · rw [List.getElem?_range hi, if_pos hi]; simp [cm_end']
  · rw [List.getElem?_eq_none (by simpa using hi), if_neg hi]; rfl

/-- Cells of numbers of a kind. -/
def ofK (K : IntKind) (xs : List Nat) : Array Value := (xs.map fun x : Nat => Value.int K (x : Int)).toArray
theorem ofK_zeros (K : IntKind) (n : Nat) : madeCells (Value.int K 0).cells n = ofK K (List.replicate n 0) := by
  apply Array.ext'
  have e2 : (Value.int K 0).cells = #[.int K 0] := rfl
  rw [e2, toList_madeCells_one]
  simp [ofK]
/-- The rows of the table: those from lo on. -/
def slP (pos : Nat → Nat) (a b : List Nat) (lo : Nat) : Array Value := ((List.range (a.length + 1)).map fun j => if lo ≤ j then Value.slice (some ⟨pos j, 0, none⟩) (b.length + 1) (b.length + 1) else .slice none 0 0).toArray

/-- The table at block g: rows behind lo are whole, row lo from q on. -/
structure TabP (K : IntKind) (t ts : TypeId) (pos : Nat → Nat) (a b : List Nat) (w : World) (g lo q : Nat) : Prop where
  sl : w.heap[g]? = some (.cells (slP pos a b lo) ts (0, 0))
  row : ∀ j, lo < j → j ≤ a.length → w.heap[pos j]? = some (.cells (ofK K (rowP a b j 0)) t (0, 0))
  cur : lo ≤ a.length → w.heap[pos lo]? = some (.cells (ofK K (rowP a b lo q)) t (0, 0))

section
variable {K : IntKind} {t ts : TypeId} {pos : Nat → Nat} {a b : List Nat} {w : World} {g lo q : Nat}
theorem TabP.slot (h : TabP K t ts pos a b w g lo q) {j : Nat} (h1 : lo ≤ j) (h2 : j ≤ a.length) : w.cell? ⟨g, j, none⟩ = some (.slice (some ⟨pos j, 0, none⟩) (b.length + 1) (b.length + 1)) := by
  rw [blk_cell h.sl]
  unfold slP
  simp only [List.getElem?_toArray, List.getElem?_map]
  rw [List.getElem?_range (by omega)]
  simp [h1]
theorem TabP.below_ (h : TabP K t ts pos a b w g lo q) {j : Nat} (h1 : j < lo) (h2 : j ≤ a.length) : w.cell? ⟨g, j, none⟩ = some (.slice none 0 0) := by
  rw [blk_cell h.sl]
  unfold slP
  simp only [List.getElem?_toArray, List.getElem?_map]
  rw [List.getElem?_range (by omega)]
  simp; omega
theorem TabP.frozen (h : TabP K t ts pos a b w g lo q) (j : Nat) : w.frozen? ⟨g, j, none⟩ = false := blk_frozen h.sl j
theorem TabP.far (h : TabP K t ts pos a b w g lo q) {j k : Nat} (h1 : lo < j) (h2 : j ≤ a.length) (hk : k ≤ b.length) : w.cell? ⟨pos j, k, none⟩ = some (.int K (cm a b j k)) := by
  rw [blk_cell (h.row j h1 h2)]
  simp only [ofK, List.getElem?_toArray, List.getElem?_map]
  rw [rowP_at a b hk (Nat.zero_le _)]; rfl
theorem TabP.near (h : TabP K t ts pos a b w g lo q) {k : Nat} (h2 : lo ≤ a.length) (hk : k ≤ b.length) (hq : q ≤ k) : w.cell? ⟨pos lo, k, none⟩ = some (.int K (cm a b lo k)) := by
  rw [blk_cell (h.cur h2)]
  simp only [ofK, List.getElem?_toArray, List.getElem?_map]
  rw [rowP_at a b hk hq]; rfl
theorem TabP.whole (h : TabP K t ts pos a b w g 0 0) {j k : Nat} (h2 : j ≤ a.length) (hk : k ≤ b.length) : w.cell? ⟨pos j, k, none⟩ = some (.int K (cm a b j k)) := by
  rcases Nat.eq_zero_or_pos j with rfl | h1
  · exact h.near h2 hk (Nat.zero_le _)
  · exact h.far h1 h2 hk
theorem TabP.some_ (h : TabP K t ts pos a b w g lo q) {k : Nat} (h2 : lo ≤ a.length) (hk : k ≤ b.length) : ∃ v : Nat, w.cell? ⟨pos lo, k, none⟩ = some (.int K (v : Int)) := by
  rw [blk_cell (h.cur h2)]
  simp only [ofK, List.getElem?_toArray, List.getElem?_map]
  obtain ⟨v, hv⟩ := rowP_any a b (j := lo) (q := q) hk
  rw [hv]; exact ⟨v, rfl⟩
theorem TabP.thaw (h : TabP K t ts pos a b w g lo q) (h2 : lo ≤ a.length) (k : Nat) : w.frozen? ⟨pos lo, k, none⟩ = false := blk_frozen (h.cur h2) k
theorem TabP.moved {w' : World} (h : TabP K t ts pos a b w g lo q) (hm : ∀ (k : Nat) (o : Obj), w.heap[k]? = some o → w'.heap[k]? = some o) : TabP K t ts pos a b w' g lo q :=
  ⟨hm _ _ h.sl, fun j h1 h2 => hm _ _ (h.row j h1 h2), fun h2 => hm _ _ (h.cur h2)⟩
theorem TabP.below {w' : World} (h : TabP K t ts pos a b w g lo q) (hb : Below w.heap.size w w') : TabP K t ts pos a b w' g lo q := h.moved fun _ _ ho => blk_below ho hb
theorem TabP.set_ (h : TabP K t ts pos a b w g lo (q + 1)) (h2 : lo ≤ a.length) (hq : q ≤ b.length) (hg : pos lo ≠ g) (hp : ∀ j, lo < j → j ≤ a.length → pos j ≠ pos lo) :
    TabP K t ts pos a b (w.setCell ⟨pos lo, q, none⟩ (.int K (cm a b lo q))) g lo q := by
  refine ⟨blk_far h.sl (fun e => hg e.symm) _, fun j h1 h3 => blk_far (h.row j h1 h3) (hp j h1 h3) _, fun _ => ?_⟩
  rw [blk_set (h.cur h2) q]
  congr 2
  unfold ofK
  rw [← rowP_set a b hq]
  simp [List.map_set]
/-- A new row is put in its place. -/
theorem TabP.next (h : TabP K t ts pos a b w g (lo + 1) 0) (h2 : lo + 1 ≤ a.length) (hn : w.heap[pos lo]? = some (.cells (ofK K (List.replicate (b.length + 1) 0)) t (0, 0))) (hg : ∀ j, pos j ≠ g) :
    TabP K t ts pos a b (w.setCell ⟨g, lo, none⟩ (.slice (some ⟨pos lo, 0, none⟩) (b.length + 1) (b.length + 1))) g lo b.length := by
  refine ⟨?_, fun j h1 h3 => ?_, fun _ => ?_⟩
  · rw [blk_set h.sl]
    congr 2
    unfold slP
    simp only [List.setIfInBounds_toArray]
    congr 1
    apply List.ext_getElem?
    intro i
    rw [List.getElem?_set]
    simp only [List.length_map, List.length_range, List.getElem?_map]
    by_cases hi : i < a.length + 1
    · rw [List.getElem?_range hi]
      by_cases e : lo = i
      · subst e; rw [if_pos rfl, if_pos hi]; simp
      · rw [if_neg e]
        simp only [Option.map_some, Option.some.injEq]
        by_cases h1 : lo + 1 ≤ i
        · rw [if_pos h1, if_pos (by omega)]
        · rw [if_neg h1, if_neg (by omega)]
    · rw [List.getElem?_eq_none (by simpa using hi)]
      by_cases e : lo = i
      · subst e; rw [if_pos rfl, if_neg hi]; rfl
      · rw [if_neg e]; rfl
  · refine blk_far ?_ (hg j) _
    by_cases e : j = lo + 1
    · subst e; exact h.cur h2
    · exact h.row j (by omega) h3
  · rw [rowP_zero]; exact blk_far hn (hg lo) _
end

theorem run_max2 (ts : Array TypeId) (t : TypeId) (K : IntKind) (a b : Int) (w : World) : (Builtin.max_ ts t #[.int K a, .int K b]).run Tryz.prog w = .ok (.int K (max a b)) w := by
  have e : (if b > a then b else a) = max a b := by split <;> omega
  rw [← e]
  simp [Builtin.max_, Builtin.max2]

end Go.Proofs.YtogfkfkejaiecaaGreatDoor.Dt
