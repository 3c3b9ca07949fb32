/- Contracts of package marker: the marks' lines, the printer. -/
import Derived.WalkKit
import Derived.WalkSpells
import Derived.WalkLawsBesides
import Derived.BigQuiet
import Derived.Deep.QuietTactic
import Derived.Lib.Hide
import Derived.Test.YtggeelejmhihdaaDoorLn
import Derived.Test.YtggeelejmhihdaaDoorBl
namespace Go.Proofs.YtggeelejmhihdaaDoor.Mk
open Go.RowKit Go.Shelf Go.Proofs.YtggeelejmhihdaaDoor.Pl Go.Proofs.YtggeelejmhihdaaDoor.Ut Go.Proofs.YtggeelejmhihdaaDoor.Ln Go.Proofs.YtggeelejmhihdaaDoor.Bl Go.Proofs.YtggeelejmhihdaaDoorW.PrintWords
attribute [local go_sem] B_append B_extract B_toList B_size take_end

theorem repeat_one (c : UInt8) (n : Nat) : Lib.repeatL [c] n = List.replicate n c := by
  induction n with
  | zero => rfl
  | succ n ih => rw [Lib.repeatL, ih]; rfl

theorem repeat_any (c : UInt8) (n : Nat) (w : World) (hn : n ≤ 1000000000) :
    Calls Tryd.prog 35 #[.string (B [c]), .int .i64 n] w fun e w' => e = .returned (.string (B (List.replicate n c))) ∧ Below w.heap.size w w' :=
  (Tryd.strings_Repeat (B [c]) n w (by omega) (by rw [B_size]; simp; omega)).mono fun _ _ ⟨he, hw⟩ => ⟨by rw [he, repeat_one], hw⟩

set_option maxHeartbeats 1000000 in
theorem line_any (c : UInt8) (word0 : Str) (n : Nat) (cut : Bool) (word : Str) (w : World) (hn : n ≤ 1000000000) (hw : word.length ≤ 1000000000) :
    Calls Tryd.prog 20 #[.agg #[.string (B [c]), .string (B word0)], .int .i64 n, .bool cut, .string (B word)] w fun e w' => e = .returned (.string (B (lineL c n cut word))) ∧ Below w.heap.size w w' := by
  have hl : (List.replicate n c).length = n := List.length_replicate
  obtain ⟨r, hr⟩ : ∃ r, r = List.replicate n c := ⟨_, rfl⟩
  have hrl : r.length ≤ 1000000000 := by rw [hr, hl]; exact hn
  have HR := Lib.hid hr
  clear hr hl
  go_enter Tryd.func20, Tryd.ntmps20
  go_wp2_with (go_at_call 35; refine (repeat_any _ _ _ hn).mono ?_; rw [← HR.out]; rintro e w' ⟨rfl, hb⟩)
  all_goals go_ret
  all_goals
    refine ⟨?_, ((Below.refl _ _).alloc (Nat.le_refl _) _).trans (hb.mono (by simp))⟩
    have hr := HR.out
    cases word with
    | nil => first | (simp at *; done) | simp [lineL, *]
    | cons a t => first | (simp at *; done) | simp [lineL, *]

set_option maxHeartbeats 1000000 in
/-- The closure of Print: b's box, n's box. -/
theorem section_any (t : Str) (c : UInt8) (word : Str) (n : Nat) (Bs b bn : Nat) (acc : Str) (w : World) (hn : n ≤ 1000000000) (hw : word.length ≤ 1000000000) (ht : t.length ≤ 1000000000) (hacc : acc.length ≤ 1000000000000)
    (hI : IsB Bs b acc w) (hbn : w.cell? ⟨bn, 0, none⟩ = some (.int .i64 n)) (hB : Bs ≤ w.heap.size) :
    Calls Tryd.prog 17 #[.string (B t), .agg #[.string (B [c]), .string (B word)], .pointer (some ⟨b, 0, none⟩), .pointer (some ⟨bn, 0, none⟩)] w fun e w' =>
      e = .returned (.tuple #[]) ∧ IsB Bs b (acc ++ sectionL t c n word) w' ∧ Below Bs w w' ∧ Lib.OthersKept 5 (some b) w w' := by
  have hbn1 := cell_alloc hbn (.cells #[.string (B [c]), .string (B word)] 44)
  have hlt : b < w.heap.size := hI.lt
  go_enter Tryd.func17, Tryd.ntmps17
  go_wp2_with (first | (go_at_call 18; refine (whole_any _ _ (by omega)).mono ?_; rintro e w' ⟨rfl, rfl⟩) | fail)
  refine (line_any c word n _ word _ hn hw).mono ?_
  rintro e w1 ⟨rfl, hb1⟩
  have hI1 := (hI.alloc (.cells #[.string (B [c]), .string (B word)] 44)).below hb1
  have hlen := sectionL_length t c n word
  have hl1 := wholeL_length t
  have hl2 := lineL_length c n (!wholeL t == t) word
  have hB1 : Below Bs w w1 := ((Below.refl _ _).alloc hB _).trans (hb1.mono (by simp; omega))
  have hO1 : Lib.OthersKept 5 (some b) w w1 := ((Lib.OthersKept.refl _ _ _).alloc _).trans (othersKept_below hb1)
  go_wp2_with fail
  refine (hI1.write (sectionL t c n word) (by omega) (by have := hB1.size; omega)).mono ?_
  rintro e w2 ⟨rfl, hA2, hb2, hO2⟩
  go_wp2
  go_end0
  exact ⟨rfl, hA2, hB1.trans hb2, hO1.trans hO2⟩

/-- Within a round of Print: the builder, n's box, the part's box. -/
def RS (w0 : World) (bn b pb N : Nat) (x : Part) (acc : Str) (W : World) : Prop :=
  IsB w0.heap.size b acc W ∧ W.heap[bn]? = some (.cells #[.int .i64 N] 3 (0, 0)) ∧ W.heap[pb]? = some (.cells (partCells x).toArray 29 (0, 0)) ∧ Below w0.heap.size w0 W ∧ bn ≠ b ∧ pb ≠ b
theorem RS.step {w0 W W' : World} {bn b pb N : Nat} {x : Part} {acc acc' : Str} (h : RS w0 bn b pb N x acc W) (hI : IsB w0.heap.size b acc' W') (hb : Below w0.heap.size W W') (hO : Lib.OthersKept 5 (some b) W W') : RS w0 bn b pb N x acc' W' := by
  obtain ⟨_, h2, h3, h4, h5, h6⟩ := h
  exact ⟨hI, box_kept hO h2 h5 (by decide), box_kept hO h3 h6 (by decide), h4.trans hb, h5, h6⟩
theorem RS.below {w0 W W' : World} {bn b pb N : Nat} {x : Part} {acc : Str} (h : RS w0 bn b pb N x acc W) (hb : Below W.heap.size W W') : RS w0 bn b pb N x acc W' :=
  h.step (h.1.below hb) (hb.mono h.2.2.2.1.size) (othersKept_below hb)
theorem RS.part {w0 W : World} {bn b pb N : Nat} {x : Part} {acc : Str} (h : RS w0 bn b pb N x acc W) :
    W.cell? ⟨pb, 0, none⟩ = some (.bool x.clash) ∧ W.cell? ⟨pb, 1, none⟩ = some (.string (B x.o)) ∧ W.cell? ⟨pb, 2, none⟩ = some (.string (B x.a)) ∧ W.cell? ⟨pb, 3, none⟩ = some (.string (B x.b)) ∧ W.cell? ⟨bn, 0, none⟩ = some (.int .i64 N) := by
  obtain ⟨_, h2, h3, _⟩ := h
  refine ⟨?_, ?_, ?_, ?_, ?_⟩
  · rw [cell_of_row W pb _ _ _ _ h3]; rfl
  · rw [cell_of_row W pb _ _ _ _ h3]; rfl
  · rw [cell_of_row W pb _ _ _ _ h3]; rfl
  · rw [cell_of_row W pb _ _ _ _ h3]; rfl
  · rw [cell_of_row W bn _ _ _ _ h2]; rfl
theorem RS.signs {w0 W : World} {bn b pb N : Nat} {x : Part} {acc : Str} (h : RS w0 bn b pb N x acc W) (hS : Signs w0) : Signs W := hS.below h.2.2.2.1
theorem RS.size {w0 W : World} {bn b pb N : Nat} {x : Part} {acc : Str} (h : RS w0 bn b pb N x acc W) : w0.heap.size ≤ W.heap.size := h.2.2.2.1.size

theorem printL_take (xs : List Part) (N : Nat) (old : Bool) (k : Nat) (x : Part) (hx : xs[k]? = some x) : printL (xs.take (k + 1)) N old = printL (xs.take k) N old ++ partL N old x := by
  have hk : k < xs.length := (List.getElem?_eq_some_iff.1 hx).1
  rw [List.take_add_one, hx]
  simp [printL]
theorem printL_take_le (xs : List Part) (N : Nat) (old : Bool) (k : Nat) : (printL (xs.take k) N old).length ≤ (printL xs N old).length := by
  have h : printL xs N old = printL (xs.take k) N old ++ printL (xs.drop k) N old := by
    rw [printL, printL, printL, ← List.flatMap_append, List.take_append_drop]
  rw [h, List.length_append]; omega

set_option maxHeartbeats 2000000 in
set_option maxRecDepth 100000 in
theorem print_any (xs : List Part) (n : Int) (N : Nat) (old : Bool) (A : Option Addr) (c : Nat) (w : World) (hC : Kd.C kPart w A xs.length xs) (hS : Signs w) (hN : max n 1 = (N : Int)) (hN9 : N ≤ 1000000000)
    (hlen : xs.length ≤ 1000000) (hx : ∀ p ∈ xs, p.o.length ≤ 1000000000 ∧ p.a.length ≤ 1000000000 ∧ p.b.length ≤ 1000000000) (htot : (printL xs N old).length ≤ 1000000000000) :
    Calls Tryd.prog 10 #[.slice A xs.length c, .int .i64 n, .bool old] w fun e w' => e = .returned (.string (B (printL xs N old))) ∧ Below w.heap.size w w' := by
  have htot' : ∀ k, (printL (xs.take k) N old).length ≤ 1000000000000 := fun k => Nat.le_trans (printL_take_le xs N old k) htot
  have HT := Lib.hid htot'
  have HX := Lib.hid hx
  have HCC := Lib.hid hC
  have HS := Lib.hid hS
  clear htot' hx hC htot hS
  go_enter Tryd.func10, Tryd.ntmps10
  go_wp2
  go_loopw [16] (fun i wr => ∃ k : Nat, k ≤ xs.length ∧ i = .int .i64 k ∧ IsB w.heap.size (w.heap.size + 1) (printL (xs.take k) N old) wr ∧ wr.heap[w.heap.size]? = some (.cells #[.int .i64 N] 3 (0, 0)) ∧ Below w.heap.size w wr)
    (fun i _ => xs.length - (intOf i).toNat)
  case atStart =>
    refine ⟨0, Nat.zero_le _, rfl, ?_, ?_, ((Below.refl _ _).alloc (Nat.le_refl _) _).alloc (by simp) _⟩
    · exact IsB.new (by omega) (by have := heap_alloc_new (w.alloc (Obj.cells #[Value.int IntKind.i64 N] 3)) (Obj.cells #[Value.pointer none, Value.slice none 0 0] 42); simpa using this)
    · exact (Below.heap_alloc _ _ _ (by simp)).trans (heap_alloc_new w _)
  case round =>
    obtain ⟨k, hk, rfl, hI, hbn, hB⟩ := hrel
    by_cases hlt : k < xs.length
    · obtain ⟨x, hxk⟩ : ∃ x, xs[k]? = some x := ⟨xs[k], List.getElem?_eq_getElem hlt⟩
      obtain ⟨ad, rfl, p0, p1, p2, p3⟩ := at_part (Kd.C_below HCC.out hB) k hlt x hxk
      have hmem : x ∈ xs := List.mem_of_getElem? hxk
      obtain ⟨lo, la, lb⟩ := HX.out x hmem
      have hacc := HT.out k
      have hacc1 := HT.out (k + 1)
      have HA := Lib.hid (printL_take xs N old k x hxk)
      obtain ⟨cl, xo, xa, xb⟩ := x
      have hS0 := HS.out.below hB
      have RN := Lib.hid (show RS w w.heap.size (w.heap.size + 1) wr.heap.size N ⟨cl, xo, xa, xb⟩ (printL (xs.take k) N old) (wr.alloc (.cells #[.bool cl, .string (B xo), .string (B xa), .string (B xb)] 29)) from
        ⟨hI.alloc _, (Below.heap_alloc _ _ _ (by have := hI.lt; omega)).trans hbn, heap_alloc_new wr _, hB.alloc hB.size _, by omega, by have := hI.lt; omega⟩)
      clear hI hbn
      have hsz := hB.size
      simp only at lo la lb p0 p1 p2 p3
      cases cl with
      | false =>
        go_wp2_with fail
        refine (RN.out.1.write xa (by omega) (by simp; omega)).mono ?_
        rintro e w1 ⟨rfl, hI1, hb1, hO1⟩
        have R1 := Lib.hid (RN.out.step hI1 hb1 hO1)
        go_wp2
        go_roundw
        case rel => exact ⟨k + 1, by omega, by go_num, by rw [HA.out]; exact R1.out.1, R1.out.2.1, R1.out.2.2.2.1⟩
        case measure => simp [intOf]; omega
      | true =>
        cases old with
        | true =>
          have hP : (printL (xs.take k) N true).length + (partL N true ⟨true, xo, xa, xb⟩).length ≤ 1000000000000 := by rw [← List.length_append, ← HA.out]; exact hacc1
          simp only [partL, if_true, List.length_append] at hP
          have hwo : wOurs.length ≤ 1000000000 := by decide
          have hwb : wBase.length ≤ 1000000000 := by decide
          have hwt : wTheirs.length ≤ 1000000000 := by decide
          have R0 := RN
          clear RN
          obtain ⟨s0, s1, s2, s3, s4, s5, s6, s7⟩ := R0.out.signs HS.out
          obtain ⟨-, r1, r2, r3, q0⟩ := R0.out.part
          have z0 := R0.out.size
          go_wp2_with fail
          refine (line_any 60 wOurs N false wOurs _ hN9 hwo).mono ?_
          rintro e w1 ⟨rfl, hb1⟩
          have R1 := Lib.hid (R0.out.below hb1)
          clear p0 p1 p2 p3
          clear s0 s1 s2 s3 s4 s5 s6 s7 r1 r2 r3 q0
          obtain ⟨s0, s1, s2, s3, s4, s5, s6, s7⟩ := R1.out.signs HS.out
          obtain ⟨-, r1, r2, r3, q0⟩ := R1.out.part
          have z1 := R1.out.size
          go_wp2_with fail
          refine (R1.out.1.write (lineL 60 N false wOurs) (by omega) z1).mono ?_
          rintro e w2 ⟨rfl, hI2, hb2, hO2⟩
          have R2 := Lib.hid (R1.out.step hI2 hb2 hO2)
          clear s0 s1 s2 s3 s4 s5 s6 s7 r1 r2 r3 q0
          clear hI2
          obtain ⟨s0, s1, s2, s3, s4, s5, s6, s7⟩ := R2.out.signs HS.out
          obtain ⟨-, r1, r2, r3, q0⟩ := R2.out.part
          have z2 := R2.out.size
          go_wp2_with fail
          refine (section_any xa 124 wBase N w.heap.size (w.heap.size + 1) w.heap.size _ _ hN9 hwb la (by simp only [List.length_append]; omega) R2.out.1 q0 z2).mono ?_
          rintro e w3 ⟨rfl, hI3, hb3, hO3⟩
          have R3 := Lib.hid (R2.out.step hI3 hb3 hO3)
          clear s0 s1 s2 s3 s4 s5 s6 s7 r1 r2 r3 q0
          clear hI3
          obtain ⟨s0, s1, s2, s3, s4, s5, s6, s7⟩ := R3.out.signs HS.out
          obtain ⟨-, r1, r2, r3, q0⟩ := R3.out.part
          have z3 := R3.out.size
          go_wp2_with fail
          refine (section_any xo 61 [] N w.heap.size (w.heap.size + 1) w.heap.size _ _ hN9 (by simp) lo (by simp only [List.length_append]; omega) R3.out.1 q0 z3).mono ?_
          rintro e w4 ⟨rfl, hI4, hb4, hO4⟩
          have R4 := Lib.hid (R3.out.step hI4 hb4 hO4)
          clear s0 s1 s2 s3 s4 s5 s6 s7 r1 r2 r3 q0
          clear hI4
          obtain ⟨s0, s1, s2, s3, s4, s5, s6, s7⟩ := R4.out.signs HS.out
          obtain ⟨-, r1, r2, r3, q0⟩ := R4.out.part
          have z4 := R4.out.size
          go_wp2_with fail
          refine (section_any xb 62 wTheirs N w.heap.size (w.heap.size + 1) w.heap.size _ _ hN9 hwt lb (by simp only [List.length_append]; omega) R4.out.1 q0 z4).mono ?_
          rintro e w5 ⟨rfl, hI5, hb5, hO5⟩
          have R5 := Lib.hid (R4.out.step hI5 hb5 hO5)
          clear s0 s1 s2 s3 s4 s5 s6 s7 r1 r2 r3 q0
          clear hI5
          obtain ⟨s0, s1, s2, s3, s4, s5, s6, s7⟩ := R5.out.signs HS.out
          obtain ⟨-, r1, r2, r3, q0⟩ := R5.out.part
          have z5 := R5.out.size
          go_wp2
          go_roundw
          case rel => exact ⟨k + 1, by omega, by go_num, by rw [HA.out]; have h := R5.out.1; simp only [partL, if_true]; simpa only [List.append_assoc] using h, R5.out.2.1, R5.out.2.2.2.1⟩
          case measure => simp [intOf]; omega
        | false =>
          have hP : (printL (xs.take k) N false).length + (partL N false ⟨true, xo, xa, xb⟩).length ≤ 1000000000000 := by rw [← List.length_append, ← HA.out]; exact hacc1
          simp only [partL, if_true, Bool.false_eq_true, if_false, List.length_append] at hP
          have hwo : wOurs.length ≤ 1000000000 := by decide
          have hwb : wBase.length ≤ 1000000000 := by decide
          have hwt : wTheirs.length ≤ 1000000000 := by decide
          have R0 := RN
          clear RN
          obtain ⟨s0, s1, s2, s3, s4, s5, s6, s7⟩ := R0.out.signs HS.out
          obtain ⟨-, r1, r2, r3, q0⟩ := R0.out.part
          have z0 := R0.out.size
          go_wp2_with fail
          refine (line_any 60 wOurs N false wOurs _ hN9 hwo).mono ?_
          rintro e w1 ⟨rfl, hb1⟩
          have R1 := Lib.hid (R0.out.below hb1)
          clear p0 p1 p2 p3
          clear s0 s1 s2 s3 s4 s5 s6 s7 r1 r2 r3 q0
          obtain ⟨s0, s1, s2, s3, s4, s5, s6, s7⟩ := R1.out.signs HS.out
          obtain ⟨-, r1, r2, r3, q0⟩ := R1.out.part
          have z1 := R1.out.size
          go_wp2_with fail
          refine (R1.out.1.write (lineL 60 N false wOurs) (by omega) z1).mono ?_
          rintro e w2 ⟨rfl, hI2, hb2, hO2⟩
          have R2 := Lib.hid (R1.out.step hI2 hb2 hO2)
          clear s0 s1 s2 s3 s4 s5 s6 s7 r1 r2 r3 q0
          clear hI2
          obtain ⟨s0, s1, s2, s3, s4, s5, s6, s7⟩ := R2.out.signs HS.out
          obtain ⟨-, r1, r2, r3, q0⟩ := R2.out.part
          have z2 := R2.out.size
          go_wp2_with fail
          refine (section_any xa 61 [] N w.heap.size (w.heap.size + 1) w.heap.size _ _ hN9 (by simp) la (by simp only [List.length_append]; omega) R2.out.1 q0 z2).mono ?_
          rintro e w3 ⟨rfl, hI3, hb3, hO3⟩
          have R3 := Lib.hid (R2.out.step hI3 hb3 hO3)
          clear s0 s1 s2 s3 s4 s5 s6 s7 r1 r2 r3 q0
          clear hI3
          obtain ⟨s0, s1, s2, s3, s4, s5, s6, s7⟩ := R3.out.signs HS.out
          obtain ⟨-, r1, r2, r3, q0⟩ := R3.out.part
          have z3 := R3.out.size
          go_wp2_with fail
          refine (section_any xb 62 wTheirs N w.heap.size (w.heap.size + 1) w.heap.size _ _ hN9 hwt lb (by simp only [List.length_append]; omega) R3.out.1 q0 z3).mono ?_
          rintro e w4 ⟨rfl, hI4, hb4, hO4⟩
          have R4 := Lib.hid (R3.out.step hI4 hb4 hO4)
          clear s0 s1 s2 s3 s4 s5 s6 s7 r1 r2 r3 q0
          clear hI4
          obtain ⟨s0, s1, s2, s3, s4, s5, s6, s7⟩ := R4.out.signs HS.out
          obtain ⟨-, r1, r2, r3, q0⟩ := R4.out.part
          have z4 := R4.out.size
          go_wp2
          go_roundw
          case rel => exact ⟨k + 1, by omega, by go_num, by rw [HA.out]; have h := R4.out.1; simp only [partL, if_true, Bool.false_eq_true, if_false]; simpa only [List.append_assoc] using h, R4.out.2.1, R4.out.2.2.2.1⟩
          case measure => simp [intOf]; omega
    · obtain rfl : k = xs.length := by omega
      go_wp2_with fail
      refine (hI.string (by have := hB.size; omega)).mono ?_
      rintro e w1 ⟨rfl, -, hb1, -⟩
      go_wp2
      go_ret
      exact ⟨rfl, hB.trans hb1⟩

end Go.Proofs.YtggeelejmhihdaaDoor.Mk
