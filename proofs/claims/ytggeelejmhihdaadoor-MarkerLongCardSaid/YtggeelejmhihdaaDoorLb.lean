/- Contracts of the laws' own helpers: awake. -/
import Derived.Test.YtggeelejmhihdaaDoorLa
namespace Go.Proofs.YtggeelejmhihdaaDoor.Lb
open Go.RowKit Go.Shelf Go.Proofs.YtggeelejmhihdaaDoor.Pl Go.Proofs.YtggeelejmhihdaaDoor.Ut Go.Proofs.YtggeelejmhihdaaDoor.Ln Go.Proofs.YtggeelejmhihdaaDoor.Mk Go.Proofs.YtggeelejmhihdaaDoor.Ml Go.Proofs.YtggeelejmhihdaaDoor.Ms Go.Proofs.YtggeelejmhihdaaDoor.Mp Go.Proofs.YtggeelejmhihdaaDoor.La Go.Proofs.YtggeelejmhihdaaDoorW.PrintWords
set_option linter.unusedVariables false
set_option linter.unusedSimpArgs false
attribute [local go_sem] B_append B_extract B_toList B_size take_end

/-- The document's example. -/
def exP : Part := ⟨true, [], [120], [121, 10]⟩
def exS : Str := [60, 60, 60, 60, 60, 60, 60, 32, 111, 117, 114, 115, 10, 120, 10, 61, 61, 61, 61, 61, 61, 61, 33, 10, 121, 10, 62, 62, 62, 62, 62, 62, 62, 32, 116, 104, 101, 105, 114, 115, 10]
def exT : Str := [60, 60, 60, 60, 60, 60, 60, 32, 111, 117, 114, 115, 10, 120, 10, 124, 124, 124, 124, 124, 124, 124, 33, 32, 98, 97, 115, 101, 10, 61, 61, 61, 61, 61, 61, 61, 10, 121, 10, 62, 62, 62, 62, 62, 62, 62, 32, 116, 104, 101, 105, 114, 115, 10]
theorem ex_print : printL [exP] 7 false = exS := by kernel_rfl
theorem ex_show : printL [exP] 7 true = exT := by kernel_rfl
theorem ex_len : lengthL (textsL [exP]) = 7 := by kernel_rfl
theorem ex_parse : parseL exS 7 = some [exP] := by kernel_rfl
theorem ex_nine : lengthL [[97, 10, 61, 61, 61, 61, 61, 61, 61, 61, 10]] = 9 := by kernel_rfl

theorem kPart_K (w : World) (x : Part) : kPart.K w x (partCells x) := ⟨[.bool x.clash], [.string (B x.o), .string (B x.a), .string (B x.b)], rfl, rfl, ⟨[.string (B x.o)], [.string (B x.a), .string (B x.b)], rfl, rfl, ⟨[.string (B x.a)], [.string (B x.b)], rfl, rfl, rfl⟩⟩⟩
/-- One part in a block of its own. -/
theorem C_part {w : World} {b : Nat} {x : Part} {t : TypeId} (h : w.heap[b]? = some (.cells (partCells x).toArray t (0, 0))) : Kd.C kPart w (some ⟨b, 0, none⟩) [x].length [x] := by
  refine ⟨rfl, by simp, fun _ => ⟨_, rfl, fun j p hj => ?_⟩⟩
  have : j = 0 := by
    have := (List.getElem?_eq_some_iff.1 hj).1
    simp at this; exact this
  subst this
  simp at hj
  subst hj
  refine ⟨partCells x, rfl, kPart_K w x, fun i u hi => ?_⟩
  rw [add_plain, cell_of_row w b _ _ _ _ h]
  simpa using hi
/-- One text in a block of its own. -/
theorem C_str {w : World} {b : Nat} {x : Str} {t : TypeId} (h : w.heap[b]? = some (.cells #[.string (B x)] t (0, 0))) : Kd.C kStr w (some ⟨b, 0, none⟩) [x].length [x] := by
  refine ⟨rfl, by simp, fun _ => ⟨_, rfl, fun j p hj => ?_⟩⟩
  have : j = 0 := by
    have := (List.getElem?_eq_some_iff.1 hj).1
    simp at this; exact this
  subst this
  simp at hj
  subst hj
  refine ⟨[.string (B x)], rfl, rfl, fun i u hi => ?_⟩
  rw [add_plain, cell_of_row w b _ _ _ _ h]
  simpa using hi
theorem exP_len : ∀ p ∈ [exP], p.o.length ≤ 1000000000 ∧ p.a.length ≤ 1000000000 ∧ p.b.length ≤ 1000000000 := by
  intro p hp
  simp at hp
  subst hp
  decide

set_option maxRecDepth 100000 in
set_option maxHeartbeats 8000000 in
theorem awake_any (w : World) (hS : Signs w) :
    Calls Tryd.prog 6 #[] w fun e w' => e = .returned (.bool true) ∧ Below w.heap.size w w' := by
  go_enter Tryd.func6, Tryd.ntmps6
  go_wp2_with fail
  obtain ⟨W0, hW0⟩ : ∃ W0, W0 = w.alloc (.cells (partCells exP).toArray 29) := ⟨_, rfl⟩
  have hB0 : Below w.heap.size w W0 := by rw [hW0]; exact (Below.refl _ _).alloc (Nat.le_refl _) _
  have hC0 : Kd.C kPart W0 (some ⟨w.heap.size, 0, none⟩) [exP].length [exP] := by rw [hW0]; exact C_part (heap_alloc_new w _)
  have hS0 := hS.below hB0
  change Calls _ _ _ (w.alloc (.cells (partCells exP).toArray 29)) _
  rw [← hW0]
  have HC0 := Lib.hid hC0
  have HS0 := Lib.hid hS0
  clear hW0 hC0 hS0 hS
  refine (print_any [exP] 7 7 false _ _ W0 HC0.out HS0.out rfl (by omega) (by decide) exP_len (by rw [ex_print]; decide)).mono ?_
  rw [ex_print]
  rintro e w1 ⟨rfl, hb1⟩
  have hs0 := hb1.size
  have HC1 := Lib.hid (Kd.C_below HC0.out hb1)
  have HS1 := Lib.hid (HS0.out.below hb1)
  have hB1 := hB0.trans (hb1.mono hB0.size)
  have hz1 := hB1.size
  clear hb1
  go_wp2_with fail
  refine (parse_any exS 7 7 (by omega) (by decide) (by omega) (by decide) w1 HS1.out).mono ?_
  rintro e w2 ⟨hp, hb2⟩
  rw [ex_parse] at hp
  obtain ⟨v, rfl, hR⟩ := hp
  obtain ⟨A2, c2, rfl, hc2, hC2⟩ := Kd.R_reads hR
  have HCp := Lib.hid hC2
  have HC2 := Lib.hid (Kd.C_below HC1.out hb2)
  have HS2 := Lib.hid (HS1.out.below hb2)
  have hB2 := hB1.trans (hb2.mono hB1.size)
  have hz2 := hB2.size
  clear hb2 hR hC2
  go_wp2_with fail
  refine (show_any [exP] 7 true _ _ w2 HC2.out HS2.out ex_len (by omega) (by decide) exP_len (by rw [ex_show]; decide)).mono ?_
  rw [ex_show]
  rintro e w3 ⟨rfl, hb3⟩
  have HC3 := Lib.hid (Kd.C_below HC2.out hb3)
  have HP3 := Lib.hid (Kd.C_below HCp.out hb3)
  have HS3 := Lib.hid (HS2.out.below hb3)
  have hB3 := hB2.trans (hb3.mono hB2.size)
  have hz3 := hB3.size
  clear hb3
  have hT : exT.length = 54 := rfl
  go_wp2_with fail
  refine (same_any [exP] [exP] _ _ _ _ w3 HP3.out HC3.out (by decide) (by decide)).mono ?_
  rw [show decide ([exP] = [exP]) = true from by simp]
  rintro e w4 ⟨rfl, hb4⟩
  have HS4 := Lib.hid (HS3.out.below hb4)
  have hB4 := hB3.trans (hb4.mono hB3.size)
  have hz4 := hB4.size
  clear hb4
  go_wp2_with fail
  obtain ⟨W5, hW5⟩ : ∃ W5, W5 = w4.alloc (.cells #[.string (B [97, 10, 61, 61, 61, 61, 61, 61, 61, 61, 10])] 9) := ⟨_, rfl⟩
  have hB5 : Below w.heap.size w W5 := by rw [hW5]; exact hB4.alloc hz4 _
  have hC5 : Kd.C kStr W5 (some ⟨w4.heap.size, 0, none⟩) [[97, 10, 61, 61, 61, 61, 61, 61, 61, 61, 10]].length [[97, 10, 61, 61, 61, 61, 61, 61, 61, 61, 10]] := by rw [hW5]; exact C_str (heap_alloc_new w4 _)
  have hS5 : Signs W5 := by rw [hW5]; exact HS4.out.below ((Below.refl _ _).alloc (Nat.le_refl _) _)
  change Calls _ _ _ (w4.alloc (.cells #[.string (B [97, 10, 61, 61, 61, 61, 61, 61, 61, 61, 10])] 9)) _
  rw [← hW5]
  clear hW5
  refine (length_any [[97, 10, 61, 61, 61, 61, 61, 61, 61, 61, 10]] _ _ W5 hC5 hS5 (by decide) (fun t ht => by simp at ht; subst ht; decide)).mono ?_
  rw [ex_nine]
  rintro e w6 ⟨rfl, hb6⟩
  have hB6 := hB5.trans (hb6.mono hB5.size)
  go_wp2
  go_ret
  exact ⟨rfl, hB6⟩

end Go.Proofs.YtggeelejmhihdaaDoor.Lb
