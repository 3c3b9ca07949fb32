/- Contracts of the reference's marker: trimmed, Parse. -/
import Derived.Test.YtogfkfkejaiecaaGreatDoorQj
import Derived.Test.YtogfkfkejaiecaaGreatDoorQi

namespace Go.Proofs.YtogfkfkejaiecaaGreatDoor.Re
open Go.RowKit Go.Shelf Go.Proofs.YtogfkfkejaiecaaGreatDoor.Pl Go.Proofs.YtogfkfkejaiecaaGreatDoor.Ut Go.Proofs.YtogfkfkejaiecaaGreatDoor.Ln Go.Proofs.YtogfkfkejaiecaaGreatDoor.Bl Go.Proofs.YtogfkfkejaiecaaGreatDoor.Mm Go.Proofs.YtogfkfkejaiecaaGreatDoor.Mr Go.Proofs.YtogfkfkejaiecaaGreatDoor.Mp Go.Proofs.YtogfkfkejaiecaaGreatDoor.Ra Go.Proofs.YtogfkfkejaiecaaGreatDoor.Rb Go.Proofs.YtogfkfkejaiecaaGreatDoor.Rd Go.Proofs.YtogfkfkejaiecaaGreatDoorW.PrintWords
set_option linter.unusedVariables false
set_option linter.unusedSimpArgs false
attribute [local go_sem] B_append B_extract B_toList B_size take_end

/-- What trimmed hands back. -/
def trimR (s : Str) : Str × Bool := match takeL s true with
  | some t => (t, true)
  | none => (s, false)
theorem trimR_snoc (t : Str) (c : UInt8) : trimR (t ++ [c]) = if c = 10 then (t, true) else (t ++ [c], false) := by
  unfold trimR takeL
  by_cases h : c = 10
  · subst h; simp
  · simp [h]

set_option maxRecDepth 100000 in
set_option maxHeartbeats 4000000 in
theorem trimmed_any (s : Str) (hs : s.length ≤ 1000000000000) (w : World) :
    Calls Tryz.prog 52 #[.string (B s)] w fun e w' => e = .returned (.tuple #[.string (B (trimR s).1), .bool (trimR s).2]) ∧ w' = w := by
  go_enter Tryz.func52, Tryz.ntmps52
  rcases List.eq_nil_or_concat s with rfl | ⟨t, c, rfl⟩
  · go_wp2
    go_ret2
    exact ⟨rfl, rfl⟩
  · rw [List.concat_eq_append] at hs ⊢
    obtain ⟨s, hse⟩ : ∃ s, s = t ++ [c] := ⟨_, rfl⟩
    obtain ⟨n, hn⟩ : ∃ n, n = t.length := ⟨_, rfl⟩
    have hl : s.length = n + 1 := by rw [hse, hn]; simp
    have hc : s[n]? = some c := by rw [hse, hn]; simp
    have ht : s.take n = t := by rw [hse, hn]; simp
    have HW := trimR_snoc t c
    rw [← hse] at hs HW ⊢
    have hat := str_at hc
    have h10 := toNat_eq10 c
    have HH := Lib.hid HW
    have HT := Lib.hid ht
    clear HW hse hn hc ht
    cases hx10 : (c == 10) with
    | true =>
      rw [hx10] at h10
      have h11 : ((c.toNat : Int) != 10) = false := by rw [bne, h10]; rfl
      go_wp2
      go_ret2
      exact ⟨by rw [HH.out, if_pos (eq_of_beq hx10), ← HT.out]; rfl, rfl⟩
    | false =>
      rw [hx10] at h10
      have h11 : ((c.toNat : Int) != 10) = true := by rw [bne, h10]; rfl
      go_wp2
      go_ret2
      exact ⟨by rw [HH.out, if_neg (by simpa using hx10)]; rfl, rfl⟩

set_option maxHeartbeats 4000000 in
set_option maxRecDepth 100000 in
theorem rparse_low (text : Str) (n : Int) (hn : n < 1) (w : World) :
    Calls Tryz.prog 30 #[.string (B text), .int .i64 n] w fun e w' => e = .returned (.tuple #[.slice none 0 0, .int .i64 90]) ∧ w' = w := by
  go_enter Tryz.func30, Tryz.ntmps30
  have hn1 : decide (n < 1) = true := by simpa using hn
  go_wp2
  go_ret2
  exact ⟨rfl, rfl⟩

theorem meetL_off {out : List Part} {p : Part} {now : Str} {q : Nat} {cut : Bool} (a k : Nat) (ha : a ≠ 0) (h : takeL now cut = none) : meetL ⟨out, p, now, a⟩ q cut = none := by
  unfold meetL
  rw [if_neg ha]
  simp only [h]
theorem meetL_on {out : List Part} {p : Part} {now t : Str} {q : Nat} {cut : Bool} (a k : Nat) (ha : a ≠ 0) (h : takeL now cut = some t) : meetL ⟨out, p, now, a⟩ q cut =
    if a = 3 ∧ q = 3 then some ⟨out ++ [{ p with b := t }], { p with b := t }, [], 0⟩
      else if a = 1 ∧ q = 1 then some ⟨out, { p with a := t }, [], 2⟩
      else if a = 1 ∧ q = 2 then some ⟨out, { p with a := t }, [], 3⟩
      else if a = 2 ∧ q = 2 then some ⟨out, { p with o := t }, [], 3⟩
      else none := by
  unfold meetL
  rw [if_neg ha]
  simp only [h]
theorem pcells {w : World} {b : Nat} {x : Part} (h : w.heap[b]? = some (.cells (partCells x).toArray 55 (0, 0))) :
    w.cell? ⟨b, 0, none⟩ = some (.bool x.clash) ∧ w.cell? ⟨b, 1, none⟩ = some (.string (B x.o)) ∧ w.cell? ⟨b, 2, none⟩ = some (.string (B x.a)) ∧ w.cell? ⟨b, 3, none⟩ = some (.string (B x.b)) := by
  refine ⟨?_, ?_, ?_, ?_⟩ <;> (rw [cell_of_row w b _ _ _ _ h]; rfl)
theorem pfrozen {w : World} {b : Nat} {x : Part} (h : w.heap[b]? = some (.cells (partCells x).toArray 55 (0, 0))) (j : Nat) : w.frozen? ⟨b, j, none⟩ = false := by simp [World.frozen?, h]
theorem pkept {w w' : World} {b base : Nat} {x : Part} {v : Value} {l : List Part} (h : w.heap[b]? = some (.cells (partCells x).toArray 55 (0, 0))) (hg : w.grownBy w' v.ownBlock) (hR : kPart.R 55 w base (fun k => k ≠ b) v l) :
    w'.heap[b]? = some (.cells (partCells x).toArray 55 (0, 0)) :=
  (hg.block b (Array.getElem?_eq_some_iff.1 h).1 (fun e => hR.1 b e.symm rfl)).trans h

set_option maxHeartbeats 40000000 in
set_option maxRecDepth 100000 in
theorem rparse_any (text : Str) (n m : Nat) (h1 : 1 ≤ n) (hm : m = min n (text.length + 1)) (hn : n ≤ 9223372036854775807) (ht : text.length ≤ 100000000) (w : World) :
    Calls Tryz.prog 30 #[.string (B text), .int .i64 n] w (ParsePost w.heap.size (parseL text m) w) := by
  have HM := Lib.hid hm
  have hm9 : m ≤ 100000001 := by omega
  have hn1 : decide ((n : Int) < 1) = false := by rw [decide_eq_false_iff_not]; omega
  have hmi : min (n : Int) ((text.length : Int) + 1) = (m : Int) := by omega
  clear hm
  go_enter Tryz.func30, Tryz.ntmps30
  go_wp2_with fail
  refine (rsplit_any text (by omega) _).mono ?_
  rintro e w1 ⟨v, rfl, hv, hb1⟩
  obtain ⟨A, c, rfl, hc, hC⟩ := Kd.R_reads hv
  have HC := Lib.hid hC
  have hLc := splitL_count text
  have hlenS : (splitL text).length ≤ 100000000 := by omega
  clear hv hC
  have hsz1 := hb1.size
  have HBn := Lib.hid hb1
  have hR0 : kPart.R 55 (w1.alloc (.cells (partCells ⟨false, [], [], []⟩).toArray 55)) w1.heap.size (fun k => k ≠ w1.heap.size) (.slice none 0 0) [] := Kd.R_nil _ _ _ _ _
  have hH0 : (w1.alloc (.cells (partCells ⟨false, [], [], []⟩).toArray 55)).heap[w1.heap.size]? = some (.cells (partCells ⟨false, [], [], []⟩).toArray 55 (0, 0)) := heap_alloc_new w1 _
  have HR0 := Lib.hid hR0
  have HH0 := Lib.hid hH0
  clear hR0 hH0 hb1
  go_wp2_with fail
  go_loopw [6, 8, 9, 11] (fun o nv av i wr => ∃ (k : Nat) (st : St), k ≤ (splitL text).length ∧ nv = .string (B st.now) ∧ av = .int .i64 st.at_ ∧ i = .int .i64 k ∧ Hid (foldL m st0 ((splitL text).take k) = some st) ∧ Hid (Grown st k ((splitL text).take k).flatten.length) ∧ Hid (kPart.R 55 wr w1.heap.size (fun k => k ≠ w1.heap.size) o st.out) ∧ Hid (wr.heap[w1.heap.size]? = some (.cells (partCells st.p).toArray 55 (0, 0))) ∧ Below w1.heap.size w1 wr) (fun _ _ _ i _ => (splitL text).length + 1 - (intOf i).toNat)
  case atStart => exact ⟨0, st0, Nat.zero_le _, rfl, rfl, rfl, rfl, Lib.hid ⟨by decide, by simp [st0], by simp [st0]⟩, HR0, HH0, (Below.refl _ _).alloc (Nat.le_refl _) _⟩
  case round =>
    obtain ⟨k, st, hk, rfl, rfl, rfl, HF, HG, HR, HH, hB⟩ := hrel
    have hsz := hB.size
    obtain ⟨wo, rfl⟩ : ∃ wo : World, wo = wr := ⟨_, rfl⟩
    have hout : st.out.length ≤ 1000000000 := by have := HG.out.2.2; omega
    have hnow : st.now.length ≤ 1000000000 := by
      have h2 := HG.out.2.1
      have h3 := congrArg List.length (splitL_flatten text)
      rw [← List.take_append_drop k (splitL text), List.flatten_append, List.length_append] at h3
      omega
    have hat := HG.out.1
    have hBB : Below w.heap.size w wo := HBn.out.trans (hB.mono hsz1)
    obtain ⟨out, ⟨pc, po, pa, pb⟩, now, at_⟩ := st
    simp only at hout hnow hat HF HG HR HH ⊢
    have hat4 : at_ = 0 ∨ at_ = 1 ∨ at_ = 2 ∨ at_ = 3 := by omega
    by_cases hlt : k < (splitL text).length
    · obtain ⟨x, hxk⟩ : ∃ x, (splitL text)[k]? = some x := ⟨(splitL text)[k], List.getElem?_eq_getElem hlt⟩
      have hxl := splitL_len text x (List.mem_of_getElem? hxk)
      obtain ⟨ad, rfl, p0⟩ := at_str (Kd.C_below HC.out hB) k hlt x hxk
      have HX := Lib.hid hxk
      obtain ⟨mk, hmk⟩ : ∃ mk, mk = markL x m := ⟨_, rfl⟩
      have HMK := Lib.hid hmk
      clear hmk hxk
      have HSN := Lib.hid (foldL_snoc m (splitL text) k x HX.out st0)
      go_wp2_with fail
      refine (which_any x m _ (by omega) (by omega)).mono ?_
      rw [← HMK.out]
      rintro e w2 ⟨rfl, hb2⟩
      have hR2 := Lib.hid (Kd.R_below HR.out hb2)
      have hH2 := Lib.hid ((hb2.block _ (Array.getElem?_eq_some_iff.1 HH.out).1).trans HH.out)
      have hB2 := hB.trans (hb2.mono hsz)
      have p1 : w2.cell? (ad.add k) = some (.string (B x)) := pw_cell_below hb2 p0
      clear HR HH hb2 hB hBB p0 hsz
      obtain ⟨HR, HH, hB⟩ : _ ∧ _ ∧ _ := ⟨hR2, hH2, hB2⟩
      clear hR2 hH2 hB2
      have hsz := hB.size
      have hltb : w1.heap.size < w2.heap.size := (Array.getElem?_eq_some_iff.1 HH.out).1
      have hBB : Below w.heap.size w w2 := HBn.out.trans (hB.mono hsz1)
      obtain ⟨c0, c1, c2, c3⟩ := pcells HH.out
      have f0 := pfrozen HH.out 0
      have f1 := pfrozen HH.out 1
      have f2 := pfrozen HH.out 2
      have f3 := pfrozen HH.out 3
      simp only at c0 c1 c2 c3
      cases mk with
      | none =>
        have HST := Lib.hid (show stepL m ⟨out, ⟨pc, po, pa, pb⟩, now, at_⟩ x = some ⟨out, ⟨pc, po, pa, pb⟩, now ++ x, at_⟩ from by unfold stepL; rw [← HMK.out])
        have e1 : (whichR none).1 = 0 := rfl
        have e2 : (whichR none).2 = false := rfl
        rw [e1, e2]
        go_wp2
        go_roundw
        case rel =>
          refine ⟨k + 1, ⟨out, ⟨pc, po, pa, pb⟩, now ++ x, at_⟩, by omega, by first | rfl | go_num, by first | rfl | go_num, by first | rfl | go_num, Lib.hid ?_, Lib.hid ?_, HR, HH, hB⟩
          · rw [HSN.out, HF.out]; exact HST.out
          · have := stepL_grown HST.out HG.out
            rw [List.take_add_one, HX.out, Option.toList_some, List.flatten_append, List.length_append]
            simpa using this
        case measure => simp [intOf]; omega
      | some qc =>
        obtain ⟨q, cut⟩ := qc
        have hq := markL_lt HMK.out.symm
        have hq4 : q = 0 ∨ q = 1 ∨ q = 2 ∨ q = 3 := by omega
        have e1 : (whichR (some (q, cut))).1 = (q : Int) + 1 := rfl
        have e2 : (whichR (some (q, cut))).2 = cut := rfl
        have hq0 : ((q : Int) + 1 == 0) = false := by rw [beq_eq_false_iff_ne]; omega
        rw [e1, e2]
        -- GEN BEGIN
        rcases hat4 with rfl | rfl | rfl | rfl
        · cases cut with
          | true =>
            have HST := Lib.hid (show stepL m ⟨out, ⟨pc, po, pa, pb⟩, now, 0⟩ x = none from by unfold stepL; rw [← HMK.out]; simp [meetL])
            go_wp2_with fail
            refine (trimmed_any now (by omega) _).mono ?_
            obtain ⟨t, ok, htr⟩ : ∃ t ok, trimR now = (t, ok) := ⟨_, _, rfl⟩
            rw [htr]
            clear htr
            rintro e w' ⟨rfl, hw'⟩
            obtain rfl : w2 = w' := hw'.symm
            cases ok with
            | true =>
              have HN := Lib.hid (show parseL text m = none from by
                unfold parseL
                rw [foldL_dead m _ (k + 1) st0 (by rw [HSN.out, HF.out]; exact HST.out)]
                rfl)
              go_wp2
              go_ret2
              rw [HN.out]
              exact ⟨rfl, hBB⟩
            | false =>
              have HN := Lib.hid (show parseL text m = none from by
                unfold parseL
                rw [foldL_dead m _ (k + 1) st0 (by rw [HSN.out, HF.out]; exact HST.out)]
                rfl)
              go_wp2
              go_ret2
              rw [HN.out]
              exact ⟨rfl, hBB⟩
          | false =>
            rcases hq4 with rfl | rfl | rfl | rfl
            · have HST := Lib.hid (show stepL m ⟨out, ⟨pc, po, pa, pb⟩, now, 0⟩ x = some ⟨outerL out now, ⟨true, [], [], []⟩, [], 1⟩ from by unfold stepL; rw [← HMK.out]; rfl)
              by_cases hn : now = []
              · have hn1 : (now != []) = false := by rw [hn]; rfl
                have hn2 : (!List.isEmpty now) = false := by rw [hn]; rfl
                have HO := Lib.hid (show outerL out now = out from by unfold outerL; rw [if_pos hn])
                clear hn
                have HH4 := Lib.hid (show ((((w2.setCell ⟨w1.heap.size, 0, none⟩ (.bool true)).setCell ⟨w1.heap.size, 1, none⟩ (.string (B []))).setCell ⟨w1.heap.size, 2, none⟩ (.string (B []))).setCell ⟨w1.heap.size, 3, none⟩ (.string (B []))).heap[w1.heap.size]? = some (.cells (partCells ⟨true, [], [], []⟩).toArray 55 (0, 0)) from blk_setCell (blk_setCell (blk_setCell (blk_setCell HH.out 0 _) 1 _) 2 _) 3 _)
                have HR4 := Lib.hid (Kd.R_far (Kd.R_far (Kd.R_far (Kd.R_far HR.out (p := ⟨w1.heap.size, 0, none⟩) (fun _ h => h) (.bool true)) (p := ⟨w1.heap.size, 1, none⟩) (fun _ h => h) (.string (B []))) (p := ⟨w1.heap.size, 2, none⟩) (fun _ h => h) (.string (B []))) (p := ⟨w1.heap.size, 3, none⟩) (fun _ h => h) (.string (B [])))
                have hB4 := (((hB.setCell (p := ⟨w1.heap.size, 0, none⟩) (Nat.le_refl _) (.bool true)).setCell (p := ⟨w1.heap.size, 1, none⟩) (Nat.le_refl _) (.string (B []))).setCell (p := ⟨w1.heap.size, 2, none⟩) (Nat.le_refl _) (.string (B []))).setCell (p := ⟨w1.heap.size, 3, none⟩) (Nat.le_refl _) (.string (B []))
                go_wp2
                go_roundw
                case rel =>
                  refine ⟨k + 1, ⟨outerL out now, ⟨true, [], [], []⟩, [], 1⟩, by omega, by first | rfl | go_num, by first | rfl | go_num, by first | rfl | go_num, Lib.hid ?_, Lib.hid ?_, (by rw [HO.out]; exact HR4), HH4, hB4⟩
                  · rw [HSN.out, HF.out]; exact HST.out
                  · have := stepL_grown HST.out HG.out
                    rw [List.take_add_one, HX.out, Option.toList_some, List.flatten_append, List.length_append]
                    simpa using this
                case measure => simp [intOf]; omega
              · have hn1 : (now != []) = true := by simpa using hn
                have hn2 : (!List.isEmpty now) = true := by simpa using hn
                have HO := Lib.hid (show outerL out now = out ++ [⟨false, now, now, now⟩] from by unfold outerL; rw [if_neg hn])
                clear hn
                go_wp2_with (at_builtin; go_loud (refine Kd.R_append kPart (w0 := w1) w1.heap.size rfl _ _ 41 55 _ 56 rfl Tryz.underlying41 infoPart rfl (by decide) (by decide) u6 out ⟨false, now, now, now⟩ _ (fun k => k ≠ w1.heap.size) (fun _ => False) rfl rfl (kPart_mk _ _ _ _) ?k1 ?k2 HR.out hB hsz (by omega) ?_))
                case k1 => exact fun _ h => h.elim
                case k2 => exact fun k hk => by omega
                intro v3 w3 hR3 hb3 hg3 _
                have hh3 := pkept HH.out hg3 HR.out
                obtain ⟨d0, d1, d2, d3⟩ := pcells hh3
                have g0 := pfrozen hh3 0
                have g1 := pfrozen hh3 1
                have g2 := pfrozen hh3 2
                have g3 := pfrozen hh3 3
                have HH4 := Lib.hid (show ((((w3.setCell ⟨w1.heap.size, 0, none⟩ (.bool true)).setCell ⟨w1.heap.size, 1, none⟩ (.string (B []))).setCell ⟨w1.heap.size, 2, none⟩ (.string (B []))).setCell ⟨w1.heap.size, 3, none⟩ (.string (B []))).heap[w1.heap.size]? = some (.cells (partCells ⟨true, [], [], []⟩).toArray 55 (0, 0)) from blk_setCell (blk_setCell (blk_setCell (blk_setCell hh3 0 _) 1 _) 2 _) 3 _)
                have HR4 := Lib.hid (Kd.R_far (Kd.R_far (Kd.R_far (Kd.R_far hR3 (p := ⟨w1.heap.size, 0, none⟩) (fun _ h => h) (.bool true)) (p := ⟨w1.heap.size, 1, none⟩) (fun _ h => h) (.string (B []))) (p := ⟨w1.heap.size, 2, none⟩) (fun _ h => h) (.string (B []))) (p := ⟨w1.heap.size, 3, none⟩) (fun _ h => h) (.string (B [])))
                have hB4 := (((hb3.setCell (p := ⟨w1.heap.size, 0, none⟩) (Nat.le_refl _) (.bool true)).setCell (p := ⟨w1.heap.size, 1, none⟩) (Nat.le_refl _) (.string (B []))).setCell (p := ⟨w1.heap.size, 2, none⟩) (Nat.le_refl _) (.string (B []))).setCell (p := ⟨w1.heap.size, 3, none⟩) (Nat.le_refl _) (.string (B []))
                clear hR3 hg3 hh3
                go_wp2
                go_roundw
                case rel =>
                  refine ⟨k + 1, ⟨outerL out now, ⟨true, [], [], []⟩, [], 1⟩, by omega, by first | rfl | go_num, by first | rfl | go_num, by first | rfl | go_num, Lib.hid ?_, Lib.hid ?_, (by rw [HO.out]; exact HR4), HH4, hB4⟩
                  · rw [HSN.out, HF.out]; exact HST.out
                  · have := stepL_grown HST.out HG.out
                    rw [List.take_add_one, HX.out, Option.toList_some, List.flatten_append, List.length_append]
                    simpa using this
                case measure => simp [intOf]; omega
            · have HST := Lib.hid (show stepL m ⟨out, ⟨pc, po, pa, pb⟩, now, 0⟩ x = none from by unfold stepL; rw [← HMK.out]; rfl)
              have HN := Lib.hid (show parseL text m = none from by
                unfold parseL
                rw [foldL_dead m _ (k + 1) st0 (by rw [HSN.out, HF.out]; exact HST.out)]
                rfl)
              go_wp2
              go_ret2
              rw [HN.out]
              exact ⟨rfl, hBB⟩
            · have HST := Lib.hid (show stepL m ⟨out, ⟨pc, po, pa, pb⟩, now, 0⟩ x = none from by unfold stepL; rw [← HMK.out]; rfl)
              have HN := Lib.hid (show parseL text m = none from by
                unfold parseL
                rw [foldL_dead m _ (k + 1) st0 (by rw [HSN.out, HF.out]; exact HST.out)]
                rfl)
              go_wp2
              go_ret2
              rw [HN.out]
              exact ⟨rfl, hBB⟩
            · have HST := Lib.hid (show stepL m ⟨out, ⟨pc, po, pa, pb⟩, now, 0⟩ x = none from by unfold stepL; rw [← HMK.out]; rfl)
              have HN := Lib.hid (show parseL text m = none from by
                unfold parseL
                rw [foldL_dead m _ (k + 1) st0 (by rw [HSN.out, HF.out]; exact HST.out)]
                rfl)
              go_wp2
              go_ret2
              rw [HN.out]
              exact ⟨rfl, hBB⟩
        · cases cut with
          | true =>
            cases htk : takeL now true with
            | none =>
              have HTK := Lib.hid htk
              have HTR := Lib.hid (show trimR now = (now, false) from by unfold trimR; rw [htk])
              clear htk
              have HST := Lib.hid (show stepL m ⟨out, ⟨pc, po, pa, pb⟩, now, 1⟩ x = none from by unfold stepL; rw [← HMK.out]; exact meetL_off 1 0 (by decide) HTK.out)
              go_wp2_with fail
              refine (trimmed_any now (by omega) _).mono ?_
              rw [HTR.out]
              rintro e w' ⟨rfl, hw'⟩
              obtain rfl : w2 = w' := hw'.symm
              have HN := Lib.hid (show parseL text m = none from by
                unfold parseL
                rw [foldL_dead m _ (k + 1) st0 (by rw [HSN.out, HF.out]; exact HST.out)]
                rfl)
              go_wp2
              go_ret2
              rw [HN.out]
              exact ⟨rfl, hBB⟩
            | some t =>
              have htl := takeL_len htk
              have HTK := Lib.hid htk
              have HTR := Lib.hid (show trimR now = (t, true) from by unfold trimR; rw [htk])
              clear htk
              go_wp2_with fail
              refine (trimmed_any now (by omega) _).mono ?_
              rw [HTR.out]
              rintro e w' ⟨rfl, hw'⟩
              obtain rfl : w2 = w' := hw'.symm
              rcases hq4 with rfl | rfl | rfl | rfl
              · have HST := Lib.hid (show stepL m ⟨out, ⟨pc, po, pa, pb⟩, now, 1⟩ x = none from by unfold stepL; rw [← HMK.out]; exact (meetL_on 1 0 (by decide) HTK.out).trans rfl)
                have HN := Lib.hid (show parseL text m = none from by
                  unfold parseL
                  rw [foldL_dead m _ (k + 1) st0 (by rw [HSN.out, HF.out]; exact HST.out)]
                  rfl)
                go_wp2
                go_ret2
                rw [HN.out]
                exact ⟨rfl, hBB⟩
              · have HST := Lib.hid (show stepL m ⟨out, ⟨pc, po, pa, pb⟩, now, 1⟩ x = some ⟨out, ⟨pc, po, t, pb⟩, [], 2⟩ from by unfold stepL; rw [← HMK.out]; exact (meetL_on 1 0 (by decide) HTK.out).trans rfl)
                have HH2 := Lib.hid (show (w2.setCell ⟨w1.heap.size, 2, none⟩ (.string (B t))).heap[w1.heap.size]? = some (.cells (partCells ⟨pc, po, t, pb⟩).toArray 55 (0, 0)) from blk_setCell HH.out 2 _)
                have HR2 := Lib.hid (show kPart.R 55 (w2.setCell ⟨w1.heap.size, 2, none⟩ (.string (B t))) w1.heap.size (fun k => k ≠ w1.heap.size) u6 out from Kd.R_far HR.out (fun _ h => h) _)
                have hB2 := hB.setCell (p := ⟨w1.heap.size, 2, none⟩) (Nat.le_refl _) (.string (B t))
                go_wp2
                go_roundw
                case rel =>
                  refine ⟨k + 1, ⟨out, ⟨pc, po, t, pb⟩, [], 2⟩, by omega, by first | rfl | go_num, by first | rfl | go_num, by first | rfl | go_num, Lib.hid ?_, Lib.hid ?_, HR2, HH2, hB2⟩
                  · rw [HSN.out, HF.out]; exact HST.out
                  · have := stepL_grown HST.out HG.out
                    rw [List.take_add_one, HX.out, Option.toList_some, List.flatten_append, List.length_append]
                    simpa using this
                case measure => simp [intOf]; omega
              · have HST := Lib.hid (show stepL m ⟨out, ⟨pc, po, pa, pb⟩, now, 1⟩ x = some ⟨out, ⟨pc, po, t, pb⟩, [], 3⟩ from by unfold stepL; rw [← HMK.out]; exact (meetL_on 1 0 (by decide) HTK.out).trans rfl)
                have HH2 := Lib.hid (show (w2.setCell ⟨w1.heap.size, 2, none⟩ (.string (B t))).heap[w1.heap.size]? = some (.cells (partCells ⟨pc, po, t, pb⟩).toArray 55 (0, 0)) from blk_setCell HH.out 2 _)
                have HR2 := Lib.hid (show kPart.R 55 (w2.setCell ⟨w1.heap.size, 2, none⟩ (.string (B t))) w1.heap.size (fun k => k ≠ w1.heap.size) u6 out from Kd.R_far HR.out (fun _ h => h) _)
                have hB2 := hB.setCell (p := ⟨w1.heap.size, 2, none⟩) (Nat.le_refl _) (.string (B t))
                go_wp2
                go_roundw
                case rel =>
                  refine ⟨k + 1, ⟨out, ⟨pc, po, t, pb⟩, [], 3⟩, by omega, by first | rfl | go_num, by first | rfl | go_num, by first | rfl | go_num, Lib.hid ?_, Lib.hid ?_, HR2, HH2, hB2⟩
                  · rw [HSN.out, HF.out]; exact HST.out
                  · have := stepL_grown HST.out HG.out
                    rw [List.take_add_one, HX.out, Option.toList_some, List.flatten_append, List.length_append]
                    simpa using this
                case measure => simp [intOf]; omega
              · have HST := Lib.hid (show stepL m ⟨out, ⟨pc, po, pa, pb⟩, now, 1⟩ x = none from by unfold stepL; rw [← HMK.out]; exact (meetL_on 1 0 (by decide) HTK.out).trans rfl)
                have HN := Lib.hid (show parseL text m = none from by
                  unfold parseL
                  rw [foldL_dead m _ (k + 1) st0 (by rw [HSN.out, HF.out]; exact HST.out)]
                  rfl)
                go_wp2
                go_ret2
                rw [HN.out]
                exact ⟨rfl, hBB⟩
          | false =>
            have HTK := Lib.hid (show takeL now false = some now from rfl)
            rcases hq4 with rfl | rfl | rfl | rfl
            · have HST := Lib.hid (show stepL m ⟨out, ⟨pc, po, pa, pb⟩, now, 1⟩ x = none from by unfold stepL; rw [← HMK.out]; exact (meetL_on 1 0 (by decide) HTK.out).trans rfl)
              have HN := Lib.hid (show parseL text m = none from by
                unfold parseL
                rw [foldL_dead m _ (k + 1) st0 (by rw [HSN.out, HF.out]; exact HST.out)]
                rfl)
              go_wp2
              go_ret2
              rw [HN.out]
              exact ⟨rfl, hBB⟩
            · have HST := Lib.hid (show stepL m ⟨out, ⟨pc, po, pa, pb⟩, now, 1⟩ x = some ⟨out, ⟨pc, po, now, pb⟩, [], 2⟩ from by unfold stepL; rw [← HMK.out]; exact (meetL_on 1 0 (by decide) HTK.out).trans rfl)
              have HH2 := Lib.hid (show (w2.setCell ⟨w1.heap.size, 2, none⟩ (.string (B now))).heap[w1.heap.size]? = some (.cells (partCells ⟨pc, po, now, pb⟩).toArray 55 (0, 0)) from blk_setCell HH.out 2 _)
              have HR2 := Lib.hid (show kPart.R 55 (w2.setCell ⟨w1.heap.size, 2, none⟩ (.string (B now))) w1.heap.size (fun k => k ≠ w1.heap.size) u6 out from Kd.R_far HR.out (fun _ h => h) _)
              have hB2 := hB.setCell (p := ⟨w1.heap.size, 2, none⟩) (Nat.le_refl _) (.string (B now))
              go_wp2
              go_roundw
              case rel =>
                refine ⟨k + 1, ⟨out, ⟨pc, po, now, pb⟩, [], 2⟩, by omega, by first | rfl | go_num, by first | rfl | go_num, by first | rfl | go_num, Lib.hid ?_, Lib.hid ?_, HR2, HH2, hB2⟩
                · rw [HSN.out, HF.out]; exact HST.out
                · have := stepL_grown HST.out HG.out
                  rw [List.take_add_one, HX.out, Option.toList_some, List.flatten_append, List.length_append]
                  simpa using this
              case measure => simp [intOf]; omega
            · have HST := Lib.hid (show stepL m ⟨out, ⟨pc, po, pa, pb⟩, now, 1⟩ x = some ⟨out, ⟨pc, po, now, pb⟩, [], 3⟩ from by unfold stepL; rw [← HMK.out]; exact (meetL_on 1 0 (by decide) HTK.out).trans rfl)
              have HH2 := Lib.hid (show (w2.setCell ⟨w1.heap.size, 2, none⟩ (.string (B now))).heap[w1.heap.size]? = some (.cells (partCells ⟨pc, po, now, pb⟩).toArray 55 (0, 0)) from blk_setCell HH.out 2 _)
              have HR2 := Lib.hid (show kPart.R 55 (w2.setCell ⟨w1.heap.size, 2, none⟩ (.string (B now))) w1.heap.size (fun k => k ≠ w1.heap.size) u6 out from Kd.R_far HR.out (fun _ h => h) _)
              have hB2 := hB.setCell (p := ⟨w1.heap.size, 2, none⟩) (Nat.le_refl _) (.string (B now))
              go_wp2
              go_roundw
              case rel =>
                refine ⟨k + 1, ⟨out, ⟨pc, po, now, pb⟩, [], 3⟩, by omega, by first | rfl | go_num, by first | rfl | go_num, by first | rfl | go_num, Lib.hid ?_, Lib.hid ?_, HR2, HH2, hB2⟩
                · rw [HSN.out, HF.out]; exact HST.out
                · have := stepL_grown HST.out HG.out
                  rw [List.take_add_one, HX.out, Option.toList_some, List.flatten_append, List.length_append]
                  simpa using this
              case measure => simp [intOf]; omega
            · have HST := Lib.hid (show stepL m ⟨out, ⟨pc, po, pa, pb⟩, now, 1⟩ x = none from by unfold stepL; rw [← HMK.out]; exact (meetL_on 1 0 (by decide) HTK.out).trans rfl)
              have HN := Lib.hid (show parseL text m = none from by
                unfold parseL
                rw [foldL_dead m _ (k + 1) st0 (by rw [HSN.out, HF.out]; exact HST.out)]
                rfl)
              go_wp2
              go_ret2
              rw [HN.out]
              exact ⟨rfl, hBB⟩
        · cases cut with
          | true =>
            cases htk : takeL now true with
            | none =>
              have HTK := Lib.hid htk
              have HTR := Lib.hid (show trimR now = (now, false) from by unfold trimR; rw [htk])
              clear htk
              have HST := Lib.hid (show stepL m ⟨out, ⟨pc, po, pa, pb⟩, now, 2⟩ x = none from by unfold stepL; rw [← HMK.out]; exact meetL_off 2 0 (by decide) HTK.out)
              go_wp2_with fail
              refine (trimmed_any now (by omega) _).mono ?_
              rw [HTR.out]
              rintro e w' ⟨rfl, hw'⟩
              obtain rfl : w2 = w' := hw'.symm
              have HN := Lib.hid (show parseL text m = none from by
                unfold parseL
                rw [foldL_dead m _ (k + 1) st0 (by rw [HSN.out, HF.out]; exact HST.out)]
                rfl)
              go_wp2
              go_ret2
              rw [HN.out]
              exact ⟨rfl, hBB⟩
            | some t =>
              have htl := takeL_len htk
              have HTK := Lib.hid htk
              have HTR := Lib.hid (show trimR now = (t, true) from by unfold trimR; rw [htk])
              clear htk
              go_wp2_with fail
              refine (trimmed_any now (by omega) _).mono ?_
              rw [HTR.out]
              rintro e w' ⟨rfl, hw'⟩
              obtain rfl : w2 = w' := hw'.symm
              rcases hq4 with rfl | rfl | rfl | rfl
              · have HST := Lib.hid (show stepL m ⟨out, ⟨pc, po, pa, pb⟩, now, 2⟩ x = none from by unfold stepL; rw [← HMK.out]; exact (meetL_on 2 0 (by decide) HTK.out).trans rfl)
                have HN := Lib.hid (show parseL text m = none from by
                  unfold parseL
                  rw [foldL_dead m _ (k + 1) st0 (by rw [HSN.out, HF.out]; exact HST.out)]
                  rfl)
                go_wp2
                go_ret2
                rw [HN.out]
                exact ⟨rfl, hBB⟩
              · have HST := Lib.hid (show stepL m ⟨out, ⟨pc, po, pa, pb⟩, now, 2⟩ x = none from by unfold stepL; rw [← HMK.out]; exact (meetL_on 2 0 (by decide) HTK.out).trans rfl)
                have HN := Lib.hid (show parseL text m = none from by
                  unfold parseL
                  rw [foldL_dead m _ (k + 1) st0 (by rw [HSN.out, HF.out]; exact HST.out)]
                  rfl)
                go_wp2
                go_ret2
                rw [HN.out]
                exact ⟨rfl, hBB⟩
              · have HST := Lib.hid (show stepL m ⟨out, ⟨pc, po, pa, pb⟩, now, 2⟩ x = some ⟨out, ⟨pc, t, pa, pb⟩, [], 3⟩ from by unfold stepL; rw [← HMK.out]; exact (meetL_on 2 0 (by decide) HTK.out).trans rfl)
                have HH2 := Lib.hid (show (w2.setCell ⟨w1.heap.size, 1, none⟩ (.string (B t))).heap[w1.heap.size]? = some (.cells (partCells ⟨pc, t, pa, pb⟩).toArray 55 (0, 0)) from blk_setCell HH.out 1 _)
                have HR2 := Lib.hid (show kPart.R 55 (w2.setCell ⟨w1.heap.size, 1, none⟩ (.string (B t))) w1.heap.size (fun k => k ≠ w1.heap.size) u6 out from Kd.R_far HR.out (fun _ h => h) _)
                have hB2 := hB.setCell (p := ⟨w1.heap.size, 1, none⟩) (Nat.le_refl _) (.string (B t))
                go_wp2
                go_roundw
                case rel =>
                  refine ⟨k + 1, ⟨out, ⟨pc, t, pa, pb⟩, [], 3⟩, by omega, by first | rfl | go_num, by first | rfl | go_num, by first | rfl | go_num, Lib.hid ?_, Lib.hid ?_, HR2, HH2, hB2⟩
                  · rw [HSN.out, HF.out]; exact HST.out
                  · have := stepL_grown HST.out HG.out
                    rw [List.take_add_one, HX.out, Option.toList_some, List.flatten_append, List.length_append]
                    simpa using this
                case measure => simp [intOf]; omega
              · have HST := Lib.hid (show stepL m ⟨out, ⟨pc, po, pa, pb⟩, now, 2⟩ x = none from by unfold stepL; rw [← HMK.out]; exact (meetL_on 2 0 (by decide) HTK.out).trans rfl)
                have HN := Lib.hid (show parseL text m = none from by
                  unfold parseL
                  rw [foldL_dead m _ (k + 1) st0 (by rw [HSN.out, HF.out]; exact HST.out)]
                  rfl)
                go_wp2
                go_ret2
                rw [HN.out]
                exact ⟨rfl, hBB⟩
          | false =>
            have HTK := Lib.hid (show takeL now false = some now from rfl)
            rcases hq4 with rfl | rfl | rfl | rfl
            · have HST := Lib.hid (show stepL m ⟨out, ⟨pc, po, pa, pb⟩, now, 2⟩ x = none from by unfold stepL; rw [← HMK.out]; exact (meetL_on 2 0 (by decide) HTK.out).trans rfl)
              have HN := Lib.hid (show parseL text m = none from by
                unfold parseL
                rw [foldL_dead m _ (k + 1) st0 (by rw [HSN.out, HF.out]; exact HST.out)]
                rfl)
              go_wp2
              go_ret2
              rw [HN.out]
              exact ⟨rfl, hBB⟩
            · have HST := Lib.hid (show stepL m ⟨out, ⟨pc, po, pa, pb⟩, now, 2⟩ x = none from by unfold stepL; rw [← HMK.out]; exact (meetL_on 2 0 (by decide) HTK.out).trans rfl)
              have HN := Lib.hid (show parseL text m = none from by
                unfold parseL
                rw [foldL_dead m _ (k + 1) st0 (by rw [HSN.out, HF.out]; exact HST.out)]
                rfl)
              go_wp2
              go_ret2
              rw [HN.out]
              exact ⟨rfl, hBB⟩
            · have HST := Lib.hid (show stepL m ⟨out, ⟨pc, po, pa, pb⟩, now, 2⟩ x = some ⟨out, ⟨pc, now, pa, pb⟩, [], 3⟩ from by unfold stepL; rw [← HMK.out]; exact (meetL_on 2 0 (by decide) HTK.out).trans rfl)
              have HH2 := Lib.hid (show (w2.setCell ⟨w1.heap.size, 1, none⟩ (.string (B now))).heap[w1.heap.size]? = some (.cells (partCells ⟨pc, now, pa, pb⟩).toArray 55 (0, 0)) from blk_setCell HH.out 1 _)
              have HR2 := Lib.hid (show kPart.R 55 (w2.setCell ⟨w1.heap.size, 1, none⟩ (.string (B now))) w1.heap.size (fun k => k ≠ w1.heap.size) u6 out from Kd.R_far HR.out (fun _ h => h) _)
              have hB2 := hB.setCell (p := ⟨w1.heap.size, 1, none⟩) (Nat.le_refl _) (.string (B now))
              go_wp2
              go_roundw
              case rel =>
                refine ⟨k + 1, ⟨out, ⟨pc, now, pa, pb⟩, [], 3⟩, by omega, by first | rfl | go_num, by first | rfl | go_num, by first | rfl | go_num, Lib.hid ?_, Lib.hid ?_, HR2, HH2, hB2⟩
                · rw [HSN.out, HF.out]; exact HST.out
                · have := stepL_grown HST.out HG.out
                  rw [List.take_add_one, HX.out, Option.toList_some, List.flatten_append, List.length_append]
                  simpa using this
              case measure => simp [intOf]; omega
            · have HST := Lib.hid (show stepL m ⟨out, ⟨pc, po, pa, pb⟩, now, 2⟩ x = none from by unfold stepL; rw [← HMK.out]; exact (meetL_on 2 0 (by decide) HTK.out).trans rfl)
              have HN := Lib.hid (show parseL text m = none from by
                unfold parseL
                rw [foldL_dead m _ (k + 1) st0 (by rw [HSN.out, HF.out]; exact HST.out)]
                rfl)
              go_wp2
              go_ret2
              rw [HN.out]
              exact ⟨rfl, hBB⟩
        · cases cut with
          | true =>
            cases htk : takeL now true with
            | none =>
              have HTK := Lib.hid htk
              have HTR := Lib.hid (show trimR now = (now, false) from by unfold trimR; rw [htk])
              clear htk
              have HST := Lib.hid (show stepL m ⟨out, ⟨pc, po, pa, pb⟩, now, 3⟩ x = none from by unfold stepL; rw [← HMK.out]; exact meetL_off 3 0 (by decide) HTK.out)
              go_wp2_with fail
              refine (trimmed_any now (by omega) _).mono ?_
              rw [HTR.out]
              rintro e w' ⟨rfl, hw'⟩
              obtain rfl : w2 = w' := hw'.symm
              have HN := Lib.hid (show parseL text m = none from by
                unfold parseL
                rw [foldL_dead m _ (k + 1) st0 (by rw [HSN.out, HF.out]; exact HST.out)]
                rfl)
              go_wp2
              go_ret2
              rw [HN.out]
              exact ⟨rfl, hBB⟩
            | some t =>
              have htl := takeL_len htk
              have HTK := Lib.hid htk
              have HTR := Lib.hid (show trimR now = (t, true) from by unfold trimR; rw [htk])
              clear htk
              go_wp2_with fail
              refine (trimmed_any now (by omega) _).mono ?_
              rw [HTR.out]
              rintro e w' ⟨rfl, hw'⟩
              obtain rfl : w2 = w' := hw'.symm
              rcases hq4 with rfl | rfl | rfl | rfl
              · have HST := Lib.hid (show stepL m ⟨out, ⟨pc, po, pa, pb⟩, now, 3⟩ x = none from by unfold stepL; rw [← HMK.out]; exact (meetL_on 3 0 (by decide) HTK.out).trans rfl)
                have HN := Lib.hid (show parseL text m = none from by
                  unfold parseL
                  rw [foldL_dead m _ (k + 1) st0 (by rw [HSN.out, HF.out]; exact HST.out)]
                  rfl)
                go_wp2
                go_ret2
                rw [HN.out]
                exact ⟨rfl, hBB⟩
              · have HST := Lib.hid (show stepL m ⟨out, ⟨pc, po, pa, pb⟩, now, 3⟩ x = none from by unfold stepL; rw [← HMK.out]; exact (meetL_on 3 0 (by decide) HTK.out).trans rfl)
                have HN := Lib.hid (show parseL text m = none from by
                  unfold parseL
                  rw [foldL_dead m _ (k + 1) st0 (by rw [HSN.out, HF.out]; exact HST.out)]
                  rfl)
                go_wp2
                go_ret2
                rw [HN.out]
                exact ⟨rfl, hBB⟩
              · have HST := Lib.hid (show stepL m ⟨out, ⟨pc, po, pa, pb⟩, now, 3⟩ x = none from by unfold stepL; rw [← HMK.out]; exact (meetL_on 3 0 (by decide) HTK.out).trans rfl)
                have HN := Lib.hid (show parseL text m = none from by
                  unfold parseL
                  rw [foldL_dead m _ (k + 1) st0 (by rw [HSN.out, HF.out]; exact HST.out)]
                  rfl)
                go_wp2
                go_ret2
                rw [HN.out]
                exact ⟨rfl, hBB⟩
              · have HST := Lib.hid (show stepL m ⟨out, ⟨pc, po, pa, pb⟩, now, 3⟩ x = some ⟨out ++ [⟨pc, po, pa, t⟩], ⟨pc, po, pa, t⟩, [], 0⟩ from by unfold stepL; rw [← HMK.out]; exact (meetL_on 3 0 (by decide) HTK.out).trans rfl)
                obtain ⟨W2, hW2⟩ : ∃ W2, W2 = w2.setCell ⟨w1.heap.size, 3, none⟩ (.string (B t)) := ⟨_, rfl⟩
                have HH2 := Lib.hid (show W2.heap[w1.heap.size]? = some (.cells (partCells ⟨pc, po, pa, t⟩).toArray 55 (0, 0)) from by rw [hW2]; exact blk_setCell HH.out 3 _)
                have HR2 := Lib.hid (show kPart.R 55 W2 w1.heap.size (fun k => k ≠ w1.heap.size) u6 out from by rw [hW2]; exact Kd.R_far HR.out (fun _ h => h) _)
                have hB2 : Below w1.heap.size w1 W2 := by rw [hW2]; exact hB.setCell (p := ⟨w1.heap.size, 3, none⟩) (Nat.le_refl _) (.string (B t))
                have hs2 := hB2.size
                have hlt2 : w1.heap.size < W2.heap.size := (Array.getElem?_eq_some_iff.1 HH2.out).1
                obtain ⟨d0, d1, d2, d3⟩ := pcells HH2.out
                go_upto_region 44 with (fail)
                rw [← hW2]
                clear hW2
                go_wp2_with (at_builtin; go_loud (refine Kd.R_append kPart (w0 := w1) w1.heap.size rfl _ _ 41 55 _ 56 rfl Tryz.underlying41 infoPart rfl (by decide) (by decide) u6 out ⟨pc, po, pa, t⟩ _ (fun k => k ≠ w1.heap.size) (fun _ => False) rfl rfl (kPart_mk _ _ _ _) ?k1 ?k2 HR2.out hB2 hs2 (by omega) ?_))
                case k1 => exact fun _ h => h.elim
                case k2 => exact fun k hk => by omega
                intro v3 w3 hR3 hb3 hg3 _
                have HH3 := Lib.hid (pkept HH2.out hg3 HR2.out)
                have HR3 := Lib.hid hR3
                clear hR3 hg3
                go_wp2
                go_roundw
                case rel =>
                  refine ⟨k + 1, ⟨out ++ [⟨pc, po, pa, t⟩], ⟨pc, po, pa, t⟩, [], 0⟩, by omega, by first | rfl | go_num, by first | rfl | go_num, by first | rfl | go_num, Lib.hid ?_, Lib.hid ?_, HR3, HH3, hb3⟩
                  · rw [HSN.out, HF.out]; exact HST.out
                  · have := stepL_grown HST.out HG.out
                    rw [List.take_add_one, HX.out, Option.toList_some, List.flatten_append, List.length_append]
                    simpa using this
                case measure => simp [intOf]; omega
          | false =>
            have HTK := Lib.hid (show takeL now false = some now from rfl)
            rcases hq4 with rfl | rfl | rfl | rfl
            · have HST := Lib.hid (show stepL m ⟨out, ⟨pc, po, pa, pb⟩, now, 3⟩ x = none from by unfold stepL; rw [← HMK.out]; exact (meetL_on 3 0 (by decide) HTK.out).trans rfl)
              have HN := Lib.hid (show parseL text m = none from by
                unfold parseL
                rw [foldL_dead m _ (k + 1) st0 (by rw [HSN.out, HF.out]; exact HST.out)]
                rfl)
              go_wp2
              go_ret2
              rw [HN.out]
              exact ⟨rfl, hBB⟩
            · have HST := Lib.hid (show stepL m ⟨out, ⟨pc, po, pa, pb⟩, now, 3⟩ x = none from by unfold stepL; rw [← HMK.out]; exact (meetL_on 3 0 (by decide) HTK.out).trans rfl)
              have HN := Lib.hid (show parseL text m = none from by
                unfold parseL
                rw [foldL_dead m _ (k + 1) st0 (by rw [HSN.out, HF.out]; exact HST.out)]
                rfl)
              go_wp2
              go_ret2
              rw [HN.out]
              exact ⟨rfl, hBB⟩
            · have HST := Lib.hid (show stepL m ⟨out, ⟨pc, po, pa, pb⟩, now, 3⟩ x = none from by unfold stepL; rw [← HMK.out]; exact (meetL_on 3 0 (by decide) HTK.out).trans rfl)
              have HN := Lib.hid (show parseL text m = none from by
                unfold parseL
                rw [foldL_dead m _ (k + 1) st0 (by rw [HSN.out, HF.out]; exact HST.out)]
                rfl)
              go_wp2
              go_ret2
              rw [HN.out]
              exact ⟨rfl, hBB⟩
            · have HST := Lib.hid (show stepL m ⟨out, ⟨pc, po, pa, pb⟩, now, 3⟩ x = some ⟨out ++ [⟨pc, po, pa, now⟩], ⟨pc, po, pa, now⟩, [], 0⟩ from by unfold stepL; rw [← HMK.out]; exact (meetL_on 3 0 (by decide) HTK.out).trans rfl)
              obtain ⟨W2, hW2⟩ : ∃ W2, W2 = w2.setCell ⟨w1.heap.size, 3, none⟩ (.string (B now)) := ⟨_, rfl⟩
              have HH2 := Lib.hid (show W2.heap[w1.heap.size]? = some (.cells (partCells ⟨pc, po, pa, now⟩).toArray 55 (0, 0)) from by rw [hW2]; exact blk_setCell HH.out 3 _)
              have HR2 := Lib.hid (show kPart.R 55 W2 w1.heap.size (fun k => k ≠ w1.heap.size) u6 out from by rw [hW2]; exact Kd.R_far HR.out (fun _ h => h) _)
              have hB2 : Below w1.heap.size w1 W2 := by rw [hW2]; exact hB.setCell (p := ⟨w1.heap.size, 3, none⟩) (Nat.le_refl _) (.string (B now))
              have hs2 := hB2.size
              have hlt2 : w1.heap.size < W2.heap.size := (Array.getElem?_eq_some_iff.1 HH2.out).1
              obtain ⟨d0, d1, d2, d3⟩ := pcells HH2.out
              go_upto_region 44 with (fail)
              rw [← hW2]
              clear hW2
              go_wp2_with (at_builtin; go_loud (refine Kd.R_append kPart (w0 := w1) w1.heap.size rfl _ _ 41 55 _ 56 rfl Tryz.underlying41 infoPart rfl (by decide) (by decide) u6 out ⟨pc, po, pa, now⟩ _ (fun k => k ≠ w1.heap.size) (fun _ => False) rfl rfl (kPart_mk _ _ _ _) ?k1 ?k2 HR2.out hB2 hs2 (by omega) ?_))
              case k1 => exact fun _ h => h.elim
              case k2 => exact fun k hk => by omega
              intro v3 w3 hR3 hb3 hg3 _
              have HH3 := Lib.hid (pkept HH2.out hg3 HR2.out)
              have HR3 := Lib.hid hR3
              clear hR3 hg3
              go_wp2
              go_roundw
              case rel =>
                refine ⟨k + 1, ⟨out ++ [⟨pc, po, pa, now⟩], ⟨pc, po, pa, now⟩, [], 0⟩, by omega, by first | rfl | go_num, by first | rfl | go_num, by first | rfl | go_num, Lib.hid ?_, Lib.hid ?_, HR3, HH3, hb3⟩
                · rw [HSN.out, HF.out]; exact HST.out
                · have := stepL_grown HST.out HG.out
                  rw [List.take_add_one, HX.out, Option.toList_some, List.flatten_append, List.length_append]
                  simpa using this
              case measure => simp [intOf]; omega
        -- GEN END
    · obtain rfl : k = (splitL text).length := by omega
      have HF1 := Lib.hid (show foldL m st0 (splitL text) = some ⟨out, ⟨pc, po, pa, pb⟩, now, at_⟩ from by have := HF.out; rwa [List.take_length] at this)
      clear HF
      obtain ⟨c0, c1, c2, c3⟩ := pcells HH.out
      have f0 := pfrozen HH.out 0
      have f1 := pfrozen HH.out 1
      have f2 := pfrozen HH.out 2
      have f3 := pfrozen HH.out 3
      have hltb : w1.heap.size < wo.heap.size := (Array.getElem?_eq_some_iff.1 HH.out).1
      simp only at c0 c1 c2 c3
      rcases hat4 with rfl | rfl | rfl | rfl
      · have HPA := Lib.hid (show parseL text m = some (outerL out now) from by unfold parseL; rw [HF1.out, Option.bind_some, if_pos rfl])
        by_cases hn : now = []
        · have hn1 : (now != []) = false := by rw [hn]; rfl
          have hn2 : (!List.isEmpty now) = false := by rw [hn]; rfl
          have HO := Lib.hid (show outerL out now = out from by unfold outerL; rw [if_pos hn])
          clear hn
          go_wp2
          go_ret2
          rw [HPA.out, HO.out]
          exact ⟨⟨_, rfl, Kd.R_lower (Kd.R_mono (Kd.R_far (Kd.R_far (Kd.R_far (Kd.R_far HR.out (p := ⟨w1.heap.size, 0, none⟩) (fun _ h => h) _) (p := ⟨w1.heap.size, 1, none⟩) (fun _ h => h) _) (p := ⟨w1.heap.size, 2, none⟩) (fun _ h => h) _) (p := ⟨w1.heap.size, 3, none⟩) (fun _ h => h) _) (fun _ _ => trivial)) hsz1⟩, (((hBB.setCell (p := ⟨w1.heap.size, 0, none⟩) hsz1 _).setCell (p := ⟨w1.heap.size, 1, none⟩) hsz1 _).setCell (p := ⟨w1.heap.size, 2, none⟩) hsz1 _).setCell (p := ⟨w1.heap.size, 3, none⟩) hsz1 _⟩
        · have hn1 : (now != []) = true := by simpa using hn
          have hn2 : (!List.isEmpty now) = true := by simpa using hn
          have HO := Lib.hid (show outerL out now = out ++ [⟨false, now, now, now⟩] from by unfold outerL; rw [if_neg hn])
          clear hn
          go_wp2_with (at_builtin; go_loud (refine Kd.R_append kPart (w0 := w1) w1.heap.size rfl _ _ 41 55 _ 56 rfl Tryz.underlying41 infoPart rfl (by decide) (by decide) u6 out ⟨false, now, now, now⟩ _ (fun k => k ≠ w1.heap.size) (fun _ => False) rfl rfl (kPart_mk _ _ _ _) ?k1 ?k2 HR.out hB hsz (by omega) ?_))
          case k1 => exact fun _ h => h.elim
          case k2 => exact fun k hk => by omega
          intro v3 w3 hR3 hb3 hg3 _
          have hh3 := pkept HH.out hg3 HR.out
          obtain ⟨d0, d1, d2, d3⟩ := pcells hh3
          have g0 := pfrozen hh3 0
          have g1 := pfrozen hh3 1
          have g2 := pfrozen hh3 2
          have g3 := pfrozen hh3 3
          have HR3 := Lib.hid hR3
          have hB3 : Below w.heap.size w w3 := HBn.out.trans (hb3.mono hsz1)
          clear hR3 hg3 hh3
          go_wp2
          go_ret2
          rw [HPA.out, HO.out]
          exact ⟨⟨_, rfl, Kd.R_lower (Kd.R_mono (Kd.R_far (Kd.R_far (Kd.R_far (Kd.R_far HR3.out (p := ⟨w1.heap.size, 0, none⟩) (fun _ h => h) _) (p := ⟨w1.heap.size, 1, none⟩) (fun _ h => h) _) (p := ⟨w1.heap.size, 2, none⟩) (fun _ h => h) _) (p := ⟨w1.heap.size, 3, none⟩) (fun _ h => h) _) (fun _ _ => trivial)) hsz1⟩, (((hB3.setCell (p := ⟨w1.heap.size, 0, none⟩) hsz1 _).setCell (p := ⟨w1.heap.size, 1, none⟩) hsz1 _).setCell (p := ⟨w1.heap.size, 2, none⟩) hsz1 _).setCell (p := ⟨w1.heap.size, 3, none⟩) hsz1 _⟩
      all_goals
        have HPA := Lib.hid (show parseL text m = none from by unfold parseL; rw [HF1.out, Option.bind_some, if_neg (by simp)])
        go_wp2
        go_ret2
        rw [HPA.out]
        exact ⟨rfl, hBB⟩

end Go.Proofs.YtogfkfkejaiecaaGreatDoor.Re
