/- Contracts of package marker: Parse. -/
import Derived.Test.YtggeelejmhihdaaDoorMu
namespace Go.Proofs.YtggeelejmhihdaaDoor.Mp
open Go.RowKit Go.Shelf Go.Proofs.YtggeelejmhihdaaDoor.Pl Go.Proofs.YtggeelejmhihdaaDoor.Ut Go.Proofs.YtggeelejmhihdaaDoor.Ln Go.Proofs.YtggeelejmhihdaaDoor.Bl Go.Proofs.YtggeelejmhihdaaDoor.Mk Go.Proofs.YtggeelejmhihdaaDoor.Ml Go.Proofs.YtggeelejmhihdaaDoor.Mm Go.Proofs.YtggeelejmhihdaaDoor.Mr Go.Proofs.YtggeelejmhihdaaDoor.Mt Go.Proofs.YtggeelejmhihdaaDoor.Mu Go.Proofs.YtggeelejmhihdaaDoorW.PrintWords
set_option linter.unusedVariables false
set_option linter.unusedSimpArgs false
attribute [local go_sem] B_append B_extract B_toList B_size take_end addr_off

theorem foldL_append (n : Nat) : ∀ (xs ys : List Str) (s : St), foldL n s (xs ++ ys) = (foldL n s xs).bind fun s' => foldL n s' ys
  | [], ys, s => by simp [foldL]
  | x :: xs, ys, s => by
    simp only [foldL, List.cons_append]
    cases h : stepL n s x with
    | none => rfl
    | some s' => simp only [Option.bind_some]; exact foldL_append n xs ys s'
theorem foldL_snoc (n : Nat) (xs : List Str) (k : Nat) (x : Str) (hx : xs[k]? = some x) (s : St) : foldL n s (xs.take (k + 1)) = (foldL n s (xs.take k)).bind fun s' => stepL n s' x := by
  rw [List.take_add_one, hx, Option.toList_some, foldL_append]
  congr 1
  funext s'
  simp only [foldL]
  cases stepL n s' x <;> rfl
theorem foldL_dead (n : Nat) (xs : List Str) (k : Nat) (s : St) (h : foldL n s (xs.take k) = none) : foldL n s xs = none := by
  rw [← List.take_append_drop k xs, foldL_append, h]
  rfl
theorem takeL_len {now t : Str} {cut : Bool} (h : takeL now cut = some t) : t.length ≤ now.length := by
  unfold takeL at h
  split at h
  · split at h
    · cases h; rw [List.length_dropLast]; omega
    · cases h
  · cases h; exact Nat.le_refl _
theorem outerL_len (out : List Part) (now : Str) : (outerL out now).length ≤ out.length + 1 := by
  unfold outerL; split <;> simp
theorem meetL_bound {s s' : St} {k : Nat} {cut : Bool} (h : meetL s k cut = some s') (ha : s.at_ ≤ 3) : s'.at_ ≤ 3 ∧ s'.now = [] ∧ s'.out.length ≤ s.out.length + 1 := by
  unfold meetL at h
  split at h
  · split at h
    · cases h; exact ⟨by simp, rfl, outerL_len _ _⟩
    · cases h
  · split at h
    · cases h
    · split at h
      · cases h; exact ⟨by simp, rfl, by simp⟩
      · split at h
        · cases h; exact ⟨by simp, rfl, by simp⟩
        · split at h
          · cases h; exact ⟨by simp, rfl, by simp⟩
          · split at h
            · cases h; exact ⟨by simp, rfl, by simp⟩
            · cases h
/-- How far a state has grown. -/
def Grown (st : St) (k m : Nat) : Prop := st.at_ ≤ 3 ∧ st.now.length ≤ m ∧ st.out.length ≤ k
theorem stepL_grown {n : Nat} {s s' : St} {x : Str} {k m : Nat} (h : stepL n s x = some s') (hg : Grown s k m) : Grown s' (k + 1) (m + x.length) := by
  obtain ⟨h1, h2, h3⟩ := hg
  unfold stepL at h
  split at h
  · cases h; exact ⟨h1, by simp; omega, by simp; omega⟩
  · obtain ⟨a, b, c⟩ := meetL_bound h h1
    exact ⟨a, by rw [b]; simp, by omega⟩
theorem markL_lt {line : Str} {n q : Nat} {cut : Bool} (h : markL line n = some (q, cut)) : q ≤ 3 := by
  unfold markL at h
  repeat' (split at h)
  all_goals first | cases h; omega | cases h

/-- What Parse hands back. -/
def ParsePost (base : Nat) (r : Option (List Part)) (w : World) (e : Ending) (w' : World) : Prop :=
  (match r with
  | some l => ∃ v, e = .returned (.tuple #[v, .int .i64 0]) ∧ kPart.R 29 w' base (fun _ => True) v l
  | none => e = .returned (.tuple #[.slice none 0 0, .int .i64 90])) ∧ Below base w w'

set_option maxHeartbeats 4000000 in
set_option maxRecDepth 100000 in
theorem parse_low (text : Str) (n : Int) (hn : n < 1) (w : World) :
    Calls Tryd.prog 14 #[.string (B text), .int .i64 n] w fun e w' => e = .returned (.tuple #[.slice none 0 0, .int .i64 90]) ∧ w' = w := by
  go_enter Tryd.func14, Tryd.ntmps14
  have hn1 : decide (n < 1) = true := by simpa using hn
  go_wp2
  go_ret2
  exact ⟨rfl, rfl⟩

set_option maxHeartbeats 4000000 in
set_option maxRecDepth 100000 in
theorem parse_any (text : Str) (n m : Nat) (h1 : 1 ≤ n) (hm : m = min n (text.length + 1)) (hn : n ≤ 9223372036854775807) (ht : text.length ≤ 100000000) (w : World) (hS : Signs w) :
    Calls Tryd.prog 14 #[.string (B text), .int .i64 n] w (ParsePost w.heap.size (parseL text m) w) := by
  have HM := Lib.hid hm
  have HS := Lib.hid hS
  have hm9 : m ≤ 100000001 := by omega
  have hn1 : decide ((n : Int) < 1) = false := by rw [decide_eq_false_iff_not]; omega
  have hmi : min (n : Int) ((text.length : Int) + 1) = (m : Int) := by omega
  clear hm hS
  go_enter Tryd.func14, Tryd.ntmps14
  go_wp2_with fail
  refine (split_any text (by omega) _).mono ?_
  rintro e w1 ⟨v, rfl, hv, hb1⟩
  obtain ⟨W0, hW0⟩ : ∃ W0, W0 = w.alloc (.cells (rCells (.slice none 0 0) ⟨false, [], [], []⟩ (.pointer none) (.slice none 0 0) 0) 61) := ⟨_, rfl⟩
  have hsz0 : W0.heap.size = w.heap.size + 1 := by rw [hW0]; exact World.size_alloc ..
  have hB0 : Below w.heap.size w W0 := by rw [hW0]; exact (Below.refl _ _).alloc (Nat.le_refl _) _
  have hR0 : Rdr w.heap.size w.heap.size st0 W0 := by
    rw [hW0]
    refine ⟨_, _, _, ⟨Nat.le_refl _, by decide, heap_alloc_new w _, .inl rfl, _, rfl, World.ownsRowF_nil _ _ _ _⟩, Kd.R_nil _ _ _ _ _⟩
  replace hb1 : Below W0.heap.size W0 w1 := by rw [hW0]; exact hb1
  replace hv : kStr.R 9 w1 W0.heap.size (fun _ => True) v (splitL text) := by rw [hW0]; exact hv
  have hR1 := hR0.below hb1
  have hv1 : kStr.R 9 w1 W0.heap.size (fun k => k ≠ w.heap.size) v (splitL text) := Kd.R_mono (Kd.R_bound hv) (fun k hk => by have := hk.2.1; omega)
  have hB1 := hB0.trans (hb1.mono hB0.size)
  have hsz1 := hB1.size
  clear hv hb1 hR0
  obtain ⟨A, c, rfl, hc, _⟩ := Kd.R_reads hv1
  have HV := Lib.hid hv1
  have HR := Lib.hid hR1
  clear hv1 hR1 hB0 hW0
  have hLc := splitL_count text
  go_wp2
  go_loopw [23] (fun i wr => ∃ (k : Nat) (st : St), k ≤ (splitL text).length ∧ i = .int .i64 k ∧ Hid (foldL m st0 ((splitL text).take k) = some st) ∧ Hid (Grown st k ((splitL text).take k).flatten.length) ∧ Hid (Rdr w.heap.size w.heap.size st wr) ∧ Hid (kStr.R 9 wr W0.heap.size (fun k => k ≠ w.heap.size) (.slice A (splitL text).length c) (splitL text)) ∧ Below w.heap.size w wr) (fun i _ => (splitL text).length - (intOf i).toNat)
  case atStart => exact ⟨0, st0, Nat.zero_le _, rfl, rfl, Lib.hid ⟨by decide, by simp [st0], by simp [st0]⟩, HR, HV, hB1⟩
  case round =>
    obtain ⟨k, st, hk, rfl, HF, HG, HRr, HVr, hB⟩ := hrel
    have hsz := hB.size
    obtain ⟨wo, rfl⟩ : ∃ wo : World, wo = wr := ⟨_, rfl⟩
    have hout : st.out.length ≤ 1000000000 := by have := HG.out.2.2; omega
    have hnow : st.now.length ≤ 1000000000 := by
      have h2 := HG.out.2.1
      have h3 := congrArg List.length (splitL_flatten text)
      rw [← List.take_append_drop k (splitL text), List.flatten_append, List.length_append] at h3
      omega
    by_cases hlt : k < (splitL text).length
    · obtain ⟨x, hxk⟩ : ∃ x, (splitL text)[k]? = some x := ⟨(splitL text)[k], List.getElem?_eq_getElem hlt⟩
      have hxl := splitL_len text x (List.mem_of_getElem? hxk)
      obtain ⟨ad, rfl, p0⟩ := at_str (Kd.R_reads' HVr.out).2.2 k hlt x hxk
      have HX := Lib.hid hxk
      obtain ⟨mk, hmk⟩ : ∃ mk, mk = markL x m := ⟨_, rfl⟩
      have HMK := Lib.hid hmk
      clear hmk hxk
      go_wp2_with fail
      refine (mark_any x m _ (HS.out.below hB) (by omega) (by omega)).mono ?_
      rw [← HMK.out]
      rintro e w2 ⟨rfl, hb2⟩
      have hR2 := HRr.out.below hb2
      have hV2 := Kd.R_below HVr.out hb2
      have hB2 := hB.trans (hb2.mono hsz)
      have hsz2 := hB2.size
      have HV2 := Lib.hid hV2
      have HR2 := Lib.hid hR2
      have hltb := hR2.lt
      have hat := HG.out.1
      clear hb2 hV2 hR2 HRr HVr
      have HSN := Lib.hid (foldL_snoc m (splitL text) k x HX.out st0)
      cases mk with
      | none =>
        have HST := Lib.hid (show stepL m st x = some { st with now := st.now ++ x } from by unfold stepL; rw [← HMK.out])
        obtain ⟨outv, pa, pv, hb, hR⟩ := HR2.out
        have e1 : (markR none).1 = -1 := rfl
        have e2 : (markR none).2 = false := rfl
        rw [e1, e2]
        go_wp2_with fail
        refine (writeString_any x hb lies_reader (by omega) (by omega)).mono ?_
        rintro e w3 ⟨rfl, ⟨v3, hb3⟩, hB3, hO3⟩
        have hR3 := Lib.hid (R_others hR hO3 (fun _ h => h) (by decide))
        have HB3 := Lib.hid hb3
        have HV3 := Lib.hid (R_tk HV2.out (TK.of_others hO3) (fun _ h => h) (by decide))
        have hB4 := hB2.trans hB3
        clear hb3 hb hR hO3
        go_wp2
        go_roundw
        case rel =>
          refine ⟨k + 1, { st with now := st.now ++ x }, by omega, by go_num, Lib.hid ?_, Lib.hid ?_, Lib.hid ⟨_, _, _, HB3.out, hR3.out⟩, HV3, hB4⟩
          · rw [HSN.out, HF.out]; exact HST.out
          · have := stepL_grown HST.out HG.out
            rw [List.take_add_one, HX.out, Option.toList_some, List.flatten_append, List.length_append]
            simpa using this
        case measure => simp [intOf]; omega
      | some qc =>
        obtain ⟨q, cut⟩ := qc
        have hq := markL_lt HMK.out.symm
        have HST := Lib.hid (show stepL m st x = meetL st q cut from by unfold stepL; rw [← HMK.out])
        have e1 : (markR (some (q, cut))).1 = (q : Int) := rfl
        have e2 : (markR (some (q, cut))).2 = cut := rfl
        have hq0 : decide ((q : Int) < 0) = false := by rw [decide_eq_false_iff_not]; omega
        rw [e1, e2]
        go_wp2_with fail
        refine (meet_any q cut hq hat HR2.out (by omega) hnow hout).mono ?_
        obtain ⟨r, hr⟩ : ∃ r, r = meetL st q cut := ⟨_, rfl⟩
        rw [← hr] at HST ⊢
        rintro e w3 ⟨rfl, hR3, hB3⟩
        have HV3 := Lib.hid (R_tk HV2.out hB3.tk (fun _ h => h) (by decide))
        have hB4 := hB2.trans hB3.bel
        cases r with
        | none =>
          have HN := Lib.hid (show parseL text m = none from by
            unfold parseL
            rw [foldL_dead m _ (k + 1) st0 (by rw [HSN.out, HF.out]; exact HST.out)]
            rfl)
          clear hR3 hr hB3
          go_wp2
          go_ret2
          rw [HN.out]
          exact ⟨rfl, hB4⟩
        | some st' =>
          have HR3 := Lib.hid (hR3 st' rfl)
          clear hR3 hr hB3
          go_wp2
          go_roundw
          case rel =>
            refine ⟨k + 1, st', by omega, by go_num, Lib.hid ?_, Lib.hid ?_, HR3, HV3, hB4⟩
            · rw [HSN.out, HF.out]; exact HST.out
            · have := stepL_grown HST.out HG.out
              rw [List.take_add_one, HX.out, Option.toList_some, List.flatten_append, List.length_append]
              simpa using this
          case measure => simp [intOf]; omega
    · obtain rfl : k = (splitL text).length := by omega
      have HF1 := Lib.hid (show foldL m st0 (splitL text) = some st from by have := HF.out; rwa [List.take_length] at this)
      have hc7 : wo.cell? ⟨w.heap.size, 7, none⟩ = some (.int .i64 st.at_) := by
        obtain ⟨_, _, _, hb, _⟩ := HRr.out
        exact hb.cell 7
      clear HF
      by_cases hat0 : st.at_ = 0
      · have hat1 : ((st.at_ : Int) != 0) = false := by rw [hat0]; rfl
        have HPA := Lib.hid (show parseL text m = some (outerL st.out st.now) from by unfold parseL; rw [HF1.out, Option.bind_some, if_pos hat0])
        clear hat0
        go_wp2_with fail
        refine (outer_any HRr.out (by omega) hnow hout).mono ?_
        rintro e w2 ⟨rfl, ⟨outv, pa, pv, hb, hR⟩, hB2⟩
        have hc0 : w2.cell? ⟨w.heap.size, 0, none⟩ = some outv := hb.cell 0
        have HR4 := Lib.hid hR
        have hB4 := hB.trans hB2.bel
        clear hb hR hB2
        go_wp2
        go_ret2
        rw [HPA.out]
        exact ⟨⟨_, rfl, Kd.R_mono HR4.out (fun _ _ => trivial)⟩, hB4⟩
      · have hat1 : ((st.at_ : Int) != 0) = true := by rw [bne_iff_ne]; omega
        have HPA := Lib.hid (show parseL text m = none from by unfold parseL; rw [HF1.out, Option.bind_some, if_neg hat0])
        clear hat0
        go_wp2
        go_ret2
        rw [HPA.out]
        exact ⟨rfl, hB⟩

end Go.Proofs.YtggeelejmhihdaaDoor.Mp
