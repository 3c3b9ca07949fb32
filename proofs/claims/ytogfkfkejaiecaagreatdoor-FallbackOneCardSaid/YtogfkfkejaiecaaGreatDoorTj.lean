/- Contracts of package marker: the reader's meet, inside a clash. Contracts of package marker: the reader's meet, at the last mark. Contracts of package marker: Parse. Contracts of fallback: File, Marks, Sides. Contracts of fallback: Sides. -/
import Derived.Test.YtogfkfkejaiecaaGreatDoorTg
import Derived.Deep.RegionLaw
import Derived.RegionTactic
import Derived.Test.YtogfkfkejaiecaaGreatDoorTi

namespace Go.Proofs.YtogfkfkejaiecaaGreatDoor.Mt
open Go.RowKit Go.Shelf Pl Ut Ln Bl Mk Ml Mm Mr Go.Proofs.YtogfkfkejaiecaaGreatDoorW.PrintWords
set_option linter.unusedVariables false
set_option linter.unusedSimpArgs false
attribute [local go_sem] B_append B_extract B_toList B_size take_end addr_off

theorem meetL_at (st : St) (k a : Nat) (cut : Bool) (hat : st.at_ = a) (ha : a ≠ 0) : meetL st k cut = if (takeR st.now cut).2 then
      (if a = 3 ∧ k = 3 then some ⟨st.out ++ [{ st.p with b := (takeR st.now cut).1 }], { st.p with b := (takeR st.now cut).1 }, [], 0⟩
      else if a = 1 ∧ k = 1 then some ⟨st.out, { st.p with a := (takeR st.now cut).1 }, [], 2⟩
      else if a = 1 ∧ k = 2 then some ⟨st.out, { st.p with a := (takeR st.now cut).1 }, [], 3⟩
      else if a = 2 ∧ k = 2 then some ⟨st.out, { st.p with o := (takeR st.now cut).1 }, [], 3⟩
      else none) else none := by
  subst hat
  unfold meetL
  rw [if_neg ha, takeL_R]
  cases (takeR st.now cut).2 with
  | false => rfl
  | true => rfl

set_option maxHeartbeats 4000000 in
set_option maxRecDepth 100000 in
theorem meet10_any {base b : Nat} {st : St} {w : World} (cut : Bool) (hat : st.at_ = 1) (h : Rdr base b st w) (hB : base ≤ w.heap.size) (hl : st.now.length ≤ 1000000000) (ho : st.out.length ≤ 1000000000) :
    Calls Tryz.prog 48 #[.pointer (some ⟨b, 0, none⟩), .int .i64 0, .bool cut] w (MeetPost base b (meetL st 0 cut) w) := by
  have hlt := h.lt
  have hc7 : w.cell? ⟨b, 7, none⟩ = some (.int .i64 ((1 : Nat) : Int)) := by
    obtain ⟨o, pa, pv, h1, _⟩ := h
    have := h1.cell 7
    rw [← hat]; exact this
  have hr := meetL_at st 0 1 cut hat (by decide)
  obtain ⟨r, hrr⟩ : ∃ r, r = meetL st 0 cut := ⟨_, rfl⟩
  rw [← hrr] at hr ⊢
  clear hrr
  have HAT := Lib.hid hat
  clear hat
  have HR0 := Lib.hid hr
  clear hr
  go_enter Tryz.func48, Tryz.ntmps48
  go_wp2_with fail
  refine (take_any cut h hB hl).mono ?_
  obtain ⟨t, ht⟩ : ∃ t, t = (takeR st.now cut).1 := ⟨_, rfl⟩
  obtain ⟨m, hm⟩ : ∃ m, m = (takeR st.now cut).2 := ⟨_, rfl⟩
  rw [← ht, ← hm]
  rintro e w1 ⟨rfl, ⟨outv, pa, pv, hb, hR⟩, hB1⟩
  have HT := Lib.hid ht
  have HM := Lib.hid hm
  clear ht hm h
  have hlt1 := hb.lt
  have hbase := hb.base
  have f0 := hb.frozen 0
  have f1 := hb.frozen 1
  have f2 := hb.frozen 2
  have f3 := hb.frozen 3
  have f4 := hb.frozen 4
  have f7 := hb.frozen 7
  have c0 : w1.cell? ⟨b, 0, none⟩ = some outv := hb.cell 0
  have c1 : w1.cell? ⟨b, 1, none⟩ = some (.bool st.p.clash) := hb.cell 1
  have c2 : w1.cell? ⟨b, 2, none⟩ = some (.string (B st.p.o)) := hb.cell 2
  have c3 : w1.cell? ⟨b, 3, none⟩ = some (.string (B st.p.a)) := hb.cell 3
  have c4 : w1.cell? ⟨b, 4, none⟩ = some (.string (B st.p.b)) := hb.cell 4
  have c7 : w1.cell? ⟨b, 7, none⟩ = some (.int .i64 st.at_) := hb.cell 7
  rw [HAT.out] at c7
  cases m with
  | false =>
    clear hb hR
    have hr : r = none := by rw [HR0.out, ← HM.out]; rfl
    have HF := Lib.hid (show MeetPost base b r w (.returned (.bool false)) w1 from ⟨by rw [hr]; rfl, (fun st' hst => by rw [hr] at hst; cases hst), hB1⟩)
    clear hr
    go_wp2
    go_ret
    exact HF.out
  | true =>
    clear hb hR
    have hr : r = none := by rw [HR0.out, ← HM.out]; rfl
    have HF := Lib.hid (show MeetPost base b r w (.returned (.bool false)) w1 from ⟨by rw [hr]; rfl, (fun st' hst => by rw [hr] at hst; cases hst), hB1⟩)
    clear hr
    go_wp2
    go_ret
    exact HF.out

set_option maxHeartbeats 4000000 in
set_option maxRecDepth 100000 in
theorem meet11_any {base b : Nat} {st : St} {w : World} (cut : Bool) (hat : st.at_ = 1) (h : Rdr base b st w) (hB : base ≤ w.heap.size) (hl : st.now.length ≤ 1000000000) (ho : st.out.length ≤ 1000000000) :
    Calls Tryz.prog 48 #[.pointer (some ⟨b, 0, none⟩), .int .i64 1, .bool cut] w (MeetPost base b (meetL st 1 cut) w) := by
  have hlt := h.lt
  have hc7 : w.cell? ⟨b, 7, none⟩ = some (.int .i64 ((1 : Nat) : Int)) := by
    obtain ⟨o, pa, pv, h1, _⟩ := h
    have := h1.cell 7
    rw [← hat]; exact this
  have hr := meetL_at st 1 1 cut hat (by decide)
  obtain ⟨r, hrr⟩ : ∃ r, r = meetL st 1 cut := ⟨_, rfl⟩
  rw [← hrr] at hr ⊢
  clear hrr
  have HAT := Lib.hid hat
  clear hat
  have HR0 := Lib.hid hr
  clear hr
  go_enter Tryz.func48, Tryz.ntmps48
  go_wp2_with fail
  refine (take_any cut h hB hl).mono ?_
  obtain ⟨t, ht⟩ : ∃ t, t = (takeR st.now cut).1 := ⟨_, rfl⟩
  obtain ⟨m, hm⟩ : ∃ m, m = (takeR st.now cut).2 := ⟨_, rfl⟩
  rw [← ht, ← hm]
  rintro e w1 ⟨rfl, ⟨outv, pa, pv, hb, hR⟩, hB1⟩
  have HT := Lib.hid ht
  have HM := Lib.hid hm
  clear ht hm h
  have hlt1 := hb.lt
  have hbase := hb.base
  have f0 := hb.frozen 0
  have f1 := hb.frozen 1
  have f2 := hb.frozen 2
  have f3 := hb.frozen 3
  have f4 := hb.frozen 4
  have f7 := hb.frozen 7
  have c0 : w1.cell? ⟨b, 0, none⟩ = some outv := hb.cell 0
  have c1 : w1.cell? ⟨b, 1, none⟩ = some (.bool st.p.clash) := hb.cell 1
  have c2 : w1.cell? ⟨b, 2, none⟩ = some (.string (B st.p.o)) := hb.cell 2
  have c3 : w1.cell? ⟨b, 3, none⟩ = some (.string (B st.p.a)) := hb.cell 3
  have c4 : w1.cell? ⟨b, 4, none⟩ = some (.string (B st.p.b)) := hb.cell 4
  have c7 : w1.cell? ⟨b, 7, none⟩ = some (.int .i64 st.at_) := hb.cell 7
  rw [HAT.out] at c7
  cases m with
  | false =>
    clear hb hR
    have hr : r = none := by rw [HR0.out, ← HM.out]; rfl
    have HF := Lib.hid (show MeetPost base b r w (.returned (.bool false)) w1 from ⟨by rw [hr]; rfl, (fun st' hst => by rw [hr] at hst; cases hst), hB1⟩)
    clear hr
    go_wp2
    go_ret
    exact HF.out
  | true =>
    obtain ⟨W2, hW2⟩ : ∃ W2, W2 = (w1.setCell ⟨b, 3, none⟩ (.string (B t))).setCell ⟨b, 7, none⟩ (.int .i64 2) := ⟨_, rfl⟩
    have HF := Lib.hid (show MeetPost base b r w (.returned (.bool true)) W2 from by
      have hr : r = some ⟨st.out, { st.p with a := t }, [], 2⟩ := by rw [HR0.out, ← HM.out, ← HT.out]; rfl
      refine ⟨by rw [hr]; rfl, fun st' hst => ?_, ?_⟩
      · rw [hr] at hst
        cases hst
        rw [hW2]
        exact ⟨outv, pa, pv, (hb.put (j := 3) (by decide) (by decide) (.string (B t))).put (j := 7) (by decide) (by decide) (.int .i64 2), Kd.R_far (Kd.R_far hR (fun _ h => h) _) (fun _ h => h) _⟩
      · rw [hW2]; exact (hB1.setCell (p := ⟨b, 3, none⟩) hbase _).setCell (p := ⟨b, 7, none⟩) hbase _)
    have HW2 := Lib.hid hW2
    clear hb hR hW2
    go_wp2
    go_ret
    have h := HF.out
    rw [HW2.out] at h
    exact h

set_option maxHeartbeats 4000000 in
set_option maxRecDepth 100000 in
theorem meet12_any {base b : Nat} {st : St} {w : World} (cut : Bool) (hat : st.at_ = 1) (h : Rdr base b st w) (hB : base ≤ w.heap.size) (hl : st.now.length ≤ 1000000000) (ho : st.out.length ≤ 1000000000) :
    Calls Tryz.prog 48 #[.pointer (some ⟨b, 0, none⟩), .int .i64 2, .bool cut] w (MeetPost base b (meetL st 2 cut) w) := by
  have hlt := h.lt
  have hc7 : w.cell? ⟨b, 7, none⟩ = some (.int .i64 ((1 : Nat) : Int)) := by
    obtain ⟨o, pa, pv, h1, _⟩ := h
    have := h1.cell 7
    rw [← hat]; exact this
  have hr := meetL_at st 2 1 cut hat (by decide)
  obtain ⟨r, hrr⟩ : ∃ r, r = meetL st 2 cut := ⟨_, rfl⟩
  rw [← hrr] at hr ⊢
  clear hrr
  have HAT := Lib.hid hat
  clear hat
  have HR0 := Lib.hid hr
  clear hr
  go_enter Tryz.func48, Tryz.ntmps48
  go_wp2_with fail
  refine (take_any cut h hB hl).mono ?_
  obtain ⟨t, ht⟩ : ∃ t, t = (takeR st.now cut).1 := ⟨_, rfl⟩
  obtain ⟨m, hm⟩ : ∃ m, m = (takeR st.now cut).2 := ⟨_, rfl⟩
  rw [← ht, ← hm]
  rintro e w1 ⟨rfl, ⟨outv, pa, pv, hb, hR⟩, hB1⟩
  have HT := Lib.hid ht
  have HM := Lib.hid hm
  clear ht hm h
  have hlt1 := hb.lt
  have hbase := hb.base
  have f0 := hb.frozen 0
  have f1 := hb.frozen 1
  have f2 := hb.frozen 2
  have f3 := hb.frozen 3
  have f4 := hb.frozen 4
  have f7 := hb.frozen 7
  have c0 : w1.cell? ⟨b, 0, none⟩ = some outv := hb.cell 0
  have c1 : w1.cell? ⟨b, 1, none⟩ = some (.bool st.p.clash) := hb.cell 1
  have c2 : w1.cell? ⟨b, 2, none⟩ = some (.string (B st.p.o)) := hb.cell 2
  have c3 : w1.cell? ⟨b, 3, none⟩ = some (.string (B st.p.a)) := hb.cell 3
  have c4 : w1.cell? ⟨b, 4, none⟩ = some (.string (B st.p.b)) := hb.cell 4
  have c7 : w1.cell? ⟨b, 7, none⟩ = some (.int .i64 st.at_) := hb.cell 7
  rw [HAT.out] at c7
  cases m with
  | false =>
    clear hb hR
    have hr : r = none := by rw [HR0.out, ← HM.out]; rfl
    have HF := Lib.hid (show MeetPost base b r w (.returned (.bool false)) w1 from ⟨by rw [hr]; rfl, (fun st' hst => by rw [hr] at hst; cases hst), hB1⟩)
    clear hr
    go_wp2
    go_ret
    exact HF.out
  | true =>
    obtain ⟨W2, hW2⟩ : ∃ W2, W2 = (w1.setCell ⟨b, 3, none⟩ (.string (B t))).setCell ⟨b, 7, none⟩ (.int .i64 3) := ⟨_, rfl⟩
    have HF := Lib.hid (show MeetPost base b r w (.returned (.bool true)) W2 from by
      have hr : r = some ⟨st.out, { st.p with a := t }, [], 3⟩ := by rw [HR0.out, ← HM.out, ← HT.out]; rfl
      refine ⟨by rw [hr]; rfl, fun st' hst => ?_, ?_⟩
      · rw [hr] at hst
        cases hst
        rw [hW2]
        exact ⟨outv, pa, pv, (hb.put (j := 3) (by decide) (by decide) (.string (B t))).put (j := 7) (by decide) (by decide) (.int .i64 3), Kd.R_far (Kd.R_far hR (fun _ h => h) _) (fun _ h => h) _⟩
      · rw [hW2]; exact (hB1.setCell (p := ⟨b, 3, none⟩) hbase _).setCell (p := ⟨b, 7, none⟩) hbase _)
    have HW2 := Lib.hid hW2
    clear hb hR hW2
    go_wp2
    go_ret
    have h := HF.out
    rw [HW2.out] at h
    exact h

set_option maxHeartbeats 4000000 in
set_option maxRecDepth 100000 in
theorem meet13_any {base b : Nat} {st : St} {w : World} (cut : Bool) (hat : st.at_ = 1) (h : Rdr base b st w) (hB : base ≤ w.heap.size) (hl : st.now.length ≤ 1000000000) (ho : st.out.length ≤ 1000000000) :
    Calls Tryz.prog 48 #[.pointer (some ⟨b, 0, none⟩), .int .i64 3, .bool cut] w (MeetPost base b (meetL st 3 cut) w) := by
  have hlt := h.lt
  have hc7 : w.cell? ⟨b, 7, none⟩ = some (.int .i64 ((1 : Nat) : Int)) := by
    obtain ⟨o, pa, pv, h1, _⟩ := h
    have := h1.cell 7
    rw [← hat]; exact this
  have hr := meetL_at st 3 1 cut hat (by decide)
  obtain ⟨r, hrr⟩ : ∃ r, r = meetL st 3 cut := ⟨_, rfl⟩
  rw [← hrr] at hr ⊢
  clear hrr
  have HAT := Lib.hid hat
  clear hat
  have HR0 := Lib.hid hr
  clear hr
  go_enter Tryz.func48, Tryz.ntmps48
  go_wp2_with fail
  refine (take_any cut h hB hl).mono ?_
  obtain ⟨t, ht⟩ : ∃ t, t = (takeR st.now cut).1 := ⟨_, rfl⟩
  obtain ⟨m, hm⟩ : ∃ m, m = (takeR st.now cut).2 := ⟨_, rfl⟩
  rw [← ht, ← hm]
  rintro e w1 ⟨rfl, ⟨outv, pa, pv, hb, hR⟩, hB1⟩
  have HT := Lib.hid ht
  have HM := Lib.hid hm
  clear ht hm h
  have hlt1 := hb.lt
  have hbase := hb.base
  have f0 := hb.frozen 0
  have f1 := hb.frozen 1
  have f2 := hb.frozen 2
  have f3 := hb.frozen 3
  have f4 := hb.frozen 4
  have f7 := hb.frozen 7
  have c0 : w1.cell? ⟨b, 0, none⟩ = some outv := hb.cell 0
  have c1 : w1.cell? ⟨b, 1, none⟩ = some (.bool st.p.clash) := hb.cell 1
  have c2 : w1.cell? ⟨b, 2, none⟩ = some (.string (B st.p.o)) := hb.cell 2
  have c3 : w1.cell? ⟨b, 3, none⟩ = some (.string (B st.p.a)) := hb.cell 3
  have c4 : w1.cell? ⟨b, 4, none⟩ = some (.string (B st.p.b)) := hb.cell 4
  have c7 : w1.cell? ⟨b, 7, none⟩ = some (.int .i64 st.at_) := hb.cell 7
  rw [HAT.out] at c7
  cases m with
  | false =>
    clear hb hR
    have hr : r = none := by rw [HR0.out, ← HM.out]; rfl
    have HF := Lib.hid (show MeetPost base b r w (.returned (.bool false)) w1 from ⟨by rw [hr]; rfl, (fun st' hst => by rw [hr] at hst; cases hst), hB1⟩)
    clear hr
    go_wp2
    go_ret
    exact HF.out
  | true =>
    clear hb hR
    have hr : r = none := by rw [HR0.out, ← HM.out]; rfl
    have HF := Lib.hid (show MeetPost base b r w (.returned (.bool false)) w1 from ⟨by rw [hr]; rfl, (fun st' hst => by rw [hr] at hst; cases hst), hB1⟩)
    clear hr
    go_wp2
    go_ret
    exact HF.out

set_option maxHeartbeats 4000000 in
set_option maxRecDepth 100000 in
theorem meet20_any {base b : Nat} {st : St} {w : World} (cut : Bool) (hat : st.at_ = 2) (h : Rdr base b st w) (hB : base ≤ w.heap.size) (hl : st.now.length ≤ 1000000000) (ho : st.out.length ≤ 1000000000) :
    Calls Tryz.prog 48 #[.pointer (some ⟨b, 0, none⟩), .int .i64 0, .bool cut] w (MeetPost base b (meetL st 0 cut) w) := by
  have hlt := h.lt
  have hc7 : w.cell? ⟨b, 7, none⟩ = some (.int .i64 ((2 : Nat) : Int)) := by
    obtain ⟨o, pa, pv, h1, _⟩ := h
    have := h1.cell 7
    rw [← hat]; exact this
  have hr := meetL_at st 0 2 cut hat (by decide)
  obtain ⟨r, hrr⟩ : ∃ r, r = meetL st 0 cut := ⟨_, rfl⟩
  rw [← hrr] at hr ⊢
  clear hrr
  have HAT := Lib.hid hat
  clear hat
  have HR0 := Lib.hid hr
  clear hr
  go_enter Tryz.func48, Tryz.ntmps48
  go_wp2_with fail
  refine (take_any cut h hB hl).mono ?_
  obtain ⟨t, ht⟩ : ∃ t, t = (takeR st.now cut).1 := ⟨_, rfl⟩
  obtain ⟨m, hm⟩ : ∃ m, m = (takeR st.now cut).2 := ⟨_, rfl⟩
  rw [← ht, ← hm]
  rintro e w1 ⟨rfl, ⟨outv, pa, pv, hb, hR⟩, hB1⟩
  have HT := Lib.hid ht
  have HM := Lib.hid hm
  clear ht hm h
  have hlt1 := hb.lt
  have hbase := hb.base
  have f0 := hb.frozen 0
  have f1 := hb.frozen 1
  have f2 := hb.frozen 2
  have f3 := hb.frozen 3
  have f4 := hb.frozen 4
  have f7 := hb.frozen 7
  have c0 : w1.cell? ⟨b, 0, none⟩ = some outv := hb.cell 0
  have c1 : w1.cell? ⟨b, 1, none⟩ = some (.bool st.p.clash) := hb.cell 1
  have c2 : w1.cell? ⟨b, 2, none⟩ = some (.string (B st.p.o)) := hb.cell 2
  have c3 : w1.cell? ⟨b, 3, none⟩ = some (.string (B st.p.a)) := hb.cell 3
  have c4 : w1.cell? ⟨b, 4, none⟩ = some (.string (B st.p.b)) := hb.cell 4
  have c7 : w1.cell? ⟨b, 7, none⟩ = some (.int .i64 st.at_) := hb.cell 7
  rw [HAT.out] at c7
  cases m with
  | false =>
    clear hb hR
    have hr : r = none := by rw [HR0.out, ← HM.out]; rfl
    have HF := Lib.hid (show MeetPost base b r w (.returned (.bool false)) w1 from ⟨by rw [hr]; rfl, (fun st' hst => by rw [hr] at hst; cases hst), hB1⟩)
    clear hr
    go_wp2
    go_ret
    exact HF.out
  | true =>
    clear hb hR
    have hr : r = none := by rw [HR0.out, ← HM.out]; rfl
    have HF := Lib.hid (show MeetPost base b r w (.returned (.bool false)) w1 from ⟨by rw [hr]; rfl, (fun st' hst => by rw [hr] at hst; cases hst), hB1⟩)
    clear hr
    go_wp2
    go_ret
    exact HF.out

set_option maxHeartbeats 4000000 in
set_option maxRecDepth 100000 in
theorem meet21_any {base b : Nat} {st : St} {w : World} (cut : Bool) (hat : st.at_ = 2) (h : Rdr base b st w) (hB : base ≤ w.heap.size) (hl : st.now.length ≤ 1000000000) (ho : st.out.length ≤ 1000000000) :
    Calls Tryz.prog 48 #[.pointer (some ⟨b, 0, none⟩), .int .i64 1, .bool cut] w (MeetPost base b (meetL st 1 cut) w) := by
  have hlt := h.lt
  have hc7 : w.cell? ⟨b, 7, none⟩ = some (.int .i64 ((2 : Nat) : Int)) := by
    obtain ⟨o, pa, pv, h1, _⟩ := h
    have := h1.cell 7
    rw [← hat]; exact this
  have hr := meetL_at st 1 2 cut hat (by decide)
  obtain ⟨r, hrr⟩ : ∃ r, r = meetL st 1 cut := ⟨_, rfl⟩
  rw [← hrr] at hr ⊢
  clear hrr
  have HAT := Lib.hid hat
  clear hat
  have HR0 := Lib.hid hr
  clear hr
  go_enter Tryz.func48, Tryz.ntmps48
  go_wp2_with fail
  refine (take_any cut h hB hl).mono ?_
  obtain ⟨t, ht⟩ : ∃ t, t = (takeR st.now cut).1 := ⟨_, rfl⟩
  obtain ⟨m, hm⟩ : ∃ m, m = (takeR st.now cut).2 := ⟨_, rfl⟩
  rw [← ht, ← hm]
  rintro e w1 ⟨rfl, ⟨outv, pa, pv, hb, hR⟩, hB1⟩
  have HT := Lib.hid ht
  have HM := Lib.hid hm
  clear ht hm h
  have hlt1 := hb.lt
  have hbase := hb.base
  have f0 := hb.frozen 0
  have f1 := hb.frozen 1
  have f2 := hb.frozen 2
  have f3 := hb.frozen 3
  have f4 := hb.frozen 4
  have f7 := hb.frozen 7
  have c0 : w1.cell? ⟨b, 0, none⟩ = some outv := hb.cell 0
  have c1 : w1.cell? ⟨b, 1, none⟩ = some (.bool st.p.clash) := hb.cell 1
  have c2 : w1.cell? ⟨b, 2, none⟩ = some (.string (B st.p.o)) := hb.cell 2
  have c3 : w1.cell? ⟨b, 3, none⟩ = some (.string (B st.p.a)) := hb.cell 3
  have c4 : w1.cell? ⟨b, 4, none⟩ = some (.string (B st.p.b)) := hb.cell 4
  have c7 : w1.cell? ⟨b, 7, none⟩ = some (.int .i64 st.at_) := hb.cell 7
  rw [HAT.out] at c7
  cases m with
  | false =>
    clear hb hR
    have hr : r = none := by rw [HR0.out, ← HM.out]; rfl
    have HF := Lib.hid (show MeetPost base b r w (.returned (.bool false)) w1 from ⟨by rw [hr]; rfl, (fun st' hst => by rw [hr] at hst; cases hst), hB1⟩)
    clear hr
    go_wp2
    go_ret
    exact HF.out
  | true =>
    clear hb hR
    have hr : r = none := by rw [HR0.out, ← HM.out]; rfl
    have HF := Lib.hid (show MeetPost base b r w (.returned (.bool false)) w1 from ⟨by rw [hr]; rfl, (fun st' hst => by rw [hr] at hst; cases hst), hB1⟩)
    clear hr
    go_wp2
    go_ret
    exact HF.out

set_option maxHeartbeats 4000000 in
set_option maxRecDepth 100000 in
theorem meet22_any {base b : Nat} {st : St} {w : World} (cut : Bool) (hat : st.at_ = 2) (h : Rdr base b st w) (hB : base ≤ w.heap.size) (hl : st.now.length ≤ 1000000000) (ho : st.out.length ≤ 1000000000) :
    Calls Tryz.prog 48 #[.pointer (some ⟨b, 0, none⟩), .int .i64 2, .bool cut] w (MeetPost base b (meetL st 2 cut) w) := by
  have hlt := h.lt
  have hc7 : w.cell? ⟨b, 7, none⟩ = some (.int .i64 ((2 : Nat) : Int)) := by
    obtain ⟨o, pa, pv, h1, _⟩ := h
    have := h1.cell 7
    rw [← hat]; exact this
  have hr := meetL_at st 2 2 cut hat (by decide)
  obtain ⟨r, hrr⟩ : ∃ r, r = meetL st 2 cut := ⟨_, rfl⟩
  rw [← hrr] at hr ⊢
  clear hrr
  have HAT := Lib.hid hat
  clear hat
  have HR0 := Lib.hid hr
  clear hr
  go_enter Tryz.func48, Tryz.ntmps48
  go_wp2_with fail
  refine (take_any cut h hB hl).mono ?_
  obtain ⟨t, ht⟩ : ∃ t, t = (takeR st.now cut).1 := ⟨_, rfl⟩
  obtain ⟨m, hm⟩ : ∃ m, m = (takeR st.now cut).2 := ⟨_, rfl⟩
  rw [← ht, ← hm]
  rintro e w1 ⟨rfl, ⟨outv, pa, pv, hb, hR⟩, hB1⟩
  have HT := Lib.hid ht
  have HM := Lib.hid hm
  clear ht hm h
  have hlt1 := hb.lt
  have hbase := hb.base
  have f0 := hb.frozen 0
  have f1 := hb.frozen 1
  have f2 := hb.frozen 2
  have f3 := hb.frozen 3
  have f4 := hb.frozen 4
  have f7 := hb.frozen 7
  have c0 : w1.cell? ⟨b, 0, none⟩ = some outv := hb.cell 0
  have c1 : w1.cell? ⟨b, 1, none⟩ = some (.bool st.p.clash) := hb.cell 1
  have c2 : w1.cell? ⟨b, 2, none⟩ = some (.string (B st.p.o)) := hb.cell 2
  have c3 : w1.cell? ⟨b, 3, none⟩ = some (.string (B st.p.a)) := hb.cell 3
  have c4 : w1.cell? ⟨b, 4, none⟩ = some (.string (B st.p.b)) := hb.cell 4
  have c7 : w1.cell? ⟨b, 7, none⟩ = some (.int .i64 st.at_) := hb.cell 7
  rw [HAT.out] at c7
  cases m with
  | false =>
    clear hb hR
    have hr : r = none := by rw [HR0.out, ← HM.out]; rfl
    have HF := Lib.hid (show MeetPost base b r w (.returned (.bool false)) w1 from ⟨by rw [hr]; rfl, (fun st' hst => by rw [hr] at hst; cases hst), hB1⟩)
    clear hr
    go_wp2
    go_ret
    exact HF.out
  | true =>
    obtain ⟨W2, hW2⟩ : ∃ W2, W2 = (w1.setCell ⟨b, 2, none⟩ (.string (B t))).setCell ⟨b, 7, none⟩ (.int .i64 3) := ⟨_, rfl⟩
    have HF := Lib.hid (show MeetPost base b r w (.returned (.bool true)) W2 from by
      have hr : r = some ⟨st.out, { st.p with o := t }, [], 3⟩ := by rw [HR0.out, ← HM.out, ← HT.out]; rfl
      refine ⟨by rw [hr]; rfl, fun st' hst => ?_, ?_⟩
      · rw [hr] at hst
        cases hst
        rw [hW2]
        exact ⟨outv, pa, pv, (hb.put (j := 2) (by decide) (by decide) (.string (B t))).put (j := 7) (by decide) (by decide) (.int .i64 3), Kd.R_far (Kd.R_far hR (fun _ h => h) _) (fun _ h => h) _⟩
      · rw [hW2]; exact (hB1.setCell (p := ⟨b, 2, none⟩) hbase _).setCell (p := ⟨b, 7, none⟩) hbase _)
    have HW2 := Lib.hid hW2
    clear hb hR hW2
    go_wp2
    go_ret
    have h := HF.out
    rw [HW2.out] at h
    exact h

set_option maxHeartbeats 4000000 in
set_option maxRecDepth 100000 in
theorem meet23_any {base b : Nat} {st : St} {w : World} (cut : Bool) (hat : st.at_ = 2) (h : Rdr base b st w) (hB : base ≤ w.heap.size) (hl : st.now.length ≤ 1000000000) (ho : st.out.length ≤ 1000000000) :
    Calls Tryz.prog 48 #[.pointer (some ⟨b, 0, none⟩), .int .i64 3, .bool cut] w (MeetPost base b (meetL st 3 cut) w) := by
  have hlt := h.lt
  have hc7 : w.cell? ⟨b, 7, none⟩ = some (.int .i64 ((2 : Nat) : Int)) := by
    obtain ⟨o, pa, pv, h1, _⟩ := h
    have := h1.cell 7
    rw [← hat]; exact this
  have hr := meetL_at st 3 2 cut hat (by decide)
  obtain ⟨r, hrr⟩ : ∃ r, r = meetL st 3 cut := ⟨_, rfl⟩
  rw [← hrr] at hr ⊢
  clear hrr
  have HAT := Lib.hid hat
  clear hat
  have HR0 := Lib.hid hr
  clear hr
  go_enter Tryz.func48, Tryz.ntmps48
  go_wp2_with fail
  refine (take_any cut h hB hl).mono ?_
  obtain ⟨t, ht⟩ : ∃ t, t = (takeR st.now cut).1 := ⟨_, rfl⟩
  obtain ⟨m, hm⟩ : ∃ m, m = (takeR st.now cut).2 := ⟨_, rfl⟩
  rw [← ht, ← hm]
  rintro e w1 ⟨rfl, ⟨outv, pa, pv, hb, hR⟩, hB1⟩
  have HT := Lib.hid ht
  have HM := Lib.hid hm
  clear ht hm h
  have hlt1 := hb.lt
  have hbase := hb.base
  have f0 := hb.frozen 0
  have f1 := hb.frozen 1
  have f2 := hb.frozen 2
  have f3 := hb.frozen 3
  have f4 := hb.frozen 4
  have f7 := hb.frozen 7
  have c0 : w1.cell? ⟨b, 0, none⟩ = some outv := hb.cell 0
  have c1 : w1.cell? ⟨b, 1, none⟩ = some (.bool st.p.clash) := hb.cell 1
  have c2 : w1.cell? ⟨b, 2, none⟩ = some (.string (B st.p.o)) := hb.cell 2
  have c3 : w1.cell? ⟨b, 3, none⟩ = some (.string (B st.p.a)) := hb.cell 3
  have c4 : w1.cell? ⟨b, 4, none⟩ = some (.string (B st.p.b)) := hb.cell 4
  have c7 : w1.cell? ⟨b, 7, none⟩ = some (.int .i64 st.at_) := hb.cell 7
  rw [HAT.out] at c7
  cases m with
  | false =>
    clear hb hR
    have hr : r = none := by rw [HR0.out, ← HM.out]; rfl
    have HF := Lib.hid (show MeetPost base b r w (.returned (.bool false)) w1 from ⟨by rw [hr]; rfl, (fun st' hst => by rw [hr] at hst; cases hst), hB1⟩)
    clear hr
    go_wp2
    go_ret
    exact HF.out
  | true =>
    clear hb hR
    have hr : r = none := by rw [HR0.out, ← HM.out]; rfl
    have HF := Lib.hid (show MeetPost base b r w (.returned (.bool false)) w1 from ⟨by rw [hr]; rfl, (fun st' hst => by rw [hr] at hst; cases hst), hB1⟩)
    clear hr
    go_wp2
    go_ret
    exact HF.out

set_option maxHeartbeats 4000000 in
set_option maxRecDepth 100000 in
theorem meet30_any {base b : Nat} {st : St} {w : World} (cut : Bool) (hat : st.at_ = 3) (h : Rdr base b st w) (hB : base ≤ w.heap.size) (hl : st.now.length ≤ 1000000000) (ho : st.out.length ≤ 1000000000) :
    Calls Tryz.prog 48 #[.pointer (some ⟨b, 0, none⟩), .int .i64 0, .bool cut] w (MeetPost base b (meetL st 0 cut) w) := by
  have hlt := h.lt
  have hc7 : w.cell? ⟨b, 7, none⟩ = some (.int .i64 ((3 : Nat) : Int)) := by
    obtain ⟨o, pa, pv, h1, _⟩ := h
    have := h1.cell 7
    rw [← hat]; exact this
  have hr := meetL_at st 0 3 cut hat (by decide)
  obtain ⟨r, hrr⟩ : ∃ r, r = meetL st 0 cut := ⟨_, rfl⟩
  rw [← hrr] at hr ⊢
  clear hrr
  have HAT := Lib.hid hat
  clear hat
  have HR0 := Lib.hid hr
  clear hr
  go_enter Tryz.func48, Tryz.ntmps48
  go_wp2_with fail
  refine (take_any cut h hB hl).mono ?_
  obtain ⟨t, ht⟩ : ∃ t, t = (takeR st.now cut).1 := ⟨_, rfl⟩
  obtain ⟨m, hm⟩ : ∃ m, m = (takeR st.now cut).2 := ⟨_, rfl⟩
  rw [← ht, ← hm]
  rintro e w1 ⟨rfl, ⟨outv, pa, pv, hb, hR⟩, hB1⟩
  have HT := Lib.hid ht
  have HM := Lib.hid hm
  clear ht hm h
  have hlt1 := hb.lt
  have hbase := hb.base
  have f0 := hb.frozen 0
  have f1 := hb.frozen 1
  have f2 := hb.frozen 2
  have f3 := hb.frozen 3
  have f4 := hb.frozen 4
  have f7 := hb.frozen 7
  have c0 : w1.cell? ⟨b, 0, none⟩ = some outv := hb.cell 0
  have c1 : w1.cell? ⟨b, 1, none⟩ = some (.bool st.p.clash) := hb.cell 1
  have c2 : w1.cell? ⟨b, 2, none⟩ = some (.string (B st.p.o)) := hb.cell 2
  have c3 : w1.cell? ⟨b, 3, none⟩ = some (.string (B st.p.a)) := hb.cell 3
  have c4 : w1.cell? ⟨b, 4, none⟩ = some (.string (B st.p.b)) := hb.cell 4
  have c7 : w1.cell? ⟨b, 7, none⟩ = some (.int .i64 st.at_) := hb.cell 7
  rw [HAT.out] at c7
  cases m with
  | false =>
    clear hb hR
    have hr : r = none := by rw [HR0.out, ← HM.out]; rfl
    have HF := Lib.hid (show MeetPost base b r w (.returned (.bool false)) w1 from ⟨by rw [hr]; rfl, (fun st' hst => by rw [hr] at hst; cases hst), hB1⟩)
    clear hr
    go_wp2
    go_ret
    exact HF.out
  | true =>
    clear hb hR
    have hr : r = none := by rw [HR0.out, ← HM.out]; rfl
    have HF := Lib.hid (show MeetPost base b r w (.returned (.bool false)) w1 from ⟨by rw [hr]; rfl, (fun st' hst => by rw [hr] at hst; cases hst), hB1⟩)
    clear hr
    go_wp2
    go_ret
    exact HF.out

set_option maxHeartbeats 4000000 in
set_option maxRecDepth 100000 in
theorem meet31_any {base b : Nat} {st : St} {w : World} (cut : Bool) (hat : st.at_ = 3) (h : Rdr base b st w) (hB : base ≤ w.heap.size) (hl : st.now.length ≤ 1000000000) (ho : st.out.length ≤ 1000000000) :
    Calls Tryz.prog 48 #[.pointer (some ⟨b, 0, none⟩), .int .i64 1, .bool cut] w (MeetPost base b (meetL st 1 cut) w) := by
  have hlt := h.lt
  have hc7 : w.cell? ⟨b, 7, none⟩ = some (.int .i64 ((3 : Nat) : Int)) := by
    obtain ⟨o, pa, pv, h1, _⟩ := h
    have := h1.cell 7
    rw [← hat]; exact this
  have hr := meetL_at st 1 3 cut hat (by decide)
  obtain ⟨r, hrr⟩ : ∃ r, r = meetL st 1 cut := ⟨_, rfl⟩
  rw [← hrr] at hr ⊢
  clear hrr
  have HAT := Lib.hid hat
  clear hat
  have HR0 := Lib.hid hr
  clear hr
  go_enter Tryz.func48, Tryz.ntmps48
  go_wp2_with fail
  refine (take_any cut h hB hl).mono ?_
  obtain ⟨t, ht⟩ : ∃ t, t = (takeR st.now cut).1 := ⟨_, rfl⟩
  obtain ⟨m, hm⟩ : ∃ m, m = (takeR st.now cut).2 := ⟨_, rfl⟩
  rw [← ht, ← hm]
  rintro e w1 ⟨rfl, ⟨outv, pa, pv, hb, hR⟩, hB1⟩
  have HT := Lib.hid ht
  have HM := Lib.hid hm
  clear ht hm h
  have hlt1 := hb.lt
  have hbase := hb.base
  have f0 := hb.frozen 0
  have f1 := hb.frozen 1
  have f2 := hb.frozen 2
  have f3 := hb.frozen 3
  have f4 := hb.frozen 4
  have f7 := hb.frozen 7
  have c0 : w1.cell? ⟨b, 0, none⟩ = some outv := hb.cell 0
  have c1 : w1.cell? ⟨b, 1, none⟩ = some (.bool st.p.clash) := hb.cell 1
  have c2 : w1.cell? ⟨b, 2, none⟩ = some (.string (B st.p.o)) := hb.cell 2
  have c3 : w1.cell? ⟨b, 3, none⟩ = some (.string (B st.p.a)) := hb.cell 3
  have c4 : w1.cell? ⟨b, 4, none⟩ = some (.string (B st.p.b)) := hb.cell 4
  have c7 : w1.cell? ⟨b, 7, none⟩ = some (.int .i64 st.at_) := hb.cell 7
  rw [HAT.out] at c7
  cases m with
  | false =>
    clear hb hR
    have hr : r = none := by rw [HR0.out, ← HM.out]; rfl
    have HF := Lib.hid (show MeetPost base b r w (.returned (.bool false)) w1 from ⟨by rw [hr]; rfl, (fun st' hst => by rw [hr] at hst; cases hst), hB1⟩)
    clear hr
    go_wp2
    go_ret
    exact HF.out
  | true =>
    clear hb hR
    have hr : r = none := by rw [HR0.out, ← HM.out]; rfl
    have HF := Lib.hid (show MeetPost base b r w (.returned (.bool false)) w1 from ⟨by rw [hr]; rfl, (fun st' hst => by rw [hr] at hst; cases hst), hB1⟩)
    clear hr
    go_wp2
    go_ret
    exact HF.out

set_option maxHeartbeats 4000000 in
set_option maxRecDepth 100000 in
theorem meet32_any {base b : Nat} {st : St} {w : World} (cut : Bool) (hat : st.at_ = 3) (h : Rdr base b st w) (hB : base ≤ w.heap.size) (hl : st.now.length ≤ 1000000000) (ho : st.out.length ≤ 1000000000) :
    Calls Tryz.prog 48 #[.pointer (some ⟨b, 0, none⟩), .int .i64 2, .bool cut] w (MeetPost base b (meetL st 2 cut) w) := by
  have hlt := h.lt
  have hc7 : w.cell? ⟨b, 7, none⟩ = some (.int .i64 ((3 : Nat) : Int)) := by
    obtain ⟨o, pa, pv, h1, _⟩ := h
    have := h1.cell 7
    rw [← hat]; exact this
  have hr := meetL_at st 2 3 cut hat (by decide)
  obtain ⟨r, hrr⟩ : ∃ r, r = meetL st 2 cut := ⟨_, rfl⟩
  rw [← hrr] at hr ⊢
  clear hrr
  have HAT := Lib.hid hat
  clear hat
  have HR0 := Lib.hid hr
  clear hr
  go_enter Tryz.func48, Tryz.ntmps48
  go_wp2_with fail
  refine (take_any cut h hB hl).mono ?_
  obtain ⟨t, ht⟩ : ∃ t, t = (takeR st.now cut).1 := ⟨_, rfl⟩
  obtain ⟨m, hm⟩ : ∃ m, m = (takeR st.now cut).2 := ⟨_, rfl⟩
  rw [← ht, ← hm]
  rintro e w1 ⟨rfl, ⟨outv, pa, pv, hb, hR⟩, hB1⟩
  have HT := Lib.hid ht
  have HM := Lib.hid hm
  clear ht hm h
  have hlt1 := hb.lt
  have hbase := hb.base
  have f0 := hb.frozen 0
  have f1 := hb.frozen 1
  have f2 := hb.frozen 2
  have f3 := hb.frozen 3
  have f4 := hb.frozen 4
  have f7 := hb.frozen 7
  have c0 : w1.cell? ⟨b, 0, none⟩ = some outv := hb.cell 0
  have c1 : w1.cell? ⟨b, 1, none⟩ = some (.bool st.p.clash) := hb.cell 1
  have c2 : w1.cell? ⟨b, 2, none⟩ = some (.string (B st.p.o)) := hb.cell 2
  have c3 : w1.cell? ⟨b, 3, none⟩ = some (.string (B st.p.a)) := hb.cell 3
  have c4 : w1.cell? ⟨b, 4, none⟩ = some (.string (B st.p.b)) := hb.cell 4
  have c7 : w1.cell? ⟨b, 7, none⟩ = some (.int .i64 st.at_) := hb.cell 7
  rw [HAT.out] at c7
  cases m with
  | false =>
    clear hb hR
    have hr : r = none := by rw [HR0.out, ← HM.out]; rfl
    have HF := Lib.hid (show MeetPost base b r w (.returned (.bool false)) w1 from ⟨by rw [hr]; rfl, (fun st' hst => by rw [hr] at hst; cases hst), hB1⟩)
    clear hr
    go_wp2
    go_ret
    exact HF.out
  | true =>
    clear hb hR
    have hr : r = none := by rw [HR0.out, ← HM.out]; rfl
    have HF := Lib.hid (show MeetPost base b r w (.returned (.bool false)) w1 from ⟨by rw [hr]; rfl, (fun st' hst => by rw [hr] at hst; cases hst), hB1⟩)
    clear hr
    go_wp2
    go_ret
    exact HF.out

end Go.Proofs.YtogfkfkejaiecaaGreatDoor.Mt

namespace Go.Proofs.YtogfkfkejaiecaaGreatDoor.Mu
open Go.RowKit Go.Shelf Pl Ut Ln Bl Mk Ml Mm Mr Mt Go.Proofs.YtogfkfkejaiecaaGreatDoorW.PrintWords
set_option linter.unusedVariables false
set_option linter.unusedSimpArgs false
attribute [local go_sem] B_append B_extract B_toList B_size take_end addr_off

section
variable {ops : Array Oper} {o : Oper} {a : Act} {Q : Exit → Act → World → Prop} {Kc : Act → World → Prop}
/-- The append of a part to the reader's own row, and what the two stores behind it leave. -/
theorem app_step {base b : Nat} {out : List Part} {now : Str} {w W2 : World} {outv pa pv : Value} {q p : Part} {at_ : Nat}
    (HB2 : Bld 83 base b 5 (rCells outv q pa pv at_) now W2) (HR2 : kPart.R 55 W2 base (fun k => k ≠ b) outv out) (HBel : Bel base b w W2) (hbase : base ≤ w.heap.size) (hlo : out.length ≤ 1000000000)
    (hw : Region.wanted o (yielded ops a.tmps) = true) (s x : Operand)
    (ho : o.op = .call { callee := .builtin .append, args := #[s, x], argTypes := #[41, 41] })
    (hs : a.eval s = outv) (hx : a.eval x = .slice (some ⟨W2.drew.heap.size, 0, none⟩) 1 1)
    (h : ∀ A1 c1 n w3, w3.cell? ⟨b, 0, none⟩ = some outv → w3.frozen? ⟨b, 0, none⟩ = false → w3.cell? ⟨b, 7, none⟩ = some (.int .i64 at_) → w3.frozen? ⟨b, 7, none⟩ = false →
      Hid (Rdr base b ⟨out ++ [p], q, now, 0⟩ ((w3.setCell ⟨b, 0, none⟩ (.slice A1 n c1)).setCell ⟨b, 7, none⟩ (.int .i64 0))) →
      Hid (Bel base b w ((w3.setCell ⟨b, 0, none⟩ (.slice A1 n c1)).setCell ⟨b, 7, none⟩ (.int .i64 0))) → Kc (a.put o.dst (.slice A1 n c1)) w3) :
    if Region.wanted o (yielded ops a.tmps) = true then Oper.wp Tryz.prog o a (W2.drew.alloc (.cells #[.bool p.clash, .string (B p.o), .string (B p.a), .string (B p.b)] 55)) Kc Q else Kc (a.put o.dst undef) (W2.drew.alloc (.cells #[.bool p.clash, .string (B p.o), .string (B p.a), .string (B p.b)] 55)) := by
  have hsz := HBel.size
  have hlt := HB2.lt
  have hd : W2.drew.heap.size = W2.heap.size := rfl
  have hb0 := HB2.base
  refine Kd.R_append_step (W := W2.drew) (w0 := W2) kPart base hw s x 41 55 _ 56 ho Tryz.underlying41 infoPart rfl (by decide) (by decide) outv out p _ (fun k => k ≠ b) (fun _ => False) hs hx (kPart_mk _ _ _ _) (fun _ h => h.elim) (fun k hk => by omega) (Kd.R_drew HR2) (Below.refl base W2).drew (by omega) (by omega) ?_
  intro v1 w3 hR3 hb3 hg3 _
  obtain ⟨A1, c1, rfl⟩ := Kd.R_slice hR3
  have hbl := Bld.grown (Bld.drew HB2) hg3 (fun g hg => row_other HR2 g hg)
  refine h A1 c1 _ w3 (hbl.cell 0) (hbl.frozen 0) (hbl.cell 7) (hbl.frozen 7) (Lib.hid ⟨_, pa, pv, (hbl.put (j := 0) (by decide) (by decide) _).put (j := 7) (by decide) (by decide) (.int .i64 0), Kd.R_far (Kd.R_far hR3 (fun _ h => h) _) (fun _ h => h) _⟩) (Lib.hid (((HBel.trans ⟨hb3, (TK.of_below (Below.refl _ _).drew).trans (TK.of_grown hg3 (fun g hg => row_part (Kd.R_drew HR2) g hg))⟩).setCell (p := ⟨b, 0, none⟩) hb0 _).setCell (p := ⟨b, 7, none⟩) hb0 _))
end

set_option maxHeartbeats 4000000 in
set_option maxRecDepth 100000 in
theorem meet33_any {base b : Nat} {st : St} {w : World} (cut : Bool) (hat : st.at_ = 3) (h : Rdr base b st w) (hB : base ≤ w.heap.size) (hl : st.now.length ≤ 1000000000) (ho : st.out.length ≤ 1000000000) :
    Calls Tryz.prog 48 #[.pointer (some ⟨b, 0, none⟩), .int .i64 3, .bool cut] w (MeetPost base b (meetL st 3 cut) w) := by
  have hlt := h.lt
  have hc7 : w.cell? ⟨b, 7, none⟩ = some (.int .i64 ((3 : Nat) : Int)) := by
    obtain ⟨o, pa, pv, h1, _⟩ := h
    have := h1.cell 7
    rw [← hat]; exact this
  have hr := meetL_at st 3 3 cut hat (by decide)
  obtain ⟨r, hrr⟩ : ∃ r, r = meetL st 3 cut := ⟨_, rfl⟩
  rw [← hrr] at hr ⊢
  clear hrr
  have HAT := Lib.hid hat
  clear hat
  have HR0 := Lib.hid hr
  clear hr
  go_enter Tryz.func48, Tryz.ntmps48
  go_wp2_with fail
  refine (take_any cut h hB hl).mono ?_
  obtain ⟨t, ht⟩ : ∃ t, t = (takeR st.now cut).1 := ⟨_, rfl⟩
  obtain ⟨m, hm⟩ : ∃ m, m = (takeR st.now cut).2 := ⟨_, rfl⟩
  rw [← ht, ← hm]
  rintro e w1 ⟨rfl, ⟨outv, pa, pv, hb, hR⟩, hB1⟩
  have HT := Lib.hid ht
  have HM := Lib.hid hm
  clear ht hm h
  have hlt1 := hb.lt
  have hbase := hb.base
  have f0 := hb.frozen 0
  have f1 := hb.frozen 1
  have f2 := hb.frozen 2
  have f3 := hb.frozen 3
  have f4 := hb.frozen 4
  have f7 := hb.frozen 7
  have c0 : w1.cell? ⟨b, 0, none⟩ = some outv := hb.cell 0
  have c1 : w1.cell? ⟨b, 1, none⟩ = some (.bool st.p.clash) := hb.cell 1
  have c2 : w1.cell? ⟨b, 2, none⟩ = some (.string (B st.p.o)) := hb.cell 2
  have c3 : w1.cell? ⟨b, 3, none⟩ = some (.string (B st.p.a)) := hb.cell 3
  have c4 : w1.cell? ⟨b, 4, none⟩ = some (.string (B st.p.b)) := hb.cell 4
  have c7 : w1.cell? ⟨b, 7, none⟩ = some (.int .i64 st.at_) := hb.cell 7
  rw [HAT.out] at c7
  cases m with
  | false =>
    clear hb hR
    have hr : r = none := by rw [HR0.out, ← HM.out]; rfl
    have HF := Lib.hid (show MeetPost base b r w (.returned (.bool false)) w1 from ⟨by rw [hr]; rfl, (fun st' hst => by rw [hr] at hst; cases hst), hB1⟩)
    clear hr
    go_wp2
    go_ret
    exact HF.out
  | true =>
    go_wp2_with fail
    obtain ⟨W2, hW2⟩ : ∃ W2, W2 = w1.setCell ⟨b, 4, none⟩ (.string (B t)) := ⟨_, rfl⟩
    rw [← hW2]
    have hb2 : Bld 83 base b 5 (rCells outv { st.p with b := t } pa pv st.at_) [] W2 := by rw [hW2]; exact hb.put (j := 4) (by decide) (by decide) (.string (B t))
    have hR2 : kPart.R 55 W2 base (fun k => k ≠ b) outv st.out := by rw [hW2]; exact Kd.R_far hR (fun _ h => h) _
    have hB2 : Bel base b w W2 := by rw [hW2]; exact hB1.setCell (p := ⟨b, 4, none⟩) hbase _
    clear hb hR hB1 f0 f1 f2 f3 f4 f7 c0 c1 c2 c3 c4 c7 hW2
    have hlt2 := hb2.lt
    have hsz2 := hB2.size
    have c0 : W2.cell? ⟨b, 0, none⟩ = some outv := hb2.cell 0
    have c1 : W2.cell? ⟨b, 1, none⟩ = some (.bool st.p.clash) := hb2.cell 1
    have c2 : W2.cell? ⟨b, 2, none⟩ = some (.string (B st.p.o)) := hb2.cell 2
    have c3 : W2.cell? ⟨b, 3, none⟩ = some (.string (B st.p.a)) := hb2.cell 3
    have c4 : W2.cell? ⟨b, 4, none⟩ = some (.string (B t)) := hb2.cell 4
    have c7 : W2.cell? ⟨b, 7, none⟩ = some (.int .i64 st.at_) := hb2.cell 7
    rw [HAT.out] at c7
    have HB2 := Lib.hid hb2
    have HR2 := Lib.hid hR2
    have HBel := Lib.hid hB2
    have HRV := Lib.hid (show r = some ⟨st.out ++ [⟨st.p.clash, st.p.o, st.p.a, t⟩], ⟨st.p.clash, st.p.o, st.p.a, t⟩, [], 0⟩ from by rw [HR0.out, ← HM.out, ← HT.out]; rfl)
    clear hb2 hR2 hB2
    go_region_law ((refine app_step (p := ⟨st.p.clash, st.p.o, st.p.a, t⟩) HB2.out HR2.out HBel.out hB ho (by rfl) (.tmp 56) (.tmp 61) rfl (by rfl) (by rfl) ?_; intro A1 c1 n w3 d0 g0 d7 g7 HRd HBd))
    all_goals go_wp2
    all_goals go_ret
    all_goals exact ⟨by rw [HRV.out]; rfl, fun st' hst => by rw [HRV.out] at hst; cases hst; exact HRd.out, HBd.out⟩

/-- What a mark does, wherever the reader stands. -/
theorem meet_any {base b : Nat} {st : St} {w : World} (k : Nat) (cut : Bool) (hk : k ≤ 3) (hat : st.at_ ≤ 3) (h : Rdr base b st w) (hB : base ≤ w.heap.size) (hl : st.now.length ≤ 1000000000) (ho : st.out.length ≤ 1000000000) :
    Calls Tryz.prog 48 #[.pointer (some ⟨b, 0, none⟩), .int .i64 k, .bool cut] w (MeetPost base b (meetL st k cut) w) := by
  have h4 : st.at_ = 0 ∨ st.at_ = 1 ∨ st.at_ = 2 ∨ st.at_ = 3 := by omega
  have hk4 : k = 0 ∨ k = 1 ∨ k = 2 ∨ k = 3 := by omega
  rcases h4 with h4 | h4 | h4 | h4
  · exact meet0_any k cut h4 h hB hl ho
  · rcases hk4 with rfl | rfl | rfl | rfl
    · exact meet10_any cut h4 h hB hl ho
    · exact meet11_any cut h4 h hB hl ho
    · exact meet12_any cut h4 h hB hl ho
    · exact meet13_any cut h4 h hB hl ho
  · rcases hk4 with rfl | rfl | rfl | rfl
    · exact meet20_any cut h4 h hB hl ho
    · exact meet21_any cut h4 h hB hl ho
    · exact meet22_any cut h4 h hB hl ho
    · exact meet23_any cut h4 h hB hl ho
  · rcases hk4 with rfl | rfl | rfl | rfl
    · exact meet30_any cut h4 h hB hl ho
    · exact meet31_any cut h4 h hB hl ho
    · exact meet32_any cut h4 h hB hl ho
    · exact meet33_any cut h4 h hB hl ho

end Go.Proofs.YtogfkfkejaiecaaGreatDoor.Mu

namespace Go.Proofs.YtogfkfkejaiecaaGreatDoor.Mp
open Go.RowKit Go.Shelf Pl Ut Ln Bl Mk Ml Mm Mr Mt Mu Go.Proofs.YtogfkfkejaiecaaGreatDoorW.PrintWords
set_option linter.unusedVariables false
set_option linter.unusedSimpArgs false
attribute [local go_sem] B_append B_extract B_toList B_size take_end addr_off

theorem foldL_append (n : Nat) : ∀ (xs ys : List Str) (s : St), foldL n s (xs ++ ys) = (foldL n s xs).bind fun s' => foldL n s' ys
  | [], ys, s => by simp [foldL]
  | x :: xs, ys, s => by
    simp only [foldL, List.cons_append]
    cases h : stepL n s x with
    | none => rfl
    | some s' => simp only [Option.bind_some]; exact foldL_append n xs ys s'
theorem foldL_snoc (n : Nat) (xs : List Str) (k : Nat) (x : Str) (hx : xs[k]? = some x) (s : St) : foldL n s (xs.take (k + 1)) = (foldL n s (xs.take k)).bind fun s' => stepL n s' x := by
  rw [List.take_add_one, hx, Option.toList_some, foldL_append]
  congr 1
  funext s'
  simp only [foldL]
  cases stepL n s' x <;> rfl
theorem foldL_dead (n : Nat) (xs : List Str) (k : Nat) (s : St) (h : foldL n s (xs.take k) = none) : foldL n s xs = none := by
  rw [← List.take_append_drop k xs, foldL_append, h]
  rfl
theorem outerL_len (out : List Part) (now : Str) : (outerL out now).length ≤ out.length + 1 := by
  unfold outerL; split <;> simp
theorem meetL_bound {s s' : St} {k : Nat} {cut : Bool} (h : meetL s k cut = some s') (ha : s.at_ ≤ 3) : s'.at_ ≤ 3 ∧ s'.now = [] ∧ s'.out.length ≤ s.out.length + 1 := by
  unfold meetL at h
  split at h
  · split at h
    · cases h; exact ⟨by simp, rfl, outerL_len _ _⟩
    · cases h
  · split at h
    · cases h
    · split at h
      · cases h; exact ⟨by simp, rfl, by simp⟩
      · split at h
        · cases h; exact ⟨by simp, rfl, by simp⟩
        · split at h
          · cases h; exact ⟨by simp, rfl, by simp⟩
          · split at h
            · cases h; exact ⟨by simp, rfl, by simp⟩
            · cases h
/-- How far a state has grown. -/
def Grown (st : St) (k m : Nat) : Prop := st.at_ ≤ 3 ∧ st.now.length ≤ m ∧ st.out.length ≤ k
theorem stepL_grown {n : Nat} {s s' : St} {x : Str} {k m : Nat} (h : stepL n s x = some s') (hg : Grown s k m) : Grown s' (k + 1) (m + x.length) := by
  obtain ⟨h1, h2, h3⟩ := hg
  unfold stepL at h
  split at h
  · cases h; exact ⟨h1, by simp; omega, by simp; omega⟩
  · obtain ⟨a, b, c⟩ := meetL_bound h h1
    exact ⟨a, by rw [b]; simp, by omega⟩
theorem markL_lt {line : Str} {n q : Nat} {cut : Bool} (h : markL line n = some (q, cut)) : q ≤ 3 := by
  unfold markL at h
  repeat' (split at h)
  all_goals first | cases h; omega | cases h

/-- What Parse hands back. -/
def ParsePost (base : Nat) (r : Option (List Part)) (w : World) (e : Ending) (w' : World) : Prop :=
  (match r with
  | some l => ∃ v, e = .returned (.tuple #[v, .int .i64 0]) ∧ kPart.R 55 w' base (fun _ => True) v l
  | none => e = .returned (.tuple #[.slice none 0 0, .int .i64 90])) ∧ Below base w w'

set_option maxHeartbeats 4000000 in
set_option maxRecDepth 100000 in
theorem parse_any (text : Str) (n m : Nat) (h1 : 1 ≤ n) (hm : m = min n (text.length + 1)) (hn : n ≤ 9223372036854775807) (ht : text.length ≤ 100000000) (w : World) (hS : Signs w) :
    Calls Tryz.prog 28 #[.string (B text), .int .i64 n] w (ParsePost w.heap.size (parseL text m) w) := by
  have HM := Lib.hid hm
  have HS := Lib.hid hS
  have hm9 : m ≤ 100000001 := by omega
  have hn1 : decide ((n : Int) < 1) = false := by rw [decide_eq_false_iff_not]; omega
  have hmi : min (n : Int) ((text.length : Int) + 1) = (m : Int) := by omega
  clear hm hS
  go_enter Tryz.func28, Tryz.ntmps28
  go_wp2_with fail
  refine (split_any text (by omega) _).mono ?_
  rintro e w1 ⟨v, rfl, hv, hb1⟩
  obtain ⟨W0, hW0⟩ : ∃ W0, W0 = w.alloc (.cells (rCells (.slice none 0 0) ⟨false, [], [], []⟩ (.pointer none) (.slice none 0 0) 0) 83) := ⟨_, rfl⟩
  have hsz0 : W0.heap.size = w.heap.size + 1 := by rw [hW0]; exact World.size_alloc ..
  have hB0 : Below w.heap.size w W0 := by rw [hW0]; exact (Below.refl _ _).alloc (Nat.le_refl _) _
  have hR0 : Rdr w.heap.size w.heap.size st0 W0 := by
    rw [hW0]
    refine ⟨_, _, _, ⟨Nat.le_refl _, by decide, heap_alloc_new w _, .inl rfl, _, rfl, World.ownsRowF_nil _ _ _ _⟩, Kd.R_nil _ _ _ _ _⟩
  replace hb1 : Below W0.heap.size W0 w1 := by rw [hW0]; exact hb1
  replace hv : kStr.R 9 w1 W0.heap.size (fun _ => True) v (splitL text) := by rw [hW0]; exact hv
  have hR1 := hR0.below hb1
  have hv1 : kStr.R 9 w1 W0.heap.size (fun k => k ≠ w.heap.size) v (splitL text) := Kd.R_mono (Kd.R_bound hv) (fun k hk => by have := hk.2.1; omega)
  have hB1 := hB0.trans (hb1.mono hB0.size)
  have hsz1 := hB1.size
  clear hv hb1 hR0
  obtain ⟨A, c, rfl, hc, _⟩ := Kd.R_reads hv1
  have HV := Lib.hid hv1
  have HR := Lib.hid hR1
  clear hv1 hR1 hB0 hW0
  have hLc := splitL_count text
  go_wp2
  go_loopw [23] (fun i wr => ∃ (k : Nat) (st : St), k ≤ (splitL text).length ∧ i = .int .i64 k ∧ Hid (foldL m st0 ((splitL text).take k) = some st) ∧ Hid (Grown st k ((splitL text).take k).flatten.length) ∧ Hid (Rdr w.heap.size w.heap.size st wr) ∧ Hid (kStr.R 9 wr W0.heap.size (fun k => k ≠ w.heap.size) (.slice A (splitL text).length c) (splitL text)) ∧ Below w.heap.size w wr) (fun i _ => (splitL text).length - (intOf i).toNat)
  case atStart => exact ⟨0, st0, Nat.zero_le _, rfl, rfl, Lib.hid ⟨by decide, by simp [st0], by simp [st0]⟩, HR, HV, hB1⟩
  case round =>
    obtain ⟨k, st, hk, rfl, HF, HG, HRr, HVr, hB⟩ := hrel
    have hsz := hB.size
    obtain ⟨wo, rfl⟩ : ∃ wo : World, wo = wr := ⟨_, rfl⟩
    have hout : st.out.length ≤ 1000000000 := by have := HG.out.2.2; omega
    have hnow : st.now.length ≤ 1000000000 := by
      have h2 := HG.out.2.1
      have h3 := congrArg List.length (splitL_flatten text)
      rw [← List.take_append_drop k (splitL text), List.flatten_append, List.length_append] at h3
      omega
    by_cases hlt : k < (splitL text).length
    · obtain ⟨x, hxk⟩ : ∃ x, (splitL text)[k]? = some x := ⟨(splitL text)[k], List.getElem?_eq_getElem hlt⟩
      have hxl := splitL_len text x (List.mem_of_getElem? hxk)
      obtain ⟨ad, rfl, p0⟩ := at_str (Kd.R_reads' HVr.out).2.2 k hlt x hxk
      have HX := Lib.hid hxk
      obtain ⟨mk, hmk⟩ : ∃ mk, mk = markL x m := ⟨_, rfl⟩
      have HMK := Lib.hid hmk
      clear hmk hxk
      go_wp2_with fail
      refine (mark_any x m _ (HS.out.below hB) (by omega) (by omega)).mono ?_
      rw [← HMK.out]
      rintro e w2 ⟨rfl, hb2⟩
      have hR2 := HRr.out.below hb2
      have hV2 := Kd.R_below HVr.out hb2
      have hB2 := hB.trans (hb2.mono hsz)
      have hsz2 := hB2.size
      have HV2 := Lib.hid hV2
      have HR2 := Lib.hid hR2
      have hltb := hR2.lt
      have hat := HG.out.1
      clear hb2 hV2 hR2 HRr HVr
      have HSN := Lib.hid (foldL_snoc m (splitL text) k x HX.out st0)
      cases mk with
      | none =>
        have HST := Lib.hid (show stepL m st x = some { st with now := st.now ++ x } from by unfold stepL; rw [← HMK.out])
        obtain ⟨outv, pa, pv, hb, hR⟩ := HR2.out
        have e1 : (markR none).1 = -1 := rfl
        have e2 : (markR none).2 = false := rfl
        rw [e1, e2]
        go_wp2_with fail
        refine (writeString_any x hb lies_reader (by omega) (by omega)).mono ?_
        rintro e w3 ⟨rfl, ⟨v3, hb3⟩, hB3, hO3⟩
        have hR3 := Lib.hid (R_others hR hO3 (fun _ h => h) (by decide))
        have HB3 := Lib.hid hb3
        have HV3 := Lib.hid (R_tk HV2.out (TK.of_others hO3) (fun _ h => h) (by decide))
        have hB4 := hB2.trans hB3
        clear hb3 hb hR hO3
        go_wp2
        go_roundw
        case rel =>
          refine ⟨k + 1, { st with now := st.now ++ x }, by omega, by go_num, Lib.hid ?_, Lib.hid ?_, Lib.hid ⟨_, _, _, HB3.out, hR3.out⟩, HV3, hB4⟩
          · rw [HSN.out, HF.out]; exact HST.out
          · have := stepL_grown HST.out HG.out
            rw [List.take_add_one, HX.out, Option.toList_some, List.flatten_append, List.length_append]
            simpa using this
        case measure => simp [intOf]; omega
      | some qc =>
        obtain ⟨q, cut⟩ := qc
        have hq := markL_lt HMK.out.symm
        have HST := Lib.hid (show stepL m st x = meetL st q cut from by unfold stepL; rw [← HMK.out])
        have e1 : (markR (some (q, cut))).1 = (q : Int) := rfl
        have e2 : (markR (some (q, cut))).2 = cut := rfl
        have hq0 : decide ((q : Int) < 0) = false := by rw [decide_eq_false_iff_not]; omega
        rw [e1, e2]
        go_wp2_with fail
        refine (meet_any q cut hq hat HR2.out (by omega) hnow hout).mono ?_
        obtain ⟨r, hr⟩ : ∃ r, r = meetL st q cut := ⟨_, rfl⟩
        rw [← hr] at HST ⊢
        rintro e w3 ⟨rfl, hR3, hB3⟩
        have HV3 := Lib.hid (R_tk HV2.out hB3.tk (fun _ h => h) (by decide))
        have hB4 := hB2.trans hB3.bel
        cases r with
        | none =>
          have HN := Lib.hid (show parseL text m = none from by
            unfold parseL
            rw [foldL_dead m _ (k + 1) st0 (by rw [HSN.out, HF.out]; exact HST.out)]
            rfl)
          clear hR3 hr hB3
          go_wp2
          go_ret2
          rw [HN.out]
          exact ⟨rfl, hB4⟩
        | some st' =>
          have HR3 := Lib.hid (hR3 st' rfl)
          clear hR3 hr hB3
          go_wp2
          go_roundw
          case rel =>
            refine ⟨k + 1, st', by omega, by go_num, Lib.hid ?_, Lib.hid ?_, HR3, HV3, hB4⟩
            · rw [HSN.out, HF.out]; exact HST.out
            · have := stepL_grown HST.out HG.out
              rw [List.take_add_one, HX.out, Option.toList_some, List.flatten_append, List.length_append]
              simpa using this
          case measure => simp [intOf]; omega
    · obtain rfl : k = (splitL text).length := by omega
      have HF1 := Lib.hid (show foldL m st0 (splitL text) = some st from by have := HF.out; rwa [List.take_length] at this)
      have hc7 : wo.cell? ⟨w.heap.size, 7, none⟩ = some (.int .i64 st.at_) := by
        obtain ⟨_, _, _, hb, _⟩ := HRr.out
        exact hb.cell 7
      clear HF
      by_cases hat0 : st.at_ = 0
      · have hat1 : ((st.at_ : Int) != 0) = false := by rw [hat0]; rfl
        have HPA := Lib.hid (show parseL text m = some (outerL st.out st.now) from by unfold parseL; rw [HF1.out, Option.bind_some, if_pos hat0])
        clear hat0
        go_wp2_with fail
        refine (outer_any HRr.out (by omega) hnow hout).mono ?_
        rintro e w2 ⟨rfl, ⟨outv, pa, pv, hb, hR⟩, hB2⟩
        have hc0 : w2.cell? ⟨w.heap.size, 0, none⟩ = some outv := hb.cell 0
        have HR4 := Lib.hid hR
        have hB4 := hB.trans hB2.bel
        clear hb hR hB2
        go_wp2
        go_ret2
        rw [HPA.out]
        exact ⟨⟨_, rfl, Kd.R_mono HR4.out (fun _ _ => trivial)⟩, hB4⟩
      · have hat1 : ((st.at_ : Int) != 0) = true := by rw [bne_iff_ne]; omega
        have HPA := Lib.hid (show parseL text m = none from by unfold parseL; rw [HF1.out, Option.bind_some, if_neg hat0])
        clear hat0
        go_wp2
        go_ret2
        rw [HPA.out]
        exact ⟨rfl, hB⟩

end Go.Proofs.YtogfkfkejaiecaaGreatDoor.Mp

namespace Go.Proofs.YtogfkfkejaiecaaGreatDoor.Du
open Go.RowKit Go.Shelf Pl Ut Ln Bl Mk Ml Ms Mp Da Db Dc Dm Dn Do Dp Dq Dr Ds Go.Proofs.YtogfkfkejaiecaaGreatDoorW.PrintWords
set_option linter.unusedVariables false
set_option linter.unusedSimpArgs false
attribute [local go_sem] B_append B_extract B_toList B_size take_end

theorem foldL_grown {n : Nat} : ∀ (ls : List Str) (s s' : St) (k m : Nat), foldL n s ls = some s' → Grown s k m → Grown s' (k + ls.length) (m + ls.flatten.length)
  | [], s, s', k, m, h, hg => by simp [foldL] at h; subst h; simpa using hg
  | x :: xs, s, s', k, m, h, hg => by
    simp only [foldL] at h
    cases h1 : stepL n s x with
    | none => rw [h1] at h; cases h
    | some s1 =>
      rw [h1, Option.bind_some] at h
      have := foldL_grown xs s1 s' _ _ h (stepL_grown h1 hg)
      simp only [List.length_cons, List.flatten_cons, List.length_append]
      rw [show k + (xs.length + 1) = k + 1 + xs.length by omega, show m + (x.length + xs.flatten.length) = m + x.length + xs.flatten.length by omega]
      exact this
theorem parseL_len {text : Str} {n : Nat} {l : List Part} (h : parseL text n = some l) : l.length ≤ text.length + 1 := by
  unfold parseL at h
  cases h1 : foldL n st0 (splitL text) with
  | none => rw [h1] at h; cases h
  | some s =>
    rw [h1, Option.bind_some] at h
    split at h
    · cases h
      have h2 := foldL_grown _ _ _ 0 0 h1 ⟨by decide, by simp [st0], by simp [st0]⟩
      have h3 := outerL_len s.out s.now
      have h4 := splitL_count text
      have := h2.2.2
      omega
    · cases h

def SizeS (s : St) (m : Nat) : Prop := sizeL s.out + (if s.at_ = 0 then 0 else sizeP s.p) + 3 * s.now.length ≤ m
theorem takeL_le {now t : Str} {cut : Bool} (h : takeL now cut = some t) : t.length ≤ now.length := by
  unfold takeL at h
  split at h
  · split at h
    · cases h; simp
    · cases h
  · cases h; exact Nat.le_refl _
theorem sizeL_outer (out : List Part) (now : Str) : sizeL (outerL out now) ≤ sizeL out + 3 * now.length := by
  unfold outerL
  split
  · omega
  · rw [sizeL_append, sizeL_one]; simp only [sizeP]; omega
theorem meetL_size {s s' : St} {k m : Nat} {cut : Bool} (h : meetL s k cut = some s') (hs : SizeS s m) : SizeS s' m := by
  unfold meetL at h
  unfold SizeS at hs ⊢
  split at h
  · rename_i h0
    rw [if_pos h0] at hs
    split at h
    · cases h
      have := sizeL_outer s.out s.now
      have e : sizeP ⟨true, [], [], []⟩ = 0 := rfl
      have e2 : ([] : Str).length = 0 := rfl
      simp only [Nat.one_ne_zero, if_false, e, e2]
      omega
    · cases h
  · rename_i h0
    rw [if_neg h0] at hs
    split at h
    · cases h
    · rename_i t ht
      have htl := takeL_le ht
      have e2 : ([] : Str).length = 0 := rfl
      unfold sizeP at hs
      split at h
      · cases h
        simp only [e2, if_true, sizeL_append, sizeL_one, sizeP]; omega
      · split at h
        · cases h; simp only [e2, sizeP]; split <;> omega
        · split at h
          · cases h; simp only [e2, sizeP]; split <;> omega
          · split at h
            · cases h; simp only [e2, sizeP]; split <;> omega
            · cases h
theorem foldL_size {n : Nat} : ∀ (ls : List Str) (s s' : St) (m : Nat), foldL n s ls = some s' → SizeS s m → SizeS s' (m + 3 * ls.flatten.length)
  | [], s, s', m, h, hs => by simp [foldL] at h; subst h; simpa using hs
  | x :: xs, s, s', m, h, hs => by
    simp only [foldL] at h
    cases h1 : stepL n s x with
    | none => rw [h1] at h; cases h
    | some s1 =>
      rw [h1, Option.bind_some] at h
      have h2 : SizeS s1 (m + 3 * x.length) := by
        unfold stepL at h1
        split at h1
        · cases h1
          unfold SizeS at hs ⊢
          simp only [List.length_append]
          omega
        · have := meetL_size h1 hs
          unfold SizeS at this ⊢
          omega
      have := foldL_size xs s1 s' _ h h2
      simp only [List.flatten_cons, List.length_append]
      rw [show m + 3 * (x.length + xs.flatten.length) = m + 3 * x.length + 3 * xs.flatten.length by omega]
      exact this
theorem parseL_size {text : Str} {n : Nat} {l : List Part} (h : parseL text n = some l) : sizeL l ≤ 3 * text.length := by
  unfold parseL at h
  cases h1 : foldL n st0 (splitL text) with
  | none => rw [h1] at h; cases h
  | some s =>
    rw [h1, Option.bind_some] at h
    split at h
    · rename_i h0
      cases h
      have h2 := foldL_size _ _ _ 0 h1 (by unfold SizeS st0; simp [sizeL])
      have h3 := sizeL_outer s.out s.now
      unfold SizeS at h2
      rw [if_pos h0, splitL_flatten] at h2
      omega
    · cases h
theorem sideL_size (i : Nat) : ∀ ps : List Part, (sideL i ps).length ≤ sizeL ps
  | [] => by simp [sideL]
  | p :: r => by
    have ih := sideL_size i r
    have e : sideL i (p :: r) = pickL i p ++ sideL i r := rfl
    have e2 : sizeL (p :: r) = sizeP p + sizeL r := rfl
    have h : (pickL i p).length ≤ sizeP p := by
      unfold pickL sizeP
      split
      · omega
      · split <;> omega
    rw [e, e2, List.length_append]
    omega

theorem file_any (o a b : Str) (ho ha hb old : Bool) (lo : o.length ≤ 2500) (la : a.length ≤ 2500) (lb : b.length ≤ 2500) (w : World) (hS : Signs w) :
    Calls Tryz.prog 8 #[.string (B o), .string (B a), .string (B b), .agg #[.bool ho, .bool ha, .bool hb], .bool old] w fun e w' =>
      e = .returned (.tuple #[.string (B (fileL o a b ho ha hb old).1), .bool (fileL o a b ho ha hb old).2.1, .int .i64 (fileL o a b ho ha hb old).2.2]) ∧ Below w.heap.size w w' := by
  have H := Lib.hid (fun (W : World) (hb' : Below w.heap.size w W) => three_any o a b ho ha hb old lo la lb W (hS.below hb'))
  generalize fileL o a b ho ha hb old = R at H ⊢
  obtain ⟨r1, r2, r3⟩ := R
  clear hS
  go_enter Tryz.func8, Tryz.ntmps8
  go_wp2_with (go_at_call 23; refine (H.out _ (by first | exact below_alloc (Below.refl _ _) _ | exact (below_alloc (Below.refl _ _) _).drew)).mono ?_; rintro e w1 ⟨rfl, hb⟩; have HB := Lib.hid ((below_alloc (Below.refl w.heap.size w) _).trans (hb.mono (below_alloc (Below.refl w.heap.size w) _).size)); clear hb)
  go_ret3
  exact ⟨rfl, HB.out⟩

/-- How long the marks of three texts are. -/
def marksL (o a b : Str) : Nat := lengthL (textsL (linesL o a b))
theorem marks_any (o a b : Str) (lo : o.length ≤ 2500) (la : a.length ≤ 2500) (lb : b.length ≤ 2500) (w : World) (hS : Signs w) :
    Calls Tryz.prog 10 #[.string (B o), .string (B a), .string (B b)] w fun e w' => e = .returned (.int .i64 (marksL o a b : Int)) ∧ Below w.heap.size w w' := by
  obtain ⟨n1, n2, n3, n4, n5⟩ := lines_fitB o a b lo la lb true _ rfl
  have HLi := Lib.hid (lines_any o a b (by omega) (by omega) (by omega))
  have HSo : Hid (∀ (A : Option Addr) (c : Nat) (W : World), Kd.C kPart W A (linesL o a b).length (linesL o a b) → Below w.heap.size w W →
      Calls Tryz.prog 26 #[.slice A (linesL o a b).length c, .bool true] W fun e w' => e = .returned (.tuple #[.string (B (printL (linesL o a b) (marksL o a b) true)), .int .i64 (marksL o a b : Int)]) ∧ Below W.heap.size W w') := Lib.hid (fun A c W hC hb =>
    show_any (linesL o a b) (marksL o a b) true A c W hC (hS.below hb) rfl (by unfold marksL; omega) (by omega) (fun p hp => by obtain ⟨q1, q2, q3⟩ := n3 p hp; exact ⟨by omega, by omega, by omega⟩) (by unfold marksL; omega))
  generalize marksL o a b = M at HSo ⊢
  clear n1 n2 n3 n4 n5 hS
  go_enter Tryz.func10, Tryz.ntmps10
  go_wp2_with (first | (go_at_call 27; refine (HLi.out _).mono ?_; rintro e w1 ⟨v, rfl, hR, hb⟩; obtain ⟨A, c, rfl, lc, hC⟩ := Kd.R_reads hR; have HC := Lib.hid hC; have HB1 := Lib.hid hb; clear hR hb hC) | (go_at_call 26; refine (HSo.out _ _ _ HC.out HB1.out).mono ?_; rintro e w2 ⟨rfl, hb⟩; have HB2 := Lib.hid (HB1.out.trans (hb.mono HB1.out.size)); clear hb))
  go_ret
  exact ⟨rfl, HB2.out⟩

end Go.Proofs.YtogfkfkejaiecaaGreatDoor.Du

namespace Go.Proofs.YtogfkfkejaiecaaGreatDoor.Dv
open Go.RowKit Go.Shelf Pl Ut Ln Bl Mk Ml Ms Mp Da Db Dc Dm Dn Do Dp Dq Dr Ds Du Go.Proofs.YtogfkfkejaiecaaGreatDoorW.PrintWords
set_option linter.unusedVariables false
set_option linter.unusedSimpArgs false
attribute [local go_sem] B_append B_extract B_toList B_size take_end

/-- The three sides of a text with marks, and the error's number. -/
def sidesR (text : Str) (m : Nat) : Str × Str × Str × Int :=
  match parseL text m with
  | some l => (sideL 0 l, sideL 1 l, sideL 2 l, 0)
  | none => ([], [], [], 90)
theorem set3s {w : World} {g : Nat} {v0 v1 v2 : Value} {t : TypeId} (h : w.heap[g]? = some (.cells #[v0, v1, v2] t (0, 0))) (u0 u1 u2 : Value) :
    (((w.setCell ⟨g, 0, none⟩ u0).setCell ⟨g, 1, none⟩ u1).setCell ⟨g, 2, none⟩ u2).heap[g]? = some (.cells #[u0, u1, u2] t (0, 0)) := blk_set (blk_set (blk_set h 0 u0) 1 u1) 2 u2
theorem info3s : (Tryz.prog.info? 22).map (·.size) = some 3 := by kernel_rfl

set_option maxRecDepth 100000 in
set_option maxHeartbeats 8000000 in
theorem sides_any (text : Str) (n m : Nat) (h1 : 1 ≤ n) (hm : m = min n (text.length + 1)) (hn : n ≤ 9223372036854775807) (ht : text.length ≤ 100000000) (w : World) (hS : Signs w) :
    Calls Tryz.prog 11 #[.string (B text), .int .i64 (n : Int)] w fun e w' =>
      e = .returned (.tuple #[.agg #[.string (B (sidesR text m).1), .string (B (sidesR text m).2.1), .string (B (sidesR text m).2.2.1)], .int .i64 (sidesR text m).2.2.2]) ∧ Below w.heap.size w w' := by
  have HP := Lib.hid (fun (W : World) (hb : Below w.heap.size w W) => parse_any text n m h1 hm hn ht W (hS.below hb))
  clear hS
  cases hp : parseL text m with
  | none =>
    have HR := Lib.hid (show sidesR text m = ([], [], [], 90) from by unfold sidesR; rw [hp])
    generalize sidesR text m = R at HR ⊢
    rw [HR.out]
    rw [hp] at HP
    unfold ParsePost at HP
    go_enter Tryz.func11, Tryz.ntmps11
    go_wp2_with (go_at_call 28; refine (HP.out _ (below_alloc (Below.refl _ _) _)).mono ?_; rintro e w1 ⟨rfl, hb⟩; have HZ := Lib.hid (blk_below (blk_new w (.cells #[.string ⟨#[]⟩, .string ⟨#[]⟩, .string ⟨#[]⟩] 22)) hb); have hlt1 := blk_lt HZ.out; have HB1 := Lib.hid ((below_alloc (Below.refl w.heap.size w) _).trans (hb.mono (below_alloc (Below.refl w.heap.size w) _).size)); have z0 := blk_frozen HZ.out 0; have z1 := blk_frozen HZ.out 1; have z2 := blk_frozen HZ.out 2; have y0 : w1.cell? ⟨w.heap.size, 0, none⟩ = some (.string ⟨#[]⟩) := (by rw [blk_cell HZ.out]; rfl); have y1 : w1.cell? ⟨w.heap.size, 1, none⟩ = some (.string ⟨#[]⟩) := (by rw [blk_cell HZ.out]; rfl); have y2 : w1.cell? ⟨w.heap.size, 2, none⟩ = some (.string ⟨#[]⟩) := (by rw [blk_cell HZ.out]; rfl); clear hb)
    (try simp only [Exit.inBlock, Exit.then])
    refine bodyPost_ret (results_ct rfl _ _ w.heap.size 22 _ (0, 0) _ rfl (set3s HZ.out _ _ _) Tryz.underlying22 rfl info3s) rfl ?_
    exact ⟨rfl, ((HB1.out.setCell (p := ⟨w.heap.size, 0, none⟩) (Nat.le_refl _) _).setCell (p := ⟨w.heap.size, 1, none⟩) (Nat.le_refl _) _).setCell (p := ⟨w.heap.size, 2, none⟩) (Nat.le_refl _) _⟩
  | some l =>
    have HR := Lib.hid (show sidesR text m = (sideL 0 l, sideL 1 l, sideL 2 l, 0) from by unfold sidesR; rw [hp])
    generalize sidesR text m = R at HR ⊢
    rw [HR.out]
    rw [hp] at HP
    unfold ParsePost at HP
    have hsz := parseL_size hp
    have hln := parseL_len hp
    have b0 := sideL_size 0 l
    have b1 := sideL_size 1 l
    have b2 := sideL_size 2 l
    go_enter Tryz.func11, Tryz.ntmps11
    go_wp2_with (go_at_call 28; refine (HP.out _ (below_alloc (Below.refl _ _) _)).mono ?_; rintro e w0 ⟨⟨v, rfl, hR⟩, hb⟩; obtain ⟨A, c, rfl, lc, hC⟩ := Kd.R_reads hR; have HC0 := Lib.hid hC; have HZ := Lib.hid (blk_below (blk_new w (.cells #[.string ⟨#[]⟩, .string ⟨#[]⟩, .string ⟨#[]⟩] 22)) hb); have hlt0 := blk_lt HZ.out; have HB1 := Lib.hid ((below_alloc (Below.refl w.heap.size w) _).trans (hb.mono (below_alloc (Below.refl w.heap.size w) _).size)); clear hb hR hC)
    have HS0 := Lib.hid (fun (W : World) (hb : Below w0.heap.size w0 W) => side0 l A c W (Kd.C_below HC0.out hb) (by omega) (by omega))
    have HS1 := Lib.hid (fun (W : World) (hb : Below w0.heap.size w0 W) => side1 l A c W (Kd.C_below HC0.out hb) (by omega) (by omega))
    have HS2 := Lib.hid (fun (W : World) (hb : Below w0.heap.size w0 W) => side2 l A c W (Kd.C_below HC0.out hb) (by omega) (by omega))
    go_loopw [20] (fun i wr => (i = .int .i64 0 ∧ Hid (wr.heap[w0.heap.size]? = some (.cells #[.string ⟨#[]⟩, .string ⟨#[]⟩, .string ⟨#[]⟩] 22 (0, 0))) ∧ Hid (wr.heap[w.heap.size]? = some (.cells #[.string ⟨#[]⟩, .string ⟨#[]⟩, .string ⟨#[]⟩] 22 (0, 0))) ∧ Hid (Below w0.heap.size w0 wr)) ∨
      (i = .int .i64 1 ∧ Hid (wr.heap[w0.heap.size]? = some (.cells #[.string (B (sideL 0 l)), .string ⟨#[]⟩, .string ⟨#[]⟩] 22 (0, 0))) ∧ Hid (wr.heap[w.heap.size]? = some (.cells #[.string ⟨#[]⟩, .string ⟨#[]⟩, .string ⟨#[]⟩] 22 (0, 0))) ∧ Hid (Below w0.heap.size w0 wr)) ∨
      (i = .int .i64 2 ∧ Hid (wr.heap[w0.heap.size]? = some (.cells #[.string (B (sideL 0 l)), .string (B (sideL 1 l)), .string ⟨#[]⟩] 22 (0, 0))) ∧ Hid (wr.heap[w.heap.size]? = some (.cells #[.string ⟨#[]⟩, .string ⟨#[]⟩, .string ⟨#[]⟩] 22 (0, 0))) ∧ Hid (Below w0.heap.size w0 wr)) ∨
      (i = .int .i64 3 ∧ Hid (wr.heap[w0.heap.size]? = some (.cells #[.string (B (sideL 0 l)), .string (B (sideL 1 l)), .string (B (sideL 2 l))] 22 (0, 0))) ∧ Hid (wr.heap[w.heap.size]? = some (.cells #[.string ⟨#[]⟩, .string ⟨#[]⟩, .string ⟨#[]⟩] 22 (0, 0))) ∧ Hid (Below w0.heap.size w0 wr))) (fun i _ => 3 - (intOf i).toNat)
    case atStart => exact .inl ⟨rfl, Lib.hid (blk_new _ _), Lib.hid (blk_alloc HZ.out _), Lib.hid (below_alloc (Below.refl _ _) _)⟩
    case round =>
      rcases hrel with ⟨rfl, HT, HZ, HBw⟩ | ⟨rfl, HT, HZ, HBw⟩ | ⟨rfl, HT, HZ, HBw⟩ | ⟨rfl, HT, HZ, HBw⟩
      · go_wp2_with (go_at_call 29; refine (HS0.out _ HBw.out).mono ?_; rintro e w2 ⟨rfl, hb⟩; have HT2 := Lib.hid (blk_below HT.out hb); have HZ2 := Lib.hid (blk_below HZ.out hb); have HB2 := Lib.hid (HBw.out.trans (hb.mono HBw.out.size)); have f0 := blk_frozen HT2.out 0; have d0 : w2.cell? ⟨w0.heap.size, 0, none⟩ = some (.string ⟨#[]⟩) := (by rw [blk_cell HT2.out]; rfl); have hsz := blk_lt HT2.out; clear hb)
        go_roundw
        case rel => exact .inr (.inl ⟨rfl, Lib.hid (blk_set HT2.out 0 _), Lib.hid (blk_far HZ2.out (show w.heap.size ≠ w0.heap.size by have := hlt0; omega) _), Lib.hid (HB2.out.setCell (p := ⟨w0.heap.size, 0, none⟩) (Nat.le_refl _) _)⟩)
        · simp [intOf]
      · go_wp2_with (go_at_call 29; refine (HS1.out _ HBw.out).mono ?_; rintro e w2 ⟨rfl, hb⟩; have HT2 := Lib.hid (blk_below HT.out hb); have HZ2 := Lib.hid (blk_below HZ.out hb); have HB2 := Lib.hid (HBw.out.trans (hb.mono HBw.out.size)); have f0 := blk_frozen HT2.out 1; have d0 : w2.cell? ⟨w0.heap.size, 1, none⟩ = some (.string ⟨#[]⟩) := (by rw [blk_cell HT2.out]; rfl); have hsz := blk_lt HT2.out; clear hb)
        go_roundw
        case rel => exact .inr (.inr (.inl ⟨rfl, Lib.hid (blk_set HT2.out 1 _), Lib.hid (blk_far HZ2.out (show w.heap.size ≠ w0.heap.size by have := hlt0; omega) _), Lib.hid (HB2.out.setCell (p := ⟨w0.heap.size, 1, none⟩) (Nat.le_refl _) _)⟩))
        · simp [intOf]
      · go_wp2_with (go_at_call 29; refine (HS2.out _ HBw.out).mono ?_; rintro e w2 ⟨rfl, hb⟩; have HT2 := Lib.hid (blk_below HT.out hb); have HZ2 := Lib.hid (blk_below HZ.out hb); have HB2 := Lib.hid (HBw.out.trans (hb.mono HBw.out.size)); have f0 := blk_frozen HT2.out 2; have d0 : w2.cell? ⟨w0.heap.size, 2, none⟩ = some (.string ⟨#[]⟩) := (by rw [blk_cell HT2.out]; rfl); have hsz := blk_lt HT2.out; clear hb)
        go_roundw
        case rel => exact .inr (.inr (.inr ⟨rfl, Lib.hid (blk_set HT2.out 2 _), Lib.hid (blk_far HZ2.out (show w.heap.size ≠ w0.heap.size by have := hlt0; omega) _), Lib.hid (HB2.out.setCell (p := ⟨w0.heap.size, 2, none⟩) (Nat.le_refl _) _)⟩))
        · simp [intOf]
      · have z0 := blk_frozen HZ.out 0
        have z1 := blk_frozen HZ.out 1
        have z2 := blk_frozen HZ.out 2
        have y0 : wr.cell? ⟨w.heap.size, 0, none⟩ = some (.string ⟨#[]⟩) := (by rw [blk_cell HZ.out]; rfl)
        have y1 : wr.cell? ⟨w.heap.size, 1, none⟩ = some (.string ⟨#[]⟩) := (by rw [blk_cell HZ.out]; rfl)
        have y2 : wr.cell? ⟨w.heap.size, 2, none⟩ = some (.string ⟨#[]⟩) := (by rw [blk_cell HZ.out]; rfl)
        have x0 : wr.cell? ⟨w0.heap.size, 0, none⟩ = some (.string (B (sideL 0 l))) := (by rw [blk_cell HT.out]; rfl)
        have x1 : wr.cell? ⟨w0.heap.size, 1, none⟩ = some (.string (B (sideL 1 l))) := (by rw [blk_cell HT.out]; rfl)
        have x2 : wr.cell? ⟨w0.heap.size, 2, none⟩ = some (.string (B (sideL 2 l))) := (by rw [blk_cell HT.out]; rfl)
        have hsz1 := blk_lt HZ.out
        have HB3 := Lib.hid (HB1.out.trans (HBw.out.mono HB1.out.size))
        go_wp2
        (try simp only [Exit.inBlock, Exit.then])
        refine bodyPost_ret (results_ct rfl _ _ w.heap.size 22 _ (0, 0) _ rfl (set3s HZ.out _ _ _) Tryz.underlying22 rfl info3s) rfl ?_
        exact ⟨rfl, ((HB3.out.setCell (p := ⟨w.heap.size, 0, none⟩) (Nat.le_refl _) _).setCell (p := ⟨w.heap.size, 1, none⟩) (Nat.le_refl _) _).setCell (p := ⟨w.heap.size, 2, none⟩) (Nat.le_refl _) _⟩

end Go.Proofs.YtogfkfkejaiecaaGreatDoor.Dv
