/- Contracts of package marker: the reader's meet, inside a clash. -/
import Derived.Test.YtggeelejmhihdaaDoorMr
namespace Go.Proofs.YtggeelejmhihdaaDoor.Mt
open Go.RowKit Go.Shelf Go.Proofs.YtggeelejmhihdaaDoor.Pl Go.Proofs.YtggeelejmhihdaaDoor.Ut Go.Proofs.YtggeelejmhihdaaDoor.Ln Go.Proofs.YtggeelejmhihdaaDoor.Bl Go.Proofs.YtggeelejmhihdaaDoor.Mk Go.Proofs.YtggeelejmhihdaaDoor.Ml Go.Proofs.YtggeelejmhihdaaDoor.Mm Go.Proofs.YtggeelejmhihdaaDoor.Mr Go.Proofs.YtggeelejmhihdaaDoorW.PrintWords
set_option linter.unusedVariables false
set_option linter.unusedSimpArgs false
attribute [local go_sem] B_append B_extract B_toList B_size take_end addr_off

theorem meetL_at (st : St) (k a : Nat) (cut : Bool) (hat : st.at_ = a) (ha : a ≠ 0) : meetL st k cut = if (takeR st.now cut).2 then
      (if a = 3 ∧ k = 3 then some ⟨st.out ++ [{ st.p with b := (takeR st.now cut).1 }], { st.p with b := (takeR st.now cut).1 }, [], 0⟩
      else if a = 1 ∧ k = 1 then some ⟨st.out, { st.p with a := (takeR st.now cut).1 }, [], 2⟩
      else if a = 1 ∧ k = 2 then some ⟨st.out, { st.p with a := (takeR st.now cut).1 }, [], 3⟩
      else if a = 2 ∧ k = 2 then some ⟨st.out, { st.p with o := (takeR st.now cut).1 }, [], 3⟩
      else none) else none := by
  subst hat
  unfold meetL
  rw [if_neg ha, takeL_R]
  cases (takeR st.now cut).2 with
  | false => rfl
  | true => rfl

set_option maxHeartbeats 4000000 in
set_option maxRecDepth 100000 in
theorem meet10_any {base b : Nat} {st : St} {w : World} (cut : Bool) (hat : st.at_ = 1) (h : Rdr base b st w) (hB : base ≤ w.heap.size) (hl : st.now.length ≤ 1000000000) (ho : st.out.length ≤ 1000000000) :
    Calls Tryd.prog 29 #[.pointer (some ⟨b, 0, none⟩), .int .i64 0, .bool cut] w (MeetPost base b (meetL st 0 cut) w) := by
  have hlt := h.lt
  have hc7 : w.cell? ⟨b, 7, none⟩ = some (.int .i64 ((1 : Nat) : Int)) := by
    obtain ⟨o, pa, pv, h1, _⟩ := h
    have := h1.cell 7
    rw [← hat]; exact this
  have hr := meetL_at st 0 1 cut hat (by decide)
  obtain ⟨r, hrr⟩ : ∃ r, r = meetL st 0 cut := ⟨_, rfl⟩
  rw [← hrr] at hr ⊢
  clear hrr
  have HAT := Lib.hid hat
  clear hat
  have HR0 := Lib.hid hr
  clear hr
  go_enter Tryd.func29, Tryd.ntmps29
  go_wp2_with fail
  refine (take_any cut h hB hl).mono ?_
  obtain ⟨t, ht⟩ : ∃ t, t = (takeR st.now cut).1 := ⟨_, rfl⟩
  obtain ⟨m, hm⟩ : ∃ m, m = (takeR st.now cut).2 := ⟨_, rfl⟩
  rw [← ht, ← hm]
  rintro e w1 ⟨rfl, ⟨outv, pa, pv, hb, hR⟩, hB1⟩
  have HT := Lib.hid ht
  have HM := Lib.hid hm
  clear ht hm h
  have hlt1 := hb.lt
  have hbase := hb.base
  have f0 := hb.frozen 0
  have f1 := hb.frozen 1
  have f2 := hb.frozen 2
  have f3 := hb.frozen 3
  have f4 := hb.frozen 4
  have f7 := hb.frozen 7
  have c0 : w1.cell? ⟨b, 0, none⟩ = some outv := hb.cell 0
  have c1 : w1.cell? ⟨b, 1, none⟩ = some (.bool st.p.clash) := hb.cell 1
  have c2 : w1.cell? ⟨b, 2, none⟩ = some (.string (B st.p.o)) := hb.cell 2
  have c3 : w1.cell? ⟨b, 3, none⟩ = some (.string (B st.p.a)) := hb.cell 3
  have c4 : w1.cell? ⟨b, 4, none⟩ = some (.string (B st.p.b)) := hb.cell 4
  have c7 : w1.cell? ⟨b, 7, none⟩ = some (.int .i64 st.at_) := hb.cell 7
  rw [HAT.out] at c7
  cases m with
  | false =>
    clear hb hR
    have hr : r = none := by rw [HR0.out, ← HM.out]; rfl
    have HF := Lib.hid (show MeetPost base b r w (.returned (.bool false)) w1 from ⟨by rw [hr]; rfl, (fun st' hst => by rw [hr] at hst; cases hst), hB1⟩)
    clear hr
    go_wp2
    go_ret
    exact HF.out
  | true =>
    clear hb hR
    have hr : r = none := by rw [HR0.out, ← HM.out]; rfl
    have HF := Lib.hid (show MeetPost base b r w (.returned (.bool false)) w1 from ⟨by rw [hr]; rfl, (fun st' hst => by rw [hr] at hst; cases hst), hB1⟩)
    clear hr
    go_wp2
    go_ret
    exact HF.out

set_option maxHeartbeats 4000000 in
set_option maxRecDepth 100000 in
theorem meet11_any {base b : Nat} {st : St} {w : World} (cut : Bool) (hat : st.at_ = 1) (h : Rdr base b st w) (hB : base ≤ w.heap.size) (hl : st.now.length ≤ 1000000000) (ho : st.out.length ≤ 1000000000) :
    Calls Tryd.prog 29 #[.pointer (some ⟨b, 0, none⟩), .int .i64 1, .bool cut] w (MeetPost base b (meetL st 1 cut) w) := by
  have hlt := h.lt
  have hc7 : w.cell? ⟨b, 7, none⟩ = some (.int .i64 ((1 : Nat) : Int)) := by
    obtain ⟨o, pa, pv, h1, _⟩ := h
    have := h1.cell 7
    rw [← hat]; exact this
  have hr := meetL_at st 1 1 cut hat (by decide)
  obtain ⟨r, hrr⟩ : ∃ r, r = meetL st 1 cut := ⟨_, rfl⟩
  rw [← hrr] at hr ⊢
  clear hrr
  have HAT := Lib.hid hat
  clear hat
  have HR0 := Lib.hid hr
  clear hr
  go_enter Tryd.func29, Tryd.ntmps29
  go_wp2_with fail
  refine (take_any cut h hB hl).mono ?_
  obtain ⟨t, ht⟩ : ∃ t, t = (takeR st.now cut).1 := ⟨_, rfl⟩
  obtain ⟨m, hm⟩ : ∃ m, m = (takeR st.now cut).2 := ⟨_, rfl⟩
  rw [← ht, ← hm]
  rintro e w1 ⟨rfl, ⟨outv, pa, pv, hb, hR⟩, hB1⟩
  have HT := Lib.hid ht
  have HM := Lib.hid hm
  clear ht hm h
  have hlt1 := hb.lt
  have hbase := hb.base
  have f0 := hb.frozen 0
  have f1 := hb.frozen 1
  have f2 := hb.frozen 2
  have f3 := hb.frozen 3
  have f4 := hb.frozen 4
  have f7 := hb.frozen 7
  have c0 : w1.cell? ⟨b, 0, none⟩ = some outv := hb.cell 0
  have c1 : w1.cell? ⟨b, 1, none⟩ = some (.bool st.p.clash) := hb.cell 1
  have c2 : w1.cell? ⟨b, 2, none⟩ = some (.string (B st.p.o)) := hb.cell 2
  have c3 : w1.cell? ⟨b, 3, none⟩ = some (.string (B st.p.a)) := hb.cell 3
  have c4 : w1.cell? ⟨b, 4, none⟩ = some (.string (B st.p.b)) := hb.cell 4
  have c7 : w1.cell? ⟨b, 7, none⟩ = some (.int .i64 st.at_) := hb.cell 7
  rw [HAT.out] at c7
  cases m with
  | false =>
    clear hb hR
    have hr : r = none := by rw [HR0.out, ← HM.out]; rfl
    have HF := Lib.hid (show MeetPost base b r w (.returned (.bool false)) w1 from ⟨by rw [hr]; rfl, (fun st' hst => by rw [hr] at hst; cases hst), hB1⟩)
    clear hr
    go_wp2
    go_ret
    exact HF.out
  | true =>
    obtain ⟨W2, hW2⟩ : ∃ W2, W2 = (w1.setCell ⟨b, 3, none⟩ (.string (B t))).setCell ⟨b, 7, none⟩ (.int .i64 2) := ⟨_, rfl⟩
    have HF := Lib.hid (show MeetPost base b r w (.returned (.bool true)) W2 from by
      have hr : r = some ⟨st.out, { st.p with a := t }, [], 2⟩ := by rw [HR0.out, ← HM.out, ← HT.out]; rfl
      refine ⟨by rw [hr]; rfl, fun st' hst => ?_, ?_⟩
      · rw [hr] at hst
        cases hst
        rw [hW2]
        exact ⟨outv, pa, pv, (hb.put (j := 3) (by decide) (by decide) (.string (B t))).put (j := 7) (by decide) (by decide) (.int .i64 2), Kd.R_far (Kd.R_far hR (fun _ h => h) _) (fun _ h => h) _⟩
      · rw [hW2]; exact (hB1.setCell (p := ⟨b, 3, none⟩) hbase _).setCell (p := ⟨b, 7, none⟩) hbase _)
    have HW2 := Lib.hid hW2
    clear hb hR hW2
    go_wp2
    go_ret
    have h := HF.out
    rw [HW2.out] at h
    exact h

set_option maxHeartbeats 4000000 in
set_option maxRecDepth 100000 in
theorem meet12_any {base b : Nat} {st : St} {w : World} (cut : Bool) (hat : st.at_ = 1) (h : Rdr base b st w) (hB : base ≤ w.heap.size) (hl : st.now.length ≤ 1000000000) (ho : st.out.length ≤ 1000000000) :
    Calls Tryd.prog 29 #[.pointer (some ⟨b, 0, none⟩), .int .i64 2, .bool cut] w (MeetPost base b (meetL st 2 cut) w) := by
  have hlt := h.lt
  have hc7 : w.cell? ⟨b, 7, none⟩ = some (.int .i64 ((1 : Nat) : Int)) := by
    obtain ⟨o, pa, pv, h1, _⟩ := h
    have := h1.cell 7
    rw [← hat]; exact this
  have hr := meetL_at st 2 1 cut hat (by decide)
  obtain ⟨r, hrr⟩ : ∃ r, r = meetL st 2 cut := ⟨_, rfl⟩
  rw [← hrr] at hr ⊢
  clear hrr
  have HAT := Lib.hid hat
  clear hat
  have HR0 := Lib.hid hr
  clear hr
  go_enter Tryd.func29, Tryd.ntmps29
  go_wp2_with fail
  refine (take_any cut h hB hl).mono ?_
  obtain ⟨t, ht⟩ : ∃ t, t = (takeR st.now cut).1 := ⟨_, rfl⟩
  obtain ⟨m, hm⟩ : ∃ m, m = (takeR st.now cut).2 := ⟨_, rfl⟩
  rw [← ht, ← hm]
  rintro e w1 ⟨rfl, ⟨outv, pa, pv, hb, hR⟩, hB1⟩
  have HT := Lib.hid ht
  have HM := Lib.hid hm
  clear ht hm h
  have hlt1 := hb.lt
  have hbase := hb.base
  have f0 := hb.frozen 0
  have f1 := hb.frozen 1
  have f2 := hb.frozen 2
  have f3 := hb.frozen 3
  have f4 := hb.frozen 4
  have f7 := hb.frozen 7
  have c0 : w1.cell? ⟨b, 0, none⟩ = some outv := hb.cell 0
  have c1 : w1.cell? ⟨b, 1, none⟩ = some (.bool st.p.clash) := hb.cell 1
  have c2 : w1.cell? ⟨b, 2, none⟩ = some (.string (B st.p.o)) := hb.cell 2
  have c3 : w1.cell? ⟨b, 3, none⟩ = some (.string (B st.p.a)) := hb.cell 3
  have c4 : w1.cell? ⟨b, 4, none⟩ = some (.string (B st.p.b)) := hb.cell 4
  have c7 : w1.cell? ⟨b, 7, none⟩ = some (.int .i64 st.at_) := hb.cell 7
  rw [HAT.out] at c7
  cases m with
  | false =>
    clear hb hR
    have hr : r = none := by rw [HR0.out, ← HM.out]; rfl
    have HF := Lib.hid (show MeetPost base b r w (.returned (.bool false)) w1 from ⟨by rw [hr]; rfl, (fun st' hst => by rw [hr] at hst; cases hst), hB1⟩)
    clear hr
    go_wp2
    go_ret
    exact HF.out
  | true =>
    obtain ⟨W2, hW2⟩ : ∃ W2, W2 = (w1.setCell ⟨b, 3, none⟩ (.string (B t))).setCell ⟨b, 7, none⟩ (.int .i64 3) := ⟨_, rfl⟩
    have HF := Lib.hid (show MeetPost base b r w (.returned (.bool true)) W2 from by
      have hr : r = some ⟨st.out, { st.p with a := t }, [], 3⟩ := by rw [HR0.out, ← HM.out, ← HT.out]; rfl
      refine ⟨by rw [hr]; rfl, fun st' hst => ?_, ?_⟩
      · rw [hr] at hst
        cases hst
        rw [hW2]
        exact ⟨outv, pa, pv, (hb.put (j := 3) (by decide) (by decide) (.string (B t))).put (j := 7) (by decide) (by decide) (.int .i64 3), Kd.R_far (Kd.R_far hR (fun _ h => h) _) (fun _ h => h) _⟩
      · rw [hW2]; exact (hB1.setCell (p := ⟨b, 3, none⟩) hbase _).setCell (p := ⟨b, 7, none⟩) hbase _)
    have HW2 := Lib.hid hW2
    clear hb hR hW2
    go_wp2
    go_ret
    have h := HF.out
    rw [HW2.out] at h
    exact h

set_option maxHeartbeats 4000000 in
set_option maxRecDepth 100000 in
theorem meet13_any {base b : Nat} {st : St} {w : World} (cut : Bool) (hat : st.at_ = 1) (h : Rdr base b st w) (hB : base ≤ w.heap.size) (hl : st.now.length ≤ 1000000000) (ho : st.out.length ≤ 1000000000) :
    Calls Tryd.prog 29 #[.pointer (some ⟨b, 0, none⟩), .int .i64 3, .bool cut] w (MeetPost base b (meetL st 3 cut) w) := by
  have hlt := h.lt
  have hc7 : w.cell? ⟨b, 7, none⟩ = some (.int .i64 ((1 : Nat) : Int)) := by
    obtain ⟨o, pa, pv, h1, _⟩ := h
    have := h1.cell 7
    rw [← hat]; exact this
  have hr := meetL_at st 3 1 cut hat (by decide)
  obtain ⟨r, hrr⟩ : ∃ r, r = meetL st 3 cut := ⟨_, rfl⟩
  rw [← hrr] at hr ⊢
  clear hrr
  have HAT := Lib.hid hat
  clear hat
  have HR0 := Lib.hid hr
  clear hr
  go_enter Tryd.func29, Tryd.ntmps29
  go_wp2_with fail
  refine (take_any cut h hB hl).mono ?_
  obtain ⟨t, ht⟩ : ∃ t, t = (takeR st.now cut).1 := ⟨_, rfl⟩
  obtain ⟨m, hm⟩ : ∃ m, m = (takeR st.now cut).2 := ⟨_, rfl⟩
  rw [← ht, ← hm]
  rintro e w1 ⟨rfl, ⟨outv, pa, pv, hb, hR⟩, hB1⟩
  have HT := Lib.hid ht
  have HM := Lib.hid hm
  clear ht hm h
  have hlt1 := hb.lt
  have hbase := hb.base
  have f0 := hb.frozen 0
  have f1 := hb.frozen 1
  have f2 := hb.frozen 2
  have f3 := hb.frozen 3
  have f4 := hb.frozen 4
  have f7 := hb.frozen 7
  have c0 : w1.cell? ⟨b, 0, none⟩ = some outv := hb.cell 0
  have c1 : w1.cell? ⟨b, 1, none⟩ = some (.bool st.p.clash) := hb.cell 1
  have c2 : w1.cell? ⟨b, 2, none⟩ = some (.string (B st.p.o)) := hb.cell 2
  have c3 : w1.cell? ⟨b, 3, none⟩ = some (.string (B st.p.a)) := hb.cell 3
  have c4 : w1.cell? ⟨b, 4, none⟩ = some (.string (B st.p.b)) := hb.cell 4
  have c7 : w1.cell? ⟨b, 7, none⟩ = some (.int .i64 st.at_) := hb.cell 7
  rw [HAT.out] at c7
  cases m with
  | false =>
    clear hb hR
    have hr : r = none := by rw [HR0.out, ← HM.out]; rfl
    have HF := Lib.hid (show MeetPost base b r w (.returned (.bool false)) w1 from ⟨by rw [hr]; rfl, (fun st' hst => by rw [hr] at hst; cases hst), hB1⟩)
    clear hr
    go_wp2
    go_ret
    exact HF.out
  | true =>
    clear hb hR
    have hr : r = none := by rw [HR0.out, ← HM.out]; rfl
    have HF := Lib.hid (show MeetPost base b r w (.returned (.bool false)) w1 from ⟨by rw [hr]; rfl, (fun st' hst => by rw [hr] at hst; cases hst), hB1⟩)
    clear hr
    go_wp2
    go_ret
    exact HF.out

set_option maxHeartbeats 4000000 in
set_option maxRecDepth 100000 in
theorem meet20_any {base b : Nat} {st : St} {w : World} (cut : Bool) (hat : st.at_ = 2) (h : Rdr base b st w) (hB : base ≤ w.heap.size) (hl : st.now.length ≤ 1000000000) (ho : st.out.length ≤ 1000000000) :
    Calls Tryd.prog 29 #[.pointer (some ⟨b, 0, none⟩), .int .i64 0, .bool cut] w (MeetPost base b (meetL st 0 cut) w) := by
  have hlt := h.lt
  have hc7 : w.cell? ⟨b, 7, none⟩ = some (.int .i64 ((2 : Nat) : Int)) := by
    obtain ⟨o, pa, pv, h1, _⟩ := h
    have := h1.cell 7
    rw [← hat]; exact this
  have hr := meetL_at st 0 2 cut hat (by decide)
  obtain ⟨r, hrr⟩ : ∃ r, r = meetL st 0 cut := ⟨_, rfl⟩
  rw [← hrr] at hr ⊢
  clear hrr
  have HAT := Lib.hid hat
  clear hat
  have HR0 := Lib.hid hr
  clear hr
  go_enter Tryd.func29, Tryd.ntmps29
  go_wp2_with fail
  refine (take_any cut h hB hl).mono ?_
  obtain ⟨t, ht⟩ : ∃ t, t = (takeR st.now cut).1 := ⟨_, rfl⟩
  obtain ⟨m, hm⟩ : ∃ m, m = (takeR st.now cut).2 := ⟨_, rfl⟩
  rw [← ht, ← hm]
  rintro e w1 ⟨rfl, ⟨outv, pa, pv, hb, hR⟩, hB1⟩
  have HT := Lib.hid ht
  have HM := Lib.hid hm
  clear ht hm h
  have hlt1 := hb.lt
  have hbase := hb.base
  have f0 := hb.frozen 0
  have f1 := hb.frozen 1
  have f2 := hb.frozen 2
  have f3 := hb.frozen 3
  have f4 := hb.frozen 4
  have f7 := hb.frozen 7
  have c0 : w1.cell? ⟨b, 0, none⟩ = some outv := hb.cell 0
  have c1 : w1.cell? ⟨b, 1, none⟩ = some (.bool st.p.clash) := hb.cell 1
  have c2 : w1.cell? ⟨b, 2, none⟩ = some (.string (B st.p.o)) := hb.cell 2
  have c3 : w1.cell? ⟨b, 3, none⟩ = some (.string (B st.p.a)) := hb.cell 3
  have c4 : w1.cell? ⟨b, 4, none⟩ = some (.string (B st.p.b)) := hb.cell 4
  have c7 : w1.cell? ⟨b, 7, none⟩ = some (.int .i64 st.at_) := hb.cell 7
  rw [HAT.out] at c7
  cases m with
  | false =>
    clear hb hR
    have hr : r = none := by rw [HR0.out, ← HM.out]; rfl
    have HF := Lib.hid (show MeetPost base b r w (.returned (.bool false)) w1 from ⟨by rw [hr]; rfl, (fun st' hst => by rw [hr] at hst; cases hst), hB1⟩)
    clear hr
    go_wp2
    go_ret
    exact HF.out
  | true =>
    clear hb hR
    have hr : r = none := by rw [HR0.out, ← HM.out]; rfl
    have HF := Lib.hid (show MeetPost base b r w (.returned (.bool false)) w1 from ⟨by rw [hr]; rfl, (fun st' hst => by rw [hr] at hst; cases hst), hB1⟩)
    clear hr
    go_wp2
    go_ret
    exact HF.out

set_option maxHeartbeats 4000000 in
set_option maxRecDepth 100000 in
theorem meet21_any {base b : Nat} {st : St} {w : World} (cut : Bool) (hat : st.at_ = 2) (h : Rdr base b st w) (hB : base ≤ w.heap.size) (hl : st.now.length ≤ 1000000000) (ho : st.out.length ≤ 1000000000) :
    Calls Tryd.prog 29 #[.pointer (some ⟨b, 0, none⟩), .int .i64 1, .bool cut] w (MeetPost base b (meetL st 1 cut) w) := by
  have hlt := h.lt
  have hc7 : w.cell? ⟨b, 7, none⟩ = some (.int .i64 ((2 : Nat) : Int)) := by
    obtain ⟨o, pa, pv, h1, _⟩ := h
    have := h1.cell 7
    rw [← hat]; exact this
  have hr := meetL_at st 1 2 cut hat (by decide)
  obtain ⟨r, hrr⟩ : ∃ r, r = meetL st 1 cut := ⟨_, rfl⟩
  rw [← hrr] at hr ⊢
  clear hrr
  have HAT := Lib.hid hat
  clear hat
  have HR0 := Lib.hid hr
  clear hr
  go_enter Tryd.func29, Tryd.ntmps29
  go_wp2_with fail
  refine (take_any cut h hB hl).mono ?_
  obtain ⟨t, ht⟩ : ∃ t, t = (takeR st.now cut).1 := ⟨_, rfl⟩
  obtain ⟨m, hm⟩ : ∃ m, m = (takeR st.now cut).2 := ⟨_, rfl⟩
  rw [← ht, ← hm]
  rintro e w1 ⟨rfl, ⟨outv, pa, pv, hb, hR⟩, hB1⟩
  have HT := Lib.hid ht
  have HM := Lib.hid hm
  clear ht hm h
  have hlt1 := hb.lt
  have hbase := hb.base
  have f0 := hb.frozen 0
  have f1 := hb.frozen 1
  have f2 := hb.frozen 2
  have f3 := hb.frozen 3
  have f4 := hb.frozen 4
  have f7 := hb.frozen 7
  have c0 : w1.cell? ⟨b, 0, none⟩ = some outv := hb.cell 0
  have c1 : w1.cell? ⟨b, 1, none⟩ = some (.bool st.p.clash) := hb.cell 1
  have c2 : w1.cell? ⟨b, 2, none⟩ = some (.string (B st.p.o)) := hb.cell 2
  have c3 : w1.cell? ⟨b, 3, none⟩ = some (.string (B st.p.a)) := hb.cell 3
  have c4 : w1.cell? ⟨b, 4, none⟩ = some (.string (B st.p.b)) := hb.cell 4
  have c7 : w1.cell? ⟨b, 7, none⟩ = some (.int .i64 st.at_) := hb.cell 7
  rw [HAT.out] at c7
  cases m with
  | false =>
    clear hb hR
    have hr : r = none := by rw [HR0.out, ← HM.out]; rfl
    have HF := Lib.hid (show MeetPost base b r w (.returned (.bool false)) w1 from ⟨by rw [hr]; rfl, (fun st' hst => by rw [hr] at hst; cases hst), hB1⟩)
    clear hr
    go_wp2
    go_ret
    exact HF.out
  | true =>
    clear hb hR
    have hr : r = none := by rw [HR0.out, ← HM.out]; rfl
    have HF := Lib.hid (show MeetPost base b r w (.returned (.bool false)) w1 from ⟨by rw [hr]; rfl, (fun st' hst => by rw [hr] at hst; cases hst), hB1⟩)
    clear hr
    go_wp2
    go_ret
    exact HF.out

set_option maxHeartbeats 4000000 in
set_option maxRecDepth 100000 in
theorem meet22_any {base b : Nat} {st : St} {w : World} (cut : Bool) (hat : st.at_ = 2) (h : Rdr base b st w) (hB : base ≤ w.heap.size) (hl : st.now.length ≤ 1000000000) (ho : st.out.length ≤ 1000000000) :
    Calls Tryd.prog 29 #[.pointer (some ⟨b, 0, none⟩), .int .i64 2, .bool cut] w (MeetPost base b (meetL st 2 cut) w) := by
  have hlt := h.lt
  have hc7 : w.cell? ⟨b, 7, none⟩ = some (.int .i64 ((2 : Nat) : Int)) := by
    obtain ⟨o, pa, pv, h1, _⟩ := h
    have := h1.cell 7
    rw [← hat]; exact this
  have hr := meetL_at st 2 2 cut hat (by decide)
  obtain ⟨r, hrr⟩ : ∃ r, r = meetL st 2 cut := ⟨_, rfl⟩
  rw [← hrr] at hr ⊢
  clear hrr
  have HAT := Lib.hid hat
  clear hat
  have HR0 := Lib.hid hr
  clear hr
  go_enter Tryd.func29, Tryd.ntmps29
  go_wp2_with fail
  refine (take_any cut h hB hl).mono ?_
  obtain ⟨t, ht⟩ : ∃ t, t = (takeR st.now cut).1 := ⟨_, rfl⟩
  obtain ⟨m, hm⟩ : ∃ m, m = (takeR st.now cut).2 := ⟨_, rfl⟩
  rw [← ht, ← hm]
  rintro e w1 ⟨rfl, ⟨outv, pa, pv, hb, hR⟩, hB1⟩
  have HT := Lib.hid ht
  have HM := Lib.hid hm
  clear ht hm h
  have hlt1 := hb.lt
  have hbase := hb.base
  have f0 := hb.frozen 0
  have f1 := hb.frozen 1
  have f2 := hb.frozen 2
  have f3 := hb.frozen 3
  have f4 := hb.frozen 4
  have f7 := hb.frozen 7
  have c0 : w1.cell? ⟨b, 0, none⟩ = some outv := hb.cell 0
  have c1 : w1.cell? ⟨b, 1, none⟩ = some (.bool st.p.clash) := hb.cell 1
  have c2 : w1.cell? ⟨b, 2, none⟩ = some (.string (B st.p.o)) := hb.cell 2
  have c3 : w1.cell? ⟨b, 3, none⟩ = some (.string (B st.p.a)) := hb.cell 3
  have c4 : w1.cell? ⟨b, 4, none⟩ = some (.string (B st.p.b)) := hb.cell 4
  have c7 : w1.cell? ⟨b, 7, none⟩ = some (.int .i64 st.at_) := hb.cell 7
  rw [HAT.out] at c7
  cases m with
  | false =>
    clear hb hR
    have hr : r = none := by rw [HR0.out, ← HM.out]; rfl
    have HF := Lib.hid (show MeetPost base b r w (.returned (.bool false)) w1 from ⟨by rw [hr]; rfl, (fun st' hst => by rw [hr] at hst; cases hst), hB1⟩)
    clear hr
    go_wp2
    go_ret
    exact HF.out
  | true =>
    obtain ⟨W2, hW2⟩ : ∃ W2, W2 = (w1.setCell ⟨b, 2, none⟩ (.string (B t))).setCell ⟨b, 7, none⟩ (.int .i64 3) := ⟨_, rfl⟩
    have HF := Lib.hid (show MeetPost base b r w (.returned (.bool true)) W2 from by
      have hr : r = some ⟨st.out, { st.p with o := t }, [], 3⟩ := by rw [HR0.out, ← HM.out, ← HT.out]; rfl
      refine ⟨by rw [hr]; rfl, fun st' hst => ?_, ?_⟩
      · rw [hr] at hst
        cases hst
        rw [hW2]
        exact ⟨outv, pa, pv, (hb.put (j := 2) (by decide) (by decide) (.string (B t))).put (j := 7) (by decide) (by decide) (.int .i64 3), Kd.R_far (Kd.R_far hR (fun _ h => h) _) (fun _ h => h) _⟩
      · rw [hW2]; exact (hB1.setCell (p := ⟨b, 2, none⟩) hbase _).setCell (p := ⟨b, 7, none⟩) hbase _)
    have HW2 := Lib.hid hW2
    clear hb hR hW2
    go_wp2
    go_ret
    have h := HF.out
    rw [HW2.out] at h
    exact h

set_option maxHeartbeats 4000000 in
set_option maxRecDepth 100000 in
theorem meet23_any {base b : Nat} {st : St} {w : World} (cut : Bool) (hat : st.at_ = 2) (h : Rdr base b st w) (hB : base ≤ w.heap.size) (hl : st.now.length ≤ 1000000000) (ho : st.out.length ≤ 1000000000) :
    Calls Tryd.prog 29 #[.pointer (some ⟨b, 0, none⟩), .int .i64 3, .bool cut] w (MeetPost base b (meetL st 3 cut) w) := by
  have hlt := h.lt
  have hc7 : w.cell? ⟨b, 7, none⟩ = some (.int .i64 ((2 : Nat) : Int)) := by
    obtain ⟨o, pa, pv, h1, _⟩ := h
    have := h1.cell 7
    rw [← hat]; exact this
  have hr := meetL_at st 3 2 cut hat (by decide)
  obtain ⟨r, hrr⟩ : ∃ r, r = meetL st 3 cut := ⟨_, rfl⟩
  rw [← hrr] at hr ⊢
  clear hrr
  have HAT := Lib.hid hat
  clear hat
  have HR0 := Lib.hid hr
  clear hr
  go_enter Tryd.func29, Tryd.ntmps29
  go_wp2_with fail
  refine (take_any cut h hB hl).mono ?_
  obtain ⟨t, ht⟩ : ∃ t, t = (takeR st.now cut).1 := ⟨_, rfl⟩
  obtain ⟨m, hm⟩ : ∃ m, m = (takeR st.now cut).2 := ⟨_, rfl⟩
  rw [← ht, ← hm]
  rintro e w1 ⟨rfl, ⟨outv, pa, pv, hb, hR⟩, hB1⟩
  have HT := Lib.hid ht
  have HM := Lib.hid hm
  clear ht hm h
  have hlt1 := hb.lt
  have hbase := hb.base
  have f0 := hb.frozen 0
  have f1 := hb.frozen 1
  have f2 := hb.frozen 2
  have f3 := hb.frozen 3
  have f4 := hb.frozen 4
  have f7 := hb.frozen 7
  have c0 : w1.cell? ⟨b, 0, none⟩ = some outv := hb.cell 0
  have c1 : w1.cell? ⟨b, 1, none⟩ = some (.bool st.p.clash) := hb.cell 1
  have c2 : w1.cell? ⟨b, 2, none⟩ = some (.string (B st.p.o)) := hb.cell 2
  have c3 : w1.cell? ⟨b, 3, none⟩ = some (.string (B st.p.a)) := hb.cell 3
  have c4 : w1.cell? ⟨b, 4, none⟩ = some (.string (B st.p.b)) := hb.cell 4
  have c7 : w1.cell? ⟨b, 7, none⟩ = some (.int .i64 st.at_) := hb.cell 7
  rw [HAT.out] at c7
  cases m with
  | false =>
    clear hb hR
    have hr : r = none := by rw [HR0.out, ← HM.out]; rfl
    have HF := Lib.hid (show MeetPost base b r w (.returned (.bool false)) w1 from ⟨by rw [hr]; rfl, (fun st' hst => by rw [hr] at hst; cases hst), hB1⟩)
    clear hr
    go_wp2
    go_ret
    exact HF.out
  | true =>
    clear hb hR
    have hr : r = none := by rw [HR0.out, ← HM.out]; rfl
    have HF := Lib.hid (show MeetPost base b r w (.returned (.bool false)) w1 from ⟨by rw [hr]; rfl, (fun st' hst => by rw [hr] at hst; cases hst), hB1⟩)
    clear hr
    go_wp2
    go_ret
    exact HF.out

set_option maxHeartbeats 4000000 in
set_option maxRecDepth 100000 in
theorem meet30_any {base b : Nat} {st : St} {w : World} (cut : Bool) (hat : st.at_ = 3) (h : Rdr base b st w) (hB : base ≤ w.heap.size) (hl : st.now.length ≤ 1000000000) (ho : st.out.length ≤ 1000000000) :
    Calls Tryd.prog 29 #[.pointer (some ⟨b, 0, none⟩), .int .i64 0, .bool cut] w (MeetPost base b (meetL st 0 cut) w) := by
  have hlt := h.lt
  have hc7 : w.cell? ⟨b, 7, none⟩ = some (.int .i64 ((3 : Nat) : Int)) := by
    obtain ⟨o, pa, pv, h1, _⟩ := h
    have := h1.cell 7
    rw [← hat]; exact this
  have hr := meetL_at st 0 3 cut hat (by decide)
  obtain ⟨r, hrr⟩ : ∃ r, r = meetL st 0 cut := ⟨_, rfl⟩
  rw [← hrr] at hr ⊢
  clear hrr
  have HAT := Lib.hid hat
  clear hat
  have HR0 := Lib.hid hr
  clear hr
  go_enter Tryd.func29, Tryd.ntmps29
  go_wp2_with fail
  refine (take_any cut h hB hl).mono ?_
  obtain ⟨t, ht⟩ : ∃ t, t = (takeR st.now cut).1 := ⟨_, rfl⟩
  obtain ⟨m, hm⟩ : ∃ m, m = (takeR st.now cut).2 := ⟨_, rfl⟩
  rw [← ht, ← hm]
  rintro e w1 ⟨rfl, ⟨outv, pa, pv, hb, hR⟩, hB1⟩
  have HT := Lib.hid ht
  have HM := Lib.hid hm
  clear ht hm h
  have hlt1 := hb.lt
  have hbase := hb.base
  have f0 := hb.frozen 0
  have f1 := hb.frozen 1
  have f2 := hb.frozen 2
  have f3 := hb.frozen 3
  have f4 := hb.frozen 4
  have f7 := hb.frozen 7
  have c0 : w1.cell? ⟨b, 0, none⟩ = some outv := hb.cell 0
  have c1 : w1.cell? ⟨b, 1, none⟩ = some (.bool st.p.clash) := hb.cell 1
  have c2 : w1.cell? ⟨b, 2, none⟩ = some (.string (B st.p.o)) := hb.cell 2
  have c3 : w1.cell? ⟨b, 3, none⟩ = some (.string (B st.p.a)) := hb.cell 3
  have c4 : w1.cell? ⟨b, 4, none⟩ = some (.string (B st.p.b)) := hb.cell 4
  have c7 : w1.cell? ⟨b, 7, none⟩ = some (.int .i64 st.at_) := hb.cell 7
  rw [HAT.out] at c7
  cases m with
  | false =>
    clear hb hR
    have hr : r = none := by rw [HR0.out, ← HM.out]; rfl
    have HF := Lib.hid (show MeetPost base b r w (.returned (.bool false)) w1 from ⟨by rw [hr]; rfl, (fun st' hst => by rw [hr] at hst; cases hst), hB1⟩)
    clear hr
    go_wp2
    go_ret
    exact HF.out
  | true =>
    clear hb hR
    have hr : r = none := by rw [HR0.out, ← HM.out]; rfl
    have HF := Lib.hid (show MeetPost base b r w (.returned (.bool false)) w1 from ⟨by rw [hr]; rfl, (fun st' hst => by rw [hr] at hst; cases hst), hB1⟩)
    clear hr
    go_wp2
    go_ret
    exact HF.out

set_option maxHeartbeats 4000000 in
set_option maxRecDepth 100000 in
theorem meet31_any {base b : Nat} {st : St} {w : World} (cut : Bool) (hat : st.at_ = 3) (h : Rdr base b st w) (hB : base ≤ w.heap.size) (hl : st.now.length ≤ 1000000000) (ho : st.out.length ≤ 1000000000) :
    Calls Tryd.prog 29 #[.pointer (some ⟨b, 0, none⟩), .int .i64 1, .bool cut] w (MeetPost base b (meetL st 1 cut) w) := by
  have hlt := h.lt
  have hc7 : w.cell? ⟨b, 7, none⟩ = some (.int .i64 ((3 : Nat) : Int)) := by
    obtain ⟨o, pa, pv, h1, _⟩ := h
    have := h1.cell 7
    rw [← hat]; exact this
  have hr := meetL_at st 1 3 cut hat (by decide)
  obtain ⟨r, hrr⟩ : ∃ r, r = meetL st 1 cut := ⟨_, rfl⟩
  rw [← hrr] at hr ⊢
  clear hrr
  have HAT := Lib.hid hat
  clear hat
  have HR0 := Lib.hid hr
  clear hr
  go_enter Tryd.func29, Tryd.ntmps29
  go_wp2_with fail
  refine (take_any cut h hB hl).mono ?_
  obtain ⟨t, ht⟩ : ∃ t, t = (takeR st.now cut).1 := ⟨_, rfl⟩
  obtain ⟨m, hm⟩ : ∃ m, m = (takeR st.now cut).2 := ⟨_, rfl⟩
  rw [← ht, ← hm]
  rintro e w1 ⟨rfl, ⟨outv, pa, pv, hb, hR⟩, hB1⟩
  have HT := Lib.hid ht
  have HM := Lib.hid hm
  clear ht hm h
  have hlt1 := hb.lt
  have hbase := hb.base
  have f0 := hb.frozen 0
  have f1 := hb.frozen 1
  have f2 := hb.frozen 2
  have f3 := hb.frozen 3
  have f4 := hb.frozen 4
  have f7 := hb.frozen 7
  have c0 : w1.cell? ⟨b, 0, none⟩ = some outv := hb.cell 0
  have c1 : w1.cell? ⟨b, 1, none⟩ = some (.bool st.p.clash) := hb.cell 1
  have c2 : w1.cell? ⟨b, 2, none⟩ = some (.string (B st.p.o)) := hb.cell 2
  have c3 : w1.cell? ⟨b, 3, none⟩ = some (.string (B st.p.a)) := hb.cell 3
  have c4 : w1.cell? ⟨b, 4, none⟩ = some (.string (B st.p.b)) := hb.cell 4
  have c7 : w1.cell? ⟨b, 7, none⟩ = some (.int .i64 st.at_) := hb.cell 7
  rw [HAT.out] at c7
  cases m with
  | false =>
    clear hb hR
    have hr : r = none := by rw [HR0.out, ← HM.out]; rfl
    have HF := Lib.hid (show MeetPost base b r w (.returned (.bool false)) w1 from ⟨by rw [hr]; rfl, (fun st' hst => by rw [hr] at hst; cases hst), hB1⟩)
    clear hr
    go_wp2
    go_ret
    exact HF.out
  | true =>
    clear hb hR
    have hr : r = none := by rw [HR0.out, ← HM.out]; rfl
    have HF := Lib.hid (show MeetPost base b r w (.returned (.bool false)) w1 from ⟨by rw [hr]; rfl, (fun st' hst => by rw [hr] at hst; cases hst), hB1⟩)
    clear hr
    go_wp2
    go_ret
    exact HF.out

set_option maxHeartbeats 4000000 in
set_option maxRecDepth 100000 in
theorem meet32_any {base b : Nat} {st : St} {w : World} (cut : Bool) (hat : st.at_ = 3) (h : Rdr base b st w) (hB : base ≤ w.heap.size) (hl : st.now.length ≤ 1000000000) (ho : st.out.length ≤ 1000000000) :
    Calls Tryd.prog 29 #[.pointer (some ⟨b, 0, none⟩), .int .i64 2, .bool cut] w (MeetPost base b (meetL st 2 cut) w) := by
  have hlt := h.lt
  have hc7 : w.cell? ⟨b, 7, none⟩ = some (.int .i64 ((3 : Nat) : Int)) := by
    obtain ⟨o, pa, pv, h1, _⟩ := h
    have := h1.cell 7
    rw [← hat]; exact this
  have hr := meetL_at st 2 3 cut hat (by decide)
  obtain ⟨r, hrr⟩ : ∃ r, r = meetL st 2 cut := ⟨_, rfl⟩
  rw [← hrr] at hr ⊢
  clear hrr
  have HAT := Lib.hid hat
  clear hat
  have HR0 := Lib.hid hr
  clear hr
  go_enter Tryd.func29, Tryd.ntmps29
  go_wp2_with fail
  refine (take_any cut h hB hl).mono ?_
  obtain ⟨t, ht⟩ : ∃ t, t = (takeR st.now cut).1 := ⟨_, rfl⟩
  obtain ⟨m, hm⟩ : ∃ m, m = (takeR st.now cut).2 := ⟨_, rfl⟩
  rw [← ht, ← hm]
  rintro e w1 ⟨rfl, ⟨outv, pa, pv, hb, hR⟩, hB1⟩
  have HT := Lib.hid ht
  have HM := Lib.hid hm
  clear ht hm h
  have hlt1 := hb.lt
  have hbase := hb.base
  have f0 := hb.frozen 0
  have f1 := hb.frozen 1
  have f2 := hb.frozen 2
  have f3 := hb.frozen 3
  have f4 := hb.frozen 4
  have f7 := hb.frozen 7
  have c0 : w1.cell? ⟨b, 0, none⟩ = some outv := hb.cell 0
  have c1 : w1.cell? ⟨b, 1, none⟩ = some (.bool st.p.clash) := hb.cell 1
  have c2 : w1.cell? ⟨b, 2, none⟩ = some (.string (B st.p.o)) := hb.cell 2
  have c3 : w1.cell? ⟨b, 3, none⟩ = some (.string (B st.p.a)) := hb.cell 3
  have c4 : w1.cell? ⟨b, 4, none⟩ = some (.string (B st.p.b)) := hb.cell 4
  have c7 : w1.cell? ⟨b, 7, none⟩ = some (.int .i64 st.at_) := hb.cell 7
  rw [HAT.out] at c7
  cases m with
  | false =>
    clear hb hR
    have hr : r = none := by rw [HR0.out, ← HM.out]; rfl
    have HF := Lib.hid (show MeetPost base b r w (.returned (.bool false)) w1 from ⟨by rw [hr]; rfl, (fun st' hst => by rw [hr] at hst; cases hst), hB1⟩)
    clear hr
    go_wp2
    go_ret
    exact HF.out
  | true =>
    clear hb hR
    have hr : r = none := by rw [HR0.out, ← HM.out]; rfl
    have HF := Lib.hid (show MeetPost base b r w (.returned (.bool false)) w1 from ⟨by rw [hr]; rfl, (fun st' hst => by rw [hr] at hst; cases hst), hB1⟩)
    clear hr
    go_wp2
    go_ret
    exact HF.out

end Go.Proofs.YtggeelejmhihdaaDoor.Mt
