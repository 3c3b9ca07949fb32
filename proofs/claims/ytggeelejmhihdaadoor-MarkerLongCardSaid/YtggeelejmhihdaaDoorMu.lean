/- Contracts of package marker: the reader's meet, at the last mark. -/
import Derived.Test.YtggeelejmhihdaaDoorMt
import Derived.Deep.RegionLaw
import Derived.RegionTactic
namespace Go.Proofs.YtggeelejmhihdaaDoor.Mu
open Go.RowKit Go.Shelf Go.Proofs.YtggeelejmhihdaaDoor.Pl Go.Proofs.YtggeelejmhihdaaDoor.Ut Go.Proofs.YtggeelejmhihdaaDoor.Ln Go.Proofs.YtggeelejmhihdaaDoor.Bl Go.Proofs.YtggeelejmhihdaaDoor.Mk Go.Proofs.YtggeelejmhihdaaDoor.Ml Go.Proofs.YtggeelejmhihdaaDoor.Mm Go.Proofs.YtggeelejmhihdaaDoor.Mr Go.Proofs.YtggeelejmhihdaaDoor.Mt Go.Proofs.YtggeelejmhihdaaDoorW.PrintWords
set_option linter.unusedVariables false
set_option linter.unusedSimpArgs false
attribute [local go_sem] B_append B_extract B_toList B_size take_end addr_off

section
variable {ops : Array Oper} {o : Oper} {a : Act} {Q : Exit → Act → World → Prop} {Kc : Act → World → Prop}
/-- The append of a part to the reader's own row, and what the two stores behind it leave. -/
theorem app_step {base b : Nat} {out : List Part} {now : Str} {w W2 : World} {outv pa pv : Value} {q p : Part} {at_ : Nat}
    (HB2 : Bld 61 base b 5 (rCells outv q pa pv at_) now W2) (HR2 : kPart.R 29 W2 base (fun k => k ≠ b) outv out) (HBel : Bel base b w W2) (hbase : base ≤ w.heap.size) (hlo : out.length ≤ 1000000000)
    (hw : Region.wanted o (yielded ops a.tmps) = true) (s x : Operand)
    (ho : o.op = .call { callee := .builtin .append, args := #[s, x], argTypes := #[22, 22] })
    (hs : a.eval s = outv) (hx : a.eval x = .slice (some ⟨W2.drew.heap.size, 0, none⟩) 1 1)
    (h : ∀ A1 c1 n w3, w3.cell? ⟨b, 0, none⟩ = some outv → w3.frozen? ⟨b, 0, none⟩ = false → w3.cell? ⟨b, 7, none⟩ = some (.int .i64 at_) → w3.frozen? ⟨b, 7, none⟩ = false →
      Hid (Rdr base b ⟨out ++ [p], q, now, 0⟩ ((w3.setCell ⟨b, 0, none⟩ (.slice A1 n c1)).setCell ⟨b, 7, none⟩ (.int .i64 0))) →
      Hid (Bel base b w ((w3.setCell ⟨b, 0, none⟩ (.slice A1 n c1)).setCell ⟨b, 7, none⟩ (.int .i64 0))) → Kc (a.put o.dst (.slice A1 n c1)) w3) :
    if Region.wanted o (yielded ops a.tmps) = true then Oper.wp Tryd.prog o a (W2.drew.alloc (.cells #[.bool p.clash, .string (B p.o), .string (B p.a), .string (B p.b)] 29)) Kc Q else Kc (a.put o.dst undef) (W2.drew.alloc (.cells #[.bool p.clash, .string (B p.o), .string (B p.a), .string (B p.b)] 29)) := by
  have hsz := HBel.size
  have hlt := HB2.lt
  have hd : W2.drew.heap.size = W2.heap.size := rfl
  have hb0 := HB2.base
  refine Kd.R_append_step (W := W2.drew) (w0 := W2) kPart base hw s x 22 29 _ 56 ho Tryd.underlying22 infoPart rfl (by decide) (by decide) outv out p _ (fun k => k ≠ b) (fun _ => False) hs hx (kPart_mk _ _ _ _) (fun _ h => h.elim) (fun k hk => by omega) (Kd.R_drew HR2) (Below.refl base W2).drew (by omega) (by omega) ?_
  intro v1 w3 hR3 hb3 hg3 _
  obtain ⟨A1, c1, rfl⟩ := Kd.R_slice hR3
  have hbl := Bld.grown (Bld.drew HB2) hg3 (fun g hg => row_other HR2 g hg)
  refine h A1 c1 _ w3 (hbl.cell 0) (hbl.frozen 0) (hbl.cell 7) (hbl.frozen 7) (Lib.hid ⟨_, pa, pv, (hbl.put (j := 0) (by decide) (by decide) _).put (j := 7) (by decide) (by decide) (.int .i64 0), Kd.R_far (Kd.R_far hR3 (fun _ h => h) _) (fun _ h => h) _⟩) (Lib.hid (((HBel.trans ⟨hb3, (TK.of_below (Below.refl _ _).drew).trans (TK.of_grown hg3 (fun g hg => row_part (Kd.R_drew HR2) g hg))⟩).setCell (p := ⟨b, 0, none⟩) hb0 _).setCell (p := ⟨b, 7, none⟩) hb0 _))
end

set_option maxHeartbeats 4000000 in
set_option maxRecDepth 100000 in
theorem meet33_any {base b : Nat} {st : St} {w : World} (cut : Bool) (hat : st.at_ = 3) (h : Rdr base b st w) (hB : base ≤ w.heap.size) (hl : st.now.length ≤ 1000000000) (ho : st.out.length ≤ 1000000000) :
    Calls Tryd.prog 29 #[.pointer (some ⟨b, 0, none⟩), .int .i64 3, .bool cut] w (MeetPost base b (meetL st 3 cut) w) := by
  have hlt := h.lt
  have hc7 : w.cell? ⟨b, 7, none⟩ = some (.int .i64 ((3 : Nat) : Int)) := by
    obtain ⟨o, pa, pv, h1, _⟩ := h
    have := h1.cell 7
    rw [← hat]; exact this
  have hr := meetL_at st 3 3 cut hat (by decide)
  obtain ⟨r, hrr⟩ : ∃ r, r = meetL st 3 cut := ⟨_, rfl⟩
  rw [← hrr] at hr ⊢
  clear hrr
  have HAT := Lib.hid hat
  clear hat
  have HR0 := Lib.hid hr
  clear hr
  go_enter Tryd.func29, Tryd.ntmps29
  go_wp2_with fail
  refine (take_any cut h hB hl).mono ?_
  obtain ⟨t, ht⟩ : ∃ t, t = (takeR st.now cut).1 := ⟨_, rfl⟩
  obtain ⟨m, hm⟩ : ∃ m, m = (takeR st.now cut).2 := ⟨_, rfl⟩
  rw [← ht, ← hm]
  rintro e w1 ⟨rfl, ⟨outv, pa, pv, hb, hR⟩, hB1⟩
  have HT := Lib.hid ht
  have HM := Lib.hid hm
  clear ht hm h
  have hlt1 := hb.lt
  have hbase := hb.base
  have f0 := hb.frozen 0
  have f1 := hb.frozen 1
  have f2 := hb.frozen 2
  have f3 := hb.frozen 3
  have f4 := hb.frozen 4
  have f7 := hb.frozen 7
  have c0 : w1.cell? ⟨b, 0, none⟩ = some outv := hb.cell 0
  have c1 : w1.cell? ⟨b, 1, none⟩ = some (.bool st.p.clash) := hb.cell 1
  have c2 : w1.cell? ⟨b, 2, none⟩ = some (.string (B st.p.o)) := hb.cell 2
  have c3 : w1.cell? ⟨b, 3, none⟩ = some (.string (B st.p.a)) := hb.cell 3
  have c4 : w1.cell? ⟨b, 4, none⟩ = some (.string (B st.p.b)) := hb.cell 4
  have c7 : w1.cell? ⟨b, 7, none⟩ = some (.int .i64 st.at_) := hb.cell 7
  rw [HAT.out] at c7
  cases m with
  | false =>
    clear hb hR
    have hr : r = none := by rw [HR0.out, ← HM.out]; rfl
    have HF := Lib.hid (show MeetPost base b r w (.returned (.bool false)) w1 from ⟨by rw [hr]; rfl, (fun st' hst => by rw [hr] at hst; cases hst), hB1⟩)
    clear hr
    go_wp2
    go_ret
    exact HF.out
  | true =>
    go_wp2_with fail
    obtain ⟨W2, hW2⟩ : ∃ W2, W2 = w1.setCell ⟨b, 4, none⟩ (.string (B t)) := ⟨_, rfl⟩
    rw [← hW2]
    have hb2 : Bld 61 base b 5 (rCells outv { st.p with b := t } pa pv st.at_) [] W2 := by rw [hW2]; exact hb.put (j := 4) (by decide) (by decide) (.string (B t))
    have hR2 : kPart.R 29 W2 base (fun k => k ≠ b) outv st.out := by rw [hW2]; exact Kd.R_far hR (fun _ h => h) _
    have hB2 : Bel base b w W2 := by rw [hW2]; exact hB1.setCell (p := ⟨b, 4, none⟩) hbase _
    clear hb hR hB1 f0 f1 f2 f3 f4 f7 c0 c1 c2 c3 c4 c7 hW2
    have hlt2 := hb2.lt
    have hsz2 := hB2.size
    have c0 : W2.cell? ⟨b, 0, none⟩ = some outv := hb2.cell 0
    have c1 : W2.cell? ⟨b, 1, none⟩ = some (.bool st.p.clash) := hb2.cell 1
    have c2 : W2.cell? ⟨b, 2, none⟩ = some (.string (B st.p.o)) := hb2.cell 2
    have c3 : W2.cell? ⟨b, 3, none⟩ = some (.string (B st.p.a)) := hb2.cell 3
    have c4 : W2.cell? ⟨b, 4, none⟩ = some (.string (B t)) := hb2.cell 4
    have c7 : W2.cell? ⟨b, 7, none⟩ = some (.int .i64 st.at_) := hb2.cell 7
    rw [HAT.out] at c7
    have HB2 := Lib.hid hb2
    have HR2 := Lib.hid hR2
    have HBel := Lib.hid hB2
    have HRV := Lib.hid (show r = some ⟨st.out ++ [⟨st.p.clash, st.p.o, st.p.a, t⟩], ⟨st.p.clash, st.p.o, st.p.a, t⟩, [], 0⟩ from by rw [HR0.out, ← HM.out, ← HT.out]; rfl)
    clear hb2 hR2 hB2
    go_region_law ((refine app_step (p := ⟨st.p.clash, st.p.o, st.p.a, t⟩) HB2.out HR2.out HBel.out hB ho (by rfl) (.tmp 56) (.tmp 61) rfl (by rfl) (by rfl) ?_; intro A1 c1 n w3 d0 g0 d7 g7 HRd HBd))
    all_goals go_wp2
    all_goals go_ret
    all_goals exact ⟨by rw [HRV.out]; rfl, fun st' hst => by rw [HRV.out] at hst; cases hst; exact HRd.out, HBd.out⟩

/-- What a mark does, wherever the reader stands. -/
theorem meet_any {base b : Nat} {st : St} {w : World} (k : Nat) (cut : Bool) (hk : k ≤ 3) (hat : st.at_ ≤ 3) (h : Rdr base b st w) (hB : base ≤ w.heap.size) (hl : st.now.length ≤ 1000000000) (ho : st.out.length ≤ 1000000000) :
    Calls Tryd.prog 29 #[.pointer (some ⟨b, 0, none⟩), .int .i64 k, .bool cut] w (MeetPost base b (meetL st k cut) w) := by
  have h4 : st.at_ = 0 ∨ st.at_ = 1 ∨ st.at_ = 2 ∨ st.at_ = 3 := by omega
  have hk4 : k = 0 ∨ k = 1 ∨ k = 2 ∨ k = 3 := by omega
  rcases h4 with h4 | h4 | h4 | h4
  · exact meet0_any k cut h4 h hB hl ho
  · rcases hk4 with rfl | rfl | rfl | rfl
    · exact meet10_any cut h4 h hB hl ho
    · exact meet11_any cut h4 h hB hl ho
    · exact meet12_any cut h4 h hB hl ho
    · exact meet13_any cut h4 h hB hl ho
  · rcases hk4 with rfl | rfl | rfl | rfl
    · exact meet20_any cut h4 h hB hl ho
    · exact meet21_any cut h4 h hB hl ho
    · exact meet22_any cut h4 h hB hl ho
    · exact meet23_any cut h4 h hB hl ho
  · rcases hk4 with rfl | rfl | rfl | rfl
    · exact meet30_any cut h4 h hB hl ho
    · exact meet31_any cut h4 h hB hl ho
    · exact meet32_any cut h4 h hB hl ho
    · exact meet33_any cut h4 h hB hl ho

end Go.Proofs.YtggeelejmhihdaaDoor.Mu
