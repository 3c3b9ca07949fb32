/- Contracts of package marker: the reader. -/
import Derived.Test.YtggeelejmhihdaaDoorMm
import Derived.Test.YtggeelejmhihdaaDoorBl
import Derived.Maps.AppendAt
import Derived.Deep.RegionHeld3
import Derived.Deep.AppendLies
import Derived.StillTactics
import Derived.Laws.Pointers
namespace Go.Proofs.YtggeelejmhihdaaDoor.Mr
open Go.RowKit Go.Shelf Go.Proofs.YtggeelejmhihdaaDoor.Pl Go.Proofs.YtggeelejmhihdaaDoor.Ut Go.Proofs.YtggeelejmhihdaaDoor.Ln Go.Proofs.YtggeelejmhihdaaDoor.Bl Go.Proofs.YtggeelejmhihdaaDoor.Mk Go.Proofs.YtggeelejmhihdaaDoor.Ml Go.Proofs.YtggeelejmhihdaaDoor.Mm Go.Proofs.YtggeelejmhihdaaDoorW.PrintWords
set_option linter.unusedVariables false
set_option linter.unusedSimpArgs false
attribute [local go_sem] B_append B_extract B_toList B_size take_end addr_off

theorem R_others {α : Type} {d : Kd α} {e t : Nat} {b : Nat} {w w' : World} {base : Nat} {ok : Nat → Prop} {v : Value} {xs : List α} (h : d.R e w base ok v xs) (hO : Lib.OthersKept t (some b) w w') (hok : ∀ k, ok k → k ≠ b) (ht : ∀ q, q ∈ e :: d.E → q ≠ t) : d.R e w' base ok v xs := by
  refine Kd.R_mono (Kd.R_move (Kd.R_bound h) (fun k hk => ?_)) (fun _ hk => hk.1)
  obtain ⟨h1, h2, h3, q, hq, cells, hc⟩ := hk
  rw [hc]
  exact hO k _ hc (fun e1 => hok k h1 (Option.some.inj e1)) (fun c fz e1 => by injection e1 with _ e2; exact ht q hq e2)

theorem Bld.grown {T : TypeId} {Bs b off : Nat} {cs : Array Value} {l : Str} {w w' : World} (h : Bld T Bs b off cs l w) {row : Option Nat} (hg : w.grownBy w' row) (hr : ∀ g, row = some g → ∃ cells e, w.heap[g]? = some (.cells cells e (0, 0)) ∧ e ≠ T ∧ e ≠ 5) : Bld T Bs b off cs l w' := by
  obtain ⟨hb, hT, hk, ha, v, hv, ho⟩ := h
  have hne : some b ≠ row := by
    intro e
    obtain ⟨cells, e', hc, h1, _⟩ := hr b e.symm
    rw [hk] at hc
    injection hc with hc
    injection hc with _ hc
    exact h1 hc.symm
  refine ⟨hb, hT, (hg.block b (Array.getElem?_eq_some_iff.1 hk).1 hne).trans hk, ha, v, hv, ho.kept hg ?_⟩
  cases hrow : row with
  | none =>
    cases hv : v.ownBlock with
    | none => exact .inl rfl
    | some g => exact .inr (by simp)
  | some g =>
    refine .inr fun e => ?_
    obtain ⟨cells, e', hc, _, h2⟩ := hr g hrow
    obtain ⟨c, fz, hc2⟩ := Lib.ownsRowF_kind ho g e
    rw [hc] at hc2
    injection hc2 with hc2
    injection hc2 with _ hc2
    exact h2 hc2

theorem Bld.drew {T : TypeId} {Bs b off : Nat} {cs : Array Value} {l : Str} {w : World} (h : Bld T Bs b off cs l w) : Bld T Bs b off cs l w.drew := h.below (Below.refl _ _).drew

/-- Block b, the rows of parts and the rows of bytes apart, what is kept from w to w'. -/
def TK (b : Nat) (w w' : World) : Prop := ∀ k cs t fz, w.heap[k]? = some (.cells cs t fz) → k ≠ b → t ≠ 5 → t ≠ 29 → w'.heap[k]? = some (.cells cs t fz)
theorem TK.refl (b : Nat) (w : World) : TK b w w := fun _ _ _ _ h _ _ _ => h
theorem TK.trans {b : Nat} {w w1 w2 : World} (h : TK b w w1) (h2 : TK b w1 w2) : TK b w w2 := fun k cs t fz hk h1 h3 h4 => h2 k cs t fz (h k cs t fz hk h1 h3 h4) h1 h3 h4
theorem TK.of_others {b : Nat} {w w' : World} (h : Lib.OthersKept 5 (some b) w w') : TK b w w' := fun k cs t fz hk h1 h3 h4 => h k _ hk (fun e => h1 (Option.some.inj e)) (fun c f e => by injection e with _ e; exact h3 e)
theorem TK.of_below {b : Nat} {w w' : World} (h : Below w.heap.size w w') : TK b w w' := fun k cs t fz hk _ _ _ => (h.block k (Array.getElem?_eq_some_iff.1 hk).1).trans hk
theorem TK.of_set {b : Nat} (w : World) {p : Addr} (hp : p.block = b) (v : Value) : TK b w (w.setCell p v) := fun k cs t fz hk h1 _ _ => (Below.heap_setCell _ _ _ _ (fun e => h1 (by rw [← hp, e]))).trans hk
theorem TK.of_grown {b : Nat} {w w' : World} {row : Option Nat} (hg : w.grownBy w' row) (hr : ∀ g, row = some g → ∃ cells e, w.heap[g]? = some (.cells cells e (0, 0)) ∧ e = 29) : TK b w w' := by
  intro k cs t fz hk h1 h3 h4
  refine (hg.block k (Array.getElem?_eq_some_iff.1 hk).1 (fun e => ?_)).trans hk
  obtain ⟨cells, e', hc, he⟩ := hr k e.symm
  rw [hk] at hc
  injection hc with hc
  injection hc with _ hc
  exact h4 (hc.trans he)
/-- What the reader's steps leave alone. -/
structure Bel (base b : Nat) (w w' : World) : Prop where
  bel : Below base w w'
  tk : TK b w w'
theorem Bel.size {base b : Nat} {w w' : World} (h : Bel base b w w') : w.heap.size ≤ w'.heap.size := h.bel.size
theorem Bel.refl (base b : Nat) (w : World) : Bel base b w w := ⟨Below.refl _ _, TK.refl _ _⟩
theorem Bel.trans {base b : Nat} {w w1 w2 : World} (h : Bel base b w w1) (h2 : Bel base b w1 w2) : Bel base b w w2 := ⟨h.bel.trans h2.bel, h.tk.trans h2.tk⟩
theorem Bel.setCell {base b : Nat} {w w' : World} (h : Bel base b w w') {p : Addr} (hp : base ≤ p.block) (v : Value) (hb : p.block = b := by rfl) : Bel base b w (w'.setCell p v) := ⟨h.bel.setCell hp v, h.tk.trans (TK.of_set _ hb v)⟩
theorem Bel.quiet {base b : Nat} {w w' : World} (hB : base ≤ w.heap.size) (h : Below w.heap.size w w') : Bel base b w w' := ⟨h.mono hB, TK.of_below h⟩
theorem R_tk {α : Type} {d : Kd α} {e b : Nat} {w w' : World} {base : Nat} {ok : Nat → Prop} {v : Value} {xs : List α} (h : d.R e w base ok v xs) (hO : TK b w w') (hok : ∀ k, ok k → k ≠ b) (ht : ∀ q, q ∈ e :: d.E → q ≠ 5 ∧ q ≠ 29) : d.R e w' base ok v xs := by
  refine Kd.R_mono (Kd.R_move (Kd.R_bound h) (fun k hk => ?_)) (fun _ hk => hk.1)
  obtain ⟨h1, h2, h3, q, hq, cells, hc⟩ := hk
  rw [hc]
  exact hO k _ _ _ hc (hok k h1) (ht q hq).1 (ht q hq).2

/-- The reader's cells. -/
def rCells (outv : Value) (p : Part) (pa pv : Value) (at_ : Nat) : Array Value := #[outv, .bool p.clash, .string (B p.o), .string (B p.a), .string (B p.b), pa, pv, .int .i64 at_]
/-- Block b is a reader in a state; the parts that it has told are outv. -/
def Rdr (base b : Nat) (st : St) (w : World) : Prop :=
  ∃ outv pa pv, Bld 61 base b 5 (rCells outv st.p pa pv st.at_) st.now w ∧ kPart.R 29 w base (fun k => k ≠ b) outv st.out
theorem lies_reader : liesAt Tryd.prog Tryd.prog.depth 61 (8 / Tryd.prog.cellsOf 61) 5 42 1 = true := by kernel_rfl
theorem Rdr.lt {base b : Nat} {st : St} {w : World} (h : Rdr base b st w) : b < w.heap.size := by obtain ⟨_, _, _, h, _⟩ := h; exact h.lt
theorem Rdr.below {base b : Nat} {st : St} {w w' : World} (h : Rdr base b st w) (hb : Below w.heap.size w w') : Rdr base b st w' := by
  obtain ⟨o, pa, pv, h1, h2⟩ := h
  exact ⟨o, pa, pv, h1.below hb, Kd.R_below h2 hb⟩

/-- What take hands back. -/
def takeR (now : Str) (cut : Bool) : Str × Bool := if cut then (Lib.trimSuffix now [10], Lib.hasSuffix now [10]) else (now, true)

set_option maxHeartbeats 2000000 in
set_option maxRecDepth 100000 in
theorem take_any {base b : Nat} {st : St} {w : World} (cut : Bool) (h : Rdr base b st w) (hB : base ≤ w.heap.size) (hl : st.now.length ≤ 1000000000) :
    Calls Tryd.prog 39 #[.pointer (some ⟨b, 0, none⟩), .bool cut] w fun e w' =>
      e = .returned (.tuple #[.string (B (takeR st.now cut).1), .bool (takeR st.now cut).2]) ∧ Rdr base b { st with now := [] } w' ∧ Bel base b w w' := by
  obtain ⟨outv, pa, pv, hb, hR⟩ := h
  obtain ⟨now, hnow⟩ : ∃ now, now = st.now := ⟨_, rfl⟩
  rw [← hnow] at hb hl
  have HN := Lib.hid hnow
  clear hnow
  go_enter Tryd.func39, Tryd.ntmps39
  go_wp2_with fail
  refine (string_any hb hB).mono ?_
  rintro e w1 ⟨rfl, hb1, hB1, hO1⟩
  have hR1 := R_others hR hO1 (fun _ h => h) (by decide)
  clear hR
  go_wp2_with fail
  refine (reset_any hb1).mono ?_
  rintro e w2 ⟨rfl, hb2, hB2, hO2⟩
  have hR2 := R_others hR1 hO2 (fun _ h => h) (by decide)
  clear hR1
  have hBB : Bel base b w w2 := ⟨hB1.trans hB2, (TK.of_others hO1).trans (TK.of_others hO2)⟩
  have HR := Lib.hid (show Rdr base b { st with now := [] } w2 from ⟨outv, _, _, hb2, hR2⟩)
  clear hR2 hb2 hb1 hb
  cases cut with
  | false =>
    go_wp2
    go_ret2
    exact ⟨by rw [← HN.out]; rfl, HR.out, hBB⟩
  | true =>
    go_wp2_with fail
    refine (Tryd.strings_CutSuffix (B now) (B [10]) _ (by rw [B_size]; omega)).mono ?_
    rintro e w' ⟨rfl, rfl⟩
    go_wp2
    go_ret2
    exact ⟨by rw [← HN.out]; rfl, HR.out, hBB⟩

theorem row_part {w : World} {base b : Nat} {outv : Value} {l : List Part} (h : kPart.R 29 w base (fun k => k ≠ b) outv l) : ∀ g, outv.ownBlock = some g → ∃ cells e, w.heap[g]? = some (.cells cells e (0, 0)) ∧ e = 29 := by
  intro g hg
  obtain ⟨inner, ho⟩ := Kd.R_own h
  obtain ⟨cells, hc⟩ := own_typed ho g hg
  exact ⟨cells, _, hc, rfl⟩
theorem infoPart : (Tryd.prog.info? 29).map (fun i => (i.zero, i.size, i.bytes)) = some (some (.agg #[.bool false, .string ⟨#[]⟩, .string ⟨#[]⟩, .string ⟨#[]⟩]), kPart.sz, 56) := by kernel_rfl
theorem row_other {w : World} {base b : Nat} {outv : Value} {l : List Part} (h : kPart.R 29 w base (fun k => k ≠ b) outv l) : ∀ g, outv.ownBlock = some g → ∃ cells e, w.heap[g]? = some (.cells cells e (0, 0)) ∧ e ≠ 61 ∧ e ≠ 5 := by
  intro g hg
  obtain ⟨inner, ho⟩ := Kd.R_own h
  obtain ⟨cells, hc⟩ := own_typed ho g hg
  exact ⟨cells, _, hc, by decide, by decide⟩

set_option maxHeartbeats 4000000 in
set_option maxRecDepth 100000 in
theorem outer_any {base b : Nat} {st : St} {w : World} (h : Rdr base b st w) (hB : base ≤ w.heap.size) (hl : st.now.length ≤ 1000000000) (ho : st.out.length ≤ 1000000000) :
    Calls Tryd.prog 30 #[.pointer (some ⟨b, 0, none⟩)] w fun e w' =>
      e = .returned (.tuple #[]) ∧ Rdr base b { st with out := outerL st.out st.now, now := [] } w' ∧ Bel base b w w' := by
  obtain ⟨now, hnow⟩ : ∃ now, now = st.now := ⟨_, rfl⟩
  go_enter Tryd.func30, Tryd.ntmps30
  go_wp2_with fail
  refine (take_any false h hB hl).mono ?_
  rintro e w1 ⟨rfl, hR, hB1⟩
  have hsz := hB1.size
  have e1 : (takeR st.now false).1 = now := hnow.symm
  have e2 : (takeR st.now false).2 = true := rfl
  rw [e1, e2]
  have HN := Lib.hid hnow
  clear hnow e1 e2 h
  by_cases hn : now = []
  · have hn1 : (now != []) = false := by rw [hn]; rfl
    have HH := Lib.hid hn
    have hn2 : (!List.isEmpty now) = false := by rw [hn]; rfl
    clear hn
    go_wp2
    go_end0
    refine ⟨rfl, ?_, hB1⟩
    rw [show outerL st.out st.now = st.out by unfold outerL; rw [← HN.out, if_pos HH.out]]
    exact hR
  · have hn2 : (!List.isEmpty now) = true := by simpa using hn
    have hlt := hR.lt
    obtain ⟨outv, pa, pv, hb, hR⟩ := hR
    have c0 : w1.cell? ⟨b, 0, none⟩ = some outv := hb.cell 0
    have hrow := row_other hR
    have HROW := Lib.hid hrow
    have HROW2 := Lib.hid (fun g hg => row_part hR g hg)
    clear hrow
    go_wp2_with (at_builtin; refine Kd.R_append kPart base rfl _ _ 22 29 _ 56 rfl Tryd.underlying22 infoPart rfl (by decide) (by decide) outv st.out ⟨false, now, now, now⟩ _ (fun k => k ≠ b) (fun _ => False) rfl rfl (kPart_mk _ _ _ _) ?k1 ?k2 hR (Below.refl base w1) (by omega) (by omega) ?_)
    case k1 => exact fun _ h => h.elim
    case k2 => exact fun k hk => by omega
    intro v1 w2 hR2 hb2 hg2 _
    have hbl2 := Bld.grown hb hg2 HROW.out
    have d0 : w2.cell? ⟨b, 0, none⟩ = some outv := hbl2.cell 0
    have f0 := hbl2.frozen 0
    have hlt2 := hbl2.lt
    obtain ⟨A1, c1, rfl⟩ := Kd.R_slice hR2
    have hbl3 := Lib.hid (hbl2.put (j := 0) (by decide) (by decide) (.slice A1 (st.out ++ [(⟨false, now, now, now⟩ : Part)]).length c1))
    have hR3 := Lib.hid (Kd.R_far hR2 (p := ⟨b, 0, none⟩) (fun _ h => h) (.slice A1 (st.out ++ [(⟨false, now, now, now⟩ : Part)]).length c1))
    have hbb := Lib.hid ((hB1.trans ⟨hb2, TK.of_grown hg2 HROW2.out⟩).setCell (p := ⟨b, 0, none⟩) hb.base (.slice A1 (st.out ++ [(⟨false, now, now, now⟩ : Part)]).length c1))
    have HNN := Lib.hid hn
    clear hb hR hR2 hbl2 hg2 hb2 hn
    obtain ⟨L, hL⟩ : ∃ L, L = (st.out ++ [(⟨false, now, now, now⟩ : Part)]).length := ⟨_, rfl⟩
    rw [← hL] at hbl3 hR3 hbb ⊢
    have HL := Lib.hid hL
    clear hL
    go_wp2
    go_end0
    refine ⟨rfl, ⟨_, pa, pv, hbl3.out, ?_⟩, hbb.out⟩
    rw [show outerL st.out st.now = st.out ++ [⟨false, now, now, now⟩] by unfold outerL; rw [← HN.out, if_neg HNN.out]]
    exact hR3.out

/-- What meet's answer leaves. -/
def MeetPost (base b : Nat) (r : Option St) (w : World) (e : Ending) (w' : World) : Prop :=
  e = .returned (.bool r.isSome) ∧ (∀ st', r = some st' → Rdr base b st' w') ∧ Bel base b w w'

theorem takeL_R (now : Str) (cut : Bool) : takeL now cut = if (takeR now cut).2 then some (takeR now cut).1 else none := by
  cases cut with
  | false => rfl
  | true =>
    unfold takeL takeR Lib.trimSuffix
    simp only [if_true]
    by_cases h : now.getLast? = some 10
    · have hs : Lib.hasSuffix now [10] = true := by
        unfold Lib.hasSuffix
        rw [List.isSuffixOf_iff_suffix]
        obtain ⟨t, rfl⟩ := List.getLast?_eq_some_iff.1 h
        exact ⟨t, rfl⟩
      rw [if_pos h, hs]
      simp [List.dropLast_eq_take]
    · have hs : Lib.hasSuffix now [10] = false := by
        rw [Bool.eq_false_iff]
        unfold Lib.hasSuffix
        rw [ne_eq, List.isSuffixOf_iff_suffix]
        rintro ⟨t, rfl⟩
        exact h (by simp)
      rw [if_neg h, hs]
      rfl

set_option maxHeartbeats 4000000 in
set_option maxRecDepth 100000 in
theorem meet0_any {base b : Nat} {st : St} {w : World} (k : Nat) (cut : Bool) (hat : st.at_ = 0) (h : Rdr base b st w) (hB : base ≤ w.heap.size) (hl : st.now.length ≤ 1000000000) (ho : st.out.length ≤ 1000000000) :
    Calls Tryd.prog 29 #[.pointer (some ⟨b, 0, none⟩), .int .i64 k, .bool cut] w (MeetPost base b (meetL st k cut) w) := by
  have hlt := h.lt
  have hc7 : w.cell? ⟨b, 7, none⟩ = some (.int .i64 ((0 : Nat) : Int)) := by
    obtain ⟨o, pa, pv, h1, _⟩ := h
    have := h1.cell 7
    rw [← hat]; exact this
  have HAT := Lib.hid hat
  clear hat
  obtain ⟨r, hr⟩ : ∃ r, r = meetL st k cut := ⟨_, rfl⟩
  have hr1 : (k = 0 ∧ cut = false ∧ r = some ⟨outerL st.out st.now, ⟨true, [], [], []⟩, [], 1⟩) ∨ ((k ≠ 0 ∨ cut = true) ∧ r = none) := by
    rw [hr]; unfold meetL
    rw [if_pos HAT.out]
    by_cases hc : k = 0 ∧ cut = false
    · exact .inl ⟨hc.1, hc.2, by rw [if_pos hc]⟩
    · refine .inr ⟨?_, by rw [if_neg hc]⟩
      by_cases hk : k = 0
      · right; cases cut with
        | true => rfl
        | false => exact absurd ⟨hk, rfl⟩ hc
      · exact .inl hk
  rw [← hr]
  clear hr
  go_enter Tryd.func29, Tryd.ntmps29
  go_wp2_with fail
  refine (outer_any h hB hl ho).mono ?_
  rintro e w1 ⟨rfl, ⟨outv, pa, pv, hb, hR⟩, hB1⟩
  have hlt1 := hb.lt
  have hbase := hb.base
  have f1 := hb.frozen 1
  have f2 := hb.frozen 2
  have f3 := hb.frozen 3
  have f4 := hb.frozen 4
  have f7 := hb.frozen 7
  have c1 : w1.cell? ⟨b, 1, none⟩ = some (.bool st.p.clash) := hb.cell 1
  have c2 : w1.cell? ⟨b, 2, none⟩ = some (.string (B st.p.o)) := hb.cell 2
  have c3 : w1.cell? ⟨b, 3, none⟩ = some (.string (B st.p.a)) := hb.cell 3
  have c4 : w1.cell? ⟨b, 4, none⟩ = some (.string (B st.p.b)) := hb.cell 4
  have c7 : w1.cell? ⟨b, 7, none⟩ = some (.int .i64 st.at_) := hb.cell 7
  rw [HAT.out] at c7
  obtain ⟨W5, hW5⟩ : ∃ W5, W5 = (((((w1.setCell ⟨b, 1, none⟩ (.bool true)).setCell ⟨b, 2, none⟩ (.string (B []))).setCell ⟨b, 3, none⟩ (.string (B []))).setCell ⟨b, 4, none⟩ (.string (B []))).setCell ⟨b, 7, none⟩ (.int .i64 1)) := ⟨_, rfl⟩
  have HRD := Lib.hid (show Rdr base b ⟨outerL st.out st.now, ⟨true, [], [], []⟩, [], 1⟩ W5 from by
    rw [hW5]
    exact ⟨outv, pa, pv, ((((hb.put (j := 1) (by decide) (by decide) (.bool true)).put (j := 2) (by decide) (by decide) (.string (B []))).put (j := 3) (by decide) (by decide) (.string (B []))).put (j := 4) (by decide) (by decide) (.string (B []))).put (j := 7) (by decide) (by decide) (.int .i64 1),
      Kd.R_far (Kd.R_far (Kd.R_far (Kd.R_far (Kd.R_far hR (fun _ h => h) _) (fun _ h => h) _) (fun _ h => h) _) (fun _ h => h) _) (fun _ h => h) _⟩)
  have HBB := Lib.hid (show Bel base b w W5 from by
    rw [hW5]
    exact ((((hB1.setCell (p := ⟨b, 1, none⟩) hbase _).setCell (p := ⟨b, 2, none⟩) hbase _).setCell (p := ⟨b, 3, none⟩) hbase _).setCell (p := ⟨b, 4, none⟩) hbase _).setCell (p := ⟨b, 7, none⟩) hbase _)
  have HW5 := Lib.hid hW5
  clear hb hR h hW5
  have hfin : ∀ v : Bool, v = r.isSome → MeetPost base b r w (.returned (.bool v)) W5 := by
    intro v hv
    refine ⟨by rw [hv], fun st' hst => ?_, HBB.out⟩
    rcases hr1 with ⟨_, _, rfl⟩ | ⟨_, rfl⟩
    · cases hst; exact HRD.out
    · cases hst
  have HF := Lib.hid hfin
  clear hfin
  have HR1 := Lib.hid hr1
  rcases hr1 with ⟨rfl, rfl, hr⟩ | ⟨hk, hr⟩
  · have HRR := Lib.hid hr
    clear hr
    go_wp2
    go_ret
    have h := HF.out true (by rw [HRR.out]; rfl)
    rw [HW5.out] at h
    exact h
  · have HRR := Lib.hid hr
    clear hr
    by_cases hk0 : k = 0
    · subst hk0
      have hcut : cut = true := hk.resolve_left (by simp)
      subst hcut
      clear hk
      go_wp2
      go_ret
      have h := HF.out false (by rw [HRR.out]; rfl)
      rw [HW5.out] at h
      exact h
    · have hk1 : ((k : Int) == 0) = false := by rw [beq_eq_false_iff_ne]; omega
      clear hk hk0
      go_wp2
      go_ret
      have h := HF.out false (by rw [HRR.out]; rfl)
      rw [HW5.out] at h
      exact h

end Go.Proofs.YtggeelejmhihdaaDoor.Mr
