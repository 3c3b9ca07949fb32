/- Contracts of tree: find, Get. Contract of the reference ref05: Numbers. Contracts of tree: Paths. Contracts of fallback: three. Contracts of fallback: the inner function of Trees. Contracts of fallback: each, Trees. -/
import Derived.Test.YtogfkfkejaiecaaGreatDoorTh
import Derived.BigQuiet
import Derived.Test.YtogfkfkejaiecaaGreatDoorTb
import Derived.Sort.OwnSorted
import Derived.Test.YtogfkfkejaiecaaGreatDoorTf

namespace Go.Proofs.YtogfkfkejaiecaaGreatDoor.Ga
open Go.RowKit Go.Shelf Pl Ut Ln Dc Dn Go.Proofs.YtogfkfkejaiecaaGreatDoorW.PrintWords
set_option linter.unusedVariables false
set_option linter.unusedSimpArgs false
attribute [local go_sem] B_append B_extract B_toList B_size take_end

/-- A file: its path, its text. -/
abbrev Fl := Str × Str
def kFl : Kd Fl := Kd.pair kStr kStr
def flCells (x : Fl) : List Value := [.string (B x.1), .string (B x.2)]
theorem kFl_open {w : World} {x : Fl} {cs : List Value} (h : kFl.K w x cs) : cs = flCells x := by
  obtain ⟨_, _, rfl, rfl, rfl⟩ := h
  exact rfl
theorem kFl_mk (w : World) (base : Nat) (ok : Nat → Prop) (x : Fl) : kFl.M w base ok x (flCells x) := ⟨[.string (B x.1)], [.string (B x.2)], rfl, rfl, rfl⟩
theorem infoFl : (Tryz.prog.info? 49).map (fun i => (i.zero, i.size, i.bytes)) = some (some (.agg #[.string (B []), .string (B [])]), 2, 32) := by kernel_rfl
theorem at_fl {w : World} {A : Option Addr} {n : Nat} {xs : List Fl} (h : Kd.C kFl w A n xs) (k : Nat) (hk : k < n) (x : Fl) (hx : xs[k]? = some x) :
    ∃ ad, A = some ad ∧ w.cell? (ad.add (k * 2)) = some (.string (B x.1)) ∧ w.cell? ⟨(ad.add (k * 2)).block, (ad.add (k * 2)).off + 1, none⟩ = some (.string (B x.2)) := by
  obtain ⟨ad, c, e, _, hK, hc0⟩ := Kd.C_get h x (k : Int) (by omega) (by omega)
  have hd : xs.getD (k : Int).toNat x = x := by simp [List.getD, hx]
  rw [hd] at hK
  have hc : ∀ j u, c[j]? = some u → w.cell? (ad.add (k * 2 + j)) = some u := hc0
  obtain rfl := kFl_open hK
  exact ⟨ad, e, hc 0 _ rfl, by rw [← add_field _ _ 1 (by omega)]; exact hc 1 _ rfl⟩

/-- Where a path's first file stands, counted from k; below 0: nowhere. -/
def findK (p : Str) : List Fl → Nat → Int
  | [], _ => -1
  | f :: r, k => if f.1 = p then (k : Int) else findK p r (k + 1)
/-- A path's text. -/
def getL (l : List Fl) (p : Str) : Str × Bool := match l.find? (fun f => f.1 == p) with
  | some f => (f.2, true)
  | none => ([], false)
theorem findK_at {p : Str} {l : List Fl} {k : Nat} {x : Fl} (hx : l[k]? = some x) : findK p (l.drop k) k = if x.1 = p then (k : Int) else findK p (l.drop (k + 1)) (k + 1) := by
  obtain ⟨h1, h2⟩ := List.getElem?_eq_some_iff.1 hx
  rw [List.drop_eq_getElem_cons h1, h2]; rfl
theorem findK_get (p : Str) : ∀ (l : List Fl) (k : Nat), (findK p l k < 0 ∧ getL l p = ([], false)) ∨ ∃ i x, findK p l k = ((k + i : Nat) : Int) ∧ l[i]? = some x ∧ getL l p = (x.2, true)
  | [], k => .inl ⟨by simp [findK], rfl⟩
  | f :: r, k => by
    unfold findK
    by_cases h : f.1 = p
    · rw [if_pos h]
      exact .inr ⟨0, f, by simp, rfl, by unfold getL; simp [h]⟩
    · rw [if_neg h]
      have hg : getL (f :: r) p = getL r p := by unfold getL; simp [h]
      rw [hg]
      rcases findK_get p r (k + 1) with h1 | ⟨i, x, h1, h2, h3⟩
      · exact .inl h1
      · exact .inr ⟨i + 1, x, by rw [h1]; omega, by simpa using h2, h3⟩

theorem one_any (x : Fl) (p : Str) (g : Nat) (w : World) (hg : w.cell? ⟨g, 0, none⟩ = some (.string (B p))) :
    Calls Tryz.prog 95 #[.agg #[.string (B x.1), .string (B x.2)], .pointer (some ⟨g, 0, none⟩)] w fun e w' => e = .returned (.bool (x.1 == p)) ∧ Below w.heap.size w w' := by
  have hg' := cell_alloc hg (.cells #[.string (B x.1), .string (B x.2)] 49)
  go_enter Tryz.func95, Tryz.ntmps95
  go_wp2
  go_ret
  exact ⟨rfl, below_alloc (Below.refl _ _) _⟩

set_option maxRecDepth 100000 in
set_option maxHeartbeats 8000000 in
theorem indexF_any (xs : List Fl) (p : Str) (g : Nat) (A : Option Addr) (c : Nat) (w : World) (hC : Kd.C kFl w A xs.length xs) (hg : w.cell? ⟨g, 0, none⟩ = some (.string (B p))) (hl : xs.length ≤ 1000000000) :
    Calls Tryz.prog 94 #[.slice A xs.length c, .func (.func 95) #[] #[.pointer (some ⟨g, 0, none⟩)]] w fun e w' => e = .returned (.int .i64 (findK p xs 0)) ∧ Below w.heap.size w w' := by
  have HC := Lib.hid hC
  have HG := Lib.hid hg
  clear hC hg
  go_enter Tryz.func94, Tryz.ntmps94
  go_wp2
  go_loopw [8] (fun i wr => ∃ k : Nat, k ≤ xs.length ∧ i = .int .i64 (k : Int) ∧ Hid (findK p xs 0 = findK p (xs.drop k) k) ∧ Hid (Below w.heap.size w wr)) (fun i _ => xs.length - (intOf i).toNat)
  case atStart => exact ⟨0, by omega, rfl, Lib.hid rfl, Lib.hid (Below.refl _ _)⟩
  case round =>
    obtain ⟨k, hk, rfl, HN, HB⟩ := hrel
    rcases Nat.eq_or_lt_of_le hk with hk0 | hk0
    · have hlt : ¬ (k : Int) < (xs.length : Int) := by omega
      have HF := Lib.hid (show findK p xs 0 = -1 from by rw [HN.out, hk0, List.drop_length]; rfl)
      go_wp2
      go_ret
      exact ⟨by rw [HF.out]; rfl, HB.out⟩
    · have hlt : (k : Int) < (xs.length : Int) := by omega
      obtain ⟨x, hx⟩ : ∃ x, xs[k]? = some x := ⟨_, List.getElem?_eq_getElem hk0⟩
      obtain ⟨ad, rfl, e0, e1⟩ := at_fl (Kd.C_below HC.out HB.out) k hk0 x hx
      have HX := Lib.hid (findK_at (p := p) hx)
      have HK := Lib.hid hk0
      have HO := Lib.hid (one_any x p g wr (pw_cell_below HB.out HG.out))
      have cadd : IntKind.i64.wrap ((k : Int) + 1) = ((k + 1 : Nat) : Int) := by rw [IntWalk.i64_in _ (by omega)]; omega
      obtain ⟨bb, hbb⟩ : ∃ bb : Bool, bb = (x.1 == p) := ⟨_, rfl⟩
      rw [← hbb] at HO
      have HBO := Lib.hid hbb
      clear hbb hx
      cases bb with
      | true =>
        go_wp2_with (go_at_call 95; refine HO.out.mono ?_; rintro e w1 ⟨rfl, hb⟩; have HB1 := Lib.hid (HB.out.trans (hb.mono HB.out.size)); clear hb)
        go_ret
        have hxp : x.1 = p := by have := HBO.out; rw [eq_comm, beq_iff_eq] at this; exact this
        refine ⟨?_, HB1.out⟩
        rw [HN.out, HX.out, if_pos hxp]
        rfl
      | false =>
        go_wp2_with (go_at_call 95; refine HO.out.mono ?_; rintro e w1 ⟨rfl, hb⟩; have HB1 := Lib.hid (HB.out.trans (hb.mono HB.out.size)); clear hb)
        go_roundw
        case rel =>
          have hxp : ¬ x.1 = p := by have := HBO.out; rw [eq_comm, beq_eq_false_iff_ne] at this; exact this
          exact ⟨k + 1, HK.out, rfl, Lib.hid (by rw [HN.out, HX.out, if_neg hxp]), HB1⟩
        · have := HK.out; simp only [intOf]; omega

theorem find_any (xs : List Fl) (p : Str) (A : Option Addr) (c : Nat) (w : World) (hC : Kd.C kFl w A xs.length xs) (hl : xs.length ≤ 1000000000) :
    Calls Tryz.prog 74 #[.slice A xs.length c, .string (B p)] w fun e w' => e = .returned (.int .i64 (findK p xs 0)) ∧ Below w.heap.size w w' := by
  have hb0 : Below w.heap.size w (w.alloc (.cells #[.string (B p)] 9)) := below_alloc (Below.refl _ _) _
  have HI := Lib.hid (indexF_any xs p w.heap.size A c (w.alloc (.cells #[.string (B p)] 9)) (Kd.C_below hC hb0) (by rw [blk_cell (blk_new _ _)]; rfl) hl)
  have HB0 := Lib.hid hb0
  clear hC hb0
  go_enter Tryz.func74, Tryz.ntmps74
  go_wp2_with (go_at_call 94; refine HI.out.mono ?_; rintro e w1 ⟨rfl, hb⟩; have HB := Lib.hid (HB0.out.trans (hb.mono HB0.out.size)); clear hb)
  go_ret
  exact ⟨rfl, HB.out⟩

theorem get_any (xs : List Fl) (p : Str) (A : Option Addr) (c : Nat) (w : World) (hC : Kd.C kFl w A xs.length xs) (hl : xs.length ≤ 1000000000) :
    Calls Tryz.prog 54 #[.slice A xs.length c, .string (B p)] w fun e w' => e = .returned (.tuple #[.string (B (getL xs p).1), .bool (getL xs p).2]) ∧ Below w.heap.size w w' := by
  have HI := Lib.hid (find_any xs p A c w hC hl)
  have HC := Lib.hid hC
  clear hC
  rcases findK_get p xs 0 with ⟨h1, h2⟩ | ⟨i, x, h1, h2, h3⟩
  · obtain ⟨n, hn⟩ : ∃ n, n = findK p xs 0 := ⟨_, rfl⟩
    rw [← hn] at HI h1
    rw [h2]
    clear h2 hn
    have hd : decide (n < 0) = true := by rw [decide_eq_true_eq]; exact h1
    go_enter Tryz.func54, Tryz.ntmps54
    go_wp2_with (go_at_call 74; refine HI.out.mono ?_; rintro e w1 ⟨rfl, hb⟩; have HB := Lib.hid hb; clear hb)
    go_ret2
    exact ⟨rfl, HB.out⟩
  · rw [h1] at HI
    rw [h3]
    have hil := (List.getElem?_eq_some_iff.1 h2).1
    have HX := Lib.hid h2
    have HIL := Lib.hid hil
    rw [Nat.zero_add] at HI
    clear h1 h2 h3 hil
    have hd : decide ((i : Int) < 0) = false := by rw [decide_eq_false_iff_not]; omega
    have hlt : (i : Int) < (xs.length : Int) := by have := HIL.out; omega
    go_enter Tryz.func54, Tryz.ntmps54
    go_wp2_with fail
    refine HI.out.mono ?_
    rintro e w1 ⟨rfl, hb⟩
    have HB := Lib.hid hb
    obtain ⟨ad, rfl, e0, e1⟩ := at_fl (Kd.C_below HC.out hb) i HIL.out x HX.out
    clear hb
    go_wp2
    go_ret2
    exact ⟨rfl, HB.out⟩

end Go.Proofs.YtogfkfkejaiecaaGreatDoor.Ga

namespace Go.Proofs.YtogfkfkejaiecaaGreatDoor.Eg
open Go.RowKit Go.Shelf Pl Ut Ln Da Db Dc Dd Go.Proofs.YtogfkfkejaiecaaGreatDoorW.PrintWords
set_option linter.unusedVariables false
set_option linter.unusedSimpArgs false
attribute [local go_sem] B_append B_extract B_toList B_size take_end

theorem mem_nat {q : TypeId} (h : q ∈ 3 :: kNat.E) : q = 3 := by
  rcases List.mem_cons.1 h with h | h
  · exact h
  · cases h
theorem mem_str {q : TypeId} (h : q ∈ 9 :: kStr.E) : q = 9 := by
  rcases List.mem_cons.1 h with h | h
  · exact h
  · cases h
theorem mem_nats {q : TypeId} (h : q ∈ 130 :: kNats.E) : q = 130 ∨ q = 3 := by
  rcases List.mem_cons.1 h with h | h
  · exact .inl h
  · exact .inr (mem_nat h)
theorem nat_over_str {w w1 : World} {base : Nat} {ok ok' : Nat → Prop} {u v : Value} {xs : List Nat} {ys : List Str} (h : kNat.R 3 w base ok u xs) (hv : kStr.R 9 w base ok' v ys) (hg : w.grownBy w1 v.ownBlock) : kNat.R 3 w1 base ok u xs :=
  Kd.R_over' (v := v) h (Kd.R_typed hv) (fun q hq => by rw [mem_nat hq]; decide) hg
theorem nats_over_str {w w1 : World} {base : Nat} {ok ok' : Nat → Prop} {u v : Value} {xs : List (List Nat)} {ys : List Str} (h : kNats.R 130 w base ok u xs) (hv : kStr.R 9 w base ok' v ys) (hg : w.grownBy w1 v.ownBlock) : kNats.R 130 w1 base ok u xs :=
  Kd.R_over' (v := v) h (Kd.R_typed hv) (fun q hq => by rcases mem_nats hq with h | h <;> (rw [h]; decide)) hg
theorem str_over_nat {w w1 : World} {base : Nat} {ok ok' : Nat → Prop} {u v : Value} {xs : List Str} {ys : List Nat} (h : kStr.R 9 w base ok u xs) (hv : kNat.R 3 w base ok' v ys) (hg : w.grownBy w1 v.ownBlock) : kStr.R 9 w1 base ok u xs :=
  Kd.R_over' (v := v) h (Kd.R_typed hv) (fun q hq => by rw [mem_str hq]; decide) hg
theorem str_over_nats {w w1 : World} {base : Nat} {ok ok' : Nat → Prop} {u v : Value} {xs : List Str} {ys : List (List Nat)} (h : kStr.R 9 w base ok u xs) (hv : kNats.R 130 w base ok' v ys) (hg : w.grownBy w1 v.ownBlock) : kStr.R 9 w1 base ok u xs :=
  Kd.R_over' (v := v) h (Kd.R_typed hv) (fun q hq => by rw [mem_str hq]; decide) hg
theorem numOne_at {seen : List Str} {s : Str} {n : Nat} (h : seen[n]? = some s) (h2 : s ∉ seen.take n) : numOne seen s = n := by
  obtain ⟨hn, he⟩ := List.getElem?_eq_some_iff.1 h
  have e : seen = seen.take n ++ s :: seen.drop (n + 1) := by
    rw [← he, List.getElem_cons_drop, List.take_append_drop]
  have h2' : ¬ s ∈ seen.take n := h2
  unfold numOne
  rw [e, List.idxOf_append, if_neg h2']
  simp [List.length_take]
  omega
theorem R_drewN {α : Type} {d : Kd α} {e : Nat} {w : World} {base : Nat} {ok : Nat → Prop} {v : Value} {xs : List α} (h : d.R e w base ok v xs) (m : Nat) : d.R e (w.drewN m) base ok v xs := Kd.R_below h (pw_below_drewN (Below.refl _ _) m)

set_option maxRecDepth 100000 in
set_option maxHeartbeats 8000000 in
theorem rnumbers_any (rs : List (List Str)) (A : Option Addr) (c : Nat) (w : World) (hC : Kd.C kStrs w A rs.length rs) (hlen : rs.length ≤ 1000) (hsum : (rs.map List.length).sum ≤ 100000) (hs : ∀ l ∈ rs, ∀ s ∈ l, s.length ≤ 1000000000) :
    Calls Tryz.prog 75 #[.slice A rs.length c] w fun e w' => ∃ v, e = .returned v ∧ kNats.R 130 w' w.heap.size (fun _ => True) v (numRows [] rs) ∧ Below w.heap.size w w' := by
  have HC := Lib.hid hC
  clear hC hs
  go_enter Tryz.func75, Tryz.ntmps75
  go_wp2
  go_loopw [3, 4, 5] (fun sv v i wr => ∃ k : Nat, k ≤ rs.length ∧ i = .int .i64 k ∧ Hid (kStr.R 9 wr w.heap.size (fun _ => True) sv (seeRows [] (rs.take k))) ∧ Hid (kNats.R 130 wr w.heap.size (fun _ => True) v (numRows [] (rs.take k))) ∧ Hid (Below w.heap.size w wr)) (fun _ _ i _ => rs.length - (intOf i).toNat)
  case atStart => exact ⟨0, Nat.zero_le _, rfl, Kd.R_nil _ _ _ _ _, Kd.R_nil _ _ _ _ _, Below.refl _ _⟩
  case round =>
    obtain ⟨k, hk, rfl, HSR, HR, HB⟩ := hrel
    obtain ⟨wo, rfl⟩ : ∃ wo : World, wo = wr := ⟨_, rfl⟩
    by_cases hlt0 : k < rs.length
    · have hlt : (k : Int) < (rs.length : Int) := by omega
      obtain ⟨l, hl⟩ : ∃ l, rs[k]? = some l := ⟨rs[k], List.getElem?_eq_getElem hlt0⟩
      have hlm := List.mem_of_getElem? hl
      have hll : l.length ≤ (rs.map List.length).sum := len_le_sum hlm
      have hseen : (seeRows [] (rs.take k)).length + l.length ≤ 100000 := by
        have h1 := seeRows_length (rs.take k) []
        have h2 : ((rs.take (k + 1)).map List.length).sum ≤ (rs.map List.length).sum := sum_take_le rs (k + 1)
        rw [take_snoc hl, List.map_append, List.sum_append] at h2
        simp at h1 h2
        omega
      obtain ⟨s0, hs0⟩ : ∃ s0, s0 = seeRows [] (rs.take k) := ⟨_, rfl⟩
      rw [← hs0] at hseen HSR
      have HS0 := Lib.hid hs0
      have HL := Lib.hid hl
      have HK := Lib.hid hlt0
      have HSEEN := Lib.hid hseen
      have HLL := Lib.hid hll
      clear hl hlm hs0 hseen hll hlt0 hk
      go_wp2
      go_loopw [3, 6, 7] (fun sv v i wr => ∃ j : Nat, j ≤ l.length ∧ i = .int .i64 j ∧ Hid (kStr.R 9 wr w.heap.size (fun _ => True) sv (seeRow s0 (l.take j))) ∧ Hid (kNat.R 3 wr w.heap.size (fun _ => True) v (numRow s0 (l.take j))) ∧ Hid (kNats.R 130 wr w.heap.size (fun q => some q ≠ v.ownBlock) u4 (numRows [] (rs.take k))) ∧
          Hid (Below w.heap.size w wr)) (fun _ _ i _ => l.length - (intOf i).toNat)
      case atStart => exact ⟨0, Nat.zero_le _, rfl, HSR, Kd.R_nil _ _ _ _ _, Kd.R_mono HR.out (fun _ _ => by simp [Value.ownBlock]), HB⟩
      case round =>
        obtain ⟨j, hj, rfl, HSN, HRl, HRo, HB1⟩ := hrel
        obtain ⟨wi, rfl⟩ : ∃ wi : World, wi = wr := ⟨_, rfl⟩
        obtain ⟨ad, A0, c0, rfl, p0, hlc, hCl⟩ := at_strs (Kd.C_below HC.out HB1.out) k HK.out l HL.out
        have HCl := Lib.hid hCl
        clear hCl
        by_cases hjl0 : j < l.length
        · have hjl : (j : Int) < (l.length : Int) := by omega
          obtain ⟨x, hx⟩ : ∃ x, l[j]? = some x := ⟨l[j], List.getElem?_eq_getElem hjl0⟩
          obtain ⟨ad2, rfl, q0⟩ := at_str HCl.out j hjl0 x hx
          have HTK := Lib.hid (take_snoc hx)
          have HJL := Lib.hid hjl0
          clear hx hjl0 hj
          obtain ⟨sn, hsn⟩ : ∃ sn, sn = seeRow s0 (l.take j) := ⟨_, rfl⟩
          have hsl : sn.length ≤ s0.length + j := by
            rw [hsn]
            have := seeRow_length (l.take j) s0
            rw [List.length_take] at this; omega
          have HSL : Hid (sn.length ≤ 100000) := Lib.hid (by have := HSEEN.out; have := HJL.out; omega)
          rw [← hsn] at HSN
          have HEQ := Lib.hid hsn
          clear hsn hsl
          obtain ⟨AS, cS, rfl, hlS, hCS⟩ := Kd.R_reads HSN.out
          have HCS := Lib.hid hCS
          have HLS := Lib.hid hlS
          clear hCS hlS
          go_wp2
          go_loopw [8] (fun v wr => ∃ n m : Nat, v = .int .i64 (n : Int) ∧ n ≤ sn.length ∧ Hid (x ∉ sn.take n) ∧ wr = wi.drewN m) (fun v _ => sn.length - (intOf v).toNat)
          case atStart => exact ⟨0, 0, rfl, by omega, Lib.hid (by simp), rfl⟩
          case round =>
            obtain ⟨n, m, rfl, hn, HNO, rfl⟩ := hrel
            by_cases hn0 : n < sn.length
            · have hnl : (n : Int) < (sn.length : Int) := by omega
              have hnd : decide ((n : Int) < (sn.length : Int)) = true := by rw [decide_eq_true_eq]; omega
              obtain ⟨y, hy⟩ : ∃ y, sn[n]? = some y := ⟨sn[n], List.getElem?_eq_getElem hn0⟩
              obtain ⟨ad3, rfl, e0⟩ := at_str HCS.out n hn0 y hy
              have HY := Lib.hid hy
              have HN0 := Lib.hid hn0
              clear hy hn0
              have cadd : IntKind.i64.wrap ((n : Int) + 1) = ((n + 1 : Nat) : Int) := by rw [IntWalk.i64_in _ (by have := HSL.out; omega)]; omega
              by_cases hq : y = x
              · subst hq
                have hq1 : (y == y) = true := by simp
                have HNN := Lib.hid (numOne_at HY.out HNO.out)
                have hne1 : ¬ (n : Int) = (sn.length : Int) := by have := HN0.out; omega
                have hne2 : ((n : Int) == (sn.length : Int)) = false := by rw [beq_eq_false_iff_ne]; omega
                go_wp2
                go_quiet (fail)
                obtain ⟨W5, hW5⟩ : ∃ W5, W5 = (wi.drewN m).drewN nq := ⟨_, rfl⟩
                have HS5 : Hid (kStr.R 9 W5 w.heap.size (fun _ => True) (.slice (some ad3) sn.length cS) sn) := by rw [hW5]; exact Lib.hid (R_drewN (R_drewN HSN.out _) _)
                have HL5 : Hid (kNat.R 3 W5 w.heap.size (fun _ => True) u6 (numRow s0 (l.take j))) := by rw [hW5]; exact Lib.hid (R_drewN (R_drewN HRl.out _) _)
                have HO5 : Hid (kNats.R 130 W5 w.heap.size (fun q => some q ≠ u6.ownBlock) u4 (numRows [] (rs.take k))) := by rw [hW5]; exact Lib.hid (R_drewN (R_drewN HRo.out _) _)
                have HB5 : Hid (Below w.heap.size w W5) := by rw [hW5]; exact Lib.hid (pw_below_drewN (pw_below_drewN HB1.out _) _)
                rw [← hW5]
                clear hW5
                have hsz5 := HB5.out.size
                have hlj : (numRow s0 (l.take j)).length ≤ 100000 := by rw [numRow_length, List.length_take]; have := HLL.out; omega
                go_wp2_with (at_builtin; go_loud (refine Kd.R_append kNat (w0 := w) w.heap.size rfl _ _ 130 3 _ 8 rfl Tryz.underlying130 infoInt rfl (by decide) (by decide) u6 (numRow s0 (l.take j)) n _ (fun _ => True) (fun _ => False) rfl rfl ?k1 ?k2 ?k3 HL5.out HB5.out hsz5 (by omega) ?_))
                case k1 => exact rfl
                case k2 => exact fun _ h => h.elim
                case k3 => exact fun _ _ => trivial
                intro v1 w3 hR3 hb3 hg3 hat3
                have HR3 := Lib.hid hR3
                have HO3 := Lib.hid (R_after HO5.out hg3 hat3)
                have HS3 := Lib.hid (str_over_nat HS5.out HL5.out hg3)
                have HB3 := Lib.hid hb3
                have HSEE := Lib.hid (show seeRow s0 (l.take (j + 1)) = sn from by
                  rw [HTK.out, seeRow_snoc, ← HEQ.out]; unfold seeOne; rw [if_pos (List.mem_of_getElem? HY.out)])
                clear hR3 hg3 hat3 hb3
                have caddj : IntKind.i64.wrap ((j : Int) + 1) = ((j + 1 : Nat) : Int) := by rw [IntWalk.i64_in _ (by have h1 := HJL.out; have h2 := HLL.out; omega)]; omega
                go_wp2
                go_roundw
                case rel =>
                  refine ⟨j + 1, HJL.out, rfl, ?_, Lib.hid ?_, HO3, HB3⟩
                  · rw [HSEE.out]; exact HS3
                  · rw [HTK.out, numRow_snoc, ← HEQ.out, HNN.out]; exact HR3.out
                · have := HJL.out; simp only [intOf]; omega
              · have hq1 : (y == x) = false := by rw [beq_eq_false_iff_ne]; exact hq
                have HQ := Lib.hid hq
                clear hq
                go_wp2
                go_quiet (fail)
                go_wp2
                go_roundw
                case rel =>
                  refine ⟨n + 1, m + nq, rfl, HN0.out, Lib.hid ?_, rfl⟩
                  rw [take_snoc HY.out]
                  intro hm
                  rcases List.mem_append.1 hm with hm | hm
                  · exact HNO.out hm
                  · exact HQ.out (by simpa using (List.mem_singleton.1 hm).symm)
                · have := HN0.out; simp only [intOf]; omega
            · obtain rfl : n = sn.length := by omega
              have hnl : ¬ (sn.length : Int) < (sn.length : Int) := by omega
              have hne1 : ((sn.length : Int) == (sn.length : Int)) = true := by simp
              have HNM : Hid (x ∉ sn) := by have := HNO; rwa [List.take_length] at this
              have HNN := Lib.hid (numOne_not HNM.out)
              go_wp2
              go_quiet (fail)
              obtain ⟨W5, hW5⟩ : ∃ W5, W5 = (wi.drewN m).drewN nq := ⟨_, rfl⟩
              have HS5 : Hid (kStr.R 9 W5 w.heap.size (fun _ => True) (.slice AS sn.length cS) sn) := by rw [hW5]; exact Lib.hid (R_drewN (R_drewN HSN.out _) _)
              have HL5 : Hid (kNat.R 3 W5 w.heap.size (fun _ => True) u6 (numRow s0 (l.take j))) := by rw [hW5]; exact Lib.hid (R_drewN (R_drewN HRl.out _) _)
              have HO5 : Hid (kNats.R 130 W5 w.heap.size (fun q => some q ≠ u6.ownBlock) u4 (numRows [] (rs.take k))) := by rw [hW5]; exact Lib.hid (R_drewN (R_drewN HRo.out _) _)
              have HB5 : Hid (Below w.heap.size w W5) := by rw [hW5]; exact Lib.hid (pw_below_drewN (pw_below_drewN HB1.out _) _)
              have p5 : W5.cell? (ad.add k) = some (.slice (some ad2) l.length c0) := by rw [hW5]; exact p0
              have q5 : W5.cell? (ad2.add j) = some (.string (B x)) := by rw [hW5]; exact q0
              rw [← hW5]
              clear hW5 p0 q0
              have hsz5 := HB5.out.size
              have hlj : (numRow s0 (l.take j)).length ≤ 100000 := by rw [numRow_length, List.length_take]; have := HLL.out; omega
              have hsl5 := HSL.out
              go_wp2_with (at_builtin; go_loud (refine Kd.R_append kStr (w0 := w) w.heap.size rfl _ _ 62 9 _ 16 rfl Tryz.underlying62 infoString rfl (by decide) (by decide) (.slice AS sn.length cS) sn x _ (fun _ => True) (fun _ => False) rfl rfl ?k1 ?k2 ?k3 HS5.out HB5.out hsz5 (by omega) ?_))
              case k1 => exact rfl
              case k2 => exact fun _ h => h.elim
              case k3 => exact fun _ _ => trivial
              intro v1 w2 hR2 hb2 hg2 hat2
              have HS2 := Lib.hid hR2
              have HL2 := Lib.hid (nat_over_str HL5.out HS5.out hg2)
              have HO2 := Lib.hid (nats_over_str HO5.out HS5.out hg2)
              have HB2 := Lib.hid hb2
              have hsz2 := HB2.out.size
              clear hR2 hg2 hat2 hb2 HS5 HL5 HO5 HB5
              go_wp2_with (at_builtin; go_loud (refine Kd.R_append kNat (w0 := w) w.heap.size rfl _ _ 130 3 _ 8 rfl Tryz.underlying130 infoInt rfl (by decide) (by decide) u6 (numRow s0 (l.take j)) sn.length _ (fun _ => True) (fun _ => False) rfl rfl ?k1 ?k2 ?k3 HL2.out HB2.out hsz2 (by omega) ?_))
              case k1 => exact rfl
              case k2 => exact fun _ h => h.elim
              case k3 => exact fun _ _ => trivial
              intro v2 w3 hR3 hb3 hg3 hat3
              have HR3 := Lib.hid hR3
              have HO3 := Lib.hid (R_after HO2.out hg3 hat3)
              have HS3 := Lib.hid (str_over_nat HS2.out HL2.out hg3)
              have HB3 := Lib.hid hb3
              have HSEE := Lib.hid (show seeRow s0 (l.take (j + 1)) = sn ++ [x] from by
                rw [HTK.out, seeRow_snoc, ← HEQ.out]; unfold seeOne; rw [if_neg HNM.out])
              clear hR3 hg3 hat3 hb3
              have caddj : IntKind.i64.wrap ((j : Int) + 1) = ((j + 1 : Nat) : Int) := by rw [IntWalk.i64_in _ (by have h1 := HJL.out; have h2 := HLL.out; omega)]; omega
              go_wp2
              go_roundw
              case rel =>
                refine ⟨j + 1, HJL.out, rfl, ?_, Lib.hid ?_, HO3, HB3⟩
                · rw [HSEE.out]; exact HS3
                · rw [HTK.out, numRow_snoc, ← HEQ.out, HNN.out]; exact HR3.out
              · have := HJL.out; simp only [intOf]; omega
        · obtain rfl : j = l.length := by omega
          have hjl : ¬ (l.length : Int) < (l.length : Int) := by omega
          rw [List.take_length] at HRl HSN
          have hol : (numRows [] (rs.take k)).length ≤ 1000000 := by rw [numRows_length, List.length_take]; omega
          obtain ⟨Al, cl, rfl⟩ := Kd.R_slice HRl.out
          have hsz1 := HB1.out.size
          go_wp2_with (at_builtin; go_loud (refine append_row w.heap.size rfl _ _ rfl u4 (.slice Al (numRow s0 l).length cl) _ _ rfl rfl HRl.out HRo.out HB1.out hsz1 hol ?_))
          intro v1 w3 hR3 hb3 hg3
          have HR3 := Lib.hid hR3
          have HS3 := Lib.hid (str_over_nats HSN.out HRo.out hg3)
          have HB3 := Lib.hid hb3
          have HTK := Lib.hid (take_snoc HL.out)
          clear hR3 hg3 hb3
          go_wp2
          go_roundw
          case rel =>
            refine ⟨k + 1, HK.out, by go_num, Lib.hid ?_, Lib.hid ?_, HB3⟩
            · rw [HTK.out, seeRows_snoc, ← HS0.out]; exact HS3.out
            · rw [HTK.out, numRows_snoc, ← HS0.out]; exact HR3.out
          case measure => have := HK.out; simp [intOf]; omega
    · obtain rfl : k = rs.length := by omega
      have hlt : ¬ (rs.length : Int) < (rs.length : Int) := by omega
      have HR2 : Hid (kNats.R 130 wo w.heap.size (fun _ => True) u4 (numRows [] rs)) := by have := HR; rwa [List.take_length] at this
      go_wp2
      go_ret
      exact ⟨_, rfl, HR2.out, HB.out⟩

end Go.Proofs.YtogfkfkejaiecaaGreatDoor.Eg

namespace Go.Proofs.YtogfkfkejaiecaaGreatDoor.Gb
open Go.RowKit Go.Shelf Pl Ut Ln Dc Dn Eg Ga Go.Proofs.YtogfkfkejaiecaaGreatDoorW.PrintWords
set_option linter.unusedVariables false
set_option linter.unusedSimpArgs false
attribute [local go_sem] B_append B_extract B_toList B_size take_end

def kFls : Kd (List Fl) := Kd.slice 49 kFl
theorem at_fls {w : World} {A : Option Addr} {n : Nat} {xs : List (List Fl)} (h : Kd.C kFls w A n xs) (k : Nat) (hk : k < n) (x : List Fl) (hx : xs[k]? = some x) :
    ∃ ad A0 c0, A = some ad ∧ w.cell? (ad.add k) = some (.slice A0 x.length c0) ∧ x.length ≤ c0 ∧ Kd.C kFl w A0 x.length x := by
  obtain ⟨ad, c, e, _, hK, hc0⟩ := Kd.C_get h x (k : Int) (by omega) (by omega)
  have hd : xs.getD (k : Int).toNat x = x := by simp [List.getD, hx]
  rw [hd] at hK
  have hc : ∀ j u, c[j]? = some u → w.cell? (ad.add (k * 1 + j)) = some u := hc0
  obtain ⟨A0, c0, rfl, l0, g0⟩ := hK
  exact ⟨ad, A0, c0, e, by have := hc 0 _ rfl; simpa using this, l0, g0⟩

/-- All paths of some trees. -/
def allL (ts : List (List Fl)) : List Str := ts.flatMap (fun l => l.map (·.1))
theorem allL_snoc (ts : List (List Fl)) (l : List Fl) : allL (ts ++ [l]) = allL ts ++ l.map (·.1) := by simp [allL]
theorem allL_length (ts : List (List Fl)) : (allL ts).length = (ts.map List.length).sum := by
  unfold allL
  rw [List.length_flatMap]
  simp
def sortS (l : List Str) : List Str := l.mergeSort fun x y => decide (x ≤ y)
/-- The paths of some trees, rising, each once. -/
def pathsL (ts : List (List Fl)) : List Str := Lib.compact (sortS (allL ts))

/-- A row of texts in a block of its own. -/
def RowS (w : World) (A : Option Addr) (xs : List Str) : Prop := xs = [] ∨ ∃ (b : Nat) (cur : Array Value), A = some ⟨b, 0, none⟩ ∧ w.heap[b]? = some (.cells cur 9 (0, 0)) ∧ ∀ (k : Nat) (x : Str), xs[k]? = some x → cur[k]? = some (.string (B x))
theorem RowS.at_ {w : World} {A : Option Addr} {xs : List Str} (h : RowS w A xs) {k : Nat} {x : Str} (hx : xs[k]? = some x) : ∃ b, A = some ⟨b, 0, none⟩ ∧ w.cell? ⟨b, k, none⟩ = some (.string (B x)) := by
  rcases h with rfl | ⟨b, cur, rfl, hb, hc⟩
  · cases hx
  · exact ⟨b, rfl, by rw [blk_cell hb]; exact hc k x hx⟩
theorem encs_str (xs : List Str) : encs (fun l : Str => Value.string (B l)) xs = xs.map encStr := rfl

theorem sortS_any (all : List Str) (base : Nat) (A : Option Addr) (c : Nat) (w : World) (hR : kStr.R 9 w base (fun _ => True) (.slice A all.length c) all) (hl : all.length ≤ 1000000000) :
    Calls Tryz.prog 72 #[.slice A all.length c] w fun e w' => e = .returned (.tuple #[]) ∧ kStr.R 9 w' base (fun _ => True) (.slice A all.length c) (sortS all) ∧ w.grownBy w' (Value.slice A all.length c).ownBlock := by
  have hown := Kd.own_of_R hR
  rw [encs_str] at hown
  rcases hown.2 with ⟨hnil, _⟩ | ⟨g, cap, cur, he, hbase, hb, h1, h2, h3, h4⟩
  · injection hnil with e1 e2 e3
    subst e1 e3
    have h0 : all = [] := List.length_eq_zero_iff.1 e2
    subst h0
    refine (Tryz.slices_Sort_string_none none 0 w).mono fun e w' ⟨he, hw⟩ => ⟨he, ?_, ?_⟩
    · subst hw; rw [show sortS [] = [] by simp [sortS]]; exact hR
    · subst hw; exact World.grownBy.refl _ _
  · injection he with e1 _ e3
    subst e1 e3
    have hH := holds_of_block (ss := all) hb (by simpa using h4)
    refine (Tryz.slices_Sort_string g 0 c all w hH (Array.getElem?_eq_some_iff.1 hb).1 (by omega)).mono fun e w' ⟨he, n, os, hw⟩ => ⟨he, ?_, ?_⟩
    · subst hw
      have ho := ownsRow_sorted (w := w) (n := n) (os := os) (ss := all) (ts := sortS all) (by simp [sortS]) hbase hb h1 h2 h3
      have hl2 : (sortS all).length = all.length := by simp [sortS]
      refine Kd.R_of_own ?_ (fun _ _ => trivial)
      rw [encs_str, hl2]
      exact ho
    · subst hw
      exact grownBy_sorted _

theorem grow_nil (w : World) : Sort.grow w #[] = w := by cases w; simp [Sort.grow]
theorem compact_length (zs : List Str) : (Lib.compact zs).length ≤ zs.length := by
  unfold Lib.compact Lib.compactUpTo
  rw [List.length_map]
  exact Nat.le_trans (List.length_filter_le _ _) (by simp)

theorem compactS_any (zs : List Str) (base : Nat) (A : Option Addr) (c : Nat) (w : World) (hR : kStr.R 9 w base (fun _ => True) (.slice A zs.length c) zs) (hl : zs.length ≤ 1000000000) :
    Calls Tryz.prog 73 #[.slice A zs.length c] w fun e w' => ∃ A' c', e = .returned (.slice A' (Lib.compact zs).length c') ∧ RowS w' A' (Lib.compact zs) ∧ w.grownBy w' (Value.slice A zs.length c).ownBlock := by
  have hown := Kd.own_of_R hR
  rw [encs_str] at hown
  rcases hown.2 with ⟨hnil, _⟩ | ⟨g, cap, cur, he, hbase, hb, h1, h2, h3, h4⟩
  · injection hnil with e1 e2 e3
    subst e1 e3
    have h0 : zs = [] := List.length_eq_zero_iff.1 e2
    subst h0
    refine (Tryz.slices_Compact_string_empty none 0 w).mono fun e w' ⟨he, hw⟩ => ⟨none, 0, he, .inl rfl, ?_⟩
    subst hw; exact World.grownBy.refl _ _
  · injection he with e1 _ e3
    subst e1 e3
    have hH := holds_of_block (ss := zs) hb (by simpa using h4)
    refine (Tryz.slices_Compact_string g 0 c zs w hH (by omega) h1).mono fun e w' ⟨he, q, hw⟩ => ⟨_, _, he, ?_, ?_⟩
    · obtain ⟨d, hd⟩ : ∃ d, d = Lib.compact zs ++ List.replicate (zs.length - (Lib.compact zs).length) [] := ⟨_, rfl⟩
      have hgr : w' = Sort.grow (Sort.putRow encStr (Sort.ahead w q) g 0 d.toArray) #[] := by rw [grow_nil, hw, hd]
      have hbk := heap_sorted (w := w) (n := q) (os := #[]) d.toArray hb
      rw [← hgr] at hbk
      refine .inr ⟨g, _, rfl, hbk, fun k x hx => ?_⟩
      have hk : k < (Lib.compact zs).length := (List.getElem?_eq_some_iff.1 hx).1
      have hkd : d[k]? = some x := by rw [hd, List.getElem?_append_left hk]; exact hx
      have hkl : k < d.length := (List.getElem?_eq_some_iff.1 hkd).1
      have hcl := compact_length zs
      have hdl : d.length ≤ cur.size := by
        rw [hd, List.length_append, List.length_replicate]; omega
      have ht := take_putCells cur d hdl
      have h5 : ((Sort.putCells encStr 0 d.toArray cur).toList.take d.length)[k]? = (d.map encStr)[k]? := by rw [ht]
      rw [List.getElem?_take_of_lt hkl, Array.getElem?_toList, List.getElem?_map, hkd] at h5
      exact h5
    · have hgr : w' = Sort.grow (Sort.putRow encStr (Sort.ahead w q) g 0 (Lib.compact zs ++ List.replicate (zs.length - (Lib.compact zs).length) []).toArray) #[] := by rw [grow_nil, hw]
      rw [hgr]
      exact grownBy_sorted _

theorem sum_take_leN (rs : List (List Fl)) (k : Nat) : ((rs.take k).map List.length).sum ≤ (rs.map List.length).sum := by
  conv => rhs; rw [← List.take_append_drop k rs]
  rw [List.map_append, List.sum_append]; omega

set_option maxRecDepth 100000 in
set_option maxHeartbeats 8000000 in
theorem paths_any (ts : List (List Fl)) (A : Option Addr) (c : Nat) (w : World) (hC : Kd.C kFls w A ts.length ts) (hlen : ts.length ≤ 1000) (hsum : (ts.map List.length).sum ≤ 100000) :
    Calls Tryz.prog 53 #[.slice A ts.length c] w fun e w' => ∃ A' c', e = .returned (.slice A' (pathsL ts).length c') ∧ RowS w' A' (pathsL ts) ∧ Below w.heap.size w w' := by
  have HC := Lib.hid hC
  clear hC
  go_enter Tryz.func53, Tryz.ntmps53
  go_wp2
  go_loopw [3, 10] (fun v i wr => ∃ k : Nat, k ≤ ts.length ∧ i = .int .i64 (k : Int) ∧ Hid (kStr.R 9 wr w.heap.size (fun _ => True) v (allL (ts.take k))) ∧ Hid (Below w.heap.size w wr)) (fun _ i _ => ts.length - (intOf i).toNat)
  case atStart => exact ⟨0, Nat.zero_le _, rfl, Kd.R_nil _ _ _ _ _, Below.refl _ _⟩
  case round =>
    obtain ⟨k, hk, rfl, HR, HB⟩ := hrel
    obtain ⟨wo, rfl⟩ : ∃ wo : World, wo = wr := ⟨_, rfl⟩
    by_cases hlt0 : k < ts.length
    · have hlt : (k : Int) < (ts.length : Int) := by omega
      obtain ⟨l, hl⟩ : ∃ l, ts[k]? = some l := ⟨ts[k], List.getElem?_eq_getElem hlt0⟩
      obtain ⟨ad, A0, c0, rfl, p0w, hlc, hCl⟩ := at_fls HC.out k hlt0 l hl
      have p0 := pw_cell_below HB.out p0w
      clear p0w
      have HCl := Lib.hid hCl
      have HTK := Lib.hid (take_snoc hl)
      have HK := Lib.hid hlt0
      have HLL : Hid ((allL (ts.take k)).length + l.length ≤ 100000) := Lib.hid (by
        have h2 := sum_take_leN ts (k + 1)
        rw [take_snoc hl, List.map_append, List.sum_append] at h2
        rw [allL_length]
        simp only [List.map_cons, List.map_nil, List.sum_cons, List.sum_nil] at h2
        omega)
      clear hl hCl hlt0 hk
      have cadd : IntKind.i64.wrap ((k : Int) + 1) = ((k + 1 : Nat) : Int) := by rw [IntWalk.i64_in _ (by have := HK.out; omega)]; omega
      go_wp2
      go_loopw [3, 16] (fun v i wr => ∃ j : Nat, j ≤ l.length ∧ i = .int .i64 (j : Int) ∧ Hid (kStr.R 9 wr w.heap.size (fun _ => True) v (allL (ts.take k) ++ (l.take j).map (·.1))) ∧ Hid (Below w.heap.size w wr)) (fun _ i _ => l.length - (intOf i).toNat)
      case atStart => exact ⟨0, Nat.zero_le _, rfl, Lib.hid (by simpa using HR.out), HB⟩
      case round =>
        obtain ⟨j, hj, rfl, HRl, HB1⟩ := hrel
        obtain ⟨wi, rfl⟩ : ∃ wi : World, wi = wr := ⟨_, rfl⟩
        by_cases hjl0 : j < l.length
        · have hjl : (j : Int) < (l.length : Int) := by omega
          obtain ⟨x, hx⟩ : ∃ x, l[j]? = some x := ⟨l[j], List.getElem?_eq_getElem hjl0⟩
          obtain ⟨ad2, rfl, q0, q1⟩ := at_fl (Kd.C_below HCl.out HB1.out) j hjl0 x hx
          have HTJ := Lib.hid (take_snoc hx)
          have HJL := Lib.hid hjl0
          have hsz := HB1.out.size
          have hol : (allL (ts.take k) ++ (l.take j).map (·.1)).length ≤ 100000 := by
            rw [List.length_append, List.length_map, List.length_take]; have := HLL.out; omega
          have caddj : IntKind.i64.wrap ((j : Int) + 1) = ((j + 1 : Nat) : Int) := by rw [IntWalk.i64_in _ (by have := HLL.out; omega)]; omega
          obtain ⟨out, hout⟩ : ∃ out, out = allL (ts.take k) ++ (l.take j).map (·.1) := ⟨_, rfl⟩
          rw [← hout] at hol HRl
          have HO := Lib.hid hout
          have HRa := Lib.hid (Kd.R_below HRl.out (below_alloc (Below.refl _ _) (.cells #[.string (B x.1), .string (B x.2)] 49)))
          have HBa := Lib.hid (HB1.out.trans (below_alloc (Below.refl _ _) (.cells #[.string (B x.1), .string (B x.2)] 49) |>.mono HB1.out.size))
          clear hx hjl0 hj hout
          go_upto_region 8 with fail
          obtain ⟨U, hU⟩ : ∃ U, U = wi.alloc (.cells #[.string (B x.1), .string (B x.2)] 49) := ⟨_, rfl⟩
          have g0 : U.cell? ⟨wi.heap.size, 0, none⟩ = some (.string (B x.1)) := by rw [hU, blk_cell (blk_new _ _)]; rfl
          rw [← hU] at HRa HBa
          rw [← hU]
          have hszU := HBa.out.size
          clear hU
          go_wp2_with (at_builtin; go_loud (refine Kd.R_append kStr (w0 := w) w.heap.size rfl _ _ 62 9 _ 16 rfl Tryz.underlying62 infoString rfl (by decide) (by decide) u3 out x.1 _ (fun _ => True) (fun _ => False) rfl rfl ?k1 ?k2 ?k3 HRa.out HBa.out hszU (by omega) ?_))
          case k1 => exact rfl
          case k2 => exact fun _ h => h.elim
          case k3 => exact fun _ _ => trivial
          intro v1 w1 hR1 hb1 hg1 _
          have HR1 := Lib.hid hR1
          have HB2 := Lib.hid hb1
          clear hR1 hg1 hb1
          go_wp2
          go_roundw
          case rel =>
            refine ⟨j + 1, HJL.out, rfl, Lib.hid ?_, HB2⟩
            rw [HTJ.out, List.map_append, ← List.append_assoc, ← HO.out]
            exact HR1.out
          · have := HJL.out; simp only [intOf]; omega
        · obtain rfl : j = l.length := by omega
          have hjl : ¬ (l.length : Int) < (l.length : Int) := by omega
          have HR2 : Hid (kStr.R 9 wi w.heap.size (fun _ => True) u3 (allL (ts.take (k + 1)))) := Lib.hid (by
            rw [HTK.out, allL_snoc]
            have := HRl.out
            rwa [List.take_length] at this)
          clear HRl
          go_wp2
          go_roundw
          case rel => exact ⟨k + 1, HK.out, rfl, HR2, HB1⟩
          · have := HK.out; simp only [intOf]; omega
    · obtain rfl : k = ts.length := by omega
      have hlt : ¬ (ts.length : Int) < (ts.length : Int) := by omega
      have hal : (allL ts).length ≤ 100000 := by rw [allL_length]; exact hsum
      obtain ⟨all, hall⟩ : ∃ all, all = allL ts := ⟨_, rfl⟩
      rw [List.take_length, ← hall] at HR
      rw [← hall] at hal
      have HP := Lib.hid (show pathsL ts = Lib.compact (sortS all) from by rw [hall]; rfl)
      clear hall
      obtain ⟨A3, c3, rfl⟩ := Kd.R_slice HR.out
      have hsl : (sortS all).length = all.length := by simp [sortS]
      go_wp2_with fail
      refine (sortS_any all w.heap.size A3 c3 wo HR.out (by omega)).mono ?_
      rintro e w2 ⟨rfl, hR2, hg2⟩
      have HB2 := Lib.hid (HB.out.grown hg2 HB.out.size (fun j hj => by
        rcases Kd.R_base2 HR.out with h | ⟨q, h, hq⟩
        · rw [h] at hj; cases hj
        · rw [h] at hj; cases hj; exact hq))
      have hR2' : kStr.R 9 w2 w.heap.size (fun _ => True) (.slice A3 (sortS all).length c3) (sortS all) := by rw [hsl]; exact hR2
      have HCp := Lib.hid (compactS_any (sortS all) w.heap.size A3 c3 w2 hR2' (by omega))
      have hbk : ∀ j, (Value.slice A3 (sortS all).length c3).ownBlock = some j → w.heap.size ≤ j := fun j hj => by
        rcases Kd.R_base2 hR2' with h | ⟨q, h, hq⟩
        · rw [h] at hj; cases hj
        · rw [h] at hj; cases hj; exact hq
      have HBK := Lib.hid hbk
      rw [hsl] at HCp
      clear hR2 hR2' hg2 hbk
      go_wp2_with fail
      refine HCp.out.mono ?_
      rintro e w3 ⟨A4, c4, rfl, hrs, hg3⟩
      have HRS := Lib.hid hrs
      have HB3 := Lib.hid (HB2.out.grown hg3 HB2.out.size (fun j hj => HBK.out j (by rw [hsl]; exact hj)))
      clear hrs hg3
      go_wp2
      go_ret
      exact ⟨A4, c4, by rw [HP.out]; rfl, by rw [HP.out]; exact HRS.out, HB3.out⟩

end Go.Proofs.YtogfkfkejaiecaaGreatDoor.Gb

namespace Go.Proofs.YtogfkfkejaiecaaGreatDoor.Ds
open Go.RowKit Go.Shelf Pl Ut Ln Bl Mk Ml Ms Da Db Dc Dm Dn Do Dp Dq Dr Go.Proofs.YtogfkfkejaiecaaGreatDoorW.PrintWords
set_option linter.unusedVariables false
set_option linter.unusedSimpArgs false
attribute [local go_sem] B_append B_extract B_toList B_size take_end

/-- A text that is not held counts as none. -/
def clL (h : Bool) (s : Str) : Str := if h then s else []
theorem clL_length (h : Bool) (s : Str) (n : Nat) (hs : s.length ≤ n) : (clL h s).length ≤ n := by
  unfold clL; split
  · exact hs
  · simp
/-- Three texts are shown. -/
def showL (ps : List Part) (old : Bool) (kind : Int) : Str × Bool × Int := (printL ps (lengthL (textsL ps)) old, true, if ps.any (·.clash) then kind else 0)
/-- What is told of three texts. -/
def threeL (o a b : Str) (ho ha hb old : Bool) : Str × Bool × Int :=
  if ha && hb then showL (linesL o a b) old 1
  else if (!ha && !hb) || (ho && a ++ b == o) then ([], false, 0)
  else if !ho then (a ++ b, true, 0)
  else showL [⟨true, o, a, b⟩] old 3
def fileL (o a b : Str) (ho ha hb old : Bool) : Str × Bool × Int := threeL (clL ho o) (clL ha a) (clL hb b) ho ha hb old
theorem jx0 (x y z : Bool) (W : World) : (Instr.index 23 (.agg #[.bool x, .bool y, .bool z]) (.int .i64 0)).run Tryz.prog W = .ok (.bool x) W := by kernel_rfl
theorem jx1 (x y z : Bool) (W : World) : (Instr.index 23 (.agg #[.bool x, .bool y, .bool z]) (.int .i64 1)).run Tryz.prog W = .ok (.bool y) W := by kernel_rfl
theorem jx2 (x y z : Bool) (W : World) : (Instr.index 23 (.agg #[.bool x, .bool y, .bool z]) (.int .i64 2)).run Tryz.prog W = .ok (.bool z) W := by kernel_rfl
attribute [local go_sem high] jx0 jx1 jx2
theorem one_fitB (o a b : Str) (lo : o.length ≤ 2500) (la : a.length ≤ 2500) (lb : b.length ≤ 2500) (old : Bool) (N : Nat) (hN : lengthL (textsL [⟨true, o, a, b⟩]) = N) :
    N ≤ 12501 ∧ (printL [⟨true, o, a, b⟩] N old).length ≤ 400000000 := by
  have h4 : N ≤ 12501 := by
    rw [← hN]
    refine lengthL_le (by omega) (fun t ht => ?_)
    have ht : t ∈ [o, a, b] := by simpa [textsL] using ht
    simp only [List.mem_cons, List.not_mem_nil, or_false] at ht
    rcases ht with rfl | rfl | rfl <;> omega
  refine ⟨h4, ?_⟩
  have h5 := printL_size N old [⟨true, o, a, b⟩]
  have h6 : sizeL [⟨true, o, a, b⟩] ≤ 7500 := by rw [sizeL_one]; simp only [sizeP]; omega
  simp only [List.length_cons, List.length_nil] at h5
  omega

/-- A slice of one part, just made. -/
theorem one_row (w : World) (p : Part) : Kd.C kPart (w.alloc (.cells #[.bool p.clash, .string (B p.o), .string (B p.a), .string (B p.b)] 55)) (some ⟨w.heap.size, 0, none⟩) 1 [p] := by
  refine ⟨rfl, by omega, fun _ => ⟨_, rfl, fun j q hj => ?_⟩⟩
  match j, hj with
  | 0, hj =>
    cases hj
    refine ⟨partCells p, rfl, kPart.K_of_M (kPart_mk (w.alloc (.cells #[.bool p.clash, .string (B p.o), .string (B p.a), .string (B p.b)] 55)) 0 (fun _ => True) p), fun i u hu => ?_⟩
    rw [add_plain, blk_cell (blk_new _ _)]
    simpa [partCells] using hu
  | j + 1, hj => simp at hj

set_option maxRecDepth 100000 in
set_option maxHeartbeats 8000000 in
theorem three_any (o a b : Str) (ho ha hb old : Bool) (lo : o.length ≤ 2500) (la : a.length ≤ 2500) (lb : b.length ≤ 2500) (w : World) (hS : Signs w) :
    Calls Tryz.prog 23 #[.agg #[.string (B o), .string (B a), .string (B b)], .agg #[.bool ho, .bool ha, .bool hb], .bool old] w fun e w' =>
      e = .returned (.tuple #[.string (B (fileL o a b ho ha hb old).1), .bool (fileL o a b ho ha hb old).2.1, .int .i64 (fileL o a b ho ha hb old).2.2]) ∧ Below w.heap.size w w' := by
  have HS := Lib.hid hS
  clear hS
  go_enter Tryz.func23, Tryz.ntmps23
  go_wp2
  go_loopw [13] (fun i wr => (i = .int .i64 0 ∧ Hid (wr.heap[w.heap.size]? = some (.cells #[.string (B o), .string (B a), .string (B b)] 22 (0, 0))) ∧ Hid (wr.heap[w.heap.size + 1]? = some (.cells #[.bool ho, .bool ha, .bool hb] 23 (0, 0))) ∧ Hid (Below w.heap.size w wr)) ∨
    (i = .int .i64 1 ∧ Hid (wr.heap[w.heap.size]? = some (.cells #[.string (B (clL ho o)), .string (B a), .string (B b)] 22 (0, 0))) ∧ Hid (wr.heap[w.heap.size + 1]? = some (.cells #[.bool ho, .bool ha, .bool hb] 23 (0, 0))) ∧ Hid (Below w.heap.size w wr)) ∨
    (i = .int .i64 2 ∧ Hid (wr.heap[w.heap.size]? = some (.cells #[.string (B (clL ho o)), .string (B (clL ha a)), .string (B b)] 22 (0, 0))) ∧ Hid (wr.heap[w.heap.size + 1]? = some (.cells #[.bool ho, .bool ha, .bool hb] 23 (0, 0))) ∧ Hid (Below w.heap.size w wr)) ∨
    (i = .int .i64 3 ∧ Hid (wr.heap[w.heap.size]? = some (.cells #[.string (B (clL ho o)), .string (B (clL ha a)), .string (B (clL hb b))] 22 (0, 0))) ∧ Hid (wr.heap[w.heap.size + 1]? = some (.cells #[.bool ho, .bool ha, .bool hb] 23 (0, 0))) ∧ Hid (Below w.heap.size w wr))) (fun i _ => 3 - (intOf i).toNat)
  case atStart => exact .inl ⟨rfl, Lib.hid (blk_alloc (blk_new _ _) _), Lib.hid (by have := blk_new (w.alloc (.cells #[.string (B o), .string (B a), .string (B b)] 22)) (.cells #[.bool ho, .bool ha, .bool hb] 23); simpa using this), Lib.hid (below_alloc (below_alloc (Below.refl _ _) _) _)⟩
  case round =>
    rcases hrel with ⟨rfl, HT, HF, HBw⟩ | ⟨rfl, HT, HF, HBw⟩ | ⟨rfl, HT, HF, HBw⟩ | ⟨rfl, HT, HF, HBw⟩
    · have f0 := blk_frozen HT.out 0
      have d0 : wr.cell? ⟨w.heap.size, 0, none⟩ = some (.string (B o)) := by rw [blk_cell HT.out]; rfl
      have hsz : w.heap.size < wr.heap.size := blk_lt HT.out
      cases ho with
      | true =>
        go_wp2
        go_roundw
        case rel => exact .inr (.inl ⟨rfl, HT, HF, HBw⟩)
        · simp [intOf]
      | false =>
        go_wp2
        go_roundw
        case rel => exact .inr (.inl ⟨rfl, Lib.hid (blk_set HT.out 0 (.string (B []))), Lib.hid (blk_far HF.out (show w.heap.size + 1 ≠ w.heap.size by omega) _), Lib.hid (HBw.out.setCell (p := ⟨w.heap.size, 0, none⟩) (Nat.le_refl _) _)⟩)
        · simp [intOf]
    · have f0 := blk_frozen HT.out 1
      have d0 : wr.cell? ⟨w.heap.size, 1, none⟩ = some (.string (B a)) := by rw [blk_cell HT.out]; rfl
      have hsz : w.heap.size < wr.heap.size := blk_lt HT.out
      cases ha with
      | true =>
        go_wp2
        go_roundw
        case rel => exact .inr (.inr (.inl ⟨rfl, HT, HF, HBw⟩))
        · simp [intOf]
      | false =>
        go_wp2
        go_roundw
        case rel => exact .inr (.inr (.inl ⟨rfl, Lib.hid (blk_set HT.out 1 (.string (B []))), Lib.hid (blk_far HF.out (show w.heap.size + 1 ≠ w.heap.size by omega) _), Lib.hid (HBw.out.setCell (p := ⟨w.heap.size, 1, none⟩) (Nat.le_refl _) _)⟩))
        · simp [intOf]
    · have f0 := blk_frozen HT.out 2
      have d0 : wr.cell? ⟨w.heap.size, 2, none⟩ = some (.string (B b)) := by rw [blk_cell HT.out]; rfl
      have hsz : w.heap.size < wr.heap.size := blk_lt HT.out
      cases hb with
      | true =>
        go_wp2
        go_roundw
        case rel => exact .inr (.inr (.inr ⟨rfl, HT, HF, HBw⟩))
        · simp [intOf]
      | false =>
        go_wp2
        go_roundw
        case rel => exact .inr (.inr (.inr ⟨rfl, Lib.hid (blk_set HT.out 2 (.string (B []))), Lib.hid (blk_far HF.out (show w.heap.size + 1 ≠ w.heap.size by omega) _), Lib.hid (HBw.out.setCell (p := ⟨w.heap.size, 2, none⟩) (Nat.le_refl _) _)⟩))
        · simp [intOf]
    · have h0 := clL_length ho o 2500 lo
      have h1 := clL_length ha a 2500 la
      have h2 := clL_length hb b 2500 lb
      have HL := Lib.hid (show fileL o a b ho ha hb old = threeL (clL ho o) (clL ha a) (clL hb b) ho ha hb old from rfl)
      clear lo la lb
      generalize clL ho o = o' at *
      generalize clL ha a = a' at *
      generalize clL hb b = b' at *
      have d0 : wr.cell? ⟨w.heap.size, 0, none⟩ = some (.string (B o')) := by rw [blk_cell HT.out]; rfl
      have d1 : wr.cell? ⟨w.heap.size, 1, none⟩ = some (.string (B a')) := by rw [blk_cell HT.out]; rfl
      have d2 : wr.cell? ⟨w.heap.size, 2, none⟩ = some (.string (B b')) := by rw [blk_cell HT.out]; rfl
      have g0 : wr.cell? ⟨w.heap.size + 1, 0, none⟩ = some (.bool ho) := by rw [blk_cell HF.out]; rfl
      have g1 : wr.cell? ⟨w.heap.size + 1, 1, none⟩ = some (.bool ha) := by rw [blk_cell HF.out]; rfl
      have g2 : wr.cell? ⟨w.heap.size + 1, 2, none⟩ = some (.bool hb) := by rw [blk_cell HF.out]; rfl
      have s1 : ¬ 9223372036854775807 < a'.length + b'.length := by omega
      have HSw := Lib.hid (HS.out.below HBw.out)
      clear HT HF HS
      cases ha with
      | true =>
        cases hb with
        | true =>
          have HL2 := Lib.hid (HL.out.trans (show _ = showL (linesL o' a' b') old 1 from by simp [threeL]))
          obtain ⟨n1, n2, n3, n4, n5⟩ := lines_fitB o' a' b' h0 h1 h2 old _ rfl
          have HLi := Lib.hid (lines_any o' a' b' (by omega) (by omega) (by omega))
          obtain ⟨K, hK⟩ : ∃ K : Int, K = if (linesL o' a' b').any (·.clash) then 1 else 0 := ⟨_, rfl⟩
          have HKk := Lib.hid hK
          have HSo : Hid (∀ (A : Option Addr) (c : Nat) (W : World) (hC : Kd.C kPart W A (linesL o' a' b').length (linesL o' a' b')) (hb : Below wr.heap.size wr W),
            Calls Tryz.prog 38 #[.slice A (linesL o' a' b').length c, .bool old, .int .i64 1] W fun e w' => e = .returned (.tuple #[.string (B (printL (linesL o' a' b') (lengthL (textsL (linesL o' a' b'))) old)), .bool true, .int .i64 K]) ∧ Below W.heap.size W w') := Lib.hid (fun A c W hC hb => by
            rw [hK]; exact shown_any (linesL o' a' b') _ old 1 A c W hC (HSw.out.below hb) rfl (by omega) (by omega) (fun p hp => by obtain ⟨q1, q2, q3⟩ := n3 p hp; exact ⟨by omega, by omega, by omega⟩) (by omega))
          clear n1 n2 n3 n4 n5 HL HSw hK
          go_wp2_with (first | (go_at_call 27; refine (HLi.out _).mono ?_; rintro e w1 ⟨v, rfl, hR, hb⟩; obtain ⟨A, c, rfl, lc, hC⟩ := Kd.R_reads hR; have HC := Lib.hid hC; have HB1 := Lib.hid hb; clear hR hb hC) | (go_at_call 38; refine (HSo.out _ _ _ HC.out HB1.out).mono ?_; rintro e w2 ⟨rfl, hb⟩; have HB2 := Lib.hid (HBw.out.trans ((HB1.out.trans (hb.mono HB1.out.size)).mono HBw.out.size)); clear hb))
          go_ret3
          exact ⟨by rw [HL2.out]; unfold showL; rw [← HKk.out]; rfl, HB2.out⟩
        | false =>
          cases ho with
          | false =>
            go_wp2
            go_ret3
            exact ⟨by rw [HL.out]; rfl, HBw.out⟩
          | true =>
            by_cases hq : a' ++ b' = o'
            · have HQ := Lib.hid hq
              subst hq
              have HL2 := Lib.hid (HL.out.trans (show _ = ([], false, 0) from by simp [threeL]))
              go_wp2
              go_ret3
              exact ⟨by rw [HL2.out]; rfl, HBw.out⟩
            · have HL2 := Lib.hid (HL.out.trans (show _ = showL [⟨true, o', a', b'⟩] old 3 from by simp [threeL, hq]))
              have hqb : ((a' ++ b') == o') = false := by simpa using hq
              have HSo := Lib.hid (fun (A : Option Addr) (W : World) (hC : Kd.C kPart W A 1 [⟨true, o', a', b'⟩]) (hb : Below wr.heap.size wr W) =>
                shown_any [⟨true, o', a', b'⟩] _ old 3 A 1 W hC (HSw.out.below hb) rfl (by have := (one_fitB o' a' b' h0 h1 h2 old _ rfl).1; omega) (by simp) (fun p hp => by rw [List.mem_singleton.1 hp]; exact ⟨by simp only; omega, by simp only; omega, by simp only; omega⟩) (by have := (one_fitB o' a' b' h0 h1 h2 old _ rfl).2; omega))
              go_wp2_with (go_at_call 38; refine (HSo.out _ _ (one_row _ _) (by first | exact below_alloc (Below.refl _ _) _ | exact (below_alloc (Below.refl _ _) _).drew | exact below_alloc (Below.refl _ _).drew _)).mono ?_; rintro e w2 ⟨rfl, hb⟩; have HB2 := Lib.hid (HBw.out.trans ((below_alloc (Below.refl _ wr) _).trans (hb.mono (below_alloc (Below.refl wr.heap.size wr) _).size) |>.mono HBw.out.size)); clear hb)
              go_ret3
              exact ⟨by rw [HL2.out]; rfl, HB2.out⟩
      | false =>
        cases hb with
        | true =>
          cases ho with
          | false =>
            go_wp2
            go_ret3
            exact ⟨by rw [HL.out]; rfl, HBw.out⟩
          | true =>
            by_cases hq : a' ++ b' = o'
            · have HQ := Lib.hid hq
              subst hq
              have HL2 := Lib.hid (HL.out.trans (show _ = ([], false, 0) from by simp [threeL]))
              go_wp2
              go_ret3
              exact ⟨by rw [HL2.out]; rfl, HBw.out⟩
            · have HL2 := Lib.hid (HL.out.trans (show _ = showL [⟨true, o', a', b'⟩] old 3 from by simp [threeL, hq]))
              have hqb : ((a' ++ b') == o') = false := by simpa using hq
              have HSo := Lib.hid (fun (A : Option Addr) (W : World) (hC : Kd.C kPart W A 1 [⟨true, o', a', b'⟩]) (hb : Below wr.heap.size wr W) =>
                shown_any [⟨true, o', a', b'⟩] _ old 3 A 1 W hC (HSw.out.below hb) rfl (by have := (one_fitB o' a' b' h0 h1 h2 old _ rfl).1; omega) (by simp) (fun p hp => by rw [List.mem_singleton.1 hp]; exact ⟨by simp only; omega, by simp only; omega, by simp only; omega⟩) (by have := (one_fitB o' a' b' h0 h1 h2 old _ rfl).2; omega))
              go_wp2_with (go_at_call 38; refine (HSo.out _ _ (one_row _ _) (by first | exact below_alloc (Below.refl _ _) _ | exact (below_alloc (Below.refl _ _) _).drew | exact below_alloc (Below.refl _ _).drew _)).mono ?_; rintro e w2 ⟨rfl, hb⟩; have HB2 := Lib.hid (HBw.out.trans ((below_alloc (Below.refl _ wr) _).trans (hb.mono (below_alloc (Below.refl wr.heap.size wr) _).size) |>.mono HBw.out.size)); clear hb)
              go_ret3
              exact ⟨by rw [HL2.out]; rfl, HB2.out⟩
        | false =>
          go_wp2
          go_ret3
          exact ⟨by rw [HL.out]; rfl, HBw.out⟩

end Go.Proofs.YtogfkfkejaiecaaGreatDoor.Ds

namespace Go.Proofs.YtogfkfkejaiecaaGreatDoor.Gc
open Go.RowKit Go.Shelf Pl Ut Ln Dc Di Dn Ds Eg Ga Gb Go.Proofs.YtogfkfkejaiecaaGreatDoorW.PrintWords
set_option linter.unusedVariables false
set_option linter.unusedSimpArgs false
attribute [local go_sem] B_append B_extract B_toList B_size take_end

/-- A conflict: its kind, its path. -/
abbrev Cf := Int × Str
def kI64 : Kd Int := Kd.int .i64
def kCf : Kd Cf := Kd.pair kI64 kStr
def cfCells (x : Cf) : List Value := [.int .i64 x.1, .string (B x.2)]
theorem kCf_open {w : World} {x : Cf} {cs : List Value} (h : kCf.K w x cs) : cs = cfCells x := by
  obtain ⟨_, _, rfl, rfl, rfl⟩ := h
  exact rfl
theorem kCf_mk (w : World) (base : Nat) (ok : Nat → Prop) (x : Cf) : kCf.M w base ok x (cfCells x) := ⟨[.int .i64 x.1], [.string (B x.2)], rfl, rfl, rfl⟩
theorem infoCf : (Tryz.prog.info? 60).map (fun i => (i.zero, i.size, i.bytes)) = some (some (.agg #[.int .i64 0, .string (B [])]), 2, 24) := by kernel_rfl
theorem mem_fl {q : TypeId} (h : q ∈ 49 :: kFl.E) : q = 49 := by
  rcases List.mem_cons.1 h with h | h
  · exact h
  · cases h
theorem mem_cf {q : TypeId} (h : q ∈ 60 :: kCf.E) : q = 60 := by
  rcases List.mem_cons.1 h with h | h
  · exact h
  · cases h

/-- What Trees holds beside what it reads: the flag, the files, the conflicts. -/
structure MemT (w : World) (B0 : Nat) (old : Bool) (outs : List Fl) (bads : List Cf) : Prop where
  ob : w.heap[B0]? = some (.cells #[.bool old] 4 (0, 0))
  out : ∃ v, w.heap[B0 + 1]? = some (.cells #[v] 33 (0, 0)) ∧ kFl.R 49 w (B0 + 3) (fun _ => True) v outs
  bad : ∃ u, w.heap[B0 + 2]? = some (.cells #[u] 35 (0, 0)) ∧ kCf.R 60 w (B0 + 3) (fun _ => True) u bads
/-- What stays: all below, and what lies beside the files and the conflicts. -/
structure FrT (B0 : Nat) (w w' : World) : Prop where
  low : Below B0 w w'
  by_ : ∀ (k : Nat) (c : Array Value) (t : TypeId) (f : Nat × Nat), w.heap[k]? = some (.cells c t f) → t ≠ 49 → t ≠ 60 → k ≠ B0 + 1 → k ≠ B0 + 2 → w'.heap[k]? = some (.cells c t f)
theorem FrT.refl (B0 : Nat) (w : World) : FrT B0 w w := ⟨Below.refl _ _, fun _ _ _ _ h _ _ _ _ => h⟩
theorem FrT.trans {B0 : Nat} {w w1 w2 : World} (h : FrT B0 w w1) (h2 : FrT B0 w1 w2) : FrT B0 w w2 := ⟨h.low.trans h2.low, fun k c t f hk a b d e => h2.by_ k c t f (h.by_ k c t f hk a b d e) a b d e⟩
theorem FrT.of_below {B0 : Nat} {w w' : World} (h : Below w.heap.size w w') (hb : B0 ≤ w.heap.size) : FrT B0 w w' := ⟨h.mono hb, fun k c t f hk _ _ _ _ => blk_below hk h⟩
theorem MemT.below {w w' : World} {B0 : Nat} {old : Bool} {outs : List Fl} {bads : List Cf} (h : MemT w B0 old outs bads) (hb : Below w.heap.size w w') : MemT w' B0 old outs bads := by
  obtain ⟨h0, ⟨v, h1, h2⟩, ⟨u, h3, h4⟩⟩ := h
  exact ⟨blk_below h0 hb, ⟨v, blk_below h1 hb, Kd.R_below h2 hb⟩, ⟨u, blk_below h3 hb, Kd.R_below h4 hb⟩⟩
theorem far_of {w w1 : World} {α : Type} {d : Kd α} {e : Nat} {base : Nat} {ok : Nat → Prop} {v : Value} {xs : List α} (hR : d.R e w base ok v xs) (hg : w.grownBy w1 v.ownBlock) {k : Nat} {c : Array Value} {t : TypeId} {f : Nat × Nat} (hk : w.heap[k]? = some (.cells c t f)) (ht : t ≠ e) : w1.heap[k]? = some (.cells c t f) := by
  refine (hg.block k (blk_lt hk) fun he => ?_).trans hk
  obtain ⟨cells', hc⟩ := Kd.R_typed hR k he.symm
  rw [hk] at hc; cases hc; exact ht rfl
theorem MemT.push_out {W w3 : World} {B0 : Nat} {old : Bool} {outs : List Fl} {bads : List Cf} {v : Value} {V1 : Option Addr} {N1 C1 : Nat} {x : Fl} (h : MemT W B0 old outs bads) (hv : W.heap[B0 + 1]? = some (.cells #[v] 33 (0, 0)))
    (hR : kFl.R 49 W (B0 + 3) (fun _ => True) v outs) (hR1 : kFl.R 49 w3 (B0 + 3) (fun _ => True) (.slice V1 N1 C1) (outs ++ [x])) (hg : W.grownBy w3 v.ownBlock) :
    MemT (w3.setCell ⟨B0 + 1, 0, none⟩ (.slice V1 N1 C1)) B0 old (outs ++ [x]) bads ∧ FrT B0 W (w3.setCell ⟨B0 + 1, 0, none⟩ (.slice V1 N1 C1)) := by
  obtain ⟨h0, _, ⟨u, h3, h4⟩⟩ := h
  have k0 := far_of hR hg h0 (by decide)
  have k1 := far_of hR hg hv (by decide)
  have k3 := far_of hR hg h3 (by decide)
  have k4 := Kd.R_over' (v := v) h4 (Kd.R_typed hR) (fun q hq => by rw [mem_cf hq]; decide) hg
  have far : ∀ (k : Nat) (oo : Obj), w3.heap[k]? = some oo → k ≠ B0 + 1 → (w3.setCell ⟨B0 + 1, 0, none⟩ (.slice V1 N1 C1)).heap[k]? = some oo := fun k oo h hne => (Below.heap_setCell _ _ _ _ hne).trans h
  have hlow : Below B0 W w3 := (Below.refl B0 W).grown hg (by have := blk_lt hv; omega) (fun j hj => by
    rcases Kd.R_base2 hR with hn | ⟨q, hn, hq⟩
    · rw [hn] at hj; cases hj
    · rw [hn] at hj; cases hj; omega)
  refine ⟨⟨far _ _ k0 (by omega), ⟨_, blk_set1 k1, Kd.R_set hR1 k1 (by decide) 0 _⟩, ⟨u, far _ _ k3 (by omega), ?_⟩⟩, ⟨hlow.setCell (p := ⟨B0 + 1, 0, none⟩) (by show B0 ≤ B0 + 1; omega) _, fun k c t f hk ht1 ht2 hk1 hk2 => far _ _ (far_of hR hg hk ht1) hk1⟩⟩
  exact Kd.R_set k4 k1 (by decide) 0 _
theorem MemT.push_bad {W w3 : World} {B0 : Nat} {old : Bool} {outs : List Fl} {bads : List Cf} {v : Value} {V1 : Option Addr} {N1 C1 : Nat} {x : Cf} (h : MemT W B0 old outs bads) (hv : W.heap[B0 + 2]? = some (.cells #[v] 35 (0, 0)))
    (hR : kCf.R 60 W (B0 + 3) (fun _ => True) v bads) (hR1 : kCf.R 60 w3 (B0 + 3) (fun _ => True) (.slice V1 N1 C1) (bads ++ [x])) (hg : W.grownBy w3 v.ownBlock) :
    MemT (w3.setCell ⟨B0 + 2, 0, none⟩ (.slice V1 N1 C1)) B0 old outs (bads ++ [x]) ∧ FrT B0 W (w3.setCell ⟨B0 + 2, 0, none⟩ (.slice V1 N1 C1)) := by
  obtain ⟨h0, ⟨u, h3, h4⟩, _⟩ := h
  have k0 := far_of hR hg h0 (by decide)
  have k1 := far_of hR hg hv (by decide)
  have k3 := far_of hR hg h3 (by decide)
  have k4 := Kd.R_over' (v := v) h4 (Kd.R_typed hR) (fun q hq => by rw [mem_fl hq]; decide) hg
  have far : ∀ (k : Nat) (oo : Obj), w3.heap[k]? = some oo → k ≠ B0 + 2 → (w3.setCell ⟨B0 + 2, 0, none⟩ (.slice V1 N1 C1)).heap[k]? = some oo := fun k oo h hne => (Below.heap_setCell _ _ _ _ hne).trans h
  have hlow : Below B0 W w3 := (Below.refl B0 W).grown hg (by have := blk_lt hv; omega) (fun j hj => by
    rcases Kd.R_base2 hR with hn | ⟨q, hn, hq⟩
    · rw [hn] at hj; cases hj
    · rw [hn] at hj; cases hj; omega)
  refine ⟨⟨far _ _ k0 (by omega), ⟨u, far _ _ k3 (by omega), ?_⟩, ⟨_, blk_set1 k1, Kd.R_set hR1 k1 (by decide) 0 _⟩⟩, ⟨hlow.setCell (p := ⟨B0 + 2, 0, none⟩) (by show B0 ≤ B0 + 2; omega) _, fun k c t f hk ht1 ht2 hk1 hk2 => far _ _ (far_of hR hg hk ht2) hk2⟩⟩
  exact Kd.R_set k4 k1 (by decide) 0 _

/-- A path's outcome is put behind the others. -/
def putOut (outs : List Fl) (p : Str) (r : Str × Bool × Int) : List Fl := if r.2.1 then outs ++ [(p, r.1)] else outs
def putBad (bads : List Cf) (p : Str) (r : Str × Bool × Int) : List Cf := if r.2.2 = 0 then bads else bads ++ [(r.2.2, p)]

set_option maxRecDepth 100000 in
set_option maxHeartbeats 8000000 in
theorem trees1_any (p o a b : Str) (ho ha hb old : Bool) (r1 : Str) (r2 : Bool) (r3 : Int) (outs : List Fl) (bads : List Cf) (B0 : Nat) (w : World) (hM : MemT w B0 old outs bads) (hB0 : B0 + 3 ≤ w.heap.size) (lo : outs.length ≤ 1000000) (lb : bads.length ≤ 1000000)
    (hT : ∀ W, Below w.heap.size w W → Calls Tryz.prog 23 #[.agg #[.string (B o), .string (B a), .string (B b)], .agg #[.bool ho, .bool ha, .bool hb], .bool old] W fun e w' => e = .returned (.tuple #[.string (B r1), .bool r2, .int .i64 r3]) ∧ Below W.heap.size W w') :
    Calls Tryz.prog 32 #[.string (B p), .agg #[.string (B o), .string (B a), .string (B b)], .agg #[.bool ho, .bool ha, .bool hb], .pointer (some ⟨B0, 0, none⟩), .pointer (some ⟨B0 + 1, 0, none⟩), .pointer (some ⟨B0 + 2, 0, none⟩)] w
      fun e w' => e = .returned (.tuple #[]) ∧ MemT w' B0 old (putOut outs p (r1, r2, r3)) (putBad bads p (r1, r2, r3)) ∧ FrT B0 w w' := by
  have HT := Lib.hid hT
  have HM := Lib.hid hM
  have o0 : w.cell? ⟨B0, 0, none⟩ = some (.bool old) := by rw [blk_cell hM.ob]; rfl
  clear hT hM
  have hb1 : Below w.heap.size w ((w.alloc (.cells #[.string (B o), .string (B a), .string (B b)] 22)).alloc (.cells #[.bool ho, .bool ha, .bool hb] 23)) := below_alloc (below_alloc (Below.refl _ _) _) _
  have o1 := pw_cell_below hb1 o0
  have HB1 := Lib.hid hb1
  clear hb1
  go_enter Tryz.func32, Tryz.ntmps32
  go_wp2_with fail
  refine (HT.out _ HB1.out).mono ?_
  rintro e w1 ⟨rfl, hb2⟩
  have HB2 := Lib.hid (HB1.out.trans (hb2.mono HB1.out.size))
  have HM1 := Lib.hid (HM.out.below HB2.out)
  clear hb2 HB1 HT o0 o1
  obtain ⟨h0, ⟨v, hv, hRv⟩, ⟨u, hu, hRu⟩⟩ := HM1.out
  have HR := Lib.hid hRv
  have HV := Lib.hid hv
  have c1 : w1.cell? ⟨B0 + 1, 0, none⟩ = some v := by rw [blk_cell hv]; rfl
  have f1 := blk_frozen hv 0
  have hsz : B0 + 3 ≤ w1.heap.size := Nat.le_trans hB0 HB2.out.size
  clear h0 hv hRv u hu hRu
  have hB1 : B0 ≤ w.heap.size := by omega
  cases r2 with
  | true =>
    go_wp2_with (at_builtin; go_loud (refine Kd.R_append kFl (w0 := w1) (B0 + 3) rfl _ _ 33 49 _ 32 rfl Tryz.underlying33 infoFl rfl (by decide) (by decide) v outs (p, r1) (flCells (p, r1)) (fun _ => True) (fun _ => False) rfl rfl (kFl_mk _ _ _ _) (fun _ h => h.elim) (fun _ _ => trivial) HR.out (Below.refl _ _) hsz (by omega) ?_))
    intro v1 w3 hR3 hb3 hg3 _
    obtain ⟨V1, N1, C1, rfl⟩ : ∃ V1 N1 C1, v1 = .slice V1 N1 C1 := by obtain ⟨A, c, h⟩ := Kd.R_slice hR3; exact ⟨A, _, c, h⟩
    have HP3 := Lib.hid (MemT.push_out HM1.out HV.out HR.out hR3 hg3)
    have k3 := far_of HR.out hg3 HV.out (by decide)
    have c3 : w3.cell? ⟨B0 + 1, 0, none⟩ = some v := by rw [blk_cell k3]; rfl
    have f3 := blk_frozen k3 0
    clear hR3 hb3 hg3 k3 c1 f1
    go_upto_region 4 with fail
    obtain ⟨w4, hw4⟩ : ∃ w4, w4 = w3.setCell ⟨B0 + 1, 0, none⟩ (.slice V1 N1 C1) := ⟨_, rfl⟩
    rw [← hw4] at HP3
    rw [← hw4]
    have HM3 := Lib.hid HP3.out.1
    have HF3 := Lib.hid HP3.out.2
    clear hw4 HP3 c3 f3
    have hpo : putOut outs p (r1, true, r3) = outs ++ [(p, r1)] := rfl
    have HPO := Lib.hid hpo
    clear hpo
    obtain ⟨_, _, ⟨u, hu, hRu⟩⟩ := HM3.out
    have HRu := Lib.hid hRu
    have HU := Lib.hid hu
    have c2 : w4.cell? ⟨B0 + 2, 0, none⟩ = some u := by rw [blk_cell hu]; rfl
    have f2 := blk_frozen hu 0
    have hsz3 : B0 + 3 ≤ w4.heap.size := Nat.le_trans hsz HF3.out.low.size
    clear hu hRu
    by_cases hr3 : r3 = 0
    · subst hr3
      go_wp2
      go_end0
      exact ⟨rfl, by rw [HPO.out, show putBad bads p (r1, true, 0) = bads from if_pos rfl]; exact HM3.out, (FrT.of_below HB2.out hB1).trans HF3.out⟩
    · have hz1 : (r3 != 0) = true := by rw [bne_iff_ne]; exact hr3
      have hz2 : (r3 == 0) = false := by rw [beq_eq_false_iff_ne]; exact hr3
      have HZ := Lib.hid hr3
      clear hr3
      go_wp2_with (at_builtin; go_loud (refine Kd.R_append kCf (w0 := w4) (B0 + 3) rfl _ _ 35 60 _ 24 rfl Tryz.underlying35 infoCf rfl (by decide) (by decide) u bads (r3, p) (cfCells (r3, p)) (fun _ => True) (fun _ => False) rfl rfl (kCf_mk _ _ _ _) (fun _ h => h.elim) (fun _ _ => trivial) HRu.out (Below.refl _ _) hsz3 (by omega) ?_))
      intro v3 w5 hR5 hb5 hg5 _
      obtain ⟨V3, N3, C3, rfl⟩ : ∃ V3 N3 C3, v3 = .slice V3 N3 C3 := by obtain ⟨A, c, h⟩ := Kd.R_slice hR5; exact ⟨A, _, c, h⟩
      have HP5 := Lib.hid (MemT.push_bad HM3.out HU.out HRu.out hR5 hg5)
      have k5 := far_of HRu.out hg5 HU.out (by decide)
      have c5 : w5.cell? ⟨B0 + 2, 0, none⟩ = some u := by rw [blk_cell k5]; rfl
      have f5 := blk_frozen k5 0
      clear hR5 hb5 hg5 k5 c2 f2
      go_wp2
      go_end0
      exact ⟨rfl, by rw [HPO.out, show putBad bads p (r1, true, r3) = bads ++ [(r3, p)] from if_neg HZ.out]; exact HP5.out.1, ((FrT.of_below HB2.out hB1).trans HF3.out).trans HP5.out.2⟩
  | false =>
    have hpo : putOut outs p (r1, false, r3) = outs := rfl
    have HPO := Lib.hid hpo
    have HM3 := HM1
    have HF3 := Lib.hid (FrT.refl B0 w1)
    clear hpo
    obtain ⟨_, _, ⟨u, hu, hRu⟩⟩ := HM3.out
    have HRu := Lib.hid hRu
    have HU := Lib.hid hu
    have c2 : w1.cell? ⟨B0 + 2, 0, none⟩ = some u := by rw [blk_cell hu]; rfl
    have f2 := blk_frozen hu 0
    have hsz3 : B0 + 3 ≤ w1.heap.size := Nat.le_trans hsz HF3.out.low.size
    clear hu hRu
    by_cases hr3 : r3 = 0
    · subst hr3
      go_wp2
      go_end0
      exact ⟨rfl, by rw [HPO.out, show putBad bads p (r1, false, 0) = bads from if_pos rfl]; exact HM3.out, (FrT.of_below HB2.out hB1).trans HF3.out⟩
    · have hz1 : (r3 != 0) = true := by rw [bne_iff_ne]; exact hr3
      have hz2 : (r3 == 0) = false := by rw [beq_eq_false_iff_ne]; exact hr3
      have HZ := Lib.hid hr3
      clear hr3
      go_wp2_with (at_builtin; go_loud (refine Kd.R_append kCf (w0 := w1) (B0 + 3) rfl _ _ 35 60 _ 24 rfl Tryz.underlying35 infoCf rfl (by decide) (by decide) u bads (r3, p) (cfCells (r3, p)) (fun _ => True) (fun _ => False) rfl rfl (kCf_mk _ _ _ _) (fun _ h => h.elim) (fun _ _ => trivial) HRu.out (Below.refl _ _) hsz3 (by omega) ?_))
      intro v3 w5 hR5 hb5 hg5 _
      obtain ⟨V3, N3, C3, rfl⟩ : ∃ V3 N3 C3, v3 = .slice V3 N3 C3 := by obtain ⟨A, c, h⟩ := Kd.R_slice hR5; exact ⟨A, _, c, h⟩
      have HP5 := Lib.hid (MemT.push_bad HM3.out HU.out HRu.out hR5 hg5)
      have k5 := far_of HRu.out hg5 HU.out (by decide)
      have c5 : w5.cell? ⟨B0 + 2, 0, none⟩ = some u := by rw [blk_cell k5]; rfl
      have f5 := blk_frozen k5 0
      clear hR5 hb5 hg5 k5 c2 f2
      go_wp2
      go_end0
      exact ⟨rfl, by rw [HPO.out, show putBad bads p (r1, false, r3) = bads ++ [(r3, p)] from if_neg HZ.out]; exact HP5.out.1, ((FrT.of_below HB2.out hB1).trans HF3.out).trans HP5.out.2⟩

end Go.Proofs.YtogfkfkejaiecaaGreatDoor.Gc

namespace Go.Proofs.YtogfkfkejaiecaaGreatDoor.Gd
open Go.RowKit Go.Shelf Pl Ut Ln Dc Di Dn Ds Eg Ga Gb Gc Go.Proofs.YtogfkfkejaiecaaGreatDoorW.PrintWords
set_option linter.unusedVariables false
set_option linter.unusedSimpArgs false
attribute [local go_sem] B_append B_extract B_toList B_size take_end

/-- What comes of a path. -/
def outOf (o a b : List Fl) (old : Bool) (p : Str) : Str × Bool × Int := fileL (getL o p).1 (getL a p).1 (getL b p).1 (getL o p).2 (getL a p).2 (getL b p).2 old
def outsL (o a b : List Fl) (old : Bool) (ps : List Str) : List Fl := ps.foldl (fun acc p => putOut acc p (outOf o a b old p)) []
def badsL (o a b : List Fl) (old : Bool) (ps : List Str) : List Cf := ps.foldl (fun acc p => putBad acc p (outOf o a b old p)) []
theorem outsL_snoc (o a b : List Fl) (old : Bool) (ps : List Str) (p : Str) : outsL o a b old (ps ++ [p]) = putOut (outsL o a b old ps) p (outOf o a b old p) := by unfold outsL; rw [List.foldl_append]; rfl
theorem badsL_snoc (o a b : List Fl) (old : Bool) (ps : List Str) (p : Str) : badsL o a b old (ps ++ [p]) = putBad (badsL o a b old ps) p (outOf o a b old p) := by unfold badsL; rw [List.foldl_append]; rfl
theorem putOut_length (l : List Fl) (p : Str) (r : Str × Bool × Int) : (putOut l p r).length ≤ l.length + 1 := by unfold putOut; split <;> simp
theorem putBad_length (l : List Cf) (p : Str) (r : Str × Bool × Int) : (putBad l p r).length ≤ l.length + 1 := by unfold putBad; split <;> simp
theorem outsL_length (o a b : List Fl) (old : Bool) (ps : List Str) : (outsL o a b old ps).length ≤ ps.length := by
  have h : ∀ (ps : List Str) (acc : List Fl), (ps.foldl (fun acc p => putOut acc p (outOf o a b old p)) acc).length ≤ acc.length + ps.length := by
    intro ps
    induction ps with
    | nil => intro acc; simp
    | cons p r ih => intro acc; have := ih (putOut acc p (outOf o a b old p)); have := putOut_length acc p (outOf o a b old p); simp only [List.foldl_cons, List.length_cons]; omega
  have := h ps []
  rw [List.length_nil, Nat.zero_add] at this
  exact this
theorem badsL_length (o a b : List Fl) (old : Bool) (ps : List Str) : (badsL o a b old ps).length ≤ ps.length := by
  have h : ∀ (ps : List Str) (acc : List Cf), (ps.foldl (fun acc p => putBad acc p (outOf o a b old p)) acc).length ≤ acc.length + ps.length := by
    intro ps
    induction ps with
    | nil => intro acc; simp
    | cons p r ih => intro acc; have := ih (putBad acc p (outOf o a b old p)); have := putBad_length acc p (outOf o a b old p); simp only [List.foldl_cons, List.length_cons]; omega
  have := h ps []
  rw [List.length_nil, Nat.zero_add] at this
  exact this
/-- Three trees as one. -/
def treesL (o a b : List Fl) (old : Bool) : List Fl × List Cf := (outsL o a b old (pathsL [o, a, b]), badsL o a b old (pathsL [o, a, b]))

theorem RowS.fr {w w' : World} {A : Option Addr} {xs : List Str} {B0 : Nat} {old : Bool} {outs : List Fl} {bads : List Cf} (h : RowS w A xs) (hM : MemT w B0 old outs bads) (hf : FrT B0 w w') : RowS w' A xs := by
  rcases h with rfl | ⟨b, cur, rfl, hb, hc⟩
  · exact .inl rfl
  · obtain ⟨_, ⟨v, hv, _⟩, ⟨u, hu, _⟩⟩ := hM
    exact .inr ⟨b, cur, rfl, hf.by_ b _ _ _ hb (by decide) (by decide) (blk_ne hb hv (by decide)) (blk_ne hb hu (by decide)), hc⟩
theorem compact_len (ts : List (List Fl)) : (pathsL ts).length ≤ (ts.map List.length).sum := by
  unfold pathsL
  refine Nat.le_trans (compact_length _) ?_
  rw [← allL_length]; simp [sortS]
theorem three_fls {w : World} {g : Nat} {o a b : List Fl} {A1 A2 A3 : Option Addr} {c1 c2 c3 : Nat} (hg : w.heap[g]? = some (.cells #[.slice A1 o.length c1, .slice A2 a.length c2, .slice A3 b.length c3] 33 (0, 0)))
    (h1 : Kd.C kFl w A1 o.length o) (h2 : Kd.C kFl w A2 a.length a) (h3 : Kd.C kFl w A3 b.length b) (l1 : o.length ≤ c1) (l2 : a.length ≤ c2) (l3 : b.length ≤ c3) : Kd.C kFls w (some ⟨g, 0, none⟩) 3 [o, a, b] := by
  refine ⟨rfl, by omega, fun _ => ⟨_, rfl, fun j p hj => ?_⟩⟩
  match j, hj with
  | 0, hj => cases hj; exact ⟨[.slice A1 o.length c1], rfl, ⟨A1, c1, rfl, l1, h1⟩, fun i u hu => by cases i with | zero => (simp at hu; subst hu; rw [add_plain, blk_cell hg]; rfl) | succ i => simp at hu⟩
  | 1, hj => cases hj; exact ⟨[.slice A2 a.length c2], rfl, ⟨A2, c2, rfl, l2, h2⟩, fun i u hu => by cases i with | zero => (simp at hu; subst hu; rw [add_plain, blk_cell hg]; rfl) | succ i => simp at hu⟩
  | 2, hj => cases hj; exact ⟨[.slice A3 b.length c3], rfl, ⟨A3, c3, rfl, l3, h3⟩, fun i u hu => by cases i with | zero => (simp at hu; subst hu; rw [add_plain, blk_cell hg]; rfl) | succ i => simp at hu⟩
  | j + 3, hj => simp at hj

set_option maxRecDepth 100000 in
set_option maxHeartbeats 8000000 in
theorem each_any (o a b : List Fl) (old : Bool) (A1 A2 A3 : Option Addr) (c1 c2 c3 : Nat) (w0 w : World) (B0 : Nat) (hB0 : B0 = w0.heap.size) (h1 : Kd.C kFl w0 A1 o.length o) (h2 : Kd.C kFl w0 A2 a.length a) (h3 : Kd.C kFl w0 A3 b.length b)
    (l1 : o.length ≤ c1) (l2 : a.length ≤ c2) (l3 : b.length ≤ c3) (hsum : o.length + a.length + b.length ≤ 100000) (hb0 : Below B0 w0 w) (hM : MemT w B0 old [] [])
    (hL : w.heap[B0 + 3]? = some (.cells #[.slice A1 o.length c1, .slice A2 a.length c2, .slice A3 b.length c3] 33 (0, 0)))
    (hT : ∀ p W, Below B0 w0 W → Calls Tryz.prog 23 #[.agg #[.string (B (getL o p).1), .string (B (getL a p).1), .string (B (getL b p).1)], .agg #[.bool (getL o p).2, .bool (getL a p).2, .bool (getL b p).2], .bool old] W
      fun e w' => e = .returned (.tuple #[.string (B (outOf o a b old p).1), .bool (outOf o a b old p).2.1, .int .i64 (outOf o a b old p).2.2]) ∧ Below W.heap.size W w') :
    Calls Tryz.prog 31 #[.func (.func 32) #[] #[.pointer (some ⟨B0, 0, none⟩), .pointer (some ⟨B0 + 1, 0, none⟩), .pointer (some ⟨B0 + 2, 0, none⟩)], .slice (some ⟨B0 + 3, 0, none⟩) 3 3] w
      fun e w' => e = .returned (.tuple #[]) ∧ MemT w' B0 old (treesL o a b old).1 (treesL o a b old).2 ∧ FrT B0 w w' := by
  have up : ∀ {A : Option Addr} {xs : List Fl} {W : World}, Kd.C kFl w0 A xs.length xs → Below B0 w0 W → Kd.C kFl W A xs.length xs := fun h hb => Kd.C_below h (by rw [← hB0]; exact hb)
  have hP := paths_any [o, a, b] (some ⟨B0 + 3, 0, none⟩) 3 w (three_fls hL (up h1 hb0) (up h2 hb0) (up h3 hb0) l1 l2 l3) (by simp) (by simp; omega)
  have hpl : (pathsL [o, a, b]).length ≤ 100000 := by have := compact_len [o, a, b]; simp at this; omega
  have HO := Lib.hid (fun W (hb : Below B0 w0 W) p => get_any o p A1 c1 W (up h1 hb) (by omega))
  have HA := Lib.hid (fun W (hb : Below B0 w0 W) p => get_any a p A2 c2 W (up h2 hb) (by omega))
  have HBb := Lib.hid (fun W (hb : Below B0 w0 W) p => get_any b p A3 c3 W (up h3 hb) (by omega))
  obtain ⟨ps, hps⟩ : ∃ ps, ps = pathsL [o, a, b] := ⟨_, rfl⟩
  rw [← hps] at hP hpl
  have HTr := Lib.hid (show treesL o a b old = (outsL o a b old ps, badsL o a b old ps) from by rw [hps]; rfl)
  have HP := Lib.hid hP
  have HM := Lib.hid hM
  have HB0 := Lib.hid hb0
  have HL := Lib.hid hL
  have HT := Lib.hid hT
  have hBz : B0 ≤ w.heap.size := by have := blk_lt hM.ob; omega
  have hBs : B0 + 4 ≤ w.heap.size := by have := blk_lt hL; omega
  clear hps hP hM hb0 hL hT up h1 h2 h3 l1 l2 l3 hB0
  go_enter Tryz.func31, Tryz.ntmps31
  go_wp2_with fail
  refine HP.out.mono ?_
  rintro e w2 ⟨AP, cP, rfl, hrs, hb2⟩
  have HRS := Lib.hid hrs
  have HM2 := Lib.hid (HM.out.below hb2)
  have HF2 := Lib.hid (FrT.of_below (B0 := B0) hb2 hBz)
  clear hrs hb2 HM HP
  go_wp2
  go_loopw [12] (fun i wr => ∃ k : Nat, k ≤ ps.length ∧ i = .int .i64 (k : Int) ∧ Hid (MemT wr B0 old (outsL o a b old (ps.take k)) (badsL o a b old (ps.take k))) ∧ Hid (FrT B0 w2 wr)) (fun i _ => ps.length - (intOf i).toNat)
  case atStart => exact ⟨0, Nat.zero_le _, rfl, HM2, FrT.refl _ _⟩
  case round =>
    obtain ⟨k, hk, rfl, HMk, HFk⟩ := hrel
    obtain ⟨wk, rfl⟩ : ∃ wk : World, wk = wr := ⟨_, rfl⟩
    by_cases hk0 : k < ps.length
    · have hlt : (k : Int) < (ps.length : Int) := by omega
      obtain ⟨p, hp⟩ : ∃ p, ps[k]? = some p := ⟨ps[k], List.getElem?_eq_getElem hk0⟩
      obtain ⟨bP, rfl, e0⟩ := (RowS.fr HRS.out HM2.out HFk.out).at_ hp
      have HTK := Lib.hid (take_snoc hp)
      have HK := Lib.hid hk0
      clear hp hk0 hk
      have HBw : Hid (Below B0 w0 wk) := Lib.hid (HB0.out.trans (HF2.out.low.trans HFk.out.low))
      have HLw : Hid (wk.heap[B0 + 3]? = some (.cells #[.slice A1 o.length c1, .slice A2 a.length c2, .slice A3 b.length c3] 33 (0, 0))) :=
        Lib.hid ((HF2.out.trans HFk.out).by_ _ _ _ _ HL.out (by decide) (by decide) (by omega) (by omega))
      have cadd : IntKind.i64.wrap ((k : Int) + 1) = ((k + 1 : Nat) : Int) := by rw [IntWalk.i64_in _ (by have := HK.out; omega)]; omega
      obtain ⟨x1, b1⟩ : ∃ x, x = getL o p := ⟨_, rfl⟩
      obtain ⟨x2, b2⟩ : ∃ x, x = getL a p := ⟨_, rfl⟩
      obtain ⟨x3, b3⟩ : ∃ x, x = getL b p := ⟨_, rfl⟩
      obtain ⟨R, hR⟩ : ∃ R, R = outOf o a b old p := ⟨_, rfl⟩
      have GO := Lib.hid (fun W (hb : Below B0 w0 W) => HO.out W hb p)
      have GA := Lib.hid (fun W (hb : Below B0 w0 W) => HA.out W hb p)
      have GB := Lib.hid (fun W (hb : Below B0 w0 W) => HBb.out W hb p)
      have GT := Lib.hid (fun W (hb : Below B0 w0 W) => HT.out p W hb)
      rw [← b1] at GO GT
      rw [← b2] at GA GT
      rw [← b3] at GB GT
      rw [← hR] at GT
      have HRR := Lib.hid hR
      clear b1 b2 b3 hR
      obtain ⟨s1, b1⟩ := x1
      obtain ⟨s2, b2⟩ := x2
      obtain ⟨s3, b3⟩ := x3
      obtain ⟨r1, r2, r3⟩ := R
      (try dsimp only at GO); (try dsimp only at GA); (try dsimp only at GB); (try dsimp only at GT)
      go_upto_region 5 with fail
      obtain ⟨U, hU⟩ : ∃ U, U = (wk.alloc (.cells #[.string ⟨#[]⟩, .string ⟨#[]⟩, .string ⟨#[]⟩] 22)).alloc (.cells #[.bool false, .bool false, .bool false] 23) := ⟨_, rfl⟩
      have U0 : Hid (Hid (U.heap[wk.heap.size]? = some (.cells #[.string ⟨#[]⟩, .string ⟨#[]⟩, .string ⟨#[]⟩] 22 (0, 0))) ∧ Hid (U.heap[wk.heap.size + 1]? = some (.cells #[.bool false, .bool false, .bool false] 23 (0, 0))) ∧ Hid (Below wk.heap.size wk U)) := by
        rw [hU]
        refine Lib.hid ⟨Lib.hid (blk_alloc (blk_new _ _) _), Lib.hid ?_, Lib.hid (below_alloc (below_alloc (Below.refl _ _) _) _)⟩
        have := blk_new (wk.alloc (.cells #[.string ⟨#[]⟩, .string ⟨#[]⟩, .string ⟨#[]⟩] 22)) (.cells #[.bool false, .bool false, .bool false] 23)
        simpa using this
      rw [← hU]
      clear hU
      have hBr : B0 ≤ wk.heap.size := Nat.le_trans hBz (Nat.le_trans HF2.out.low.size HFk.out.low.size)
      go_wp2
      go_loopw [18] (fun i wx => (i = .int .i64 0 ∧ Hid (wx.heap[wk.heap.size]? = some (.cells #[.string ⟨#[]⟩, .string ⟨#[]⟩, .string ⟨#[]⟩] 22 (0, 0))) ∧ Hid (wx.heap[wk.heap.size + 1]? = some (.cells #[.bool false, .bool false, .bool false] 23 (0, 0))) ∧ Hid (Below wk.heap.size wk wx)) ∨
        (i = .int .i64 1 ∧ Hid (wx.heap[wk.heap.size]? = some (.cells #[.string (B s1), .string ⟨#[]⟩, .string ⟨#[]⟩] 22 (0, 0))) ∧ Hid (wx.heap[wk.heap.size + 1]? = some (.cells #[.bool b1, .bool false, .bool false] 23 (0, 0))) ∧ Hid (Below wk.heap.size wk wx)) ∨
        (i = .int .i64 2 ∧ Hid (wx.heap[wk.heap.size]? = some (.cells #[.string (B s1), .string (B s2), .string ⟨#[]⟩] 22 (0, 0))) ∧ Hid (wx.heap[wk.heap.size + 1]? = some (.cells #[.bool b1, .bool b2, .bool false] 23 (0, 0))) ∧ Hid (Below wk.heap.size wk wx)) ∨
        (i = .int .i64 3 ∧ Hid (wx.heap[wk.heap.size]? = some (.cells #[.string (B s1), .string (B s2), .string (B s3)] 22 (0, 0))) ∧ Hid (wx.heap[wk.heap.size + 1]? = some (.cells #[.bool b1, .bool b2, .bool b3] 23 (0, 0))) ∧ Hid (Below wk.heap.size wk wx))) (fun i _ => 3 - (intOf i).toNat)
      case atStart => exact .inl ⟨rfl, U0.out⟩
      case round =>
        clear U0
        rcases hrel with ⟨rfl, HTi, HFi, HBi⟩ | ⟨rfl, HTi, HFi, HBi⟩ | ⟨rfl, HTi, HFi, HBi⟩ | ⟨rfl, HTi, HFi, HBi⟩
        · have l0 : wr.cell? ⟨B0 + 3, 0, none⟩ = some (.slice A1 o.length c1) := by rw [blk_cell (blk_below HLw.out HBi.out)]; rfl
          go_wp2_with fail
          refine (GO.out _ (HBw.out.trans (HBi.out.mono hBr))).mono ?_
          rintro e w5 ⟨rfl, hb⟩
          have HT5 := Lib.hid (blk_below HTi.out hb)
          have HF5 := Lib.hid (blk_below HFi.out hb)
          have HB5 := Lib.hid (HBi.out.trans (hb.mono HBi.out.size))
          have f0 := blk_frozen HT5.out 0
          have f1 := blk_frozen HF5.out 0
          have y0 : w5.cell? ⟨wk.heap.size, 0, none⟩ = some (.string ⟨#[]⟩) := by rw [blk_cell HT5.out]; rfl
          have y1 : w5.cell? ⟨wk.heap.size + 1, 0, none⟩ = some (.bool false) := by rw [blk_cell HF5.out]; rfl
          clear hb l0
          go_wp2
          go_roundw
          case rel =>
            refine .inr (.inl ⟨rfl, Lib.hid (blk_far (blk_set HT5.out 0 _) (by show wk.heap.size ≠ wk.heap.size + 1; omega) _), Lib.hid (blk_set (blk_far HF5.out (by show wk.heap.size + 1 ≠ wk.heap.size; omega) _) 0 _), Lib.hid ((HB5.out.setCell (p := ⟨wk.heap.size, 0, none⟩) (Nat.le_refl _) _).setCell (p := ⟨wk.heap.size + 1, 0, none⟩) (by show wk.heap.size ≤ wk.heap.size + 1; omega) _)⟩)
          · simp [intOf]
        · have l0 : wr.cell? ⟨B0 + 3, 1, none⟩ = some (.slice A2 a.length c2) := by rw [blk_cell (blk_below HLw.out HBi.out)]; rfl
          go_wp2_with fail
          refine (GA.out _ (HBw.out.trans (HBi.out.mono hBr))).mono ?_
          rintro e w5 ⟨rfl, hb⟩
          have HT5 := Lib.hid (blk_below HTi.out hb)
          have HF5 := Lib.hid (blk_below HFi.out hb)
          have HB5 := Lib.hid (HBi.out.trans (hb.mono HBi.out.size))
          have f0 := blk_frozen HT5.out 1
          have f1 := blk_frozen HF5.out 1
          have y0 : w5.cell? ⟨wk.heap.size, 1, none⟩ = some (.string ⟨#[]⟩) := by rw [blk_cell HT5.out]; rfl
          have y1 : w5.cell? ⟨wk.heap.size + 1, 1, none⟩ = some (.bool false) := by rw [blk_cell HF5.out]; rfl
          clear hb l0
          go_wp2
          go_roundw
          case rel =>
            refine .inr (.inr (.inl ⟨rfl, Lib.hid (blk_far (blk_set HT5.out 1 _) (by show wk.heap.size ≠ wk.heap.size + 1; omega) _), Lib.hid (blk_set (blk_far HF5.out (by show wk.heap.size + 1 ≠ wk.heap.size; omega) _) 1 _), Lib.hid ((HB5.out.setCell (p := ⟨wk.heap.size, 1, none⟩) (Nat.le_refl _) _).setCell (p := ⟨wk.heap.size + 1, 1, none⟩) (by show wk.heap.size ≤ wk.heap.size + 1; omega) _)⟩))
          · simp [intOf]
        · have l0 : wr.cell? ⟨B0 + 3, 2, none⟩ = some (.slice A3 b.length c3) := by rw [blk_cell (blk_below HLw.out HBi.out)]; rfl
          go_wp2_with fail
          refine (GB.out _ (HBw.out.trans (HBi.out.mono hBr))).mono ?_
          rintro e w5 ⟨rfl, hb⟩
          have HT5 := Lib.hid (blk_below HTi.out hb)
          have HF5 := Lib.hid (blk_below HFi.out hb)
          have HB5 := Lib.hid (HBi.out.trans (hb.mono HBi.out.size))
          have f0 := blk_frozen HT5.out 2
          have f1 := blk_frozen HF5.out 2
          have y0 : w5.cell? ⟨wk.heap.size, 2, none⟩ = some (.string ⟨#[]⟩) := by rw [blk_cell HT5.out]; rfl
          have y1 : w5.cell? ⟨wk.heap.size + 1, 2, none⟩ = some (.bool false) := by rw [blk_cell HF5.out]; rfl
          clear hb l0
          go_wp2
          go_roundw
          case rel =>
            refine .inr (.inr (.inr (⟨rfl, Lib.hid (blk_far (blk_set HT5.out 2 _) (by show wk.heap.size ≠ wk.heap.size + 1; omega) _), Lib.hid (blk_set (blk_far HF5.out (by show wk.heap.size + 1 ≠ wk.heap.size; omega) _) 2 _), Lib.hid ((HB5.out.setCell (p := ⟨wk.heap.size, 2, none⟩) (Nat.le_refl _) _).setCell (p := ⟨wk.heap.size + 1, 2, none⟩) (by show wk.heap.size ≤ wk.heap.size + 1; omega) _)⟩)))
          · simp [intOf]
        · have z0 : wr.cell? ⟨wk.heap.size, 0, none⟩ = some (.string (B s1)) := by rw [blk_cell HTi.out]; rfl
          have z1 : wr.cell? ⟨wk.heap.size, 1, none⟩ = some (.string (B s2)) := by rw [blk_cell HTi.out]; rfl
          have z2 : wr.cell? ⟨wk.heap.size, 2, none⟩ = some (.string (B s3)) := by rw [blk_cell HTi.out]; rfl
          have z3 : wr.cell? ⟨wk.heap.size + 1, 0, none⟩ = some (.bool b1) := by rw [blk_cell HFi.out]; rfl
          have z4 : wr.cell? ⟨wk.heap.size + 1, 1, none⟩ = some (.bool b2) := by rw [blk_cell HFi.out]; rfl
          have z5 : wr.cell? ⟨wk.heap.size + 1, 2, none⟩ = some (.bool b3) := by rw [blk_cell HFi.out]; rfl
          have HBx := Lib.hid (HBw.out.trans (HBi.out.mono hBr))
          have HMr := Lib.hid (HMk.out.below HBi.out)
          have hzr : B0 + 3 ≤ wr.heap.size := by have := HB0.out.size; have := HBi.out.size; have := HF2.out.low.size; have := HFk.out.low.size; omega
          have hol : (outsL o a b old (ps.take k)).length ≤ 1000000 := by have := outsL_length o a b old (ps.take k); rw [List.length_take] at this; omega
          have hbl : (badsL o a b old (ps.take k)).length ≤ 1000000 := by have := badsL_length o a b old (ps.take k); rw [List.length_take] at this; omega
          have HC := Lib.hid (trees1_any p s1 s2 s3 b1 b2 b3 old r1 r2 r3 _ _ B0 wr HMr.out hzr hol hbl (fun W hb => GT.out W (HBx.out.trans (hb.mono (by omega)))))
          clear hol hbl hzr
          go_wp2_with fail
          refine HC.out.mono ?_
          rintro e w6 ⟨rfl, hm6, hf6⟩
          have HM6 := Lib.hid hm6
          have HF6 := Lib.hid ((HFk.out.trans (FrT.of_below HBi.out hBr)).trans hf6)
          clear hm6 hf6 z0 z1 z2 z3 z4 z5
          go_wp2
          go_roundw
          case rel =>
            refine ⟨k + 1, HK.out, rfl, Lib.hid ?_, HF6⟩
            rw [HTK.out, outsL_snoc, badsL_snoc, ← HRR.out]
            exact HM6.out
          · have := HK.out; simp only [intOf]; omega
    · obtain rfl : k = ps.length := by omega
      have hlt : ¬ (ps.length : Int) < (ps.length : Int) := by omega
      rw [List.take_length] at HMk
      go_wp2
      go_end0
      refine ⟨rfl, ?_, HF2.out.trans HFk.out⟩
      rw [HTr.out]
      exact HMk.out

set_option maxRecDepth 100000 in
set_option maxHeartbeats 8000000 in
theorem trees_any (o a b : List Fl) (old : Bool) (A1 A2 A3 : Option Addr) (c1 c2 c3 : Nat) (w : World) (h1 : Kd.C kFl w A1 o.length o) (h2 : Kd.C kFl w A2 a.length a) (h3 : Kd.C kFl w A3 b.length b)
    (l1 : o.length ≤ c1) (l2 : a.length ≤ c2) (l3 : b.length ≤ c3) (hsum : o.length + a.length + b.length ≤ 100000)
    (hT : ∀ p W, Below w.heap.size w W → Calls Tryz.prog 23 #[.agg #[.string (B (getL o p).1), .string (B (getL a p).1), .string (B (getL b p).1)], .agg #[.bool (getL o p).2, .bool (getL a p).2, .bool (getL b p).2], .bool old] W
      fun e w' => e = .returned (.tuple #[.string (B (outOf o a b old p).1), .bool (outOf o a b old p).2.1, .int .i64 (outOf o a b old p).2.2]) ∧ Below W.heap.size W w') :
    Calls Tryz.prog 15 #[.slice A1 o.length c1, .slice A2 a.length c2, .slice A3 b.length c3, .bool old] w
      fun e w' => ∃ v u, e = .returned (.tuple #[v, u]) ∧ kFl.R 49 w' w.heap.size (fun _ => True) v (treesL o a b old).1 ∧ kCf.R 60 w' w.heap.size (fun _ => True) u (treesL o a b old).2 ∧ Below w.heap.size w w' := by
  obtain ⟨U, hU⟩ : ∃ U, U = (((w.alloc (.cells #[.bool old] 4)).alloc (.cells #[.slice none 0 0] 33)).alloc (.cells #[.slice none 0 0] 35)).alloc (.cells #[.slice A1 o.length c1, .slice A2 a.length c2, .slice A3 b.length c3] 33) := ⟨_, rfl⟩
  have hbU : Below w.heap.size w U := by rw [hU]; exact below_alloc (below_alloc (below_alloc (below_alloc (Below.refl _ _) _) _) _) _
  have k0 : U.heap[w.heap.size]? = some (.cells #[.bool old] 4 (0, 0)) := by rw [hU]; exact blk_alloc (blk_alloc (blk_alloc (blk_new _ _) _) _) _
  have k1 : U.heap[w.heap.size + 1]? = some (.cells #[.slice none 0 0] 33 (0, 0)) := by
    rw [hU]
    refine blk_alloc (blk_alloc ?_ _) _
    have := blk_new (w.alloc (.cells #[.bool old] 4)) (.cells #[.slice none 0 0] 33)
    simpa using this
  have k2 : U.heap[w.heap.size + 2]? = some (.cells #[.slice none 0 0] 35 (0, 0)) := by
    rw [hU]
    refine blk_alloc ?_ _
    have := blk_new ((w.alloc (.cells #[.bool old] 4)).alloc (.cells #[.slice none 0 0] 33)) (.cells #[.slice none 0 0] 35)
    simpa using this
  have k3 : U.heap[w.heap.size + 3]? = some (.cells #[.slice A1 o.length c1, .slice A2 a.length c2, .slice A3 b.length c3] 33 (0, 0)) := by
    rw [hU]
    have := blk_new (((w.alloc (.cells #[.bool old] 4)).alloc (.cells #[.slice none 0 0] 33)).alloc (.cells #[.slice none 0 0] 35)) (.cells #[.slice A1 o.length c1, .slice A2 a.length c2, .slice A3 b.length c3] 33)
    simpa using this
  have HE := Lib.hid (each_any o a b old A1 A2 A3 c1 c2 c3 w U w.heap.size rfl h1 h2 h3 l1 l2 l3 hsum hbU ⟨k0, ⟨_, k1, Kd.R_nil _ _ _ _ _⟩, ⟨_, k2, Kd.R_nil _ _ _ _ _⟩⟩ k3 hT)
  have HBU := Lib.hid hbU
  rw [hU] at HE HBU
  clear hU hbU k0 k1 k2 k3 h1 h2 h3 l1 l2 l3 hT
  obtain ⟨T, hT⟩ : ∃ T, T = treesL o a b old := ⟨_, rfl⟩
  rw [← hT] at HE
  rw [← hT]
  clear hT
  go_enter Tryz.func15, Tryz.ntmps15
  go_wp2_with fail
  refine HE.out.mono ?_
  rintro e w2 ⟨rfl, ⟨_, ⟨v, hv, hRv⟩, ⟨u, hu, hRu⟩⟩, hf2⟩
  have x1 : w2.cell? ⟨w.heap.size + 1, 0, none⟩ = some v := by rw [blk_cell hv]; rfl
  have x2 : w2.cell? ⟨w.heap.size + 2, 0, none⟩ = some u := by rw [blk_cell hu]; rfl
  have HV := Lib.hid (Kd.R_lower hRv (base' := w.heap.size) (by omega))
  have HU := Lib.hid (Kd.R_lower hRu (base' := w.heap.size) (by omega))
  have HF := Lib.hid (HBU.out.trans hf2.low)
  clear hv hu hRv hRu hf2
  go_wp2_with fail
  go_quiet (fail)
  go_wp2
  go_ret2
  exact ⟨v, u, rfl, R_drewN HV.out _, R_drewN HU.out _, pw_below_drewN HF.out _⟩

end Go.Proofs.YtogfkfkejaiecaaGreatDoor.Gd
