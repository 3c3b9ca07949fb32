/- Contracts of the reference's lines: Split, Whole; run, mark, section. -/
import Derived.Test.YtggeelejmhihdaaDoorMs
namespace Go.Proofs.YtggeelejmhihdaaDoor.Ra
open Go.RowKit Go.Shelf Go.Proofs.YtggeelejmhihdaaDoor.Pl Go.Proofs.YtggeelejmhihdaaDoor.Ut Go.Proofs.YtggeelejmhihdaaDoor.Ln Go.Proofs.YtggeelejmhihdaaDoorW.PrintWords
set_option linter.unusedVariables false
set_option linter.unusedSimpArgs false
attribute [local go_sem] B_append B_extract B_toList B_size take_end

theorem str_at {s : Str} {i : Nat} {c : UInt8} (h : s[i]? = some c) : ∀ hh : i < (B s).size, (B s)[i]'hh = c := by
  intro hh
  have h2 : i < s.length := (List.getElem?_eq_some_iff.1 h).1
  have h3 : s[i] = c := (List.getElem?_eq_some_iff.1 h).2
  rw [← h3]
  rfl
theorem toNat_eq10 (c : UInt8) : ((c.toNat : Int) == 10) = (c == 10) := by
  rw [Bool.eq_iff_iff, beq_iff_eq, beq_iff_eq]
  constructor
  · intro h
    apply UInt8.toNat_inj.1
    have : c.toNat = 10 := by omega
    rw [this]; rfl
  · rintro rfl; rfl

/-- Between the lines that are told and the place that is read. -/
structure SplitAt (s : Str) (os : List Str) (f i : Nat) : Prop where
  fi : f ≤ i
  il : i ≤ s.length
  cut : splitL s = os ++ splitL (s.drop f)
  free : (10 : UInt8) ∉ (s.drop f).take (i - f)
  cnt : os.length ≤ f
theorem SplitAt.start (s : Str) : SplitAt s [] 0 0 := ⟨Nat.le_refl _, Nat.zero_le _, rfl, by simp, Nat.le_refl _⟩
theorem SplitAt.next {s : Str} {os : List Str} {f i : Nat} (h : SplitAt s os f i) {c : UInt8} (hc : s[i]? = some c) (hn : c ≠ 10) : SplitAt s os f (i + 1) := by
  obtain ⟨h1, h2, h3, h4, h5⟩ := h
  have hi : i < s.length := (List.getElem?_eq_some_iff.1 hc).1
  refine ⟨by omega, by omega, h3, ?_, h5⟩
  rw [show i + 1 - f = (i - f) + 1 by omega, List.take_add_one, List.getElem?_drop, show f + (i - f) = i by omega, hc]
  simp only [Option.toList_some, List.mem_append, List.mem_singleton, not_or]
  exact ⟨h4, fun e => hn e.symm⟩
theorem SplitAt.line {s : Str} {os : List Str} {f i : Nat} (h : SplitAt s os f i) (hc : s[i]? = some 10) : SplitAt s (os ++ [(s.drop f).take (i + 1 - f)]) (i + 1) (i + 1) := by
  obtain ⟨h1, h2, h3, h4, h5⟩ := h
  have hi : i < s.length := (List.getElem?_eq_some_iff.1 hc).1
  have hg : s[i] = 10 := (List.getElem?_eq_some_iff.1 hc).2
  have e : s.drop f = (s.drop f).take (i - f) ++ 10 :: s.drop (i + 1) := by
    conv => lhs; rw [← List.take_append_drop (i - f) (s.drop f)]
    rw [List.drop_drop, show f + (i - f) = i by omega, List.drop_eq_getElem_cons hi, hg]
  have e2 : (s.drop f).take (i + 1 - f) = (s.drop f).take (i - f) ++ [10] := by
    rw [show i + 1 - f = (i - f) + 1 by omega, List.take_add_one, List.getElem?_drop, show f + (i - f) = i by omega, hc]
    rfl
  refine ⟨Nat.le_refl _, by omega, ?_, by simp, by simp; omega⟩
  rw [h3, e2, List.append_assoc]
  congr 1
  conv => lhs; rw [e]
  rw [splitL_line _ _ h4]
  rfl
theorem SplitAt.last {s : Str} {os : List Str} {f : Nat} (h : SplitAt s os f s.length) (hf : f < s.length) : splitL s = os ++ [s.drop f] := by
  obtain ⟨h1, h2, h3, h4, h5⟩ := h
  rw [h3]
  have e : (s.drop f).take (s.length - f) = s.drop f := take_end s f
  rw [e] at h4
  rw [splitL_last _ h4 (by intro e; have := congrArg List.length e; rw [List.length_drop, List.length_nil] at this; omega)]
theorem SplitAt.all {s : Str} {os : List Str} {f : Nat} (h : SplitAt s os f s.length) (hf : ¬ f < s.length) : splitL s = os := by
  obtain ⟨h1, h2, h3, h4, h5⟩ := h
  rw [h3, List.drop_eq_nil_of_le (by omega)]
  simp [splitL]

set_option maxRecDepth 100000 in
set_option maxHeartbeats 4000000 in
theorem rsplit_any (s : Str) (hs : s.length ≤ 1000000000) (w : World) :
    Calls Tryd.prog 26 #[.string (B s)] w fun e w' => ∃ v, e = .returned v ∧ kStr.R 9 w' w.heap.size (fun _ => True) v (splitL s) ∧ Below w.heap.size w w' := by
  go_enter Tryd.func26, Tryd.ntmps26
  go_wp2
  go_loopw [3, 4, 5] (fun v f i wr => ∃ (os : List Str) (p q : Nat), f = .int .i64 p ∧ i = .int .i64 q ∧ Hid (SplitAt s os p q) ∧ Hid (kStr.R 9 wr w.heap.size (fun _ => True) v os) ∧ Below w.heap.size w wr) (fun _ _ i _ => s.length - (intOf i).toNat)
  case atStart => exact ⟨[], 0, 0, rfl, rfl, SplitAt.start s, Kd.R_nil _ _ _ _ _, Below.refl _ _⟩
  case round =>
    obtain ⟨os, p, q, rfl, rfl, HA, HR, hB⟩ := hrel
    have hsz := hB.size
    obtain ⟨wo, rfl⟩ : ∃ wo : World, wo = wr := ⟨_, rfl⟩
    have hpq := HA.out.fi
    have hql := HA.out.il
    have hcnt := HA.out.cnt
    by_cases hlt : q < s.length
    · obtain ⟨x, hx⟩ : ∃ x, s[q]? = some x := ⟨s[q], List.getElem?_eq_getElem hlt⟩
      have hat := str_at hx
      have HX := Lib.hid hx
      clear hx
      have h10 := toNat_eq10 x
      cases hx10 : (x == 10) with
      | true =>
        rw [hx10] at h10
        go_wp2_with (at_builtin; go_loud (refine Kd.R_append kStr (w0 := w) w.heap.size rfl _ _ 27 9 _ 16 rfl Tryd.underlying27 infoString rfl (by decide) (by decide) u3 os ((s.drop p).take (q + 1 - p)) _ (fun _ => True) (fun _ => False) rfl rfl ?k1 ?k2 ?k3 HR.out hB (by omega) (by omega) ?_))
        case k1 => exact rfl
        case k2 => exact fun _ h => h.elim
        case k3 => exact fun _ _ => trivial
        intro v1 w1 hR1 hb1 hg1 _
        have HR1 := Lib.hid hR1
        clear hR1 hg1
        go_wp2
        go_roundw
        case rel => exact ⟨os ++ [(s.drop p).take (q + 1 - p)], q + 1, q + 1, by go_num, by go_num, HA.out.line (by rw [HX.out, eq_of_beq hx10]), HR1, hb1⟩
        case measure => simp [intOf]; omega
      | false =>
        rw [hx10] at h10
        go_wp2
        go_roundw
        case rel => exact ⟨os, p, q + 1, rfl, by go_num, HA.out.next HX.out (by simpa using hx10), HR, hB⟩
        case measure => simp [intOf]; omega
    · obtain rfl : q = s.length := by omega
      by_cases hp : p < s.length
      · have HL := Lib.hid (HA.out.last hp)
        go_wp2_with (at_builtin; go_loud (refine Kd.R_append kStr (w0 := w) w.heap.size rfl _ _ 27 9 _ 16 rfl Tryd.underlying27 infoString rfl (by decide) (by decide) u3 os (s.drop p) _ (fun _ => True) (fun _ => False) rfl rfl ?k1 ?k2 ?k3 HR.out hB (by omega) (by omega) ?_))
        case k1 => exact rfl
        case k2 => exact fun _ h => h.elim
        case k3 => exact fun _ _ => trivial
        intro v1 w1 hR1 hb1 hg1 _
        have HR1 := Lib.hid hR1
        clear hR1 hg1
        go_wp2
        go_ret
        rw [HL.out]
        exact ⟨_, rfl, HR1.out, hb1⟩
      · have HL := Lib.hid (HA.out.all hp)
        go_wp2
        go_ret
        rw [HL.out]
        exact ⟨_, rfl, HR.out, hB⟩

end Go.Proofs.YtggeelejmhihdaaDoor.Ra
