/- Contracts of package lines. -/
import Derived.RangeFuncBox
import Derived.RangeFuncLeaves
import Derived.Shelf.Abstract
import Derived.WalkKit
import Derived.WalkSpells
import Derived.OwnWalkIn
import Derived.TacticsInMore
import Derived.LoopNIn
import Derived.LoopIn
import Derived.Maps.AppendAt
import Derived.BigQuiet
import Derived.Deep.QuietTactic
import Derived.Lib.Hide
import Derived.Test.YtggeelejmhihdaaDoorShelf
import Derived.Test.YtggeelejmhihdaaDoorWWords
import Derived.Test.YtggeelejmhihdaaDoorPl
import Derived.Test.YtggeelejmhihdaaDoorUt
namespace Go.Proofs.YtggeelejmhihdaaDoor.Ln
open Go.RowKit Go.Shelf Go.Proofs.YtggeelejmhihdaaDoor.Pl Go.Proofs.YtggeelejmhihdaaDoor.Ut Go.Proofs.YtggeelejmhihdaaDoorW.PrintWords
attribute [local go_sem] B_append B_extract B_toList B_size take_end

set_option maxHeartbeats 400000 in
theorem ended_any (s : Str) (w : World) (hs : s.length ≤ 4611686018427387904) :
    Calls Tryd.prog 33 #[.string (B s)] w fun e w' => e = .returned (.bool (endedL s)) ∧ w = w' := by
  go_enter Tryd.func33, Tryd.ntmps33
  go_wp2_with (first | (go_at_call 40; refine (Tryd.strings_HasSuffix _ _ _ (by rw [B_size]; omega)).mono ?_; rintro e w' ⟨rfl, rfl⟩))
  all_goals go_ret
  · have h : s = [] := by assumption
    subst h
    exact ⟨rfl, rfl⟩
  · refine ⟨?_, rfl⟩
    have e := endedL_suffix s
    simp only [← e]
    simp

set_option maxHeartbeats 400000 in
theorem whole_any (s : Str) (w : World) (hs : s.length ≤ 4611686018427387904) :
    Calls Tryd.prog 18 #[.string (B s)] w fun e w' => e = .returned (.string (B (wholeL s))) ∧ w = w' := by
  go_enter Tryd.func18, Tryd.ntmps18
  go_wp2_with (first | (go_at_call 33; refine (ended_any _ _ (by omega)).mono ?_; rintro e w' ⟨rfl, rfl⟩))
  all_goals go_ret
  · have h : endedL s = true := by assumption
    exact ⟨by simp [wholeL, h], rfl⟩
  · have h : endedL s = false := by assumption
    exact ⟨by simp [wholeL, h], rfl⟩

set_option maxHeartbeats 400000 in
/-- lines.all: the iterator: it has captured the text's box. -/
theorem all_any (s : Str) (w : World) :
    Calls Tryd.prog 37 #[.string (B s)] w fun e w' => e = .returned (.func (.func 46) #[] #[.pointer (some ⟨w.heap.size, 0, none⟩)]) ∧ w' = w.alloc (.cells #[.string (B s)] 9) := by
  go_enter Tryd.func37, Tryd.ntmps37
  go_wp2
  go_ret
  exact ⟨rfl, rfl⟩

theorem indexNL (s : Str) (w : World) :
    Calls Tryd.prog 47 #[.string (B s), .int .u8 10] w fun e w' => e = .returned (.int .i64 (nlI s)) ∧ w = w' :=
  (Tryd.strings_IndexByte (B s) 10 w).mono fun _ _ ⟨he, hw⟩ => ⟨he, hw.symm⟩

attribute [local go_sem] Oper.semAt_some

set_option maxRecDepth 100000 in
set_option maxHeartbeats 2000000 in
/-- lines.all's closure: for every loop body that keeps what lay below n₀. -/
theorem all1_in (n : Nat) (hn : 1 ≤ n) (l Bs : Nat) (s : Str) (hs : s.length ≤ 4611686018427387904) (J Jx : List (Nat × Str) → World → Prop)
    (hY : ∀ pre x W, J pre W → pre.length < s.length + 1 → YieldAt Fence.wide (n - 1) Tryd.prog l #[.int .i64 (x.1 : Int), .string (B x.2)] W fun e W' =>
      (e = .returned (.bool true) ∧ J (pre ++ [x]) W' ∧ KpBox Bs W W') ∨ (e = .returned (.bool false) ∧ Jx (pre ++ [x]) W'))
    (W : World) (hBs : W.cell? ⟨Bs, 0, none⟩ = some (.string (B s))) (h0 : J [] W) :
    CallsIn Fence.wide n Tryd.prog 46 #[.func (.yield l) #[] #[], .pointer (some ⟨Bs, 0, none⟩)] W fun e W' => (∃ v, e = .returned v) ∧
      ((∃ ys : List (Nat × Str), ys.map (·.2) = splitL s ∧ J ys W') ∨ (∃ pre, True ∧ Jx pre W')) := by
  refine callsIn_of_wp Tryd.func46 rfl trivial ?_ rfl
  simp only [Tryd.ntmps46, List.size_toArray, List.length_cons, List.length_nil, Nat.reduceAdd, Nat.reduceSub, Array.replicate_succ, Array.replicate_zero, List.push_toArray, List.append_toArray, List.nil_append, List.cons_append]
  gi_wp2
  gi_loopw [3] (fun i wr => ∃ (k : Nat) (pre : List (Nat × Str)), k ≤ s.length ∧ i = .int .i64 k ∧ pre.map (·.2) ++ splitL (s.drop k) = splitL s ∧ pre.length ≤ k ∧ J pre wr ∧ KpBox Bs W wr)
    (fun i _ => s.length - (intOf i).toNat)
  case atStart => exact ⟨0, [], Nat.zero_le _, rfl, by simp, by simp, h0, fun _ h => h⟩
  case round =>
    obtain ⟨k, pre, hk, rfl, hsp, hpl, hJs, hnx⟩ := hrel
    have hc : wr.cell? ⟨Bs, 0, none⟩ = some (.string (B s)) := hnx _ hBs
    by_cases hlt : k < s.length
    · have ht : s.drop k ≠ [] := by intro e; have := congrArg List.length e; simp at this; omega
      have hlo := nlI_lo (s.drop k)
      have hhi := nlI_hi ht
      rw [List.length_drop] at hhi
      have hfirst := splitL_first ht
      by_cases hm : nlI (s.drop k) = -1
      · have hl : lineN (s.drop k) = (s.drop k).length := by unfold lineN; rw [if_pos hm]
        rw [hl, List.take_length, List.drop_length] at hfirst
        have HS := Lib.hid hfirst
        clear hfirst hl
        obtain ⟨fn, tmps, assign, body, hy, hR⟩ := hY pre (k, s.drop k) wr hJs (by omega)
        dsimp only at hy
        gi_wp2_with (refine ⟨trivial, ?_⟩; gi_at_call 47; refine (callsIn_wide.2 (indexNL _ _)).mono ?_; rintro e w' ⟨rfl, rfl⟩)
        refine hR.mono ?_
        rintro e W3 (⟨rfl, hJ3, hk3⟩ | ⟨rfl, hJx3⟩)
        · gi_wp2
          go_roundw
          case rel => exact ⟨s.length, pre ++ [(k, s.drop k)], Nat.le_refl _, by go_num, by rw [← hsp, HS.out]; simp [splitL], by simp; omega, hJ3, kpBox_t hnx hk3⟩
          case measure => simp [intOf]; omega
        · gi_wp2
          refine bodyPost_ret (results_none rfl _ _ _) rfl ?_
          exact ⟨⟨_, rfl⟩, .inr ⟨_, trivial, hJx3⟩⟩
      · obtain ⟨o, ho⟩ := Int.eq_ofNat_of_zero_le (a := nlI (s.drop k)) (by omega)
        have hne : ((o : Int) + 1 == 0) = false := by rw [beq_eq_false_iff_ne]; omega
        have hl : lineN (s.drop k) = o + 1 := by unfold lineN; rw [if_neg hm, ho]; omega
        rw [hl] at hfirst
        have HS := Lib.hid hfirst
        clear hfirst hl hm
        obtain ⟨fn, tmps, assign, body, hy, hR⟩ := hY pre (k, (s.drop k).take (o + 1)) wr hJs (by omega)
        dsimp only at hy
        gi_wp2_with (refine ⟨trivial, ?_⟩; gi_at_call 47; refine (callsIn_wide.2 (indexNL _ _)).mono ?_; rintro e w' ⟨rfl, rfl⟩)
        refine hR.mono ?_
        rintro e W3 (⟨rfl, hJ3, hk3⟩ | ⟨rfl, hJx3⟩)
        · gi_wp2
          go_roundw
          case rel => exact ⟨k + (o + 1), pre ++ [(k, (s.drop k).take (o + 1))], by omega, by go_num, by rw [← hsp, HS.out]; simp, by simp; omega, hJ3, kpBox_t hnx hk3⟩
          case measure => simp [intOf]; omega
        · gi_wp2
          refine bodyPost_ret (results_none rfl _ _ _) rfl ?_
          exact ⟨⟨_, rfl⟩, .inr ⟨_, trivial, hJx3⟩⟩
    · obtain rfl : k = s.length := by omega
      gi_wp2
      go_end0
      exact ⟨⟨_, rfl⟩, .inl ⟨pre, by simpa [splitL] using hsp, hJs⟩⟩

/-- lines.all hands back a value that 'SeqStopsK': all lines, or some. -/
theorem all_stops (n : Nat) (hn : 1 ≤ n) (Bs : Nat) (s : Str) (hs : s.length ≤ 4611686018427387904) (w : World) (hB : Bs < w.heap.size) (hc : w.cell? ⟨Bs, 0, none⟩ = some (.string (B s))) :
    SeqStopsK Fence.wide n Tryd.prog 46 #[.pointer (some ⟨Bs, 0, none⟩)] (fun x : Nat × Str => #[Value.int .i64 (x.1 : Int), .string (B x.2)]) (KpBox Bs) (fun ys => ys.map (·.2) = splitL s) (fun _ => True) (s.length + 1) w := fun l J Jx W hW _ _ hY h0 =>
  all1_in n hn l Bs s hs J Jx hY W ((hW.cell (p := ⟨Bs, 0, none⟩) hB).trans hc) h0

theorem infoString : (Tryd.prog.info? 9).map (fun i => (i.zero, i.size, i.bytes)) = some (some (.string ⟨#[]⟩), 1, 16) := by kernel_rfl

set_option maxRecDepth 100000 in
set_option maxHeartbeats 2000000 in
theorem split_any (s : Str) (hs : s.length ≤ 1000000000) (w : World) :
    Calls Tryd.prog 24 #[.string (B s)] w fun e w' => ∃ v, e = .returned v ∧ kStr.R 9 w' w.heap.size (fun _ => True) v (splitL s) ∧ Below w.heap.size w w' := by
  have h1 : 1 ≤ 4 := by omega
  obtain ⟨i0, hi, hz0, hz1, hz2⟩ := info_parts infoString
  refine (callsIn_wide (n := 4)).1 ?_
  refine callsIn_of_wp_marks Tryd.func24 rfl trivial ?_ rfl
  simp only [Tryd.ntmps24, List.size_toArray, List.length_cons, List.length_nil, Nat.reduceAdd, Nat.reduceSub, Array.replicate_succ, Array.replicate_zero, List.push_toArray, List.append_toArray, List.nil_append, List.cons_append]
  gi_wp2_with (refine ⟨trivial, ?_⟩; gi_at_call 37; refine (callsIn_wide.2 (all_any _ _)).mono ?_; rintro e w' ⟨rfl, rfl⟩)
  have bO := Boxed.new w 27 (.slice none 0 0)
  have bN := Boxed.new (w.alloc (.cells #[.slice none 0 0] 27)) 9 (.string (B s))
  rw [World.size_alloc] at bN
  have hB0 : Below w.heap.size w ((w.alloc (.cells #[.slice none 0 0] 27)).alloc (.cells #[.string (B s)] 9)) := ((Below.refl _ w).alloc (Nat.le_refl _) _).alloc (by simp) _
  refine wpIn_rangeFunc_ownG rfl h1 (gf := 46) (lb := #[.pointer (some ⟨w.heap.size + 1, 0, none⟩)]) rfl trivial (enters_of Tryd.func46 (by kernel_rfl) rfl)
    (all_stops 3 (by omega) (w.heap.size + 1) s (by omega) _ (by simp) bN.cell) kpBox_t kpBox_b (Below.refl _ _) (fun _ => rfl)
    (fun pre W => (∃ v, Boxed W w.heap.size 27 v ∧ W.ownsRow (w.heap.size + 2) 9 1 v (pre.map (·.2)).length (encs (fun l : Str => .string (B l)) (pre.map (·.2))) ∧ 0 = 0) ∧ Below w.heap.size w W ∧ w.heap.size + 2 ≤ W.heap.size)
    (fun _ _ _ => False)
    (OwnFrom.and (Own.from (holdsRow_own (w.heap.size + 2) w.heap.size 27 9 1 (fun pre : List (Nat × Str) => (pre.map (·.2)).length) (fun pre => encs (fun l : Str => .string (B l)) (pre.map (·.2))) (fun pre v => 0 = 0)) _) (OwnFrom.and (ownFrom_below (Nat.le_refl _) (by simp; omega)) (fun _ _ _ _ h hg _ => Nat.le_trans h hg.size)))
    (fun _ _ _ _ _ hs _ _ => hs)
    ⟨⟨_, bO.alloc _, World.ownsRow_nil _ _ _ _, rfl⟩, hB0, by simp⟩
    (fun x => { tmps := #[.string (B s), undef, .slice none 0 0, .pointer (some ⟨w.heap.size, 0, none⟩), undef, .string (B x.2), .string (B s), .func (.func 46) #[] #[.pointer (some ⟨w.heap.size + 1, 0, none⟩)], .int .i64 (x.1 : Int), .string (B x.2), undef, undef, undef, undef, undef], defers := [] }) ?assign ?body ?done ?stop
  case assign =>
    intro l x W K hK
    gi_wp2
    exact hK
  case body =>
    rintro l pre x W ⟨⟨v, hv, hrow, -⟩, hB, hsz⟩ hlt
    have hc := hv.cell
    rw [List.length_map] at hrow
    gi_wp2_with (gi_at_builtin; go_loud (refine wpListIn_append_own _ rfl _ _ 27 rfl (w.heap.size + 2) 9 i0 (.string ⟨#[]⟩) 1 16 Tryd.underlying27 hi hz0 hz1 hz2 rfl (by decide) _ _ _ rfl (hrow.alloc _) ⟨W.heap.size, 0, none⟩ 1 1 [.string (B x.2)] rfl rfl (cell_one_new _ _ _) (by simp [Value.oneCell']) (by unfold maxLen; omega) (by omega) (by simp; omega) ?_); intro v' w1 hown' hgrow _; obtain ⟨g', cap', rfl⟩ := ownsRow_succ hown'; obtain ⟨hv1, hv2, hr2, hk2, hb2, hk3⟩ := box_appended hv hrow hsz (by omega) hown' hgrow; have hc1 := hv1.cell; have hf1 := hv1.frozen)
    have hsz2 := hb2.size
    exact ⟨hk2.from _, kpBox_of (hk3 _ (by omega) (by omega)), ⟨_, hv2, by simpa [encs] using hr2⟩, hB.trans hb2, by omega⟩
  case done =>
    rintro D ys W hD hys ⟨⟨v, hv, hrow, -⟩, hB, hsz⟩ hK
    have hc := hv.cell
    have hr := ownsRow_putObj hrow (.deferred none) hK rfl
    rw [hys] at hr
    gi_wp2
    refine ⟨by simp, .inl ⟨_, _, rfl, run_takeDeferred hK, ?_⟩⟩
    refine ⟨_, results_tmp rfl _ _ _, v, rfl, Kd.R_of_own (own_weaken hr (by omega)) (fun _ _ => trivial), hB.trans (belowK_b (w := w) (Nat.le_refl _) W D _ _ (by simp at hD; omega) hK rfl rfl)⟩
  case stop =>
    rintro D c pre W _ _ h _
    exact h.elim

end Go.Proofs.YtggeelejmhihdaaDoor.Ln
