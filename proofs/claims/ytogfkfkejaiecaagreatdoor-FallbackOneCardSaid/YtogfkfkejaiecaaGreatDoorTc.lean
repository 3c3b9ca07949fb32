/- Contracts of lcs: left (the table), Match of rows that are not too long. Contracts of diff3: stable and next, the inner functions of chunks. A range over a function whose iterator keeps state of its own in cells of one type: what comes is a list that is known ahead; the body never leaves. Contracts of lcs: ends. -/
import Derived.Test.YtogfkfkejaiecaaGreatDoorTb
import Derived.StillTailTactics
import Derived.IntWalk
import Derived.Deep.QuietTactic
import Derived.BigQuiet
import Derived.RangeFuncNested
import Derived.RangeFuncBox
import Derived.Test.YtogfkfkejaiecaaGreatDoorTa
import Derived.WalkMore
import Derived.Deep.CutRange

namespace Go.Proofs.YtogfkfkejaiecaaGreatDoor.De
open Go.RowKit Go.Shelf Pl Ut Ln Da Db Dc Dd Dt Go.Proofs.YtogfkfkejaiecaaGreatDoorW.PrintWords
set_option linter.unusedVariables false
set_option linter.unusedSimpArgs false
attribute [local go_sem] run_max2

theorem infoInt32 : (Tryz.prog.info? 21).map (fun i => (i.zero, i.size, i.bytes)) = some (some (.int .i32 0), 1, 4) := by kernel_rfl
theorem infoInts32 : (Tryz.prog.info? 190).map (fun i => (i.zero, i.size, i.bytes)) = some (some (.slice none 0 0), 1, 24) := by kernel_rfl
theorem make_i32 (n : Nat) (hn : n ≤ 1000000) (w : World) : (Instr.makeSlice 190 (.int .i64 ((n : Int) + 1)) (.int .i64 ((n : Int) + 1))).run Tryz.prog w =
    .ok (.slice (some ⟨w.heap.size, 0, none⟩) (n + 1) (n + 1)) (w.alloc (.cells (ofK .i32 (List.replicate (n + 1) 0)) 21)) := by
  obtain ⟨i0, hi, hz0, hz1, hz2⟩ := info_parts infoInt32
  have h := run_make (P := Tryz.prog) w 190 21 i0 (.int .i32 0) Tryz.underlying190 hi hz0 .i64 .i64 ((n : Int) + 1) ((n : Int) + 1) (by omega) (by omega) (by rw [hz2]; omega) (by omega)
  rw [h, hz1, Nat.mul_one, ofK_zeros]
  have e : ((n : Int) + 1).toNat = n + 1 := by omega
  rw [e]
theorem make_rows32 (n : Nat) (hn : n ≤ 1000000) (w : World) : (Instr.makeSlice 188 (.int .i64 ((n : Int) + 1)) (.int .i64 ((n : Int) + 1))).run Tryz.prog w =
    .ok (.slice (some ⟨w.heap.size, 0, none⟩) (n + 1) (n + 1)) (w.alloc (.cells (List.replicate (n + 1) (Value.slice none 0 0)).toArray 190)) := by
  obtain ⟨i0, hi, hz0, hz1, hz2⟩ := info_parts infoInts32
  have h := run_make (P := Tryz.prog) w 188 190 i0 (.slice none 0 0) Tryz.underlying188 hi hz0 .i64 .i64 ((n : Int) + 1) ((n : Int) + 1) (by omega) (by omega) (by rw [hz2]; omega) (by omega)
  rw [h, hz1, Nat.mul_one]
  have e : ((n : Int) + 1).toNat = n + 1 := by omega
  rw [e]
  have e3 : madeCells (Value.slice none 0 0).cells (n + 1) = (List.replicate (n + 1) (Value.slice none 0 0)).toArray := by
    apply Array.ext'
    have e2 : (Value.slice none 0 0).cells = #[.slice none 0 0] := rfl
    rw [e2, toList_madeCells_one]
  rw [e3]
theorem Lies.moved {w w' : World} {B0 : Nat} {A : Option Addr} {xs : List Nat} (h : Lies w B0 A xs) (hb : Below B0 w w') : Lies w' B0 A xs := h.below hb

set_option maxRecDepth 100000 in
set_option maxHeartbeats 8000000 in
theorem left_any (a b : List Nat) (A A' : Option Addr) (c c' : Nat) (w : World) (B0 : Nat) (hC : Lies w B0 A a) (hC' : Lies w B0 A' b) (hla : a.length ≤ 2000) (hlb : b.length ≤ 2000) (hB0 : B0 ≤ w.heap.size) :
    Calls Tryz.prog 139 #[.slice A a.length c, .slice A' b.length c'] w fun e w' => e = .returned (.slice (some ⟨w.heap.size, 0, none⟩) (a.length + 1) (a.length + 1)) ∧
      TabP .i32 21 190 (fun j => w.heap.size + 1 + (a.length - j)) a b w' w.heap.size 0 0 ∧ Below w.heap.size w w' := by
  obtain ⟨g, hg⟩ : ∃ g, g = w.heap.size := ⟨_, rfl⟩
  have hC2 := Lib.hid hC
  have hC3 := Lib.hid hC'
  clear hC hC'
  obtain ⟨la1, hla1⟩ : ∃ n, n = a.length + 1 := ⟨_, rfl⟩
  obtain ⟨lb1, hlb1⟩ : ∃ n, n = b.length + 1 := ⟨_, rfl⟩
  have HLA := Lib.hid hla1
  have HLB := Lib.hid hlb1
  have hla2 : (a.length : Int) + 1 = la1 := by omega
  have hlb2 : (b.length : Int) + 1 = lb1 := by omega
  have hla3 : IntKind.i64.wrap ((a.length : Int) + 1) = la1 := by rw [← hla2]; exact IntWalk.i64_in _ (by omega)
  have hla4 : (a.length : Int) < la1 := by omega
  have hmk1 := make_rows32 a.length (by omega) w
  obtain ⟨W1, hW1⟩ : ∃ W1, W1 = w.alloc (.cells (List.replicate (a.length + 1) (Value.slice none 0 0)).toArray 190) := ⟨_, rfl⟩
  have hmk2 := make_i32 b.length (by omega) W1
  obtain ⟨W2, hW2⟩ : ∃ W2, W2 = W1.alloc (.cells (ofK .i32 (List.replicate (b.length + 1) 0)) 21) := ⟨_, rfl⟩
  have hs1 : W1.heap.size = g + 1 := by rw [hW1, hg]; simp
  have hs2 : W2.heap.size = g + 2 := by rw [hW2]; simp [hs1]
  have hr1 : W2.heap[g]? = some (.cells (List.replicate (a.length + 1) (Value.slice none 0 0)).toArray 190 (0, 0)) := by
    rw [hW2]; refine blk_alloc ?_ _; rw [hW1, hg]; exact blk_new _ _
  have hr2 : W2.heap[g + 1]? = some (.cells (ofK .i32 (List.replicate (b.length + 1) 0)) 21 (0, 0)) := by
    rw [hW2, ← hs1]; exact blk_new _ _
  have hb2 : Below g w W2 := by rw [hW2, hW1, hg]; exact ((Below.refl _ _).alloc (Nat.le_refl _) _).alloc (by simp) _
  rw [← hW2] at hmk2
  rw [← hW1, ← hg] at hmk1
  rw [← hla1] at hmk1
  rw [← hlb1] at hmk2
  rw [hs1] at hmk2
  have hc0 : W2.cell? ⟨g, a.length, none⟩ = some (.slice none 0 0) := by
    rw [blk_cell hr1, List.getElem?_toArray, List.getElem?_replicate, if_pos (by omega)]
  have hf0 : W2.frozen? ⟨g, a.length, none⟩ = false := blk_frozen hr1 _
  have hT : TabP .i32 21 190 (fun j => g + 1 + (a.length - j)) a b (W2.setCell ⟨g, a.length, none⟩ (.slice (some ⟨g + 1, 0, none⟩) (b.length + 1) (b.length + 1))) g a.length 0 := by
    refine ⟨?_, fun j h1 h2 => by omega, fun _ => ?_⟩
    · rw [blk_set hr1]
      congr 2
      unfold slP
      simp only [List.setIfInBounds_toArray]
      congr 1
      apply List.ext_getElem?
      intro i
      rw [List.getElem?_set]
      simp only [List.length_replicate, List.getElem?_map, List.getElem?_replicate]
      by_cases hi : i < a.length + 1
      · rw [List.getElem?_range hi, if_pos hi]
        by_cases e : a.length = i
        · subst e; simp
        · rw [if_neg e]
          simp only [Option.map_some, Option.some.injEq]
          rw [if_neg (by omega)]
      · rw [if_neg hi, List.getElem?_eq_none (by simpa using hi)]
        rw [if_neg (by omega)]; rfl
    · rw [rowP_last]
      refine blk_far ?_ (by simp) _
      simpa using hr2
  have hB3 := hb2.setCell (p := ⟨g, a.length, none⟩) (Nat.le_refl _) (.slice (some ⟨g + 1, 0, none⟩) (b.length + 1) (b.length + 1))
  have HT := Lib.hid hT
  have HS2 := Lib.hid (show (W2.setCell ⟨g, a.length, none⟩ (.slice (some ⟨g + 1, 0, none⟩) (b.length + 1) (b.length + 1))).heap.size = g + 2 from by simp [hs2])
  have HG := Lib.hid hg
  rw [← hlb1] at HT HS2 hB3
  clear hW1 hW2 hs1 hs2 hr1 hr2 hT hg hb2 hla1 hlb1 hla2 hlb2 hla3
  go_enter Tryz.func139, Tryz.ntmps139
  go_wp2
  obtain ⟨W3, hW3⟩ : ∃ W3, W3 = W2.setCell ⟨g, a.length, none⟩ (.slice (some ⟨g + 1, 0, none⟩) lb1 lb1) := ⟨_, rfl⟩
  rw [← hW3] at HT HS2 hB3 ⊢
  clear hW3 hmk1 hmk2 hc0 hf0
  go_loopw [6] (fun i wr => ∃ k : Nat, k ≤ a.length ∧ Hid (i = .int .i64 ((k : Int) - 1)) ∧ Hid (wr.heap.size = g + 2 + (a.length - k)) ∧ Hid (TabP .i32 21 190 (fun j => g + 1 + (a.length - j)) a b wr g k 0) ∧ Below g w wr) (fun i _ => (intOf i + 1).toNat)
  case atStart => exact ⟨a.length, Nat.le_refl _, Lib.hid rfl, Lib.hid (by rw [HS2.out]; omega), HT, hB3⟩
  case round =>
    obtain ⟨k, hk, HI, HSZ, HTk, hB⟩ := hrel
    obtain ⟨wo, rfl⟩ : ∃ wo : World, wo = wr := ⟨_, rfl⟩
    cases k with
    | zero =>
      have hi0 := HI.out
      have hi1 : u6 = Value.int .i64 (-1) := hi0
      subst hi1
      clear HI hi0
      go_wp2
      go_ret
      rw [← HG.out, ← HLA.out]
      exact ⟨rfl, HTk.out, hB⟩
    | succ k =>
      have hi0 := HI.out
      have hi1 : u6 = Value.int .i64 (k : Int) := by rw [hi0]; congr 1; omega
      subst hi1
      clear HI hi0
      have hk0 : (0 : Int) ≤ (k : Int) := Int.natCast_nonneg _
      have hka : (k : Int) < (a.length : Int) := by omega
      obtain ⟨p, hp⟩ : ∃ p, p = g + 1 + (a.length - k) := ⟨_, rfl⟩
      have hsz : wo.heap.size = p := by rw [HSZ.out, hp]; omega
      have hmk3 := make_i32 b.length (by omega) wo
      obtain ⟨V1, hV1⟩ : ∃ V1, V1 = wo.alloc (.cells (ofK .i32 (List.replicate (b.length + 1) 0)) 21) := ⟨_, rfl⟩
      rw [← hV1, hsz, ← HLB.out] at hmk3
      have HT1 : TabP .i32 21 190 (fun j => g + 1 + (a.length - j)) a b V1 g (k + 1) 0 := by rw [hV1]; exact HTk.out.below ((Below.refl _ _).alloc (Nat.le_refl _) _)
      have hn1 : V1.heap[p]? = some (.cells (ofK .i32 (List.replicate (b.length + 1) 0)) 21 (0, 0)) := by rw [hV1, ← hsz]; exact blk_new _ _
      have hBV : Below g w V1 := by rw [hV1]; exact hB.alloc (by omega) _
      have hsV : V1.heap.size = p + 1 := by rw [hV1]; simp [hsz]
      have hc1 := HT1.below_ (j := k) (by omega) (by omega)
      have hf1 := HT1.frozen k
      have HT2 := Lib.hid (HT1.next (by omega) (by rw [← hp]; exact hn1) (fun j => by omega))
      rw [← HLB.out] at HT2
      have hBS := hBV.setCell (p := ⟨g, k, none⟩) (Nat.le_refl _) (.slice (some ⟨p, 0, none⟩) lb1 lb1)
      have HP := Lib.hid hp
      have HSV := Lib.hid (show (V1.setCell ⟨g, k, none⟩ (.slice (some ⟨p, 0, none⟩) lb1 lb1)).heap.size = p + 1 from by simp [hsV])
      clear hV1 hsz HT1 hn1 hBV hsV hp HTk HSZ hB
      go_wp2
      obtain ⟨V2, hV2⟩ : ∃ V2, V2 = V1.setCell ⟨g, k, none⟩ (.slice (some ⟨p, 0, none⟩) lb1 lb1) := ⟨_, rfl⟩
      rw [← hV2] at HSV hBS ⊢
      have HT3 : Hid (TabP .i32 21 190 (fun j => g + 1 + (a.length - j)) a b V2 g k b.length) := by have := HT2.out; rw [← HP.out, ← hV2] at this; exact Lib.hid this
      clear hV2 hmk3 hc1 hf1 HT2
      have HBS := Lib.hid hBS
      go_loopw [7] (fun i wr => ∃ q : Nat, q ≤ b.length ∧ Hid (i = .int .i64 ((q : Int) - 1)) ∧ Hid (wr.heap.size = p + 1) ∧ Hid (TabP .i32 21 190 (fun j => g + 1 + (a.length - j)) a b wr g k q) ∧ Below g w wr) (fun i _ => (intOf i + 1).toNat)
      case atStart => exact ⟨b.length, Nat.le_refl _, Lib.hid rfl, HSV, HT3, HBS.out⟩
      case round =>
        obtain ⟨q, hq, HI, HSZ, HTq, hB⟩ := hrel
        obtain ⟨wi, rfl⟩ : ∃ wi : World, wi = wr := ⟨_, rfl⟩
        cases q with
        | zero =>
          have hi0 := HI.out
          have hi1 : u7 = Value.int .i64 (-1) := hi0
          subst hi1
          clear HI hi0
          go_wp2
          go_roundw
          case rel => exact ⟨k, by omega, Lib.hid rfl, Lib.hid (by rw [HSZ.out, HP.out]; omega), HTq, hB⟩
          case measure => simp [intOf]
        | succ q =>
          have hi0 := HI.out
          have hi1 : u7 = Value.int .i64 (q : Int) := by rw [hi0]; congr 1; omega
          subst hi1
          clear HI hi0
          have hq0 : (0 : Int) ≤ (q : Int) := Int.natCast_nonneg _
          have hqb : (q : Int) < (b.length : Int) := by omega
          obtain ⟨x, hx⟩ : ∃ x, a[k]? = some x := ⟨a[k]'(by omega), List.getElem?_eq_getElem (by omega)⟩
          obtain ⟨y, hy⟩ : ∃ y, b[q]? = some y := ⟨b[q]'(by omega), List.getElem?_eq_getElem (by omega)⟩
          obtain ⟨ad, hA1, hab, p0⟩ := (hC2.out.below (hB.mono (by rw [HG.out]; exact hB0))) k x hx
          obtain ⟨ad', hA2, hab', q0⟩ := (hC3.out.below (hB.mono (by rw [HG.out]; exact hB0))) q y hy
          subst hA1 hA2
          have HX := Lib.hid hx
          have HY := Lib.hid hy
          have HBI := Lib.hid hB
          clear hx hy hab hab' hB
          by_cases hxy : x = y
          · subst hxy
            have hxy1 : ((x : Int) == (x : Int)) = true := by simp
            go_wp2_with fail
            go_quiet (fail)
            go_wp2_with fail
            refine wp_region_still_tail 16 (by kernel_rfl) (by kernel_rfl) ?_
            obtain ⟨W5, hW5⟩ : ∃ W5 : World, W5 = { (wi.drewN nq) with drawn := (wi.drewN nq).drawn + 1 } := ⟨_, rfl⟩
            have HT5 : Hid (TabP .i32 21 190 (fun j => g + 1 + (a.length - j)) a b W5 g k (q + 1)) := by rw [hW5]; exact Lib.hid (HTq.out.moved (fun _ _ h => h))
            have HB5 : Hid (Below g w W5) := by rw [hW5]; exact Lib.hid ⟨HBI.out.os, HBI.out.tape, HBI.out.output, HBI.out.size, HBI.out.block⟩
            have HS5 : Hid (W5.heap.size = p + 1) := by rw [hW5]; exact HSZ
            rw [← hW5]
            clear hW5 p0 q0 HTq HBI HSZ
            obtain ⟨p', hp'⟩ : ∃ p', p' = g + 1 + (a.length - (k + 1)) := ⟨_, rfl⟩
            have s1 := HT5.out.slot (j := k) (Nat.le_refl _) (by omega)
            have s2 := HT5.out.slot (j := k + 1) (by omega) (by omega)
            have s3 := HT5.out.far (j := k + 1) (k := q + 1) (by omega) (by omega) (by omega)
            obtain ⟨v0, s4⟩ := HT5.out.some_ (k := q) (by omega) (by omega)
            have s5 := HT5.out.thaw (by omega) q
            have hcm := cm_same HX.out HY.out
            have hle := cm_le a b (k + 1) (q + 1)
            have HN := Lib.hid (HT5.out.set_ (by omega) (by omega) (by simp only [ne_eq]; omega) (fun j h1 h2 => by simp only [ne_eq]; omega))
            obtain ⟨z, hz⟩ : ∃ z, z = cm a b (k + 1) (q + 1) := ⟨_, rfl⟩
            simp only [← HP.out, ← hp', ← HLB.out] at s1 s2 s3 s4 s5 HN
            have i1 : (k : Int) < (la1 : Int) := by have := HLA.out; omega
            have i2 : (k : Int) + 1 < (la1 : Int) := by have := HLA.out; omega
            have i3 : (q : Int) < (lb1 : Int) := by have := HLB.out; omega
            have i4 : (q : Int) + 1 < (lb1 : Int) := by have := HLB.out; omega
            have i5 : (0 : Int) ≤ (k : Int) + 1 := by omega
            have i6 : (0 : Int) ≤ (q : Int) + 1 := by omega
            have i7 : ((k : Int) + 1).toNat = k + 1 := by omega
            have i8 : ((q : Int) + 1).toNat = q + 1 := by omega
            rw [← hz] at s3 hle hcm
            rw [hcm] at HN
            have w0 : IntKind.i32.wrap ((z : Int) + 1) = (z : Int) + 1 := IntWalk.i32_in _ (by omega)
            have w1 : IntKind.i64.wrap ((k : Int) + 1) = (k : Int) + 1 := IntWalk.i64_in _ (by omega)
            have w2 : IntKind.i64.wrap ((q : Int) + 1) = (q : Int) + 1 := IntWalk.i64_in _ (by omega)
            clear hcm hz hp' HX HY HT5
            simp only [List.take_succ_cons, List.take_zero, List.drop_succ_cons, List.drop_zero]
            repeat still_step
            refine wpStill_nil ?_
            have HBN := Lib.hid (HB5.out.setCell (p := ⟨p, q, none⟩) (show g ≤ p by have := HP.out; omega) (.int .i32 ((z : Int) + 1)))
            have HSN : Hid ((W5.setCell ⟨p, q, none⟩ (.int .i32 ((z : Int) + 1))).heap.size = p + 1) := Lib.hid (by simpa using HS5.out)
            have HN2 : Hid (TabP .i32 21 190 (fun j => g + 1 + (a.length - j)) a b (W5.setCell ⟨p, q, none⟩ (.int .i32 ((z : Int) + 1))) g k q) := by
              have := HN.out
              rwa [show ((z + 1 : Nat) : Int) = (z : Int) + 1 by omega] at this
            clear w0 w1 w2 i5 i6 i7 i8 HN
            go_wp2
            go_roundw
            case rel => exact ⟨q, by omega, Lib.hid rfl, HSN, HN2, HBN.out⟩
            case measure => simp [intOf]
          · have hxy1 : ((x : Int) == (y : Int)) = false := by rw [beq_eq_false_iff_ne]; omega
            have hxy2 : (x == y) = false := by rw [beq_eq_false_iff_ne]; exact hxy
            have HXY := Lib.hid hxy
            clear hxy
            go_wp2_with fail
            go_quiet (fail)
            go_wp2_with fail
            refine wp_region_still_tail 23 (by kernel_rfl) (by kernel_rfl) ?_
            obtain ⟨W5, hW5⟩ : ∃ W5 : World, W5 = { (wi.drewN nq) with drawn := (wi.drewN nq).drawn + 1 } := ⟨_, rfl⟩
            have HT5 : Hid (TabP .i32 21 190 (fun j => g + 1 + (a.length - j)) a b W5 g k (q + 1)) := by rw [hW5]; exact Lib.hid (HTq.out.moved (fun _ _ h => h))
            have HB5 : Hid (Below g w W5) := by rw [hW5]; exact Lib.hid ⟨HBI.out.os, HBI.out.tape, HBI.out.output, HBI.out.size, HBI.out.block⟩
            have HS5 : Hid (W5.heap.size = p + 1) := by rw [hW5]; exact HSZ
            rw [← hW5]
            clear hW5 p0 q0 HTq HBI HSZ
            obtain ⟨p', hp'⟩ : ∃ p', p' = g + 1 + (a.length - (k + 1)) := ⟨_, rfl⟩
            have s1 := HT5.out.slot (j := k) (Nat.le_refl _) (by omega)
            have s2 := HT5.out.slot (j := k + 1) (by omega) (by omega)
            have s3 := HT5.out.far (j := k + 1) (k := q) (by omega) (by omega) (by omega)
            have s6 := HT5.out.near (k := q + 1) (by omega) (by omega) (by omega)
            obtain ⟨v0, s4⟩ := HT5.out.some_ (k := q) (by omega) (by omega)
            have s5 := HT5.out.thaw (by omega) q
            have hcm := cm_other HX.out HY.out HXY.out
            have HN := Lib.hid (HT5.out.set_ (by omega) (by omega) (by simp only [ne_eq]; omega) (fun j h1 h2 => by simp only [ne_eq]; omega))
            obtain ⟨z, hz⟩ : ∃ z, z = cm a b (k + 1) q := ⟨_, rfl⟩
            obtain ⟨z2, hz2⟩ : ∃ z2, z2 = cm a b k (q + 1) := ⟨_, rfl⟩
            simp only [← HP.out, ← hp', ← HLB.out] at s1 s2 s3 s4 s5 s6 HN
            have i1 : (k : Int) < (la1 : Int) := by have := HLA.out; omega
            have i2 : (k : Int) + 1 < (la1 : Int) := by have := HLA.out; omega
            have i3 : (q : Int) < (lb1 : Int) := by have := HLB.out; omega
            have i4 : (q : Int) + 1 < (lb1 : Int) := by have := HLB.out; omega
            have i5 : (0 : Int) ≤ (k : Int) + 1 := by omega
            have i6 : (0 : Int) ≤ (q : Int) + 1 := by omega
            have i7 : ((k : Int) + 1).toNat = k + 1 := by omega
            have i8 : ((q : Int) + 1).toNat = q + 1 := by omega
            rw [← hz] at s3 hcm
            rw [← hz2] at s6 hcm
            rw [hcm] at HN
            have w1 : IntKind.i64.wrap ((k : Int) + 1) = (k : Int) + 1 := IntWalk.i64_in _ (by omega)
            have w2 : IntKind.i64.wrap ((q : Int) + 1) = (q : Int) + 1 := IntWalk.i64_in _ (by omega)
            clear hcm hz hz2 hp' HX HY HT5
            simp only [List.take_succ_cons, List.take_zero, List.drop_succ_cons, List.drop_zero]
            repeat still_step
            refine wpStill_nil ?_
            have HBN := Lib.hid (HB5.out.setCell (p := ⟨p, q, none⟩) (show g ≤ p by have := HP.out; omega) (.int .i32 (max (z : Int) (z2 : Int))))
            have HSN : Hid ((W5.setCell ⟨p, q, none⟩ (.int .i32 (max (z : Int) (z2 : Int)))).heap.size = p + 1) := Lib.hid (by simpa using HS5.out)
            have HN2 : Hid (TabP .i32 21 190 (fun j => g + 1 + (a.length - j)) a b (W5.setCell ⟨p, q, none⟩ (.int .i32 (max (z : Int) (z2 : Int)))) g k q) := by
              have := HN.out
              rwa [show ((max z z2 : Nat) : Int) = max (z : Int) (z2 : Int) by omega] at this
            clear w1 w2 i5 i6 i7 i8 HN
            go_wp2
            go_roundw
            case rel => exact ⟨q, by omega, Lib.hid rfl, HSN, HN2, HBN.out⟩
            case measure => simp [intOf]

theorem matchW_hit {a b : List Nat} {i k x : Nat} (hx : a[i]? = some x) (hy : b[k]? = some x) : matchW (a.drop i) (b.drop k) k = (k : Int) :: matchW (a.drop (i + 1)) (b.drop (k + 1)) (k + 1) := by
  obtain ⟨ha1, ha2⟩ := List.getElem?_eq_some_iff.1 hx
  obtain ⟨hb1, hb2⟩ := List.getElem?_eq_some_iff.1 hy
  rw [List.drop_eq_getElem_cons ha1, List.drop_eq_getElem_cons hb1, ha2, hb2]
  conv => lhs; unfold matchW
  rw [if_pos rfl]
theorem matchW_skip {a b : List Nat} {i k x y : Nat} (hx : a[i]? = some x) (hy : b[k]? = some y) (h : x ≠ y) (hc : cm a b i (k + 1) ≤ cm a b (i + 1) k) : matchW (a.drop i) (b.drop k) k = -1 :: matchW (a.drop (i + 1)) (b.drop k) k := by
  unfold cm at hc
  obtain ⟨ha1, ha2⟩ := List.getElem?_eq_some_iff.1 hx
  obtain ⟨hb1, hb2⟩ := List.getElem?_eq_some_iff.1 hy
  rw [List.drop_eq_getElem_cons ha1, List.drop_eq_getElem_cons hb1, ha2, hb2] at hc ⊢
  conv => lhs; unfold matchW
  rw [if_neg h, if_pos hc]
theorem matchW_over {a b : List Nat} {i k x y : Nat} (hx : a[i]? = some x) (hy : b[k]? = some y) (h : x ≠ y) (hc : ¬ cm a b i (k + 1) ≤ cm a b (i + 1) k) : matchW (a.drop i) (b.drop k) k = matchW (a.drop i) (b.drop (k + 1)) (k + 1) := by
  unfold cm at hc
  obtain ⟨ha1, ha2⟩ := List.getElem?_eq_some_iff.1 hx
  obtain ⟨hb1, hb2⟩ := List.getElem?_eq_some_iff.1 hy
  rw [List.drop_eq_getElem_cons ha1, List.drop_eq_getElem_cons hb1, ha2, hb2] at hc ⊢
  conv => lhs; unfold matchW
  rw [if_neg h, if_neg hc]
theorem matchW_end (a : List Nat) (k : Nat) : matchW a [] k = List.replicate a.length (-1) := by
  cases a <;> (unfold matchW; simp)
theorem matchW_end' (b : List Nat) (k : Nat) : matchW [] b k = [] := by unfold matchW; rfl

/-- What a walk over two rows has told. -/
structure ToldM (a b : List Nat) (pre : List Int) (i k : Nat) : Prop where
  il : i ≤ a.length
  kl : k ≤ b.length
  len : pre.length = i
  all : pre ++ matchW (a.drop i) (b.drop k) k = matchW a b 0
theorem ToldM.start (a b : List Nat) : ToldM a b [] 0 0 := ⟨Nat.zero_le _, Nat.zero_le _, rfl, by simp⟩
theorem ToldM.hit {a b : List Nat} {pre : List Int} {i k x : Nat} (h : ToldM a b pre i k) (hx : a[i]? = some x) (hy : b[k]? = some x) : ToldM a b (pre ++ [(k : Int)]) (i + 1) (k + 1) :=
  ⟨(List.getElem?_eq_some_iff.1 hx).1, (List.getElem?_eq_some_iff.1 hy).1, by simp [h.len], by have := h.all; rw [matchW_hit hx hy] at this; simpa using this⟩
theorem ToldM.skip {a b : List Nat} {pre : List Int} {i k x y : Nat} (h : ToldM a b pre i k) (hx : a[i]? = some x) (hy : b[k]? = some y) (hn : x ≠ y) (hc : cm a b i (k + 1) ≤ cm a b (i + 1) k) : ToldM a b (pre ++ [-1]) (i + 1) k :=
  ⟨(List.getElem?_eq_some_iff.1 hx).1, h.kl, by simp [h.len], by have := h.all; rw [matchW_skip hx hy hn hc] at this; simpa using this⟩
theorem ToldM.over {a b : List Nat} {pre : List Int} {i k x y : Nat} (h : ToldM a b pre i k) (hx : a[i]? = some x) (hy : b[k]? = some y) (hn : x ≠ y) (hc : ¬ cm a b i (k + 1) ≤ cm a b (i + 1) k) : ToldM a b pre i (k + 1) :=
  ⟨h.il, (List.getElem?_eq_some_iff.1 hy).1, h.len, by have := h.all; rw [matchW_over hx hy hn hc] at this; exact this⟩
theorem ToldM.stop {a b : List Nat} {pre : List Int} {i k : Nat} (h : ToldM a b pre i k) (he : i = a.length ∨ k = b.length) : pre ++ List.replicate (a.length - i) (-1) = matchW a b 0 := by
  rw [← h.all]
  rcases he with e | e
  · rw [e, List.drop_length, matchW_end']; simp
  · rw [e, List.drop_length, matchW_end]; simp
/-- The row of what is told. -/
def outK (a : List Nat) (pre : List Int) (i : Nat) : List Int := pre ++ List.replicate (a.length - i) (-1)
theorem outK_set {a b : List Nat} {pre : List Int} {i k : Nat} (h : ToldM a b pre i k) (hi : i < a.length) (v : Int) : (outK a pre i).set i v = outK a (pre ++ [v]) (i + 1) := by
  unfold outK
  rw [List.set_append_right _ _ (by rw [h.len]; omega), h.len, Nat.sub_self, show a.length - i = (a.length - (i + 1)) + 1 by omega, List.replicate_succ, List.set_cons_zero, List.append_assoc]
  rfl
theorem outK_skip {a b : List Nat} {pre : List Int} {i k : Nat} (h : ToldM a b pre i k) (hi : i < a.length) : outK a pre i = outK a (pre ++ [-1]) (i + 1) := by
  unfold outK
  rw [show a.length - i = (a.length - (i + 1)) + 1 by omega, List.replicate_succ, List.append_assoc]
  rfl
theorem outK_at {a b : List Nat} {pre : List Int} {i k : Nat} (h : ToldM a b pre i k) (hi : i < a.length) : (outK a pre i)[i]? = some (-1) := by
  unfold outK
  rw [List.getElem?_append_right (by rw [h.len]; omega), h.len, List.getElem?_replicate, if_pos (by omega)]

set_option maxRecDepth 100000 in
set_option maxHeartbeats 8000000 in
theorem match_short (a b : List Nat) (A A' : Option Addr) (c c' : Nat) (w : World) (hC : Lies w w.heap.size A a) (hC' : Lies w w.heap.size A' b) (hla : a.length ≤ 2000) (hlb : b.length ≤ 2000) :
    Calls Tryz.prog 132 #[.slice A a.length c, .slice A' b.length c'] w fun e w' => e = .returned (.slice (some ⟨w.heap.size, 0, none⟩) a.length a.length) ∧ RowI w' w.heap.size (matchL a b) ∧ Below w.heap.size w w' := by
  obtain ⟨g, hg⟩ : ∃ g, g = w.heap.size := ⟨_, rfl⟩
  have HC := Lib.hid hC
  have HC' := Lib.hid hC'
  rw [← hg] at HC HC'
  have HG := Lib.hid hg
  have HM := Lib.hid (show matchL a b = matchW a b 0 from by unfold matchL; rw [if_neg (by omega)])
  clear hC hC' hg
  have hga : decide ((2000 : Int) < (a.length : Int)) = false := by rw [decide_eq_false_iff_not]; omega
  have hgb : decide ((2000 : Int) < (b.length : Int)) = false := by rw [decide_eq_false_iff_not]; omega
  go_enter Tryz.func132, Tryz.ntmps132
  go_wp2_with fail
  refine (none_any a.length (by omega) _).mono ?_
  rintro e W1 ⟨rfl, hr, hb1⟩
  rw [← HG.out] at hr hb1 ⊢
  have HR := Lib.hid hr
  have HB := Lib.hid hb1
  clear hr hb1
  go_wp2_with fail
  refine (left_any a b A A' c c' W1 g (HC.out.below HB.out) (HC'.out.below HB.out) hla hlb (by rw [HG.out]; exact HB.out.size)).mono ?_
  rintro e W2 ⟨rfl, ht, hb2⟩
  obtain ⟨g2, hg2⟩ : ∃ g2, g2 = W1.heap.size := ⟨_, rfl⟩
  have hgg : g < W1.heap.size := HR.out.lt
  have HGG := Lib.hid hgg
  have HR2 : Hid (RowI W2 g (outK a [] 0)) := by have := HR.out.below hb2 hgg; unfold outK; simpa using Lib.hid this
  have HB2 := Lib.hid (HB.out.trans (hb2.mono (by rw [HG.out]; exact HB.out.size)))
  rw [← hg2] at ht ⊢
  have HT := Lib.hid ht
  have HG2 := Lib.hid (show g < g2 by omega)
  clear hgg hg2 ht hb2 HR HB hga hgb
  obtain ⟨la1, hla1⟩ : ∃ n, n = a.length + 1 := ⟨_, rfl⟩
  rw [← hla1]
  have HLA := Lib.hid hla1
  clear hla1
  go_wp2
  go_loopw [7, 8] (fun u v wr => ∃ (i k : Nat) (pre : List Int), u = .int .i64 i ∧ v = .int .i64 k ∧ Hid (ToldM a b pre i k) ∧ Hid (RowI wr g (outK a pre i)) ∧ Hid (TabP .i32 21 190 (fun j => g2 + 1 + (a.length - j)) a b wr g2 0 0) ∧ Hid (Below g w wr)) (fun u v _ => a.length - (intOf u).toNat + (b.length - (intOf v).toNat))
  case atStart => exact ⟨0, 0, [], rfl, rfl, Lib.hid (ToldM.start a b), HR2, HT, HB2⟩
  case round =>
    obtain ⟨i, k, pre, rfl, rfl, HTo, HR, HTa, HBw⟩ := hrel
    obtain ⟨wo, rfl⟩ : ∃ wo : World, wo = wr := ⟨_, rfl⟩
    have hi0 : (0 : Int) ≤ (i : Int) := Int.natCast_nonneg _
    have hk0 : (0 : Int) ≤ (k : Int) := Int.natCast_nonneg _
    have hil := HTo.out.il
    have hkl := HTo.out.kl
    by_cases hlt : i < a.length ∧ k < b.length
    · obtain ⟨hi, hk⟩ := hlt
      obtain ⟨x, hx⟩ : ∃ x, a[i]? = some x := ⟨a[i]'(by omega), List.getElem?_eq_getElem (by omega)⟩
      obtain ⟨y, hy⟩ : ∃ y, b[k]? = some y := ⟨b[k]'(by omega), List.getElem?_eq_getElem (by omega)⟩
      obtain ⟨ad, hA1, hab, p0⟩ := (HC.out.below HBw.out) i x hx
      obtain ⟨ad', hA2, hab', q0⟩ := (HC'.out.below HBw.out) k y hy
      subst hA1 hA2
      have HX := Lib.hid hx
      have HY := Lib.hid hy
      clear hx hy hab hab'
      by_cases hxy : x = y
      · subst hxy
        have hxy1 : ((x : Int) == (x : Int)) = true := by simp
        go_wp2_with fail
        go_quiet (fail)
        obtain ⟨W5, hW5⟩ : ∃ W5 : World, W5 = wo.drewN nq := ⟨_, rfl⟩
        have HR5 : Hid (RowI W5 g (outK a pre i)) := by rw [hW5]; exact HR
        have HT5 : Hid (TabP .i32 21 190 (fun j => g2 + 1 + (a.length - j)) a b W5 g2 0 0) := by rw [hW5]; exact Lib.hid (HTa.out.moved (fun _ _ h => h))
        have HB5 : Hid (Below g w W5) := by rw [hW5]; exact Lib.hid (pw_below_drewN HBw.out _)
        rw [← hW5]
        clear hW5 p0 q0 HR HTa HBw
        have hc := HR5.out.cell (outK_at HTo.out hi)
        have hf := HR5.out.frozen i
        have HS := HR5.out.set i (k : Int)
        rw [outK_set HTo.out hi] at HS
        have HRN := Lib.hid HS
        have HTN : Hid (TabP .i32 21 190 (fun j => g2 + 1 + (a.length - j)) a b (W5.setCell ⟨g, i, none⟩ (.int .i64 (k : Int))) g2 0 0) := by
          have hlt := HG2.out
          refine Lib.hid ⟨blk_far HT5.out.sl (show g2 ≠ g by omega) _, fun j h1 h2 => blk_far (HT5.out.row j h1 h2) (show _ ≠ g by omega) _, fun h2 => blk_far (HT5.out.cur h2) (show _ ≠ g by omega) _⟩
        have HBN := Lib.hid (HB5.out.setCell (p := ⟨g, i, none⟩) (Nat.le_refl _) (.int .i64 (k : Int)))
        have HTN2 := Lib.hid (HTo.out.hit HX.out HY.out)
        clear HS
        go_wp2
        go_roundw
        case rel => exact ⟨i + 1, k + 1, _, by go_num, by go_num, HTN2, HRN, HTN, HBN⟩
        case measure => simp [intOf]; omega
      · have hxy1 : ((x : Int) == (y : Int)) = false := by rw [beq_eq_false_iff_ne]; omega
        have hxy2 : (x == y) = false := by rw [beq_eq_false_iff_ne]; exact hxy
        have HXY := Lib.hid hxy
        clear hxy
        obtain ⟨p1, hp1⟩ : ∃ p, p = g2 + 1 + (a.length - i) := ⟨_, rfl⟩
        obtain ⟨p2, hp2⟩ : ∃ p, p = g2 + 1 + (a.length - (i + 1)) := ⟨_, rfl⟩
        have s1 := HTa.out.slot (j := i) (Nat.zero_le _) (by omega)
        have s2 := HTa.out.slot (j := i + 1) (Nat.zero_le _) (by omega)
        have s3 := HTa.out.whole (j := i + 1) (k := k) (by omega) (by omega)
        have s4 := HTa.out.whole (j := i) (k := k + 1) (by omega) (by omega)
        obtain ⟨lb1, hlb1⟩ : ∃ n, n = b.length + 1 := ⟨_, rfl⟩
        obtain ⟨z, hz⟩ : ∃ z, z = cm a b (i + 1) k := ⟨_, rfl⟩
        obtain ⟨z2, hz2⟩ : ∃ z2, z2 = cm a b i (k + 1) := ⟨_, rfl⟩
        simp only [← hp1, ← hp2, ← hlb1, ← hz, ← hz2] at s1 s2 s3 s4
        have i1 : (i : Int) < (la1 : Int) := by have := HLA.out; omega
        have i2 : (i : Int) + 1 < (la1 : Int) := by have := HLA.out; omega
        have i3 : (k : Int) < (lb1 : Int) := by omega
        have i4 : (k : Int) + 1 < (lb1 : Int) := by omega
        have i5 : (0 : Int) ≤ (i : Int) + 1 := by omega
        have i6 : (0 : Int) ≤ (k : Int) + 1 := by omega
        have i7 : ((i : Int) + 1).toNat = i + 1 := by omega
        have i8 : ((k : Int) + 1).toNat = k + 1 := by omega
        have HZ := Lib.hid hz
        have HZ2 := Lib.hid hz2
        clear hp1 hp2 hz hz2 hlb1
        have w1 : IntKind.i64.wrap ((i : Int) + 1) = (i : Int) + 1 := IntWalk.i64_in _ (by omega)
        have w2 : IntKind.i64.wrap ((k : Int) + 1) = (k : Int) + 1 := IntWalk.i64_in _ (by omega)
        by_cases hzz : z2 ≤ z
        · have hd1 : decide ((z : Int) ≥ (z2 : Int)) = true := by rw [decide_eq_true_eq]; omega
          have HTN2 := Lib.hid (HTo.out.skip HX.out HY.out HXY.out (by rw [← HZ.out, ← HZ2.out]; exact hzz))
          go_wp2_with fail
          go_quiet (fail)
          go_wp2_with fail
          go_quiet (fail)
          clear w1 w2 i5 i6 i7 i8
          go_wp2
          go_roundw
          case rel => exact ⟨i + 1, k, _, by go_num, rfl, HTN2, by rw [← outK_skip HTo.out hi]; exact HR, Lib.hid (HTa.out.moved (fun _ _ h => h)), Lib.hid (pw_below_drewN HBw.out _)⟩
          case measure => simp [intOf]; omega
        · have hd1 : decide ((z : Int) ≥ (z2 : Int)) = false := by rw [decide_eq_false_iff_not]; omega
          have hzz2 : z < z2 := by omega
          have HTN2 := Lib.hid (HTo.out.over HX.out HY.out HXY.out (by rw [← HZ.out, ← HZ2.out]; exact hzz))
          clear hzz
          go_wp2_with fail
          go_quiet (fail)
          go_wp2_with fail
          go_quiet (fail)
          clear w1 w2 i5 i6 i7 i8
          go_wp2
          go_roundw
          case rel => exact ⟨i, k + 1, _, rfl, by go_num, HTN2, HR, Lib.hid (HTa.out.moved (fun _ _ h => h)), Lib.hid (pw_below_drewN HBw.out _)⟩
          case measure => simp [intOf]; omega
    · have HE := Lib.hid (HTo.out.stop (by omega))
      have HRE : Hid (RowI wo g (matchL a b)) := by rw [HM.out, ← HE.out]; exact HR
      by_cases hi : i < a.length
      · obtain rfl : k = b.length := by omega
        go_wp2
        go_ret
        rw [← HG.out]
        exact ⟨rfl, HRE.out, HBw.out⟩
      · obtain rfl : i = a.length := by omega
        go_wp2
        go_ret
        rw [← HG.out]
        exact ⟨rfl, HRE.out, HBw.out⟩

end Go.Proofs.YtogfkfkejaiecaaGreatDoor.De

namespace Go.Proofs.YtogfkfkejaiecaaGreatDoor.Dg
open Go.RowKit Go.Shelf Pl Ut Da Db Dc Dd De Go.Proofs.YtogfkfkejaiecaaGreatDoorW.PrintWords
set_option linter.unusedVariables false
set_option linter.unusedSimpArgs false

/-- Three numbers as a value. -/
def ends3 (p q s : Nat) : Array Value := #[.int .i64 (p : Int), .int .i64 (q : Int), .int .i64 (s : Int)]
/-- What an iterator over chunks holds: where it is, where it ends, the matches. -/
structure MemC (w : World) (T L M N gm gn : Nat) (ma mb : List Int) (lo la lb p q s : Nat) : Prop where
  at_ : w.heap[T]? = some (.cells (ends3 p q s) 173 (0, 0))
  last : w.heap[L]? = some (.cells (ends3 lo la lb) 173 (0, 0))
  bm : w.heap[M]? = some (.cells #[.slice (some ⟨gm, 0, none⟩) lo lo] 130 (0, 0))
  bn : w.heap[N]? = some (.cells #[.slice (some ⟨gn, 0, none⟩) lo lo] 130 (0, 0))
  rm : RowI w gm ma
  rn : RowI w gn mb
  lm : ma.length = lo
  ln : mb.length = lo
section
variable {w : World} {T L M N gm gn : Nat} {ma mb : List Int} {lo la lb p q s : Nat}
theorem MemC.moved {w' : World} (h : MemC w T L M N gm gn ma mb lo la lb p q s) (hm : ∀ (k : Nat) (c : Array Value) (t : TypeId) (f : Nat × Nat), w.heap[k]? = some (.cells c t f) → t = 173 ∨ t = 130 ∨ t = 3 → w'.heap[k]? = some (.cells c t f)) : MemC w' T L M N gm gn ma mb lo la lb p q s :=
  ⟨hm _ _ _ _ h.at_ (.inl rfl), hm _ _ _ _ h.last (.inl rfl), hm _ _ _ _ h.bm (.inr (.inl rfl)), hm _ _ _ _ h.bn (.inr (.inl rfl)), hm _ _ _ _ h.rm (.inr (.inr rfl)), hm _ _ _ _ h.rn (.inr (.inr rfl)), h.lm, h.ln⟩
theorem MemC.below {w' : World} (h : MemC w T L M N gm gn ma mb lo la lb p q s) (hb : Below w.heap.size w w') : MemC w' T L M N gm gn ma mb lo la lb p q s := h.moved fun _ _ _ _ ho _ => blk_below ho hb
theorem MemC.a0 (h : MemC w T L M N gm gn ma mb lo la lb p q s) : w.cell? ⟨T, 0, none⟩ = some (.int .i64 (p : Int)) := by rw [blk_cell h.at_]; rfl
theorem MemC.a1 (h : MemC w T L M N gm gn ma mb lo la lb p q s) : w.cell? ⟨T, 1, none⟩ = some (.int .i64 (q : Int)) := by rw [blk_cell h.at_]; rfl
theorem MemC.a2 (h : MemC w T L M N gm gn ma mb lo la lb p q s) : w.cell? ⟨T, 2, none⟩ = some (.int .i64 (s : Int)) := by rw [blk_cell h.at_]; rfl
theorem MemC.l0 (h : MemC w T L M N gm gn ma mb lo la lb p q s) : w.cell? ⟨L, 0, none⟩ = some (.int .i64 (lo : Int)) := by rw [blk_cell h.last]; rfl
theorem MemC.l1 (h : MemC w T L M N gm gn ma mb lo la lb p q s) : w.cell? ⟨L, 1, none⟩ = some (.int .i64 (la : Int)) := by rw [blk_cell h.last]; rfl
theorem MemC.l2 (h : MemC w T L M N gm gn ma mb lo la lb p q s) : w.cell? ⟨L, 2, none⟩ = some (.int .i64 (lb : Int)) := by rw [blk_cell h.last]; rfl
theorem MemC.m0 (h : MemC w T L M N gm gn ma mb lo la lb p q s) : w.cell? ⟨M, 0, none⟩ = some (.slice (some ⟨gm, 0, none⟩) lo lo) := by rw [blk_cell h.bm]; rfl
theorem MemC.n0 (h : MemC w T L M N gm gn ma mb lo la lb p q s) : w.cell? ⟨N, 0, none⟩ = some (.slice (some ⟨gn, 0, none⟩) lo lo) := by rw [blk_cell h.bn]; rfl
end

theorem stab_on {ma mb : List Int} {i q s : Nat} (hx : ma[i]? = some (q : Int)) (hy : mb[i]? = some (s : Int)) : stabN (ma.drop i) (mb.drop i) q s = stabN (ma.drop (i + 1)) (mb.drop (i + 1)) (q + 1) (s + 1) + 1 := by
  obtain ⟨ha1, ha2⟩ := List.getElem?_eq_some_iff.1 hx
  obtain ⟨hb1, hb2⟩ := List.getElem?_eq_some_iff.1 hy
  rw [List.drop_eq_getElem_cons ha1, List.drop_eq_getElem_cons hb1, ha2, hb2]
  conv => lhs; unfold stabN
  rw [if_pos ⟨rfl, rfl⟩]
theorem stab_off {ma mb : List Int} {i q s : Nat} {x y : Int} (hx : ma[i]? = some x) (hy : mb[i]? = some y) (h : ¬ (x = q ∧ y = s)) : stabN (ma.drop i) (mb.drop i) q s = 0 := by
  obtain ⟨ha1, ha2⟩ := List.getElem?_eq_some_iff.1 hx
  obtain ⟨hb1, hb2⟩ := List.getElem?_eq_some_iff.1 hy
  rw [List.drop_eq_getElem_cons ha1, List.drop_eq_getElem_cons hb1, ha2, hb2]
  unfold stabN
  rw [if_neg h]
theorem stab_end {ma mb : List Int} {i q s : Nat} (hi : ¬ i < ma.length) : stabN (ma.drop i) (mb.drop i) q s = 0 := by
  rw [List.drop_eq_nil_of_le (by omega)]; unfold stabN; rfl
theorem next_on {ma mb : List Int} {i : Nat} {x y : Int} (hx : ma[i]? = some x) (hy : mb[i]? = some y) (h : 0 ≤ x ∧ 0 ≤ y) : nextN (ma.drop i) (mb.drop i) i = some (i, x, y) := by
  obtain ⟨ha1, ha2⟩ := List.getElem?_eq_some_iff.1 hx
  obtain ⟨hb1, hb2⟩ := List.getElem?_eq_some_iff.1 hy
  rw [List.drop_eq_getElem_cons ha1, List.drop_eq_getElem_cons hb1, ha2, hb2]
  unfold nextN
  rw [if_pos h]
theorem next_off {ma mb : List Int} {i : Nat} {x y : Int} (hx : ma[i]? = some x) (hy : mb[i]? = some y) (h : ¬ (0 ≤ x ∧ 0 ≤ y)) : nextN (ma.drop i) (mb.drop i) i = nextN (ma.drop (i + 1)) (mb.drop (i + 1)) (i + 1) := by
  obtain ⟨ha1, ha2⟩ := List.getElem?_eq_some_iff.1 hx
  obtain ⟨hb1, hb2⟩ := List.getElem?_eq_some_iff.1 hy
  rw [List.drop_eq_getElem_cons ha1, List.drop_eq_getElem_cons hb1, ha2, hb2]
  conv => lhs; unfold nextN
  rw [if_neg h]
theorem next_end {ma mb : List Int} {i : Nat} (hi : ¬ i < ma.length) : nextN (ma.drop i) (mb.drop i) i = none := by
  rw [List.drop_eq_nil_of_le (by omega)]; unfold nextN; rfl

set_option maxRecDepth 100000 in
set_option maxHeartbeats 8000000 in
theorem stable_any (T L M N gm gn : Nat) (ma mb : List Int) (lo la lb p q s : Nat) (w : World) (h : MemC w T L M N gm gn ma mb lo la lb p q s) (hp : p ≤ lo) (hlo : lo ≤ 1000000000) (hq : q ≤ 1000000000) (hs : s ≤ 1000000000) :
    Calls Tryz.prog 133 #[.pointer (some ⟨T, 0, none⟩), .pointer (some ⟨L, 0, none⟩), .pointer (some ⟨M, 0, none⟩), .pointer (some ⟨N, 0, none⟩)] w
      fun e w' => e = .returned (.int .i64 (stabN (ma.drop p) (mb.drop p) q s : Nat)) ∧ ∃ m, w' = w.drewN m := by
  have HM := Lib.hid h
  have HLM := Lib.hid h.lm
  have HLN := Lib.hid h.ln
  clear h
  go_enter Tryz.func133, Tryz.ntmps133
  go_wp2
  go_loopw [5] (fun i wr => ∃ n : Nat, i = .int .i64 n ∧ p + n ≤ lo ∧ Hid (stabN (ma.drop p) (mb.drop p) q s = n + stabN (ma.drop (p + n)) (mb.drop (p + n)) (q + n) (s + n)) ∧ Hid (∃ m, wr = w.drewN m)) (fun i _ => lo - p - (intOf i).toNat)
  case atStart => exact ⟨0, rfl, by omega, Lib.hid (by simp), Lib.hid ⟨0, rfl⟩⟩
  case round =>
    obtain ⟨n, rfl, hn, HS, HW⟩ := hrel
    obtain ⟨m, hm⟩ := HW.out
    have hM2 : MemC wr T L M N gm gn ma mb lo la lb p q s := by rw [hm]; exact HM.out.moved (fun _ _ _ _ h _ => h)
    have b0 := hM2.a0
    have b1 := hM2.a1
    have b2 := hM2.a2
    have k0 := hM2.l0
    have c0 := hM2.m0
    have d0 := hM2.n0
    have HRM2 := Lib.hid hM2.rm
    have HRN2 := Lib.hid hM2.rn
    clear hm hM2
    have hn0 : (0 : Int) ≤ (n : Int) := Int.natCast_nonneg _
    by_cases hlt : p + n < lo
    · obtain ⟨x, hx⟩ : ∃ x, ma[p + n]? = some x := ⟨ma[p + n]'(by rw [HLM.out]; omega), List.getElem?_eq_getElem (by rw [HLM.out]; omega)⟩
      obtain ⟨y, hy⟩ : ∃ y, mb[p + n]? = some y := ⟨mb[p + n]'(by rw [HLN.out]; omega), List.getElem?_eq_getElem (by rw [HLN.out]; omega)⟩
      obtain ⟨i, hi⟩ : ∃ i, i = p + n := ⟨_, rfl⟩
      rw [← hi] at hx hy
      have e0 := HRM2.out.cell hx
      have e1 := HRN2.out.cell hy
      have i1 : (p : Int) + (n : Int) = (i : Int) := by omega
      have i2 : (0 : Int) ≤ (i : Int) := by omega
      have i3 : (i : Int) < (lo : Int) := by omega
      have w1 : IntKind.i64.wrap ((p : Int) + (n : Int)) = (i : Int) := by rw [i1]; exact IntWalk.i64_in _ (by omega)
      have w2 : IntKind.i64.wrap ((q : Int) + (n : Int)) = ((q + n : Nat) : Int) := by rw [IntWalk.i64_in _ (by omega)]; omega
      have w3 : IntKind.i64.wrap ((s : Int) + (n : Int)) = ((s + n : Nat) : Int) := by rw [IntWalk.i64_in _ (by omega)]; omega
      obtain ⟨q', hq'⟩ : ∃ q', q' = q + n := ⟨_, rfl⟩
      obtain ⟨s', hs'⟩ : ∃ s', s' = s + n := ⟨_, rfl⟩
      rw [← hq'] at w2
      rw [← hs'] at w3
      have HX := Lib.hid hx
      have HY := Lib.hid hy
      have HI := Lib.hid hi
      have HQ := Lib.hid hq'
      have HS' := Lib.hid hs'
      clear hx hy hi i1 hq' hs'
      by_cases hxq : x = (q' : Int)
      · subst hxq
        have t1 : (((q' : Nat) : Int) == ((q' : Nat) : Int)) = true := by simp
        by_cases hys : y = (s' : Int)
        · subst hys
          have t2 : (((s' : Nat) : Int) == ((s' : Nat) : Int)) = true := by simp
          go_wp2_with fail
          go_quiet (fail)
          clear w1 w2 w3
          go_wp2
          go_roundw
          case rel => exact ⟨n + 1, by go_num, by have := HI.out; omega, Lib.hid (by
            have := stab_on HX.out HY.out
            rw [HS.out, ← HI.out, ← HQ.out, ← HS'.out, this, show p + (n + 1) = i + 1 by have := HI.out; omega, show q + (n + 1) = q' + 1 by have := HQ.out; omega, show s + (n + 1) = s' + 1 by have := HS'.out; omega]; omega), Lib.hid (by obtain ⟨m, hm⟩ := HW.out; exact ⟨m + nq, by rw [hm, World.drewN_drewN]⟩)⟩
          case measure => simp [intOf]; have := HI.out; omega
        · have t2 : (y == (s' : Int)) = false := by rw [beq_eq_false_iff_ne]; exact hys
          have HE := Lib.hid (stab_off (q := q') (s := s') HX.out HY.out (fun h => hys h.2))
          clear hys
          go_wp2_with fail
          go_quiet (fail)
          clear w1 w2 w3
          go_wp2
          go_ret
          exact ⟨by rw [HS.out, ← HI.out, ← HQ.out, ← HS'.out, HE.out]; rfl, by obtain ⟨m, hm⟩ := HW.out; exact ⟨m + nq, by rw [hm, World.drewN_drewN]⟩⟩
      · have t1 : (x == (q' : Int)) = false := by rw [beq_eq_false_iff_ne]; exact hxq
        have HE := Lib.hid (stab_off (q := q') (s := s') HX.out HY.out (fun h => hxq h.1))
        clear hxq
        go_wp2_with fail
        go_quiet (fail)
        clear w1 w2 w3
        go_wp2
        go_ret
        exact ⟨by rw [HS.out, ← HI.out, ← HQ.out, ← HS'.out, HE.out]; rfl, by obtain ⟨m, hm⟩ := HW.out; exact ⟨m + nq, by rw [hm, World.drewN_drewN]⟩⟩
    · have hle : p + n = lo := by omega
      have w1 : IntKind.i64.wrap ((p : Int) + (n : Int)) = (lo : Int) := by rw [IntWalk.i64_in _ (by omega)]; omega
      have HE := Lib.hid (stab_end (ma := ma) (mb := mb) (i := p + n) (q := q + n) (s := s + n) (by rw [HLM.out]; omega))
      clear hle hlt
      go_wp2_with fail
      go_quiet (fail)
      clear w1
      go_wp2
      go_ret
      exact ⟨by rw [HS.out, HE.out]; rfl, by obtain ⟨m, hm⟩ := HW.out; exact ⟨m + nq, by rw [hm, World.drewN_drewN]⟩⟩

/-- Where the next thing is that both sides have; or the end. -/
def nextT (ma mb : List Int) (lo la lb p : Nat) : Nat × Nat × Nat := match nextN (ma.drop p) (mb.drop p) p with
  | some (pe, x, y) => (pe, x.toNat, y.toNat)
  | none => (lo, la, lb)

set_option maxRecDepth 100000 in
set_option maxHeartbeats 8000000 in
theorem next_any (T L M N gm gn : Nat) (ma mb : List Int) (lo la lb p q s : Nat) (w : World) (h : MemC w T L M N gm gn ma mb lo la lb p q s) (hp : p ≤ lo) (hlo : lo ≤ 1000000000) :
    Calls Tryz.prog 134 #[.pointer (some ⟨T, 0, none⟩), .pointer (some ⟨L, 0, none⟩), .pointer (some ⟨M, 0, none⟩), .pointer (some ⟨N, 0, none⟩)] w
      fun e w' => e = .returned (.agg (ends3 (nextT ma mb lo la lb p).1 (nextT ma mb lo la lb p).2.1 (nextT ma mb lo la lb p).2.2)) ∧ Below w.heap.size w w' := by
  obtain ⟨R, hR⟩ : ∃ R, R = w.heap.size := ⟨_, rfl⟩
  have hM1 := h.below ((Below.refl _ w).alloc (Nat.le_refl _) (.cells #[.int .i64 0, .int .i64 0, .int .i64 0] 173))
  have hB1 : Below w.heap.size w (w.alloc (.cells #[.int .i64 0, .int .i64 0, .int .i64 0] 173)) := (Below.refl _ _).alloc (Nat.le_refl _) _
  have hr1 : (w.alloc (.cells #[.int .i64 0, .int .i64 0, .int .i64 0] 173)).heap[R]? = some (.cells #[.int .i64 0, .int .i64 0, .int .i64 0] 173 (0, 0)) := by rw [hR]; exact blk_new _ _
  have a0 := hM1.a0
  have HM1 := Lib.hid hM1
  have HR1 := Lib.hid hr1
  have HB1 := Lib.hid hB1
  have HLM := Lib.hid h.lm
  have HLN := Lib.hid h.ln
  have HRR := Lib.hid hR
  clear h hM1 hr1 hB1 hR
  go_enter Tryz.func134, Tryz.ntmps134
  go_wp2
  obtain ⟨W1, hW1⟩ : ∃ W1, W1 = w.alloc (.cells #[.int .i64 0, .int .i64 0, .int .i64 0] 173) := ⟨_, rfl⟩
  rw [← hW1] at HM1 HR1 HB1 ⊢
  rw [← HRR.out]
  clear hW1 a0
  go_loopw [5] (fun i wr => ∃ n : Nat, i = .int .i64 n ∧ p ≤ n ∧ n ≤ lo ∧ Hid (nextN (ma.drop p) (mb.drop p) p = nextN (ma.drop n) (mb.drop n) n) ∧ Hid (MemC wr T L M N gm gn ma mb lo la lb p q s) ∧ Hid (wr.heap[R]? = some (.cells #[.int .i64 0, .int .i64 0, .int .i64 0] 173 (0, 0))) ∧ Hid (Below w.heap.size w wr)) (fun i _ => lo - (intOf i).toNat)
  case atStart => exact ⟨p, rfl, Nat.le_refl _, hp, Lib.hid rfl, HM1, HR1, HB1⟩
  case round =>
    clear HM1 HR1 HB1
    obtain ⟨n, rfl, hpn, hn, HS, HMw, HRw, HBw⟩ := hrel
    obtain ⟨wo, rfl⟩ : ∃ wo : World, wo = wr := ⟨_, rfl⟩
    have l0 := HMw.out.l0
    have l1 := HMw.out.l1
    have l2 := HMw.out.l2
    have c0 := HMw.out.m0
    have d0 := HMw.out.n0
    have r0 : wo.cell? ⟨R, 0, none⟩ = some (.int .i64 0) := by rw [blk_cell HRw.out]; rfl
    have r1 : wo.cell? ⟨R, 1, none⟩ = some (.int .i64 0) := by rw [blk_cell HRw.out]; rfl
    have r2 : wo.cell? ⟨R, 2, none⟩ = some (.int .i64 0) := by rw [blk_cell HRw.out]; rfl
    have f0 := blk_frozen HRw.out
    have f1 := f0 0
    have f2 := f0 1
    have f3 := f0 2
    clear f0
    have hn0 : (0 : Int) ≤ (n : Int) := Int.natCast_nonneg _
    by_cases hlt : n < lo
    · obtain ⟨x, hx⟩ : ∃ x, ma[n]? = some x := ⟨ma[n]'(by rw [HLM.out]; omega), List.getElem?_eq_getElem (by rw [HLM.out]; omega)⟩
      obtain ⟨y, hy⟩ : ∃ y, mb[n]? = some y := ⟨mb[n]'(by rw [HLN.out]; omega), List.getElem?_eq_getElem (by rw [HLN.out]; omega)⟩
      have e0 := HMw.out.rm.cell hx
      have e1 := HMw.out.rn.cell hy
      have i3 : (n : Int) < (lo : Int) := by omega
      have HX := Lib.hid hx
      have HY := Lib.hid hy
      clear hx hy
      by_cases hxy : 0 ≤ x ∧ 0 ≤ y
      · obtain ⟨hx0, hy0⟩ := hxy
        have HE := Lib.hid (next_on HX.out HY.out ⟨hx0, hy0⟩)
        obtain ⟨X, rfl⟩ := Int.eq_ofNat_of_zero_le hx0
        obtain ⟨Y, rfl⟩ := Int.eq_ofNat_of_zero_le hy0
        have HF : Hid (nextT ma mb lo la lb p = (n, X, Y)) := Lib.hid (by unfold nextT; rw [HS.out, HE.out]; rfl)
        go_wp2_with fail
        refine wp_region_still_tail 10 (by kernel_rfl) (by kernel_rfl) ?_
        obtain ⟨W5, hW5⟩ : ∃ W5 : World, W5 = { wo with drawn := wo.drawn + 1 } := ⟨_, rfl⟩
        rw [← hW5]
        have HM5 : Hid (MemC W5 T L M N gm gn ma mb lo la lb p q s) := by rw [hW5]; exact Lib.hid (HMw.out.moved (fun _ _ _ _ h _ => h))
        have HR5 : Hid (W5.heap[R]? = some (.cells #[.int .i64 0, .int .i64 0, .int .i64 0] 173 (0, 0))) := by rw [hW5]; exact HRw
        have HB5 : Hid (Below w.heap.size w W5) := by rw [hW5]; exact Lib.hid ⟨HBw.out.os, HBw.out.tape, HBw.out.output, HBw.out.size, HBw.out.block⟩
        clear hW5 l0 l1 l2 c0 d0 r0 r1 r2 f1 f2 f3 e0 e1
        have c0 := HM5.out.m0
        have d0 := HM5.out.n0
        have e0 := HM5.out.rm.cell HX.out
        have e1 := HM5.out.rn.cell HY.out
        simp only [List.take_succ_cons, List.take_zero, List.drop_succ_cons, List.drop_zero]
        repeat still_step
        refine wpStill_nil ?_
        clear c0 d0 e0 e1
        have r0 : W5.cell? ⟨R, 0, none⟩ = some (.int .i64 0) := by rw [blk_cell HR5.out]; rfl
        have r1 : W5.cell? ⟨R, 1, none⟩ = some (.int .i64 0) := by rw [blk_cell HR5.out]; rfl
        have r2 : W5.cell? ⟨R, 2, none⟩ = some (.int .i64 0) := by rw [blk_cell HR5.out]; rfl
        have f0 := blk_frozen HR5.out
        have f1 := f0 0
        have f2 := f0 1
        have f3 := f0 2
        clear f0
        go_wp2
        have hfin := blk_set (blk_set (blk_set HR5.out 0 (.int .i64 (n : Int))) 1 (.int .i64 (X : Int))) 2 (.int .i64 (Y : Int))
        refine bodyPost_ret (results_single rfl (.cell R _ _ _ _ rfl hfin Tryz.underlying173 rfl (by kernel_rfl) .nil)) rfl ⟨?_, ?_⟩
        · rw [HF.out]; rfl
        · exact ((HB5.out.setCell (p := ⟨R, 0, none⟩) (by rw [HRR.out]; exact Nat.le_refl _) _).setCell (p := ⟨R, 1, none⟩) (by rw [HRR.out]; exact Nat.le_refl _) _).setCell (p := ⟨R, 2, none⟩) (by rw [HRR.out]; exact Nat.le_refl _) _
      · have HE := Lib.hid (next_off HX.out HY.out hxy)
        have hd : decide ((0 : Int) ≤ x) = false ∨ (decide ((0 : Int) ≤ x) = true ∧ decide ((0 : Int) ≤ y) = false) := by
          by_cases h0 : 0 ≤ x
          · right; exact ⟨decide_eq_true h0, by rw [decide_eq_false_iff_not]; exact fun h1 => hxy ⟨h0, h1⟩⟩
          · left; rw [decide_eq_false_iff_not]; exact h0
        clear hxy
        rcases hd with hd | ⟨hd, hd2⟩
        · have hx1 : x < 0 := by rw [decide_eq_false_iff_not] at hd; omega
          go_wp2
          go_roundw
          case rel => exact ⟨n + 1, by go_num, by omega, by omega, Lib.hid (by rw [HS.out, HE.out]), HMw, HRw, HBw⟩
          case measure => simp [intOf]; omega
        · have hx1 : 0 ≤ x := of_decide_eq_true hd
          have hy1 : y < 0 := by rw [decide_eq_false_iff_not] at hd2; omega
          go_wp2
          go_roundw
          case rel => exact ⟨n + 1, by go_num, by omega, by omega, Lib.hid (by rw [HS.out, HE.out]), HMw, HRw, HBw⟩
          case measure => simp [intOf]; omega
    · have HF : Hid (nextT ma mb lo la lb p = (lo, la, lb)) := Lib.hid (by unfold nextT; rw [HS.out, next_end (by rw [HLM.out]; exact hlt)])
      go_wp2
      have hfin := blk_set (blk_set (blk_set HRw.out 0 (.int .i64 (lo : Int))) 1 (.int .i64 (la : Int))) 2 (.int .i64 (lb : Int))
      refine bodyPost_ret (results_single rfl (.cell R _ _ _ _ rfl hfin Tryz.underlying173 rfl (by kernel_rfl) .nil)) rfl ⟨?_, ?_⟩
      · rw [HF.out]; rfl
      · exact ((HBw.out.setCell (p := ⟨R, 0, none⟩) (by rw [HRR.out]; exact Nat.le_refl _) _).setCell (p := ⟨R, 1, none⟩) (by rw [HRR.out]; exact Nat.le_refl _) _).setCell (p := ⟨R, 2, none⟩) (by rw [HRR.out]; exact Nat.le_refl _) _

end Go.Proofs.YtogfkfkejaiecaaGreatDoor.Dg

namespace Go.Proofs.YtogfkfkejaiecaaGreatDoor.Dh
open Go.RowKit
set_option linter.unusedVariables false
set_option linter.unusedSimpArgs false

/-- What an iterator may turn: new blocks, and cells of type te that were laid since its call. -/
def AbidesC {β : Type} (B : Nat) (te : TypeId) (J : β → World → Prop) : Prop :=
  ∀ s A C row, J s A → A.grownBy C row → (∀ r, row = some r → B ≤ r ∧ ∃ c f, A.heap[r]? = some (.cells c te f)) → J s C
/-- The iterator's contract: all of 'full' comes, one by one. -/
def SeqAll {α : Type} (F : Fence) (n : Nat) (P : Program) (g : Nat) (lb : Array Value) (encs : α → Array Value) (te : TypeId) (Kp : World → World → Prop) (full : List α) (w : World) : Prop :=
  ∀ (l : Nat) (J : List α → World → Prop) (W : World), Below w.heap.size w W → AbidesC W.heap.size te J →
    (∀ pre x W1, J pre W1 → pre ++ [x] <+: full → YieldAt F (n - 1) P l (encs x) W1 fun e W' => e = .returned (.bool true) ∧ J (pre ++ [x]) W' ∧ Kp W1 W') →
    J [] W →
    CallsIn F n P g (#[.func (.yield l) #[] #[]] ++ lb) W fun e W' => (∃ v, e = .returned v) ∧ J full W'
/-- What the caller's word abides: besides, the turn of the law's own two records. -/
def OwnC {β : Type} (B : Nat) (te : TypeId) (I : β → World → Prop) : Prop :=
  ∀ s A C row, I s A → A.grownBy C row → (∀ r, row = some r → B ≤ r ∧ ((∃ c f, A.heap[r]? = some (.cells c te f)) ∨ ∃ o : Obj, A.heap[r]? = some o ∧ o.isCells = false)) → I s C
theorem OwnC.alloc {β : Type} {B : Nat} {te : TypeId} {I : β → World → Prop} (h : OwnC B te I) {s : β} {W : World} (o : Obj) (hs : I s W) : I s (W.alloc o) :=
  h s W _ none hs (World.grownBy_alloc W o none) (fun r e => by cases e)
theorem OwnC.putObj {β : Type} {B : Nat} {te : TypeId} {I : β → World → Prop} (h : OwnC B te I) {s : β} {W : World} {l : Nat} {o : Obj} (o' : Obj) (hs : I s W) (hB : B ≤ l) (hl : W.heap[l]? = some o) (ho : o.isCells = false) : I s (W.putObj l o') :=
  h s W _ (some l) hs (grownBy_putObj' W l o') (fun r e => by cases e; exact ⟨hB, .inr ⟨o, hl, ho⟩⟩)
/-- A record abides the turn of cells. -/
theorem record_stays {A C : World} {row : Option Nat} {te : TypeId} {B k : Nat} {o : Obj} (hg : A.grownBy C row) (hr : ∀ r, row = some r → B ≤ r ∧ ∃ c f, A.heap[r]? = some (.cells c te f)) (hk : A.heap[k]? = some o) (ho : o.isCells = false) : C.heap[k]? = some o := by
  refine (hg.block k (Array.getElem?_eq_some_iff.1 hk).1 fun e => ?_).trans hk
  obtain ⟨_, c, f, hc⟩ := hr k e.symm
  rw [hk] at hc
  cases hc
  cases ho

/-- How a round is left. -/
def roundPost {α : Type} (B : Nat) (Kp : World → World → Prop) (I : List α → World → Prop) (xs : List α) (W : World) : Exit → Act → World → Prop
  | .normal, _, W' => KeepsFrom B W W' ∧ Kp W W' ∧ I xs W'
  | _, _, _ => False

theorem rangeFunc_cells {F : Fence} {n : Nat} {P : Program} {α : Type} {g : Operand} {ps : Array Tmp} {assign body : Code} {Q : Exit → Act → World → Prop} {a : Act} {w : World} (te : TypeId)
    (hro : F.round = none) (h1 : 1 ≤ n) {gf : Nat} {lb : Array Value} (hg : a.eval g = .func (.func gf) #[] lb) (hFg : F.fn gf) (eg : ∀ args w, (callFunc gf args).run P w = .ok (.enter gf args) w)
    {encs : α → Array Value} {Kp : World → World → Prop} {full : List α} {w0 : World} (hseq : SeqAll F (n - 1) P gf lb encs te Kp full w0)
    (hKt : ∀ {A B C : World}, Kp A B → Kp B C → Kp A C) (hKb : ∀ (W : World) (l : Nat) (o o' : Obj), W.heap[l]? = some o → o.isCells = false → Kp W (W.putObj l o')) (hb0 : Below w0.heap.size w0 w) (hps : ∀ x, (encs x).size = ps.size)
    (I : List α → World → Prop) (hI : OwnC w.heap.size te I) (h0 : I [] w) (Ax : α → Act → World → Prop) (hAx : ∀ x a' W l o o', Ax x a' W → W.heap[l]? = some o → o.isCells = false → Ax x a' (W.putObj l o'))
    (hassign : ∀ (l : Nat) (pre : List α) (x : α) (W : World) (K : Act → World → Prop), I pre W → (∀ a' W', KeepsFrom w.heap.size W W' → Kp W W' → I pre W' → Ax x a' W' → K a' W') →
      assign.wpIn (F.inRound l) (n - 1 - 1) P (Exit.then K (fun _ _ _ => False)) { tmps := (ps.zip (encs x)).foldl (fun t (p, v) => t.setIfInBounds p v) a.tmps, defers := [] } W)
    (hbody : ∀ (l : Nat) (pre : List α) (x : α) (a' : Act) (W : World), I pre W → Ax x a' W → pre ++ [x] <+: full → body.wpIn (F.inRound l) (n - 1 - 1) P (roundPost w.heap.size Kp I (pre ++ [x]) W) a' W)
    (hdone : ∀ (D : Nat) (W : World), w.heap.size ≤ D → I full W → W.heap[D]? = some (.deferred (some [])) → Q .normal { a with defers := { target := .collected D, args := #[] } :: a.defers } W) :
    (Code.rangeFunc g ps assign body).wpIn F n P Q a w := by
  refine wpIn_rangeFunc fun fn hfn => ?_
  rw [hro]
  obtain ⟨rec, hrec⟩ : ∃ rec : LoopState → Option Code → Loop, rec = fun st pe => { state := st, pending := pe, fn, tmps := a.tmps, params := ps, assign, body, defers := w.heap.size } := ⟨_, rfl⟩
  obtain ⟨W1, hW1⟩ : ∃ W1, W1 = (w.alloc (.deferred (some []))).alloc (.loop (rec .ready none)) := ⟨_, rfl⟩
  have hL1 : W1.heap[w.heap.size + 1]? = some (.loop (rec .ready none)) := by
    have := World.alloc_heap_new (w.alloc (.deferred (some []))) (.loop (rec .ready none))
    rw [World.size_alloc] at this
    rw [hW1]; exact this
  have hK1 : W1.heap[w.heap.size]? = some (.deferred (some [])) := by
    rw [hW1]; exact (Below.heap_alloc _ _ _ (by simp)).trans (World.alloc_heap_new w _)
  have hs1 : w.heap.size ≤ W1.heap.size := by rw [hW1]; simp; omega
  refine ⟨w.heap.size + 1, [{ target := .collected w.heap.size, args := #[] }], W1, { target := .fn (.func gf) lb, args := #[.func (.yield (w.heap.size + 1)) #[] #[]] }, W1, gf,
    #[.func (.yield (w.heap.size + 1)) #[] #[]] ++ lb, W1, ?_, ?_, ?_, ?_, fun _ => h1, ?_⟩
  · rw [hW1, hrec]; exact run_enterLoop_outer _ _ _ _ _
  · simp only [resolve, hg]
    simp [go_sem]
  · intro f' hf'; simp [Target.leads] at hf'; subst hf'; exact hFg
  · simp [invoke, go_sem, eg]
  · refine (hseq (w.heap.size + 1) (fun pre W => I pre W ∧ W.heap[w.heap.size + 1]? = some (.loop (rec .ready none)) ∧ W.heap[w.heap.size]? = some (.deferred (some []))) W1 ?_ ?_ ?_ ?_).mono ?_
    · rw [hW1]; exact hb0.trans ((((Below.refl _ w).alloc (Nat.le_refl _) _).alloc (by simp) _).mono hb0.size)
    · rintro s A C row ⟨hi, hl, hk⟩ hgr hrow
      exact ⟨hI s A C row hi hgr (fun r e => ⟨Nat.le_trans hs1 (hrow r e).1, .inl (hrow r e).2⟩), record_stays hgr hrow hl rfl, record_stays hgr hrow hk rfl⟩
    · rintro pre x W ⟨hi, hl, hk⟩ hpre
      have hy := run_yield (P := P) (args := encs x) hl (by rw [hrec]; exact hps x)
      rw [hrec] at hy
      refine ⟨fn, _, assign, body, hy, roundIn_of_wpIn hfn (hassign _ pre x W _ hi fun a' Wa hkf hkp hia hax => ?_)⟩
      have hl' := hkf.same _ _ (by omega) hl rfl
      have hk' := hkf.same _ _ (Nat.le_refl _) hk rfl
      have hlt : w.heap.size + 1 < Wa.heap.size := (Array.getElem?_eq_some_iff.1 hl').1
      refine ⟨_, run_beginRound hl' (by rw [hrec]), ?_⟩
      obtain ⟨W2, hW2⟩ : ∃ W2, W2 = Wa.putObj (w.heap.size + 1) (.loop { rec .ready none with state := .busy }) := ⟨_, rfl⟩
      have hl2 : W2.heap[w.heap.size + 1]? = some (.loop { rec .ready none with state := .busy }) := by rw [hW2]; exact World.putObj_heap_same hlt
      have hk2 : W2.heap[w.heap.size]? = some (.deferred (some [])) := by rw [hW2]; exact (World.putObj_heap_other (by omega)).trans hk'
      have hkp2 : Kp W W2 := by rw [hW2]; exact hKt hkp (hKb _ _ _ _ hl' rfl)
      have hi2 : I pre W2 := by rw [hW2]; exact hI.putObj _ hia (by omega) hl' rfl
      have hax2 : Ax x a' W2 := by rw [hW2]; exact hAx _ _ _ _ _ _ hax hl' rfl
      rw [← hW2]
      refine wpIn_mono (hbody _ pre x a' W2 hi2 hax2 hpre) ?_
      rintro e a3 W3 hp
      cases e with
      | normal =>
        obtain ⟨hk3, hkp3, hi3⟩ := hp
        have hl3 := hk3.same _ _ (by omega) hl2 rfl
        have hd3 := hk3.same _ _ (Nat.le_refl _) hk2 rfl
        have hr := run_endRound (P := P) none hl3
        rw [hrec] at hr
        refine ⟨_, _, hr, rfl, ⟨hI.putObj _ hi3 (by omega) hl3 rfl, ?_, ?_⟩, hKt (hKt hkp2 hkp3) (hKb _ _ _ _ hl3 rfl)⟩
        · rw [World.putObj_heap_same (Array.getElem?_eq_some_iff.1 hl3).1, hrec]; rfl
        · exact (World.putObj_heap_other (by omega)).trans hd3
      | _ => exact hp.elim
    · refine ⟨?_, hL1, hK1⟩
      rw [hW1]; exact hI.alloc _ (hI.alloc _ h0)
    · rintro e W2 ⟨⟨v, rfl⟩, hi, hl, hk⟩
      refine ⟨none, _, by have := run_endLoop (P := P) hl (by rw [hrec]; simp); rw [hrec] at this; exact this, hdone _ _ (Nat.le_refl _) (hI.putObj _ hi (by omega) hl rfl) ((World.putObj_heap_other (by omega)).trans hk)⟩

end Go.Proofs.YtogfkfkejaiecaaGreatDoor.Dh

namespace Go.Proofs.YtogfkfkejaiecaaGreatDoor.Dx
open Go.RowKit Go.Shelf Pl Ut Ln Da Db Dc Dd Go.Proofs.YtogfkfkejaiecaaGreatDoorW.PrintWords
set_option linter.unusedVariables false
set_option linter.unusedSimpArgs false

/-- The matches at both ends: h things at the beginning, j at the end. -/
def rowHT (n m h j : Nat) : List Int := (List.range n).map fun i => if i < h then (i : Int) else if n - j ≤ i then (i : Int) - n + m else -1
theorem rowHT_zero (n m h : Nat) : rowHT n m h 0 = rowH n h := by
  unfold rowHT rowH
  apply List.map_congr_left
  intro i hi
  rw [List.mem_range] at hi
  split
  · rfl
  · rw [if_neg (by omega)]
theorem rowHT_set (n m h j : Nat) (hj : j < n - h) (hm : j < m) : (rowHT n m h j).set (n - 1 - j) ((m - 1 - j : Nat) : Int) = rowHT n m h (j + 1) := by
  unfold rowHT
  refine map_range_set _ ?_ ?_
  · rw [if_neg (by omega), if_pos (by omega)]; omega
  · intro i hi hne
    split
    · rfl
    · by_cases h1 : n - j ≤ i
      · rw [if_pos h1, if_pos (by omega)]
      · rw [if_neg h1, if_neg (by omega)]
theorem rowHT_at (n m h j : Nat) (hj : j < n - h) : (rowHT n m h j)[n - 1 - j]? = some (-1) := by
  unfold rowHT
  rw [List.getElem?_map, List.getElem?_range (by omega)]
  simp only [Option.map_some]
  rw [if_neg (by omega), if_neg (by omega)]
theorem rowHT_all (a b : List Nat) : rowHT a.length b.length (headN a b) (tailN a b) = matchB a b := rfl

set_option maxRecDepth 100000 in
set_option maxHeartbeats 8000000 in
theorem ends_any (a b : List Nat) (A A' : Option Addr) (c c' co g : Nat) (w : World) (B0 : Nat) (hC : Lies w B0 A a) (hC' : Lies w B0 A' b) (hla : a.length ≤ 1000000000) (hlb : b.length ≤ 1000000000)
    (hB0 : B0 ≤ g) (hr : RowI w g (List.replicate a.length (-1))) :
    Calls Tryz.prog 138 #[.slice A a.length c, .slice A' b.length c', .slice (some ⟨g, 0, none⟩) a.length co] w fun e w' => e = .returned (.tuple #[.int .i64 (headN a b : Nat), .int .i64 (tailN a b : Nat)]) ∧ RowI w' g (matchB a b) ∧ Below B0 w w' := by
  have HC := Lib.hid hC
  have HC' := Lib.hid hC'
  rw [rowH_zero] at hr
  have HR := Lib.hid hr
  clear hC hC' hr
  obtain ⟨mn, hmn⟩ : ∃ mn : Nat, mn = min a.length b.length := ⟨_, rfl⟩
  have hmi : min (a.length : Int) (b.length : Int) = (mn : Int) := by omega
  have HMN := Lib.hid hmn
  have HLA := Lib.hid hla
  have HLB := Lib.hid hlb
  have HB0 := Lib.hid hB0
  clear hmn hla hlb hB0
  go_enter Tryz.func138, Tryz.ntmps138
  go_wp2
  go_loopw [8] (fun i wr => ∃ k : Nat, k ≤ mn ∧ i = .int .i64 (k : Int) ∧ Hid (headN a b = k + headN (a.drop k) (b.drop k)) ∧ Hid (RowI wr g (rowH a.length k)) ∧ Hid (Below B0 w wr)) (fun i _ => mn - (intOf i).toNat)
  case atStart => exact ⟨0, Nat.zero_le _, rfl, Lib.hid (by simp), HR, Lib.hid (Below.refl _ _)⟩
  case round =>
    obtain ⟨k, hk, rfl, HH, HRk, HB⟩ := hrel
    obtain ⟨wo, rfl⟩ : ∃ wo : World, wo = wr := ⟨_, rfl⟩
    have HK := Lib.hid hk
    obtain ⟨bb, hbb⟩ : ∃ bb : Bool, bb = decide (k < mn ∧ a[k]? = b[k]?) := ⟨_, rfl⟩
    have HBB := Lib.hid hbb
    clear hbb hk
    go_upto_region 2 with fail
    go_cut [28] from 11 to 28 (fun v wc => v = .bool bb ∧ ∃ m, wc = wo.drewN m)
    case first =>
      by_cases hlt : k < mn
      · have i1 : (k : Int) < (mn : Int) := by omega
        have d1 : decide ((k : Int) < (mn : Int)) = true := by rw [decide_eq_true_eq]; omega
        have hka : k < a.length := by have := HMN.out; omega
        have hkb : k < b.length := by have := HMN.out; omega
        obtain ⟨x, hx⟩ : ∃ x, a[k]? = some x := ⟨a[k], List.getElem?_eq_getElem hka⟩
        obtain ⟨y, hy⟩ : ∃ y, b[k]? = some y := ⟨b[k], List.getElem?_eq_getElem hkb⟩
        obtain ⟨ad, hA1, _, p0⟩ := (HC.out.below HB.out) k x hx
        obtain ⟨ad', hA2, _, q0⟩ := (HC'.out.below HB.out) k y hy
        subst hA1 hA2
        by_cases hxy : x = y
        · subst hxy
          obtain rfl : bb = true := by rw [HBB.out, decide_eq_true_eq]; exact ⟨hlt, by rw [hx, hy]⟩
          have hxy1 : ((x : Int) == (x : Int)) = true := by simp
          clear hx hy hlt
          go_quiet (fail)
          go_wp2
          go_meet
          exact ⟨rfl, _, rfl⟩
        · have hxy1 : ((x : Int) == (y : Int)) = false := by rw [beq_eq_false_iff_ne]; omega
          have hxy2 : (x == y) = false := by rw [beq_eq_false_iff_ne]; exact hxy
          obtain rfl : bb = false := by rw [HBB.out, decide_eq_false_iff_not]; rintro ⟨_, h⟩; rw [hx, hy] at h; exact hxy (Option.some.inj h)
          clear hx hy hlt hxy
          go_quiet (fail)
          go_wp2
          go_meet
          exact ⟨rfl, _, rfl⟩
      · have d1 : decide ((k : Int) < (mn : Int)) = false := by rw [decide_eq_false_iff_not]; omega
        obtain rfl : bb = false := by rw [HBB.out, decide_eq_false_iff_not]; exact fun h => hlt h.1
        go_quiet (fail)
        go_wp2
        go_meet
        exact ⟨rfl, _, rfl⟩
    case rest =>
      obtain ⟨rfl, m, hm⟩ := hcut
      obtain ⟨wk, rfl⟩ : ∃ wk : World, wk = wc := ⟨_, rfl⟩
      have HRw : Hid (RowI wk g (rowH a.length k)) := by rw [hm]; exact HRk
      have HBw : Hid (Below B0 w wk) := by rw [hm]; exact Lib.hid (pw_below_drewN HB.out _)
      clear hm HRk HB
      cases bb with
      | true =>
        obtain ⟨hlt, heq⟩ := of_decide_eq_true HBB.out.symm
        have hka : k < a.length := by have := HMN.out; omega
        obtain ⟨x, hx⟩ : ∃ x, a[k]? = some x := ⟨a[k], List.getElem?_eq_getElem hka⟩
        have HH2 := Lib.hid (show headN a b = (k + 1) + headN (a.drop (k + 1)) (b.drop (k + 1)) from by rw [HH.out, headN_cons hx (by rw [← heq]; exact hx)]; omega)
        have hc := HRw.out.cell (i := k) (x := -1) (by unfold rowH; rw [List.getElem?_map, List.getElem?_range hka]; simp)
        have hf := HRw.out.frozen k
        have hS := HRw.out.set k (k : Int)
        rw [rowH_set] at hS
        have HS := Lib.hid hS
        have HB3 := Lib.hid (HBw.out.setCell (p := ⟨g, k, none⟩) HB0.out (.int .i64 (k : Int)))
        have HLT := Lib.hid hlt
        have i1 : (k : Int) < (a.length : Int) := by omega
        have cadd : IntKind.i64.wrap ((k : Int) + 1) = ((k + 1 : Nat) : Int) := by rw [IntWalk.i64_in _ (by have := HLA.out; omega)]; omega
        clear hS hx heq hlt hka HH
        go_wp2
        go_roundw
        case rel => exact ⟨k + 1, HLT.out, rfl, HH2, HS, HB3⟩
        · have := HLT.out; simp only [intOf]; omega
      | false =>
        have hno := of_decide_eq_false HBB.out.symm
        have HH2 : Hid (headN a b = k) := Lib.hid (by
          rw [HH.out]
          by_cases hlt : k < mn
          · have hka : k < a.length := by have := HMN.out; omega
            have hkb : k < b.length := by have := HMN.out; omega
            obtain ⟨x, hx⟩ : ∃ x, a[k]? = some x := ⟨a[k], List.getElem?_eq_getElem hka⟩
            obtain ⟨y, hy⟩ : ∃ y, b[k]? = some y := ⟨b[k], List.getElem?_eq_getElem hkb⟩
            rw [headN_stop hx hy (fun e => hno ⟨hlt, by rw [hx, hy, e]⟩)]; rfl
          · rw [headN_end (by have := HMN.out; omega)]; rfl)
        clear hno HBB HH
        have HT0 := Lib.hid (show tailN a b = headN ((a.drop k).reverse) ((b.drop k).reverse) from by unfold tailN; rw [HH2.out])
        obtain ⟨d, hd⟩ : ∃ d, d = mn - k := ⟨_, rfl⟩
        have HD : Hid (d = mn - k ∧ k + d ≤ a.length ∧ k + d ≤ b.length) := Lib.hid (by have := HMN.out; have := HK.out; omega)
        have s1 : IntKind.i64.wrap ((mn : Int) - (k : Int)) = (d : Int) := by rw [IntWalk.i64_in _ (by have := HMN.out; have := HLA.out; have := HK.out; omega)]; have := HK.out; omega
        clear hd
        go_wp2
        go_loopw [9] (fun i wr => ∃ t m : Nat, t ≤ d ∧ i = .int .i64 (t : Int) ∧ Hid (tailN a b = t + headN (((a.drop k).reverse).drop t) (((b.drop k).reverse).drop t)) ∧ wr = wk.drewN m) (fun i _ => d - (intOf i).toNat)
        case atStart => exact ⟨0, 0, Nat.zero_le _, rfl, Lib.hid (by rw [HT0.out]; simp), rfl⟩
        case round =>
          obtain ⟨t, m1, ht, rfl, HTT, hw1⟩ := hrel
          have HT := Lib.hid ht
          have HBt : Hid (Below B0 w wr) := by rw [hw1]; exact Lib.hid (pw_below_drewN HBw.out _)
          have HRt : Hid (RowI wr g (rowH a.length k)) := by rw [hw1]; exact HRw
          have HW := Lib.hid hw1
          clear ht hw1
          obtain ⟨bb, hbb⟩ : ∃ bb : Bool, bb = decide (t < d ∧ a[a.length - 1 - t]? = b[b.length - 1 - t]?) := ⟨_, rfl⟩
          have HBB := Lib.hid hbb
          clear hbb
          go_upto_region 6 with fail
          go_cut [62] from 35 to 62 (fun v we => v = .bool bb ∧ ∃ m, we = wr.drewN m)
          case first =>
            by_cases hlt : t < d
            · have i1 : (t : Int) < (d : Int) := by omega
              have d1 : decide ((t : Int) < (d : Int)) = true := by rw [decide_eq_true_eq]; omega
              have q1 := HD.out.2.1
              have q2 := HD.out.2.2
              obtain ⟨ia, hia⟩ : ∃ ia, ia = a.length - 1 - t := ⟨_, rfl⟩
              obtain ⟨ib, hib⟩ : ∃ ib, ib = b.length - 1 - t := ⟨_, rfl⟩
              have hka : ia < a.length := by omega
              have hkb : ib < b.length := by omega
              have g1 : IntKind.i64.wrap ((a.length : Int) - 1) = (a.length : Int) - 1 := IntWalk.i64_in _ (by have := HLA.out; omega)
              have g2 : IntKind.i64.wrap ((b.length : Int) - 1) = (b.length : Int) - 1 := IntWalk.i64_in _ (by have := HLB.out; omega)
              have g3 : IntKind.i64.wrap ((a.length : Int) - 1 - (t : Int)) = (ia : Int) := by rw [IntWalk.i64_in _ (by have := HLA.out; omega)]; omega
              have g4 : IntKind.i64.wrap ((b.length : Int) - 1 - (t : Int)) = (ib : Int) := by rw [IntWalk.i64_in _ (by have := HLB.out; omega)]; omega
              obtain ⟨x, hx⟩ : ∃ x, a[ia]? = some x := ⟨a[ia], List.getElem?_eq_getElem hka⟩
              obtain ⟨y, hy⟩ : ∃ y, b[ib]? = some y := ⟨b[ib], List.getElem?_eq_getElem hkb⟩
              obtain ⟨ad, hA1, _, p0⟩ := (HC.out.below HBt.out) ia x hx
              obtain ⟨ad', hA2, _, q0⟩ := (HC'.out.below HBt.out) ib y hy
              subst hA1 hA2
              rw [← hia, ← hib, hx, hy] at HBB
              have j1 : (ia : Int) < (a.length : Int) := by omega
              have j2 : (ib : Int) < (b.length : Int) := by omega
              clear hx hy hia hib hka hkb
              by_cases hxy : x = y
              · subst hxy
                obtain rfl : bb = true := by rw [HBB.out, decide_eq_true_eq]; exact ⟨hlt, rfl⟩
                have hxy1 : ((x : Int) == (x : Int)) = true := by simp
                clear hlt q1 q2
                go_quiet (fail)
                go_wp2
                go_meet
                exact ⟨rfl, _, rfl⟩
              · have hxy1 : ((x : Int) == (y : Int)) = false := by rw [beq_eq_false_iff_ne]; omega
                have hxy2 : (x == y) = false := by rw [beq_eq_false_iff_ne]; exact hxy
                obtain rfl : bb = false := by rw [HBB.out, decide_eq_false_iff_not]; rintro ⟨_, h⟩; exact hxy (Option.some.inj h)
                clear hlt hxy q1 q2
                go_quiet (fail)
                go_wp2
                go_meet
                exact ⟨rfl, _, rfl⟩
            · have d1 : decide ((t : Int) < (d : Int)) = false := by rw [decide_eq_false_iff_not]; omega
              obtain rfl : bb = false := by rw [HBB.out, decide_eq_false_iff_not]; exact fun h => hlt h.1
              go_quiet (fail)
              go_wp2
              go_meet
              exact ⟨rfl, _, rfl⟩
          case rest =>
            obtain ⟨rfl, m2, hm2⟩ := hcut
            obtain ⟨m3, hm3⟩ : ∃ m, wc = wk.drewN m := ⟨m1 + m2, by rw [hm2, HW.out, World.drewN_drewN]⟩
            clear hm2 HW HBt HRt
            cases bb with
            | true =>
              obtain ⟨hlt, heq⟩ := of_decide_eq_true HBB.out.symm
              have q1 := HD.out.2.1
              have q2 := HD.out.2.2
              obtain ⟨x, hx⟩ : ∃ x, a[a.length - 1 - t]? = some x := ⟨_, List.getElem?_eq_getElem (by omega)⟩
              have hra : ((a.drop k).reverse)[t]? = some x := by rw [rev_at (by omega)]; exact hx
              have hrb : ((b.drop k).reverse)[t]? = some x := by rw [rev_at (by omega), ← heq]; exact hx
              have HTT2 := Lib.hid (show tailN a b = (t + 1) + headN (((a.drop k).reverse).drop (t + 1)) (((b.drop k).reverse).drop (t + 1)) from by rw [HTT.out, headN_cons hra hrb]; omega)
              have cadd : IntKind.i64.wrap ((t : Int) + 1) = ((t + 1 : Nat) : Int) := by rw [IntWalk.i64_in _ (by have := HLA.out; omega)]; omega
              have HLT := Lib.hid hlt
              have HM3 := Lib.hid hm3
              clear hx hra hrb heq hlt q1 q2 hm3 HBB
              go_wp2
              go_roundw
              case rel => exact ⟨t + 1, m3, HLT.out, rfl, HTT2, HM3.out⟩
              · have := HLT.out; simp only [intOf]; omega
            | false =>
              have hno := of_decide_eq_false HBB.out.symm
              have HTE : Hid (tailN a b = t) := Lib.hid (by
                rw [HTT.out]
                have q0 := HD.out.1
                have q1 := HD.out.2.1
                have q2 := HD.out.2.2
                have := HMN.out
                by_cases hlt : t < d
                · obtain ⟨x, hx⟩ : ∃ x, a[a.length - 1 - t]? = some x := ⟨_, List.getElem?_eq_getElem (by omega)⟩
                  obtain ⟨y, hy⟩ : ∃ y, b[b.length - 1 - t]? = some y := ⟨_, List.getElem?_eq_getElem (by omega)⟩
                  have hra : ((a.drop k).reverse)[t]? = some x := by rw [rev_at (by omega)]; exact hx
                  have hrb : ((b.drop k).reverse)[t]? = some y := by rw [rev_at (by omega)]; exact hy
                  rw [headN_stop hra hrb (fun e => hno ⟨hlt, by rw [hx, hy, e]⟩)]; rfl
                · rw [headN_end (by simp only [List.length_reverse, List.length_drop]; omega)]; rfl)
              have HR3 : Hid (RowI wc g (rowHT a.length b.length k 0)) := by rw [rowHT_zero, hm3]; exact HRw
              have HB3 : Hid (Below B0 w wc) := by rw [hm3]; exact Lib.hid (pw_below_drewN HBw.out _)
              clear hno HBB HTT hm3 HRw HBw s1
              go_wp2
              go_loopw [66] (fun i wr => ∃ j : Nat, j ≤ t ∧ i = .int .i64 (j : Int) ∧ Hid (RowI wr g (rowHT a.length b.length k j)) ∧ Hid (Below B0 w wr)) (fun i _ => t - (intOf i).toNat)
              case atStart => exact ⟨0, Nat.zero_le _, rfl, HR3, HB3⟩
              case round =>
                obtain ⟨j, hj, rfl, HRj, HBj⟩ := hrel
                by_cases hlt : j < t
                · have i1 : (j : Int) < (t : Int) := by omega
                  have q0 := HD.out.1
                  have q1 := HD.out.2.1
                  have q2 := HD.out.2.2
                  have q3 := HT.out
                  obtain ⟨ia, hia⟩ : ∃ ia, ia = a.length - 1 - j := ⟨_, rfl⟩
                  obtain ⟨ib, hib⟩ : ∃ ib, ib = b.length - 1 - j := ⟨_, rfl⟩
                  have g1 : IntKind.i64.wrap ((a.length : Int) - 1) = (a.length : Int) - 1 := IntWalk.i64_in _ (by have := HLA.out; omega)
                  have g2 : IntKind.i64.wrap ((b.length : Int) - 1) = (b.length : Int) - 1 := IntWalk.i64_in _ (by have := HLB.out; omega)
                  have g3 : IntKind.i64.wrap ((a.length : Int) - 1 - (j : Int)) = (ia : Int) := by rw [IntWalk.i64_in _ (by have := HLA.out; omega)]; omega
                  have g4 : IntKind.i64.wrap ((b.length : Int) - 1 - (j : Int)) = (ib : Int) := by rw [IntWalk.i64_in _ (by have := HLB.out; omega)]; omega
                  have cadd : IntKind.i64.wrap ((j : Int) + 1) = ((j + 1 : Nat) : Int) := by rw [IntWalk.i64_in _ (by have := HLA.out; omega)]; omega
                  have j1 : (ia : Int) < (a.length : Int) := by omega
                  have hc := HRj.out.cell (rowHT_at a.length b.length k j (by omega))
                  have hf := HRj.out.frozen (a.length - 1 - j)
                  have hS := HRj.out.set (a.length - 1 - j) ((b.length - 1 - j : Nat) : Int)
                  rw [rowHT_set _ _ _ _ (by omega) (by omega)] at hS
                  rw [← hia] at hc hf hS
                  rw [← hib] at hS
                  have HS := Lib.hid hS
                  have HBN := Lib.hid (HBj.out.setCell (p := ⟨g, ia, none⟩) HB0.out (.int .i64 (ib : Int)))
                  have HLT := Lib.hid hlt
                  clear hS hia hib q0 q1 q2 q3 hlt hj
                  go_wp2
                  go_roundw
                  case rel => exact ⟨j + 1, HLT.out, rfl, HS, HBN⟩
                  · have := HLT.out; simp only [intOf]; omega
                · obtain rfl : j = t := by omega
                  have i1 : ¬ (j : Int) < (j : Int) := by omega
                  go_wp2
                  go_ret2
                  refine ⟨by rw [HH2.out, HTE.out]; rfl, ?_, HBj.out⟩
                  rw [← rowHT_all, HH2.out, HTE.out]
                  exact HRj.out

end Go.Proofs.YtogfkfkejaiecaaGreatDoor.Dx
