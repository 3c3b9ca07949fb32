/- Contracts of the reference's lcs: table, Match of rows that are not too long. Contract of the reference ref07: Chunks. What was told of the references is shown: Numbers, Chunks, Parts, Lines. -/
import Derived.Test.YtogfkfkejaiecaaGreatDoorQc
import Derived.Test.YtogfkfkejaiecaaGreatDoorWMore
import Derived.Test.YtogfkfkejaiecaaGreatDoorQe
import Derived.Test.YtogfkfkejaiecaaGreatDoorQj
import Derived.BigQuiet
import Derived.WalkMore
import Derived.Deep.CutRange
import Derived.Deep.RegionHeld3
import Derived.Deep.AppendLies
import Derived.Test.YtogfkfkejaiecaaGreatDoorQm
import Derived.Test.YtogfkfkejaiecaaGreatDoorQh

namespace Go.Proofs.YtogfkfkejaiecaaGreatDoor.Rf
open Go.RowKit Go.Shelf Go.Proofs.YtogfkfkejaiecaaGreatDoor.Pl Go.Proofs.YtogfkfkejaiecaaGreatDoor.Ut Go.Proofs.YtogfkfkejaiecaaGreatDoor.Ln Go.Proofs.YtogfkfkejaiecaaGreatDoor.Da Go.Proofs.YtogfkfkejaiecaaGreatDoor.Db Go.Proofs.YtogfkfkejaiecaaGreatDoor.Dc Go.Proofs.YtogfkfkejaiecaaGreatDoor.Dd Go.Proofs.YtogfkfkejaiecaaGreatDoor.Dt Go.Proofs.YtogfkfkejaiecaaGreatDoor.De Go.Proofs.YtogfkfkejaiecaaGreatDoorW.PrintWords
set_option linter.unusedVariables false
set_option linter.unusedSimpArgs false
attribute [local go_sem] run_max2

theorem make_i64 (n : Nat) (hn : n ≤ 1000000) (w : World) : (Instr.makeSlice 130 (.int .i64 ((n : Int) + 1)) (.int .i64 ((n : Int) + 1))).run Tryz.prog w =
    .ok (.slice (some ⟨w.heap.size, 0, none⟩) (n + 1) (n + 1)) (w.alloc (.cells (ofK .i64 (List.replicate (n + 1) 0)) 3)) := by
  obtain ⟨i0, hi, hz0, hz1, hz2⟩ := info_parts infoInt
  have h := run_make (P := Tryz.prog) w 130 3 i0 (.int .i64 0) Tryz.underlying130 hi hz0 .i64 .i64 ((n : Int) + 1) ((n : Int) + 1) (by omega) (by omega) (by rw [hz2]; omega) (by omega)
  rw [h, hz1, Nat.mul_one, ofK_zeros]
  have e : ((n : Int) + 1).toNat = n + 1 := by omega
  rw [e]
theorem make_rows64 (n : Nat) (hn : n ≤ 1000000) (w : World) : (Instr.makeSlice 126 (.int .i64 ((n : Int) + 1)) (.int .i64 ((n : Int) + 1))).run Tryz.prog w =
    .ok (.slice (some ⟨w.heap.size, 0, none⟩) (n + 1) (n + 1)) (w.alloc (.cells (List.replicate (n + 1) (Value.slice none 0 0)).toArray 130)) := by
  obtain ⟨i0, hi, hz0, hz1, hz2⟩ := info_parts infoInts
  have h := run_make (P := Tryz.prog) w 126 130 i0 (.slice none 0 0) Tryz.underlying126 hi hz0 .i64 .i64 ((n : Int) + 1) ((n : Int) + 1) (by omega) (by omega) (by rw [hz2]; omega) (by omega)
  rw [h, hz1, Nat.mul_one]
  have e : ((n : Int) + 1).toNat = n + 1 := by omega
  rw [e]
  have e3 : madeCells (Value.slice none 0 0).cells (n + 1) = (List.replicate (n + 1) (Value.slice none 0 0)).toArray := by
    apply Array.ext'
    have e2 : (Value.slice none 0 0).cells = #[.slice none 0 0] := rfl
    rw [e2, toList_madeCells_one]
  rw [e3]

/-- How far a row is known. -/
def upq (b : List Nat) (lo q j : Nat) : Nat := if lo < j then 0 else if j = lo then q else b.length
/-- The table at block g, rows one behind the other: rows behind lo are whole, row lo from q on, those ahead are empty. -/
structure TabR (a b : List Nat) (w : World) (g lo q : Nat) : Prop where
  sl : w.heap[g]? = some (.cells (slP (fun j => g + 1 + j) a b 0) 130 (0, 0))
  row : ∀ j, j ≤ a.length → w.heap[g + 1 + j]? = some (.cells (ofK .i64 (rowP a b j (upq b lo q j))) 3 (0, 0))
section
variable {a b : List Nat} {w : World} {g lo q : Nat}
theorem TabR.slot (h : TabR a b w g lo q) {j : Nat} (h2 : j ≤ a.length) : w.cell? ⟨g, j, none⟩ = some (.slice (some ⟨g + 1 + j, 0, none⟩) (b.length + 1) (b.length + 1)) := by
  rw [blk_cell h.sl]
  unfold slP
  simp only [List.getElem?_toArray, List.getElem?_map]
  rw [List.getElem?_range (by omega)]
  simp
theorem TabR.far (h : TabR a b w g lo q) {j k : Nat} (h1 : lo < j) (h2 : j ≤ a.length) (hk : k ≤ b.length) : w.cell? ⟨g + 1 + j, k, none⟩ = some (.int .i64 (cm a b j k)) := by
  rw [blk_cell (h.row j h2)]
  simp only [ofK, List.getElem?_toArray, List.getElem?_map]
  rw [rowP_at a b hk (by unfold upq; rw [if_pos h1]; omega)]; rfl
theorem TabR.near (h : TabR a b w g lo q) {k : Nat} (h2 : lo ≤ a.length) (hk : k ≤ b.length) (hq : q ≤ k) : w.cell? ⟨g + 1 + lo, k, none⟩ = some (.int .i64 (cm a b lo k)) := by
  rw [blk_cell (h.row lo h2)]
  simp only [ofK, List.getElem?_toArray, List.getElem?_map]
  rw [rowP_at a b hk (by unfold upq; rw [if_neg (Nat.lt_irrefl _), if_pos rfl]; exact hq)]; rfl
theorem TabR.some_ (h : TabR a b w g lo q) {j k : Nat} (h2 : j ≤ a.length) (hk : k ≤ b.length) : ∃ v : Nat, w.cell? ⟨g + 1 + j, k, none⟩ = some (.int .i64 (v : Int)) := by
  rw [blk_cell (h.row j h2)]
  simp only [ofK, List.getElem?_toArray, List.getElem?_map]
  obtain ⟨v, hv⟩ := rowP_any a b (j := j) (q := upq b lo q j) hk
  rw [hv]; exact ⟨v, rfl⟩
theorem TabR.thaw (h : TabR a b w g lo q) {j : Nat} (h2 : j ≤ a.length) (k : Nat) : w.frozen? ⟨g + 1 + j, k, none⟩ = false := blk_frozen (h.row j h2) k
theorem TabR.moved {w' : World} (h : TabR a b w g lo q) (hm : ∀ (k : Nat) (o : Obj), w.heap[k]? = some o → w'.heap[k]? = some o) : TabR a b w' g lo q :=
  ⟨hm _ _ h.sl, fun j h2 => hm _ _ (h.row j h2)⟩
theorem TabR.set_ (h : TabR a b w g lo (q + 1)) (h2 : lo ≤ a.length) (hq : q ≤ b.length) :
    TabR a b (w.setCell ⟨g + 1 + lo, q, none⟩ (.int .i64 (cm a b lo q))) g lo q := by
  refine ⟨blk_far h.sl (show g ≠ g + 1 + lo by omega) _, fun j h3 => ?_⟩
  by_cases e : j = lo
  · subst e
    rw [blk_set (h.row j h3) q]
    congr 2
    have e1 : upq b j (q + 1) j = q + 1 := by unfold upq; rw [if_neg (Nat.lt_irrefl _), if_pos rfl]
    have e2 : upq b j q j = q := by unfold upq; rw [if_neg (Nat.lt_irrefl _), if_pos rfl]
    unfold ofK
    rw [e1, e2, ← rowP_set a b hq]
    simp [List.map_set]
  · rw [blk_far (h.row j h3) (show g + 1 + j ≠ g + 1 + lo by omega) _]
    have e1 : upq b lo (q + 1) j = upq b lo q j := by unfold upq; simp [e]
    rw [e1]
theorem TabR.next (h : TabR a b w g (lo + 1) 0) : TabR a b w g lo b.length := by
  refine ⟨h.sl, fun j h3 => ?_⟩
  rw [h.row j h3]
  have e1 : upq b (lo + 1) 0 j = upq b lo b.length j := by
    unfold upq
    by_cases h1 : lo + 1 < j
    · rw [if_pos h1, if_pos (by omega)]
    · rw [if_neg h1]
      by_cases h2 : j = lo + 1
      · rw [if_pos h2, if_pos (by omega)]
      · rw [if_neg h2, if_neg (by omega)]
        split <;> rfl
  rw [e1]
theorem TabR.done (h : TabR a b w g 0 0) : TabP .i64 3 130 (fun j => g + 1 + j) a b w g 0 0 := by
  refine ⟨h.sl, fun j h1 h2 => ?_, fun h2 => ?_⟩
  · rw [h.row j h2]; congr 2; unfold upq; rw [if_pos h1]
  · rw [h.row 0 h2]; rfl
end
/-- While the rows are made. -/
structure TabM (a b : List Nat) (w : World) (g k : Nat) : Prop where
  size : w.heap.size = g + 1 + k
  sl : w.heap[g]? = some (.cells ((List.range (a.length + 1)).map fun j => if j < k then Value.slice (some ⟨g + 1 + j, 0, none⟩) (b.length + 1) (b.length + 1) else .slice none 0 0).toArray 130 (0, 0))
  row : ∀ j, j < k → w.heap[g + 1 + j]? = some (.cells (ofK .i64 (List.replicate (b.length + 1) 0)) 3 (0, 0))
section
variable {a b : List Nat} {w : World} {g k : Nat}
theorem TabM.cell (h : TabM a b w g k) (hk : k ≤ a.length) : w.cell? ⟨g, k, none⟩ = some (.slice none 0 0) := by
  rw [blk_cell h.sl]
  simp only [List.getElem?_toArray, List.getElem?_map]
  rw [List.getElem?_range (by omega)]
  simp
theorem TabM.frozen (h : TabM a b w g k) (j : Nat) : w.frozen? ⟨g, j, none⟩ = false := blk_frozen h.sl j
theorem TabM.next (h : TabM a b w g k) (hk : k ≤ a.length) :
    TabM a b ((w.alloc (.cells (ofK .i64 (List.replicate (b.length + 1) 0)) 3)).setCell ⟨g, k, none⟩ (.slice (some ⟨g + 1 + k, 0, none⟩) (b.length + 1) (b.length + 1))) g (k + 1) := by
  have hg : g < w.heap.size := blk_lt h.sl
  refine ⟨by simp [h.size]; omega, ?_, fun j hj => ?_⟩
  · rw [blk_set (blk_alloc h.sl _)]
    congr 2
    simp only [List.setIfInBounds_toArray]
    congr 1
    apply List.ext_getElem?
    intro i
    rw [List.getElem?_set]
    simp only [List.length_map, List.length_range, List.getElem?_map]
    by_cases hi : i < a.length + 1
    · rw [List.getElem?_range hi]
      by_cases e : k = i
      · subst e; rw [if_pos rfl, if_pos hi]; simp
      · rw [if_neg e]
        simp only [Option.map_some, Option.some.injEq]
        by_cases h1 : i < k
        · rw [if_pos h1, if_pos (by omega)]
        · rw [if_neg h1, if_neg (by omega)]
    · rw [List.getElem?_eq_none (by simpa using hi)]
      by_cases e : k = i
      · subst e; rw [if_pos rfl, if_neg hi]; rfl
      · rw [if_neg e]; rfl
  · by_cases e : j = k
    · subst e
      refine blk_far ?_ (show g + 1 + j ≠ g by omega) _
      rw [← h.size]; exact blk_new _ _
    · exact blk_far (blk_alloc (h.row j (by omega)) _) (show g + 1 + j ≠ g by omega) _
theorem TabM.done (h : TabM a b w g (a.length + 1)) : TabR a b w g a.length 0 := by
  refine ⟨?_, fun j h3 => ?_⟩
  · rw [h.sl]
    congr 3
    apply List.map_congr_left
    intro j hj
    simp at hj
    simp [hj]
  · rw [h.row j (by omega)]
    congr 2
    by_cases e : j = a.length
    · rw [e, rowP_last]
    · have e1 : upq b a.length 0 j = b.length := by unfold upq; rw [if_neg (by omega), if_neg e]
      rw [e1, rowP_zero]
end

set_option maxRecDepth 100000 in
set_option maxHeartbeats 8000000 in
theorem rtable_any (a b : List Nat) (A A' : Option Addr) (c c' : Nat) (w : World) (B0 : Nat) (hC : Lies w B0 A a) (hC' : Lies w B0 A' b) (hla : a.length ≤ 2000) (hlb : b.length ≤ 2000) (hB0 : B0 ≤ w.heap.size) :
    Calls Tryz.prog 118 #[.slice A a.length c, .slice A' b.length c'] w fun e w' => e = .returned (.slice (some ⟨w.heap.size, 0, none⟩) (a.length + 1) (a.length + 1)) ∧
      TabP .i64 3 130 (fun j => w.heap.size + 1 + j) a b w' w.heap.size 0 0 ∧ Below w.heap.size w w' := by
  obtain ⟨g, hg⟩ : ∃ g, g = w.heap.size := ⟨_, rfl⟩
  have hC2 := Lib.hid hC
  have hC3 := Lib.hid hC'
  clear hC hC'
  obtain ⟨la1, hla1⟩ : ∃ n, n = a.length + 1 := ⟨_, rfl⟩
  obtain ⟨lb1, hlb1⟩ : ∃ n, n = b.length + 1 := ⟨_, rfl⟩
  have HLA := Lib.hid hla1
  have HLB := Lib.hid hlb1
  have hla4 : (a.length : Int) < la1 := by omega
  have hmk1 := make_rows64 a.length (by omega) w
  obtain ⟨W1, hW1⟩ : ∃ W1, W1 = w.alloc (.cells (List.replicate (a.length + 1) (Value.slice none 0 0)).toArray 130) := ⟨_, rfl⟩
  have hb1 : Below g w W1 := by rw [hW1, hg]; exact (Below.refl _ _).alloc (Nat.le_refl _) _
  have hM : TabM a b W1 g 0 := by
    refine ⟨by rw [hW1, hg]; simp, ?_, fun j h => by omega⟩
    rw [hW1, hg, blk_new]
    congr 3
    apply List.ext_getElem?
    intro i
    simp only [List.getElem?_map, List.getElem?_replicate]
    by_cases hi : i < a.length + 1
    · rw [List.getElem?_range hi, if_pos hi]; rfl
    · rw [List.getElem?_eq_none (by simpa using hi), if_neg hi]; rfl
  rw [← hW1, ← hg, ← hla1] at hmk1
  have HM := Lib.hid hM
  have HG := Lib.hid hg
  clear hW1 hg hM hla1 hlb1
  go_enter Tryz.func118, Tryz.ntmps118
  go_wp2
  clear hmk1
  go_loopw [6] (fun i wr => ∃ k : Nat, k ≤ a.length + 1 ∧ i = .int .i64 (k : Int) ∧ Hid (TabM a b wr g k) ∧ Below g w wr) (fun i _ => a.length + 1 - (intOf i).toNat)
  case atStart => exact ⟨0, Nat.zero_le _, rfl, HM, hb1⟩
  case round =>
    obtain ⟨k, hk, rfl, HMk, hB⟩ := hrel
    obtain ⟨wo, rfl⟩ : ∃ wo : World, wo = wr := ⟨_, rfl⟩
    by_cases hlt : k ≤ a.length
    · have hk0 : (0 : Int) ≤ (k : Int) := Int.natCast_nonneg _
      have hka : (k : Int) < (la1 : Int) := by have := HLA.out; omega
      obtain ⟨p, hp⟩ : ∃ p, p = g + 1 + k := ⟨_, rfl⟩
      have hmk3 := make_i64 b.length (by omega) wo
      obtain ⟨V1, hV1⟩ : ∃ V1, V1 = wo.alloc (.cells (ofK .i64 (List.replicate (b.length + 1) 0)) 3) := ⟨_, rfl⟩
      have HN := Lib.hid (HMk.out.next hlt)
      have hc1 : V1.cell? ⟨g, k, none⟩ = some (.slice none 0 0) := by rw [hV1]; exact cell_alloc (HMk.out.cell hlt) _
      have hf1 : V1.frozen? ⟨g, k, none⟩ = false := by rw [hV1]; exact blk_frozen (blk_alloc HMk.out.sl _) _
      have hB2 : Below g w V1 := by rw [hV1]; exact hB.alloc (by have := HMk.out.size; omega) _
      rw [← hV1, HMk.out.size, ← HLB.out, ← hp] at hmk3
      rw [← hV1, ← HLB.out, ← hp] at HN
      have HBN := Lib.hid (hB2.setCell (p := ⟨g, k, none⟩) (Nat.le_refl _) (.slice (some ⟨p, 0, none⟩) lb1 lb1))
      clear hV1 hp hB2 HMk hB
      go_wp2
      go_roundw
      case rel => exact ⟨k + 1, by omega, by go_num, HN, HBN.out⟩
      case measure => simp [intOf]; omega
    · have hke : k = a.length + 1 := by omega
      have HT := Lib.hid (TabM.done (by rw [← hke]; exact HMk.out))
      clear hke
      go_wp2
      go_loopw [7] (fun i wr => ∃ k : Nat, k ≤ a.length ∧ Hid (i = .int .i64 ((k : Int) - 1)) ∧ Hid (TabR a b wr g k 0) ∧ Below g w wr) (fun i _ => (intOf i + 1).toNat)
      case atStart => exact ⟨a.length, Nat.le_refl _, Lib.hid rfl, HT, hB⟩
      case round =>
        clear HT HMk hB HM hb1
        obtain ⟨k, hk2, HI, HTk, hB⟩ := hrel
        obtain ⟨wo, rfl⟩ : ∃ wo : World, wo = wr := ⟨_, rfl⟩
        cases k with
        | zero =>
          have hi0 := HI.out
          have hi1 : u7 = Value.int .i64 (-1) := hi0
          subst hi1
          clear HI hi0
          go_wp2
          go_ret
          rw [← HG.out, ← HLA.out]
          exact ⟨rfl, HTk.out.done, hB⟩
        | succ k =>
          have hi0 := HI.out
          have hi1 : u7 = Value.int .i64 (k : Int) := by rw [hi0]; congr 1; omega
          subst hi1
          clear HI hi0
          have hk0 : (0 : Int) ≤ (k : Int) := Int.natCast_nonneg _
          have hka : (k : Int) < (a.length : Int) := by omega
          have HT3 := Lib.hid HTk.out.next
          have HBS := Lib.hid hB
          clear HTk hB
          go_wp2
          go_loopw [8] (fun i wr => ∃ q : Nat, q ≤ b.length ∧ Hid (i = .int .i64 ((q : Int) - 1)) ∧ Hid (TabR a b wr g k q) ∧ Below g w wr) (fun i _ => (intOf i + 1).toNat)
          case atStart => exact ⟨b.length, Nat.le_refl _, Lib.hid rfl, HT3, HBS.out⟩
          case round =>
            clear HT3 HBS
            obtain ⟨q, hq, HI, HTq, hB⟩ := hrel
            obtain ⟨wi, rfl⟩ : ∃ wi : World, wi = wr := ⟨_, rfl⟩
            cases q with
            | zero =>
              have hi0 := HI.out
              have hi1 : u8 = Value.int .i64 (-1) := hi0
              subst hi1
              clear HI hi0
              go_wp2
              go_roundw
              case rel => exact ⟨k, by omega, Lib.hid rfl, HTq, hB⟩
              case measure => simp [intOf]
            | succ q =>
              have hi0 := HI.out
              have hi1 : u8 = Value.int .i64 (q : Int) := by rw [hi0]; congr 1; omega
              subst hi1
              clear HI hi0
              have hq0 : (0 : Int) ≤ (q : Int) := Int.natCast_nonneg _
              have hqb : (q : Int) < (b.length : Int) := by omega
              obtain ⟨x, hx⟩ : ∃ x, a[k]? = some x := ⟨a[k]'(by omega), List.getElem?_eq_getElem (by omega)⟩
              obtain ⟨y, hy⟩ : ∃ y, b[q]? = some y := ⟨b[q]'(by omega), List.getElem?_eq_getElem (by omega)⟩
              obtain ⟨ad, hA1, hab, p0⟩ := (hC2.out.below (hB.mono (by rw [HG.out]; exact hB0))) k x hx
              obtain ⟨ad', hA2, hab', q0⟩ := (hC3.out.below (hB.mono (by rw [HG.out]; exact hB0))) q y hy
              subst hA1 hA2
              have HX := Lib.hid hx
              have HY := Lib.hid hy
              have HBI := Lib.hid hB
              clear hx hy hab hab' hB
              have i1 : (k : Int) < (la1 : Int) := by have := HLA.out; omega
              have i2 : (k : Int) + 1 < (la1 : Int) := by have := HLA.out; omega
              have i3 : (q : Int) < (lb1 : Int) := by have := HLB.out; omega
              have i4 : (q : Int) + 1 < (lb1 : Int) := by have := HLB.out; omega
              by_cases hxy : x = y
              · subst hxy
                have hxy1 : ((x : Int) == (x : Int)) = true := by simp
                go_wp2_with fail
                go_quiet (fail)
                go_wp2_with fail
                refine wp_region_still_tail 16 (by kernel_rfl) (by kernel_rfl) ?_
                obtain ⟨W5, hW5⟩ : ∃ W5 : World, W5 = { (wi.drewN nq) with drawn := (wi.drewN nq).drawn + 1 } := ⟨_, rfl⟩
                have HT5 : Hid (TabR a b W5 g k (q + 1)) := by rw [hW5]; exact Lib.hid (HTq.out.moved (fun _ _ h => h))
                have HB5 : Hid (Below g w W5) := by rw [hW5]; exact Lib.hid ⟨HBI.out.os, HBI.out.tape, HBI.out.output, HBI.out.size, HBI.out.block⟩
                rw [← hW5]
                clear hW5 p0 q0 HTq HBI
                obtain ⟨p, hp⟩ : ∃ p, p = g + 1 + k := ⟨_, rfl⟩
                obtain ⟨p', hp'⟩ : ∃ p', p' = g + 1 + (k + 1) := ⟨_, rfl⟩
                have s1 := HT5.out.slot (j := k) (by omega)
                have s2 := HT5.out.slot (j := k + 1) (by omega)
                have s3 := HT5.out.far (j := k + 1) (k := q + 1) (by omega) (by omega) (by omega)
                obtain ⟨v0, s4⟩ := HT5.out.some_ (j := k) (k := q) (by omega) (by omega)
                have s5 := HT5.out.thaw (j := k) (by omega) q
                have hcm := cm_same HX.out HY.out
                have hle := cm_le a b (k + 1) (q + 1)
                have HN := Lib.hid (HT5.out.set_ (by omega) (by omega))
                obtain ⟨z, hz⟩ : ∃ z, z = cm a b (k + 1) (q + 1) := ⟨_, rfl⟩
                rw [← hp, ← HLB.out] at s1
                rw [← hp', ← HLB.out] at s2
                rw [← hp', ← hz] at s3
                rw [← hp] at s4 s5 HN
                rw [← hz] at hle hcm
                rw [hcm] at HN
                have i5 : (0 : Int) ≤ (k : Int) + 1 := by omega
                have i6 : (0 : Int) ≤ (q : Int) + 1 := by omega
                have i7 : ((k : Int) + 1).toNat = k + 1 := by omega
                have i8 : ((q : Int) + 1).toNat = q + 1 := by omega
                have w0 : IntKind.i64.wrap ((z : Int) + 1) = (z : Int) + 1 := IntWalk.i64_in _ (by omega)
                have w1 : IntKind.i64.wrap ((k : Int) + 1) = (k : Int) + 1 := IntWalk.i64_in _ (by omega)
                have w2 : IntKind.i64.wrap ((q : Int) + 1) = (q : Int) + 1 := IntWalk.i64_in _ (by omega)
                have HP := Lib.hid hp
                clear hcm hz hp' hp HX HY HT5
                simp only [List.take_succ_cons, List.take_zero, List.drop_succ_cons, List.drop_zero]
                repeat still_step
                refine wpStill_nil ?_
                have HBN := Lib.hid (HB5.out.setCell (p := ⟨p, q, none⟩) (show g ≤ p by have := HP.out; omega) (.int .i64 ((z : Int) + 1)))
                have HN2 : Hid (TabR a b (W5.setCell ⟨p, q, none⟩ (.int .i64 ((z : Int) + 1))) g k q) := by
                  have := HN.out
                  rwa [show ((z + 1 : Nat) : Int) = (z : Int) + 1 by omega] at this
                clear w0 w1 w2 i5 i6 i7 i8 HN
                go_wp2
                go_roundw
                case rel => exact ⟨q, by omega, Lib.hid rfl, HN2, HBN.out⟩
                case measure => simp [intOf]
              · have hxy1 : ((x : Int) == (y : Int)) = false := by rw [beq_eq_false_iff_ne]; omega
                have hxy2 : (x == y) = false := by rw [beq_eq_false_iff_ne]; exact hxy
                have HXY := Lib.hid hxy
                clear hxy
                go_wp2_with fail
                go_quiet (fail)
                go_wp2_with fail
                refine wp_region_still_tail 23 (by kernel_rfl) (by kernel_rfl) ?_
                obtain ⟨W5, hW5⟩ : ∃ W5 : World, W5 = { (wi.drewN nq) with drawn := (wi.drewN nq).drawn + 1 } := ⟨_, rfl⟩
                have HT5 : Hid (TabR a b W5 g k (q + 1)) := by rw [hW5]; exact Lib.hid (HTq.out.moved (fun _ _ h => h))
                have HB5 : Hid (Below g w W5) := by rw [hW5]; exact Lib.hid ⟨HBI.out.os, HBI.out.tape, HBI.out.output, HBI.out.size, HBI.out.block⟩
                rw [← hW5]
                clear hW5 p0 q0 HTq HBI
                obtain ⟨p, hp⟩ : ∃ p, p = g + 1 + k := ⟨_, rfl⟩
                obtain ⟨p', hp'⟩ : ∃ p', p' = g + 1 + (k + 1) := ⟨_, rfl⟩
                have s1 := HT5.out.slot (j := k) (by omega)
                have s2 := HT5.out.slot (j := k + 1) (by omega)
                have s3 := HT5.out.far (j := k + 1) (k := q) (by omega) (by omega) (by omega)
                have s6 := HT5.out.near (k := q + 1) (by omega) (by omega) (by omega)
                obtain ⟨v0, s4⟩ := HT5.out.some_ (j := k) (k := q) (by omega) (by omega)
                have s5 := HT5.out.thaw (j := k) (by omega) q
                have hcm := cm_other HX.out HY.out HXY.out
                have HN := Lib.hid (HT5.out.set_ (by omega) (by omega))
                obtain ⟨z, hz⟩ : ∃ z, z = cm a b (k + 1) q := ⟨_, rfl⟩
                obtain ⟨z2, hz2⟩ : ∃ z2, z2 = cm a b k (q + 1) := ⟨_, rfl⟩
                rw [← hp, ← HLB.out] at s1
                rw [← hp', ← HLB.out] at s2
                rw [← hp', ← hz] at s3
                rw [← hp, ← hz2] at s6
                rw [← hp] at s4 s5 HN
                rw [← hz, ← hz2] at hcm
                rw [hcm] at HN
                have i5 : (0 : Int) ≤ (k : Int) + 1 := by omega
                have i6 : (0 : Int) ≤ (q : Int) + 1 := by omega
                have i7 : ((k : Int) + 1).toNat = k + 1 := by omega
                have i8 : ((q : Int) + 1).toNat = q + 1 := by omega
                have w1 : IntKind.i64.wrap ((k : Int) + 1) = (k : Int) + 1 := IntWalk.i64_in _ (by omega)
                have w2 : IntKind.i64.wrap ((q : Int) + 1) = (q : Int) + 1 := IntWalk.i64_in _ (by omega)
                have HP := Lib.hid hp
                clear hcm hz hz2 hp' hp HX HY HT5
                simp only [List.take_succ_cons, List.take_zero, List.drop_succ_cons, List.drop_zero]
                repeat still_step
                refine wpStill_nil ?_
                have HBN := Lib.hid (HB5.out.setCell (p := ⟨p, q, none⟩) (show g ≤ p by have := HP.out; omega) (.int .i64 (max (z : Int) (z2 : Int))))
                have HN2 : Hid (TabR a b (W5.setCell ⟨p, q, none⟩ (.int .i64 (max (z : Int) (z2 : Int)))) g k q) := by
                  have := HN.out
                  rwa [show ((max z z2 : Nat) : Int) = max (z : Int) (z2 : Int) by omega] at this
                clear w1 w2 i5 i6 i7 i8 HN
                go_wp2
                go_roundw
                case rel => exact ⟨q, by omega, Lib.hid rfl, HN2, HBN.out⟩
                case measure => simp [intOf]

/-- A whole number of a row. -/
def kInt : Kd Int := Kd.int .i64
theorem outK_length {a b : List Nat} {pre : List Int} {i k : Nat} (h : ToldM a b pre i k) : (outK a pre i).length = a.length := by
  unfold outK; rw [List.length_append, h.len, List.length_replicate]; have := h.il; omega
theorem rep_snoc (k : Nat) : List.replicate k (-1 : Int) ++ [-1] = List.replicate (k + 1) (-1) := by rw [← List.replicate_succ']

set_option maxRecDepth 100000 in
set_option maxHeartbeats 8000000 in
theorem rmatch_short (a b : List Nat) (A A' : Option Addr) (c c' : Nat) (w : World) (hC : Lies w w.heap.size A a) (hC' : Lies w w.heap.size A' b) (hla : a.length ≤ 2000) (hlb : b.length ≤ 2000) :
    Calls Tryz.prog 96 #[.slice A a.length c, .slice A' b.length c'] w fun e w' => ∃ v, e = .returned v ∧ w'.ownsRow w.heap.size 3 1 v a.length (encs (Value.int .i64) (matchL a b)) ∧ Below w.heap.size w w' := by
  obtain ⟨g, hg⟩ : ∃ g, g = w.heap.size := ⟨_, rfl⟩
  have HC := Lib.hid hC
  have HC' := Lib.hid hC'
  rw [← hg] at HC HC'
  have HG := Lib.hid hg
  have HM := Lib.hid (show matchL a b = matchW a b 0 from by unfold matchL; rw [if_neg (by omega)])
  clear hC hC' hg
  have hga : decide ((2000 : Int) < (a.length : Int)) = false := by rw [decide_eq_false_iff_not]; omega
  have hgb : decide ((2000 : Int) < (b.length : Int)) = false := by rw [decide_eq_false_iff_not]; omega
  go_enter Tryz.func96, Tryz.ntmps96
  go_wp2
  go_loopw [5, 6] (fun v i wr => ∃ k : Nat, k ≤ a.length ∧ i = .int .i64 (k : Int) ∧ Hid (kInt.R 3 wr w.heap.size (fun _ => True) v (List.replicate k (-1))) ∧ Below w.heap.size w wr) (fun _ i _ => a.length - (intOf i).toNat)
  case atStart => exact ⟨0, Nat.zero_le _, rfl, Kd.R_nil _ _ _ _ _, Below.refl _ _⟩
  case round =>
    obtain ⟨k, hk, rfl, HR, hB⟩ := hrel
    have hsz := hB.size
    obtain ⟨wo, rfl⟩ : ∃ wo : World, wo = wr := ⟨_, rfl⟩
    by_cases hlt : k < a.length
    · have hk0 : (0 : Int) ≤ (k : Int) := Int.natCast_nonneg _
      go_wp2_with (at_builtin; go_loud (refine Kd.R_append kInt (w0 := w) w.heap.size rfl _ _ 130 3 _ 8 rfl Tryz.underlying130 infoInt rfl (by decide) (by decide) u5 (List.replicate k (-1)) (-1) _ (fun _ => True) (fun _ => False) rfl rfl ?k1 ?k2 ?k3 HR.out hB (by omega) (by rw [List.length_replicate]; omega) ?_))
      case k1 => exact rfl
      case k2 => exact fun _ h => h.elim
      case k3 => exact fun _ _ => trivial
      intro v1 w1 hR1 hb1 hg1 _
      rw [rep_snoc] at hR1
      have HR1 := Lib.hid hR1
      clear hR1 hg1
      go_wp2
      go_roundw
      case rel => exact ⟨k + 1, by omega, by go_num, HR1, hb1⟩
      case measure => simp [intOf]; omega
    · have hke : k = a.length := by omega
      have hown := Kd.own_of_R (enc := Value.int .i64) (h1 := fun _ => rfl) HR.out
      rw [List.length_replicate] at hown
      have hown2 : wo.ownsRow w.heap.size 3 1 u5 a.length (encs (Value.int .i64) (outK a [] 0)) := by
        unfold outK
        rw [← hke]
        simpa using hown
      have HO := Lib.hid hown2
      have HB := Lib.hid hB
      clear hke hown hown2 HR hB
      go_wp2_with fail
      refine (rtable_any a b A A' c c' _ g (HC.out.below (by rw [HG.out]; exact HB.out)) (HC'.out.below (by rw [HG.out]; exact HB.out)) hla hlb (by rw [HG.out]; exact hsz)).mono ?_
      rintro e W2 ⟨rfl, ht, hb2⟩
      obtain ⟨g2, hg2⟩ : ∃ g2, g2 = wo.heap.size := ⟨_, rfl⟩
      have HO2 : Hid (W2.ownsRow w.heap.size 3 1 u5 a.length (encs (Value.int .i64) (outK a [] 0))) := Lib.hid (pw_own_below HO.out hb2)
      have HNE : Hid (∀ q, u5.ownBlock = some q → q < g2) := Lib.hid (fun q hq => by rw [hg2]; exact own_lt HO.out q hq)
      have HB2 := Lib.hid (HB.out.trans (hb2.mono hsz))
      rw [← hg2] at ht ⊢
      have HT := Lib.hid ht
      have HG2 := Lib.hid (show w.heap.size ≤ g2 by omega)
      clear hg2 ht hb2 HO HB hga hgb hsz
      obtain ⟨la1, hla1⟩ : ∃ n, n = a.length + 1 := ⟨_, rfl⟩
      rw [← hla1]
      have HLA := Lib.hid hla1
      clear hla1
      go_wp2
      go_loopw [10, 11] (fun u v wr => ∃ (i k : Nat) (pre : List Int), u = .int .i64 i ∧ v = .int .i64 k ∧ Hid (ToldM a b pre i k) ∧ Hid (wr.ownsRow w.heap.size 3 1 u5 a.length (encs (Value.int .i64) (outK a pre i))) ∧ Hid (TabP .i64 3 130 (fun j => g2 + 1 + j) a b wr g2 0 0) ∧ Hid (Below w.heap.size w wr)) (fun u v _ => a.length - (intOf u).toNat + (b.length - (intOf v).toNat))
      case atStart => exact ⟨0, 0, [], rfl, rfl, Lib.hid (ToldM.start a b), HO2, HT, HB2⟩
      case round =>
        clear HO2 HT HB2
        obtain ⟨i, k, pre, rfl, rfl, HTo, HR, HTa, HBw⟩ := hrel
        obtain ⟨wo, rfl⟩ : ∃ wo : World, wo = wr := ⟨_, rfl⟩
        have hi0 : (0 : Int) ≤ (i : Int) := Int.natCast_nonneg _
        have hk0 : (0 : Int) ≤ (k : Int) := Int.natCast_nonneg _
        have hil := HTo.out.il
        have hkl := HTo.out.kl
        by_cases hlt : i < a.length ∧ k < b.length
        · obtain ⟨hi, hk⟩ := hlt
          obtain ⟨x, hx⟩ : ∃ x, a[i]? = some x := ⟨a[i]'(by omega), List.getElem?_eq_getElem (by omega)⟩
          obtain ⟨y, hy⟩ : ∃ y, b[k]? = some y := ⟨b[k]'(by omega), List.getElem?_eq_getElem (by omega)⟩
          obtain ⟨ad, hA1, hab, p0⟩ := (HC.out.below (by rw [HG.out]; exact HBw.out)) i x hx
          obtain ⟨ad', hA2, hab', q0⟩ := (HC'.out.below (by rw [HG.out]; exact HBw.out)) k y hy
          subst hA1 hA2
          have HX := Lib.hid hx
          have HY := Lib.hid hy
          clear hx hy hab hab'
          by_cases hxy : x = y
          · subst hxy
            have hxy1 : ((x : Int) == (x : Int)) = true := by simp
            obtain ⟨gr, cr, hform, hgr, _⟩ := HR.out.form (by omega)
            subst hform
            go_wp2_with fail
            go_quiet (fail)
            obtain ⟨W5, hW5⟩ : ∃ W5 : World, W5 = wo.drewN nq := ⟨_, rfl⟩
            have HR5 : Hid (W5.ownsRow w.heap.size 3 1 (.slice (some ⟨gr, 0, none⟩) a.length cr) a.length (encs (Value.int .i64) (outK a pre i))) := by rw [hW5]; exact Lib.hid (pw_own_below HR.out (pw_below_drewN (Below.refl _ _) _))
            have HT5 : Hid (TabP .i64 3 130 (fun j => g2 + 1 + j) a b W5 g2 0 0) := by rw [hW5]; exact Lib.hid (HTa.out.moved (fun _ _ h => h))
            have HB5 : Hid (Below w.heap.size w W5) := by rw [hW5]; exact Lib.hid (pw_below_drewN HBw.out _)
            rw [← hW5]
            clear hW5 p0 q0 HR HTa HBw
            obtain ⟨hc, hf⟩ := own_at_of (d := (0 : Int)) HR5.out (i : Int) hi0 (by omega)
            obtain ⟨hst, _⟩ := own_store_of HR5.out (i : Int) (k : Int)
            rw [Int.toNat_natCast] at hc hf hst
            rw [outK_set HTo.out hi] at hst
            have HRN := Lib.hid hst
            have hgr2 : gr < g2 := HNE.out gr rfl
            have HTN : Hid (TabP .i64 3 130 (fun j => g2 + 1 + j) a b (W5.setCell ⟨gr, i, none⟩ (.int .i64 (k : Int))) g2 0 0) := by
              refine Lib.hid ⟨blk_far HT5.out.sl (show g2 ≠ gr by omega) _, fun j h1 h2 => blk_far (HT5.out.row j h1 h2) (show _ ≠ gr by omega) _, fun h2 => blk_far (HT5.out.cur h2) (show _ ≠ gr by omega) _⟩
            have HBN := Lib.hid (HB5.out.setCell (p := ⟨gr, i, none⟩) hgr (.int .i64 (k : Int)))
            have HTN2 := Lib.hid (HTo.out.hit HX.out HY.out)
            clear hst hgr hgr2
            go_wp2
            go_roundw
            case rel => exact ⟨i + 1, k + 1, _, by go_num, by go_num, HTN2, HRN, HTN, HBN⟩
            case measure => simp [intOf]; omega
          · have hxy1 : ((x : Int) == (y : Int)) = false := by rw [beq_eq_false_iff_ne]; omega
            have hxy2 : (x == y) = false := by rw [beq_eq_false_iff_ne]; exact hxy
            have HXY := Lib.hid hxy
            clear hxy
            obtain ⟨p1, hp1⟩ : ∃ p, p = g2 + 1 + i := ⟨_, rfl⟩
            obtain ⟨p2, hp2⟩ : ∃ p, p = g2 + 1 + (i + 1) := ⟨_, rfl⟩
            have s1 := HTa.out.slot (j := i) (Nat.zero_le _) (by omega)
            have s2 := HTa.out.slot (j := i + 1) (Nat.zero_le _) (by omega)
            have s3 := HTa.out.whole (j := i + 1) (k := k) (by omega) (by omega)
            have s4 := HTa.out.whole (j := i) (k := k + 1) (by omega) (by omega)
            obtain ⟨lb1, hlb1⟩ : ∃ n, n = b.length + 1 := ⟨_, rfl⟩
            obtain ⟨z, hz⟩ : ∃ z, z = cm a b (i + 1) k := ⟨_, rfl⟩
            obtain ⟨z2, hz2⟩ : ∃ z2, z2 = cm a b i (k + 1) := ⟨_, rfl⟩
            simp only [← hp1, ← hp2, ← hlb1, ← hz, ← hz2] at s1 s2 s3 s4
            have i1 : (i : Int) < (la1 : Int) := by have := HLA.out; omega
            have i2 : (i : Int) + 1 < (la1 : Int) := by have := HLA.out; omega
            have i3 : (k : Int) < (lb1 : Int) := by omega
            have i4 : (k : Int) + 1 < (lb1 : Int) := by omega
            have i5 : (0 : Int) ≤ (i : Int) + 1 := by omega
            have i6 : (0 : Int) ≤ (k : Int) + 1 := by omega
            have i7 : ((i : Int) + 1).toNat = i + 1 := by omega
            have i8 : ((k : Int) + 1).toNat = k + 1 := by omega
            have HZ := Lib.hid hz
            have HZ2 := Lib.hid hz2
            clear hp1 hp2 hz hz2 hlb1
            have w1 : IntKind.i64.wrap ((i : Int) + 1) = (i : Int) + 1 := IntWalk.i64_in _ (by omega)
            have w2 : IntKind.i64.wrap ((k : Int) + 1) = (k : Int) + 1 := IntWalk.i64_in _ (by omega)
            by_cases hzz : z2 ≤ z
            · have hd1 : decide ((z : Int) ≥ (z2 : Int)) = true := by rw [decide_eq_true_eq]; omega
              have HTN2 := Lib.hid (HTo.out.skip HX.out HY.out HXY.out (by rw [← HZ.out, ← HZ2.out]; exact hzz))
              go_wp2_with fail
              go_quiet (fail)
              go_wp2_with fail
              go_quiet (fail)
              clear w1 w2 i5 i6 i7 i8
              go_wp2
              go_roundw
              case rel => exact ⟨i + 1, k, _, by go_num, rfl, HTN2, by rw [← outK_skip HTo.out hi]; exact Lib.hid (pw_own_below HR.out (pw_below_drewN (Below.refl _ _) _)), Lib.hid (HTa.out.moved (fun _ _ h => h)), Lib.hid (pw_below_drewN HBw.out _)⟩
              case measure => simp [intOf]; omega
            · have hd1 : decide ((z : Int) ≥ (z2 : Int)) = false := by rw [decide_eq_false_iff_not]; omega
              have hzz2 : z < z2 := by omega
              have HTN2 := Lib.hid (HTo.out.over HX.out HY.out HXY.out (by rw [← HZ.out, ← HZ2.out]; exact hzz))
              clear hzz
              go_wp2_with fail
              go_quiet (fail)
              go_wp2_with fail
              go_quiet (fail)
              clear w1 w2 i5 i6 i7 i8
              go_wp2
              go_roundw
              case rel => exact ⟨i, k + 1, _, rfl, by go_num, HTN2, Lib.hid (pw_own_below HR.out (pw_below_drewN (Below.refl _ _) _)), Lib.hid (HTa.out.moved (fun _ _ h => h)), Lib.hid (pw_below_drewN HBw.out _)⟩
              case measure => simp [intOf]; omega
        · have HE := Lib.hid (HTo.out.stop (by omega))
          have HRE : Hid (wo.ownsRow w.heap.size 3 1 u5 a.length (encs (Value.int .i64) (matchL a b))) := by rw [HM.out, ← HE.out]; exact HR
          by_cases hi : i < a.length
          · obtain rfl : k = b.length := by omega
            go_wp2
            go_ret
            exact ⟨_, rfl, HRE.out, HBw.out⟩
          · obtain rfl : i = a.length := by omega
            go_wp2
            go_ret
            exact ⟨_, rfl, HRE.out, HBw.out⟩

end Go.Proofs.YtogfkfkejaiecaaGreatDoor.Rf

namespace Go.Proofs.YtogfkfkejaiecaaGreatDoor.Eh
open Go.RowKit Go.Shelf Go.Proofs.YtogfkfkejaiecaaGreatDoor.Pl Go.Proofs.YtogfkfkejaiecaaGreatDoor.Ut Go.Proofs.YtogfkfkejaiecaaGreatDoor.Ln Go.Proofs.YtogfkfkejaiecaaGreatDoor.Da Go.Proofs.YtogfkfkejaiecaaGreatDoor.Db Go.Proofs.YtogfkfkejaiecaaGreatDoor.Dc Go.Proofs.YtogfkfkejaiecaaGreatDoor.Dd Go.Proofs.YtogfkfkejaiecaaGreatDoor.De Go.Proofs.YtogfkfkejaiecaaGreatDoor.Dg Go.Proofs.YtogfkfkejaiecaaGreatDoor.Dk Go.Proofs.YtogfkfkejaiecaaGreatDoor.Dl Go.Proofs.YtogfkfkejaiecaaGreatDoor.Dm Go.Proofs.YtogfkfkejaiecaaGreatDoor.Rf Go.Proofs.YtogfkfkejaiecaaGreatDoor.Eo Go.Proofs.YtogfkfkejaiecaaGreatDoorW.PrintWords
set_option linter.unusedVariables false
set_option linter.unusedSimpArgs false

/-- A row of whole numbers that lies below what is written. -/
def LiesI (w : World) (B0 : Nat) (A : Option Addr) (xs : List Int) : Prop := ∀ (k : Nat) (x : Int), xs[k]? = some x → ∃ g, A = some ⟨g, 0, none⟩ ∧ g < B0 ∧ w.cell? ⟨g, k, none⟩ = some (.int .i64 x)
theorem LiesI.below {w w' : World} {B0 : Nat} {A : Option Addr} {xs : List Int} (h : LiesI w B0 A xs) (hb : Below B0 w w') : LiesI w' B0 A xs := fun k x hx => by
  obtain ⟨g, h1, h2, h3⟩ := h k x hx
  exact ⟨g, h1, h2, (hb.cell (p := ⟨g, k, none⟩) h2).trans h3⟩
theorem LiesI.up {w : World} {B0 B1 : Nat} {A : Option Addr} {xs : List Int} (h : LiesI w B0 A xs) (hb : B0 ≤ B1) : LiesI w B1 A xs := fun k x hx => by
  obtain ⟨g, h1, h2, h3⟩ := h k x hx
  exact ⟨g, h1, Nat.lt_of_lt_of_le h2 hb, h3⟩
theorem liesI_of {w : World} {B v n} {xs : List Int} (h : w.ownsRow B 3 1 v n (encs (Value.int .i64) xs)) : ∃ A c, v = .slice A n c ∧ LiesI w w.heap.size A xs := by
  have hl : xs.length = n := by have := h.1; simp [encs] at this; exact this
  rcases Nat.eq_zero_or_pos n with h0 | h0
  · obtain ⟨A, c, e⟩ := own_slice h
    exact ⟨A, c, e, fun k x hx => by have := (List.getElem?_eq_some_iff.1 hx).1; omega⟩
  · obtain ⟨gr, cr, rfl, hgr, _⟩ := h.form h0
    exact ⟨_, _, rfl, fun k x hx => ⟨gr, rfl, own_lt h gr rfl, by rw [← add_plain]; exact h.cells (g := gr) rfl k _ (by simp [encs, hx])⟩⟩

/-- Does the walk for the next thing that both sides have go on? -/
def onN (ma mb : List Int) (i : Nat) : Bool := match ma[i]?, mb[i]? with
  | some x, some y => decide (x < 0 ∨ y < 0)
  | _, _ => false
theorem onN_true {ma mb : List Int} {i : Nat} (h : onN ma mb i = true) : ∃ x y, ma[i]? = some x ∧ mb[i]? = some y ∧ (x < 0 ∨ y < 0) := by
  unfold onN at h
  split at h
  · rename_i x y hx hy
    exact ⟨x, y, hx, hy, of_decide_eq_true h⟩
  · cases h
theorem onN_false {ma mb : List Int} {i : Nat} {x y : Int} (h : onN ma mb i = false) (hx : ma[i]? = some x) (hy : mb[i]? = some y) : 0 ≤ x ∧ 0 ≤ y := by
  unfold onN at h
  rw [hx, hy] at h
  have := of_decide_eq_false h
  omega

set_option maxRecDepth 100000 in
set_option maxHeartbeats 8000000 in
theorem rchunks_any (o a b : List Nat) (A1 A2 A3 : Option Addr) (c1 c2 c3 : Nat) (w : World) (ho : LiesA w w.heap.size A1 o) (ha : LiesA w w.heap.size A2 a) (hb : LiesA w w.heap.size A3 b)
    (hc1 : o.length ≤ c1) (hc2 : a.length ≤ c2) (hc3 : b.length ≤ c3) (lo : o.length ≤ 2000) (la : a.length ≤ 2000) (lb : b.length ≤ 2000) :
    Calls Tryz.prog 76 #[.slice A1 o.length c1, .slice A2 a.length c2, .slice A3 b.length c3] w fun e w' => ∃ v, e = .returned v ∧ kCk.R 99 w' w.heap.size (fun _ => True) v (chunksL o a b) ∧ Below w.heap.size w w' := by
  have HO := Lib.hid ho
  have HA := Lib.hid ha
  have HBb := Lib.hid hb
  clear ho ha hb
  go_enter Tryz.func76, Tryz.ntmps76
  go_wp2_with fail
  refine (rmatch_short o a A1 A2 c1 c2 w HO.out.lies HA.out.lies lo la).mono ?_
  rintro e w1 ⟨v1, rfl, hr1, hb1⟩
  obtain ⟨AM, cm1, rfl, hm1⟩ := liesI_of hr1
  have HM1 := Lib.hid hm1
  have HB1 := Lib.hid hb1
  clear hr1 hm1 hb1
  go_wp2_with fail
  refine (rmatch_short o b A1 A3 c1 c3 w1 ((HO.out.below HB1.out).up HB1.out.size).lies ((HBb.out.below HB1.out).up HB1.out.size).lies lo lb).mono ?_
  rintro e w2 ⟨v2, rfl, hr2, hb2⟩
  obtain ⟨AN, cm2, rfl, hm2⟩ := liesI_of hr2
  have HM2 := Lib.hid ((HM1.out.below hb2).up hb2.size)
  have HN2 := Lib.hid hm2
  have HB2 := Lib.hid (HB1.out.trans (hb2.mono HB1.out.size))
  clear hr2 hm2 hb2 HM1 HB1
  have HO2 := Lib.hid ((HO.out.below HB2.out).up HB2.out.size)
  have HA2 := Lib.hid ((HA.out.below HB2.out).up HB2.out.size)
  have HBb2 := Lib.hid ((HBb.out.below HB2.out).up HB2.out.size)
  clear HO HA HBb
  obtain ⟨ma, hma⟩ : ∃ m, m = matchL o a := ⟨_, rfl⟩
  obtain ⟨mb, hmb⟩ : ∃ m, m = matchL o b := ⟨_, rfl⟩
  rw [← hma] at HM2
  rw [← hmb] at HN2
  have HLM : Hid (ma.length = o.length) := Lib.hid (by rw [hma]; exact (matchL_rising o a).2)
  have HLN : Hid (mb.length = o.length) := Lib.hid (by rw [hmb]; exact (matchL_rising o b).2)
  have HEM := Lib.hid hma
  have HEN := Lib.hid hmb
  clear hma hmb
  go_wp2
  go_loopw [9, 10, 11, 12] (fun v p q s wr => ∃ (P Q S f : Nat) (pre : List Ck), p = .int .i64 (P : Int) ∧ q = .int .i64 (Q : Int) ∧ s = .int .i64 (S : Int) ∧ Hid (AtC o a b P Q S) ∧ Hid (o.length + a.length + b.length ≤ P + Q + S + f) ∧ Hid (chunksL o a b = pre ++ chunkGo o a b f P Q S) ∧ Hid (pre.length ≤ P + Q + S) ∧
    Hid (kCk.R 99 wr w2.heap.size (fun _ => True) v pre) ∧ Hid (Below w2.heap.size w2 wr)) (fun _ p q s _ => o.length + a.length + b.length - (intOf p).toNat - (intOf q).toNat - (intOf s).toNat)
  case atStart => exact ⟨0, 0, 0, o.length + a.length + b.length, [], rfl, rfl, rfl, Lib.hid (AtC.start o a b), Lib.hid (by omega), Lib.hid rfl, Lib.hid (by simp), Lib.hid (Kd.R_nil _ _ _ _ _), Lib.hid (Below.refl _ _)⟩
  case round =>
    obtain ⟨P, Q, S, f, pre, rfl, rfl, rfl, HAt, HF, HCh, HPL, HR, HB⟩ := hrel
    obtain ⟨wo, rfl⟩ : ∃ wo : World, wo = wr := ⟨_, rfl⟩
    have hP := HAt.out.po
    have hQ := HAt.out.qa
    have hS := HAt.out.sb
    obtain ⟨bb, hbb⟩ : ∃ bb : Bool, bb = decide (¬ (P = o.length ∧ Q = a.length ∧ S = b.length)) := ⟨_, rfl⟩
    have HBO := Lib.hid hbb
    clear hbb
    go_upto_region 7 with fail
    go_cut [38] from 23 to 38 (fun c wc => c = .bool bb ∧ wc = wo)
    case first =>
      by_cases h1 : P < o.length
      · have d1 : decide ((P : Int) < (o.length : Int)) = true := by rw [decide_eq_true_eq]; omega
        have i1 : (P : Int) < (o.length : Int) := by omega
        obtain rfl : bb = true := by rw [HBO.out, decide_eq_true_eq]; omega
        go_wp2
        go_meet
        exact ⟨rfl, rfl⟩
      · have d1 : decide ((P : Int) < (o.length : Int)) = false := by rw [decide_eq_false_iff_not]; omega
        by_cases h2 : Q < a.length
        · have d2 : decide ((Q : Int) < (a.length : Int)) = true := by rw [decide_eq_true_eq]; omega
          obtain rfl : bb = true := by rw [HBO.out, decide_eq_true_eq]; omega
          go_wp2
          go_meet
          exact ⟨rfl, rfl⟩
        · have d2 : decide ((Q : Int) < (a.length : Int)) = false := by rw [decide_eq_false_iff_not]; omega
          by_cases h3 : S < b.length
          · have d3 : decide ((S : Int) < (b.length : Int)) = true := by rw [decide_eq_true_eq]; omega
            obtain rfl : bb = true := by rw [HBO.out, decide_eq_true_eq]; omega
            go_wp2
            go_meet
            exact ⟨rfl, rfl⟩
          · have d3 : decide ((S : Int) < (b.length : Int)) = false := by rw [decide_eq_false_iff_not]; omega
            obtain rfl : bb = false := by rw [HBO.out, decide_eq_false_iff_not]; omega
            go_wp2
            go_meet
            exact ⟨rfl, rfl⟩
    case rest =>
      obtain ⟨rfl, rfl⟩ := hcut
      cases bb with
      | false =>
        have hend := of_decide_eq_false HBO.out.symm
        have HFin : Hid (chunksL o a b = pre) := Lib.hid (by
          rw [HCh.out]
          cases f with
          | zero => simp [chunkGo]
          | succ f => unfold chunkGo; rw [if_pos (by omega)]; simp)
        go_wp2
        go_ret
        refine ⟨_, rfl, ?_, HB2.out.trans (HB.out.mono HB2.out.size)⟩
        rw [HFin.out]
        exact Kd.R_lower HR.out HB2.out.size
      | true =>
        have hend := of_decide_eq_true HBO.out.symm
        clear HBO
        have HEND := Lib.hid hend
        clear hend
        go_wp2
        go_loopw [13] (fun v wr => ∃ n : Nat, v = .int .i64 (n : Int) ∧ P + n ≤ o.length ∧ Hid (stabN (ma.drop P) (mb.drop P) Q S = n + stabN (ma.drop (P + n)) (mb.drop (P + n)) (Q + n) (S + n)) ∧ wr = wc) (fun v _ => o.length - P - (intOf v).toNat)
        case atStart => exact ⟨0, rfl, by omega, Lib.hid (by simp), rfl⟩
        case round =>
          obtain ⟨n, rfl, hn, HS, rfl⟩ := hrel
          obtain ⟨pn, hpn⟩ : ∃ x, x = P + n := ⟨_, rfl⟩
          obtain ⟨qn, hqn⟩ : ∃ x, x = Q + n := ⟨_, rfl⟩
          obtain ⟨sn, hsn⟩ : ∃ x, x = S + n := ⟨_, rfl⟩
          have c0 : IntKind.i64.wrap ((P : Int) + (n : Int)) = (pn : Int) := by rw [IntWalk.i64_in _ (by omega)]; omega
          have c1' : IntKind.i64.wrap ((Q : Int) + (n : Int)) = (qn : Int) := by rw [IntWalk.i64_in _ (by omega)]; omega
          have c2' : IntKind.i64.wrap ((S : Int) + (n : Int)) = (sn : Int) := by rw [IntWalk.i64_in _ (by omega)]; omega
          have c3' : IntKind.i64.wrap ((n : Int) + 1) = ((n + 1 : Nat) : Int) := by rw [IntWalk.i64_in _ (by omega)]; omega
          have HPN := Lib.hid (And.intro hpn (And.intro hqn hsn))
          rw [← hpn, ← hqn, ← hsn] at HS
          rw [← hpn] at hn
          have HPNn := Lib.hid hn
          clear hpn hqn hsn hn hP hQ hS
          obtain ⟨bb, hbb⟩ : ∃ bb : Bool, bb = decide (ma[pn]? = some (qn : Int) ∧ mb[pn]? = some (sn : Int)) := ⟨_, rfl⟩
          have HBO := Lib.hid hbb
          clear hbb
          go_upto_region 9 with fail
          go_cut [68] from 39 to 68 (fun c wc => c = .bool bb ∧ wc = wr)
          case first =>
            by_cases h1 : pn < o.length
            · have d1 : decide ((pn : Int) < (o.length : Int)) = true := by rw [decide_eq_true_eq]; omega
              have i1 : (pn : Int) < (o.length : Int) := by omega
              obtain ⟨x, hx⟩ : ∃ x, ma[pn]? = some x := ⟨_, List.getElem?_eq_getElem (by rw [HLM.out]; exact h1)⟩
              obtain ⟨y, hy⟩ : ∃ y, mb[pn]? = some y := ⟨_, List.getElem?_eq_getElem (by rw [HLN.out]; exact h1)⟩
              obtain ⟨g1, rfl, _, e1⟩ := (HM2.out.below HB.out) pn x hx
              obtain ⟨g2, rfl, _, e2⟩ := (HN2.out.below HB.out) pn y hy
              rw [hx, hy] at HBO
              clear hx hy
              by_cases h2 : x = (qn : Int)
              · have d2 : (x == (qn : Int)) = true := by rw [beq_iff_eq]; exact h2
                by_cases h3 : y = (sn : Int)
                · have d3 : (y == (sn : Int)) = true := by rw [beq_iff_eq]; exact h3
                  obtain rfl : bb = true := by rw [HBO.out, decide_eq_true_eq]; exact ⟨congrArg some h2, congrArg some h3⟩
                  clear h2 h3
                  go_wp2
                  go_meet
                  exact ⟨rfl, rfl⟩
                · have d3 : (y == (sn : Int)) = false := by rw [beq_eq_false_iff_ne]; exact h3
                  obtain rfl : bb = false := by rw [HBO.out, decide_eq_false_iff_not]; exact fun h => h3 (Option.some.inj h.2)
                  clear h2 h3
                  go_wp2
                  go_meet
                  exact ⟨rfl, rfl⟩
              · have d2 : (x == (qn : Int)) = false := by rw [beq_eq_false_iff_ne]; exact h2
                obtain rfl : bb = false := by rw [HBO.out, decide_eq_false_iff_not]; exact fun h => h2 (Option.some.inj h.1)
                clear h2
                go_wp2
                go_meet
                exact ⟨rfl, rfl⟩
            · have d1 : decide ((pn : Int) < (o.length : Int)) = false := by rw [decide_eq_false_iff_not]; omega
              obtain rfl : bb = false := by
                rw [HBO.out, decide_eq_false_iff_not]
                rintro ⟨h, _⟩
                have := (List.getElem?_eq_some_iff.1 h).1
                rw [HLM.out] at this
                exact h1 this
              go_wp2
              go_meet
              exact ⟨rfl, rfl⟩
          case rest =>
            obtain ⟨rfl, rfl⟩ := hcut
            cases bb with
            | true =>
              have HC := Lib.hid (of_decide_eq_true HBO.out.symm)
              clear HBO
              go_wp2
              go_roundw
              case rel =>
                have hlt : pn < o.length := by have := (List.getElem?_eq_some_iff.1 HC.out.1).1; rw [HLM.out] at this; exact this
                obtain ⟨h1, h2, h3⟩ := HPN.out
                refine ⟨n + 1, rfl, by omega, Lib.hid ?_, trivial⟩
                rw [HS.out, stab_on HC.out.1 HC.out.2, h1, h2, h3]
                simp only [Nat.add_assoc]
                omega
              · have hlt : pn < o.length := by have := (List.getElem?_eq_some_iff.1 HC.out.1).1; rw [HLM.out] at this; exact this
                have := HPN.out.1
                simp only [intOf]; omega
            | false =>
              have HC := Lib.hid (of_decide_eq_false HBO.out.symm)
              clear HBO
              have HN : Hid (stabN (ma.drop P) (mb.drop P) Q S = n) := Lib.hid (by
                rw [HS.out]
                by_cases h : pn < o.length
                · obtain ⟨x, hx⟩ : ∃ x, ma[pn]? = some x := ⟨_, List.getElem?_eq_getElem (by rw [HLM.out]; exact h)⟩
                  obtain ⟨y, hy⟩ : ∃ y, mb[pn]? = some y := ⟨_, List.getElem?_eq_getElem (by rw [HLN.out]; exact h)⟩
                  have hc := HC.out
                  rw [hx, hy] at hc
                  rw [stab_off hx hy (fun h => hc ⟨congrArg some h.1, congrArg some h.2⟩), Nat.add_zero]
                · rw [stab_end (by rw [HLM.out]; exact h), Nat.add_zero])
              clear HC HS
              obtain ⟨t1, t2, t3, ht⟩ : ∃ t1 t2 t3, (t1, t2, t3) = stepC ma mb o.length a.length b.length P Q S := ⟨_, _, _, rfl⟩
              have HT := Lib.hid ht
              clear ht
              go_upto_if 81 with fail
              obtain ⟨bz, hbz⟩ : ∃ bz : Bool, bz = ((n : Int) == 0) := ⟨_, rfl⟩
              rw [← hbz]
              have HBZ := Lib.hid hbz
              clear hbz
              go_cut [14, 15, 16] from 80 to 117 (fun x y z wd => x = .int .i64 (t1 : Int) ∧ y = .int .i64 (t2 : Int) ∧ z = .int .i64 (t3 : Int) ∧ wd = wc)
              case first =>
                cases bz with
                | true =>
                  have hn0 : n = 0 := by have := HBZ.out; rw [eq_comm, beq_iff_eq] at this; omega
                  clear HBZ
                  obtain ⟨e1, e2, e3⟩ := HPN.out
                  obtain rfl : pn = P := by omega
                  obtain rfl : qn = Q := by omega
                  obtain rfl : sn = S := by omega
                  clear e1 e2 e3
                  have HT2 : Hid ((∀ pe x y, nextN (ma.drop pn) (mb.drop pn) pn = some (pe, x, y) → t1 = pe ∧ t2 = x.toNat ∧ t3 = y.toNat) ∧ (nextN (ma.drop pn) (mb.drop pn) pn = none → t1 = o.length ∧ t2 = a.length ∧ t3 = b.length)) := Lib.hid ⟨fun pe x y h => by
                    have := HT.out
                    unfold stepC at this
                    rw [HN.out, if_neg (by omega), h] at this
                    exact ⟨(Prod.mk.inj this).1, Prod.mk.inj (Prod.mk.inj this).2⟩, fun h => by
                    have := HT.out
                    unfold stepC at this
                    rw [HN.out, if_neg (by omega), h] at this
                    exact ⟨(Prod.mk.inj this).1, Prod.mk.inj (Prod.mk.inj this).2⟩⟩
                  clear hn0 HT HN c0 c1' c2' c3' HPN
                  go_wp2
                  go_loopw [14] (fun v wr => ∃ i : Nat, v = .int .i64 (i : Int) ∧ i ≤ o.length ∧ Hid (nextN (ma.drop pn) (mb.drop pn) pn = nextN (ma.drop i) (mb.drop i) i) ∧ wr = wc) (fun v _ => o.length - (intOf v).toNat)
                  case atStart => exact ⟨pn, rfl, HPNn.out, Lib.hid rfl, rfl⟩
                  case round =>
                    obtain ⟨i, rfl, hi, HNX, rfl⟩ := hrel
                    have cadd : IntKind.i64.wrap ((i : Int) + 1) = ((i + 1 : Nat) : Int) := by rw [IntWalk.i64_in _ (by omega)]; omega
                    obtain ⟨bb, hbb⟩ : ∃ bb : Bool, bb = onN ma mb i := ⟨_, rfl⟩
                    have HBO := Lib.hid hbb
                    clear hbb
                    go_upto_region 15 with fail
                    go_cut [99] from 82 to 99 (fun c wc => c = .bool bb ∧ wc = wr)
                    case first =>
                      by_cases h1 : i < o.length
                      · have d1 : decide ((i : Int) < (o.length : Int)) = true := by rw [decide_eq_true_eq]; omega
                        have i1 : (i : Int) < (o.length : Int) := by omega
                        obtain ⟨x, hx⟩ : ∃ x, ma[i]? = some x := ⟨_, List.getElem?_eq_getElem (by rw [HLM.out]; exact h1)⟩
                        obtain ⟨y, hy⟩ : ∃ y, mb[i]? = some y := ⟨_, List.getElem?_eq_getElem (by rw [HLN.out]; exact h1)⟩
                        obtain ⟨g1, rfl, _, e1⟩ := (HM2.out.below HB.out) i x hx
                        obtain ⟨g2, rfl, _, e2⟩ := (HN2.out.below HB.out) i y hy
                        have HBO2 : Hid (bb = decide (x < 0 ∨ y < 0)) := Lib.hid (by rw [HBO.out]; unfold onN; rw [hx, hy])
                        clear hx hy HBO
                        by_cases h2 : x < 0
                        · have d2 : decide (x < (0 : Int)) = true := by rw [decide_eq_true_eq]; exact h2
                          obtain rfl : bb = true := by rw [HBO2.out, decide_eq_true_eq]; exact .inl h2
                          go_wp2
                          go_meet
                          exact ⟨rfl, rfl⟩
                        · have d2 : decide (x < (0 : Int)) = false := by rw [decide_eq_false_iff_not]; exact h2
                          by_cases h3 : y < 0
                          · have d3 : decide (y < (0 : Int)) = true := by rw [decide_eq_true_eq]; exact h3
                            obtain rfl : bb = true := by rw [HBO2.out, decide_eq_true_eq]; exact .inr h3
                            go_wp2
                            go_meet
                            exact ⟨rfl, rfl⟩
                          · have d3 : decide (y < (0 : Int)) = false := by rw [decide_eq_false_iff_not]; exact h3
                            obtain rfl : bb = false := by rw [HBO2.out, decide_eq_false_iff_not]; omega
                            go_wp2
                            go_meet
                            exact ⟨rfl, rfl⟩
                      · have d1 : decide ((i : Int) < (o.length : Int)) = false := by rw [decide_eq_false_iff_not]; omega
                        obtain rfl : bb = false := by
                          rw [HBO.out]; unfold onN
                          rw [List.getElem?_eq_none (by rw [HLM.out]; omega)]
                        go_wp2
                        go_meet
                        exact ⟨rfl, rfl⟩
                    case rest =>
                      obtain ⟨rfl, rfl⟩ := hcut
                      cases bb with
                      | true =>
                        obtain ⟨x, y, hx, hy, hxy⟩ := onN_true HBO.out.symm
                        have hil : i < o.length := by have := (List.getElem?_eq_some_iff.1 hx).1; rw [HLM.out] at this; exact this
                        have HNX2 := Lib.hid (HNX.out.trans (next_off hx hy (by omega)))
                        have HIL := Lib.hid hil
                        clear hx hy hxy HBO hil
                        go_wp2
                        go_roundw
                        case rel => exact ⟨i + 1, rfl, HIL.out, HNX2, trivial⟩
                        · have := HIL.out; simp only [intOf]; omega
                      | false =>
                        by_cases h1 : i < o.length
                        · have i1 : (i : Int) < (o.length : Int) := by omega
                          obtain ⟨x, hx⟩ : ∃ x, ma[i]? = some x := ⟨_, List.getElem?_eq_getElem (by rw [HLM.out]; exact h1)⟩
                          obtain ⟨y, hy⟩ : ∃ y, mb[i]? = some y := ⟨_, List.getElem?_eq_getElem (by rw [HLN.out]; exact h1)⟩
                          obtain ⟨g1, rfl, _, e1⟩ := (HM2.out.below HB.out) i x hx
                          obtain ⟨g2, rfl, _, e2⟩ := (HN2.out.below HB.out) i y hy
                          have h0 := onN_false HBO.out.symm hx hy
                          have HF := Lib.hid (HT2.out.1 i x y (HNX.out.trans (next_on hx hy h0)))
                          have HX := Lib.hid h0
                          clear hx hy HBO h0
                          go_wp2
                          go_meet
                          obtain ⟨f1, f2, f3⟩ := HF.out
                          obtain ⟨x1, x2⟩ := HX.out
                          exact ⟨by rw [f1], by rw [f2, Int.toNat_of_nonneg x1], by rw [f3, Int.toNat_of_nonneg x2], rfl⟩
                        · have i1 : ¬ (i : Int) < (o.length : Int) := by omega
                          have HF := Lib.hid (HT2.out.2 (HNX.out.trans (next_end (by rw [HLM.out]; exact h1))))
                          have HI := Lib.hid (show i = o.length by omega)
                          go_wp2
                          go_meet
                          obtain ⟨f1, f2, f3⟩ := HF.out
                          exact ⟨by rw [f1, HI.out], by rw [f2], by rw [f3], rfl⟩
                | false =>
                  have hn0 : n ≠ 0 := by have := HBZ.out; rw [eq_comm, beq_eq_false_iff_ne] at this; omega
                  clear HBZ
                  have HT2 : Hid ((t1, t2, t3) = (pn, qn, sn)) := Lib.hid (by
                    obtain ⟨e1, e2, e3⟩ := HPN.out
                    rw [HT.out]; unfold stepC; rw [HN.out, if_pos (by omega), e1, e2, e3])
                  have HT3 := Lib.hid (Prod.mk.inj HT2.out)
                  have HT4 := Lib.hid (Prod.mk.inj HT3.out.2)
                  go_wp2
                  go_meet
                  exact ⟨by rw [HT3.out.1], by rw [HT4.out.1], by rw [HT4.out.2], rfl⟩
              case rest =>
                obtain ⟨rfl, rfl, rfl, rfl⟩ := hcut
                obtain ⟨T, hT, hAt2, y1, y2, y3, y4⟩ := stepC_at HAt.out HEND.out
                obtain ⟨rfl, rfl, rfl⟩ : t1 = T.1 ∧ t2 = T.2.1 ∧ t3 = T.2.2 := by
                  have h := HT.out
                  rw [HEM.out, HEN.out, ← hT] at h
                  exact ⟨by rw [← h], by rw [← h], by rw [← h]⟩
                have HE := Lib.hid hT
                have HAt2 := Lib.hid hAt2
                have x2 := hAt2.po
                have x4 := hAt2.qa
                have x6 := hAt2.sb
                clear hT hAt2 HT HN HPN c0 c1' c2' c3' HPNn HM2 HN2 HBZ
                obtain ⟨t1, t2, t3⟩ := T
                simp only at y1 y2 y3 y4 x2 x4 x6 ⊢
                obtain ⟨kd, hkd⟩ : ∃ kd, kd = kindL (cutL o P t1) (cutL a Q t2) (cutL b S t3) := ⟨_, rfl⟩
                obtain ⟨Z1, hZ1⟩ : ∃ Z1, Z1 = if c1 = P then A1 else A1.map (·.add P) := ⟨_, rfl⟩
                obtain ⟨Z2, hZ2⟩ : ∃ Z2, Z2 = if c2 = Q then A2 else A2.map (·.add Q) := ⟨_, rfl⟩
                obtain ⟨Z3, hZ3⟩ : ∃ Z3, Z3 = if c3 = S then A3 else A3.map (·.add S) := ⟨_, rfl⟩
                have q1 := fun W => cut_mid A1 o.length c1 P t1 y1 x2 hc1 W
                have q2 := fun W => cut_mid A2 a.length c2 Q t2 y2 x4 hc2 W
                have q3 := fun W => cut_mid A3 b.length c3 S t3 y3 x6 hc3 W
                rw [← hZ1] at q1
                rw [← hZ2] at q2
                rw [← hZ3] at q3
                have hkind : ∀ W, Below w2.heap.size w2 W → Calls Tryz.prog 97 #[.slice Z1 (t1 - P) (c1 - P), .slice Z2 (t2 - Q) (c2 - Q), .slice Z3 (t3 - S) (c3 - S)] W fun e w' => e = .returned (.int .i64 (kd : Nat)) ∧ Below W.heap.size W w' := fun W hb => by
                  have hk := rkind_any (cutL o P t1) (cutL a Q t2) (cutL b S t3) Z1 Z2 Z3 (c1 - P) (c2 - Q) (c3 - S) W (by rw [hZ1]; exact (LiesA.cut ((HO2.out.below hb).up hb.size) y1 x2 hc1).lies) (by rw [hZ2]; exact (LiesA.cut ((HA2.out.below hb).up hb.size) y2 x4 hc2).lies) (by rw [hZ3]; exact (LiesA.cut ((HBb2.out.below hb).up hb.size) y3 x6 hc3).lies)
                    (by rw [cutL_length _ _ _ x2]; omega) (by rw [cutL_length _ _ _ x4]; omega) (by rw [cutL_length _ _ _ x6]; omega)
                  rw [cutL_length _ _ _ x2, cutL_length _ _ _ x4, cutL_length _ _ _ x6, ← hkd] at hk
                  exact hk
                have HKI := Lib.hid hkind
                have HKD := Lib.hid hkd
                have HY := Lib.hid (And.intro y1 (And.intro y2 (And.intro y3 y4)))
                have hpl : pre.length ≤ 6000 := by have := HPL.out; omega
                clear hkind hkd hZ1 hZ2 hZ3 HO2 HA2 HBb2
                go_upto_region 22 with fail
                refine wp_region_held_drew (S := fun _ => True) (by kernel_rfl) trivial (fun hHeld => ?_)
                refine wpAnyH_take (i := 0) (v := ?_) rfl (by kernel_rfl) (by kernel_rfl) (by kernel_rfl) (fun _ _ _ h => h) (Or.inl ⟨by rfl, ?_⟩) hHeld ?_
                rotate_left
                · intro w' hSw
                  go_simp
                  try (with_reducible rfl)
                try simp only [Act.put, List.setIfInBounds_toArray, List.set_cons_zero, List.set_cons_succ]
                refine wpAnyH_take (i := 1) (v := ?_) rfl (by kernel_rfl) (by kernel_rfl) (by kernel_rfl) (fun _ _ _ h => h) (Or.inl ⟨by rfl, ?_⟩) hHeld ?_
                rotate_left
                · intro w' hSw
                  go_simp
                  try (with_reducible rfl)
                try simp only [Act.put, List.setIfInBounds_toArray, List.set_cons_zero, List.set_cons_succ]
                refine wpAnyH_take (i := 2) (v := ?_) rfl (by kernel_rfl) (by kernel_rfl) (by kernel_rfl) (fun _ _ _ h => h) (Or.inl ⟨by rfl, ?_⟩) hHeld ?_
                rotate_left
                · intro w' hSw
                  go_simp
                  try (with_reducible rfl)
                try simp only [Act.put, List.setIfInBounds_toArray, List.set_cons_zero, List.set_cons_succ]
                refine wpAnyH_take (i := 3) (v := ?_) rfl (by kernel_rfl) (by kernel_rfl) (by kernel_rfl) (fun _ _ _ h => h) (Or.inl ⟨by rfl, ?_⟩) hHeld ?_
                rotate_left
                · intro w' hSw
                  go_simp
                  try (with_reducible rfl)
                try simp only [Act.put, List.setIfInBounds_toArray, List.set_cons_zero, List.set_cons_succ]
                refine wpAnyH_take (i := 4) (v := ?_) rfl (by kernel_rfl) (by kernel_rfl) (by kernel_rfl) (fun _ _ _ h => h) (Or.inl ⟨by rfl, ?_⟩) hHeld ?_
                rotate_left
                · intro w' hSw
                  go_simp
                  try (with_reducible rfl)
                try simp only [Act.put, List.setIfInBounds_toArray, List.set_cons_zero, List.set_cons_succ]
                refine wpAnyH_take (i := 5) (v := ?_) rfl (by kernel_rfl) (by kernel_rfl) (by kernel_rfl) (fun _ _ _ h => h) (Or.inl ⟨by rfl, ?_⟩) hHeld ?_
                rotate_left
                · intro w' hSw
                  go_simp
                  try (with_reducible rfl)
                try simp only [Act.put, List.setIfInBounds_toArray, List.set_cons_zero, List.set_cons_succ]
                refine wpAnyH_take (i := 6) (v := ?_) rfl (by kernel_rfl) (by kernel_rfl) (by kernel_rfl) (fun _ _ _ h => h) (Or.inl ⟨by rfl, ?_⟩) hHeld ?_
                rotate_left
                · intro w' hSw
                  go_simp
                  try (with_reducible rfl)
                try simp only [Act.put, List.setIfInBounds_toArray, List.set_cons_zero, List.set_cons_succ]
                refine wpAnyH_take (i := 7) (v := ?_) rfl (by kernel_rfl) (by kernel_rfl) (by kernel_rfl) (fun _ _ _ h => h) (Or.inl ⟨by rfl, ?_⟩) hHeld ?_
                rotate_left
                · intro w' hSw
                  go_simp
                  try (with_reducible rfl)
                try simp only [Act.put, List.setIfInBounds_toArray, List.set_cons_zero, List.set_cons_succ]
                refine wpAnyH_take (i := 8) (v := ?_) rfl (by kernel_rfl) (by kernel_rfl) (by kernel_rfl) (fun _ _ _ h => h) (Or.inl ⟨by rfl, ?_⟩) hHeld ?_
                rotate_left
                · intro w' hSw
                  go_simp
                  try (with_reducible rfl)
                try simp only [Act.put, List.setIfInBounds_toArray, List.set_cons_zero, List.set_cons_succ]
                refine wpAnyH_take (i := 9) (v := ?_) rfl (by kernel_rfl) (by kernel_rfl) (by kernel_rfl) (fun _ _ _ h => h) (Or.inl ⟨by rfl, ?_⟩) hHeld ?_
                rotate_left
                · intro w' hSw
                  go_simp
                  try (with_reducible rfl)
                try simp only [Act.put, List.setIfInBounds_toArray, List.set_cons_zero, List.set_cons_succ]
                refine wpAnyH_take (i := 10) (v := ?_) rfl (by kernel_rfl) (by kernel_rfl) (by kernel_rfl) (fun _ _ _ h => h) (Or.inl ⟨by rfl, ?_⟩) hHeld ?_
                rotate_left
                · intro w' hSw
                  go_simp
                  try (with_reducible rfl)
                try simp only [Act.put, List.setIfInBounds_toArray, List.set_cons_zero, List.set_cons_succ]
                refine wpAnyH_take (i := 11) (v := ?_) rfl (by kernel_rfl) (by kernel_rfl) (by kernel_rfl) (fun _ _ _ h => h) (Or.inl ⟨by rfl, ?_⟩) hHeld ?_
                rotate_left
                · intro w' hSw
                  go_simp
                  try (with_reducible rfl)
                try simp only [Act.put, List.setIfInBounds_toArray, List.set_cons_zero, List.set_cons_succ]
                refine wpAnyH_take (i := 12) (v := ?_) rfl (by kernel_rfl) (by kernel_rfl) (by kernel_rfl) (fun _ _ _ h => h) (Or.inl ⟨by rfl, ?_⟩) hHeld ?_
                rotate_left
                · intro w' hSw
                  go_simp
                  try (with_reducible rfl)
                try simp only [Act.put, List.setIfInBounds_toArray, List.set_cons_zero, List.set_cons_succ]
                refine wpAnyH_take (i := 14) (v := ?_) rfl (by kernel_rfl) (by kernel_rfl) (by kernel_rfl) (fun _ _ _ h => h) (Or.inl ⟨by rfl, ?_⟩) hHeld ?_
                rotate_left
                · intro w' hSw
                  go_simp
                  try (with_reducible rfl)
                try simp only [Act.put, List.setIfInBounds_toArray, List.set_cons_zero, List.set_cons_succ]
                refine wpAnyH_take (i := 15) (v := ?_) rfl (by kernel_rfl) (by kernel_rfl) (by kernel_rfl) (fun _ _ _ h => h) (Or.inl ⟨by rfl, ?_⟩) hHeld ?_
                rotate_left
                · intro w' hSw
                  go_simp
                  try (with_reducible rfl)
                try simp only [Act.put, List.setIfInBounds_toArray, List.set_cons_zero, List.set_cons_succ]
                refine wpAnyH_take (i := 16) (v := ?_) rfl (by kernel_rfl) (by kernel_rfl) (by kernel_rfl) (fun _ _ _ h => h) (Or.inl ⟨by rfl, ?_⟩) hHeld ?_
                rotate_left
                · intro w' hSw
                  go_simp
                  try (with_reducible rfl)
                try simp only [Act.put, List.setIfInBounds_toArray, List.set_cons_zero, List.set_cons_succ]
                refine wpAnyH_take (i := 17) (v := ?_) rfl (by kernel_rfl) (by kernel_rfl) (by kernel_rfl) (fun _ _ _ h => h) (Or.inl ⟨by rfl, ?_⟩) hHeld ?_
                rotate_left
                · intro w' hSw
                  go_simp
                  try (with_reducible rfl)
                try simp only [Act.put, List.setIfInBounds_toArray, List.set_cons_zero, List.set_cons_succ]
                refine wpAnyH_take (i := 18) (v := ?_) rfl (by kernel_rfl) (by kernel_rfl) (by kernel_rfl) (fun _ _ _ h => h) (Or.inl ⟨by rfl, ?_⟩) hHeld ?_
                rotate_left
                · intro w' hSw
                  go_simp
                  try (with_reducible rfl)
                try simp only [Act.put, List.setIfInBounds_toArray, List.set_cons_zero, List.set_cons_succ]
                refine wpAnyH_take (i := 19) (v := ?_) rfl (by kernel_rfl) (by kernel_rfl) (by kernel_rfl) (fun _ _ _ h => h) (Or.inl ⟨by rfl, ?_⟩) hHeld ?_
                rotate_left
                · intro w' hSw
                  go_simp
                  try (with_reducible rfl)
                try simp only [Act.put, List.setIfInBounds_toArray, List.set_cons_zero, List.set_cons_succ]
                refine wpAnyH_take (i := 20) (v := ?_) rfl (by kernel_rfl) (by kernel_rfl) (by kernel_rfl) (fun _ _ _ h => h) (Or.inl ⟨by rfl, ?_⟩) hHeld ?_
                rotate_left
                · intro w' hSw
                  go_simp
                  try (with_reducible rfl)
                try simp only [Act.put, List.setIfInBounds_toArray, List.set_cons_zero, List.set_cons_succ]
                refine wpAnyH_take (i := 21) (v := ?_) rfl (by kernel_rfl) (by kernel_rfl) (by kernel_rfl) (fun _ _ _ h => h) (Or.inl ⟨by rfl, ?_⟩) hHeld ?_
                rotate_left
                · intro w' hSw
                  go_simp
                  try (with_reducible rfl)
                try simp only [Act.put, List.setIfInBounds_toArray, List.set_cons_zero, List.set_cons_succ]
                refine wpAnyH_take (i := 22) (v := ?_) rfl (by kernel_rfl) (by kernel_rfl) (by kernel_rfl) (fun _ _ _ h => h) (Or.inl ⟨by rfl, ?_⟩) hHeld ?_
                rotate_left
                · intro w' hSw
                  go_simp
                  try (with_reducible rfl)
                try simp only [Act.put, List.setIfInBounds_toArray, List.set_cons_zero, List.set_cons_succ]
                refine wpAnyH_ready (rs := [13]) (by kernel_rfl) (by simp) ?_
                refine AllReadyH.cons rfl (fun K hK => ?_) AllReadyH.nil
                go_simp
                have HBd := Lib.hid (below_drew HB.out)
                refine (HKI.out _ HBd.out).mono ?_
                rintro e w5 ⟨rfl, hb5⟩
                have HB5 := Lib.hid (HBd.out.trans (hb5.mono HBd.out.size))
                have HR5 : Hid (kCk.R 99 w5 w2.heap.size (fun _ => True) u9 pre) := Lib.hid (Kd.R_below (Kd.R_below HR.out (below_drew (Below.refl _ _))) hb5)
                clear hb5
                dsimp only
                refine hK.out _ _ hHeld (fun hHeld => ?_)
                clear hK K
                try simp only [Act.put, List.setIfInBounds_toArray, List.set_cons_zero, List.set_cons_succ]
                refine wpAnyH_take (i := 23) (v := ?_) rfl (by kernel_rfl) (by kernel_rfl) (by kernel_rfl) (fun _ _ _ h => h) (Or.inl ⟨by rfl, ?_⟩) hHeld ?_
                rotate_left
                · intro w' hSw
                  go_simp
                  try (with_reducible rfl)
                try simp only [Act.put, List.setIfInBounds_toArray, List.set_cons_zero, List.set_cons_succ]
                refine wpAnyH_ready (rs := [24]) (by kernel_rfl) (by simp) ?_
                refine AllReadyH.cons rfl (fun K hK => ?_) AllReadyH.nil
                go_simp
                refine hK.out _ _ trivial (fun hHeld => ?_)
                clear hK K
                try simp only [Act.put, List.setIfInBounds_toArray, List.set_cons_zero, List.set_cons_succ]
                refine wpAnyH_ready (rs := [25]) (by kernel_rfl) (by simp) ?_
                refine AllReadyH.cons rfl (fun K hK => ?_) AllReadyH.nil
                have hsz5 := HB5.out.size
                refine Kd.R_append_step kCk (w0 := w2) w2.heap.size (by rfl) _ _ 94 99 _ 56 (by rfl) Tryz.underlying94 infoCk rfl (by decide) (by decide) u9 pre ⟨kd, P, t1, Q, t2, S, t3⟩ (ckCells ⟨kd, P, t1, Q, t2, S, t3⟩) (fun _ => True) (fun _ => False) (by rfl) (by rfl) (kCk_mk _ _ _ _) (fun _ h => h.elim) (fun _ _ => trivial) HR5.out HB5.out hsz5 (by omega) ?_
                intro v1 w6 hR6 hb6 hg6 _
                have HR6 := Lib.hid hR6
                have HB6 := Lib.hid hb6
                clear hR6 hb6 hg6
                refine hK.out _ _ trivial (fun hHeld => ?_)
                clear hK K
                try simp only [Act.put, List.setIfInBounds_toArray, List.set_cons_zero, List.set_cons_succ]
                refine wpAnyH_ready (rs := [26]) (by kernel_rfl) (by simp) ?_
                refine AllReadyH.cons rfl (fun K hK => ?_) AllReadyH.nil
                go_simp
                refine hK.out _ _ trivial (fun hHeld => ?_)
                clear hK K
                try simp only [Act.put, List.setIfInBounds_toArray, List.set_cons_zero, List.set_cons_succ]
                refine wpAnyH_done (by kernel_rfl) ?_ _
                go_wp2
                go_roundw
                case rel =>
                  have z1 := HAt.out.po
                  have z2 := HAt.out.qa
                  have z3 := HAt.out.sb
                  have z4 := HEND.out
                  have z5 := HF.out
                  obtain ⟨f', rfl⟩ : ∃ f', f = f' + 1 := ⟨f - 1, by omega⟩
                  obtain ⟨_, _, _, y4⟩ := HY.out
                  refine ⟨t1, t2, t3, f', pre ++ [⟨kd, P, t1, Q, t2, S, t3⟩], rfl, rfl, rfl, HAt2, Lib.hid (by omega), Lib.hid ?_, Lib.hid ?_, HR6, HB6⟩
                  · rw [HCh.out]
                    conv => lhs; unfold chunkGo
                    rw [if_neg z4, ← HE.out, List.append_assoc]
                    simp only [List.singleton_append, HKD.out]
                  · have := HPL.out
                    rw [List.length_append]
                    simp only [List.length_cons, List.length_nil]
                    omega
                · obtain ⟨_, _, _, y4⟩ := HY.out
                  have z1 := HAt.out.po
                  have z2 := HAt.out.qa
                  have z3 := HAt.out.sb
                  have z4 := HEND.out
                  obtain ⟨v1', v2', v3'⟩ := HY.out
                  simp only [intOf]; omega

end Go.Proofs.YtogfkfkejaiecaaGreatDoor.Eh

namespace Go.Proofs.YtogfkfkejaiecaaGreatDoor.Ei
open Go.RowKit Go.Shelf Go.Proofs.YtogfkfkejaiecaaGreatDoor.Ed Go.Proofs.YtogfkfkejaiecaaGreatDoor.Ee Go.Proofs.YtogfkfkejaiecaaGreatDoor.Ef Go.Proofs.YtogfkfkejaiecaaGreatDoor.Eg Go.Proofs.YtogfkfkejaiecaaGreatDoor.Eh

theorem numOk : NumOk := fun rs A c w h1 h2 h3 h4 => rnumbers_any rs A c w h1 h2 h3 h4
theorem chunksOk : ChunksOk := fun o a b A1 A2 A3 c1 c2 c3 w h1 h2 h3 k1 k2 k3 l1 l2 l3 => rchunks_any o a b A1 A2 A3 c1 c2 c3 w h1 h2 h3 k1 k2 k3 l1 l2 l3
theorem partsOk : PartsOk := partsOk_of numOk chunksOk
theorem linesOk : LinesOk := rlines_of partsOk

end Go.Proofs.YtogfkfkejaiecaaGreatDoor.Ei
