/- Contracts of the reference's lcs: table, Match of rows that are not too long. Contracts of lcs and ref05: Match of whatever rows. -/
import Derived.Test.YtogfkfkejaiecaaGreatDoorTc
import Derived.Test.YtogfkfkejaiecaaGreatDoorTwl

namespace Go.Proofs.YtogfkfkejaiecaaGreatDoor.Rf
open Go.RowKit Go.Shelf Pl Ut Ln Da Db Dc Dd Dt De Go.Proofs.YtogfkfkejaiecaaGreatDoorW.PrintWords
set_option linter.unusedVariables false
set_option linter.unusedSimpArgs false
attribute [local go_sem] run_max2

theorem make_i64 (n : Nat) (hn : n ≤ 1000000) (w : World) : (Instr.makeSlice 130 (.int .i64 ((n : Int) + 1)) (.int .i64 ((n : Int) + 1))).run Tryz.prog w =
    .ok (.slice (some ⟨w.heap.size, 0, none⟩) (n + 1) (n + 1)) (w.alloc (.cells (ofK .i64 (List.replicate (n + 1) 0)) 3)) := by
  obtain ⟨i0, hi, hz0, hz1, hz2⟩ := info_parts infoInt
  have h := run_make (P := Tryz.prog) w 130 3 i0 (.int .i64 0) Tryz.underlying130 hi hz0 .i64 .i64 ((n : Int) + 1) ((n : Int) + 1) (by omega) (by omega) (by rw [hz2]; omega) (by omega)
  rw [h, hz1, Nat.mul_one, ofK_zeros]
  have e : ((n : Int) + 1).toNat = n + 1 := by omega
  rw [e]
theorem make_rows64 (n : Nat) (hn : n ≤ 1000000) (w : World) : (Instr.makeSlice 126 (.int .i64 ((n : Int) + 1)) (.int .i64 ((n : Int) + 1))).run Tryz.prog w =
    .ok (.slice (some ⟨w.heap.size, 0, none⟩) (n + 1) (n + 1)) (w.alloc (.cells (List.replicate (n + 1) (Value.slice none 0 0)).toArray 130)) := by
  obtain ⟨i0, hi, hz0, hz1, hz2⟩ := info_parts infoInts
  have h := run_make (P := Tryz.prog) w 126 130 i0 (.slice none 0 0) Tryz.underlying126 hi hz0 .i64 .i64 ((n : Int) + 1) ((n : Int) + 1) (by omega) (by omega) (by rw [hz2]; omega) (by omega)
  rw [h, hz1, Nat.mul_one]
  have e : ((n : Int) + 1).toNat = n + 1 := by omega
  rw [e]
  have e3 : madeCells (Value.slice none 0 0).cells (n + 1) = (List.replicate (n + 1) (Value.slice none 0 0)).toArray := by
    apply Array.ext'
    have e2 : (Value.slice none 0 0).cells = #[.slice none 0 0] := rfl
    rw [e2, toList_madeCells_one]
  rw [e3]

/-- How far a row is known. -/
def upq (b : List Nat) (lo q j : Nat) : Nat := if lo < j then 0 else if j = lo then q else b.length
/-- The table at block g, rows one behind the other: rows behind lo are whole, row lo from q on, those ahead are empty. -/
structure TabR (a b : List Nat) (w : World) (g lo q : Nat) : Prop where
  sl : w.heap[g]? = some (.cells (slP (fun j => g + 1 + j) a b 0) 130 (0, 0))
  row : ∀ j, j ≤ a.length → w.heap[g + 1 + j]? = some (.cells (ofK .i64 (rowP a b j (upq b lo q j))) 3 (0, 0))
section
variable {a b : List Nat} {w : World} {g lo q : Nat}
theorem TabR.slot (h : TabR a b w g lo q) {j : Nat} (h2 : j ≤ a.length) : w.cell? ⟨g, j, none⟩ = some (.slice (some ⟨g + 1 + j, 0, none⟩) (b.length + 1) (b.length + 1)) := by
  rw [blk_cell h.sl]
  unfold slP
  simp only [List.getElem?_toArray, List.getElem?_map]
  rw [List.getElem?_range (by omega)]
  simp
theorem TabR.far (h : TabR a b w g lo q) {j k : Nat} (h1 : lo < j) (h2 : j ≤ a.length) (hk : k ≤ b.length) : w.cell? ⟨g + 1 + j, k, none⟩ = some (.int .i64 (cm a b j k)) := by
  rw [blk_cell (h.row j h2)]
  simp only [ofK, List.getElem?_toArray, List.getElem?_map]
  rw [rowP_at a b hk (by unfold upq; rw [if_pos h1]; omega)]; rfl
theorem TabR.near (h : TabR a b w g lo q) {k : Nat} (h2 : lo ≤ a.length) (hk : k ≤ b.length) (hq : q ≤ k) : w.cell? ⟨g + 1 + lo, k, none⟩ = some (.int .i64 (cm a b lo k)) := by
  rw [blk_cell (h.row lo h2)]
  simp only [ofK, List.getElem?_toArray, List.getElem?_map]
  rw [rowP_at a b hk (by unfold upq; rw [if_neg (Nat.lt_irrefl _), if_pos rfl]; exact hq)]; rfl
theorem TabR.some_ (h : TabR a b w g lo q) {j k : Nat} (h2 : j ≤ a.length) (hk : k ≤ b.length) : ∃ v : Nat, w.cell? ⟨g + 1 + j, k, none⟩ = some (.int .i64 (v : Int)) := by
  rw [blk_cell (h.row j h2)]
  simp only [ofK, List.getElem?_toArray, List.getElem?_map]
  obtain ⟨v, hv⟩ := rowP_any a b (j := j) (q := upq b lo q j) hk
  rw [hv]; exact ⟨v, rfl⟩
theorem TabR.thaw (h : TabR a b w g lo q) {j : Nat} (h2 : j ≤ a.length) (k : Nat) : w.frozen? ⟨g + 1 + j, k, none⟩ = false := blk_frozen (h.row j h2) k
theorem TabR.moved {w' : World} (h : TabR a b w g lo q) (hm : ∀ (k : Nat) (o : Obj), w.heap[k]? = some o → w'.heap[k]? = some o) : TabR a b w' g lo q :=
  ⟨hm _ _ h.sl, fun j h2 => hm _ _ (h.row j h2)⟩
theorem TabR.set_ (h : TabR a b w g lo (q + 1)) (h2 : lo ≤ a.length) (hq : q ≤ b.length) :
    TabR a b (w.setCell ⟨g + 1 + lo, q, none⟩ (.int .i64 (cm a b lo q))) g lo q := by
  refine ⟨blk_far h.sl (show g ≠ g + 1 + lo by omega) _, fun j h3 => ?_⟩
  by_cases e : j = lo
  · subst e
    rw [blk_set (h.row j h3) q]
    congr 2
    have e1 : upq b j (q + 1) j = q + 1 := by unfold upq; rw [if_neg (Nat.lt_irrefl _), if_pos rfl]
    have e2 : upq b j q j = q := by unfold upq; rw [if_neg (Nat.lt_irrefl _), if_pos rfl]
    unfold ofK
    rw [e1, e2, ← rowP_set a b hq]
    simp [List.map_set]
  · rw [blk_far (h.row j h3) (show g + 1 + j ≠ g + 1 + lo by omega) _]
    have e1 : upq b lo (q + 1) j = upq b lo q j := by unfold upq; simp [e]
    rw [e1]
theorem TabR.next (h : TabR a b w g (lo + 1) 0) : TabR a b w g lo b.length := by
  refine ⟨h.sl, fun j h3 => ?_⟩
  rw [h.row j h3]
  have e1 : upq b (lo + 1) 0 j = upq b lo b.length j := by
    unfold upq
    by_cases h1 : lo + 1 < j
    · rw [if_pos h1, if_pos (by omega)]
    · rw [if_neg h1]
      by_cases h2 : j = lo + 1
      · rw [if_pos h2, if_pos (by omega)]
      · rw [if_neg h2, if_neg (by omega)]
        split <;> rfl
  rw [e1]
theorem TabR.done (h : TabR a b w g 0 0) : TabP .i64 3 130 (fun j => g + 1 + j) a b w g 0 0 := by
  refine ⟨h.sl, fun j h1 h2 => ?_, fun h2 => ?_⟩
  · rw [h.row j h2]; congr 2; unfold upq; rw [if_pos h1]
  · rw [h.row 0 h2]; rfl
end
/-- While the rows are made. -/
structure TabM (a b : List Nat) (w : World) (g k : Nat) : Prop where
  size : w.heap.size = g + 1 + k
  sl : w.heap[g]? = some (.cells ((List.range (a.length + 1)).map fun j => if j < k then Value.slice (some ⟨g + 1 + j, 0, none⟩) (b.length + 1) (b.length + 1) else .slice none 0 0).toArray 130 (0, 0))
  row : ∀ j, j < k → w.heap[g + 1 + j]? = some (.cells (ofK .i64 (List.replicate (b.length + 1) 0)) 3 (0, 0))
section
variable {a b : List Nat} {w : World} {g k : Nat}
theorem TabM.cell (h : TabM a b w g k) (hk : k ≤ a.length) : w.cell? ⟨g, k, none⟩ = some (.slice none 0 0) := by
  rw [blk_cell h.sl]
  simp only [List.getElem?_toArray, List.getElem?_map]
  rw [List.getElem?_range (by omega)]
  simp
theorem TabM.frozen (h : TabM a b w g k) (j : Nat) : w.frozen? ⟨g, j, none⟩ = false := blk_frozen h.sl j
theorem TabM.next (h : TabM a b w g k) (hk : k ≤ a.length) :
    TabM a b ((w.alloc (.cells (ofK .i64 (List.replicate (b.length + 1) 0)) 3)).setCell ⟨g, k, none⟩ (.slice (some ⟨g + 1 + k, 0, none⟩) (b.length + 1) (b.length + 1))) g (k + 1) := by
  have hg : g < w.heap.size := blk_lt h.sl
  refine ⟨by simp [h.size]; omega, ?_, fun j hj => ?_⟩
  · rw [blk_set (blk_alloc h.sl _)]
    congr 2
    simp only [List.setIfInBounds_toArray]
    congr 1
    apply List.ext_getElem?
    intro i
    rw [List.getElem?_set]
    simp only [List.length_map, List.length_range, List.getElem?_map]
    by_cases hi : i < a.length + 1
    · rw [List.getElem?_range hi]
      by_cases e : k = i
      · subst e; rw [if_pos rfl, if_pos hi]; simp
      · rw [if_neg e]
        simp only [Option.map_some, Option.some.injEq]
        by_cases h1 : i < k
        · rw [if_pos h1, if_pos (by omega)]
        · rw [if_neg h1, if_neg (by omega)]
    · rw [List.getElem?_eq_none (by simpa using hi)]
      by_cases e : k = i
      · subst e; rw [if_pos rfl, if_neg hi]; rfl
      · rw [if_neg e]; rfl
  · by_cases e : j = k
    · subst e
      refine blk_far ?_ (show g + 1 + j ≠ g by omega) _
      rw [← h.size]; exact blk_new _ _
    · exact blk_far (blk_alloc (h.row j (by omega)) _) (show g + 1 + j ≠ g by omega) _
theorem TabM.done (h : TabM a b w g (a.length + 1)) : TabR a b w g a.length 0 := by
  refine ⟨?_, fun j h3 => ?_⟩
  · rw [h.sl]
    congr 3
    apply List.map_congr_left
    intro j hj
    simp at hj
    simp [hj]
  · rw [h.row j (by omega)]
    congr 2
    by_cases e : j = a.length
    · rw [e, rowP_last]
    · have e1 : upq b a.length 0 j = b.length := by unfold upq; rw [if_neg (by omega), if_neg e]
      rw [e1, rowP_zero]
end

set_option maxRecDepth 100000 in
set_option maxHeartbeats 8000000 in
theorem rtable_any (a b : List Nat) (A A' : Option Addr) (c c' : Nat) (w : World) (B0 : Nat) (hC : Lies w B0 A a) (hC' : Lies w B0 A' b) (hla : a.length ≤ 2000) (hlb : b.length ≤ 2000) (hB0 : B0 ≤ w.heap.size) :
    Calls Tryz.prog 118 #[.slice A a.length c, .slice A' b.length c'] w fun e w' => e = .returned (.slice (some ⟨w.heap.size, 0, none⟩) (a.length + 1) (a.length + 1)) ∧
      TabP .i64 3 130 (fun j => w.heap.size + 1 + j) a b w' w.heap.size 0 0 ∧ Below w.heap.size w w' := by
  obtain ⟨g, hg⟩ : ∃ g, g = w.heap.size := ⟨_, rfl⟩
  have hC2 := Lib.hid hC
  have hC3 := Lib.hid hC'
  clear hC hC'
  obtain ⟨la1, hla1⟩ : ∃ n, n = a.length + 1 := ⟨_, rfl⟩
  obtain ⟨lb1, hlb1⟩ : ∃ n, n = b.length + 1 := ⟨_, rfl⟩
  have HLA := Lib.hid hla1
  have HLB := Lib.hid hlb1
  have hla4 : (a.length : Int) < la1 := by omega
  have hmk1 := make_rows64 a.length (by omega) w
  obtain ⟨W1, hW1⟩ : ∃ W1, W1 = w.alloc (.cells (List.replicate (a.length + 1) (Value.slice none 0 0)).toArray 130) := ⟨_, rfl⟩
  have hb1 : Below g w W1 := by rw [hW1, hg]; exact (Below.refl _ _).alloc (Nat.le_refl _) _
  have hM : TabM a b W1 g 0 := by
    refine ⟨by rw [hW1, hg]; simp, ?_, fun j h => by omega⟩
    rw [hW1, hg, blk_new]
    congr 3
    apply List.ext_getElem?
    intro i
    simp only [List.getElem?_map, List.getElem?_replicate]
    by_cases hi : i < a.length + 1
    · rw [List.getElem?_range hi, if_pos hi]; rfl
    · rw [List.getElem?_eq_none (by simpa using hi), if_neg hi]; rfl
  rw [← hW1, ← hg, ← hla1] at hmk1
  have HM := Lib.hid hM
  have HG := Lib.hid hg
  clear hW1 hg hM hla1 hlb1
  go_enter Tryz.func118, Tryz.ntmps118
  go_wp2
  clear hmk1
  go_loopw [6] (fun i wr => ∃ k : Nat, k ≤ a.length + 1 ∧ i = .int .i64 (k : Int) ∧ Hid (TabM a b wr g k) ∧ Below g w wr) (fun i _ => a.length + 1 - (intOf i).toNat)
  case atStart => exact ⟨0, Nat.zero_le _, rfl, HM, hb1⟩
  case round =>
    obtain ⟨k, hk, rfl, HMk, hB⟩ := hrel
    obtain ⟨wo, rfl⟩ : ∃ wo : World, wo = wr := ⟨_, rfl⟩
    by_cases hlt : k ≤ a.length
    · have hk0 : (0 : Int) ≤ (k : Int) := Int.natCast_nonneg _
      have hka : (k : Int) < (la1 : Int) := by have := HLA.out; omega
      obtain ⟨p, hp⟩ : ∃ p, p = g + 1 + k := ⟨_, rfl⟩
      have hmk3 := make_i64 b.length (by omega) wo
      obtain ⟨V1, hV1⟩ : ∃ V1, V1 = wo.alloc (.cells (ofK .i64 (List.replicate (b.length + 1) 0)) 3) := ⟨_, rfl⟩
      have HN := Lib.hid (HMk.out.next hlt)
      have hc1 : V1.cell? ⟨g, k, none⟩ = some (.slice none 0 0) := by rw [hV1]; exact cell_alloc (HMk.out.cell hlt) _
      have hf1 : V1.frozen? ⟨g, k, none⟩ = false := by rw [hV1]; exact blk_frozen (blk_alloc HMk.out.sl _) _
      have hB2 : Below g w V1 := by rw [hV1]; exact hB.alloc (by have := HMk.out.size; omega) _
      rw [← hV1, HMk.out.size, ← HLB.out, ← hp] at hmk3
      rw [← hV1, ← HLB.out, ← hp] at HN
      have HBN := Lib.hid (hB2.setCell (p := ⟨g, k, none⟩) (Nat.le_refl _) (.slice (some ⟨p, 0, none⟩) lb1 lb1))
      clear hV1 hp hB2 HMk hB
      go_wp2
      go_roundw
      case rel => exact ⟨k + 1, by omega, by go_num, HN, HBN.out⟩
      case measure => simp [intOf]; omega
    · have hke : k = a.length + 1 := by omega
      have HT := Lib.hid (TabM.done (by rw [← hke]; exact HMk.out))
      clear hke
      go_wp2
      go_loopw [7] (fun i wr => ∃ k : Nat, k ≤ a.length ∧ Hid (i = .int .i64 ((k : Int) - 1)) ∧ Hid (TabR a b wr g k 0) ∧ Below g w wr) (fun i _ => (intOf i + 1).toNat)
      case atStart => exact ⟨a.length, Nat.le_refl _, Lib.hid rfl, HT, hB⟩
      case round =>
        clear HT HMk hB HM hb1
        obtain ⟨k, hk2, HI, HTk, hB⟩ := hrel
        obtain ⟨wo, rfl⟩ : ∃ wo : World, wo = wr := ⟨_, rfl⟩
        cases k with
        | zero =>
          have hi0 := HI.out
          have hi1 : u7 = Value.int .i64 (-1) := hi0
          subst hi1
          clear HI hi0
          go_wp2
          go_ret
          rw [← HG.out, ← HLA.out]
          exact ⟨rfl, HTk.out.done, hB⟩
        | succ k =>
          have hi0 := HI.out
          have hi1 : u7 = Value.int .i64 (k : Int) := by rw [hi0]; congr 1; omega
          subst hi1
          clear HI hi0
          have hk0 : (0 : Int) ≤ (k : Int) := Int.natCast_nonneg _
          have hka : (k : Int) < (a.length : Int) := by omega
          have HT3 := Lib.hid HTk.out.next
          have HBS := Lib.hid hB
          clear HTk hB
          go_wp2
          go_loopw [8] (fun i wr => ∃ q : Nat, q ≤ b.length ∧ Hid (i = .int .i64 ((q : Int) - 1)) ∧ Hid (TabR a b wr g k q) ∧ Below g w wr) (fun i _ => (intOf i + 1).toNat)
          case atStart => exact ⟨b.length, Nat.le_refl _, Lib.hid rfl, HT3, HBS.out⟩
          case round =>
            clear HT3 HBS
            obtain ⟨q, hq, HI, HTq, hB⟩ := hrel
            obtain ⟨wi, rfl⟩ : ∃ wi : World, wi = wr := ⟨_, rfl⟩
            cases q with
            | zero =>
              have hi0 := HI.out
              have hi1 : u8 = Value.int .i64 (-1) := hi0
              subst hi1
              clear HI hi0
              go_wp2
              go_roundw
              case rel => exact ⟨k, by omega, Lib.hid rfl, HTq, hB⟩
              case measure => simp [intOf]
            | succ q =>
              have hi0 := HI.out
              have hi1 : u8 = Value.int .i64 (q : Int) := by rw [hi0]; congr 1; omega
              subst hi1
              clear HI hi0
              have hq0 : (0 : Int) ≤ (q : Int) := Int.natCast_nonneg _
              have hqb : (q : Int) < (b.length : Int) := by omega
              obtain ⟨x, hx⟩ : ∃ x, a[k]? = some x := ⟨a[k]'(by omega), List.getElem?_eq_getElem (by omega)⟩
              obtain ⟨y, hy⟩ : ∃ y, b[q]? = some y := ⟨b[q]'(by omega), List.getElem?_eq_getElem (by omega)⟩
              obtain ⟨ad, hA1, hab, p0⟩ := (hC2.out.below (hB.mono (by rw [HG.out]; exact hB0))) k x hx
              obtain ⟨ad', hA2, hab', q0⟩ := (hC3.out.below (hB.mono (by rw [HG.out]; exact hB0))) q y hy
              subst hA1 hA2
              have HX := Lib.hid hx
              have HY := Lib.hid hy
              have HBI := Lib.hid hB
              clear hx hy hab hab' hB
              have i1 : (k : Int) < (la1 : Int) := by have := HLA.out; omega
              have i2 : (k : Int) + 1 < (la1 : Int) := by have := HLA.out; omega
              have i3 : (q : Int) < (lb1 : Int) := by have := HLB.out; omega
              have i4 : (q : Int) + 1 < (lb1 : Int) := by have := HLB.out; omega
              by_cases hxy : x = y
              · subst hxy
                have hxy1 : ((x : Int) == (x : Int)) = true := by simp
                go_wp2_with fail
                go_quiet (fail)
                go_wp2_with fail
                refine wp_region_still_tail 16 (by kernel_rfl) (by kernel_rfl) ?_
                obtain ⟨W5, hW5⟩ : ∃ W5 : World, W5 = { (wi.drewN nq) with drawn := (wi.drewN nq).drawn + 1 } := ⟨_, rfl⟩
                have HT5 : Hid (TabR a b W5 g k (q + 1)) := by rw [hW5]; exact Lib.hid (HTq.out.moved (fun _ _ h => h))
                have HB5 : Hid (Below g w W5) := by rw [hW5]; exact Lib.hid ⟨HBI.out.os, HBI.out.tape, HBI.out.output, HBI.out.size, HBI.out.block⟩
                rw [← hW5]
                clear hW5 p0 q0 HTq HBI
                obtain ⟨p, hp⟩ : ∃ p, p = g + 1 + k := ⟨_, rfl⟩
                obtain ⟨p', hp'⟩ : ∃ p', p' = g + 1 + (k + 1) := ⟨_, rfl⟩
                have s1 := HT5.out.slot (j := k) (by omega)
                have s2 := HT5.out.slot (j := k + 1) (by omega)
                have s3 := HT5.out.far (j := k + 1) (k := q + 1) (by omega) (by omega) (by omega)
                obtain ⟨v0, s4⟩ := HT5.out.some_ (j := k) (k := q) (by omega) (by omega)
                have s5 := HT5.out.thaw (j := k) (by omega) q
                have hcm := cm_same HX.out HY.out
                have hle := cm_le a b (k + 1) (q + 1)
                have HN := Lib.hid (HT5.out.set_ (by omega) (by omega))
                obtain ⟨z, hz⟩ : ∃ z, z = cm a b (k + 1) (q + 1) := ⟨_, rfl⟩
                rw [← hp, ← HLB.out] at s1
                rw [← hp', ← HLB.out] at s2
                rw [← hp', ← hz] at s3
                rw [← hp] at s4 s5 HN
                rw [← hz] at hle hcm
                rw [hcm] at HN
                have i5 : (0 : Int) ≤ (k : Int) + 1 := by omega
                have i6 : (0 : Int) ≤ (q : Int) + 1 := by omega
                have i7 : ((k : Int) + 1).toNat = k + 1 := by omega
                have i8 : ((q : Int) + 1).toNat = q + 1 := by omega
                have w0 : IntKind.i64.wrap ((z : Int) + 1) = (z : Int) + 1 := IntWalk.i64_in _ (by omega)
                have w1 : IntKind.i64.wrap ((k : Int) + 1) = (k : Int) + 1 := IntWalk.i64_in _ (by omega)
                have w2 : IntKind.i64.wrap ((q : Int) + 1) = (q : Int) + 1 := IntWalk.i64_in _ (by omega)
                have HP := Lib.hid hp
                clear hcm hz hp' hp HX HY HT5
                simp only [List.take_succ_cons, List.take_zero, List.drop_succ_cons, List.drop_zero]
                repeat still_step
                refine wpStill_nil ?_
                have HBN := Lib.hid (HB5.out.setCell (p := ⟨p, q, none⟩) (show g ≤ p by have := HP.out; omega) (.int .i64 ((z : Int) + 1)))
                have HN2 : Hid (TabR a b (W5.setCell ⟨p, q, none⟩ (.int .i64 ((z : Int) + 1))) g k q) := by
                  have := HN.out
                  rwa [show ((z + 1 : Nat) : Int) = (z : Int) + 1 by omega] at this
                clear w0 w1 w2 i5 i6 i7 i8 HN
                go_wp2
                go_roundw
                case rel => exact ⟨q, by omega, Lib.hid rfl, HN2, HBN.out⟩
                case measure => simp [intOf]
              · have hxy1 : ((x : Int) == (y : Int)) = false := by rw [beq_eq_false_iff_ne]; omega
                have hxy2 : (x == y) = false := by rw [beq_eq_false_iff_ne]; exact hxy
                have HXY := Lib.hid hxy
                clear hxy
                go_wp2_with fail
                go_quiet (fail)
                go_wp2_with fail
                refine wp_region_still_tail 23 (by kernel_rfl) (by kernel_rfl) ?_
                obtain ⟨W5, hW5⟩ : ∃ W5 : World, W5 = { (wi.drewN nq) with drawn := (wi.drewN nq).drawn + 1 } := ⟨_, rfl⟩
                have HT5 : Hid (TabR a b W5 g k (q + 1)) := by rw [hW5]; exact Lib.hid (HTq.out.moved (fun _ _ h => h))
                have HB5 : Hid (Below g w W5) := by rw [hW5]; exact Lib.hid ⟨HBI.out.os, HBI.out.tape, HBI.out.output, HBI.out.size, HBI.out.block⟩
                rw [← hW5]
                clear hW5 p0 q0 HTq HBI
                obtain ⟨p, hp⟩ : ∃ p, p = g + 1 + k := ⟨_, rfl⟩
                obtain ⟨p', hp'⟩ : ∃ p', p' = g + 1 + (k + 1) := ⟨_, rfl⟩
                have s1 := HT5.out.slot (j := k) (by omega)
                have s2 := HT5.out.slot (j := k + 1) (by omega)
                have s3 := HT5.out.far (j := k + 1) (k := q) (by omega) (by omega) (by omega)
                have s6 := HT5.out.near (k := q + 1) (by omega) (by omega) (by omega)
                obtain ⟨v0, s4⟩ := HT5.out.some_ (j := k) (k := q) (by omega) (by omega)
                have s5 := HT5.out.thaw (j := k) (by omega) q
                have hcm := cm_other HX.out HY.out HXY.out
                have HN := Lib.hid (HT5.out.set_ (by omega) (by omega))
                obtain ⟨z, hz⟩ : ∃ z, z = cm a b (k + 1) q := ⟨_, rfl⟩
                obtain ⟨z2, hz2⟩ : ∃ z2, z2 = cm a b k (q + 1) := ⟨_, rfl⟩
                rw [← hp, ← HLB.out] at s1
                rw [← hp', ← HLB.out] at s2
                rw [← hp', ← hz] at s3
                rw [← hp, ← hz2] at s6
                rw [← hp] at s4 s5 HN
                rw [← hz, ← hz2] at hcm
                rw [hcm] at HN
                have i5 : (0 : Int) ≤ (k : Int) + 1 := by omega
                have i6 : (0 : Int) ≤ (q : Int) + 1 := by omega
                have i7 : ((k : Int) + 1).toNat = k + 1 := by omega
                have i8 : ((q : Int) + 1).toNat = q + 1 := by omega
                have w1 : IntKind.i64.wrap ((k : Int) + 1) = (k : Int) + 1 := IntWalk.i64_in _ (by omega)
                have w2 : IntKind.i64.wrap ((q : Int) + 1) = (q : Int) + 1 := IntWalk.i64_in _ (by omega)
                have HP := Lib.hid hp
                clear hcm hz hz2 hp' hp HX HY HT5
                simp only [List.take_succ_cons, List.take_zero, List.drop_succ_cons, List.drop_zero]
                repeat still_step
                refine wpStill_nil ?_
                have HBN := Lib.hid (HB5.out.setCell (p := ⟨p, q, none⟩) (show g ≤ p by have := HP.out; omega) (.int .i64 (max (z : Int) (z2 : Int))))
                have HN2 : Hid (TabR a b (W5.setCell ⟨p, q, none⟩ (.int .i64 (max (z : Int) (z2 : Int)))) g k q) := by
                  have := HN.out
                  rwa [show ((max z z2 : Nat) : Int) = max (z : Int) (z2 : Int) by omega] at this
                clear w1 w2 i5 i6 i7 i8 HN
                go_wp2
                go_roundw
                case rel => exact ⟨q, by omega, Lib.hid rfl, HN2, HBN.out⟩
                case measure => simp [intOf]

/-- A whole number of a row. -/
def kInt : Kd Int := Kd.int .i64
theorem rep_snoc (k : Nat) : List.replicate k (-1 : Int) ++ [-1] = List.replicate (k + 1) (-1) := by rw [← List.replicate_succ']

set_option maxRecDepth 100000 in
set_option maxHeartbeats 8000000 in
theorem rmatch_short (a b : List Nat) (A A' : Option Addr) (c c' : Nat) (w : World) (hC : Lies w w.heap.size A a) (hC' : Lies w w.heap.size A' b) (hla : a.length ≤ 2000) (hlb : b.length ≤ 2000) :
    Calls Tryz.prog 96 #[.slice A a.length c, .slice A' b.length c'] w fun e w' => ∃ v, e = .returned v ∧ w'.ownsRow w.heap.size 3 1 v a.length (encs (Value.int .i64) (matchL a b)) ∧ Below w.heap.size w w' := by
  obtain ⟨g, hg⟩ : ∃ g, g = w.heap.size := ⟨_, rfl⟩
  have HC := Lib.hid hC
  have HC' := Lib.hid hC'
  rw [← hg] at HC HC'
  have HG := Lib.hid hg
  have HM := Lib.hid (show matchL a b = matchW a b 0 from by unfold matchL; rw [if_neg (by omega)])
  clear hC hC' hg
  have hga : decide ((2000 : Int) < (a.length : Int)) = false := by rw [decide_eq_false_iff_not]; omega
  have hgb : decide ((2000 : Int) < (b.length : Int)) = false := by rw [decide_eq_false_iff_not]; omega
  go_enter Tryz.func96, Tryz.ntmps96
  go_wp2
  go_loopw [5, 6] (fun v i wr => ∃ k : Nat, k ≤ a.length ∧ i = .int .i64 (k : Int) ∧ Hid (kInt.R 3 wr w.heap.size (fun _ => True) v (List.replicate k (-1))) ∧ Below w.heap.size w wr) (fun _ i _ => a.length - (intOf i).toNat)
  case atStart => exact ⟨0, Nat.zero_le _, rfl, Kd.R_nil _ _ _ _ _, Below.refl _ _⟩
  case round =>
    obtain ⟨k, hk, rfl, HR, hB⟩ := hrel
    have hsz := hB.size
    obtain ⟨wo, rfl⟩ : ∃ wo : World, wo = wr := ⟨_, rfl⟩
    by_cases hlt : k < a.length
    · have hk0 : (0 : Int) ≤ (k : Int) := Int.natCast_nonneg _
      go_wp2_with (at_builtin; go_loud (refine Kd.R_append kInt (w0 := w) w.heap.size rfl _ _ 130 3 _ 8 rfl Tryz.underlying130 infoInt rfl (by decide) (by decide) u5 (List.replicate k (-1)) (-1) _ (fun _ => True) (fun _ => False) rfl rfl ?k1 ?k2 ?k3 HR.out hB (by omega) (by rw [List.length_replicate]; omega) ?_))
      case k1 => exact rfl
      case k2 => exact fun _ h => h.elim
      case k3 => exact fun _ _ => trivial
      intro v1 w1 hR1 hb1 hg1 _
      rw [rep_snoc] at hR1
      have HR1 := Lib.hid hR1
      clear hR1 hg1
      go_wp2
      go_roundw
      case rel => exact ⟨k + 1, by omega, by go_num, HR1, hb1⟩
      case measure => simp [intOf]; omega
    · have hke : k = a.length := by omega
      have hown := Kd.own_of_R (enc := Value.int .i64) (h1 := fun _ => rfl) HR.out
      rw [List.length_replicate] at hown
      have hown2 : wo.ownsRow w.heap.size 3 1 u5 a.length (encs (Value.int .i64) (outK a [] 0)) := by
        unfold outK
        rw [← hke]
        simpa using hown
      have HO := Lib.hid hown2
      have HB := Lib.hid hB
      clear hke hown hown2 HR hB
      go_wp2_with fail
      refine (rtable_any a b A A' c c' _ g (HC.out.below (by rw [HG.out]; exact HB.out)) (HC'.out.below (by rw [HG.out]; exact HB.out)) hla hlb (by rw [HG.out]; exact hsz)).mono ?_
      rintro e W2 ⟨rfl, ht, hb2⟩
      obtain ⟨g2, hg2⟩ : ∃ g2, g2 = wo.heap.size := ⟨_, rfl⟩
      have HO2 : Hid (W2.ownsRow w.heap.size 3 1 u5 a.length (encs (Value.int .i64) (outK a [] 0))) := Lib.hid (pw_own_below HO.out hb2)
      have HNE : Hid (∀ q, u5.ownBlock = some q → q < g2) := Lib.hid (fun q hq => by rw [hg2]; exact own_lt HO.out q hq)
      have HB2 := Lib.hid (HB.out.trans (hb2.mono hsz))
      rw [← hg2] at ht ⊢
      have HT := Lib.hid ht
      have HG2 := Lib.hid (show w.heap.size ≤ g2 by omega)
      clear hg2 ht hb2 HO HB hga hgb hsz
      obtain ⟨la1, hla1⟩ : ∃ n, n = a.length + 1 := ⟨_, rfl⟩
      rw [← hla1]
      have HLA := Lib.hid hla1
      clear hla1
      go_wp2
      go_loopw [10, 11] (fun u v wr => ∃ (i k : Nat) (pre : List Int), u = .int .i64 i ∧ v = .int .i64 k ∧ Hid (ToldM a b pre i k) ∧ Hid (wr.ownsRow w.heap.size 3 1 u5 a.length (encs (Value.int .i64) (outK a pre i))) ∧ Hid (TabP .i64 3 130 (fun j => g2 + 1 + j) a b wr g2 0 0) ∧ Hid (Below w.heap.size w wr)) (fun u v _ => a.length - (intOf u).toNat + (b.length - (intOf v).toNat))
      case atStart => exact ⟨0, 0, [], rfl, rfl, Lib.hid (ToldM.start a b), HO2, HT, HB2⟩
      case round =>
        clear HO2 HT HB2
        obtain ⟨i, k, pre, rfl, rfl, HTo, HR, HTa, HBw⟩ := hrel
        obtain ⟨wo, rfl⟩ : ∃ wo : World, wo = wr := ⟨_, rfl⟩
        have hi0 : (0 : Int) ≤ (i : Int) := Int.natCast_nonneg _
        have hk0 : (0 : Int) ≤ (k : Int) := Int.natCast_nonneg _
        have hil := HTo.out.il
        have hkl := HTo.out.kl
        by_cases hlt : i < a.length ∧ k < b.length
        · obtain ⟨hi, hk⟩ := hlt
          obtain ⟨x, hx⟩ : ∃ x, a[i]? = some x := ⟨a[i]'(by omega), List.getElem?_eq_getElem (by omega)⟩
          obtain ⟨y, hy⟩ : ∃ y, b[k]? = some y := ⟨b[k]'(by omega), List.getElem?_eq_getElem (by omega)⟩
          obtain ⟨ad, hA1, hab, p0⟩ := (HC.out.below (by rw [HG.out]; exact HBw.out)) i x hx
          obtain ⟨ad', hA2, hab', q0⟩ := (HC'.out.below (by rw [HG.out]; exact HBw.out)) k y hy
          subst hA1 hA2
          have HX := Lib.hid hx
          have HY := Lib.hid hy
          clear hx hy hab hab'
          by_cases hxy : x = y
          · subst hxy
            have hxy1 : ((x : Int) == (x : Int)) = true := by simp
            obtain ⟨gr, cr, hform, hgr, _⟩ := HR.out.form (by omega)
            subst hform
            go_wp2_with fail
            go_quiet (fail)
            obtain ⟨W5, hW5⟩ : ∃ W5 : World, W5 = wo.drewN nq := ⟨_, rfl⟩
            have HR5 : Hid (W5.ownsRow w.heap.size 3 1 (.slice (some ⟨gr, 0, none⟩) a.length cr) a.length (encs (Value.int .i64) (outK a pre i))) := by rw [hW5]; exact Lib.hid (pw_own_below HR.out (pw_below_drewN (Below.refl _ _) _))
            have HT5 : Hid (TabP .i64 3 130 (fun j => g2 + 1 + j) a b W5 g2 0 0) := by rw [hW5]; exact Lib.hid (HTa.out.moved (fun _ _ h => h))
            have HB5 : Hid (Below w.heap.size w W5) := by rw [hW5]; exact Lib.hid (pw_below_drewN HBw.out _)
            rw [← hW5]
            clear hW5 p0 q0 HR HTa HBw
            obtain ⟨hc, hf⟩ := own_at_of (d := (0 : Int)) HR5.out (i : Int) hi0 (by omega)
            obtain ⟨hst, _⟩ := own_store_of HR5.out (i : Int) (k : Int)
            rw [Int.toNat_natCast] at hc hf hst
            rw [outK_set HTo.out hi] at hst
            have HRN := Lib.hid hst
            have hgr2 : gr < g2 := HNE.out gr rfl
            have HTN : Hid (TabP .i64 3 130 (fun j => g2 + 1 + j) a b (W5.setCell ⟨gr, i, none⟩ (.int .i64 (k : Int))) g2 0 0) := by
              refine Lib.hid ⟨blk_far HT5.out.sl (show g2 ≠ gr by omega) _, fun j h1 h2 => blk_far (HT5.out.row j h1 h2) (show _ ≠ gr by omega) _, fun h2 => blk_far (HT5.out.cur h2) (show _ ≠ gr by omega) _⟩
            have HBN := Lib.hid (HB5.out.setCell (p := ⟨gr, i, none⟩) hgr (.int .i64 (k : Int)))
            have HTN2 := Lib.hid (HTo.out.hit HX.out HY.out)
            clear hst hgr hgr2
            go_wp2
            go_roundw
            case rel => exact ⟨i + 1, k + 1, _, by go_num, by go_num, HTN2, HRN, HTN, HBN⟩
            case measure => simp [intOf]; omega
          · have hxy1 : ((x : Int) == (y : Int)) = false := by rw [beq_eq_false_iff_ne]; omega
            have hxy2 : (x == y) = false := by rw [beq_eq_false_iff_ne]; exact hxy
            have HXY := Lib.hid hxy
            clear hxy
            obtain ⟨p1, hp1⟩ : ∃ p, p = g2 + 1 + i := ⟨_, rfl⟩
            obtain ⟨p2, hp2⟩ : ∃ p, p = g2 + 1 + (i + 1) := ⟨_, rfl⟩
            have s1 := HTa.out.slot (j := i) (Nat.zero_le _) (by omega)
            have s2 := HTa.out.slot (j := i + 1) (Nat.zero_le _) (by omega)
            have s3 := HTa.out.whole (j := i + 1) (k := k) (by omega) (by omega)
            have s4 := HTa.out.whole (j := i) (k := k + 1) (by omega) (by omega)
            obtain ⟨lb1, hlb1⟩ : ∃ n, n = b.length + 1 := ⟨_, rfl⟩
            obtain ⟨z, hz⟩ : ∃ z, z = cm a b (i + 1) k := ⟨_, rfl⟩
            obtain ⟨z2, hz2⟩ : ∃ z2, z2 = cm a b i (k + 1) := ⟨_, rfl⟩
            simp only [← hp1, ← hp2, ← hlb1, ← hz, ← hz2] at s1 s2 s3 s4
            have i1 : (i : Int) < (la1 : Int) := by have := HLA.out; omega
            have i2 : (i : Int) + 1 < (la1 : Int) := by have := HLA.out; omega
            have i3 : (k : Int) < (lb1 : Int) := by omega
            have i4 : (k : Int) + 1 < (lb1 : Int) := by omega
            have i5 : (0 : Int) ≤ (i : Int) + 1 := by omega
            have i6 : (0 : Int) ≤ (k : Int) + 1 := by omega
            have i7 : ((i : Int) + 1).toNat = i + 1 := by omega
            have i8 : ((k : Int) + 1).toNat = k + 1 := by omega
            have HZ := Lib.hid hz
            have HZ2 := Lib.hid hz2
            clear hp1 hp2 hz hz2 hlb1
            have w1 : IntKind.i64.wrap ((i : Int) + 1) = (i : Int) + 1 := IntWalk.i64_in _ (by omega)
            have w2 : IntKind.i64.wrap ((k : Int) + 1) = (k : Int) + 1 := IntWalk.i64_in _ (by omega)
            by_cases hzz : z2 ≤ z
            · have hd1 : decide ((z : Int) ≥ (z2 : Int)) = true := by rw [decide_eq_true_eq]; omega
              have HTN2 := Lib.hid (HTo.out.skip HX.out HY.out HXY.out (by rw [← HZ.out, ← HZ2.out]; exact hzz))
              go_wp2_with fail
              go_quiet (fail)
              go_wp2_with fail
              go_quiet (fail)
              clear w1 w2 i5 i6 i7 i8
              go_wp2
              go_roundw
              case rel => exact ⟨i + 1, k, _, by go_num, rfl, HTN2, by rw [← outK_skip HTo.out hi]; exact Lib.hid (pw_own_below HR.out (pw_below_drewN (Below.refl _ _) _)), Lib.hid (HTa.out.moved (fun _ _ h => h)), Lib.hid (pw_below_drewN HBw.out _)⟩
              case measure => simp [intOf]; omega
            · have hd1 : decide ((z : Int) ≥ (z2 : Int)) = false := by rw [decide_eq_false_iff_not]; omega
              have hzz2 : z < z2 := by omega
              have HTN2 := Lib.hid (HTo.out.over HX.out HY.out HXY.out (by rw [← HZ.out, ← HZ2.out]; exact hzz))
              clear hzz
              go_wp2_with fail
              go_quiet (fail)
              go_wp2_with fail
              go_quiet (fail)
              clear w1 w2 i5 i6 i7 i8
              go_wp2
              go_roundw
              case rel => exact ⟨i, k + 1, _, rfl, by go_num, HTN2, Lib.hid (pw_own_below HR.out (pw_below_drewN (Below.refl _ _) _)), Lib.hid (HTa.out.moved (fun _ _ h => h)), Lib.hid (pw_below_drewN HBw.out _)⟩
              case measure => simp [intOf]; omega
        · have HE := Lib.hid (HTo.out.stop (by omega))
          have HRE : Hid (wo.ownsRow w.heap.size 3 1 u5 a.length (encs (Value.int .i64) (matchL a b))) := by rw [HM.out, ← HE.out]; exact HR
          by_cases hi : i < a.length
          · obtain rfl : k = b.length := by omega
            go_wp2
            go_ret
            exact ⟨_, rfl, HRE.out, HBw.out⟩
          · obtain rfl : i = a.length := by omega
            go_wp2
            go_ret
            exact ⟨_, rfl, HRE.out, HBw.out⟩

end Go.Proofs.YtogfkfkejaiecaaGreatDoor.Rf

namespace Go.Proofs.YtogfkfkejaiecaaGreatDoor.Dy
open Go.RowKit Go.Shelf Pl Ut Ln Da Db Dc Dd De Dx Rf Go.Proofs.YtogfkfkejaiecaaGreatDoorW.PrintWords
set_option linter.unusedVariables false
set_option linter.unusedSimpArgs false

set_option maxRecDepth 100000 in
set_option maxHeartbeats 8000000 in
theorem match_long (a b : List Nat) (A A' : Option Addr) (c c' : Nat) (w : World) (hC : Lies w w.heap.size A a) (hC' : Lies w w.heap.size A' b) (hla : a.length ≤ 1000000) (hlb : b.length ≤ 1000000) (hlong : 2000 < a.length ∨ 2000 < b.length) :
    Calls Tryz.prog 132 #[.slice A a.length c, .slice A' b.length c'] w fun e w' => e = .returned (.slice (some ⟨w.heap.size, 0, none⟩) a.length a.length) ∧ RowI w' w.heap.size (matchL a b) ∧ Below w.heap.size w w' := by
  obtain ⟨g, hg⟩ : ∃ g, g = w.heap.size := ⟨_, rfl⟩
  have HC := Lib.hid hC
  have HC' := Lib.hid hC'
  rw [← hg] at HC HC'
  have HG := Lib.hid hg
  have HM := Lib.hid (show matchL a b = matchB a b from by unfold matchL; rw [if_pos hlong])
  have KE := Lib.hid (fun (W : World) (hr : RowI W g (List.replicate a.length (-1))) (hb : Below g w W) => ends_any a b A A' c c' a.length g W g (HC.out.below hb) (HC'.out.below hb) (by omega) (by omega) (Nat.le_refl _) hr)
  clear hC hC' hg
  by_cases h1 : 2000 < a.length
  · have hga : decide ((2000 : Int) < (a.length : Int)) = true := by rw [decide_eq_true_eq]; omega
    clear hlong
    go_enter Tryz.func132, Tryz.ntmps132
    go_wp2_with fail
    refine (none_any a.length (by omega) _).mono ?_
    rintro e W1 ⟨rfl, hr, hb1⟩
    rw [← HG.out] at hr hb1 ⊢
    have HE := Lib.hid (KE.out W1 hr hb1)
    have HB := Lib.hid hb1
    clear hr hb1
    go_wp2_with fail
    refine HE.out.mono ?_
    rintro e W2 ⟨rfl, hr2, hb2⟩
    have HR2 := Lib.hid hr2
    have HB2 := Lib.hid (HB.out.trans hb2)
    clear hr2 hb2
    go_wp2
    go_ret
    rw [← HG.out, HM.out]
    exact ⟨rfl, HR2.out, HB2.out⟩
  · have h2 : 2000 < b.length := by omega
    have hga : decide ((2000 : Int) < (a.length : Int)) = false := by rw [decide_eq_false_iff_not]; omega
    have hgb : decide ((2000 : Int) < (b.length : Int)) = true := by rw [decide_eq_true_eq]; omega
    clear hlong
    go_enter Tryz.func132, Tryz.ntmps132
    go_wp2_with fail
    refine (none_any a.length (by omega) _).mono ?_
    rintro e W1 ⟨rfl, hr, hb1⟩
    rw [← HG.out] at hr hb1 ⊢
    have HE := Lib.hid (KE.out W1 hr hb1)
    have HB := Lib.hid hb1
    clear hr hb1
    go_wp2_with fail
    refine HE.out.mono ?_
    rintro e W2 ⟨rfl, hr2, hb2⟩
    have HR2 := Lib.hid hr2
    have HB2 := Lib.hid (HB.out.trans hb2)
    clear hr2 hb2
    go_wp2
    go_ret
    rw [← HG.out, HM.out]
    exact ⟨rfl, HR2.out, HB2.out⟩
theorem match_any (a b : List Nat) (A A' : Option Addr) (c c' : Nat) (w : World) (hC : Lies w w.heap.size A a) (hC' : Lies w w.heap.size A' b) (hla : a.length ≤ 1000000) (hlb : b.length ≤ 1000000) :
    Calls Tryz.prog 132 #[.slice A a.length c, .slice A' b.length c'] w fun e w' => e = .returned (.slice (some ⟨w.heap.size, 0, none⟩) a.length a.length) ∧ RowI w' w.heap.size (matchL a b) ∧ Below w.heap.size w w' := by
  by_cases h : 2000 < a.length ∨ 2000 < b.length
  · exact match_long a b A A' c c' w hC hC' hla hlb h
  · exact match_short a b A A' c c' w hC hC' (by omega) (by omega)

set_option maxRecDepth 100000 in
set_option maxHeartbeats 8000000 in
theorem rmatch_long (a b : List Nat) (A A' : Option Addr) (c c' : Nat) (w : World) (hC : Lies w w.heap.size A a) (hC' : Lies w w.heap.size A' b) (hla : a.length ≤ 1000000) (hlb : b.length ≤ 1000000) (hlong : 2000 < a.length ∨ 2000 < b.length) :
    Calls Tryz.prog 96 #[.slice A a.length c, .slice A' b.length c'] w fun e w' => ∃ v, e = .returned v ∧ w'.ownsRow w.heap.size 3 1 v a.length (encs (Value.int .i64) (matchL a b)) ∧ Below w.heap.size w w' := by
  obtain ⟨g, hg⟩ : ∃ g, g = w.heap.size := ⟨_, rfl⟩
  have HC := Lib.hid hC
  have HC' := Lib.hid hC'
  rw [← hg] at HC HC'
  have HG := Lib.hid hg
  have HM := Lib.hid (show matchL a b = rowHT a.length b.length (headN a b) (tailN a b) from by unfold matchL; rw [if_pos hlong]; rfl)
  have HLA := Lib.hid hla
  have HLB := Lib.hid hlb
  have HLO := Lib.hid hlong
  clear hC hC' hg hlb hlong
  go_enter Tryz.func96, Tryz.ntmps96
  go_wp2
  go_loopw [5, 6] (fun v i wr => ∃ k : Nat, k ≤ a.length ∧ i = .int .i64 (k : Int) ∧ Hid (kInt.R 3 wr w.heap.size (fun _ => True) v (List.replicate k (-1))) ∧ Below w.heap.size w wr) (fun _ i _ => a.length - (intOf i).toNat)
  case atStart => exact ⟨0, Nat.zero_le _, rfl, Kd.R_nil _ _ _ _ _, Below.refl _ _⟩
  case round =>
    obtain ⟨k, hk, rfl, HR, hB⟩ := hrel
    have hsz := hB.size
    obtain ⟨wo, rfl⟩ : ∃ wo : World, wo = wr := ⟨_, rfl⟩
    by_cases hlt : k < a.length
    · have hk0 : (0 : Int) ≤ (k : Int) := Int.natCast_nonneg _
      go_wp2_with (at_builtin; go_loud (refine Kd.R_append kInt (w0 := w) w.heap.size rfl _ _ 130 3 _ 8 rfl Tryz.underlying130 infoInt rfl (by decide) (by decide) u5 (List.replicate k (-1)) (-1) _ (fun _ => True) (fun _ => False) rfl rfl ?k1 ?k2 ?k3 HR.out hB (by omega) (by rw [List.length_replicate]; omega) ?_))
      case k1 => exact rfl
      case k2 => exact fun _ h => h.elim
      case k3 => exact fun _ _ => trivial
      intro v1 w1 hR1 hb1 hg1 _
      rw [rep_snoc] at hR1
      have HR1 := Lib.hid hR1
      clear hR1 hg1
      go_wp2
      go_roundw
      case rel => exact ⟨k + 1, by omega, by go_num, HR1, hb1⟩
      case measure => simp [intOf]; omega
    · have hke : k = a.length := by omega
      have hown := Kd.own_of_R (enc := Value.int .i64) (h1 := fun _ => rfl) HR.out
      rw [List.length_replicate] at hown
      have hown2 : wo.ownsRow w.heap.size 3 1 u5 a.length (encs (Value.int .i64) (rowH a.length 0)) := by
        rw [← rowH_zero, ← hke]
        exact hown
      have HO := Lib.hid hown2
      have HB := Lib.hid hB
      have hlt2 : ¬ (k : Int) < (a.length : Int) := by omega
      obtain ⟨bb, hbb⟩ : ∃ bb : Bool, bb = true := ⟨_, rfl⟩
      clear hke hown hown2 HR hB hlt
      go_upto_region 6 with fail
      go_cut [28] from 21 to 28 (fun v wc => v = .bool bb ∧ wc = wo)
      case first =>
        subst hbb
        by_cases h1 : 2000 < a.length
        · have hga : decide ((2000 : Int) < (a.length : Int)) = true := by rw [decide_eq_true_eq]; omega
          go_wp2
          go_meet
          exact ⟨rfl, rfl⟩
        · have hga : decide ((2000 : Int) < (a.length : Int)) = false := by rw [decide_eq_false_iff_not]; omega
          have hgb : decide ((2000 : Int) < (b.length : Int)) = true := by rw [decide_eq_true_eq]; have := HLO.out; omega
          go_wp2
          go_meet
          exact ⟨rfl, rfl⟩
      case rest =>
        obtain ⟨rfl, rfl⟩ := hcut
        subst hbb
        go_wp2
        clear hlt2 hsz hk
        obtain ⟨mn, hmn⟩ : ∃ mn : Nat, mn = min a.length b.length := ⟨_, rfl⟩
        have HMN := Lib.hid hmn
        clear hmn
        go_loopw [7] (fun i wr => ∃ n : Nat, n ≤ mn ∧ i = .int .i64 (n : Int) ∧ Hid (headN a b = n + headN (a.drop n) (b.drop n)) ∧ Hid (wr.ownsRow w.heap.size 3 1 u5 a.length (encs (Value.int .i64) (rowH a.length n))) ∧ Hid (Below w.heap.size w wr)) (fun i _ => mn - (intOf i).toNat)
        case atStart => exact ⟨0, Nat.zero_le _, rfl, Lib.hid (by simp), HO, HB⟩
        case round =>
          obtain ⟨n, hn, rfl, HH, HRn, HBn⟩ := hrel
          obtain ⟨wo, rfl⟩ : ∃ wo : World, wo = wr := ⟨_, rfl⟩
          have HN := Lib.hid hn
          obtain ⟨bb, hbb⟩ : ∃ bb : Bool, bb = decide (n < mn ∧ a[n]? = b[n]?) := ⟨_, rfl⟩
          have HBB := Lib.hid hbb
          clear hbb hn
          go_upto_region 8 with fail
          go_cut [49] from 29 to 49 (fun v we => v = .bool bb ∧ ∃ m, we = wo.drewN m)
          case first =>
            by_cases hka : n < a.length
            · have i1 : (n : Int) < (a.length : Int) := by omega
              have d1 : decide ((n : Int) < (a.length : Int)) = true := by rw [decide_eq_true_eq]; omega
              by_cases hkb : n < b.length
              · have i2 : (n : Int) < (b.length : Int) := by omega
                have d2 : decide ((n : Int) < (b.length : Int)) = true := by rw [decide_eq_true_eq]; omega
                obtain ⟨x, hx⟩ : ∃ x, a[n]? = some x := ⟨a[n], List.getElem?_eq_getElem hka⟩
                obtain ⟨y, hy⟩ : ∃ y, b[n]? = some y := ⟨b[n], List.getElem?_eq_getElem hkb⟩
                obtain ⟨ad, hA1, _, p0⟩ := (HC.out.below (by rw [HG.out]; exact HBn.out)) n x hx
                obtain ⟨ad', hA2, _, q0⟩ := (HC'.out.below (by rw [HG.out]; exact HBn.out)) n y hy
                subst hA1 hA2
                have hmn2 : n < mn := by have := HMN.out; omega
                rw [hx, hy] at HBB
                by_cases hxy : x = y
                · subst hxy
                  obtain rfl : bb = true := by rw [HBB.out, decide_eq_true_eq]; exact ⟨hmn2, rfl⟩
                  have hxy1 : ((x : Int) == (x : Int)) = true := by simp
                  clear hx hy hka hkb hmn2
                  go_quiet (fail)
                  go_wp2
                  go_meet
                  exact ⟨rfl, _, rfl⟩
                · have hxy1 : ((x : Int) == (y : Int)) = false := by rw [beq_eq_false_iff_ne]; omega
                  have hxy2 : (x == y) = false := by rw [beq_eq_false_iff_ne]; exact hxy
                  obtain rfl : bb = false := by rw [HBB.out, decide_eq_false_iff_not]; rintro ⟨_, h⟩; exact hxy (Option.some.inj h)
                  clear hx hy hka hkb hxy hmn2
                  go_quiet (fail)
                  go_wp2
                  go_meet
                  exact ⟨rfl, _, rfl⟩
              · have d2 : decide ((n : Int) < (b.length : Int)) = false := by rw [decide_eq_false_iff_not]; omega
                obtain rfl : bb = false := by rw [HBB.out, decide_eq_false_iff_not]; have := HMN.out; exact fun h => hkb (by omega)
                go_quiet (fail)
                go_wp2
                go_meet
                exact ⟨rfl, _, rfl⟩
            · have d1 : decide ((n : Int) < (a.length : Int)) = false := by rw [decide_eq_false_iff_not]; omega
              obtain rfl : bb = false := by rw [HBB.out, decide_eq_false_iff_not]; have := HMN.out; exact fun h => hka (by omega)
              go_quiet (fail)
              go_wp2
              go_meet
              exact ⟨rfl, _, rfl⟩
          case rest =>
            obtain ⟨rfl, m, hm⟩ := hcut
            obtain ⟨wk, rfl⟩ : ∃ wk : World, wk = wc := ⟨_, rfl⟩
            have HRw : Hid (wk.ownsRow w.heap.size 3 1 u5 a.length (encs (Value.int .i64) (rowH a.length n))) := by rw [hm]; exact Lib.hid (pw_own_below HRn.out (pw_below_drewN (Below.refl _ _) _))
            have HBw : Hid (Below w.heap.size w wk) := by rw [hm]; exact Lib.hid (pw_below_drewN HBn.out _)
            clear hm HRn HBn
            cases bb with
            | true =>
              obtain ⟨hlt, heq⟩ := of_decide_eq_true HBB.out.symm
              have hka : n < a.length := by have := HMN.out; omega
              obtain ⟨x, hx⟩ : ∃ x, a[n]? = some x := ⟨a[n], List.getElem?_eq_getElem hka⟩
              have HH2 := Lib.hid (show headN a b = (n + 1) + headN (a.drop (n + 1)) (b.drop (n + 1)) from by rw [HH.out, headN_cons hx (by rw [← heq]; exact hx)]; omega)
              obtain ⟨gr, cr, rfl, hgr, _⟩ := HRw.out.form (by omega)
              obtain ⟨hc, hf⟩ := own_at_of (d := (0 : Int)) HRw.out (n : Int) (by omega) (by omega)
              obtain ⟨hst, _⟩ := own_store_of HRw.out (n : Int) (n : Int)
              rw [Int.toNat_natCast] at hc hf hst
              rw [rowH_set] at hst
              have HS := Lib.hid hst
              have HB3 := Lib.hid (HBw.out.setCell (p := ⟨gr, n, none⟩) hgr (.int .i64 (n : Int)))
              have HLT := Lib.hid hlt
              have i1 : (n : Int) < (a.length : Int) := by omega
              have cadd : IntKind.i64.wrap ((n : Int) + 1) = ((n + 1 : Nat) : Int) := by rw [IntWalk.i64_in _ (by have := HLA.out; omega)]; omega
              clear hst hx heq hlt hka HH hgr HRw
              go_wp2
              go_roundw
              case rel => exact ⟨n + 1, HLT.out, rfl, HH2, HS, HB3⟩
              · have := HLT.out; simp only [intOf]; omega
            | false =>
              have hno := of_decide_eq_false HBB.out.symm
              have HH2 : Hid (headN a b = n) := Lib.hid (by
                rw [HH.out]
                by_cases hlt : n < mn
                · have hka : n < a.length := by have := HMN.out; omega
                  have hkb : n < b.length := by have := HMN.out; omega
                  obtain ⟨x, hx⟩ : ∃ x, a[n]? = some x := ⟨a[n], List.getElem?_eq_getElem hka⟩
                  obtain ⟨y, hy⟩ : ∃ y, b[n]? = some y := ⟨b[n], List.getElem?_eq_getElem hkb⟩
                  rw [headN_stop hx hy (fun e => hno ⟨hlt, by rw [hx, hy, e]⟩)]; rfl
                · rw [headN_end (by have := HMN.out; omega)]; rfl)
              clear hno HBB HH
              have HT0 := Lib.hid (show tailN a b = headN ((a.drop n).reverse) ((b.drop n).reverse) from by unfold tailN; rw [HH2.out])
              obtain ⟨da, hda⟩ : ∃ d, d = a.length - n := ⟨_, rfl⟩
              obtain ⟨db, hdb⟩ : ∃ d, d = b.length - n := ⟨_, rfl⟩
              have HD : Hid (n + da = a.length ∧ n + db = b.length) := Lib.hid (by have := HMN.out; have := HN.out; omega)
              have s1 : IntKind.i64.wrap ((a.length : Int) - (n : Int)) = (da : Int) := by rw [IntWalk.i64_in _ (by have := HMN.out; have := HLA.out; have := HN.out; omega)]; have := HD.out.1; omega
              have s2 : IntKind.i64.wrap ((b.length : Int) - (n : Int)) = (db : Int) := by rw [IntWalk.i64_in _ (by have := HMN.out; have := HLB.out; have := HN.out; omega)]; have := HD.out.2; omega
              clear hda hdb
              have HR3 : Hid (wk.ownsRow w.heap.size 3 1 u5 a.length (encs (Value.int .i64) (rowHT a.length b.length n 0))) := by rw [rowHT_zero]; exact HRw
              clear HRw
              go_wp2
              go_loopw [8] (fun i wr => ∃ t : Nat, t ≤ da ∧ t ≤ db ∧ i = .int .i64 (t : Int) ∧ Hid (tailN a b = t + headN (((a.drop n).reverse).drop t) (((b.drop n).reverse).drop t)) ∧ Hid (wr.ownsRow w.heap.size 3 1 u5 a.length (encs (Value.int .i64) (rowHT a.length b.length n t))) ∧ Hid (Below w.heap.size w wr)) (fun i _ => da - (intOf i).toNat)
              case atStart => exact ⟨0, Nat.zero_le _, Nat.zero_le _, rfl, Lib.hid (by rw [HT0.out]; simp), HR3, HBw⟩
              case round =>
                obtain ⟨t, ht, ht', rfl, HTT, HRt, HBt⟩ := hrel
                obtain ⟨wo, rfl⟩ : ∃ wo : World, wo = wr := ⟨_, rfl⟩
                have HT := Lib.hid (And.intro ht ht')
                clear ht ht'
                obtain ⟨bb, hbb⟩ : ∃ bb : Bool, bb = decide (t < da ∧ t < db ∧ a[a.length - 1 - t]? = b[b.length - 1 - t]?) := ⟨_, rfl⟩
                have HBB := Lib.hid hbb
                clear hbb
                go_upto_region 12 with fail
                go_cut [88] from 56 to 88 (fun v we => v = .bool bb ∧ ∃ m, we = wo.drewN m)
                case first =>
                  by_cases hlt : t < da
                  · have i1 : (t : Int) < (da : Int) := by omega
                    have d1 : decide ((t : Int) < (da : Int)) = true := by rw [decide_eq_true_eq]; omega
                    by_cases hlt2 : t < db
                    · have i2 : (t : Int) < (db : Int) := by omega
                      have d2 : decide ((t : Int) < (db : Int)) = true := by rw [decide_eq_true_eq]; omega
                      have q1 := HD.out.1
                      have q2 := HD.out.2
                      obtain ⟨ia, hia⟩ : ∃ ia, ia = a.length - 1 - t := ⟨_, rfl⟩
                      obtain ⟨ib, hib⟩ : ∃ ib, ib = b.length - 1 - t := ⟨_, rfl⟩
                      have hka : ia < a.length := by omega
                      have hkb : ib < b.length := by omega
                      have g1 : IntKind.i64.wrap ((a.length : Int) - 1) = (a.length : Int) - 1 := IntWalk.i64_in _ (by have := HLA.out; omega)
                      have g2 : IntKind.i64.wrap ((b.length : Int) - 1) = (b.length : Int) - 1 := IntWalk.i64_in _ (by have := HLB.out; omega)
                      have g3 : IntKind.i64.wrap ((a.length : Int) - 1 - (t : Int)) = (ia : Int) := by rw [IntWalk.i64_in _ (by have := HLA.out; omega)]; omega
                      have g4 : IntKind.i64.wrap ((b.length : Int) - 1 - (t : Int)) = (ib : Int) := by rw [IntWalk.i64_in _ (by have := HLB.out; omega)]; omega
                      obtain ⟨x, hx⟩ : ∃ x, a[ia]? = some x := ⟨a[ia], List.getElem?_eq_getElem hka⟩
                      obtain ⟨y, hy⟩ : ∃ y, b[ib]? = some y := ⟨b[ib], List.getElem?_eq_getElem hkb⟩
                      obtain ⟨ad, hA1, _, p0⟩ := (HC.out.below (by rw [HG.out]; exact HBt.out)) ia x hx
                      obtain ⟨ad', hA2, _, q0⟩ := (HC'.out.below (by rw [HG.out]; exact HBt.out)) ib y hy
                      subst hA1 hA2
                      rw [← hia, ← hib, hx, hy] at HBB
                      have j1 : (ia : Int) < (a.length : Int) := by omega
                      have j2 : (ib : Int) < (b.length : Int) := by omega
                      clear hx hy hia hib hka hkb q1 q2
                      by_cases hxy : x = y
                      · subst hxy
                        obtain rfl : bb = true := by rw [HBB.out, decide_eq_true_eq]; exact ⟨hlt, hlt2, rfl⟩
                        have hxy1 : ((x : Int) == (x : Int)) = true := by simp
                        clear hlt hlt2
                        go_quiet (fail)
                        go_wp2
                        go_meet
                        exact ⟨rfl, _, rfl⟩
                      · have hxy1 : ((x : Int) == (y : Int)) = false := by rw [beq_eq_false_iff_ne]; omega
                        have hxy2 : (x == y) = false := by rw [beq_eq_false_iff_ne]; exact hxy
                        obtain rfl : bb = false := by rw [HBB.out, decide_eq_false_iff_not]; rintro ⟨_, _, h⟩; exact hxy (Option.some.inj h)
                        clear hlt hlt2 hxy
                        go_quiet (fail)
                        go_wp2
                        go_meet
                        exact ⟨rfl, _, rfl⟩
                    · have d2 : decide ((t : Int) < (db : Int)) = false := by rw [decide_eq_false_iff_not]; omega
                      obtain rfl : bb = false := by rw [HBB.out, decide_eq_false_iff_not]; exact fun h => hlt2 h.2.1
                      go_quiet (fail)
                      go_wp2
                      go_meet
                      exact ⟨rfl, _, rfl⟩
                  · have d1 : decide ((t : Int) < (da : Int)) = false := by rw [decide_eq_false_iff_not]; omega
                    obtain rfl : bb = false := by rw [HBB.out, decide_eq_false_iff_not]; exact fun h => hlt h.1
                    go_quiet (fail)
                    go_wp2
                    go_meet
                    exact ⟨rfl, _, rfl⟩
                case rest =>
                  obtain ⟨rfl, m2, hm2⟩ := hcut
                  have HR4 : Hid (wc.ownsRow w.heap.size 3 1 u5 a.length (encs (Value.int .i64) (rowHT a.length b.length n t))) := by rw [hm2]; exact Lib.hid (pw_own_below HRt.out (pw_below_drewN (Below.refl _ _) _))
                  have HB4 : Hid (Below w.heap.size w wc) := by rw [hm2]; exact Lib.hid (pw_below_drewN HBt.out _)
                  clear hm2 HRt HBt
                  cases bb with
                  | true =>
                    obtain ⟨hlt, hlt2, heq⟩ := of_decide_eq_true HBB.out.symm
                    have q1 := HD.out.1
                    have q2 := HD.out.2
                    obtain ⟨x, hx⟩ : ∃ x, a[a.length - 1 - t]? = some x := ⟨_, List.getElem?_eq_getElem (by omega)⟩
                    have hra : ((a.drop n).reverse)[t]? = some x := by rw [rev_at (by omega)]; exact hx
                    have hrb : ((b.drop n).reverse)[t]? = some x := by rw [rev_at (by omega), ← heq]; exact hx
                    have HTT2 := Lib.hid (show tailN a b = (t + 1) + headN (((a.drop n).reverse).drop (t + 1)) (((b.drop n).reverse).drop (t + 1)) from by rw [HTT.out, headN_cons hra hrb]; omega)
                    obtain ⟨ia, hia⟩ : ∃ ia, ia = a.length - 1 - t := ⟨_, rfl⟩
                    obtain ⟨ib, hib⟩ : ∃ ib, ib = b.length - 1 - t := ⟨_, rfl⟩
                    have g1 : IntKind.i64.wrap ((a.length : Int) - 1) = (a.length : Int) - 1 := IntWalk.i64_in _ (by have := HLA.out; omega)
                    have g2 : IntKind.i64.wrap ((b.length : Int) - 1) = (b.length : Int) - 1 := IntWalk.i64_in _ (by have := HLB.out; omega)
                    have g3 : IntKind.i64.wrap ((a.length : Int) - 1 - (t : Int)) = (ia : Int) := by rw [IntWalk.i64_in _ (by have := HLA.out; omega)]; omega
                    have g4 : IntKind.i64.wrap ((b.length : Int) - 1 - (t : Int)) = (ib : Int) := by rw [IntWalk.i64_in _ (by have := HLB.out; omega)]; omega
                    have cadd : IntKind.i64.wrap ((t : Int) + 1) = ((t + 1 : Nat) : Int) := by rw [IntWalk.i64_in _ (by have := HLA.out; omega)]; omega
                    obtain ⟨gr, cr, rfl, hgr, _⟩ := HR4.out.form (by omega)
                    obtain ⟨hc, hf⟩ := own_at_of (d := (0 : Int)) HR4.out (ia : Int) (by omega) (by omega)
                    obtain ⟨hst, _⟩ := own_store_of HR4.out (ia : Int) (ib : Int)
                    rw [Int.toNat_natCast] at hc hf hst
                    have hst2 : (rowHT a.length b.length n t).set ia (ib : Int) = rowHT a.length b.length n (t + 1) := by rw [hia, hib]; exact rowHT_set _ _ _ _ (by omega) (by omega)
                    rw [hst2] at hst
                    have j1 : (ia : Int) < (a.length : Int) := by omega
                    have HS := Lib.hid hst
                    have HBN := Lib.hid (HB4.out.setCell (p := ⟨gr, ia, none⟩) hgr (.int .i64 (ib : Int)))
                    have HLT := Lib.hid (And.intro hlt hlt2)
                    clear hst hst2 hx hra hrb heq hlt hlt2 q1 q2 HBB hia hib hgr HR4
                    go_wp2
                    go_roundw
                    case rel => exact ⟨t + 1, HLT.out.1, HLT.out.2, rfl, HTT2, HS, HBN⟩
                    · have := HLT.out.1; simp only [intOf]; omega
                  | false =>
                    have hno := of_decide_eq_false HBB.out.symm
                    have HTE : Hid (tailN a b = t) := Lib.hid (by
                      rw [HTT.out]
                      have q1 := HD.out.1
                      have q2 := HD.out.2
                      by_cases hlt : t < da ∧ t < db
                      · obtain ⟨x, hx⟩ : ∃ x, a[a.length - 1 - t]? = some x := ⟨_, List.getElem?_eq_getElem (by omega)⟩
                        obtain ⟨y, hy⟩ : ∃ y, b[b.length - 1 - t]? = some y := ⟨_, List.getElem?_eq_getElem (by omega)⟩
                        have hra : ((a.drop n).reverse)[t]? = some x := by rw [rev_at (by omega)]; exact hx
                        have hrb : ((b.drop n).reverse)[t]? = some y := by rw [rev_at (by omega)]; exact hy
                        rw [headN_stop hra hrb (fun e => hno ⟨hlt.1, hlt.2, by rw [hx, hy, e]⟩)]; rfl
                      · rw [headN_end (by simp only [List.length_reverse, List.length_drop]; omega)]; rfl)
                    clear hno HBB HTT s1 s2
                    go_wp2
                    go_ret
                    refine ⟨_, rfl, ?_, HB4.out⟩
                    rw [HM.out, HH2.out, HTE.out]
                    exact HR4.out

theorem rmatch_any (a b : List Nat) (A A' : Option Addr) (c c' : Nat) (w : World) (hC : Lies w w.heap.size A a) (hC' : Lies w w.heap.size A' b) (hla : a.length ≤ 1000000) (hlb : b.length ≤ 1000000) :
    Calls Tryz.prog 96 #[.slice A a.length c, .slice A' b.length c'] w fun e w' => ∃ v, e = .returned v ∧ w'.ownsRow w.heap.size 3 1 v a.length (encs (Value.int .i64) (matchL a b)) ∧ Below w.heap.size w w' := by
  by_cases h : 2000 < a.length ∨ 2000 < b.length
  · exact rmatch_long a b A A' c c' w hC hC' hla hlb h
  · exact rmatch_short a b A A' c c' w hC hC' (by omega) (by omega)

end Go.Proofs.YtogfkfkejaiecaaGreatDoor.Dy
