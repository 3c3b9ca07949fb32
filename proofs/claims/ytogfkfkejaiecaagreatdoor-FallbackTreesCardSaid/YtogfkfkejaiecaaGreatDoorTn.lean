/- Contracts of the reference ref08: parts. Contract of the reference ref08: Lines, where ref07.Parts is told. Contract of the reference ref07: Parts, where ref05.Numbers and ref07.Chunks are told. -/
import Derived.Test.YtogfkfkejaiecaaGreatDoorTk
import Derived.BigRegion
import Derived.Deep.CutRange
import Derived.Test.YtogfkfkejaiecaaGreatDoorTm
import Derived.Test.YtogfkfkejaiecaaGreatDoorTb

namespace Go.Proofs.YtogfkfkejaiecaaGreatDoor.Eb
open Go.RowKit Go.Shelf Pl Ut Ln Mr Da Db Dc Dd De Di Dk Dl Dm Dn Ea Go.Proofs.YtogfkfkejaiecaaGreatDoorW.PrintWords
set_option linter.unusedVariables false
set_option linter.unusedSimpArgs false
attribute [local go_sem] B_append B_extract B_toList B_size take_end

set_option maxRecDepth 100000 in
set_option maxHeartbeats 8000000 in
theorem rparts_of (o a b : List Str) (A1 A2 A3 : Option Addr) (c1 c2 c3 : Nat) (w : World) (h1 : LiesS w w.heap.size A1 o) (h2 : LiesS w w.heap.size A2 a) (h3 : LiesS w w.heap.size A3 b)
    (hN : Calls Tryz.prog 55 #[.slice A1 o.length c1, .slice A2 a.length c2, .slice A3 b.length c3] w fun e w' => ∃ v, e = .returned v ∧ kCk.R 99 w' w.heap.size (fun _ => True) v (partsC o a b) ∧ Below w.heap.size w w')
    (l1 : o.length ≤ c1) (l2 : a.length ≤ c2) (l3 : b.length ≤ c3) (lo : o.length ≤ 3000) (la : a.length ≤ 3000) (lb : b.length ≤ 3000) (tO : (joinL o).length ≤ 100000) (tA : (joinL a).length ≤ 100000) (tB : (joinL b).length ≤ 100000) :
    Calls Tryz.prog 35 #[.slice A1 o.length c1, .slice A2 a.length c2, .slice A3 b.length c3] w fun e w' => ∃ v, e = .returned v ∧ kPart.R 55 w' w.heap.size (fun _ => True) v (partsL o a b) ∧ Below w.heap.size w w' := by
  obtain ⟨hlen, hall⟩ := partsC_facts o a b
  have hP := partsL_eq o a b
  obtain ⟨cs, hcs⟩ : ∃ cs, cs = partsC o a b := ⟨_, rfl⟩
  rw [← hcs] at hN hlen hall hP
  rw [hP]
  have HN := Lib.hid hN
  have HALL := Lib.hid hall
  have H1 := Lib.hid h1
  have H2 := Lib.hid h2
  have H3 := Lib.hid h3
  have hn6 : cs.length ≤ 9000 := by omega
  clear hN hall hP h1 h2 h3 hcs hlen
  have HFI := Lib.hid (partOf_fits o a b tO tA tB)
  go_enter Tryz.func35, Tryz.ntmps35
  go_wp2_with (go_at_call 55; refine HN.out.mono ?_; rintro e W2 ⟨v, rfl, hR, hb2⟩; obtain ⟨AC, cc, rfl, lc, hC⟩ := Kd.R_reads hR)
  have HC := Lib.hid hC
  have HB2 := Lib.hid hb2
  have hbz := hb2.size
  clear hR hb2 HN
  go_loopw [7, 9] (fun v i wr => ∃ k : Nat, k ≤ cs.length ∧ i = .int .i64 (k : Int) ∧ Hid (kPart.R 55 wr W2.heap.size (fun _ => True) v ((cs.take k).foldl (fun out c => addPart out (partOf o a b c)) [])) ∧ Hid (Below W2.heap.size W2 wr)) (fun v i _ => cs.length - (intOf i).toNat)
  case atStart => exact ⟨0, by omega, rfl, Lib.hid (Kd.R_nil _ _ _ _ _), Lib.hid (Below.refl _ _)⟩
  case round =>
    obtain ⟨k, hk, rfl, HR, HB⟩ := hrel
    rcases Nat.eq_or_lt_of_le hk with hk0 | hk0
    · have hlt : ¬ (k : Int) < (cs.length : Int) := by omega
      have HF := Lib.hid (show (cs.take k).foldl (fun out c => addPart out (partOf o a b c)) [] = cs.foldl (fun out c => addPart out (partOf o a b c)) [] from by rw [hk0, List.take_length])
      have HRz := Lib.hid (Kd.R_lower HR.out hbz)
      have HBz := Lib.hid (HB2.out.trans (HB.out.mono hbz))
      go_wp2
      go_ret
      exact ⟨_, rfl, by rw [← HF.out]; exact HRz.out, HBz.out⟩
    · have hlt : (k : Int) < (cs.length : Int) := by omega
      obtain ⟨x, hx⟩ : ∃ x, cs[k]? = some x := ⟨_, List.getElem?_eq_getElem hk0⟩
      obtain ⟨ad, rfl, e0, hca⟩ := at_ck (Kd.C_below HC.out HB.out) k hk0 x hx
      have e1 := hca 1 _ (by omega) rfl
      have e2 := hca 2 _ (by omega) rfl
      have e3 := hca 3 _ (by omega) rfl
      have e4 := hca 4 _ (by omega) rfl
      have e5 := hca 5 _ (by omega) rfl
      have e6 := hca 6 _ (by omega) rfl
      clear hca
      obtain ⟨x1, x2, x3, x4, x5, x6, x7⟩ := HALL.out x (List.mem_of_getElem? hx)
      obtain ⟨Z1, hZ1⟩ : ∃ Z1, Z1 = if c1 = x.o1 then A1 else A1.map (·.add x.o1) := ⟨_, rfl⟩
      obtain ⟨Z2, hZ2⟩ : ∃ Z2, Z2 = if c2 = x.a1 then A2 else A2.map (·.add x.a1) := ⟨_, rfl⟩
      obtain ⟨Z3, hZ3⟩ : ∃ Z3, Z3 = if c3 = x.b1 then A3 else A3.map (·.add x.b1) := ⟨_, rfl⟩
      have q1 := fun W => cut_strs A1 o.length c1 x.o1 x.o2 x1 x2 l1 W
      have q2 := fun W => cut_strs A2 a.length c2 x.a1 x.a2 x3 x4 l2 W
      have q3 := fun W => cut_strs A3 b.length c3 x.b1 x.b2 x5 x6 l3 W
      rw [← hZ1] at q1
      rw [← hZ2] at q2
      rw [← hZ3] at q3
      have y1 := Lib.hid (LiesS.cut H1.out x1 x2 l1)
      have y2 := Lib.hid (LiesS.cut H2.out x3 x4 l2)
      have y3 := Lib.hid (LiesS.cut H3.out x5 x6 l3)
      rw [← hZ1] at y1
      rw [← hZ2] at y2
      rw [← hZ3] at y3
      obtain ⟨N1, hN1⟩ : ∃ N1, N1 = x.o2 - x.o1 := ⟨_, rfl⟩
      obtain ⟨N2, hN2⟩ : ∃ N2, N2 = x.a2 - x.a1 := ⟨_, rfl⟩
      obtain ⟨N3, hN3⟩ : ∃ N3, N3 = x.b2 - x.b1 := ⟨_, rfl⟩
      obtain ⟨D1, hD1⟩ : ∃ D1, D1 = c1 - x.o1 := ⟨_, rfl⟩
      obtain ⟨D2, hD2⟩ : ∃ D2, D2 = c2 - x.a1 := ⟨_, rfl⟩
      obtain ⟨D3, hD3⟩ : ∃ D3, D3 = c3 - x.b1 := ⟨_, rfl⟩
      have m1 := cutL_length o x.o1 x.o2 x2
      have m2 := cutL_length a x.a1 x.a2 x4
      have m3 := cutL_length b x.b1 x.b2 x6
      rw [← hN1] at m1 q1
      rw [← hN2] at m2 q2
      rw [← hN3] at m3 q3
      rw [← hD1] at q1
      rw [← hD2] at q2
      rw [← hD3] at q3
      have t1 := joinL_cut o x.o1 x.o2
      have t2 := joinL_cut a x.a1 x.a2
      have t3 := joinL_cut b x.b1 x.b2
      obtain ⟨jo, hjo⟩ : ∃ s, s = joinL (cutL o x.o1 x.o2) := ⟨_, rfl⟩
      obtain ⟨ja, hja⟩ : ∃ s, s = joinL (cutL a x.a1 x.a2) := ⟨_, rfl⟩
      obtain ⟨jb, hjb⟩ : ∃ s, s = joinL (cutL b x.b1 x.b2) := ⟨_, rfl⟩
      have hwr : Below w.heap.size w wr := HB2.out.trans (HB.out.mono hbz)
      have join : ∀ (Z : Option Addr) (N D : Nat) (s : List Str) (W' : World), LiesS w w.heap.size Z s → s.length = N → N ≤ 3000 → (joinL s).length ≤ 100000 → Below wr.heap.size wr W' →
          Calls Tryz.prog 56 #[.slice Z N D] W' fun e w' => e = .returned (.string (B (joinL s))) ∧ w' = W' := by
        intro Z N D s W' h hn hn2 ht hb
        subst hn
        have hw : Below w.heap.size w W' := hwr.trans (hb.mono hwr.size)
        exact rjoin_any s Z D W' ((h.below hw).up hw.size) (by omega) (by omega)
      have KJ : Hid (∀ (Z : Option Addr) (N D : Nat) (s : Str) (W' : World), (Z = Z1 ∧ N = N1 ∧ D = D1 ∧ s = jo ∨ Z = Z2 ∧ N = N2 ∧ D = D2 ∧ s = ja ∨ Z = Z3 ∧ N = N3 ∧ D = D3 ∧ s = jb) → Below wr.heap.size wr W' →
          Calls Tryz.prog 56 #[.slice Z N D] W' fun e w' => e = .returned (.string (B s)) ∧ w' = W') := Lib.hid (by
        intro Z N D s W' hz hb
        rcases hz with ⟨rfl, rfl, rfl, rfl⟩ | ⟨rfl, rfl, rfl, rfl⟩ | ⟨rfl, rfl, rfl, rfl⟩
        · rw [hjo]; exact join _ _ _ _ _ y1.out m1 (by omega) (by omega) hb
        · rw [hja]; exact join _ _ _ _ _ y2.out m2 (by omega) (by omega) hb
        · rw [hjb]; exact join _ _ _ _ _ y3.out m3 (by omega) (by omega) hb)
      have HJ := Lib.hid (And.intro hjo (And.intro hja hjb))
      clear join hjo hja hjb t1 t2 t3 m1 m2 m3 hN1 hN2 hN3 hD1 hD2 hD3 y1 y2 y3 hZ1 hZ2 hZ3 H1 H2 H3 tO tA tB HALL hC HC hwr
      obtain ⟨z1, z2, z3⟩ := HJ.out
      have Q1 := Lib.hid z1
      have Q2 := Lib.hid z2
      have Q3 := Lib.hid z3
      clear z1 z2 z3
      obtain ⟨P, hP⟩ : ∃ P, P = partOf o a b x := ⟨_, rfl⟩
      obtain ⟨out, hout⟩ : ∃ out, out = (cs.take k).foldl (fun out c => addPart out (partOf o a b c)) [] := ⟨_, rfl⟩
      rw [← hout] at HR
      have HNX : Hid ((cs.take (k + 1)).foldl (fun out c => addPart out (partOf o a b c)) [] = addPart out P) := Lib.hid (by rw [List.take_add_one, hx, hout, hP]; simp)
      have hol : out.length ≤ k := by rw [hout]; exact Nat.le_trans (addParts_length _ _) (by rw [List.length_take]; exact Nat.min_le_left _ _)
      have HFO : Hid (∀ q ∈ out, Fits (k * 100000) q) := Lib.hid (fun q hq => by
        rw [hout] at hq
        have := addParts_fits (T := 100000) (partOf o a b) HFI.out (cs.take k) [] 0 (fun _ h => by cases h) q hq
        rw [List.length_take, Nat.min_eq_left hk, Nat.zero_add] at this
        exact this)
      have HFP : Hid (Fits 100000 P) := Lib.hid (by rw [hP]; exact HFI.out x)
      have cadd : IntKind.i64.wrap ((k : Int) + 1) = ((k + 1 : Nat) : Int) := by rw [IntWalk.i64_in _ (by omega)]; omega
      have HPP := Lib.hid hP
      have HK := Lib.hid hk0
      have hk6 : k ≤ 9000 := by omega
      clear hP hout hx x1 x2 x3 x4 x5 x6 x7 hk0 hk
      by_cases hk4 : x.kind = 4
      · have i4 : (x.kind : Int) = 4 := by omega
        have i4b : ((x.kind : Int) == 4) = true := by simp [i4]
        have HPE := Lib.hid (show P = ⟨true, jo, ja, jb⟩ by rw [HPP.out]; unfold partOf; rw [if_pos hk4, Q1.out, Q2.out, Q3.out])
        rw [HPE.out] at HNX
        go_upto_region 13 with (go_at_call 56; refine (KJ.out _ _ _ _ _ (by first | exact .inl ⟨rfl, rfl, rfl, rfl⟩ | exact .inr (.inl ⟨rfl, rfl, rfl, rfl⟩) | exact .inr (.inr ⟨rfl, rfl, rfl, rfl⟩)) (below_alloc (below_alloc (Below.refl _ _) _) _)).mono ?_; rintro e wj ⟨rfl, rfl⟩)
        obtain ⟨A0, c0, rfl, hc0, hC0⟩ := Kd.R_reads HR.out
        clear hC0
        obtain ⟨wc, hwc⟩ : ∃ wc, wc = ((wr.alloc (.cells #[.int .i64 4, .int .i64 (x.o1 : Int), .int .i64 (x.o2 : Int), .int .i64 (x.a1 : Int), .int .i64 (x.a2 : Int), .int .i64 (x.b1 : Int), .int .i64 (x.b2 : Int)] 99)).alloc (.cells #[.bool true, .string (B jo), .string (B ja), .string (B jb)] 55)) := ⟨_, rfl⟩
        rw [← hwc]
        have hbw : Below wr.heap.size wr wc := by rw [hwc]; exact below_alloc (below_alloc (Below.refl _ _) _) _
        have hg2 : wc.heap[wr.heap.size + 1]? = some (.cells #[.bool true, .string (B jo), .string (B ja), .string (B jb)] 55 (0, 0)) := by rw [hwc]; exact blk_new1 _ _ _
        have HRw := Lib.hid (Kd.R_below HR.out hbw)
        have HBc : Hid (Below W2.heap.size W2 wc) := Lib.hid (HB.out.trans (hbw.mono HB.out.size))
        have HZc : Hid (W2.heap.size ≤ wc.heap.size) := Lib.hid HBc.out.size
        have hzg : W2.heap.size ≤ wr.heap.size + 1 := by have := HB.out.size; omega
        have p0 : wc.cell? ⟨wr.heap.size + 1, 0, none⟩ = some (.bool true) := by rw [blk_cell hg2]; rfl
        have p1 : wc.cell? ⟨wr.heap.size + 1, 1, none⟩ = some (.string (B jo)) := by rw [blk_cell hg2]; rfl
        have p2 : wc.cell? ⟨wr.heap.size + 1, 2, none⟩ = some (.string (B ja)) := by rw [blk_cell hg2]; rfl
        have p3 : wc.cell? ⟨wr.heap.size + 1, 3, none⟩ = some (.string (B jb)) := by rw [blk_cell hg2]; rfl
        have pl := blk_lt hg2
        clear HR HB hbw hg2 hwc KJ q1 q2 q3 HJ HFI
        go_wp2_with (at_builtin; go_loud (refine Kd.R_append kPart (w0 := W2) W2.heap.size rfl _ _ 41 55 _ 56 rfl Tryz.underlying41 infoPart rfl (by decide) (by decide) (.slice A0 out.length c0) out ⟨true, jo, ja, jb⟩ (partCells ⟨true, jo, ja, jb⟩) (fun _ => True) (fun _ => False) rfl rfl (kPart_mk _ _ _ _) (fun _ h => h.elim) (fun _ _ => trivial) HRw.out HBc.out HZc.out (by omega) ?_; intro v1 w1 hR1 hb1 hg1 hat1))
        go_roundw
        case rel =>
          exact ⟨k + 1, HK.out, rfl, Lib.hid (by rw [HNX.out, addPart_clash _ _ rfl]; exact hR1), Lib.hid hb1⟩
        · have := HK.out; simp only [intOf]; omega
      · have i4 : ¬ (x.kind : Int) = 4 := by omega
        have i4b : ((x.kind : Int) == 4) = false := by simp; omega
        by_cases hk2 : x.kind = 2
        · have i2 : (x.kind : Int) = 2 := by omega
          have HPE := Lib.hid (show P = ⟨false, jo, jb, jb⟩ by rw [HPP.out]; unfold partOf; rw [if_neg hk4, if_pos hk2, Q1.out, Q3.out])
          rw [HPE.out] at HNX HFP
          rcases List.eq_nil_or_concat out with rfl | ⟨pre, l, rfl⟩
          · obtain ⟨A0, c0, rfl, hc0, hC0⟩ := Kd.R_reads HR.out
            clear hC0
            go_upto_region 16 with (go_at_call 56; refine (KJ.out _ _ _ _ _ (by first | exact .inl ⟨rfl, rfl, rfl, rfl⟩ | exact .inr (.inl ⟨rfl, rfl, rfl, rfl⟩) | exact .inr (.inr ⟨rfl, rfl, rfl, rfl⟩)) (below_alloc (below_alloc (Below.refl _ _) _) _)).mono ?_; rintro e wj ⟨rfl, rfl⟩)
            obtain ⟨wc, hwc⟩ : ∃ wc, wc = ((wr.alloc (.cells #[.int .i64 2, .int .i64 (x.o1 : Int), .int .i64 (x.o2 : Int), .int .i64 (x.a1 : Int), .int .i64 (x.a2 : Int), .int .i64 (x.b1 : Int), .int .i64 (x.b2 : Int)] 99)).alloc (.cells #[.bool false, .string (B jo), .string (B jb), .string (B jb)] 55)) := ⟨_, rfl⟩
            rw [← hwc]
            have hbw : Below wr.heap.size wr wc := by rw [hwc]; exact below_alloc (below_alloc (Below.refl _ _) _) _
            have hg2 : wc.heap[wr.heap.size + 1]? = some (.cells #[.bool false, .string (B jo), .string (B jb), .string (B jb)] 55 (0, 0)) := by rw [hwc]; exact blk_new1 _ _ _
            have HRw := Lib.hid (Kd.R_below HR.out hbw)
            have HBc : Hid (Below W2.heap.size W2 wc) := Lib.hid (HB.out.trans (hbw.mono HB.out.size))
            have HZc : Hid (W2.heap.size ≤ wc.heap.size) := Lib.hid HBc.out.size
            have hzg : W2.heap.size ≤ wr.heap.size + 1 := by have := HB.out.size; omega
            have p0 : wc.cell? ⟨wr.heap.size + 1, 0, none⟩ = some (.bool false) := by rw [blk_cell hg2]; rfl
            have p1 : wc.cell? ⟨wr.heap.size + 1, 1, none⟩ = some (.string (B jo)) := by rw [blk_cell hg2]; rfl
            have p2 : wc.cell? ⟨wr.heap.size + 1, 2, none⟩ = some (.string (B jb)) := by rw [blk_cell hg2]; rfl
            have p3 : wc.cell? ⟨wr.heap.size + 1, 3, none⟩ = some (.string (B jb)) := by rw [blk_cell hg2]; rfl
            have pl := blk_lt hg2
            clear HR HB hbw hg2 hwc KJ q1 q2 q3 HJ HFI
            go_wp2_with (at_builtin; go_loud (refine Kd.R_append kPart (w0 := W2) W2.heap.size rfl _ _ 41 55 _ 56 rfl Tryz.underlying41 infoPart rfl (by decide) (by decide) (.slice A0 0 c0) [] ⟨false, jo, jb, jb⟩ (partCells ⟨false, jo, jb, jb⟩) (fun _ => True) (fun _ => False) rfl rfl (kPart_mk _ _ _ _) (fun _ h => h.elim) (fun _ _ => trivial) HRw.out HBc.out HZc.out (by (simp <;> omega)) ?_; intro v1 w1 hR1 hb1 hg1 hat1))
            go_roundw
            case rel =>
              exact ⟨k + 1, HK.out, rfl, Lib.hid (by rw [HNX.out, addPart_nil]; exact hR1), Lib.hid hb1⟩
            · have := HK.out; simp only [intOf]; omega
          · rw [List.concat_eq_append] at HR HNX hol HFO
            obtain ⟨gr, cr, rfl, hgr, _⟩ := Kd.R_form HR.out (by simp)
            obtain ⟨M, hM⟩ : ∃ M, M = pre.length := ⟨_, rfl⟩
            obtain ⟨N, hN⟩ : ∃ N, N = M + 1 := ⟨_, rfl⟩
            have hlN : (pre ++ [l]).length = N := by simp; omega
            rw [hlN] at HR hol ⊢
            obtain ⟨lk, lo', la', lb'⟩ := l
            have i1 : (0 : Int) < (N : Int) := by omega
            have i2n : IntKind.i64.wrap ((N : Int) - 1) = (M : Int) := by rw [IntWalk.i64_in _ (by omega)]; omega
            have i3 : (M : Int) < (N : Int) := by omega
            have HM := Lib.hid hM
            have HN := Lib.hid hN
            have HLN := Lib.hid hlN
            clear hM hN hlN
            go_upto_region 16 with (go_at_call 56; refine (KJ.out _ _ _ _ _ (by first | exact .inl ⟨rfl, rfl, rfl, rfl⟩ | exact .inr (.inl ⟨rfl, rfl, rfl, rfl⟩) | exact .inr (.inr ⟨rfl, rfl, rfl, rfl⟩)) (below_alloc (below_alloc (Below.refl _ _) _) _)).mono ?_; rintro e wj ⟨rfl, rfl⟩)
            obtain ⟨wc, hwc⟩ : ∃ wc, wc = ((wr.alloc (.cells #[.int .i64 2, .int .i64 (x.o1 : Int), .int .i64 (x.o2 : Int), .int .i64 (x.a1 : Int), .int .i64 (x.a2 : Int), .int .i64 (x.b1 : Int), .int .i64 (x.b2 : Int)] 99)).alloc (.cells #[.bool false, .string (B jo), .string (B jb), .string (B jb)] 55)) := ⟨_, rfl⟩
            rw [← hwc]
            have hbw : Below wr.heap.size wr wc := by rw [hwc]; exact below_alloc (below_alloc (Below.refl _ _) _) _
            have hg2 : wc.heap[wr.heap.size + 1]? = some (.cells #[.bool false, .string (B jo), .string (B jb), .string (B jb)] 55 (0, 0)) := by rw [hwc]; exact blk_new1 _ _ _
            have HRw := Lib.hid (Kd.R_below HR.out hbw)
            have HBc : Hid (Below W2.heap.size W2 wc) := Lib.hid (HB.out.trans (hbw.mono HB.out.size))
            have HZc : Hid (W2.heap.size ≤ wc.heap.size) := Lib.hid HBc.out.size
            have hzg : W2.heap.size ≤ wr.heap.size + 1 := by have := HB.out.size; omega
            have p0 : wc.cell? ⟨wr.heap.size + 1, 0, none⟩ = some (.bool false) := by rw [blk_cell hg2]; rfl
            have p1 : wc.cell? ⟨wr.heap.size + 1, 1, none⟩ = some (.string (B jo)) := by rw [blk_cell hg2]; rfl
            have p2 : wc.cell? ⟨wr.heap.size + 1, 2, none⟩ = some (.string (B jb)) := by rw [blk_cell hg2]; rfl
            have p3 : wc.cell? ⟨wr.heap.size + 1, 3, none⟩ = some (.string (B jb)) := by rw [blk_cell hg2]; rfl
            have pl := blk_lt hg2
            clear HR HB hbw hg2 hwc KJ q1 q2 q3 HJ HFI
            have HRL : Hid (RL wc W2.heap.size gr cr pre ⟨lk, lo', la', lb'⟩) := Lib.hid (by unfold RL; rw [← HM.out, ← HN.out]; exact HRw.out)
            have l0 := (HRL.out.cells 0 _ rfl).1
            obtain ⟨l1, k1⟩ := HRL.out.cells 1 _ rfl
            obtain ⟨l2, k2⟩ := HRL.out.cells 2 _ rfl
            obtain ⟨l3, k3⟩ := HRL.out.cells 3 _ rfl
            rw [← HM.out] at l0 l1 l2 l3 k1 k2 k3
            simp only [Nat.add_zero] at l0 l1 l2 l3
            cases lk with
            | true =>
              go_wp2_with (at_builtin; go_loud (refine Kd.R_append kPart (w0 := W2) W2.heap.size rfl _ _ 41 55 _ 56 rfl Tryz.underlying41 infoPart rfl (by decide) (by decide) (.slice (some ⟨gr, 0, none⟩) N cr) (pre ++ [⟨true, lo', la', lb'⟩]) ⟨false, jo, jb, jb⟩ (partCells ⟨false, jo, jb, jb⟩) (fun _ => True) (fun _ => False) rfl rfl (kPart_mk _ _ _ _) (fun _ h => h.elim) (fun _ _ => trivial) HRw.out HBc.out HZc.out (by rw [HLN.out]; omega) ?_; intro v1 w1 hR1 hb1 hg1 hat1))
              go_roundw
              case rel =>
                exact ⟨k + 1, HK.out, rfl, Lib.hid (by rw [HNX.out, addPart_last _ _ _ rfl]; exact hR1), Lib.hid hb1⟩
              · have := HK.out; simp only [intOf]; omega
            | false =>
              obtain ⟨w1, w2, w3⟩ := HFO.out ⟨false, lo', la', lb'⟩ (by simp)
              obtain ⟨w4, w5, w6⟩ := HFP.out
              simp only at w1 w2 w3 w4 w5 w6
              have s1 : ¬ 9223372036854775807 < lo'.length + jo.length := by omega
              have s2 : ¬ 9223372036854775807 < la'.length + jb.length := by omega
              have s3 : ¬ 9223372036854775807 < lb'.length + jb.length := by omega
              have r3 := ((HRL.out.put 1 (lo' ++ jo) _ (.inl ⟨rfl, rfl⟩)).put 2 (la' ++ jb) _ (.inr (.inl ⟨rfl, rfl⟩))).put 3 (lb' ++ jb) _ (.inr (.inr ⟨rfl, rfl⟩))
              rw [← HM.out] at r3
              have HR3 := Lib.hid r3
              have HG := Lib.hid hgr
              clear r3 w1 w2 w3 w4 w5 w6
              go_upto_region 17 with fail
              go_region
              go_upto_region 18 with fail
              go_region
              go_upto_region 19 with fail
              go_region
              go_wp2
              go_roundw
              case rel =>
                refine ⟨k + 1, HK.out, rfl, Lib.hid ?_, Lib.hid ((below_seti (below_seti (below_seti HBc.out HG.out _ _) HG.out _ _) HG.out _ _).drew.drew.drew)⟩
                rw [HNX.out, addPart_merge _ _ _ rfl rfl]
                have h := HR3.out
                unfold RL at h
                rw [← HM.out, ← HN.out] at h
                exact Kd.R_drew (Kd.R_drew (Kd.R_drew h))
              · have := HK.out; simp only [intOf]; omega
        · have i2 : ¬ (x.kind : Int) = 2 := by omega
          have HPE := Lib.hid (show P = ⟨false, jo, ja, ja⟩ by rw [HPP.out]; unfold partOf; rw [if_neg hk4, if_neg hk2, Q1.out, Q2.out])
          rw [HPE.out] at HNX HFP
          rcases List.eq_nil_or_concat out with rfl | ⟨pre, l, rfl⟩
          · obtain ⟨A0, c0, rfl, hc0, hC0⟩ := Kd.R_reads HR.out
            clear hC0
            go_upto_region 16 with (go_at_call 56; refine (KJ.out _ _ _ _ _ (by first | exact .inl ⟨rfl, rfl, rfl, rfl⟩ | exact .inr (.inl ⟨rfl, rfl, rfl, rfl⟩) | exact .inr (.inr ⟨rfl, rfl, rfl, rfl⟩)) (below_alloc (below_alloc (Below.refl _ _) _) _)).mono ?_; rintro e wj ⟨rfl, rfl⟩)
            obtain ⟨wc, hwc⟩ : ∃ wc, wc = ((wr.alloc (.cells #[.int .i64 (x.kind : Int), .int .i64 (x.o1 : Int), .int .i64 (x.o2 : Int), .int .i64 (x.a1 : Int), .int .i64 (x.a2 : Int), .int .i64 (x.b1 : Int), .int .i64 (x.b2 : Int)] 99)).alloc (.cells #[.bool false, .string (B jo), .string (B ja), .string (B ja)] 55)) := ⟨_, rfl⟩
            rw [← hwc]
            have hbw : Below wr.heap.size wr wc := by rw [hwc]; exact below_alloc (below_alloc (Below.refl _ _) _) _
            have hg2 : wc.heap[wr.heap.size + 1]? = some (.cells #[.bool false, .string (B jo), .string (B ja), .string (B ja)] 55 (0, 0)) := by rw [hwc]; exact blk_new1 _ _ _
            have HRw := Lib.hid (Kd.R_below HR.out hbw)
            have HBc : Hid (Below W2.heap.size W2 wc) := Lib.hid (HB.out.trans (hbw.mono HB.out.size))
            have HZc : Hid (W2.heap.size ≤ wc.heap.size) := Lib.hid HBc.out.size
            have hzg : W2.heap.size ≤ wr.heap.size + 1 := by have := HB.out.size; omega
            have p0 : wc.cell? ⟨wr.heap.size + 1, 0, none⟩ = some (.bool false) := by rw [blk_cell hg2]; rfl
            have p1 : wc.cell? ⟨wr.heap.size + 1, 1, none⟩ = some (.string (B jo)) := by rw [blk_cell hg2]; rfl
            have p2 : wc.cell? ⟨wr.heap.size + 1, 2, none⟩ = some (.string (B ja)) := by rw [blk_cell hg2]; rfl
            have p3 : wc.cell? ⟨wr.heap.size + 1, 3, none⟩ = some (.string (B ja)) := by rw [blk_cell hg2]; rfl
            have pl := blk_lt hg2
            clear HR HB hbw hg2 hwc KJ q1 q2 q3 HJ HFI
            go_wp2_with (at_builtin; go_loud (refine Kd.R_append kPart (w0 := W2) W2.heap.size rfl _ _ 41 55 _ 56 rfl Tryz.underlying41 infoPart rfl (by decide) (by decide) (.slice A0 0 c0) [] ⟨false, jo, ja, ja⟩ (partCells ⟨false, jo, ja, ja⟩) (fun _ => True) (fun _ => False) rfl rfl (kPart_mk _ _ _ _) (fun _ h => h.elim) (fun _ _ => trivial) HRw.out HBc.out HZc.out (by (simp <;> omega)) ?_; intro v1 w1 hR1 hb1 hg1 hat1))
            go_roundw
            case rel =>
              exact ⟨k + 1, HK.out, rfl, Lib.hid (by rw [HNX.out, addPart_nil]; exact hR1), Lib.hid hb1⟩
            · have := HK.out; simp only [intOf]; omega
          · rw [List.concat_eq_append] at HR HNX hol HFO
            obtain ⟨gr, cr, rfl, hgr, _⟩ := Kd.R_form HR.out (by simp)
            obtain ⟨M, hM⟩ : ∃ M, M = pre.length := ⟨_, rfl⟩
            obtain ⟨N, hN⟩ : ∃ N, N = M + 1 := ⟨_, rfl⟩
            have hlN : (pre ++ [l]).length = N := by simp; omega
            rw [hlN] at HR hol ⊢
            obtain ⟨lk, lo', la', lb'⟩ := l
            have i1 : (0 : Int) < (N : Int) := by omega
            have i2n : IntKind.i64.wrap ((N : Int) - 1) = (M : Int) := by rw [IntWalk.i64_in _ (by omega)]; omega
            have i3 : (M : Int) < (N : Int) := by omega
            have HM := Lib.hid hM
            have HN := Lib.hid hN
            have HLN := Lib.hid hlN
            clear hM hN hlN
            go_upto_region 16 with (go_at_call 56; refine (KJ.out _ _ _ _ _ (by first | exact .inl ⟨rfl, rfl, rfl, rfl⟩ | exact .inr (.inl ⟨rfl, rfl, rfl, rfl⟩) | exact .inr (.inr ⟨rfl, rfl, rfl, rfl⟩)) (below_alloc (below_alloc (Below.refl _ _) _) _)).mono ?_; rintro e wj ⟨rfl, rfl⟩)
            obtain ⟨wc, hwc⟩ : ∃ wc, wc = ((wr.alloc (.cells #[.int .i64 (x.kind : Int), .int .i64 (x.o1 : Int), .int .i64 (x.o2 : Int), .int .i64 (x.a1 : Int), .int .i64 (x.a2 : Int), .int .i64 (x.b1 : Int), .int .i64 (x.b2 : Int)] 99)).alloc (.cells #[.bool false, .string (B jo), .string (B ja), .string (B ja)] 55)) := ⟨_, rfl⟩
            rw [← hwc]
            have hbw : Below wr.heap.size wr wc := by rw [hwc]; exact below_alloc (below_alloc (Below.refl _ _) _) _
            have hg2 : wc.heap[wr.heap.size + 1]? = some (.cells #[.bool false, .string (B jo), .string (B ja), .string (B ja)] 55 (0, 0)) := by rw [hwc]; exact blk_new1 _ _ _
            have HRw := Lib.hid (Kd.R_below HR.out hbw)
            have HBc : Hid (Below W2.heap.size W2 wc) := Lib.hid (HB.out.trans (hbw.mono HB.out.size))
            have HZc : Hid (W2.heap.size ≤ wc.heap.size) := Lib.hid HBc.out.size
            have hzg : W2.heap.size ≤ wr.heap.size + 1 := by have := HB.out.size; omega
            have p0 : wc.cell? ⟨wr.heap.size + 1, 0, none⟩ = some (.bool false) := by rw [blk_cell hg2]; rfl
            have p1 : wc.cell? ⟨wr.heap.size + 1, 1, none⟩ = some (.string (B jo)) := by rw [blk_cell hg2]; rfl
            have p2 : wc.cell? ⟨wr.heap.size + 1, 2, none⟩ = some (.string (B ja)) := by rw [blk_cell hg2]; rfl
            have p3 : wc.cell? ⟨wr.heap.size + 1, 3, none⟩ = some (.string (B ja)) := by rw [blk_cell hg2]; rfl
            have pl := blk_lt hg2
            clear HR HB hbw hg2 hwc KJ q1 q2 q3 HJ HFI
            have HRL : Hid (RL wc W2.heap.size gr cr pre ⟨lk, lo', la', lb'⟩) := Lib.hid (by unfold RL; rw [← HM.out, ← HN.out]; exact HRw.out)
            have l0 := (HRL.out.cells 0 _ rfl).1
            obtain ⟨l1, k1⟩ := HRL.out.cells 1 _ rfl
            obtain ⟨l2, k2⟩ := HRL.out.cells 2 _ rfl
            obtain ⟨l3, k3⟩ := HRL.out.cells 3 _ rfl
            rw [← HM.out] at l0 l1 l2 l3 k1 k2 k3
            simp only [Nat.add_zero] at l0 l1 l2 l3
            cases lk with
            | true =>
              go_wp2_with (at_builtin; go_loud (refine Kd.R_append kPart (w0 := W2) W2.heap.size rfl _ _ 41 55 _ 56 rfl Tryz.underlying41 infoPart rfl (by decide) (by decide) (.slice (some ⟨gr, 0, none⟩) N cr) (pre ++ [⟨true, lo', la', lb'⟩]) ⟨false, jo, ja, ja⟩ (partCells ⟨false, jo, ja, ja⟩) (fun _ => True) (fun _ => False) rfl rfl (kPart_mk _ _ _ _) (fun _ h => h.elim) (fun _ _ => trivial) HRw.out HBc.out HZc.out (by rw [HLN.out]; omega) ?_; intro v1 w1 hR1 hb1 hg1 hat1))
              go_roundw
              case rel =>
                exact ⟨k + 1, HK.out, rfl, Lib.hid (by rw [HNX.out, addPart_last _ _ _ rfl]; exact hR1), Lib.hid hb1⟩
              · have := HK.out; simp only [intOf]; omega
            | false =>
              obtain ⟨w1, w2, w3⟩ := HFO.out ⟨false, lo', la', lb'⟩ (by simp)
              obtain ⟨w4, w5, w6⟩ := HFP.out
              simp only at w1 w2 w3 w4 w5 w6
              have s1 : ¬ 9223372036854775807 < lo'.length + jo.length := by omega
              have s2 : ¬ 9223372036854775807 < la'.length + ja.length := by omega
              have s3 : ¬ 9223372036854775807 < lb'.length + ja.length := by omega
              have r3 := ((HRL.out.put 1 (lo' ++ jo) _ (.inl ⟨rfl, rfl⟩)).put 2 (la' ++ ja) _ (.inr (.inl ⟨rfl, rfl⟩))).put 3 (lb' ++ ja) _ (.inr (.inr ⟨rfl, rfl⟩))
              rw [← HM.out] at r3
              have HR3 := Lib.hid r3
              have HG := Lib.hid hgr
              clear r3 w1 w2 w3 w4 w5 w6
              go_upto_region 17 with fail
              go_region
              go_upto_region 18 with fail
              go_region
              go_upto_region 19 with fail
              go_region
              go_wp2
              go_roundw
              case rel =>
                refine ⟨k + 1, HK.out, rfl, Lib.hid ?_, Lib.hid ((below_seti (below_seti (below_seti HBc.out HG.out _ _) HG.out _ _) HG.out _ _).drew.drew.drew)⟩
                rw [HNX.out, addPart_merge _ _ _ rfl rfl]
                have h := HR3.out
                unfold RL at h
                rw [← HM.out, ← HN.out] at h
                exact Kd.R_drew (Kd.R_drew (Kd.R_drew h))
              · have := HK.out; simp only [intOf]; omega

end Go.Proofs.YtogfkfkejaiecaaGreatDoor.Eb

namespace Go.Proofs.YtogfkfkejaiecaaGreatDoor.Ee
open Go.RowKit Go.Shelf Pl Ut Ln Ra Da Db Dc Dl Dm Dn Eb Ed Go.Proofs.YtogfkfkejaiecaaGreatDoorW.PrintWords
set_option linter.unusedVariables false
set_option linter.unusedSimpArgs false
attribute [local go_sem] B_append B_extract B_toList B_size take_end

/-- What is told of ref07.Parts. -/
def PartsOk : Prop := ∀ (o a b : List Str) (A1 A2 A3 : Option Addr) (c1 c2 c3 : Nat) (w : World), LiesS w w.heap.size A1 o → LiesS w w.heap.size A2 a → LiesS w w.heap.size A3 b → Kd.C kStr w A1 o.length o → Kd.C kStr w A2 a.length a → Kd.C kStr w A3 b.length b →
  o.length ≤ c1 → a.length ≤ c2 → b.length ≤ c3 → o.length ≤ 3000 → a.length ≤ 3000 → b.length ≤ 3000 → (∀ l ∈ [o, a, b], ∀ s ∈ l, s.length ≤ 1000000000) →
  Calls Tryz.prog 55 #[.slice A1 o.length c1, .slice A2 a.length c2, .slice A3 b.length c3] w fun e w' => ∃ v, e = .returned v ∧ kCk.R 99 w' w.heap.size (fun _ => True) v (partsC o a b) ∧ Below w.heap.size w w'

set_option maxRecDepth 100000 in
set_option maxHeartbeats 8000000 in
theorem rlines_of (hP : PartsOk) : LinesOk := by
  intro o a b w lo la lb
  have HS : Hid (∀ (s : Str) (W : World), s.length ≤ 2500 → Calls Tryz.prog 36 #[.string (B s)] W fun e w' => ∃ A c, e = .returned (.slice A (splitL s).length c) ∧ (splitL s).length ≤ c ∧ LiesS w' w'.heap.size A (splitL s) ∧ Kd.C kStr w' A (splitL s).length (splitL s) ∧ Below W.heap.size W w') :=
    Lib.hid (fun s W hs => (rsplit_any s (by omega) W).mono fun e w' ⟨v, he, hR, hb⟩ => by
      obtain ⟨A, c, rfl, lc, h1, h2⟩ := LiesS.of_R hR
      exact ⟨A, c, he, lc, h1, h2, hb⟩)
  have HPa : Hid (∀ (A1 A2 A3 : Option Addr) (c1 c2 c3 : Nat) (W : World), LiesS W W.heap.size A1 (splitL o) → LiesS W W.heap.size A2 (splitL a) → LiesS W W.heap.size A3 (splitL b) → Kd.C kStr W A1 (splitL o).length (splitL o) → Kd.C kStr W A2 (splitL a).length (splitL a) → Kd.C kStr W A3 (splitL b).length (splitL b) →
      (splitL o).length ≤ c1 → (splitL a).length ≤ c2 → (splitL b).length ≤ c3 → Calls Tryz.prog 35 #[.slice A1 (splitL o).length c1, .slice A2 (splitL a).length c2, .slice A3 (splitL b).length c3] W fun e w' => ∃ v, e = .returned v ∧ kPart.R 55 w' W.heap.size (fun _ => True) v (linesL o a b) ∧ Below W.heap.size W w') := Lib.hid (by
    intro A1 A2 A3 c1 c2 c3 W h1 h2 h3 k1 k2 k3 l1 l2 l3
    have n1 := splitL_count o
    have n2 := splitL_count a
    have n3 := splitL_count b
    have j1 : (joinL (splitL o)).length = o.length := by unfold joinL; rw [splitL_flatten]
    have j2 : (joinL (splitL a)).length = a.length := by unfold joinL; rw [splitL_flatten]
    have j3 : (joinL (splitL b)).length = b.length := by unfold joinL; rw [splitL_flatten]
    exact rparts_of (splitL o) (splitL a) (splitL b) A1 A2 A3 c1 c2 c3 W h1 h2 h3 (hP _ _ _ A1 A2 A3 c1 c2 c3 W h1 h2 h3 k1 k2 k3 l1 l2 l3 (by omega) (by omega) (by omega) (fun l hl s hs => by
      have := joinL_mem hs
      simp only [List.mem_cons, List.not_mem_nil, or_false] at hl
      rcases hl with rfl | rfl | rfl <;> omega)) l1 l2 l3 (by omega) (by omega) (by omega) (by omega) (by omega) (by omega))
  clear hP
  go_enter Tryz.func19, Tryz.ntmps19
  go_wp2_with fail
  refine (HS.out o _ lo).mono ?_
  rintro e w1 ⟨A1, c1, rfl, l1, h1, k1, b1⟩
  have X1 := Lib.hid (And.intro h1 (And.intro k1 b1))
  clear h1 k1 b1
  go_wp2_with fail
  refine (HS.out a _ la).mono ?_
  rintro e w2 ⟨A2, c2, rfl, l2, h2, k2, b2⟩
  have X2 := Lib.hid (And.intro h2 (And.intro k2 b2))
  clear h2 k2 b2
  go_wp2_with fail
  refine (HS.out b _ lb).mono ?_
  rintro e w3 ⟨A3, c3, rfl, l3, h3, k3, b3⟩
  obtain ⟨h1, k1, b1⟩ := X1.out
  obtain ⟨h2, k2, b2⟩ := X2.out
  have b23 : Below w1.heap.size w1 w3 := b2.trans (b3.mono b2.size)
  have X3 := Lib.hid (HPa.out A1 A2 A3 c1 c2 c3 w3 ((h1.below b23).up b23.size) ((h2.below b3).up b3.size) h3 (Kd.C_below k1 b23) (Kd.C_below k2 b3) k3 l1 l2 l3)
  have HB := Lib.hid (b1.trans (b23.mono b1.size))
  clear X1 X2 h1 h2 h3 k1 k2 k3 b1 b2 b3 b23 HS HPa
  go_wp2_with fail
  refine X3.out.mono ?_
  rintro e w4 ⟨v, rfl, hR, hb⟩
  have HR := Lib.hid (Kd.R_lower hR HB.out.size)
  have HB4 := Lib.hid (HB.out.trans (hb.mono HB.out.size))
  clear hR hb
  go_wp2
  go_ret
  exact ⟨_, rfl, HR.out, HB4.out⟩

end Go.Proofs.YtogfkfkejaiecaaGreatDoor.Ee

namespace Go.Proofs.YtogfkfkejaiecaaGreatDoor.Ef
open Go.RowKit Go.Shelf Pl Ut Ln Da Db Dc Dd De Dk Dl Dm Dn Ee Go.Proofs.YtogfkfkejaiecaaGreatDoorW.PrintWords
set_option linter.unusedVariables false
set_option linter.unusedSimpArgs false

/-- What is told of ref05.Numbers. -/
def NumOk : Prop := ∀ (rs : List (List Str)) (A : Option Addr) (c : Nat) (w : World), Kd.C kStrs w A rs.length rs → rs.length ≤ 1000 → (rs.map List.length).sum ≤ 100000 → (∀ l ∈ rs, ∀ s ∈ l, s.length ≤ 1000000000) →
  Calls Tryz.prog 75 #[.slice A rs.length c] w fun e w' => ∃ v, e = .returned v ∧ kNats.R 130 w' w.heap.size (fun _ => True) v (numRows [] rs) ∧ Below w.heap.size w w'
/-- What is told of ref07.Chunks. -/
def ChunksOk : Prop := ∀ (o a b : List Nat) (A1 A2 A3 : Option Addr) (c1 c2 c3 : Nat) (w : World), LiesA w w.heap.size A1 o → LiesA w w.heap.size A2 a → LiesA w w.heap.size A3 b →
  o.length ≤ c1 → a.length ≤ c2 → b.length ≤ c3 → o.length ≤ 3000 → a.length ≤ 3000 → b.length ≤ 3000 →
  Calls Tryz.prog 76 #[.slice A1 o.length c1, .slice A2 a.length c2, .slice A3 b.length c3] w fun e w' => ∃ v, e = .returned v ∧ kCk.R 99 w' w.heap.size (fun _ => True) v (chunksL o a b) ∧ Below w.heap.size w w'

set_option maxRecDepth 100000 in
set_option maxHeartbeats 8000000 in
theorem rparts07_of (hNum : NumOk) (hCh : ChunksOk) (o a b : List Str) (A1 A2 A3 : Option Addr) (c1 c2 c3 : Nat) (w : World) (h1 : Kd.C kStr w A1 o.length o) (h2 : Kd.C kStr w A2 a.length a) (h3 : Kd.C kStr w A3 b.length b)
    (l1 : o.length ≤ c1) (l2 : a.length ≤ c2) (l3 : b.length ≤ c3) (lo : o.length ≤ 3000) (la : a.length ≤ 3000) (lb : b.length ≤ 3000) (hs : ∀ l ∈ [o, a, b], ∀ s ∈ l, s.length ≤ 1000000000) :
    Calls Tryz.prog 55 #[.slice A1 o.length c1, .slice A2 a.length c2, .slice A3 b.length c3] w fun e w' => ∃ v, e = .returned v ∧ kCk.R 99 w' w.heap.size (fun _ => True) v (partsC o a b) ∧ Below w.heap.size w w' := by
  obtain ⟨W1, hW1⟩ : ∃ W1, W1 = w.alloc (.cells #[.slice A1 o.length c1, .slice A2 a.length c2, .slice A3 b.length c3] 62) := ⟨_, rfl⟩
  have hb1 : Below w.heap.size w W1 := by rw [hW1]; exact below_alloc (Below.refl _ _) _
  have hC : Kd.C kStrs W1 (some ⟨w.heap.size, 0, none⟩) 3 [o, a, b] := three_rows (by rw [hW1]; exact blk_new _ _) (Kd.C_below h1 hb1) (Kd.C_below h2 hb1) (Kd.C_below h3 hb1) l1 l2 l3
  have hN := hNum [o, a, b] (some ⟨w.heap.size, 0, none⟩) 3 W1 hC (by simp) (by simp; omega) hs
  obtain ⟨x, y, z, hxyz, ex, ey, ez⟩ := numRows3 o a b
  rw [hxyz] at hN
  have HP := Lib.hid (partsC_of hxyz)
  have HN := Lib.hid hN
  have HB := Lib.hid hb1
  have EX := Lib.hid ex
  have EY := Lib.hid ey
  have EZ := Lib.hid ez
  rw [HP.out]
  rw [hW1] at HN HB
  clear hN hC hb1 hW1 hxyz ex ey ez hs h1 h2 h3 l1 l2 l3 HP
  go_enter Tryz.func55, Tryz.ntmps55
  go_wp2_with fail
  refine HN.out.mono ?_
  rintro e W2 ⟨v, rfl, hR, hb2⟩
  obtain ⟨g, cap, u1, rfl, p1, r1⟩ := nats_at hR 0 x rfl
  obtain ⟨_, _, u2, e2, p2, r2⟩ := nats_at hR 1 y rfl
  cases e2
  obtain ⟨_, _, u3, e3, p3, r3⟩ := nats_at hR 2 z rfl
  cases e3
  obtain ⟨X1, d1, rfl, k1, q1⟩ := LiesA.of_R (w' := W2) r1
  obtain ⟨X2, d2, rfl, k2, q2⟩ := LiesA.of_R (w' := W2) r2
  obtain ⟨X3, d3, rfl, k3, q3⟩ := LiesA.of_R (w' := W2) r3
  have HB2 := Lib.hid (HB.out.trans (hb2.mono HB.out.size))
  clear hR r1 r2 r3 hb2 HB
  go_wp2_with fail
  refine wp_region_still_tail 9 (by kernel_rfl) (by kernel_rfl) ?_
  obtain ⟨W5, hW5⟩ : ∃ W5 : World, W5 = { W2 with drawn := W2.drawn + 1 } := ⟨_, rfl⟩
  rw [← hW5]
  have p1' : W5.cell? ⟨g, 0, none⟩ = some (.slice X1 x.length d1) := by rw [hW5]; exact p1
  have p2' : W5.cell? ⟨g, 1, none⟩ = some (.slice X2 y.length d2) := by rw [hW5]; exact p2
  have p3' : W5.cell? ⟨g, 2, none⟩ = some (.slice X3 z.length d3) := by rw [hW5]; exact p3
  have Q1 : Hid (LiesA W5 W5.heap.size X1 x) := by rw [hW5]; exact q1
  have Q2 : Hid (LiesA W5 W5.heap.size X2 y) := by rw [hW5]; exact q2
  have Q3 : Hid (LiesA W5 W5.heap.size X3 z) := by rw [hW5]; exact q3
  have HB5 : Hid (Below w.heap.size w W5) := by rw [hW5]; exact Lib.hid ⟨HB2.out.os, HB2.out.tape, HB2.out.output, HB2.out.size, HB2.out.block⟩
  clear hW5 p1 p2 p3 q1 q2 q3 HB2
  have i0 : (0 : Int) < ([x, y, z].length : Int) := by simp
  simp only [List.length_cons, List.length_nil, Nat.zero_add, Nat.reduceAdd] at *
  simp only [List.take_succ_cons, List.take_zero, List.drop_succ_cons, List.drop_zero]
  repeat still_step
  refine wpStill_nil ?_
  go_wp2_with fail
  refine (hCh x y z X1 X2 X3 d1 d2 d3 W5 Q1.out Q2.out Q3.out k1 k2 k3 (by rw [EX.out]; exact lo) (by rw [EY.out]; exact la) (by rw [EZ.out]; exact lb)).mono ?_
  rintro e W6 ⟨v, rfl, hR6, hb6⟩
  have HR6 := Lib.hid hR6
  have HB6 := Lib.hid (HB5.out.trans (hb6.mono HB5.out.size))
  have HZ := Lib.hid HB5.out.size
  clear hR6 hb6
  go_wp2
  go_ret
  exact ⟨_, rfl, Kd.R_lower HR6.out HZ.out, HB6.out⟩

theorem partsOk_of (hNum : NumOk) (hCh : ChunksOk) : PartsOk := fun o a b A1 A2 A3 c1 c2 c3 w _ _ _ k1 k2 k3 l1 l2 l3 lo la lb hs => rparts07_of hNum hCh o a b A1 A2 A3 c1 c2 c3 w k1 k2 k3 l1 l2 l3 lo la lb hs

end Go.Proofs.YtogfkfkejaiecaaGreatDoor.Ef
