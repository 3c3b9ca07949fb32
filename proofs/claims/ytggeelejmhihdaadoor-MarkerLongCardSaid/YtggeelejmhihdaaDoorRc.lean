/- Contracts of the reference's marker: Length, Print, Show. -/
import Derived.Test.YtggeelejmhihdaaDoorRb
import Derived.IntWalk
import Derived.Deep.RegionHeld3
import Derived.Deep.AppendLies
import Derived.Laws.Pointers
import Derived.Deep.QuietTactic
import Derived.BigQuiet
namespace Go.Proofs.YtggeelejmhihdaaDoor.Rc
open Go.RowKit Go.Shelf Go.Proofs.YtggeelejmhihdaaDoor.Pl Go.Proofs.YtggeelejmhihdaaDoor.Ut Go.Proofs.YtggeelejmhihdaaDoor.Ln Go.Proofs.YtggeelejmhihdaaDoor.Mk Go.Proofs.YtggeelejmhihdaaDoor.Ml Go.Proofs.YtggeelejmhihdaaDoor.Ms Go.Proofs.YtggeelejmhihdaaDoor.Ra Go.Proofs.YtggeelejmhihdaaDoor.Rb Go.Proofs.YtggeelejmhihdaaDoorW.PrintWords
set_option linter.unusedVariables false
set_option linter.unusedSimpArgs false
attribute [local go_sem] B_append B_extract B_toList B_size take_end

theorem if_max (x y : Int) : (if y > x then y else x) = max x y := by split <;> omega
theorem run_max5 (ts : Array TypeId) (t : TypeId) (a b c d e : Int) (w : World) : (Builtin.max_ ts t #[.int .i64 a, .int .i64 b, .int .i64 c, .int .i64 d, .int .i64 e]).run Tryd.prog w = .ok (.int .i64 (max (max (max (max a b) c) d) e)) w := by
  simp only [← if_max]
  simp [Builtin.max_, Builtin.max2]
attribute [local go_sem] run_max5
theorem run_at (l : Str) (d : UInt8) (z : Int) (hz : z = d.toNat) (hl : l.length ≤ 1000000000000) (w : World) :
    Calls Tryd.prog 27 #[.string (B l), .int .u8 z] w fun e w' => e = .returned (.int .i64 (runL d l : Nat)) ∧ w' = w := by
  rw [hz]; exact run_any l d hl w
theorem runL_le (d : UInt8) (l : Str) : runL d l ≤ l.length := by
  unfold runL; exact List.Sublist.length_le (List.takeWhile_sublist _)

set_option maxRecDepth 100000 in
set_option maxHeartbeats 4000000 in
theorem rlength_any (ts : List Str) (A : Option Addr) (c : Nat) (w : World) (hC : Kd.C kStr w A ts.length ts) (hlen : ts.length ≤ 1000000) (hx : ∀ t ∈ ts, t.length ≤ 1000000000) :
    Calls Tryd.prog 13 #[.slice A ts.length c] w fun e w' => e = .returned (.int .i64 (lengthL ts)) ∧ Below w.heap.size w w' := by
  have HX := Lib.hid hx
  have HCC := Lib.hid hC
  clear hx hC
  go_enter Tryd.func13, Tryd.ntmps13
  go_wp2
  go_loopw [3, 4] (fun v i wr => ∃ k : Nat, k ≤ ts.length ∧ i = .int .i64 k ∧ v = .int .i64 ((ts.take k).foldl textMax 7 : Nat) ∧ Below w.heap.size w wr) (fun _ i _ => ts.length - (intOf i).toNat)
  case atStart => exact ⟨0, Nat.zero_le _, rfl, rfl, Below.refl _ _⟩
  case round =>
    obtain ⟨k, hk, rfl, rfl, hB⟩ := hrel
    obtain ⟨n0, hn0⟩ : ∃ n0, n0 = (ts.take k).foldl textMax 7 := ⟨_, rfl⟩
    rw [← hn0]
    have HN0 := Lib.hid hn0
    clear hn0
    by_cases hlt : k < ts.length
    · obtain ⟨t, htk⟩ : ∃ t, ts[k]? = some t := ⟨ts[k], List.getElem?_eq_getElem hlt⟩
      have htl := HX.out t (List.mem_of_getElem? htk)
      obtain ⟨ad, rfl, p0⟩ := at_str (Kd.C_below HCC.out hB) k hlt t htk
      have HT := Lib.hid htk
      clear htk
      go_wp2_with fail
      refine (rsplit_any t (by omega) _).mono ?_
      rintro e W1 ⟨v, rfl, hR, hb1⟩
      obtain ⟨A2, c2, rfl, hc2, hC2⟩ := Kd.R_reads hR
      have hcnt := splitL_count t
      have HC2 := Lib.hid hC2
      clear hR hC2
      obtain ⟨wo, rfl⟩ : ∃ wo : World, wo = wr := ⟨_, rfl⟩
      have hBW : Below w.heap.size w W1 := hB.trans (hb1.mono hB.size)
      go_wp2
      go_loopw [3, 6] (fun v i wr => ∃ j n : Nat, j ≤ (splitL t).length ∧ i = .int .i64 j ∧ v = .int .i64 n ∧ n = ((splitL t).take j).foldl lineMax n0 ∧ Below W1.heap.size W1 wr) (fun _ i _ => (splitL t).length - (intOf i).toNat)
      case atStart => exact ⟨0, n0, Nat.zero_le _, rfl, rfl, rfl, Below.refl _ _⟩
      case round =>
        obtain ⟨j, n1, hj, rfl, rfl, hn1, hB1⟩ := hrel
        have HN1 := Lib.hid hn1
        clear hn1
        by_cases hjl : j < (splitL t).length
        · obtain ⟨x, hxj⟩ : ∃ x, (splitL t)[j]? = some x := ⟨_, List.getElem?_eq_getElem hjl⟩
          have hxl : x.length ≤ 1000000000 := Nat.le_trans (splitL_len t x (List.mem_of_getElem? hxj)) htl
          obtain ⟨ad2, rfl, q0⟩ := at_str (Kd.C_below HC2.out hB1) j hjl x hxj
          have HXJ := Lib.hid hxj
          clear hxj
          have r60 := runL_le 60 x
          have r124 := runL_le 124 x
          have r61 := runL_le 61 x
          have r62 := runL_le 62 x
          have HXL := Lib.hid hxl
          obtain ⟨g, hg⟩ : ∃ g : Int → Nat, g = fun z => runL (UInt8.ofNat z.toNat) x := ⟨_, rfl⟩
          have kg : ∀ z : Int, (0 ≤ z ∧ z < 256) → ∀ W, Calls Tryd.prog 27 #[.string (B x), .int .u8 z] W fun e w' => e = .returned (.int .i64 (g z)) ∧ w' = W := fun z hz W => by
            rw [hg]; exact run_at x _ z (by rw [UInt8.toNat_ofNat']; omega) (by omega) _
          have KG := Lib.hid kg
          have HL := Lib.hid (show lineMax n1 x = max (max (max (max n1 (g 60 + 1)) (g 124 + 1)) (g 61 + 1)) (g 62 + 1) from by rw [hg]; rfl)
          have hgb : ∀ z, g z ≤ 1000000000 := fun z => by rw [hg]; exact Nat.le_trans (runL_le _ _) hxl
          have g60 := hgb 60
          have g124 := hgb 124
          have g61 := hgb 61
          have g62 := hgb 62
          have wg : ∀ z : Int, IntKind.i64.wrap ((g z : Int) + 1) = (g z : Int) + 1 := fun z => IntWalk.i64_in _ (by have := hgb z; omega)
          clear hg kg hgb r60 r124 r61 r62
          obtain ⟨wo2, rfl⟩ : ∃ wo2 : World, wo2 = wr := ⟨_, rfl⟩
          go_wp2_with fail
          go_quiet ((go_at_call 27; exact Calls.quiet_of_same (KG.out _ (by decide) _)))
          go_wp2
          go_roundw
          case rel => exact ⟨j + 1, lineMax n1 x, by omega, by go_num, by rw [HL.out]; congr 1; omega, by rw [foldl_take _ _ _ _ _ HXJ.out, ← HN1.out], pw_below_drewN hB1 _⟩
          case measure => simp [intOf]; omega
        · obtain rfl : j = (splitL t).length := by omega
          go_wp2
          go_roundw
          case rel => exact ⟨k + 1, by omega, by go_num, by rw [foldl_take _ _ _ _ _ HT.out, ← HN0.out, HN1.out, List.take_length]; rfl, hBW.trans (hB1.mono hBW.size)⟩
          case measure => simp [intOf]; omega
    · obtain rfl : k = ts.length := by omega
      go_wp2
      go_ret
      exact ⟨by rw [HN0.out, List.take_length]; rfl, hB⟩

theorem partL_plain (n : Nat) (old : Bool) (x : Part) (h : x.clash = false) : partL n old x = x.a := by unfold partL; rw [h]; rfl
theorem partL_old (n : Nat) (x : Part) (h : x.clash = true) : partL n true x = lineL 60 n false wOurs ++ (sectionL x.a 124 n wBase ++ sectionL x.o 61 n []) ++ sectionL x.b 62 n wTheirs := by unfold partL; rw [h]; rfl
theorem partL_new (n : Nat) (x : Part) (h : x.clash = true) : partL n false x = lineL 60 n false wOurs ++ sectionL x.a 61 n [] ++ sectionL x.b 62 n wTheirs := by unfold partL; rw [h]; rfl

set_option maxRecDepth 100000 in
set_option maxHeartbeats 4000000 in
theorem rprint_any (xs : List Part) (n : Int) (N : Nat) (old : Bool) (A : Option Addr) (c : Nat) (w : World) (hC : Kd.C kPart w A xs.length xs) (hN : max n 1 = (N : Int)) (hN9 : N ≤ 1000000000)
    (hlen : xs.length ≤ 1000000) (hx : ∀ p ∈ xs, p.o.length ≤ 1000000000 ∧ p.a.length ≤ 1000000000 ∧ p.b.length ≤ 1000000000) (htot : (printL xs N old).length ≤ 1000000000000) :
    Calls Tryd.prog 11 #[.slice A xs.length c, .int .i64 n, .bool old] w fun e w' => e = .returned (.string (B (printL xs N old))) ∧ Below w.heap.size w w' := by
  have htot' : ∀ k, (printL (xs.take k) N old).length ≤ 1000000000000 := fun k => Nat.le_trans (printL_take_le xs N old k) htot
  have HT := Lib.hid htot'
  have HX := Lib.hid hx
  have HCC := Lib.hid hC
  clear htot' hx hC htot
  go_enter Tryd.func11, Tryd.ntmps11
  go_wp2
  go_loopw [7, 8] (fun v i wr => ∃ k : Nat, k ≤ xs.length ∧ i = .int .i64 k ∧ v = .string (B (printL (xs.take k) N old)) ∧ Below w.heap.size w wr) (fun _ i _ => xs.length - (intOf i).toNat)
  case atStart => exact ⟨0, Nat.zero_le _, rfl, rfl, Below.refl _ _⟩
  case round =>
    obtain ⟨k, hk, rfl, rfl, hB⟩ := hrel
    have hsz := hB.size
    have hal := HT.out k
    by_cases hlt : k < xs.length
    · obtain ⟨x, hxk⟩ : ∃ x, xs[k]? = some x := ⟨xs[k], List.getElem?_eq_getElem hlt⟩
      obtain ⟨ad, rfl, p0, p1, p2, p3⟩ := at_part (Kd.C_below HCC.out hB) k hlt x hxk
      have hmem : x ∈ xs := List.mem_of_getElem? hxk
      obtain ⟨lo, la, lb⟩ := HX.out x hmem
      have HS := Lib.hid (printL_take xs N old k x hxk)
      clear hxk hmem
      obtain ⟨acc, hacc⟩ : ∃ acc, acc = printL (xs.take k) N old := ⟨_, rfl⟩
      rw [← hacc] at hal ⊢
      have HACC := Lib.hid hacc
      clear hacc
      obtain ⟨wo, rfl⟩ : ∃ wo : World, wo = wr := ⟨_, rfl⟩
      have m1 := lineL_length 60 N false wOurs
      have m2 := sectionL_length x.a 124 N wBase
      have m3 := sectionL_length x.o 61 N []
      have m4 := sectionL_length x.a 61 N []
      have m5 := sectionL_length x.b 62 N wTheirs
      have q1 : wOurs.length = 4 := rfl
      have q2 : wBase.length = 4 := rfl
      have q3 : wTheirs.length = 6 := rfl
      have q4 : ([] : Str).length = 0 := rfl
      rw [q1] at m1
      rw [q2] at m2
      rw [q4] at m3 m4
      rw [q3] at m5
      cases hcl : x.clash with
      | false =>
        rw [hcl] at p0
        go_wp2
        go_roundw
        case rel => exact ⟨k + 1, by omega, by go_num, by rw [HS.out, ← HACC.out, partL_plain _ _ _ hcl], hB.alloc hsz _⟩
        case measure => simp [intOf]; omega
      | true =>
        rw [hcl] at p0
        obtain ⟨l1, h1⟩ : ∃ l, l = lineL 60 N false wOurs := ⟨_, rfl⟩
        obtain ⟨s5, h5⟩ : ∃ l, l = sectionL x.b 62 N wTheirs := ⟨_, rfl⟩
        have k1 : ∀ W, Calls Tryd.prog 22 #[.string (B [60]), .int .i64 N, .bool false, .string (B wOurs)] W fun e w' => e = .returned (.string (B l1)) ∧ w' = W := fun W => by rw [h1]; exact rmark_any _ _ _ _ W hN9 (by decide)
        have k5 : ∀ W, Calls Tryd.prog 23 #[.string (B x.b), .string (B [62]), .int .i64 N, .string (B wTheirs)] W fun e w' => e = .returned (.string (B s5)) ∧ w' = W := fun W => by rw [h5]; exact rsection_any _ _ _ _ W hN9 (by decide) lb
        have K1 := Lib.hid k1
        have K5 := Lib.hid k5
        rw [← h1] at m1
        rw [← h5] at m5
        have H1 := Lib.hid h1
        have H5 := Lib.hid h5
        clear k1 k5 h1 h5
        cases old with
        | true =>
          obtain ⟨sec, hsec⟩ : ∃ sec : Str → UInt8 → Str → Str, sec = fun t c word => sectionL t c N word := ⟨_, rfl⟩
          have ks : ∀ t c word W, (t.length ≤ 1000000000) → (word.length ≤ 1000000000) → Calls Tryd.prog 23 #[.string (B t), .string (B [c]), .int .i64 N, .string (B word)] W fun e w' => e = .returned (.string (B (sec t c word))) ∧ w' = W := fun t c word W ht hw => by rw [hsec]; exact rsection_any _ _ _ _ W hN9 hw ht
          have KS := Lib.hid ks
          have z2 : (sec x.a 124 [98, 97, 115, 101]).length ≤ 3000000000 := by rw [hsec]; exact Nat.le_trans m2 (by omega)
          have z3 : (sec x.o 61 []).length ≤ 3000000000 := by rw [hsec]; exact Nat.le_trans m3 (by omega)
          have HP := Lib.hid (show partL N true x = l1 ++ (sec x.a 124 [98, 97, 115, 101] ++ sec x.o 61 []) ++ s5 from by rw [partL_old N x hcl, H1.out, H5.out, hsec]; rfl)
          have LA := Lib.hid la
          have LO := Lib.hid lo
          clear hsec ks m2 m3 m4
          go_wp2_with fail
          refine (K1.out _).mono ?_
          rintro e w' ⟨rfl, rfl⟩
          go_wp2_with fail
          go_quiet ((go_at_call 23; exact Calls.quiet_of_same (KS.out _ _ _ _ (by first | exact LA.out | exact LO.out) (by decide))))
          go_wp2_with fail
          refine (K5.out _).mono ?_
          rintro e w' ⟨rfl, rfl⟩
          go_wp2
          go_roundw
          case rel => exact ⟨k + 1, by omega, by go_num, by rw [HS.out, ← HACC.out, HP.out]; simp [List.append_assoc], pw_below_drewN (hB.alloc hsz _) _⟩
          case measure => simp [intOf]; omega
        | false =>
          obtain ⟨s4, h4⟩ : ∃ l, l = sectionL x.a 61 N [] := ⟨_, rfl⟩
          have k4 : ∀ W, Calls Tryd.prog 23 #[.string (B x.a), .string (B [61]), .int .i64 N, .string (B [])] W fun e w' => e = .returned (.string (B s4)) ∧ w' = W := fun W => by rw [h4]; exact rsection_any _ _ _ _ W hN9 (by decide) la
          have K4 := Lib.hid k4
          rw [← h4] at m4
          have HP := Lib.hid (show partL N false x = l1 ++ s4 ++ s5 from by rw [partL_new N x hcl, H1.out, H5.out, h4])
          clear k4 h4 m2 m3
          go_wp2_with fail
          refine (K1.out _).mono ?_
          rintro e w' ⟨rfl, rfl⟩
          go_wp2_with fail
          refine (K4.out _).mono ?_
          rintro e w' ⟨rfl, rfl⟩
          go_wp2_with fail
          refine (K5.out _).mono ?_
          rintro e w' ⟨rfl, rfl⟩
          go_wp2
          go_roundw
          case rel => exact ⟨k + 1, by omega, by go_num, by rw [HS.out, ← HACC.out, HP.out]; simp [List.append_assoc], hB.alloc hsz _⟩
          case measure => simp [intOf]; omega
    · obtain rfl : k = xs.length := by omega
      rw [List.take_length]
      go_wp2
      go_ret
      exact ⟨rfl, hB⟩

set_option maxRecDepth 100000 in
set_option maxHeartbeats 4000000 in
theorem rshow_any (xs : List Part) (N : Nat) (old : Bool) (A : Option Addr) (c : Nat) (w : World) (hC : Kd.C kPart w A xs.length xs) (hN : lengthL (textsL xs) = N) (hN9 : N ≤ 1000000000) (hN7 : 7 ≤ N)
    (hlen : xs.length ≤ 300000) (hx : ∀ p ∈ xs, p.o.length ≤ 1000000000 ∧ p.a.length ≤ 1000000000 ∧ p.b.length ≤ 1000000000) (htot : (printL xs N old).length ≤ 1000000000000) :
    Calls Tryd.prog 9 #[.slice A xs.length c, .bool old] w fun e w' => e = .returned (.tuple #[.string (B (printL xs N old)), .int .i64 N]) ∧ Below w.heap.size w w' := by
  obtain ⟨i0, hi, hz0, hz1, hz2⟩ := info_parts infoString
  have HX := Lib.hid hx
  have HCC := Lib.hid hC
  have HN := Lib.hid hN
  have HTOT := Lib.hid htot
  clear hx hC hN htot
  go_enter Tryd.func9, Tryd.ntmps9
  go_wp2
  go_loopw [6, 7] (fun v i wr => ∃ k : Nat, k ≤ xs.length ∧ i = .int .i64 k ∧ wr.ownsRow w.heap.size 9 1 v (3 * k) (encs (fun l : Str => .string (B l)) (textsL (xs.take k))) ∧ Below w.heap.size w wr) (fun _ i _ => xs.length - (intOf i).toNat)
  case atStart => exact ⟨0, Nat.zero_le _, rfl, World.ownsRow_nil _ _ _ _, Below.refl _ _⟩
  case round =>
    obtain ⟨k, hk, rfl, hown, hB⟩ := hrel
    have hsz := hB.size
    by_cases hlt : k < xs.length
    · obtain ⟨x, hxk⟩ : ∃ x, xs[k]? = some x := ⟨xs[k], List.getElem?_eq_getElem hlt⟩
      obtain ⟨ad, rfl, p0, p1, p2, p3⟩ := at_part (Kd.C_below HCC.out hB) k hlt x hxk
      have HXK := Lib.hid (textsL_take xs k x hxk)
      have hblk : (ad.add (k * 4)).block < w.heap.size := by
        obtain ⟨ad2, e2, q0, _⟩ := at_part HCC.out k hlt x hxk
        cases e2
        exact World.block_lt_of_cell? _ _ q0
      clear hxk
      have hlt1 : (ad.add (k * 4)).block < wr.heap.size := by omega
      have hne : u6.ownBlock ≠ some (ad.add (k * 4)).block := fun e => by have := own_base hown _ e; omega
      have hk0 : (0 : Int) ≤ (k : Int) := Int.natCast_nonneg _
      have hk1 : (k : Int) < (xs.length : Int) := by omega
      go_wp2_with fail
      go_region_held3 (fun w' => w'.cell? ⟨(ad.add (k * 4)).block, (ad.add (k * 4)).off + 1, none⟩ = some (.string (B x.o)) ∧ w'.cell? ⟨(ad.add (k * 4)).block, (ad.add (k * 4)).off + 2, none⟩ = some (.string (B x.a)) ∧ w'.cell? ⟨(ad.add (k * 4)).block, (ad.add (k * 4)).off + 3, none⟩ = some (.string (B x.b)))
        (first
          | go_keep
          | (go_split_ands
             refine ⟨?_, ?_, ?_⟩
             · (refine Eq.trans (hgrow.cell_far ⟨(ad.add (k * 4)).block, (ad.add (k * 4)).off + 1, none⟩ (by simp; omega) (Ne.symm hne)) ?_; assumption)
             · (refine Eq.trans (hgrow.cell_far ⟨(ad.add (k * 4)).block, (ad.add (k * 4)).off + 2, none⟩ (by simp; omega) (Ne.symm hne)) ?_; assumption)
             · (refine Eq.trans (hgrow.cell_far ⟨(ad.add (k * 4)).block, (ad.add (k * 4)).off + 3, none⟩ (by simp; omega) (Ne.symm hne)) ?_; assumption)))
        ((refine step_append_lies _ (by rfl) _ _ _ (by rfl) w.heap.size 9 i0 _ 1 16 Tryd.underlying27 hi hz0 hz1 hz2 rfl (by omega) u6 (3 * k) _ (by rfl) (hown.drew.alloc _)
            ⟨wr.heap.size, 0, none⟩ 3 3 [.string (B x.o), .string (B x.a), .string (B x.b)] (by rfl) (by rfl) (World.news_of_block (cs := #[.string (B x.o), .string (B x.a), .string (B x.b)]) (t := 9) (fr := (0, 0)) (heap_alloc_new _ _)) (by simp [Value.oneCell'])
            (by omega) (by unfold maxLen; omega) (by omega) (by simp; omega) (wr.heap.size + 1) (by simp) ?_; intro gg cap w1 hown1 hgrow hat hlt2))
      have hB1 : Below w.heap.size w w1 := ((hB.drew).alloc hsz _).grown hgrow (by simp; omega) (own_base hown)
      go_wp2
      go_roundw
      case rel => exact ⟨k + 1, by omega, by go_num, by rw [HXK.out]; simpa [encs, Nat.mul_add] using hown1, hB1⟩
      case measure => simp [intOf]; omega
    · obtain rfl : k = xs.length := by omega
      rw [List.take_length, ← textsL_length] at hown
      have hR : kStr.R 9 wr w.heap.size (fun _ => True) _ (textsL xs) := Kd.R_of_own hown (fun _ _ => trivial)
      obtain ⟨A2, c2, rfl, hc2, hC2⟩ := Kd.R_reads hR
      have hl3 := textsL_length xs
      have HC2 := Lib.hid hC2
      clear hown hR hC2
      have HL3 := Lib.hid hl3
      have hl4 : (textsL xs).length ≤ 1000000 := by omega
      clear hl3
      go_wp2_with fail
      refine (rlength_any (textsL xs) A2 c2 _ HC2.out hl4 ?_).mono ?_
      · intro t ht
        simp only [textsL, List.mem_flatMap] at ht
        obtain ⟨p, hp, ht⟩ := ht
        obtain ⟨h1, h2, h3⟩ := HX.out p hp
        simp at ht
        rcases ht with rfl | rfl | rfl <;> assumption
      rw [HN.out]
      rintro e w1 ⟨rfl, hb1⟩
      have hB1 : Below w.heap.size w w1 := hB.trans (hb1.mono hB.size)
      go_wp2_with fail
      refine (rprint_any xs N N old A c _ (Kd.C_below HCC.out hB1) (by omega) hN9 (by omega) HX.out HTOT.out).mono ?_
      rintro e w2 ⟨rfl, hb2⟩
      go_wp2
      go_ret2
      exact ⟨rfl, hB1.trans (hb2.mono hB1.size)⟩

end Go.Proofs.YtggeelejmhihdaaDoor.Rc
