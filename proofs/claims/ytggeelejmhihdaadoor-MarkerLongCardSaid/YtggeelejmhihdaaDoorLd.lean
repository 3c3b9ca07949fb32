/- The law MarkerPrints, as a walk. -/
import Derived.Test.YtggeelejmhihdaaDoorLc
import Derived.Deep.RegionHeld3
import Derived.Deep.AppendLies
import Derived.Laws.Pointers
namespace Go.Proofs.YtggeelejmhihdaaDoor.Ld
open Go.RowKit Go.Shelf Go.Proofs.YtggeelejmhihdaaDoor.Pl Go.Proofs.YtggeelejmhihdaaDoor.Ut Go.Proofs.YtggeelejmhihdaaDoor.Ln Go.Proofs.YtggeelejmhihdaaDoor.Mk Go.Proofs.YtggeelejmhihdaaDoor.Ml Go.Proofs.YtggeelejmhihdaaDoor.Ms Go.Proofs.YtggeelejmhihdaaDoor.Mp Go.Proofs.YtggeelejmhihdaaDoor.Rc Go.Proofs.YtggeelejmhihdaaDoor.Re Go.Proofs.YtggeelejmhihdaaDoor.La Go.Proofs.YtggeelejmhihdaaDoor.Lb Go.Proofs.YtggeelejmhihdaaDoorW.PrintWords
set_option linter.unusedVariables false
set_option linter.unusedSimpArgs false
attribute [local go_sem] B_append B_extract B_toList B_size take_end

theorem lineMax_le {n b : Nat} {l : Str} (h : n ≤ b) (hl : l.length + 1 ≤ b) : lineMax n l ≤ b := by
  have r1 := runL_le 60 l
  have r2 := runL_le 124 l
  have r3 := runL_le 61 l
  have r4 := runL_le 62 l
  unfold lineMax; omega
theorem textMax_le {n b : Nat} {t : Str} (h : n ≤ b) (hl : t.length + 1 ≤ b) : textMax n t ≤ b := by
  unfold textMax
  have hs := splitL_len t
  generalize splitL t = ls at hs
  induction ls generalizing n with
  | nil => exact h
  | cons a r ih => exact ih (lineMax_le h (by have := hs a (by simp); omega)) (fun l hl => hs l (by simp [hl]))
theorem lengthL_le {ts : List Str} {b : Nat} (h7 : 7 ≤ b) (h : ∀ t ∈ ts, t.length + 1 ≤ b) : lengthL ts ≤ b := by
  unfold lengthL
  have : ∀ (ts : List Str) (n : Nat), n ≤ b → (∀ t ∈ ts, t.length + 1 ≤ b) → ts.foldl textMax n ≤ b := by
    intro ts
    induction ts with
    | nil => intro n hn _; exact hn
    | cons a r ih => intro n hn h; exact ih _ (textMax_le hn (h a (by simp))) (fun t ht => h t (by simp [ht]))
  exact this ts 7 h7 h
theorem lineMax_ge (n : Nat) (l : Str) : n ≤ lineMax n l := by unfold lineMax; omega
theorem textMax_ge (n : Nat) (t : Str) : n ≤ textMax n t := by
  unfold textMax
  generalize splitL t = ls
  induction ls generalizing n with
  | nil => exact Nat.le_refl _
  | cons a r ih => exact Nat.le_trans (lineMax_ge n a) (ih _)
theorem lengthL_ge (ts : List Str) : 7 ≤ lengthL ts := by
  unfold lengthL
  have : ∀ (ts : List Str) (n : Nat), n ≤ ts.foldl textMax n := by
    intro ts
    induction ts with
    | nil => intro n; exact Nat.le_refl _
    | cons a r ih => intro n; exact Nat.le_trans (textMax_ge n a) (ih _)
  exact this ts 7
theorem partL_le (N : Nat) (old : Bool) (x : Part) (ho : x.o.length ≤ 300) (ha : x.a.length ≤ 300) (hb : x.b.length ≤ 300) : (partL N old x).length ≤ 4 * N + 1000 := by
  have m1 := lineL_length 60 N false wOurs
  have m2 := sectionL_length x.a 124 N wBase
  have m3 := sectionL_length x.o 61 N []
  have m4 := sectionL_length x.a 61 N []
  have m5 := sectionL_length x.b 62 N wTheirs
  have q1 : wOurs.length = 4 := rfl
  have q2 : wBase.length = 4 := rfl
  have q3 : wTheirs.length = 6 := rfl
  have q4 : ([] : Str).length = 0 := rfl
  rw [q1] at m1
  rw [q2] at m2
  rw [q4] at m3 m4
  rw [q3] at m5
  cases hc : x.clash with
  | false => rw [partL_plain _ _ _ hc]; omega
  | true =>
    cases old with
    | true => rw [partL_old _ _ hc]; simp only [List.length_append]; omega
    | false => rw [partL_new _ _ hc]; simp only [List.length_append]; omega
theorem printL_le (N : Nat) (old : Bool) : ∀ (xs : List Part), (∀ p ∈ xs, p.o.length ≤ 300 ∧ p.a.length ≤ 300 ∧ p.b.length ≤ 300) → (printL xs N old).length ≤ xs.length * (4 * N + 1000)
  | [], _ => by simp [printL]
  | a :: r, h => by
    have ih := printL_le N old r (fun p hp => h p (by simp [hp]))
    obtain ⟨h1, h2, h3⟩ := h a (by simp)
    have ha := partL_le N old a h1 h2 h3
    have e : printL (a :: r) N old = partL N old a ++ printL r N old := rfl
    rw [e, List.length_append, List.length_cons, Nat.add_mul, Nat.one_mul]
    omega
/-- The two sides of each part. -/
def sidesL (l : List Part) : List Str := l.flatMap fun p => [p.a, p.b]
theorem sidesL_take (xs : List Part) (k : Nat) (x : Part) (hx : xs[k]? = some x) : sidesL (xs.take (k + 1)) = sidesL (xs.take k) ++ [x.a, x.b] := by
  rw [List.take_add_one, hx]
  simp [sidesL]
theorem sidesL_length (xs : List Part) : (sidesL xs).length = 2 * xs.length := by
  induction xs with
  | nil => rfl
  | cons a t ih => simp [sidesL] at ih ⊢; omega
theorem fewL_true {xs : List Part} (h : fewL xs = true) : xs.length ≤ 30 ∧ ∀ p ∈ xs, p.o.length ≤ 300 ∧ p.a.length ≤ 300 ∧ p.b.length ≤ 300 := by
  unfold fewL at h
  rw [Bool.and_eq_true, decide_eq_true_iff, List.all_eq_true] at h
  refine ⟨h.1, fun p hp => ?_⟩
  have := h.2 p hp
  simp only [Bool.and_eq_true, decide_eq_true_iff] at this
  exact ⟨this.1.1, this.1.2, this.2⟩

set_option maxRecDepth 100000 in
set_option maxHeartbeats 16000000 in
theorem prints_walk (xs : List Part) (n : Int) (old : Bool) (A : Option Addr) (c : Nat) (w : World) (hC : Kd.C kPart w A xs.length xs) (hn : xs.length ≤ 9223372036854775807) (hnn : -9223372036854775808 ≤ n ∧ n ≤ 9223372036854775807) (hS : Signs w) :
    Calls Tryd.prog 3 #[.slice A xs.length c, .int .i64 n, .bool old] w fun e w' => e = .returned (.bool true) ∧ Below w.heap.size w w' := by
  obtain ⟨i0, hi, hz0, hz1, hz2⟩ := info_parts infoString
  have HCC := Lib.hid hC
  clear hC
  go_enter Tryd.func3, Tryd.ntmps3
  go_wp2_with fail
  refine (awake_any w hS).mono ?_
  rintro e w1 ⟨rfl, hB1⟩
  have HS1 := Lib.hid (hS.below hB1)
  have HC1 := Lib.hid (Kd.C_below HCC.out hB1)
  have hz1' := hB1.size
  clear hS
  go_wp2_with fail
  refine (few_any xs A c w1 HC1.out hn).mono ?_
  rintro e w2 ⟨rfl, hb2⟩
  have HS2 := Lib.hid (HS1.out.below hb2)
  have HC2 := Lib.hid (Kd.C_below HC1.out hb2)
  have hB2 := hB1.trans (hb2.mono hz1')
  have hz2' := hB2.size
  clear hb2
  cases hf : fewL xs with
  | false =>
    go_wp2
    go_ret
    exact ⟨rfl, hB2⟩
  | true =>
    obtain ⟨hlen, hsz⟩ := fewL_true hf
    by_cases hn2 : 200 < n
    · have hn3 : decide ((200 : Int) < n) = true := by rw [decide_eq_true_iff]; exact hn2
      have HSZ := Lib.hid hsz
      clear hsz
      go_wp2
      go_ret
      exact ⟨rfl, hB2⟩
    · have hn3 : decide ((200 : Int) < n) = false := by rw [decide_eq_false_iff_not]; exact hn2
      obtain ⟨N, hN⟩ : ∃ N : Nat, max n 1 = (N : Int) := ⟨(max n 1).toNat, by omega⟩
      have hN9 : N ≤ 200 := by omega
      obtain ⟨M, hM⟩ : ∃ M, lengthL (textsL xs) = M := ⟨_, rfl⟩
      obtain ⟨L, hL⟩ : ∃ L, lengthL (sidesL xs) = L := ⟨_, rfl⟩
      have hM9 : M ≤ 301 := by
        rw [← hM]
        refine lengthL_le (by omega) (fun t ht => ?_)
        simp only [textsL, List.mem_flatMap] at ht
        obtain ⟨p, hp, ht⟩ := ht
        obtain ⟨h1, h2, h3⟩ := hsz p hp
        simp at ht
        rcases ht with rfl | rfl | rfl <;> omega
      have hM7 : 7 ≤ M := by rw [← hM]; exact lengthL_ge _
      have hlong : ∀ t ∈ sidesL xs, t.length ≤ 300 := fun t ht => by
        simp only [sidesL, List.mem_flatMap] at ht
        obtain ⟨p, hp, ht⟩ := ht
        obtain ⟨h1, h2, h3⟩ := hsz p hp
        simp at ht
        rcases ht with rfl | rfl <;> assumption
      have hp1 : (printL xs N old).length ≤ 1000000 := by
        have := printL_le N old xs hsz
        have h2 : xs.length * (4 * N + 1000) ≤ 30 * (4 * 200 + 1000) := Nat.mul_le_mul hlen (by omega)
        omega
      have hp2 : (printL xs M old).length ≤ 1000000 := by
        have := printL_le M old xs hsz
        have h2 : xs.length * (4 * M + 1000) ≤ 30 * (4 * 301 + 1000) := Nat.mul_le_mul hlen (by omega)
        omega
      have hsz9 : ∀ p ∈ xs, p.o.length ≤ 1000000000 ∧ p.a.length ≤ 1000000000 ∧ p.b.length ≤ 1000000000 := fun p hp => by
        obtain ⟨h1, h2, h3⟩ := hsz p hp
        omega
      have HSZ := Lib.hid hsz9
      have HLONG := Lib.hid hlong
      have HM := Lib.hid hM
      have HN := Lib.hid hN
      have HL := Lib.hid hL
      obtain ⟨P1, hP1⟩ : ∃ P1, P1 = printL xs N old := ⟨_, rfl⟩
      obtain ⟨P2, hP2⟩ : ∃ P2, P2 = printL xs M old := ⟨_, rfl⟩
      have HP1 := Lib.hid hP1
      have HP2 := Lib.hid hP2
      clear hsz hsz9 hlong hM hN hL
      rw [← hP1] at hp1
      rw [← hP2] at hp2
      clear hP1 hP2
      go_wp2_with fail
      refine (show_any xs M old A c w2 HC2.out HS2.out HM.out (by omega) (by omega) HSZ.out (by rw [← HP2.out]; omega)).mono ?_
      rw [← HP2.out]
      rintro e w3 ⟨rfl, hb3⟩
      have HS3 := Lib.hid (HS2.out.below hb3)
      have HC3 := Lib.hid (Kd.C_below HC2.out hb3)
      have hB3 := hB2.trans (hb3.mono hz2')
      have hz3' := hB3.size
      clear hb3
      go_wp2_with fail
      refine (rshow_any xs M old A c w3 HC3.out HM.out (by omega) hM7 (by omega) HSZ.out (by rw [← HP2.out]; omega)).mono ?_
      rw [← HP2.out]
      rintro e w4 ⟨rfl, hb4⟩
      have HS4 := Lib.hid (HS3.out.below hb4)
      have HC4 := Lib.hid (Kd.C_below HC3.out hb4)
      have hB4 := hB3.trans (hb4.mono hz3')
      have hz4' := hB4.size
      clear hb4
      go_wp2
      go_loopw [13, 14] (fun v i wr => ∃ k : Nat, k ≤ xs.length ∧ i = .int .i64 k ∧ wr.ownsRow w4.heap.size 9 1 v (2 * k) (encs (fun l : Str => .string (B l)) (sidesL (xs.take k))) ∧ Below w4.heap.size w4 wr) (fun _ i _ => xs.length - (intOf i).toNat)
      case atStart => exact ⟨0, Nat.zero_le _, rfl, World.ownsRow_nil _ _ _ _, Below.refl _ _⟩
      case round =>
        obtain ⟨k, hk, rfl, hown, hB⟩ := hrel
        have hsz := hB.size
        by_cases hlt : k < xs.length
        · obtain ⟨x, hxk⟩ : ∃ x, xs[k]? = some x := ⟨xs[k], List.getElem?_eq_getElem hlt⟩
          obtain ⟨ad, rfl, p0, p1, p2, p3⟩ := at_part (Kd.C_below HC4.out hB) k hlt x hxk
          have HXK := Lib.hid (sidesL_take xs k x hxk)
          have hblk : (ad.add (k * 4)).block < w4.heap.size := by
            obtain ⟨ad2, e2, q0, _⟩ := at_part HC4.out k hlt x hxk
            cases e2
            exact World.block_lt_of_cell? _ _ q0
          clear hxk
          have hlt1 : (ad.add (k * 4)).block < wr.heap.size := by omega
          have hne : u13.ownBlock ≠ some (ad.add (k * 4)).block := fun e => by have := own_base hown _ e; omega
          have hk0 : (0 : Int) ≤ (k : Int) := Int.natCast_nonneg _
          have hk1 : (k : Int) < (xs.length : Int) := by omega
          go_wp2_with fail
          go_region_held3 (fun w' => w'.cell? ⟨(ad.add (k * 4)).block, (ad.add (k * 4)).off + 2, none⟩ = some (.string (B x.a)) ∧ w'.cell? ⟨(ad.add (k * 4)).block, (ad.add (k * 4)).off + 3, none⟩ = some (.string (B x.b)))
            (first
              | go_keep
              | (go_split_ands
                 refine ⟨?_, ?_⟩
                 · (refine Eq.trans (hgrow.cell_far ⟨(ad.add (k * 4)).block, (ad.add (k * 4)).off + 2, none⟩ (by simp; omega) (Ne.symm hne)) ?_; assumption)
                 · (refine Eq.trans (hgrow.cell_far ⟨(ad.add (k * 4)).block, (ad.add (k * 4)).off + 3, none⟩ (by simp; omega) (Ne.symm hne)) ?_; assumption)))
            ((refine step_append_lies _ (by rfl) _ _ _ (by rfl) w4.heap.size 9 i0 _ 1 16 Tryd.underlying27 hi hz0 hz1 hz2 rfl (by omega) u13 (2 * k) _ (by rfl) (hown.drew.alloc _)
                ⟨wr.heap.size, 0, none⟩ 2 2 [.string (B x.a), .string (B x.b)] (by rfl) (by rfl) (World.news_of_block (cs := #[.string (B x.a), .string (B x.b)]) (t := 9) (fr := (0, 0)) (heap_alloc_new _ _)) (by simp [Value.oneCell'])
                (by omega) (by unfold maxLen; omega) (by omega) (by simp; omega) (wr.heap.size + 1) (by simp) ?_; intro gg cap w5 hown1 hgrow hat hlt2))
          have hB5 : Below w4.heap.size w4 w5 := ((hB.drew).alloc hsz _).grown hgrow (by simp; omega) (own_base hown)
          go_wp2
          go_roundw
          case rel => exact ⟨k + 1, by omega, by go_num, by rw [HXK.out]; simpa [encs, Nat.mul_add] using hown1, hB5⟩
          case measure => simp [intOf]; omega
        · obtain rfl : k = xs.length := by omega
          rw [List.take_length, ← sidesL_length] at hown
          have hR : kStr.R 9 wr w4.heap.size (fun _ => True) _ (sidesL xs) := Kd.R_of_own hown (fun _ _ => trivial)
          obtain ⟨A2, c2, rfl, hc2, hC2⟩ := Kd.R_reads hR
          have hl3 := sidesL_length xs
          have HC2' := Lib.hid hC2
          clear hown hR hC2
          have hl4 : (sidesL xs).length ≤ 1000000 := by omega
          clear hl3
          obtain ⟨wo, rfl⟩ : ∃ wo : World, wo = wr := ⟨_, rfl⟩
          have HC5 := Lib.hid (Kd.C_below HC4.out hB)
          have HS5 := Lib.hid (HS4.out.below hB)
          have hB5 := hB4.trans (hB.mono hz4')
          have hz5' := hB5.size
          clear hB
          go_wp2_with fail
          refine (print_any xs n N old A c wo HC5.out HS5.out HN.out (by omega) (by omega) HSZ.out (by rw [← HP1.out]; omega)).mono ?_
          rw [← HP1.out]
          rintro e w6 ⟨rfl, hb6⟩
          have HS6 := Lib.hid (HS5.out.below hb6)
          have HC6 := Lib.hid (Kd.C_below HC5.out hb6)
          have HT6 := Lib.hid (Kd.C_below HC2'.out hb6)
          have hB6 := hB5.trans (hb6.mono hz5')
          have hz6' := hB6.size
          clear hb6
          go_wp2_with fail
          refine (rprint_any xs n N old A c w6 HC6.out HN.out (by omega) (by omega) HSZ.out (by rw [← HP1.out]; omega)).mono ?_
          rw [← HP1.out]
          rintro e w7 ⟨rfl, hb7⟩
          have HS7 := Lib.hid (HS6.out.below hb7)
          have HT7 := Lib.hid (Kd.C_below HT6.out hb7)
          have hB7 := hB6.trans (hb7.mono hz6')
          have hz7' := hB7.size
          clear hb7
          go_wp2_with fail
          refine (length_any (sidesL xs) A2 c2 w7 HT7.out HS7.out hl4 (fun t ht => by have := HLONG.out t ht; omega)).mono ?_
          rw [HL.out]
          rintro e w8 ⟨rfl, hb8⟩
          have HT8 := Lib.hid (Kd.C_below HT7.out hb8)
          have hB8 := hB7.trans (hb8.mono hz7')
          have hz8' := hB8.size
          clear hb8
          go_wp2_with fail
          refine (rlength_any (sidesL xs) A2 c2 w8 HT8.out hl4 (fun t ht => by have := HLONG.out t ht; omega)).mono ?_
          rw [HL.out]
          rintro e w9 ⟨rfl, hb9⟩
          have hB9 := hB8.trans (hb9.mono hz8')
          clear hb9
          go_wp2
          go_ret
          exact ⟨rfl, hB9⟩

end Go.Proofs.YtggeelejmhihdaaDoor.Ld
