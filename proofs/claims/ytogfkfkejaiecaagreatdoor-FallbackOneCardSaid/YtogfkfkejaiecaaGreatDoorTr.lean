/- The law FallbackTrees, as a walk. -/
import Derived.Test.YtogfkfkejaiecaaGreatDoorTp
import Derived.Test.YtogfkfkejaiecaaGreatDoorTq

namespace Go.Proofs.YtogfkfkejaiecaaGreatDoor.Ka
open Go.RowKit Go.Shelf Pl Ut Ln Dc Dn Ds Ed Fa Ga Gb Gc Gd Ja Jb Jf Go.Proofs.YtogfkfkejaiecaaGreatDoorW.PrintWords
set_option linter.unusedVariables false
set_option linter.unusedSimpArgs false
attribute [local go_sem] B_append B_extract B_toList B_size take_end

theorem ptrees_of (o a b : List Fl) (A1 A2 A3 : Option Addr) (c1 c2 c3 : Nat) (w : World) (hS : Signs w) (h1 : Kd.C kFl w A1 o.length o) (h2 : Kd.C kFl w A2 a.length a) (h3 : Kd.C kFl w A3 b.length b)
    (l1 : o.length ≤ c1) (l2 : a.length ≤ c2) (l3 : b.length ≤ c3) (e1 : o.length ≤ 100 ∧ ∀ f ∈ o, f.2.length ≤ 2500) (e2 : a.length ≤ 100 ∧ ∀ f ∈ a, f.2.length ≤ 2500) (e3 : b.length ≤ 100 ∧ ∀ f ∈ b, f.2.length ≤ 2500) (old : Bool) (W : World) (hb : Below w.heap.size w W) :
    Calls Tryz.prog 15 #[.slice A1 o.length c1, .slice A2 a.length c2, .slice A3 b.length c3, .bool old] W fun e w' => ∃ V cv U cu, e = .returned (.tuple #[.slice V (treesL o a b old).1.length cv, .slice U (treesL o a b old).2.length cu]) ∧
      Hid (Kd.C kFl w' V (treesL o a b old).1.length (treesL o a b old).1) ∧ Hid (Kd.C kCf w' U (treesL o a b old).2.length (treesL o a b old).2) ∧ Hid (Below W.heap.size W w') := by
  refine (trees_any o a b old A1 A2 A3 c1 c2 c3 W (Kd.C_below h1 hb) (Kd.C_below h2 hb) (Kd.C_below h3 hb) l1 l2 l3 (by omega) (fun p W' hb' => three_any _ _ _ _ _ _ old (getL_len e1.2 p) (getL_len e2.2 p) (getL_len e3.2 p) W' (hS.below (hb.trans (hb'.mono hb.size))))).mono ?_
  rintro e w' ⟨v, u, rfl, hv, hu, hb2⟩
  obtain ⟨V, cv, rfl, _, hV⟩ := Kd.R_reads hv
  obtain ⟨U, cu, rfl, _, hU⟩ := Kd.R_reads hu
  exact ⟨V, cv, U, cu, rfl, Lib.hid hV, Lib.hid hU, Lib.hid hb2⟩
theorem rtrees_of (hL : LinesOk) (o a b : List Fl) (A1 A2 A3 : Option Addr) (c1 c2 c3 : Nat) (w : World) (h1 : Kd.C kFl w A1 o.length o) (h2 : Kd.C kFl w A2 a.length a) (h3 : Kd.C kFl w A3 b.length b)
    (l1 : o.length ≤ c1) (l2 : a.length ≤ c2) (l3 : b.length ≤ c3) (e1 : o.length ≤ 100 ∧ ∀ f ∈ o, f.2.length ≤ 2500) (e2 : a.length ≤ 100 ∧ ∀ f ∈ a, f.2.length ≤ 2500) (e3 : b.length ≤ 100 ∧ ∀ f ∈ b, f.2.length ≤ 2500) (old : Bool) (W : World) (hb : Below w.heap.size w W) :
    Calls Tryz.prog 16 #[.slice A1 o.length c1, .slice A2 a.length c2, .slice A3 b.length c3, .bool old] W fun e w' => ∃ V cv U cu, e = .returned (.tuple #[.slice V (treesL o a b old).1.length cv, .slice U (treesL o a b old).2.length cu]) ∧
      Hid (Kd.C kFl w' V (treesL o a b old).1.length (treesL o a b old).1) ∧ Hid (Kd.C kCf w' U (treesL o a b old).2.length (treesL o a b old).2) ∧ Hid (Below W.heap.size W w') := by
  refine (rtrees_any hL o a b old A1 A2 A3 c1 c2 c3 W (Kd.C_below h1 hb) (Kd.C_below h2 hb) (Kd.C_below h3 hb) l1 l2 l3 e1.1 e2.1 e3.1 e1.2 e2.2 e3.2).mono ?_
  rintro e w' ⟨v, u, rfl, hv, hu, hb2⟩
  obtain ⟨V, cv, rfl, _, hV⟩ := Kd.R_reads hv
  obtain ⟨U, cu, rfl, _, hU⟩ := Kd.R_reads hu
  exact ⟨V, cv, U, cu, rfl, Lib.hid hV, Lib.hid hU, Lib.hid hb2⟩
theorem treesL_len (o a b : List Fl) (old : Bool) : (treesL o a b old).1.length ≤ o.length + a.length + b.length ∧ (treesL o a b old).2.length ≤ o.length + a.length + b.length := by
  have h := compact_len [o, a, b]
  simp only [List.map_cons, List.map_nil, List.sum_cons, List.sum_nil] at h
  have h1 := outsL_length o a b old (pathsL [o, a, b])
  have h2 := badsL_length o a b old (pathsL [o, a, b])
  unfold treesL
  exact ⟨by simp only; omega, by simp only; omega⟩
theorem small_of {l : List Fl} (h : fewL l = true) : l.length ≤ 100 ∧ ∀ f ∈ l, f.2.length ≤ 2500 := by
  obtain ⟨h1, h2⟩ := fewL_each h
  exact ⟨by omega, fun f hf => (h2 f hf).1⟩
theorem same_of (x : List Fl) (A A' : Option Addr) (c c' : Nat) (w : World) (hx : Kd.C kFl w A x.length x) (hy : Kd.C kFl w A' x.length x) (lx : x.length ≤ 1000) (W : World) (hb : Below w.heap.size w W) :
    Calls Tryz.prog 17 #[.slice A x.length c, .slice A' x.length c'] W fun e w' => e = .returned (.bool true) ∧ Hid (Below W.heap.size W w') := by
  refine (rsameF_any x x A A' c c' W (Kd.C_below hx hb) (Kd.C_below hy hb) (by omega) (by omega)).mono ?_
  rintro e w' ⟨rfl, m, rfl⟩
  exact ⟨by simp, Lib.hid (pw_below_drewN (Below.refl _ _) m)⟩
theorem confl_of (x : List Cf) (A A' : Option Addr) (c c' : Nat) (w : World) (hx : Kd.C kCf w A x.length x) (hy : Kd.C kCf w A' x.length x) (lx : x.length ≤ 1000) (W : World) (hb : Below w.heap.size w W) :
    Calls Tryz.prog 18 #[.slice A x.length c, .slice A' x.length c'] W fun e w' => e = .returned (.bool true) ∧ Hid (Below W.heap.size W w') := by
  refine (conflicts_any x x A A' c c' W (Kd.C_below hx hb) (Kd.C_below hy hb) (by omega) (by omega)).mono ?_
  rintro e w' ⟨rfl, m, rfl⟩
  exact ⟨by simp, Lib.hid (pw_below_drewN (Below.refl _ _) m)⟩
theorem few_of (xs : List Fl) (A : Option Addr) (c : Nat) (w : World) (hC : Kd.C kFl w A xs.length xs) (hl : xs.length ≤ 9223372036854775807) (hs : ∀ f ∈ xs, f.1.length ≤ 1000000000000000 ∧ f.2.length ≤ 1000000000000000) (W : World) (hb : Below w.heap.size w W) :
    Calls Tryz.prog 14 #[.slice A xs.length c, .int .i64 10, .int .i64 2500] W fun e w' => e = .returned (.bool (fewL xs)) ∧ Hid (Below w.heap.size w w') := by
  refine (few_any xs A c W (Kd.C_below hC hb) hl hs).mono ?_
  rintro e w' ⟨rfl, m, rfl⟩
  exact ⟨rfl, Lib.hid (pw_below_drewN hb m)⟩

set_option maxRecDepth 100000 in
set_option maxHeartbeats 8000000 in
theorem trees_walk (hA : AwakeOk) (hL : LinesOk) (o a b : List Fl) (A1 A2 A3 : Option Addr) (c1 c2 c3 : Nat) (w : World) (hS : Signs w) (h1 : Kd.C kFl w A1 o.length o) (h2 : Kd.C kFl w A2 a.length a) (h3 : Kd.C kFl w A3 b.length b)
    (l1 : o.length ≤ c1) (l2 : a.length ≤ c2) (l3 : b.length ≤ c3) (z1 : o.length ≤ 9223372036854775807) (z2 : a.length ≤ 9223372036854775807) (z3 : b.length ≤ 9223372036854775807)
    (s1 : ∀ f ∈ o, f.1.length ≤ 1000000000000000 ∧ f.2.length ≤ 1000000000000000) (s2 : ∀ f ∈ a, f.1.length ≤ 1000000000000000 ∧ f.2.length ≤ 1000000000000000) (s3 : ∀ f ∈ b, f.1.length ≤ 1000000000000000 ∧ f.2.length ≤ 1000000000000000) :
    Calls Tryz.prog 4 #[.slice A1 o.length c1, .slice A2 a.length c2, .slice A3 b.length c3] w fun e w' => e = .returned (.bool true) ∧ Below w.heap.size w w' := by
  have F1 := Lib.hid (few_of o A1 c1 w h1 z1 s1)
  have F2 := Lib.hid (few_of a A2 c2 w h2 z2 s2)
  have F3 := Lib.hid (few_of b A3 c3 w h3 z3 s3)
  have HC := Lib.hid (And.intro h1 (And.intro h2 h3))
  have HLE := Lib.hid (And.intro l1 (And.intro l2 l3))
  have HS := Lib.hid hS
  have HA := Lib.hid (hA w hS)
  obtain ⟨f1, hf1⟩ : ∃ f, f = fewL o := ⟨_, rfl⟩
  obtain ⟨f2, hf2⟩ : ∃ f, f = fewL a := ⟨_, rfl⟩
  obtain ⟨f3, hf3⟩ : ∃ f, f = fewL b := ⟨_, rfl⟩
  rw [← hf1] at F1
  rw [← hf2] at F2
  rw [← hf3] at F3
  have HF := Lib.hid (And.intro hf1 (And.intro hf2 hf3))
  clear hS h1 h2 h3 l1 l2 l3 s1 s2 s3 hf1 hf2 hf3
  go_enter Tryz.func4, Tryz.ntmps4
  go_wp2_with fail
  refine HA.out.mono ?_
  rintro e w1 ⟨rfl, hb1⟩
  have HB1 := Lib.hid hb1
  clear hb1 HA
  go_wp2_with fail
  refine (F1.out _ HB1.out).mono ?_
  rintro e w2 ⟨rfl, HB2⟩
  clear HB1 F1
  go_wp2_with fail
  refine (F2.out _ HB2.out).mono ?_
  rintro e w3 ⟨rfl, HB3⟩
  clear HB2 F2
  go_wp2_with fail
  refine (F3.out _ HB3.out).mono ?_
  rintro e w4 ⟨rfl, HB4⟩
  clear HB3 F3
  cases f1 with
  | false =>
    go_wp2
    go_ret
    exact ⟨rfl, HB4.out⟩
  | true =>
    cases f2 with
    | false =>
      go_wp2
      go_ret
      exact ⟨rfl, HB4.out⟩
    | true =>
      cases f3 with
      | false =>
        go_wp2
        go_ret
        exact ⟨rfl, HB4.out⟩
      | true =>
        have i1 := small_of HF.out.1.symm
        have i2 := small_of HF.out.2.1.symm
        have i3 := small_of HF.out.2.2.symm
        have KT := Lib.hid (ptrees_of o a b A1 A2 A3 c1 c2 c3 w HS.out HC.out.1 HC.out.2.1 HC.out.2.2 HLE.out.1 HLE.out.2.1 HLE.out.2.2 i1 i2 i3)
        have KR := Lib.hid (rtrees_of hL o a b A1 A2 A3 c1 c2 c3 w HC.out.1 HC.out.2.1 HC.out.2.2 HLE.out.1 HLE.out.2.1 HLE.out.2.2 i1 i2 i3)
        have m1 := treesL_len o a b true
        have m2 := treesL_len o a b false
        have KT1 := Lib.hid (KT.out true)
        have KT2 := Lib.hid (KT.out false)
        have KR1 := Lib.hid (KR.out true)
        have KR2 := Lib.hid (KR.out false)
        obtain ⟨⟨X, Y⟩, hX⟩ : ∃ q, q = treesL o a b true := ⟨_, rfl⟩
        obtain ⟨⟨Z, T⟩, hZ⟩ : ∃ q, q = treesL o a b false := ⟨_, rfl⟩
        rw [← hX] at m1 KT1 KR1
        rw [← hZ] at m2 KT2 KR2
        have n1 : X.length ≤ 1000 := by have := m1.1; simp only at this; omega
        have n2 : Y.length ≤ 1000 := by have := m1.2; simp only at this; omega
        have n3 : Z.length ≤ 1000 := by have := m2.1; simp only at this; omega
        have n4 : T.length ≤ 1000 := by have := m2.2; simp only at this; omega
        clear KT KR hX hZ m1 m2 i1 i2 i3 HF HLE HC HS
        go_wp2_with fail
        refine (KT1.out w4 HB4.out).mono ?_
        rintro e w5 ⟨V1, d1, U1, e1, rfl, hv1, hu1, hb5⟩
        have HB5 := Lib.hid (HB4.out.trans (hb5.out.mono HB4.out.size))
        clear hb5 KT1 HB4
        go_wp2_with fail
        refine (KR1.out w5 HB5.out).mono ?_
        rintro e w6 ⟨V2, d2, U2, e2, rfl, hv2, hu2, hb6⟩
        have HB6 := Lib.hid (HB5.out.trans (hb6.out.mono HB5.out.size))
        have gv1 := Lib.hid (Kd.C_below hv1.out hb6.out)
        have gu1 := Lib.hid (Kd.C_below hu1.out hb6.out)
        clear hb6 KR1 HB5 hv1 hu1
        go_wp2_with fail
        refine (KT2.out w6 HB6.out).mono ?_
        rintro e w7 ⟨V3, d3, U3, e3, rfl, hv3, hu3, hb7⟩
        have HB7 := Lib.hid (HB6.out.trans (hb7.out.mono HB6.out.size))
        have kv1 := Lib.hid (Kd.C_below gv1.out hb7.out)
        have ku1 := Lib.hid (Kd.C_below gu1.out hb7.out)
        have kv2 := Lib.hid (Kd.C_below hv2.out hb7.out)
        have ku2 := Lib.hid (Kd.C_below hu2.out hb7.out)
        clear hb7 KT2 HB6 gv1 gu1 hv2 hu2
        go_wp2_with fail
        refine (KR2.out w7 HB7.out).mono ?_
        rintro e w8 ⟨V4, d4, U4, e4, rfl, hv4, hu4, hb8⟩
        have HB8 := Lib.hid (HB7.out.trans (hb8.out.mono HB7.out.size))
        have S1 := Lib.hid (same_of X V1 V2 d1 d2 w8 (Kd.C_below kv1.out hb8.out) (Kd.C_below kv2.out hb8.out) n1)
        have S2 := Lib.hid (confl_of Y U1 U2 e1 e2 w8 (Kd.C_below ku1.out hb8.out) (Kd.C_below ku2.out hb8.out) n2)
        have S3 := Lib.hid (same_of Z V3 V4 d3 d4 w8 (Kd.C_below hv3.out hb8.out) hv4.out n3)
        have S4 := Lib.hid (confl_of T U3 U4 e3 e4 w8 (Kd.C_below hu3.out hb8.out) hu4.out n4)
        clear hb8 KR2 HB7 kv1 ku1 kv2 ku2 hv3 hu3 hv4 hu4
        go_wp2_with fail
        refine (S1.out w8 (Below.refl _ _)).mono ?_
        rintro e w9 ⟨rfl, hb9⟩
        clear S1
        go_wp2_with fail
        refine (S2.out w9 hb9.out).mono ?_
        rintro e wa ⟨rfl, hba⟩
        have HBa := Lib.hid (hb9.out.trans (hba.out.mono hb9.out.size))
        clear S2 hba hb9
        go_wp2_with fail
        refine (S3.out wa HBa.out).mono ?_
        rintro e wb ⟨rfl, hbb⟩
        have HBb := Lib.hid (HBa.out.trans (hbb.out.mono HBa.out.size))
        clear S3 hbb HBa
        go_wp2_with fail
        refine (S4.out wb HBb.out).mono ?_
        rintro e wc ⟨rfl, hbc⟩
        have HBc := Lib.hid (HBb.out.trans (hbc.out.mono HBb.out.size))
        clear S4 hbc HBb
        go_wp2
        go_ret
        exact ⟨rfl, HB8.out.trans (HBc.out.mono HB8.out.size)⟩

end Go.Proofs.YtogfkfkejaiecaaGreatDoor.Ka
