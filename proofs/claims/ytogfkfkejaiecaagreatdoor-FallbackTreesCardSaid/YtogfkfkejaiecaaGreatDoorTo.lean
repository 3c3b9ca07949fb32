/- Contract of the reference ref07: Chunks. What was told of the references is shown: Numbers, Chunks, Parts, Lines. -/
import Derived.Test.YtogfkfkejaiecaaGreatDoorTf
import Derived.Test.YtogfkfkejaiecaaGreatDoorTk
import Derived.Test.YtogfkfkejaiecaaGreatDoorTd
import Derived.BigQuiet
import Derived.WalkMore
import Derived.Deep.CutRange
import Derived.Deep.RegionHeld3
import Derived.Deep.AppendLies
import Derived.Test.YtogfkfkejaiecaaGreatDoorTn
import Derived.Test.YtogfkfkejaiecaaGreatDoorTi

namespace Go.Proofs.YtogfkfkejaiecaaGreatDoor.Eh
open Go.RowKit Go.Shelf Pl Ut Ln Da Db Dc Dd De Dg Dk Dl Dm Rf Dy Eo Go.Proofs.YtogfkfkejaiecaaGreatDoorW.PrintWords
set_option linter.unusedVariables false
set_option linter.unusedSimpArgs false

/-- A row of whole numbers that lies below what is written. -/
def LiesI (w : World) (B0 : Nat) (A : Option Addr) (xs : List Int) : Prop := ∀ (k : Nat) (x : Int), xs[k]? = some x → ∃ g, A = some ⟨g, 0, none⟩ ∧ g < B0 ∧ w.cell? ⟨g, k, none⟩ = some (.int .i64 x)
theorem LiesI.below {w w' : World} {B0 : Nat} {A : Option Addr} {xs : List Int} (h : LiesI w B0 A xs) (hb : Below B0 w w') : LiesI w' B0 A xs := fun k x hx => by
  obtain ⟨g, h1, h2, h3⟩ := h k x hx
  exact ⟨g, h1, h2, (hb.cell (p := ⟨g, k, none⟩) h2).trans h3⟩
theorem LiesI.up {w : World} {B0 B1 : Nat} {A : Option Addr} {xs : List Int} (h : LiesI w B0 A xs) (hb : B0 ≤ B1) : LiesI w B1 A xs := fun k x hx => by
  obtain ⟨g, h1, h2, h3⟩ := h k x hx
  exact ⟨g, h1, Nat.lt_of_lt_of_le h2 hb, h3⟩
theorem liesI_of {w : World} {B v n} {xs : List Int} (h : w.ownsRow B 3 1 v n (encs (Value.int .i64) xs)) : ∃ A c, v = .slice A n c ∧ LiesI w w.heap.size A xs := by
  have hl : xs.length = n := by have := h.1; simp [encs] at this; exact this
  rcases Nat.eq_zero_or_pos n with h0 | h0
  · obtain ⟨A, c, e⟩ := own_slice h
    exact ⟨A, c, e, fun k x hx => by have := (List.getElem?_eq_some_iff.1 hx).1; omega⟩
  · obtain ⟨gr, cr, rfl, hgr, _⟩ := h.form h0
    exact ⟨_, _, rfl, fun k x hx => ⟨gr, rfl, own_lt h gr rfl, by rw [← add_plain]; exact h.cells (g := gr) rfl k _ (by simp [encs, hx])⟩⟩

/-- Does the walk for the next thing that both sides have go on? -/
def onN (ma mb : List Int) (i : Nat) : Bool := match ma[i]?, mb[i]? with
  | some x, some y => decide (x < 0 ∨ y < 0)
  | _, _ => false
theorem onN_true {ma mb : List Int} {i : Nat} (h : onN ma mb i = true) : ∃ x y, ma[i]? = some x ∧ mb[i]? = some y ∧ (x < 0 ∨ y < 0) := by
  unfold onN at h
  split at h
  · rename_i x y hx hy
    exact ⟨x, y, hx, hy, of_decide_eq_true h⟩
  · cases h
theorem onN_false {ma mb : List Int} {i : Nat} {x y : Int} (h : onN ma mb i = false) (hx : ma[i]? = some x) (hy : mb[i]? = some y) : 0 ≤ x ∧ 0 ≤ y := by
  unfold onN at h
  rw [hx, hy] at h
  have := of_decide_eq_false h
  omega

set_option maxRecDepth 100000 in
set_option maxHeartbeats 8000000 in
theorem rchunks_any (o a b : List Nat) (A1 A2 A3 : Option Addr) (c1 c2 c3 : Nat) (w : World) (ho : LiesA w w.heap.size A1 o) (ha : LiesA w w.heap.size A2 a) (hb : LiesA w w.heap.size A3 b)
    (hc1 : o.length ≤ c1) (hc2 : a.length ≤ c2) (hc3 : b.length ≤ c3) (lo : o.length ≤ 3000) (la : a.length ≤ 3000) (lb : b.length ≤ 3000) :
    Calls Tryz.prog 76 #[.slice A1 o.length c1, .slice A2 a.length c2, .slice A3 b.length c3] w fun e w' => ∃ v, e = .returned v ∧ kCk.R 99 w' w.heap.size (fun _ => True) v (chunksL o a b) ∧ Below w.heap.size w w' := by
  have HO := Lib.hid ho
  have HA := Lib.hid ha
  have HBb := Lib.hid hb
  clear ho ha hb
  go_enter Tryz.func76, Tryz.ntmps76
  go_wp2_with fail
  refine (rmatch_any o a A1 A2 c1 c2 w HO.out.lies HA.out.lies (by omega) (by omega)).mono ?_
  rintro e w1 ⟨v1, rfl, hr1, hb1⟩
  obtain ⟨AM, cm1, rfl, hm1⟩ := liesI_of hr1
  have HM1 := Lib.hid hm1
  have HB1 := Lib.hid hb1
  clear hr1 hm1 hb1
  go_wp2_with fail
  refine (rmatch_any o b A1 A3 c1 c3 w1 ((HO.out.below HB1.out).up HB1.out.size).lies ((HBb.out.below HB1.out).up HB1.out.size).lies (by omega) (by omega)).mono ?_
  rintro e w2 ⟨v2, rfl, hr2, hb2⟩
  obtain ⟨AN, cm2, rfl, hm2⟩ := liesI_of hr2
  have HM2 := Lib.hid ((HM1.out.below hb2).up hb2.size)
  have HN2 := Lib.hid hm2
  have HB2 := Lib.hid (HB1.out.trans (hb2.mono HB1.out.size))
  clear hr2 hm2 hb2 HM1 HB1
  have HO2 := Lib.hid ((HO.out.below HB2.out).up HB2.out.size)
  have HA2 := Lib.hid ((HA.out.below HB2.out).up HB2.out.size)
  have HBb2 := Lib.hid ((HBb.out.below HB2.out).up HB2.out.size)
  clear HO HA HBb
  obtain ⟨ma, hma⟩ : ∃ m, m = matchL o a := ⟨_, rfl⟩
  obtain ⟨mb, hmb⟩ : ∃ m, m = matchL o b := ⟨_, rfl⟩
  rw [← hma] at HM2
  rw [← hmb] at HN2
  have HLM : Hid (ma.length = o.length) := Lib.hid (by rw [hma]; exact (matchL_rising o a).2)
  have HLN : Hid (mb.length = o.length) := Lib.hid (by rw [hmb]; exact (matchL_rising o b).2)
  have HEM := Lib.hid hma
  have HEN := Lib.hid hmb
  clear hma hmb
  go_wp2
  go_loopw [9, 10, 11, 12] (fun v p q s wr => ∃ (P Q S f : Nat) (pre : List Ck), p = .int .i64 (P : Int) ∧ q = .int .i64 (Q : Int) ∧ s = .int .i64 (S : Int) ∧ Hid (AtC o a b P Q S) ∧ Hid (o.length + a.length + b.length ≤ P + Q + S + f) ∧ Hid (chunksL o a b = pre ++ chunkGo o a b f P Q S) ∧ Hid (pre.length ≤ P + Q + S) ∧
    Hid (kCk.R 99 wr w2.heap.size (fun _ => True) v pre) ∧ Hid (Below w2.heap.size w2 wr)) (fun _ p q s _ => o.length + a.length + b.length - (intOf p).toNat - (intOf q).toNat - (intOf s).toNat)
  case atStart => exact ⟨0, 0, 0, o.length + a.length + b.length, [], rfl, rfl, rfl, Lib.hid (AtC.start o a b), Lib.hid (by omega), Lib.hid rfl, Lib.hid (by simp), Lib.hid (Kd.R_nil _ _ _ _ _), Lib.hid (Below.refl _ _)⟩
  case round =>
    obtain ⟨P, Q, S, f, pre, rfl, rfl, rfl, HAt, HF, HCh, HPL, HR, HB⟩ := hrel
    obtain ⟨wo, rfl⟩ : ∃ wo : World, wo = wr := ⟨_, rfl⟩
    have hP := HAt.out.po
    have hQ := HAt.out.qa
    have hS := HAt.out.sb
    obtain ⟨bb, hbb⟩ : ∃ bb : Bool, bb = decide (¬ (P = o.length ∧ Q = a.length ∧ S = b.length)) := ⟨_, rfl⟩
    have HBO := Lib.hid hbb
    clear hbb
    go_upto_region 7 with fail
    go_cut [38] from 23 to 38 (fun c wc => c = .bool bb ∧ wc = wo)
    case first =>
      by_cases h1 : P < o.length
      · have d1 : decide ((P : Int) < (o.length : Int)) = true := by rw [decide_eq_true_eq]; omega
        have i1 : (P : Int) < (o.length : Int) := by omega
        obtain rfl : bb = true := by rw [HBO.out, decide_eq_true_eq]; omega
        go_wp2
        go_meet
        exact ⟨rfl, rfl⟩
      · have d1 : decide ((P : Int) < (o.length : Int)) = false := by rw [decide_eq_false_iff_not]; omega
        by_cases h2 : Q < a.length
        · have d2 : decide ((Q : Int) < (a.length : Int)) = true := by rw [decide_eq_true_eq]; omega
          obtain rfl : bb = true := by rw [HBO.out, decide_eq_true_eq]; omega
          go_wp2
          go_meet
          exact ⟨rfl, rfl⟩
        · have d2 : decide ((Q : Int) < (a.length : Int)) = false := by rw [decide_eq_false_iff_not]; omega
          by_cases h3 : S < b.length
          · have d3 : decide ((S : Int) < (b.length : Int)) = true := by rw [decide_eq_true_eq]; omega
            obtain rfl : bb = true := by rw [HBO.out, decide_eq_true_eq]; omega
            go_wp2
            go_meet
            exact ⟨rfl, rfl⟩
          · have d3 : decide ((S : Int) < (b.length : Int)) = false := by rw [decide_eq_false_iff_not]; omega
            obtain rfl : bb = false := by rw [HBO.out, decide_eq_false_iff_not]; omega
            go_wp2
            go_meet
            exact ⟨rfl, rfl⟩
    case rest =>
      obtain ⟨rfl, rfl⟩ := hcut
      cases bb with
      | false =>
        have hend := of_decide_eq_false HBO.out.symm
        have HFin : Hid (chunksL o a b = pre) := Lib.hid (by
          rw [HCh.out]
          cases f with
          | zero => simp [chunkGo]
          | succ f => unfold chunkGo; rw [if_pos (by omega)]; simp)
        go_wp2
        go_ret
        refine ⟨_, rfl, ?_, HB2.out.trans (HB.out.mono HB2.out.size)⟩
        rw [HFin.out]
        exact Kd.R_lower HR.out HB2.out.size
      | true =>
        have hend := of_decide_eq_true HBO.out.symm
        clear HBO
        have HEND := Lib.hid hend
        clear hend
        go_wp2
        go_loopw [13] (fun v wr => ∃ n : Nat, v = .int .i64 (n : Int) ∧ P + n ≤ o.length ∧ Hid (stabN (ma.drop P) (mb.drop P) Q S = n + stabN (ma.drop (P + n)) (mb.drop (P + n)) (Q + n) (S + n)) ∧ wr = wc) (fun v _ => o.length - P - (intOf v).toNat)
        case atStart => exact ⟨0, rfl, by omega, Lib.hid (by simp), rfl⟩
        case round =>
          obtain ⟨n, rfl, hn, HS, rfl⟩ := hrel
          obtain ⟨pn, hpn⟩ : ∃ x, x = P + n := ⟨_, rfl⟩
          obtain ⟨qn, hqn⟩ : ∃ x, x = Q + n := ⟨_, rfl⟩
          obtain ⟨sn, hsn⟩ : ∃ x, x = S + n := ⟨_, rfl⟩
          have c0 : IntKind.i64.wrap ((P : Int) + (n : Int)) = (pn : Int) := by rw [IntWalk.i64_in _ (by omega)]; omega
          have c1' : IntKind.i64.wrap ((Q : Int) + (n : Int)) = (qn : Int) := by rw [IntWalk.i64_in _ (by omega)]; omega
          have c2' : IntKind.i64.wrap ((S : Int) + (n : Int)) = (sn : Int) := by rw [IntWalk.i64_in _ (by omega)]; omega
          have c3' : IntKind.i64.wrap ((n : Int) + 1) = ((n + 1 : Nat) : Int) := by rw [IntWalk.i64_in _ (by omega)]; omega
          have HPN := Lib.hid (And.intro hpn (And.intro hqn hsn))
          rw [← hpn, ← hqn, ← hsn] at HS
          rw [← hpn] at hn
          have HPNn := Lib.hid hn
          clear hpn hqn hsn hn hP hQ hS
          obtain ⟨bb, hbb⟩ : ∃ bb : Bool, bb = decide (ma[pn]? = some (qn : Int) ∧ mb[pn]? = some (sn : Int)) := ⟨_, rfl⟩
          have HBO := Lib.hid hbb
          clear hbb
          go_upto_region 9 with fail
          go_cut [68] from 39 to 68 (fun c wc => c = .bool bb ∧ wc = wr)
          case first =>
            by_cases h1 : pn < o.length
            · have d1 : decide ((pn : Int) < (o.length : Int)) = true := by rw [decide_eq_true_eq]; omega
              have i1 : (pn : Int) < (o.length : Int) := by omega
              obtain ⟨x, hx⟩ : ∃ x, ma[pn]? = some x := ⟨_, List.getElem?_eq_getElem (by rw [HLM.out]; exact h1)⟩
              obtain ⟨y, hy⟩ : ∃ y, mb[pn]? = some y := ⟨_, List.getElem?_eq_getElem (by rw [HLN.out]; exact h1)⟩
              obtain ⟨g1, rfl, _, e1⟩ := (HM2.out.below HB.out) pn x hx
              obtain ⟨g2, rfl, _, e2⟩ := (HN2.out.below HB.out) pn y hy
              rw [hx, hy] at HBO
              clear hx hy
              by_cases h2 : x = (qn : Int)
              · have d2 : (x == (qn : Int)) = true := by rw [beq_iff_eq]; exact h2
                by_cases h3 : y = (sn : Int)
                · have d3 : (y == (sn : Int)) = true := by rw [beq_iff_eq]; exact h3
                  obtain rfl : bb = true := by rw [HBO.out, decide_eq_true_eq]; exact ⟨congrArg some h2, congrArg some h3⟩
                  clear h2 h3
                  go_wp2
                  go_meet
                  exact ⟨rfl, rfl⟩
                · have d3 : (y == (sn : Int)) = false := by rw [beq_eq_false_iff_ne]; exact h3
                  obtain rfl : bb = false := by rw [HBO.out, decide_eq_false_iff_not]; exact fun h => h3 (Option.some.inj h.2)
                  clear h2 h3
                  go_wp2
                  go_meet
                  exact ⟨rfl, rfl⟩
              · have d2 : (x == (qn : Int)) = false := by rw [beq_eq_false_iff_ne]; exact h2
                obtain rfl : bb = false := by rw [HBO.out, decide_eq_false_iff_not]; exact fun h => h2 (Option.some.inj h.1)
                clear h2
                go_wp2
                go_meet
                exact ⟨rfl, rfl⟩
            · have d1 : decide ((pn : Int) < (o.length : Int)) = false := by rw [decide_eq_false_iff_not]; omega
              obtain rfl : bb = false := by
                rw [HBO.out, decide_eq_false_iff_not]
                rintro ⟨h, _⟩
                have := (List.getElem?_eq_some_iff.1 h).1
                rw [HLM.out] at this
                exact h1 this
              go_wp2
              go_meet
              exact ⟨rfl, rfl⟩
          case rest =>
            obtain ⟨rfl, rfl⟩ := hcut
            cases bb with
            | true =>
              have HC := Lib.hid (of_decide_eq_true HBO.out.symm)
              clear HBO
              go_wp2
              go_roundw
              case rel =>
                have hlt : pn < o.length := by have := (List.getElem?_eq_some_iff.1 HC.out.1).1; rw [HLM.out] at this; exact this
                obtain ⟨h1, h2, h3⟩ := HPN.out
                refine ⟨n + 1, rfl, by omega, Lib.hid ?_, trivial⟩
                rw [HS.out, stab_on HC.out.1 HC.out.2, h1, h2, h3]
                simp only [Nat.add_assoc]
                omega
              · have hlt : pn < o.length := by have := (List.getElem?_eq_some_iff.1 HC.out.1).1; rw [HLM.out] at this; exact this
                have := HPN.out.1
                simp only [intOf]; omega
            | false =>
              have HC := Lib.hid (of_decide_eq_false HBO.out.symm)
              clear HBO
              have HN : Hid (stabN (ma.drop P) (mb.drop P) Q S = n) := Lib.hid (by
                rw [HS.out]
                by_cases h : pn < o.length
                · obtain ⟨x, hx⟩ : ∃ x, ma[pn]? = some x := ⟨_, List.getElem?_eq_getElem (by rw [HLM.out]; exact h)⟩
                  obtain ⟨y, hy⟩ : ∃ y, mb[pn]? = some y := ⟨_, List.getElem?_eq_getElem (by rw [HLN.out]; exact h)⟩
                  have hc := HC.out
                  rw [hx, hy] at hc
                  rw [stab_off hx hy (fun h => hc ⟨congrArg some h.1, congrArg some h.2⟩), Nat.add_zero]
                · rw [stab_end (by rw [HLM.out]; exact h), Nat.add_zero])
              clear HC HS
              obtain ⟨t1, t2, t3, ht⟩ : ∃ t1 t2 t3, (t1, t2, t3) = stepC ma mb o.length a.length b.length P Q S := ⟨_, _, _, rfl⟩
              have HT := Lib.hid ht
              clear ht
              go_upto_if 81 with fail
              obtain ⟨bz, hbz⟩ : ∃ bz : Bool, bz = ((n : Int) == 0) := ⟨_, rfl⟩
              rw [← hbz]
              have HBZ := Lib.hid hbz
              clear hbz
              go_cut [14, 15, 16] from 80 to 117 (fun x y z wd => x = .int .i64 (t1 : Int) ∧ y = .int .i64 (t2 : Int) ∧ z = .int .i64 (t3 : Int) ∧ wd = wc)
              case first =>
                cases bz with
                | true =>
                  have hn0 : n = 0 := by have := HBZ.out; rw [eq_comm, beq_iff_eq] at this; omega
                  clear HBZ
                  obtain ⟨e1, e2, e3⟩ := HPN.out
                  obtain rfl : pn = P := by omega
                  obtain rfl : qn = Q := by omega
                  obtain rfl : sn = S := by omega
                  clear e1 e2 e3
                  have HT2 : Hid ((∀ pe x y, nextN (ma.drop pn) (mb.drop pn) pn = some (pe, x, y) → t1 = pe ∧ t2 = x.toNat ∧ t3 = y.toNat) ∧ (nextN (ma.drop pn) (mb.drop pn) pn = none → t1 = o.length ∧ t2 = a.length ∧ t3 = b.length)) := Lib.hid ⟨fun pe x y h => by
                    have := HT.out
                    unfold stepC at this
                    rw [HN.out, if_neg (by omega), h] at this
                    exact ⟨(Prod.mk.inj this).1, Prod.mk.inj (Prod.mk.inj this).2⟩, fun h => by
                    have := HT.out
                    unfold stepC at this
                    rw [HN.out, if_neg (by omega), h] at this
                    exact ⟨(Prod.mk.inj this).1, Prod.mk.inj (Prod.mk.inj this).2⟩⟩
                  clear hn0 HT HN c0 c1' c2' c3' HPN
                  go_wp2
                  go_loopw [14] (fun v wr => ∃ i : Nat, v = .int .i64 (i : Int) ∧ i ≤ o.length ∧ Hid (nextN (ma.drop pn) (mb.drop pn) pn = nextN (ma.drop i) (mb.drop i) i) ∧ wr = wc) (fun v _ => o.length - (intOf v).toNat)
                  case atStart => exact ⟨pn, rfl, HPNn.out, Lib.hid rfl, rfl⟩
                  case round =>
                    obtain ⟨i, rfl, hi, HNX, rfl⟩ := hrel
                    have cadd : IntKind.i64.wrap ((i : Int) + 1) = ((i + 1 : Nat) : Int) := by rw [IntWalk.i64_in _ (by omega)]; omega
                    obtain ⟨bb, hbb⟩ : ∃ bb : Bool, bb = onN ma mb i := ⟨_, rfl⟩
                    have HBO := Lib.hid hbb
                    clear hbb
                    go_upto_region 15 with fail
                    go_cut [99] from 82 to 99 (fun c wc => c = .bool bb ∧ wc = wr)
                    case first =>
                      by_cases h1 : i < o.length
                      · have d1 : decide ((i : Int) < (o.length : Int)) = true := by rw [decide_eq_true_eq]; omega
                        have i1 : (i : Int) < (o.length : Int) := by omega
                        obtain ⟨x, hx⟩ : ∃ x, ma[i]? = some x := ⟨_, List.getElem?_eq_getElem (by rw [HLM.out]; exact h1)⟩
                        obtain ⟨y, hy⟩ : ∃ y, mb[i]? = some y := ⟨_, List.getElem?_eq_getElem (by rw [HLN.out]; exact h1)⟩
                        obtain ⟨g1, rfl, _, e1⟩ := (HM2.out.below HB.out) i x hx
                        obtain ⟨g2, rfl, _, e2⟩ := (HN2.out.below HB.out) i y hy
                        have HBO2 : Hid (bb = decide (x < 0 ∨ y < 0)) := Lib.hid (by rw [HBO.out]; unfold onN; rw [hx, hy])
                        clear hx hy HBO
                        by_cases h2 : x < 0
                        · have d2 : decide (x < (0 : Int)) = true := by rw [decide_eq_true_eq]; exact h2
                          obtain rfl : bb = true := by rw [HBO2.out, decide_eq_true_eq]; exact .inl h2
                          go_wp2
                          go_meet
                          exact ⟨rfl, rfl⟩
                        · have d2 : decide (x < (0 : Int)) = false := by rw [decide_eq_false_iff_not]; exact h2
                          by_cases h3 : y < 0
                          · have d3 : decide (y < (0 : Int)) = true := by rw [decide_eq_true_eq]; exact h3
                            obtain rfl : bb = true := by rw [HBO2.out, decide_eq_true_eq]; exact .inr h3
                            go_wp2
                            go_meet
                            exact ⟨rfl, rfl⟩
                          · have d3 : decide (y < (0 : Int)) = false := by rw [decide_eq_false_iff_not]; exact h3
                            obtain rfl : bb = false := by rw [HBO2.out, decide_eq_false_iff_not]; omega
                            go_wp2
                            go_meet
                            exact ⟨rfl, rfl⟩
                      · have d1 : decide ((i : Int) < (o.length : Int)) = false := by rw [decide_eq_false_iff_not]; omega
                        obtain rfl : bb = false := by
                          rw [HBO.out]; unfold onN
                          rw [List.getElem?_eq_none (by rw [HLM.out]; omega)]
                        go_wp2
                        go_meet
                        exact ⟨rfl, rfl⟩
                    case rest =>
                      obtain ⟨rfl, rfl⟩ := hcut
                      cases bb with
                      | true =>
                        obtain ⟨x, y, hx, hy, hxy⟩ := onN_true HBO.out.symm
                        have hil : i < o.length := by have := (List.getElem?_eq_some_iff.1 hx).1; rw [HLM.out] at this; exact this
                        have HNX2 := Lib.hid (HNX.out.trans (next_off hx hy (by omega)))
                        have HIL := Lib.hid hil
                        clear hx hy hxy HBO hil
                        go_wp2
                        go_roundw
                        case rel => exact ⟨i + 1, rfl, HIL.out, HNX2, trivial⟩
                        · have := HIL.out; simp only [intOf]; omega
                      | false =>
                        by_cases h1 : i < o.length
                        · have i1 : (i : Int) < (o.length : Int) := by omega
                          obtain ⟨x, hx⟩ : ∃ x, ma[i]? = some x := ⟨_, List.getElem?_eq_getElem (by rw [HLM.out]; exact h1)⟩
                          obtain ⟨y, hy⟩ : ∃ y, mb[i]? = some y := ⟨_, List.getElem?_eq_getElem (by rw [HLN.out]; exact h1)⟩
                          obtain ⟨g1, rfl, _, e1⟩ := (HM2.out.below HB.out) i x hx
                          obtain ⟨g2, rfl, _, e2⟩ := (HN2.out.below HB.out) i y hy
                          have h0 := onN_false HBO.out.symm hx hy
                          have HF := Lib.hid (HT2.out.1 i x y (HNX.out.trans (next_on hx hy h0)))
                          have HX := Lib.hid h0
                          clear hx hy HBO h0
                          go_wp2
                          go_meet
                          obtain ⟨f1, f2, f3⟩ := HF.out
                          obtain ⟨x1, x2⟩ := HX.out
                          exact ⟨by rw [f1], by rw [f2, Int.toNat_of_nonneg x1], by rw [f3, Int.toNat_of_nonneg x2], rfl⟩
                        · have i1 : ¬ (i : Int) < (o.length : Int) := by omega
                          have HF := Lib.hid (HT2.out.2 (HNX.out.trans (next_end (by rw [HLM.out]; exact h1))))
                          have HI := Lib.hid (show i = o.length by omega)
                          go_wp2
                          go_meet
                          obtain ⟨f1, f2, f3⟩ := HF.out
                          exact ⟨by rw [f1, HI.out], by rw [f2], by rw [f3], rfl⟩
                | false =>
                  have hn0 : n ≠ 0 := by have := HBZ.out; rw [eq_comm, beq_eq_false_iff_ne] at this; omega
                  clear HBZ
                  have HT2 : Hid ((t1, t2, t3) = (pn, qn, sn)) := Lib.hid (by
                    obtain ⟨e1, e2, e3⟩ := HPN.out
                    rw [HT.out]; unfold stepC; rw [HN.out, if_pos (by omega), e1, e2, e3])
                  have HT3 := Lib.hid (Prod.mk.inj HT2.out)
                  have HT4 := Lib.hid (Prod.mk.inj HT3.out.2)
                  go_wp2
                  go_meet
                  exact ⟨by rw [HT3.out.1], by rw [HT4.out.1], by rw [HT4.out.2], rfl⟩
              case rest =>
                obtain ⟨rfl, rfl, rfl, rfl⟩ := hcut
                obtain ⟨T, hT, hAt2, y1, y2, y3, y4⟩ := stepC_at HAt.out HEND.out
                obtain ⟨rfl, rfl, rfl⟩ : t1 = T.1 ∧ t2 = T.2.1 ∧ t3 = T.2.2 := by
                  have h := HT.out
                  rw [HEM.out, HEN.out, ← hT] at h
                  exact ⟨by rw [← h], by rw [← h], by rw [← h]⟩
                have HE := Lib.hid hT
                have HAt2 := Lib.hid hAt2
                have x2 := hAt2.po
                have x4 := hAt2.qa
                have x6 := hAt2.sb
                clear hT hAt2 HT HN HPN c0 c1' c2' c3' HPNn HM2 HN2 HBZ
                obtain ⟨t1, t2, t3⟩ := T
                simp only at y1 y2 y3 y4 x2 x4 x6 ⊢
                obtain ⟨kd, hkd⟩ : ∃ kd, kd = kindL (cutL o P t1) (cutL a Q t2) (cutL b S t3) := ⟨_, rfl⟩
                obtain ⟨Z1, hZ1⟩ : ∃ Z1, Z1 = if c1 = P then A1 else A1.map (·.add P) := ⟨_, rfl⟩
                obtain ⟨Z2, hZ2⟩ : ∃ Z2, Z2 = if c2 = Q then A2 else A2.map (·.add Q) := ⟨_, rfl⟩
                obtain ⟨Z3, hZ3⟩ : ∃ Z3, Z3 = if c3 = S then A3 else A3.map (·.add S) := ⟨_, rfl⟩
                have q1 := fun W => cut_mid A1 o.length c1 P t1 y1 x2 hc1 W
                have q2 := fun W => cut_mid A2 a.length c2 Q t2 y2 x4 hc2 W
                have q3 := fun W => cut_mid A3 b.length c3 S t3 y3 x6 hc3 W
                rw [← hZ1] at q1
                rw [← hZ2] at q2
                rw [← hZ3] at q3
                have hkind : ∀ W, Below w2.heap.size w2 W → Calls Tryz.prog 97 #[.slice Z1 (t1 - P) (c1 - P), .slice Z2 (t2 - Q) (c2 - Q), .slice Z3 (t3 - S) (c3 - S)] W fun e w' => e = .returned (.int .i64 (kd : Nat)) ∧ Below W.heap.size W w' := fun W hb => by
                  have hk := rkind_any (cutL o P t1) (cutL a Q t2) (cutL b S t3) Z1 Z2 Z3 (c1 - P) (c2 - Q) (c3 - S) W (by rw [hZ1]; exact (LiesA.cut ((HO2.out.below hb).up hb.size) y1 x2 hc1).lies) (by rw [hZ2]; exact (LiesA.cut ((HA2.out.below hb).up hb.size) y2 x4 hc2).lies) (by rw [hZ3]; exact (LiesA.cut ((HBb2.out.below hb).up hb.size) y3 x6 hc3).lies)
                    (by rw [cutL_length _ _ _ x2]; omega) (by rw [cutL_length _ _ _ x4]; omega) (by rw [cutL_length _ _ _ x6]; omega)
                  rw [cutL_length _ _ _ x2, cutL_length _ _ _ x4, cutL_length _ _ _ x6, ← hkd] at hk
                  exact hk
                have HKI := Lib.hid hkind
                have HKD := Lib.hid hkd
                have HY := Lib.hid (And.intro y1 (And.intro y2 (And.intro y3 y4)))
                have hpl : pre.length ≤ 9000 := by have := HPL.out; omega
                clear hkind hkd hZ1 hZ2 hZ3 HO2 HA2 HBb2
                go_upto_region 22 with fail
                refine wp_region_held_drew (S := fun _ => True) (by kernel_rfl) trivial (fun hHeld => ?_)
                refine wpAnyH_take (i := 0) (v := ?_) rfl (by kernel_rfl) (by kernel_rfl) (by kernel_rfl) (fun _ _ _ h => h) (Or.inl ⟨by rfl, ?_⟩) hHeld ?_
                rotate_left
                · intro w' hSw
                  go_simp
                  try (with_reducible rfl)
                try simp only [Act.put, List.setIfInBounds_toArray, List.set_cons_zero, List.set_cons_succ]
                refine wpAnyH_take (i := 1) (v := ?_) rfl (by kernel_rfl) (by kernel_rfl) (by kernel_rfl) (fun _ _ _ h => h) (Or.inl ⟨by rfl, ?_⟩) hHeld ?_
                rotate_left
                · intro w' hSw
                  go_simp
                  try (with_reducible rfl)
                try simp only [Act.put, List.setIfInBounds_toArray, List.set_cons_zero, List.set_cons_succ]
                refine wpAnyH_take (i := 2) (v := ?_) rfl (by kernel_rfl) (by kernel_rfl) (by kernel_rfl) (fun _ _ _ h => h) (Or.inl ⟨by rfl, ?_⟩) hHeld ?_
                rotate_left
                · intro w' hSw
                  go_simp
                  try (with_reducible rfl)
                try simp only [Act.put, List.setIfInBounds_toArray, List.set_cons_zero, List.set_cons_succ]
                refine wpAnyH_take (i := 3) (v := ?_) rfl (by kernel_rfl) (by kernel_rfl) (by kernel_rfl) (fun _ _ _ h => h) (Or.inl ⟨by rfl, ?_⟩) hHeld ?_
                rotate_left
                · intro w' hSw
                  go_simp
                  try (with_reducible rfl)
                try simp only [Act.put, List.setIfInBounds_toArray, List.set_cons_zero, List.set_cons_succ]
                refine wpAnyH_take (i := 4) (v := ?_) rfl (by kernel_rfl) (by kernel_rfl) (by kernel_rfl) (fun _ _ _ h => h) (Or.inl ⟨by rfl, ?_⟩) hHeld ?_
                rotate_left
                · intro w' hSw
                  go_simp
                  try (with_reducible rfl)
                try simp only [Act.put, List.setIfInBounds_toArray, List.set_cons_zero, List.set_cons_succ]
                refine wpAnyH_take (i := 5) (v := ?_) rfl (by kernel_rfl) (by kernel_rfl) (by kernel_rfl) (fun _ _ _ h => h) (Or.inl ⟨by rfl, ?_⟩) hHeld ?_
                rotate_left
                · intro w' hSw
                  go_simp
                  try (with_reducible rfl)
                try simp only [Act.put, List.setIfInBounds_toArray, List.set_cons_zero, List.set_cons_succ]
                refine wpAnyH_take (i := 6) (v := ?_) rfl (by kernel_rfl) (by kernel_rfl) (by kernel_rfl) (fun _ _ _ h => h) (Or.inl ⟨by rfl, ?_⟩) hHeld ?_
                rotate_left
                · intro w' hSw
                  go_simp
                  try (with_reducible rfl)
                try simp only [Act.put, List.setIfInBounds_toArray, List.set_cons_zero, List.set_cons_succ]
                refine wpAnyH_take (i := 7) (v := ?_) rfl (by kernel_rfl) (by kernel_rfl) (by kernel_rfl) (fun _ _ _ h => h) (Or.inl ⟨by rfl, ?_⟩) hHeld ?_
                rotate_left
                · intro w' hSw
                  go_simp
                  try (with_reducible rfl)
                try simp only [Act.put, List.setIfInBounds_toArray, List.set_cons_zero, List.set_cons_succ]
                refine wpAnyH_take (i := 8) (v := ?_) rfl (by kernel_rfl) (by kernel_rfl) (by kernel_rfl) (fun _ _ _ h => h) (Or.inl ⟨by rfl, ?_⟩) hHeld ?_
                rotate_left
                · intro w' hSw
                  go_simp
                  try (with_reducible rfl)
                try simp only [Act.put, List.setIfInBounds_toArray, List.set_cons_zero, List.set_cons_succ]
                refine wpAnyH_take (i := 9) (v := ?_) rfl (by kernel_rfl) (by kernel_rfl) (by kernel_rfl) (fun _ _ _ h => h) (Or.inl ⟨by rfl, ?_⟩) hHeld ?_
                rotate_left
                · intro w' hSw
                  go_simp
                  try (with_reducible rfl)
                try simp only [Act.put, List.setIfInBounds_toArray, List.set_cons_zero, List.set_cons_succ]
                refine wpAnyH_take (i := 10) (v := ?_) rfl (by kernel_rfl) (by kernel_rfl) (by kernel_rfl) (fun _ _ _ h => h) (Or.inl ⟨by rfl, ?_⟩) hHeld ?_
                rotate_left
                · intro w' hSw
                  go_simp
                  try (with_reducible rfl)
                try simp only [Act.put, List.setIfInBounds_toArray, List.set_cons_zero, List.set_cons_succ]
                refine wpAnyH_take (i := 11) (v := ?_) rfl (by kernel_rfl) (by kernel_rfl) (by kernel_rfl) (fun _ _ _ h => h) (Or.inl ⟨by rfl, ?_⟩) hHeld ?_
                rotate_left
                · intro w' hSw
                  go_simp
                  try (with_reducible rfl)
                try simp only [Act.put, List.setIfInBounds_toArray, List.set_cons_zero, List.set_cons_succ]
                refine wpAnyH_take (i := 12) (v := ?_) rfl (by kernel_rfl) (by kernel_rfl) (by kernel_rfl) (fun _ _ _ h => h) (Or.inl ⟨by rfl, ?_⟩) hHeld ?_
                rotate_left
                · intro w' hSw
                  go_simp
                  try (with_reducible rfl)
                try simp only [Act.put, List.setIfInBounds_toArray, List.set_cons_zero, List.set_cons_succ]
                refine wpAnyH_take (i := 14) (v := ?_) rfl (by kernel_rfl) (by kernel_rfl) (by kernel_rfl) (fun _ _ _ h => h) (Or.inl ⟨by rfl, ?_⟩) hHeld ?_
                rotate_left
                · intro w' hSw
                  go_simp
                  try (with_reducible rfl)
                try simp only [Act.put, List.setIfInBounds_toArray, List.set_cons_zero, List.set_cons_succ]
                refine wpAnyH_take (i := 15) (v := ?_) rfl (by kernel_rfl) (by kernel_rfl) (by kernel_rfl) (fun _ _ _ h => h) (Or.inl ⟨by rfl, ?_⟩) hHeld ?_
                rotate_left
                · intro w' hSw
                  go_simp
                  try (with_reducible rfl)
                try simp only [Act.put, List.setIfInBounds_toArray, List.set_cons_zero, List.set_cons_succ]
                refine wpAnyH_take (i := 16) (v := ?_) rfl (by kernel_rfl) (by kernel_rfl) (by kernel_rfl) (fun _ _ _ h => h) (Or.inl ⟨by rfl, ?_⟩) hHeld ?_
                rotate_left
                · intro w' hSw
                  go_simp
                  try (with_reducible rfl)
                try simp only [Act.put, List.setIfInBounds_toArray, List.set_cons_zero, List.set_cons_succ]
                refine wpAnyH_take (i := 17) (v := ?_) rfl (by kernel_rfl) (by kernel_rfl) (by kernel_rfl) (fun _ _ _ h => h) (Or.inl ⟨by rfl, ?_⟩) hHeld ?_
                rotate_left
                · intro w' hSw
                  go_simp
                  try (with_reducible rfl)
                try simp only [Act.put, List.setIfInBounds_toArray, List.set_cons_zero, List.set_cons_succ]
                refine wpAnyH_take (i := 18) (v := ?_) rfl (by kernel_rfl) (by kernel_rfl) (by kernel_rfl) (fun _ _ _ h => h) (Or.inl ⟨by rfl, ?_⟩) hHeld ?_
                rotate_left
                · intro w' hSw
                  go_simp
                  try (with_reducible rfl)
                try simp only [Act.put, List.setIfInBounds_toArray, List.set_cons_zero, List.set_cons_succ]
                refine wpAnyH_take (i := 19) (v := ?_) rfl (by kernel_rfl) (by kernel_rfl) (by kernel_rfl) (fun _ _ _ h => h) (Or.inl ⟨by rfl, ?_⟩) hHeld ?_
                rotate_left
                · intro w' hSw
                  go_simp
                  try (with_reducible rfl)
                try simp only [Act.put, List.setIfInBounds_toArray, List.set_cons_zero, List.set_cons_succ]
                refine wpAnyH_take (i := 20) (v := ?_) rfl (by kernel_rfl) (by kernel_rfl) (by kernel_rfl) (fun _ _ _ h => h) (Or.inl ⟨by rfl, ?_⟩) hHeld ?_
                rotate_left
                · intro w' hSw
                  go_simp
                  try (with_reducible rfl)
                try simp only [Act.put, List.setIfInBounds_toArray, List.set_cons_zero, List.set_cons_succ]
                refine wpAnyH_take (i := 21) (v := ?_) rfl (by kernel_rfl) (by kernel_rfl) (by kernel_rfl) (fun _ _ _ h => h) (Or.inl ⟨by rfl, ?_⟩) hHeld ?_
                rotate_left
                · intro w' hSw
                  go_simp
                  try (with_reducible rfl)
                try simp only [Act.put, List.setIfInBounds_toArray, List.set_cons_zero, List.set_cons_succ]
                refine wpAnyH_take (i := 22) (v := ?_) rfl (by kernel_rfl) (by kernel_rfl) (by kernel_rfl) (fun _ _ _ h => h) (Or.inl ⟨by rfl, ?_⟩) hHeld ?_
                rotate_left
                · intro w' hSw
                  go_simp
                  try (with_reducible rfl)
                try simp only [Act.put, List.setIfInBounds_toArray, List.set_cons_zero, List.set_cons_succ]
                refine wpAnyH_ready (rs := [13]) (by kernel_rfl) (by simp) ?_
                refine AllReadyH.cons rfl (fun K hK => ?_) AllReadyH.nil
                go_simp
                have HBd := Lib.hid (below_drew HB.out)
                refine (HKI.out _ HBd.out).mono ?_
                rintro e w5 ⟨rfl, hb5⟩
                have HB5 := Lib.hid (HBd.out.trans (hb5.mono HBd.out.size))
                have HR5 : Hid (kCk.R 99 w5 w2.heap.size (fun _ => True) u9 pre) := Lib.hid (Kd.R_below (Kd.R_below HR.out (below_drew (Below.refl _ _))) hb5)
                clear hb5
                dsimp only
                refine hK.out _ _ hHeld (fun hHeld => ?_)
                clear hK K
                try simp only [Act.put, List.setIfInBounds_toArray, List.set_cons_zero, List.set_cons_succ]
                refine wpAnyH_take (i := 23) (v := ?_) rfl (by kernel_rfl) (by kernel_rfl) (by kernel_rfl) (fun _ _ _ h => h) (Or.inl ⟨by rfl, ?_⟩) hHeld ?_
                rotate_left
                · intro w' hSw
                  go_simp
                  try (with_reducible rfl)
                try simp only [Act.put, List.setIfInBounds_toArray, List.set_cons_zero, List.set_cons_succ]
                refine wpAnyH_ready (rs := [24]) (by kernel_rfl) (by simp) ?_
                refine AllReadyH.cons rfl (fun K hK => ?_) AllReadyH.nil
                go_simp
                refine hK.out _ _ trivial (fun hHeld => ?_)
                clear hK K
                try simp only [Act.put, List.setIfInBounds_toArray, List.set_cons_zero, List.set_cons_succ]
                refine wpAnyH_ready (rs := [25]) (by kernel_rfl) (by simp) ?_
                refine AllReadyH.cons rfl (fun K hK => ?_) AllReadyH.nil
                have hsz5 := HB5.out.size
                refine Kd.R_append_step kCk (w0 := w2) w2.heap.size (by rfl) _ _ 94 99 _ 56 (by rfl) Tryz.underlying94 infoCk rfl (by decide) (by decide) u9 pre ⟨kd, P, t1, Q, t2, S, t3⟩ (ckCells ⟨kd, P, t1, Q, t2, S, t3⟩) (fun _ => True) (fun _ => False) (by rfl) (by rfl) (kCk_mk _ _ _ _) (fun _ h => h.elim) (fun _ _ => trivial) HR5.out HB5.out hsz5 (by omega) ?_
                intro v1 w6 hR6 hb6 hg6 _
                have HR6 := Lib.hid hR6
                have HB6 := Lib.hid hb6
                clear hR6 hb6 hg6
                refine hK.out _ _ trivial (fun hHeld => ?_)
                clear hK K
                try simp only [Act.put, List.setIfInBounds_toArray, List.set_cons_zero, List.set_cons_succ]
                refine wpAnyH_ready (rs := [26]) (by kernel_rfl) (by simp) ?_
                refine AllReadyH.cons rfl (fun K hK => ?_) AllReadyH.nil
                go_simp
                refine hK.out _ _ trivial (fun hHeld => ?_)
                clear hK K
                try simp only [Act.put, List.setIfInBounds_toArray, List.set_cons_zero, List.set_cons_succ]
                refine wpAnyH_done (by kernel_rfl) ?_ _
                go_wp2
                go_roundw
                case rel =>
                  have z1 := HAt.out.po
                  have z2 := HAt.out.qa
                  have z3 := HAt.out.sb
                  have z4 := HEND.out
                  have z5 := HF.out
                  obtain ⟨f', rfl⟩ : ∃ f', f = f' + 1 := ⟨f - 1, by omega⟩
                  obtain ⟨_, _, _, y4⟩ := HY.out
                  refine ⟨t1, t2, t3, f', pre ++ [⟨kd, P, t1, Q, t2, S, t3⟩], rfl, rfl, rfl, HAt2, Lib.hid (by omega), Lib.hid ?_, Lib.hid ?_, HR6, HB6⟩
                  · rw [HCh.out]
                    conv => lhs; unfold chunkGo
                    rw [if_neg z4, ← HE.out, List.append_assoc]
                    simp only [List.singleton_append, HKD.out]
                  · have := HPL.out
                    rw [List.length_append]
                    simp only [List.length_cons, List.length_nil]
                    omega
                · obtain ⟨_, _, _, y4⟩ := HY.out
                  have z1 := HAt.out.po
                  have z2 := HAt.out.qa
                  have z3 := HAt.out.sb
                  have z4 := HEND.out
                  obtain ⟨v1', v2', v3'⟩ := HY.out
                  simp only [intOf]; omega

end Go.Proofs.YtogfkfkejaiecaaGreatDoor.Eh

namespace Go.Proofs.YtogfkfkejaiecaaGreatDoor.Ei
open Go.RowKit Go.Shelf Ed Ee Ef Eg Eh

theorem numOk : NumOk := fun rs A c w h1 h2 h3 h4 => rnumbers_any rs A c w h1 h2 h3 h4
theorem chunksOk : ChunksOk := fun o a b A1 A2 A3 c1 c2 c3 w h1 h2 h3 k1 k2 k3 l1 l2 l3 => rchunks_any o a b A1 A2 A3 c1 c2 c3 w h1 h2 h3 k1 k2 k3 l1 l2 l3
theorem partsOk : PartsOk := partsOk_of numOk chunksOk
theorem linesOk : LinesOk := rlines_of partsOk

end Go.Proofs.YtogfkfkejaiecaaGreatDoor.Ei
