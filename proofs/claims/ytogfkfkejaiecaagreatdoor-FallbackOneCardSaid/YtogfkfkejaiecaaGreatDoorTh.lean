/- Contracts of weave: source.lines, apart, Lines, Side. Contracts of weave: Lines, Side. Contracts of the reference's marker: Whole, run, mark, section. Contracts of the reference's marker: Length, Print, Show. Plain facts of the parts of three texts. Contracts of fallback: shown. -/
import Derived.Test.YtogfkfkejaiecaaGreatDoorTg
import Derived.Test.YtogfkfkejaiecaaGreatDoorTa
import Derived.Test.YtogfkfkejaiecaaGreatDoorTb
import Derived.IntWalk
import Derived.Deep.RegionHeld3
import Derived.Deep.AppendLies
import Derived.Laws.Pointers
import Derived.Deep.QuietTactic
import Derived.BigQuiet
import Derived.OwnWalk

namespace Go.Proofs.YtogfkfkejaiecaaGreatDoor.Do
open Go.RowKit Go.Shelf Pl Ut Ln Da Db Dc Dd De Dk Dl Dm Dn Go.Proofs.YtogfkfkejaiecaaGreatDoorW.PrintWords
set_option linter.unusedVariables false
set_option linter.unusedSimpArgs false
attribute [local go_sem] B_append B_extract B_toList B_size take_end

theorem lines_src (s : Str) (hs : s.length ≤ 1000000000) (w : World) :
    Calls Tryz.prog 44 #[.string (B s)] w fun e w' => ∃ v, e = .returned (.tuple #[v, .bool true]) ∧ kStr.R 9 w' w.heap.size (fun _ => True) v (splitL s) ∧ Below w.heap.size w w' := by
  go_enter Tryz.func44, Tryz.ntmps44
  have HS := Lib.hid (split_any s hs)
  go_wp2_with (go_at_call 45; refine (HS.out _).mono ?_; rintro e w1 ⟨v, rfl, hR, hb⟩; have HR := Lib.hid hR; have HB := Lib.hid hb; clear hR hb)
  go_ret2
  exact ⟨_, rfl, HR.out, HB.out⟩

/-- The three rows, as far as they are told. -/
structure ThreeR (w : World) (B0 g k : Nat) (o a b : List Str) : Prop where
  ex : ∃ v0 v1 v2, w.heap[g]? = some (.cells #[v0, v1, v2] 113 (0, 0)) ∧ (0 < k → kStr.R 9 w B0 (fun _ => True) v0 o) ∧ (1 < k → kStr.R 9 w B0 (fun _ => True) v1 a) ∧ (2 < k → kStr.R 9 w B0 (fun _ => True) v2 b)
theorem ThreeR.below {w w' : World} {B0 g k : Nat} {o a b : List Str} (h : ThreeR w B0 g k o a b) (hb : Below w.heap.size w w') : ThreeR w' B0 g k o a b := by
  obtain ⟨v0, v1, v2, h1, h2, h3, h4⟩ := h
  exact ⟨v0, v1, v2, blk_below h1 hb, fun hk => Kd.R_below (h2 hk) hb, fun hk => Kd.R_below (h3 hk) hb, fun hk => Kd.R_below (h4 hk) hb⟩
theorem R_setBox {w : World} {base g : Nat} {v : Value} {xs : List Str} {cs : Array Value} (h : kStr.R 9 w base (fun _ => True) v xs) (hg : w.heap[g]? = some (.cells cs 113 (0, 0))) (i : Nat) (u : Value) : kStr.R 9 (w.setCell ⟨g, i, none⟩ u) base (fun _ => True) v xs :=
  Kd.R_set h hg (fun q hq => by
    rcases List.mem_cons.1 hq with rfl | hq
    · decide
    · cases hq) i u
theorem ThreeR.put0 {w : World} {B0 g : Nat} {o a b : List Str} {v : Value} (h : ThreeR w B0 g 0 o a b) (hv : kStr.R 9 w B0 (fun _ => True) v o) : ThreeR (w.setCell ⟨g, 0, none⟩ v) B0 g 1 o a b := by
  obtain ⟨v0, v1, v2, h1, h2, h3, h4⟩ := h
  exact ⟨v, v1, v2, blk_set h1 0 v, fun _ => R_setBox hv h1 0 v, fun hk => by omega, fun hk => by omega⟩
theorem ThreeR.put1 {w : World} {B0 g : Nat} {o a b : List Str} {v : Value} (h : ThreeR w B0 g 1 o a b) (hv : kStr.R 9 w B0 (fun _ => True) v a) : ThreeR (w.setCell ⟨g, 1, none⟩ v) B0 g 2 o a b := by
  obtain ⟨v0, v1, v2, h1, h2, h3, h4⟩ := h
  exact ⟨v0, v, v2, blk_set h1 1 v, fun _ => R_setBox (h2 (by omega)) h1 1 v, fun _ => R_setBox hv h1 1 v, fun hk => by omega⟩
theorem ThreeR.put2 {w : World} {B0 g : Nat} {o a b : List Str} {v : Value} (h : ThreeR w B0 g 2 o a b) (hv : kStr.R 9 w B0 (fun _ => True) v b) : ThreeR (w.setCell ⟨g, 2, none⟩ v) B0 g 3 o a b := by
  obtain ⟨v0, v1, v2, h1, h2, h3, h4⟩ := h
  exact ⟨v0, v1, v, blk_set h1 2 v, fun _ => R_setBox (h2 (by omega)) h1 2 v, fun _ => R_setBox (h3 (by omega)) h1 2 v, fun _ => R_setBox hv h1 2 v⟩
/-- A method value: the lines of a text. -/
def srcF (s : Str) : Value := .func (.func 44) #[.string (B s)] #[]

set_option maxRecDepth 100000 in
set_option maxHeartbeats 8000000 in
theorem apart_any (o a b : Str) (lo : o.length ≤ 3000) (la : a.length ≤ 3000) (lb : b.length ≤ 3000) (w : World) :
    Calls Tryz.prog 43 #[srcF o, srcF a, srcF b] w fun e w' => ∃ v, e = .returned (.tuple #[v, .bool true]) ∧ kPart.R 55 w' w.heap.size (fun _ => True) v (linesL o a b) ∧ Below w.heap.size w w' := by
  have HO := Lib.hid (lines_src o (by omega))
  have HA := Lib.hid (lines_src a (by omega))
  have HBt := Lib.hid (lines_src b (by omega))
  have hP : ∀ (A1 A2 A3 : Option Addr) (c1 c2 c3 : Nat) (w : World) (h1 : LiesS w w.heap.size A1 (splitL o)) (h2 : LiesS w w.heap.size A2 (splitL a)) (h3 : LiesS w w.heap.size A3 (splitL b))
    (k1 : Kd.C kStr w A1 (splitL o).length (splitL o)) (k2 : Kd.C kStr w A2 (splitL a).length (splitL a)) (k3 : Kd.C kStr w A3 (splitL b).length (splitL b))
    (l1 : (splitL o).length ≤ c1) (l2 : (splitL a).length ≤ c2) (l3 : (splitL b).length ≤ c3), 
    Calls Tryz.prog 66 #[.slice A1 (splitL o).length c1, .slice A2 (splitL a).length c2, .slice A3 (splitL b).length c3] w fun e w' => ∃ v, e = .returned v ∧ kPart.R 55 w' w.heap.size (fun _ => True) v (partsL (splitL o) (splitL a) (splitL b)) ∧ Below w.heap.size w w' := by
    intro A1 A2 A3 c1 c2 c3 w h1 h2 h3 k1 k2 k3 l1 l2 l3
    have n1 := splitL_count o
    have n2 := splitL_count a
    have n3 := splitL_count b
    exact parts_any (splitL o) (splitL a) (splitL b) A1 A2 A3 c1 c2 c3 w h1 h2 h3 k1 k2 k3 l1 l2 l3 (by omega) (by omega) (by omega) (by unfold joinL; rw [splitL_flatten]; omega) (by unfold joinL; rw [splitL_flatten]; omega) (by unfold joinL; rw [splitL_flatten]; omega)
  have HP := Lib.hid hP
  clear hP
  unfold srcF
  go_enter Tryz.func43, Tryz.ntmps43
  go_wp2
  go_loopw [18] (fun i wr => (i = .int .i64 0 ∧ Hid (ThreeR wr w.heap.size w.heap.size 0 (splitL o) (splitL a) (splitL b)) ∧ Hid (Below w.heap.size w wr) ∧ Hid (wr.heap[w.heap.size + 1]? = some (.cells #[srcF o, srcF a, srcF b] 75 (0, 0)))) ∨
    (i = .int .i64 1 ∧ Hid (ThreeR wr w.heap.size w.heap.size 1 (splitL o) (splitL a) (splitL b)) ∧ Hid (Below w.heap.size w wr) ∧ Hid (wr.heap[w.heap.size + 1]? = some (.cells #[srcF o, srcF a, srcF b] 75 (0, 0)))) ∨
    (i = .int .i64 2 ∧ Hid (ThreeR wr w.heap.size w.heap.size 2 (splitL o) (splitL a) (splitL b)) ∧ Hid (Below w.heap.size w wr) ∧ Hid (wr.heap[w.heap.size + 1]? = some (.cells #[srcF o, srcF a, srcF b] 75 (0, 0)))) ∨
    (i = .int .i64 3 ∧ Hid (ThreeR wr w.heap.size w.heap.size 3 (splitL o) (splitL a) (splitL b)) ∧ Hid (Below w.heap.size w wr) ∧ Hid (wr.heap[w.heap.size + 1]? = some (.cells #[srcF o, srcF a, srcF b] 75 (0, 0))))) (fun i _ => 3 - (intOf i).toNat)
  case atStart => exact .inl ⟨rfl, Lib.hid ⟨_, _, _, blk_alloc (blk_new _ _) _, fun h => by omega, fun h => by omega, fun h => by omega⟩, Lib.hid (below_alloc (below_alloc (Below.refl _ _) _) _), Lib.hid (by unfold srcF; have := blk_new (w.alloc (.cells #[.slice none 0 0, .slice none 0 0, .slice none 0 0] 113)) (.cells #[.func (.func 44) #[.string (B o)] #[], .func (.func 44) #[.string (B a)] #[], .func (.func 44) #[.string (B b)] #[]] 75); simpa using this)⟩
  case round =>
    rcases hrel with ⟨rfl, HT, HBw, HF⟩ | ⟨rfl, HT, HBw, HF⟩ | ⟨rfl, HT, HBw, HF⟩ | ⟨rfl, HT, HBw, HF⟩
    · have hf : wr.cell? ⟨w.heap.size + 1, 0, none⟩ = some (.func (.func 44) #[.string (B o)] #[]) := by rw [blk_cell HF.out]; rfl
      go_wp2_with (go_at_call 44; refine (HO.out _).mono ?_; rintro e w1 ⟨v, rfl, hR, hb⟩; obtain ⟨Ax, cx, rfl, _, _, _⟩ := LiesS.of_R hR; have HR := Lib.hid (Kd.R_lower hR HBw.out.size); have HT1 := Lib.hid (HT.out.below hb); have HB1 := Lib.hid (HBw.out.trans (hb.mono HBw.out.size)); have HF1 := Lib.hid (blk_below HF.out hb); obtain ⟨v0, v1, v2, hc, _⟩ := HT1.out; have d0 : w1.cell? ⟨w.heap.size, 0, none⟩ = some v0 := (by rw [blk_cell hc]; rfl); have d1 := blk_frozen hc 0; clear hR hb hc)
      go_roundw
      case rel => exact .inr (.inl ⟨rfl, Lib.hid (HT1.out.put0 HR.out), Lib.hid (HB1.out.setCell (p := ⟨w.heap.size, 0, none⟩) (Nat.le_refl _) _), Lib.hid (blk_far HF1.out (show w.heap.size + 1 ≠ w.heap.size by omega) _)⟩)
      · simp [intOf]
    · have hf : wr.cell? ⟨w.heap.size + 1, 1, none⟩ = some (.func (.func 44) #[.string (B a)] #[]) := by rw [blk_cell HF.out]; rfl
      go_wp2_with (go_at_call 44; refine (HA.out _).mono ?_; rintro e w1 ⟨v, rfl, hR, hb⟩; obtain ⟨Ax, cx, rfl, _, _, _⟩ := LiesS.of_R hR; have HR := Lib.hid (Kd.R_lower hR HBw.out.size); have HT1 := Lib.hid (HT.out.below hb); have HB1 := Lib.hid (HBw.out.trans (hb.mono HBw.out.size)); have HF1 := Lib.hid (blk_below HF.out hb); obtain ⟨v0, v1, v2, hc, _⟩ := HT1.out; have d0 : w1.cell? ⟨w.heap.size, 1, none⟩ = some v1 := (by rw [blk_cell hc]; rfl); have d1 := blk_frozen hc 1; clear hR hb hc)
      go_roundw
      case rel => exact .inr (.inr (.inl ⟨rfl, Lib.hid (HT1.out.put1 HR.out), Lib.hid (HB1.out.setCell (p := ⟨w.heap.size, 1, none⟩) (Nat.le_refl _) _), Lib.hid (blk_far HF1.out (show w.heap.size + 1 ≠ w.heap.size by omega) _)⟩))
      · simp [intOf]
    · have hf : wr.cell? ⟨w.heap.size + 1, 2, none⟩ = some (.func (.func 44) #[.string (B b)] #[]) := by rw [blk_cell HF.out]; rfl
      go_wp2_with (go_at_call 44; refine (HBt.out _).mono ?_; rintro e w1 ⟨v, rfl, hR, hb⟩; obtain ⟨Ax, cx, rfl, _, _, _⟩ := LiesS.of_R hR; have HR := Lib.hid (Kd.R_lower hR HBw.out.size); have HT1 := Lib.hid (HT.out.below hb); have HB1 := Lib.hid (HBw.out.trans (hb.mono HBw.out.size)); have HF1 := Lib.hid (blk_below HF.out hb); obtain ⟨v0, v1, v2, hc, _⟩ := HT1.out; have d0 : w1.cell? ⟨w.heap.size, 2, none⟩ = some v2 := (by rw [blk_cell hc]; rfl); have d1 := blk_frozen hc 2; clear hR hb hc)
      go_roundw
      case rel => exact .inr (.inr (.inr ⟨rfl, Lib.hid (HT1.out.put2 HR.out), Lib.hid (HB1.out.setCell (p := ⟨w.heap.size, 2, none⟩) (Nat.le_refl _) _), Lib.hid (blk_far HF1.out (show w.heap.size + 1 ≠ w.heap.size by omega) _)⟩))
      · simp [intOf]
    · obtain ⟨v0, v1, v2, hc, h0, h1, h2⟩ := HT.out
      obtain ⟨A1, c1, rfl, l1, q1, k1⟩ := LiesS.of_R (h0 (by omega))
      obtain ⟨A2, c2, rfl, l2, q2, k2⟩ := LiesS.of_R (h1 (by omega))
      obtain ⟨A3, c3, rfl, l3, q3, k3⟩ := LiesS.of_R (h2 (by omega))
      have HPP := Lib.hid (HP.out A1 A2 A3 c1 c2 c3 wr q1 q2 q3 k1 k2 k3 l1 l2 l3)
      have d0 : wr.cell? ⟨w.heap.size, 0, none⟩ = some (.slice A1 (splitL o).length c1) := by rw [blk_cell hc]; rfl
      have d1 : wr.cell? ⟨w.heap.size, 1, none⟩ = some (.slice A2 (splitL a).length c2) := by rw [blk_cell hc]; rfl
      have d2 : wr.cell? ⟨w.heap.size, 2, none⟩ = some (.slice A3 (splitL b).length c3) := by rw [blk_cell hc]; rfl
      clear hc h0 h1 h2 q1 q2 q3 k1 k2 k3 l1 l2 l3 HT HP HO HA HBt HF
      go_wp2_with (go_at_call 66; refine HPP.out.mono ?_; rintro e w1 ⟨v, rfl, hR, hb⟩; have HR := Lib.hid (Kd.R_lower hR HBw.out.size); have HB1 := Lib.hid (HBw.out.trans (hb.mono HBw.out.size)); clear hR hb)
      go_ret2
      exact ⟨_, rfl, HR.out, HB1.out⟩

end Go.Proofs.YtogfkfkejaiecaaGreatDoor.Do

namespace Go.Proofs.YtogfkfkejaiecaaGreatDoor.Dp
open Go.RowKit Go.Shelf Pl Ut Ln Bl Da Db Dc Dd Dm Dn Do Go.Proofs.YtogfkfkejaiecaaGreatDoorW.PrintWords
set_option linter.unusedVariables false
set_option linter.unusedSimpArgs false
attribute [local go_sem] B_append B_extract B_toList B_size take_end

theorem lines_any (o a b : Str) (lo : o.length ≤ 3000) (la : a.length ≤ 3000) (lb : b.length ≤ 3000) (w : World) :
    Calls Tryz.prog 27 #[.string (B o), .string (B a), .string (B b)] w fun e w' => ∃ v, e = .returned v ∧ kPart.R 55 w' w.heap.size (fun _ => True) v (linesL o a b) ∧ Below w.heap.size w w' := by
  have HA := Lib.hid (apart_any o a b lo la lb)
  unfold srcF at HA
  go_enter Tryz.func27, Tryz.ntmps27
  have hmf : ∀ (fn : Fn) (first cap : Array Value) (w : World), (Instr.makeFunc fn first cap).run Tryz.prog w = .ok (.func fn first cap) w := fun _ _ _ _ => rfl
  go_wp2_with (go_at_call 43; refine (HA.out _).mono ?_; rintro e w1 ⟨v, rfl, hR, hb⟩; have HR := Lib.hid hR; have HB := Lib.hid hb; clear hR hb)
  go_ret
  exact ⟨_, rfl, HR.out, HB.out⟩

theorem ix0 (x y z : ByteArray) (W : World) : (Instr.index 22 (.agg #[.string x, .string y, .string z]) (.int .i64 0)).run Tryz.prog W = .ok (.string x) W := by kernel_rfl
theorem ix1 (x y z : ByteArray) (W : World) : (Instr.index 22 (.agg #[.string x, .string y, .string z]) (.int .i64 1)).run Tryz.prog W = .ok (.string y) W := by kernel_rfl
theorem ix2 (x y z : ByteArray) (W : World) : (Instr.index 22 (.agg #[.string x, .string y, .string z]) (.int .i64 2)).run Tryz.prog W = .ok (.string z) W := by kernel_rfl
attribute [local go_sem high] ix0 ix1 ix2
/-- One side of a part. -/
def pickL (i : Nat) (p : Part) : Str := if i = 0 then p.o else if i = 1 then p.a else p.b
def sideL (i : Nat) (ps : List Part) : Str := (ps.map (pickL i)).flatten
theorem sideL_take (i : Nat) (ps : List Part) (k : Nat) (p : Part) (h : ps[k]? = some p) : sideL i (ps.take (k + 1)) = sideL i (ps.take k) ++ pickL i p := by
  unfold sideL
  rw [List.take_add_one, h]
  simp
theorem sideL_le (i : Nat) (ps : List Part) (k : Nat) : (sideL i (ps.take k)).length ≤ (sideL i ps).length := by
  unfold sideL
  conv => rhs; rw [← List.take_append_drop k ps]
  rw [List.map_append, List.flatten_append, List.length_append]; omega

set_option maxRecDepth 100000 in
set_option maxHeartbeats 8000000 in
theorem side0 (ps : List Part) (A : Option Addr) (c : Nat) (w : World) (hC : Kd.C kPart w A ps.length ps) (hl : ps.length ≤ 1000000000) (ht : (sideL 0 ps).length ≤ 1000000000) :
    Calls Tryz.prog 29 #[.slice A ps.length c, .int .i64 0] w fun e w' => e = .returned (.string (B (sideL 0 ps))) ∧ Below w.heap.size w w' := by
  have HC := Lib.hid hC
  have HT := Lib.hid ht
  clear hC ht
  go_enter Tryz.func29, Tryz.ntmps29
  go_wp2
  go_loopw [16] (fun i wr => ∃ k : Nat, k ≤ ps.length ∧ i = .int .i64 (k : Int) ∧ Hid (IsB w.heap.size w.heap.size (sideL 0 (ps.take k)) wr) ∧ Hid (Below w.heap.size w wr)) (fun i _ => ps.length - (intOf i).toNat)
  case atStart => exact ⟨0, by omega, rfl, Lib.hid (IsB.new (Nat.le_refl _) (blk_new _ _)), Lib.hid (below_alloc (Below.refl _ _) _)⟩
  case round =>
    obtain ⟨k, hk, rfl, HI, HB⟩ := hrel
    rcases Nat.eq_or_lt_of_le hk with hk0 | hk0
    · have hlt : ¬ (k : Int) < (ps.length : Int) := by omega
      have HS := Lib.hid (show sideL 0 (ps.take k) = sideL 0 ps from by rw [hk0, List.take_length])
      have HW := Lib.hid (IsB.string HI.out HB.out.size)
      go_wp2_with (go_at_call 50; refine HW.out.mono ?_; rintro e w1 ⟨rfl, _, hb, _⟩; have HB1 := Lib.hid (HB.out.trans hb); clear hb)
      go_ret
      exact ⟨rfl, HB1.out⟩
    · have hlt : (k : Int) < (ps.length : Int) := by omega
      obtain ⟨x, hx⟩ : ∃ x, ps[k]? = some x := ⟨_, List.getElem?_eq_getElem hk0⟩
      obtain ⟨ad, rfl, e0, e1, e2, e3⟩ := at_part (Kd.C_below HC.out HB.out) k hk0 x hx
      have HNX := Lib.hid (sideL_take 0 ps k x hx)
      have hle : (sideL 0 (ps.take k)).length + x.o.length ≤ 1000000000 := by
        have := sideL_le 0 ps (k + 1)
        rw [HNX.out, List.length_append] at this
        have h2 : pickL 0 x = x.o := rfl
        rw [h2] at this
        have := HT.out
        omega
      have HWr : ∀ W', Below wr.heap.size wr W' → Calls Tryz.prog 47 #[.pointer (some ⟨w.heap.size, 0, none⟩), .string (B x.o)] W' fun e w' => e = .returned (.tuple #[.int .i64 x.o.length, .nilIface]) ∧
          IsB w.heap.size w.heap.size (sideL 0 (ps.take k) ++ x.o) w' ∧ Below w.heap.size w w' := fun W' hb =>
        (IsB.write x.o (HI.out.below hb) (by omega) (Nat.le_trans HB.out.size hb.size)).mono fun e w' ⟨he, h1, h2, _⟩ => ⟨he, h1, (HB.out.trans (hb.mono HB.out.size)).trans h2⟩
      have HWr := Lib.hid HWr
      have cadd : IntKind.i64.wrap ((k : Int) + 1) = ((k + 1 : Nat) : Int) := by rw [IntWalk.i64_in _ (by omega)]; omega
      have HK := Lib.hid (And.intro hk0 hk)
      go_wp2_with (go_at_call 47; refine (HWr.out _ (by first | exact below_alloc (Below.refl _ _) _ | exact Below.drew (below_alloc (Below.refl _ _) _))).mono ?_; rintro e w1 ⟨rfl, h1, h2⟩; have HI1 := Lib.hid h1; have HB1 := Lib.hid h2; clear h1 h2)
      go_roundw
      case rel =>
        exact ⟨k + 1, by omega, rfl, Lib.hid (by rw [HNX.out]; exact HI1.out), HB1⟩
      · simp only [intOf]; omega

set_option maxRecDepth 100000 in
set_option maxHeartbeats 8000000 in
theorem side1 (ps : List Part) (A : Option Addr) (c : Nat) (w : World) (hC : Kd.C kPart w A ps.length ps) (hl : ps.length ≤ 1000000000) (ht : (sideL 1 ps).length ≤ 1000000000) :
    Calls Tryz.prog 29 #[.slice A ps.length c, .int .i64 1] w fun e w' => e = .returned (.string (B (sideL 1 ps))) ∧ Below w.heap.size w w' := by
  have HC := Lib.hid hC
  have HT := Lib.hid ht
  clear hC ht
  go_enter Tryz.func29, Tryz.ntmps29
  go_wp2
  go_loopw [16] (fun i wr => ∃ k : Nat, k ≤ ps.length ∧ i = .int .i64 (k : Int) ∧ Hid (IsB w.heap.size w.heap.size (sideL 1 (ps.take k)) wr) ∧ Hid (Below w.heap.size w wr)) (fun i _ => ps.length - (intOf i).toNat)
  case atStart => exact ⟨0, by omega, rfl, Lib.hid (IsB.new (Nat.le_refl _) (blk_new _ _)), Lib.hid (below_alloc (Below.refl _ _) _)⟩
  case round =>
    obtain ⟨k, hk, rfl, HI, HB⟩ := hrel
    rcases Nat.eq_or_lt_of_le hk with hk0 | hk0
    · have hlt : ¬ (k : Int) < (ps.length : Int) := by omega
      have HS := Lib.hid (show sideL 1 (ps.take k) = sideL 1 ps from by rw [hk0, List.take_length])
      have HW := Lib.hid (IsB.string HI.out HB.out.size)
      go_wp2_with (go_at_call 50; refine HW.out.mono ?_; rintro e w1 ⟨rfl, _, hb, _⟩; have HB1 := Lib.hid (HB.out.trans hb); clear hb)
      go_ret
      exact ⟨rfl, HB1.out⟩
    · have hlt : (k : Int) < (ps.length : Int) := by omega
      obtain ⟨x, hx⟩ : ∃ x, ps[k]? = some x := ⟨_, List.getElem?_eq_getElem hk0⟩
      obtain ⟨ad, rfl, e0, e1, e2, e3⟩ := at_part (Kd.C_below HC.out HB.out) k hk0 x hx
      have HNX := Lib.hid (sideL_take 1 ps k x hx)
      have hle : (sideL 1 (ps.take k)).length + x.a.length ≤ 1000000000 := by
        have := sideL_le 1 ps (k + 1)
        rw [HNX.out, List.length_append] at this
        have h2 : pickL 1 x = x.a := rfl
        rw [h2] at this
        have := HT.out
        omega
      have HWr : ∀ W', Below wr.heap.size wr W' → Calls Tryz.prog 47 #[.pointer (some ⟨w.heap.size, 0, none⟩), .string (B x.a)] W' fun e w' => e = .returned (.tuple #[.int .i64 x.a.length, .nilIface]) ∧
          IsB w.heap.size w.heap.size (sideL 1 (ps.take k) ++ x.a) w' ∧ Below w.heap.size w w' := fun W' hb =>
        (IsB.write x.a (HI.out.below hb) (by omega) (Nat.le_trans HB.out.size hb.size)).mono fun e w' ⟨he, h1, h2, _⟩ => ⟨he, h1, (HB.out.trans (hb.mono HB.out.size)).trans h2⟩
      have HWr := Lib.hid HWr
      have cadd : IntKind.i64.wrap ((k : Int) + 1) = ((k + 1 : Nat) : Int) := by rw [IntWalk.i64_in _ (by omega)]; omega
      have HK := Lib.hid (And.intro hk0 hk)
      go_wp2_with (go_at_call 47; refine (HWr.out _ (by first | exact below_alloc (Below.refl _ _) _ | exact Below.drew (below_alloc (Below.refl _ _) _))).mono ?_; rintro e w1 ⟨rfl, h1, h2⟩; have HI1 := Lib.hid h1; have HB1 := Lib.hid h2; clear h1 h2)
      go_roundw
      case rel =>
        exact ⟨k + 1, by omega, rfl, Lib.hid (by rw [HNX.out]; exact HI1.out), HB1⟩
      · simp only [intOf]; omega

set_option maxRecDepth 100000 in
set_option maxHeartbeats 8000000 in
theorem side2 (ps : List Part) (A : Option Addr) (c : Nat) (w : World) (hC : Kd.C kPart w A ps.length ps) (hl : ps.length ≤ 1000000000) (ht : (sideL 2 ps).length ≤ 1000000000) :
    Calls Tryz.prog 29 #[.slice A ps.length c, .int .i64 2] w fun e w' => e = .returned (.string (B (sideL 2 ps))) ∧ Below w.heap.size w w' := by
  have HC := Lib.hid hC
  have HT := Lib.hid ht
  clear hC ht
  go_enter Tryz.func29, Tryz.ntmps29
  go_wp2
  go_loopw [16] (fun i wr => ∃ k : Nat, k ≤ ps.length ∧ i = .int .i64 (k : Int) ∧ Hid (IsB w.heap.size w.heap.size (sideL 2 (ps.take k)) wr) ∧ Hid (Below w.heap.size w wr)) (fun i _ => ps.length - (intOf i).toNat)
  case atStart => exact ⟨0, by omega, rfl, Lib.hid (IsB.new (Nat.le_refl _) (blk_new _ _)), Lib.hid (below_alloc (Below.refl _ _) _)⟩
  case round =>
    obtain ⟨k, hk, rfl, HI, HB⟩ := hrel
    rcases Nat.eq_or_lt_of_le hk with hk0 | hk0
    · have hlt : ¬ (k : Int) < (ps.length : Int) := by omega
      have HS := Lib.hid (show sideL 2 (ps.take k) = sideL 2 ps from by rw [hk0, List.take_length])
      have HW := Lib.hid (IsB.string HI.out HB.out.size)
      go_wp2_with (go_at_call 50; refine HW.out.mono ?_; rintro e w1 ⟨rfl, _, hb, _⟩; have HB1 := Lib.hid (HB.out.trans hb); clear hb)
      go_ret
      exact ⟨rfl, HB1.out⟩
    · have hlt : (k : Int) < (ps.length : Int) := by omega
      obtain ⟨x, hx⟩ : ∃ x, ps[k]? = some x := ⟨_, List.getElem?_eq_getElem hk0⟩
      obtain ⟨ad, rfl, e0, e1, e2, e3⟩ := at_part (Kd.C_below HC.out HB.out) k hk0 x hx
      have HNX := Lib.hid (sideL_take 2 ps k x hx)
      have hle : (sideL 2 (ps.take k)).length + x.b.length ≤ 1000000000 := by
        have := sideL_le 2 ps (k + 1)
        rw [HNX.out, List.length_append] at this
        have h2 : pickL 2 x = x.b := rfl
        rw [h2] at this
        have := HT.out
        omega
      have HWr : ∀ W', Below wr.heap.size wr W' → Calls Tryz.prog 47 #[.pointer (some ⟨w.heap.size, 0, none⟩), .string (B x.b)] W' fun e w' => e = .returned (.tuple #[.int .i64 x.b.length, .nilIface]) ∧
          IsB w.heap.size w.heap.size (sideL 2 (ps.take k) ++ x.b) w' ∧ Below w.heap.size w w' := fun W' hb =>
        (IsB.write x.b (HI.out.below hb) (by omega) (Nat.le_trans HB.out.size hb.size)).mono fun e w' ⟨he, h1, h2, _⟩ => ⟨he, h1, (HB.out.trans (hb.mono HB.out.size)).trans h2⟩
      have HWr := Lib.hid HWr
      have cadd : IntKind.i64.wrap ((k : Int) + 1) = ((k + 1 : Nat) : Int) := by rw [IntWalk.i64_in _ (by omega)]; omega
      have HK := Lib.hid (And.intro hk0 hk)
      go_wp2_with (go_at_call 47; refine (HWr.out _ (by first | exact below_alloc (Below.refl _ _) _ | exact Below.drew (below_alloc (Below.refl _ _) _))).mono ?_; rintro e w1 ⟨rfl, h1, h2⟩; have HI1 := Lib.hid h1; have HB1 := Lib.hid h2; clear h1 h2)
      go_roundw
      case rel =>
        exact ⟨k + 1, by omega, rfl, Lib.hid (by rw [HNX.out]; exact HI1.out), HB1⟩
      · simp only [intOf]; omega

end Go.Proofs.YtogfkfkejaiecaaGreatDoor.Dp

namespace Go.Proofs.YtogfkfkejaiecaaGreatDoor.Rb
open Go.RowKit Go.Shelf Pl Ut Ln Ra Go.Proofs.YtogfkfkejaiecaaGreatDoorW.PrintWords
set_option linter.unusedVariables false
set_option linter.unusedSimpArgs false
attribute [local go_sem] B_append B_extract B_toList B_size take_end

theorem wholeL_snoc (t : Str) (c : UInt8) : wholeL (t ++ [c]) = if c = 10 then t ++ [c] else t ++ [c] ++ [10] := by
  unfold wholeL endedL
  by_cases h : c = 10
  · subst h; simp
  · simp [h]

set_option maxRecDepth 100000 in
set_option maxHeartbeats 4000000 in
theorem rwhole_any (s : Str) (hs : s.length ≤ 1000000000000) (w : World) :
    Calls Tryz.prog 78 #[.string (B s)] w fun e w' => e = .returned (.string (B (wholeL s))) ∧ w' = w := by
  go_enter Tryz.func78, Tryz.ntmps78
  rcases List.eq_nil_or_concat s with rfl | ⟨t, c, rfl⟩
  · go_wp2
    go_ret
    exact ⟨rfl, rfl⟩
  · rw [List.concat_eq_append] at hs ⊢
    obtain ⟨s, hse⟩ : ∃ s, s = t ++ [c] := ⟨_, rfl⟩
    obtain ⟨n, hn⟩ : ∃ n, n = t.length := ⟨_, rfl⟩
    have hl : s.length = n + 1 := by rw [hse, hn]; simp
    have hc : s[n]? = some c := by rw [hse, hn]; simp
    have HW := wholeL_snoc t c
    rw [← hse] at hs HW ⊢
    have hat := str_at hc
    have h10 := toNat_eq10 c
    have HH := Lib.hid HW
    clear HW hse hn hc
    cases hx10 : (c == 10) with
    | true =>
      rw [hx10] at h10
      have h11 : ((c.toNat : Int) != 10) = false := by rw [bne, h10]; rfl
      go_wp2
      go_ret
      exact ⟨by rw [HH.out, if_pos (eq_of_beq hx10)]; rfl, rfl⟩
    | false =>
      rw [hx10] at h10
      have h11 : ((c.toNat : Int) != 10) = true := by rw [bne, h10]; rfl
      go_wp2
      go_ret
      exact ⟨by rw [HH.out, if_neg (by simpa using hx10)]; rfl, rfl⟩

/-- The bytes of one kind ahead. -/
theorem runL_step {c : UInt8} {l : Str} {n : Nat} (h : ∀ i, i < n → l[i]? = some c) (hn : n ≤ l.length) (he : l[n]? ≠ some c) : runL c l = n := by
  unfold runL
  induction l generalizing n with
  | nil => simp at hn; subst hn; rfl
  | cons a t ih =>
    cases n with
    | zero =>
      simp at he
      rw [List.takeWhile_cons_of_neg (by simpa using he)]; rfl
    | succ n =>
      have h0 := h 0 (by omega)
      simp at h0
      subst h0
      rw [List.takeWhile_cons_of_pos (by simp), List.length_cons]
      rw [ih (n := n) (fun i hi => by have := h (i + 1) (by omega); simpa using this) (by simp at hn; omega) (by simpa using he)]

theorem toNat_beq (c d : UInt8) : ((c.toNat : Int) == (d.toNat : Int)) = (c == d) := by
  rw [Bool.eq_iff_iff, beq_iff_eq, beq_iff_eq]
  constructor
  · intro h
    exact UInt8.toNat_inj.1 (by omega)
  · rintro rfl; rfl

set_option maxRecDepth 100000 in
set_option maxHeartbeats 4000000 in
theorem run_any (l : Str) (d : UInt8) (hl : l.length ≤ 1000000000000) (w : World) :
    Calls Tryz.prog 59 #[.string (B l), .int .u8 d.toNat] w fun e w' => e = .returned (.int .i64 (runL d l : Nat)) ∧ w' = w := by
  go_enter Tryz.func59, Tryz.ntmps59
  go_wp2
  go_loopw [5] (fun v wr => ∃ n : Nat, n ≤ l.length ∧ v = .int .i64 n ∧ Hid (∀ i, i < n → l[i]? = some d) ∧ wr = w) (fun v _ => l.length - (intOf v).toNat)
  case atStart => exact ⟨0, Nat.zero_le _, rfl, Lib.hid (fun i hi => absurd hi (Nat.not_lt_zero _)), rfl⟩
  case round =>
    obtain ⟨n, hn, rfl, HI, rfl⟩ := hrel
    by_cases hlt : n < l.length
    · obtain ⟨x, hx⟩ : ∃ x, l[n]? = some x := ⟨l[n], List.getElem?_eq_getElem hlt⟩
      have hat := str_at hx
      have hxd := toNat_beq x d
      have HX := Lib.hid hx
      clear hx
      cases hb : (x == d) with
      | true =>
        rw [hb] at hxd
        go_wp2
        go_roundw
        case rel => exact ⟨n + 1, by omega, by go_num, Lib.hid (fun i hi => by
          rcases Nat.lt_or_ge i n with h | h
          · exact HI.out i h
          · obtain rfl : i = n := by omega
            rw [HX.out, eq_of_beq hb]), by first | rfl | trivial⟩
        case measure => simp [intOf]; omega
      | false =>
        rw [hb] at hxd
        go_wp2
        go_ret
        exact ⟨by rw [runL_step HI.out hn (by rw [HX.out]; simpa using hb)]; rfl, rfl⟩
    · obtain rfl : n = l.length := by omega
      go_wp2
      go_ret
      exact ⟨by rw [runL_step HI.out (Nat.le_refl _) (by simp)]; rfl, rfl⟩

theorem rep_snoc (n : Nat) (c : UInt8) : List.replicate n c ++ [c] = List.replicate (n + 1) c := by
  rw [List.replicate_succ']
set_option maxRecDepth 100000 in
set_option maxHeartbeats 4000000 in
theorem rmark_any (c : UInt8) (n : Nat) (cut : Bool) (word : Str) (w : World) (hn : n ≤ 1000000000) (hw : word.length ≤ 1000000000) :
    Calls Tryz.prog 60 #[.string (B [c]), .int .i64 n, .bool cut, .string (B word)] w fun e w' => e = .returned (.string (B (lineL c n cut word))) ∧ w' = w := by
  go_enter Tryz.func60, Tryz.ntmps60
  go_wp2
  go_loopw [9, 10] (fun v i wr => ∃ k : Nat, k ≤ n ∧ v = .string (B (List.replicate k c)) ∧ i = .int .i64 k ∧ wr = w) (fun _ i _ => n - (intOf i).toNat)
  case atStart => exact ⟨0, Nat.zero_le _, rfl, rfl, rfl⟩
  case round =>
    obtain ⟨k, hk, rfl, rfl, rfl⟩ := hrel
    have hrl : (List.replicate k c).length = k := List.length_replicate
    obtain ⟨r, hr⟩ : ∃ r, r = List.replicate k c := ⟨_, rfl⟩
    rw [← hr] at hrl ⊢
    have HR := Lib.hid hr
    clear hr
    by_cases hlt : k < n
    · go_wp2
      go_roundw
      case rel => exact ⟨k + 1, by omega, by rw [HR.out, rep_snoc], by go_num, by first | rfl | trivial⟩
      case measure => simp [intOf]; omega
    · obtain rfl : k = n := by omega
      cases cut with
      | true =>
        cases word with
        | nil =>
          go_wp2
          go_ret
          exact ⟨by unfold lineL; rw [← HR.out]; simp, rfl⟩
        | cons a t =>
          simp only [List.length_cons] at hw
          go_wp2
          go_ret
          exact ⟨by unfold lineL; rw [← HR.out]; simp, rfl⟩
      | false =>
        cases word with
        | nil =>
          go_wp2
          go_ret
          exact ⟨by unfold lineL; rw [← HR.out]; simp, rfl⟩
        | cons a t =>
          simp only [List.length_cons] at hw
          go_wp2
          go_ret
          exact ⟨by unfold lineL; rw [← HR.out]; simp, rfl⟩

set_option maxRecDepth 100000 in
set_option maxHeartbeats 4000000 in
theorem rsection_any (t : Str) (c : UInt8) (n : Nat) (word : Str) (w : World) (hn : n ≤ 1000000000) (hw : word.length ≤ 1000000000) (ht : t.length ≤ 1000000000) :
    Calls Tryz.prog 61 #[.string (B t), .string (B [c]), .int .i64 n, .string (B word)] w fun e w' => e = .returned (.string (B (sectionL t c n word))) ∧ w' = w := by
  have hl1 := wholeL_length t
  have hl2 := lineL_length c n (!wholeL t == t) word
  go_enter Tryz.func61, Tryz.ntmps61
  go_wp2_with fail
  refine (rwhole_any t (by omega) w).mono ?_
  rintro e w' ⟨rfl, rfl⟩
  go_wp2_with fail
  refine (rmark_any c n _ word w' hn hw).mono ?_
  rintro e w1 ⟨rfl, rfl⟩
  go_wp2
  go_ret
  exact ⟨rfl, rfl⟩

end Go.Proofs.YtogfkfkejaiecaaGreatDoor.Rb

namespace Go.Proofs.YtogfkfkejaiecaaGreatDoor.Rc
open Go.RowKit Go.Shelf Pl Ut Ln Mk Ml Ms Ra Rb Go.Proofs.YtogfkfkejaiecaaGreatDoorW.PrintWords
set_option linter.unusedVariables false
set_option linter.unusedSimpArgs false
attribute [local go_sem] B_append B_extract B_toList B_size take_end

theorem if_max (x y : Int) : (if y > x then y else x) = max x y := by split <;> omega
theorem run_max5 (ts : Array TypeId) (t : TypeId) (a b c d e : Int) (w : World) : (Builtin.max_ ts t #[.int .i64 a, .int .i64 b, .int .i64 c, .int .i64 d, .int .i64 e]).run Tryz.prog w = .ok (.int .i64 (max (max (max (max a b) c) d) e)) w := by
  simp only [← if_max]
  simp [Builtin.max_, Builtin.max2]
attribute [local go_sem] run_max5
theorem run_at (l : Str) (d : UInt8) (z : Int) (hz : z = d.toNat) (hl : l.length ≤ 1000000000000) (w : World) :
    Calls Tryz.prog 59 #[.string (B l), .int .u8 z] w fun e w' => e = .returned (.int .i64 (runL d l : Nat)) ∧ w' = w := by
  rw [hz]; exact run_any l d hl w
theorem runL_le (d : UInt8) (l : Str) : runL d l ≤ l.length := by
  unfold runL; exact List.Sublist.length_le (List.takeWhile_sublist _)

set_option maxRecDepth 100000 in
set_option maxHeartbeats 4000000 in
theorem rlength_any (ts : List Str) (A : Option Addr) (c : Nat) (w : World) (hC : Kd.C kStr w A ts.length ts) (hlen : ts.length ≤ 1000000) (hx : ∀ t ∈ ts, t.length ≤ 1000000000) :
    Calls Tryz.prog 39 #[.slice A ts.length c] w fun e w' => e = .returned (.int .i64 (lengthL ts)) ∧ Below w.heap.size w w' := by
  have HX := Lib.hid hx
  have HCC := Lib.hid hC
  clear hx hC
  go_enter Tryz.func39, Tryz.ntmps39
  go_wp2
  go_loopw [3, 4] (fun v i wr => ∃ k : Nat, k ≤ ts.length ∧ i = .int .i64 k ∧ v = .int .i64 ((ts.take k).foldl textMax 7 : Nat) ∧ Below w.heap.size w wr) (fun _ i _ => ts.length - (intOf i).toNat)
  case atStart => exact ⟨0, Nat.zero_le _, rfl, rfl, Below.refl _ _⟩
  case round =>
    obtain ⟨k, hk, rfl, rfl, hB⟩ := hrel
    obtain ⟨n0, hn0⟩ : ∃ n0, n0 = (ts.take k).foldl textMax 7 := ⟨_, rfl⟩
    rw [← hn0]
    have HN0 := Lib.hid hn0
    clear hn0
    by_cases hlt : k < ts.length
    · obtain ⟨t, htk⟩ : ∃ t, ts[k]? = some t := ⟨ts[k], List.getElem?_eq_getElem hlt⟩
      have htl := HX.out t (List.mem_of_getElem? htk)
      obtain ⟨ad, rfl, p0⟩ := at_str (Kd.C_below HCC.out hB) k hlt t htk
      have HT := Lib.hid htk
      clear htk
      go_wp2_with fail
      refine (rsplit_any t (by omega) _).mono ?_
      rintro e W1 ⟨v, rfl, hR, hb1⟩
      obtain ⟨A2, c2, rfl, hc2, hC2⟩ := Kd.R_reads hR
      have hcnt := splitL_count t
      have HC2 := Lib.hid hC2
      clear hR hC2
      obtain ⟨wo, rfl⟩ : ∃ wo : World, wo = wr := ⟨_, rfl⟩
      have hBW : Below w.heap.size w W1 := hB.trans (hb1.mono hB.size)
      go_wp2
      go_loopw [3, 6] (fun v i wr => ∃ j n : Nat, j ≤ (splitL t).length ∧ i = .int .i64 j ∧ v = .int .i64 n ∧ n = ((splitL t).take j).foldl lineMax n0 ∧ Below W1.heap.size W1 wr) (fun _ i _ => (splitL t).length - (intOf i).toNat)
      case atStart => exact ⟨0, n0, Nat.zero_le _, rfl, rfl, rfl, Below.refl _ _⟩
      case round =>
        obtain ⟨j, n1, hj, rfl, rfl, hn1, hB1⟩ := hrel
        have HN1 := Lib.hid hn1
        clear hn1
        by_cases hjl : j < (splitL t).length
        · obtain ⟨x, hxj⟩ : ∃ x, (splitL t)[j]? = some x := ⟨_, List.getElem?_eq_getElem hjl⟩
          have hxl : x.length ≤ 1000000000 := Nat.le_trans (splitL_len t x (List.mem_of_getElem? hxj)) htl
          obtain ⟨ad2, rfl, q0⟩ := at_str (Kd.C_below HC2.out hB1) j hjl x hxj
          have HXJ := Lib.hid hxj
          clear hxj
          have r60 := runL_le 60 x
          have r124 := runL_le 124 x
          have r61 := runL_le 61 x
          have r62 := runL_le 62 x
          have HXL := Lib.hid hxl
          obtain ⟨g, hg⟩ : ∃ g : Int → Nat, g = fun z => runL (UInt8.ofNat z.toNat) x := ⟨_, rfl⟩
          have kg : ∀ z : Int, (0 ≤ z ∧ z < 256) → ∀ W, Calls Tryz.prog 59 #[.string (B x), .int .u8 z] W fun e w' => e = .returned (.int .i64 (g z)) ∧ w' = W := fun z hz W => by
            rw [hg]; exact run_at x _ z (by rw [UInt8.toNat_ofNat']; omega) (by omega) _
          have KG := Lib.hid kg
          have HL := Lib.hid (show lineMax n1 x = max (max (max (max n1 (g 60 + 1)) (g 124 + 1)) (g 61 + 1)) (g 62 + 1) from by rw [hg]; rfl)
          have hgb : ∀ z, g z ≤ 1000000000 := fun z => by rw [hg]; exact Nat.le_trans (runL_le _ _) hxl
          have g60 := hgb 60
          have g124 := hgb 124
          have g61 := hgb 61
          have g62 := hgb 62
          have wg : ∀ z : Int, IntKind.i64.wrap ((g z : Int) + 1) = (g z : Int) + 1 := fun z => IntWalk.i64_in _ (by have := hgb z; omega)
          clear hg kg hgb r60 r124 r61 r62
          obtain ⟨wo2, rfl⟩ : ∃ wo2 : World, wo2 = wr := ⟨_, rfl⟩
          go_wp2_with fail
          go_quiet ((go_at_call 59; exact Calls.quiet_of_same (KG.out _ (by decide) _)))
          go_wp2
          go_roundw
          case rel => exact ⟨j + 1, lineMax n1 x, by omega, by go_num, by rw [HL.out]; congr 1; omega, by rw [foldl_take _ _ _ _ _ HXJ.out, ← HN1.out], pw_below_drewN hB1 _⟩
          case measure => simp [intOf]; omega
        · obtain rfl : j = (splitL t).length := by omega
          go_wp2
          go_roundw
          case rel => exact ⟨k + 1, by omega, by go_num, by rw [foldl_take _ _ _ _ _ HT.out, ← HN0.out, HN1.out, List.take_length]; rfl, hBW.trans (hB1.mono hBW.size)⟩
          case measure => simp [intOf]; omega
    · obtain rfl : k = ts.length := by omega
      go_wp2
      go_ret
      exact ⟨by rw [HN0.out, List.take_length]; rfl, hB⟩

theorem partL_plain (n : Nat) (old : Bool) (x : Part) (h : x.clash = false) : partL n old x = x.a := by unfold partL; rw [h]; rfl
theorem partL_old (n : Nat) (x : Part) (h : x.clash = true) : partL n true x = lineL 60 n false wOurs ++ (sectionL x.a 124 n wBase ++ sectionL x.o 61 n []) ++ sectionL x.b 62 n wTheirs := by unfold partL; rw [h]; rfl
theorem partL_new (n : Nat) (x : Part) (h : x.clash = true) : partL n false x = lineL 60 n false wOurs ++ sectionL x.a 61 n [] ++ sectionL x.b 62 n wTheirs := by unfold partL; rw [h]; rfl

set_option maxRecDepth 100000 in
set_option maxHeartbeats 4000000 in
theorem rprint_any (xs : List Part) (n : Int) (N : Nat) (old : Bool) (A : Option Addr) (c : Nat) (w : World) (hC : Kd.C kPart w A xs.length xs) (hN : max n 1 = (N : Int)) (hN9 : N ≤ 1000000000)
    (hlen : xs.length ≤ 1000000) (hx : ∀ p ∈ xs, p.o.length ≤ 1000000000 ∧ p.a.length ≤ 1000000000 ∧ p.b.length ≤ 1000000000) (htot : (printL xs N old).length ≤ 1000000000000) :
    Calls Tryz.prog 40 #[.slice A xs.length c, .int .i64 n, .bool old] w fun e w' => e = .returned (.string (B (printL xs N old))) ∧ Below w.heap.size w w' := by
  have htot' : ∀ k, (printL (xs.take k) N old).length ≤ 1000000000000 := fun k => Nat.le_trans (printL_take_le xs N old k) htot
  have HT := Lib.hid htot'
  have HX := Lib.hid hx
  have HCC := Lib.hid hC
  clear htot' hx hC htot
  go_enter Tryz.func40, Tryz.ntmps40
  go_wp2
  go_loopw [7, 8] (fun v i wr => ∃ k : Nat, k ≤ xs.length ∧ i = .int .i64 k ∧ v = .string (B (printL (xs.take k) N old)) ∧ Below w.heap.size w wr) (fun _ i _ => xs.length - (intOf i).toNat)
  case atStart => exact ⟨0, Nat.zero_le _, rfl, rfl, Below.refl _ _⟩
  case round =>
    obtain ⟨k, hk, rfl, rfl, hB⟩ := hrel
    have hsz := hB.size
    have hal := HT.out k
    by_cases hlt : k < xs.length
    · obtain ⟨x, hxk⟩ : ∃ x, xs[k]? = some x := ⟨xs[k], List.getElem?_eq_getElem hlt⟩
      obtain ⟨ad, rfl, p0, p1, p2, p3⟩ := at_part (Kd.C_below HCC.out hB) k hlt x hxk
      have hmem : x ∈ xs := List.mem_of_getElem? hxk
      obtain ⟨lo, la, lb⟩ := HX.out x hmem
      have HS := Lib.hid (printL_take xs N old k x hxk)
      clear hxk hmem
      obtain ⟨acc, hacc⟩ : ∃ acc, acc = printL (xs.take k) N old := ⟨_, rfl⟩
      rw [← hacc] at hal ⊢
      have HACC := Lib.hid hacc
      clear hacc
      obtain ⟨wo, rfl⟩ : ∃ wo : World, wo = wr := ⟨_, rfl⟩
      have m1 := lineL_length 60 N false wOurs
      have m2 := sectionL_length x.a 124 N wBase
      have m3 := sectionL_length x.o 61 N []
      have m4 := sectionL_length x.a 61 N []
      have m5 := sectionL_length x.b 62 N wTheirs
      have q1 : wOurs.length = 4 := rfl
      have q2 : wBase.length = 4 := rfl
      have q3 : wTheirs.length = 6 := rfl
      have q4 : ([] : Str).length = 0 := rfl
      rw [q1] at m1
      rw [q2] at m2
      rw [q4] at m3 m4
      rw [q3] at m5
      cases hcl : x.clash with
      | false =>
        rw [hcl] at p0
        go_wp2
        go_roundw
        case rel => exact ⟨k + 1, by omega, by go_num, by rw [HS.out, ← HACC.out, partL_plain _ _ _ hcl], hB.alloc hsz _⟩
        case measure => simp [intOf]; omega
      | true =>
        rw [hcl] at p0
        obtain ⟨l1, h1⟩ : ∃ l, l = lineL 60 N false wOurs := ⟨_, rfl⟩
        obtain ⟨s5, h5⟩ : ∃ l, l = sectionL x.b 62 N wTheirs := ⟨_, rfl⟩
        have k1 : ∀ W, Calls Tryz.prog 60 #[.string (B [60]), .int .i64 N, .bool false, .string (B wOurs)] W fun e w' => e = .returned (.string (B l1)) ∧ w' = W := fun W => by rw [h1]; exact rmark_any _ _ _ _ W hN9 (by decide)
        have k5 : ∀ W, Calls Tryz.prog 61 #[.string (B x.b), .string (B [62]), .int .i64 N, .string (B wTheirs)] W fun e w' => e = .returned (.string (B s5)) ∧ w' = W := fun W => by rw [h5]; exact rsection_any _ _ _ _ W hN9 (by decide) lb
        have K1 := Lib.hid k1
        have K5 := Lib.hid k5
        rw [← h1] at m1
        rw [← h5] at m5
        have H1 := Lib.hid h1
        have H5 := Lib.hid h5
        clear k1 k5 h1 h5
        cases old with
        | true =>
          obtain ⟨sec, hsec⟩ : ∃ sec : Str → UInt8 → Str → Str, sec = fun t c word => sectionL t c N word := ⟨_, rfl⟩
          have ks : ∀ t c word W, (t.length ≤ 1000000000) → (word.length ≤ 1000000000) → Calls Tryz.prog 61 #[.string (B t), .string (B [c]), .int .i64 N, .string (B word)] W fun e w' => e = .returned (.string (B (sec t c word))) ∧ w' = W := fun t c word W ht hw => by rw [hsec]; exact rsection_any _ _ _ _ W hN9 hw ht
          have KS := Lib.hid ks
          have z2 : (sec x.a 124 [98, 97, 115, 101]).length ≤ 3000000000 := by rw [hsec]; exact Nat.le_trans m2 (by omega)
          have z3 : (sec x.o 61 []).length ≤ 3000000000 := by rw [hsec]; exact Nat.le_trans m3 (by omega)
          have HP := Lib.hid (show partL N true x = l1 ++ (sec x.a 124 [98, 97, 115, 101] ++ sec x.o 61 []) ++ s5 from by rw [partL_old N x hcl, H1.out, H5.out, hsec]; rfl)
          have LA := Lib.hid la
          have LO := Lib.hid lo
          clear hsec ks m2 m3 m4
          go_wp2_with fail
          refine (K1.out _).mono ?_
          rintro e w' ⟨rfl, rfl⟩
          go_wp2_with fail
          go_quiet ((go_at_call 61; exact Calls.quiet_of_same (KS.out _ _ _ _ (by first | exact LA.out | exact LO.out) (by decide))))
          go_wp2_with fail
          refine (K5.out _).mono ?_
          rintro e w' ⟨rfl, rfl⟩
          go_wp2
          go_roundw
          case rel => exact ⟨k + 1, by omega, by go_num, by rw [HS.out, ← HACC.out, HP.out]; simp [List.append_assoc], pw_below_drewN (hB.alloc hsz _) _⟩
          case measure => simp [intOf]; omega
        | false =>
          obtain ⟨s4, h4⟩ : ∃ l, l = sectionL x.a 61 N [] := ⟨_, rfl⟩
          have k4 : ∀ W, Calls Tryz.prog 61 #[.string (B x.a), .string (B [61]), .int .i64 N, .string (B [])] W fun e w' => e = .returned (.string (B s4)) ∧ w' = W := fun W => by rw [h4]; exact rsection_any _ _ _ _ W hN9 (by decide) la
          have K4 := Lib.hid k4
          rw [← h4] at m4
          have HP := Lib.hid (show partL N false x = l1 ++ s4 ++ s5 from by rw [partL_new N x hcl, H1.out, H5.out, h4])
          clear k4 h4 m2 m3
          go_wp2_with fail
          refine (K1.out _).mono ?_
          rintro e w' ⟨rfl, rfl⟩
          go_wp2_with fail
          refine (K4.out _).mono ?_
          rintro e w' ⟨rfl, rfl⟩
          go_wp2_with fail
          refine (K5.out _).mono ?_
          rintro e w' ⟨rfl, rfl⟩
          go_wp2
          go_roundw
          case rel => exact ⟨k + 1, by omega, by go_num, by rw [HS.out, ← HACC.out, HP.out]; simp [List.append_assoc], hB.alloc hsz _⟩
          case measure => simp [intOf]; omega
    · obtain rfl : k = xs.length := by omega
      rw [List.take_length]
      go_wp2
      go_ret
      exact ⟨rfl, hB⟩

set_option maxRecDepth 100000 in
set_option maxHeartbeats 4000000 in
theorem rshow_any (xs : List Part) (N : Nat) (old : Bool) (A : Option Addr) (c : Nat) (w : World) (hC : Kd.C kPart w A xs.length xs) (hN : lengthL (textsL xs) = N) (hN9 : N ≤ 1000000000) (hN7 : 7 ≤ N)
    (hlen : xs.length ≤ 300000) (hx : ∀ p ∈ xs, p.o.length ≤ 1000000000 ∧ p.a.length ≤ 1000000000 ∧ p.b.length ≤ 1000000000) (htot : (printL xs N old).length ≤ 1000000000000) :
    Calls Tryz.prog 24 #[.slice A xs.length c, .bool old] w fun e w' => e = .returned (.tuple #[.string (B (printL xs N old)), .int .i64 N]) ∧ Below w.heap.size w w' := by
  obtain ⟨i0, hi, hz0, hz1, hz2⟩ := info_parts infoString
  have HX := Lib.hid hx
  have HCC := Lib.hid hC
  have HN := Lib.hid hN
  have HTOT := Lib.hid htot
  clear hx hC hN htot
  go_enter Tryz.func24, Tryz.ntmps24
  go_wp2
  go_loopw [6, 7] (fun v i wr => ∃ k : Nat, k ≤ xs.length ∧ i = .int .i64 k ∧ wr.ownsRow w.heap.size 9 1 v (3 * k) (encs (fun l : Str => .string (B l)) (textsL (xs.take k))) ∧ Below w.heap.size w wr) (fun _ i _ => xs.length - (intOf i).toNat)
  case atStart => exact ⟨0, Nat.zero_le _, rfl, World.ownsRow_nil _ _ _ _, Below.refl _ _⟩
  case round =>
    obtain ⟨k, hk, rfl, hown, hB⟩ := hrel
    have hsz := hB.size
    by_cases hlt : k < xs.length
    · obtain ⟨x, hxk⟩ : ∃ x, xs[k]? = some x := ⟨xs[k], List.getElem?_eq_getElem hlt⟩
      obtain ⟨ad, rfl, p0, p1, p2, p3⟩ := at_part (Kd.C_below HCC.out hB) k hlt x hxk
      have HXK := Lib.hid (textsL_take xs k x hxk)
      have hblk : (ad.add (k * 4)).block < w.heap.size := by
        obtain ⟨ad2, e2, q0, _⟩ := at_part HCC.out k hlt x hxk
        cases e2
        exact World.block_lt_of_cell? _ _ q0
      clear hxk
      have hlt1 : (ad.add (k * 4)).block < wr.heap.size := by omega
      have hne : u6.ownBlock ≠ some (ad.add (k * 4)).block := fun e => by have := own_base hown _ e; omega
      have hk0 : (0 : Int) ≤ (k : Int) := Int.natCast_nonneg _
      have hk1 : (k : Int) < (xs.length : Int) := by omega
      go_wp2_with fail
      go_region_held3 (fun w' => w'.cell? ⟨(ad.add (k * 4)).block, (ad.add (k * 4)).off + 1, none⟩ = some (.string (B x.o)) ∧ w'.cell? ⟨(ad.add (k * 4)).block, (ad.add (k * 4)).off + 2, none⟩ = some (.string (B x.a)) ∧ w'.cell? ⟨(ad.add (k * 4)).block, (ad.add (k * 4)).off + 3, none⟩ = some (.string (B x.b)))
        (first
          | go_keep
          | (go_split_ands
             refine ⟨?_, ?_, ?_⟩
             · (refine Eq.trans (hgrow.cell_far ⟨(ad.add (k * 4)).block, (ad.add (k * 4)).off + 1, none⟩ (by simp; omega) (Ne.symm hne)) ?_; assumption)
             · (refine Eq.trans (hgrow.cell_far ⟨(ad.add (k * 4)).block, (ad.add (k * 4)).off + 2, none⟩ (by simp; omega) (Ne.symm hne)) ?_; assumption)
             · (refine Eq.trans (hgrow.cell_far ⟨(ad.add (k * 4)).block, (ad.add (k * 4)).off + 3, none⟩ (by simp; omega) (Ne.symm hne)) ?_; assumption)))
        ((refine step_append_lies _ (by rfl) _ _ _ (by rfl) w.heap.size 9 i0 _ 1 16 Tryz.underlying62 hi hz0 hz1 hz2 rfl (by omega) u6 (3 * k) _ (by rfl) (hown.drew.alloc _)
            ⟨wr.heap.size, 0, none⟩ 3 3 [.string (B x.o), .string (B x.a), .string (B x.b)] (by rfl) (by rfl) (World.news_of_block (cs := #[.string (B x.o), .string (B x.a), .string (B x.b)]) (t := 9) (fr := (0, 0)) (heap_alloc_new _ _)) (by simp [Value.oneCell'])
            (by omega) (by unfold maxLen; omega) (by omega) (by simp; omega) (wr.heap.size + 1) (by simp) ?_; intro gg cap w1 hown1 hgrow hat hlt2))
      have hB1 : Below w.heap.size w w1 := ((hB.drew).alloc hsz _).grown hgrow (by simp; omega) (own_base hown)
      go_wp2
      go_roundw
      case rel => exact ⟨k + 1, by omega, by go_num, by rw [HXK.out]; simpa [encs, Nat.mul_add] using hown1, hB1⟩
      case measure => simp [intOf]; omega
    · obtain rfl : k = xs.length := by omega
      rw [List.take_length, ← textsL_length] at hown
      have hR : kStr.R 9 wr w.heap.size (fun _ => True) _ (textsL xs) := Kd.R_of_own hown (fun _ _ => trivial)
      obtain ⟨A2, c2, rfl, hc2, hC2⟩ := Kd.R_reads hR
      have hl3 := textsL_length xs
      have HC2 := Lib.hid hC2
      clear hown hR hC2
      have HL3 := Lib.hid hl3
      have hl4 : (textsL xs).length ≤ 1000000 := by omega
      clear hl3
      go_wp2_with fail
      refine (rlength_any (textsL xs) A2 c2 _ HC2.out hl4 ?_).mono ?_
      · intro t ht
        simp only [textsL, List.mem_flatMap] at ht
        obtain ⟨p, hp, ht⟩ := ht
        obtain ⟨h1, h2, h3⟩ := HX.out p hp
        simp at ht
        rcases ht with rfl | rfl | rfl <;> assumption
      rw [HN.out]
      rintro e w1 ⟨rfl, hb1⟩
      have hB1 : Below w.heap.size w w1 := hB.trans (hb1.mono hB.size)
      go_wp2_with fail
      refine (rprint_any xs N N old A c _ (Kd.C_below HCC.out hB1) (by omega) hN9 (by omega) HX.out HTOT.out).mono ?_
      rintro e w2 ⟨rfl, hb2⟩
      go_wp2
      go_ret2
      exact ⟨rfl, hB1.trans (hb2.mono hB1.size)⟩

end Go.Proofs.YtogfkfkejaiecaaGreatDoor.Rc

namespace Go.Proofs.YtogfkfkejaiecaaGreatDoor.Dq
open Go.RowKit Go.Shelf Pl Ut Da Db Dc Dl Dm Dn Dp Ml Rc Mk Ra Rb
set_option linter.unusedVariables false
set_option linter.unusedSimpArgs false

theorem join_step (O : List Str) {p t : Nat} (h : p ≤ t) : joinL (cutL O p t) ++ joinL (O.drop t) = joinL (O.drop p) := by
  unfold cutL joinL
  rw [← List.flatten_append]
  congr 1
  conv => rhs; rw [← List.take_append_drop (t - p) (O.drop p)]
  rw [List.drop_drop, show p + (t - p) = t by omega]
/-- The chunks lie one behind another. -/
theorem tile (o a b : List Nat) (O A B : List Str) (ho : O.length = o.length) (ha : A.length = a.length) (hb : B.length = b.length) : ∀ (f p q s : Nat), AtC o a b p q s → o.length + a.length + b.length ≤ f + (p + q + s) →
    ((chunkGo o a b f p q s).map (fun c => joinL (cutL O c.o1 c.o2))).flatten = joinL (O.drop p) ∧ ((chunkGo o a b f p q s).map (fun c => joinL (cutL A c.a1 c.a2))).flatten = joinL (A.drop q) ∧ ((chunkGo o a b f p q s).map (fun c => joinL (cutL B c.b1 c.b2))).flatten = joinL (B.drop s)
  | 0, p, q, s, h, hf => by
    have h1 := h.po
    have h2 := h.qa
    have h3 := h.sb
    have e1 : O.drop p = [] := List.drop_eq_nil_of_le (by omega)
    have e2 : A.drop q = [] := List.drop_eq_nil_of_le (by omega)
    have e3 : B.drop s = [] := List.drop_eq_nil_of_le (by omega)
    rw [e1, e2, e3]
    exact ⟨rfl, rfl, rfl⟩
  | f + 1, p, q, s, h, hf => by
    unfold chunkGo
    split
    · rename_i he
      have e1 : O.drop p = [] := List.drop_eq_nil_of_le (by omega)
      have e2 : A.drop q = [] := List.drop_eq_nil_of_le (by omega)
      have e3 : B.drop s = [] := List.drop_eq_nil_of_le (by omega)
      rw [e1, e2, e3]
      exact ⟨rfl, rfl, rfl⟩
    · rename_i hne
      obtain ⟨t, ht, h2, h3, h4, h5, h6⟩ := stepC_at h hne
      obtain ⟨i1, i2, i3⟩ := tile o a b O A B ho ha hb f t.1 t.2.1 t.2.2 h2 (by omega)
      simp only [← ht, List.map_cons, List.flatten_cons]
      rw [i1, i2, i3]
      exact ⟨join_step O h3, join_step A h4, join_step B h5⟩
theorem partsC_tile (o a b : List Str) :
    ((partsC o a b).map (fun c => joinL (cutL o c.o1 c.o2))).flatten = joinL o ∧ ((partsC o a b).map (fun c => joinL (cutL a c.a1 c.a2))).flatten = joinL a ∧ ((partsC o a b).map (fun c => joinL (cutL b c.b1 c.b2))).flatten = joinL b := by
  obtain ⟨x, y, z, h, ex, ey, ez⟩ := numRows3 o a b
  rw [partsC_of h]
  exact tile x y z o a b ex.symm ey.symm ez.symm _ 0 0 0 (AtC.start x y z) (by omega)

/-- How much text a part holds. -/
def sizeP (p : Part) : Nat := p.o.length + p.a.length + p.b.length
def sizeL (ps : List Part) : Nat := (ps.map sizeP).sum
theorem sizeL_append (x y : List Part) : sizeL (x ++ y) = sizeL x + sizeL y := by unfold sizeL; rw [List.map_append, List.sum_append]
theorem sizeL_one (p : Part) : sizeL [p] = sizeP p := by simp [sizeL]
theorem sizeL_add (out : List Part) (p : Part) : sizeL (addPart out p) = sizeL out + sizeP p := by
  rcases List.eq_nil_or_concat out with rfl | ⟨pre, l, rfl⟩
  · rw [addPart_nil, sizeL_one]; simp [sizeL]
  · rw [List.concat_eq_append]
    cases hpc : p.clash with
    | true => rw [addPart_clash _ _ hpc, sizeL_append, sizeL_one]
    | false =>
      cases hlc : l.clash with
      | true => rw [addPart_last _ _ _ hlc, sizeL_append, sizeL_one]
      | false =>
        rw [addPart_merge _ _ _ hlc hpc, sizeL_append, sizeL_append, sizeL_one, sizeL_one]
        simp only [sizeP, List.length_append]; omega
theorem sizeL_fold (f : Ck → Part) : ∀ (cs : List Ck) (out : List Part), sizeL (cs.foldl (fun out c => addPart out (f c)) out) = sizeL out + (cs.map (fun c => sizeP (f c))).sum
  | [], out => by simp
  | c :: r, out => by
    rw [List.foldl_cons, sizeL_fold f r, sizeL_add, List.map_cons, List.sum_cons]; omega
theorem sum_flat (cs : List Ck) (f : Ck → Str) : ((cs.map f).flatten).length = (cs.map (fun c => (f c).length)).sum := by
  rw [List.length_flatten, List.map_map]; rfl
theorem sizeP_partOf (o a b : List Str) (c : Ck) : sizeP (partOf o a b c) ≤ (joinL (cutL o c.o1 c.o2)).length + 2 * (joinL (cutL a c.a1 c.a2)).length + 2 * (joinL (cutL b c.b1 c.b2)).length := by
  unfold partOf
  split
  · simp only [sizeP]; omega
  · split
    · simp only [sizeP]; omega
    · simp only [sizeP]; omega
theorem sizeL_parts (o a b : List Str) : sizeL (partsL o a b) ≤ (joinL o).length + 2 * (joinL a).length + 2 * (joinL b).length := by
  obtain ⟨h1, h2, h3⟩ := partsC_tile o a b
  have e1 := sum_flat (partsC o a b) (fun c => joinL (cutL o c.o1 c.o2))
  have e2 := sum_flat (partsC o a b) (fun c => joinL (cutL a c.a1 c.a2))
  have e3 := sum_flat (partsC o a b) (fun c => joinL (cutL b c.b1 c.b2))
  rw [h1] at e1
  rw [h2] at e2
  rw [h3] at e3
  rw [partsL_eq, sizeL_fold, e1, e2, e3]
  have : ∀ cs : List Ck, (cs.map (fun c => sizeP (partOf o a b c))).sum ≤ (cs.map (fun c => (joinL (cutL o c.o1 c.o2)).length)).sum + 2 * (cs.map (fun c => (joinL (cutL a c.a1 c.a2)).length)).sum + 2 * (cs.map (fun c => (joinL (cutL b c.b1 c.b2)).length)).sum := by
    intro cs
    induction cs with
    | nil => simp
    | cons c r ih =>
      have := sizeP_partOf o a b c
      simp only [List.map_cons, List.sum_cons]; omega
  have h0 : sizeL [] = 0 := rfl
  have := this (partsC o a b)
  omega
theorem partsL_count (o a b : List Str) : (partsL o a b).length ≤ o.length + a.length + b.length := by
  rw [partsL_eq]
  exact Nat.le_trans (addParts_length _ _) (partsC_facts o a b).1
theorem joinL_split (s : Str) : joinL (splitL s) = s := splitL_flatten s
theorem sizeL_lines (o a b : Str) : sizeL (linesL o a b) ≤ o.length + 2 * a.length + 2 * b.length := by
  have := sizeL_parts (splitL o) (splitL a) (splitL b)
  rw [joinL_split, joinL_split, joinL_split] at this
  exact this
theorem linesL_count (o a b : Str) : (linesL o a b).length ≤ o.length + a.length + b.length := by
  have := partsL_count (splitL o) (splitL a) (splitL b)
  have h1 := splitL_count o
  have h2 := splitL_count a
  have h3 := splitL_count b
  exact Nat.le_trans this (by omega)
theorem sizeP_le {ps : List Part} {p : Part} (h : p ∈ ps) : sizeP p ≤ sizeL ps := by
  induction ps with
  | nil => cases h
  | cons x r ih =>
    have e : sizeL (x :: r) = sizeP x + sizeL r := rfl
    rcases List.mem_cons.1 h with rfl | h
    · omega
    · have := ih h; omega
theorem partL_size (N : Nat) (old : Bool) (x : Part) : (partL N old x).length ≤ sizeP x + (4 * N + 100) := by
  have m1 := lineL_length 60 N false wOurs
  have m2 := sectionL_length x.a 124 N wBase
  have m3 := sectionL_length x.o 61 N []
  have m4 := sectionL_length x.a 61 N []
  have m5 := sectionL_length x.b 62 N wTheirs
  have q1 : wOurs.length = 4 := rfl
  have q2 : wBase.length = 4 := rfl
  have q3 : wTheirs.length = 6 := rfl
  have q4 : ([] : Str).length = 0 := rfl
  rw [q1] at m1
  rw [q2] at m2
  rw [q4] at m3 m4
  rw [q3] at m5
  unfold sizeP
  cases hc : x.clash with
  | false => rw [partL_plain _ _ _ hc]; omega
  | true =>
    cases old with
    | true => rw [partL_old _ _ hc]; simp only [List.length_append]; omega
    | false => rw [partL_new _ _ hc]; simp only [List.length_append]; omega
theorem printL_size (N : Nat) (old : Bool) : ∀ (xs : List Part), (printL xs N old).length ≤ sizeL xs + xs.length * (4 * N + 100)
  | [] => by simp [printL]
  | a :: r => by
    have ih := printL_size N old r
    have ha := partL_size N old a
    have e : printL (a :: r) N old = partL N old a ++ printL r N old := rfl
    have e2 : sizeL (a :: r) = sizeP a + sizeL r := rfl
    rw [e, List.length_append, List.length_cons, Nat.add_mul, Nat.one_mul]
    omega
theorem lineMax_le {n b : Nat} {l : Str} (h : n ≤ b) (hl : l.length + 1 ≤ b) : lineMax n l ≤ b := by
  have r1 := runL_le 60 l
  have r2 := runL_le 124 l
  have r3 := runL_le 61 l
  have r4 := runL_le 62 l
  unfold lineMax; omega
theorem textMax_le {n b : Nat} {t : Str} (h : n ≤ b) (hl : t.length + 1 ≤ b) : textMax n t ≤ b := by
  unfold textMax
  have hs := splitL_len t
  generalize splitL t = ls at hs
  induction ls generalizing n with
  | nil => exact h
  | cons a r ih => exact ih (lineMax_le h (by have := hs a (by simp); omega)) (fun l hl => hs l (by simp [hl]))
theorem lengthL_le {ts : List Str} {b : Nat} (h7 : 7 ≤ b) (h : ∀ t ∈ ts, t.length + 1 ≤ b) : lengthL ts ≤ b := by
  unfold lengthL
  have : ∀ (ts : List Str) (n : Nat), n ≤ b → (∀ t ∈ ts, t.length + 1 ≤ b) → ts.foldl textMax n ≤ b := by
    intro ts
    induction ts with
    | nil => intro n hn _; exact hn
    | cons a r ih => intro n hn h; exact ih _ (textMax_le hn (h a (by simp))) (fun t ht => h t (by simp [ht]))
  exact this ts 7 h7 h
theorem lineMax_ge (n : Nat) (l : Str) : n ≤ lineMax n l := by unfold lineMax; omega
theorem textMax_ge (n : Nat) (t : Str) : n ≤ textMax n t := by
  unfold textMax
  generalize splitL t = ls
  induction ls generalizing n with
  | nil => exact Nat.le_refl _
  | cons a r ih => exact Nat.le_trans (lineMax_ge n a) (ih _)
theorem lengthL_ge (ts : List Str) : 7 ≤ lengthL ts := by
  unfold lengthL
  have : ∀ (ts : List Str) (n : Nat), n ≤ ts.foldl textMax n := by
    intro ts
    induction ts with
    | nil => intro n; exact Nat.le_refl _
    | cons a r ih => intro n; exact Nat.le_trans (textMax_ge n a) (ih _)
  exact this ts 7
theorem lines_fitB (o a b : Str) (lo : o.length ≤ 2500) (la : a.length ≤ 2500) (lb : b.length ≤ 2500) (old : Bool) (N : Nat) (hN : lengthL (textsL (linesL o a b)) = N) :
    N ≤ 12501 ∧ (linesL o a b).length ≤ 7500 ∧ (∀ p ∈ linesL o a b, p.o.length ≤ 12500 ∧ p.a.length ≤ 12500 ∧ p.b.length ≤ 12500) ∧ (printL (linesL o a b) N old).length ≤ 400000000 ∧ sizeL (linesL o a b) ≤ 12500 := by
  have h1 := sizeL_lines o a b
  have h2 := linesL_count o a b
  have h3 : ∀ p ∈ linesL o a b, p.o.length ≤ 12500 ∧ p.a.length ≤ 12500 ∧ p.b.length ≤ 12500 := fun p hp => by
    have := sizeP_le hp
    unfold sizeP at this
    omega
  have h4 : N ≤ 12501 := by
    rw [← hN]
    refine lengthL_le (by omega) (fun t ht => ?_)
    unfold textsL at ht
    obtain ⟨p, hp, ht⟩ := List.mem_flatMap.1 ht
    have := h3 p hp
    simp only [List.mem_cons, List.not_mem_nil, or_false] at ht
    rcases ht with rfl | rfl | rfl <;> omega
  refine ⟨h4, by omega, h3, ?_, by omega⟩
  have h5 := printL_size N old (linesL o a b)
  have h6 : (linesL o a b).length * (4 * N + 100) ≤ 7500 * (4 * 12501 + 100) := Nat.mul_le_mul (by omega) (by omega)
  omega

end Go.Proofs.YtogfkfkejaiecaaGreatDoor.Dq

namespace Go.Proofs.YtogfkfkejaiecaaGreatDoor.Dr
open Go.RowKit Go.Shelf Pl Ut Ln Bl Mk Ml Ms Da Db Dc Dm Dn Do Dp Dq Go.Proofs.YtogfkfkejaiecaaGreatDoorW.PrintWords
set_option linter.unusedVariables false
set_option linter.unusedSimpArgs false
attribute [local go_sem] B_append B_extract B_toList B_size take_end

theorem clash_any (p : Part) (w : World) :
    Calls Tryz.prog 58 #[.agg #[.bool p.clash, .string (B p.o), .string (B p.a), .string (B p.b)]] w fun e w' => e = .returned (.bool p.clash) ∧ Below w.heap.size w w' := by
  go_enter Tryz.func58, Tryz.ntmps58
  go_wp2
  go_ret
  exact ⟨rfl, below_alloc (Below.refl _ _) _⟩

set_option maxRecDepth 100000 in
set_option maxHeartbeats 8000000 in
theorem index_any (ps : List Part) (A : Option Addr) (c : Nat) (w : World) (hC : Kd.C kPart w A ps.length ps) (hl : ps.length ≤ 1000000000) :
    Calls Tryz.prog 77 #[.slice A ps.length c, .func (.func 58) #[] #[]] w fun e w' => ∃ i : Int, e = .returned (.int .i64 i) ∧ decide (0 ≤ i) = ps.any (·.clash) ∧ Below w.heap.size w w' := by
  have HC := Lib.hid hC
  clear hC
  go_enter Tryz.func77, Tryz.ntmps77
  go_wp2
  go_loopw [8] (fun i wr => ∃ k : Nat, k ≤ ps.length ∧ i = .int .i64 (k : Int) ∧ Hid ((ps.take k).any (·.clash) = false) ∧ Hid (Below w.heap.size w wr)) (fun i _ => ps.length - (intOf i).toNat)
  case atStart => exact ⟨0, by omega, rfl, Lib.hid rfl, Lib.hid (Below.refl _ _)⟩
  case round =>
    obtain ⟨k, hk, rfl, HN, HB⟩ := hrel
    rcases Nat.eq_or_lt_of_le hk with hk0 | hk0
    · have hlt : ¬ (k : Int) < (ps.length : Int) := by omega
      have HF := Lib.hid (show ps.any (·.clash) = false from by have := HN.out; rwa [hk0, List.take_length] at this)
      go_wp2
      go_ret
      exact ⟨-1, rfl, by rw [HF.out]; rfl, HB.out⟩
    · have hlt : (k : Int) < (ps.length : Int) := by omega
      obtain ⟨x, hx⟩ : ∃ x, ps[k]? = some x := ⟨_, List.getElem?_eq_getElem hk0⟩
      obtain ⟨ad, rfl, e0, e1, e2, e3⟩ := at_part (Kd.C_below HC.out HB.out) k hk0 x hx
      have HX := Lib.hid hx
      have HK := Lib.hid hk0
      have HCl := Lib.hid (clash_any x)
      have cadd : IntKind.i64.wrap ((k : Int) + 1) = ((k + 1 : Nat) : Int) := by rw [IntWalk.i64_in _ (by omega)]; omega
      cases hc : x.clash with
      | true =>
        rw [hc] at e0 HCl
        go_wp2_with (go_at_call 58; refine (HCl.out _).mono ?_; rintro e w1 ⟨rfl, hb⟩; have HB1 := Lib.hid (HB.out.trans (hb.mono HB.out.size)); clear hb)
        go_ret
        exact ⟨(k : Int), rfl, by
          have : ps.any (·.clash) = true := List.any_eq_true.2 ⟨x, List.mem_of_getElem? HX.out, hc⟩
          rw [this, decide_eq_true_eq]; omega, HB1.out⟩
      | false =>
        rw [hc] at e0 HCl
        go_wp2_with (go_at_call 58; refine (HCl.out _).mono ?_; rintro e w1 ⟨rfl, hb⟩; have HB1 := Lib.hid (HB.out.trans (hb.mono HB.out.size)); clear hb)
        go_roundw
        case rel => exact ⟨k + 1, HK.out, rfl, Lib.hid (by rw [List.take_add_one, HX.out, List.any_append, HN.out]; simp [hc]), HB1⟩
        · have := HK.out; simp only [intOf]; omega
theorem contains_any (ps : List Part) (A : Option Addr) (c : Nat) (w : World) (hC : Kd.C kPart w A ps.length ps) (hl : ps.length ≤ 1000000000) :
    Calls Tryz.prog 57 #[.slice A ps.length c, .func (.func 58) #[] #[]] w fun e w' => e = .returned (.bool (ps.any (·.clash))) ∧ Below w.heap.size w w' := by
  have HI := Lib.hid (index_any ps A c w hC hl)
  go_enter Tryz.func57, Tryz.ntmps57
  go_wp2_with (go_at_call 77; refine HI.out.mono ?_; rintro e w1 ⟨i, rfl, hd, hb⟩; have HD := Lib.hid hd; have HB := Lib.hid hb; clear hd hb)
  go_ret
  refine ⟨?_, HB.out⟩
  rw [← HD.out]
  rfl

theorem shown_any (ps : List Part) (N : Nat) (old : Bool) (kind : Int) (A : Option Addr) (c : Nat) (w : World) (hC : Kd.C kPart w A ps.length ps) (hS : Signs w) (hN : lengthL (textsL ps) = N) (hN9 : N ≤ 1000000000)
    (hlen : ps.length ≤ 300000) (hx : ∀ p ∈ ps, p.o.length ≤ 1000000000 ∧ p.a.length ≤ 1000000000 ∧ p.b.length ≤ 1000000000) (htot : (printL ps N old).length ≤ 1000000000000) :
    Calls Tryz.prog 38 #[.slice A ps.length c, .bool old, .int .i64 kind] w fun e w' => e = .returned (.tuple #[.string (B (printL ps N old)), .bool true, .int .i64 (if ps.any (·.clash) then kind else 0)]) ∧ Below w.heap.size w w' := by
  have HSh := Lib.hid (show_any ps N old A c w hC hS hN hN9 hlen hx htot)
  have HCo : Hid (∀ W, Below w.heap.size w W → Calls Tryz.prog 57 #[.slice A ps.length c, .func (.func 58) #[] #[]] W fun e w' => e = .returned (.bool (ps.any (·.clash))) ∧ Below W.heap.size W w') :=
    Lib.hid (fun W hb => contains_any ps A c W (Kd.C_below hC hb) (by omega))
  clear hC hS hN hN9 hx htot
  go_enter Tryz.func38, Tryz.ntmps38
  cases hcl : ps.any (·.clash) with
  | true =>
    rw [hcl] at HCo
    go_wp2_with (first | (go_at_call 26; refine HSh.out.mono ?_; rintro e w1 ⟨rfl, hb⟩; have HB := Lib.hid hb; clear hb) | (go_at_call 57; refine (HCo.out _ HB.out).mono ?_; rintro e w2 ⟨rfl, hb⟩; have HB2 := Lib.hid (HB.out.trans (hb.mono HB.out.size)); clear hb))
    go_ret3
    exact ⟨rfl, HB2.out⟩
  | false =>
    rw [hcl] at HCo
    go_wp2_with (first | (go_at_call 26; refine HSh.out.mono ?_; rintro e w1 ⟨rfl, hb⟩; have HB := Lib.hid hb; clear hb) | (go_at_call 57; refine (HCo.out _ HB.out).mono ?_; rintro e w2 ⟨rfl, hb⟩; have HB2 := Lib.hid (HB.out.trans (hb.mono HB.out.size)); clear hb))
    go_ret3
    exact ⟨rfl, HB2.out⟩

end Go.Proofs.YtogfkfkejaiecaaGreatDoor.Dr
