/- A region that draws its order, in a round of a range over a function: what is shown of it outside a round holds there. Contracts of diff3: kind. Contracts of diff3: Chunks. Contracts of diff3: Parts. -/
import Derived.Test.YtogfkfkejaiecaaGreatDoorTc
import Derived.OrdersIn
import Derived.RangeFuncCalls
import Derived.Deep.RegionHeld3
import Derived.Test.YtogfkfkejaiecaaGreatDoorTe

namespace Go.Proofs.YtogfkfkejaiecaaGreatDoor.Dj
open Go
set_option linter.unusedVariables false
set_option linter.unusedSimpArgs false

theorem opIn {P : Program} {o : Oper} {a : Act} {w : World} {K : Act → World → Prop} {Q : Exit → Act → World → Prop} {l n : Nat} (hd : ∀ c, o.op ≠ .defer c) (h : o.wp P a w K Q) :
    o.wpIn (Fence.wide.inRound l) n P a w K Q := by
  refine ⟨fun _ _ => trivial, ?_⟩
  rw [Oper.semAt_eq _ _ _ hd]
  unfold Oper.wp at h
  generalize (execOp a.eval o).run P w = r at h ⊢
  cases r with
  | ok x w' =>
    cases x <;> simp only [Oper.upon, Oper.uponIn] at h ⊢
    case value => exact h
    case skip => exact h
    case defer => exact h
    case enter f args => exact ⟨fun h => (by cases h), CallsIn.inRound l (callsIn_wide.2 h)⟩
    case row row args =>
      refine ⟨fun h => (by cases h), fun c cs _ => ?_⟩
      obtain ⟨v, w'', hr, hs⟩ := h c cs
      exact ⟨v, w'', hr, (stepsIn_wide (P := P)).2 hs⟩
  | halt x w' => cases x <;> simp only [Oper.upon, Oper.uponIn] at h ⊢ <;> exact h

theorem anyIn {P : Program} {md : Region.Mode} {ops : Array Oper} {Q : Exit → Act → World → Prop} {l n : Nat} (hL : ¬ LetsOut Q) (hd : ∀ (j : Nat) (o : Oper), ops[j]? = some o → ∀ c, o.op ≠ .defer c) :
    ∀ (fuel : Nat) (listed : Array Bool) (a : Act) (w : World), wpAny P md ops Q fuel listed a w → wpAnyIn (Fence.wide.inRound l) n P md ops Q fuel listed a w
  | 0, _, _, _, h => h
  | fuel + 1, listed, a, w, ⟨h0, h1⟩ => by
    refine ⟨h0, fun i hi => ?_⟩
    have := h1 i hi
    unfold wpOp at this
    unfold wpOpIn
    cases ho : ops[i]? with
    | none => rw [ho] at this; exact anyIn hL hd fuel _ _ _ this
    | some o =>
      rw [ho] at this
      simp only at this ⊢
      split
      · rename_i hw
        rw [if_pos hw] at this
        rcases this with h | ⟨_, h⟩
        · exact Oper.wpIn_mono (fun a w => anyIn hL hd fuel _ a w) (opIn (hd i o ho) h)
        · exact absurd h hL
      · rename_i hw
        rw [if_neg hw] at this
        exact ⟨fun _ _ => trivial, anyIn hL hd fuel _ _ _ this⟩

/-- The beginning. -/
theorem region_round {P : Program} {ops : Array Oper} {Q : Exit → Act → World → Prop} {S : World → Prop} {l n id : Nat} {a : Act} {w : World} (hm : P.follows .mixedOrders = true) (hL : ¬ LetsOut Q)
    (hd : (List.range ops.size).all (fun j => match ops[j]? with | some o => (match o.op with | .defer _ => false | _ => true) | none => true) = true) (hS : S w.drew)
    (h : S w.drew → wpAnyH P .any ops Q S ops.size (Array.replicate ops.size false) a w.drew) : (Code.region id ops true).wpIn (Fence.wide.inRound l) n P Q a w := by
  refine wpIn_region_any hm (anyIn hL ?_ _ _ _ _ (wpAny_of_held _ _ _ _ (h hS)))
  intro j o ho c e
  have hj : j < ops.size := (Array.getElem?_eq_some_iff.1 ho).1
  have := List.all_eq_true.1 hd j (List.mem_range.2 hj)
  rw [ho] at this
  simp [e] at this

end Go.Proofs.YtogfkfkejaiecaaGreatDoor.Dj

namespace Go.Proofs.YtogfkfkejaiecaaGreatDoor.Dk
open Go.RowKit Go.Shelf Pl Ut Da Db Dc Dd De Dg Dh Di Go.Proofs.YtogfkfkejaiecaaGreatDoorW.PrintWords
set_option linter.unusedVariables false
set_option linter.unusedSimpArgs false

/-- A row that lies at a place of its own below what is written; or it is empty. -/
def LiesA (w : World) (B0 : Nat) (A : Option Addr) (xs : List Nat) : Prop := xs = [] ∨ ∃ b o, A = some ⟨b, o, none⟩ ∧ b < B0 ∧ ∀ (k x : Nat), xs[k]? = some x → w.cell? ⟨b, o + k, none⟩ = some (.int .i64 (x : Int))
theorem LiesA.lies {w : World} {B0 : Nat} {A : Option Addr} {xs : List Nat} (h : LiesA w B0 A xs) : Lies w B0 A xs := fun k x hx => by
  rcases h with rfl | ⟨b, o, rfl, hb, hc⟩
  · cases hx
  · exact ⟨_, rfl, hb, by rw [add_at]; exact hc k x hx⟩
theorem LiesA.below {w w' : World} {B0 : Nat} {A : Option Addr} {xs : List Nat} (h : LiesA w B0 A xs) (hb : Below B0 w w') : LiesA w' B0 A xs := by
  rcases h with rfl | ⟨b, o, rfl, hlt, hc⟩
  · exact .inl rfl
  · exact .inr ⟨b, o, rfl, hlt, fun k x hx => (hb.cell (p := ⟨b, o + k, none⟩) hlt).trans (hc k x hx)⟩
theorem LiesA.up {w : World} {B0 B1 : Nat} {A : Option Addr} {xs : List Nat} (h : LiesA w B0 A xs) (hb : B0 ≤ B1) : LiesA w B1 A xs := by
  rcases h with rfl | ⟨b, o, rfl, hlt, hc⟩
  · exact .inl rfl
  · exact .inr ⟨b, o, rfl, Nat.lt_of_lt_of_le hlt hb, hc⟩
/-- A part of a row. -/
theorem LiesA.cut {w : World} {B0 : Nat} {A : Option Addr} {xs : List Nat} {c i j : Nat} (h : LiesA w B0 A xs) (hij : i ≤ j) (hj : j ≤ xs.length) (hc : xs.length ≤ c) : LiesA w B0 (if c = i then A else A.map (·.add i)) (cutL xs i j) := by
  rcases Nat.eq_or_lt_of_le hij with e | hlt
  · left; unfold cutL; rw [e, Nat.sub_self, List.take_zero]
  · rcases h with rfl | ⟨b, o, rfl, hb, hcl⟩
    · simp at hj; omega
    · right
      have hne : c ≠ i := by omega
      refine ⟨b, o + i, by rw [if_neg hne]; simp [add_at], hb, fun k x hx => ?_⟩
      unfold cutL at hx
      rw [List.getElem?_take] at hx
      split at hx
      · rw [List.getElem?_drop] at hx
        rw [Nat.add_assoc]; exact hcl _ _ hx
      · cases hx
theorem LiesA.of_R {w w' : World} {base : Nat} {ok : Nat → Prop} {v : Value} {xs : List Nat} (h : kNat.R 3 w base ok v xs) : ∃ A c, v = .slice A xs.length c ∧ xs.length ≤ c ∧ LiesA w w.heap.size A xs := by
  obtain ⟨A, c, rfl, hc, hC⟩ := Kd.R_reads h
  refine ⟨A, c, rfl, hc, ?_⟩
  cases xs with
  | nil => exact .inl rfl
  | cons x r =>
    obtain ⟨g, cap, e, _, hlt, _⟩ := Kd.R_form h (by simp)
    cases e
    refine .inr ⟨g, 0, rfl, hlt, fun k y hy => ?_⟩
    obtain ⟨ad, e2, hcell⟩ := at_nat hC k (List.getElem?_eq_some_iff.1 hy).1 y hy
    cases e2
    rw [add_plain] at hcell
    rw [Nat.zero_add]; exact hcell

theorem equal_any (x y : List Nat) (A A' : Option Addr) (c c' : Nat) (w : World) (hx : LiesA w w.heap.size A x) (hy : LiesA w w.heap.size A' y) (lx : x.length ≤ 1000000) (ly : y.length ≤ 1000000) :
    Calls Tryz.prog 135 #[.slice A x.length c, .slice A' y.length c'] w fun e w' => e = .returned (.bool (decide (x = y))) ∧ ∃ m, w' = w.drewN m := by
  by_cases hl : x.length = y.length
  · rcases hx with rfl | ⟨b, o, rfl, hb, hc⟩
    · have : y = [] := List.length_eq_zero_iff.1 hl.symm
      subst this
      exact (Tryz.slices_Equal_int_empty A A' c 0 c' w (by omega)).mono fun e w' ⟨he, hw⟩ => ⟨by rw [he]; rfl, 0, hw⟩
    · rcases hy with rfl | ⟨b', o', rfl, hb', hc'⟩
      · have : x = [] := List.length_eq_zero_iff.1 hl
        subst this
        exact (Tryz.slices_Equal_int_empty (some ⟨b, o, none⟩) A' c 0 c' w (by omega)).mono fun e w' ⟨he, hw⟩ => ⟨by rw [he]; rfl, 0, hw⟩
      · have h := Tryz.slices_Equal_int b o x.length c b' o' y.length c' (x.map (fun n : Nat => (n : Int))) (y.map (fun n : Nat => (n : Int))) w (by simp) (by simp) (by omega) (by omega)
          (fun j hj => by
            rw [List.length_map] at hj
            rw [hc j x[j] (List.getElem?_eq_getElem hj)]
            simp [List.getD, List.getElem?_eq_getElem hj])
          (fun j hj => by
            rw [List.length_map] at hj
            rw [hc' j y[j] (List.getElem?_eq_getElem hj)]
            simp [List.getD, List.getElem?_eq_getElem hj])
        refine h.mono fun e w' ⟨he, hw⟩ => ⟨?_, hw⟩
        rw [he]
        congr 2
        rw [List.take_of_length_le (by simp), List.take_of_length_le (by simp), Bool.eq_iff_iff, beq_iff_eq, decide_eq_true_eq]
        constructor
        · intro h
          exact (List.map_inj_right (fun a b h => by omega)).1 h
        · rintro rfl; rfl
  · exact (Tryz.slices_Equal_int_lens A A' x.length c y.length c' w hl).mono fun e w' ⟨he, hw⟩ => ⟨by rw [he]; simp; intro h; exact hl (by rw [h]), 0, hw⟩

theorem LiesA.drewN {w : World} {B0 : Nat} {A : Option Addr} {xs : List Nat} (h : LiesA w B0 A xs) (m : Nat) : LiesA (w.drewN m) B0 A xs := h.below (pw_below_drewN (Below.refl _ _) m)

set_option maxRecDepth 100000 in
set_option maxHeartbeats 8000000 in
theorem kind_any (x y z : List Nat) (A1 A2 A3 : Option Addr) (c1 c2 c3 : Nat) (w : World) (hx : LiesA w w.heap.size A1 x) (hy : LiesA w w.heap.size A2 y) (hz : LiesA w w.heap.size A3 z)
    (lx : x.length ≤ 1000000) (ly : y.length ≤ 1000000) (lz : z.length ≤ 1000000) :
    Calls Tryz.prog 122 #[.slice A1 x.length c1, .slice A2 y.length c2, .slice A3 z.length c3] w fun e w' => e = .returned (.int .i64 (kindL x y z : Nat)) ∧ ∃ m, w' = w.drewN m := by
  obtain ⟨b1, hb1⟩ : ∃ b, b = decide (x = y) := ⟨_, rfl⟩
  obtain ⟨b2, hb2⟩ : ∃ b, b = decide (x = z) := ⟨_, rfl⟩
  obtain ⟨b3, hb3⟩ : ∃ b, b = decide (y = z) := ⟨_, rfl⟩
  have k1 : ∀ m, Calls Tryz.prog 135 #[.slice A1 x.length c1, .slice A2 y.length c2] (w.drewN m) fun e w' => e = .returned (.bool b1) ∧ ∃ m, w' = w.drewN m := fun m => by
    rw [hb1]; exact (equal_any x y A1 A2 c1 c2 (w.drewN m) (hx.drewN m) (hy.drewN m) lx ly).mono fun e w' ⟨he, k, hk⟩ => ⟨he, m + k, by rw [hk, World.drewN_drewN]⟩
  have k2 : ∀ m, Calls Tryz.prog 135 #[.slice A1 x.length c1, .slice A3 z.length c3] (w.drewN m) fun e w' => e = .returned (.bool b2) ∧ ∃ m, w' = w.drewN m := fun m => by
    rw [hb2]; exact (equal_any x z A1 A3 c1 c3 (w.drewN m) (hx.drewN m) (hz.drewN m) lx lz).mono fun e w' ⟨he, k, hk⟩ => ⟨he, m + k, by rw [hk, World.drewN_drewN]⟩
  have k3 : ∀ m, Calls Tryz.prog 135 #[.slice A2 y.length c2, .slice A3 z.length c3] (w.drewN m) fun e w' => e = .returned (.bool b3) ∧ ∃ m, w' = w.drewN m := fun m => by
    rw [hb3]; exact (equal_any y z A2 A3 c2 c3 (w.drewN m) (hy.drewN m) (hz.drewN m) ly lz).mono fun e w' ⟨he, k, hk⟩ => ⟨he, m + k, by rw [hk, World.drewN_drewN]⟩
  have HK : Hid (kindL x y z = if b1 then (if b2 then 0 else 2) else if b2 then 1 else if b3 then 3 else 4) := Lib.hid (by unfold kindL; rw [hb1, hb2, hb3]; simp only [decide_eq_true_eq])
  have K1 := Lib.hid k1
  have K2 := Lib.hid k2
  have K3 := Lib.hid k3
  clear k1 k2 k3 hb1 hb2 hb3 hx hy hz
  rw [HK.out]
  go_enter Tryz.func122, Tryz.ntmps122
  go_wp2_with fail
  refine (K1.out 0).mono ?_
  rintro e w' ⟨rfl, m1, rfl⟩
  go_wp2_with fail
  refine (K2.out m1).mono ?_
  rintro e w' ⟨rfl, m2, rfl⟩
  cases b1 <;> cases b2
  · go_wp2_with fail
    refine (K3.out m2).mono ?_
    rintro e w' ⟨rfl, m3, rfl⟩
    cases b3
    · go_wp2
      go_ret
      exact ⟨rfl, _, rfl⟩
    · go_wp2
      go_ret
      exact ⟨rfl, _, rfl⟩
  · go_wp2
    go_ret
    exact ⟨rfl, _, rfl⟩
  · go_wp2
    go_ret
    exact ⟨rfl, _, rfl⟩
  · go_wp2
    go_ret
    exact ⟨rfl, _, rfl⟩

end Go.Proofs.YtogfkfkejaiecaaGreatDoor.Dk

namespace Go.Proofs.YtogfkfkejaiecaaGreatDoor.Dl
open Go.RowKit Go.Shelf Pl Ut Da Db Dc Dd De Dg Dh Di Dj Dk Go.Proofs.YtogfkfkejaiecaaGreatDoorW.PrintWords
set_option linter.unusedVariables false
set_option linter.unusedSimpArgs false
attribute [local go_sem] Oper.semAt_some

/-- Chunks, as a kind. -/
def kSpan : Kd (Nat × Nat) := Kd.pair kNat kNat
def kCk : Kd Ck := Kd.iso (Kd.pair kNat (Kd.pair kSpan (Kd.pair kSpan kSpan))) (fun c : Ck => (c.kind, (c.o1, c.o2), (c.a1, c.a2), (c.b1, c.b2)))
def ckCells (c : Ck) : List Value := [.int .i64 (c.kind : Int), .int .i64 (c.o1 : Int), .int .i64 (c.o2 : Int), .int .i64 (c.a1 : Int), .int .i64 (c.a2 : Int), .int .i64 (c.b1 : Int), .int .i64 (c.b2 : Int)]
theorem kSpan_open {w : World} {x : Nat × Nat} {cs : List Value} (h : kSpan.K w x cs) : cs = [.int .i64 (x.1 : Int), .int .i64 (x.2 : Int)] := by
  obtain ⟨_, _, rfl, rfl, rfl⟩ := h
  exact rfl
theorem kSpan_mk (w : World) (base : Nat) (ok : Nat → Prop) (x : Nat × Nat) : kSpan.M w base ok x [.int .i64 (x.1 : Int), .int .i64 (x.2 : Int)] := ⟨[.int .i64 (x.1 : Int)], [.int .i64 (x.2 : Int)], rfl, rfl, rfl⟩
theorem kCk_open {w : World} {x : Ck} {cs : List Value} (h : kCk.K w x cs) : cs = ckCells x := by
  obtain ⟨_, _, rfl, rfl, ⟨_, _, rfl, h1, ⟨_, _, rfl, h2, h3⟩⟩⟩ := h
  rw [kSpan_open h1, kSpan_open h2, kSpan_open h3]
  rfl
theorem kCk_mk (w : World) (base : Nat) (ok : Nat → Prop) (x : Ck) : kCk.M w base ok x (ckCells x) :=
  ⟨[.int .i64 (x.kind : Int)], [.int .i64 (x.o1 : Int), .int .i64 (x.o2 : Int), .int .i64 (x.a1 : Int), .int .i64 (x.a2 : Int), .int .i64 (x.b1 : Int), .int .i64 (x.b2 : Int)], rfl, rfl,
    ⟨[.int .i64 (x.o1 : Int), .int .i64 (x.o2 : Int)], [.int .i64 (x.a1 : Int), .int .i64 (x.a2 : Int), .int .i64 (x.b1 : Int), .int .i64 (x.b2 : Int)], rfl, kSpan_mk w base ok (x.o1, x.o2),
      ⟨[.int .i64 (x.a1 : Int), .int .i64 (x.a2 : Int)], [.int .i64 (x.b1 : Int), .int .i64 (x.b2 : Int)], rfl, kSpan_mk w base ok (x.a1, x.a2), kSpan_mk w base ok (x.b1, x.b2)⟩⟩⟩
theorem infoCk : (Tryz.prog.info? 99).map (fun i => (i.zero, i.size, i.bytes)) = some (some (.agg #[.int .i64 0, .int .i64 0, .int .i64 0, .int .i64 0, .int .i64 0, .int .i64 0, .int .i64 0]), 7, 56) := by kernel_rfl

set_option maxRecDepth 100000 in
set_option maxHeartbeats 8000000 in
theorem chunks_any (A1 A2 A3 : Option Addr) (n1 c1 n2 c2 n3 c3 : Nat) (w : World) :
    Calls Tryz.prog 121 #[.slice A1 n1 c1, .slice A2 n2 c2, .slice A3 n3 c3] w fun e w' =>
      e = .returned (.func (.func 131) #[] #[.pointer (some ⟨w.heap.size, 0, none⟩), .pointer (some ⟨w.heap.size + 1, 0, none⟩), .pointer (some ⟨w.heap.size + 2, 0, none⟩)]) ∧
      w' = ((w.alloc (.cells #[.slice A1 n1 c1] 130)).alloc (.cells #[.slice A2 n2 c2] 130)).alloc (.cells #[.slice A3 n3 c3] 130) := by
  go_enter Tryz.func121, Tryz.ntmps121
  go_wp2
  go_ret
  exact ⟨rfl, rfl⟩

theorem chunkGo_facts (o a b : List Nat) : ∀ (f p q s : Nat), AtC o a b p q s → (chunkGo o a b f p q s).length ≤ f ∧ ∀ c ∈ chunkGo o a b f p q s, c.o1 ≤ c.o2 ∧ c.o2 ≤ o.length ∧ c.a1 ≤ c.a2 ∧ c.a2 ≤ a.length ∧ c.b1 ≤ c.b2 ∧ c.b2 ≤ b.length ∧ c.kind = kindL (cutL o c.o1 c.o2) (cutL a c.a1 c.a2) (cutL b c.b1 c.b2)
  | 0, p, q, s, _ => ⟨Nat.le_refl _, fun c hc => by cases hc⟩
  | f + 1, p, q, s, h => by
    unfold chunkGo
    split
    · exact ⟨by simp, fun c hc => by cases hc⟩
    · rename_i hne
      obtain ⟨t, ht, h2, h3, h4, h5, _⟩ := stepC_at h hne
      obtain ⟨i1, i2⟩ := chunkGo_facts o a b f t.1 t.2.1 t.2.2 h2
      simp only [← ht]
      refine ⟨by simpa using i1, fun c hc => ?_⟩
      rcases List.mem_cons.1 hc with rfl | hc
      · exact ⟨h3, h2.po, h4, h2.qa, h5, h2.sb, rfl⟩
      · exact i2 c hc
theorem chunksL_facts (o a b : List Nat) : (chunksL o a b).length ≤ o.length + a.length + b.length ∧ ∀ c ∈ chunksL o a b, c.o1 ≤ c.o2 ∧ c.o2 ≤ o.length ∧ c.a1 ≤ c.a2 ∧ c.a2 ≤ a.length ∧ c.b1 ≤ c.b2 ∧ c.b2 ≤ b.length ∧ c.kind = kindL (cutL o c.o1 c.o2) (cutL a c.a1 c.a2) (cutL b c.b1 c.b2) :=
  chunkGo_facts o a b _ 0 0 0 (AtC.start o a b)
theorem cutL_length {α : Type} (l : List α) (i j : Nat) (hj : j ≤ l.length) : (cutL l i j).length = j - i := by
  unfold cutL; rw [List.length_take, List.length_drop]; omega
theorem cut_mid (A : Option Addr) (n c p q : Nat) (h1 : p ≤ q) (h2 : q ≤ n) (h3 : n ≤ c) (W : World) :
    (Instr.slice 130 (.slice A n c) (some (.int .i64 (p : Int))) (some (.int .i64 (q : Int))) none).run Tryz.prog W = .ok (.slice (if c = p then A else A.map (·.add p)) (q - p) (c - p)) W := by
  obtain ⟨i0, hi, _, hz1, _⟩ := info_parts infoInt
  have hel : Tryz.prog.elem 130 = 3 := by simp [Program.elem, Tryz.underlying130]
  have hu : Tryz.prog.underlying 130 = some (.slice (Tryz.prog.elem 130)) := by rw [hel]; exact Tryz.underlying130
  rw [run_slice_lh W 130 A n c hu .i64 .i64 (p : Int) (q : Int) (by omega) (by omega) (by omega), hel]
  simp [sizeOf, typeInfo, hi, hz1, sliced, Result.andThen]
/-- What stands between two rounds. -/
def IC (w w1 : World) (pre : List Ck) (W : World) : Prop :=
  ∃ v, W.heap[w.heap.size + 3]? = some (.cells #[v] 94 (0, 0)) ∧ kCk.R 99 W (w.heap.size + 7) (fun _ => True) v pre ∧ Below w.heap.size w W ∧ Below (w.heap.size + 3) w1 W ∧ w.heap.size + 7 ≤ W.heap.size
theorem IC.own (w w1 : World) (B : Nat) (hB : w.heap.size + 7 ≤ B) : OwnC B 173 (IC w w1) := by
  rintro s A C row ⟨v, h1, h2, h3, h4, h5⟩ hg hr
  have far : ∀ (k : Nat) (c : Array Value) (t : TypeId) (f : Nat × Nat), A.heap[k]? = some (.cells c t f) → t ≠ 173 → C.heap[k]? = some (.cells c t f) := fun k c t f hk ht => by
    refine (hg.block k (blk_lt hk) fun e => ?_).trans hk
    rcases (hr k e.symm).2 with ⟨c', f', h'⟩ | ⟨o, h', ho⟩
    · rw [hk] at h'; cases h'; exact ht rfl
    · rw [hk] at h'; cases h'; cases ho
  refine ⟨v, far _ _ _ _ h1 (by decide), ?_, h3.grown hg (by omega) (fun k e => by have := (hr k e).1; omega), h4.grown hg (by omega) (fun k e => by have := (hr k e).1; omega), Nat.le_trans h5 hg.size⟩
  refine Kd.R_mono (Kd.R_move (Kd.R_bound h2) (fun k hk => ?_)) (fun _ hk => hk.1)
  obtain ⟨_, _, hl, q, hq, cells, hc⟩ := hk
  have hqn : q ≠ 173 := by
    rcases List.mem_cons.1 hq with rfl | hq
    · decide
    · cases hq
  rw [far k _ _ _ hc hqn, hc]
/-- The frame of a round. -/
def AxC (w : World) (A1 A2 A3 : Option Addr) (n1 c1 n2 c2 n3 c3 : Nat) (x : Ck) (a' : Act) (W : World) : Prop :=
  ∃ Bf Bt : Nat, W.heap[Bf]? = some (.cells (ends3 x.o1 x.a1 x.b1) 173 (0, 0)) ∧ W.heap[Bt]? = some (.cells (ends3 x.o2 x.a2 x.b2) 173 (0, 0)) ∧
    a' = { tmps := #[.slice A1 n1 c1, .slice A2 n2 c2, .slice A3 n3 c3, .pointer (some ⟨w.heap.size, 0, none⟩), .pointer (some ⟨w.heap.size + 1, 0, none⟩), .pointer (some ⟨w.heap.size + 2, 0, none⟩), .slice none 0 0, .pointer (some ⟨w.heap.size + 3, 0, none⟩),
      .pointer (some ⟨Bf, 0, none⟩), .pointer (some ⟨Bt, 0, none⟩), .slice A1 n1 c1, .slice A2 n2 c2, .slice A3 n3 c3, .func (.func 131) #[] #[.pointer (some ⟨w.heap.size + 4, 0, none⟩), .pointer (some ⟨w.heap.size + 5, 0, none⟩), .pointer (some ⟨w.heap.size + 6, 0, none⟩)],
      .agg (ends3 x.o1 x.a1 x.b1), .agg (ends3 x.o2 x.a2 x.b2), undef, undef, undef, undef, undef, undef, undef, undef, undef, undef, undef, undef, undef, undef, undef, undef, undef, undef, undef, undef, undef, undef, undef, undef, undef, undef, undef, undef, undef, undef, undef, undef, undef, undef, undef, undef, undef, undef, undef], defers := [] }
theorem AxC.put {w : World} {A1 A2 A3 : Option Addr} {n1 c1 n2 c2 n3 c3 : Nat} (x : Ck) (a' : Act) (W : World) (l : Nat) (o o' : Obj) (h : AxC w A1 A2 A3 n1 c1 n2 c2 n3 c3 x a' W) (hl : W.heap[l]? = some o) (ho : o.isCells = false) : AxC w A1 A2 A3 n1 c1 n2 c2 n3 c3 x a' (W.putObj l o') := by
  obtain ⟨Bf, Bt, h1, h2, h3⟩ := h
  have ne : ∀ (k : Nat) (c : Array Value) (t : TypeId) (f : Nat × Nat), W.heap[k]? = some (.cells c t f) → k ≠ l := fun k c t f hk e => by
    subst e; rw [hl] at hk; cases hk; cases ho
  exact ⟨Bf, Bt, (World.putObj_heap_other (ne _ _ _ _ h1)).trans h1, (World.putObj_heap_other (ne _ _ _ _ h2)).trans h2, h3⟩

theorem round_end {w W0 W w1 : World} {pre : List Ck} {x : Ck} {v : Value} {V1 : Option Addr} {N1 C1 m : Nat} {a : Act} (hv : W.heap[w.heap.size + 3]? = some (.cells #[v] 94 (0, 0))) (hR : kCk.R 99 W (w.heap.size + 7) (fun _ => True) v pre)
    (hBw : Below w.heap.size w W) (hB1 : Below (w.heap.size + 3) W0 W) (hsz : w.heap.size + 7 ≤ W.heap.size) (hR1 : kCk.R 99 w1 (w.heap.size + 7) (fun _ => True) (.slice V1 N1 C1) (pre ++ [x])) (hb1 : Below (w.heap.size + 7) (W.drewN m) w1)
    (hg1 : (W.drewN m).grownBy w1 v.ownBlock) (hat1 : (Value.slice V1 N1 C1).ownBlock = v.ownBlock ∨ ∃ b, (Value.slice V1 N1 C1).ownBlock = some b ∧ (W.drewN m).heap.size ≤ b) (e3 : w1.heap[w.heap.size + 3]? = some (.cells #[v] 94 (0, 0))) :
    Exit.inBlock 1 (Dh.roundPost (w.heap.size + 7) KpC (IC w W0) (pre ++ [x]) W) .normal a (w1.setCell ⟨w.heap.size + 3, 0, none⟩ (.slice V1 N1 C1)) := by
  have hrow : ∀ (k : Nat) (c : Array Value) (t : TypeId) (f : Nat × Nat), W.heap[k]? = some (.cells c t f) → t ≠ 99 → w1.heap[k]? = some (.cells c t f) := fun k c t f hk ht => by
    refine (hg1.block k (blk_lt (w := W.drewN m) hk) fun e => ?_).trans hk
    obtain ⟨cells', hc⟩ := Kd.R_typed hR k e.symm
    rw [hk] at hc; cases hc; exact ht rfl
  have hoth : ∀ (k : Nat) (o : Obj), W.heap[k]? = some o → o.isCells = false → w1.heap[k]? = some o := fun k o hk ho => by
    refine (hg1.block k (blk_lt (w := W.drewN m) hk) fun e => ?_).trans hk
    obtain ⟨cells', hc⟩ := Kd.R_typed hR k e.symm
    rw [hk] at hc; cases hc; cases ho
  have far : ∀ (k : Nat) (o : Obj), w1.heap[k]? = some o → k ≠ w.heap.size + 3 → (w1.setCell ⟨w.heap.size + 3, 0, none⟩ (.slice V1 N1 C1)).heap[k]? = some o := fun k o h hne => (Below.heap_setCell _ _ _ _ hne).trans h
  refine ⟨⟨by have := hg1.size; simpa using this, fun k o hk ho hc => far _ _ (hoth k o ho hc) (fun e => by subst e; rw [hv] at ho; cases ho; cases hc)⟩, fun k c t f hk ht => ?_, _, blk_set1 e3, ?_, ?_, ?_, ?_⟩
  · have ht2 : t ≠ 99 := by rcases ht with rfl | rfl | rfl <;> decide
    refine far _ _ (hrow k c t f hk ht2) (fun e => ?_)
    subst e
    rw [hv] at hk; cases hk
    rcases ht with h | h | h <;> cases h
  · exact Kd.R_set hR1 e3 (by decide) 0 _
  · exact ((pw_below_drewN hBw m).trans (hb1.mono (show w.heap.size ≤ w.heap.size + 7 by omega))).setCell (p := ⟨w.heap.size + 3, 0, none⟩) (show w.heap.size ≤ w.heap.size + 3 by omega) _
  · exact ((pw_below_drewN hB1 m).trans (hb1.mono (show w.heap.size + 3 ≤ w.heap.size + 7 by omega))).setCell (p := ⟨w.heap.size + 3, 0, none⟩) (Nat.le_refl _) _
  · have := hg1.size
    have h2 : w.heap.size + 7 ≤ w1.heap.size := Nat.le_trans hsz this
    simpa using h2

set_option maxRecDepth 100000 in
set_option maxHeartbeats 8000000 in
theorem pchunks_any (o a b : List Nat) (A1 A2 A3 : Option Addr) (c1 c2 c3 : Nat) (w : World) (ho : LiesA w w.heap.size A1 o) (ha : LiesA w w.heap.size A2 a) (hb : LiesA w w.heap.size A3 b)
    (hc1 : o.length ≤ c1) (hc2 : a.length ≤ c2) (hc3 : b.length ≤ c3) (lo : o.length ≤ 3000) (la : a.length ≤ 3000) (lb : b.length ≤ 3000) :
    Calls Tryz.prog 100 #[.slice A1 o.length c1, .slice A2 a.length c2, .slice A3 b.length c3] w fun e w' => ∃ v, e = .returned v ∧ kCk.R 99 w' w.heap.size (fun _ => True) v (chunksL o a b) ∧ Below w.heap.size w w' := by
  have h1 : 1 ≤ 6 := by omega
  refine (callsIn_wide (n := 6)).1 ?_
  refine callsIn_of_wp_marks Tryz.func100 rfl trivial ?_ rfl
  simp only [Tryz.ntmps100, List.size_toArray, List.length_cons, List.length_nil, Nat.reduceAdd, Nat.reduceSub, Array.replicate_succ, Array.replicate_zero, List.push_toArray, List.append_toArray, List.nil_append, List.cons_append]
  gi_wp2_with (refine ⟨trivial, ?_⟩; gi_at_call 121; refine (callsIn_wide.2 (chunks_any _ _ _ _ _ _ _ _ _ _)).mono ?_; rintro e w' ⟨rfl, rfl⟩)
  obtain ⟨W0, hW0⟩ : ∃ W0, W0 = ((((((w.alloc (.cells #[.slice A1 o.length c1] 130)).alloc (.cells #[.slice A2 a.length c2] 130)).alloc (.cells #[.slice A3 b.length c3] 130)).alloc (.cells #[.slice none 0 0] 94)).alloc (.cells #[.slice A1 o.length c1] 130)).alloc (.cells #[.slice A2 a.length c2] 130)).alloc (.cells #[.slice A3 b.length c3] 130) := ⟨_, rfl⟩
  have hB0 : Below w.heap.size w W0 := by
    rw [hW0]
    exact below_alloc (below_alloc (below_alloc (below_alloc (below_alloc (below_alloc (below_alloc (Below.refl _ _) _) _) _) _) _) _) _
  have hs0 : W0.heap.size = w.heap.size + 7 := by rw [hW0]; simp
  have hk0 : W0.heap[w.heap.size]? = some (.cells #[.slice A1 o.length c1] 130 (0, 0)) := by
    rw [hW0]; exact blk_alloc (blk_alloc (blk_alloc (blk_alloc (blk_alloc (blk_alloc (blk_new _ _) _) _) _) _) _) _
  have hk1 : W0.heap[w.heap.size + 1]? = some (.cells #[.slice A2 a.length c2] 130 (0, 0)) := by
    rw [hW0]
    refine blk_alloc (blk_alloc (blk_alloc (blk_alloc (blk_alloc ?_ _) _) _) _) _
    have := blk_new (w.alloc (.cells #[.slice A1 o.length c1] 130)) (.cells #[.slice A2 a.length c2] 130)
    simpa using this
  have hk2 : W0.heap[w.heap.size + 2]? = some (.cells #[.slice A3 b.length c3] 130 (0, 0)) := by
    rw [hW0]
    refine blk_alloc (blk_alloc (blk_alloc (blk_alloc ?_ _) _) _) _
    have := blk_new ((w.alloc (.cells #[.slice A1 o.length c1] 130)).alloc (.cells #[.slice A2 a.length c2] 130)) (.cells #[.slice A3 b.length c3] 130)
    simpa using this
  have hk3 : W0.heap[w.heap.size + 3]? = some (.cells #[.slice none 0 0] 94 (0, 0)) := by
    rw [hW0]
    refine blk_alloc (blk_alloc (blk_alloc ?_ _) _) _
    have := blk_new (((w.alloc (.cells #[.slice A1 o.length c1] 130)).alloc (.cells #[.slice A2 a.length c2] 130)).alloc (.cells #[.slice A3 b.length c3] 130)) (.cells #[.slice none 0 0] 94)
    simpa using this
  have hk4 : W0.heap[w.heap.size + 4]? = some (.cells #[.slice A1 o.length c1] 130 (0, 0)) := by
    rw [hW0]
    refine blk_alloc (blk_alloc ?_ _) _
    have := blk_new ((((w.alloc (.cells #[.slice A1 o.length c1] 130)).alloc (.cells #[.slice A2 a.length c2] 130)).alloc (.cells #[.slice A3 b.length c3] 130)).alloc (.cells #[.slice none 0 0] 94)) (.cells #[.slice A1 o.length c1] 130)
    simpa using this
  have hk5 : W0.heap[w.heap.size + 5]? = some (.cells #[.slice A2 a.length c2] 130 (0, 0)) := by
    rw [hW0]
    refine blk_alloc ?_ _
    have := blk_new (((((w.alloc (.cells #[.slice A1 o.length c1] 130)).alloc (.cells #[.slice A2 a.length c2] 130)).alloc (.cells #[.slice A3 b.length c3] 130)).alloc (.cells #[.slice none 0 0] 94)).alloc (.cells #[.slice A1 o.length c1] 130)) (.cells #[.slice A2 a.length c2] 130)
    simpa using this
  have hk6 : W0.heap[w.heap.size + 6]? = some (.cells #[.slice A3 b.length c3] 130 (0, 0)) := by
    rw [hW0]
    have := blk_new ((((((w.alloc (.cells #[.slice A1 o.length c1] 130)).alloc (.cells #[.slice A2 a.length c2] 130)).alloc (.cells #[.slice A3 b.length c3] 130)).alloc (.cells #[.slice none 0 0] 94)).alloc (.cells #[.slice A1 o.length c1] 130)).alloc (.cells #[.slice A2 a.length c2] 130)) (.cells #[.slice A3 b.length c3] 130)
    simpa using this
  rw [← hW0]
  clear hW0
  have hz : w.heap.size ≤ W0.heap.size := hB0.size
  refine rangeFunc_cells (te := 173) rfl h1 (gf := 131) (lb := #[.pointer (some ⟨w.heap.size + 4, 0, none⟩), .pointer (some ⟨w.heap.size + 5, 0, none⟩), .pointer (some ⟨w.heap.size + 6, 0, none⟩)]) rfl trivial (enters_of Tryz.func131 (by kernel_rfl) rfl)
    (chunks1_all 5 (by omega) o a b (w.heap.size + 4) (w.heap.size + 5) (w.heap.size + 6) A1 A2 A3 c1 c2 c3 W0 ((ho.below hB0).up hz).lies ((ha.below hB0).up hz).lies ((hb.below hB0).up hz).lies (by rw [blk_cell hk4]; rfl) (by rw [blk_cell hk5]; rfl) (by rw [blk_cell hk6]; rfl) lo la lb)
    KpC.t KpC.b (Below.refl _ _) (fun _ => rfl) (IC w W0) (IC.own w W0 _ (by omega)) ⟨_, hk3, Kd.R_nil _ _ _ _ _, hB0, Below.refl _ _, by omega⟩ (AxC w A1 A2 A3 o.length c1 a.length c2 b.length c3) AxC.put ?assign ?body ?done
  case assign =>
    intro l pre x W K hI hK
    unfold encC ends3
    gi_wp2
    have g1 : Below W.heap.size W (W.alloc (.cells #[.int .i64 (x.o1 : Int), .int .i64 (x.a1 : Int), .int .i64 (x.b1 : Int)] 173)) := (Below.refl _ _).alloc (Nat.le_refl _) _
    refine hK _ _ (((KeepsOthers.alloc _ _).trans (KeepsOthers.alloc _ _)).from _) (fun k c t f hk _ => blk_alloc (blk_alloc hk _) _) ?_ ⟨W.heap.size, W.heap.size + 1, blk_alloc (blk_new _ _) _, blk_new1 _ _ _, rfl⟩
    exact (IC.own w W0 W0.heap.size (by omega)).alloc _ ((IC.own w W0 W0.heap.size (by omega)).alloc _ hI)
  case body =>
    rintro l pre x a' W hI ⟨Bf, Bt, hf, ht, rfl⟩ hpre
    gi_wp2
    obtain ⟨v, hv, hR, hBw, hB1, hsz⟩ := hI
    obtain ⟨hlen, hall⟩ := chunksL_facts o a b
    have hmem : x ∈ chunksL o a b := by obtain ⟨r, hr⟩ := hpre; rw [← hr]; simp
    have hpl : pre.length + 1 ≤ 9000 := by
      have := hpre.length_le
      rw [List.length_append, List.length_singleton] at this
      omega
    obtain ⟨x1, x2, x3, x4, x5, x6, x7⟩ := hall x hmem
    have X7 := Lib.hid x7
    clear x7 hall
    have m3 : W.cell? ⟨w.heap.size, 0, none⟩ = some (.slice A1 o.length c1) := (hB1.cell (p := ⟨w.heap.size, 0, none⟩) (show w.heap.size < w.heap.size + 3 by omega)).trans (by rw [blk_cell hk0]; rfl)
    have m4 : W.cell? ⟨w.heap.size + 1, 0, none⟩ = some (.slice A2 a.length c2) := (hB1.cell (p := ⟨w.heap.size + 1, 0, none⟩) (show w.heap.size + 1 < w.heap.size + 3 by omega)).trans (by rw [blk_cell hk1]; rfl)
    have m5 : W.cell? ⟨w.heap.size + 2, 0, none⟩ = some (.slice A3 b.length c3) := (hB1.cell (p := ⟨w.heap.size + 2, 0, none⟩) (show w.heap.size + 2 < w.heap.size + 3 by omega)).trans (by rw [blk_cell hk2]; rfl)
    have mv : W.cell? ⟨w.heap.size + 3, 0, none⟩ = some v := by rw [blk_cell hv]; rfl
    have f0 : W.cell? ⟨Bf, 0, none⟩ = some (.int .i64 (x.o1 : Int)) := by rw [blk_cell hf]; rfl
    have f1 : W.cell? ⟨Bf, 1, none⟩ = some (.int .i64 (x.a1 : Int)) := by rw [blk_cell hf]; rfl
    have f2 : W.cell? ⟨Bf, 2, none⟩ = some (.int .i64 (x.b1 : Int)) := by rw [blk_cell hf]; rfl
    have t0 : W.cell? ⟨Bt, 0, none⟩ = some (.int .i64 (x.o2 : Int)) := by rw [blk_cell ht]; rfl
    have t1 : W.cell? ⟨Bt, 1, none⟩ = some (.int .i64 (x.a2 : Int)) := by rw [blk_cell ht]; rfl
    have t2 : W.cell? ⟨Bt, 2, none⟩ = some (.int .i64 (x.b2 : Int)) := by rw [blk_cell ht]; rfl
    obtain ⟨Z1, hZ1⟩ : ∃ Z1, Z1 = if c1 = x.o1 then A1 else A1.map (·.add x.o1) := ⟨_, rfl⟩
    obtain ⟨Z2, hZ2⟩ : ∃ Z2, Z2 = if c2 = x.a1 then A2 else A2.map (·.add x.a1) := ⟨_, rfl⟩
    obtain ⟨Z3, hZ3⟩ : ∃ Z3, Z3 = if c3 = x.b1 then A3 else A3.map (·.add x.b1) := ⟨_, rfl⟩
    have q1 := fun W => cut_mid A1 o.length c1 x.o1 x.o2 x1 x2 hc1 W
    have q2 := fun W => cut_mid A2 a.length c2 x.a1 x.a2 x3 x4 hc2 W
    have q3 := fun W => cut_mid A3 b.length c3 x.b1 x.b2 x5 x6 hc3 W
    rw [← hZ1] at q1
    rw [← hZ2] at q2
    rw [← hZ3] at q3
    unfold ends3
    refine region_round (S := fun w' => (w'.cell? ⟨w.heap.size, 0, none⟩ = some (.slice A1 o.length c1) ∧ w'.cell? ⟨w.heap.size + 1, 0, none⟩ = some (.slice A2 a.length c2) ∧ w'.cell? ⟨w.heap.size + 2, 0, none⟩ = some (.slice A3 b.length c3)) ∧
      (w'.cell? ⟨Bf, 0, none⟩ = some (.int .i64 (x.o1 : Int)) ∧ w'.cell? ⟨Bf, 1, none⟩ = some (.int .i64 (x.a1 : Int)) ∧ w'.cell? ⟨Bf, 2, none⟩ = some (.int .i64 (x.b1 : Int))) ∧
      (w'.cell? ⟨Bt, 0, none⟩ = some (.int .i64 (x.o2 : Int)) ∧ w'.cell? ⟨Bt, 1, none⟩ = some (.int .i64 (x.a2 : Int)) ∧ w'.cell? ⟨Bt, 2, none⟩ = some (.int .i64 (x.b2 : Int)))) (by kernel_rfl) (by rintro ⟨_, _, h⟩; exact h) (by rfl) ⟨⟨m3, m4, m5⟩, ⟨f0, f1, f2⟩, ⟨t0, t1, t2⟩⟩ (fun hHeld => ?_)
    -- TAKES BEGIN
    have hvt : v = v := rfl
    have hbx : ∀ W', Below W.heap.size W W' → W'.heap[w.heap.size + 3]? = some (.cells #[v] 94 (0, 0)) := fun W' h => blk_below hv h
    have hk0w : W.heap[w.heap.size]? = some (.cells #[.slice A1 o.length c1] 130 (0, 0)) := (hB1.block _ (by omega)).trans hk0
    have hk1w : W.heap[w.heap.size + 1]? = some (.cells #[.slice A2 a.length c2] 130 (0, 0)) := (hB1.block _ (by omega)).trans hk1
    have hk2w : W.heap[w.heap.size + 2]? = some (.cells #[.slice A3 b.length c3] 130 (0, 0)) := (hB1.block _ (by omega)).trans hk2
    refine wpAnyH_take (i := 1) (v := ?_) rfl (by kernel_rfl) (by kernel_rfl) (by kernel_rfl) (fun _ _ _ h => h) (Or.inl ⟨by rfl, ?_⟩) hHeld ?_
    rotate_left
    · intro w' hSw
      go_split_ands
      go_simp
      try (with_reducible rfl)
    try simp only [Act.put, List.setIfInBounds_toArray, List.set_cons_zero, List.set_cons_succ]
    refine wpAnyH_take (i := 2) (v := ?_) rfl (by kernel_rfl) (by kernel_rfl) (by kernel_rfl) (fun _ _ _ h => h) (Or.inl ⟨by rfl, ?_⟩) hHeld ?_
    rotate_left
    · intro w' hSw
      go_split_ands
      go_simp
      try (with_reducible rfl)
    try simp only [Act.put, List.setIfInBounds_toArray, List.set_cons_zero, List.set_cons_succ]
    refine wpAnyH_take (i := 3) (v := ?_) rfl (by kernel_rfl) (by kernel_rfl) (by kernel_rfl) (fun _ _ _ h => h) (Or.inl ⟨by rfl, ?_⟩) hHeld ?_
    rotate_left
    · intro w' hSw
      go_split_ands
      go_simp
      try (with_reducible rfl)
    try simp only [Act.put, List.setIfInBounds_toArray, List.set_cons_zero, List.set_cons_succ]
    refine wpAnyH_take (i := 4) (v := ?_) rfl (by kernel_rfl) (by kernel_rfl) (by kernel_rfl) (fun _ _ _ h => h) (Or.inl ⟨by rfl, ?_⟩) hHeld ?_
    rotate_left
    · intro w' hSw
      go_split_ands
      go_simp
      try (with_reducible rfl)
    try simp only [Act.put, List.setIfInBounds_toArray, List.set_cons_zero, List.set_cons_succ]
    refine wpAnyH_take (i := 5) (v := ?_) rfl (by kernel_rfl) (by kernel_rfl) (by kernel_rfl) (fun _ _ _ h => h) (Or.inl ⟨by rfl, ?_⟩) hHeld ?_
    rotate_left
    · intro w' hSw
      go_split_ands
      go_simp
      try (with_reducible rfl)
    try simp only [Act.put, List.setIfInBounds_toArray, List.set_cons_zero, List.set_cons_succ]
    refine wpAnyH_take (i := 6) (v := ?_) rfl (by kernel_rfl) (by kernel_rfl) (by kernel_rfl) (fun _ _ _ h => h) (Or.inl ⟨by rfl, ?_⟩) hHeld ?_
    rotate_left
    · intro w' hSw
      go_split_ands
      go_simp
      try (with_reducible rfl)
    try simp only [Act.put, List.setIfInBounds_toArray, List.set_cons_zero, List.set_cons_succ]
    refine wpAnyH_take (i := 7) (v := ?_) rfl (by kernel_rfl) (by kernel_rfl) (by kernel_rfl) (fun _ _ _ h => h) (Or.inl ⟨by rfl, ?_⟩) hHeld ?_
    rotate_left
    · intro w' hSw
      go_split_ands
      go_simp
      try (with_reducible rfl)
    try simp only [Act.put, List.setIfInBounds_toArray, List.set_cons_zero, List.set_cons_succ]
    refine wpAnyH_take (i := 8) (v := ?_) rfl (by kernel_rfl) (by kernel_rfl) (by kernel_rfl) (fun _ _ _ h => h) (Or.inl ⟨by rfl, ?_⟩) hHeld ?_
    rotate_left
    · intro w' hSw
      go_split_ands
      go_simp
      try (with_reducible rfl)
    try simp only [Act.put, List.setIfInBounds_toArray, List.set_cons_zero, List.set_cons_succ]
    refine wpAnyH_take (i := 9) (v := ?_) rfl (by kernel_rfl) (by kernel_rfl) (by kernel_rfl) (fun _ _ _ h => h) (Or.inl ⟨by rfl, ?_⟩) hHeld ?_
    rotate_left
    · intro w' hSw
      go_split_ands
      go_simp
      try (with_reducible rfl)
    try simp only [Act.put, List.setIfInBounds_toArray, List.set_cons_zero, List.set_cons_succ]
    refine wpAnyH_take (i := 10) (v := ?_) rfl (by kernel_rfl) (by kernel_rfl) (by kernel_rfl) (fun _ _ _ h => h) (Or.inl ⟨by rfl, ?_⟩) hHeld ?_
    rotate_left
    · intro w' hSw
      go_split_ands
      go_simp
      try (with_reducible rfl)
    try simp only [Act.put, List.setIfInBounds_toArray, List.set_cons_zero, List.set_cons_succ]
    refine wpAnyH_take (i := 11) (v := ?_) rfl (by kernel_rfl) (by kernel_rfl) (by kernel_rfl) (fun _ _ _ h => h) (Or.inl ⟨by rfl, ?_⟩) hHeld ?_
    rotate_left
    · intro w' hSw
      go_split_ands
      go_simp
      try (with_reducible rfl)
    try simp only [Act.put, List.setIfInBounds_toArray, List.set_cons_zero, List.set_cons_succ]
    refine wpAnyH_take (i := 12) (v := ?_) rfl (by kernel_rfl) (by kernel_rfl) (by kernel_rfl) (fun _ _ _ h => h) (Or.inl ⟨by rfl, ?_⟩) hHeld ?_
    rotate_left
    · intro w' hSw
      go_split_ands
      go_simp
      try (with_reducible rfl)
    try simp only [Act.put, List.setIfInBounds_toArray, List.set_cons_zero, List.set_cons_succ]
    refine wpAnyH_take (i := 13) (v := ?_) rfl (by kernel_rfl) (by kernel_rfl) (by kernel_rfl) (fun _ _ _ h => h) (Or.inl ⟨by rfl, ?_⟩) hHeld ?_
    rotate_left
    · intro w' hSw
      go_split_ands
      go_simp
      try (with_reducible rfl)
    try simp only [Act.put, List.setIfInBounds_toArray, List.set_cons_zero, List.set_cons_succ]
    refine wpAnyH_take (i := 14) (v := ?_) rfl (by kernel_rfl) (by kernel_rfl) (by kernel_rfl) (fun _ _ _ h => h) (Or.inl ⟨by rfl, ?_⟩) hHeld ?_
    rotate_left
    · intro w' hSw
      go_split_ands
      go_simp
      try (with_reducible rfl)
    try simp only [Act.put, List.setIfInBounds_toArray, List.set_cons_zero, List.set_cons_succ]
    refine wpAnyH_take (i := 15) (v := ?_) rfl (by kernel_rfl) (by kernel_rfl) (by kernel_rfl) (fun _ _ _ h => h) (Or.inl ⟨by rfl, ?_⟩) hHeld ?_
    rotate_left
    · intro w' hSw
      go_split_ands
      go_simp
      try (with_reducible rfl)
    try simp only [Act.put, List.setIfInBounds_toArray, List.set_cons_zero, List.set_cons_succ]
    refine wpAnyH_take (i := 16) (v := ?_) rfl (by kernel_rfl) (by kernel_rfl) (by kernel_rfl) (fun _ _ _ h => h) (Or.inl ⟨by rfl, ?_⟩) hHeld ?_
    rotate_left
    · intro w' hSw
      go_split_ands
      go_simp
      try (with_reducible rfl)
    try simp only [Act.put, List.setIfInBounds_toArray, List.set_cons_zero, List.set_cons_succ]
    refine wpAnyH_take (i := 17) (v := ?_) rfl (by kernel_rfl) (by kernel_rfl) (by kernel_rfl) (fun _ _ _ h => h) (Or.inl ⟨by rfl, ?_⟩) hHeld ?_
    rotate_left
    · intro w' hSw
      go_split_ands
      go_simp
      try (with_reducible rfl)
    try simp only [Act.put, List.setIfInBounds_toArray, List.set_cons_zero, List.set_cons_succ]
    refine wpAnyH_take (i := 18) (v := ?_) rfl (by kernel_rfl) (by kernel_rfl) (by kernel_rfl) (fun _ _ _ h => h) (Or.inl ⟨by rfl, ?_⟩) hHeld ?_
    rotate_left
    · intro w' hSw
      go_split_ands
      go_simp
      try (with_reducible rfl)
    try simp only [Act.put, List.setIfInBounds_toArray, List.set_cons_zero, List.set_cons_succ]
    refine wpAnyH_take (i := 20) (v := ?_) rfl (by kernel_rfl) (by kernel_rfl) (by kernel_rfl) (fun _ _ _ h => h) (Or.inl ⟨by rfl, ?_⟩) hHeld ?_
    rotate_left
    · intro w' hSw
      go_split_ands
      go_simp
      try (with_reducible rfl)
    try simp only [Act.put, List.setIfInBounds_toArray, List.set_cons_zero, List.set_cons_succ]
    refine wpAnyH_take (i := 21) (v := ?_) rfl (by kernel_rfl) (by kernel_rfl) (by kernel_rfl) (fun _ _ _ h => h) (Or.inl ⟨by rfl, ?_⟩) hHeld ?_
    rotate_left
    · intro w' hSw
      go_split_ands
      go_simp
      try (with_reducible rfl)
    try simp only [Act.put, List.setIfInBounds_toArray, List.set_cons_zero, List.set_cons_succ]
    refine wpAnyH_take (i := 22) (v := ?_) rfl (by kernel_rfl) (by kernel_rfl) (by kernel_rfl) (fun _ _ _ h => h) (Or.inl ⟨by rfl, ?_⟩) hHeld ?_
    rotate_left
    · intro w' hSw
      go_split_ands
      go_simp
      try (with_reducible rfl)
    try simp only [Act.put, List.setIfInBounds_toArray, List.set_cons_zero, List.set_cons_succ]
    refine wpAnyH_take (i := 23) (v := ?_) rfl (by kernel_rfl) (by kernel_rfl) (by kernel_rfl) (fun _ _ _ h => h) (Or.inl ⟨by rfl, ?_⟩) hHeld ?_
    rotate_left
    · intro w' hSw
      go_split_ands
      go_simp
      try (with_reducible rfl)
    try simp only [Act.put, List.setIfInBounds_toArray, List.set_cons_zero, List.set_cons_succ]
    refine wpAnyH_take (i := 24) (v := ?_) rfl (by kernel_rfl) (by kernel_rfl) (by kernel_rfl) (fun _ _ _ h => h) (Or.inl ⟨by rfl, ?_⟩) hHeld ?_
    rotate_left
    · intro w' hSw
      go_split_ands
      go_simp
      try (with_reducible rfl)
    try simp only [Act.put, List.setIfInBounds_toArray, List.set_cons_zero, List.set_cons_succ]
    refine wpAnyH_take (i := 25) (v := ?_) rfl (by kernel_rfl) (by kernel_rfl) (by kernel_rfl) (fun _ _ _ h => h) (Or.inl ⟨by rfl, ?_⟩) hHeld ?_
    rotate_left
    · intro w' hSw
      go_split_ands
      go_simp
      try (with_reducible rfl)
    try simp only [Act.put, List.setIfInBounds_toArray, List.set_cons_zero, List.set_cons_succ]
    refine wpAnyH_take (i := 26) (v := ?_) rfl (by kernel_rfl) (by kernel_rfl) (by kernel_rfl) (fun _ _ _ h => h) (Or.inl ⟨by rfl, ?_⟩) hHeld ?_
    rotate_left
    · intro w' hSw
      go_split_ands
      go_simp
      try (with_reducible rfl)
    try simp only [Act.put, List.setIfInBounds_toArray, List.set_cons_zero, List.set_cons_succ]
    refine wpAnyH_take (i := 27) (v := ?_) rfl (by kernel_rfl) (by kernel_rfl) (by kernel_rfl) (fun _ _ _ h => h) (Or.inl ⟨by rfl, ?_⟩) hHeld ?_
    rotate_left
    · intro w' hSw
      go_split_ands
      go_simp
      try (with_reducible rfl)
    try simp only [Act.put, List.setIfInBounds_toArray, List.set_cons_zero, List.set_cons_succ]
    refine wpAnyH_take (i := 28) (v := ?_) rfl (by kernel_rfl) (by kernel_rfl) (by kernel_rfl) (fun _ _ _ h => h) (Or.inl ⟨by rfl, ?_⟩) hHeld ?_
    rotate_left
    · intro w' hSw
      go_split_ands
      go_simp
      try (with_reducible rfl)
    try simp only [Act.put, List.setIfInBounds_toArray, List.set_cons_zero, List.set_cons_succ]
    refine wpAnyH_take (i := 29) (v := ?_) rfl (by kernel_rfl) (by kernel_rfl) (by kernel_rfl) (fun _ _ _ h => h) (Or.inl ⟨by rfl, ?_⟩) hHeld ?_
    rotate_left
    · intro w' hSw
      go_split_ands
      go_simp
      try (with_reducible rfl)
    try simp only [Act.put, List.setIfInBounds_toArray, List.set_cons_zero, List.set_cons_succ]
    refine wpAnyH_take (i := 30) (v := ?_) rfl (by kernel_rfl) (by kernel_rfl) (by kernel_rfl) (fun _ _ _ h => h) (Or.inl ⟨by rfl, ?_⟩) hHeld ?_
    rotate_left
    · intro w' hSw
      go_split_ands
      go_simp
      try (with_reducible rfl)
    try simp only [Act.put, List.setIfInBounds_toArray, List.set_cons_zero, List.set_cons_succ]
    refine wpAnyH_take (i := 31) (v := ?_) rfl (by kernel_rfl) (by kernel_rfl) (by kernel_rfl) (fun _ _ _ h => h) (Or.inl ⟨by rfl, ?_⟩) hHeld ?_
    rotate_left
    · intro w' hSw
      go_split_ands
      go_simp
      try (with_reducible rfl)
    try simp only [Act.put, List.setIfInBounds_toArray, List.set_cons_zero, List.set_cons_succ]
    refine wpAnyH_take (i := 32) (v := ?_) rfl (by kernel_rfl) (by kernel_rfl) (by kernel_rfl) (fun _ _ _ h => h) (Or.inl ⟨by rfl, ?_⟩) hHeld ?_
    rotate_left
    · intro w' hSw
      go_split_ands
      go_simp
      try (with_reducible rfl)
    try simp only [Act.put, List.setIfInBounds_toArray, List.set_cons_zero, List.set_cons_succ]
    refine wpAnyH_take (i := 33) (v := ?_) rfl (by kernel_rfl) (by kernel_rfl) (by kernel_rfl) (fun _ _ _ h => h) (Or.inl ⟨by rfl, ?_⟩) hHeld ?_
    rotate_left
    · intro w' hSw
      go_split_ands
      go_simp
      try (with_reducible rfl)
    try simp only [Act.put, List.setIfInBounds_toArray, List.set_cons_zero, List.set_cons_succ]
    refine wpAnyH_take (i := 34) (v := ?_) rfl (by kernel_rfl) (by kernel_rfl) (by kernel_rfl) (fun _ _ _ h => h) (Or.inl ⟨by rfl, ?_⟩) hHeld ?_
    rotate_left
    · intro w' hSw
      go_split_ands
      go_simp
      try (with_reducible rfl)
    try simp only [Act.put, List.setIfInBounds_toArray, List.set_cons_zero, List.set_cons_succ]
    refine wpAnyH_ready (rs := [0, 19]) (by kernel_rfl) (by simp) ?_
    refine AllReadyH.cons rfl (fun K hK => ?_) (AllReadyH.cons rfl (fun K hK => ?_) AllReadyH.nil)
    · have mvd : W.drew.cell? ⟨w.heap.size + 3, 0, none⟩ = some v := mv
      go_simp
      refine hK.out _ _ hHeld (fun hHeld => ?_)
      clear hK K
      try simp only [Act.put, List.setIfInBounds_toArray, List.set_cons_zero, List.set_cons_succ]
      refine wpAnyH_ready (rs := [19]) (by kernel_rfl) (by simp) ?_
      refine AllReadyH.cons rfl (fun K hK => ?_) AllReadyH.nil
      go_simp
      have hkd := kind_any (cutL o x.o1 x.o2) (cutL a x.a1 x.a2) (cutL b x.b1 x.b2) (if c1 = x.o1 then A1 else A1.map (·.add x.o1)) (if c2 = x.a1 then A2 else A2.map (·.add x.a1)) (if c3 = x.b1 then A3 else A3.map (·.add x.b1)) (c1 - x.o1) (c2 - x.a1) (c3 - x.b1) W.drew
        (LiesA.cut ((ho.below (below_drew hBw)).up hBw.size) x1 x2 hc1) (LiesA.cut ((ha.below (below_drew hBw)).up hBw.size) x3 x4 hc2) (LiesA.cut ((hb.below (below_drew hBw)).up hBw.size) x5 x6 hc3)
        (by rw [cutL_length _ _ _ x2]; omega) (by rw [cutL_length _ _ _ x4]; omega) (by rw [cutL_length _ _ _ x6]; omega)
      rw [cutL_length _ _ _ x2, cutL_length _ _ _ x4, cutL_length _ _ _ x6, ← X7.out] at hkd
      refine hkd.mono ?_
      rintro e w' ⟨rfl, m, rfl⟩
      dsimp only
      refine hK.out _ _ hHeld (fun hHeld => ?_)
      clear hK K hkd
      try simp only [Act.put, List.setIfInBounds_toArray, List.set_cons_zero, List.set_cons_succ]
      refine wpAnyH_take (i := 35) (v := ?_) rfl (by kernel_rfl) (by kernel_rfl) (by kernel_rfl) (fun _ _ _ h => h) (Or.inl ⟨by rfl, ?_⟩) hHeld ?_
      rotate_left
      · intro w' hSw
        go_split_ands
        go_simp
        try (with_reducible rfl)
      try simp only [Act.put, List.setIfInBounds_toArray, List.set_cons_zero, List.set_cons_succ]
      refine wpAnyH_ready (rs := [36]) (by kernel_rfl) (by simp) ?_
      refine AllReadyH.cons rfl (fun K hK => ?_) AllReadyH.nil
      go_simp
      refine hK.out _ _ ⟨⟨cell_alloc m3 _, cell_alloc m4 _, cell_alloc m5 _⟩, ⟨cell_alloc f0 _, cell_alloc f1 _, cell_alloc f2 _⟩, ⟨cell_alloc t0 _, cell_alloc t1 _, cell_alloc t2 _⟩⟩ (fun hHeld => ?_)
      clear hK K
      try simp only [Act.put, List.setIfInBounds_toArray, List.set_cons_zero, List.set_cons_succ]
      refine wpAnyH_ready (rs := [37]) (by kernel_rfl) (by simp) ?_
      refine AllReadyH.cons rfl (fun K hK => ?_) AllReadyH.nil
      have HO : kCk.R 99 (W.drewN (1 + m)) (w.heap.size + 7) (fun _ => True) v pre := Kd.R_below hR (pw_below_drewN (Below.refl _ _) _)
      refine Kd.R_append_step kCk (w0 := W.drewN (1 + m)) (w.heap.size + 7) (by rfl) _ _ 94 99 _ 56 (by rfl) Tryz.underlying94 infoCk rfl (by decide) (by decide) v pre x (ckCells x) (fun _ => True) (fun _ => False) (by rfl) (by rfl) (kCk_mk _ _ _ x) (fun _ h => h.elim) (fun _ _ => trivial) HO (Below.refl _ _) hsz (by omega) ?_
      intro v1 w1 hR1 hb1 hg1 hat1
      have e1 : w1.heap[Bf]? = some (.cells (ends3 x.o1 x.a1 x.b1) 173 (0, 0)) := blk_grown (w := W.drewN (1 + m)) hf hg1 (Kd.R_ne HO (g := Bf) hf (by decide))
      have e2 : w1.heap[Bt]? = some (.cells (ends3 x.o2 x.a2 x.b2) 173 (0, 0)) := blk_grown (w := W.drewN (1 + m)) ht hg1 (Kd.R_ne HO (g := Bt) ht (by decide))
      have e3 : w1.heap[w.heap.size + 3]? = some (.cells #[v] 94 (0, 0)) := blk_grown (w := W.drewN (1 + m)) hv hg1 (Kd.R_ne HO (g := w.heap.size + 3) hv (by decide))
      have e4 : w1.heap[w.heap.size]? = some (.cells #[.slice A1 o.length c1] 130 (0, 0)) := blk_grown (w := W.drewN (1 + m)) hk0w hg1 (Kd.R_ne HO (g := w.heap.size) hk0w (by decide))
      have e5 : w1.heap[w.heap.size + 1]? = some (.cells #[.slice A2 a.length c2] 130 (0, 0)) := blk_grown (w := W.drewN (1 + m)) hk1w hg1 (Kd.R_ne HO (g := w.heap.size + 1) hk1w (by decide))
      have e6 : w1.heap[w.heap.size + 2]? = some (.cells #[.slice A3 b.length c3] 130 (0, 0)) := blk_grown (w := W.drewN (1 + m)) hk2w hg1 (Kd.R_ne HO (g := w.heap.size + 2) hk2w (by decide))
      have y1 : (w1.cell? ⟨w.heap.size, 0, none⟩ = some (.slice A1 o.length c1) ∧ w1.cell? ⟨w.heap.size + 1, 0, none⟩ = some (.slice A2 a.length c2) ∧ w1.cell? ⟨w.heap.size + 2, 0, none⟩ = some (.slice A3 b.length c3)) := ⟨by rw [blk_cell e4]; rfl, by rw [blk_cell e5]; rfl, by rw [blk_cell e6]; rfl⟩
      have y2 : w1.cell? ⟨Bf, 0, none⟩ = some (.int .i64 (x.o1 : Int)) ∧ w1.cell? ⟨Bf, 1, none⟩ = some (.int .i64 (x.a1 : Int)) ∧ w1.cell? ⟨Bf, 2, none⟩ = some (.int .i64 (x.b1 : Int)) := ⟨by rw [blk_cell e1]; rfl, by rw [blk_cell e1]; rfl, by rw [blk_cell e1]; rfl⟩
      have y3 : w1.cell? ⟨Bt, 0, none⟩ = some (.int .i64 (x.o2 : Int)) ∧ w1.cell? ⟨Bt, 1, none⟩ = some (.int .i64 (x.a2 : Int)) ∧ w1.cell? ⟨Bt, 2, none⟩ = some (.int .i64 (x.b2 : Int)) := ⟨by rw [blk_cell e2]; rfl, by rw [blk_cell e2]; rfl, by rw [blk_cell e2]; rfl⟩
      refine hK.out _ _ ⟨y1, y2, y3⟩ (fun hHeld => ?_)
      clear hK K
      try simp only [Act.put, List.setIfInBounds_toArray, List.set_cons_zero, List.set_cons_succ]
      refine wpAnyH_ready (rs := [38]) (by kernel_rfl) (by simp) ?_
      refine AllReadyH.cons rfl (fun K hK => ?_) AllReadyH.nil
      have g3 : w1.cell? ⟨w.heap.size + 3, 0, none⟩ = some v := by rw [blk_cell e3]; rfl
      have g4 : w1.frozen? ⟨w.heap.size + 3, 0, none⟩ = false := blk_frozen e3 0
      obtain ⟨V1, N1, C1, rfl⟩ : ∃ V1 N1 C1, v1 = .slice V1 N1 C1 := by obtain ⟨A, c, h⟩ := Kd.R_slice hR1; exact ⟨A, _, c, h⟩
      go_simp
      have n1 : Bf ≠ w.heap.size + 3 := blk_ne e1 e3 (by decide)
      have n2 : Bt ≠ w.heap.size + 3 := blk_ne e2 e3 (by decide)
      have z1 : ∀ (k : Nat) (oo : Obj), w1.heap[k]? = some oo → k ≠ w.heap.size + 3 → (w1.setCell ⟨w.heap.size + 3, 0, none⟩ (.slice V1 N1 C1)).heap[k]? = some oo := fun k oo h hne => (Below.heap_setCell _ _ _ _ hne).trans h
      have r1 := z1 _ _ e1 n1
      have r2 := z1 _ _ e2 n2
      have r4 := z1 _ _ e4 (by omega)
      have r5 := z1 _ _ e5 (by omega)
      have r6 := z1 _ _ e6 (by omega)
      refine hK.out _ _ ⟨⟨by rw [blk_cell r4]; rfl, by rw [blk_cell r5]; rfl, by rw [blk_cell r6]; rfl⟩, ⟨by rw [blk_cell r1]; rfl, by rw [blk_cell r1]; rfl, by rw [blk_cell r1]; rfl⟩, ⟨by rw [blk_cell r2]; rfl, by rw [blk_cell r2]; rfl, by rw [blk_cell r2]; rfl⟩⟩ (fun hHeld => ?_)
      clear hK K
      refine wpAnyH_done (by kernel_rfl) ?_ _
      exact round_end hv hR hBw hB1 hsz hR1 hb1 hg1 hat1 e3
    · go_simp
      have hkd := kind_any (cutL o x.o1 x.o2) (cutL a x.a1 x.a2) (cutL b x.b1 x.b2) (if c1 = x.o1 then A1 else A1.map (·.add x.o1)) (if c2 = x.a1 then A2 else A2.map (·.add x.a1)) (if c3 = x.b1 then A3 else A3.map (·.add x.b1)) (c1 - x.o1) (c2 - x.a1) (c3 - x.b1) W.drew
        (LiesA.cut ((ho.below (below_drew hBw)).up hBw.size) x1 x2 hc1) (LiesA.cut ((ha.below (below_drew hBw)).up hBw.size) x3 x4 hc2) (LiesA.cut ((hb.below (below_drew hBw)).up hBw.size) x5 x6 hc3)
        (by rw [cutL_length _ _ _ x2]; omega) (by rw [cutL_length _ _ _ x4]; omega) (by rw [cutL_length _ _ _ x6]; omega)
      rw [cutL_length _ _ _ x2, cutL_length _ _ _ x4, cutL_length _ _ _ x6, ← X7.out] at hkd
      refine hkd.mono ?_
      rintro e w' ⟨rfl, m, rfl⟩
      dsimp only
      refine hK.out _ _ hHeld (fun hHeld => ?_)
      clear hK K hkd
      try simp only [Act.put, List.setIfInBounds_toArray, List.set_cons_zero, List.set_cons_succ]
      refine wpAnyH_take (i := 35) (v := ?_) rfl (by kernel_rfl) (by kernel_rfl) (by kernel_rfl) (fun _ _ _ h => h) (Or.inl ⟨by rfl, ?_⟩) hHeld ?_
      rotate_left
      · intro w' hSw
        go_split_ands
        go_simp
        try (with_reducible rfl)
      try simp only [Act.put, List.setIfInBounds_toArray, List.set_cons_zero, List.set_cons_succ]
      refine wpAnyH_ready (rs := [0, 36]) (by kernel_rfl) (by simp) ?_
      refine AllReadyH.cons rfl (fun K hK => ?_) (AllReadyH.cons rfl (fun K hK => ?_) AllReadyH.nil)
      · have mvm : (W.drewN (1 + m)).cell? ⟨w.heap.size + 3, 0, none⟩ = some v := mv
        go_simp
        refine hK.out _ _ hHeld (fun hHeld => ?_)
        clear hK K
        try simp only [Act.put, List.setIfInBounds_toArray, List.set_cons_zero, List.set_cons_succ]
        refine wpAnyH_ready (rs := [36]) (by kernel_rfl) (by simp) ?_
        refine AllReadyH.cons rfl (fun K hK => ?_) AllReadyH.nil
        go_simp
        refine hK.out _ _ ⟨⟨cell_alloc m3 _, cell_alloc m4 _, cell_alloc m5 _⟩, ⟨cell_alloc f0 _, cell_alloc f1 _, cell_alloc f2 _⟩, ⟨cell_alloc t0 _, cell_alloc t1 _, cell_alloc t2 _⟩⟩ (fun hHeld => ?_)
        clear hK K
        try simp only [Act.put, List.setIfInBounds_toArray, List.set_cons_zero, List.set_cons_succ]
        refine wpAnyH_ready (rs := [37]) (by kernel_rfl) (by simp) ?_
        refine AllReadyH.cons rfl (fun K hK => ?_) AllReadyH.nil
        have HO : kCk.R 99 (W.drewN (1 + m)) (w.heap.size + 7) (fun _ => True) v pre := Kd.R_below hR (pw_below_drewN (Below.refl _ _) _)
        refine Kd.R_append_step kCk (w0 := W.drewN (1 + m)) (w.heap.size + 7) (by rfl) _ _ 94 99 _ 56 (by rfl) Tryz.underlying94 infoCk rfl (by decide) (by decide) v pre x (ckCells x) (fun _ => True) (fun _ => False) (by rfl) (by rfl) (kCk_mk _ _ _ x) (fun _ h => h.elim) (fun _ _ => trivial) HO (Below.refl _ _) hsz (by omega) ?_
        intro v1 w1 hR1 hb1 hg1 hat1
        have e1 : w1.heap[Bf]? = some (.cells (ends3 x.o1 x.a1 x.b1) 173 (0, 0)) := blk_grown (w := W.drewN (1 + m)) hf hg1 (Kd.R_ne HO (g := Bf) hf (by decide))
        have e2 : w1.heap[Bt]? = some (.cells (ends3 x.o2 x.a2 x.b2) 173 (0, 0)) := blk_grown (w := W.drewN (1 + m)) ht hg1 (Kd.R_ne HO (g := Bt) ht (by decide))
        have e3 : w1.heap[w.heap.size + 3]? = some (.cells #[v] 94 (0, 0)) := blk_grown (w := W.drewN (1 + m)) hv hg1 (Kd.R_ne HO (g := w.heap.size + 3) hv (by decide))
        have e4 : w1.heap[w.heap.size]? = some (.cells #[.slice A1 o.length c1] 130 (0, 0)) := blk_grown (w := W.drewN (1 + m)) hk0w hg1 (Kd.R_ne HO (g := w.heap.size) hk0w (by decide))
        have e5 : w1.heap[w.heap.size + 1]? = some (.cells #[.slice A2 a.length c2] 130 (0, 0)) := blk_grown (w := W.drewN (1 + m)) hk1w hg1 (Kd.R_ne HO (g := w.heap.size + 1) hk1w (by decide))
        have e6 : w1.heap[w.heap.size + 2]? = some (.cells #[.slice A3 b.length c3] 130 (0, 0)) := blk_grown (w := W.drewN (1 + m)) hk2w hg1 (Kd.R_ne HO (g := w.heap.size + 2) hk2w (by decide))
        have y1 : (w1.cell? ⟨w.heap.size, 0, none⟩ = some (.slice A1 o.length c1) ∧ w1.cell? ⟨w.heap.size + 1, 0, none⟩ = some (.slice A2 a.length c2) ∧ w1.cell? ⟨w.heap.size + 2, 0, none⟩ = some (.slice A3 b.length c3)) := ⟨by rw [blk_cell e4]; rfl, by rw [blk_cell e5]; rfl, by rw [blk_cell e6]; rfl⟩
        have y2 : w1.cell? ⟨Bf, 0, none⟩ = some (.int .i64 (x.o1 : Int)) ∧ w1.cell? ⟨Bf, 1, none⟩ = some (.int .i64 (x.a1 : Int)) ∧ w1.cell? ⟨Bf, 2, none⟩ = some (.int .i64 (x.b1 : Int)) := ⟨by rw [blk_cell e1]; rfl, by rw [blk_cell e1]; rfl, by rw [blk_cell e1]; rfl⟩
        have y3 : w1.cell? ⟨Bt, 0, none⟩ = some (.int .i64 (x.o2 : Int)) ∧ w1.cell? ⟨Bt, 1, none⟩ = some (.int .i64 (x.a2 : Int)) ∧ w1.cell? ⟨Bt, 2, none⟩ = some (.int .i64 (x.b2 : Int)) := ⟨by rw [blk_cell e2]; rfl, by rw [blk_cell e2]; rfl, by rw [blk_cell e2]; rfl⟩
        refine hK.out _ _ ⟨y1, y2, y3⟩ (fun hHeld => ?_)
        clear hK K
        try simp only [Act.put, List.setIfInBounds_toArray, List.set_cons_zero, List.set_cons_succ]
        refine wpAnyH_ready (rs := [38]) (by kernel_rfl) (by simp) ?_
        refine AllReadyH.cons rfl (fun K hK => ?_) AllReadyH.nil
        have g3 : w1.cell? ⟨w.heap.size + 3, 0, none⟩ = some v := by rw [blk_cell e3]; rfl
        have g4 : w1.frozen? ⟨w.heap.size + 3, 0, none⟩ = false := blk_frozen e3 0
        obtain ⟨V1, N1, C1, rfl⟩ : ∃ V1 N1 C1, v1 = .slice V1 N1 C1 := by obtain ⟨A, c, h⟩ := Kd.R_slice hR1; exact ⟨A, _, c, h⟩
        go_simp
        have n1 : Bf ≠ w.heap.size + 3 := blk_ne e1 e3 (by decide)
        have n2 : Bt ≠ w.heap.size + 3 := blk_ne e2 e3 (by decide)
        have z1 : ∀ (k : Nat) (oo : Obj), w1.heap[k]? = some oo → k ≠ w.heap.size + 3 → (w1.setCell ⟨w.heap.size + 3, 0, none⟩ (.slice V1 N1 C1)).heap[k]? = some oo := fun k oo h hne => (Below.heap_setCell _ _ _ _ hne).trans h
        have r1 := z1 _ _ e1 n1
        have r2 := z1 _ _ e2 n2
        have r4 := z1 _ _ e4 (by omega)
        have r5 := z1 _ _ e5 (by omega)
        have r6 := z1 _ _ e6 (by omega)
        refine hK.out _ _ ⟨⟨by rw [blk_cell r4]; rfl, by rw [blk_cell r5]; rfl, by rw [blk_cell r6]; rfl⟩, ⟨by rw [blk_cell r1]; rfl, by rw [blk_cell r1]; rfl, by rw [blk_cell r1]; rfl⟩, ⟨by rw [blk_cell r2]; rfl, by rw [blk_cell r2]; rfl, by rw [blk_cell r2]; rfl⟩⟩ (fun hHeld => ?_)
        clear hK K
        refine wpAnyH_done (by kernel_rfl) ?_ _
        exact round_end hv hR hBw hB1 hsz hR1 hb1 hg1 hat1 e3
      · go_simp
        refine hK.out _ _ ⟨⟨cell_alloc m3 _, cell_alloc m4 _, cell_alloc m5 _⟩, ⟨cell_alloc f0 _, cell_alloc f1 _, cell_alloc f2 _⟩, ⟨cell_alloc t0 _, cell_alloc t1 _, cell_alloc t2 _⟩⟩ (fun hHeld => ?_)
        clear hK K
        try simp only [Act.put, List.setIfInBounds_toArray, List.set_cons_zero, List.set_cons_succ]
        refine wpAnyH_ready (rs := [0]) (by kernel_rfl) (by simp) ?_
        refine AllReadyH.cons rfl (fun K hK => ?_) AllReadyH.nil
        have mva := cell_alloc (show (W.drewN (1 + m)).cell? ⟨w.heap.size + 3, 0, none⟩ = some v from mv) (.cells (ckCells x).toArray 99)
        simp only [ckCells] at mva
        go_simp
        refine hK.out _ _ hHeld (fun hHeld => ?_)
        clear hK K
        try simp only [Act.put, List.setIfInBounds_toArray, List.set_cons_zero, List.set_cons_succ]
        refine wpAnyH_ready (rs := [37]) (by kernel_rfl) (by simp) ?_
        refine AllReadyH.cons rfl (fun K hK => ?_) AllReadyH.nil
        have HO : kCk.R 99 (W.drewN (1 + m)) (w.heap.size + 7) (fun _ => True) v pre := Kd.R_below hR (pw_below_drewN (Below.refl _ _) _)
        refine Kd.R_append_step kCk (w0 := W.drewN (1 + m)) (w.heap.size + 7) (by rfl) _ _ 94 99 _ 56 (by rfl) Tryz.underlying94 infoCk rfl (by decide) (by decide) v pre x (ckCells x) (fun _ => True) (fun _ => False) (by rfl) (by rfl) (kCk_mk _ _ _ x) (fun _ h => h.elim) (fun _ _ => trivial) HO (Below.refl _ _) hsz (by omega) ?_
        intro v1 w1 hR1 hb1 hg1 hat1
        have e1 : w1.heap[Bf]? = some (.cells (ends3 x.o1 x.a1 x.b1) 173 (0, 0)) := blk_grown (w := W.drewN (1 + m)) hf hg1 (Kd.R_ne HO (g := Bf) hf (by decide))
        have e2 : w1.heap[Bt]? = some (.cells (ends3 x.o2 x.a2 x.b2) 173 (0, 0)) := blk_grown (w := W.drewN (1 + m)) ht hg1 (Kd.R_ne HO (g := Bt) ht (by decide))
        have e3 : w1.heap[w.heap.size + 3]? = some (.cells #[v] 94 (0, 0)) := blk_grown (w := W.drewN (1 + m)) hv hg1 (Kd.R_ne HO (g := w.heap.size + 3) hv (by decide))
        have e4 : w1.heap[w.heap.size]? = some (.cells #[.slice A1 o.length c1] 130 (0, 0)) := blk_grown (w := W.drewN (1 + m)) hk0w hg1 (Kd.R_ne HO (g := w.heap.size) hk0w (by decide))
        have e5 : w1.heap[w.heap.size + 1]? = some (.cells #[.slice A2 a.length c2] 130 (0, 0)) := blk_grown (w := W.drewN (1 + m)) hk1w hg1 (Kd.R_ne HO (g := w.heap.size + 1) hk1w (by decide))
        have e6 : w1.heap[w.heap.size + 2]? = some (.cells #[.slice A3 b.length c3] 130 (0, 0)) := blk_grown (w := W.drewN (1 + m)) hk2w hg1 (Kd.R_ne HO (g := w.heap.size + 2) hk2w (by decide))
        have y1 : (w1.cell? ⟨w.heap.size, 0, none⟩ = some (.slice A1 o.length c1) ∧ w1.cell? ⟨w.heap.size + 1, 0, none⟩ = some (.slice A2 a.length c2) ∧ w1.cell? ⟨w.heap.size + 2, 0, none⟩ = some (.slice A3 b.length c3)) := ⟨by rw [blk_cell e4]; rfl, by rw [blk_cell e5]; rfl, by rw [blk_cell e6]; rfl⟩
        have y2 : w1.cell? ⟨Bf, 0, none⟩ = some (.int .i64 (x.o1 : Int)) ∧ w1.cell? ⟨Bf, 1, none⟩ = some (.int .i64 (x.a1 : Int)) ∧ w1.cell? ⟨Bf, 2, none⟩ = some (.int .i64 (x.b1 : Int)) := ⟨by rw [blk_cell e1]; rfl, by rw [blk_cell e1]; rfl, by rw [blk_cell e1]; rfl⟩
        have y3 : w1.cell? ⟨Bt, 0, none⟩ = some (.int .i64 (x.o2 : Int)) ∧ w1.cell? ⟨Bt, 1, none⟩ = some (.int .i64 (x.a2 : Int)) ∧ w1.cell? ⟨Bt, 2, none⟩ = some (.int .i64 (x.b2 : Int)) := ⟨by rw [blk_cell e2]; rfl, by rw [blk_cell e2]; rfl, by rw [blk_cell e2]; rfl⟩
        refine hK.out _ _ ⟨y1, y2, y3⟩ (fun hHeld => ?_)
        clear hK K
        try simp only [Act.put, List.setIfInBounds_toArray, List.set_cons_zero, List.set_cons_succ]
        refine wpAnyH_ready (rs := [38]) (by kernel_rfl) (by simp) ?_
        refine AllReadyH.cons rfl (fun K hK => ?_) AllReadyH.nil
        have g3 : w1.cell? ⟨w.heap.size + 3, 0, none⟩ = some v := by rw [blk_cell e3]; rfl
        have g4 : w1.frozen? ⟨w.heap.size + 3, 0, none⟩ = false := blk_frozen e3 0
        obtain ⟨V1, N1, C1, rfl⟩ : ∃ V1 N1 C1, v1 = .slice V1 N1 C1 := by obtain ⟨A, c, h⟩ := Kd.R_slice hR1; exact ⟨A, _, c, h⟩
        go_simp
        have n1 : Bf ≠ w.heap.size + 3 := blk_ne e1 e3 (by decide)
        have n2 : Bt ≠ w.heap.size + 3 := blk_ne e2 e3 (by decide)
        have z1 : ∀ (k : Nat) (oo : Obj), w1.heap[k]? = some oo → k ≠ w.heap.size + 3 → (w1.setCell ⟨w.heap.size + 3, 0, none⟩ (.slice V1 N1 C1)).heap[k]? = some oo := fun k oo h hne => (Below.heap_setCell _ _ _ _ hne).trans h
        have r1 := z1 _ _ e1 n1
        have r2 := z1 _ _ e2 n2
        have r4 := z1 _ _ e4 (by omega)
        have r5 := z1 _ _ e5 (by omega)
        have r6 := z1 _ _ e6 (by omega)
        refine hK.out _ _ ⟨⟨by rw [blk_cell r4]; rfl, by rw [blk_cell r5]; rfl, by rw [blk_cell r6]; rfl⟩, ⟨by rw [blk_cell r1]; rfl, by rw [blk_cell r1]; rfl, by rw [blk_cell r1]; rfl⟩, ⟨by rw [blk_cell r2]; rfl, by rw [blk_cell r2]; rfl, by rw [blk_cell r2]; rfl⟩⟩ (fun hHeld => ?_)
        clear hK K
        refine wpAnyH_done (by kernel_rfl) ?_ _
        exact round_end hv hR hBw hB1 hsz hR1 hb1 hg1 hat1 e3
    -- TAKES END
  case done =>
    rintro D W hD ⟨v, hv, hR, hBw, hB1, hsz⟩ hK
    have hc : W.cell? ⟨w.heap.size + 3, 0, none⟩ = some v := by rw [blk_cell hv]; rfl
    have hr : kCk.R 99 (W.putObj D (.deferred none)) w.heap.size (fun _ => True) v (chunksL o a b) := by
      refine Kd.R_lower (base := w.heap.size + 7) ?_ (by omega)
      refine Kd.R_mono (Kd.R_move (Kd.R_bound hR) (fun k hk => ?_)) (fun _ hk => hk.1)
      obtain ⟨_, _, hl, q, hq, cells, hcl⟩ := hk
      exact World.putObj_heap_other (fun e => by subst e; rw [hK] at hcl; cases hcl)
    have HR := Lib.hid hr
    clear hr
    gi_wp2
    refine ⟨by simp, .inl ⟨_, _, rfl, run_takeDeferred hK, ?_⟩⟩
    exact ⟨_, results_tmp rfl _ _ _, v, rfl, HR.out, hBw.trans (belowK_b (w := w) (Nat.le_refl _) W D _ _ (by omega) hK rfl rfl)⟩

end Go.Proofs.YtogfkfkejaiecaaGreatDoor.Dl

namespace Go.Proofs.YtogfkfkejaiecaaGreatDoor.Dm
open Go.RowKit Go.Shelf Pl Ut Da Db Dc Dd De Dk Dl Go.Proofs.YtogfkfkejaiecaaGreatDoorW.PrintWords
set_option linter.unusedVariables false
set_option linter.unusedSimpArgs false

/-- The chunks of three rows of texts. -/
def partsC (o a b : List Str) : List Ck := match numRows [] [o, a, b] with
  | [x, y, z] => chunksL x y z
  | _ => []
theorem numRows3 (o a b : List Str) : ∃ x y z, numRows [] [o, a, b] = [x, y, z] ∧ x.length = o.length ∧ y.length = a.length ∧ z.length = b.length :=
  ⟨_, _, _, rfl, numRow_length _ _, numRow_length _ _, numRow_length _ _⟩
theorem partsC_of {o a b : List Str} {x y z : List Nat} (h : numRows [] [o, a, b] = [x, y, z]) : partsC o a b = chunksL x y z := by unfold partsC; rw [h]
/-- Three slices of texts in a block. -/
theorem three_rows {w : World} {g : Nat} {o a b : List Str} {A1 A2 A3 : Option Addr} {c1 c2 c3 : Nat} (hg : w.heap[g]? = some (.cells #[.slice A1 o.length c1, .slice A2 a.length c2, .slice A3 b.length c3] 62 (0, 0)))
    (h1 : Kd.C kStr w A1 o.length o) (h2 : Kd.C kStr w A2 a.length a) (h3 : Kd.C kStr w A3 b.length b) (l1 : o.length ≤ c1) (l2 : a.length ≤ c2) (l3 : b.length ≤ c3) : Kd.C kStrs w (some ⟨g, 0, none⟩) 3 [o, a, b] := by
  refine ⟨rfl, by omega, fun _ => ⟨_, rfl, fun j p hj => ?_⟩⟩
  match j, hj with
  | 0, hj => cases hj; exact ⟨[.slice A1 o.length c1], rfl, ⟨A1, c1, rfl, l1, h1⟩, fun i u hu => by cases i with | zero => (simp at hu; subst hu; rw [add_plain, blk_cell hg]; rfl) | succ i => simp at hu⟩
  | 1, hj => cases hj; exact ⟨[.slice A2 a.length c2], rfl, ⟨A2, c2, rfl, l2, h2⟩, fun i u hu => by cases i with | zero => (simp at hu; subst hu; rw [add_plain, blk_cell hg]; rfl) | succ i => simp at hu⟩
  | 2, hj => cases hj; exact ⟨[.slice A3 b.length c3], rfl, ⟨A3, c3, rfl, l3, h3⟩, fun i u hu => by cases i with | zero => (simp at hu; subst hu; rw [add_plain, blk_cell hg]; rfl) | succ i => simp at hu⟩
  | j + 3, hj => simp at hj
/-- A row of rows of one's own, row by row. -/
theorem nats_at {w : World} {base : Nat} {ok : Nat → Prop} {v : Value} {xs : List (List Nat)} (h : kNats.R 130 w base ok v xs) (k : Nat) (x : List Nat) (hx : xs[k]? = some x) :
    ∃ g cap u, v = .slice (some ⟨g, 0, none⟩) xs.length cap ∧ w.cell? ⟨g, k, none⟩ = some u ∧ kNat.R 3 w base (fun _ => True) u x := by
  have hk : k < xs.length := (List.getElem?_eq_some_iff.1 hx).1
  obtain ⟨g, cap, e, _⟩ := Kd.R_form h (by omega)
  obtain ⟨A, c, e2, _, hr⟩ := OwnRow.reads h.2
  rw [e] at e2
  cases e2
  obtain ⟨ad, e3, hc⟩ := hr.2.2 (by omega)
  cases e3
  obtain ⟨cs, hl, ⟨u, rfl, hu⟩, hcell⟩ := hc k x hx
  have := hcell 0 u rfl
  refine ⟨g, cap, u, e, ?_, Kd.R_mono hu (fun _ _ => trivial)⟩
  rw [add_plain] at this
  simpa [kNats, Kd.slice] using this

set_option maxRecDepth 100000 in
set_option maxHeartbeats 8000000 in
theorem dparts_any (o a b : List Str) (A1 A2 A3 : Option Addr) (c1 c2 c3 : Nat) (w : World) (h1 : Kd.C kStr w A1 o.length o) (h2 : Kd.C kStr w A2 a.length a) (h3 : Kd.C kStr w A3 b.length b)
    (l1 : o.length ≤ c1) (l2 : a.length ≤ c2) (l3 : b.length ≤ c3) (lo : o.length ≤ 3000) (la : a.length ≤ 3000) (lb : b.length ≤ 3000) (hs : ∀ l ∈ [o, a, b], ∀ s ∈ l, s.length ≤ 1000000000) :
    Calls Tryz.prog 80 #[.slice A1 o.length c1, .slice A2 a.length c2, .slice A3 b.length c3] w fun e w' => ∃ v, e = .returned v ∧ kCk.R 99 w' w.heap.size (fun _ => True) v (partsC o a b) ∧ Below w.heap.size w w' := by
  obtain ⟨W1, hW1⟩ : ∃ W1, W1 = w.alloc (.cells #[.slice A1 o.length c1, .slice A2 a.length c2, .slice A3 b.length c3] 62) := ⟨_, rfl⟩
  have hb1 : Below w.heap.size w W1 := by rw [hW1]; exact below_alloc (Below.refl _ _) _
  have hC : Kd.C kStrs W1 (some ⟨w.heap.size, 0, none⟩) 3 [o, a, b] := three_rows (by rw [hW1]; exact blk_new _ _) (Kd.C_below h1 hb1) (Kd.C_below h2 hb1) (Kd.C_below h3 hb1) l1 l2 l3
  have hN := numbers_any [o, a, b] (some ⟨w.heap.size, 0, none⟩) 3 W1 hC (by simp) (by simp; omega) hs
  obtain ⟨x, y, z, hxyz, ex, ey, ez⟩ := numRows3 o a b
  rw [hxyz] at hN
  have HP := Lib.hid (partsC_of hxyz)
  have HN := Lib.hid hN
  have HB := Lib.hid hb1
  have EX := Lib.hid ex
  have EY := Lib.hid ey
  have EZ := Lib.hid ez
  rw [HP.out]
  rw [hW1] at HN HB
  clear hN hC hb1 hW1 hxyz ex ey ez hs h1 h2 h3 l1 l2 l3 HP
  go_enter Tryz.func80, Tryz.ntmps80
  go_wp2_with fail
  refine HN.out.mono ?_
  rintro e W2 ⟨v, rfl, hR, hb2⟩
  obtain ⟨g, cap, u1, rfl, p1, r1⟩ := nats_at hR 0 x rfl
  obtain ⟨_, _, u2, e2, p2, r2⟩ := nats_at hR 1 y rfl
  cases e2
  obtain ⟨_, _, u3, e3, p3, r3⟩ := nats_at hR 2 z rfl
  cases e3
  obtain ⟨X1, d1, rfl, k1, q1⟩ := LiesA.of_R (w' := W2) r1
  obtain ⟨X2, d2, rfl, k2, q2⟩ := LiesA.of_R (w' := W2) r2
  obtain ⟨X3, d3, rfl, k3, q3⟩ := LiesA.of_R (w' := W2) r3
  have HB2 := Lib.hid (HB.out.trans (hb2.mono HB.out.size))
  clear hR r1 r2 r3 hb2 HB
  go_wp2_with fail
  refine wp_region_still_tail 9 (by kernel_rfl) (by kernel_rfl) ?_
  obtain ⟨W5, hW5⟩ : ∃ W5 : World, W5 = { W2 with drawn := W2.drawn + 1 } := ⟨_, rfl⟩
  rw [← hW5]
  have p1' : W5.cell? ⟨g, 0, none⟩ = some (.slice X1 x.length d1) := by rw [hW5]; exact p1
  have p2' : W5.cell? ⟨g, 1, none⟩ = some (.slice X2 y.length d2) := by rw [hW5]; exact p2
  have p3' : W5.cell? ⟨g, 2, none⟩ = some (.slice X3 z.length d3) := by rw [hW5]; exact p3
  have Q1 : Hid (LiesA W5 W5.heap.size X1 x) := by rw [hW5]; exact q1
  have Q2 : Hid (LiesA W5 W5.heap.size X2 y) := by rw [hW5]; exact q2
  have Q3 : Hid (LiesA W5 W5.heap.size X3 z) := by rw [hW5]; exact q3
  have HB5 : Hid (Below w.heap.size w W5) := by rw [hW5]; exact Lib.hid ⟨HB2.out.os, HB2.out.tape, HB2.out.output, HB2.out.size, HB2.out.block⟩
  clear hW5 p1 p2 p3 q1 q2 q3 HB2
  have i0 : (0 : Int) < ([x, y, z].length : Int) := by simp
  simp only [List.length_cons, List.length_nil, Nat.zero_add, Nat.reduceAdd] at *
  simp only [List.take_succ_cons, List.take_zero, List.drop_succ_cons, List.drop_zero]
  repeat still_step
  refine wpStill_nil ?_
  go_wp2_with fail
  refine (pchunks_any x y z X1 X2 X3 d1 d2 d3 W5 Q1.out Q2.out Q3.out k1 k2 k3 (by rw [EX.out]; exact lo) (by rw [EY.out]; exact la) (by rw [EZ.out]; exact lb)).mono ?_
  rintro e W6 ⟨v, rfl, hR6, hb6⟩
  have HR6 := Lib.hid hR6
  have HB6 := Lib.hid (HB5.out.trans (hb6.mono HB5.out.size))
  have HZ := Lib.hid HB5.out.size
  clear hR6 hb6
  go_wp2
  go_ret
  exact ⟨_, rfl, Kd.R_lower HR6.out HZ.out, HB6.out⟩

end Go.Proofs.YtogfkfkejaiecaaGreatDoor.Dm
