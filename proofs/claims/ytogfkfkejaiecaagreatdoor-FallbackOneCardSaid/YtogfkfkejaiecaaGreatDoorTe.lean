/- Contracts of diff3: chunks, the iterator. -/
import Derived.Test.YtogfkfkejaiecaaGreatDoorTc
import Derived.Test.YtogfkfkejaiecaaGreatDoorTd
import Derived.Test.YtogfkfkejaiecaaGreatDoorTwm

namespace Go.Proofs.YtogfkfkejaiecaaGreatDoor.Di
open Go.RowKit Go.Shelf Pl Ut Da Db Dc Dd De Dg Dh Dy Go.Proofs.YtogfkfkejaiecaaGreatDoorW.PrintWords
set_option linter.unusedVariables false
set_option linter.unusedSimpArgs false
attribute [local go_sem] Oper.semAt_some

theorem Lies.up {w : World} {B0 B1 : Nat} {A : Option Addr} {xs : List Nat} (h : Lies w B0 A xs) (hb : B0 ≤ B1) : Lies w B1 A xs := fun k x hx => by
  obtain ⟨ad, h1, h2, h3⟩ := h k x hx
  exact ⟨ad, h1, Nat.lt_of_lt_of_le h2 hb, h3⟩
/-- All rows but those of chunks stand. -/
def KpC (W W' : World) : Prop := ∀ (k : Nat) (c : Array Value) (t : TypeId) (f : Nat × Nat), W.heap[k]? = some (.cells c t f) → t = 173 ∨ t = 130 ∨ t = 3 → W'.heap[k]? = some (.cells c t f)
theorem KpC.t {A B C : World} (h : KpC A B) (k : KpC B C) : KpC A C := fun n c t f hc ht => k n c t f (h n c t f hc ht) ht
theorem KpC.b (W : World) (l : Nat) (o o' : Obj) (h : W.heap[l]? = some o) (ho : o.isCells = false) : KpC W (W.putObj l o') := fun n c t f hc ht => by
  have hne : n ≠ l := by
    rintro rfl
    rw [h] at hc; cases hc; cases ho
  rw [World.putObj_heap_other hne]; exact hc
/-- A chunk's ends, as the iterator tells them. -/
def encC (c : Ck) : Array Value := #[.agg (ends3 c.o1 c.a1 c.b1), .agg (ends3 c.o2 c.a2 c.b2)]

theorem bcell {W w1 : World} (hb : Below W.heap.size W w1) : (∀ b o, b < W.heap.size → w1.cell? ⟨b, o, none⟩ = W.cell? ⟨b, o, none⟩) ∧ (∀ b o, b < W.heap.size → w1.frozen? ⟨b, o, none⟩ = W.frozen? ⟨b, o, none⟩) :=
  ⟨fun b o h => hb.cell (p := ⟨b, o, none⟩) h, fun b o h => hb.frozen (p := ⟨b, o, none⟩) h⟩
theorem blt {W w1 : World} (hb : Below W.heap.size W w1) : (∀ k, k < W.heap.size → k < w1.heap.size) ∧ (∀ k, k < W.heap.size → ¬ k = w1.heap.size) ∧ (∀ k, k < W.heap.size → ¬ w1.heap.size = k) :=
  ⟨fun k h => Nat.lt_of_lt_of_le h hb.size, fun k h e => by have := hb.size; omega, fun k h e => by have := hb.size; omega⟩
theorem box_new (W : World) (v : Value) (t : TypeId) : (W.alloc (.cells #[v] t)).cell? ⟨W.heap.size, 0, none⟩ = some v := by rw [blk_cell (blk_new _ _)]; rfl
theorem box_free (W : World) (v : Value) (t : TypeId) : (W.alloc (.cells #[v] t)).frozen? ⟨W.heap.size, 0, none⟩ = false := blk_frozen (blk_new _ _) 0
theorem box_old (W : World) (v : Value) (t : TypeId) (o : Obj) : ((W.alloc (.cells #[v] t)).alloc o).cell? ⟨W.heap.size, 0, none⟩ = some v := by rw [blk_cell (blk_alloc (blk_new _ _) _)]; rfl
theorem box_old_free (W : World) (v : Value) (t : TypeId) (o : Obj) : ((W.alloc (.cells #[v] t)).alloc o).frozen? ⟨W.heap.size, 0, none⟩ = false := blk_frozen (blk_alloc (blk_new _ _) _) 0
theorem box_next (W : World) (v : Value) (t : TypeId) (o : Obj) : ((W.alloc o).alloc (.cells #[v] t)).cell? ⟨W.heap.size + 1, 0, none⟩ = some v := by have := box_new (W.alloc o) v t; rwa [World.size_alloc] at this
theorem box_next_free (W : World) (v : Value) (t : TypeId) (o : Obj) : ((W.alloc o).alloc (.cells #[v] t)).frozen? ⟨W.heap.size + 1, 0, none⟩ = false := by have := box_free (W.alloc o) v t; rwa [World.size_alloc] at this
theorem below_set0 {B : Nat} {w W : World} (h : Below B w W) {g : Nat} (hg : B ≤ g) (v : Value) : Below B w (W.setCell ⟨g, 0, none⟩ v) := h.setCell (p := ⟨g, 0, none⟩) hg v
/-- What stands behind the two matches. -/
def After0 (W : World) (o a b : List Nat) (Bo Ba Bb l : Nat) (Ao Aa Ab : Option Addr) (co ca cb : Nat) : Exit → Act → World → Prop
  | .normal, a', w' => ∃ (M N gm gn : Nat) (u13 u14 u15 u16 u17 u18 : Value), a' = { tmps := #[.func (.yield l) #[] #[], .pointer (some ⟨Bo, 0, none⟩), .pointer (some ⟨Ba, 0, none⟩), .pointer (some ⟨Bb, 0, none⟩), undef, .pointer (some ⟨M, 0, none⟩), .pointer (some ⟨N, 0, none⟩), undef, undef, undef, undef, undef, undef, u13, u14, u15, u16, u17, u18, undef, undef, undef, undef, undef, undef, undef, undef, undef, undef, undef, undef, undef, undef, undef, undef, undef, undef, undef, undef, undef, undef, undef, undef, undef, undef, undef, undef, undef, undef, undef, undef, undef, undef, undef, undef, undef, undef], defers := [] } ∧
      w'.heap[M]? = some (.cells #[.slice (some ⟨gm, 0, none⟩) o.length o.length] 130 (0, 0)) ∧ w'.heap[N]? = some (.cells #[.slice (some ⟨gn, 0, none⟩) o.length o.length] 130 (0, 0)) ∧
      RowI w' gm (matchL o a) ∧ RowI w' gn (matchL o b) ∧ Below W.heap.size W w'
  | _, _, _ => False

/-- What stands behind the two places. -/
def After1 (W1 : World) (Bo Ba Bb l M N lo la lb : Nat) (u13 u14 u15 u16 u17 u18 : Value) : Exit → Act → World → Prop
  | .normal, a', w' => ∃ (T L : Nat) (u19 u20 u21 u22 u23 u24 u25 u26 : Value), a' = { tmps := #[.func (.yield l) #[] #[], .pointer (some ⟨Bo, 0, none⟩), .pointer (some ⟨Ba, 0, none⟩), .pointer (some ⟨Bb, 0, none⟩), undef, .pointer (some ⟨M, 0, none⟩), .pointer (some ⟨N, 0, none⟩), .pointer (some ⟨T, 0, none⟩), .pointer (some ⟨L, 0, none⟩), undef, undef, undef, undef, u13, u14, u15, u16, u17, u18, u19, u20, u21, u22, u23, u24, u25, u26, undef, undef, undef, undef, undef, undef, undef, undef, undef, undef, undef, undef, undef, undef, undef, undef, undef, undef, undef, undef, undef, undef, undef, undef, undef, undef, undef, undef, undef, undef], defers := [] } ∧
      w'.heap[T]? = some (.cells (ends3 0 0 0) 173 (0, 0)) ∧ w'.heap[L]? = some (.cells (ends3 lo la lb) 173 (0, 0)) ∧ Below W1.heap.size W1 w' ∧ W1.heap.size ≤ T ∧ T ≠ L
  | _, _, _ => False
/-- How far the iterator has come. -/
def comeC (T : Nat) (w : World) : Nat := match w.heap[T]? with
  | some (.cells c _ _) => (intOf (c.getD 0 undef)).toNat + (intOf (c.getD 1 undef)).toNat + (intOf (c.getD 2 undef)).toNat
  | _ => 0
theorem memC_come {w : World} {T L M N gm gn : Nat} {ma mb : List Int} {lo la lb p q s : Nat} (h : MemC w T L M N gm gn ma mb lo la lb p q s) : comeC T w = p + q + s := by
  unfold comeC; rw [h.at_]; simp [ends3, intOf]
theorem chunkGo_end (o a b : List Nat) : ∀ f, chunkGo o a b f o.length a.length b.length = []
  | 0 => rfl
  | f + 1 => by unfold chunkGo; rw [if_pos ⟨rfl, rfl, rfl⟩]
/-- Are two places the same? -/
def eq3 (p q s p' q' s' : Nat) : Bool := p == p' && (q == q' && s == s')
theorem eq3_iff (p q s p' q' s' : Nat) : eq3 p q s p' q' s' = true ↔ p = p' ∧ q = q' ∧ s = s' := by simp [eq3]
theorem eqEnds (d : Nat) (w : World) (p q s p' q' s' : Nat) :
    (Op.equalIn (d + 2) 173 (.agg #[.int .i64 (p : Int), .int .i64 (q : Int), .int .i64 (s : Int)]) (.agg #[.int .i64 (p' : Int), .int .i64 (q' : Int), .int .i64 (s' : Int)])).run Tryz.prog w = .ok (eq3 p q s p' q' s') w := by
  have hc : ∀ x y : Nat, (((x : Int) == (y : Int)) : Bool) = (x == y) := fun x y => by rw [Bool.eq_iff_iff, beq_iff_eq, beq_iff_eq]; omega
  have h : eq3 p q s p' q' s' = ((p : Int) == (p' : Int) && ((q : Int) == (q' : Int) && ((s : Int) == (s' : Int)))) := by
    unfold eq3; rw [hc, hc, hc]
  rw [h]
  refine eqA_of Tryz.underlying173 (by kernel_rfl) ?_
  refine eqf_cons (by rfl) (by go_simp; rfl) (by go_simp; rfl) (by go_simp) ?_
  refine eqf_cons (by rfl) (by go_simp; rfl) (by go_simp; rfl) (by go_simp) ?_
  exact eqf_last (by rfl) (by go_simp; rfl) (by go_simp; rfl) (by go_simp)
attribute [local go_sem high] eqEnds
theorem memC_other {w : World} {T L M N gm gn : Nat} {ma mb : List Int} {lo la lb p q s R : Nat} {cs : Array Value} (h : MemC w T L M N gm gn ma mb lo la lb p q s) (hR : w.heap[R]? = some (.cells cs 173 (0, 0))) (hT : T ≠ R) (hL : L ≠ R) (i : Nat) (u : Value) :
    MemC (w.setCell ⟨R, i, none⟩ u) T L M N gm gn ma mb lo la lb p q s :=
  ⟨blk_far h.at_ hT _, blk_far h.last hL _, blk_far h.bm (blk_ne h.bm hR (by decide)) _, blk_far h.bn (blk_ne h.bn hR (by decide)) _, blk_far h.rm (blk_ne h.rm hR (by decide)) _, blk_far h.rn (blk_ne h.rn hR (by decide)) _, h.lm, h.ln⟩
/-- Three numbers are put in the place of three. -/
theorem set3 {w : World} {R p q s : Nat} (h : w.heap[R]? = some (.cells (ends3 p q s) 173 (0, 0))) (p' q' s' : Nat) :
    (((w.setCell ⟨R, 0, none⟩ (.int .i64 (p' : Int))).setCell ⟨R, 1, none⟩ (.int .i64 (q' : Int))).setCell ⟨R, 2, none⟩ (.int .i64 (s' : Int))).heap[R]? = some (.cells (ends3 p' q' s') 173 (0, 0)) :=
  blk_set (blk_set (blk_set h 0 _) 1 _) 2 _
theorem memC_step {w : World} {T L M N gm gn : Nat} {ma mb : List Int} {lo la lb p q s : Nat} (h : MemC w T L M N gm gn ma mb lo la lb p q s) (hT : T ≠ L) (p' q' s' : Nat) :
    MemC (((w.setCell ⟨T, 0, none⟩ (.int .i64 (p' : Int))).setCell ⟨T, 1, none⟩ (.int .i64 (q' : Int))).setCell ⟨T, 2, none⟩ (.int .i64 (s' : Int))) T L M N gm gn ma mb lo la lb p' q' s' := by
  have far : ∀ {k : Nat} {o : Obj}, w.heap[k]? = some o → k ≠ T → (((w.setCell ⟨T, 0, none⟩ (.int .i64 (p' : Int))).setCell ⟨T, 1, none⟩ (.int .i64 (q' : Int))).setCell ⟨T, 2, none⟩ (.int .i64 (s' : Int))).heap[k]? = some o := fun {k} {o} hk hne => by
    rw [Below.heap_setCell _ _ _ _ hne, Below.heap_setCell _ _ _ _ hne, Below.heap_setCell _ _ _ _ hne]; exact hk
  exact ⟨set3 h.at_ p' q' s', far h.last (fun e => hT e.symm), far h.bm (blk_ne h.bm h.at_ (by decide)), far h.bn (blk_ne h.bn h.at_ (by decide)), far h.rm (blk_ne h.rm h.at_ (by decide)), far h.rn (blk_ne h.rn h.at_ (by decide)), h.lm, h.ln⟩
theorem grownBy_set (W : World) (b i : Nat) (v : Value) : W.grownBy (W.setCell ⟨b, i, none⟩ v) (some b) :=
  ⟨rfl, rfl, rfl, by simp, fun k _ hk => Below.heap_setCell _ _ _ k (fun e => hk (by rw [e]))⟩
theorem blk_new1 (W : World) (o o' : Obj) : ((W.alloc o).alloc o').heap[W.heap.size + 1]? = some o' := by have := blk_new (W.alloc o) o'; rwa [World.size_alloc] at this
theorem blk_new_s (W : World) (p : Addr) (v : Value) (o : Obj) : ((W.setCell p v).alloc o).heap[W.heap.size]? = some o := by
  have := blk_new (W.setCell p v) o
  rwa [show (W.setCell p v).heap.size = W.heap.size by simp] at this
theorem rowI_alloc {X : World} {g : Nat} {xs : List Int} (h : RowI X g xs) (o : Obj) : RowI (X.alloc o) g xs := blk_alloc h o
theorem rowI_below {X Y : World} {g : Nat} {xs : List Int} (h : RowI X g xs) (hb : Below X.heap.size X Y) : RowI Y g xs := blk_below h hb
theorem blk_set1 {w : World} {g : Nat} {t : TypeId} {v u : Value} (h : w.heap[g]? = some (.cells #[v] t (0, 0))) : (w.setCell ⟨g, 0, none⟩ u).heap[g]? = some (.cells #[u] t (0, 0)) := blk_set h 0 u
theorem rowI_far {X : World} {g k : Nat} {xs : List Int} (h : RowI X g xs) (hk : g ≠ k) (u : Value) : RowI (X.setCell ⟨k, 0, none⟩ u) g xs := blk_far h hk u

set_option maxRecDepth 100000 in
set_option maxHeartbeats 8000000 in
theorem chunks1_all (n : Nat) (hn : 3 ≤ n) (o a b : List Nat) (Bo Ba Bb : Nat) (Ao Aa Ab : Option Addr) (co ca cb : Nat) (w : World) (ho : Lies w w.heap.size Ao o) (ha : Lies w w.heap.size Aa a) (hb : Lies w w.heap.size Ab b)
    (hbo : w.cell? ⟨Bo, 0, none⟩ = some (.slice Ao o.length co)) (hba : w.cell? ⟨Ba, 0, none⟩ = some (.slice Aa a.length ca)) (hbb : w.cell? ⟨Bb, 0, none⟩ = some (.slice Ab b.length cb))
    (lo : o.length ≤ 3000) (la : a.length ≤ 3000) (lb : b.length ≤ 3000) :
    SeqAll Fence.wide n Tryz.prog 131 #[.pointer (some ⟨Bo, 0, none⟩), .pointer (some ⟨Ba, 0, none⟩), .pointer (some ⟨Bb, 0, none⟩)] encC 173 KpC (chunksL o a b) w := by
  intro l J W hW hJ hY h0
  have lo1 : Lies W W.heap.size Ao o := Lies.up (ho.below hW) hW.size
  have la1 : Lies W W.heap.size Aa a := Lies.up (ha.below hW) hW.size
  have lb1 : Lies W W.heap.size Ab b := Lies.up (hb.below hW) hW.size
  have co1 : W.cell? ⟨Bo, 0, none⟩ = some (.slice Ao o.length co) := pw_cell_below hW hbo
  have ca1 : W.cell? ⟨Ba, 0, none⟩ = some (.slice Aa a.length ca) := pw_cell_below hW hba
  have cb1 : W.cell? ⟨Bb, 0, none⟩ = some (.slice Ab b.length cb) := pw_cell_below hW hbb
  have LO := Lib.hid lo1
  have LA := Lib.hid la1
  have LB := Lib.hid lb1
  clear ho ha hb hbo hba hbb lo1 la1 lb1
  refine callsIn_of_wp Tryz.func131 rfl trivial ?_ rfl
  simp only [Tryz.ntmps131, List.size_toArray, List.length_cons, List.length_nil, Nat.reduceAdd, Nat.reduceSub, Array.replicate_succ, Array.replicate_zero, List.push_toArray, List.append_toArray, List.nil_append, List.cons_append]
  gi_wp2
  refine wpIn_mono (Q := After0 W o a b Bo Ba Bb l Ao Aa Ab co ca cb) (wpIn_wide.2 ?_) ?_
  · have hBW := Below.refl W.heap.size W
    have KM : ∀ (x : List Nat) (Ax : Option Addr) (cx : Nat) (W' : World), (x = a ∧ Ax = Aa ∧ cx = ca ∨ x = b ∧ Ax = Ab ∧ cx = cb) → Below W.heap.size W W' →
        Calls Tryz.prog 132 #[.slice Ao o.length co, .slice Ax x.length cx] W' fun e w' => ∃ g, e = .returned (.slice (some ⟨g, 0, none⟩) o.length o.length) ∧ Hid (Below W.heap.size W w') ∧ Below W'.heap.size W' w' ∧ RowI w' g (matchL o x) ∧ W'.heap.size ≤ g ∧ g < w'.heap.size := by
      rintro x Ax cx W' (⟨rfl, rfl, rfl⟩ | ⟨rfl, rfl, rfl⟩) h
      · exact (match_any o x Ao Ax co cx W' (Lies.up (LO.out.below h) h.size) (Lies.up (LA.out.below h) h.size) (by omega) (by omega)).mono fun e w' ⟨he, hr, hb⟩ => ⟨_, he, Lib.hid (h.trans (hb.mono h.size)), hb, hr, Nat.le_refl _, hr.lt⟩
      · exact (match_any o x Ao Ax co cx W' (Lies.up (LO.out.below h) h.size) (Lies.up (LB.out.below h) h.size) (by omega) (by omega)).mono fun e w' ⟨he, hr, hb⟩ => ⟨_, he, Lib.hid (h.trans (hb.mono h.size)), hb, hr, Nat.le_refl _, hr.lt⟩
    have KS : ∀ W', Below W.heap.size W W' → (W'.cell? ⟨Bo, 0, none⟩ = some (.slice Ao o.length co) ∧ W'.cell? ⟨Ba, 0, none⟩ = some (.slice Aa a.length ca) ∧ W'.cell? ⟨Bb, 0, none⟩ = some (.slice Ab b.length cb)) ∧ Below W.heap.size W W' :=
      fun W' h => ⟨⟨pw_cell_below h co1, pw_cell_below h ca1, pw_cell_below h cb1⟩, h⟩
    have KKM := Lib.hid KM
    have KKS := Lib.hid KS
    clear KM KS
    go_region_held3 (fun w' => (w'.cell? ⟨Bo, 0, none⟩ = some (.slice Ao o.length co) ∧ w'.cell? ⟨Ba, 0, none⟩ = some (.slice Aa a.length ca) ∧ w'.cell? ⟨Bb, 0, none⟩ = some (.slice Ab b.length cb)) ∧ Below W.heap.size W w')
      ((refine KKS.out _ ?_; go_split_ands; (repeat (first | assumption | exact Hid.out (by assumption) | refine below_drew ?_ | refine below_alloc ?_ _ | refine below_set0 ?_ (by first | omega | (simp; omega) | simp) _))))
      ((go_at_call 132; refine (KKM.out _ _ _ _ (by first | exact .inl ⟨rfl, rfl, rfl⟩ | exact .inr ⟨rfl, rfl, rfl⟩) (by go_split_ands; assumption)).mono ?_; rintro e wc ⟨gc, rfl, hbc, hbd, hrc, hgc, hgd⟩; (try simp at hgc); have hzc := hbd.size; have hsc := hbc.out.size; (try simp at hzc); obtain ⟨hcc, hff⟩ := bcell hbd; obtain ⟨hl1, hl2, hl3⟩ := blt hbd; (try simp at hcc hff hl1 hl2 hl3); (try (have q1 : wc.cell? ⟨W.heap.size, 0, none⟩ = some (.slice none 0 0) := (hbd.cell (p := ⟨W.heap.size, 0, none⟩) (by first | (simp; done) | (simp; omega) | omega)).trans (by first | assumption | exact box_new _ _ _ | exact box_old _ _ _ _ | exact box_next _ _ _ _ | exact box_free _ _ _ | exact box_old_free _ _ _ _ | exact box_next_free _ _ _ _); have q2 : wc.frozen? ⟨W.heap.size, 0, none⟩ = false := (hbd.frozen (p := ⟨W.heap.size, 0, none⟩) (by first | (simp; done) | (simp; omega) | omega)).trans (by first | assumption | exact box_new _ _ _ | exact box_old _ _ _ _ | exact box_next _ _ _ _ | exact box_free _ _ _ | exact box_old_free _ _ _ _ | exact box_next_free _ _ _ _); have q3 : W.heap.size < wc.heap.size := Nat.lt_of_lt_of_le (by first | omega | (simp; done) | (simp; omega)) hbd.size; have q4 : ¬ W.heap.size = wc.heap.size := (by omega); have q5 : ¬ wc.heap.size = W.heap.size := (by omega))); (try (have r1 : wc.cell? ⟨W.heap.size + 1, 0, none⟩ = some (.slice none 0 0) := (hbd.cell (p := ⟨W.heap.size + 1, 0, none⟩) (by first | (simp; done) | (simp; omega) | omega)).trans (by first | assumption | exact box_new _ _ _ | exact box_old _ _ _ _ | exact box_next _ _ _ _ | exact box_free _ _ _ | exact box_old_free _ _ _ _ | exact box_next_free _ _ _ _); have r2 : wc.frozen? ⟨W.heap.size + 1, 0, none⟩ = false := (hbd.frozen (p := ⟨W.heap.size + 1, 0, none⟩) (by first | (simp; done) | (simp; omega) | omega)).trans (by first | assumption | exact box_new _ _ _ | exact box_old _ _ _ _ | exact box_next _ _ _ _ | exact box_free _ _ _ | exact box_old_free _ _ _ _ | exact box_next_free _ _ _ _); have r3 : W.heap.size + 1 < wc.heap.size := Nat.lt_of_lt_of_le (by first | omega | (simp; done) | (simp; omega)) hbd.size; have r4 : ¬ W.heap.size + 1 = wc.heap.size := (by omega); have r5 : ¬ wc.heap.size = W.heap.size + 1 := (by omega)))))
    all_goals
      clear hBW
      refine ⟨_, _, ?_, ?_, _, _, _, _, _, _, rfl, ?_, ?_, ?_, ?_, ?_⟩
      rotate_left 2
      · (repeat (first | exact blk_new _ _ | exact blk_new1 _ _ _ | exact blk_new_s _ _ _ _ | refine blk_alloc ?_ _ | refine blk_set1 (v := .slice none 0 0) ?_ | refine blk_far ?_ (by first | omega | (simp; done) | (simp; omega)) _ | refine blk_below ?_ (by assumption)))
      · (repeat (first | exact blk_new _ _ | exact blk_new1 _ _ _ | exact blk_new_s _ _ _ _ | refine blk_alloc ?_ _ | refine blk_set1 (v := .slice none 0 0) ?_ | refine blk_far ?_ (by first | omega | (simp; done) | (simp; omega)) _ | refine blk_below ?_ (by assumption)))
      · (repeat (first | assumption | refine rowI_alloc ?_ _ | refine rowI_far ?_ (by first | omega | (simp; done) | (simp; omega)) _ | refine rowI_below ?_ (by assumption)))
      · (repeat (first | assumption | refine rowI_alloc ?_ _ | refine rowI_far ?_ (by first | omega | (simp; done) | (simp; omega)) _ | refine rowI_below ?_ (by assumption)))
      · (repeat (first | assumption | exact Hid.out (by assumption) | refine below_drew ?_ | refine below_alloc ?_ _ | refine below_set0 ?_ (by first | omega | (simp; done) | (simp; omega)) _))
  · rintro e a' W1 hA
    cases e with
    | normal =>
      obtain ⟨M, N, gm, gn, u13, u14, u15, u16, u17, u18, rfl, hM, hN, hrm, hrn, hb1⟩ := hA
      have co2 := pw_cell_below hb1 co1
      have ca2 := pw_cell_below hb1 ca1
      have cb2 := pw_cell_below hb1 cb1
      have HM := Lib.hid hM
      have HN := Lib.hid hN
      have HRM := Lib.hid hrm
      have HRN := Lib.hid hrn
      have HB1 := Lib.hid hb1
      clear hM hN hrm hrn hb1 co1 ca1 cb1 LO LA LB
      gi_wp2
      refine wpIn_mono (Q := After1 W1 Bo Ba Bb l M N o.length a.length b.length u13 u14 u15 u16 u17 u18) (wpIn_wide.2 ?_) ?_
      · have hBW := Below.refl W1.heap.size W1
        have KS : ∀ W', Below W1.heap.size W1 W' → (W'.cell? ⟨Bo, 0, none⟩ = some (.slice Ao o.length co) ∧ W'.cell? ⟨Ba, 0, none⟩ = some (.slice Aa a.length ca) ∧ W'.cell? ⟨Bb, 0, none⟩ = some (.slice Ab b.length cb)) ∧ Below W1.heap.size W1 W' :=
          fun W' h => ⟨⟨pw_cell_below h co2, pw_cell_below h ca2, pw_cell_below h cb2⟩, h⟩
        have KKS := Lib.hid KS
        clear KS HRM HRN HM HN HB1 hY h0 hJ
        go_region_held3 (fun w' => (w'.cell? ⟨Bo, 0, none⟩ = some (.slice Ao o.length co) ∧ w'.cell? ⟨Ba, 0, none⟩ = some (.slice Aa a.length ca) ∧ w'.cell? ⟨Bb, 0, none⟩ = some (.slice Ab b.length cb)) ∧ Below W1.heap.size W1 w')
          ((refine KKS.out _ ?_; go_split_ands; (repeat (first | assumption | refine below_drew ?_ | refine below_alloc ?_ _ | refine Below.setCell ?_ (by first | omega | (simp; done) | (simp; omega)) _))))
          (fail)
        all_goals
          refine ⟨_, _, _, _, _, _, _, _, _, _, rfl, ?_, ?_, ?_, ?_, ?_⟩
          · (repeat (first | exact blk_new _ _ | exact blk_new1 _ _ _ | refine blk_alloc ?_ _))
          · (repeat (first | exact blk_new _ _ | exact blk_new1 _ _ _ | refine blk_alloc ?_ _))
          · (repeat (first | assumption | refine below_drew ?_ | refine below_alloc ?_ _))
          · (first | omega | (simp; done))
          · (first | omega | (simp; done))
      · rintro e a'' W2 hA
        cases e with
        | normal =>
          obtain ⟨T, L, u19, u20, u21, u22, u23, u24, u25, u26, rfl, hT, hL, hb2, hTs, hTL⟩ := hA
          have HMem := Lib.hid (show MemC W2 T L M N gm gn (matchL o a) (matchL o b) o.length a.length b.length 0 0 0 from
            ⟨hT, hL, blk_below HM.out hb2, blk_below HN.out hb2, rowI_below HRM.out hb2, rowI_below HRN.out hb2, (matchL_rising o a).2, (matchL_rising o b).2⟩)
          have HB2 := Lib.hid (HB1.out.trans (hb2.mono HB1.out.size))
          have HTW := Lib.hid (show W.heap.size ≤ T from Nat.le_trans HB1.out.size hTs)
          have HTL := Lib.hid hTL
          have HJ2 : Hid (J [] W2) := Lib.hid (hJ [] W W2 none h0 (grown_of_below HB2.out none) (fun r e => by cases e))
          clear HM HN HRM HRN HB1 hT hL hb2 hTs hTL h0 co2 ca2 cb2
          gi_wp2
          gi_loopw [12] (fun u wr => ∃ (p q s f : Nat) (pre : List Ck), Hid (MemC wr T L M N gm gn (matchL o a) (matchL o b) o.length a.length b.length p q s) ∧ Hid (AtC o a b p q s) ∧ Hid (pre ++ chunkGo o a b f p q s = chunksL o a b) ∧ Hid (o.length + a.length + b.length ≤ f + (p + q + s)) ∧ Hid (J pre wr))
            (fun u wr => o.length + a.length + b.length - comeC T wr)
          case atStart => exact ⟨0, 0, 0, o.length + a.length + b.length, [], HMem, Lib.hid (AtC.start o a b), Lib.hid rfl, Lib.hid (by omega), HJ2⟩
          case round =>
            clear HMem HJ2 HB2
            obtain ⟨p, q, s, f, pre, HMem, HAt, HFull, HF, HJ⟩ := hrel
            by_cases hfin : p = o.length ∧ q = a.length ∧ s = b.length
            · have heq := (eq3_iff p q s o.length a.length b.length).2 hfin
              obtain ⟨rfl, rfl, rfl⟩ := hfin
              have a0 := HMem.out.a0
              have a1 := HMem.out.a1
              have a2 := HMem.out.a2
              have l0 := HMem.out.l0
              have l1 := HMem.out.l1
              have l2 := HMem.out.l2
              have HP : Hid (J (chunksL o a b) wr) := by rw [← HFull.out, chunkGo_end, List.append_nil]; exact HJ
              gi_wp2
              go_end0
              exact ⟨⟨_, rfl⟩, HP.out⟩
            · have a0 := HMem.out.a0
              have a1 := HMem.out.a1
              have a2 := HMem.out.a2
              have l0 := HMem.out.l0
              have l1 := HMem.out.l1
              have l2 := HMem.out.l2
              obtain ⟨tt, htt, hAt2, hp2, hq2, hs2, hlt2⟩ := stepC_at HAt.out hfin
              have hpo := HAt.out.po
              have hqa := HAt.out.qa
              have hsb := HAt.out.sb
              have heq : eq3 p q s o.length a.length b.length = false := by rw [Bool.eq_false_iff]; exact fun h => hfin ((eq3_iff _ _ _ _ _ _).1 h)
              have HTT := Lib.hid htt
              have HAt2 := Lib.hid hAt2
              have HLT := Lib.hid hlt2
              clear htt hAt2 hp2 hq2 hs2 hlt2
              have hnx := next_any T L M N gm gn _ _ _ _ _ _ _ _ _ HMem.out hpo (by omega)
              obtain ⟨e1, he1⟩ : ∃ e1, e1 = (nextT (matchL o a) (matchL o b) o.length a.length b.length p).1 := ⟨_, rfl⟩
              obtain ⟨e2, he2⟩ : ∃ e2, e2 = (nextT (matchL o a) (matchL o b) o.length a.length b.length p).2.1 := ⟨_, rfl⟩
              obtain ⟨e3, he3⟩ : ∃ e3, e3 = (nextT (matchL o a) (matchL o b) o.length a.length b.length p).2.2 := ⟨_, rfl⟩
              rw [← he1, ← he2, ← he3] at hnx
              have HNX := Lib.hid hnx
              have HE1 := Lib.hid (And.intro he1 (And.intro he2 he3))
              clear hnx he1 he2 he3
              gi_wp2
              refine ⟨trivial, fun h => (by cases h), ?_⟩
              refine (callsIn_wide.2 HNX.out).mono ?_
              rintro e w3 ⟨rfl, hb3⟩
              unfold ends3
              gi_wp2
              obtain ⟨R, hR⟩ : ∃ R, R = w3.heap.size := ⟨_, rfl⟩
              have hRn : (w3.alloc (.cells #[.int .i64 (e1 : Int), .int .i64 (e2 : Int), .int .i64 (e3 : Int)] 173)).heap[R]? = some (.cells (ends3 e1 e2 e3) 173 (0, 0)) := by rw [hR]; exact blk_new _ _
              have hb4 := below_alloc hb3 (.cells #[.int .i64 (e1 : Int), .int .i64 (e2 : Int), .int .i64 (e3 : Int)] 173)
              obtain ⟨U, hU⟩ : ∃ U, U = w3.alloc (.cells #[.int .i64 (e1 : Int), .int .i64 (e2 : Int), .int .i64 (e3 : Int)] 173) := ⟨_, rfl⟩
              rw [← hU] at hRn hb4 ⊢
              rw [← hR]
              have HMU := Lib.hid (HMem.out.below hb4)
              have hst := stable_any T L M N gm gn _ _ _ _ _ _ _ _ U HMU.out hpo (by omega) (by omega) (by omega)
              obtain ⟨k, hk⟩ : ∃ k, k = stabN ((matchL o a).drop p) ((matchL o b).drop p) q s := ⟨_, rfl⟩
              rw [← hk] at hst
              have HST := Lib.hid hst
              have HK := Lib.hid hk
              have HRN := Lib.hid hRn
              have HBU := Lib.hid hb4
              have HWR := Lib.hid (show wr.heap.size ≤ R by rw [hR]; exact hb3.size)
              have hkb : k ≤ 3000 := by
                have h1 := (stabN_spec ((matchL o a).drop p) ((matchL o b).drop p) q s).1
                rw [← hk, List.length_drop, (matchL_rising o a).2] at h1
                omega
              clear hst hk hRn hU hR hb3 hb4 HNX a0 a1 a2 l0 l1 l2 heq
              refine ⟨trivial, fun h => (by cases h), ?_⟩
              refine (callsIn_wide.2 HST.out).mono ?_
              rintro e w4 ⟨rfl, m, hw4⟩
              have HM4 : Hid (MemC w4 T L M N gm gn (matchL o a) (matchL o b) o.length a.length b.length p q s) := by rw [hw4]; exact Lib.hid (HMU.out.moved (fun _ _ _ _ h _ => h))
              have HR4 : Hid (w4.heap[R]? = some (.cells (ends3 e1 e2 e3) 173 (0, 0))) := by rw [hw4]; exact HRN
              have HB4 : Hid (Below wr.heap.size wr w4) := by rw [hw4]; exact Lib.hid (pw_below_drewN HBU.out _)
              clear hw4 HMU HRN HBU HST
              have HTN : Hid (T ≠ R) := Lib.hid (fun e => by have := blk_lt HMem.out.at_; have := HWR.out; omega)
              have HLR : Hid (L ≠ R) := Lib.hid (fun e => by have := blk_lt HMem.out.last; have := HWR.out; omega)
              have a0 := HM4.out.a0
              have a1 := HM4.out.a1
              have a2 := HM4.out.a2
              have r0 : w4.cell? ⟨R, 0, none⟩ = some (.int .i64 (e1 : Int)) := by rw [blk_cell HR4.out]; rfl
              have r1 : w4.cell? ⟨R, 1, none⟩ = some (.int .i64 (e2 : Int)) := by rw [blk_cell HR4.out]; rfl
              have r2 : w4.cell? ⟨R, 2, none⟩ = some (.int .i64 (e3 : Int)) := by rw [blk_cell HR4.out]; rfl
              have f0 := blk_frozen HR4.out 0
              have f1 := blk_frozen HR4.out 1
              have f2 := blk_frozen HR4.out 2
              by_cases hk0 : 0 < k
              · have HT3 : Hid (tt = (p + k, q + k, s + k)) := Lib.hid (by rw [HTT.out]; unfold stepC; rw [← HK.out, if_pos hk0])
                obtain ⟨t1, ht1⟩ : ∃ t1, t1 = p + k := ⟨_, rfl⟩
                obtain ⟨t2, ht2⟩ : ∃ t2, t2 = q + k := ⟨_, rfl⟩
                obtain ⟨t3, ht3⟩ : ∃ t3, t3 = s + k := ⟨_, rfl⟩
                rw [← ht1, ← ht2, ← ht3] at HT3
                have c1 : IntKind.i64.wrap ((p : Int) + (k : Int)) = (t1 : Int) := by rw [IntWalk.i64_in _ (by omega)]; omega
                have c2 : IntKind.i64.wrap ((q : Int) + (k : Int)) = (t2 : Int) := by rw [IntWalk.i64_in _ (by omega)]; omega
                have c3 : IntKind.i64.wrap ((s : Int) + (k : Int)) = (t3 : Int) := by rw [IntWalk.i64_in _ (by omega)]; omega
                clear ht1 ht2 ht3
                obtain ⟨V, hV⟩ : ∃ V, V = ((w4.setCell ⟨R, 0, none⟩ (.int .i64 (t1 : Int))).setCell ⟨R, 1, none⟩ (.int .i64 (t2 : Int))).setCell ⟨R, 2, none⟩ (.int .i64 (t3 : Int)) := ⟨_, rfl⟩
                have HRV : Hid (V.heap[R]? = some (.cells (ends3 t1 t2 t3) 173 (0, 0))) := by rw [hV]; exact Lib.hid (set3 HR4.out t1 t2 t3)
                have HMV : Hid (MemC V T L M N gm gn (matchL o a) (matchL o b) o.length a.length b.length p q s) := by
                  rw [hV]
                  have g1 := blk_set HR4.out 0 (.int .i64 (t1 : Int))
                  have g2 := blk_set g1 1 (.int .i64 (t2 : Int))
                  exact Lib.hid (memC_other (memC_other (memC_other HM4.out HR4.out HTN.out HLR.out 0 _) g1 HTN.out HLR.out 1 _) g2 HTN.out HLR.out 2 _)
                have HBV : Hid (Below wr.heap.size wr V) := by
                  rw [hV]
                  exact Lib.hid (((HB4.out.setCell (p := ⟨R, 0, none⟩) HWR.out _).setCell (p := ⟨R, 1, none⟩) HWR.out _).setCell (p := ⟨R, 2, none⟩) HWR.out _)
                clear HR4 HM4 HB4
                obtain ⟨x, hx⟩ : ∃ x : Ck, x = ⟨kindL (cutL o p t1) (cutL a q t2) (cutL b s t3), p, t1, q, t2, s, t3⟩ := ⟨_, rfl⟩
                obtain ⟨f', rfl⟩ : ∃ f', f = f' + 1 := ⟨f - 1, by have := HF.out; have := HLT.out; rw [HT3.out] at this; have h2 := HAt2.out; rw [HT3.out] at h2; have h3 := h2.po; have h4 := h2.qa; have h5 := h2.sb; simp only at *; omega⟩
                have hgo : chunkGo o a b (f' + 1) p q s = x :: chunkGo o a b f' t1 t2 t3 := by
                  conv => lhs; unfold chunkGo
                  rw [if_neg hfin, hx]
                  simp only [← HTT.out, HT3.out]
                have HFull2 := Lib.hid (show (pre ++ [x]) ++ chunkGo o a b f' t1 t2 t3 = chunksL o a b from by rw [← HFull.out, hgo]; simp)
                have hJV : J pre V := hJ pre wr V none HJ.out (grown_of_below HBV.out none) (fun r e => by cases e)
                obtain ⟨fn, tmps, assign, body, hy, hRd⟩ := hY pre x V hJV (by rw [← HFull2.out]; exact List.prefix_append _ _)
                have hec : encC x = #[.agg #[.int .i64 (p : Int), .int .i64 (q : Int), .int .i64 (s : Int)], .agg #[.int .i64 (t1 : Int), .int .i64 (t2 : Int), .int .i64 (t3 : Int)]] := by rw [hx]; rfl
                rw [hec] at hy
                have HFX := Lib.hid (show o.length + a.length + b.length ≤ f' + (t1 + t2 + t3) ∧ p + q + s < t1 + t2 + t3 ∧ t1 + t2 + t3 ≤ o.length + a.length + b.length from by
                  have := HF.out; have h1 := HLT.out; rw [HT3.out] at h1; have h2 := HAt2.out; rw [HT3.out] at h2; have h3 := h2.po; have h4 := h2.qa; have h5 := h2.sb; simp only at *; omega)
                have HAt3 : Hid (AtC o a b t1 t2 t3) := by have h2 := HAt2.out; rw [HT3.out] at h2; exact Lib.hid h2
                have HC1 := Lib.hid (memC_come HMem.out)
                clear hx hgo hJV hec HFull HF HLT HAt2 HAt HTT HT3 HK HE1 hfin HMem HJ hkb
                rw [hV] at hy
                have HV := Lib.hid hV
                have hn1 : ¬ T = R := HTN.out
                have hn2 : ¬ R = T := fun e => HTN.out e.symm
                clear hV
                gi_wp2
                rw [← HV.out]
                clear c1 c2 c3 a0 a1 a2 r0 r1 r2 f0 f1 f2 hn1 hn2
                refine ⟨fun h => (by cases h), ?_⟩
                refine hRd.mono ?_
                rintro e W3 ⟨rfl, hJ3, hk3⟩
                have HM3 := Lib.hid (HMV.out.moved hk3)
                have hR3 := hk3 _ _ _ _ HRV.out (.inl rfl)
                have r0 : W3.cell? ⟨R, 0, none⟩ = some (.int .i64 (t1 : Int)) := by rw [blk_cell hR3]; rfl
                have r1 : W3.cell? ⟨R, 1, none⟩ = some (.int .i64 (t2 : Int)) := by rw [blk_cell hR3]; rfl
                have r2 : W3.cell? ⟨R, 2, none⟩ = some (.int .i64 (t3 : Int)) := by rw [blk_cell hR3]; rfl
                have a0 := HM3.out.a0
                have a1 := HM3.out.a1
                have a2 := HM3.out.a2
                have f0 := blk_frozen HM3.out.at_ 0
                have f1 := blk_frozen HM3.out.at_ 1
                have f2 := blk_frozen HM3.out.at_ 2
                have HJ3 := Lib.hid hJ3
                clear hJ3 hk3 hR3 hy hRd HRV HMV HBV
                gi_wp2
                go_roundw
                case rel =>
                  refine ⟨t1, t2, t3, f', pre ++ [x], Lib.hid (memC_step HM3.out HTL.out t1 t2 t3), HAt3, HFull2, Lib.hid HFX.out.1, Lib.hid ?_⟩
                  have m0 := HM3.out
                  have g0 := m0.at_
                  have g1 := blk_set g0 0 (.int .i64 (t1 : Int))
                  have g2 := blk_set g1 1 (.int .i64 (t2 : Int))
                  refine hJ _ _ _ (some T) (hJ _ _ _ (some T) (hJ _ _ _ (some T) HJ3.out (grownBy_set _ T 0 _) ?_) (grownBy_set _ T 1 _) ?_) (grownBy_set _ T 2 _) ?_
                  · intro r e; cases e; exact ⟨HTW.out, _, _, g0⟩
                  · intro r e; cases e; exact ⟨HTW.out, _, _, g1⟩
                  · intro r e; cases e; exact ⟨HTW.out, _, _, g2⟩
                case measure =>
                  have hc2 := memC_come (memC_step HM3.out HTL.out t1 t2 t3)
                  rw [hc2, HC1.out]
                  have := HFX.out
                  omega
              · obtain rfl : k = 0 := by omega
                have HT3 : Hid (tt = (e1, e2, e3)) := Lib.hid (by
                  obtain ⟨h1, h2, h3⟩ := HE1.out
                  rw [HTT.out]; unfold stepC; rw [← HK.out, if_neg hk0, h1, h2, h3]; unfold nextT
                  cases nextN ((matchL o a).drop p) ((matchL o b).drop p) p <;> rfl)
                clear hk0
                obtain ⟨t1, rfl⟩ : ∃ t1, t1 = e1 := ⟨_, rfl⟩
                obtain ⟨t2, rfl⟩ : ∃ t2, t2 = e2 := ⟨_, rfl⟩
                obtain ⟨t3, rfl⟩ : ∃ t3, t3 = e3 := ⟨_, rfl⟩
                obtain ⟨V, rfl⟩ : ∃ V, V = w4 := ⟨_, rfl⟩
                have HRV := HR4
                have HMV := HM4
                have HBV := HB4
                clear HR4 HM4 HB4
                obtain ⟨x, hx⟩ : ∃ x : Ck, x = ⟨kindL (cutL o p t1) (cutL a q t2) (cutL b s t3), p, t1, q, t2, s, t3⟩ := ⟨_, rfl⟩
                obtain ⟨f', rfl⟩ : ∃ f', f = f' + 1 := ⟨f - 1, by have := HF.out; have := HLT.out; rw [HT3.out] at this; have h2 := HAt2.out; rw [HT3.out] at h2; have h3 := h2.po; have h4 := h2.qa; have h5 := h2.sb; simp only at *; omega⟩
                have hgo : chunkGo o a b (f' + 1) p q s = x :: chunkGo o a b f' t1 t2 t3 := by
                  conv => lhs; unfold chunkGo
                  rw [if_neg hfin, hx]
                  simp only [← HTT.out, HT3.out]
                have HFull2 := Lib.hid (show (pre ++ [x]) ++ chunkGo o a b f' t1 t2 t3 = chunksL o a b from by rw [← HFull.out, hgo]; simp)
                have hJV : J pre V := hJ pre wr V none HJ.out (grown_of_below HBV.out none) (fun r e => by cases e)
                obtain ⟨fn, tmps, assign, body, hy, hRd⟩ := hY pre x V hJV (by rw [← HFull2.out]; exact List.prefix_append _ _)
                have hec : encC x = #[.agg #[.int .i64 (p : Int), .int .i64 (q : Int), .int .i64 (s : Int)], .agg #[.int .i64 (t1 : Int), .int .i64 (t2 : Int), .int .i64 (t3 : Int)]] := by rw [hx]; rfl
                rw [hec] at hy
                have HFX := Lib.hid (show o.length + a.length + b.length ≤ f' + (t1 + t2 + t3) ∧ p + q + s < t1 + t2 + t3 ∧ t1 + t2 + t3 ≤ o.length + a.length + b.length from by
                  have := HF.out; have h1 := HLT.out; rw [HT3.out] at h1; have h2 := HAt2.out; rw [HT3.out] at h2; have h3 := h2.po; have h4 := h2.qa; have h5 := h2.sb; simp only at *; omega)
                have HAt3 : Hid (AtC o a b t1 t2 t3) := by have h2 := HAt2.out; rw [HT3.out] at h2; exact Lib.hid h2
                have HC1 := Lib.hid (memC_come HMem.out)
                clear hx hgo hJV hec HFull HF HLT HAt2 HAt HTT HT3 HK HE1 hfin HMem HJ hkb
                gi_wp2
                clear a0 a1 a2 r0 r1 r2 f0 f1 f2
                refine ⟨fun h => (by cases h), ?_⟩
                refine hRd.mono ?_
                rintro e W3 ⟨rfl, hJ3, hk3⟩
                have HM3 := Lib.hid (HMV.out.moved hk3)
                have hR3 := hk3 _ _ _ _ HRV.out (.inl rfl)
                have r0 : W3.cell? ⟨R, 0, none⟩ = some (.int .i64 (t1 : Int)) := by rw [blk_cell hR3]; rfl
                have r1 : W3.cell? ⟨R, 1, none⟩ = some (.int .i64 (t2 : Int)) := by rw [blk_cell hR3]; rfl
                have r2 : W3.cell? ⟨R, 2, none⟩ = some (.int .i64 (t3 : Int)) := by rw [blk_cell hR3]; rfl
                have a0 := HM3.out.a0
                have a1 := HM3.out.a1
                have a2 := HM3.out.a2
                have f0 := blk_frozen HM3.out.at_ 0
                have f1 := blk_frozen HM3.out.at_ 1
                have f2 := blk_frozen HM3.out.at_ 2
                have HJ3 := Lib.hid hJ3
                clear hJ3 hk3 hR3 hy hRd HRV HMV HBV
                gi_wp2
                go_roundw
                case rel =>
                  refine ⟨t1, t2, t3, f', pre ++ [x], Lib.hid (memC_step HM3.out HTL.out t1 t2 t3), HAt3, HFull2, Lib.hid HFX.out.1, Lib.hid ?_⟩
                  have m0 := HM3.out
                  have g0 := m0.at_
                  have g1 := blk_set g0 0 (.int .i64 (t1 : Int))
                  have g2 := blk_set g1 1 (.int .i64 (t2 : Int))
                  refine hJ _ _ _ (some T) (hJ _ _ _ (some T) (hJ _ _ _ (some T) HJ3.out (grownBy_set _ T 0 _) ?_) (grownBy_set _ T 1 _) ?_) (grownBy_set _ T 2 _) ?_
                  · intro r e; cases e; exact ⟨HTW.out, _, _, g0⟩
                  · intro r e; cases e; exact ⟨HTW.out, _, _, g1⟩
                  · intro r e; cases e; exact ⟨HTW.out, _, _, g2⟩
                case measure =>
                  have hc2 := memC_come (memC_step HM3.out HTL.out t1 t2 t3)
                  rw [hc2, HC1.out]
                  have := HFX.out
                  omega
        | _ => exact hA.elim
    | _ => exact hA.elim

end Go.Proofs.YtogfkfkejaiecaaGreatDoor.Di
