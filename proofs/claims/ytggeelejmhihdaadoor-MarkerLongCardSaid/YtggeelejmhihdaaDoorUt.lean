/- Small words on memory: a boxed variable that is appended to, beside other boxes. -/
import Derived.RangeFuncBox
import Derived.Lib.OthersKept
import Derived.Test.YtggeelejmhihdaaDoorWWords
import Derived.Test.YtggeelejmhihdaaDoorPl
namespace Go.Proofs.YtggeelejmhihdaaDoor.Ut
open Go.RowKit Go.Proofs.YtggeelejmhihdaaDoor.Pl Go.Proofs.YtggeelejmhihdaaDoorW.PrintWords

/-- What a box holds it holds still. -/
def KpBox (Bs : Nat) (W W' : World) : Prop := ∀ c, W.cell? ⟨Bs, 0, none⟩ = some c → W'.cell? ⟨Bs, 0, none⟩ = some c
theorem kpBox_t {Bs : Nat} {A B C : World} (h : KpBox Bs A B) (k : KpBox Bs B C) : KpBox Bs A C := fun c hc => k c (h c hc)
theorem kpBox_b {Bs : Nat} {w : World} (W : World) (l : Nat) (o o' : Obj) (_ : w.heap.size ≤ l) (h : W.heap[l]? = some o) (hc : o.isCells = false) (_ : o.isWalk = false) : KpBox Bs W (W.putObj l o') := by
  intro c hcell
  have hne : Bs ≠ l := by
    rintro rfl
    unfold World.cell? at hcell
    rw [h] at hcell
    cases o <;> simp_all [Obj.isCells]
  have : (W.putObj l o').heap[Bs]? = W.heap[Bs]? := World.putObj_heap_other hne
  unfold World.cell? at hcell ⊢
  rw [this]; exact hcell
theorem kpBox_of {Bs : Nat} {W W' : World} (h : W'.heap[Bs]? = W.heap[Bs]?) : KpBox Bs W W' := by
  intro c hc
  unfold World.cell? at hc ⊢
  rw [h]; exact hc

theorem row_base {w : World} {base : Nat} {e : TypeId} {size n : Nat} {v : Value} {xs : List Value} (h : w.ownsRow base e size v n xs) (k : Nat) (hk : v.ownBlock = some k) : base ≤ k := own_base h k hk

/-- 'out = append(out, ..)', out in box B below n₁, its row from n₁ on. -/
theorem box_appended {W w1 : World} {n₁ B : Nat} {t e : TypeId} {size : Nat} {v v' : Value} {k m : Nat} {xs ys : List Value} {tmp : Obj}
    (hv : Boxed W B t v) (hrow : W.ownsRow n₁ e size v k xs) (hn₁ : n₁ ≤ W.heap.size) (hB : B < n₁)
    (hown' : w1.ownsRow n₁ e size v' m ys) (hgrow : (W.alloc tmp).grownBy w1 v.ownBlock) :
    Boxed w1 B t v ∧ Boxed (w1.setCell ⟨B, 0, none⟩ v') B t v' ∧ (w1.setCell ⟨B, 0, none⟩ v').ownsRow n₁ e size v' m ys ∧ KeepsOthers W (w1.setCell ⟨B, 0, none⟩ v') ∧
      Below B W (w1.setCell ⟨B, 0, none⟩ v') ∧ ∀ j, j < n₁ → j ≠ B → (w1.setCell ⟨B, 0, none⟩ v').heap[j]? = W.heap[j]? := by
  have hne : some B ≠ v.ownBlock := fun e' => by have := own_base hrow B e'.symm; omega
  have hne' : some B ≠ v'.ownBlock := fun e' => by have := own_base hown' B e'.symm; omega
  have hv1 : Boxed w1 B t v := (hv.alloc tmp).kept hgrow hne
  have hblk : ∀ j, j < n₁ → j ≠ B → (w1.setCell ⟨B, 0, none⟩ v').heap[j]? = W.heap[j]? := by
    intro j hj hjB
    rw [Below.heap_setCell w1 ⟨B, 0, none⟩ v' j hjB, hgrow.block j (by simp; omega) (fun e' => by have := own_base hrow j e'.symm; omega)]
    exact Below.heap_alloc W tmp j (by omega)
  refine ⟨hv1, hv1.set v', hown'.kept (grownBy_setCell' w1 B v') (.inr hne'.symm), ?_, ?_, hblk⟩
  · refine ((KeepsOthers.alloc W tmp).trans (KeepsOthers.of_grownBy hgrow fun j o ej hj => ?_)).trans (KeepsOthers.setCell _ _ _)
    rcases (hrow.alloc tmp).2 with ⟨rfl, _⟩ | ⟨g, cap, cur, rfl, _, hgb, _⟩
    · simp [Value.ownBlock] at ej
    · obtain rfl : g = j := by simpa [Value.ownBlock] using ej
      rw [hgb] at hj; cases hj; rfl
  · refine (((Below.refl B W).alloc (by omega) tmp).grown hgrow (by simp; omega) fun j ej => ?_).setCell (p := ⟨B, 0, none⟩) (Nat.le_refl _) v'
    have := own_base hrow j ej; omega

/-- Texts, as a kind. -/
def kStr : Kd Str := Kd.scalar (fun l : Str => .string (B l)) (fun _ => rfl)

theorem builderAtF_below {T e : TypeId} {B b : Nat} {p : Value} {bs : List Value} {w w' : World} (h : Lib.BuilderAtF T e B b p bs w) (hb : Below w.heap.size w w') : Lib.BuilderAtF T e B b p bs w' := by
  have hlt := h.lt
  obtain ⟨hB, v, hh, hown, hne⟩ := h
  exact ⟨hB, v, (hb.block b hlt).trans hh, hown.kept (grown_of_below hb none) (by cases hv : v.ownBlock <;> simp), hne⟩
theorem isBuilderF_below {T e : TypeId} {B b : Nat} {bs : List Value} {w w' : World} (h : Lib.IsBuilderF T e B b bs w) (hb : Below w.heap.size w w') : Lib.IsBuilderF T e B b bs w' :=
  h.elim (fun x => .inl (builderAtF_below x hb)) (fun x => .inr (builderAtF_below x hb))
theorem othersKept_below {e : TypeId} {b : Option Nat} {w w' : World} (hb : Below w.heap.size w w') : Lib.OthersKept e b w w' :=
  fun k _ hk _ _ => (hb.block k (Array.getElem?_eq_some_iff.1 hk).1).trans hk
/-- A box beside the builder. -/
theorem othersKept_box {e t : TypeId} {b k : Nat} {v : Value} {w w' : World} (h : Lib.OthersKept e (some b) w w') (hv : Boxed w k t v) (hk : k ≠ b) (ht : t ≠ e) : Boxed w' k t v :=
  h k _ hv (fun e1 => hk (Option.some.inj e1)) (fun _ _ e1 => by injection e1 with _ e2; exact ht e2)

theorem cell_alloc {w : World} {a : Addr} {v : Value} (h : w.cell? a = some v) (o : Obj) : (w.alloc o).cell? a = some v := pw_cell_below (below_alloc (Below.refl _ _) o) h

/-- Parts, as a kind. -/
def kPart : Kd Part := Kd.iso (Kd.pair Kd.bool (Kd.pair kStr (Kd.pair kStr kStr))) (fun x : Part => (x.clash, x.o, x.a, x.b))
def partCells (x : Part) : List Value := [.bool x.clash, .string (B x.o), .string (B x.a), .string (B x.b)]
theorem kPart_open {w : World} {x : Part} {cs : List Value} (h : kPart.K w x cs) : cs = partCells x := by
  obtain ⟨_, _, rfl, rfl, ⟨_, _, rfl, rfl, ⟨_, _, rfl, rfl, rfl⟩⟩⟩ := h
  exact rfl
theorem kPart_mk (w : World) (base : Nat) (ok : Nat → Prop) (x : Part) : kPart.M w base ok x (partCells x) := ⟨[.bool x.clash], [.string (B x.o), .string (B x.a), .string (B x.b)], rfl, rfl, ⟨[.string (B x.o)], [.string (B x.a), .string (B x.b)], rfl, rfl, ⟨[.string (B x.a)], [.string (B x.b)], rfl, rfl, rfl⟩⟩⟩
theorem at_part {w : World} {A : Option Addr} {n : Nat} {xs : List Part} (h : Kd.C kPart w A n xs) (k : Nat) (hk : k < n) (x : Part) (hx : xs[k]? = some x) :
    ∃ ad, A = some ad ∧ w.cell? (ad.add (k * 4)) = some (.bool x.clash) ∧ w.cell? ⟨(ad.add (k * 4)).block, (ad.add (k * 4)).off + 1, none⟩ = some (.string (B x.o)) ∧
      w.cell? ⟨(ad.add (k * 4)).block, (ad.add (k * 4)).off + 2, none⟩ = some (.string (B x.a)) ∧ w.cell? ⟨(ad.add (k * 4)).block, (ad.add (k * 4)).off + 3, none⟩ = some (.string (B x.b)) := by
  obtain ⟨ad, c, e, _, hK, hc0⟩ := Kd.C_get h x (k : Int) (by omega) (by omega)
  have hd : xs.getD (k : Int).toNat x = x := by simp [List.getD, hx]
  rw [hd] at hK
  have hc : ∀ j u, c[j]? = some u → w.cell? (ad.add (k * 4 + j)) = some u := hc0
  obtain rfl := kPart_open hK
  exact ⟨ad, e, hc 0 _ rfl, by rw [← add_field _ _ 1 (by omega)]; exact hc 1 _ rfl, by rw [← add_field _ _ 2 (by omega)]; exact hc 2 _ rfl, by rw [← add_field _ _ 3 (by omega)]; exact hc 3 _ rfl⟩
theorem at_str {w : World} {A : Option Addr} {n : Nat} {xs : List Str} (h : Kd.C kStr w A n xs) (k : Nat) (hk : k < n) (x : Str) (hx : xs[k]? = some x) :
    ∃ ad, A = some ad ∧ w.cell? (ad.add k) = some (.string (B x)) := by
  obtain ⟨ad, c, e, _, hK, hc0⟩ := Kd.C_get h x (k : Int) (by omega) (by omega)
  have hd : xs.getD (k : Int).toNat x = x := by simp [List.getD, hx]
  rw [hd] at hK
  have hc : ∀ j u, c[j]? = some u → w.cell? (ad.add (k * 1 + j)) = some u := hc0
  have hK' : c = [.string (B x)] := hK
  subst hK'
  exact ⟨ad, e, by have := hc 0 _ rfl; simpa using this⟩

/-- The table of signs. -/
def Signs (w : World) : Prop :=
  w.cell? ⟨0, 0, none⟩ = some (.string (B [60])) ∧ w.cell? ⟨0, 1, none⟩ = some (.string (B wOurs)) ∧
  w.cell? ⟨0, 2, none⟩ = some (.string (B [124])) ∧ w.cell? ⟨0, 3, none⟩ = some (.string (B wBase)) ∧
  w.cell? ⟨0, 4, none⟩ = some (.string (B [61])) ∧ w.cell? ⟨0, 5, none⟩ = some (.string (B [])) ∧
  w.cell? ⟨0, 6, none⟩ = some (.string (B [62])) ∧ w.cell? ⟨0, 7, none⟩ = some (.string (B wTheirs))
theorem Signs.below {w w' : World} (h : Signs w) (hb : Below w.heap.size w w') : Signs w' := by
  obtain ⟨h0, h1, h2, h3, h4, h5, h6, h7⟩ := h
  exact ⟨pw_cell_below hb h0, pw_cell_below hb h1, pw_cell_below hb h2, pw_cell_below hb h3, pw_cell_below hb h4, pw_cell_below hb h5, pw_cell_below hb h6, pw_cell_below hb h7⟩

end Go.Proofs.YtggeelejmhihdaaDoor.Ut
