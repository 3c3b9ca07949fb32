/- strings.Builder wherever it lies in a block of the call's own: copyCheck, WriteString, String, Reset. -/
import Derived.WalkKit
import Derived.WalkSpells
import Derived.WalkLawsBesides
import Derived.Lib.Builder
import Derived.Lib.AppendStr
import Derived.Lib.UnsafeStr
import Derived.Lib.FrozenHead
import Derived.Lib.OthersKept
import Derived.Laws.Externs
import Derived.Laws.IdiomCopy
import Derived.Lib.Hide
import Derived.RegionTactic
import Derived.Test.YtggeelejmhihdaaDoorShelf
import Derived.Test.YtggeelejmhihdaaDoorUt
namespace Go.Proofs.YtggeelejmhihdaaDoor.Bl
open Go.RowKit Go.Shelf Go.Proofs.YtggeelejmhihdaaDoor.Pl Go.Proofs.YtggeelejmhihdaaDoor.Ut Go.Proofs.YtggeelejmhihdaaDoorW.PrintWords

/-- Block b (of b from Bs on) holds the cells cs of type T; the two at off are a builder that holds l. -/
structure Bld (T : TypeId) (Bs b off : Nat) (cs : Array Value) (l : Str) (w : World) : Prop where
  base : Bs ≤ b
  neT : T ≠ 5
  blk : w.heap[b]? = some (.cells cs T (0, 0))
  addr : cs[off]? = some (.pointer none) ∨ cs[off]? = some (.pointer (some ⟨b, off, none⟩))
  buf : ∃ v, cs[off + 1]? = some v ∧ w.ownsRowF Bs 5 1 v l.length (Lib.byteCells l)

section
variable {T : TypeId} {Bs b off : Nat} {cs : Array Value} {l : Str} {w w' : World}
theorem Bld.lt (h : Bld T Bs b off cs l w) : b < w.heap.size := (Array.getElem?_eq_some_iff.1 h.blk).1
theorem Bld.cell (h : Bld T Bs b off cs l w) (j : Nat) : w.cell? ⟨b, j, none⟩ = cs[j]? := cell_of_row w b j cs T (0, 0) h.blk
theorem Bld.frozen (h : Bld T Bs b off cs l w) (j : Nat) : w.frozen? ⟨b, j, none⟩ = false := by simp [World.frozen?, h.blk]
theorem Bld.below (h : Bld T Bs b off cs l w) (hb : Below w.heap.size w w') : Bld T Bs b off cs l w' := by
  obtain ⟨h1, h2, h3, h4, v, hv, ho⟩ := h
  exact ⟨h1, h2, (hb.block b (Array.getElem?_eq_some_iff.1 h3).1).trans h3, h4, v, hv, ho.kept (grown_of_below hb none) (by cases hv : v.ownBlock <;> simp)⟩
theorem blk_setCell {cs : Array Value} (h : w.heap[b]? = some (.cells cs T (0, 0))) (j : Nat) (u : Value) : (w.setCell ⟨b, j, none⟩ u).heap[b]? = some (.cells (cs.setIfInBounds j u) T (0, 0)) := by
  simp [World.setCell, Array.getElem?_modify, h]
/-- A store into the block, beside the builder's two cells. -/
theorem Bld.put (h : Bld T Bs b off cs l w) {j : Nat} (h1 : j ≠ off) (h2 : j ≠ off + 1) (u : Value) : Bld T Bs b off (cs.setIfInBounds j u) l (w.setCell ⟨b, j, none⟩ u) := by
  obtain ⟨hb, hT, hk, ha, v, hv, ho⟩ := h
  refine ⟨hb, hT, blk_setCell hk j u, ?_, v, ?_, ?_⟩
  · rw [Array.getElem?_setIfInBounds_ne h1]; exact ha
  · rw [Array.getElem?_setIfInBounds_ne h2]; exact hv
  · refine ho.kept (row := some b) ⟨rfl, rfl, rfl, by simp [World.setCell], fun k _ hk => Below.heap_setCell _ _ _ _ (fun e => hk (by simp [e]))⟩ (.inr ?_)
    exact Lib.ownBlock_neF ho hk hT
end

theorem infoB : (Tryd.prog.info? 42).map (·.size) = some 2 := by kernel_rfl
theorem infoU : (Tryd.prog.info? 5).map (fun i => (i.zero, i.size, i.bytes)) = some (some (.int .u8 0), 1, 1) := by kernel_rfl
theorem cellsU : Tryd.prog.cellsOf 5 = 1 := by kernel_rfl

theorem addr_off (b off j : Nat) : (⟨b, off, none⟩ : Addr).add j = ⟨b, off + j, none⟩ := by unfold Addr.add; split <;> simp_all
attribute [local go_sem] addr_off

theorem set_same {cs : Array Value} {i : Nat} {v : Value} (h : cs[i]? = some v) : cs.setIfInBounds i v = cs := by
  apply Array.ext_getElem?
  intro j
  by_cases e : i = j
  · subst e
    rw [Array.getElem?_setIfInBounds_self_of_lt (Array.getElem?_eq_some_iff.1 h).1, h]
  · rw [Array.getElem?_setIfInBounds_ne e]

set_option maxHeartbeats 1000000 in
set_option maxRecDepth 100000 in
theorem copyCheck_used (b off : Nat) (w : World) (h0 : w.cell? ⟨b, off, none⟩ = some (.pointer (some ⟨b, off, none⟩))) :
    Calls Tryd.prog 34 #[.pointer (some ⟨b, off, none⟩)] w fun e w' => e = .returned (.tuple #[]) ∧ w' = w := by
  obtain ⟨j, hj, _⟩ := Option.map_eq_some_iff.1 infoB
  go_enter Tryd.func34, Tryd.ntmps34
  go_wp2
  rw [Lib.run_neq_ptr_same w _ Tryd.underlying39 hj]
  go_wp2
  go_end0
  exact ⟨rfl, rfl⟩

set_option maxHeartbeats 1000000 in
set_option maxRecDepth 100000 in
theorem copyCheck_fresh (T n b off : Nat) (w : World) (hl : liesAt Tryd.prog Tryd.prog.depth T (n / Tryd.prog.cellsOf T) off 42 1 = true) (hn : off < n)
    (h0 : w.cell? ⟨b, off, none⟩ = some (.pointer none)) (hsh : w.shape? b = some (T, n)) (hfz : w.frozen? ⟨b, off, none⟩ = false) :
    Calls Tryd.prog 34 #[.pointer (some ⟨b, off, none⟩)] w fun e w' => e = .returned (.tuple #[]) ∧ w' = w.setCell ⟨b, off, none⟩ (.pointer (some ⟨b, off, none⟩)) := by
  obtain ⟨j, hj, hjs⟩ := Option.map_eq_some_iff.1 infoB
  go_enter Tryd.func34, Tryd.ntmps34
  go_wp2
  rw [Lib.run_to_unsafe w ⟨b, off, none⟩ Tryd.underlying39 Tryd.underlying76 hj (by rw [hjs]; decide) hsh hn]
  simp only [Result.andThen]
  rw [Oper.upon_value]
  go_wp2
  rw [run_callFunc_extern Tryd.func41 (by kernel_rfl) (by kernel_rfl) (by kernel_rfl) (e := Extern.AbiNoEscape.same) (by kernel_rfl)]
  rw [Lib.run_noEscape]
  simp only [Result.andThen]
  rw [Oper.upon_value]
  go_wp2
  rw [Lib.run_from_unsafe w ⟨b, off, none⟩ Tryd.underlying76 Tryd.underlying39 hj hsh hl]
  simp only [Result.andThen]
  rw [Oper.upon_value]
  go_wp2
  go_end0
  exact ⟨rfl, rfl⟩

theorem copyCheck_any {T Bs b off : Nat} {cs : Array Value} {l : Str} {w : World} (h : Bld T Bs b off cs l w) (hl : liesAt Tryd.prog Tryd.prog.depth T (cs.size / Tryd.prog.cellsOf T) off 42 1 = true) :
    Calls Tryd.prog 34 #[.pointer (some ⟨b, off, none⟩)] w fun e w' => e = .returned (.tuple #[]) ∧ Bld T Bs b off (cs.setIfInBounds off (.pointer (some ⟨b, off, none⟩))) l w' ∧
      Below Bs w w' ∧ Lib.OthersKept 5 (some b) w w' := by
  rcases h.addr with ha | ha
  · have hlt : off < cs.size := (Array.getElem?_eq_some_iff.1 ha).1
    refine (copyCheck_fresh T cs.size b off w hl hlt (by rw [h.cell, ha]) (by simp [World.shape?, h.blk]) (h.frozen _)).mono ?_
    rintro e w' ⟨rfl, rfl⟩
    obtain ⟨hb, hT, hk, _, v, hv, ho⟩ := h
    refine ⟨rfl, ⟨hb, hT, blk_setCell hk _ _, .inr (by rw [Array.getElem?_setIfInBounds_self_of_lt hlt]), v, by rw [Array.getElem?_setIfInBounds_ne (by omega)]; exact hv, ?_⟩, (Below.refl _ _).setCell (p := ⟨b, off, none⟩) hb _, (Lib.OthersKept.refl _ _ w).setCell ⟨b, off, none⟩ rfl _⟩
    exact ho.kept (row := some b) ⟨rfl, rfl, rfl, by simp [World.setCell], fun k _ hk => Below.heap_setCell _ _ _ _ (fun e => hk (by simp [e]))⟩ (.inr (Lib.ownBlock_neF ho hk hT))
  · refine (copyCheck_used b off w (by rw [h.cell, ha])).mono ?_
    rintro e w' ⟨rfl, rfl⟩
    rw [set_same ha]
    exact ⟨rfl, h, Below.refl _ _, Lib.OthersKept.refl _ _ _⟩

theorem ownF_slice {w : World} {base : Nat} {e : TypeId} {size n : Nat} {v : Value} {xs : List Value} (h : w.ownsRowF base e size v n xs) : ∃ A c, v = .slice A n c := by
  rcases h.2 with ⟨rfl, rfl⟩ | ⟨g, cap, cur, fz, rfl, _⟩
  · exact ⟨_, _, rfl⟩
  · exact ⟨_, _, rfl⟩

set_option maxHeartbeats 2000000 in
set_option maxRecDepth 100000 in
theorem writeString_any {T Bs b off : Nat} {cs : Array Value} {l : Str} (s : Str) {w : World} (h : Bld T Bs b off cs l w) (hl : liesAt Tryd.prog Tryd.prog.depth T (cs.size / Tryd.prog.cellsOf T) off 42 1 = true)
    (hlen : l.length + s.length ≤ 140737488355328) (hBw : Bs ≤ w.heap.size) :
    Calls Tryd.prog 19 #[.pointer (some ⟨b, off, none⟩), .string (B s)] w fun e w' => e = .returned (.tuple #[.int .i64 s.length, .nilIface]) ∧
      (∃ v', Bld T Bs b off ((cs.setIfInBounds off (.pointer (some ⟨b, off, none⟩))).setIfInBounds (off + 1) v') (l ++ s) w') ∧ Below Bs w w' ∧ Lib.OthersKept 5 (some b) w w' := by
  obtain ⟨i0, hi, hz0, hz1, hz2⟩ := info_parts infoU
  go_enter Tryd.func19, Tryd.ntmps19
  go_wp2_with (go_at_call 34; refine (copyCheck_any h hl).mono ?_)
  rintro e w1 ⟨rfl, h1, hb1, hk1⟩
  obtain ⟨ds, hds⟩ : ∃ ds, ds = cs.setIfInBounds off (.pointer (some ⟨b, off, none⟩)) := ⟨_, rfl⟩
  rw [← hds] at h1
  have HDS := Lib.hid hds
  clear hds
  have c0 := h1.cell off
  have c1 := h1.cell (off + 1)
  have hlt := h1.lt
  obtain ⟨hB, hT, hbk, ha, v, hv, hown⟩ := h1
  rw [hv] at c1
  have hds1 : off + 1 < ds.size := (Array.getElem?_eq_some_iff.1 hv).1
  have hne := Lib.ownBlock_neF hown hbk hT
  clear c0 ha
  go_wp2_with (at_builtin; refine Lib.wpList_append_own_stringF _ rfl _ _ 40 9 rfl Bs 5 i0 Tryd.underlying40 Tryd.underlying9 hi hz0 hz1 hz2 _ _ _ rfl hown (B s) rfl ?c3 ?c4 ?c5 ?_)
  case c3 => unfold maxLen; rw [B_size]; omega
  case c4 => rw [B_size]; omega
  case c5 => have := hb1.size; omega
  intro v' w2 hown' hgrow _
  have hb2 : w2.heap[b]? = some (.cells ds T (0, 0)) := by
    rw [hgrow.block b hlt (fun e => hne e.symm)]
    exact hbk
  have d1 : w2.cell? ⟨b, off + 1, none⟩ = some v := by rw [cell_of_row w2 b _ ds T (0, 0) hb2]; exact hv
  have f1 : w2.frozen? ⟨b, off + 1, none⟩ = false := by simp [World.frozen?, hb2]
  obtain ⟨ao, cap, rfl⟩ := ownF_slice hown'
  have hneb := Lib.ownBlock_neF hown' hb2 hT
  have HV := Lib.hid hv
  have HB2 := Lib.hid hb2
  clear hv hb2
  go_wp2
  go_ret2
  refine ⟨by simp, ⟨_, hB, hT, by rw [← HDS.out]; exact blk_setCell HB2.out _ _, .inr ?_, .slice ao (l.length + s.length) cap, ?_, ?_⟩, ?_, ?_⟩
  · rw [← HDS.out, Array.getElem?_setIfInBounds_ne (by omega), HDS.out, Array.getElem?_setIfInBounds_self_of_lt (by have := congrArg Array.size HDS.out; simp at this; omega)]
  · rw [← HDS.out, Array.getElem?_setIfInBounds_self_of_lt hds1]
  · have ho : w2.ownsRowF Bs 5 1 (.slice ao (l.length + s.length) cap) (l ++ s).length (Lib.byteCells (l ++ s)) := by
      rw [Lib.byteCells_append, List.length_append]; exact hown'
    exact ho.kept (row := some b) ⟨rfl, rfl, rfl, by simp [World.setCell], fun k _ hk => Below.heap_setCell _ _ _ _ (fun e => hk (by simp [e]))⟩ (.inr hneb)
  · exact (hb1.grown hgrow (by have := hb1.size; omega) (fun k hk => (hown.lt k hk).1)).setCell (p := ⟨b, off + 1, none⟩) hB _
  · exact (hk1.grown hgrow (fun g hg => Lib.ownsRowF_kind hown g hg)).setCell ⟨b, off + 1, none⟩ rfl _

set_option maxHeartbeats 1000000 in
theorem reset_any {T Bs b off : Nat} {cs : Array Value} {l : Str} {w : World} (h : Bld T Bs b off cs l w) :
    Calls Tryd.prog 49 #[.pointer (some ⟨b, off, none⟩)] w fun e w' => e = .returned (.tuple #[]) ∧
      Bld T Bs b off ((cs.setIfInBounds off (.pointer none)).setIfInBounds (off + 1) (.slice none 0 0)) [] w' ∧ Below Bs w w' ∧ Lib.OthersKept 5 (some b) w w' := by
  obtain ⟨hB, hT, hbk, ha, v, hv, hown⟩ := h
  have hlt1 : off + 1 < cs.size := (Array.getElem?_eq_some_iff.1 hv).1
  obtain ⟨p0, hp0⟩ : ∃ p0, cs[off]? = some p0 := ⟨cs[off]'(by omega), Array.getElem?_eq_getElem (by omega)⟩
  have c0 : w.cell? ⟨b, off, none⟩ = some p0 := by rw [cell_of_row w b _ cs T (0, 0) hbk]; exact hp0
  have c1 : w.cell? ⟨b, off + 1, none⟩ = some v := by rw [cell_of_row w b _ cs T (0, 0) hbk]; exact hv
  have f0 : w.frozen? ⟨b, off, none⟩ = false := by simp [World.frozen?, hbk]
  have f1 : w.frozen? ⟨b, off + 1, none⟩ = false := by simp [World.frozen?, hbk]
  clear ha hown
  have HBK := Lib.hid hbk
  have HV := Lib.hid hv
  clear hbk hv hp0
  go_enter Tryd.func49, Tryd.ntmps49
  go_wp2
  go_end0
  refine ⟨rfl, ⟨hB, hT, blk_setCell (blk_setCell HBK.out _ _) _ _, .inl ?_, _, ?_, World.ownsRowF_nil _ _ _ _⟩, ?_, ?_⟩
  · rw [Array.getElem?_setIfInBounds_ne (by omega), Array.getElem?_setIfInBounds_self_of_lt (by omega)]
  · rw [Array.getElem?_setIfInBounds_self_of_lt (by simpa using hlt1)]
  · exact ((Below.refl _ _).setCell (p := ⟨b, off, none⟩) hB _).setCell (p := ⟨b, off + 1, none⟩) hB _
  · exact ((Lib.OthersKept.refl _ _ _).setCell ⟨b, off, none⟩ rfl _).setCell ⟨b, off + 1, none⟩ rfl _

theorem ownF_froze {w : World} {base : Nat} {e : TypeId} {g n cap : Nat} {xs : List Value} (h : w.ownsRowF base e 1 (.slice (some ⟨g, 0, none⟩) n cap) n xs) : (w.freeze ⟨g, 0, none⟩ n).ownsRowF base e 1 (.slice (some ⟨g, 0, none⟩) n cap) n xs := by
  unfold World.freeze
  split
  · exact h
  · rename_i hn0
    refine ⟨h.1, ?_⟩
    rcases h.2 with ⟨hv, _⟩ | ⟨g', cap', cur, fz, hv, hbg, hg, hfz, rest⟩
    · cases hv
    · injection hv with ha _ hcap
      injection ha with ha
      injection ha with hgg _ _
      subst hgg
      subst hcap
      obtain ⟨lo, hi⟩ := fz
      refine .inr ⟨g, _, cur, (if lo == hi then (0, 0 + n) else (min lo 0, max hi (0 + n))), rfl, hbg, ?_, ?_, rest⟩
      · simp [Array.getElem?_modify, hg]
      · simp only at hfz
        split <;> simp <;> omega

theorem Bld.froze {T : TypeId} {Bs b off g cap : Nat} {cs : Array Value} {l : Str} {w : World} (h : Bld T Bs b off cs l w) (hc : cs[off + 1]? = some (.slice (some ⟨g, 0, none⟩) l.length cap)) : Bld T Bs b off cs l (w.freeze ⟨g, 0, none⟩ l.length) := by
  obtain ⟨hB, hT, hbk, ha, v, hv, ho⟩ := h
  rw [hc] at hv
  cases hv
  have hne := Lib.ownBlock_neF ho hbk hT
  have hgb : g ≠ b := fun e => hne (by simp [Value.ownBlock, e])
  refine ⟨hB, hT, ?_, ha, _, hc, ownF_froze ho⟩
  unfold World.freeze
  split
  · exact hbk
  · simp only [Array.getElem?_modify]
    rw [if_neg hgb]
    exact hbk

theorem unsafeString_none (W : World) (q : Option Addr) : (Builtin.unsafeString_ #[69, 3] 9 #[.pointer q, .int .i64 0]).run Tryd.prog W = .ok (.string .empty) W :=
  Lib.run_unsafeString_none W _ _ _ q

set_option maxHeartbeats 1000000 in
set_option maxRecDepth 100000 in
theorem string_some {T Bs b off : Nat} {cs : Array Value} {l : Str} {w : World} (h : Bld T Bs b off cs l w) (h0 : l ≠ []) :
    Calls Tryd.prog 21 #[.pointer (some ⟨b, off, none⟩)] w fun e w' => e = .returned (.string (B l)) ∧ Bld T Bs b off cs l w' ∧ Below Bs w w' ∧ Lib.OthersKept 5 (some b) w w' := by
  have hl0 : l.length ≠ 0 := by simpa using h0
  have h' := h
  obtain ⟨hB, hT, hbk, ha, v, hv, hown⟩ := h'
  obtain ⟨g, cap, cur, fz, rfl, hbg, hg, hfz, hnc, hcm, hcs, htake⟩ : ∃ g cap cur fz, v = .slice (some ⟨g, 0, none⟩) l.length cap ∧ Bs ≤ g ∧ w.heap[g]? = some (.cells cur 5 fz) ∧ fz.2 ≤ l.length * 1 ∧ l.length ≤ cap ∧ cap ≤ maxLen ∧ cur.size = cap * 1 ∧ cur.toList.take (l.length * 1) = Lib.byteCells l := by
    rcases hown.2 with ⟨_, hz⟩ | ⟨g, cap, cur, fz, hv, r⟩
    · exact absurd hz hl0
    · exact ⟨g, cap, cur, fz, hv, r⟩
  have c1 : w.drew.cell? ⟨b, off + 1, none⟩ = some (.slice (some ⟨g, 0, none⟩) l.length cap) := by
    have : w.drew.heap[b]? = some (.cells cs T (0, 0)) := hbk
    rw [cell_of_row w.drew b _ cs T (0, 0) this]; exact hv
  have hSD : (Builtin.unsafeSliceData_ #[40] 69 #[.slice (some ⟨g, 0, none⟩) l.length cap]).run Tryd.prog w.drew = .ok (.pointer (some ⟨g, 0, none⟩)) w.drew :=
    Lib.run_unsafeSliceData_row _ _ _ _ _ _ (by omega)
  have hUS : (Builtin.unsafeString_ #[69, 3] 9 #[.pointer (some ⟨g, 0, none⟩), .int .i64 l.length]).run Tryd.prog w.drew = .ok (.string ⟨l.toArray⟩) (w.drew.freeze ⟨g, 0, none⟩ l.length) := by
    refine Lib.run_unsafeString_row w.drew 69 3 9 5 Tryd.underlying69 cellsU g cur.size (by have hg' : w.drew.heap[g]? = some (.cells cur 5 fz) := hg; simp [World.shape?, hg']) l h0 (by omega) (by unfold maxLen at hcm; omega) ?_
    intro j x hx
    have := hown.cells (g := g) rfl j (.int .u8 x.toNat) (by simp [Lib.byteCells, hx])
    exact this
  have hkeep : Bld T Bs b off cs l (w.drew.freeze ⟨g, 0, none⟩ l.length) := Bld.froze (w := w.drew) ⟨hB, hT, hbk, ha, _, hv, hown⟩ hv
  have hok : Lib.OthersKept 5 (some b) w (w.drew.freeze ⟨g, 0, none⟩ l.length) := (Lib.OthersKept.refl _ _ w).drew.freeze ⟨g, 0, none⟩ _ ⟨_, _, hg⟩
  have hbl : Below Bs w (w.drew.freeze ⟨g, 0, none⟩ l.length) := Lib.below_freeze (Below.drew (Below.refl Bs w)) (p := ⟨g, 0, none⟩) hbg _
  clear hown htake hfz hg hbk ha hv h
  have HK := Lib.hid hkeep
  have HO := Lib.hid hok
  have HB := Lib.hid hbl
  clear hkeep hok hbl
  go_enter Tryd.func21, Tryd.ntmps21
  go_wp2
  go_region
  all_goals (go_wp2; go_ret; exact ⟨rfl, HK.out, HB.out, HO.out⟩)

set_option maxHeartbeats 2000000 in
set_option maxRecDepth 100000 in
theorem string_none {T Bs b off : Nat} {cs : Array Value} {w : World} (h : Bld T Bs b off cs [] w) (hBw : Bs ≤ w.heap.size) :
    Calls Tryd.prog 21 #[.pointer (some ⟨b, off, none⟩)] w fun e w' => e = .returned (.string (B [])) ∧ Bld T Bs b off cs [] w' ∧ Below Bs w w' ∧ Lib.OthersKept 5 (some b) w w' := by
  have hlt := h.lt
  have hUS := unsafeString_none
  have HH := Lib.hid h
  obtain ⟨hB, hT, hbk, ha, v, hv, hown⟩ := h
  have HBW := Lib.hid hBw
  rcases hown.2 with ⟨rfl, _⟩ | ⟨g, cap, cur, fz, rfl, hbg, hg, _, _, _, _, _⟩
  · have c1 : w.drew.cell? ⟨b, off + 1, none⟩ = some (.slice none 0 0) := by
      have : w.drew.heap[b]? = some (.cells cs T (0, 0)) := hbk
      rw [cell_of_row w.drew b _ cs T (0, 0) this]; exact hv
    have hSD : (Builtin.unsafeSliceData_ #[40] 69 #[.slice none 0 0]).run Tryd.prog w.drew = .ok (.pointer none) w.drew := rfl
    clear hown hbk ha hv
    go_enter Tryd.func21, Tryd.ntmps21
    go_wp2
    go_region
    all_goals (go_wp2; go_ret; exact ⟨rfl, HH.out.below (Below.refl _ _).drew, (Below.refl _ _).drew, (Lib.OthersKept.refl _ _ w).drew⟩)
  · by_cases hc0 : cap = 0
    · subst hc0
      have c1 : w.drew.cell? ⟨b, off + 1, none⟩ = some (.slice (some ⟨g, 0, none⟩) 0 0) := by
        have : w.drew.heap[b]? = some (.cells cs T (0, 0)) := hbk
        rw [cell_of_row w.drew b _ cs T (0, 0) this]; exact hv
      have hSD : (Builtin.unsafeSliceData_ #[40] 69 #[.slice (some ⟨g, 0, none⟩) 0 0]).run Tryd.prog w.drew = .ok (.pointer (some ⟨w.drew.heap.size, 0, none⟩)) (w.drew.alloc (.view ⟨g, 0, none⟩ 5)) :=
        Lib.run_unsafeSliceData_zero w.drew _ _ 5 Tryd.underlying69 ⟨g, 0, none⟩ 0 (5, cur.size) (by have hg' : w.drew.heap[g]? = some (.cells cur 5 fz) := hg; simp [World.shape?, hg'])
      have c2 : (w.drew.alloc (.view ⟨g, 0, none⟩ 5)).cell? ⟨b, off + 1, none⟩ = some (.slice (some ⟨g, 0, none⟩) 0 0) := by
        have : (w.drew.alloc (.view ⟨g, 0, none⟩ 5)).heap[b]? = _ := (Lib.alloc_old w.drew _ b hlt).trans hbk
        rw [cell_of_row _ b _ cs T (0, 0) this]; exact hv
      have c3 : (w.alloc (.view ⟨g, 0, none⟩ 5)).drew.cell? ⟨b, off + 1, none⟩ = some (.slice (some ⟨g, 0, none⟩) 0 0) := c2
      have c0 : w.cell? ⟨b, off + 1, none⟩ = some (.slice (some ⟨g, 0, none⟩) 0 0) := c1
      clear hown hbk ha hv hg
      go_enter Tryd.func21, Tryd.ntmps21
      go_wp2
      go_region
      all_goals (go_wp2; go_ret; exact ⟨rfl, HH.out.below ((Below.refl _ _).drew.alloc (Nat.le_refl _) _), (Below.refl _ _).drew.alloc HBW.out _, (Lib.OthersKept.refl _ _ w).drew.alloc _⟩)
    · have c1 : w.drew.cell? ⟨b, off + 1, none⟩ = some (.slice (some ⟨g, 0, none⟩) 0 cap) := by
        have : w.drew.heap[b]? = some (.cells cs T (0, 0)) := hbk
        rw [cell_of_row w.drew b _ cs T (0, 0) this]; exact hv
      have hSD : (Builtin.unsafeSliceData_ #[40] 69 #[.slice (some ⟨g, 0, none⟩) 0 cap]).run Tryd.prog w.drew = .ok (.pointer (some ⟨g, 0, none⟩)) w.drew :=
        Lib.run_unsafeSliceData_row _ _ _ _ _ _ hc0
      clear hc0 hown hbk ha hv hg
      go_enter Tryd.func21, Tryd.ntmps21
      go_wp2
      go_region
      all_goals (go_wp2; go_ret; exact ⟨rfl, HH.out.below (Below.refl _ _).drew, (Below.refl _ _).drew, (Lib.OthersKept.refl _ _ w).drew⟩)

theorem string_any {T Bs b off : Nat} {cs : Array Value} {l : Str} {w : World} (h : Bld T Bs b off cs l w) (hBw : Bs ≤ w.heap.size) :
    Calls Tryd.prog 21 #[.pointer (some ⟨b, off, none⟩)] w fun e w' => e = .returned (.string (B l)) ∧ Bld T Bs b off cs l w' ∧ Below Bs w w' ∧ Lib.OthersKept 5 (some b) w w' := by
  cases l with
  | nil => exact string_none h hBw
  | cons x r => exact string_some h (by simp)

/-- What lies beside the builder stands. -/
theorem box_kept {e t : TypeId} {b k : Nat} {cs : Array Value} {fz : Nat × Nat} {w w' : World} (h : Lib.OthersKept e (some b) w w') (hv : w.heap[k]? = some (.cells cs t fz)) (hk : k ≠ b) (ht : t ≠ e) : w'.heap[k]? = some (.cells cs t fz) :=
  h k _ hv (fun e1 => hk (Option.some.inj e1)) (fun _ _ e1 => by injection e1 with _ e2; exact ht e2)

theorem lies_own : liesAt Tryd.prog Tryd.prog.depth 42 (2 / Tryd.prog.cellsOf 42) 0 42 1 = true := by kernel_rfl

/-- A builder in a block of its own. -/
def IsB (Bs b : Nat) (l : Str) (w : World) : Prop := ∃ cs : Array Value, cs.size = 2 ∧ Bld 42 Bs b 0 cs l w
theorem IsB.lt {Bs b : Nat} {l : Str} {w : World} (h : IsB Bs b l w) : b < w.heap.size := h.elim fun _ h => h.2.lt
theorem IsB.below {Bs b : Nat} {l : Str} {w w' : World} (h : IsB Bs b l w) (hb : Below w.heap.size w w') : IsB Bs b l w' := h.elim fun cs h => ⟨cs, h.1, h.2.below hb⟩
theorem IsB.alloc {Bs b : Nat} {l : Str} {w : World} (h : IsB Bs b l w) (o : Obj) : IsB Bs b l (w.alloc o) := h.below (below_alloc (Below.refl _ _) o)
theorem IsB.new {Bs b : Nat} {w : World} (hB : Bs ≤ b) (h : w.heap[b]? = some (.cells #[.pointer none, .slice none 0 0] 42 (0, 0))) : IsB Bs b [] w :=
  ⟨_, rfl, hB, by decide, h, .inl rfl, _, rfl, World.ownsRowF_nil _ _ _ _⟩
theorem IsB.write {Bs b : Nat} {l : Str} (s : Str) {w : World} (h : IsB Bs b l w) (hlen : l.length + s.length ≤ 140737488355328) (hBw : Bs ≤ w.heap.size) :
    Calls Tryd.prog 19 #[.pointer (some ⟨b, 0, none⟩), .string (B s)] w fun e w' => e = .returned (.tuple #[.int .i64 s.length, .nilIface]) ∧
      IsB Bs b (l ++ s) w' ∧ Below Bs w w' ∧ Lib.OthersKept 5 (some b) w w' := by
  obtain ⟨cs, hs, h⟩ := h
  refine (writeString_any s h (by rw [hs]; exact lies_own) hlen hBw).mono ?_
  rintro e w' ⟨he, ⟨v', hb⟩, h1, h2⟩
  exact ⟨he, ⟨_, by simpa using hs, hb⟩, h1, h2⟩
theorem IsB.string {Bs b : Nat} {l : Str} {w : World} (h : IsB Bs b l w) (hBw : Bs ≤ w.heap.size) :
    Calls Tryd.prog 21 #[.pointer (some ⟨b, 0, none⟩)] w fun e w' => e = .returned (.string (B l)) ∧ IsB Bs b l w' ∧ Below Bs w w' ∧ Lib.OthersKept 5 (some b) w w' := by
  obtain ⟨cs, hs, h⟩ := h
  refine (string_any h hBw).mono ?_
  rintro e w' ⟨he, hb, h1, h2⟩
  exact ⟨he, ⟨_, hs, hb⟩, h1, h2⟩

end Go.Proofs.YtggeelejmhihdaaDoor.Bl
