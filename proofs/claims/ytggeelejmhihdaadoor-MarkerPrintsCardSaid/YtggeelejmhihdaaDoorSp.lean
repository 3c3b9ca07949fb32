/- An argument that is a row of parts. -/
import Derived.Test.YtggeelejmhihdaaDoorSg
import Derived.Test.YtggeelejmhihdaaDoorLb
import Derived.Deep.Slices
import Derived.Deep.Fields
namespace Go.Proofs.YtggeelejmhihdaaDoor.Sp
open Go.RowKit Go.Shelf Go.ChangeShapes Go.WideShapes Go.ChangeAt Go.ChangeMaps Go.Deep Go.Proofs.YtggeelejmhihdaaDoor.Pl Go.Proofs.YtggeelejmhihdaaDoor.Ut Go.Proofs.YtggeelejmhihdaaDoor.Lb Go.Proofs.YtggeelejmhihdaaDoor.Sg Go.Proofs.YtggeelejmhihdaaDoorW.PrintWords
set_option linter.unusedVariables false
set_option linter.unusedSimpArgs false

theorem cP : Tryd.prog.cellsOf 29 = 4 := by kernel_rfl
theorem cB : Tryd.prog.cellsOf 4 = 1 := by kernel_rfl

section
variable {H : Type} {enc : TypeId × Value → H} {W : World} {base : Nat} {sp : Nat → Bool} {held : Bool}
/-- Four cells that read as a part are a part's cells. -/
theorem part_cells {n : Nat} {cs : List Value} {x : DataW H × List MemPlace} (h : DataW.trod enc Tryd.prog W base sp held n 29 cs = some x) : ∃ p : Part, cs = partCells p := by
  obtain ⟨xs, m, _, _, hl, hxl, hf⟩ := DataW.trod_struct Tryd.underlying29 h
  rw [cP] at hl
  have h0 := hf 0 _ rfl
  have h1 := hf 1 _ rfl
  have h2 := hf 2 _ rfl
  have h3 := hf 3 _ rfl
  have hl : cs.length = 4 := hl
  match xs, hxl, cs, hl, h0, h1, h2, h3 with
  | [y0, y1, y2, y3], _, [c0, c1, c2, c3], _, h0, h1, h2, h3 =>
    obtain ⟨b, e0, _⟩ := DataW.trod_bool Tryd.underlying4 h0
    obtain ⟨s1, e1, _⟩ := DataW.trod_string Tryd.underlying9 h1
    obtain ⟨s2, e2, _⟩ := DataW.trod_string Tryd.underlying9 h2
    obtain ⟨s3, e3, _⟩ := DataW.trod_string Tryd.underlying9 h3
    have e0 : ([c0, c1, c2, c3].drop 0).take (Tryd.prog.cellsOf 4) = [.bool b] := e0
    have e1 : ([c0, c1, c2, c3].drop 1).take (Tryd.prog.cellsOf 9) = [.string s1] := e1
    have e2 : ([c0, c1, c2, c3].drop 2).take (Tryd.prog.cellsOf 9) = [.string s2] := e2
    have e3 : ([c0, c1, c2, c3].drop 3).take (Tryd.prog.cellsOf 9) = [.string s3] := e3
    rw [cB] at e0
    rw [cS] at e1 e2 e3
    have k0 : c0 = .bool b := by simpa using e0
    have k1 : c1 = .string s1 := by simpa using e1
    have k2 : c2 = .string s2 := by simpa using e2
    have k3 : c3 = .string s3 := by simpa using e3
    subst k0 k1 k2 k3
    exact ⟨⟨b, s1.data.toList, s2.data.toList, s3.data.toList⟩, by unfold partCells; rw [← B_of s1, ← B_of s2, ← B_of s3]⟩

theorem parts_arg {r : Reach} {b0 : Nat} {v : Value} {d : DataW H} {ps : List MemPlace} (hval : Value.okWide Tryd.prog W r b0 22 v) (h : DataW.Trod enc Tryd.prog W base sp held 22 v d ps) :
    ∃ (A : Option Addr) (c : Nat) (xs : List Part), v = .slice A xs.length c ∧ xs.length ≤ 9223372036854775807 ∧ Kd.C kPart W A xs.length xs := by
  obtain ⟨a0, len0, cap0, rfl⟩ := okWide_slice Tryd.underlying22 hval
  obtain ⟨fuel, hf⟩ := h
  rcases open_slice Tryd.underlying22 hf with ⟨h0, _⟩ | ⟨a, len, cap, m, n, D, Pl, hcs, hb, hl, hm, hmm, _, hi⟩
  · simp [Value.cells] at h0
    obtain ⟨rfl, rfl, rfl⟩ := h0
    exact ⟨none, 0, [], rfl, by simp, Kd.C_nil kPart W⟩
  · simp [Value.cells] at hcs
    obtain ⟨rfl, rfl, rfl⟩ := hcs
    have hlm : len0 ≤ m := by rw [hmm]; split <;> omega
    have each : ∀ i, i < len0 → ∃ p : Part, ∀ j u, (partCells p)[j]? = some u → W.cell? (a.add (i * 4 + j)) = some u := fun i hil => by
      obtain ⟨cs', hc, ht⟩ := hi i (by omega)
      rw [cP] at hc
      obtain ⟨p, rfl⟩ := part_cells ht
      obtain ⟨_, hcl, hat⟩ := World.cells?_some hc
      refine ⟨p, fun j u hu => ?_⟩
      have hj := (List.getElem?_eq_some_iff.1 hu).1
      rw [← Go.Deep.add_add, hat j (by rw [hcl] at hj; exact hj), hu]
    haveI : Inhabited Part := ⟨⟨false, [], [], []⟩⟩
    obtain ⟨F, hF⟩ := choose_lt each
    have hlen : ((List.range len0).map F).length = len0 := by simp
    refine ⟨some a, cap0, (List.range len0).map F, by rw [hlen], by rw [hlen]; unfold maxLen at hm; omega, ?_⟩
    refine ⟨rfl, by rw [hlen]; unfold maxLen at hm; omega, fun _ => ⟨a, rfl, fun j p hj => ?_⟩⟩
    have hjl : j < len0 := by have := (List.getElem?_eq_some_iff.1 hj).1; rwa [hlen] at this
    have hp : p = F j := by
      rw [List.getElem?_map, List.getElem?_range hjl] at hj
      exact (Option.some.inj hj).symm
    subst hp
    exact ⟨partCells (F j), rfl, kPart_K W (F j), hF j hjl⟩
end

end Go.Proofs.YtggeelejmhihdaaDoor.Sp
