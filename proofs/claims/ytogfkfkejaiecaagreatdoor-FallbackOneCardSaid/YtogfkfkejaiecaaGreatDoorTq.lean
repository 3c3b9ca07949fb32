/- What a row's list of the signs gives: the table's cells. Shared by the laws' rows. Arguments that are three texts, three truths, a row of files. An argument that is a row of files: each of its texts lies within the reach. The law FallbackFiles, as a walk, where awake and ref08.Lines are told. awake, the document's example, answers true. -/
import Derived.Test.YtogfkfkejaiecaaGreatDoorTa
import Derived.Test.YtogfkfkejaiecaaGreatDoorCards
import Derived.Test.YtogfkfkejaiecaaGreatDoorTie
import Derived.WalkKit
import Derived.ProofKit
import Derived.OpenShut
import Derived.Deep.DeepHandedRow
import Derived.Lib.LaidTab
import Derived.ChangeArms
import Derived.ChangeSame
import Derived.ChangeMaps5
import Derived.Below
import Derived.WideKeyArgs
import Derived.Test.YtogfkfkejaiecaaGreatDoorTi
import Derived.Deep.Slices
import Derived.Deep.Fields
import Derived.Laws.IdiomArrays
import Derived.SizedLaws
import Derived.Test.YtogfkfkejaiecaaGreatDoorTm
import Derived.BigQuiet
import Derived.ChangeKeysEq
import Derived.Test.YtogfkfkejaiecaaGreatDoorTwm

namespace Go.Proofs.YtogfkfkejaiecaaGreatDoor.Sg
open Go.RowKit Go.Shelf Go.ChangeShapes Go.WideShapes Go.ChangeAt Pl Ut
set_option linter.unusedVariables false
set_option linter.unusedSimpArgs false

theorem own : ownKnob Tryz.prog.godebug = none := by kernel_rfl
theorem gSigns : Tryz.prog.globalNamed "concordat/marker.signs" = some 0 := by kernel_rfl
theorem tSigns : (Tryz.prog.globals[0]?).map (·.type) = some 108 := by kernel_rfl
theorem c4 : Tryz.prog.cellsOf 108 = 8 := by kernel_rfl
theorem c1 : Tryz.prog.cellsOf 107 = 2 := by kernel_rfl
theorem cS : Tryz.prog.cellsOf 9 = 1 := by kernel_rfl

/-- Two cells that read as two texts. -/
theorem two_texts {W : World} {n : Nat} {cs : List Value} {x : DataW Unit × List MemPlace} {a b : Str}
    (h : DataW.trod (fun _ => ()) Tryz.prog W 0 (fun _ => true) false n 107 cs = some x) (hx : x.1 = .agg [.lit (.string a), .lit (.string b)]) : cs[0]? = some (.string (B a)) ∧ cs[1]? = some (.string (B b)) := by
  obtain ⟨y0, y1, m, rfl, hl, h0, h1⟩ := trod_struct2 Tryz.underlying107 h
  obtain ⟨s0, e0, rfl, _⟩ := DataW.trod_string Tryz.underlying9 h0
  obtain ⟨s1, e1, rfl, _⟩ := DataW.trod_string Tryz.underlying9 h1
  simp only [DataW.agg.injEq, List.cons.injEq, DataW.lit.injEq, Lit.string.injEq, and_true] at hx
  have k0 : (B a) = s0 := by rw [← hx.1]
  have k1 : (B b) = s1 := by rw [← hx.2]
  rw [k0, k1]
  simp only [cS] at e0 e1
  constructor
  · have := congrArg (·[0]?) e0
    simpa using this
  · have := congrArg (·[0]?) e1
    simpa [List.getElem?_take, List.getElem?_drop] using this

theorem signs_of_laid {W : World} (h : laidMetH Tryz.prog [("concordat/marker.signs", Rows.laid_concordat_marker_signs)] W) : Signs W := by
  have h : laidMet Tryz.prog [("concordat/marker.signs", Rows.laid_concordat_marker_signs)] W := h
  obtain ⟨ps, ⟨g', t', cs, fuel, p, q, hg', ht', hvar, hd, _, _⟩, _⟩ := h
  obtain rfl := Option.some.inj (gSigns.symm.trans hg')
  obtain rfl := Option.some.inj (tSigns.symm.trans ht')
  obtain ⟨xs, m, _, hx, hl, hxl, hat⟩ := DataW.trod_array Tryz.underlying108 hd
  simp only [c1] at hat
  have hx1 : xs.map (·.1) = [.agg [.lit (.string [60]), .lit (.string wOurs)], .agg [.lit (.string [124]), .lit (.string wBase)], .agg [.lit (.string [61]), .lit (.string [])], .agg [.lit (.string [62]), .lit (.string wTheirs)]] := by
    have := congrArg Prod.fst hx
    simp only [Rows.laid_concordat_marker_signs, DataW.agg.injEq] at this
    exact this.symm
  match xs, hxl, hx1, hat with
  | [x0, x1, x2, x3], _, hx1, hat =>
    have hx2 : [x0.1, x1.1, x2.1, x3.1] = _ := hx1
    injection hx2 with e0 hx2
    injection hx2 with e1 hx2
    injection hx2 with e2 hx2
    injection hx2 with e3 _
    obtain ⟨a0, b0⟩ := two_texts (hat 0 (by omega)) e0
    obtain ⟨a1, b1⟩ := two_texts (hat 1 (by omega)) e1
    obtain ⟨a2, b2⟩ := two_texts (hat 2 (by omega)) e2
    obtain ⟨a3, b3⟩ := two_texts (hat 3 (by omega)) e3
    have conv : ∀ i j, j < 2 → ((cs.toList.drop (i * 2)).take 2)[j]? = cs[i * 2 + j]? := fun i j hj => by
      rw [List.getElem?_take, if_pos hj, List.getElem?_drop, Array.getElem?_toList]
    rw [conv _ _ (by omega)] at a0 b0 a1 b1 a2 b2 a3 b3
    have V := fun i => World.var?_cell gSigns hvar i
    exact ⟨(V 0).trans a0, (V 1).trans b0, (V 2).trans a1, (V 3).trans b1, (V 4).trans a2, (V 5).trans b2, (V 6).trans a3, (V 7).trans b3⟩

section
variable {H : Type} {enc : TypeId × Value → H} {P : Program}
/-- Arguments that came in read as they did, in a world that kept their places. -/
theorem args_stay (hl : laidOutB P = true) {W W' : World} {sp : Nat → Bool} : ∀ {ts : List TypeId} {vs : List Value} {ds : List (DataW H)} {ps : List MemPlace},
    (∀ t ∈ ts, P.readableRec t = true ∧ t < P.types.size) → DataW.TrodAll enc P W 0 (fun _ => true) true ts vs ds ps → (∀ p ∈ ps, W.sameAt W' p) → (∀ p ∈ ps, sp p.block = true) → DataW.TrodAll enc P W' 0 sp true ts vs ds ps
  | [], vs, ds, ps, _, h, _, _ => by
    obtain ⟨rfl, rfl, rfl⟩ := trodAll_nil h
    exact trodAll_mk0
  | t :: ts, vs, ds, ps, ht, h, hs, hp => by
    obtain ⟨v, vs', d, ds', p, q, rfl, rfl, rfl, h0, hr⟩ := trodAll_cons h
    refine trodAll_cons_mk (WideElems.Trod_stays hl (ht t (by simp)).1 (ht t (by simp)).2 h0 (fun x hx => hs x (by simp [hx])) (fun x hx => hp x (by simp [hx]))) (args_stay hl (fun u hu => ht u (by simp [hu])) hr (fun x hx => hs x (by simp [hx])) (fun x hx => hp x (by simp [hx])))

/-- A law's row, closed: the call answered true, and what stood below its own memory stands. -/
theorem law_post (hl : laidOutB P = true) {f : Func} {s : ChangeSpec} {W W' : World} {args : Array Value} {ds gs : List (DataW H)} {before : List MemPlace} {t : TypeId}
    (hts : ∀ t ∈ f.params.toList, P.readableRec t = true ∧ t < P.types.size) (hvs : s.vars = []) (hrt : f.resultTypes = #[t]) (ht : P.underlying t = some .bool)
    (hW : DataW.Whole enc P f.params.toList s.vars false W args.toList ds gs before) (hb : Below W.heap.size W W')
    (hfn : s.fn H (ds ++ gs) = { results := [.lit (.bool true)], args := ds }) : s.post enc P f false true false false W args (.bool true) W' := by
  have hlt : ∀ x ∈ before, x.block < W.heap.size := fun x hx => hW.lt x hx
  obtain ⟨p, q, hA, hV, hpq, _, _⟩ := id hW
  rw [hvs] at hV
  obtain ⟨rfl, rfl⟩ := trodVars_none hV
  rw [List.append_nil] at hpq
  subst hpq
  have hA' : DataW.TrodAll enc P W' 0 (fun b => decide (b < W.heap.size)) true f.params.toList args.toList ds before :=
    args_stay hl hts hA (fun x hx => hb.same (hlt x hx)) (fun x hx => by simpa using hlt x hx)
  refine ⟨ds, [], before, [], before, [], hW, ?_, ?_, ?_, World.keptBut_mono (fun x hx => ⟨hx, ?_⟩) (hb.frame (· ∈ before)), fun h => by cases h⟩
  · rw [hfn, hrt]
    exact trodAll_cons_mk (shut_bool ht _) trodAll_mk0
  · rw [hfn]
    exact hA'
  · rw [hfn, hvs]
    exact rfl
  · simpa using hx
end

/-- The signs' own block, as the initialiser lays it, in a settled world. -/
noncomputable def laidWorld (os : Os) : World :=
  { World.holding Tryz.prog os ⟨#[], #[], []⟩ with heap := (World.holding Tryz.prog os ⟨#[], #[], []⟩).heap.modify 0 fun
      | .cells _ t frozen => .cells #[.string (B [60]), .string (B wOurs), .string (B [124]), .string (B wBase), .string (B [61]), .string (B []), .string (B [62]), .string (B wTheirs)] t frozen
      | o => o }

end Go.Proofs.YtogfkfkejaiecaaGreatDoor.Sg

namespace Go.Proofs.YtogfkfkejaiecaaGreatDoor.Sf
open Go.RowKit Go.Shelf Go.ChangeShapes Go.WideShapes Go.ChangeAt Go.ChangeMaps Go.Deep Pl Ut Sg Ga Go.Proofs.YtogfkfkejaiecaaGreatDoorW.PrintWords
set_option linter.unusedVariables false
set_option linter.unusedSimpArgs false
set_option maxRecDepth 100000

theorem cF : Tryz.prog.cellsOf 49 = 2 := by kernel_rfl
section
variable {H : Type} {enc : TypeId × Value → H} {W : World} {base : Nat} {sp : Nat → Bool} {held : Bool}
theorem kFl_K (w : World) (x : Fl) : kFl.K w x (flCells x) := kFl.K_of_M (kFl_mk w 0 (fun _ => True) x)
theorem choose_ltF {α : Type} [Inhabited α] {n : Nat} {p : Nat → α → Prop} (h : ∀ i, i < n → ∃ x, p i x) : ∃ F : Nat → α, ∀ i, i < n → p i (F i) := by
  classical
  refine ⟨fun i => if hi : i < n then (h i hi).choose else default, fun i hi => ?_⟩
  simp only [hi, dif_pos]
  exact (h i hi).choose_spec
end

end Go.Proofs.YtogfkfkejaiecaaGreatDoor.Sf

namespace Go.Proofs.YtogfkfkejaiecaaGreatDoor.Sr
open Go.RowKit Go.Shelf Go.ChangeShapes Go.WideShapes Go.ChangeAt Go.ChangeMaps Go.Deep Pl Ut Sg Ga Sf Go.Proofs.YtogfkfkejaiecaaGreatDoorW.PrintWords
set_option linter.unusedVariables false
set_option linter.unusedSimpArgs false
set_option maxRecDepth 100000

section
variable {H : Type} {enc : TypeId × Value → H} {W : World} {base : Nat} {sp : Nat → Bool} {held : Bool}
theorem weightsAll_mem {e : TypeId} {m : Nat} : ∀ {l : List (DataW H)} {d : DataW H}, d ∈ l → m ∈ d.weights Tryz.prog e → m ∈ DataW.weightsAll Tryz.prog e l
  | x :: r, d, hd, hm => by
    simp only [DataW.weightsAll, List.mem_append]
    rcases List.mem_cons.1 hd with rfl | hd
    · exact .inl hm
    · exact .inr (weightsAll_mem hd hm)
theorem file_cells2 {n : Nat} {cs : List Value} {x : DataW H × List MemPlace} (h : DataW.trod enc Tryz.prog W base sp held n 49 cs = some x) : ∃ p : Fl, cs = flCells p ∧ x.1 = .agg [.lit (.string p.1), .lit (.string p.2)] := by
  obtain ⟨xs, m, _, rfl, hl, hxl, hf⟩ := DataW.trod_struct Tryz.underlying49 h
  rw [cF] at hl
  have h0 := hf 0 _ rfl
  have h1 := hf 1 _ rfl
  have hl : cs.length = 2 := hl
  match xs, hxl, cs, hl, h0, h1 with
  | [y0, y1], _, [c0, c1], _, h0, h1 =>
    obtain ⟨s0, e0, g0, z0⟩ := DataW.trod_string Tryz.underlying9 h0
    obtain ⟨s1, e1, g1, z1⟩ := DataW.trod_string Tryz.underlying9 h1
    have e0 : ([c0, c1].drop 0).take (Tryz.prog.cellsOf 9) = [.string s0] := e0
    have e1 : ([c0, c1].drop 1).take (Tryz.prog.cellsOf 9) = [.string s1] := e1
    have g0 : y0 = (.lit (.string s0.data.toList), []) := g0
    have g1 : y1 = (.lit (.string s1.data.toList), []) := g1
    rw [cS] at e0 e1
    have k0 : c0 = .string s0 := by simpa using e0
    have k1 : c1 = .string s1 := by simpa using e1
    subst k0 k1 g0 g1
    exact ⟨(s0.data.toList, s1.data.toList), by unfold flCells; rw [← B_of s0, ← B_of s1], rfl⟩
theorem fls_arg2 {r : Reach} {b0 : Nat} {v : Value} {d : DataW H} {ps : List MemPlace} (hval : Value.okWide Tryz.prog W r b0 33 v) (h : DataW.Trod enc Tryz.prog W base sp held 33 v d ps) (hw : ∀ m ∈ d.weights Tryz.prog 33, m ≤ reachBytes) :
    ∃ (A : Option Addr) (c : Nat) (xs : List Fl), v = .slice A xs.length c ∧ xs.length ≤ c ∧ xs.length ≤ 9223372036854775807 ∧ Kd.C kFl W A xs.length xs ∧ ∀ f ∈ xs, f.1.length ≤ 1000000000000000 ∧ f.2.length ≤ 1000000000000000 := by
  obtain ⟨a0, len0, cap0, rfl⟩ := okWide_slice Tryz.underlying33 hval
  obtain ⟨fuel, hf⟩ := h
  rcases open_slice Tryz.underlying33 hf with ⟨h0, _⟩ | ⟨a, len, cap, m, n, D, Pl, hcs, hb, hl, hm, hmm, hxx, hi⟩
  · simp [Value.cells] at h0
    obtain ⟨rfl, rfl, rfl⟩ := h0
    exact ⟨none, 0, [], rfl, by simp, by simp, Kd.C_nil kFl W, fun f hf => by cases hf⟩
  · simp [Value.cells] at hcs
    obtain ⟨rfl, rfl, rfl⟩ := hcs
    have hd := congrArg Prod.fst hxx
    simp only at hd
    subst hd
    have hlm : len0 ≤ m := by rw [hmm]; split <;> omega
    have each : ∀ i, i < len0 → ∃ p : Fl, (∀ j u, (flCells p)[j]? = some u → W.cell? (a.add (i * 2 + j)) = some u) ∧ (p.1.length ≤ 1000000000000000 ∧ p.2.length ≤ 1000000000000000) := fun i hil => by
      obtain ⟨cs', hc, ht⟩ := hi i (by omega)
      rw [cF] at hc
      obtain ⟨p, rfl, hD⟩ := file_cells2 ht
      obtain ⟨_, hcl, hat⟩ := World.cells?_some hc
      have hD : D i = .agg [.lit (.string p.1), .lit (.string p.2)] := hD
      have hmem : D i ∈ (List.range len0).map D := List.mem_map.2 ⟨i, List.mem_range.2 hil, rfl⟩
      have hwt : ∀ q ∈ (D i).weights Tryz.prog 49, q ≤ reachBytes := fun q hq => hw q (by
        simp only [DataW.weights, Tryz.underlying33, List.mem_cons, List.mem_append]
        exact .inr (.inl (weightsAll_mem hmem hq)))
      rw [hD] at hwt
      simp only [DataW.weights, Tryz.underlying49] at hwt
      refine ⟨p, fun j u hu => ?_, ?_, ?_⟩
      · have hj := (List.getElem?_eq_some_iff.1 hu).1
        rw [← Go.Deep.add_add, hat j (by rw [hcl] at hj; exact hj), hu]
      · have := hwt p.1.length (by simp [DataW.weightsEach, DataW.weights])
        unfold reachBytes at this
        omega
      · have := hwt p.2.length (by simp [DataW.weightsEach, DataW.weights])
        unfold reachBytes at this
        omega
    haveI : Inhabited Fl := ⟨([], [])⟩
    obtain ⟨F, hF⟩ := choose_ltF each
    have hlen : ((List.range len0).map F).length = len0 := by simp
    refine ⟨some a, cap0, (List.range len0).map F, by rw [hlen], by rw [hlen]; exact hl, by rw [hlen]; unfold maxLen at hm; omega, ?_, ?_⟩
    · refine ⟨rfl, by rw [hlen]; unfold maxLen at hm; omega, fun _ => ⟨a, rfl, fun j p hj => ?_⟩⟩
      have hjl : j < len0 := by have := (List.getElem?_eq_some_iff.1 hj).1; rwa [hlen] at this
      have hp : p = F j := by
        rw [List.getElem?_map, List.getElem?_range hjl] at hj
        exact (Option.some.inj hj).symm
      subst hp
      exact ⟨flCells (F j), rfl, kFl_K W (F j), (hF j hjl).1⟩
    · intro f hf
      obtain ⟨i, hi', rfl⟩ := List.mem_map.1 hf
      exact (hF i (List.mem_range.1 hi')).2
end

end Go.Proofs.YtogfkfkejaiecaaGreatDoor.Sr

namespace Go.Proofs.YtogfkfkejaiecaaGreatDoor.Fa
open Go.RowKit Go.Shelf Pl Ut Ln Mk Ml Ms Mp Da Db Dc Dp Dq Ds Du Dv Ea Ec Ed Go.Proofs.YtogfkfkejaiecaaGreatDoorW.PrintWords
set_option linter.unusedVariables false
set_option linter.unusedSimpArgs false
attribute [local go_sem] B_append B_extract B_toList B_size take_end

/-- What is told of awake. -/
def AwakeOk : Prop := ∀ w : World, Signs w → Calls Tryz.prog 7 #[] w fun e w' => e = .returned (.bool true) ∧ Below w.heap.size w w'
theorem items_cons {P : Program} {w : World} {d c i : Nat} {e : TypeId} {xs ys : Array Value} {a b : Value} {is : List Nat} (ha : (part e xs (i * c)).run P w = .ok a w) (hb : (part e ys (i * c)).run P w = .ok b w) (he : (Op.equalIn d e a b).run P w = .ok true w)
    (hr : (Op.eqItems d e c xs ys is).run P w = .ok true w) : (Op.eqItems d e c xs ys (i :: is)).run P w = .ok true w := by
  simp [Op.eqItems, ha, hb, he, hr]
theorem eq3s (d : Nat) (w : World) (x y z : ByteArray) :
    (Op.equalIn (d + 2) 22 (.agg #[.string x, .string y, .string z]) (.agg #[.string x, .string y, .string z])).run Tryz.prog w = .ok true w := by
  obtain ⟨i0, hi, _, hz1, _⟩ := info_parts infoString
  rw [run_equalIn_array w (d + 1) _ _ Tryz.underlying22 hi, show Tryz.prog.cellsOf 9 = 1 by kernel_rfl]
  refine items_cons (i := 0) (a := .string x) (b := .string x) (by go_simp) (by go_simp) (by go_simp) ?_
  refine items_cons (i := 1) (a := .string y) (b := .string y) (by go_simp) (by go_simp) (by go_simp) ?_
  refine items_cons (i := 2) (a := .string z) (b := .string z) (by go_simp) (by go_simp) (by go_simp) ?_
  rfl
attribute [local go_sem high] eq3s
end Go.Proofs.YtogfkfkejaiecaaGreatDoor.Fa

namespace Go.Proofs.YtogfkfkejaiecaaGreatDoor.Ge
open Go.RowKit Go.Shelf Pl Ut Ln Mk Ml Ms Mp Da Db Dc Dn Dp Dq Ds Du Dv Fa Ga Gb Gc Gd Go.Proofs.YtogfkfkejaiecaaGreatDoorW.PrintWords
set_option linter.unusedVariables false
set_option linter.unusedSimpArgs false
attribute [local go_sem] B_append B_extract B_toList B_size take_end

def shownA : Str := [60, 60, 60, 60, 60, 60, 60, 32, 111, 117, 114, 115, 10, 98, 10, 61, 61, 61, 61, 61, 61, 61, 10, 99, 10, 62, 62, 62, 62, 62, 62, 62, 32, 116, 104, 101, 105, 114, 115, 10]
set_option maxRecDepth 100000 in
theorem file_is : fileL [97, 10] [98, 10] [99, 10] true true true false = (shownA, true, 1) := by kernel_rfl
set_option maxRecDepth 100000 in
theorem sides_is : sidesR shownA 7 = ([], [98, 10], [99, 10], 0) := by kernel_rfl
set_option maxRecDepth 100000 in
theorem marks_is : marksL [97] [98] [99] = 7 := by kernel_rfl
def oA : List Fl := [([112], [97, 10])]
def aA : List Fl := [([112], [97, 10, 98, 10])]
theorem paths_is : pathsL [oA, aA, oA] = [[112]] := by
  unfold pathsL sortS
  rw [show allL [oA, aA, oA] = [[112], [112], [112]] from rfl, List.mergeSort_of_pairwise (by decide)]
  kernel_rfl
set_option maxRecDepth 100000 in
theorem out_is : outOf oA aA oA true [112] = ([97, 10, 98, 10], true, 0) := by kernel_rfl
theorem trees_is : treesL oA aA oA true = ([([112], [97, 10, 98, 10])], []) := by
  unfold treesL
  rw [paths_is]
  simp only [outsL, badsL, List.foldl_cons, List.foldl_nil, out_is]
  rfl

theorem one_fl {w : World} {g : Nat} {x : Fl} (hg : w.heap[g]? = some (.cells (flCells x).toArray 49 (0, 0))) : Kd.C kFl w (some ⟨g, 0, none⟩) 1 [x] := by
  refine ⟨rfl, by omega, fun _ => ⟨_, rfl, fun j p hj => ?_⟩⟩
  match j, hj with
  | 0, hj =>
    cases hj
    refine ⟨flCells x, rfl, kFl.K_of_M (kFl_mk w 0 (fun _ => True) x), fun i u hu => ?_⟩
    rw [add_plain, blk_cell hg]
    simpa [kFl] using hu
  | j + 1, hj => simp at hj
theorem add_zero' (ad : Addr) : ad.add (0 * 2) = ad := by
  obtain ⟨b, o, p⟩ := ad
  unfold Addr.add
  split <;> simp_all
attribute [local go_sem high] eq3s
theorem getL_length (l : List Fl) (p : Str) (n : Nat) (h : ∀ f ∈ l, f.2.length ≤ n) : (getL l p).1.length ≤ n := by
  unfold getL
  split
  · rename_i f hf
    exact h f (List.mem_of_find?_eq_some hf)
  · simp

set_option maxRecDepth 100000 in
set_option maxHeartbeats 8000000 in
theorem awakeOk : AwakeOk := by
  intro w hS
  have K1 := Lib.hid (fun W (h : Below w.heap.size w W) => file_any [97, 10] [98, 10] [99, 10] true true true false (by decide) (by decide) (by decide) W (hS.below h))
  rw [file_is] at K1
  have K2 := Lib.hid (fun W (h : Below w.heap.size w W) => sides_any shownA 7 7 (by omega) (by decide) (by omega) (by decide) W (hS.below h))
  rw [sides_is] at K2
  have K3 := Lib.hid (fun W (h : Below w.heap.size w W) => marks_any [97] [98] [99] (by decide) (by decide) (by decide) W (hS.below h))
  rw [marks_is] at K3
  have l1 : ∀ p, (getL oA p).1.length ≤ 2500 := fun p => getL_length _ _ _ (by decide)
  have l2 : ∀ p, (getL aA p).1.length ≤ 2500 := fun p => getL_length _ _ _ (by decide)
  have K4 := Lib.hid (fun W (h : Below w.heap.size w W) A1 A2 A3 h1 h2 h3 => trees_any oA aA oA true A1 A2 A3 1 1 1 W h1 h2 h3 (Nat.le_refl _) (Nat.le_refl _) (Nat.le_refl _) (by decide) (fun p W' h' => three_any _ _ _ _ _ _ true (l1 p) (l2 p) (l1 p) W' (hS.below (h.trans (h'.mono h.size)))))
  rw [trees_is] at K4
  clear l1 l2 hS
  (try dsimp only at K1); (try dsimp only at K2); (try dsimp only at K3); (try dsimp only at K4)
  go_enter Tryz.func7, Tryz.ntmps7
  go_wp2_with fail
  refine (K1.out _ (Below.refl _ _)).mono ?_
  rintro e w1 ⟨rfl, hb1⟩
  have HB1 := Lib.hid hb1
  clear hb1 K1
  obtain ⟨U, hU⟩ : ∃ U, U = ((w1.alloc (.cells #[.string ⟨#[112]⟩, .string ⟨#[97, 10]⟩] 49)).alloc (.cells #[.string ⟨#[112]⟩, .string ⟨#[97, 10, 98, 10]⟩] 49)).alloc (.cells #[.string ⟨#[112]⟩, .string ⟨#[97, 10]⟩] 49) := ⟨_, rfl⟩
  have hbU : Below w1.heap.size w1 U := by rw [hU]; exact below_alloc (below_alloc (below_alloc (Below.refl _ _) _) _) _
  have k0 : U.heap[w1.heap.size]? = some (.cells #[.string ⟨#[112]⟩, .string ⟨#[97, 10]⟩] 49 (0, 0)) := by rw [hU]; exact blk_alloc (blk_alloc (blk_new _ _) _) _
  have k1 : U.heap[w1.heap.size + 1]? = some (.cells #[.string ⟨#[112]⟩, .string ⟨#[97, 10, 98, 10]⟩] 49 (0, 0)) := by
    rw [hU]
    refine blk_alloc ?_ _
    have := blk_new (w1.alloc (.cells #[.string ⟨#[112]⟩, .string ⟨#[97, 10]⟩] 49)) (.cells #[.string ⟨#[112]⟩, .string ⟨#[97, 10, 98, 10]⟩] 49)
    simpa using this
  have k2 : U.heap[w1.heap.size + 1 + 1]? = some (.cells #[.string ⟨#[112]⟩, .string ⟨#[97, 10]⟩] 49 (0, 0)) := by
    rw [hU]
    have := blk_new ((w1.alloc (.cells #[.string ⟨#[112]⟩, .string ⟨#[97, 10]⟩] 49)).alloc (.cells #[.string ⟨#[112]⟩, .string ⟨#[97, 10, 98, 10]⟩] 49)) (.cells #[.string ⟨#[112]⟩, .string ⟨#[97, 10]⟩] 49)
    simpa using this
  have K5 := Lib.hid (K4.out U (HB1.out.trans (hbU.mono HB1.out.size)) _ _ _ (one_fl (x := ([112], [97, 10])) k0) (one_fl (x := ([112], [97, 10, 98, 10])) k1) (one_fl (x := ([112], [97, 10])) k2))
  have HBU := Lib.hid (HB1.out.trans (hbU.mono HB1.out.size))
  rw [hU] at K5 HBU
  clear hU hbU k0 k1 k2 K4
  go_wp2_with fail
  refine K5.out.mono ?_
  rintro e w2 ⟨v, u, rfl, hv, hu, hb2⟩
  have HB2 := Lib.hid (HBU.out.trans (hb2.mono HBU.out.size))
  obtain ⟨AV, cV, rfl, _, hCv⟩ := Kd.R_reads hv
  obtain ⟨AU, cU, rfl, _, hCu⟩ := Kd.R_reads hu
  have HCV := Lib.hid hCv
  clear hv hu hb2 hCv hCu K5 HBU
  go_wp2_with fail
  refine (K2.out _ HB2.out).mono ?_
  rintro e w3 ⟨rfl, hb3⟩
  obtain ⟨ad, rfl, e0, e1⟩ := at_fl (Kd.C_below HCV.out hb3) 0 (by simp) _ rfl
  have HB3 := Lib.hid (HB2.out.trans (hb3.mono HB2.out.size))
  have hz : ad.add (0 * 2) = ad := add_zero' ad
  rw [hz] at e1
  clear hz
  have q1 := cell_alloc e1 (.cells #[.string (B []), .string (B [98, 10]), .string (B [99, 10])] 22)
  have HB4 := Lib.hid (HB3.out.trans ((below_alloc (Below.refl _ _) (.cells #[.string (B []), .string (B [98, 10]), .string (B [99, 10])] 22)).mono HB3.out.size))
  clear hb3 e0 e1 K2
  go_wp2_with fail
  refine (K3.out _ HB4.out).mono ?_
  rintro e w5 ⟨rfl, hb5⟩
  have HB5 := Lib.hid (HB4.out.trans (hb5.mono HB4.out.size))
  clear hb5 q1
  go_wp2
  go_ret
  exact ⟨rfl, HB5.out⟩

end Go.Proofs.YtogfkfkejaiecaaGreatDoor.Ge
