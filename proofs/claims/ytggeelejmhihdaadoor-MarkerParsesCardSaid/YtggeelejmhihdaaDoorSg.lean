/- What a row's list of the signs gives: the table's cells. Shared by the laws' rows. -/
import Derived.Test.YtggeelejmhihdaaDoorLn
import Derived.Test.YtggeelejmhihdaaDoorCards
import Derived.Test.YtggeelejmhihdaaDoorTie
import Derived.WalkKit
import Derived.ProofKit
import Derived.OpenShut
import Derived.Deep.DeepHandedRow
import Derived.Lib.LaidTab
import Derived.ChangeArms
import Derived.ChangeSame
import Derived.ChangeMaps5
import Derived.Below
import Derived.WideKeyArgs
namespace Go.Proofs.YtggeelejmhihdaaDoor.Sg
open Go.RowKit Go.Shelf Go.ChangeShapes Go.WideShapes Go.ChangeAt Go.Proofs.YtggeelejmhihdaaDoor.Pl Go.Proofs.YtggeelejmhihdaaDoor.Ut
set_option linter.unusedVariables false
set_option linter.unusedSimpArgs false

theorem own : ownKnob Tryd.prog.godebug = none := by kernel_rfl
theorem gSigns : Tryd.prog.globalNamed "concordat/marker.signs" = some 0 := by kernel_rfl
theorem tSigns : (Tryd.prog.globals[0]?).map (·.type) = some 52 := by kernel_rfl
theorem c4 : Tryd.prog.cellsOf 52 = 8 := by kernel_rfl
theorem c1 : Tryd.prog.cellsOf 44 = 2 := by kernel_rfl
theorem cS : Tryd.prog.cellsOf 9 = 1 := by kernel_rfl

/-- Two cells that read as two texts. -/
theorem two_texts {W : World} {n : Nat} {cs : List Value} {x : DataW Unit × List MemPlace} {a b : Str}
    (h : DataW.trod (fun _ => ()) Tryd.prog W 0 (fun _ => true) false n 44 cs = some x) (hx : x.1 = .agg [.lit (.string a), .lit (.string b)]) : cs[0]? = some (.string (B a)) ∧ cs[1]? = some (.string (B b)) := by
  obtain ⟨y0, y1, m, rfl, hl, h0, h1⟩ := trod_struct2 Tryd.underlying44 h
  obtain ⟨s0, e0, rfl, _⟩ := DataW.trod_string Tryd.underlying9 h0
  obtain ⟨s1, e1, rfl, _⟩ := DataW.trod_string Tryd.underlying9 h1
  simp only [DataW.agg.injEq, List.cons.injEq, DataW.lit.injEq, Lit.string.injEq, and_true] at hx
  have k0 : (B a) = s0 := by rw [← hx.1]
  have k1 : (B b) = s1 := by rw [← hx.2]
  rw [k0, k1]
  simp only [cS] at e0 e1
  constructor
  · have := congrArg (·[0]?) e0
    simpa using this
  · have := congrArg (·[0]?) e1
    simpa [List.getElem?_take, List.getElem?_drop] using this

theorem signs_of_laid {W : World} (h : laidMetH Tryd.prog [("concordat/marker.signs", Rows.laid_concordat_marker_signs)] W) : Signs W := by
  have h : laidMet Tryd.prog [("concordat/marker.signs", Rows.laid_concordat_marker_signs)] W := h
  obtain ⟨ps, ⟨g', t', cs, fuel, p, q, hg', ht', hvar, hd, _, _⟩, _⟩ := h
  obtain rfl := Option.some.inj (gSigns.symm.trans hg')
  obtain rfl := Option.some.inj (tSigns.symm.trans ht')
  obtain ⟨xs, m, _, hx, hl, hxl, hat⟩ := DataW.trod_array Tryd.underlying52 hd
  simp only [c1] at hat
  have hx1 : xs.map (·.1) = [.agg [.lit (.string [60]), .lit (.string wOurs)], .agg [.lit (.string [124]), .lit (.string wBase)], .agg [.lit (.string [61]), .lit (.string [])], .agg [.lit (.string [62]), .lit (.string wTheirs)]] := by
    have := congrArg Prod.fst hx
    simp only [Rows.laid_concordat_marker_signs, DataW.agg.injEq] at this
    exact this.symm
  match xs, hxl, hx1, hat with
  | [x0, x1, x2, x3], _, hx1, hat =>
    have hx2 : [x0.1, x1.1, x2.1, x3.1] = _ := hx1
    injection hx2 with e0 hx2
    injection hx2 with e1 hx2
    injection hx2 with e2 hx2
    injection hx2 with e3 _
    obtain ⟨a0, b0⟩ := two_texts (hat 0 (by omega)) e0
    obtain ⟨a1, b1⟩ := two_texts (hat 1 (by omega)) e1
    obtain ⟨a2, b2⟩ := two_texts (hat 2 (by omega)) e2
    obtain ⟨a3, b3⟩ := two_texts (hat 3 (by omega)) e3
    have conv : ∀ i j, j < 2 → ((cs.toList.drop (i * 2)).take 2)[j]? = cs[i * 2 + j]? := fun i j hj => by
      rw [List.getElem?_take, if_pos hj, List.getElem?_drop, Array.getElem?_toList]
    rw [conv _ _ (by omega)] at a0 b0 a1 b1 a2 b2 a3 b3
    have V := fun i => World.var?_cell gSigns hvar i
    exact ⟨(V 0).trans a0, (V 1).trans b0, (V 2).trans a1, (V 3).trans b1, (V 4).trans a2, (V 5).trans b2, (V 6).trans a3, (V 7).trans b3⟩

section
variable {H : Type} {enc : TypeId × Value → H} {P : Program}
/-- Arguments that came in read as they did, in a world that kept their places. -/
theorem args_stay (hl : laidOutB P = true) {W W' : World} {sp : Nat → Bool} : ∀ {ts : List TypeId} {vs : List Value} {ds : List (DataW H)} {ps : List MemPlace},
    (∀ t ∈ ts, P.readableRec t = true ∧ t < P.types.size) → DataW.TrodAll enc P W 0 (fun _ => true) true ts vs ds ps → (∀ p ∈ ps, W.sameAt W' p) → (∀ p ∈ ps, sp p.block = true) → DataW.TrodAll enc P W' 0 sp true ts vs ds ps
  | [], vs, ds, ps, _, h, _, _ => by
    obtain ⟨rfl, rfl, rfl⟩ := trodAll_nil h
    exact trodAll_mk0
  | t :: ts, vs, ds, ps, ht, h, hs, hp => by
    obtain ⟨v, vs', d, ds', p, q, rfl, rfl, rfl, h0, hr⟩ := trodAll_cons h
    refine trodAll_cons_mk (WideElems.Trod_stays hl (ht t (by simp)).1 (ht t (by simp)).2 h0 (fun x hx => hs x (by simp [hx])) (fun x hx => hp x (by simp [hx]))) (args_stay hl (fun u hu => ht u (by simp [hu])) hr (fun x hx => hs x (by simp [hx])) (fun x hx => hp x (by simp [hx])))

/-- A law's row, closed: the call answered true, and what stood below its own memory stands. -/
theorem law_post (hl : laidOutB P = true) {f : Func} {s : ChangeSpec} {W W' : World} {args : Array Value} {ds gs : List (DataW H)} {before : List MemPlace} {t : TypeId}
    (hts : ∀ t ∈ f.params.toList, P.readableRec t = true ∧ t < P.types.size) (hvs : s.vars = []) (hrt : f.resultTypes = #[t]) (ht : P.underlying t = some .bool)
    (hW : DataW.Whole enc P f.params.toList s.vars false W args.toList ds gs before) (hb : Below W.heap.size W W')
    (hfn : s.fn H (ds ++ gs) = { results := [.lit (.bool true)], args := ds }) : s.post enc P f false true false false W args (.bool true) W' := by
  have hlt : ∀ x ∈ before, x.block < W.heap.size := fun x hx => hW.lt x hx
  obtain ⟨p, q, hA, hV, hpq, _, _⟩ := id hW
  rw [hvs] at hV
  obtain ⟨rfl, rfl⟩ := trodVars_none hV
  rw [List.append_nil] at hpq
  subst hpq
  have hA' : DataW.TrodAll enc P W' 0 (fun b => decide (b < W.heap.size)) true f.params.toList args.toList ds before :=
    args_stay hl hts hA (fun x hx => hb.same (hlt x hx)) (fun x hx => by simpa using hlt x hx)
  refine ⟨ds, [], before, [], before, [], hW, ?_, ?_, ?_, World.keptBut_mono (fun x hx => ⟨hx, ?_⟩) (hb.frame (· ∈ before)), fun h => by cases h⟩
  · rw [hfn, hrt]
    exact trodAll_cons_mk (shut_bool ht _) trodAll_mk0
  · rw [hfn]
    exact hA'
  · rw [hfn, hvs]
    exact rfl
  · simpa using hx
end

/-- The signs' own block, as the initialiser lays it, in a settled world. -/
noncomputable def laidWorld (os : Os) : World :=
  { World.holding Tryd.prog os ⟨#[], #[], []⟩ with heap := (World.holding Tryd.prog os ⟨#[], #[], []⟩).heap.modify 0 fun
      | .cells _ t frozen => .cells #[.string (B [60]), .string (B wOurs), .string (B [124]), .string (B wBase), .string (B [61]), .string (B []), .string (B [62]), .string (B wTheirs)] t frozen
      | o => o }

end Go.Proofs.YtggeelejmhihdaaDoor.Sg
