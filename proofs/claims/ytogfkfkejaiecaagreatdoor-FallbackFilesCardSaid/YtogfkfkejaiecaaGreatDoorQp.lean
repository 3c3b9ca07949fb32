/- FallbackFiles: for any three texts, of which each may not be there, and either form the law returns true, and its arguments read as they did; the table of signs holds what the text of the program lays. -/
import Derived.Test.YtogfkfkejaiecaaGreatDoorQo
import Derived.Test.YtogfkfkejaiecaaGreatDoorQn

namespace Go.Proofs.YtogfkfkejaiecaaGreatDoor.lawFiles
open Go.RowKit Go.Shelf Go.ChangeShapes Go.WideShapes Go.ChangeAt Go.ChangeMaps Go.Proofs.YtogfkfkejaiecaaGreatDoor.Pl Go.Proofs.YtogfkfkejaiecaaGreatDoor.Ut Go.Proofs.YtogfkfkejaiecaaGreatDoor.Sg
set_option linter.unusedVariables false
set_option linter.unusedSimpArgs false

theorem readable : ∀ t ∈ Tryz.f3.params.toList, Tryz.prog.readableRec t = true ∧ t < Tryz.prog.types.size := by
  rw [Tryz.params3]
  intro t ht
  have ht : t ∈ [22, 23, 4] := ht
  simp only [List.mem_cons, List.not_mem_nil, or_false] at ht
  rcases ht with rfl | rfl | rfl
  · exact ⟨by kernel_rfl, of_decide_eq_true (by kernel_rfl)⟩
  · exact ⟨by kernel_rfl, of_decide_eq_true (by kernel_rfl)⟩
  · exact ⟨by kernel_rfl, of_decide_eq_true (by kernel_rfl)⟩
theorem laidOut : laidOutB Tryz.prog = true := by kernel_rfl

set_option maxRecDepth 100000 in
/-- WHAT THE WALK GIVES, FOR EVERY ARGUMENT AND EVERY WORLD THAT HOLDS THE TABLE. -/
theorem contract (H : Type) (enc : TypeId × Value → H) (W : World) (base : Nat) (args : Array Value) (ds gs : List (DataW H)) (before : List MemPlace)
    (hval : ∀ (j : Nat) t v, Tryz.f3.params[j]? = some t → args[j]? = some v → Value.okWide Tryz.prog W .any base t v)
    (hW : DataW.Whole enc Tryz.prog Tryz.f3.params.toList Rows.fallbackFilesSpec.vars false W args.toList ds gs before) (hL : laidMetH Tryz.prog Rows.fallbackFilesRow.laid W) :
    Calls Tryz.prog 3 args W fun e W' => ∃ v, e = .returned v ∧ Rows.fallbackFilesSpec.post enc Tryz.prog Tryz.f3 false true false false W args v W' := by
  have hW' := hW
  obtain ⟨p, q, hA0, hV, rfl, hfz, hnd⟩ := hW
  have hA : DataW.TrodAll enc Tryz.prog W 0 (fun _ => true) true Tryz.f3.params.toList args.toList ds p := hA0
  rw [Tryz.params3] at hA hval
  obtain ⟨v0, vs0, d0, ds0, p0, q0, hargs, rfl, rfl, h0, r0⟩ := trodAll_cons hA
  obtain ⟨v1, vs1, d1, ds1, p1, q1, rfl, rfl, rfl, h1, r1⟩ := trodAll_cons r0
  obtain ⟨v2, vs2, d2, ds2, p2, q2, rfl, rfl, rfl, h2, r2⟩ := trodAll_cons r1
  obtain ⟨rfl, rfl, rfl⟩ := trodAll_nil r2
  obtain rfl : args = #[v0, v1, v2] := by cases args; simp_all
  obtain ⟨rfl, rfl⟩ := trodVars_none hV
  obtain ⟨sa0, sb0, sc0, rfl, za0, zb0, zc0⟩ := Sf.strs3_arg (hval 0 22 v0 rfl rfl) h0
  obtain ⟨ba1, bb1, bc1, rfl⟩ := Sf.bools3_arg (hval 1 23 v1 rfl rfl) h1
  obtain ⟨b2, rfl, -, -⟩ := open_bool Tryz.underlying4 (hval 2 4 v2 rfl rfl) h2
  have hla0 : sa0.data.toList.length ≤ 9223372036854775807 := by
    have : sa0.data.toList.length = sa0.size := Array.length_toList
    rw [this]; exact Nat.le_trans za0 (by unfold maxLen; omega)
  have hlb0 : sb0.data.toList.length ≤ 9223372036854775807 := by
    have : sb0.data.toList.length = sb0.size := Array.length_toList
    rw [this]; exact Nat.le_trans zb0 (by unfold maxLen; omega)
  have hlc0 : sc0.data.toList.length ≤ 9223372036854775807 := by
    have : sc0.data.toList.length = sc0.size := Array.length_toList
    rw [this]; exact Nat.le_trans zc0 (by unfold maxLen; omega)
  have walk := Fa.files_walk Ge.awakeOk Ei.linesOk sa0.data.toList sb0.data.toList sc0.data.toList ba1 bb1 bc1 b2 hla0 hlb0 hlc0 W (signs_of_laid hL)
  rw [← B_of sa0, ← B_of sb0, ← B_of sc0] at walk
  refine walk.mono fun e W' ⟨he, hb⟩ => ?_
  subst he
  exact ⟨_, rfl, law_post laidOut readable rfl (by kernel_rfl) Tryz.underlying4 hW' hb rfl⟩

theorem laid_met (os : Os) : laidMet Tryz.prog Rows.fallbackFilesRow.laid ((laidWorld os).forCall (fun _ _ => 0) ⟨#[], #[.agg #[.string ⟨#[]⟩, .string ⟨#[]⟩, .string ⟨#[]⟩], .agg #[.bool false, .bool false, .bool false], .bool false], []⟩).memory :=
  laidMet_of_run' 8 (by kernel_rfl) (by kernel_rfl)
theorem reads (os : Os) {H : Type} (enc : TypeId × Value → H) : ∃ places, DataW.whole enc Tryz.prog ((laidWorld os).forCall (fun _ _ => 0) ⟨#[], #[.agg #[.string ⟨#[]⟩, .string ⟨#[]⟩, .string ⟨#[]⟩], .agg #[.bool false, .bool false, .bool false], .bool false], []⟩).memory Tryz.f3.params.toList Rows.fallbackFilesSpec.vars false #[Value.agg #[.string ⟨#[]⟩, .string ⟨#[]⟩, .string ⟨#[]⟩], Value.agg #[.bool false, .bool false, .bool false], Value.bool false].toList 8 = some ([.agg [.lit (.string []), .lit (.string []), .lit (.string [])], .agg [.lit (.bool false), .lit (.bool false), .lit (.bool false)], .lit (.bool false)], [], places) :=
  ⟨[], by kernel_rfl⟩

set_option maxRecDepth 100000 in
theorem lifted (os : Os) (started : os.Started) (H : Type) (enc : TypeId × Value → H) (F : Stop.Interp) :
    ReturnsInHanded {} Tryz.checked os 3 .any ((OpenSpec.ofChange Rows.fallbackFilesSpec).preRow enc Tryz.prog Tryz.f3 Rows.fallbackFilesRow.domain false Rows.fallbackFilesRow.laid) (((OpenSpec.ofChange Rows.fallbackFilesSpec).at F).post enc Tryz.prog Tryz.f3 false true false false) := by
  obtain ⟨places, hx⟩ := reads os enc
  refine returnsInHanded_of_row (C := Tryz.checked) (s := OpenSpec.ofChange Rows.fallbackFilesSpec) own started (by kernel_rfl) Tryz.func3
    (witness_row_at (enc := enc) (C := Tryz.checked) false (laidWorld os) #[.agg #[.string ⟨#[]⟩, .string ⟨#[]⟩, .string ⟨#[]⟩], .agg #[.bool false, .bool false, .bool false], .bool false] rfl (by kernel_rfl) (by kernel_rfl) (by kernel_rfl)
      (OpenSpec.preRow_of_cond 8 hx (by kernel_rfl) (fun k hk => by cases hk) (by kernel_rfl) (laid_met os))) ?_
  intro W base args ds gs before hval hW _ _ _ hL _ _
  exact contract H enc W base args ds gs before hval hW hL

theorem said : Rows.FallbackFilesSaid :=
  OpenClaim.holds_of_cond 3 Tryz.f3 rfl rfl rfl rfl rfl rfl rfl ⟨rfl, rfl, rfl, rfl, rfl⟩ rfl rfl rfl rfl rfl (by kernel_rfl) Tryz.func3 (by kernel_rfl)
    (of_decide_eq_true (by kernel_rfl)) (by unfold Func.isWrapper; first | (rw [if_pos (by decide +kernel)]; kernel_rfl) | (rw [if_neg (by decide +kernel)]; exact ⟨rfl, rfl⟩))
    (fun os started H enc _ F => by rw [OpenClaim.pre_eq_preRow]; exact lifted os started H enc F)

/-- No parameter wants a stand-in; the program's own looks are off: what the card asks. -/
theorem plain (f : FuncId) (fn : Func) (hf : Tryz.pinned.checked.prog.funcNamed "concordat/concordatlaw32.FallbackFiles" = some f) (hfn : Tryz.pinned.checked.prog.funcs[f]? = some fn) :
    false = Tryz.pinned.checked.prog.looks [] ∧ ∀ (j : Nat) t, fn.params[j]? = some t → Tryz.pinned.checked.prog.wantsStandIn t = false := by
  obtain rfl : f = 3 := Option.some.inj ((show Tryz.prog.funcNamed "concordat/concordatlaw32.FallbackFiles" = some 3 by kernel_rfl).symm.trans hf) |>.symm
  obtain rfl : fn = Tryz.f3 := (Option.some.inj (Tryz.func3.symm.trans hfn)).symm
  refine ⟨by kernel_rfl, fun j t ht => ?_⟩
  rw [Tryz.params3] at ht
  have hm := Array.mem_of_getElem? ht
  have : t = 22 ∨ t = 23 ∨ t = 4 := by simpa using hm
  rcases this with rfl | rfl | rfl
  · exact (show Tryz.prog.wantsStandIn 22 = false by kernel_rfl)
  · exact (show Tryz.prog.wantsStandIn 23 = false by kernel_rfl)
  · exact (show Tryz.prog.wantsStandIn 4 = false by kernel_rfl)

/-- THE CARD: FallbackFiles: for any three texts, of which each may not be there, and either form the law returns true, and its arguments read as they did; the table of signs holds what the text of the program lays. -/
theorem card : Rows.FallbackFilesCardSaid :=
  Claim7.holds_tied_plain_at .later [] _ _ _ _ said (fun _ h => by cases h) (by kernel_rfl) (fun _ h => by cases h) fallbackFiles_row_tie rfl ⟨rfl, rfl⟩ (by kernel_rfl) rfl plain (by kernel_rfl)

end Go.Proofs.YtogfkfkejaiecaaGreatDoor.lawFiles
