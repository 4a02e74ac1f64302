/- Every call of CopiesNil returns true, whatever the input, and what came in reads as it did. -/
import Derived.Test.YtidmhfggemmegaaRows
import Derived.Test.YtidmhfggemmegaaFxCopN
import Derived.Test.YtidmhfggemmegaaFxRow
namespace Go.Proofs.Ytidmhfggemmegaa
open Go.ChangeShapes Go.WideShapes Go.ChangeAt Go.RowKit Go.Fx

theorem Try.own : ownKnob Try.prog.godebug = none := by kernel_rfl
theorem Try.laidOut : laidOutB Try.prog = true := by kernel_rfl

noncomputable abbrev nilArgs : Array Value := #[.agg Idn.zero.enc, .slice none 0 0]

set_option maxRecDepth 100000 in
theorem copiesNil_lifted (os : Os) (started : os.Started) (H : Type) (enc : TypeId × Value → H) :
    ReturnsInHanded {} Try.checked os 5 .any (Rows.copiesNilSpec.pre6 enc Try.prog Try.f5 Rows.copiesNilRow.domain false) (Rows.copiesNilSpec.post enc Try.prog Try.f5 false true false false) := by
  refine returnsInHanded_of_change (C := Try.checked) Try.own started (by kernel_rfl) Try.func5
    (ChangeSpec.witness6 (enc := enc) (C := Try.checked) false ⟨#[], nilArgs, []⟩ 8 (by kernel_rfl) (by kernel_rfl) (by kernel_rfl) (by kernel_rfl)) ?_
  intro W base args ds gs before hval0 hW hcnd _
  have hval : ∀ (j : Nat) t v, Try.f5.params[j]? = some t → args[j]? = some v → Value.okWide Try.prog W .any base t v := hval0
  have hW' := hW
  obtain ⟨p, q, hA0, hV, rfl, hfz, hnd⟩ := hW
  have hA : DataW.TrodAll enc Try.prog W 0 (fun _ => true) true Try.f5.params.toList args.toList ds p := hA0
  rw [Try.params5] at hA hval
  obtain ⟨v0, v1, d0, d1, p0, p1, rfl, rfl, rfl, h0, h1⟩ := trodAll_two hA
  obtain ⟨rfl, rfl⟩ := trodVars_none hV
  obtain ⟨id, rfl⟩ := Trod.idn (t := T_api_ID) (e := T_uint8) Try.underlying31 Try.underlying5 (by kernel_rfl) (by kernel_rfl) (hval 0 _ _ rfl rfl) h0
  refine (law_CopiesNil id v1 W).mono fun e W' ⟨v, nm, he, ⟨hv, _⟩, hf, _⟩ => ?_
  subst hv
  exact ⟨_, he, row_true Try.laidOut Try.underlying4 (by rw [Try.params5]; decide +kernel) (by kernel_rfl) rfl hW' rfl hf⟩

theorem copiesNil_holds : Rows.CopiesNilSaid :=
  OpenClaim.holds_of_wide 5 Try.f5 rfl rfl rfl rfl rfl rfl rfl ⟨rfl, rfl, rfl, rfl, rfl⟩ rfl rfl rfl rfl rfl (by kernel_rfl) Try.func5 (by kernel_rfl)
    (of_decide_eq_true (by kernel_rfl)) (by unfold Func.isWrapper; first | (rw [if_pos (by decide +kernel)]; kernel_rfl) | (rw [if_neg (by decide +kernel)]; exact ⟨rfl, rfl⟩))
    (fun os started H enc _ => copiesNil_lifted os started H enc)

end Go.Proofs.Ytidmhfggemmegaa
