/- Every call of TearSweeps whose input is of bulk at most 1048576 returns true, and the input reads as it did. -/
import Derived.Test.YtpkdekhmjjcljaaFxBlk15
import Derived.Test.YtpkdekhmjjcljaaFxOpn15
import Derived.Test.YtpkdekhmjjcljaaFxLawT315
namespace Go.Proofs.Ytpkdekhmjjcljaa
open Go.ChangeShapes Go.WideShapes Go.ChangeAt Go.RowKit Go.Fx

noncomputable abbrev tearSweepsArgs : Array Value := #[.slice none 0 0, .int .i64 0]

set_option maxRecDepth 100000 in
theorem tearSweeps_lifted (os : Os) (started : os.Started) (H : Type) (enc : TypeId × Value → H) (F : Stop.Interp) :
    ReturnsInHanded {} Try.checked os 6 .any ((Rows.OpenSpec.upto Rows.tearSweepsSpec).pre6 enc Try.prog Try.f6 Rows.tearSweepsUptoRow.domain false) (((Rows.OpenSpec.upto Rows.tearSweepsSpec).at F).post enc Try.prog Try.f6 false true false false) := by
  refine returnsInHanded_of_cond (C := Try.checked) (s := Rows.OpenSpec.upto Rows.tearSweepsSpec) (k := Rows.uptoSmall) rfl Try.own started (by kernel_rfl) Try.func6
    (OpenSpec.witness (enc := enc) (C := Try.checked) (s := Rows.OpenSpec.upto Rows.tearSweepsSpec) (k := Rows.uptoSmall) rfl false ⟨#[], tearSweepsArgs, []⟩ 8 (by kernel_rfl) (by kernel_rfl) (by kernel_rfl)
      (x := ([.nil, .lit (.int .i64 0)], [], [])) (by kernel_rfl) rfl (by kernel_rfl)) ?_
  intro W base args ds gs before hval0 hW _ hk _
  have hval : ∀ (j : Nat) t v, Try.f6.params[j]? = some t → args[j]? = some v → Value.okWide Try.prog W .any base t v := hval0
  have hW' := hW
  obtain ⟨p, q, hA0, hV, rfl, hfz, hnd⟩ := hW
  have hA : DataW.TrodAll enc Try.prog W 0 (fun _ => true) true Try.f6.params.toList args.toList ds p := hA0
  rw [Try.params6] at hA hval
  obtain ⟨v0, v1, d0, d1, p0, p1, rfl, rfl, rfl, h0, h1⟩ := trodAll_two hA
  obtain ⟨rfl, rfl⟩ := trodVars_none hV
  obtain ⟨p0_, x0, c0_, rfl, r0, b0⟩ := Trod.list O_api_Entry api_Entry.size (by decide) Try.underlying57 (hval 0 _ _ rfl rfl) h0
  have b0' := blk_all hk (d := d0) (by simp) (b0 ▸ blk_lenOf d0)
  obtain ⟨x1, rfl, _, _, _⟩ := open_int Try.underlying3 (hval 1 _ _ rfl rfl) h1
  refine (W_annuletlaw15_TearSweeps x0 x1 p0_ c0_ true (TearSweeps_true x0 x1 (by omega)) W r0).mono fun e W' ⟨v, nm, he, ⟨hv, _⟩, hf, _⟩ => ?_
  subst hv
  exact ⟨_, he, row_true Try.laidOut Try.underlying4 (by rw [Try.params6]; decide +kernel) (by kernel_rfl) rfl hW' rfl hf⟩

theorem tearSweeps_holds : Rows.TearSweepsUptoSaid :=
  OpenClaim.holds_of_cond 6 Try.f6 rfl rfl rfl rfl rfl rfl rfl ⟨rfl, rfl, rfl, rfl, rfl⟩ rfl rfl rfl rfl rfl (by kernel_rfl) Try.func6 (by kernel_rfl)
    (of_decide_eq_true (by kernel_rfl)) (by unfold Func.isWrapper; first | (rw [if_pos (by decide +kernel)]; kernel_rfl) | (rw [if_neg (by decide +kernel)]; exact ⟨rfl, rfl⟩))
    (fun os started H enc _ F => tearSweeps_lifted os started H enc F)

end Go.Proofs.Ytpkdekhmjjcljaa
