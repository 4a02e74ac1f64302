/- Every call of TearTidy whose input is of bulk at most 1048576 returns true, and the input reads as it did. -/
import Derived.Test.YtpkdekhmjjcljaaGreatFxBlk15z
import Derived.Test.YtpkdekhmjjcljaaGreatFxOpn15z
import Derived.Test.YtpkdekhmjjcljaaGreatFxLawD15z
namespace Go.Proofs.YtpkdekhmjjcljaaGreat
open Go.ChangeShapes Go.WideShapes Go.ChangeAt Go.RowKit Go.Fx

noncomputable abbrev tearTidyArgs : Array Value := #[.slice none 0 0, .agg Idn.zero.enc, .int .i64 0]

set_option maxRecDepth 100000 in
theorem tearTidy_lifted (os : Os) (started : os.Started) (H : Type) (enc : TypeId × Value → H) (F : Stop.Interp) :
    ReturnsInHanded {} Tryz.checked os 4 .any ((Rows.OpenSpec.upto Rows.tearTidySpec).pre6 enc Tryz.prog Tryz.f4 Rows.tearTidyUptoRow.domain false) (((Rows.OpenSpec.upto Rows.tearTidySpec).at F).post enc Tryz.prog Tryz.f4 false true false false) := by
  refine returnsInHanded_of_cond (C := Tryz.checked) (s := Rows.OpenSpec.upto Rows.tearTidySpec) (k := Rows.uptoSmall) rfl Tryz.own started (by kernel_rfl) Tryz.func4
    (OpenSpec.witness (enc := enc) (C := Tryz.checked) (s := Rows.OpenSpec.upto Rows.tearTidySpec) (k := Rows.uptoSmall) rfl false ⟨#[], tearTidyArgs, []⟩ 8 (by kernel_rfl) (by kernel_rfl) (by kernel_rfl)
      (x := ([.nil, zid, .lit (.int .i64 0)], [], [])) (by kernel_rfl) rfl (by kernel_rfl)) ?_
  intro W base args ds gs before hval0 hW _ hk _
  have hval : ∀ (j : Nat) t v, Tryz.f4.params[j]? = some t → args[j]? = some v → Value.okWide Tryz.prog W .any base t v := hval0
  have hW' := hW
  obtain ⟨p, q, hA0, hV, rfl, hfz, hnd⟩ := hW
  have hA : DataW.TrodAll enc Tryz.prog W 0 (fun _ => true) true Tryz.f4.params.toList args.toList ds p := hA0
  rw [Tryz.params4] at hA hval
  obtain ⟨v0, v1, v2, d0, d1, d2, p0, p1, p2, rfl, rfl, rfl, h0, h1, h2⟩ := trodAll_three hA
  obtain ⟨rfl, rfl⟩ := trodVars_none hV
  obtain ⟨p0_, x0, c0_, rfl, r0, b0⟩ := Trod.list O_api_Entry api_Entry.size (by decide) Tryz.underlying22 (hval 0 _ _ rfl rfl) h0
  have b0' := blk_all hk (d := d0) (by simp) (b0 ▸ blk_lenOf d0)
  obtain ⟨x1, rfl⟩ := Trod.idn (t := T_api_ID) (e := T_uint8) Tryz.underlying24 Tryz.underlying5 (by kernel_rfl) (by kernel_rfl) (hval 1 _ _ rfl rfl) h1
  obtain ⟨x2, rfl, _, _, _⟩ := open_int Tryz.underlying3 (hval 2 _ _ rfl rfl) h2
  refine (W_annuletlaw15_TearTidy x0 x1 x2 p0_ c0_ true (TearTidy_true x0 x1 x2 (by omega)) W r0).mono fun e W' ⟨v, nm, he, ⟨hv, _⟩, hf, _⟩ => ?_
  subst hv
  exact ⟨_, he, row_true Tryz.laidOut Tryz.underlying4 (by rw [Tryz.params4]; decide +kernel) (by kernel_rfl) rfl hW' rfl hf⟩

theorem tearTidy_holds : Rows.TearTidyUptoSaid :=
  OpenClaim.holds_of_cond 4 Tryz.f4 rfl rfl rfl rfl rfl rfl rfl ⟨rfl, rfl, rfl, rfl, rfl⟩ rfl rfl rfl rfl rfl (by kernel_rfl) Tryz.func4 (by kernel_rfl)
    (of_decide_eq_true (by kernel_rfl)) (by unfold Func.isWrapper; first | (rw [if_pos (by decide +kernel)]; kernel_rfl) | (rw [if_neg (by decide +kernel)]; exact ⟨rfl, rfl⟩))
    (fun os started H enc _ F => tearTidy_lifted os started H enc F)

end Go.Proofs.YtpkdekhmjjcljaaGreat
