/- Every call of RouteMore whose input is of bulk at most 1048576 returns true, and the input reads as it did. -/
import Derived.Test.YtfdjdamepaeoiaaFxRowT13
namespace Go.Proofs.Ytfdjdamepaeoiaa
open Go.ChangeShapes Go.WideShapes Go.ChangeAt Go.RowKit Go.Fx

noncomputable abbrev moreArgs : Array Value := #[.agg Idn.zero.enc, .agg (annuletlaw13_Place.zero.enc), .slice none 0 0]

set_option maxRecDepth 100000 in
theorem routeMore_lifted (os : Os) (started : os.Started) (H : Type) (enc : TypeId × Value → H) (F : Stop.Interp) :
    ReturnsInHanded {} Try.checked os 4 .any ((Rows.OpenSpec.upto Rows.routeMoreSpec).pre6 enc Try.prog Try.f4 Rows.routeMoreUptoRow.domain false) (((Rows.OpenSpec.upto Rows.routeMoreSpec).at F).post enc Try.prog Try.f4 false true false false) := by
  refine returnsInHanded_of_cond (C := Try.checked) (s := Rows.OpenSpec.upto Rows.routeMoreSpec) (k := Rows.uptoSmall) rfl Try.own started (by kernel_rfl) Try.func4
    (OpenSpec.witness (enc := enc) (C := Try.checked) (s := Rows.OpenSpec.upto Rows.routeMoreSpec) (k := Rows.uptoSmall) rfl false ⟨#[], moreArgs, []⟩ 8 (by kernel_rfl) (by kernel_rfl) (by kernel_rfl)
      (x := ([zid, .agg [zid, .nil, .nil], .nil], [], [])) (by kernel_rfl) rfl (by kernel_rfl)) ?_
  intro W base args ds gs before hval0 hW _ hk _
  have hval : ∀ (j : Nat) t v, Try.f4.params[j]? = some t → args[j]? = some v → Value.okWide Try.prog W .any base t v := hval0
  have hW' := hW
  obtain ⟨p, q, hA0, hV, rfl, hfz, hnd⟩ := hW
  have hA : DataW.TrodAll enc Try.prog W 0 (fun _ => true) true Try.f4.params.toList args.toList ds p := hA0
  rw [Try.params4] at hA hval
  obtain ⟨v0, v1, v2, d0, d1, d2, p0, p1, p2, rfl, rfl, rfl, h0, h1, h2⟩ := trodAll_three hA
  obtain ⟨rfl, rfl⟩ := trodVars_none hV
  obtain ⟨dd, rfl⟩ := Trod.idn (t := T_api_ID) (e := T_uint8) Try.underlying23 Try.underlying5 (by kernel_rfl) (by kernel_rfl) (hval 0 _ _ rfl rfl) h0
  obtain ⟨self, q1, l1, c1, q2, l2, c2, rfl, r1, r2, b1, b2⟩ := open_place (hval 1 _ _ rfl rfl) h1
  obtain ⟨q3, l3, c3, rfl, r3, b3⟩ := Trod.list O_api_Entry api_Entry.size (by decide) Try.underlying25 (hval 2 _ _ rfl rfl) h2
  have b3' := blk_all hk (d := d2) (by simp) (b3 ▸ blk_lenOf d2)
  have b1' := blk_all hk (d := d1) (by simp) b1
  have b2' := blk_all hk (d := d1) (by simp) b2
  refine (W_annuletlaw13_RouteMore dd self l1 l2 l3 q1 c1 q2 c2 q3 c3 true (RouteMore_true dd self l1 l2 l3 (by omega) (by omega) (by omega)) W r1 r2 r3).mono fun e W' ⟨v, nm, he, ⟨hv, _⟩, hf, _⟩ => ?_
  subst hv
  exact ⟨_, he, row_true Try.laidOut Try.underlying4 (by rw [Try.params4]; decide +kernel) (by kernel_rfl) rfl hW' rfl hf⟩

theorem routeMore_holds : Rows.RouteMoreUptoSaid :=
  OpenClaim.holds_of_cond 4 Try.f4 rfl rfl rfl rfl rfl rfl rfl ⟨rfl, rfl, rfl, rfl, rfl⟩ rfl rfl rfl rfl rfl (by kernel_rfl) Try.func4 (by kernel_rfl)
    (of_decide_eq_true (by kernel_rfl)) (by unfold Func.isWrapper; first | (rw [if_pos (by decide +kernel)]; kernel_rfl) | (rw [if_neg (by decide +kernel)]; exact ⟨rfl, rfl⟩))
    (fun os started H enc _ F => routeMore_lifted os started H enc F)

end Go.Proofs.Ytfdjdamepaeoiaa
