/- Every call of RouteTurned whose input is of bulk at most 1048576 returns true, and the input reads as it did. -/
import Derived.Test.YtfdjdamepaeoiaaFxBlk13
import Derived.Test.YtfdjdamepaeoiaaFxOpn13
import Derived.Test.YtfdjdamepaeoiaaFxLawR213
namespace Go.Proofs.Ytfdjdamepaeoiaa
open Go.ChangeShapes Go.WideShapes Go.ChangeAt Go.RowKit Go.Fx

set_option maxRecDepth 100000 in
/-- a place, opened -/
theorem open_place {H : Type} {enc : TypeId × Value → H} {W : World} {base base' : Nat} {spare : Nat → Bool} {held : Bool} {v : Value} {d : DataW H} {ps : List MemPlace} (hv : Value.okWide PG W .any base' 27 v)
    (h : DataW.Trod enc PG W base spare held 27 v d ps) : ∃ (self : Idn) (p1 : Option Addr) (l1 : List api_Near) (c1 : Nat) (p2 : Option Addr) (l2 : List api_Entry) (c2 : Nat), v = .agg (annuletlaw13_Place.enc ⟨self, .slice p1 l1.length c1, .slice p2 l2.length c2⟩) ∧
      Ro api_Near.enc 17 W p1 l1 c1 ∧ Ro api_Entry.enc 51 W p2 l2 c2 ∧ l1.length ≤ Rows.uptoBulk d ∧ l2.length ≤ Rows.uptoBulk d := by
  obtain ⟨cs, rfl, hrow⟩ := okWide_row S_annuletlaw13_Place hv
  obtain ⟨f, hf⟩ := h
  obtain ⟨hl, n, xs, hx, hfs⟩ := trod_fields S_annuletlaw13_Place hf
  rw [C_annuletlaw13_Place] at hl
  obtain ⟨y0, e0⟩ := O_api_ID.fld (hfs 0 _ _ rfl)
  obtain ⟨p1, l1, c1, e1, r1, z1, m1, n1⟩ := fld_list O_api_Near api_Near.size (by decide) Try.underlying24 (by kernel_rfl) hrow (hfs 1 _ _ rfl)
  obtain ⟨p2, l2, c2, e2, r2, z2, m2, n2⟩ := fld_list O_api_Entry api_Entry.size (by decide) Try.underlying25 (by kernel_rfl) hrow (hfs 2 _ _ rfl)
  have hcs := From.all (.cons e0 rfl (.cons e1 rfl (.cons e2 rfl (.nil hl))))
  exact ⟨y0, p1, l1, c1, p2, l2, c2, by congr 1; exact Array.ext' hcs, r1, r2, blk_agg hx m1 n1, blk_agg hx m2 n2⟩

noncomputable abbrev turnedArgs : Array Value := #[.agg Idn.zero.enc, .agg (annuletlaw13_Place.zero.enc), .agg Idn.zero.enc]

set_option maxRecDepth 100000 in
theorem routeTurned_lifted (os : Os) (started : os.Started) (H : Type) (enc : TypeId × Value → H) (F : Stop.Interp) :
    ReturnsInHanded {} Try.checked os 3 .any ((Rows.OpenSpec.upto Rows.routeTurnedSpec).pre6 enc Try.prog Try.f3 Rows.routeTurnedUptoRow.domain false) (((Rows.OpenSpec.upto Rows.routeTurnedSpec).at F).post enc Try.prog Try.f3 false true false false) := by
  refine returnsInHanded_of_cond (C := Try.checked) (s := Rows.OpenSpec.upto Rows.routeTurnedSpec) (k := Rows.uptoSmall) rfl Try.own started (by kernel_rfl) Try.func3
    (OpenSpec.witness (enc := enc) (C := Try.checked) (s := Rows.OpenSpec.upto Rows.routeTurnedSpec) (k := Rows.uptoSmall) rfl false ⟨#[], turnedArgs, []⟩ 8 (by kernel_rfl) (by kernel_rfl) (by kernel_rfl)
      (x := ([zid, .agg [zid, .nil, .nil], zid], [], [])) (by kernel_rfl) rfl (by kernel_rfl)) ?_
  intro W base args ds gs before hval0 hW _ hk _
  have hval : ∀ (j : Nat) t v, Try.f3.params[j]? = some t → args[j]? = some v → Value.okWide Try.prog W .any base t v := hval0
  have hW' := hW
  obtain ⟨p, q, hA0, hV, rfl, hfz, hnd⟩ := hW
  have hA : DataW.TrodAll enc Try.prog W 0 (fun _ => true) true Try.f3.params.toList args.toList ds p := hA0
  rw [Try.params3] at hA hval
  obtain ⟨v0, v1, v2, d0, d1, d2, p0, p1, p2, rfl, rfl, rfl, h0, h1, h2⟩ := trodAll_three hA
  obtain ⟨rfl, rfl⟩ := trodVars_none hV
  obtain ⟨dd, rfl⟩ := Trod.idn (t := T_api_ID) (e := T_uint8) Try.underlying23 Try.underlying5 (by kernel_rfl) (by kernel_rfl) (hval 0 _ _ rfl rfl) h0
  obtain ⟨self, q1, l1, c1, q2, l2, c2, rfl, r1, r2, b1, b2⟩ := open_place (hval 1 _ _ rfl rfl) h1
  obtain ⟨z, rfl⟩ := Trod.idn (t := T_api_ID) (e := T_uint8) Try.underlying23 Try.underlying5 (by kernel_rfl) (by kernel_rfl) (hval 2 _ _ rfl rfl) h2
  have b1' := blk_all hk (d := d1) (by simp) b1
  have b2' := blk_all hk (d := d1) (by simp) b2
  refine (W_annuletlaw13_RouteTurned dd self l1 l2 z q1 c1 q2 c2 true (RouteTurned_true dd self l1 l2 z (by omega) (by omega)) W r1 r2).mono fun e W' ⟨v, nm, he, ⟨hv, _⟩, hf, _⟩ => ?_
  subst hv
  exact ⟨_, he, row_true Try.laidOut Try.underlying4 (by rw [Try.params3]; decide +kernel) (by kernel_rfl) rfl hW' rfl hf⟩

theorem routeTurned_holds : Rows.RouteTurnedUptoSaid :=
  OpenClaim.holds_of_cond 3 Try.f3 rfl rfl rfl rfl rfl rfl rfl ⟨rfl, rfl, rfl, rfl, rfl⟩ rfl rfl rfl rfl rfl (by kernel_rfl) Try.func3 (by kernel_rfl)
    (of_decide_eq_true (by kernel_rfl)) (by unfold Func.isWrapper; first | (rw [if_pos (by decide +kernel)]; kernel_rfl) | (rw [if_neg (by decide +kernel)]; exact ⟨rfl, rfl⟩))
    (fun os started H enc _ F => routeTurned_lifted os started H enc F)

end Go.Proofs.Ytfdjdamepaeoiaa
