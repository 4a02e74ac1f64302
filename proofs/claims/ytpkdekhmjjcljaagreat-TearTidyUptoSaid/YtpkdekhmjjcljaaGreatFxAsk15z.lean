/- Packages tear and annuletref15: who is a friend, what is spare, what is a twin. -/
import Derived.Test.YtpkdekhmjjcljaaGreatFxTear15z
import Derived.Test.YtpkdekhmjjcljaaGreatFxTearL15z
import Derived.Test.YtpkdekhmjjcljaaGreatFxWant15z
namespace Go.Fx
set_option maxRecDepth 10000
def F_annuletref10_Has_L1 (a0 : List Idn) (a1 : Idn) (again1 : (Int) → Option (Bool)) (st : Int) : Option (Bool) :=
  (fun s5_1 => cond (decide (s5_1 < (((a0).length : Nat) : Int))) ((ixL a0 s5_1).bind fun x1 => cond (decide (x1 = a1)) (some true) (again1 (IntKind.wrap .i64 (s5_1 + 1)))) (some false)) st
def F_annuletref10_Has (a0 : List Idn) (a1 : Idn) : Option (Bool) :=
  iter (F_annuletref10_Has_L1 a0 a1) FUEL 0
theorem W_annuletref10_Has (a0 : List Idn) (a1 : Idn) (p_a0 : Option Addr) (c_a0 : Nat) (r : Bool) (H : F_annuletref10_Has a0 a1 = some r) (w : World) (hR_a0 : Ro Idn.enc 16 w p_a0 a0 c_a0) :
    Calls PG f_annuletref10_Has #[.slice p_a0 (a0).length c_a0, .agg (Idn.enc a1)] w (Ret w [] (fun v nm => v = .bool (r) ∧ nm = [])) := by
  unfold F_annuletref10_Has at H
  refine enter0 (n := 18) (args := [.slice p_a0 (a0).length c_a0, .agg (Idn.enc a1)]) B_annuletref10_Has rfl rfl (by simp) ?_
  refine .seq (.region (?_))
  refine .box rfl rfl (by decide) fun b3 hb3 => ?_
  refine .step (.as rfl) (by decide) ?_
  refine .nil (.then_n (.seq (.seq (.region (?_)))))
  refine .step (.as rfl) (by decide) ?_
  refine .nil (.then_n (.block (.loop (G := Nat × (Int)) (fun g => iter (F_annuletref10_Has_L1 a0 a1) g.1 g.2 = some r) (fun g => [(some b3, .cells (Idn.enc a1) T_api_ID (0, 0))]) (fun g => [(0, .slice p_a0 (a0).length c_a0), (3, .pointer (some ⟨b3, 0, none⟩)), (5, .int .i64 (g.2))]) (fun g => g.1) ⟨FUEL, 0⟩ H (.refl _) (.cons rfl (.cons rfl (.cons rfl .nil))) ?_)))
  rintro ⟨_ | fl1, s5_1⟩ H
  · exact (iter_0 H).elim
  replace H := iter_s H; rw [F_annuletref10_Has_L1] at H; dsimp only at H ⊢
  refine .seq (.seq (.region (?_)))
  refine .step (.mv rfl) (by decide) ?_
  refine .step (.mv rfl) (by decide) ?_
  refine .step (.len L_sl_api_ID rfl) (by decide) ?_
  refine .step (.lss rfl rfl) (by decide) ?_
  refine .nil (.then_n (.cond rfl (fun hc1 => ?_) (fun hc1 => ?_)))
  · replace H := cond_t hc1 H
    refine .skip (.then_n (.seq (.block (.seq (.drawsI [0] rfl rfl ?_)))))
    refine .first [0, 1, 2, 3, 4, 5] 0 rfl (by kernel_rfl) (by kernel_rfl) ?_
    refine .s_step rfl rfl rfl (.mv rfl) (by decide) ?_
    refine .s_step rfl rfl rfl (.mv rfl) (by decide) ?_
    obtain ⟨x1, hx1, H⟩ := bind_s H
    refine .s_step rfl rfl rfl (.ixP (.par hR_a0) hx1 rfl rfl L_sl_api_ID Z_api_ID) (by decide) ?_
    refine .s_step rfl rfl rfl (.ldP (.par hR_a0) hx1 rfl A_api_ID Z_api_ID) (by decide) ?_
    refine .s_step rfl rfl rfl (.ldA rfl (.i 0 rfl) A_api_ID Z_api_ID (Idn.size _)) (by decide) ?_
    refine .s_step rfl rfl rfl (.eqA (EQ_api_ID _ _) G_api_ID rfl rfl (by decide)) (by decide) ?_
    refine .s_nil ?_
    refine .done (.refl _) (by kernel_rfl) ?_
    refine .then_n (.cond rfl (fun hc2 => ?_) (fun hc2 => ?_))
    · replace H := cond_t hc2 H
      refine .seq (.region (?_))
      refine .step (.as rfl) (by decide) ?_
      cases H
      exact .nil (.then_n (.ret (.blk_r (.then_r (.then_r (.blk_r (.then_r (.ret1 [] (by simp) rfl rfl ⟨rfl, rfl⟩))))))))
    · replace H := cond_f hc2 H
      refine .skip (.blk_n (.then_n (.region (?_))))
      refine .step (.mv rfl) (by decide) ?_
      refine .step (.add rfl rfl) (by decide) ?_
      refine .step (.as rfl) (by decide) ?_
      refine .nil (.then_n (?_))
      exact .again ⟨fl1, (IntKind.wrap .i64 (s5_1 + 1))⟩ H (Nat.lt_succ_self _) (.refl _) (.cons rfl (.cons rfl (.cons rfl .nil)))
  · replace H := cond_f hc1 H
    refine .exit (.then_x (.then_x (.blk_x (.then_n (.seq (.region (?_)))))))
    refine .step (.as rfl) (by decide) ?_
    cases H
    exact .nil (.then_n (.ret (.ret1 [] (by simp) rfl rfl ⟨rfl, rfl⟩)))

def F_annuletref10_Sorted_L2 (a1 : List Idn) (l_n5_1 : List Idn) (s6_1 : Int) (again1 : (List Idn × Int) → Option (List Idn)) (again2 : (Int) → Option (List Idn)) (st : Int) : Option (List Idn) :=
  (fun s7_2 => cond (decide (s7_2 < (((l_n5_1).length : Nat) : Int))) ((ixL l_n5_1 s7_2).bind fun x4 => (ixL a1 s6_1).bind fun x5 => cond (decide (Idn.n x4 < Idn.n x5)) (again2 (IntKind.wrap .i64 (s7_2 + 1))) ((takL l_n5_1 s7_2).bind fun x6 => (appG ([] : List Idn) x6).bind fun x7 => (ixL a1 s6_1).bind fun x8 => (appG x7 ([x8] : List Idn)).bind fun x9 => (drpL l_n5_1 s7_2).bind fun x10 => (appG x9 x10).bind fun x11 => again1 (x11, (IntKind.wrap .i64 (s6_1 + 1))))) ((takL l_n5_1 s7_2).bind fun x12 => (appG ([] : List Idn) x12).bind fun x13 => (ixL a1 s6_1).bind fun x14 => (appG x13 ([x14] : List Idn)).bind fun x15 => (drpL l_n5_1 s7_2).bind fun x16 => (appG x15 x16).bind fun x17 => again1 (x17, (IntKind.wrap .i64 (s6_1 + 1))))) st
def F_annuletref10_Sorted_L1 (a0 : Idn) (a1 : List Idn) (again1 : (List Idn × Int) → Option (List Idn)) (st : List Idn × Int) : Option (List Idn) :=
  match st with | (l_n5_1, s6_1) => cond (decide (s6_1 < (((a1).length : Nat) : Int))) ((ixL a1 s6_1).bind fun x1 => cond (decide (x1 = a0)) (again1 (l_n5_1, (IntKind.wrap .i64 (s6_1 + 1)))) ((ixL a1 s6_1).bind fun x2 => (F_annuletref10_Has l_n5_1 x2).bind fun x3 => cond x3 (again1 (l_n5_1, (IntKind.wrap .i64 (s6_1 + 1)))) (iter (F_annuletref10_Sorted_L2 a1 l_n5_1 s6_1 again1) FUEL 0))) (some l_n5_1)
def F_annuletref10_Sorted (a0 : Idn) (a1 : List Idn) : Option (List Idn) :=
  iter (F_annuletref10_Sorted_L1 a0 a1) FUEL (([] : List Idn), 0)
theorem W_annuletref10_Sorted (a0 : Idn) (a1 : List Idn) (p_a1 : Option Addr) (c_a1 : Nat) (r : List Idn) (H : F_annuletref10_Sorted a0 a1 = some r) (w : World) (hR_a1 : Ro Idn.enc 16 w p_a1 a1 c_a1) :
    Calls PG f_annuletref10_Sorted #[.agg (Idn.enc a0), .slice p_a1 (a1).length c_a1] w (Ret w [] (fun v nm => ∃ (k_o_q0 : Option Nat) (c_o_q0 : Nat) (r_o_q0 : Array Value), v = slv k_o_q0 (r).length c_o_q0 ∧ nm = [(k_o_q0, .cells (catA ((r).map Idn.enc) ++ r_o_q0) T_api_ID (0, 0))] ∧ OwnS 16 k_o_q0 (r).length c_o_q0 r_o_q0)) := by
  unfold F_annuletref10_Sorted at H
  refine enter0 (n := 64) (args := [.agg (Idn.enc a0), .slice p_a1 (a1).length c_a1]) B_annuletref10_Sorted rfl rfl (by simp) ?_
  refine .seq (.region (?_))
  refine .box rfl rfl (by decide) fun b2 hb2 => ?_
  refine .step (.as rfl) (by decide) ?_
  refine .nil (.then_n (.seq (.region (?_))))
  refine .step (.as rfl) (by decide) ?_
  refine .nil (.then_n (.seq (.seq (.region (?_)))))
  refine .step (.as rfl) (by decide) ?_
  refine .nil (.then_n (.block (.non (o := .cells (catA (([] : List Idn).map Idn.enc) ++ #[]) T_api_ID (0, 0)) (.loop (G := Nat × (List Idn × Int) × (Option Nat) × (Nat) × (Array Value)) (fun g => iter (F_annuletref10_Sorted_L1 a0 a1) g.1 g.2.1 = some r ∧ OwnS 16 g.2.2.1 (g.2.1.1).length g.2.2.2.1 g.2.2.2.2) (fun g => [(g.2.2.1, .cells (catA ((g.2.1.1).map Idn.enc) ++ g.2.2.2.2) T_api_ID (0, 0)), (some b2, .cells (Idn.enc a0) T_api_ID (0, 0))]) (fun g => [(1, .slice p_a1 (a1).length c_a1), (2, .pointer (some ⟨b2, 0, none⟩)), (5, slv g.2.2.1 (g.2.1.1).length g.2.2.2.1), (6, .int .i64 (g.2.1.2))]) (fun g => g.1) ⟨FUEL, (([] : List Idn), 0), none, 0, #[]⟩ ⟨H, ⟨rfl, Nat.le_refl _, fun _ => rfl⟩⟩ (.refl _) (.cons rfl (.cons rfl (.cons rfl (.cons rfl .nil)))) ?_))))
  rintro ⟨_ | fl1, ⟨l_n5_1, s6_1⟩, k_n5_1, c_n5_1, r_n5_1⟩ ⟨H, ho_n5_1⟩
  · exact (iter_0 H).elim
  replace H := iter_s H; rw [F_annuletref10_Sorted_L1] at H; dsimp only at H ⊢
  refine .seq (.seq (.region (?_)))
  refine .step (.mv rfl) (by decide) ?_
  refine .step (.mv rfl) (by decide) ?_
  refine .step (.len L_sl_api_ID rfl) (by decide) ?_
  refine .step (.lss rfl rfl) (by decide) ?_
  refine .nil (.then_n (.cond rfl (fun hc1 => ?_) (fun hc1 => ?_)))
  · replace H := cond_t hc1 H
    refine .skip (.then_n (.seq (.block (.seq (.seq (.drawsI [0, 1] rfl rfl ?_))))))
    refine .first [0, 1, 2, 3, 4, 5, 6] 7 rfl (by kernel_rfl) (by kernel_rfl) ?_
    refine .s_step rfl rfl rfl (.mv rfl) (by decide) ?_
    refine .s_step rfl rfl rfl (.mv rfl) (by decide) ?_
    obtain ⟨x1, hx1, H⟩ := bind_s H
    refine .s_step rfl rfl rfl (.ixP (.par hR_a1) hx1 rfl rfl L_sl_api_ID Z_api_ID) (by decide) ?_
    refine .s_step rfl rfl rfl (.ldP (.par hR_a1) hx1 rfl A_api_ID Z_api_ID) (by decide) ?_
    refine .s_step rfl rfl rfl (.ldA rfl (.i 1 rfl) A_api_ID Z_api_ID (Idn.size _)) (by decide) ?_
    refine .s_step rfl rfl rfl (.eqA (EQ_api_ID _ _) G_api_ID rfl rfl (by decide)) (by decide) ?_
    refine .s_step rfl rfl rfl (.mv rfl) (by decide) ?_
    refine .s_nil ?_
    refine .splitb 21 rfl (fun hb1 => ?_) (fun hb1 => ?_)
    · replace H := cond_t hb1 H
      refine .first [7, 8, 9, 10, 11, 12, 13] 0 rfl (by kernel_rfl) (by kernel_rfl) ?_
      refine .s_pass rfl rfl rfl rfl rfl (by decide) ?_
      refine .s_pass rfl rfl rfl rfl rfl (by decide) ?_
      refine .s_pass rfl rfl rfl rfl rfl (by decide) ?_
      refine .s_pass rfl rfl rfl rfl rfl (by decide) ?_
      refine .s_pass rfl rfl rfl rfl rfl (by decide) ?_
      refine .s_pass rfl rfl rfl rfl rfl (by decide) ?_
      refine .s_step rfl rfl rfl (.pk_t rfl rfl) (by decide) ?_
      refine .s_nil ?_
      refine .done (.refl _) (by kernel_rfl) ?_
      refine .then_n (.cond_t rfl ?_)
      refine .exit (.then_x (.blk_x (.then_n (.region (?_)))))
      refine .step (.mv rfl) (by decide) ?_
      refine .step (.add rfl rfl) (by decide) ?_
      refine .step (.as rfl) (by decide) ?_
      refine .nil (.then_n (?_))
      exact .again ⟨fl1, (l_n5_1, (IntKind.wrap .i64 (s6_1 + 1))), k_n5_1, c_n5_1, r_n5_1⟩ ⟨H, ho_n5_1⟩ (Nat.lt_succ_self _) (.refl _) (.cons rfl (.cons rfl (.cons rfl (.cons rfl .nil))))
    · replace H := cond_f hb1 H
      refine .first [7, 8, 9, 10, 11] 2 rfl (by kernel_rfl) (by kernel_rfl) ?_
      refine .s_stepg rfl rfl rfl rfl (.mv rfl) (by decide) ?_
      refine .s_stepg rfl rfl rfl rfl (.mv rfl) (by decide) ?_
      refine .s_stepg rfl rfl rfl rfl (.mv rfl) (by decide) ?_
      obtain ⟨x2, hx2, H⟩ := bind_s H
      refine .s_stepg rfl rfl rfl rfl (.ixP (.par hR_a1) hx2 rfl rfl L_sl_api_ID Z_api_ID) (by decide) ?_
      refine .s_stepg rfl rfl rfl rfl (.ldP (.par hR_a1) hx2 rfl A_api_ID Z_api_ID) (by decide) ?_
      refine .s_nil ?_
      refine .only (i := 12) (.refl _) (by kernel_rfl) rfl ?_
      refine .gd rfl ?_
      obtain ⟨x3, hx3, H⟩ := bind_s H
      refine .callQ (v := .bool (x3)) rfl E_annuletref10_Has rfl rfl (fun w hm hf => W_annuletref10_Has l_n5_1 x2 _ _ _ hx3 w (RoK.at ((RoK.own 0 Idn.size rfl ho_n5_1)) hm hf)) (by decide) ?_
      refine .nil (.then_n ?_)
      refine .first [13] 0 rfl (by kernel_rfl) (by kernel_rfl) ?_
      refine .s_step rfl rfl rfl (.pk_f rfl rfl) (by decide) ?_
      refine .s_nil ?_
      refine .done (.refl _) (by kernel_rfl) ?_
      refine .then_n (.cond rfl (fun hc2 => ?_) (fun hc2 => ?_))
      · replace H := cond_t hc2 H
        refine .exit (.then_x (.blk_x (.then_n (.region (?_)))))
        refine .step (.mv rfl) (by decide) ?_
        refine .step (.add rfl rfl) (by decide) ?_
        refine .step (.as rfl) (by decide) ?_
        refine .nil (.then_n (?_))
        exact .again ⟨fl1, (l_n5_1, (IntKind.wrap .i64 (s6_1 + 1))), k_n5_1, c_n5_1, r_n5_1⟩ ⟨H, ho_n5_1⟩ (Nat.lt_succ_self _) (.refl _) (.cons rfl (.cons rfl (.cons rfl (.cons rfl .nil))))
      · replace H := cond_f hc2 H
        refine .skip (.then_n (.seq (.region (?_))))
        refine .step (.as rfl) (by decide) ?_
        refine .nil (.then_n (.seq (.block (.loop (G := Nat × (Int)) (fun g => iter (F_annuletref10_Sorted_L2 a1 l_n5_1 s6_1 (iter (F_annuletref10_Sorted_L1 a0 a1) fl1)) g.1 g.2 = some r) (fun g => [(k_n5_1, .cells (catA ((l_n5_1).map Idn.enc) ++ r_n5_1) T_api_ID (0, 0)), (some b2, .cells (Idn.enc a0) T_api_ID (0, 0))]) (fun g => [(1, .slice p_a1 (a1).length c_a1), (2, .pointer (some ⟨b2, 0, none⟩)), (5, slv k_n5_1 (l_n5_1).length c_n5_1), (6, .int .i64 (s6_1)), (7, .int .i64 (g.2))]) (fun g => g.1) ⟨FUEL, 0⟩ H (.refl _) (.cons rfl (.cons rfl (.cons rfl (.cons rfl (.cons rfl .nil))))) ?_))))
        rintro ⟨_ | fl2, s7_2⟩ H
        · exact (iter_0 H).elim
        replace H := iter_s H; rw [F_annuletref10_Sorted_L2] at H; dsimp only at H ⊢
        refine .seq (.seq (.drawsI [0, 1] rfl rfl ?_))
        refine .first [0, 1, 2, 3, 4] 10 rfl (by kernel_rfl) (by kernel_rfl) ?_
        refine .s_step rfl rfl rfl (.mv rfl) (by decide) ?_
        refine .s_step rfl rfl rfl (.mv rfl) (by decide) ?_
        refine .s_step rfl rfl rfl (.len L_sl_api_ID rfl) (by decide) ?_
        refine .s_step rfl rfl rfl (.lss rfl rfl) (by decide) ?_
        refine .s_step rfl rfl rfl (.mv rfl) (by decide) ?_
        refine .s_nil ?_
        refine .splitb 33 rfl (fun hb2 => ?_) (fun hb2 => ?_)
        · replace H := cond_t hb2 H
          refine .first [5, 6, 7, 8, 9, 10, 11, 12] 2 rfl (by kernel_rfl) (by kernel_rfl) ?_
          refine .s_stepg rfl rfl rfl rfl (.mv rfl) (by decide) ?_
          refine .s_stepg rfl rfl rfl rfl (.mv rfl) (by decide) ?_
          obtain ⟨x4, hx4, H⟩ := bind_s H
          refine .s_stepg rfl rfl rfl rfl (.ixP (.own 0 Idn.size rfl ho_n5_1) hx4 rfl rfl L_sl_api_ID Z_api_ID) (by decide) ?_
          refine .s_stepg rfl rfl rfl rfl (.ldP (.own 0 Idn.size rfl ho_n5_1) hx4 rfl A_api_ID Z_api_ID) (by decide) ?_
          refine .s_stepg rfl rfl rfl rfl (.mv rfl) (by decide) ?_
          refine .s_stepg rfl rfl rfl rfl (.mv rfl) (by decide) ?_
          obtain ⟨x5, hx5, H⟩ := bind_s H
          refine .s_stepg rfl rfl rfl rfl (.ixP (.par hR_a1) hx5 rfl rfl L_sl_api_ID Z_api_ID) (by decide) ?_
          refine .s_stepg rfl rfl rfl rfl (.ldP (.par hR_a1) hx5 rfl A_api_ID Z_api_ID) (by decide) ?_
          refine .s_nil ?_
          refine .only (i := 13) (.refl _) (by kernel_rfl) rfl ?_
          refine .gd rfl ?_
          refine .callQ (v := .bool ((decide (Idn.n x4 < Idn.n x5)))) rfl E_annuletref01_Less rfl rfl (fun w hm hf => ref01_Less x4 x5 w) (by decide) ?_
          refine .nil (.then_n ?_)
          refine .first [14] 0 rfl (by kernel_rfl) (by kernel_rfl) ?_
          refine .s_step rfl rfl rfl (.pk_t rfl rfl) (by decide) ?_
          refine .s_nil ?_
          refine .done (.refl _) (by kernel_rfl) ?_
          refine .then_n (.cond rfl (fun hc3 => ?_) (fun hc3 => ?_))
          · replace H := cond_t hc3 H
            refine .skip (.then_n (.block (.region (?_))))
            refine .step (.mv rfl) (by decide) ?_
            refine .step (.add rfl rfl) (by decide) ?_
            refine .step (.as rfl) (by decide) ?_
            refine .nil (.blk_n (.then_n (?_)))
            exact .again ⟨fl2, (IntKind.wrap .i64 (s7_2 + 1))⟩ H (Nat.lt_succ_self _) (.refl _) (.cons rfl (.cons rfl (.cons rfl (.cons rfl (.cons rfl .nil)))))
          · replace H := cond_f hc3 H
            refine .exit (.then_x (.then_x (.blk_x (.then_n (.seq (.region (?_)))))))
            refine .step (.as rfl) (by decide) ?_
            refine .nil (.then_n (.seq (.region (?_))))
            refine .step (.mv rfl) (by decide) ?_
            refine .step (.mv rfl) (by decide) ?_
            refine .step (.mv rfl) (by decide) ?_
            obtain ⟨x6, hx6, H⟩ := bind_s H
            refine .step (.slT (OwnS.le ho_n5_1) hx6 L_sl_api_ID (by kernel_rfl) rfl rfl) (by decide) ?_
            refine .non (o := .cells (catA (([] : List Idn).map Idn.enc) ++ #[]) T_api_ID (0, 0)) ?_
            obtain ⟨x7, hx7, H⟩ := bind_s H
            refine .appX 0 Idn.size ⟨rfl, Nat.le_refl _, fun _ => rfl⟩ (((RoK.own 1 Idn.size rfl ho_n5_1)).tak hx6) hx7 rfl rfl rfl L_sl_api_ID Z_api_ID Y_api_ID N_api_ID (Idn.size _) (by decide) (by decide) (fun a _ => Idn.one a) (by decide) fun k_q1 c_q1 r_q1 ho_q1 => ?_
            refine .step (.as rfl) (by decide) ?_
            refine .nil (.then_n (.seq (.region (?_))))
            refine .step (.mv rfl) (by decide) ?_
            refine .step (.mv rfl) (by decide) ?_
            refine .step (.mv rfl) (by decide) ?_
            obtain ⟨x8, hx8, H⟩ := bind_s H
            refine .step (.ixP (.par hR_a1) hx8 rfl rfl L_sl_api_ID Z_api_ID) (by decide) ?_
            refine .step (.ldP (.par hR_a1) hx8 rfl A_api_ID Z_api_ID) (by decide) ?_
            refine .bsL (vs := [.agg (Idn.enc x8)]) (c := catA (([x8] : List Idn).map Idn.enc) ++ #[]) (len := 1) L_sl_api_ID Z_api_ID N_api_ID rfl rfl (by intro v hv; simp only [List.mem_cons, List.not_mem_nil, or_false] at hv; subst hv; exact Idn.size _) (by rw [Array.append_empty]; rfl) (by decide) (by decide) (by decide) fun b56 hb56 => ?_
            have hob56 : OwnS 16 (some b56) ([x8] : List Idn).length 1 #[] := ⟨rfl, Nat.le_refl _, fun h => by cases h⟩
            obtain ⟨x9, hx9, H⟩ := bind_s H
            refine .appX 1 Idn.size ho_q1 (.own 0 Idn.size rfl hob56) hx9 rfl rfl rfl L_sl_api_ID Z_api_ID Y_api_ID N_api_ID (Idn.size _) (by decide) (by decide) (fun a _ => Idn.one a) (by decide) fun k_q2 c_q2 r_q2 ho_q2 => ?_
            refine .step (.as rfl) (by decide) ?_
            refine .nil (.then_n (.region (?_)))
            refine .step (.mv rfl) (by decide) ?_
            refine .step (.mv rfl) (by decide) ?_
            refine .step (.mv rfl) (by decide) ?_
            obtain ⟨x10, hx10, H⟩ := bind_s H
            refine .step (.slD (.own 2 Idn.size rfl ho_n5_1) hx10 L_sl_api_ID Z_api_ID rfl rfl) (by decide) ?_
            obtain ⟨x11, hx11, H⟩ := bind_s H
            refine .appX 1 Idn.size ho_q2 (((RoK.own 2 Idn.size rfl ho_n5_1)).drp hx10) hx11 rfl rfl rfl L_sl_api_ID Z_api_ID Y_api_ID N_api_ID (Idn.size _) (by decide) (by decide) (fun a _ => Idn.one a) (by decide) fun k_q3 c_q3 r_q3 ho_q3 => ?_
            refine .step (.as rfl) (by decide) ?_
            refine .nil (.blk_n (.then_n (.region (?_))))
            refine .step (.mv rfl) (by decide) ?_
            refine .step (.add rfl rfl) (by decide) ?_
            refine .step (.as rfl) (by decide) ?_
            refine .nil (.then_n (?_))
            exact .again ⟨fl1, (x11, (IntKind.wrap .i64 (s6_1 + 1))), k_q3, c_q3, r_q3⟩ ⟨H, ho_q3⟩ (Nat.lt_succ_self _) (.cons _ (.cons_cons _ (.cons _ (.refl _)))) (.cons rfl (.cons rfl (.cons rfl (.cons rfl .nil))))
        · replace H := cond_f hb2 H
          refine .first [5, 6, 7, 8, 9, 10, 11, 12, 13, 14] 0 rfl (by kernel_rfl) (by kernel_rfl) ?_
          refine .s_pass rfl rfl rfl rfl rfl (by decide) ?_
          refine .s_pass rfl rfl rfl rfl rfl (by decide) ?_
          refine .s_pass rfl rfl rfl rfl rfl (by decide) ?_
          refine .s_pass rfl rfl rfl rfl rfl (by decide) ?_
          refine .s_pass rfl rfl rfl rfl rfl (by decide) ?_
          refine .s_pass rfl rfl rfl rfl rfl (by decide) ?_
          refine .s_pass rfl rfl rfl rfl rfl (by decide) ?_
          refine .s_pass rfl rfl rfl rfl rfl (by decide) ?_
          refine .s_pass rfl rfl rfl rfl rfl (by decide) ?_
          refine .s_step rfl rfl rfl (.pk_f rfl rfl) (by decide) ?_
          refine .s_nil ?_
          refine .done (.refl _) (by kernel_rfl) ?_
          refine .then_n (.cond_f rfl ?_)
          refine .exit (.then_x (.then_x (.blk_x (.then_n (.seq (.region (?_)))))))
          refine .step (.as rfl) (by decide) ?_
          refine .nil (.then_n (.seq (.region (?_))))
          refine .step (.mv rfl) (by decide) ?_
          refine .step (.mv rfl) (by decide) ?_
          refine .step (.mv rfl) (by decide) ?_
          obtain ⟨x12, hx12, H⟩ := bind_s H
          refine .step (.slT (OwnS.le ho_n5_1) hx12 L_sl_api_ID (by kernel_rfl) rfl rfl) (by decide) ?_
          refine .non (o := .cells (catA (([] : List Idn).map Idn.enc) ++ #[]) T_api_ID (0, 0)) ?_
          obtain ⟨x13, hx13, H⟩ := bind_s H
          refine .appX 0 Idn.size ⟨rfl, Nat.le_refl _, fun _ => rfl⟩ (((RoK.own 1 Idn.size rfl ho_n5_1)).tak hx12) hx13 rfl rfl rfl L_sl_api_ID Z_api_ID Y_api_ID N_api_ID (Idn.size _) (by decide) (by decide) (fun a _ => Idn.one a) (by decide) fun k_q4 c_q4 r_q4 ho_q4 => ?_
          refine .step (.as rfl) (by decide) ?_
          refine .nil (.then_n (.seq (.region (?_))))
          refine .step (.mv rfl) (by decide) ?_
          refine .step (.mv rfl) (by decide) ?_
          refine .step (.mv rfl) (by decide) ?_
          obtain ⟨x14, hx14, H⟩ := bind_s H
          refine .step (.ixP (.par hR_a1) hx14 rfl rfl L_sl_api_ID Z_api_ID) (by decide) ?_
          refine .step (.ldP (.par hR_a1) hx14 rfl A_api_ID Z_api_ID) (by decide) ?_
          refine .bsL (vs := [.agg (Idn.enc x14)]) (c := catA (([x14] : List Idn).map Idn.enc) ++ #[]) (len := 1) L_sl_api_ID Z_api_ID N_api_ID rfl rfl (by intro v hv; simp only [List.mem_cons, List.not_mem_nil, or_false] at hv; subst hv; exact Idn.size _) (by rw [Array.append_empty]; rfl) (by decide) (by decide) (by decide) fun b56 hb56 => ?_
          have hob56 : OwnS 16 (some b56) ([x14] : List Idn).length 1 #[] := ⟨rfl, Nat.le_refl _, fun h => by cases h⟩
          obtain ⟨x15, hx15, H⟩ := bind_s H
          refine .appX 1 Idn.size ho_q4 (.own 0 Idn.size rfl hob56) hx15 rfl rfl rfl L_sl_api_ID Z_api_ID Y_api_ID N_api_ID (Idn.size _) (by decide) (by decide) (fun a _ => Idn.one a) (by decide) fun k_q5 c_q5 r_q5 ho_q5 => ?_
          refine .step (.as rfl) (by decide) ?_
          refine .nil (.then_n (.region (?_)))
          refine .step (.mv rfl) (by decide) ?_
          refine .step (.mv rfl) (by decide) ?_
          refine .step (.mv rfl) (by decide) ?_
          obtain ⟨x16, hx16, H⟩ := bind_s H
          refine .step (.slD (.own 2 Idn.size rfl ho_n5_1) hx16 L_sl_api_ID Z_api_ID rfl rfl) (by decide) ?_
          obtain ⟨x17, hx17, H⟩ := bind_s H
          refine .appX 1 Idn.size ho_q5 (((RoK.own 2 Idn.size rfl ho_n5_1)).drp hx16) hx17 rfl rfl rfl L_sl_api_ID Z_api_ID Y_api_ID N_api_ID (Idn.size _) (by decide) (by decide) (fun a _ => Idn.one a) (by decide) fun k_q6 c_q6 r_q6 ho_q6 => ?_
          refine .step (.as rfl) (by decide) ?_
          refine .nil (.blk_n (.then_n (.region (?_))))
          refine .step (.mv rfl) (by decide) ?_
          refine .step (.add rfl rfl) (by decide) ?_
          refine .step (.as rfl) (by decide) ?_
          refine .nil (.then_n (?_))
          exact .again ⟨fl1, (x17, (IntKind.wrap .i64 (s6_1 + 1))), k_q6, c_q6, r_q6⟩ ⟨H, ho_q6⟩ (Nat.lt_succ_self _) (.cons _ (.cons_cons _ (.cons _ (.refl _)))) (.cons rfl (.cons rfl (.cons rfl (.cons rfl .nil))))
  · replace H := cond_f hc1 H
    refine .exit (.then_x (.then_x (.blk_x (.then_n (.seq (.region (?_)))))))
    refine .step (.mv rfl) (by decide) ?_
    refine .step (.as rfl) (by decide) ?_
    cases H
    exact .nil (.then_n (.ret (.ret1 [_] (.cons_cons _ (.cons _ (.slnil))) rfl rfl ⟨k_n5_1, c_n5_1, r_n5_1, rfl, rfl, ho_n5_1⟩)))

def F_annuletref10_Want_L2 (a0 : Idn) (a2 : Int) (x1 : List Idn) (l_n8_1 : List Idn) (s9_1 : Int) (again1 : (List Idn × Int) → Option (List Idn)) (again2 : (Int × Int × Int) → Option (List Idn)) (st : Int × Int × Int) : Option (List Idn) :=
  match st with | (s10_2, s11_2, s12_2) => cond (decide (s12_2 < (((x1).length : Nat) : Int))) ((ixL x1 s12_2).bind fun x2 => (ixL x1 s9_1).bind fun x3 => cond (decide (Idn.n (Idn.sub x2 a0) < Idn.n (Idn.sub x3 a0))) ((ixL x1 s12_2).bind fun x4 => (ixL x1 s9_1).bind fun x5 => cond (decide (Idn.n (Idn.sub a0 x4) < Idn.n (Idn.sub a0 x5))) (again2 ((IntKind.wrap .i64 (s10_2 + 1)), (IntKind.wrap .i64 (s11_2 + 1)), (IntKind.wrap .i64 (s12_2 + 1)))) (again2 ((IntKind.wrap .i64 (s10_2 + 1)), s11_2, (IntKind.wrap .i64 (s12_2 + 1))))) ((ixL x1 s12_2).bind fun x6 => (ixL x1 s9_1).bind fun x7 => cond (decide (Idn.n (Idn.sub a0 x6) < Idn.n (Idn.sub a0 x7))) (again2 (s10_2, (IntKind.wrap .i64 (s11_2 + 1)), (IntKind.wrap .i64 (s12_2 + 1)))) (again2 (s10_2, s11_2, (IntKind.wrap .i64 (s12_2 + 1)))))) (cond (decide (s10_2 < a2)) ((ixL x1 s9_1).bind fun x8 => (appG l_n8_1 ([x8] : List Idn)).bind fun x9 => again1 (x9, (IntKind.wrap .i64 (s9_1 + 1)))) (cond (decide (s11_2 < a2)) ((ixL x1 s9_1).bind fun x10 => (appG l_n8_1 ([x10] : List Idn)).bind fun x11 => again1 (x11, (IntKind.wrap .i64 (s9_1 + 1)))) (again1 (l_n8_1, (IntKind.wrap .i64 (s9_1 + 1))))))
def F_annuletref10_Want_L1 (a0 : Idn) (a2 : Int) (x1 : List Idn) (again1 : (List Idn × Int) → Option (List Idn)) (st : List Idn × Int) : Option (List Idn) :=
  match st with | (l_n8_1, s9_1) => cond (decide (s9_1 < (((x1).length : Nat) : Int))) (iter (F_annuletref10_Want_L2 a0 a2 x1 l_n8_1 s9_1 again1) FUEL (0, 0, 0)) (some l_n8_1)
def F_annuletref10_Want (a0 : Idn) (a1 : List Idn) (a2 : Int) : Option (List Idn) :=
  (F_annuletref10_Sorted a0 a1).bind fun x1 => iter (F_annuletref10_Want_L1 a0 a2 x1) FUEL (([] : List Idn), 0)
theorem W_annuletref10_Want (a0 : Idn) (a1 : List Idn) (a2 : Int) (p_a1 : Option Addr) (c_a1 : Nat) (r : List Idn) (H : F_annuletref10_Want a0 a1 a2 = some r) (w : World) (hR_a1 : Ro Idn.enc 16 w p_a1 a1 c_a1) :
    Calls PG f_annuletref10_Want #[.agg (Idn.enc a0), .slice p_a1 (a1).length c_a1, .int .i64 (a2)] w (Ret w [] (fun v nm => ∃ (k_o_q0 : Option Nat) (c_o_q0 : Nat) (r_o_q0 : Array Value), v = slv k_o_q0 (r).length c_o_q0 ∧ nm = [(k_o_q0, .cells (catA ((r).map Idn.enc) ++ r_o_q0) T_api_ID (0, 0))] ∧ OwnS 16 k_o_q0 (r).length c_o_q0 r_o_q0)) := by
  unfold F_annuletref10_Want at H
  refine enter0 (n := 74) (args := [.agg (Idn.enc a0), .slice p_a1 (a1).length c_a1, .int .i64 (a2)]) B_annuletref10_Want rfl rfl (by simp) ?_
  refine .seq (.region (?_))
  refine .box rfl rfl (by decide) fun b3 hb3 => ?_
  refine .step (.as rfl) (by decide) ?_
  refine .nil (.then_n (.seq (.region (?_))))
  refine .step (.ldA rfl (.i 0 rfl) A_api_ID Z_api_ID (Idn.size _)) (by decide) ?_
  refine .step (.mv rfl) (by decide) ?_
  obtain ⟨x1, hx1, H⟩ := bind_s H
  refine .call0 rfl E_annuletref10_Sorted rfl rfl (fun w hm hf => W_annuletref10_Sorted a0 a1 _ _ _ hx1 w (RoK.at ((RoK.par hR_a1)) hm hf)) (by decide) fun v nm hR => ?_
  obtain ⟨k_o_15, c_o_15, r_o_15, rfl, rfl, ho_o_15⟩ := hR
  refine .step (.as rfl) (by decide) ?_
  refine .nil (.then_n (.seq (.region (?_))))
  refine .step (.as rfl) (by decide) ?_
  refine .nil (.then_n (.seq (.seq (.region (?_)))))
  refine .step (.as rfl) (by decide) ?_
  refine .nil (.then_n (.block (.non (o := .cells (catA (([] : List Idn).map Idn.enc) ++ #[]) T_api_ID (0, 0)) (.loop (G := Nat × (List Idn × Int) × (Option Nat) × (Nat) × (Array Value)) (fun g => iter (F_annuletref10_Want_L1 a0 a2 x1) g.1 g.2.1 = some r ∧ OwnS 16 g.2.2.1 (g.2.1.1).length g.2.2.2.1 g.2.2.2.2) (fun g => [(g.2.2.1, .cells (catA ((g.2.1.1).map Idn.enc) ++ g.2.2.2.2) T_api_ID (0, 0)), (k_o_15, .cells (catA ((x1).map Idn.enc) ++ r_o_15) T_api_ID (0, 0)), (some b3, .cells (Idn.enc a0) T_api_ID (0, 0))]) (fun g => [(2, .int .i64 (a2)), (3, .pointer (some ⟨b3, 0, none⟩)), (7, slv k_o_15 (x1).length c_o_15), (8, slv g.2.2.1 (g.2.1.1).length g.2.2.2.1), (9, .int .i64 (g.2.1.2))]) (fun g => g.1) ⟨FUEL, (([] : List Idn), 0), none, 0, #[]⟩ ⟨H, ⟨rfl, Nat.le_refl _, fun _ => rfl⟩⟩ (.refl _) (.cons rfl (.cons rfl (.cons rfl (.cons rfl (.cons rfl .nil))))) ?_))))
  rintro ⟨_ | fl1, ⟨l_n8_1, s9_1⟩, k_n8_1, c_n8_1, r_n8_1⟩ ⟨H, ho_n8_1⟩
  · exact (iter_0 H).elim
  replace H := iter_s H; rw [F_annuletref10_Want_L1] at H; dsimp only at H ⊢
  refine .seq (.seq (.region (?_)))
  refine .step (.mv rfl) (by decide) ?_
  refine .step (.mv rfl) (by decide) ?_
  refine .step (.len L_sl_api_ID rfl) (by decide) ?_
  refine .step (.lss rfl rfl) (by decide) ?_
  refine .nil (.then_n (.cond rfl (fun hc1 => ?_) (fun hc1 => ?_)))
  · replace H := cond_t hc1 H
    refine .skip (.then_n (.seq (.block (.seq (.region (?_))))))
    refine .step (.as rfl) (by decide) ?_
    refine .step (.as rfl) (by decide) ?_
    refine .nil (.then_n (.seq (.seq (.region (?_)))))
    refine .step (.as rfl) (by decide) ?_
    refine .nil (.then_n (.block (.loop (G := Nat × (Int × Int × Int)) (fun g => iter (F_annuletref10_Want_L2 a0 a2 x1 l_n8_1 s9_1 (iter (F_annuletref10_Want_L1 a0 a2 x1) fl1)) g.1 g.2 = some r) (fun g => [(k_n8_1, .cells (catA ((l_n8_1).map Idn.enc) ++ r_n8_1) T_api_ID (0, 0)), (k_o_15, .cells (catA ((x1).map Idn.enc) ++ r_o_15) T_api_ID (0, 0)), (some b3, .cells (Idn.enc a0) T_api_ID (0, 0))]) (fun g => [(2, .int .i64 (a2)), (3, .pointer (some ⟨b3, 0, none⟩)), (7, slv k_o_15 (x1).length c_o_15), (8, slv k_n8_1 (l_n8_1).length c_n8_1), (9, .int .i64 (s9_1)), (10, .int .i64 (g.2.1)), (11, .int .i64 (g.2.2.1)), (12, .int .i64 (g.2.2.2))]) (fun g => g.1) ⟨FUEL, (0, 0, 0)⟩ H (.refl _) (.cons rfl (.cons rfl (.cons rfl (.cons rfl (.cons rfl (.cons rfl (.cons rfl (.cons rfl .nil)))))))) ?_)))
    rintro ⟨_ | fl2, ⟨s10_2, s11_2, s12_2⟩⟩ H
    · exact (iter_0 H).elim
    replace H := iter_s H; rw [F_annuletref10_Want_L2] at H; dsimp only at H ⊢
    refine .seq (.seq (.region (?_)))
    refine .step (.mv rfl) (by decide) ?_
    refine .step (.mv rfl) (by decide) ?_
    refine .step (.len L_sl_api_ID rfl) (by decide) ?_
    refine .step (.lss rfl rfl) (by decide) ?_
    refine .nil (.then_n (.cond rfl (fun hc2 => ?_) (fun hc2 => ?_)))
    · replace H := cond_t hc2 H
      refine .skip (.then_n (.seq (.block (.seq (.seq (.drawsI [0, 1, 2] rfl rfl ?_))))))
      refine .first [0, 1, 2, 3, 4, 6, 7, 8, 9, 10] 3 rfl (by kernel_rfl) (by kernel_rfl) ?_
      refine .s_step rfl rfl rfl (.mv rfl) (by decide) ?_
      refine .s_step rfl rfl rfl (.mv rfl) (by decide) ?_
      obtain ⟨x2, hx2, H⟩ := bind_s H
      refine .s_step rfl rfl rfl (.ixP (.own 1 Idn.size rfl ho_o_15) hx2 rfl rfl L_sl_api_ID Z_api_ID) (by decide) ?_
      refine .s_step rfl rfl rfl (.ldP (.own 1 Idn.size rfl ho_o_15) hx2 rfl A_api_ID Z_api_ID) (by decide) ?_
      refine .s_step rfl rfl rfl (.ldA rfl (.i 2 rfl) A_api_ID Z_api_ID (Idn.size _)) (by decide) ?_
      refine .s_step rfl rfl rfl (.mv rfl) (by decide) ?_
      refine .s_step rfl rfl rfl (.mv rfl) (by decide) ?_
      obtain ⟨x3, hx3, H⟩ := bind_s H
      refine .s_step rfl rfl rfl (.ixP (.own 1 Idn.size rfl ho_o_15) hx3 rfl rfl L_sl_api_ID Z_api_ID) (by decide) ?_
      refine .s_step rfl rfl rfl (.ldP (.own 1 Idn.size rfl ho_o_15) hx3 rfl A_api_ID Z_api_ID) (by decide) ?_
      refine .s_step rfl rfl rfl (.ldA rfl (.i 2 rfl) A_api_ID Z_api_ID (Idn.size _)) (by decide) ?_
      refine .s_nil ?_
      refine .only (i := 5) (.refl _) (by kernel_rfl) rfl ?_
      refine .callQ (v := .agg (Idn.enc (Idn.sub x2 a0))) rfl E_annuletref01_Sub rfl rfl (fun w hm hf => ref01_Sub x2 a0 w) (by decide) ?_
      refine .nil (.then_n ?_)
      refine .only (i := 11) (.refl _) (by kernel_rfl) rfl ?_
      refine .callQ (v := .agg (Idn.enc (Idn.sub x3 a0))) rfl E_annuletref01_Sub rfl rfl (fun w hm hf => ref01_Sub x3 a0 w) (by decide) ?_
      refine .nil (.then_n ?_)
      refine .only (i := 12) (.refl _) (by kernel_rfl) rfl ?_
      refine .callQ (v := .bool ((decide (Idn.n (Idn.sub x2 a0) < Idn.n (Idn.sub x3 a0))))) rfl E_annuletref01_Less rfl rfl (fun w hm hf => ref01_Less (Idn.sub x2 a0) (Idn.sub x3 a0) w) (by decide) ?_
      refine .nil (.then_n ?_)
      refine .done (.refl _) (by kernel_rfl) ?_
      refine .then_n (.cond rfl (fun hc3 => ?_) (fun hc3 => ?_))
      · replace H := cond_t hc3 H
        refine .region (?_)
        refine .step (.mv rfl) (by decide) ?_
        refine .step (.add rfl rfl) (by decide) ?_
        refine .step (.as rfl) (by decide) ?_
        refine .nil (.then_n (.seq (.drawsI [0, 1, 2] rfl rfl ?_)))
        refine .first [0, 1, 2, 3, 4, 6, 7, 8, 9, 10] 3 rfl (by kernel_rfl) (by kernel_rfl) ?_
        refine .s_step rfl rfl rfl (.ldA rfl (.i 2 rfl) A_api_ID Z_api_ID (Idn.size _)) (by decide) ?_
        refine .s_step rfl rfl rfl (.mv rfl) (by decide) ?_
        refine .s_step rfl rfl rfl (.mv rfl) (by decide) ?_
        obtain ⟨x4, hx4, H⟩ := bind_s H
        refine .s_step rfl rfl rfl (.ixP (.own 1 Idn.size rfl ho_o_15) hx4 rfl rfl L_sl_api_ID Z_api_ID) (by decide) ?_
        refine .s_step rfl rfl rfl (.ldP (.own 1 Idn.size rfl ho_o_15) hx4 rfl A_api_ID Z_api_ID) (by decide) ?_
        refine .s_step rfl rfl rfl (.ldA rfl (.i 2 rfl) A_api_ID Z_api_ID (Idn.size _)) (by decide) ?_
        refine .s_step rfl rfl rfl (.mv rfl) (by decide) ?_
        refine .s_step rfl rfl rfl (.mv rfl) (by decide) ?_
        obtain ⟨x5, hx5, H⟩ := bind_s H
        refine .s_step rfl rfl rfl (.ixP (.own 1 Idn.size rfl ho_o_15) hx5 rfl rfl L_sl_api_ID Z_api_ID) (by decide) ?_
        refine .s_step rfl rfl rfl (.ldP (.own 1 Idn.size rfl ho_o_15) hx5 rfl A_api_ID Z_api_ID) (by decide) ?_
        refine .s_nil ?_
        refine .only (i := 5) (.refl _) (by kernel_rfl) rfl ?_
        refine .callQ (v := .agg (Idn.enc (Idn.sub a0 x4))) rfl E_annuletref01_Sub rfl rfl (fun w hm hf => ref01_Sub a0 x4 w) (by decide) ?_
        refine .nil (.then_n ?_)
        refine .only (i := 11) (.refl _) (by kernel_rfl) rfl ?_
        refine .callQ (v := .agg (Idn.enc (Idn.sub a0 x5))) rfl E_annuletref01_Sub rfl rfl (fun w hm hf => ref01_Sub a0 x5 w) (by decide) ?_
        refine .nil (.then_n ?_)
        refine .only (i := 12) (.refl _) (by kernel_rfl) rfl ?_
        refine .callQ (v := .bool ((decide (Idn.n (Idn.sub a0 x4) < Idn.n (Idn.sub a0 x5))))) rfl E_annuletref01_Less rfl rfl (fun w hm hf => ref01_Less (Idn.sub a0 x4) (Idn.sub a0 x5) w) (by decide) ?_
        refine .nil (.then_n ?_)
        refine .done (.refl _) (by kernel_rfl) ?_
        refine .then_n (.cond rfl (fun hc4 => ?_) (fun hc4 => ?_))
        · replace H := cond_t hc4 H
          refine .region (?_)
          refine .step (.mv rfl) (by decide) ?_
          refine .step (.add rfl rfl) (by decide) ?_
          refine .step (.as rfl) (by decide) ?_
          refine .nil (.blk_n (.then_n (.region (?_))))
          refine .step (.mv rfl) (by decide) ?_
          refine .step (.add rfl rfl) (by decide) ?_
          refine .step (.as rfl) (by decide) ?_
          refine .nil (.then_n (?_))
          exact .again ⟨fl2, ((IntKind.wrap .i64 (s10_2 + 1)), (IntKind.wrap .i64 (s11_2 + 1)), (IntKind.wrap .i64 (s12_2 + 1)))⟩ H (Nat.lt_succ_self _) (.refl _) (.cons rfl (.cons rfl (.cons rfl (.cons rfl (.cons rfl (.cons rfl (.cons rfl (.cons rfl .nil))))))))
        · replace H := cond_f hc4 H
          refine .skip (.blk_n (.then_n (.region (?_))))
          refine .step (.mv rfl) (by decide) ?_
          refine .step (.add rfl rfl) (by decide) ?_
          refine .step (.as rfl) (by decide) ?_
          refine .nil (.then_n (?_))
          exact .again ⟨fl2, ((IntKind.wrap .i64 (s10_2 + 1)), s11_2, (IntKind.wrap .i64 (s12_2 + 1)))⟩ H (Nat.lt_succ_self _) (.refl _) (.cons rfl (.cons rfl (.cons rfl (.cons rfl (.cons rfl (.cons rfl (.cons rfl (.cons rfl .nil))))))))
      · replace H := cond_f hc3 H
        refine .skip (.then_n (.seq (.drawsI [0, 1, 2] rfl rfl ?_)))
        refine .first [0, 1, 2, 3, 4, 6, 7, 8, 9, 10] 3 rfl (by kernel_rfl) (by kernel_rfl) ?_
        refine .s_step rfl rfl rfl (.ldA rfl (.i 2 rfl) A_api_ID Z_api_ID (Idn.size _)) (by decide) ?_
        refine .s_step rfl rfl rfl (.mv rfl) (by decide) ?_
        refine .s_step rfl rfl rfl (.mv rfl) (by decide) ?_
        obtain ⟨x6, hx6, H⟩ := bind_s H
        refine .s_step rfl rfl rfl (.ixP (.own 1 Idn.size rfl ho_o_15) hx6 rfl rfl L_sl_api_ID Z_api_ID) (by decide) ?_
        refine .s_step rfl rfl rfl (.ldP (.own 1 Idn.size rfl ho_o_15) hx6 rfl A_api_ID Z_api_ID) (by decide) ?_
        refine .s_step rfl rfl rfl (.ldA rfl (.i 2 rfl) A_api_ID Z_api_ID (Idn.size _)) (by decide) ?_
        refine .s_step rfl rfl rfl (.mv rfl) (by decide) ?_
        refine .s_step rfl rfl rfl (.mv rfl) (by decide) ?_
        obtain ⟨x7, hx7, H⟩ := bind_s H
        refine .s_step rfl rfl rfl (.ixP (.own 1 Idn.size rfl ho_o_15) hx7 rfl rfl L_sl_api_ID Z_api_ID) (by decide) ?_
        refine .s_step rfl rfl rfl (.ldP (.own 1 Idn.size rfl ho_o_15) hx7 rfl A_api_ID Z_api_ID) (by decide) ?_
        refine .s_nil ?_
        refine .only (i := 5) (.refl _) (by kernel_rfl) rfl ?_
        refine .callQ (v := .agg (Idn.enc (Idn.sub a0 x6))) rfl E_annuletref01_Sub rfl rfl (fun w hm hf => ref01_Sub a0 x6 w) (by decide) ?_
        refine .nil (.then_n ?_)
        refine .only (i := 11) (.refl _) (by kernel_rfl) rfl ?_
        refine .callQ (v := .agg (Idn.enc (Idn.sub a0 x7))) rfl E_annuletref01_Sub rfl rfl (fun w hm hf => ref01_Sub a0 x7 w) (by decide) ?_
        refine .nil (.then_n ?_)
        refine .only (i := 12) (.refl _) (by kernel_rfl) rfl ?_
        refine .callQ (v := .bool ((decide (Idn.n (Idn.sub a0 x6) < Idn.n (Idn.sub a0 x7))))) rfl E_annuletref01_Less rfl rfl (fun w hm hf => ref01_Less (Idn.sub a0 x6) (Idn.sub a0 x7) w) (by decide) ?_
        refine .nil (.then_n ?_)
        refine .done (.refl _) (by kernel_rfl) ?_
        refine .then_n (.cond rfl (fun hc5 => ?_) (fun hc5 => ?_))
        · replace H := cond_t hc5 H
          refine .region (?_)
          refine .step (.mv rfl) (by decide) ?_
          refine .step (.add rfl rfl) (by decide) ?_
          refine .step (.as rfl) (by decide) ?_
          refine .nil (.blk_n (.then_n (.region (?_))))
          refine .step (.mv rfl) (by decide) ?_
          refine .step (.add rfl rfl) (by decide) ?_
          refine .step (.as rfl) (by decide) ?_
          refine .nil (.then_n (?_))
          exact .again ⟨fl2, (s10_2, (IntKind.wrap .i64 (s11_2 + 1)), (IntKind.wrap .i64 (s12_2 + 1)))⟩ H (Nat.lt_succ_self _) (.refl _) (.cons rfl (.cons rfl (.cons rfl (.cons rfl (.cons rfl (.cons rfl (.cons rfl (.cons rfl .nil))))))))
        · replace H := cond_f hc5 H
          refine .skip (.blk_n (.then_n (.region (?_))))
          refine .step (.mv rfl) (by decide) ?_
          refine .step (.add rfl rfl) (by decide) ?_
          refine .step (.as rfl) (by decide) ?_
          refine .nil (.then_n (?_))
          exact .again ⟨fl2, (s10_2, s11_2, (IntKind.wrap .i64 (s12_2 + 1)))⟩ H (Nat.lt_succ_self _) (.refl _) (.cons rfl (.cons rfl (.cons rfl (.cons rfl (.cons rfl (.cons rfl (.cons rfl (.cons rfl .nil))))))))
    · replace H := cond_f hc2 H
      refine .exit (.then_x (.then_x (.blk_x (.then_n (.seq (.region (?_)))))))
      refine .step (.mv rfl) (by decide) ?_
      refine .step (.mv rfl) (by decide) ?_
      refine .step (.lss rfl rfl) (by decide) ?_
      refine .step (.mv rfl) (by decide) ?_
      refine .splitb 61 rfl (fun hb1 => ?_) (fun hb1 => ?_)
      · replace H := cond_t hb1 H
        refine .pass rfl rfl (by decide) ?_
        refine .pass rfl rfl (by decide) ?_
        refine .pass rfl rfl (by decide) ?_
        refine .step (.pk_t rfl rfl) (by decide) ?_
        refine .nil (.then_n (.cond_t rfl ?_))
        refine .region (?_)
        refine .step (.mv rfl) (by decide) ?_
        refine .step (.mv rfl) (by decide) ?_
        refine .step (.mv rfl) (by decide) ?_
        obtain ⟨x8, hx8, H⟩ := bind_s H
        refine .step (.ixP (.own 1 Idn.size rfl ho_o_15) hx8 rfl rfl L_sl_api_ID Z_api_ID) (by decide) ?_
        refine .step (.ldP (.own 1 Idn.size rfl ho_o_15) hx8 rfl A_api_ID Z_api_ID) (by decide) ?_
        refine .bsL (vs := [.agg (Idn.enc x8)]) (c := catA (([x8] : List Idn).map Idn.enc) ++ #[]) (len := 1) L_sl_api_ID Z_api_ID N_api_ID rfl rfl (by intro v hv; simp only [List.mem_cons, List.not_mem_nil, or_false] at hv; subst hv; exact Idn.size _) (by rw [Array.append_empty]; rfl) (by decide) (by decide) (by decide) fun b71 hb71 => ?_
        have hob71 : OwnS 16 (some b71) ([x8] : List Idn).length 1 #[] := ⟨rfl, Nat.le_refl _, fun h => by cases h⟩
        obtain ⟨x9, hx9, H⟩ := bind_s H
        refine .appX 1 Idn.size ho_n8_1 (.own 0 Idn.size rfl hob71) hx9 rfl rfl rfl L_sl_api_ID Z_api_ID Y_api_ID N_api_ID (Idn.size _) (by decide) (by decide) (fun a _ => Idn.one a) (by decide) fun k_q1 c_q1 r_q1 ho_q1 => ?_
        refine .step (.as rfl) (by decide) ?_
        refine .nil (.blk_n (.then_n (.region (?_))))
        refine .step (.mv rfl) (by decide) ?_
        refine .step (.add rfl rfl) (by decide) ?_
        refine .step (.as rfl) (by decide) ?_
        refine .nil (.then_n (?_))
        exact .again ⟨fl1, (x9, (IntKind.wrap .i64 (s9_1 + 1))), k_q1, c_q1, r_q1⟩ ⟨H, ho_q1⟩ (Nat.lt_succ_self _) (.cons _ (.refl _)) (.cons rfl (.cons rfl (.cons rfl (.cons rfl (.cons rfl .nil)))))
      · replace H := cond_f hb1 H
        refine .stepg rfl (.mv rfl) (by decide) ?_
        refine .stepg rfl (.mv rfl) (by decide) ?_
        refine .stepg rfl (.lss rfl rfl) (by decide) ?_
        refine .step (.pk_f rfl rfl) (by decide) ?_
        refine .nil (.then_n (.cond rfl (fun hc6 => ?_) (fun hc6 => ?_)))
        · replace H := cond_t hc6 H
          refine .region (?_)
          refine .step (.mv rfl) (by decide) ?_
          refine .step (.mv rfl) (by decide) ?_
          refine .step (.mv rfl) (by decide) ?_
          obtain ⟨x10, hx10, H⟩ := bind_s H
          refine .step (.ixP (.own 1 Idn.size rfl ho_o_15) hx10 rfl rfl L_sl_api_ID Z_api_ID) (by decide) ?_
          refine .step (.ldP (.own 1 Idn.size rfl ho_o_15) hx10 rfl A_api_ID Z_api_ID) (by decide) ?_
          refine .bsL (vs := [.agg (Idn.enc x10)]) (c := catA (([x10] : List Idn).map Idn.enc) ++ #[]) (len := 1) L_sl_api_ID Z_api_ID N_api_ID rfl rfl (by intro v hv; simp only [List.mem_cons, List.not_mem_nil, or_false] at hv; subst hv; exact Idn.size _) (by rw [Array.append_empty]; rfl) (by decide) (by decide) (by decide) fun b71 hb71 => ?_
          have hob71 : OwnS 16 (some b71) ([x10] : List Idn).length 1 #[] := ⟨rfl, Nat.le_refl _, fun h => by cases h⟩
          obtain ⟨x11, hx11, H⟩ := bind_s H
          refine .appX 1 Idn.size ho_n8_1 (.own 0 Idn.size rfl hob71) hx11 rfl rfl rfl L_sl_api_ID Z_api_ID Y_api_ID N_api_ID (Idn.size _) (by decide) (by decide) (fun a _ => Idn.one a) (by decide) fun k_q2 c_q2 r_q2 ho_q2 => ?_
          refine .step (.as rfl) (by decide) ?_
          refine .nil (.blk_n (.then_n (.region (?_))))
          refine .step (.mv rfl) (by decide) ?_
          refine .step (.add rfl rfl) (by decide) ?_
          refine .step (.as rfl) (by decide) ?_
          refine .nil (.then_n (?_))
          exact .again ⟨fl1, (x11, (IntKind.wrap .i64 (s9_1 + 1))), k_q2, c_q2, r_q2⟩ ⟨H, ho_q2⟩ (Nat.lt_succ_self _) (.cons _ (.refl _)) (.cons rfl (.cons rfl (.cons rfl (.cons rfl (.cons rfl .nil)))))
        · replace H := cond_f hc6 H
          refine .skip (.blk_n (.then_n (.region (?_))))
          refine .step (.mv rfl) (by decide) ?_
          refine .step (.add rfl rfl) (by decide) ?_
          refine .step (.as rfl) (by decide) ?_
          refine .nil (.then_n (?_))
          exact .again ⟨fl1, (l_n8_1, (IntKind.wrap .i64 (s9_1 + 1))), k_n8_1, c_n8_1, r_n8_1⟩ ⟨H, ho_n8_1⟩ (Nat.lt_succ_self _) (.refl _) (.cons rfl (.cons rfl (.cons rfl (.cons rfl (.cons rfl .nil)))))
  · replace H := cond_f hc1 H
    refine .exit (.then_x (.then_x (.blk_x (.then_n (.seq (.region (?_)))))))
    refine .step (.mv rfl) (by decide) ?_
    refine .step (.as rfl) (by decide) ?_
    cases H
    exact .nil (.then_n (.ret (.ret1 [_] (.cons_cons _ (.cons _ (.cons _ (.slnil)))) rfl rfl ⟨k_n8_1, c_n8_1, r_n8_1, rfl, rfl, ho_n8_1⟩)))

def F_table_Other (a0 : api_Entry) : Option (Idn × Int × Bool) :=
  cond (decide (a0.Na = (-1))) (some (a0.B, a0.Nb, false)) (some (a0.A, a0.Na, true))
theorem W_table_Other (a0 : api_Entry) (r : Idn × Int × Bool) (H : F_table_Other a0 = some r) (w : World) :
    Calls PG f_table_Other #[.agg (api_Entry.enc a0)] w (Ret w [] (fun v nm => v = .tuple #[.agg (Idn.enc r.1), .int .i64 (r.2.1), .bool (r.2.2)] ∧ nm = [])) := by
  unfold F_table_Other at H
  refine enter0 (n := 16) (args := [.agg (api_Entry.enc a0)]) B_table_Other rfl rfl (by simp) ?_
  refine .seq (.region (?_))
  refine .box rfl rfl (by decide) fun b1 hb1 => ?_
  refine .alloc N_api_ID rfl (by decide) fun b2 hb2 => ?_
  refine .step (.as rfl) (by decide) ?_
  refine .step (.as rfl) (by decide) ?_
  refine .nil (.then_n (.seq (.seq (.region (?_)))))
  refine .step (.fa rfl F_api_Entry_Na Z_int) (by decide) ?_
  refine .step (.ld1 rfl (.i 1 rfl) A_int (api_Entry.g_Na _)) (by decide) ?_
  refine .step (.eql rfl rfl) (by decide) ?_
  refine .nil (.then_n (.cond rfl (fun hc1 => ?_) (fun hc1 => ?_)))
  · replace H := cond_t hc1 H
    refine .seq (.drawsI [1] rfl rfl ?_)
    refine .first [0, 1, 2, 3] 3 rfl (by kernel_rfl) (by kernel_rfl) ?_
    refine .s_step rfl rfl rfl (.fa rfl F_api_Entry_B Z_api_ID) (by decide) ?_
    refine .s_step rfl rfl rfl (.lds rfl (.i 0 rfl) A_api_ID Z_api_ID (api_Entry.s_B _)) (by decide) ?_
    refine .s_step rfl rfl rfl (.fa rfl F_api_Entry_Nb Z_int) (by decide) ?_
    refine .s_step rfl rfl rfl (.ld1 rfl (.i 0 rfl) A_int (api_Entry.g_Nb _)) (by decide) ?_
    refine .s_nil ?_
    refine .only (i := 4) (.cons _ (.refl _)) (by kernel_rfl) rfl ?_
    refine .storeA 0 rfl rfl rfl rfl Z_api_ID (Idn.size _) (Idn.one _) (Idn.size _) ?_
    refine .nil (.then_n ?_)
    refine .first [5, 6] 0 rfl (by kernel_rfl) (by kernel_rfl) ?_
    refine .s_step rfl rfl rfl (.as rfl) (by decide) ?_
    refine .s_step rfl rfl rfl (.as rfl) (by decide) ?_
    refine .s_nil ?_
    refine .done (.cons _ (.refl _)) (by kernel_rfl) ?_
    cases H
    exact .then_n (.ret (.then_r (.retR3 [] (by simp) rfl (.ce rfl (.i 0 rfl) A_api_ID Z_api_ID (Idn.size _)) (.tm rfl) (.tm rfl) ⟨rfl, rfl⟩)))
  · replace H := cond_f hc1 H
    refine .skip (.then_n (.seq (.drawsI [1] rfl rfl ?_)))
    refine .first [0, 1, 2, 3] 3 rfl (by kernel_rfl) (by kernel_rfl) ?_
    refine .s_step rfl rfl rfl (.fa rfl F_api_Entry_A Z_api_ID) (by decide) ?_
    refine .s_step rfl rfl rfl (.lds rfl (.i 0 rfl) A_api_ID Z_api_ID (api_Entry.s_A _)) (by decide) ?_
    refine .s_step rfl rfl rfl (.fa rfl F_api_Entry_Na Z_int) (by decide) ?_
    refine .s_step rfl rfl rfl (.ld1 rfl (.i 0 rfl) A_int (api_Entry.g_Na _)) (by decide) ?_
    refine .s_nil ?_
    refine .only (i := 4) (.cons _ (.refl _)) (by kernel_rfl) rfl ?_
    refine .storeA 0 rfl rfl rfl rfl Z_api_ID (Idn.size _) (Idn.one _) (Idn.size _) ?_
    refine .nil (.then_n ?_)
    refine .first [5, 6] 0 rfl (by kernel_rfl) (by kernel_rfl) ?_
    refine .s_step rfl rfl rfl (.as rfl) (by decide) ?_
    refine .s_step rfl rfl rfl (.as rfl) (by decide) ?_
    refine .s_nil ?_
    refine .done (.cons _ (.refl _)) (by kernel_rfl) ?_
    cases H
    exact .then_n (.ret (.retR3 [] (by simp) rfl (.ce rfl (.i 0 rfl) A_api_ID Z_api_ID (Idn.size _)) (.tm rfl) (.tm rfl) ⟨rfl, rfl⟩))

def F_annuletref12_Other (a0 : api_Entry) : Option (Idn × Int × Bool) :=
  cond (decide (a0.Na = (-1))) (some (a0.B, a0.Nb, false)) (some (a0.A, a0.Na, true))
theorem W_annuletref12_Other (a0 : api_Entry) (r : Idn × Int × Bool) (H : F_annuletref12_Other a0 = some r) (w : World) :
    Calls PG f_annuletref12_Other #[.agg (api_Entry.enc a0)] w (Ret w [] (fun v nm => v = .tuple #[.agg (Idn.enc r.1), .int .i64 (r.2.1), .bool (r.2.2)] ∧ nm = [])) := by
  unfold F_annuletref12_Other at H
  refine enter0 (n := 16) (args := [.agg (api_Entry.enc a0)]) B_annuletref12_Other rfl rfl (by simp) ?_
  refine .seq (.region (?_))
  refine .box rfl rfl (by decide) fun b1 hb1 => ?_
  refine .alloc N_api_ID rfl (by decide) fun b2 hb2 => ?_
  refine .step (.as rfl) (by decide) ?_
  refine .step (.as rfl) (by decide) ?_
  refine .nil (.then_n (.seq (.seq (.region (?_)))))
  refine .step (.fa rfl F_api_Entry_Na Z_int) (by decide) ?_
  refine .step (.ld1 rfl (.i 1 rfl) A_int (api_Entry.g_Na _)) (by decide) ?_
  refine .step (.eql rfl rfl) (by decide) ?_
  refine .nil (.then_n (.cond rfl (fun hc1 => ?_) (fun hc1 => ?_)))
  · replace H := cond_t hc1 H
    refine .seq (.drawsI [1] rfl rfl ?_)
    refine .first [0, 1, 2, 3] 3 rfl (by kernel_rfl) (by kernel_rfl) ?_
    refine .s_step rfl rfl rfl (.fa rfl F_api_Entry_B Z_api_ID) (by decide) ?_
    refine .s_step rfl rfl rfl (.lds rfl (.i 0 rfl) A_api_ID Z_api_ID (api_Entry.s_B _)) (by decide) ?_
    refine .s_step rfl rfl rfl (.fa rfl F_api_Entry_Nb Z_int) (by decide) ?_
    refine .s_step rfl rfl rfl (.ld1 rfl (.i 0 rfl) A_int (api_Entry.g_Nb _)) (by decide) ?_
    refine .s_nil ?_
    refine .only (i := 4) (.cons _ (.refl _)) (by kernel_rfl) rfl ?_
    refine .storeA 0 rfl rfl rfl rfl Z_api_ID (Idn.size _) (Idn.one _) (Idn.size _) ?_
    refine .nil (.then_n ?_)
    refine .first [5, 6] 0 rfl (by kernel_rfl) (by kernel_rfl) ?_
    refine .s_step rfl rfl rfl (.as rfl) (by decide) ?_
    refine .s_step rfl rfl rfl (.as rfl) (by decide) ?_
    refine .s_nil ?_
    refine .done (.cons _ (.refl _)) (by kernel_rfl) ?_
    cases H
    exact .then_n (.ret (.then_r (.retR3 [] (by simp) rfl (.ce rfl (.i 0 rfl) A_api_ID Z_api_ID (Idn.size _)) (.tm rfl) (.tm rfl) ⟨rfl, rfl⟩)))
  · replace H := cond_f hc1 H
    refine .skip (.then_n (.seq (.drawsI [1] rfl rfl ?_)))
    refine .first [0, 1, 2, 3] 3 rfl (by kernel_rfl) (by kernel_rfl) ?_
    refine .s_step rfl rfl rfl (.fa rfl F_api_Entry_A Z_api_ID) (by decide) ?_
    refine .s_step rfl rfl rfl (.lds rfl (.i 0 rfl) A_api_ID Z_api_ID (api_Entry.s_A _)) (by decide) ?_
    refine .s_step rfl rfl rfl (.fa rfl F_api_Entry_Na Z_int) (by decide) ?_
    refine .s_step rfl rfl rfl (.ld1 rfl (.i 0 rfl) A_int (api_Entry.g_Na _)) (by decide) ?_
    refine .s_nil ?_
    refine .only (i := 4) (.cons _ (.refl _)) (by kernel_rfl) rfl ?_
    refine .storeA 0 rfl rfl rfl rfl Z_api_ID (Idn.size _) (Idn.one _) (Idn.size _) ?_
    refine .nil (.then_n ?_)
    refine .first [5, 6] 0 rfl (by kernel_rfl) (by kernel_rfl) ?_
    refine .s_step rfl rfl rfl (.as rfl) (by decide) ?_
    refine .s_step rfl rfl rfl (.as rfl) (by decide) ?_
    refine .s_nil ?_
    refine .done (.cons _ (.refl _)) (by kernel_rfl) ?_
    cases H
    exact .then_n (.ret (.retR3 [] (by simp) rfl (.ce rfl (.i 0 rfl) A_api_ID Z_api_ID (Idn.size _)) (.tm rfl) (.tm rfl) ⟨rfl, rfl⟩))

def F_table_Table_Own_f1 (a0 : api_Entry) : Option (Bool) :=
  cond (decide (a0.Na = (-1))) (some true) (some (decide (a0.Nb = (-1))))
theorem W_table_Table_Own_f1 (a0 : api_Entry) (r : Bool) (H : F_table_Table_Own_f1 a0 = some r) (w : World) :
    Calls PG f_table_Table_Own_f1 #[.agg (api_Entry.enc a0)] w (Ret w [] (fun v nm => v = .bool (r) ∧ nm = [])) := by
  unfold F_table_Table_Own_f1 at H
  refine enter0 (n := 11) (args := [.agg (api_Entry.enc a0)]) B_table_Table_Own_f1 rfl rfl (by simp) ?_
  refine .seq (.region (?_))
  refine .box rfl rfl (by decide) fun b1 hb1 => ?_
  refine .step (.as rfl) (by decide) ?_
  refine .nil (.then_n (.seq (.region (?_))))
  refine .step (.fa rfl F_api_Entry_Na Z_int) (by decide) ?_
  refine .step (.ld1 rfl (.i 0 rfl) A_int (api_Entry.g_Na _)) (by decide) ?_
  refine .step (.eql rfl rfl) (by decide) ?_
  refine .step (.mv rfl) (by decide) ?_
  refine .splitb 6 rfl (fun hb1 => ?_) (fun hb1 => ?_)
  · replace H := cond_t hb1 H
    refine .pass rfl rfl (by decide) ?_
    refine .pass rfl rfl (by decide) ?_
    refine .pass rfl rfl (by decide) ?_
    refine .step (.pk_t rfl rfl) (by decide) ?_
    refine .step (.as rfl) (by decide) ?_
    cases H
    exact .nil (.then_n (.ret (.ret1 [] (by simp) rfl rfl ⟨rfl, rfl⟩)))
  · replace H := cond_f hb1 H
    refine .stepg rfl (.fa rfl F_api_Entry_Nb Z_int) (by decide) ?_
    refine .stepg rfl (.ld1 rfl (.i 0 rfl) A_int (api_Entry.g_Nb _)) (by decide) ?_
    refine .stepg rfl (.eql rfl rfl) (by decide) ?_
    refine .step (.pk_f rfl rfl) (by decide) ?_
    refine .step (.as rfl) (by decide) ?_
    cases H
    exact .nil (.then_n (.ret (.ret1 [] (by simp) rfl rfl ⟨rfl, rfl⟩)))

def F_table_Table_Own (a0_most : Int) (a0_m : MS api_Path api_Entry) : Option (List api_Entry) :=
  (F_table_Table_of a0_most a0_m (fun y0 => F_table_Table_Own_f1 y0)).bind fun x1 => some x1
theorem W_table_Table_Own (a0_most : Int) (a0_m : MS api_Path api_Entry) (b_a0 : Nat) (b_a0_m : Nat) (r : List api_Entry) (H : F_table_Table_Own a0_most a0_m = some r) (w : World) (hB_b_a0 : w.heap[b_a0]? = some (.cells (table_Table.enc (table_Table.mk a0_most (.map (some b_a0_m)))) T_table_Table (0, 0))) (hB_b_a0_m : w.heap[b_a0_m]? = some (MS.obj (vA api_Path.enc) (vA api_Entry.enc) a0_m)) :
    Calls PG f_table_Table_Own #[.pointer (some ⟨b_a0, 0, none⟩)] w (Ret w [] (fun v nm => ∃ (k_o_q0 : Option Nat) (c_o_q0 : Nat) (r_o_q0 : Array Value), v = slv k_o_q0 (r).length c_o_q0 ∧ nm = [(k_o_q0, .cells (catA ((r).map api_Entry.enc) ++ r_o_q0) T_api_Entry (0, 0))] ∧ OwnS 51 k_o_q0 (r).length c_o_q0 r_o_q0)) := by
  unfold F_table_Table_Own at H
  refine enter0 (n := 5) (args := [.pointer (some ⟨b_a0, 0, none⟩)]) B_table_Table_Own rfl rfl (by simp) ?_
  refine .seq (.region (?_))
  refine .step (.as rfl) (by decide) ?_
  refine .nil (.then_n (.seq (.region (?_))))
  refine .step (.mv rfl) (by decide) ?_
  obtain ⟨x1, hx1, H⟩ := bind_s H
  refine .call0 rfl E_table_Table_of rfl rfl (fun w hm hf => W_table_Table_of a0_most a0_m (fun y0 => F_table_Table_Own_f1 y0) _ _ _ _ _ hx1 w (Kn.at (.o hB_b_a0 (by simp)) hm hf) (Kn.at (.o hB_b_a0_m (by simp)) hm hf) E_table_Table_Own_f1 (fun y0 r hx w' hf' => W_table_Table_Own_f1 y0  _ hx w' )) (by decide) fun v nm hR => ?_
  obtain ⟨k_o_4, c_o_4, r_o_4, rfl, rfl, ho_o_4⟩ := hR
  refine .step (.as rfl) (by decide) ?_
  cases H
  exact .nil (.then_n (.ret (.ret1 [_] (.refl _) rfl rfl ⟨k_o_4, c_o_4, r_o_4, rfl, rfl, ho_o_4⟩)))

def F_annuletref12_Table_Own_L1 (a0_L : List api_Entry) (again1 : (List api_Entry × Int) → Option (List api_Entry)) (st : List api_Entry × Int) : Option (List api_Entry) :=
  match st with | (l_n3_1, s4_1) => cond (decide (s4_1 < (((a0_L).length : Nat) : Int))) ((ixL a0_L s4_1).bind fun x1 => cond (decide (x1.Na = (-1))) ((ixL a0_L s4_1).bind fun x2 => (appG l_n3_1 ([x2] : List api_Entry)).bind fun x3 => again1 (x3, (IntKind.wrap .i64 (s4_1 + 1)))) ((ixL a0_L s4_1).bind fun x4 => cond (decide (x4.Nb = (-1))) ((ixL a0_L s4_1).bind fun x5 => (appG l_n3_1 ([x5] : List api_Entry)).bind fun x6 => again1 (x6, (IntKind.wrap .i64 (s4_1 + 1)))) (again1 (l_n3_1, (IntKind.wrap .i64 (s4_1 + 1)))))) (some l_n3_1)
def F_annuletref12_Table_Own (a0_L : List api_Entry) (_a0_Most : Int) : Option (List api_Entry) :=
  iter (F_annuletref12_Table_Own_L1 a0_L) FUEL (([] : List api_Entry), 0)
theorem W_annuletref12_Table_Own (a0_L : List api_Entry) (a0_Most : Int) (b_a0 : Nat) (p_a0_L : Option Addr) (c_a0_L : Nat) (r : List api_Entry) (H : F_annuletref12_Table_Own a0_L a0_Most = some r) (w : World) (hB_b_a0 : w.heap[b_a0]? = some (.cells (annuletref12_Table.enc (annuletref12_Table.mk (Slv.mk p_a0_L (a0_L).length c_a0_L) a0_Most)) T_annuletref12_Table (0, 0))) (hR_a0_L : Ro api_Entry.enc 51 w p_a0_L a0_L c_a0_L) :
    Calls PG f_annuletref12_Table_Own #[.pointer (some ⟨b_a0, 0, none⟩)] w (Ret w [] (fun v nm => ∃ (k_o_q0 : Option Nat) (c_o_q0 : Nat) (r_o_q0 : Array Value), v = slv k_o_q0 (r).length c_o_q0 ∧ nm = [(k_o_q0, .cells (catA ((r).map api_Entry.enc) ++ r_o_q0) T_api_Entry (0, 0))] ∧ OwnS 51 k_o_q0 (r).length c_o_q0 r_o_q0)) := by
  unfold F_annuletref12_Table_Own at H
  refine enter0 (n := 45) (args := [.pointer (some ⟨b_a0, 0, none⟩)]) B_annuletref12_Table_Own rfl rfl (by simp) ?_
  refine .seq (.region (?_))
  refine .step (.as rfl) (by decide) ?_
  refine .nil (.then_n (.seq (.region (?_))))
  refine .step (.as rfl) (by decide) ?_
  refine .nil (.then_n (.seq (.seq (.region (?_)))))
  refine .step (.as rfl) (by decide) ?_
  refine .nil (.then_n (.block (.non (o := .cells (catA (([] : List api_Entry).map api_Entry.enc) ++ #[]) T_api_Entry (0, 0)) (.loop (G := Nat × (List api_Entry × Int) × (Option Nat) × (Nat) × (Array Value)) (fun g => iter (F_annuletref12_Table_Own_L1 a0_L) g.1 g.2.1 = some r ∧ OwnS 51 g.2.2.1 (g.2.1.1).length g.2.2.2.1 g.2.2.2.2) (fun g => [(g.2.2.1, .cells (catA ((g.2.1.1).map api_Entry.enc) ++ g.2.2.2.2) T_api_Entry (0, 0))]) (fun g => [(0, .pointer (some ⟨b_a0, 0, none⟩)), (3, slv g.2.2.1 (g.2.1.1).length g.2.2.2.1), (4, .int .i64 (g.2.1.2))]) (fun g => g.1) ⟨FUEL, (([] : List api_Entry), 0), none, 0, #[]⟩ ⟨H, ⟨rfl, Nat.le_refl _, fun _ => rfl⟩⟩ (.refl _) (.cons rfl (.cons rfl (.cons rfl .nil))) ?_))))
  rintro ⟨_ | fl1, ⟨l_n3_1, s4_1⟩, k_n3_1, c_n3_1, r_n3_1⟩ ⟨H, ho_n3_1⟩
  · exact (iter_0 H).elim
  replace H := iter_s H; rw [F_annuletref12_Table_Own_L1] at H; dsimp only at H ⊢
  refine .seq (.seq (.region (?_)))
  refine .step (.mv rfl) (by decide) ?_
  refine .step (.mv rfl) (by decide) ?_
  refine .step (.nc rfl) (by decide) ?_
  refine .step (.fa rfl F_annuletref12_Table_L Z_sl_api_Entry) (by decide) ?_
  refine .step (.ld1 (v := .slice p_a0_L (a0_L).length c_a0_L) rfl (.o hB_b_a0 (by simp)) A_sl_api_Entry (annuletref12_Table.g_L _)) (by decide) ?_
  refine .step (.len L_sl_api_Entry rfl) (by decide) ?_
  refine .step (.lss rfl rfl) (by decide) ?_
  refine .nil (.then_n (.cond rfl (fun hc1 => ?_) (fun hc1 => ?_)))
  · replace H := cond_t hc1 H
    refine .skip (.then_n (.seq (.block (.seq (.region (?_))))))
    refine .step (.mv rfl) (by decide) ?_
    refine .step (.nc rfl) (by decide) ?_
    refine .step (.fa rfl F_annuletref12_Table_L Z_sl_api_Entry) (by decide) ?_
    refine .step (.ld1 (v := .slice p_a0_L (a0_L).length c_a0_L) rfl (.o hB_b_a0 (by simp)) A_sl_api_Entry (annuletref12_Table.g_L _)) (by decide) ?_
    refine .step (.mv rfl) (by decide) ?_
    obtain ⟨x1, hx1, H⟩ := bind_s H
    refine .step (.ixP (.par hR_a0_L) hx1 rfl rfl L_sl_api_Entry Z_api_Entry) (by decide) ?_
    refine .step (.faP (.par hR_a0_L) hx1 rfl F_api_Entry_Na Z_int) (by decide) ?_
    refine .step (.ldP1 (.par hR_a0_L) hx1 rfl A_int (api_Entry.g_Na _)) (by decide) ?_
    refine .step (.eql rfl rfl) (by decide) ?_
    refine .step (.mv rfl) (by decide) ?_
    refine .splitb 23 rfl (fun hb1 => ?_) (fun hb1 => ?_)
    · replace H := cond_t hb1 H
      refine .pass rfl rfl (by decide) ?_
      refine .pass rfl rfl (by decide) ?_
      refine .pass rfl rfl (by decide) ?_
      refine .pass rfl rfl (by decide) ?_
      refine .pass rfl rfl (by decide) ?_
      refine .pass rfl rfl (by decide) ?_
      refine .pass rfl rfl (by decide) ?_
      refine .pass rfl rfl (by decide) ?_
      refine .pass rfl rfl (by decide) ?_
      refine .step (.pk_t rfl rfl) (by decide) ?_
      refine .nil (.then_n (.cond_t rfl ?_))
      refine .region (?_)
      refine .step (.mv rfl) (by decide) ?_
      refine .step (.mv rfl) (by decide) ?_
      refine .step (.nc rfl) (by decide) ?_
      refine .step (.fa rfl F_annuletref12_Table_L Z_sl_api_Entry) (by decide) ?_
      refine .step (.ld1 (v := .slice p_a0_L (a0_L).length c_a0_L) rfl (.o hB_b_a0 (by simp)) A_sl_api_Entry (annuletref12_Table.g_L _)) (by decide) ?_
      refine .step (.mv rfl) (by decide) ?_
      obtain ⟨x2, hx2, H⟩ := bind_s H
      refine .step (.ixP (.par hR_a0_L) hx2 rfl rfl L_sl_api_Entry Z_api_Entry) (by decide) ?_
      refine .step (.ldP (.par hR_a0_L) hx2 rfl A_api_Entry Z_api_Entry) (by decide) ?_
      refine .bsL (vs := [.agg (api_Entry.enc x2)]) (c := catA (([x2] : List api_Entry).map api_Entry.enc) ++ #[]) (len := 1) L_sl_api_Entry Z_api_Entry N_api_Entry rfl rfl (by intro v hv; simp only [List.mem_cons, List.not_mem_nil, or_false] at hv; subst hv; exact api_Entry.size _) (by rw [Array.append_empty]; rfl) (by decide) (by decide) (by decide) fun b42 hb42 => ?_
      have hob42 : OwnS 51 (some b42) ([x2] : List api_Entry).length 1 #[] := ⟨rfl, Nat.le_refl _, fun h => by cases h⟩
      obtain ⟨x3, hx3, H⟩ := bind_s H
      refine .appX 1 api_Entry.size ho_n3_1 (.own 0 api_Entry.size rfl hob42) hx3 rfl rfl rfl L_sl_api_Entry Z_api_Entry Y_api_Entry N_api_Entry (api_Entry.size _) (by decide) (by decide) (fun a _ => api_Entry.one a) (by decide) fun k_q1 c_q1 r_q1 ho_q1 => ?_
      refine .step (.as rfl) (by decide) ?_
      refine .nil (.blk_n (.then_n (.region (?_))))
      refine .step (.mv rfl) (by decide) ?_
      refine .step (.add rfl rfl) (by decide) ?_
      refine .step (.as rfl) (by decide) ?_
      refine .nil (.then_n (?_))
      exact .again ⟨fl1, (x3, (IntKind.wrap .i64 (s4_1 + 1))), k_q1, c_q1, r_q1⟩ ⟨H, ho_q1⟩ (Nat.lt_succ_self _) (.cons _ (.refl _)) (.cons rfl (.cons rfl (.cons rfl .nil)))
    · replace H := cond_f hb1 H
      refine .stepg rfl (.mv rfl) (by decide) ?_
      refine .stepg rfl (.nc rfl) (by decide) ?_
      refine .stepg rfl (.fa rfl F_annuletref12_Table_L Z_sl_api_Entry) (by decide) ?_
      refine .stepg rfl (.ld1 (v := .slice p_a0_L (a0_L).length c_a0_L) rfl (.o hB_b_a0 (by simp)) A_sl_api_Entry (annuletref12_Table.g_L _)) (by decide) ?_
      refine .stepg rfl (.mv rfl) (by decide) ?_
      obtain ⟨x4, hx4, H⟩ := bind_s H
      refine .stepg rfl (.ixP (.par hR_a0_L) hx4 rfl rfl L_sl_api_Entry Z_api_Entry) (by decide) ?_
      refine .stepg rfl (.faP (.par hR_a0_L) hx4 rfl F_api_Entry_Nb Z_int) (by decide) ?_
      refine .stepg rfl (.ldP1 (.par hR_a0_L) hx4 rfl A_int (api_Entry.g_Nb _)) (by decide) ?_
      refine .stepg rfl (.eql rfl rfl) (by decide) ?_
      refine .step (.pk_f rfl rfl) (by decide) ?_
      refine .nil (.then_n (.cond rfl (fun hc2 => ?_) (fun hc2 => ?_)))
      · replace H := cond_t hc2 H
        refine .region (?_)
        refine .step (.mv rfl) (by decide) ?_
        refine .step (.mv rfl) (by decide) ?_
        refine .step (.nc rfl) (by decide) ?_
        refine .step (.fa rfl F_annuletref12_Table_L Z_sl_api_Entry) (by decide) ?_
        refine .step (.ld1 (v := .slice p_a0_L (a0_L).length c_a0_L) rfl (.o hB_b_a0 (by simp)) A_sl_api_Entry (annuletref12_Table.g_L _)) (by decide) ?_
        refine .step (.mv rfl) (by decide) ?_
        obtain ⟨x5, hx5, H⟩ := bind_s H
        refine .step (.ixP (.par hR_a0_L) hx5 rfl rfl L_sl_api_Entry Z_api_Entry) (by decide) ?_
        refine .step (.ldP (.par hR_a0_L) hx5 rfl A_api_Entry Z_api_Entry) (by decide) ?_
        refine .bsL (vs := [.agg (api_Entry.enc x5)]) (c := catA (([x5] : List api_Entry).map api_Entry.enc) ++ #[]) (len := 1) L_sl_api_Entry Z_api_Entry N_api_Entry rfl rfl (by intro v hv; simp only [List.mem_cons, List.not_mem_nil, or_false] at hv; subst hv; exact api_Entry.size _) (by rw [Array.append_empty]; rfl) (by decide) (by decide) (by decide) fun b42 hb42 => ?_
        have hob42 : OwnS 51 (some b42) ([x5] : List api_Entry).length 1 #[] := ⟨rfl, Nat.le_refl _, fun h => by cases h⟩
        obtain ⟨x6, hx6, H⟩ := bind_s H
        refine .appX 1 api_Entry.size ho_n3_1 (.own 0 api_Entry.size rfl hob42) hx6 rfl rfl rfl L_sl_api_Entry Z_api_Entry Y_api_Entry N_api_Entry (api_Entry.size _) (by decide) (by decide) (fun a _ => api_Entry.one a) (by decide) fun k_q2 c_q2 r_q2 ho_q2 => ?_
        refine .step (.as rfl) (by decide) ?_
        refine .nil (.blk_n (.then_n (.region (?_))))
        refine .step (.mv rfl) (by decide) ?_
        refine .step (.add rfl rfl) (by decide) ?_
        refine .step (.as rfl) (by decide) ?_
        refine .nil (.then_n (?_))
        exact .again ⟨fl1, (x6, (IntKind.wrap .i64 (s4_1 + 1))), k_q2, c_q2, r_q2⟩ ⟨H, ho_q2⟩ (Nat.lt_succ_self _) (.cons _ (.refl _)) (.cons rfl (.cons rfl (.cons rfl .nil)))
      · replace H := cond_f hc2 H
        refine .skip (.blk_n (.then_n (.region (?_))))
        refine .step (.mv rfl) (by decide) ?_
        refine .step (.add rfl rfl) (by decide) ?_
        refine .step (.as rfl) (by decide) ?_
        refine .nil (.then_n (?_))
        exact .again ⟨fl1, (l_n3_1, (IntKind.wrap .i64 (s4_1 + 1))), k_n3_1, c_n3_1, r_n3_1⟩ ⟨H, ho_n3_1⟩ (Nat.lt_succ_self _) (.refl _) (.cons rfl (.cons rfl (.cons rfl .nil)))
  · replace H := cond_f hc1 H
    refine .exit (.then_x (.then_x (.blk_x (.then_n (.seq (.region (?_)))))))
    refine .step (.mv rfl) (by decide) ?_
    refine .step (.as rfl) (by decide) ?_
    cases H
    exact .nil (.then_n (.ret (.ret1 [_] (.refl _) rfl rfl ⟨k_n3_1, c_n3_1, r_n3_1, rfl, rfl, ho_n3_1⟩)))

def F_tear_Friends_L1 (a1 : Idn) (x1 : List api_Entry) (again1 : (List Idn × Int) → Option (List Idn)) (st : List Idn × Int) : Option (List Idn) :=
  match st with | (l_n5_1, s14_1) => cond (decide (s14_1 < (((x1).length : Nat) : Int))) ((ixL x1 s14_1).bind fun x2 => (F_table_Other x2).bind fun x3 => (appG l_n5_1 ([x3.1] : List Idn)).bind fun x4 => again1 (x4, (IntKind.wrap .i64 (s14_1 + 1)))) ((F_ring_Sorted a1 l_n5_1).bind fun x5 => some x5)
def F_tear_Friends (a0_most : Int) (a0_m : MS api_Path api_Entry) (a1 : Idn) : Option (List Idn) :=
  (F_table_Table_Own a0_most a0_m).bind fun x1 => iter (F_tear_Friends_L1 a1 x1) FUEL (([] : List Idn), 0)
theorem W_tear_Friends (a0_most : Int) (a0_m : MS api_Path api_Entry) (a1 : Idn) (b_a0 : Nat) (b_a0_m : Nat) (r : List Idn) (H : F_tear_Friends a0_most a0_m a1 = some r) (w : World) (hB_b_a0 : w.heap[b_a0]? = some (.cells (table_Table.enc (table_Table.mk a0_most (.map (some b_a0_m)))) T_table_Table (0, 0))) (hB_b_a0_m : w.heap[b_a0_m]? = some (MS.obj (vA api_Path.enc) (vA api_Entry.enc) a0_m)) :
    Calls PG f_tear_Friends #[.pointer (some ⟨b_a0, 0, none⟩), .agg (Idn.enc a1)] w (Ret w [] (fun v nm => ∃ (k_o_q0 : Option Nat) (c_o_q0 : Nat) (r_o_q0 : Array Value), v = slv k_o_q0 (r).length c_o_q0 ∧ nm = [(k_o_q0, .cells (catA ((r).map Idn.enc) ++ r_o_q0) T_api_ID (0, 0))] ∧ OwnS 16 k_o_q0 (r).length c_o_q0 r_o_q0)) := by
  unfold F_tear_Friends at H
  refine enter0 (n := 32) (args := [.pointer (some ⟨b_a0, 0, none⟩), .agg (Idn.enc a1)]) B_tear_Friends rfl rfl (by simp) ?_
  refine .seq (.region (?_))
  refine .box rfl rfl (by decide) fun b3 hb3 => ?_
  refine .step (.as rfl) (by decide) ?_
  refine .nil (.then_n (.seq (.region (?_))))
  refine .step (.as rfl) (by decide) ?_
  refine .nil (.then_n (.seq (.seq (.region (?_)))))
  refine .step (.mv rfl) (by decide) ?_
  obtain ⟨x1, hx1, H⟩ := bind_s H
  refine .call0 rfl E_table_Table_Own rfl rfl (fun w hm hf => W_table_Table_Own a0_most a0_m _ _ _ hx1 w (Kn.at (.o hB_b_a0 (by simp)) hm hf) (Kn.at (.o hB_b_a0_m (by simp)) hm hf)) (by decide) fun v nm hR => ?_
  obtain ⟨k_o_12, c_o_12, r_o_12, rfl, rfl, ho_o_12⟩ := hR
  refine .step (.len L_sl_api_Entry rfl) (by decide) ?_
  refine .step (.mv rfl) (by decide) ?_
  refine .nil (.then_n (.block (.non (o := .cells (catA (([] : List Idn).map Idn.enc) ++ #[]) T_api_ID (0, 0)) (.loop (G := Nat × (List Idn × Int) × (Option Nat) × (Nat) × (Array Value)) (fun g => iter (F_tear_Friends_L1 a1 x1) g.1 g.2.1 = some r ∧ OwnS 16 g.2.2.1 (g.2.1.1).length g.2.2.2.1 g.2.2.2.2) (fun g => [(g.2.2.1, .cells (catA ((g.2.1.1).map Idn.enc) ++ g.2.2.2.2) T_api_ID (0, 0)), (k_o_12, .cells (catA ((x1).map api_Entry.enc) ++ r_o_12) T_api_Entry (0, 0)), (some b3, .cells (Idn.enc a1) T_api_ID (0, 0))]) (fun g => [(3, .pointer (some ⟨b3, 0, none⟩)), (5, slv g.2.2.1 (g.2.1.1).length g.2.2.2.1), (12, slv k_o_12 (x1).length c_o_12), (13, .int .i64 ((((x1).length : Nat) : Int))), (14, .int .i64 (g.2.1.2))]) (fun g => g.1) ⟨FUEL, (([] : List Idn), 0), none, 0, #[]⟩ ⟨H, ⟨rfl, Nat.le_refl _, fun _ => rfl⟩⟩ (.refl _) (.cons rfl (.cons rfl (.cons rfl (.cons rfl (.cons rfl .nil))))) ?_))))
  rintro ⟨_ | fl1, ⟨l_n5_1, s14_1⟩, k_n5_1, c_n5_1, r_n5_1⟩ ⟨H, ho_n5_1⟩
  · exact (iter_0 H).elim
  replace H := iter_s H; rw [F_tear_Friends_L1] at H; dsimp only at H ⊢
  refine .seq (.region (?_))
  refine .step (.lss rfl rfl) (by decide) ?_
  refine .nil (.then_n (.seq (.cond rfl (fun hc1 => ?_) (fun hc1 => ?_))))
  · replace H := cond_t hc1 H
    refine .skip (.then_n (.seq (.block (.seq (.region (?_))))))
    obtain ⟨x2, hx2, H⟩ := bind_s H
    refine .step (.ixP (.own 1 api_Entry.size rfl ho_o_12) hx2 rfl rfl L_sl_api_Entry Z_api_Entry) (by decide) ?_
    refine .step (.ldP (.own 1 api_Entry.size rfl ho_o_12) hx2 rfl A_api_Entry Z_api_Entry) (by decide) ?_
    refine .alloc N_api_Entry rfl (by decide) fun b7 hb7 => ?_
    refine .storeA 0 rfl rfl rfl rfl Z_api_Entry (api_Entry.size _) (api_Entry.one _) (api_Entry.size _) ?_
    refine .nil (.then_n (.seq (.region (?_))))
    refine .step (.ldA rfl (.i 0 rfl) A_api_Entry Z_api_Entry (api_Entry.size _)) (by decide) ?_
    obtain ⟨x3, hx3, H⟩ := bind_s H
    refine .callQ (v := .tuple #[.agg (Idn.enc x3.1), .int .i64 (x3.2.1), .bool (x3.2.2)]) rfl E_table_Other rfl rfl (fun w hm hf => W_table_Other x2  _ hx3 w ) (by decide) ?_
    refine .step (.mv rfl) (by decide) ?_
    refine .step (.xt rfl rfl) (by decide) ?_
    refine .step (.xt rfl rfl) (by decide) ?_
    refine .step (.xt rfl rfl) (by decide) ?_
    refine .alloc N_api_ID rfl (by decide) fun b8 hb8 => ?_
    refine .storeA 0 rfl rfl rfl rfl Z_api_ID (Idn.size _) (Idn.one _) (Idn.size _) ?_
    refine .step (.as rfl) (by decide) ?_
    refine .step (.as rfl) (by decide) ?_
    refine .nil (.then_n (.region (?_)))
    refine .step (.mv rfl) (by decide) ?_
    refine .step (.ldA rfl (.i 0 rfl) A_api_ID Z_api_ID (Idn.size _)) (by decide) ?_
    refine .bsL (vs := [.agg (Idn.enc x3.1)]) (c := catA (([x3.1] : List Idn).map Idn.enc) ++ #[]) (len := 1) L_sl_api_ID Z_api_ID N_api_ID rfl rfl (by intro v hv; simp only [List.mem_cons, List.not_mem_nil, or_false] at hv; subst hv; exact Idn.size _) (by rw [Array.append_empty]; rfl) (by decide) (by decide) (by decide) fun b26 hb26 => ?_
    have hob26 : OwnS 16 (some b26) ([x3.1] : List Idn).length 1 #[] := ⟨rfl, Nat.le_refl _, fun h => by cases h⟩
    obtain ⟨x4, hx4, H⟩ := bind_s H
    refine .appX 3 Idn.size ho_n5_1 (.own 0 Idn.size rfl hob26) hx4 rfl rfl rfl L_sl_api_ID Z_api_ID Y_api_ID N_api_ID (Idn.size _) (by decide) (by decide) (fun a _ => Idn.one a) (by decide) fun k_q1 c_q1 r_q1 ho_q1 => ?_
    refine .step (.as rfl) (by decide) ?_
    refine .nil (.blk_n (.then_n (.region (?_))))
    refine .step (.add rfl rfl) (by decide) ?_
    refine .step (.mv rfl) (by decide) ?_
    refine .nil (.then_n (?_))
    exact .again ⟨fl1, (x4, (IntKind.wrap .i64 (s14_1 + 1))), k_q1, c_q1, r_q1⟩ ⟨H, ho_q1⟩ (Nat.lt_succ_self _) (.cons _ (.cons _ (.cons _ (.refl _)))) (.cons rfl (.cons rfl (.cons rfl (.cons rfl (.cons rfl .nil)))))
  · replace H := cond_f hc1 H
    refine .exit (.then_x (.then_x (.blk_x (.then_n (.seq (.region (?_)))))))
    refine .step (.ldA rfl (.i 2 rfl) A_api_ID Z_api_ID (Idn.size _)) (by decide) ?_
    refine .step (.mv rfl) (by decide) ?_
    obtain ⟨x5, hx5, H⟩ := bind_s H
    refine .call0 rfl E_ring_Sorted rfl rfl (fun w hm hf => W_ring_Sorted a1 l_n5_1 _ _ _ hx5 w (RoK.at ((RoK.own 0 Idn.size rfl ho_n5_1)) hm hf)) (by decide) fun v nm hR => ?_
    obtain ⟨k_o_31, c_o_31, r_o_31, rfl, rfl, ho_o_31⟩ := hR
    refine .step (.as rfl) (by decide) ?_
    cases H
    exact .nil (.then_n (.ret (.ret1 [_] (.cons_cons _ (.cons _ (.cons _ (.cons _ (.slnil))))) rfl rfl ⟨k_o_31, c_o_31, r_o_31, rfl, rfl, ho_o_31⟩)))

def F_annuletref15_Friends_L1 (a1 : Idn) (x1 : List api_Entry) (again1 : (List Idn × Int) → Option (List Idn)) (st : List Idn × Int) : Option (List Idn) :=
  match st with | (l_n5_1, s7_1) => cond (decide (s7_1 < (((x1).length : Nat) : Int))) ((ixL x1 s7_1).bind fun x2 => (F_annuletref12_Other x2).bind fun x3 => (appG l_n5_1 ([x3.1] : List Idn)).bind fun x4 => again1 (x4, (IntKind.wrap .i64 (s7_1 + 1)))) ((F_annuletref10_Sorted a1 l_n5_1).bind fun x5 => some x5)
def F_annuletref15_Friends (a0_L : List api_Entry) (a0_Most : Int) (a1 : Idn) : Option (List Idn) :=
  (F_annuletref12_Table_Own a0_L a0_Most).bind fun x1 => iter (F_annuletref15_Friends_L1 a1 x1) FUEL (([] : List Idn), 0)
theorem W_annuletref15_Friends (a0_L : List api_Entry) (a0_Most : Int) (a1 : Idn) (b_a0 : Nat) (p_a0_L : Option Addr) (c_a0_L : Nat) (r : List Idn) (H : F_annuletref15_Friends a0_L a0_Most a1 = some r) (w : World) (hB_b_a0 : w.heap[b_a0]? = some (.cells (annuletref12_Table.enc (annuletref12_Table.mk (Slv.mk p_a0_L (a0_L).length c_a0_L) a0_Most)) T_annuletref12_Table (0, 0))) (hR_a0_L : Ro api_Entry.enc 51 w p_a0_L a0_L c_a0_L) :
    Calls PG f_annuletref15_Friends #[.pointer (some ⟨b_a0, 0, none⟩), .agg (Idn.enc a1)] w (Ret w [] (fun v nm => ∃ (k_o_q0 : Option Nat) (c_o_q0 : Nat) (r_o_q0 : Array Value), v = slv k_o_q0 (r).length c_o_q0 ∧ nm = [(k_o_q0, .cells (catA ((r).map Idn.enc) ++ r_o_q0) T_api_ID (0, 0))] ∧ OwnS 16 k_o_q0 (r).length c_o_q0 r_o_q0)) := by
  unfold F_annuletref15_Friends at H
  refine enter0 (n := 35) (args := [.pointer (some ⟨b_a0, 0, none⟩), .agg (Idn.enc a1)]) B_annuletref15_Friends rfl rfl (by simp) ?_
  refine .seq (.region (?_))
  refine .box rfl rfl (by decide) fun b3 hb3 => ?_
  refine .step (.as rfl) (by decide) ?_
  refine .nil (.then_n (.seq (.region (?_))))
  refine .step (.as rfl) (by decide) ?_
  refine .nil (.then_n (.seq (.region (?_))))
  refine .step (.mv rfl) (by decide) ?_
  obtain ⟨x1, hx1, H⟩ := bind_s H
  refine .call0 rfl E_annuletref12_Table_Own rfl rfl (fun w hm hf => W_annuletref12_Table_Own a0_L a0_Most _ _ _ _ hx1 w (Kn.at (.o hB_b_a0 (by simp)) hm hf) (RoK.at ((RoK.par hR_a0_L)) hm hf)) (by decide) fun v nm hR => ?_
  obtain ⟨k_o_12, c_o_12, r_o_12, rfl, rfl, ho_o_12⟩ := hR
  refine .step (.as rfl) (by decide) ?_
  refine .nil (.then_n (.seq (.seq (.region (?_)))))
  refine .step (.as rfl) (by decide) ?_
  refine .nil (.then_n (.block (.non (o := .cells (catA (([] : List Idn).map Idn.enc) ++ #[]) T_api_ID (0, 0)) (.loop (G := Nat × (List Idn × Int) × (Option Nat) × (Nat) × (Array Value)) (fun g => iter (F_annuletref15_Friends_L1 a1 x1) g.1 g.2.1 = some r ∧ OwnS 16 g.2.2.1 (g.2.1.1).length g.2.2.2.1 g.2.2.2.2) (fun g => [(g.2.2.1, .cells (catA ((g.2.1.1).map Idn.enc) ++ g.2.2.2.2) T_api_ID (0, 0)), (k_o_12, .cells (catA ((x1).map api_Entry.enc) ++ r_o_12) T_api_Entry (0, 0)), (some b3, .cells (Idn.enc a1) T_api_ID (0, 0))]) (fun g => [(3, .pointer (some ⟨b3, 0, none⟩)), (5, slv g.2.2.1 (g.2.1.1).length g.2.2.2.1), (6, slv k_o_12 (x1).length c_o_12), (7, .int .i64 (g.2.1.2))]) (fun g => g.1) ⟨FUEL, (([] : List Idn), 0), none, 0, #[]⟩ ⟨H, ⟨rfl, Nat.le_refl _, fun _ => rfl⟩⟩ (.refl _) (.cons rfl (.cons rfl (.cons rfl (.cons rfl .nil)))) ?_))))
  rintro ⟨_ | fl1, ⟨l_n5_1, s7_1⟩, k_n5_1, c_n5_1, r_n5_1⟩ ⟨H, ho_n5_1⟩
  · exact (iter_0 H).elim
  replace H := iter_s H; rw [F_annuletref15_Friends_L1] at H; dsimp only at H ⊢
  refine .seq (.seq (.region (?_)))
  refine .step (.mv rfl) (by decide) ?_
  refine .step (.mv rfl) (by decide) ?_
  refine .step (.len L_sl_api_Entry rfl) (by decide) ?_
  refine .step (.lss rfl rfl) (by decide) ?_
  refine .nil (.then_n (.cond rfl (fun hc1 => ?_) (fun hc1 => ?_)))
  · replace H := cond_t hc1 H
    refine .skip (.then_n (.seq (.block (.seq (.region (?_))))))
    refine .step (.mv rfl) (by decide) ?_
    refine .step (.mv rfl) (by decide) ?_
    obtain ⟨x2, hx2, H⟩ := bind_s H
    refine .step (.ixP (.own 1 api_Entry.size rfl ho_o_12) hx2 rfl rfl L_sl_api_Entry Z_api_Entry) (by decide) ?_
    refine .step (.ldP (.own 1 api_Entry.size rfl ho_o_12) hx2 rfl A_api_Entry Z_api_Entry) (by decide) ?_
    obtain ⟨x3, hx3, H⟩ := bind_s H
    refine .callQ (v := .tuple #[.agg (Idn.enc x3.1), .int .i64 (x3.2.1), .bool (x3.2.2)]) rfl E_annuletref12_Other rfl rfl (fun w hm hf => W_annuletref12_Other x2  _ hx3 w ) (by decide) ?_
    refine .step (.mv rfl) (by decide) ?_
    refine .step (.xt rfl rfl) (by decide) ?_
    refine .step (.xt rfl rfl) (by decide) ?_
    refine .step (.xt rfl rfl) (by decide) ?_
    refine .alloc N_api_ID rfl (by decide) fun b8 hb8 => ?_
    refine .storeA 0 rfl rfl rfl rfl Z_api_ID (Idn.size _) (Idn.one _) (Idn.size _) ?_
    refine .step (.as rfl) (by decide) ?_
    refine .step (.as rfl) (by decide) ?_
    refine .nil (.then_n (.region (?_)))
    refine .step (.mv rfl) (by decide) ?_
    refine .step (.ldA rfl (.i 0 rfl) A_api_ID Z_api_ID (Idn.size _)) (by decide) ?_
    refine .bsL (vs := [.agg (Idn.enc x3.1)]) (c := catA (([x3.1] : List Idn).map Idn.enc) ++ #[]) (len := 1) L_sl_api_ID Z_api_ID N_api_ID rfl rfl (by intro v hv; simp only [List.mem_cons, List.not_mem_nil, or_false] at hv; subst hv; exact Idn.size _) (by rw [Array.append_empty]; rfl) (by decide) (by decide) (by decide) fun b30 hb30 => ?_
    have hob30 : OwnS 16 (some b30) ([x3.1] : List Idn).length 1 #[] := ⟨rfl, Nat.le_refl _, fun h => by cases h⟩
    obtain ⟨x4, hx4, H⟩ := bind_s H
    refine .appX 2 Idn.size ho_n5_1 (.own 0 Idn.size rfl hob30) hx4 rfl rfl rfl L_sl_api_ID Z_api_ID Y_api_ID N_api_ID (Idn.size _) (by decide) (by decide) (fun a _ => Idn.one a) (by decide) fun k_q1 c_q1 r_q1 ho_q1 => ?_
    refine .step (.as rfl) (by decide) ?_
    refine .nil (.blk_n (.then_n (.region (?_))))
    refine .step (.mv rfl) (by decide) ?_
    refine .step (.add rfl rfl) (by decide) ?_
    refine .step (.as rfl) (by decide) ?_
    refine .nil (.then_n (?_))
    exact .again ⟨fl1, (x4, (IntKind.wrap .i64 (s7_1 + 1))), k_q1, c_q1, r_q1⟩ ⟨H, ho_q1⟩ (Nat.lt_succ_self _) (.cons _ (.cons _ (.refl _))) (.cons rfl (.cons rfl (.cons rfl (.cons rfl .nil))))
  · replace H := cond_f hc1 H
    refine .exit (.then_x (.then_x (.blk_x (.then_n (.seq (.region (?_)))))))
    refine .step (.ldA rfl (.i 2 rfl) A_api_ID Z_api_ID (Idn.size _)) (by decide) ?_
    refine .step (.mv rfl) (by decide) ?_
    obtain ⟨x5, hx5, H⟩ := bind_s H
    refine .call0 rfl E_annuletref10_Sorted rfl rfl (fun w hm hf => W_annuletref10_Sorted a1 l_n5_1 _ _ _ hx5 w (RoK.at ((RoK.own 0 Idn.size rfl ho_n5_1)) hm hf)) (by decide) fun v nm hR => ?_
    obtain ⟨k_o_34, c_o_34, r_o_34, rfl, rfl, ho_o_34⟩ := hR
    refine .step (.as rfl) (by decide) ?_
    cases H
    exact .nil (.then_n (.ret (.ret1 [_] (.cons_cons _ (.cons _ (.cons _ (.cons _ (.slnil))))) rfl rfl ⟨k_o_34, c_o_34, r_o_34, rfl, rfl, ho_o_34⟩)))

def F_tear_Spare_L1 (x2 : List Idn) (x3 : List api_Entry) (again1 : (List api_Path × Int) → Option (List api_Path)) (st : List api_Path × Int) : Option (List api_Path) :=
  match st with | (l_n8_1, s23_1) => cond (decide (s23_1 < (((x3).length : Nat) : Int))) ((ixL x3 s23_1).bind fun x4 => (F_table_Other x4).bind fun x5 => (F_ring_Has x2 x5.1).bind fun x6 => cond (!x6) ((appG l_n8_1 ([x4.P] : List api_Path)).bind fun x7 => again1 (x7, (IntKind.wrap .i64 (s23_1 + 1)))) (again1 (l_n8_1, (IntKind.wrap .i64 (s23_1 + 1))))) (some l_n8_1)
def F_tear_Spare (a0_most : Int) (a0_m : MS api_Path api_Entry) (a1 : Idn) (a2 : Int) : Option (List api_Path) :=
  (F_tear_Friends a0_most a0_m a1).bind fun x1 => (F_ring_Want a1 x1 a2).bind fun x2 => (F_table_Table_Own a0_most a0_m).bind fun x3 => iter (F_tear_Spare_L1 x2 x3) FUEL (([] : List api_Path), 0)
theorem W_tear_Spare (a0_most : Int) (a0_m : MS api_Path api_Entry) (a1 : Idn) (a2 : Int) (b_a0 : Nat) (b_a0_m : Nat) (r : List api_Path) (H : F_tear_Spare a0_most a0_m a1 a2 = some r) (w : World) (hB_b_a0 : w.heap[b_a0]? = some (.cells (table_Table.enc (table_Table.mk a0_most (.map (some b_a0_m)))) T_table_Table (0, 0))) (hB_b_a0_m : w.heap[b_a0_m]? = some (MS.obj (vA api_Path.enc) (vA api_Entry.enc) a0_m)) :
    Calls PG f_tear_Spare #[.pointer (some ⟨b_a0, 0, none⟩), .agg (Idn.enc a1), .int .i64 (a2)] w (Ret w [] (fun v nm => ∃ (k_o_q0 : Option Nat) (c_o_q0 : Nat) (r_o_q0 : Array Value), v = slv k_o_q0 (r).length c_o_q0 ∧ nm = [(k_o_q0, .cells (catA ((r).map api_Path.enc) ++ r_o_q0) T_api_Path (0, 0))] ∧ OwnS 17 k_o_q0 (r).length c_o_q0 r_o_q0)) := by
  unfold F_tear_Spare at H
  refine enter0 (n := 44) (args := [.pointer (some ⟨b_a0, 0, none⟩), .agg (Idn.enc a1), .int .i64 (a2)]) B_tear_Spare rfl rfl (by simp) ?_
  refine .seq (.region (?_))
  refine .box rfl rfl (by decide) fun b4 hb4 => ?_
  refine .step (.as rfl) (by decide) ?_
  refine .nil (.then_n (.seq (.drawsI [0] rfl rfl ?_)))
  refine .first [0, 1, 2, 4] 3 rfl (by kernel_rfl) (by kernel_rfl) ?_
  refine .s_step rfl rfl rfl (.ldA rfl (.i 0 rfl) A_api_ID Z_api_ID (Idn.size _)) (by decide) ?_
  refine .s_step rfl rfl rfl (.mv rfl) (by decide) ?_
  refine .s_step rfl rfl rfl (.ldA rfl (.i 0 rfl) A_api_ID Z_api_ID (Idn.size _)) (by decide) ?_
  refine .s_step rfl rfl rfl (.mv rfl) (by decide) ?_
  refine .s_nil ?_
  refine .only (i := 3) (.refl _) (by kernel_rfl) rfl ?_
  obtain ⟨x1, hx1, H⟩ := bind_s H
  refine .call0 rfl E_tear_Friends rfl rfl (fun w hm hf => W_tear_Friends a0_most a0_m a1 _ _ _ hx1 w (Kn.at (.o hB_b_a0 (by simp)) hm hf) (Kn.at (.o hB_b_a0_m (by simp)) hm hf)) (by decide) fun v nm hR => ?_
  obtain ⟨k_o_17, c_o_17, r_o_17, rfl, rfl, ho_o_17⟩ := hR
  refine .nil (.then_n ?_)
  refine .only (i := 5) (.cons _ (.refl _)) (by kernel_rfl) rfl ?_
  obtain ⟨x2, hx2, H⟩ := bind_s H
  refine .call0 rfl E_ring_Want rfl rfl (fun w hm hf => W_ring_Want a1 x1 a2 _ _ _ hx2 w (RoK.at ((RoK.own 0 Idn.size rfl ho_o_17)) hm hf)) (by decide) fun v nm hR => ?_
  obtain ⟨k_o_19, c_o_19, r_o_19, rfl, rfl, ho_o_19⟩ := hR
  refine .nil (.then_n ?_)
  refine .first [6] 0 rfl (by kernel_rfl) (by kernel_rfl) ?_
  refine .s_step rfl rfl rfl (.as rfl) (by decide) ?_
  refine .s_nil ?_
  refine .done (.cons _ (.cons _ (.refl _))) (by kernel_rfl) ?_
  refine .then_n (.seq (.region (?_)))
  refine .step (.as rfl) (by decide) ?_
  refine .nil (.then_n (.seq (.seq (.region (?_)))))
  refine .step (.mv rfl) (by decide) ?_
  obtain ⟨x3, hx3, H⟩ := bind_s H
  refine .call0 rfl E_table_Table_Own rfl rfl (fun w hm hf => W_table_Table_Own a0_most a0_m _ _ _ hx3 w (Kn.at (.o hB_b_a0 (by simp)) hm hf) (Kn.at (.o hB_b_a0_m (by simp)) hm hf)) (by decide) fun v nm hR => ?_
  obtain ⟨k_o_21, c_o_21, r_o_21, rfl, rfl, ho_o_21⟩ := hR
  refine .step (.len L_sl_api_Entry rfl) (by decide) ?_
  refine .step (.mv rfl) (by decide) ?_
  refine .nil (.then_n (.block (.non (o := .cells (catA (([] : List api_Path).map api_Path.enc) ++ #[]) T_api_Path (0, 0)) (.loop (G := Nat × (List api_Path × Int) × (Option Nat) × (Nat) × (Array Value)) (fun g => iter (F_tear_Spare_L1 x2 x3) g.1 g.2.1 = some r ∧ OwnS 17 g.2.2.1 (g.2.1.1).length g.2.2.2.1 g.2.2.2.2) (fun g => [(g.2.2.1, .cells (catA ((g.2.1.1).map api_Path.enc) ++ g.2.2.2.2) T_api_Path (0, 0)), (k_o_21, .cells (catA ((x3).map api_Entry.enc) ++ r_o_21) T_api_Entry (0, 0)), (k_o_19, .cells (catA ((x2).map Idn.enc) ++ r_o_19) T_api_ID (0, 0)), (k_o_17, .cells (catA ((x1).map Idn.enc) ++ r_o_17) T_api_ID (0, 0)), (some b4, .cells (Idn.enc a1) T_api_ID (0, 0))]) (fun g => [(7, slv k_o_19 (x2).length c_o_19), (8, slv g.2.2.1 (g.2.1.1).length g.2.2.2.1), (21, slv k_o_21 (x3).length c_o_21), (22, .int .i64 ((((x3).length : Nat) : Int))), (23, .int .i64 (g.2.1.2))]) (fun g => g.1) ⟨FUEL, (([] : List api_Path), 0), none, 0, #[]⟩ ⟨H, ⟨rfl, Nat.le_refl _, fun _ => rfl⟩⟩ (.refl _) (.cons rfl (.cons rfl (.cons rfl (.cons rfl (.cons rfl .nil))))) ?_))))
  rintro ⟨_ | fl1, ⟨l_n8_1, s23_1⟩, k_n8_1, c_n8_1, r_n8_1⟩ ⟨H, ho_n8_1⟩
  · exact (iter_0 H).elim
  replace H := iter_s H; rw [F_tear_Spare_L1] at H; dsimp only at H ⊢
  refine .seq (.region (?_))
  refine .step (.lss rfl rfl) (by decide) ?_
  refine .nil (.then_n (.seq (.cond rfl (fun hc1 => ?_) (fun hc1 => ?_))))
  · replace H := cond_t hc1 H
    refine .skip (.then_n (.seq (.block (.seq (.region (?_))))))
    obtain ⟨x4, hx4, H⟩ := bind_s H
    refine .step (.ixP (.own 1 api_Entry.size rfl ho_o_21) hx4 rfl rfl L_sl_api_Entry Z_api_Entry) (by decide) ?_
    refine .step (.ldP (.own 1 api_Entry.size rfl ho_o_21) hx4 rfl A_api_Entry Z_api_Entry) (by decide) ?_
    refine .alloc N_api_Entry rfl (by decide) fun b10 hb10 => ?_
    refine .storeA 0 rfl rfl rfl rfl Z_api_Entry (api_Entry.size _) (api_Entry.one _) (api_Entry.size _) ?_
    refine .nil (.then_n (.seq (.region (?_))))
    refine .step (.ldA rfl (.i 0 rfl) A_api_Entry Z_api_Entry (api_Entry.size _)) (by decide) ?_
    obtain ⟨x5, hx5, H⟩ := bind_s H
    refine .callQ (v := .tuple #[.agg (Idn.enc x5.1), .int .i64 (x5.2.1), .bool (x5.2.2)]) rfl E_table_Other rfl rfl (fun w hm hf => W_table_Other x4  _ hx5 w ) (by decide) ?_
    refine .step (.mv rfl) (by decide) ?_
    refine .step (.xt rfl rfl) (by decide) ?_
    refine .step (.xt rfl rfl) (by decide) ?_
    refine .step (.xt rfl rfl) (by decide) ?_
    refine .alloc N_api_ID rfl (by decide) fun b11 hb11 => ?_
    refine .storeA 0 rfl rfl rfl rfl Z_api_ID (Idn.size _) (Idn.one _) (Idn.size _) ?_
    refine .step (.as rfl) (by decide) ?_
    refine .step (.as rfl) (by decide) ?_
    refine .nil (.then_n (.seq (.region (?_))))
    refine .step (.mv rfl) (by decide) ?_
    refine .step (.ldA rfl (.i 0 rfl) A_api_ID Z_api_ID (Idn.size _)) (by decide) ?_
    obtain ⟨x6, hx6, H⟩ := bind_s H
    refine .callQ (v := .bool (x6)) rfl E_ring_Has rfl rfl (fun w hm hf => W_ring_Has x2 x5.1 _ _ _ hx6 w (RoK.at ((RoK.own 4 Idn.size rfl ho_o_19)) hm hf)) (by decide) ?_
    refine .step (.not rfl) (by decide) ?_
    refine .nil (.then_n (.cond rfl (fun hc2 => ?_) (fun hc2 => ?_)))
    · replace H := cond_t hc2 H
      refine .region (?_)
      refine .step (.mv rfl) (by decide) ?_
      refine .step (.fa rfl F_api_Entry_P Z_api_Path) (by decide) ?_
      refine .step (.lds rfl (.i 1 rfl) A_api_Path Z_api_Path (api_Entry.s_P _)) (by decide) ?_
      refine .bsL (vs := [.agg (api_Path.enc x4.P)]) (c := catA (([x4.P] : List api_Path).map api_Path.enc) ++ #[]) (len := 1) L_sl_api_Path Z_api_Path N_api_Path rfl rfl (by intro v hv; simp only [List.mem_cons, List.not_mem_nil, or_false] at hv; subst hv; exact api_Path.size _) (by rw [Array.append_empty]; rfl) (by decide) (by decide) (by decide) fun b40 hb40 => ?_
      have hob40 : OwnS 17 (some b40) ([x4.P] : List api_Path).length 1 #[] := ⟨rfl, Nat.le_refl _, fun h => by cases h⟩
      obtain ⟨x7, hx7, H⟩ := bind_s H
      refine .appX 3 api_Path.size ho_n8_1 (.own 0 api_Path.size rfl hob40) hx7 rfl rfl rfl L_sl_api_Path Z_api_Path Y_api_Path N_api_Path (api_Path.size _) (by decide) (by decide) (fun a _ => api_Path.one a) (by decide) fun k_q1 c_q1 r_q1 ho_q1 => ?_
      refine .step (.as rfl) (by decide) ?_
      refine .nil (.blk_n (.then_n (.region (?_))))
      refine .step (.add rfl rfl) (by decide) ?_
      refine .step (.mv rfl) (by decide) ?_
      refine .nil (.then_n (?_))
      exact .again ⟨fl1, (x7, (IntKind.wrap .i64 (s23_1 + 1))), k_q1, c_q1, r_q1⟩ ⟨H, ho_q1⟩ (Nat.lt_succ_self _) (.cons _ (.cons _ (.cons _ (.refl _)))) (.cons rfl (.cons rfl (.cons rfl (.cons rfl (.cons rfl .nil)))))
    · replace H := cond_f hc2 H
      refine .skip (.blk_n (.then_n (.region (?_))))
      refine .step (.add rfl rfl) (by decide) ?_
      refine .step (.mv rfl) (by decide) ?_
      refine .nil (.then_n (?_))
      exact .again ⟨fl1, (l_n8_1, (IntKind.wrap .i64 (s23_1 + 1))), k_n8_1, c_n8_1, r_n8_1⟩ ⟨H, ho_n8_1⟩ (Nat.lt_succ_self _) (.cons _ (.cons _ (.refl _))) (.cons rfl (.cons rfl (.cons rfl (.cons rfl (.cons rfl .nil)))))
  · replace H := cond_f hc1 H
    refine .exit (.then_x (.then_x (.blk_x (.then_n (.seq (.region (?_)))))))
    refine .step (.mv rfl) (by decide) ?_
    refine .step (.as rfl) (by decide) ?_
    cases H
    exact .nil (.then_n (.ret (.ret1 [_] (.cons_cons _ (.cons _ (.cons _ (.cons _ (.cons _ (.slnil)))))) rfl rfl ⟨k_n8_1, c_n8_1, r_n8_1, rfl, rfl, ho_n8_1⟩)))

def F_annuletref15_Spare_L1 (x2 : List Idn) (x3 : List api_Entry) (again1 : (List api_Path × Int) → Option (List api_Path)) (st : List api_Path × Int) : Option (List api_Path) :=
  match st with | (l_n8_1, s10_1) => cond (decide (s10_1 < (((x3).length : Nat) : Int))) ((ixL x3 s10_1).bind fun x4 => (F_annuletref12_Other x4).bind fun x5 => (F_annuletref10_Has x2 x5.1).bind fun x6 => cond (!x6) ((ixL x3 s10_1).bind fun x7 => (appG l_n8_1 ([x7.P] : List api_Path)).bind fun x8 => again1 (x8, (IntKind.wrap .i64 (s10_1 + 1)))) (again1 (l_n8_1, (IntKind.wrap .i64 (s10_1 + 1))))) (some l_n8_1)
def F_annuletref15_Spare (a0_L : List api_Entry) (a0_Most : Int) (a1 : Idn) (a2 : Int) : Option (List api_Path) :=
  (F_annuletref15_Friends a0_L a0_Most a1).bind fun x1 => (F_annuletref10_Want a1 x1 a2).bind fun x2 => (F_annuletref12_Table_Own a0_L a0_Most).bind fun x3 => iter (F_annuletref15_Spare_L1 x2 x3) FUEL (([] : List api_Path), 0)
theorem W_annuletref15_Spare (a0_L : List api_Entry) (a0_Most : Int) (a1 : Idn) (a2 : Int) (b_a0 : Nat) (p_a0_L : Option Addr) (c_a0_L : Nat) (r : List api_Path) (H : F_annuletref15_Spare a0_L a0_Most a1 a2 = some r) (w : World) (hB_b_a0 : w.heap[b_a0]? = some (.cells (annuletref12_Table.enc (annuletref12_Table.mk (Slv.mk p_a0_L (a0_L).length c_a0_L) a0_Most)) T_annuletref12_Table (0, 0))) (hR_a0_L : Ro api_Entry.enc 51 w p_a0_L a0_L c_a0_L) :
    Calls PG f_annuletref15_Spare #[.pointer (some ⟨b_a0, 0, none⟩), .agg (Idn.enc a1), .int .i64 (a2)] w (Ret w [] (fun v nm => ∃ (k_o_q0 : Option Nat) (c_o_q0 : Nat) (r_o_q0 : Array Value), v = slv k_o_q0 (r).length c_o_q0 ∧ nm = [(k_o_q0, .cells (catA ((r).map api_Path.enc) ++ r_o_q0) T_api_Path (0, 0))] ∧ OwnS 17 k_o_q0 (r).length c_o_q0 r_o_q0)) := by
  unfold F_annuletref15_Spare at H
  refine enter0 (n := 50) (args := [.pointer (some ⟨b_a0, 0, none⟩), .agg (Idn.enc a1), .int .i64 (a2)]) B_annuletref15_Spare rfl rfl (by simp) ?_
  refine .seq (.region (?_))
  refine .box rfl rfl (by decide) fun b4 hb4 => ?_
  refine .step (.as rfl) (by decide) ?_
  refine .nil (.then_n (.seq (.drawsI [0] rfl rfl ?_)))
  refine .first [0, 1, 2, 4] 3 rfl (by kernel_rfl) (by kernel_rfl) ?_
  refine .s_step rfl rfl rfl (.ldA rfl (.i 0 rfl) A_api_ID Z_api_ID (Idn.size _)) (by decide) ?_
  refine .s_step rfl rfl rfl (.mv rfl) (by decide) ?_
  refine .s_step rfl rfl rfl (.ldA rfl (.i 0 rfl) A_api_ID Z_api_ID (Idn.size _)) (by decide) ?_
  refine .s_step rfl rfl rfl (.mv rfl) (by decide) ?_
  refine .s_nil ?_
  refine .only (i := 3) (.refl _) (by kernel_rfl) rfl ?_
  obtain ⟨x1, hx1, H⟩ := bind_s H
  refine .call0 rfl E_annuletref15_Friends rfl rfl (fun w hm hf => W_annuletref15_Friends a0_L a0_Most a1 _ _ _ _ hx1 w (Kn.at (.o hB_b_a0 (by simp)) hm hf) (RoK.at ((RoK.par hR_a0_L)) hm hf)) (by decide) fun v nm hR => ?_
  obtain ⟨k_o_17, c_o_17, r_o_17, rfl, rfl, ho_o_17⟩ := hR
  refine .nil (.then_n ?_)
  refine .only (i := 5) (.cons _ (.refl _)) (by kernel_rfl) rfl ?_
  obtain ⟨x2, hx2, H⟩ := bind_s H
  refine .call0 rfl E_annuletref10_Want rfl rfl (fun w hm hf => W_annuletref10_Want a1 x1 a2 _ _ _ hx2 w (RoK.at ((RoK.own 0 Idn.size rfl ho_o_17)) hm hf)) (by decide) fun v nm hR => ?_
  obtain ⟨k_o_19, c_o_19, r_o_19, rfl, rfl, ho_o_19⟩ := hR
  refine .nil (.then_n ?_)
  refine .first [6] 0 rfl (by kernel_rfl) (by kernel_rfl) ?_
  refine .s_step rfl rfl rfl (.as rfl) (by decide) ?_
  refine .s_nil ?_
  refine .done (.cons _ (.cons _ (.refl _))) (by kernel_rfl) ?_
  refine .then_n (.seq (.region (?_)))
  refine .step (.as rfl) (by decide) ?_
  refine .nil (.then_n (.seq (.region (?_))))
  refine .step (.mv rfl) (by decide) ?_
  obtain ⟨x3, hx3, H⟩ := bind_s H
  refine .call0 rfl E_annuletref12_Table_Own rfl rfl (fun w hm hf => W_annuletref12_Table_Own a0_L a0_Most _ _ _ _ hx3 w (Kn.at (.o hB_b_a0 (by simp)) hm hf) (RoK.at ((RoK.par hR_a0_L)) hm hf)) (by decide) fun v nm hR => ?_
  obtain ⟨k_o_21, c_o_21, r_o_21, rfl, rfl, ho_o_21⟩ := hR
  refine .step (.as rfl) (by decide) ?_
  refine .nil (.then_n (.seq (.seq (.region (?_)))))
  refine .step (.as rfl) (by decide) ?_
  refine .nil (.then_n (.block (.non (o := .cells (catA (([] : List api_Path).map api_Path.enc) ++ #[]) T_api_Path (0, 0)) (.loop (G := Nat × (List api_Path × Int) × (Option Nat) × (Nat) × (Array Value)) (fun g => iter (F_annuletref15_Spare_L1 x2 x3) g.1 g.2.1 = some r ∧ OwnS 17 g.2.2.1 (g.2.1.1).length g.2.2.2.1 g.2.2.2.2) (fun g => [(g.2.2.1, .cells (catA ((g.2.1.1).map api_Path.enc) ++ g.2.2.2.2) T_api_Path (0, 0)), (k_o_21, .cells (catA ((x3).map api_Entry.enc) ++ r_o_21) T_api_Entry (0, 0)), (k_o_19, .cells (catA ((x2).map Idn.enc) ++ r_o_19) T_api_ID (0, 0)), (k_o_17, .cells (catA ((x1).map Idn.enc) ++ r_o_17) T_api_ID (0, 0)), (some b4, .cells (Idn.enc a1) T_api_ID (0, 0))]) (fun g => [(7, slv k_o_19 (x2).length c_o_19), (8, slv g.2.2.1 (g.2.1.1).length g.2.2.2.1), (9, slv k_o_21 (x3).length c_o_21), (10, .int .i64 (g.2.1.2))]) (fun g => g.1) ⟨FUEL, (([] : List api_Path), 0), none, 0, #[]⟩ ⟨H, ⟨rfl, Nat.le_refl _, fun _ => rfl⟩⟩ (.refl _) (.cons rfl (.cons rfl (.cons rfl (.cons rfl .nil)))) ?_))))
  rintro ⟨_ | fl1, ⟨l_n8_1, s10_1⟩, k_n8_1, c_n8_1, r_n8_1⟩ ⟨H, ho_n8_1⟩
  · exact (iter_0 H).elim
  replace H := iter_s H; rw [F_annuletref15_Spare_L1] at H; dsimp only at H ⊢
  refine .seq (.seq (.region (?_)))
  refine .step (.mv rfl) (by decide) ?_
  refine .step (.mv rfl) (by decide) ?_
  refine .step (.len L_sl_api_Entry rfl) (by decide) ?_
  refine .step (.lss rfl rfl) (by decide) ?_
  refine .nil (.then_n (.cond rfl (fun hc1 => ?_) (fun hc1 => ?_)))
  · replace H := cond_t hc1 H
    refine .skip (.then_n (.seq (.block (.seq (.region (?_))))))
    refine .step (.mv rfl) (by decide) ?_
    refine .step (.mv rfl) (by decide) ?_
    obtain ⟨x4, hx4, H⟩ := bind_s H
    refine .step (.ixP (.own 1 api_Entry.size rfl ho_o_21) hx4 rfl rfl L_sl_api_Entry Z_api_Entry) (by decide) ?_
    refine .step (.ldP (.own 1 api_Entry.size rfl ho_o_21) hx4 rfl A_api_Entry Z_api_Entry) (by decide) ?_
    obtain ⟨x5, hx5, H⟩ := bind_s H
    refine .callQ (v := .tuple #[.agg (Idn.enc x5.1), .int .i64 (x5.2.1), .bool (x5.2.2)]) rfl E_annuletref12_Other rfl rfl (fun w hm hf => W_annuletref12_Other x4  _ hx5 w ) (by decide) ?_
    refine .step (.mv rfl) (by decide) ?_
    refine .step (.xt rfl rfl) (by decide) ?_
    refine .step (.xt rfl rfl) (by decide) ?_
    refine .step (.xt rfl rfl) (by decide) ?_
    refine .alloc N_api_ID rfl (by decide) fun b11 hb11 => ?_
    refine .storeA 0 rfl rfl rfl rfl Z_api_ID (Idn.size _) (Idn.one _) (Idn.size _) ?_
    refine .step (.as rfl) (by decide) ?_
    refine .step (.as rfl) (by decide) ?_
    refine .nil (.then_n (.seq (.region (?_))))
    refine .step (.mv rfl) (by decide) ?_
    refine .step (.ldA rfl (.i 0 rfl) A_api_ID Z_api_ID (Idn.size _)) (by decide) ?_
    obtain ⟨x6, hx6, H⟩ := bind_s H
    refine .callQ (v := .bool (x6)) rfl E_annuletref10_Has rfl rfl (fun w hm hf => W_annuletref10_Has x2 x5.1 _ _ _ hx6 w (RoK.at ((RoK.own 3 Idn.size rfl ho_o_19)) hm hf)) (by decide) ?_
    refine .step (.not rfl) (by decide) ?_
    refine .nil (.then_n (.cond rfl (fun hc2 => ?_) (fun hc2 => ?_)))
    · replace H := cond_t hc2 H
      refine .region (?_)
      refine .step (.mv rfl) (by decide) ?_
      refine .step (.mv rfl) (by decide) ?_
      refine .step (.mv rfl) (by decide) ?_
      obtain ⟨x7, hx7, H⟩ := bind_s H
      refine .step (.ixP (.own 2 api_Entry.size rfl ho_o_21) hx7 rfl rfl L_sl_api_Entry Z_api_Entry) (by decide) ?_
      refine .step (.faP (.own 2 api_Entry.size rfl ho_o_21) hx7 rfl F_api_Entry_P Z_api_Path) (by decide) ?_
      refine .step (.ldPf (.own 2 api_Entry.size rfl ho_o_21) hx7 rfl A_api_Path Z_api_Path (api_Entry.s_P _)) (by decide) ?_
      refine .bsL (vs := [.agg (api_Path.enc x7.P)]) (c := catA (([x7.P] : List api_Path).map api_Path.enc) ++ #[]) (len := 1) L_sl_api_Path Z_api_Path N_api_Path rfl rfl (by intro v hv; simp only [List.mem_cons, List.not_mem_nil, or_false] at hv; subst hv; exact api_Path.size _) (by rw [Array.append_empty]; rfl) (by decide) (by decide) (by decide) fun b47 hb47 => ?_
      have hob47 : OwnS 17 (some b47) ([x7.P] : List api_Path).length 1 #[] := ⟨rfl, Nat.le_refl _, fun h => by cases h⟩
      obtain ⟨x8, hx8, H⟩ := bind_s H
      refine .appX 2 api_Path.size ho_n8_1 (.own 0 api_Path.size rfl hob47) hx8 rfl rfl rfl L_sl_api_Path Z_api_Path Y_api_Path N_api_Path (api_Path.size _) (by decide) (by decide) (fun a _ => api_Path.one a) (by decide) fun k_q1 c_q1 r_q1 ho_q1 => ?_
      refine .step (.as rfl) (by decide) ?_
      refine .nil (.blk_n (.then_n (.region (?_))))
      refine .step (.mv rfl) (by decide) ?_
      refine .step (.add rfl rfl) (by decide) ?_
      refine .step (.as rfl) (by decide) ?_
      refine .nil (.then_n (?_))
      exact .again ⟨fl1, (x8, (IntKind.wrap .i64 (s10_1 + 1))), k_q1, c_q1, r_q1⟩ ⟨H, ho_q1⟩ (Nat.lt_succ_self _) (.cons _ (.cons _ (.refl _))) (.cons rfl (.cons rfl (.cons rfl (.cons rfl .nil))))
    · replace H := cond_f hc2 H
      refine .skip (.blk_n (.then_n (.region (?_))))
      refine .step (.mv rfl) (by decide) ?_
      refine .step (.add rfl rfl) (by decide) ?_
      refine .step (.as rfl) (by decide) ?_
      refine .nil (.then_n (?_))
      exact .again ⟨fl1, (l_n8_1, (IntKind.wrap .i64 (s10_1 + 1))), k_n8_1, c_n8_1, r_n8_1⟩ ⟨H, ho_n8_1⟩ (Nat.lt_succ_self _) (.cons _ (.refl _)) (.cons rfl (.cons rfl (.cons rfl (.cons rfl .nil))))
  · replace H := cond_f hc1 H
    refine .exit (.then_x (.then_x (.blk_x (.then_n (.seq (.region (?_)))))))
    refine .step (.mv rfl) (by decide) ?_
    refine .step (.as rfl) (by decide) ?_
    cases H
    exact .nil (.then_n (.ret (.ret1 [_] (.cons_cons _ (.cons _ (.cons _ (.cons _ (.cons _ (.slnil)))))) rfl rfl ⟨k_n8_1, c_n8_1, r_n8_1, rfl, rfl, ho_n8_1⟩)))

def F_tear_Twins_L1 (x1 : List api_Entry) (again1 : (List api_Path × List Idn × Int) → Option (List api_Path)) (st : List api_Path × List Idn × Int) : Option (List api_Path) :=
  match st with | (l_n4_1, l_n3_1, s13_1) => cond (decide (s13_1 < (((x1).length : Nat) : Int))) ((ixL x1 s13_1).bind fun x2 => (F_table_Other x2).bind fun x3 => (F_ring_Has l_n3_1 x3.1).bind fun x4 => cond x4 ((appG l_n4_1 ([x2.P] : List api_Path)).bind fun x5 => (appG l_n3_1 ([x3.1] : List Idn)).bind fun x6 => again1 (x5, x6, (IntKind.wrap .i64 (s13_1 + 1)))) ((appG l_n3_1 ([x3.1] : List Idn)).bind fun x7 => again1 (l_n4_1, x7, (IntKind.wrap .i64 (s13_1 + 1))))) (some l_n4_1)
def F_tear_Twins (a0_most : Int) (a0_m : MS api_Path api_Entry) : Option (List api_Path) :=
  (F_table_Table_Own a0_most a0_m).bind fun x1 => iter (F_tear_Twins_L1 x1) FUEL (([] : List api_Path), ([] : List Idn), 0)
theorem W_tear_Twins (a0_most : Int) (a0_m : MS api_Path api_Entry) (b_a0 : Nat) (b_a0_m : Nat) (r : List api_Path) (H : F_tear_Twins a0_most a0_m = some r) (w : World) (hB_b_a0 : w.heap[b_a0]? = some (.cells (table_Table.enc (table_Table.mk a0_most (.map (some b_a0_m)))) T_table_Table (0, 0))) (hB_b_a0_m : w.heap[b_a0_m]? = some (MS.obj (vA api_Path.enc) (vA api_Entry.enc) a0_m)) :
    Calls PG f_tear_Twins #[.pointer (some ⟨b_a0, 0, none⟩)] w (Ret w [] (fun v nm => ∃ (k_o_q0 : Option Nat) (c_o_q0 : Nat) (r_o_q0 : Array Value), v = slv k_o_q0 (r).length c_o_q0 ∧ nm = [(k_o_q0, .cells (catA ((r).map api_Path.enc) ++ r_o_q0) T_api_Path (0, 0))] ∧ OwnS 17 k_o_q0 (r).length c_o_q0 r_o_q0)) := by
  unfold F_tear_Twins at H
  refine enter0 (n := 37) (args := [.pointer (some ⟨b_a0, 0, none⟩)]) B_tear_Twins rfl rfl (by simp) ?_
  refine .seq (.region (?_))
  refine .step (.as rfl) (by decide) ?_
  refine .nil (.then_n (.seq (.region (?_))))
  refine .step (.as rfl) (by decide) ?_
  refine .nil (.then_n (.seq (.region (?_))))
  refine .step (.as rfl) (by decide) ?_
  refine .nil (.then_n (.seq (.seq (.region (?_)))))
  refine .step (.mv rfl) (by decide) ?_
  obtain ⟨x1, hx1, H⟩ := bind_s H
  refine .call0 rfl E_table_Table_Own rfl rfl (fun w hm hf => W_table_Table_Own a0_most a0_m _ _ _ hx1 w (Kn.at (.o hB_b_a0 (by simp)) hm hf) (Kn.at (.o hB_b_a0_m (by simp)) hm hf)) (by decide) fun v nm hR => ?_
  obtain ⟨k_o_11, c_o_11, r_o_11, rfl, rfl, ho_o_11⟩ := hR
  refine .step (.len L_sl_api_Entry rfl) (by decide) ?_
  refine .step (.mv rfl) (by decide) ?_
  refine .nil (.then_n (.block (.non (o := .cells (catA (([] : List Idn).map Idn.enc) ++ #[]) T_api_ID (0, 0)) (.non (o := .cells (catA (([] : List api_Path).map api_Path.enc) ++ #[]) T_api_Path (0, 0)) (.loop (G := Nat × (List api_Path × List Idn × Int) × (Option Nat) × (Nat) × (Array Value) × (Option Nat) × (Nat) × (Array Value)) (fun g => iter (F_tear_Twins_L1 x1) g.1 g.2.1 = some r ∧ OwnS 17 g.2.2.1 (g.2.1.1).length g.2.2.2.1 g.2.2.2.2.1 ∧ OwnS 16 g.2.2.2.2.2.1 (g.2.1.2.1).length g.2.2.2.2.2.2.1 g.2.2.2.2.2.2.2) (fun g => [(g.2.2.1, .cells (catA ((g.2.1.1).map api_Path.enc) ++ g.2.2.2.2.1) T_api_Path (0, 0)), (g.2.2.2.2.2.1, .cells (catA ((g.2.1.2.1).map Idn.enc) ++ g.2.2.2.2.2.2.2) T_api_ID (0, 0)), (k_o_11, .cells (catA ((x1).map api_Entry.enc) ++ r_o_11) T_api_Entry (0, 0))]) (fun g => [(3, slv g.2.2.2.2.2.1 (g.2.1.2.1).length g.2.2.2.2.2.2.1), (4, slv g.2.2.1 (g.2.1.1).length g.2.2.2.1), (11, slv k_o_11 (x1).length c_o_11), (12, .int .i64 ((((x1).length : Nat) : Int))), (13, .int .i64 (g.2.1.2.2))]) (fun g => g.1) ⟨FUEL, (([] : List api_Path), ([] : List Idn), 0), none, 0, #[], none, 0, #[]⟩ ⟨H, ⟨rfl, Nat.le_refl _, fun _ => rfl⟩, ⟨rfl, Nat.le_refl _, fun _ => rfl⟩⟩ (.refl _) (.cons rfl (.cons rfl (.cons rfl (.cons rfl (.cons rfl .nil))))) ?_)))))
  rintro ⟨_ | fl1, ⟨l_n4_1, l_n3_1, s13_1⟩, k_n4_1, c_n4_1, r_n4_1, k_n3_1, c_n3_1, r_n3_1⟩ ⟨H, ho_n4_1, ho_n3_1⟩
  · exact (iter_0 H).elim
  replace H := iter_s H; rw [F_tear_Twins_L1] at H; dsimp only at H ⊢
  refine .seq (.region (?_))
  refine .step (.lss rfl rfl) (by decide) ?_
  refine .nil (.then_n (.seq (.cond rfl (fun hc1 => ?_) (fun hc1 => ?_))))
  · replace H := cond_t hc1 H
    refine .skip (.then_n (.seq (.block (.seq (.region (?_))))))
    obtain ⟨x2, hx2, H⟩ := bind_s H
    refine .step (.ixP (.own 2 api_Entry.size rfl ho_o_11) hx2 rfl rfl L_sl_api_Entry Z_api_Entry) (by decide) ?_
    refine .step (.ldP (.own 2 api_Entry.size rfl ho_o_11) hx2 rfl A_api_Entry Z_api_Entry) (by decide) ?_
    refine .alloc N_api_Entry rfl (by decide) fun b6 hb6 => ?_
    refine .storeA 0 rfl rfl rfl rfl Z_api_Entry (api_Entry.size _) (api_Entry.one _) (api_Entry.size _) ?_
    refine .nil (.then_n (.seq (.region (?_))))
    refine .step (.ldA rfl (.i 0 rfl) A_api_Entry Z_api_Entry (api_Entry.size _)) (by decide) ?_
    obtain ⟨x3, hx3, H⟩ := bind_s H
    refine .callQ (v := .tuple #[.agg (Idn.enc x3.1), .int .i64 (x3.2.1), .bool (x3.2.2)]) rfl E_table_Other rfl rfl (fun w hm hf => W_table_Other x2  _ hx3 w ) (by decide) ?_
    refine .step (.mv rfl) (by decide) ?_
    refine .step (.xt rfl rfl) (by decide) ?_
    refine .step (.xt rfl rfl) (by decide) ?_
    refine .step (.xt rfl rfl) (by decide) ?_
    refine .alloc N_api_ID rfl (by decide) fun b7 hb7 => ?_
    refine .storeA 0 rfl rfl rfl rfl Z_api_ID (Idn.size _) (Idn.one _) (Idn.size _) ?_
    refine .step (.as rfl) (by decide) ?_
    refine .step (.as rfl) (by decide) ?_
    refine .nil (.then_n (.seq (.seq (.region (?_)))))
    refine .step (.mv rfl) (by decide) ?_
    refine .step (.ldA rfl (.i 0 rfl) A_api_ID Z_api_ID (Idn.size _)) (by decide) ?_
    obtain ⟨x4, hx4, H⟩ := bind_s H
    refine .callQ (v := .bool (x4)) rfl E_ring_Has rfl rfl (fun w hm hf => W_ring_Has l_n3_1 x3.1 _ _ _ hx4 w (RoK.at ((RoK.own 3 Idn.size rfl ho_n3_1)) hm hf)) (by decide) ?_
    refine .nil (.then_n (.cond rfl (fun hc2 => ?_) (fun hc2 => ?_)))
    · replace H := cond_t hc2 H
      refine .region (?_)
      refine .step (.mv rfl) (by decide) ?_
      refine .step (.fa rfl F_api_Entry_P Z_api_Path) (by decide) ?_
      refine .step (.lds rfl (.i 1 rfl) A_api_Path Z_api_Path (api_Entry.s_P _)) (by decide) ?_
      refine .bsL (vs := [.agg (api_Path.enc x2.P)]) (c := catA (([x2.P] : List api_Path).map api_Path.enc) ++ #[]) (len := 1) L_sl_api_Path Z_api_Path N_api_Path rfl rfl (by intro v hv; simp only [List.mem_cons, List.not_mem_nil, or_false] at hv; subst hv; exact api_Path.size _) (by rw [Array.append_empty]; rfl) (by decide) (by decide) (by decide) fun b29 hb29 => ?_
      have hob29 : OwnS 17 (some b29) ([x2.P] : List api_Path).length 1 #[] := ⟨rfl, Nat.le_refl _, fun h => by cases h⟩
      obtain ⟨x5, hx5, H⟩ := bind_s H
      refine .appX 3 api_Path.size ho_n4_1 (.own 0 api_Path.size rfl hob29) hx5 rfl rfl rfl L_sl_api_Path Z_api_Path Y_api_Path N_api_Path (api_Path.size _) (by decide) (by decide) (fun a _ => api_Path.one a) (by decide) fun k_q1 c_q1 r_q1 ho_q1 => ?_
      refine .step (.as rfl) (by decide) ?_
      refine .nil (.then_n (.region (?_)))
      refine .step (.mv rfl) (by decide) ?_
      refine .step (.ldA rfl (.i 1 rfl) A_api_ID Z_api_ID (Idn.size _)) (by decide) ?_
      refine .bsL (vs := [.agg (Idn.enc x3.1)]) (c := catA (([x3.1] : List Idn).map Idn.enc) ++ #[]) (len := 1) L_sl_api_ID Z_api_ID N_api_ID rfl rfl (by intro v hv; simp only [List.mem_cons, List.not_mem_nil, or_false] at hv; subst hv; exact Idn.size _) (by rw [Array.append_empty]; rfl) (by decide) (by decide) (by decide) fun b33 hb33 => ?_
      have hob33 : OwnS 16 (some b33) ([x3.1] : List Idn).length 1 #[] := ⟨rfl, Nat.le_refl _, fun h => by cases h⟩
      obtain ⟨x6, hx6, H⟩ := bind_s H
      refine .appX 5 Idn.size ho_n3_1 (.own 0 Idn.size rfl hob33) hx6 rfl rfl rfl L_sl_api_ID Z_api_ID Y_api_ID N_api_ID (Idn.size _) (by decide) (by decide) (fun a _ => Idn.one a) (by decide) fun k_q2 c_q2 r_q2 ho_q2 => ?_
      refine .step (.as rfl) (by decide) ?_
      refine .nil (.blk_n (.then_n (.region (?_))))
      refine .step (.add rfl rfl) (by decide) ?_
      refine .step (.mv rfl) (by decide) ?_
      refine .nil (.then_n (?_))
      exact .again ⟨fl1, (x5, x6, (IntKind.wrap .i64 (s13_1 + 1))), k_q1, c_q1, r_q1, k_q2, c_q2, r_q2⟩ ⟨H, ho_q1, ho_q2⟩ (Nat.lt_succ_self _) (.cons _ (.cons _ (.cons _ (.cons _ (.refl _))))) (.cons rfl (.cons rfl (.cons rfl (.cons rfl (.cons rfl .nil)))))
    · replace H := cond_f hc2 H
      refine .skip (.then_n (.region (?_)))
      refine .step (.mv rfl) (by decide) ?_
      refine .step (.ldA rfl (.i 0 rfl) A_api_ID Z_api_ID (Idn.size _)) (by decide) ?_
      refine .bsL (vs := [.agg (Idn.enc x3.1)]) (c := catA (([x3.1] : List Idn).map Idn.enc) ++ #[]) (len := 1) L_sl_api_ID Z_api_ID N_api_ID rfl rfl (by intro v hv; simp only [List.mem_cons, List.not_mem_nil, or_false] at hv; subst hv; exact Idn.size _) (by rw [Array.append_empty]; rfl) (by decide) (by decide) (by decide) fun b33 hb33 => ?_
      have hob33 : OwnS 16 (some b33) ([x3.1] : List Idn).length 1 #[] := ⟨rfl, Nat.le_refl _, fun h => by cases h⟩
      obtain ⟨x7, hx7, H⟩ := bind_s H
      refine .appX 4 Idn.size ho_n3_1 (.own 0 Idn.size rfl hob33) hx7 rfl rfl rfl L_sl_api_ID Z_api_ID Y_api_ID N_api_ID (Idn.size _) (by decide) (by decide) (fun a _ => Idn.one a) (by decide) fun k_q3 c_q3 r_q3 ho_q3 => ?_
      refine .step (.as rfl) (by decide) ?_
      refine .nil (.blk_n (.then_n (.region (?_))))
      refine .step (.add rfl rfl) (by decide) ?_
      refine .step (.mv rfl) (by decide) ?_
      refine .nil (.then_n (?_))
      exact .again ⟨fl1, (l_n4_1, x7, (IntKind.wrap .i64 (s13_1 + 1))), k_n4_1, c_n4_1, r_n4_1, k_q3, c_q3, r_q3⟩ ⟨H, ho_n4_1, ho_q3⟩ (Nat.lt_succ_self _) (.cons _ (.cons _ (.cons _ (.refl _)))) (.cons rfl (.cons rfl (.cons rfl (.cons rfl (.cons rfl .nil)))))
  · replace H := cond_f hc1 H
    refine .exit (.then_x (.then_x (.blk_x (.then_n (.seq (.region (?_)))))))
    refine .step (.mv rfl) (by decide) ?_
    refine .step (.as rfl) (by decide) ?_
    cases H
    exact .nil (.then_n (.ret (.ret1 [_] (.cons_cons _ (.cons _ (.cons _ (.slnil)))) rfl rfl ⟨k_n4_1, c_n4_1, r_n4_1, rfl, rfl, ho_n4_1⟩)))

def F_annuletref15_Twins_L2 (x1 : List api_Entry) (l_n3_1 : List api_Path) (s5_1 : Int) (again1 : (List api_Path × Int) → Option (List api_Path)) (x3 : Idn × Int × Bool) (again2 : (Int) → Option (List api_Path)) (st : Int) : Option (List api_Path) :=
  (fun s9_2 => cond (decide (s9_2 < s5_1)) ((ixL x1 s9_2).bind fun x4 => (F_annuletref12_Other x4).bind fun x5 => cond (decide (x3.1 = x5.1)) ((ixL x1 s5_1).bind fun x6 => (appG l_n3_1 ([x6.P] : List api_Path)).bind fun x7 => again1 (x7, (IntKind.wrap .i64 (s5_1 + 1)))) (again2 (IntKind.wrap .i64 (s9_2 + 1)))) (again1 (l_n3_1, (IntKind.wrap .i64 (s5_1 + 1))))) st
def F_annuletref15_Twins_L1 (x1 : List api_Entry) (again1 : (List api_Path × Int) → Option (List api_Path)) (st : List api_Path × Int) : Option (List api_Path) :=
  match st with | (l_n3_1, s5_1) => cond (decide (s5_1 < (((x1).length : Nat) : Int))) ((ixL x1 s5_1).bind fun x2 => (F_annuletref12_Other x2).bind fun x3 => iter (F_annuletref15_Twins_L2 x1 l_n3_1 s5_1 again1 x3) FUEL 0) (some l_n3_1)
def F_annuletref15_Twins (a0_L : List api_Entry) (a0_Most : Int) : Option (List api_Path) :=
  (F_annuletref12_Table_Own a0_L a0_Most).bind fun x1 => iter (F_annuletref15_Twins_L1 x1) FUEL (([] : List api_Path), 0)
theorem W_annuletref15_Twins (a0_L : List api_Entry) (a0_Most : Int) (b_a0 : Nat) (p_a0_L : Option Addr) (c_a0_L : Nat) (r : List api_Path) (H : F_annuletref15_Twins a0_L a0_Most = some r) (w : World) (hB_b_a0 : w.heap[b_a0]? = some (.cells (annuletref12_Table.enc (annuletref12_Table.mk (Slv.mk p_a0_L (a0_L).length c_a0_L) a0_Most)) T_annuletref12_Table (0, 0))) (hR_a0_L : Ro api_Entry.enc 51 w p_a0_L a0_L c_a0_L) :
    Calls PG f_annuletref15_Twins #[.pointer (some ⟨b_a0, 0, none⟩)] w (Ret w [] (fun v nm => ∃ (k_o_q0 : Option Nat) (c_o_q0 : Nat) (r_o_q0 : Array Value), v = slv k_o_q0 (r).length c_o_q0 ∧ nm = [(k_o_q0, .cells (catA ((r).map api_Path.enc) ++ r_o_q0) T_api_Path (0, 0))] ∧ OwnS 17 k_o_q0 (r).length c_o_q0 r_o_q0)) := by
  unfold F_annuletref15_Twins at H
  refine enter0 (n := 56) (args := [.pointer (some ⟨b_a0, 0, none⟩)]) B_annuletref15_Twins rfl rfl (by simp) ?_
  refine .seq (.region (?_))
  refine .step (.as rfl) (by decide) ?_
  refine .nil (.then_n (.seq (.region (?_))))
  refine .step (.as rfl) (by decide) ?_
  refine .nil (.then_n (.seq (.region (?_))))
  refine .step (.mv rfl) (by decide) ?_
  obtain ⟨x1, hx1, H⟩ := bind_s H
  refine .call0 rfl E_annuletref12_Table_Own rfl rfl (fun w hm hf => W_annuletref12_Table_Own a0_L a0_Most _ _ _ _ hx1 w (Kn.at (.o hB_b_a0 (by simp)) hm hf) (RoK.at ((RoK.par hR_a0_L)) hm hf)) (by decide) fun v nm hR => ?_
  obtain ⟨k_o_14, c_o_14, r_o_14, rfl, rfl, ho_o_14⟩ := hR
  refine .step (.as rfl) (by decide) ?_
  refine .nil (.then_n (.seq (.seq (.region (?_)))))
  refine .step (.as rfl) (by decide) ?_
  refine .nil (.then_n (.block (.non (o := .cells (catA (([] : List api_Path).map api_Path.enc) ++ #[]) T_api_Path (0, 0)) (.loop (G := Nat × (List api_Path × Int) × (Option Nat) × (Nat) × (Array Value)) (fun g => iter (F_annuletref15_Twins_L1 x1) g.1 g.2.1 = some r ∧ OwnS 17 g.2.2.1 (g.2.1.1).length g.2.2.2.1 g.2.2.2.2) (fun g => [(g.2.2.1, .cells (catA ((g.2.1.1).map api_Path.enc) ++ g.2.2.2.2) T_api_Path (0, 0)), (k_o_14, .cells (catA ((x1).map api_Entry.enc) ++ r_o_14) T_api_Entry (0, 0))]) (fun g => [(3, slv g.2.2.1 (g.2.1.1).length g.2.2.2.1), (4, slv k_o_14 (x1).length c_o_14), (5, .int .i64 (g.2.1.2))]) (fun g => g.1) ⟨FUEL, (([] : List api_Path), 0), none, 0, #[]⟩ ⟨H, ⟨rfl, Nat.le_refl _, fun _ => rfl⟩⟩ (.refl _) (.cons rfl (.cons rfl (.cons rfl .nil))) ?_))))
  rintro ⟨_ | fl1, ⟨l_n3_1, s5_1⟩, k_n3_1, c_n3_1, r_n3_1⟩ ⟨H, ho_n3_1⟩
  · exact (iter_0 H).elim
  replace H := iter_s H; rw [F_annuletref15_Twins_L1] at H; dsimp only at H ⊢
  refine .seq (.seq (.region (?_)))
  refine .step (.mv rfl) (by decide) ?_
  refine .step (.mv rfl) (by decide) ?_
  refine .step (.len L_sl_api_Entry rfl) (by decide) ?_
  refine .step (.lss rfl rfl) (by decide) ?_
  refine .nil (.then_n (.cond rfl (fun hc1 => ?_) (fun hc1 => ?_)))
  · replace H := cond_t hc1 H
    refine .skip (.then_n (.seq (.block (.seq (.region (?_))))))
    refine .step (.mv rfl) (by decide) ?_
    refine .step (.mv rfl) (by decide) ?_
    obtain ⟨x2, hx2, H⟩ := bind_s H
    refine .step (.ixP (.own 1 api_Entry.size rfl ho_o_14) hx2 rfl rfl L_sl_api_Entry Z_api_Entry) (by decide) ?_
    refine .step (.ldP (.own 1 api_Entry.size rfl ho_o_14) hx2 rfl A_api_Entry Z_api_Entry) (by decide) ?_
    obtain ⟨x3, hx3, H⟩ := bind_s H
    refine .callQ (v := .tuple #[.agg (Idn.enc x3.1), .int .i64 (x3.2.1), .bool (x3.2.2)]) rfl E_annuletref12_Other rfl rfl (fun w hm hf => W_annuletref12_Other x2  _ hx3 w ) (by decide) ?_
    refine .step (.mv rfl) (by decide) ?_
    refine .step (.xt rfl rfl) (by decide) ?_
    refine .step (.xt rfl rfl) (by decide) ?_
    refine .step (.xt rfl rfl) (by decide) ?_
    refine .alloc N_api_ID rfl (by decide) fun b6 hb6 => ?_
    refine .storeA 0 rfl rfl rfl rfl Z_api_ID (Idn.size _) (Idn.one _) (Idn.size _) ?_
    refine .step (.as rfl) (by decide) ?_
    refine .step (.as rfl) (by decide) ?_
    refine .nil (.then_n (.seq (.region (?_))))
    refine .step (.as rfl) (by decide) ?_
    refine .nil (.then_n (.block (.loop (G := Nat × (Int)) (fun g => iter (F_annuletref15_Twins_L2 x1 l_n3_1 s5_1 (iter (F_annuletref15_Twins_L1 x1) fl1) x3) g.1 g.2 = some r) (fun g => [(some b6, .cells (Idn.enc x3.1) T_api_ID (0, 0)), (k_n3_1, .cells (catA ((l_n3_1).map api_Path.enc) ++ r_n3_1) T_api_Path (0, 0)), (k_o_14, .cells (catA ((x1).map api_Entry.enc) ++ r_o_14) T_api_Entry (0, 0))]) (fun g => [(3, slv k_n3_1 (l_n3_1).length c_n3_1), (4, slv k_o_14 (x1).length c_o_14), (5, .int .i64 (s5_1)), (6, .pointer (some ⟨b6, 0, none⟩)), (9, .int .i64 (g.2))]) (fun g => g.1) ⟨FUEL, 0⟩ H (.refl _) (.cons rfl (.cons rfl (.cons rfl (.cons rfl (.cons rfl .nil))))) ?_)))
    rintro ⟨_ | fl2, s9_2⟩ H
    · exact (iter_0 H).elim
    replace H := iter_s H; rw [F_annuletref15_Twins_L2] at H; dsimp only at H ⊢
    refine .seq (.seq (.region (?_)))
    refine .step (.mv rfl) (by decide) ?_
    refine .step (.mv rfl) (by decide) ?_
    refine .step (.lss rfl rfl) (by decide) ?_
    refine .nil (.then_n (.cond rfl (fun hc2 => ?_) (fun hc2 => ?_)))
    · replace H := cond_t hc2 H
      refine .skip (.then_n (.seq (.block (.seq (.region (?_))))))
      refine .step (.mv rfl) (by decide) ?_
      refine .step (.mv rfl) (by decide) ?_
      obtain ⟨x4, hx4, H⟩ := bind_s H
      refine .step (.ixP (.own 2 api_Entry.size rfl ho_o_14) hx4 rfl rfl L_sl_api_Entry Z_api_Entry) (by decide) ?_
      refine .step (.ldP (.own 2 api_Entry.size rfl ho_o_14) hx4 rfl A_api_Entry Z_api_Entry) (by decide) ?_
      obtain ⟨x5, hx5, H⟩ := bind_s H
      refine .callQ (v := .tuple #[.agg (Idn.enc x5.1), .int .i64 (x5.2.1), .bool (x5.2.2)]) rfl E_annuletref12_Other rfl rfl (fun w hm hf => W_annuletref12_Other x4  _ hx5 w ) (by decide) ?_
      refine .step (.mv rfl) (by decide) ?_
      refine .step (.xt rfl rfl) (by decide) ?_
      refine .step (.xt rfl rfl) (by decide) ?_
      refine .step (.xt rfl rfl) (by decide) ?_
      refine .alloc N_api_ID rfl (by decide) fun b10 hb10 => ?_
      refine .storeA 0 rfl rfl rfl rfl Z_api_ID (Idn.size _) (Idn.one _) (Idn.size _) ?_
      refine .step (.as rfl) (by decide) ?_
      refine .step (.as rfl) (by decide) ?_
      refine .nil (.then_n (.seq (.region (?_))))
      refine .step (.ldA rfl (.i 1 rfl) A_api_ID Z_api_ID (Idn.size _)) (by decide) ?_
      refine .step (.ldA rfl (.i 0 rfl) A_api_ID Z_api_ID (Idn.size _)) (by decide) ?_
      refine .step (.eqA (EQ_api_ID _ _) G_api_ID rfl rfl (by decide)) (by decide) ?_
      refine .nil (.then_n (.cond rfl (fun hc3 => ?_) (fun hc3 => ?_)))
      · replace H := cond_t hc3 H
        refine .seq (.region (?_))
        refine .step (.mv rfl) (by decide) ?_
        refine .step (.mv rfl) (by decide) ?_
        refine .step (.mv rfl) (by decide) ?_
        obtain ⟨x6, hx6, H⟩ := bind_s H
        refine .step (.ixP (.own 3 api_Entry.size rfl ho_o_14) hx6 rfl rfl L_sl_api_Entry Z_api_Entry) (by decide) ?_
        refine .step (.faP (.own 3 api_Entry.size rfl ho_o_14) hx6 rfl F_api_Entry_P Z_api_Path) (by decide) ?_
        refine .step (.ldPf (.own 3 api_Entry.size rfl ho_o_14) hx6 rfl A_api_Path Z_api_Path (api_Entry.s_P _)) (by decide) ?_
        refine .bsL (vs := [.agg (api_Path.enc x6.P)]) (c := catA (([x6.P] : List api_Path).map api_Path.enc) ++ #[]) (len := 1) L_sl_api_Path Z_api_Path N_api_Path rfl rfl (by intro v hv; simp only [List.mem_cons, List.not_mem_nil, or_false] at hv; subst hv; exact api_Path.size _) (by rw [Array.append_empty]; rfl) (by decide) (by decide) (by decide) fun b53 hb53 => ?_
        have hob53 : OwnS 17 (some b53) ([x6.P] : List api_Path).length 1 #[] := ⟨rfl, Nat.le_refl _, fun h => by cases h⟩
        obtain ⟨x7, hx7, H⟩ := bind_s H
        refine .appX 3 api_Path.size ho_n3_1 (.own 0 api_Path.size rfl hob53) hx7 rfl rfl rfl L_sl_api_Path Z_api_Path Y_api_Path N_api_Path (api_Path.size _) (by decide) (by decide) (fun a _ => api_Path.one a) (by decide) fun k_q1 c_q1 r_q1 ho_q1 => ?_
        refine .step (.as rfl) (by decide) ?_
        refine .nil (.then_n (.exit (.blk_y (by decide) (.then_x (.then_x (.blk_x (.blk_n (.then_n (.region (?_))))))))))
        refine .step (.mv rfl) (by decide) ?_
        refine .step (.add rfl rfl) (by decide) ?_
        refine .step (.as rfl) (by decide) ?_
        refine .nil (.then_n (?_))
        exact .again ⟨fl1, (x7, (IntKind.wrap .i64 (s5_1 + 1))), k_q1, c_q1, r_q1⟩ ⟨H, ho_q1⟩ (Nat.lt_succ_self _) (.cons _ (.cons _ (.cons _ (.refl _)))) (.cons rfl (.cons rfl (.cons rfl .nil)))
      · replace H := cond_f hc3 H
        refine .skip (.blk_n (.then_n (.region (?_))))
        refine .step (.mv rfl) (by decide) ?_
        refine .step (.add rfl rfl) (by decide) ?_
        refine .step (.as rfl) (by decide) ?_
        refine .nil (.then_n (?_))
        exact .again ⟨fl2, (IntKind.wrap .i64 (s9_2 + 1))⟩ H (Nat.lt_succ_self _) (.cons _ (.refl _)) (.cons rfl (.cons rfl (.cons rfl (.cons rfl (.cons rfl .nil)))))
    · replace H := cond_f hc2 H
      refine .exit (.then_x (.then_x (.blk_x (.blk_n (.then_n (.region (?_)))))))
      refine .step (.mv rfl) (by decide) ?_
      refine .step (.add rfl rfl) (by decide) ?_
      refine .step (.as rfl) (by decide) ?_
      refine .nil (.then_n (?_))
      exact .again ⟨fl1, (l_n3_1, (IntKind.wrap .i64 (s5_1 + 1))), k_n3_1, c_n3_1, r_n3_1⟩ ⟨H, ho_n3_1⟩ (Nat.lt_succ_self _) (.cons _ (.refl _)) (.cons rfl (.cons rfl (.cons rfl .nil)))
  · replace H := cond_f hc1 H
    refine .exit (.then_x (.then_x (.blk_x (.then_n (.seq (.region (?_)))))))
    refine .step (.mv rfl) (by decide) ?_
    refine .step (.as rfl) (by decide) ?_
    cases H
    exact .nil (.then_n (.ret (.ret1 [_] (.cons_cons _ (.cons _ (.slnil))) rfl rfl ⟨k_n3_1, c_n3_1, r_n3_1, rfl, rfl, ho_n3_1⟩)))

def F_tear_First_L1 (a1 : Idn) (x1 : List api_Entry) (again1 : (Int) → Option (api_Entry × Bool)) (st : Int) : Option (api_Entry × Bool) :=
  (fun s14_1 => cond (decide (s14_1 < (((x1).length : Nat) : Int))) ((ixL x1 s14_1).bind fun x2 => (F_table_Other x2).bind fun x3 => cond (decide ((Idn.cmp x3.1 a1) = 0)) (some (x2, true)) (again1 (IntKind.wrap .i64 (s14_1 + 1)))) (some ((api_Entry.mk (api_Path.mk Idn.zero 0) Idn.zero Idn.zero 0 0), false))) st
def F_tear_First (a0_most : Int) (a0_m : MS api_Path api_Entry) (a1 : Idn) : Option (api_Entry × Bool) :=
  (F_table_Table_Own a0_most a0_m).bind fun x1 => iter (F_tear_First_L1 a1 x1) FUEL 0
theorem W_tear_First (a0_most : Int) (a0_m : MS api_Path api_Entry) (a1 : Idn) (b_a0 : Nat) (b_a0_m : Nat) (r : api_Entry × Bool) (H : F_tear_First a0_most a0_m a1 = some r) (w : World) (hB_b_a0 : w.heap[b_a0]? = some (.cells (table_Table.enc (table_Table.mk a0_most (.map (some b_a0_m)))) T_table_Table (0, 0))) (hB_b_a0_m : w.heap[b_a0_m]? = some (MS.obj (vA api_Path.enc) (vA api_Entry.enc) a0_m)) :
    Calls PG f_tear_First #[.pointer (some ⟨b_a0, 0, none⟩), .agg (Idn.enc a1)] w (Ret w [] (fun v nm => v = .tuple #[.agg (api_Entry.enc r.1), .bool (r.2)] ∧ nm = [])) := by
  unfold F_tear_First at H
  refine enter0 (n := 31) (args := [.pointer (some ⟨b_a0, 0, none⟩), .agg (Idn.enc a1)]) B_tear_First rfl rfl (by simp) ?_
  refine .seq (.region (?_))
  refine .box rfl rfl (by decide) fun b3 hb3 => ?_
  refine .alloc N_api_Entry rfl (by decide) fun b4 hb4 => ?_
  refine .step (.as rfl) (by decide) ?_
  refine .nil (.then_n (.seq (.seq (.region (?_)))))
  refine .step (.mv rfl) (by decide) ?_
  obtain ⟨x1, hx1, H⟩ := bind_s H
  refine .call0 rfl E_table_Table_Own rfl rfl (fun w hm hf => W_table_Table_Own a0_most a0_m _ _ _ hx1 w (Kn.at (.o hB_b_a0 (by simp)) hm hf) (Kn.at (.o hB_b_a0_m (by simp)) hm hf)) (by decide) fun v nm hR => ?_
  obtain ⟨k_o_12, c_o_12, r_o_12, rfl, rfl, ho_o_12⟩ := hR
  refine .step (.len L_sl_api_Entry rfl) (by decide) ?_
  refine .step (.mv rfl) (by decide) ?_
  refine .nil (.then_n (.block (.loop (G := Nat × (Int)) (fun g => iter (F_tear_First_L1 a1 x1) g.1 g.2 = some r) (fun g => [(k_o_12, .cells (catA ((x1).map api_Entry.enc) ++ r_o_12) T_api_Entry (0, 0)), (some b4, .cells (api_Entry.enc (api_Entry.mk (api_Path.mk Idn.zero 0) Idn.zero Idn.zero 0 0)) T_api_Entry (0, 0)), (some b3, .cells (Idn.enc a1) T_api_ID (0, 0))]) (fun g => [(3, .pointer (some ⟨b3, 0, none⟩)), (4, .pointer (some ⟨b4, 0, none⟩)), (12, slv k_o_12 (x1).length c_o_12), (13, .int .i64 ((((x1).length : Nat) : Int))), (14, .int .i64 (g.2))]) (fun g => g.1) ⟨FUEL, 0⟩ H (.refl _) (.cons rfl (.cons rfl (.cons rfl (.cons rfl (.cons rfl .nil))))) ?_)))
  rintro ⟨_ | fl1, s14_1⟩ H
  · exact (iter_0 H).elim
  replace H := iter_s H; rw [F_tear_First_L1] at H; dsimp only at H ⊢
  refine .seq (.region (?_))
  refine .step (.lss rfl rfl) (by decide) ?_
  refine .nil (.then_n (.seq (.cond rfl (fun hc1 => ?_) (fun hc1 => ?_))))
  · replace H := cond_t hc1 H
    refine .skip (.then_n (.seq (.block (.seq (.region (?_))))))
    obtain ⟨x2, hx2, H⟩ := bind_s H
    refine .step (.ixP (.own 0 api_Entry.size rfl ho_o_12) hx2 rfl rfl L_sl_api_Entry Z_api_Entry) (by decide) ?_
    refine .step (.ldP (.own 0 api_Entry.size rfl ho_o_12) hx2 rfl A_api_Entry Z_api_Entry) (by decide) ?_
    refine .alloc N_api_Entry rfl (by decide) fun b7 hb7 => ?_
    refine .storeA 0 rfl rfl rfl rfl Z_api_Entry (api_Entry.size _) (api_Entry.one _) (api_Entry.size _) ?_
    refine .nil (.then_n (.seq (.region (?_))))
    refine .step (.ldA rfl (.i 0 rfl) A_api_Entry Z_api_Entry (api_Entry.size _)) (by decide) ?_
    obtain ⟨x3, hx3, H⟩ := bind_s H
    refine .callQ (v := .tuple #[.agg (Idn.enc x3.1), .int .i64 (x3.2.1), .bool (x3.2.2)]) rfl E_table_Other rfl rfl (fun w hm hf => W_table_Other x2  _ hx3 w ) (by decide) ?_
    refine .step (.mv rfl) (by decide) ?_
    refine .step (.xt rfl rfl) (by decide) ?_
    refine .step (.xt rfl rfl) (by decide) ?_
    refine .step (.xt rfl rfl) (by decide) ?_
    refine .alloc N_api_ID rfl (by decide) fun b8 hb8 => ?_
    refine .storeA 0 rfl rfl rfl rfl Z_api_ID (Idn.size _) (Idn.one _) (Idn.size _) ?_
    refine .step (.as rfl) (by decide) ?_
    refine .step (.as rfl) (by decide) ?_
    refine .nil (.then_n (.seq (.region (?_))))
    refine .step (.ldA rfl (.i 0 rfl) A_api_ID Z_api_ID (Idn.size _)) (by decide) ?_
    refine .step (.ldA rfl (.i 4 rfl) A_api_ID Z_api_ID (Idn.size _)) (by decide) ?_
    refine .callQ (v := .int .i64 ((Idn.cmp x3.1 a1))) rfl E_ident_Compare rfl rfl (fun w hm hf => ident_Compare x3.1 a1 w) (by decide) ?_
    refine .step (.eql rfl rfl) (by decide) ?_
    refine .nil (.then_n (.cond rfl (fun hc2 => ?_) (fun hc2 => ?_)))
    · replace H := cond_t hc2 H
      refine .seq (.region (?_))
      refine .step (.ldA rfl (.i 1 rfl) A_api_Entry Z_api_Entry (api_Entry.size _)) (by decide) ?_
      refine .storeA 3 rfl rfl rfl rfl Z_api_Entry (api_Entry.size _) (api_Entry.one _) (api_Entry.size _) ?_
      refine .step (.as rfl) (by decide) ?_
      cases H
      exact .nil (.then_n (.ret (.blk_r (.then_r (.then_r (.blk_r (.then_r (.retR2 [] (by simp) rfl (.ce rfl (.i 3 rfl) A_api_Entry Z_api_Entry (api_Entry.size _)) (.tm rfl) ⟨rfl, rfl⟩))))))))
    · replace H := cond_f hc2 H
      refine .skip (.blk_n (.then_n (.region (?_))))
      refine .step (.add rfl rfl) (by decide) ?_
      refine .step (.mv rfl) (by decide) ?_
      refine .nil (.then_n (?_))
      exact .again ⟨fl1, (IntKind.wrap .i64 (s14_1 + 1))⟩ H (Nat.lt_succ_self _) (.cons _ (.cons _ (.refl _))) (.cons rfl (.cons rfl (.cons rfl (.cons rfl (.cons rfl .nil)))))
  · replace H := cond_f hc1 H
    refine .exit (.then_x (.then_x (.blk_x (.then_n (.seq (.region (?_)))))))
    refine .step (.bdS rfl N_api_Entry rfl W_api_Entry (.nil)) (by decide) ?_
    refine .storeA 1 rfl rfl rfl rfl Z_api_Entry (api_Entry.size _) (api_Entry.one _) (api_Entry.size _) ?_
    refine .step (.as rfl) (by decide) ?_
    cases H
    exact .nil (.then_n (.ret (.retR2 [] (by simp) rfl (.ce rfl (.i 1 rfl) A_api_Entry Z_api_Entry (api_Entry.size _)) (.tm rfl) ⟨rfl, rfl⟩)))

def F_annuletref15_First_L1 (a1 : Idn) (x1 : List api_Entry) (again1 : (Int) → Option (api_Entry × Bool)) (st : Int) : Option (api_Entry × Bool) :=
  (fun s7_1 => cond (decide (s7_1 < (((x1).length : Nat) : Int))) ((ixL x1 s7_1).bind fun x2 => (F_annuletref12_Other x2).bind fun x3 => cond (decide (x3.1 = a1)) ((ixL x1 s7_1).bind fun x4 => some (x4, true)) (again1 (IntKind.wrap .i64 (s7_1 + 1)))) (some ((api_Entry.mk (api_Path.mk Idn.zero 0) Idn.zero Idn.zero 0 0), false))) st
def F_annuletref15_First (a0_L : List api_Entry) (a0_Most : Int) (a1 : Idn) : Option (api_Entry × Bool) :=
  (F_annuletref12_Table_Own a0_L a0_Most).bind fun x1 => iter (F_annuletref15_First_L1 a1 x1) FUEL 0
theorem W_annuletref15_First (a0_L : List api_Entry) (a0_Most : Int) (a1 : Idn) (b_a0 : Nat) (p_a0_L : Option Addr) (c_a0_L : Nat) (r : api_Entry × Bool) (H : F_annuletref15_First a0_L a0_Most a1 = some r) (w : World) (hB_b_a0 : w.heap[b_a0]? = some (.cells (annuletref12_Table.enc (annuletref12_Table.mk (Slv.mk p_a0_L (a0_L).length c_a0_L) a0_Most)) T_annuletref12_Table (0, 0))) (hR_a0_L : Ro api_Entry.enc 51 w p_a0_L a0_L c_a0_L) :
    Calls PG f_annuletref15_First #[.pointer (some ⟨b_a0, 0, none⟩), .agg (Idn.enc a1)] w (Ret w [] (fun v nm => v = .tuple #[.agg (api_Entry.enc r.1), .bool (r.2)] ∧ nm = [])) := by
  unfold F_annuletref15_First at H
  refine enter0 (n := 36) (args := [.pointer (some ⟨b_a0, 0, none⟩), .agg (Idn.enc a1)]) B_annuletref15_First rfl rfl (by simp) ?_
  refine .seq (.region (?_))
  refine .box rfl rfl (by decide) fun b3 hb3 => ?_
  refine .alloc N_api_Entry rfl (by decide) fun b4 hb4 => ?_
  refine .step (.as rfl) (by decide) ?_
  refine .nil (.then_n (.seq (.region (?_))))
  refine .step (.mv rfl) (by decide) ?_
  obtain ⟨x1, hx1, H⟩ := bind_s H
  refine .call0 rfl E_annuletref12_Table_Own rfl rfl (fun w hm hf => W_annuletref12_Table_Own a0_L a0_Most _ _ _ _ hx1 w (Kn.at (.o hB_b_a0 (by simp)) hm hf) (RoK.at ((RoK.par hR_a0_L)) hm hf)) (by decide) fun v nm hR => ?_
  obtain ⟨k_o_12, c_o_12, r_o_12, rfl, rfl, ho_o_12⟩ := hR
  refine .step (.as rfl) (by decide) ?_
  refine .nil (.then_n (.seq (.seq (.region (?_)))))
  refine .step (.as rfl) (by decide) ?_
  refine .nil (.then_n (.block (.loop (G := Nat × (Int)) (fun g => iter (F_annuletref15_First_L1 a1 x1) g.1 g.2 = some r) (fun g => [(k_o_12, .cells (catA ((x1).map api_Entry.enc) ++ r_o_12) T_api_Entry (0, 0)), (some b4, .cells (api_Entry.enc (api_Entry.mk (api_Path.mk Idn.zero 0) Idn.zero Idn.zero 0 0)) T_api_Entry (0, 0)), (some b3, .cells (Idn.enc a1) T_api_ID (0, 0))]) (fun g => [(3, .pointer (some ⟨b3, 0, none⟩)), (4, .pointer (some ⟨b4, 0, none⟩)), (6, slv k_o_12 (x1).length c_o_12), (7, .int .i64 (g.2))]) (fun g => g.1) ⟨FUEL, 0⟩ H (.refl _) (.cons rfl (.cons rfl (.cons rfl (.cons rfl .nil)))) ?_)))
  rintro ⟨_ | fl1, s7_1⟩ H
  · exact (iter_0 H).elim
  replace H := iter_s H; rw [F_annuletref15_First_L1] at H; dsimp only at H ⊢
  refine .seq (.seq (.region (?_)))
  refine .step (.mv rfl) (by decide) ?_
  refine .step (.mv rfl) (by decide) ?_
  refine .step (.len L_sl_api_Entry rfl) (by decide) ?_
  refine .step (.lss rfl rfl) (by decide) ?_
  refine .nil (.then_n (.cond rfl (fun hc1 => ?_) (fun hc1 => ?_)))
  · replace H := cond_t hc1 H
    refine .skip (.then_n (.seq (.block (.seq (.region (?_))))))
    refine .step (.mv rfl) (by decide) ?_
    refine .step (.mv rfl) (by decide) ?_
    obtain ⟨x2, hx2, H⟩ := bind_s H
    refine .step (.ixP (.own 0 api_Entry.size rfl ho_o_12) hx2 rfl rfl L_sl_api_Entry Z_api_Entry) (by decide) ?_
    refine .step (.ldP (.own 0 api_Entry.size rfl ho_o_12) hx2 rfl A_api_Entry Z_api_Entry) (by decide) ?_
    obtain ⟨x3, hx3, H⟩ := bind_s H
    refine .callQ (v := .tuple #[.agg (Idn.enc x3.1), .int .i64 (x3.2.1), .bool (x3.2.2)]) rfl E_annuletref12_Other rfl rfl (fun w hm hf => W_annuletref12_Other x2  _ hx3 w ) (by decide) ?_
    refine .step (.mv rfl) (by decide) ?_
    refine .step (.xt rfl rfl) (by decide) ?_
    refine .step (.xt rfl rfl) (by decide) ?_
    refine .step (.xt rfl rfl) (by decide) ?_
    refine .alloc N_api_ID rfl (by decide) fun b8 hb8 => ?_
    refine .storeA 0 rfl rfl rfl rfl Z_api_ID (Idn.size _) (Idn.one _) (Idn.size _) ?_
    refine .step (.as rfl) (by decide) ?_
    refine .step (.as rfl) (by decide) ?_
    refine .nil (.then_n (.seq (.region (?_))))
    refine .step (.ldA rfl (.i 0 rfl) A_api_ID Z_api_ID (Idn.size _)) (by decide) ?_
    refine .step (.ldA rfl (.i 3 rfl) A_api_ID Z_api_ID (Idn.size _)) (by decide) ?_
    refine .step (.eqA (EQ_api_ID _ _) G_api_ID rfl rfl (by decide)) (by decide) ?_
    refine .nil (.then_n (.cond rfl (fun hc2 => ?_) (fun hc2 => ?_)))
    · replace H := cond_t hc2 H
      refine .seq (.region (?_))
      refine .step (.mv rfl) (by decide) ?_
      refine .step (.mv rfl) (by decide) ?_
      obtain ⟨x4, hx4, H⟩ := bind_s H
      refine .step (.ixP (.own 1 api_Entry.size rfl ho_o_12) hx4 rfl rfl L_sl_api_Entry Z_api_Entry) (by decide) ?_
      refine .step (.ldP (.own 1 api_Entry.size rfl ho_o_12) hx4 rfl A_api_Entry Z_api_Entry) (by decide) ?_
      refine .storeA 2 rfl rfl rfl rfl Z_api_Entry (api_Entry.size _) (api_Entry.one _) (api_Entry.size _) ?_
      refine .step (.as rfl) (by decide) ?_
      cases H
      exact .nil (.then_n (.ret (.blk_r (.then_r (.then_r (.blk_r (.then_r (.retR2 [] (by simp) rfl (.ce rfl (.i 2 rfl) A_api_Entry Z_api_Entry (api_Entry.size _)) (.tm rfl) ⟨rfl, rfl⟩))))))))
    · replace H := cond_f hc2 H
      refine .skip (.blk_n (.then_n (.region (?_))))
      refine .step (.mv rfl) (by decide) ?_
      refine .step (.add rfl rfl) (by decide) ?_
      refine .step (.as rfl) (by decide) ?_
      refine .nil (.then_n (?_))
      exact .again ⟨fl1, (IntKind.wrap .i64 (s7_1 + 1))⟩ H (Nat.lt_succ_self _) (.cons _ (.refl _)) (.cons rfl (.cons rfl (.cons rfl (.cons rfl .nil))))
  · replace H := cond_f hc1 H
    refine .exit (.then_x (.then_x (.blk_x (.then_n (.seq (.region (?_)))))))
    refine .step (.bdS rfl N_api_Entry rfl W_api_Entry (.nil)) (by decide) ?_
    refine .storeA 1 rfl rfl rfl rfl Z_api_Entry (api_Entry.size _) (api_Entry.one _) (api_Entry.size _) ?_
    refine .step (.as rfl) (by decide) ?_
    cases H
    exact .nil (.then_n (.ret (.retR2 [] (by simp) rfl (.ce rfl (.i 1 rfl) A_api_Entry Z_api_Entry (api_Entry.size _)) (.tm rfl) ⟨rfl, rfl⟩)))

def F_annuletref01_SameIDs_L1 (a0 : List Idn) (a1 : List Idn) (again1 : (Int) → Option (Bool)) (st : Int) : Option (Bool) :=
  (fun s5_1 => cond (decide (s5_1 < (((a0).length : Nat) : Int))) ((ixL a0 s5_1).bind fun x1 => (ixL a1 s5_1).bind fun x2 => cond (!decide (x1 = x2)) (some false) (again1 (IntKind.wrap .i64 (s5_1 + 1)))) (some true)) st
def F_annuletref01_SameIDs (a0 : List Idn) (a1 : List Idn) : Option (Bool) :=
  cond (!decide ((((a0).length : Nat) : Int) = (((a1).length : Nat) : Int))) (some false) (iter (F_annuletref01_SameIDs_L1 a0 a1) FUEL 0)
theorem W_annuletref01_SameIDs (a0 : List Idn) (a1 : List Idn) (p_a0 : Option Addr) (c_a0 : Nat) (p_a1 : Option Addr) (c_a1 : Nat) (r : Bool) (H : F_annuletref01_SameIDs a0 a1 = some r) (w : World) (hR_a0 : Ro Idn.enc 16 w p_a0 a0 c_a0) (hR_a1 : Ro Idn.enc 16 w p_a1 a1 c_a1) :
    Calls PG f_annuletref01_SameIDs #[.slice p_a0 (a0).length c_a0, .slice p_a1 (a1).length c_a1] w (Ret w [] (fun v nm => v = .bool (r) ∧ nm = [])) := by
  unfold F_annuletref01_SameIDs at H
  refine enter0 (n := 26) (args := [.slice p_a0 (a0).length c_a0, .slice p_a1 (a1).length c_a1]) B_annuletref01_SameIDs rfl rfl (by simp) ?_
  refine .seq (.region (?_))
  refine .step (.as rfl) (by decide) ?_
  refine .nil (.then_n (.seq (.seq (.region (?_)))))
  refine .step (.mv rfl) (by decide) ?_
  refine .step (.len L_sl_api_ID rfl) (by decide) ?_
  refine .step (.mv rfl) (by decide) ?_
  refine .step (.len L_sl_api_ID rfl) (by decide) ?_
  refine .step (.neq rfl rfl) (by decide) ?_
  refine .nil (.then_n (.cond rfl (fun hc1 => ?_) (fun hc1 => ?_)))
  · replace H := cond_t hc1 H
    refine .seq (.region (?_))
    refine .step (.as rfl) (by decide) ?_
    cases H
    exact .nil (.then_n (.ret (.then_r (.ret1 [] (by simp) rfl rfl ⟨rfl, rfl⟩))))
  · replace H := cond_f hc1 H
    refine .skip (.then_n (.seq (.seq (.region (?_)))))
    refine .step (.as rfl) (by decide) ?_
    refine .nil (.then_n (.block (.loop (G := Nat × (Int)) (fun g => iter (F_annuletref01_SameIDs_L1 a0 a1) g.1 g.2 = some r) (fun g => []) (fun g => [(0, .slice p_a0 (a0).length c_a0), (1, .slice p_a1 (a1).length c_a1), (5, .int .i64 (g.2))]) (fun g => g.1) ⟨FUEL, 0⟩ H (.refl _) (.cons rfl (.cons rfl (.cons rfl .nil))) ?_)))
    rintro ⟨_ | fl1, s5_1⟩ H
    · exact (iter_0 H).elim
    replace H := iter_s H; rw [F_annuletref01_SameIDs_L1] at H; dsimp only at H ⊢
    refine .seq (.seq (.region (?_)))
    refine .step (.mv rfl) (by decide) ?_
    refine .step (.mv rfl) (by decide) ?_
    refine .step (.len L_sl_api_ID rfl) (by decide) ?_
    refine .step (.lss rfl rfl) (by decide) ?_
    refine .nil (.then_n (.cond rfl (fun hc2 => ?_) (fun hc2 => ?_)))
    · replace H := cond_t hc2 H
      refine .skip (.then_n (.seq (.block (.seq (.drawsI [] rfl rfl ?_)))))
      refine .first [0, 1, 2, 3, 4, 5, 6, 7, 8] 0 rfl (by kernel_rfl) (by kernel_rfl) ?_
      refine .s_step rfl rfl rfl (.mv rfl) (by decide) ?_
      refine .s_step rfl rfl rfl (.mv rfl) (by decide) ?_
      obtain ⟨x1, hx1, H⟩ := bind_s H
      refine .s_step rfl rfl rfl (.ixP (.par hR_a0) hx1 rfl rfl L_sl_api_ID Z_api_ID) (by decide) ?_
      refine .s_step rfl rfl rfl (.ldP (.par hR_a0) hx1 rfl A_api_ID Z_api_ID) (by decide) ?_
      refine .s_step rfl rfl rfl (.mv rfl) (by decide) ?_
      refine .s_step rfl rfl rfl (.mv rfl) (by decide) ?_
      obtain ⟨x2, hx2, H⟩ := bind_s H
      refine .s_step rfl rfl rfl (.ixP (.par hR_a1) hx2 rfl rfl L_sl_api_ID Z_api_ID) (by decide) ?_
      refine .s_step rfl rfl rfl (.ldP (.par hR_a1) hx2 rfl A_api_ID Z_api_ID) (by decide) ?_
      refine .s_step rfl rfl rfl (.neA (EQ_api_ID _ _) G_api_ID rfl rfl (by decide)) (by decide) ?_
      refine .s_nil ?_
      refine .done (.refl _) (by kernel_rfl) ?_
      refine .then_n (.cond rfl (fun hc3 => ?_) (fun hc3 => ?_))
      · replace H := cond_t hc3 H
        refine .seq (.region (?_))
        refine .step (.as rfl) (by decide) ?_
        cases H
        exact .nil (.then_n (.ret (.blk_r (.then_r (.then_r (.blk_r (.then_r (.ret1 [] (by simp) rfl rfl ⟨rfl, rfl⟩))))))))
      · replace H := cond_f hc3 H
        refine .skip (.blk_n (.then_n (.region (?_))))
        refine .step (.mv rfl) (by decide) ?_
        refine .step (.add rfl rfl) (by decide) ?_
        refine .step (.as rfl) (by decide) ?_
        refine .nil (.then_n (?_))
        exact .again ⟨fl1, (IntKind.wrap .i64 (s5_1 + 1))⟩ H (Nat.lt_succ_self _) (.refl _) (.cons rfl (.cons rfl (.cons rfl .nil)))
    · replace H := cond_f hc2 H
      refine .exit (.then_x (.then_x (.blk_x (.then_n (.seq (.region (?_)))))))
      refine .step (.as rfl) (by decide) ?_
      cases H
      exact .nil (.then_n (.ret (.ret1 [] (by simp) rfl rfl ⟨rfl, rfl⟩)))

end Go.Fx
