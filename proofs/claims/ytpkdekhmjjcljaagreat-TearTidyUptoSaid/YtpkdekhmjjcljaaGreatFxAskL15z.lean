/- TearTidy and TearAsks, walked. -/
import Derived.Test.YtpkdekhmjjcljaaGreatFxAsk15z
namespace Go.Fx
set_option maxRecDepth 10000
def F_annuletlaw15_TearTidy_L3 (a1 : Idn) (a2 : Int) (again3 : (Int × MS api_Path api_Entry × Int) → Option (Bool)) (st : Int × MS api_Path api_Entry × Int) : Option (Bool) :=
  match st with | (v_b_20_0_most_3, m_b_20_0_m_3, s61_3) => cond (decide (s61_3 < 130)) ((F_tear_Spare v_b_20_0_most_3 m_b_20_0_m_3 a1 a2).bind fun x10 => cond (decide ((((x10).length : Nat) : Int) = 0)) ((F_tear_Friends v_b_20_0_most_3 m_b_20_0_m_3 a1).bind fun x11 => (F_tear_Spare v_b_20_0_most_3 m_b_20_0_m_3 a1 a2).bind fun x12 => cond (decide ((((x12).length : Nat) : Int) = 0)) ((F_tear_Twins v_b_20_0_most_3 m_b_20_0_m_3).bind fun x13 => cond (decide ((((x13).length : Nat) : Int) = 0)) ((F_table_Table_Own v_b_20_0_most_3 m_b_20_0_m_3).bind fun x14 => cond (decide ((((x14).length : Nat) : Int) = (((x11).length : Nat) : Int))) ((F_annuletref10_Want a1 x11 a2).bind fun x15 => (F_annuletref01_SameIDs x15 x11).bind fun x16 => some x16) (some false)) (some false)) (some false)) ((ixL x10 0).bind fun x17 => (F_tear_End v_b_20_0_most_3 m_b_20_0_m_3 x17).bind fun x18 => again3 (x18.2.2.1, x18.2.2.2, (IntKind.wrap .i64 (s61_3 + 1))))) ((F_tear_Friends v_b_20_0_most_3 m_b_20_0_m_3 a1).bind fun x19 => (F_tear_Spare v_b_20_0_most_3 m_b_20_0_m_3 a1 a2).bind fun x20 => cond (decide ((((x20).length : Nat) : Int) = 0)) ((F_tear_Twins v_b_20_0_most_3 m_b_20_0_m_3).bind fun x21 => cond (decide ((((x21).length : Nat) : Int) = 0)) ((F_table_Table_Own v_b_20_0_most_3 m_b_20_0_m_3).bind fun x22 => cond (decide ((((x22).length : Nat) : Int) = (((x19).length : Nat) : Int))) ((F_annuletref10_Want a1 x19 a2).bind fun x23 => (F_annuletref01_SameIDs x23 x19).bind fun x24 => some x24) (some false)) (some false)) (some false))
def F_annuletlaw15_TearTidy_L2 (a1 : Idn) (a2 : Int) (x6 : List api_Entry) (again2 : (Int × MS api_Path api_Entry × Int) → Option (Bool)) (st : Int × MS api_Path api_Entry × Int) : Option (Bool) :=
  match st with | (v_b_20_0_most_2, m_b_20_0_m_2, s43_2) => cond (decide (s43_2 < (((x6).length : Nat) : Int))) ((ixL x6 s43_2).bind fun x7 => (F_table_Other x7).bind fun x8 => cond (decide (x8.1 = a1)) ((F_tear_End v_b_20_0_most_2 m_b_20_0_m_2 x7.P).bind fun x9 => again2 (x9.2.2.1, x9.2.2.2, (IntKind.wrap .i64 (s43_2 + 1)))) (again2 (v_b_20_0_most_2, m_b_20_0_m_2, (IntKind.wrap .i64 (s43_2 + 1))))) (iter (F_annuletlaw15_TearTidy_L3 a1 a2) FUEL (v_b_20_0_most_2, m_b_20_0_m_2, 0))
def F_annuletlaw15_TearTidy_L1 (a1 : Idn) (a2 : Int) (x3 : List api_Path) (again1 : (Int × MS api_Path api_Entry × Int) → Option (Bool)) (st : Int × MS api_Path api_Entry × Int) : Option (Bool) :=
  match st with | (v_b_20_0_most_1, m_b_20_0_m_1, s32_1) => cond (decide (s32_1 < (((x3).length : Nat) : Int))) ((ixL x3 s32_1).bind fun x4 => (F_tear_End v_b_20_0_most_1 m_b_20_0_m_1 x4).bind fun x5 => again1 (x5.2.2.1, x5.2.2.2, (IntKind.wrap .i64 (s32_1 + 1)))) ((F_table_Table_Own v_b_20_0_most_1 m_b_20_0_m_1).bind fun x6 => iter (F_annuletlaw15_TearTidy_L2 a1 a2 x6) FUEL (v_b_20_0_most_1, m_b_20_0_m_1, 0))
def F_annuletlaw15_TearTidy (a0 : List api_Entry) (a1 : Idn) (a2 : Int) : Option (Bool) :=
  (F_annuletlaw15_laid a0).bind fun x1 => (F_annuletlaw15_fixed ).bind fun x2 => cond (!x2) (some false) ((F_tear_Twins x1.1 x1.2.1).bind fun x3 => iter (F_annuletlaw15_TearTidy_L1 a1 a2 x3) FUEL (x1.1, x1.2.1, 0))
theorem W_annuletlaw15_TearTidy (a0 : List api_Entry) (a1 : Idn) (a2 : Int) (p_a0 : Option Addr) (c_a0 : Nat) (r : Bool) (H : F_annuletlaw15_TearTidy a0 a1 a2 = some r) (w : World) (hR_a0 : Ro api_Entry.enc 51 w p_a0 a0 c_a0) :
    Calls PG f_annuletlaw15_TearTidy #[.slice p_a0 (a0).length c_a0, .agg (Idn.enc a1), .int .i64 (a2)] w (Ret w [] (fun v nm => v = .bool (r) ∧ nm = [])) := by
  unfold F_annuletlaw15_TearTidy at H
  refine enter0 (n := 107) (args := [.slice p_a0 (a0).length c_a0, .agg (Idn.enc a1), .int .i64 (a2)]) B_annuletlaw15_TearTidy rfl rfl (by simp) ?_
  refine .seq (.region (?_))
  refine .box rfl rfl (by decide) fun b4 hb4 => ?_
  refine .step (.as rfl) (by decide) ?_
  refine .nil (.then_n (.seq (.region (?_))))
  refine .step (.mv rfl) (by decide) ?_
  obtain ⟨x1, hx1, H⟩ := bind_s H
  refine .call0 rfl E_annuletlaw15_laid rfl rfl (fun w hm hf => W_annuletlaw15_laid a0 _ _ _ hx1 w (RoK.at ((RoK.par hR_a0)) hm hf)) (by decide) fun v nm hR => ?_
  obtain ⟨b_20_0, b_20_0_m, b_20_1, k_o_20_1_L, c_o_20_1_L, r_o_20_1_L, rfl, rfl, ho_o_20_1_L⟩ := hR
  refine .step (.mv rfl) (by decide) ?_
  refine .step (.xt rfl rfl) (by decide) ?_
  refine .step (.xt rfl rfl) (by decide) ?_
  refine .step (.as rfl) (by decide) ?_
  refine .step (.as rfl) (by decide) ?_
  refine .nil (.then_n (.seq (.seq (.region (?_)))))
  refine .step (.mv rfl) (by decide) ?_
  refine .step (.eqPtr P_pt_table_Table rfl rfl (by simp)) (by decide) ?_
  refine .step (.mv rfl) (by decide) ?_
  refine .gd rfl ?_
  obtain ⟨x2, hx2, H⟩ := bind_s H
  refine .callQ (v := .bool (x2)) rfl E_annuletlaw15_fixed rfl rfl (fun w hm hf => W_annuletlaw15_fixed   _ hx2 w ) (by decide) ?_
  refine .stepg rfl (.not rfl) (by decide) ?_
  refine .step (.pk_f rfl rfl) (by decide) ?_
  refine .nil (.then_n (.cond rfl (fun hc1 => ?_) (fun hc1 => ?_)))
  · replace H := cond_t hc1 H
    refine .seq (.region (?_))
    refine .step (.as rfl) (by decide) ?_
    cases H
    exact .nil (.then_n (.ret (.then_r (.ret1 [] (by simp) rfl rfl ⟨rfl, rfl⟩))))
  · replace H := cond_f hc1 H
    refine .skip (.then_n (.seq (.seq (.region (?_)))))
    refine .step (.mv rfl) (by decide) ?_
    obtain ⟨x3, hx3, H⟩ := bind_s H
    refine .call0 rfl E_tear_Twins rfl rfl (fun w hm hf => W_tear_Twins x1.1 x1.2.1 _ _ _ hx3 w (Kn.at (.i 0 rfl) hm hf) (Kn.at (.i 1 rfl) hm hf)) (by decide) fun v nm hR => ?_
    obtain ⟨k_o_30, c_o_30, r_o_30, rfl, rfl, ho_o_30⟩ := hR
    refine .step (.len L_sl_api_Path rfl) (by decide) ?_
    refine .step (.mv rfl) (by decide) ?_
    refine .nil (.then_n (.block (.loop (G := Nat × (Int × MS api_Path api_Entry × Int)) (fun g => iter (F_annuletlaw15_TearTidy_L1 a1 a2 x3) g.1 g.2 = some r) (fun g => [(k_o_30, .cells (catA ((x3).map api_Path.enc) ++ r_o_30) T_api_Path (0, 0)), (some b_20_0, .cells (table_Table.enc (table_Table.mk g.2.1 (.map (some b_20_0_m)))) T_table_Table (0, 0)), (some b_20_0_m, MS.obj (vA api_Path.enc) (vA api_Entry.enc) g.2.2.1), (some b_20_1, .cells (annuletref12_Table.enc (annuletref12_Table.mk (slS k_o_20_1_L (x1.2.2.1).length c_o_20_1_L) x1.2.2.2)) T_annuletref12_Table (0, 0)), (k_o_20_1_L, .cells (catA ((x1.2.2.1).map api_Entry.enc) ++ r_o_20_1_L) T_api_Entry (0, 0)), (some b4, .cells (Idn.enc a1) T_api_ID (0, 0))]) (fun g => [(2, .int .i64 (a2)), (4, .pointer (some ⟨b4, 0, none⟩)), (7, .pointer (some ⟨b_20_0, 0, none⟩)), (30, slv k_o_30 (x3).length c_o_30), (31, .int .i64 ((((x3).length : Nat) : Int))), (32, .int .i64 (g.2.2.2))]) (fun g => g.1) ⟨FUEL, (x1.1, x1.2.1, 0)⟩ H (.refl _) (.cons rfl (.cons rfl (.cons rfl (.cons rfl (.cons rfl (.cons rfl .nil)))))) ?_)))
    rintro ⟨_ | fl1, ⟨v_b_20_0_most_1, m_b_20_0_m_1, s32_1⟩⟩ H
    · exact (iter_0 H).elim
    replace H := iter_s H; rw [F_annuletlaw15_TearTidy_L1] at H; dsimp only at H ⊢
    refine .seq (.region (?_))
    refine .step (.lss rfl rfl) (by decide) ?_
    refine .nil (.then_n (.seq (.cond rfl (fun hc2 => ?_) (fun hc2 => ?_))))
    · replace H := cond_t hc2 H
      refine .skip (.then_n (.seq (.block (.seq (.region (?_))))))
      obtain ⟨x4, hx4, H⟩ := bind_s H
      refine .step (.ixP (.own 0 api_Path.size rfl ho_o_30) hx4 rfl rfl L_sl_api_Path Z_api_Path) (by decide) ?_
      refine .step (.ldP (.own 0 api_Path.size rfl ho_o_30) hx4 rfl A_api_Path Z_api_Path) (by decide) ?_
      refine .alloc N_api_Path rfl (by decide) fun b10 hb10 => ?_
      refine .storeA 0 rfl rfl rfl rfl Z_api_Path (api_Path.size _) (api_Path.one _) (api_Path.size _) ?_
      refine .nil (.then_n (.region (?_)))
      refine .step (.mv rfl) (by decide) ?_
      refine .step (.ldA rfl (.i 0 rfl) A_api_Path Z_api_Path (api_Path.size _)) (by decide) ?_
      obtain ⟨x5, hx5, H⟩ := bind_s H
      refine .sel [2, 3, 0, 1, 4, 5, 6] (by decide) rfl ?_
      refine .callM (dst := some 38) 2 rfl E_tear_End rfl rfl (fun w hh => W_tear_End v_b_20_0_most_1 m_b_20_0_m_1 x4 _ _ _ hx5 w hh.pk hh.pa ) (fun d hd => by cases hd; decide) fun v nm hR => ?_
      obtain ⟨k_o_38_Out, c_o_38_Out, r_o_38_Out, k_o_38_Lost, c_o_38_Lost, r_o_38_Lost, rfl, rfl, ho_o_38_Out, ho_o_38_Lost⟩ := hR
      refine .nil (.blk_n (.then_n (.region (?_))))
      refine .step (.add rfl rfl) (by decide) ?_
      refine .step (.mv rfl) (by decide) ?_
      refine .nil (.then_n (?_))
      refine .sel [5, 2, 3, 6, 7, 8] (by decide) rfl ?_
      exact .again ⟨fl1, (x5.2.2.1, x5.2.2.2, (IntKind.wrap .i64 (s32_1 + 1)))⟩ H (Nat.lt_succ_self _) (.refl _) (.cons rfl (.cons rfl (.cons rfl (.cons rfl (.cons rfl (.cons rfl .nil))))))
    · replace H := cond_f hc2 H
      refine .exit (.then_x (.then_x (.blk_x (.then_n (.seq (.seq (.region (?_))))))))
      refine .step (.mv rfl) (by decide) ?_
      obtain ⟨x6, hx6, H⟩ := bind_s H
      refine .call0 rfl E_table_Table_Own rfl rfl (fun w hm hf => W_table_Table_Own v_b_20_0_most_1 m_b_20_0_m_1 _ _ _ hx6 w (Kn.at (.i 1 rfl) hm hf) (Kn.at (.i 2 rfl) hm hf)) (by decide) fun v nm hR => ?_
      obtain ⟨k_o_41, c_o_41, r_o_41, rfl, rfl, ho_o_41⟩ := hR
      refine .step (.len L_sl_api_Entry rfl) (by decide) ?_
      refine .step (.mv rfl) (by decide) ?_
      refine .nil (.then_n (.block (.loop (G := Nat × (Int × MS api_Path api_Entry × Int)) (fun g => iter (F_annuletlaw15_TearTidy_L2 a1 a2 x6) g.1 g.2 = some r) (fun g => [(k_o_41, .cells (catA ((x6).map api_Entry.enc) ++ r_o_41) T_api_Entry (0, 0)), (k_o_30, .cells (catA ((x3).map api_Path.enc) ++ r_o_30) T_api_Path (0, 0)), (some b_20_0, .cells (table_Table.enc (table_Table.mk g.2.1 (.map (some b_20_0_m)))) T_table_Table (0, 0)), (some b_20_0_m, MS.obj (vA api_Path.enc) (vA api_Entry.enc) g.2.2.1), (some b_20_1, .cells (annuletref12_Table.enc (annuletref12_Table.mk (slS k_o_20_1_L (x1.2.2.1).length c_o_20_1_L) x1.2.2.2)) T_annuletref12_Table (0, 0)), (k_o_20_1_L, .cells (catA ((x1.2.2.1).map api_Entry.enc) ++ r_o_20_1_L) T_api_Entry (0, 0)), (some b4, .cells (Idn.enc a1) T_api_ID (0, 0))]) (fun g => [(2, .int .i64 (a2)), (4, .pointer (some ⟨b4, 0, none⟩)), (7, .pointer (some ⟨b_20_0, 0, none⟩)), (41, slv k_o_41 (x6).length c_o_41), (42, .int .i64 ((((x6).length : Nat) : Int))), (43, .int .i64 (g.2.2.2))]) (fun g => g.1) ⟨FUEL, (v_b_20_0_most_1, m_b_20_0_m_1, 0)⟩ H (.refl _) (.cons rfl (.cons rfl (.cons rfl (.cons rfl (.cons rfl (.cons rfl .nil)))))) ?_)))
      rintro ⟨_ | fl2, ⟨v_b_20_0_most_2, m_b_20_0_m_2, s43_2⟩⟩ H
      · exact (iter_0 H).elim
      replace H := iter_s H; rw [F_annuletlaw15_TearTidy_L2] at H; dsimp only at H ⊢
      refine .seq (.region (?_))
      refine .step (.lss rfl rfl) (by decide) ?_
      refine .nil (.then_n (.seq (.cond rfl (fun hc3 => ?_) (fun hc3 => ?_))))
      · replace H := cond_t hc3 H
        refine .skip (.then_n (.seq (.block (.seq (.region (?_))))))
        obtain ⟨x7, hx7, H⟩ := bind_s H
        refine .step (.ixP (.own 0 api_Entry.size rfl ho_o_41) hx7 rfl rfl L_sl_api_Entry Z_api_Entry) (by decide) ?_
        refine .step (.ldP (.own 0 api_Entry.size rfl ho_o_41) hx7 rfl A_api_Entry Z_api_Entry) (by decide) ?_
        refine .alloc N_api_Entry rfl (by decide) fun b12 hb12 => ?_
        refine .storeA 0 rfl rfl rfl rfl Z_api_Entry (api_Entry.size _) (api_Entry.one _) (api_Entry.size _) ?_
        refine .nil (.then_n (.seq (.region (?_))))
        refine .step (.ldA rfl (.i 0 rfl) A_api_Entry Z_api_Entry (api_Entry.size _)) (by decide) ?_
        obtain ⟨x8, hx8, H⟩ := bind_s H
        refine .callQ (v := .tuple #[.agg (Idn.enc x8.1), .int .i64 (x8.2.1), .bool (x8.2.2)]) rfl E_table_Other rfl rfl (fun w hm hf => W_table_Other x7  _ hx8 w ) (by decide) ?_
        refine .step (.mv rfl) (by decide) ?_
        refine .step (.xt rfl rfl) (by decide) ?_
        refine .step (.xt rfl rfl) (by decide) ?_
        refine .step (.xt rfl rfl) (by decide) ?_
        refine .alloc N_api_ID rfl (by decide) fun b13 hb13 => ?_
        refine .storeA 0 rfl rfl rfl rfl Z_api_ID (Idn.size _) (Idn.one _) (Idn.size _) ?_
        refine .step (.as rfl) (by decide) ?_
        refine .step (.as rfl) (by decide) ?_
        refine .nil (.then_n (.seq (.region (?_))))
        refine .step (.ldA rfl (.i 0 rfl) A_api_ID Z_api_ID (Idn.size _)) (by decide) ?_
        refine .step (.ldA rfl (.i 8 rfl) A_api_ID Z_api_ID (Idn.size _)) (by decide) ?_
        refine .step (.eqA (EQ_api_ID _ _) G_api_ID rfl rfl (by decide)) (by decide) ?_
        refine .nil (.then_n (.cond rfl (fun hc4 => ?_) (fun hc4 => ?_)))
        · replace H := cond_t hc4 H
          refine .region (?_)
          refine .step (.mv rfl) (by decide) ?_
          refine .step (.fa rfl F_api_Entry_P Z_api_Path) (by decide) ?_
          refine .step (.lds rfl (.i 1 rfl) A_api_Path Z_api_Path (api_Entry.s_P _)) (by decide) ?_
          obtain ⟨x9, hx9, H⟩ := bind_s H
          refine .sel [4, 5, 0, 1, 2, 3, 6, 7, 8] (by decide) rfl ?_
          refine .callM (dst := some 59) 2 rfl E_tear_End rfl rfl (fun w hh => W_tear_End v_b_20_0_most_2 m_b_20_0_m_2 x7.P _ _ _ hx9 w hh.pk hh.pa ) (fun d hd => by cases hd; decide) fun v nm hR => ?_
          obtain ⟨k_o_59_Out, c_o_59_Out, r_o_59_Out, k_o_59_Lost, c_o_59_Lost, r_o_59_Lost, rfl, rfl, ho_o_59_Out, ho_o_59_Lost⟩ := hR
          refine .nil (.blk_n (.then_n (.region (?_))))
          refine .step (.add rfl rfl) (by decide) ?_
          refine .step (.mv rfl) (by decide) ?_
          refine .nil (.then_n (?_))
          refine .sel [6, 7, 2, 3, 8, 9, 10] (by decide) rfl ?_
          exact .again ⟨fl2, (x9.2.2.1, x9.2.2.2, (IntKind.wrap .i64 (s43_2 + 1)))⟩ H (Nat.lt_succ_self _) (.refl _) (.cons rfl (.cons rfl (.cons rfl (.cons rfl (.cons rfl (.cons rfl .nil))))))
        · replace H := cond_f hc4 H
          refine .skip (.blk_n (.then_n (.region (?_))))
          refine .step (.add rfl rfl) (by decide) ?_
          refine .step (.mv rfl) (by decide) ?_
          refine .nil (.then_n (?_))
          exact .again ⟨fl2, (v_b_20_0_most_2, m_b_20_0_m_2, (IntKind.wrap .i64 (s43_2 + 1)))⟩ H (Nat.lt_succ_self _) (.cons _ (.cons _ (.refl _))) (.cons rfl (.cons rfl (.cons rfl (.cons rfl (.cons rfl (.cons rfl .nil))))))
      · replace H := cond_f hc3 H
        refine .exit (.then_x (.then_x (.blk_x (.then_n (.seq (.seq (.region (?_))))))))
        refine .step (.mv rfl) (by decide) ?_
        refine .nil (.then_n (.block (.loop (G := Nat × (Int × MS api_Path api_Entry × Int)) (fun g => iter (F_annuletlaw15_TearTidy_L3 a1 a2) g.1 g.2 = some r) (fun g => [(k_o_41, .cells (catA ((x6).map api_Entry.enc) ++ r_o_41) T_api_Entry (0, 0)), (k_o_30, .cells (catA ((x3).map api_Path.enc) ++ r_o_30) T_api_Path (0, 0)), (some b_20_0, .cells (table_Table.enc (table_Table.mk g.2.1 (.map (some b_20_0_m)))) T_table_Table (0, 0)), (some b_20_0_m, MS.obj (vA api_Path.enc) (vA api_Entry.enc) g.2.2.1), (some b_20_1, .cells (annuletref12_Table.enc (annuletref12_Table.mk (slS k_o_20_1_L (x1.2.2.1).length c_o_20_1_L) x1.2.2.2)) T_annuletref12_Table (0, 0)), (k_o_20_1_L, .cells (catA ((x1.2.2.1).map api_Entry.enc) ++ r_o_20_1_L) T_api_Entry (0, 0)), (some b4, .cells (Idn.enc a1) T_api_ID (0, 0))]) (fun g => [(2, .int .i64 (a2)), (4, .pointer (some ⟨b4, 0, none⟩)), (7, .pointer (some ⟨b_20_0, 0, none⟩)), (61, .int .i64 (g.2.2.2))]) (fun g => g.1) ⟨FUEL, (v_b_20_0_most_2, m_b_20_0_m_2, 0)⟩ H (.refl _) (.cons rfl (.cons rfl (.cons rfl (.cons rfl .nil)))) ?_)))
        rintro ⟨_ | fl3, ⟨v_b_20_0_most_3, m_b_20_0_m_3, s61_3⟩⟩ H
        · exact (iter_0 H).elim
        replace H := iter_s H; rw [F_annuletlaw15_TearTidy_L3] at H; dsimp only at H ⊢
        refine .seq (.region (?_))
        refine .step (.lss rfl rfl) (by decide) ?_
        refine .nil (.then_n (.seq (.cond rfl (fun hc5 => ?_) (fun hc5 => ?_))))
        · replace H := cond_t hc5 H
          refine .skip (.then_n (.seq (.block (.seq (.region (?_))))))
          refine .step (.mv rfl) (by decide) ?_
          refine .step (.ldA rfl (.i 6 rfl) A_api_ID Z_api_ID (Idn.size _)) (by decide) ?_
          refine .step (.mv rfl) (by decide) ?_
          obtain ⟨x10, hx10, H⟩ := bind_s H
          refine .call0 rfl E_tear_Spare rfl rfl (fun w hm hf => W_tear_Spare v_b_20_0_most_3 m_b_20_0_m_3 a1 a2 _ _ _ hx10 w (Kn.at (.i 2 rfl) hm hf) (Kn.at (.i 3 rfl) hm hf)) (by decide) fun v nm hR => ?_
          obtain ⟨k_o_66, c_o_66, r_o_66, rfl, rfl, ho_o_66⟩ := hR
          refine .step (.as rfl) (by decide) ?_
          refine .nil (.then_n (.seq (.seq (.region (?_)))))
          refine .step (.mv rfl) (by decide) ?_
          refine .step (.len L_sl_api_Path rfl) (by decide) ?_
          refine .step (.eql rfl rfl) (by decide) ?_
          refine .nil (.then_n (.cond rfl (fun hc6 => ?_) (fun hc6 => ?_)))
          · replace H := cond_t hc6 H
            refine .exit (.then_x (.blk_y (by decide) (.then_x (.then_x (.blk_x (.then_n (.seq (.region (?_)))))))))
            refine .step (.mv rfl) (by decide) ?_
            refine .step (.ldA rfl (.i 7 rfl) A_api_ID Z_api_ID (Idn.size _)) (by decide) ?_
            obtain ⟨x11, hx11, H⟩ := bind_s H
            refine .call0 rfl E_tear_Friends rfl rfl (fun w hm hf => W_tear_Friends v_b_20_0_most_3 m_b_20_0_m_3 a1 _ _ _ hx11 w (Kn.at (.i 3 rfl) hm hf) (Kn.at (.i 4 rfl) hm hf)) (by decide) fun v nm hR => ?_
            obtain ⟨k_o_78, c_o_78, r_o_78, rfl, rfl, ho_o_78⟩ := hR
            refine .step (.as rfl) (by decide) ?_
            refine .nil (.then_n (.seq (.region (?_))))
            refine .step (.mv rfl) (by decide) ?_
            refine .step (.ldA rfl (.i 8 rfl) A_api_ID Z_api_ID (Idn.size _)) (by decide) ?_
            refine .step (.mv rfl) (by decide) ?_
            obtain ⟨x12, hx12, H⟩ := bind_s H
            refine .call0 rfl E_tear_Spare rfl rfl (fun w hm hf => W_tear_Spare v_b_20_0_most_3 m_b_20_0_m_3 a1 a2 _ _ _ hx12 w (Kn.at (.i 4 rfl) hm hf) (Kn.at (.i 5 rfl) hm hf)) (by decide) fun v nm hR => ?_
            obtain ⟨k_o_82, c_o_82, r_o_82, rfl, rfl, ho_o_82⟩ := hR
            refine .step (.len L_sl_api_Path rfl) (by decide) ?_
            refine .step (.eql rfl rfl) (by decide) ?_
            refine .step (.mv rfl) (by decide) ?_
            refine .splitb 85 rfl (fun hb1 => ?_) (fun hb1 => ?_)
            · replace H := cond_t hb1 H
              refine .stepg rfl (.mv rfl) (by decide) ?_
              refine .gd rfl ?_
              obtain ⟨x13, hx13, H⟩ := bind_s H
              refine .call0 rfl E_tear_Twins rfl rfl (fun w hm hf => W_tear_Twins v_b_20_0_most_3 m_b_20_0_m_3 _ _ _ hx13 w (Kn.at (.i 5 rfl) hm hf) (Kn.at (.i 6 rfl) hm hf)) (by decide) fun v nm hR => ?_
              obtain ⟨k_o_87, c_o_87, r_o_87, rfl, rfl, ho_o_87⟩ := hR
              refine .stepg rfl (.len L_sl_api_Path rfl) (by decide) ?_
              refine .stepg rfl (.eql rfl rfl) (by decide) ?_
              refine .step (.pk_t rfl rfl) (by decide) ?_
              refine .step (.mv rfl) (by decide) ?_
              refine .splitb 91 rfl (fun hb2 => ?_) (fun hb2 => ?_)
              · replace H := cond_t hb2 H
                refine .stepg rfl (.mv rfl) (by decide) ?_
                refine .gd rfl ?_
                obtain ⟨x14, hx14, H⟩ := bind_s H
                refine .call0 rfl E_table_Table_Own rfl rfl (fun w hm hf => W_table_Table_Own v_b_20_0_most_3 m_b_20_0_m_3 _ _ _ hx14 w (Kn.at (.i 6 rfl) hm hf) (Kn.at (.i 7 rfl) hm hf)) (by decide) fun v nm hR => ?_
                obtain ⟨k_o_93, c_o_93, r_o_93, rfl, rfl, ho_o_93⟩ := hR
                refine .stepg rfl (.len L_sl_api_Entry rfl) (by decide) ?_
                refine .stepg rfl (.mv rfl) (by decide) ?_
                refine .stepg rfl (.len L_sl_api_ID rfl) (by decide) ?_
                refine .stepg rfl (.eql rfl rfl) (by decide) ?_
                refine .step (.pk_t rfl rfl) (by decide) ?_
                refine .step (.mv rfl) (by decide) ?_
                refine .splitb 99 rfl (fun hb3 => ?_) (fun hb3 => ?_)
                · replace H := cond_t hb3 H
                  refine .stepg rfl (.ldA rfl (.i 11 rfl) A_api_ID Z_api_ID (Idn.size _)) (by decide) ?_
                  refine .stepg rfl (.mv rfl) (by decide) ?_
                  refine .stepg rfl (.mv rfl) (by decide) ?_
                  refine .gd rfl ?_
                  obtain ⟨x15, hx15, H⟩ := bind_s H
                  refine .call0 rfl E_annuletref10_Want rfl rfl (fun w hm hf => W_annuletref10_Want a1 x11 a2 _ _ _ hx15 w (RoK.at ((RoK.own 3 Idn.size rfl ho_o_78)) hm hf)) (by decide) fun v nm hR => ?_
                  obtain ⟨k_o_103, c_o_103, r_o_103, rfl, rfl, ho_o_103⟩ := hR
                  refine .stepg rfl (.mv rfl) (by decide) ?_
                  refine .gd rfl ?_
                  obtain ⟨x16, hx16, H⟩ := bind_s H
                  refine .callQ (v := .bool (x16)) rfl E_annuletref01_SameIDs rfl rfl (fun w hm hf => W_annuletref01_SameIDs x15 x11 _ _ _ _ _ hx16 w (RoK.at ((RoK.own 0 Idn.size rfl ho_o_103)) hm hf) (RoK.at ((RoK.own 4 Idn.size rfl ho_o_78)) hm hf)) (by decide) ?_
                  refine .step (.pk_t rfl rfl) (by decide) ?_
                  refine .step (.as rfl) (by decide) ?_
                  cases H
                  exact .nil (.then_n (.ret (.ret1 [] (by simp) rfl rfl ⟨rfl, rfl⟩)))
                · replace H := cond_f hb3 H
                  refine .pass rfl rfl (by decide) ?_
                  refine .pass rfl rfl (by decide) ?_
                  refine .pass rfl rfl (by decide) ?_
                  refine .pass rfl rfl (by decide) ?_
                  refine .pass rfl rfl (by decide) ?_
                  refine .pass rfl rfl (by decide) ?_
                  refine .step (.pk_f rfl rfl) (by decide) ?_
                  refine .step (.as rfl) (by decide) ?_
                  cases H
                  exact .nil (.then_n (.ret (.ret1 [] (by simp) rfl rfl ⟨rfl, rfl⟩)))
              · replace H := cond_f hb2 H
                refine .pass rfl rfl (by decide) ?_
                refine .pass rfl rfl (by decide) ?_
                refine .pass rfl rfl (by decide) ?_
                refine .pass rfl rfl (by decide) ?_
                refine .pass rfl rfl (by decide) ?_
                refine .pass rfl rfl (by decide) ?_
                refine .step (.pk_f rfl rfl) (by decide) ?_
                refine .step (.mv rfl) (by decide) ?_
                refine .pass rfl rfl (by decide) ?_
                refine .pass rfl rfl (by decide) ?_
                refine .pass rfl rfl (by decide) ?_
                refine .pass rfl rfl (by decide) ?_
                refine .pass rfl rfl (by decide) ?_
                refine .pass rfl rfl (by decide) ?_
                refine .step (.pk_f rfl rfl) (by decide) ?_
                refine .step (.as rfl) (by decide) ?_
                cases H
                exact .nil (.then_n (.ret (.ret1 [] (by simp) rfl rfl ⟨rfl, rfl⟩)))
            · replace H := cond_f hb1 H
              refine .pass rfl rfl (by decide) ?_
              refine .pass rfl rfl (by decide) ?_
              refine .pass rfl rfl (by decide) ?_
              refine .pass rfl rfl (by decide) ?_
              refine .step (.pk_f rfl rfl) (by decide) ?_
              refine .step (.mv rfl) (by decide) ?_
              refine .pass rfl rfl (by decide) ?_
              refine .pass rfl rfl (by decide) ?_
              refine .pass rfl rfl (by decide) ?_
              refine .pass rfl rfl (by decide) ?_
              refine .pass rfl rfl (by decide) ?_
              refine .pass rfl rfl (by decide) ?_
              refine .step (.pk_f rfl rfl) (by decide) ?_
              refine .step (.mv rfl) (by decide) ?_
              refine .pass rfl rfl (by decide) ?_
              refine .pass rfl rfl (by decide) ?_
              refine .pass rfl rfl (by decide) ?_
              refine .pass rfl rfl (by decide) ?_
              refine .pass rfl rfl (by decide) ?_
              refine .pass rfl rfl (by decide) ?_
              refine .step (.pk_f rfl rfl) (by decide) ?_
              refine .step (.as rfl) (by decide) ?_
              cases H
              exact .nil (.then_n (.ret (.ret1 [] (by simp) rfl rfl ⟨rfl, rfl⟩)))
          · replace H := cond_f hc6 H
            refine .skip (.then_n (.region (?_)))
            refine .step (.mv rfl) (by decide) ?_
            refine .step (.mv rfl) (by decide) ?_
            obtain ⟨x17, hx17, H⟩ := bind_s H
            refine .step (.ixP (.own 0 api_Path.size rfl ho_o_66) hx17 rfl rfl L_sl_api_Path Z_api_Path) (by decide) ?_
            refine .step (.ldP (.own 0 api_Path.size rfl ho_o_66) hx17 rfl A_api_Path Z_api_Path) (by decide) ?_
            obtain ⟨x18, hx18, H⟩ := bind_s H
            refine .sel [3, 4, 0, 1, 2, 5, 6, 7] (by decide) rfl ?_
            refine .callM (dst := some 74) 2 rfl E_tear_End rfl rfl (fun w hh => W_tear_End v_b_20_0_most_3 m_b_20_0_m_3 x17 _ _ _ hx18 w hh.pk hh.pa ) (fun d hd => by cases hd; decide) fun v nm hR => ?_
            obtain ⟨k_o_74_Out, c_o_74_Out, r_o_74_Out, k_o_74_Lost, c_o_74_Lost, r_o_74_Lost, rfl, rfl, ho_o_74_Out, ho_o_74_Lost⟩ := hR
            refine .nil (.blk_n (.then_n (.region (?_))))
            refine .step (.add rfl rfl) (by decide) ?_
            refine .step (.mv rfl) (by decide) ?_
            refine .nil (.then_n (?_))
            refine .sel [5, 6, 2, 3, 7, 8, 9] (by decide) rfl ?_
            exact .again ⟨fl3, (x18.2.2.1, x18.2.2.2, (IntKind.wrap .i64 (s61_3 + 1)))⟩ H (Nat.lt_succ_self _) (.refl _) (.cons rfl (.cons rfl (.cons rfl (.cons rfl .nil))))
        · replace H := cond_f hc5 H
          refine .exit (.then_x (.then_x (.blk_x (.then_n (.seq (.region (?_)))))))
          refine .step (.mv rfl) (by decide) ?_
          refine .step (.ldA rfl (.i 6 rfl) A_api_ID Z_api_ID (Idn.size _)) (by decide) ?_
          obtain ⟨x19, hx19, H⟩ := bind_s H
          refine .call0 rfl E_tear_Friends rfl rfl (fun w hm hf => W_tear_Friends v_b_20_0_most_3 m_b_20_0_m_3 a1 _ _ _ hx19 w (Kn.at (.i 2 rfl) hm hf) (Kn.at (.i 3 rfl) hm hf)) (by decide) fun v nm hR => ?_
          obtain ⟨k_o_78, c_o_78, r_o_78, rfl, rfl, ho_o_78⟩ := hR
          refine .step (.as rfl) (by decide) ?_
          refine .nil (.then_n (.seq (.region (?_))))
          refine .step (.mv rfl) (by decide) ?_
          refine .step (.ldA rfl (.i 7 rfl) A_api_ID Z_api_ID (Idn.size _)) (by decide) ?_
          refine .step (.mv rfl) (by decide) ?_
          obtain ⟨x20, hx20, H⟩ := bind_s H
          refine .call0 rfl E_tear_Spare rfl rfl (fun w hm hf => W_tear_Spare v_b_20_0_most_3 m_b_20_0_m_3 a1 a2 _ _ _ hx20 w (Kn.at (.i 3 rfl) hm hf) (Kn.at (.i 4 rfl) hm hf)) (by decide) fun v nm hR => ?_
          obtain ⟨k_o_82, c_o_82, r_o_82, rfl, rfl, ho_o_82⟩ := hR
          refine .step (.len L_sl_api_Path rfl) (by decide) ?_
          refine .step (.eql rfl rfl) (by decide) ?_
          refine .step (.mv rfl) (by decide) ?_
          refine .splitb 85 rfl (fun hb4 => ?_) (fun hb4 => ?_)
          · replace H := cond_t hb4 H
            refine .stepg rfl (.mv rfl) (by decide) ?_
            refine .gd rfl ?_
            obtain ⟨x21, hx21, H⟩ := bind_s H
            refine .call0 rfl E_tear_Twins rfl rfl (fun w hm hf => W_tear_Twins v_b_20_0_most_3 m_b_20_0_m_3 _ _ _ hx21 w (Kn.at (.i 4 rfl) hm hf) (Kn.at (.i 5 rfl) hm hf)) (by decide) fun v nm hR => ?_
            obtain ⟨k_o_87, c_o_87, r_o_87, rfl, rfl, ho_o_87⟩ := hR
            refine .stepg rfl (.len L_sl_api_Path rfl) (by decide) ?_
            refine .stepg rfl (.eql rfl rfl) (by decide) ?_
            refine .step (.pk_t rfl rfl) (by decide) ?_
            refine .step (.mv rfl) (by decide) ?_
            refine .splitb 91 rfl (fun hb5 => ?_) (fun hb5 => ?_)
            · replace H := cond_t hb5 H
              refine .stepg rfl (.mv rfl) (by decide) ?_
              refine .gd rfl ?_
              obtain ⟨x22, hx22, H⟩ := bind_s H
              refine .call0 rfl E_table_Table_Own rfl rfl (fun w hm hf => W_table_Table_Own v_b_20_0_most_3 m_b_20_0_m_3 _ _ _ hx22 w (Kn.at (.i 5 rfl) hm hf) (Kn.at (.i 6 rfl) hm hf)) (by decide) fun v nm hR => ?_
              obtain ⟨k_o_93, c_o_93, r_o_93, rfl, rfl, ho_o_93⟩ := hR
              refine .stepg rfl (.len L_sl_api_Entry rfl) (by decide) ?_
              refine .stepg rfl (.mv rfl) (by decide) ?_
              refine .stepg rfl (.len L_sl_api_ID rfl) (by decide) ?_
              refine .stepg rfl (.eql rfl rfl) (by decide) ?_
              refine .step (.pk_t rfl rfl) (by decide) ?_
              refine .step (.mv rfl) (by decide) ?_
              refine .splitb 99 rfl (fun hb6 => ?_) (fun hb6 => ?_)
              · replace H := cond_t hb6 H
                refine .stepg rfl (.ldA rfl (.i 10 rfl) A_api_ID Z_api_ID (Idn.size _)) (by decide) ?_
                refine .stepg rfl (.mv rfl) (by decide) ?_
                refine .stepg rfl (.mv rfl) (by decide) ?_
                refine .gd rfl ?_
                obtain ⟨x23, hx23, H⟩ := bind_s H
                refine .call0 rfl E_annuletref10_Want rfl rfl (fun w hm hf => W_annuletref10_Want a1 x19 a2 _ _ _ hx23 w (RoK.at ((RoK.own 3 Idn.size rfl ho_o_78)) hm hf)) (by decide) fun v nm hR => ?_
                obtain ⟨k_o_103, c_o_103, r_o_103, rfl, rfl, ho_o_103⟩ := hR
                refine .stepg rfl (.mv rfl) (by decide) ?_
                refine .gd rfl ?_
                obtain ⟨x24, hx24, H⟩ := bind_s H
                refine .callQ (v := .bool (x24)) rfl E_annuletref01_SameIDs rfl rfl (fun w hm hf => W_annuletref01_SameIDs x23 x19 _ _ _ _ _ hx24 w (RoK.at ((RoK.own 0 Idn.size rfl ho_o_103)) hm hf) (RoK.at ((RoK.own 4 Idn.size rfl ho_o_78)) hm hf)) (by decide) ?_
                refine .step (.pk_t rfl rfl) (by decide) ?_
                refine .step (.as rfl) (by decide) ?_
                cases H
                exact .nil (.then_n (.ret (.ret1 [] (by simp) rfl rfl ⟨rfl, rfl⟩)))
              · replace H := cond_f hb6 H
                refine .pass rfl rfl (by decide) ?_
                refine .pass rfl rfl (by decide) ?_
                refine .pass rfl rfl (by decide) ?_
                refine .pass rfl rfl (by decide) ?_
                refine .pass rfl rfl (by decide) ?_
                refine .pass rfl rfl (by decide) ?_
                refine .step (.pk_f rfl rfl) (by decide) ?_
                refine .step (.as rfl) (by decide) ?_
                cases H
                exact .nil (.then_n (.ret (.ret1 [] (by simp) rfl rfl ⟨rfl, rfl⟩)))
            · replace H := cond_f hb5 H
              refine .pass rfl rfl (by decide) ?_
              refine .pass rfl rfl (by decide) ?_
              refine .pass rfl rfl (by decide) ?_
              refine .pass rfl rfl (by decide) ?_
              refine .pass rfl rfl (by decide) ?_
              refine .pass rfl rfl (by decide) ?_
              refine .step (.pk_f rfl rfl) (by decide) ?_
              refine .step (.mv rfl) (by decide) ?_
              refine .pass rfl rfl (by decide) ?_
              refine .pass rfl rfl (by decide) ?_
              refine .pass rfl rfl (by decide) ?_
              refine .pass rfl rfl (by decide) ?_
              refine .pass rfl rfl (by decide) ?_
              refine .pass rfl rfl (by decide) ?_
              refine .step (.pk_f rfl rfl) (by decide) ?_
              refine .step (.as rfl) (by decide) ?_
              cases H
              exact .nil (.then_n (.ret (.ret1 [] (by simp) rfl rfl ⟨rfl, rfl⟩)))
          · replace H := cond_f hb4 H
            refine .pass rfl rfl (by decide) ?_
            refine .pass rfl rfl (by decide) ?_
            refine .pass rfl rfl (by decide) ?_
            refine .pass rfl rfl (by decide) ?_
            refine .step (.pk_f rfl rfl) (by decide) ?_
            refine .step (.mv rfl) (by decide) ?_
            refine .pass rfl rfl (by decide) ?_
            refine .pass rfl rfl (by decide) ?_
            refine .pass rfl rfl (by decide) ?_
            refine .pass rfl rfl (by decide) ?_
            refine .pass rfl rfl (by decide) ?_
            refine .pass rfl rfl (by decide) ?_
            refine .step (.pk_f rfl rfl) (by decide) ?_
            refine .step (.mv rfl) (by decide) ?_
            refine .pass rfl rfl (by decide) ?_
            refine .pass rfl rfl (by decide) ?_
            refine .pass rfl rfl (by decide) ?_
            refine .pass rfl rfl (by decide) ?_
            refine .pass rfl rfl (by decide) ?_
            refine .pass rfl rfl (by decide) ?_
            refine .step (.pk_f rfl rfl) (by decide) ?_
            refine .step (.as rfl) (by decide) ?_
            cases H
            exact .nil (.then_n (.ret (.ret1 [] (by simp) rfl rfl ⟨rfl, rfl⟩)))

def F_annuletlaw15_TearAsks (a0 : List api_Entry) (a1 : ar2_api_ID) (a2 : Int) : Option (Bool) :=
  (F_annuletlaw15_laid a0).bind fun x1 => (F_tear_First x1.1 x1.2.1 a1.E1).bind fun x2 => (F_annuletref15_First x1.2.2.1 x1.2.2.2 a1.E1).bind fun x3 => (F_annuletlaw15_fixed ).bind fun x4 => cond x4 ((F_tear_Friends x1.1 x1.2.1 a1.E0).bind fun x5 => (F_annuletref15_Friends x1.2.2.1 x1.2.2.2 a1.E0).bind fun x6 => (F_annuletref01_SameIDs x5 x6).bind fun x7 => cond x7 ((F_tear_Spare x1.1 x1.2.1 a1.E0 a2).bind fun x8 => (F_annuletref15_Spare x1.2.2.1 x1.2.2.2 a1.E0 a2).bind fun x9 => (F_annuletref15_SamePaths x8 x9).bind fun x10 => cond x10 ((F_tear_Twins x1.1 x1.2.1).bind fun x11 => (F_annuletref15_Twins x1.2.2.1 x1.2.2.2).bind fun x12 => (F_annuletref15_SamePaths x11 x12).bind fun x13 => cond x13 (cond (decide (x2.1 = x3.1)) (cond (decide (x2.2 = x3.2)) ((F_table_Table_All x1.1 x1.2.1).bind fun x14 => (F_annuletref12_Same x14 x1.2.2.1).bind fun x15 => some x15) (some false)) (some false)) (some false)) (some false)) (some false)) (some false)
theorem W_annuletlaw15_TearAsks (a0 : List api_Entry) (a1 : ar2_api_ID) (a2 : Int) (p_a0 : Option Addr) (c_a0 : Nat) (r : Bool) (H : F_annuletlaw15_TearAsks a0 a1 a2 = some r) (w : World) (hR_a0 : Ro api_Entry.enc 51 w p_a0 a0 c_a0) :
    Calls PG f_annuletlaw15_TearAsks #[.slice p_a0 (a0).length c_a0, .agg (ar2_api_ID.enc a1), .int .i64 (a2)] w (Ret w [] (fun v nm => v = .bool (r) ∧ nm = [])) := by
  unfold F_annuletlaw15_TearAsks at H
  refine enter0 (n := 83) (args := [.slice p_a0 (a0).length c_a0, .agg (ar2_api_ID.enc a1), .int .i64 (a2)]) B_annuletlaw15_TearAsks rfl rfl (by simp) ?_
  refine .seq (.region (?_))
  refine .box rfl rfl (by decide) fun b4 hb4 => ?_
  refine .step (.as rfl) (by decide) ?_
  refine .nil (.then_n (.seq (.drawsI [0] rfl rfl ?_)))
  refine .first [0, 1, 2, 3] 4 rfl (by kernel_rfl) (by kernel_rfl) ?_
  refine .s_step rfl rfl rfl (.ixa rfl rfl R_ar2_api_ID Z_api_ID (by decide) (by decide)) (by decide) ?_
  refine .s_step rfl rfl rfl (.lds rfl (.i 0 rfl) A_api_ID Z_api_ID (ar2_api_ID.s_E0 _)) (by decide) ?_
  refine .s_step rfl rfl rfl (.ixa rfl rfl R_ar2_api_ID Z_api_ID (by decide) (by decide)) (by decide) ?_
  refine .s_step rfl rfl rfl (.lds rfl (.i 0 rfl) A_api_ID Z_api_ID (ar2_api_ID.s_E1 _)) (by decide) ?_
  refine .s_nil ?_
  refine .flock [(4, .blk 7 _ _), (5, .blk 8 _ _)] 2 (.refl _) rfl (by kernel_rfl) ⟨⟨_, rfl, .alloc N_api_ID rfl (by decide)⟩, ⟨_, rfl, .alloc N_api_ID rfl (by decide)⟩, trivial⟩ (fun b7 hb7 b8 hb8 => (?_ : St _ _ _ _ _ _))
  refine .lst (l' := #[true, true, true, true, true, true, false, false]) (by kernel_rfl) ?_
  refine .only (i := 6) (.cons _ (.cons _ (.refl _))) (by kernel_rfl) rfl ?_
  refine .storeA 1 rfl rfl rfl rfl Z_api_ID (Idn.size _) (Idn.one _) (Idn.size _) ?_
  refine .nil (.then_n ?_)
  refine .only (i := 7) (.cons _ (.cons _ (.refl _))) (by kernel_rfl) rfl ?_
  refine .storeA 0 rfl rfl rfl rfl Z_api_ID (Idn.size _) (Idn.one _) (Idn.size _) ?_
  refine .nil (.then_n ?_)
  refine .done (.cons _ (.cons _ (.refl _))) (by kernel_rfl) ?_
  refine .then_n (.seq (.region (?_)))
  refine .step (.mv rfl) (by decide) ?_
  obtain ⟨x1, hx1, H⟩ := bind_s H
  refine .call0 rfl E_annuletlaw15_laid rfl rfl (fun w hm hf => W_annuletlaw15_laid a0 _ _ _ hx1 w (RoK.at ((RoK.par hR_a0)) hm hf)) (by decide) fun v nm hR => ?_
  obtain ⟨b_21_0, b_21_0_m, b_21_1, k_o_21_1_L, c_o_21_1_L, r_o_21_1_L, rfl, rfl, ho_o_21_1_L⟩ := hR
  refine .step (.mv rfl) (by decide) ?_
  refine .step (.xt rfl rfl) (by decide) ?_
  refine .step (.xt rfl rfl) (by decide) ?_
  refine .step (.as rfl) (by decide) ?_
  refine .step (.as rfl) (by decide) ?_
  refine .nil (.then_n (.seq (.region (?_))))
  refine .step (.mv rfl) (by decide) ?_
  refine .step (.ldA rfl (.i 4 rfl) A_api_ID Z_api_ID (Idn.size _)) (by decide) ?_
  obtain ⟨x2, hx2, H⟩ := bind_s H
  refine .callQ (v := .tuple #[.agg (api_Entry.enc x2.1), .bool (x2.2)]) rfl E_tear_First rfl rfl (fun w hm hf => W_tear_First x1.1 x1.2.1 a1.E1 _ _ _ hx2 w (Kn.at (.i 0 rfl) hm hf) (Kn.at (.i 1 rfl) hm hf)) (by decide) ?_
  refine .step (.mv rfl) (by decide) ?_
  refine .step (.xt rfl rfl) (by decide) ?_
  refine .step (.xt rfl rfl) (by decide) ?_
  refine .alloc N_api_Entry rfl (by decide) fun b11 hb11 => ?_
  refine .storeA 0 rfl rfl rfl rfl Z_api_Entry (api_Entry.size _) (api_Entry.one _) (api_Entry.size _) ?_
  refine .step (.as rfl) (by decide) ?_
  refine .nil (.then_n (.seq (.region (?_))))
  refine .step (.mv rfl) (by decide) ?_
  refine .step (.ldA rfl (.i 5 rfl) A_api_ID Z_api_ID (Idn.size _)) (by decide) ?_
  obtain ⟨x3, hx3, H⟩ := bind_s H
  refine .callQ (v := .tuple #[.agg (api_Entry.enc x3.1), .bool (x3.2)]) rfl E_annuletref15_First rfl rfl (fun w hm hf => W_annuletref15_First x1.2.2.1 x1.2.2.2 a1.E1 _ _ _ _ hx3 w (Kn.at (.i 3 rfl) hm hf) (RoK.at ((RoK.own 4 api_Entry.size rfl ho_o_21_1_L)) hm hf)) (by decide) ?_
  refine .step (.mv rfl) (by decide) ?_
  refine .step (.xt rfl rfl) (by decide) ?_
  refine .step (.xt rfl rfl) (by decide) ?_
  refine .alloc N_api_Entry rfl (by decide) fun b13 hb13 => ?_
  refine .storeA 0 rfl rfl rfl rfl Z_api_Entry (api_Entry.size _) (api_Entry.one _) (api_Entry.size _) ?_
  refine .step (.as rfl) (by decide) ?_
  refine .nil (.then_n (.seq (.drawsI [0, 1, 2, 3, 4, 5, 6, 7, 8] rfl rfl ?_)))
  refine .only (i := 0) (.refl _) (by kernel_rfl) rfl ?_
  obtain ⟨x4, hx4, H⟩ := bind_s H
  refine .callQ (v := .bool (x4)) rfl E_annuletlaw15_fixed rfl rfl (fun w hm hf => W_annuletlaw15_fixed   _ hx4 w ) (by decide) ?_
  refine .nil (.then_n ?_)
  refine .first [1] 46 rfl (by kernel_rfl) (by kernel_rfl) ?_
  refine .s_step rfl rfl rfl (.mv rfl) (by decide) ?_
  refine .s_nil ?_
  refine .splitb 37 rfl (fun hb1 => ?_) (fun hb1 => ?_)
  · replace H := cond_t hb1 H
    refine .first [2, 3, 5, 6] 42 rfl (by kernel_rfl) (by kernel_rfl) ?_
    refine .s_stepg rfl rfl rfl rfl (.mv rfl) (by decide) ?_
    refine .s_stepg rfl rfl rfl rfl (.ldA rfl (.i 7 rfl) A_api_ID Z_api_ID (Idn.size _)) (by decide) ?_
    refine .s_stepg rfl rfl rfl rfl (.mv rfl) (by decide) ?_
    refine .s_stepg rfl rfl rfl rfl (.ldA rfl (.i 7 rfl) A_api_ID Z_api_ID (Idn.size _)) (by decide) ?_
    refine .s_nil ?_
    refine .only (i := 4) (.refl _) (by kernel_rfl) rfl ?_
    refine .gd rfl ?_
    obtain ⟨x5, hx5, H⟩ := bind_s H
    refine .call0 rfl E_tear_Friends rfl rfl (fun w hm hf => W_tear_Friends x1.1 x1.2.1 a1.E0 _ _ _ hx5 w (Kn.at (.i 2 rfl) hm hf) (Kn.at (.i 3 rfl) hm hf)) (by decide) fun v nm hR => ?_
    obtain ⟨k_o_40, c_o_40, r_o_40, rfl, rfl, ho_o_40⟩ := hR
    refine .nil (.then_n ?_)
    refine .only (i := 7) (.cons _ (.refl _)) (by kernel_rfl) rfl ?_
    refine .gd rfl ?_
    obtain ⟨x6, hx6, H⟩ := bind_s H
    refine .call0 rfl E_annuletref15_Friends rfl rfl (fun w hm hf => W_annuletref15_Friends x1.2.2.1 x1.2.2.2 a1.E0 _ _ _ _ hx6 w (Kn.at (.i 5 rfl) hm hf) (RoK.at ((RoK.own 6 api_Entry.size rfl ho_o_21_1_L)) hm hf)) (by decide) fun v nm hR => ?_
    obtain ⟨k_o_43, c_o_43, r_o_43, rfl, rfl, ho_o_43⟩ := hR
    refine .nil (.then_n ?_)
    refine .only (i := 8) (.cons _ (.cons _ (.refl _))) (by kernel_rfl) rfl ?_
    refine .gd rfl ?_
    obtain ⟨x7, hx7, H⟩ := bind_s H
    refine .callQ (v := .bool (x7)) rfl E_annuletref01_SameIDs rfl rfl (fun w hm hf => W_annuletref01_SameIDs x5 x6 _ _ _ _ _ hx7 w (RoK.at ((RoK.own 1 Idn.size rfl ho_o_40)) hm hf) (RoK.at ((RoK.own 0 Idn.size rfl ho_o_43)) hm hf)) (by decide) ?_
    refine .nil (.then_n ?_)
    refine .first [9, 10] 37 rfl (by kernel_rfl) (by kernel_rfl) ?_
    refine .s_step rfl rfl rfl (.pk_t rfl rfl) (by decide) ?_
    refine .s_step rfl rfl rfl (.mv rfl) (by decide) ?_
    refine .s_nil ?_
    refine .splitb 46 rfl (fun hb2 => ?_) (fun hb2 => ?_)
    · replace H := cond_t hb2 H
      refine .first [11, 12, 13, 15, 16, 17] 31 rfl (by kernel_rfl) (by kernel_rfl) ?_
      refine .s_stepg rfl rfl rfl rfl (.mv rfl) (by decide) ?_
      refine .s_stepg rfl rfl rfl rfl (.ldA rfl (.i 7 rfl) A_api_ID Z_api_ID (Idn.size _)) (by decide) ?_
      refine .s_stepg rfl rfl rfl rfl (.mv rfl) (by decide) ?_
      refine .s_stepg rfl rfl rfl rfl (.mv rfl) (by decide) ?_
      refine .s_stepg rfl rfl rfl rfl (.ldA rfl (.i 7 rfl) A_api_ID Z_api_ID (Idn.size _)) (by decide) ?_
      refine .s_stepg rfl rfl rfl rfl (.mv rfl) (by decide) ?_
      refine .s_nil ?_
      refine .only (i := 14) (.cons _ (.cons _ (.refl _))) (by kernel_rfl) rfl ?_
      refine .gd rfl ?_
      obtain ⟨x8, hx8, H⟩ := bind_s H
      refine .call0 rfl E_tear_Spare rfl rfl (fun w hm hf => W_tear_Spare x1.1 x1.2.1 a1.E0 a2 _ _ _ hx8 w (Kn.at (.i 4 rfl) hm hf) (Kn.at (.i 5 rfl) hm hf)) (by decide) fun v nm hR => ?_
      obtain ⟨k_o_50, c_o_50, r_o_50, rfl, rfl, ho_o_50⟩ := hR
      refine .nil (.then_n ?_)
      refine .only (i := 18) (.cons _ (.cons _ (.cons _ (.refl _)))) (by kernel_rfl) rfl ?_
      refine .gd rfl ?_
      obtain ⟨x9, hx9, H⟩ := bind_s H
      refine .call0 rfl E_annuletref15_Spare rfl rfl (fun w hm hf => W_annuletref15_Spare x1.2.2.1 x1.2.2.2 a1.E0 a2 _ _ _ _ hx9 w (Kn.at (.i 7 rfl) hm hf) (RoK.at ((RoK.own 8 api_Entry.size rfl ho_o_21_1_L)) hm hf)) (by decide) fun v nm hR => ?_
      obtain ⟨k_o_54, c_o_54, r_o_54, rfl, rfl, ho_o_54⟩ := hR
      refine .nil (.then_n ?_)
      refine .only (i := 19) (.cons _ (.cons _ (.cons _ (.cons _ (.refl _))))) (by kernel_rfl) rfl ?_
      refine .gd rfl ?_
      obtain ⟨x10, hx10, H⟩ := bind_s H
      refine .callQ (v := .bool (x10)) rfl E_annuletref15_SamePaths rfl rfl (fun w hm hf => W_annuletref15_SamePaths x8 x9 _ _ _ _ _ hx10 w (RoK.at ((RoK.own 1 api_Path.size rfl ho_o_50)) hm hf) (RoK.at ((RoK.own 0 api_Path.size rfl ho_o_54)) hm hf)) (by decide) ?_
      refine .nil (.then_n ?_)
      refine .first [20, 21] 26 rfl (by kernel_rfl) (by kernel_rfl) ?_
      refine .s_step rfl rfl rfl (.pk_t rfl rfl) (by decide) ?_
      refine .s_step rfl rfl rfl (.mv rfl) (by decide) ?_
      refine .s_nil ?_
      refine .splitb 57 rfl (fun hb3 => ?_) (fun hb3 => ?_)
      · replace H := cond_t hb3 H
        refine .first [22, 24] 24 rfl (by kernel_rfl) (by kernel_rfl) ?_
        refine .s_stepg rfl rfl rfl rfl (.mv rfl) (by decide) ?_
        refine .s_stepg rfl rfl rfl rfl (.mv rfl) (by decide) ?_
        refine .s_nil ?_
        refine .only (i := 23) (.cons _ (.cons _ (.cons _ (.cons _ (.refl _))))) (by kernel_rfl) rfl ?_
        refine .gd rfl ?_
        obtain ⟨x11, hx11, H⟩ := bind_s H
        refine .call0 rfl E_tear_Twins rfl rfl (fun w hm hf => W_tear_Twins x1.1 x1.2.1 _ _ _ hx11 w (Kn.at (.i 6 rfl) hm hf) (Kn.at (.i 7 rfl) hm hf)) (by decide) fun v nm hR => ?_
        obtain ⟨k_o_59, c_o_59, r_o_59, rfl, rfl, ho_o_59⟩ := hR
        refine .nil (.then_n ?_)
        refine .only (i := 25) (.cons _ (.cons _ (.cons _ (.cons _ (.cons _ (.refl _)))))) (by kernel_rfl) rfl ?_
        refine .gd rfl ?_
        obtain ⟨x12, hx12, H⟩ := bind_s H
        refine .call0 rfl E_annuletref15_Twins rfl rfl (fun w hm hf => W_annuletref15_Twins x1.2.2.1 x1.2.2.2 _ _ _ _ hx12 w (Kn.at (.i 9 rfl) hm hf) (RoK.at ((RoK.own 10 api_Entry.size rfl ho_o_21_1_L)) hm hf)) (by decide) fun v nm hR => ?_
        obtain ⟨k_o_61, c_o_61, r_o_61, rfl, rfl, ho_o_61⟩ := hR
        refine .nil (.then_n ?_)
        refine .only (i := 26) (.cons _ (.cons _ (.cons _ (.cons _ (.cons _ (.cons _ (.refl _))))))) (by kernel_rfl) rfl ?_
        refine .gd rfl ?_
        obtain ⟨x13, hx13, H⟩ := bind_s H
        refine .callQ (v := .bool (x13)) rfl E_annuletref15_SamePaths rfl rfl (fun w hm hf => W_annuletref15_SamePaths x11 x12 _ _ _ _ _ hx13 w (RoK.at ((RoK.own 1 api_Path.size rfl ho_o_59)) hm hf) (RoK.at ((RoK.own 0 api_Path.size rfl ho_o_61)) hm hf)) (by decide) ?_
        refine .nil (.then_n ?_)
        refine .first [27, 28] 19 rfl (by kernel_rfl) (by kernel_rfl) ?_
        refine .s_step rfl rfl rfl (.pk_t rfl rfl) (by decide) ?_
        refine .s_step rfl rfl rfl (.mv rfl) (by decide) ?_
        refine .s_nil ?_
        refine .splitb 64 rfl (fun hb4 => ?_) (fun hb4 => ?_)
        · replace H := cond_t hb4 H
          refine .first [29, 30, 31, 32, 33] 14 rfl (by kernel_rfl) (by kernel_rfl) ?_
          refine .s_stepg rfl rfl rfl rfl (.ldA rfl (.i 1 rfl) A_api_Entry Z_api_Entry (api_Entry.size _)) (by decide) ?_
          refine .s_stepg rfl rfl rfl rfl (.ldA rfl (.i 0 rfl) A_api_Entry Z_api_Entry (api_Entry.size _)) (by decide) ?_
          refine .s_stepg rfl rfl rfl rfl (.eqA (EQ_api_Entry _ _) G_api_Entry rfl rfl (by decide)) (by decide) ?_
          refine .s_step rfl rfl rfl (.pk_t rfl rfl) (by decide) ?_
          refine .s_step rfl rfl rfl (.mv rfl) (by decide) ?_
          refine .s_nil ?_
          refine .splitb 69 rfl (fun hb5 => ?_) (fun hb5 => ?_)
          · replace H := cond_t hb5 H
            refine .first [34, 35, 36, 37, 38] 9 rfl (by kernel_rfl) (by kernel_rfl) ?_
            refine .s_stepg rfl rfl rfl rfl (.mv rfl) (by decide) ?_
            refine .s_stepg rfl rfl rfl rfl (.mv rfl) (by decide) ?_
            refine .s_stepg rfl rfl rfl rfl (.eqlB Q_bool rfl rfl) (by decide) ?_
            refine .s_step rfl rfl rfl (.pk_t rfl rfl) (by decide) ?_
            refine .s_step rfl rfl rfl (.mv rfl) (by decide) ?_
            refine .s_nil ?_
            refine .splitb 74 rfl (fun hb6 => ?_) (fun hb6 => ?_)
            · replace H := cond_t hb6 H
              refine .first [39, 41, 42, 43, 44] 4 rfl (by kernel_rfl) (by kernel_rfl) ?_
              refine .s_stepg rfl rfl rfl rfl (.mv rfl) (by decide) ?_
              refine .s_stepg rfl rfl rfl rfl (.mv rfl) (by decide) ?_
              refine .s_stepg rfl rfl rfl rfl (.nc rfl) (by decide) ?_
              refine .s_stepg rfl rfl rfl rfl (.fa rfl F_annuletref12_Table_L Z_sl_api_Entry) (by decide) ?_
              refine .s_stepg rfl rfl rfl rfl (.ld1 (v := slv k_o_21_1_L (x1.2.2.1).length c_o_21_1_L) rfl (.i 4 rfl) A_sl_api_Entry (annuletref12_Table.g_L _)) (by decide) ?_
              refine .s_nil ?_
              refine .only (i := 40) (.cons _ (.cons _ (.cons _ (.cons _ (.cons _ (.cons _ (.refl _))))))) (by kernel_rfl) rfl ?_
              refine .gd rfl ?_
              obtain ⟨x14, hx14, H⟩ := bind_s H
              refine .call0 rfl E_table_Table_All rfl rfl (fun w hm hf => W_table_Table_All x1.1 x1.2.1 _ _ _ hx14 w (Kn.at (.i 8 rfl) hm hf) (Kn.at (.i 9 rfl) hm hf)) (by decide) fun v nm hR => ?_
              obtain ⟨k_o_76, c_o_76, r_o_76, rfl, rfl, ho_o_76⟩ := hR
              refine .nil (.then_n ?_)
              refine .only (i := 45) (.cons _ (.cons _ (.cons _ (.cons _ (.cons _ (.cons _ (.cons _ (.refl _)))))))) (by kernel_rfl) rfl ?_
              refine .gd rfl ?_
              obtain ⟨x15, hx15, H⟩ := bind_s H
              refine .callQ (v := .bool (x15)) rfl E_annuletref12_Same rfl rfl (fun w hm hf => W_annuletref12_Same x14 x1.2.2.1 _ _ _ _ _ hx15 w (RoK.at ((RoK.own 0 api_Entry.size rfl ho_o_76)) hm hf) (RoK.at ((RoK.own 12 api_Entry.size rfl ho_o_21_1_L)) hm hf)) (by decide) ?_
              refine .nil (.then_n ?_)
              refine .first [46, 47] 0 rfl (by kernel_rfl) (by kernel_rfl) ?_
              refine .s_step rfl rfl rfl (.pk_t rfl rfl) (by decide) ?_
              refine .s_step rfl rfl rfl (.as rfl) (by decide) ?_
              refine .s_nil ?_
              refine .done (.cons _ (.cons _ (.cons _ (.cons _ (.cons _ (.cons _ (.cons _ (.refl _)))))))) (by kernel_rfl) ?_
              cases H
              exact .then_n (.ret (.ret1 [] (by simp) rfl rfl ⟨rfl, rfl⟩))
            · replace H := cond_f hb6 H
              refine .first [39, 40, 41, 42, 43, 44, 45, 46, 47] 0 rfl (by kernel_rfl) (by kernel_rfl) ?_
              refine .s_pass rfl rfl rfl rfl rfl (by decide) ?_
              refine .s_pass rfl rfl rfl rfl rfl (by decide) ?_
              refine .s_pass rfl rfl rfl rfl rfl (by decide) ?_
              refine .s_pass rfl rfl rfl rfl rfl (by decide) ?_
              refine .s_pass rfl rfl rfl rfl rfl (by decide) ?_
              refine .s_pass rfl rfl rfl rfl rfl (by decide) ?_
              refine .s_pass rfl rfl rfl rfl rfl (by decide) ?_
              refine .s_step rfl rfl rfl (.pk_f rfl rfl) (by decide) ?_
              refine .s_step rfl rfl rfl (.as rfl) (by decide) ?_
              refine .s_nil ?_
              refine .done (.cons _ (.cons _ (.cons _ (.cons _ (.cons _ (.cons _ (.refl _))))))) (by kernel_rfl) ?_
              cases H
              exact .then_n (.ret (.ret1 [] (by simp) rfl rfl ⟨rfl, rfl⟩))
          · replace H := cond_f hb5 H
            refine .first [34, 35, 36, 37, 38, 39, 40, 41, 42, 43, 44, 45, 46, 47] 0 rfl (by kernel_rfl) (by kernel_rfl) ?_
            refine .s_pass rfl rfl rfl rfl rfl (by decide) ?_
            refine .s_pass rfl rfl rfl rfl rfl (by decide) ?_
            refine .s_pass rfl rfl rfl rfl rfl (by decide) ?_
            refine .s_step rfl rfl rfl (.pk_f rfl rfl) (by decide) ?_
            refine .s_step rfl rfl rfl (.mv rfl) (by decide) ?_
            refine .s_pass rfl rfl rfl rfl rfl (by decide) ?_
            refine .s_pass rfl rfl rfl rfl rfl (by decide) ?_
            refine .s_pass rfl rfl rfl rfl rfl (by decide) ?_
            refine .s_pass rfl rfl rfl rfl rfl (by decide) ?_
            refine .s_pass rfl rfl rfl rfl rfl (by decide) ?_
            refine .s_pass rfl rfl rfl rfl rfl (by decide) ?_
            refine .s_pass rfl rfl rfl rfl rfl (by decide) ?_
            refine .s_step rfl rfl rfl (.pk_f rfl rfl) (by decide) ?_
            refine .s_step rfl rfl rfl (.as rfl) (by decide) ?_
            refine .s_nil ?_
            refine .done (.cons _ (.cons _ (.cons _ (.cons _ (.cons _ (.cons _ (.refl _))))))) (by kernel_rfl) ?_
            cases H
            exact .then_n (.ret (.ret1 [] (by simp) rfl rfl ⟨rfl, rfl⟩))
        · replace H := cond_f hb4 H
          refine .first [29, 30, 31, 32, 33, 34, 35, 36, 37, 38, 39, 40, 41, 42, 43, 44, 45, 46, 47] 0 rfl (by kernel_rfl) (by kernel_rfl) ?_
          refine .s_pass rfl rfl rfl rfl rfl (by decide) ?_
          refine .s_pass rfl rfl rfl rfl rfl (by decide) ?_
          refine .s_pass rfl rfl rfl rfl rfl (by decide) ?_
          refine .s_step rfl rfl rfl (.pk_f rfl rfl) (by decide) ?_
          refine .s_step rfl rfl rfl (.mv rfl) (by decide) ?_
          refine .s_pass rfl rfl rfl rfl rfl (by decide) ?_
          refine .s_pass rfl rfl rfl rfl rfl (by decide) ?_
          refine .s_pass rfl rfl rfl rfl rfl (by decide) ?_
          refine .s_step rfl rfl rfl (.pk_f rfl rfl) (by decide) ?_
          refine .s_step rfl rfl rfl (.mv rfl) (by decide) ?_
          refine .s_pass rfl rfl rfl rfl rfl (by decide) ?_
          refine .s_pass rfl rfl rfl rfl rfl (by decide) ?_
          refine .s_pass rfl rfl rfl rfl rfl (by decide) ?_
          refine .s_pass rfl rfl rfl rfl rfl (by decide) ?_
          refine .s_pass rfl rfl rfl rfl rfl (by decide) ?_
          refine .s_pass rfl rfl rfl rfl rfl (by decide) ?_
          refine .s_pass rfl rfl rfl rfl rfl (by decide) ?_
          refine .s_step rfl rfl rfl (.pk_f rfl rfl) (by decide) ?_
          refine .s_step rfl rfl rfl (.as rfl) (by decide) ?_
          refine .s_nil ?_
          refine .done (.cons _ (.cons _ (.cons _ (.cons _ (.cons _ (.cons _ (.refl _))))))) (by kernel_rfl) ?_
          cases H
          exact .then_n (.ret (.ret1 [] (by simp) rfl rfl ⟨rfl, rfl⟩))
      · replace H := cond_f hb3 H
        refine .first [22, 23, 24, 25, 26, 27, 28, 29, 30, 31, 32, 33, 34, 35, 36, 37, 38, 39, 40, 41, 42, 43, 44, 45, 46, 47] 0 rfl (by kernel_rfl) (by kernel_rfl) ?_
        refine .s_pass rfl rfl rfl rfl rfl (by decide) ?_
        refine .s_pass rfl rfl rfl rfl rfl (by decide) ?_
        refine .s_pass rfl rfl rfl rfl rfl (by decide) ?_
        refine .s_pass rfl rfl rfl rfl rfl (by decide) ?_
        refine .s_pass rfl rfl rfl rfl rfl (by decide) ?_
        refine .s_step rfl rfl rfl (.pk_f rfl rfl) (by decide) ?_
        refine .s_step rfl rfl rfl (.mv rfl) (by decide) ?_
        refine .s_pass rfl rfl rfl rfl rfl (by decide) ?_
        refine .s_pass rfl rfl rfl rfl rfl (by decide) ?_
        refine .s_pass rfl rfl rfl rfl rfl (by decide) ?_
        refine .s_step rfl rfl rfl (.pk_f rfl rfl) (by decide) ?_
        refine .s_step rfl rfl rfl (.mv rfl) (by decide) ?_
        refine .s_pass rfl rfl rfl rfl rfl (by decide) ?_
        refine .s_pass rfl rfl rfl rfl rfl (by decide) ?_
        refine .s_pass rfl rfl rfl rfl rfl (by decide) ?_
        refine .s_step rfl rfl rfl (.pk_f rfl rfl) (by decide) ?_
        refine .s_step rfl rfl rfl (.mv rfl) (by decide) ?_
        refine .s_pass rfl rfl rfl rfl rfl (by decide) ?_
        refine .s_pass rfl rfl rfl rfl rfl (by decide) ?_
        refine .s_pass rfl rfl rfl rfl rfl (by decide) ?_
        refine .s_pass rfl rfl rfl rfl rfl (by decide) ?_
        refine .s_pass rfl rfl rfl rfl rfl (by decide) ?_
        refine .s_pass rfl rfl rfl rfl rfl (by decide) ?_
        refine .s_pass rfl rfl rfl rfl rfl (by decide) ?_
        refine .s_step rfl rfl rfl (.pk_f rfl rfl) (by decide) ?_
        refine .s_step rfl rfl rfl (.as rfl) (by decide) ?_
        refine .s_nil ?_
        refine .done (.cons _ (.cons _ (.cons _ (.cons _ (.refl _))))) (by kernel_rfl) ?_
        cases H
        exact .then_n (.ret (.ret1 [] (by simp) rfl rfl ⟨rfl, rfl⟩))
    · replace H := cond_f hb2 H
      refine .first [11, 12, 13, 14, 15, 16, 17, 18, 19, 20, 21, 22, 23, 24, 25, 26, 27, 28, 29, 30, 31, 32, 33, 34, 35, 36, 37, 38, 39, 40, 41, 42, 43, 44, 45, 46, 47] 0 rfl (by kernel_rfl) (by kernel_rfl) ?_
      refine .s_pass rfl rfl rfl rfl rfl (by decide) ?_
      refine .s_pass rfl rfl rfl rfl rfl (by decide) ?_
      refine .s_pass rfl rfl rfl rfl rfl (by decide) ?_
      refine .s_pass rfl rfl rfl rfl rfl (by decide) ?_
      refine .s_pass rfl rfl rfl rfl rfl (by decide) ?_
      refine .s_pass rfl rfl rfl rfl rfl (by decide) ?_
      refine .s_pass rfl rfl rfl rfl rfl (by decide) ?_
      refine .s_pass rfl rfl rfl rfl rfl (by decide) ?_
      refine .s_pass rfl rfl rfl rfl rfl (by decide) ?_
      refine .s_step rfl rfl rfl (.pk_f rfl rfl) (by decide) ?_
      refine .s_step rfl rfl rfl (.mv rfl) (by decide) ?_
      refine .s_pass rfl rfl rfl rfl rfl (by decide) ?_
      refine .s_pass rfl rfl rfl rfl rfl (by decide) ?_
      refine .s_pass rfl rfl rfl rfl rfl (by decide) ?_
      refine .s_pass rfl rfl rfl rfl rfl (by decide) ?_
      refine .s_pass rfl rfl rfl rfl rfl (by decide) ?_
      refine .s_step rfl rfl rfl (.pk_f rfl rfl) (by decide) ?_
      refine .s_step rfl rfl rfl (.mv rfl) (by decide) ?_
      refine .s_pass rfl rfl rfl rfl rfl (by decide) ?_
      refine .s_pass rfl rfl rfl rfl rfl (by decide) ?_
      refine .s_pass rfl rfl rfl rfl rfl (by decide) ?_
      refine .s_step rfl rfl rfl (.pk_f rfl rfl) (by decide) ?_
      refine .s_step rfl rfl rfl (.mv rfl) (by decide) ?_
      refine .s_pass rfl rfl rfl rfl rfl (by decide) ?_
      refine .s_pass rfl rfl rfl rfl rfl (by decide) ?_
      refine .s_pass rfl rfl rfl rfl rfl (by decide) ?_
      refine .s_step rfl rfl rfl (.pk_f rfl rfl) (by decide) ?_
      refine .s_step rfl rfl rfl (.mv rfl) (by decide) ?_
      refine .s_pass rfl rfl rfl rfl rfl (by decide) ?_
      refine .s_pass rfl rfl rfl rfl rfl (by decide) ?_
      refine .s_pass rfl rfl rfl rfl rfl (by decide) ?_
      refine .s_pass rfl rfl rfl rfl rfl (by decide) ?_
      refine .s_pass rfl rfl rfl rfl rfl (by decide) ?_
      refine .s_pass rfl rfl rfl rfl rfl (by decide) ?_
      refine .s_pass rfl rfl rfl rfl rfl (by decide) ?_
      refine .s_step rfl rfl rfl (.pk_f rfl rfl) (by decide) ?_
      refine .s_step rfl rfl rfl (.as rfl) (by decide) ?_
      refine .s_nil ?_
      refine .done (.cons _ (.cons _ (.refl _))) (by kernel_rfl) ?_
      cases H
      exact .then_n (.ret (.ret1 [] (by simp) rfl rfl ⟨rfl, rfl⟩))
  · replace H := cond_f hb1 H
    refine .first [2, 3, 4, 5, 6, 7, 8, 9, 10, 11, 12, 13, 14, 15, 16, 17, 18, 19, 20, 21, 22, 23, 24, 25, 26, 27, 28, 29, 30, 31, 32, 33, 34, 35, 36, 37, 38, 39, 40, 41, 42, 43, 44, 45, 46, 47] 0 rfl (by kernel_rfl) (by kernel_rfl) ?_
    refine .s_pass rfl rfl rfl rfl rfl (by decide) ?_
    refine .s_pass rfl rfl rfl rfl rfl (by decide) ?_
    refine .s_pass rfl rfl rfl rfl rfl (by decide) ?_
    refine .s_pass rfl rfl rfl rfl rfl (by decide) ?_
    refine .s_pass rfl rfl rfl rfl rfl (by decide) ?_
    refine .s_pass rfl rfl rfl rfl rfl (by decide) ?_
    refine .s_pass rfl rfl rfl rfl rfl (by decide) ?_
    refine .s_step rfl rfl rfl (.pk_f rfl rfl) (by decide) ?_
    refine .s_step rfl rfl rfl (.mv rfl) (by decide) ?_
    refine .s_pass rfl rfl rfl rfl rfl (by decide) ?_
    refine .s_pass rfl rfl rfl rfl rfl (by decide) ?_
    refine .s_pass rfl rfl rfl rfl rfl (by decide) ?_
    refine .s_pass rfl rfl rfl rfl rfl (by decide) ?_
    refine .s_pass rfl rfl rfl rfl rfl (by decide) ?_
    refine .s_pass rfl rfl rfl rfl rfl (by decide) ?_
    refine .s_pass rfl rfl rfl rfl rfl (by decide) ?_
    refine .s_pass rfl rfl rfl rfl rfl (by decide) ?_
    refine .s_pass rfl rfl rfl rfl rfl (by decide) ?_
    refine .s_step rfl rfl rfl (.pk_f rfl rfl) (by decide) ?_
    refine .s_step rfl rfl rfl (.mv rfl) (by decide) ?_
    refine .s_pass rfl rfl rfl rfl rfl (by decide) ?_
    refine .s_pass rfl rfl rfl rfl rfl (by decide) ?_
    refine .s_pass rfl rfl rfl rfl rfl (by decide) ?_
    refine .s_pass rfl rfl rfl rfl rfl (by decide) ?_
    refine .s_pass rfl rfl rfl rfl rfl (by decide) ?_
    refine .s_step rfl rfl rfl (.pk_f rfl rfl) (by decide) ?_
    refine .s_step rfl rfl rfl (.mv rfl) (by decide) ?_
    refine .s_pass rfl rfl rfl rfl rfl (by decide) ?_
    refine .s_pass rfl rfl rfl rfl rfl (by decide) ?_
    refine .s_pass rfl rfl rfl rfl rfl (by decide) ?_
    refine .s_step rfl rfl rfl (.pk_f rfl rfl) (by decide) ?_
    refine .s_step rfl rfl rfl (.mv rfl) (by decide) ?_
    refine .s_pass rfl rfl rfl rfl rfl (by decide) ?_
    refine .s_pass rfl rfl rfl rfl rfl (by decide) ?_
    refine .s_pass rfl rfl rfl rfl rfl (by decide) ?_
    refine .s_step rfl rfl rfl (.pk_f rfl rfl) (by decide) ?_
    refine .s_step rfl rfl rfl (.mv rfl) (by decide) ?_
    refine .s_pass rfl rfl rfl rfl rfl (by decide) ?_
    refine .s_pass rfl rfl rfl rfl rfl (by decide) ?_
    refine .s_pass rfl rfl rfl rfl rfl (by decide) ?_
    refine .s_pass rfl rfl rfl rfl rfl (by decide) ?_
    refine .s_pass rfl rfl rfl rfl rfl (by decide) ?_
    refine .s_pass rfl rfl rfl rfl rfl (by decide) ?_
    refine .s_pass rfl rfl rfl rfl rfl (by decide) ?_
    refine .s_step rfl rfl rfl (.pk_f rfl rfl) (by decide) ?_
    refine .s_step rfl rfl rfl (.as rfl) (by decide) ?_
    refine .s_nil ?_
    refine .done (.refl _) (by kernel_rfl) ?_
    cases H
    exact .then_n (.ret (.ret1 [] (by simp) rfl rfl ⟨rfl, rfl⟩))

end Go.Fx
