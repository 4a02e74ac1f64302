/- The laws of layer 15, walked. -/
import Derived.Test.YtpkdekhmjjcljaaGreatFxTear15z
namespace Go.Fx
set_option maxRecDepth 10000
def F_tear_End (a0_most : Int) (a0_m : MS api_Path api_Entry) (a1 : api_Path) : Option ((List api_Hop) × (List api_Path) × Int × (MS api_Path api_Entry)) :=
  (F_table_Table_Get a0_most a0_m a1).bind fun x1 => cond (!x1.2) (some (([] : List api_Hop), ([] : List api_Path), a0_most, a0_m)) (cond (decide (0 ≤ x1.1.Na)) (cond (decide (0 ≤ x1.1.Nb)) (some (([] : List api_Hop), ([] : List api_Path), a0_most, a0_m)) ((F_table_Table_Remove a0_most a0_m a1).bind fun x2 => (F_tear_Torn_hop ([] : List api_Hop) ([] : List api_Path) x1.1.Na a1).bind fun x3 => (F_tear_Torn_hop x3.1 x3.2 x1.1.Nb a1).bind fun x4 => some (x4.1, x4.2, x2.2.2.1, x2.2.2.2))) ((F_table_Table_Remove a0_most a0_m a1).bind fun x5 => (F_tear_Torn_hop ([] : List api_Hop) ([] : List api_Path) x1.1.Na a1).bind fun x6 => (F_tear_Torn_hop x6.1 x6.2 x1.1.Nb a1).bind fun x7 => some (x7.1, x7.2, x5.2.2.1, x5.2.2.2)))
theorem W_tear_End (a0_most : Int) (a0_m : MS api_Path api_Entry) (a1 : api_Path) (b_a0 : Nat) (b_a0_m : Nat) (r : (List api_Hop) × (List api_Path) × Int × (MS api_Path api_Entry)) (H : F_tear_End a0_most a0_m a1 = some r) (w : World) (hM : Mem [(some b_a0, .cells (table_Table.enc (table_Table.mk a0_most (.map (some b_a0_m)))) T_table_Table (0, 0)), (some b_a0_m, MS.obj (vA api_Path.enc) (vA api_Entry.enc) a0_m)] w) (hA : List.Pairwise Apart [(some b_a0, .cells (table_Table.enc (table_Table.mk a0_most (.map (some b_a0_m)))) T_table_Table (0, 0)), (some b_a0_m, MS.obj (vA api_Path.enc) (vA api_Entry.enc) a0_m)]) :
    Calls PG f_tear_End #[.pointer (some ⟨b_a0, 0, none⟩), .agg (api_Path.enc a1)] w (Ret w (keysH [(some b_a0, .cells (table_Table.enc (table_Table.mk a0_most (.map (some b_a0_m)))) T_table_Table (0, 0)), (some b_a0_m, MS.obj (vA api_Path.enc) (vA api_Entry.enc) a0_m)]) (fun v nm => ∃ (k_o_q0_Out : Option Nat) (c_o_q0_Out : Nat) (r_o_q0_Out : Array Value) (k_o_q0_Lost : Option Nat) (c_o_q0_Lost : Nat) (r_o_q0_Lost : Array Value), v = .agg (tear_Torn.enc (tear_Torn.mk (slS k_o_q0_Out (r.1).length c_o_q0_Out) (slS k_o_q0_Lost (r.2.1).length c_o_q0_Lost))) ∧ nm = [(k_o_q0_Out, .cells (catA ((r.1).map api_Hop.enc) ++ r_o_q0_Out) T_api_Hop (0, 0)), (k_o_q0_Lost, .cells (catA ((r.2.1).map api_Path.enc) ++ r_o_q0_Lost) T_api_Path (0, 0)), (some b_a0, .cells (table_Table.enc (table_Table.mk r.2.2.1 (.map (some b_a0_m)))) T_table_Table (0, 0)), (some b_a0_m, MS.obj (vA api_Path.enc) (vA api_Entry.enc) r.2.2.2)] ∧ OwnS 96 k_o_q0_Out (r.1).length c_o_q0_Out r_o_q0_Out ∧ OwnS 17 k_o_q0_Lost (r.2.1).length c_o_q0_Lost r_o_q0_Lost)) := by
  unfold F_tear_End at H
  refine enter (n := 39) (args := [.pointer (some ⟨b_a0, 0, none⟩), .agg (api_Path.enc a1)]) [(some b_a0, .cells (table_Table.enc (table_Table.mk a0_most (.map (some b_a0_m)))) T_table_Table (0, 0)), (some b_a0_m, MS.obj (vA api_Path.enc) (vA api_Entry.enc) a0_m)] B_tear_End rfl rfl (by simp) hM hA keysH_mem ?_
  refine .seq (.region (?_))
  refine .box rfl rfl (by decide) fun b3 hb3 => ?_
  refine .alloc N_tear_Torn rfl (by decide) fun b4 hb4 => ?_
  refine .nil (.then_n (.seq (.region (?_))))
  refine .alloc N_tear_Torn rfl (by decide) fun b5 hb5 => ?_
  refine .nil (.then_n (.seq (.region (?_))))
  refine .step (.mv rfl) (by decide) ?_
  refine .step (.ldA rfl (.i 2 rfl) A_api_Path Z_api_Path (api_Path.size _)) (by decide) ?_
  obtain ⟨x1, hx1, H⟩ := bind_s H
  refine .callQ (v := .tuple #[.agg (api_Entry.enc x1.1), .bool (x1.2)]) rfl E_table_Table_Get rfl rfl (fun w hm hf => W_table_Table_Get a0_most a0_m a1 _ _ _ hx1 w (Kn.at (.i 3 rfl) hm hf) (Kn.at (.i 4 rfl) hm hf)) (by decide) ?_
  refine .step (.mv rfl) (by decide) ?_
  refine .step (.xt rfl rfl) (by decide) ?_
  refine .step (.xt rfl rfl) (by decide) ?_
  refine .alloc N_api_Entry rfl (by decide) fun b6 hb6 => ?_
  refine .storeA 0 rfl rfl rfl rfl Z_api_Entry (api_Entry.size _) (api_Entry.one _) (api_Entry.size _) ?_
  refine .step (.as rfl) (by decide) ?_
  refine .nil (.then_n (.seq (.seq (.region (?_)))))
  refine .step (.mv rfl) (by decide) ?_
  refine .step (.not rfl) (by decide) ?_
  refine .step (.mv rfl) (by decide) ?_
  refine .splitb 16 rfl (fun hb1 => ?_) (fun hb1 => ?_)
  · replace H := cond_t hb1 H
    refine .pass rfl rfl (by decide) ?_
    refine .pass rfl rfl (by decide) ?_
    refine .pass rfl rfl (by decide) ?_
    refine .pass rfl rfl (by decide) ?_
    refine .passu rfl rfl (by decide) ?_
    refine .passu rfl rfl (by decide) ?_
    refine .passu rfl rfl (by decide) ?_
    refine .pass rfl rfl (by decide) ?_
    refine .step (.pk_t rfl rfl) (by decide) ?_
    refine .nil (.then_n (.cond_t rfl ?_))
    refine .seq (.region (?_))
    refine .step (.ldA rfl (.i 1 rfl) A_tear_Torn Z_tear_Torn (tear_Torn.size _)) (by decide) ?_
    refine .storeA 2 rfl rfl rfl rfl Z_tear_Torn (tear_Torn.size _) (tear_Torn.one _) (tear_Torn.size _) ?_
    refine .non (o := .cells (catA (([] : List api_Hop).map api_Hop.enc) ++ #[]) T_api_Hop (0, 0)) ?_
    refine .non (o := .cells (catA (([] : List api_Path).map api_Path.enc) ++ #[]) T_api_Path (0, 0)) ?_
    refine .sel [1, 0, 6, 7, 4] (by decide) rfl ?_
    cases H
    exact .nil (.then_n (.ret (.then_r (.retR1 [_, _, _, _] (.cons_cons _ (.cons_cons _ (.cons_cons _ (.cons_cons _ (.cons _ (.slnil)))))) rfl (.ce rfl (.i 4 rfl) A_tear_Torn Z_tear_Torn (tear_Torn.size _)) ⟨none, 0, #[], none, 0, #[], rfl, rfl, ⟨rfl, Nat.le_refl _, fun _ => rfl⟩, ⟨rfl, Nat.le_refl _, fun _ => rfl⟩⟩))))
  · replace H := cond_f hb1 H
    refine .stepg rfl (.fa rfl F_api_Entry_Na Z_int) (by decide) ?_
    refine .stepg rfl (.ld1 rfl (.i 0 rfl) A_int (api_Entry.g_Na _)) (by decide) ?_
    refine .stepg rfl (.geq rfl rfl) (by decide) ?_
    refine .stepg rfl (.mv rfl) (by decide) ?_
    refine .splitb 20 rfl (fun hb2 => ?_) (fun hb2 => ?_)
    · replace H := cond_t hb2 H
      refine .stepg rfl (.fa rfl F_api_Entry_Nb Z_int) (by decide) ?_
      refine .stepg rfl (.ld1 rfl (.i 0 rfl) A_int (api_Entry.g_Nb _)) (by decide) ?_
      refine .stepg rfl (.geq rfl rfl) (by decide) ?_
      refine .stepg rfl (.pk_t rfl rfl) (by decide) ?_
      refine .step (.pk_f rfl rfl) (by decide) ?_
      refine .nil (.then_n (.cond rfl (fun hc1 => ?_) (fun hc1 => ?_)))
      · replace H := cond_t hc1 H
        refine .seq (.region (?_))
        refine .step (.ldA rfl (.i 1 rfl) A_tear_Torn Z_tear_Torn (tear_Torn.size _)) (by decide) ?_
        refine .storeA 2 rfl rfl rfl rfl Z_tear_Torn (tear_Torn.size _) (tear_Torn.one _) (tear_Torn.size _) ?_
        refine .non (o := .cells (catA (([] : List api_Hop).map api_Hop.enc) ++ #[]) T_api_Hop (0, 0)) ?_
        refine .non (o := .cells (catA (([] : List api_Path).map api_Path.enc) ++ #[]) T_api_Path (0, 0)) ?_
        refine .sel [1, 0, 6, 7, 4] (by decide) rfl ?_
        cases H
        exact .nil (.then_n (.ret (.then_r (.retR1 [_, _, _, _] (.cons_cons _ (.cons_cons _ (.cons_cons _ (.cons_cons _ (.cons _ (.slnil)))))) rfl (.ce rfl (.i 4 rfl) A_tear_Torn Z_tear_Torn (tear_Torn.size _)) ⟨none, 0, #[], none, 0, #[], rfl, rfl, ⟨rfl, Nat.le_refl _, fun _ => rfl⟩, ⟨rfl, Nat.le_refl _, fun _ => rfl⟩⟩))))
      · replace H := cond_f hc1 H
        refine .skip (.then_n (.seq (.region (?_))))
        refine .step (.mv rfl) (by decide) ?_
        refine .step (.ldA rfl (.i 3 rfl) A_api_Path Z_api_Path (api_Path.size _)) (by decide) ?_
        obtain ⟨x2, hx2, H⟩ := bind_s H
        refine .sel [4, 5, 0, 1, 2, 3] (by decide) rfl ?_
        refine .callM (dst := some 29) 2 rfl E_table_Table_Remove rfl rfl (fun w hh => W_table_Table_Remove a0_most a0_m a1 _ _ _ hx2 w hh.pk hh.pa ) (fun d hd => by cases hd; decide) fun v nm hR => ?_
        obtain ⟨rfl, rfl⟩ := hR
        refine .nil (.then_n (.seq (.region (?_))))
        refine .step (.fa rfl F_api_Entry_Na Z_int) (by decide) ?_
        refine .step (.ld1 rfl (.i 2 rfl) A_int (api_Entry.g_Na _)) (by decide) ?_
        refine .step (.ldA rfl (.i 5 rfl) A_api_Path Z_api_Path (api_Path.size _)) (by decide) ?_
        refine .non (o := .cells (catA (([] : List api_Hop).map api_Hop.enc) ++ #[]) T_api_Hop (0, 0)) ?_
        refine .non (o := .cells (catA (([] : List api_Path).map api_Path.enc) ++ #[]) T_api_Path (0, 0)) ?_
        obtain ⟨x3, hx3, H⟩ := bind_s H
        refine .sel [5, 1, 0, 2, 3, 4, 6, 7] (by decide) rfl ?_
        refine .callM (dst := some 33) 3 rfl E_tear_Torn_hop rfl rfl (fun w hh => W_tear_Torn_hop ([] : List api_Hop) ([] : List api_Path) x1.1.Na a1 _ _ _ _ _ _ _ _ hx3 w hh.pk hh.pa ⟨rfl, Nat.le_refl _, fun _ => rfl⟩ ⟨rfl, Nat.le_refl _, fun _ => rfl⟩) (fun d hd => by cases hd; decide) fun v nm hR => ?_
        obtain ⟨k_o_33_w0_Out, c_o_33_w0_Out, r_o_33_w0_Out, k_o_33_w0_Lost, c_o_33_w0_Lost, r_o_33_w0_Lost, rfl, rfl, ho_o_33_w0_Out, ho_o_33_w0_Lost⟩ := hR
        refine .nil (.then_n (.seq (.region (?_))))
        refine .step (.fa rfl F_api_Entry_Nb Z_int) (by decide) ?_
        refine .step (.ld1 rfl (.i 5 rfl) A_int (api_Entry.g_Nb _)) (by decide) ?_
        refine .step (.ldA rfl (.i 7 rfl) A_api_Path Z_api_Path (api_Path.size _)) (by decide) ?_
        obtain ⟨x4, hx4, H⟩ := bind_s H
        refine .callM (dst := some 37) 3 rfl E_tear_Torn_hop rfl rfl (fun w hh => W_tear_Torn_hop x3.1 x3.2 x1.1.Nb a1 _ _ _ _ _ _ _ _ hx4 w hh.pk hh.pa ho_o_33_w0_Out ho_o_33_w0_Lost) (fun d hd => by cases hd; decide) fun v nm hR => ?_
        obtain ⟨k_o_37_w0_Out, c_o_37_w0_Out, r_o_37_w0_Out, k_o_37_w0_Lost, c_o_37_w0_Lost, r_o_37_w0_Lost, rfl, rfl, ho_o_37_w0_Out, ho_o_37_w0_Lost⟩ := hR
        refine .nil (.then_n (.seq (.region (?_))))
        refine .step (.ldA rfl (.i 0 rfl) A_tear_Torn Z_tear_Torn (tear_Torn.size _)) (by decide) ?_
        refine .storeA 6 rfl rfl rfl rfl Z_tear_Torn (tear_Torn.size _) (tear_Torn.one _) (tear_Torn.size _) ?_
        refine .sel [1, 2, 3, 4, 6] (by decide) rfl ?_
        cases H
        exact .nil (.then_n (.ret (.retR1 [_, _, _, _] (.cons_cons _ (.cons_cons _ (.cons_cons _ (.cons_cons _ (.cons _ (.slnil)))))) rfl (.ce rfl (.i 4 rfl) A_tear_Torn Z_tear_Torn (tear_Torn.size _)) ⟨k_o_37_w0_Out, c_o_37_w0_Out, r_o_37_w0_Out, k_o_37_w0_Lost, c_o_37_w0_Lost, r_o_37_w0_Lost, rfl, rfl, ho_o_37_w0_Out, ho_o_37_w0_Lost⟩)))
    · replace H := cond_f hb2 H
      refine .pass rfl rfl (by decide) ?_
      refine .pass rfl rfl (by decide) ?_
      refine .pass rfl rfl (by decide) ?_
      refine .stepg rfl (.pk_f rfl rfl) (by decide) ?_
      refine .step (.pk_f rfl rfl) (by decide) ?_
      refine .nil (.then_n (.cond_f rfl ?_))
      refine .skip (.then_n (.seq (.region (?_))))
      refine .step (.mv rfl) (by decide) ?_
      refine .step (.ldA rfl (.i 3 rfl) A_api_Path Z_api_Path (api_Path.size _)) (by decide) ?_
      obtain ⟨x5, hx5, H⟩ := bind_s H
      refine .sel [4, 5, 0, 1, 2, 3] (by decide) rfl ?_
      refine .callM (dst := some 29) 2 rfl E_table_Table_Remove rfl rfl (fun w hh => W_table_Table_Remove a0_most a0_m a1 _ _ _ hx5 w hh.pk hh.pa ) (fun d hd => by cases hd; decide) fun v nm hR => ?_
      obtain ⟨rfl, rfl⟩ := hR
      refine .nil (.then_n (.seq (.region (?_))))
      refine .step (.fa rfl F_api_Entry_Na Z_int) (by decide) ?_
      refine .step (.ld1 rfl (.i 2 rfl) A_int (api_Entry.g_Na _)) (by decide) ?_
      refine .step (.ldA rfl (.i 5 rfl) A_api_Path Z_api_Path (api_Path.size _)) (by decide) ?_
      refine .non (o := .cells (catA (([] : List api_Hop).map api_Hop.enc) ++ #[]) T_api_Hop (0, 0)) ?_
      refine .non (o := .cells (catA (([] : List api_Path).map api_Path.enc) ++ #[]) T_api_Path (0, 0)) ?_
      obtain ⟨x6, hx6, H⟩ := bind_s H
      refine .sel [5, 1, 0, 2, 3, 4, 6, 7] (by decide) rfl ?_
      refine .callM (dst := some 33) 3 rfl E_tear_Torn_hop rfl rfl (fun w hh => W_tear_Torn_hop ([] : List api_Hop) ([] : List api_Path) x1.1.Na a1 _ _ _ _ _ _ _ _ hx6 w hh.pk hh.pa ⟨rfl, Nat.le_refl _, fun _ => rfl⟩ ⟨rfl, Nat.le_refl _, fun _ => rfl⟩) (fun d hd => by cases hd; decide) fun v nm hR => ?_
      obtain ⟨k_o_33_w0_Out, c_o_33_w0_Out, r_o_33_w0_Out, k_o_33_w0_Lost, c_o_33_w0_Lost, r_o_33_w0_Lost, rfl, rfl, ho_o_33_w0_Out, ho_o_33_w0_Lost⟩ := hR
      refine .nil (.then_n (.seq (.region (?_))))
      refine .step (.fa rfl F_api_Entry_Nb Z_int) (by decide) ?_
      refine .step (.ld1 rfl (.i 5 rfl) A_int (api_Entry.g_Nb _)) (by decide) ?_
      refine .step (.ldA rfl (.i 7 rfl) A_api_Path Z_api_Path (api_Path.size _)) (by decide) ?_
      obtain ⟨x7, hx7, H⟩ := bind_s H
      refine .callM (dst := some 37) 3 rfl E_tear_Torn_hop rfl rfl (fun w hh => W_tear_Torn_hop x6.1 x6.2 x1.1.Nb a1 _ _ _ _ _ _ _ _ hx7 w hh.pk hh.pa ho_o_33_w0_Out ho_o_33_w0_Lost) (fun d hd => by cases hd; decide) fun v nm hR => ?_
      obtain ⟨k_o_37_w0_Out, c_o_37_w0_Out, r_o_37_w0_Out, k_o_37_w0_Lost, c_o_37_w0_Lost, r_o_37_w0_Lost, rfl, rfl, ho_o_37_w0_Out, ho_o_37_w0_Lost⟩ := hR
      refine .nil (.then_n (.seq (.region (?_))))
      refine .step (.ldA rfl (.i 0 rfl) A_tear_Torn Z_tear_Torn (tear_Torn.size _)) (by decide) ?_
      refine .storeA 6 rfl rfl rfl rfl Z_tear_Torn (tear_Torn.size _) (tear_Torn.one _) (tear_Torn.size _) ?_
      refine .sel [1, 2, 3, 4, 6] (by decide) rfl ?_
      cases H
      exact .nil (.then_n (.ret (.retR1 [_, _, _, _] (.cons_cons _ (.cons_cons _ (.cons_cons _ (.cons_cons _ (.cons _ (.slnil)))))) rfl (.ce rfl (.i 4 rfl) A_tear_Torn Z_tear_Torn (tear_Torn.size _)) ⟨k_o_37_w0_Out, c_o_37_w0_Out, r_o_37_w0_Out, k_o_37_w0_Lost, c_o_37_w0_Lost, r_o_37_w0_Lost, rfl, rfl, ho_o_37_w0_Out, ho_o_37_w0_Lost⟩)))

def F_annuletlaw15_laid_L1 (a0 : List api_Entry) (again1 : (Int × List api_Entry × Int × MS api_Path api_Entry × Int) → Option (Int × (MS api_Path api_Entry) × (List api_Entry) × Int)) (st : Int × List api_Entry × Int × MS api_Path api_Entry × Int) : Option (Int × (MS api_Path api_Entry) × (List api_Entry) × Int) :=
  match st with | (v_b_9_Most_1, l_o_9_L_1, v_b_8_most_1, m_b_8_m_1, s12_1) => cond (decide (s12_1 < (((a0).length : Nat) : Int))) ((ixL a0 s12_1).bind fun x3 => (F_table_Table_Add v_b_8_most_1 m_b_8_m_1 x3).bind fun x4 => (F_annuletref12_Table_Add l_o_9_L_1 v_b_9_Most_1 x3).bind fun x5 => again1 (x5.2.2, x5.2.1, x4.2.1, x4.2.2, (IntKind.wrap .i64 (s12_1 + 1)))) (some (v_b_8_most_1, m_b_8_m_1, l_o_9_L_1, v_b_9_Most_1))
def F_annuletlaw15_laid (a0 : List api_Entry) : Option (Int × (MS api_Path api_Entry) × (List api_Entry) × Int) :=
  (F_table_New 128).bind fun x1 => (F_annuletref12_New 128).bind fun x2 => iter (F_annuletlaw15_laid_L1 a0) FUEL (x2.2, x2.1, x1.1, x1.2, 0)
theorem W_annuletlaw15_laid (a0 : List api_Entry) (p_a0 : Option Addr) (c_a0 : Nat) (r : Int × (MS api_Path api_Entry) × (List api_Entry) × Int) (H : F_annuletlaw15_laid a0 = some r) (w : World) (hR_a0 : Ro api_Entry.enc 51 w p_a0 a0 c_a0) :
    Calls PG f_annuletlaw15_laid #[.slice p_a0 (a0).length c_a0] w (Ret w [] (fun v nm => ∃ (b_q0 : Nat) (b_q0_m : Nat) (b_q1 : Nat) (k_o_q1_L : Option Nat) (c_o_q1_L : Nat) (r_o_q1_L : Array Value), v = .tuple #[.pointer (some ⟨b_q0, 0, none⟩), .pointer (some ⟨b_q1, 0, none⟩)] ∧ nm = [(some b_q0, .cells (table_Table.enc (table_Table.mk r.1 (.map (some b_q0_m)))) T_table_Table (0, 0)), (some b_q0_m, MS.obj (vA api_Path.enc) (vA api_Entry.enc) r.2.1), (some b_q1, .cells (annuletref12_Table.enc (annuletref12_Table.mk (slS k_o_q1_L (r.2.2.1).length c_o_q1_L) r.2.2.2)) T_annuletref12_Table (0, 0)), (k_o_q1_L, .cells (catA ((r.2.2.1).map api_Entry.enc) ++ r_o_q1_L) T_api_Entry (0, 0))] ∧ OwnS 51 k_o_q1_L (r.2.2.1).length c_o_q1_L r_o_q1_L)) := by
  unfold F_annuletlaw15_laid at H
  refine enter0 (n := 25) (args := [.slice p_a0 (a0).length c_a0]) B_annuletlaw15_laid rfl rfl (by simp) ?_
  refine .seq (.region (?_))
  refine .step (.as rfl) (by decide) ?_
  refine .step (.as rfl) (by decide) ?_
  refine .nil (.then_n (.seq (.region (?_))))
  obtain ⟨x1, hx1, H⟩ := bind_s H
  refine .call0 rfl E_table_New rfl rfl (fun w hm hf => W_table_New 128  _ hx1 w ) (by decide) fun v nm hR => ?_
  obtain ⟨b_8, b_8_m, rfl, rfl⟩ := hR
  refine .step (.as rfl) (by decide) ?_
  refine .nil (.then_n (.seq (.region (?_))))
  obtain ⟨x2, hx2, H⟩ := bind_s H
  refine .call0 rfl E_annuletref12_New rfl rfl (fun w hm hf => W_annuletref12_New 128  _ hx2 w ) (by decide) fun v nm hR => ?_
  obtain ⟨b_9, k_o_9_L, c_o_9_L, r_o_9_L, rfl, rfl, ho_o_9_L⟩ := hR
  refine .step (.as rfl) (by decide) ?_
  refine .nil (.then_n (.seq (.seq (.region (?_)))))
  refine .step (.mv rfl) (by decide) ?_
  refine .step (.len L_sl_api_Entry rfl) (by decide) ?_
  refine .step (.mv rfl) (by decide) ?_
  refine .nil (.then_n (.block (.loop (G := Nat × (Int × List api_Entry × Int × MS api_Path api_Entry × Int) × (Option Nat) × (Nat) × (Array Value)) (fun g => iter (F_annuletlaw15_laid_L1 a0) g.1 g.2.1 = some r ∧ OwnS 51 g.2.2.1 (g.2.1.2.1).length g.2.2.2.1 g.2.2.2.2) (fun g => [(some b_9, .cells (annuletref12_Table.enc (annuletref12_Table.mk (slS g.2.2.1 (g.2.1.2.1).length g.2.2.2.1) g.2.1.1)) T_annuletref12_Table (0, 0)), (g.2.2.1, .cells (catA ((g.2.1.2.1).map api_Entry.enc) ++ g.2.2.2.2) T_api_Entry (0, 0)), (some b_8, .cells (table_Table.enc (table_Table.mk g.2.1.2.2.1 (.map (some b_8_m)))) T_table_Table (0, 0)), (some b_8_m, MS.obj (vA api_Path.enc) (vA api_Entry.enc) g.2.1.2.2.2.1)]) (fun g => [(4, .pointer (some ⟨b_8, 0, none⟩)), (5, .pointer (some ⟨b_9, 0, none⟩)), (10, .slice p_a0 (a0).length c_a0), (11, .int .i64 ((((a0).length : Nat) : Int))), (12, .int .i64 (g.2.1.2.2.2.2))]) (fun g => g.1) ⟨FUEL, (x2.2, x2.1, x1.1, x1.2, 0), k_o_9_L, c_o_9_L, r_o_9_L⟩ ⟨H, ho_o_9_L⟩ (.refl _) (.cons rfl (.cons rfl (.cons rfl (.cons rfl (.cons rfl .nil))))) ?_)))
  rintro ⟨_ | fl1, ⟨v_b_9_Most_1, l_o_9_L_1, v_b_8_most_1, m_b_8_m_1, s12_1⟩, k_o_9_L_1, c_o_9_L_1, r_o_9_L_1⟩ ⟨H, ho_o_9_L_1⟩
  · exact (iter_0 H).elim
  replace H := iter_s H; rw [F_annuletlaw15_laid_L1] at H; dsimp only at H ⊢
  refine .seq (.region (?_))
  refine .step (.lss rfl rfl) (by decide) ?_
  refine .nil (.then_n (.seq (.cond rfl (fun hc1 => ?_) (fun hc1 => ?_))))
  · replace H := cond_t hc1 H
    refine .skip (.then_n (.seq (.block (.seq (.region (?_))))))
    obtain ⟨x3, hx3, H⟩ := bind_s H
    refine .step (.ixP (.par hR_a0) hx3 rfl rfl L_sl_api_Entry Z_api_Entry) (by decide) ?_
    refine .step (.ldP (.par hR_a0) hx3 rfl A_api_Entry Z_api_Entry) (by decide) ?_
    refine .alloc N_api_Entry rfl (by decide) fun b7 hb7 => ?_
    refine .storeA 0 rfl rfl rfl rfl Z_api_Entry (api_Entry.size _) (api_Entry.one _) (api_Entry.size _) ?_
    refine .nil (.then_n (.seq (.region (?_))))
    refine .step (.mv rfl) (by decide) ?_
    refine .step (.ldA rfl (.i 0 rfl) A_api_Entry Z_api_Entry (api_Entry.size _)) (by decide) ?_
    obtain ⟨x4, hx4, H⟩ := bind_s H
    refine .sel [3, 4, 0, 1, 2] (by decide) rfl ?_
    refine .callM (dst := some 18) 2 rfl E_table_Table_Add rfl rfl (fun w hh => W_table_Table_Add v_b_8_most_1 m_b_8_m_1 x3 _ _ _ hx4 w hh.pk hh.pa ) (fun d hd => by cases hd; decide) fun v nm hR => ?_
    obtain ⟨rfl, rfl⟩ := hR
    refine .nil (.then_n (.region (?_)))
    refine .step (.mv rfl) (by decide) ?_
    refine .step (.ldA rfl (.i 2 rfl) A_api_Entry Z_api_Entry (api_Entry.size _)) (by decide) ?_
    obtain ⟨x5, hx5, H⟩ := bind_s H
    refine .sel [3, 4, 0, 1, 2] (by decide) rfl ?_
    refine .callM (dst := some 21) 2 rfl E_annuletref12_Table_Add rfl rfl (fun w hh => W_annuletref12_Table_Add l_o_9_L_1 v_b_9_Most_1 x3 _ _ _ _ _ hx5 w hh.pk hh.pa ho_o_9_L_1) (fun d hd => by cases hd; decide) fun v nm hR => ?_
    obtain ⟨k_o_21_w0_L, c_o_21_w0_L, r_o_21_w0_L, rfl, rfl, ho_o_21_w0_L⟩ := hR
    refine .nil (.blk_n (.then_n (.region (?_))))
    refine .step (.add rfl rfl) (by decide) ?_
    refine .step (.mv rfl) (by decide) ?_
    refine .nil (.then_n (?_))
    exact .again ⟨fl1, (x5.2.2, x5.2.1, x4.2.1, x4.2.2, (IntKind.wrap .i64 (s12_1 + 1))), k_o_21_w0_L, c_o_21_w0_L, r_o_21_w0_L⟩ ⟨H, ho_o_21_w0_L⟩ (Nat.lt_succ_self _) (.cons_cons _ (.cons_cons _ (.cons_cons _ (.cons_cons _ (.cons _ (.slnil)))))) (.cons rfl (.cons rfl (.cons rfl (.cons rfl (.cons rfl .nil)))))
  · replace H := cond_f hc1 H
    refine .exit (.then_x (.then_x (.blk_x (.then_n (.seq (.region (?_)))))))
    refine .step (.mv rfl) (by decide) ?_
    refine .step (.mv rfl) (by decide) ?_
    refine .step (.as rfl) (by decide) ?_
    refine .step (.as rfl) (by decide) ?_
    refine .sel [2, 3, 0, 1] (by decide) rfl ?_
    cases H
    exact .nil (.then_n (.ret (.ret2 [_, _, _, _] (.refl _) rfl rfl rfl ⟨b_8, b_8_m, b_9, k_o_9_L_1, c_o_9_L_1, r_o_9_L_1, rfl, rfl, ho_o_9_L_1⟩)))

def F_annuletlaw15_fixed : Option (Bool) :=
  (mkIdn [(0, 1)]).bind fun x1 => (mkIdn [(0, 1)]).bind fun x2 => (F_annuletlaw15_laid ([(api_Entry.mk (api_Path.mk Idn.zero 1) Idn.zero x1 0 2), (api_Entry.mk (api_Path.mk Idn.zero 2) Idn.zero x2 (-1) 0)] : List api_Entry)).bind fun x3 => (F_tear_Drop x3.1 x3.2.1 4 (api_Path.mk Idn.zero 1)).bind fun x4 => (F_tear_Dead x4.2.2.1 x4.2.2.2 0).bind fun x5 => cond (decide ((IntKind.wrap .i64 ((((x4.1).length : Nat) : Int) + (((x4.2.1).length : Nat) : Int))) = 0)) (cond (decide ((((x5.1).length : Nat) : Int) = 1)) ((ixL x5.1 0).bind fun x6 => cond (decide (x6.N = 2)) ((ixL x5.1 0).bind fun x7 => cond (decide (x7.F.P.N = 1)) (cond (decide ((((x5.2.1).length : Nat) : Int) = 1)) ((ixL x5.2.1 0).bind fun x8 => cond (decide (x8.N = 2)) ((F_table_Table_Len x5.2.2.1 x5.2.2.2).bind fun x9 => some (decide (x9 = 0))) (some false)) (some false)) (some false)) (some false)) (some false)) (some false)
theorem W_annuletlaw15_fixed (r : Bool) (H : F_annuletlaw15_fixed = some r) (w : World) :
    Calls PG f_annuletlaw15_fixed #[] w (Ret w [] (fun v nm => v = .bool (r) ∧ nm = [])) := by
  unfold F_annuletlaw15_fixed at H
  refine enter0 (n := 74) (args := []) B_annuletlaw15_fixed rfl rfl (by simp) ?_
  refine .seq (.region (?_))
  refine .step (.as rfl) (by decide) ?_
  refine .nil (.then_n (.seq (.region (?_))))
  refine .step (.bdS rfl N_api_Path rfl W_api_Path (.cons rfl rfl (le_of (api_Path.size _) (by decide)) (api_Path.u_N _ _) (.nil))) (by decide) ?_
  obtain ⟨x1, hx1, H⟩ := bind_s H
  refine .step (.bdA rfl N_api_ID rfl R_api_ID Z_uint8 (mkIdn_bld hx1)) (by decide) ?_
  refine .step (.bdS rfl N_api_Entry rfl W_api_Entry (.cons rfl (api_Path.size _) (le_of (api_Entry.size _) (by decide)) (api_Entry.u_P _ _) (.cons rfl (Idn.size _) (le_of (api_Entry.size _) (by decide)) (api_Entry.u_B _ _) (.cons rfl rfl (le_of (api_Entry.size _) (by decide)) (api_Entry.u_Na _ _) (.cons rfl rfl (le_of (api_Entry.size _) (by decide)) (api_Entry.u_Nb _ _) (.nil)))))) (by decide) ?_
  refine .step (.bdS rfl N_api_Path rfl W_api_Path (.cons rfl rfl (le_of (api_Path.size _) (by decide)) (api_Path.u_N _ _) (.nil))) (by decide) ?_
  obtain ⟨x2, hx2, H⟩ := bind_s H
  refine .step (.bdA rfl N_api_ID rfl R_api_ID Z_uint8 (mkIdn_bld hx2)) (by decide) ?_
  refine .step (.bdS rfl N_api_Entry rfl W_api_Entry (.cons rfl (api_Path.size _) (le_of (api_Entry.size _) (by decide)) (api_Entry.u_P _ _) (.cons rfl (Idn.size _) (le_of (api_Entry.size _) (by decide)) (api_Entry.u_B _ _) (.cons rfl rfl (le_of (api_Entry.size _) (by decide)) (api_Entry.u_Na _ _) (.cons rfl rfl (le_of (api_Entry.size _) (by decide)) (api_Entry.u_Nb _ _) (.nil)))))) (by decide) ?_
  refine .bsL (vs := [.agg (api_Entry.enc (api_Entry.mk (api_Path.mk Idn.zero 1) Idn.zero x1 0 2)), .agg (api_Entry.enc (api_Entry.mk (api_Path.mk Idn.zero 2) Idn.zero x2 (-1) 0))]) (c := catA (([(api_Entry.mk (api_Path.mk Idn.zero 1) Idn.zero x1 0 2), (api_Entry.mk (api_Path.mk Idn.zero 2) Idn.zero x2 (-1) 0)] : List api_Entry).map api_Entry.enc) ++ #[]) (len := 2) L_sl_api_Entry Z_api_Entry N_api_Entry rfl rfl (by intro v hv; simp only [List.mem_cons, List.not_mem_nil, or_false] at hv; rcases hv with rfl | rfl <;> exact api_Entry.size _) (by rw [Array.append_empty]; rfl) (by decide) (by decide) (by decide) fun b12 hb12 => ?_
  have hob12 : OwnS 51 (some b12) ([(api_Entry.mk (api_Path.mk Idn.zero 1) Idn.zero x1 0 2), (api_Entry.mk (api_Path.mk Idn.zero 2) Idn.zero x2 (-1) 0)] : List api_Entry).length 2 #[] := ⟨rfl, Nat.le_refl _, fun h => by cases h⟩
  obtain ⟨x3, hx3, H⟩ := bind_s H
  refine .call0 rfl E_annuletlaw15_laid rfl rfl (fun w hm hf => W_annuletlaw15_laid ([(api_Entry.mk (api_Path.mk Idn.zero 1) Idn.zero x1 0 2), (api_Entry.mk (api_Path.mk Idn.zero 2) Idn.zero x2 (-1) 0)] : List api_Entry) _ _ _ hx3 w (RoK.at ((RoK.own 0 api_Entry.size rfl hob12)) hm hf)) (by decide) fun v nm hR => ?_
  obtain ⟨b_13_0, b_13_0_m, b_13_1, k_o_13_1_L, c_o_13_1_L, r_o_13_1_L, rfl, rfl, ho_o_13_1_L⟩ := hR
  refine .step (.mv rfl) (by decide) ?_
  refine .step (.xt rfl rfl) (by decide) ?_
  refine .step (.xt rfl rfl) (by decide) ?_
  refine .step (.as rfl) (by decide) ?_
  refine .step (.as rfl) (by decide) ?_
  refine .nil (.then_n (.seq (.seq (.region (?_)))))
  refine .step (.mv rfl) (by decide) ?_
  refine .step (.eqPtr P_pt_table_Table rfl rfl (by simp)) (by decide) ?_
  refine .nil (.then_n (.cond_f rfl ?_))
  refine .skip (.then_n (.seq (.region (?_))))
  refine .step (.mv rfl) (by decide) ?_
  refine .step (.bdS rfl N_api_Path rfl W_api_Path (.cons rfl rfl (le_of (api_Path.size _) (by decide)) (api_Path.u_N _ _) (.nil))) (by decide) ?_
  obtain ⟨x4, hx4, H⟩ := bind_s H
  refine .callM (dst := some 20) 2 rfl E_tear_Drop rfl rfl (fun w hh => W_tear_Drop x3.1 x3.2.1 4 (api_Path.mk Idn.zero 1) _ _ _ hx4 w hh.pk hh.pa ) (fun d hd => by cases hd; decide) fun v nm hR => ?_
  obtain ⟨k_o_20_Out, c_o_20_Out, r_o_20_Out, k_o_20_Lost, c_o_20_Lost, r_o_20_Lost, rfl, rfl, ho_o_20_Out, ho_o_20_Lost⟩ := hR
  refine .alloc N_tear_Torn rfl (by decide) fun b3 hb3 => ?_
  refine .storeA 0 rfl rfl rfl rfl Z_tear_Torn (tear_Torn.size _) (tear_Torn.one _) (tear_Torn.size _) ?_
  refine .nil (.then_n (.seq (.region (?_))))
  refine .step (.mv rfl) (by decide) ?_
  obtain ⟨x5, hx5, H⟩ := bind_s H
  refine .sel [3, 4, 0, 1, 2, 5, 6, 7] (by decide) rfl ?_
  refine .callM (dst := some 22) 2 rfl E_tear_Dead rfl rfl (fun w hh => W_tear_Dead x4.2.2.1 x4.2.2.2 0 _ _ _ hx5 w hh.pk hh.pa ) (fun d hd => by cases hd; decide) fun v nm hR => ?_
  obtain ⟨k_o_22_Out, c_o_22_Out, r_o_22_Out, k_o_22_Lost, c_o_22_Lost, r_o_22_Lost, rfl, rfl, ho_o_22_Out, ho_o_22_Lost⟩ := hR
  refine .alloc N_tear_Torn rfl (by decide) fun b4 hb4 => ?_
  refine .storeA 0 rfl rfl rfl rfl Z_tear_Torn (tear_Torn.size _) (tear_Torn.one _) (tear_Torn.size _) ?_
  refine .nil (.then_n (.seq (.region (?_))))
  refine .step (.fa rfl F_tear_Torn_Out Z_sl_api_Hop) (by decide) ?_
  refine .step (.ld1 (v := slv k_o_20_Out (x4.1).length c_o_20_Out) rfl (.i 5 rfl) A_sl_api_Hop (tear_Torn.g_Out _)) (by decide) ?_
  refine .step (.len L_sl_api_Hop rfl) (by decide) ?_
  refine .step (.fa rfl F_tear_Torn_Lost Z_sl_api_Path) (by decide) ?_
  refine .step (.ld1 (v := slv k_o_20_Lost (x4.2.1).length c_o_20_Lost) rfl (.i 5 rfl) A_sl_api_Path (tear_Torn.g_Lost _)) (by decide) ?_
  refine .step (.len L_sl_api_Path rfl) (by decide) ?_
  refine .step (.add rfl rfl) (by decide) ?_
  refine .step (.eql rfl rfl) (by decide) ?_
  refine .step (.mv rfl) (by decide) ?_
  refine .splitb 31 rfl (fun hb1 => ?_) (fun hb1 => ?_)
  · replace H := cond_t hb1 H
    refine .stepg rfl (.fa rfl F_tear_Torn_Out Z_sl_api_Hop) (by decide) ?_
    refine .stepg rfl (.ld1 (v := slv k_o_22_Out (x5.1).length c_o_22_Out) rfl (.i 0 rfl) A_sl_api_Hop (tear_Torn.g_Out _)) (by decide) ?_
    refine .stepg rfl (.len L_sl_api_Hop rfl) (by decide) ?_
    refine .stepg rfl (.eql rfl rfl) (by decide) ?_
    refine .step (.pk_t rfl rfl) (by decide) ?_
    refine .step (.mv rfl) (by decide) ?_
    refine .splitb 37 rfl (fun hb2 => ?_) (fun hb2 => ?_)
    · replace H := cond_t hb2 H
      refine .stepg rfl (.fa rfl F_tear_Torn_Out Z_sl_api_Hop) (by decide) ?_
      refine .stepg rfl (.ld1 (v := slv k_o_22_Out (x5.1).length c_o_22_Out) rfl (.i 0 rfl) A_sl_api_Hop (tear_Torn.g_Out _)) (by decide) ?_
      obtain ⟨x6, hx6, H⟩ := bind_s H
      refine .stepg rfl (.ixP (.own 1 api_Hop.size rfl ho_o_22_Out) hx6 rfl rfl L_sl_api_Hop Z_api_Hop) (by decide) ?_
      refine .stepg rfl (.faP (.own 1 api_Hop.size rfl ho_o_22_Out) hx6 rfl F_api_Hop_N Z_int) (by decide) ?_
      refine .stepg rfl (.ldP1 (.own 1 api_Hop.size rfl ho_o_22_Out) hx6 rfl A_int (api_Hop.g_N _)) (by decide) ?_
      refine .stepg rfl (.eql rfl rfl) (by decide) ?_
      refine .step (.pk_t rfl rfl) (by decide) ?_
      refine .step (.mv rfl) (by decide) ?_
      refine .splitb 45 rfl (fun hb3 => ?_) (fun hb3 => ?_)
      · replace H := cond_t hb3 H
        refine .stepg rfl (.fa rfl F_tear_Torn_Out Z_sl_api_Hop) (by decide) ?_
        refine .stepg rfl (.ld1 (v := slv k_o_22_Out (x5.1).length c_o_22_Out) rfl (.i 0 rfl) A_sl_api_Hop (tear_Torn.g_Out _)) (by decide) ?_
        obtain ⟨x7, hx7, H⟩ := bind_s H
        refine .stepg rfl (.ixP (.own 1 api_Hop.size rfl ho_o_22_Out) hx7 rfl rfl L_sl_api_Hop Z_api_Hop) (by decide) ?_
        refine .stepg rfl (.faP (.own 1 api_Hop.size rfl ho_o_22_Out) hx7 rfl F_api_Hop_F Z_api_Frame) (by decide) ?_
        refine .stepg rfl (.faP (.own 1 api_Hop.size rfl ho_o_22_Out) hx7 rfl F_api_Frame_P Z_api_Path) (by decide) ?_
        refine .stepg rfl (.faP (.own 1 api_Hop.size rfl ho_o_22_Out) hx7 rfl F_api_Path_N Z_int64) (by decide) ?_
        refine .stepg rfl (.ldP1 (.own 1 api_Hop.size rfl ho_o_22_Out) hx7 rfl A_int64 (api_Hop.g_F_P_N _)) (by decide) ?_
        refine .stepg rfl (.eql rfl rfl) (by decide) ?_
        refine .step (.pk_t rfl rfl) (by decide) ?_
        refine .step (.mv rfl) (by decide) ?_
        refine .splitb 55 rfl (fun hb4 => ?_) (fun hb4 => ?_)
        · replace H := cond_t hb4 H
          refine .stepg rfl (.fa rfl F_tear_Torn_Lost Z_sl_api_Path) (by decide) ?_
          refine .stepg rfl (.ld1 (v := slv k_o_22_Lost (x5.2.1).length c_o_22_Lost) rfl (.i 0 rfl) A_sl_api_Path (tear_Torn.g_Lost _)) (by decide) ?_
          refine .stepg rfl (.len L_sl_api_Path rfl) (by decide) ?_
          refine .stepg rfl (.eql rfl rfl) (by decide) ?_
          refine .step (.pk_t rfl rfl) (by decide) ?_
          refine .step (.mv rfl) (by decide) ?_
          refine .splitb 61 rfl (fun hb5 => ?_) (fun hb5 => ?_)
          · replace H := cond_t hb5 H
            refine .stepg rfl (.fa rfl F_tear_Torn_Lost Z_sl_api_Path) (by decide) ?_
            refine .stepg rfl (.ld1 (v := slv k_o_22_Lost (x5.2.1).length c_o_22_Lost) rfl (.i 0 rfl) A_sl_api_Path (tear_Torn.g_Lost _)) (by decide) ?_
            obtain ⟨x8, hx8, H⟩ := bind_s H
            refine .stepg rfl (.ixP (.own 2 api_Path.size rfl ho_o_22_Lost) hx8 rfl rfl L_sl_api_Path Z_api_Path) (by decide) ?_
            refine .stepg rfl (.faP (.own 2 api_Path.size rfl ho_o_22_Lost) hx8 rfl F_api_Path_N Z_int64) (by decide) ?_
            refine .stepg rfl (.ldP1 (.own 2 api_Path.size rfl ho_o_22_Lost) hx8 rfl A_int64 (api_Path.g_N _)) (by decide) ?_
            refine .stepg rfl (.eql rfl rfl) (by decide) ?_
            refine .step (.pk_t rfl rfl) (by decide) ?_
            refine .step (.mv rfl) (by decide) ?_
            refine .splitb 69 rfl (fun hb6 => ?_) (fun hb6 => ?_)
            · replace H := cond_t hb6 H
              refine .stepg rfl (.mv rfl) (by decide) ?_
              refine .gd rfl ?_
              obtain ⟨x9, hx9, H⟩ := bind_s H
              refine .callQ (v := .int .i64 (x9)) rfl E_table_Table_Len rfl rfl (fun w hm hf => W_table_Table_Len x5.2.2.1 x5.2.2.2 _ _ _ hx9 w (Kn.at (.i 3 rfl) hm hf) (Kn.at (.i 4 rfl) hm hf)) (by decide) ?_
              refine .stepg rfl (.eql rfl rfl) (by decide) ?_
              refine .step (.pk_t rfl rfl) (by decide) ?_
              refine .step (.as rfl) (by decide) ?_
              cases H
              exact .nil (.then_n (.ret (.ret1 [] (by simp) rfl rfl ⟨rfl, rfl⟩)))
            · replace H := cond_f hb6 H
              refine .pass rfl rfl (by decide) ?_
              refine .pass rfl rfl (by decide) ?_
              refine .pass rfl rfl (by decide) ?_
              refine .step (.pk_f rfl rfl) (by decide) ?_
              refine .step (.as rfl) (by decide) ?_
              cases H
              exact .nil (.then_n (.ret (.ret1 [] (by simp) rfl rfl ⟨rfl, rfl⟩)))
          · replace H := cond_f hb5 H
            refine .pass rfl rfl (by decide) ?_
            refine .pass rfl rfl (by decide) ?_
            refine .pass rfl rfl (by decide) ?_
            refine .pass rfl rfl (by decide) ?_
            refine .pass rfl rfl (by decide) ?_
            refine .pass rfl rfl (by decide) ?_
            refine .step (.pk_f rfl rfl) (by decide) ?_
            refine .step (.mv rfl) (by decide) ?_
            refine .pass rfl rfl (by decide) ?_
            refine .pass rfl rfl (by decide) ?_
            refine .pass rfl rfl (by decide) ?_
            refine .step (.pk_f rfl rfl) (by decide) ?_
            refine .step (.as rfl) (by decide) ?_
            cases H
            exact .nil (.then_n (.ret (.ret1 [] (by simp) rfl rfl ⟨rfl, rfl⟩)))
        · replace H := cond_f hb4 H
          refine .pass rfl rfl (by decide) ?_
          refine .pass rfl rfl (by decide) ?_
          refine .pass rfl rfl (by decide) ?_
          refine .pass rfl rfl (by decide) ?_
          refine .step (.pk_f rfl rfl) (by decide) ?_
          refine .step (.mv rfl) (by decide) ?_
          refine .pass rfl rfl (by decide) ?_
          refine .pass rfl rfl (by decide) ?_
          refine .pass rfl rfl (by decide) ?_
          refine .pass rfl rfl (by decide) ?_
          refine .pass rfl rfl (by decide) ?_
          refine .pass rfl rfl (by decide) ?_
          refine .step (.pk_f rfl rfl) (by decide) ?_
          refine .step (.mv rfl) (by decide) ?_
          refine .pass rfl rfl (by decide) ?_
          refine .pass rfl rfl (by decide) ?_
          refine .pass rfl rfl (by decide) ?_
          refine .step (.pk_f rfl rfl) (by decide) ?_
          refine .step (.as rfl) (by decide) ?_
          cases H
          exact .nil (.then_n (.ret (.ret1 [] (by simp) rfl rfl ⟨rfl, rfl⟩)))
      · replace H := cond_f hb3 H
        refine .pass rfl rfl (by decide) ?_
        refine .pass rfl rfl (by decide) ?_
        refine .pass rfl rfl (by decide) ?_
        refine .pass rfl rfl (by decide) ?_
        refine .pass rfl rfl (by decide) ?_
        refine .pass rfl rfl (by decide) ?_
        refine .pass rfl rfl (by decide) ?_
        refine .pass rfl rfl (by decide) ?_
        refine .step (.pk_f rfl rfl) (by decide) ?_
        refine .step (.mv rfl) (by decide) ?_
        refine .pass rfl rfl (by decide) ?_
        refine .pass rfl rfl (by decide) ?_
        refine .pass rfl rfl (by decide) ?_
        refine .pass rfl rfl (by decide) ?_
        refine .step (.pk_f rfl rfl) (by decide) ?_
        refine .step (.mv rfl) (by decide) ?_
        refine .pass rfl rfl (by decide) ?_
        refine .pass rfl rfl (by decide) ?_
        refine .pass rfl rfl (by decide) ?_
        refine .pass rfl rfl (by decide) ?_
        refine .pass rfl rfl (by decide) ?_
        refine .pass rfl rfl (by decide) ?_
        refine .step (.pk_f rfl rfl) (by decide) ?_
        refine .step (.mv rfl) (by decide) ?_
        refine .pass rfl rfl (by decide) ?_
        refine .pass rfl rfl (by decide) ?_
        refine .pass rfl rfl (by decide) ?_
        refine .step (.pk_f rfl rfl) (by decide) ?_
        refine .step (.as rfl) (by decide) ?_
        cases H
        exact .nil (.then_n (.ret (.ret1 [] (by simp) rfl rfl ⟨rfl, rfl⟩)))
    · replace H := cond_f hb2 H
      refine .pass rfl rfl (by decide) ?_
      refine .pass rfl rfl (by decide) ?_
      refine .pass rfl rfl (by decide) ?_
      refine .pass rfl rfl (by decide) ?_
      refine .pass rfl rfl (by decide) ?_
      refine .pass rfl rfl (by decide) ?_
      refine .step (.pk_f rfl rfl) (by decide) ?_
      refine .step (.mv rfl) (by decide) ?_
      refine .pass rfl rfl (by decide) ?_
      refine .pass rfl rfl (by decide) ?_
      refine .pass rfl rfl (by decide) ?_
      refine .pass rfl rfl (by decide) ?_
      refine .pass rfl rfl (by decide) ?_
      refine .pass rfl rfl (by decide) ?_
      refine .pass rfl rfl (by decide) ?_
      refine .pass rfl rfl (by decide) ?_
      refine .step (.pk_f rfl rfl) (by decide) ?_
      refine .step (.mv rfl) (by decide) ?_
      refine .pass rfl rfl (by decide) ?_
      refine .pass rfl rfl (by decide) ?_
      refine .pass rfl rfl (by decide) ?_
      refine .pass rfl rfl (by decide) ?_
      refine .step (.pk_f rfl rfl) (by decide) ?_
      refine .step (.mv rfl) (by decide) ?_
      refine .pass rfl rfl (by decide) ?_
      refine .pass rfl rfl (by decide) ?_
      refine .pass rfl rfl (by decide) ?_
      refine .pass rfl rfl (by decide) ?_
      refine .pass rfl rfl (by decide) ?_
      refine .pass rfl rfl (by decide) ?_
      refine .step (.pk_f rfl rfl) (by decide) ?_
      refine .step (.mv rfl) (by decide) ?_
      refine .pass rfl rfl (by decide) ?_
      refine .pass rfl rfl (by decide) ?_
      refine .pass rfl rfl (by decide) ?_
      refine .step (.pk_f rfl rfl) (by decide) ?_
      refine .step (.as rfl) (by decide) ?_
      cases H
      exact .nil (.then_n (.ret (.ret1 [] (by simp) rfl rfl ⟨rfl, rfl⟩)))
  · replace H := cond_f hb1 H
    refine .pass rfl rfl (by decide) ?_
    refine .pass rfl rfl (by decide) ?_
    refine .pass rfl rfl (by decide) ?_
    refine .pass rfl rfl (by decide) ?_
    refine .step (.pk_f rfl rfl) (by decide) ?_
    refine .step (.mv rfl) (by decide) ?_
    refine .pass rfl rfl (by decide) ?_
    refine .pass rfl rfl (by decide) ?_
    refine .pass rfl rfl (by decide) ?_
    refine .pass rfl rfl (by decide) ?_
    refine .pass rfl rfl (by decide) ?_
    refine .pass rfl rfl (by decide) ?_
    refine .step (.pk_f rfl rfl) (by decide) ?_
    refine .step (.mv rfl) (by decide) ?_
    refine .pass rfl rfl (by decide) ?_
    refine .pass rfl rfl (by decide) ?_
    refine .pass rfl rfl (by decide) ?_
    refine .pass rfl rfl (by decide) ?_
    refine .pass rfl rfl (by decide) ?_
    refine .pass rfl rfl (by decide) ?_
    refine .pass rfl rfl (by decide) ?_
    refine .pass rfl rfl (by decide) ?_
    refine .step (.pk_f rfl rfl) (by decide) ?_
    refine .step (.mv rfl) (by decide) ?_
    refine .pass rfl rfl (by decide) ?_
    refine .pass rfl rfl (by decide) ?_
    refine .pass rfl rfl (by decide) ?_
    refine .pass rfl rfl (by decide) ?_
    refine .step (.pk_f rfl rfl) (by decide) ?_
    refine .step (.mv rfl) (by decide) ?_
    refine .pass rfl rfl (by decide) ?_
    refine .pass rfl rfl (by decide) ?_
    refine .pass rfl rfl (by decide) ?_
    refine .pass rfl rfl (by decide) ?_
    refine .pass rfl rfl (by decide) ?_
    refine .pass rfl rfl (by decide) ?_
    refine .step (.pk_f rfl rfl) (by decide) ?_
    refine .step (.mv rfl) (by decide) ?_
    refine .pass rfl rfl (by decide) ?_
    refine .pass rfl rfl (by decide) ?_
    refine .pass rfl rfl (by decide) ?_
    refine .step (.pk_f rfl rfl) (by decide) ?_
    refine .step (.as rfl) (by decide) ?_
    cases H
    exact .nil (.then_n (.ret (.ret1 [] (by simp) rfl rfl ⟨rfl, rfl⟩)))

end Go.Fx
