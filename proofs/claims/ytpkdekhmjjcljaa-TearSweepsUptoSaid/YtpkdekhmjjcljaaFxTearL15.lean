/- The laws of layer 15, walked. -/
import Derived.Test.YtpkdekhmjjcljaaFxTear15
namespace Go.Fx
set_option maxRecDepth 10000
def F_tear_End (a0_most : Int) (a0_m : MS api_Path api_Entry) (a1 : api_Path) : Option ((List api_Hop) × (List api_Path) × Int × (MS api_Path api_Entry)) :=
  (F_table_Table_Get a0_most a0_m a1).bind fun x1 => cond (!x1.2) (some (([] : List api_Hop), ([] : List api_Path), a0_most, a0_m)) (cond (decide (0 ≤ x1.1.Na)) (cond (decide (0 ≤ x1.1.Nb)) (some (([] : List api_Hop), ([] : List api_Path), a0_most, a0_m)) ((F_table_Table_Remove a0_most a0_m a1).bind fun x2 => (F_tear_Torn_hop ([] : List api_Hop) ([] : List api_Path) x1.1.Na a1).bind fun x3 => (F_tear_Torn_hop x3.1 x3.2 x1.1.Nb a1).bind fun x4 => some (x4.1, x4.2, x2.2.2.1, x2.2.2.2))) ((F_table_Table_Remove a0_most a0_m a1).bind fun x5 => (F_tear_Torn_hop ([] : List api_Hop) ([] : List api_Path) x1.1.Na a1).bind fun x6 => (F_tear_Torn_hop x6.1 x6.2 x1.1.Nb a1).bind fun x7 => some (x7.1, x7.2, x5.2.2.1, x5.2.2.2)))
theorem W_tear_End (a0_most : Int) (a0_m : MS api_Path api_Entry) (a1 : api_Path) (b_a0 : Nat) (b_a0_m : Nat) (r : (List api_Hop) × (List api_Path) × Int × (MS api_Path api_Entry)) (H : F_tear_End a0_most a0_m a1 = some r) (w : World) (hM : Mem [(some b_a0, .cells (table_Table.enc (table_Table.mk a0_most (.map (some b_a0_m)))) T_table_Table (0, 0)), (some b_a0_m, MS.obj (vA api_Path.enc) (vA api_Entry.enc) a0_m)] w) (hA : List.Pairwise Apart [(some b_a0, .cells (table_Table.enc (table_Table.mk a0_most (.map (some b_a0_m)))) T_table_Table (0, 0)), (some b_a0_m, MS.obj (vA api_Path.enc) (vA api_Entry.enc) a0_m)]) :
    Calls PG f_tear_End #[.pointer (some ⟨b_a0, 0, none⟩), .agg (api_Path.enc a1)] w (Ret w (keysH [(some b_a0, .cells (table_Table.enc (table_Table.mk a0_most (.map (some b_a0_m)))) T_table_Table (0, 0)), (some b_a0_m, MS.obj (vA api_Path.enc) (vA api_Entry.enc) a0_m)]) (fun v nm => ∃ (k_o_q0_Out : Option Nat) (c_o_q0_Out : Nat) (r_o_q0_Out : Array Value) (k_o_q0_Lost : Option Nat) (c_o_q0_Lost : Nat) (r_o_q0_Lost : Array Value), v = .agg (tear_Torn.enc (tear_Torn.mk (slS k_o_q0_Out (r.1).length c_o_q0_Out) (slS k_o_q0_Lost (r.2.1).length c_o_q0_Lost))) ∧ nm = [(k_o_q0_Out, .cells (catA ((r.1).map api_Hop.enc) ++ r_o_q0_Out) T_api_Hop (0, 0)), (k_o_q0_Lost, .cells (catA ((r.2.1).map api_Path.enc) ++ r_o_q0_Lost) T_api_Path (0, 0)), (some b_a0, .cells (table_Table.enc (table_Table.mk r.2.2.1 (.map (some b_a0_m)))) T_table_Table (0, 0)), (some b_a0_m, MS.obj (vA api_Path.enc) (vA api_Entry.enc) r.2.2.2)] ∧ OwnS 96 k_o_q0_Out (r.1).length c_o_q0_Out r_o_q0_Out ∧ OwnS 17 k_o_q0_Lost (r.2.1).length c_o_q0_Lost r_o_q0_Lost)) := by
  unfold F_tear_End at H
  refine enter (n := 39) (args := [.pointer (some ⟨b_a0, 0, none⟩), .agg (api_Path.enc a1)]) [(some b_a0, .cells (table_Table.enc (table_Table.mk a0_most (.map (some b_a0_m)))) T_table_Table (0, 0)), (some b_a0_m, MS.obj (vA api_Path.enc) (vA api_Entry.enc) a0_m)] B_tear_End rfl rfl (by simp) hM hA keysH_mem ?_
  refine .seq (.region (?_))
  refine .box rfl rfl (by decide) fun b3 hb3 => ?_
  refine .alloc N_tear_Torn rfl (by decide) fun b4 hb4 => ?_
  refine .nil (.then_n (.seq (.region (?_))))
  refine .alloc N_tear_Torn rfl (by decide) fun b5 hb5 => ?_
  refine .nil (.then_n (.seq (.region (?_))))
  refine .step (.mv rfl) (by decide) ?_
  refine .step (.ldA rfl (.i 2 rfl) A_api_Path Z_api_Path (api_Path.size _)) (by decide) ?_
  obtain ⟨x1, hx1, H⟩ := bind_s H
  refine .callQ (v := .tuple #[.agg (api_Entry.enc x1.1), .bool (x1.2)]) rfl E_table_Table_Get rfl rfl (fun w hm hf => W_table_Table_Get a0_most a0_m a1 _ _ _ hx1 w (Kn.at (.i 3 rfl) hm hf) (Kn.at (.i 4 rfl) hm hf)) (by decide) ?_
  refine .step (.mv rfl) (by decide) ?_
  refine .step (.xt rfl rfl) (by decide) ?_
  refine .step (.xt rfl rfl) (by decide) ?_
  refine .alloc N_api_Entry rfl (by decide) fun b6 hb6 => ?_
  refine .storeA 0 rfl rfl rfl rfl Z_api_Entry (api_Entry.size _) (api_Entry.one _) (api_Entry.size _) ?_
  refine .step (.as rfl) (by decide) ?_
  refine .nil (.then_n (.seq (.seq (.region (?_)))))
  refine .step (.mv rfl) (by decide) ?_
  refine .step (.not rfl) (by decide) ?_
  refine .step (.mv rfl) (by decide) ?_
  refine .splitb 16 rfl (fun hb1 => ?_) (fun hb1 => ?_)
  · replace H := cond_t hb1 H
    refine .pass rfl rfl (by decide) ?_
    refine .pass rfl rfl (by decide) ?_
    refine .pass rfl rfl (by decide) ?_
    refine .pass rfl rfl (by decide) ?_
    refine .passu rfl rfl (by decide) ?_
    refine .passu rfl rfl (by decide) ?_
    refine .passu rfl rfl (by decide) ?_
    refine .pass rfl rfl (by decide) ?_
    refine .step (.pk_t rfl rfl) (by decide) ?_
    refine .nil (.then_n (.cond_t rfl ?_))
    refine .seq (.region (?_))
    refine .step (.ldA rfl (.i 1 rfl) A_tear_Torn Z_tear_Torn (tear_Torn.size _)) (by decide) ?_
    refine .storeA 2 rfl rfl rfl rfl Z_tear_Torn (tear_Torn.size _) (tear_Torn.one _) (tear_Torn.size _) ?_
    refine .non (o := .cells (catA (([] : List api_Hop).map api_Hop.enc) ++ #[]) T_api_Hop (0, 0)) ?_
    refine .non (o := .cells (catA (([] : List api_Path).map api_Path.enc) ++ #[]) T_api_Path (0, 0)) ?_
    refine .sel [1, 0, 6, 7, 4] (by decide) rfl ?_
    cases H
    exact .nil (.then_n (.ret (.then_r (.retR1 [_, _, _, _] (.cons_cons _ (.cons_cons _ (.cons_cons _ (.cons_cons _ (.cons _ (.slnil)))))) rfl (.ce rfl (.i 4 rfl) A_tear_Torn Z_tear_Torn (tear_Torn.size _)) ⟨none, 0, #[], none, 0, #[], rfl, rfl, ⟨rfl, Nat.le_refl _, fun _ => rfl⟩, ⟨rfl, Nat.le_refl _, fun _ => rfl⟩⟩))))
  · replace H := cond_f hb1 H
    refine .stepg rfl (.fa rfl F_api_Entry_Na Z_int) (by decide) ?_
    refine .stepg rfl (.ld1 rfl (.i 0 rfl) A_int (api_Entry.g_Na _)) (by decide) ?_
    refine .stepg rfl (.geq rfl rfl) (by decide) ?_
    refine .stepg rfl (.mv rfl) (by decide) ?_
    refine .splitb 20 rfl (fun hb2 => ?_) (fun hb2 => ?_)
    · replace H := cond_t hb2 H
      refine .stepg rfl (.fa rfl F_api_Entry_Nb Z_int) (by decide) ?_
      refine .stepg rfl (.ld1 rfl (.i 0 rfl) A_int (api_Entry.g_Nb _)) (by decide) ?_
      refine .stepg rfl (.geq rfl rfl) (by decide) ?_
      refine .stepg rfl (.pk_t rfl rfl) (by decide) ?_
      refine .step (.pk_f rfl rfl) (by decide) ?_
      refine .nil (.then_n (.cond rfl (fun hc1 => ?_) (fun hc1 => ?_)))
      · replace H := cond_t hc1 H
        refine .seq (.region (?_))
        refine .step (.ldA rfl (.i 1 rfl) A_tear_Torn Z_tear_Torn (tear_Torn.size _)) (by decide) ?_
        refine .storeA 2 rfl rfl rfl rfl Z_tear_Torn (tear_Torn.size _) (tear_Torn.one _) (tear_Torn.size _) ?_
        refine .non (o := .cells (catA (([] : List api_Hop).map api_Hop.enc) ++ #[]) T_api_Hop (0, 0)) ?_
        refine .non (o := .cells (catA (([] : List api_Path).map api_Path.enc) ++ #[]) T_api_Path (0, 0)) ?_
        refine .sel [1, 0, 6, 7, 4] (by decide) rfl ?_
        cases H
        exact .nil (.then_n (.ret (.then_r (.retR1 [_, _, _, _] (.cons_cons _ (.cons_cons _ (.cons_cons _ (.cons_cons _ (.cons _ (.slnil)))))) rfl (.ce rfl (.i 4 rfl) A_tear_Torn Z_tear_Torn (tear_Torn.size _)) ⟨none, 0, #[], none, 0, #[], rfl, rfl, ⟨rfl, Nat.le_refl _, fun _ => rfl⟩, ⟨rfl, Nat.le_refl _, fun _ => rfl⟩⟩))))
      · replace H := cond_f hc1 H
        refine .skip (.then_n (.seq (.region (?_))))
        refine .step (.mv rfl) (by decide) ?_
        refine .step (.ldA rfl (.i 3 rfl) A_api_Path Z_api_Path (api_Path.size _)) (by decide) ?_
        obtain ⟨x2, hx2, H⟩ := bind_s H
        refine .sel [4, 5, 0, 1, 2, 3] (by decide) rfl ?_
        refine .callM (dst := some 29) 2 rfl E_table_Table_Remove rfl rfl (fun w hh => W_table_Table_Remove a0_most a0_m a1 _ _ _ hx2 w hh.pk hh.pa ) (fun d hd => by cases hd; decide) fun v nm hR => ?_
        obtain ⟨rfl, rfl⟩ := hR
        refine .nil (.then_n (.seq (.region (?_))))
        refine .step (.fa rfl F_api_Entry_Na Z_int) (by decide) ?_
        refine .step (.ld1 rfl (.i 2 rfl) A_int (api_Entry.g_Na _)) (by decide) ?_
        refine .step (.ldA rfl (.i 5 rfl) A_api_Path Z_api_Path (api_Path.size _)) (by decide) ?_
        refine .non (o := .cells (catA (([] : List api_Hop).map api_Hop.enc) ++ #[]) T_api_Hop (0, 0)) ?_
        refine .non (o := .cells (catA (([] : List api_Path).map api_Path.enc) ++ #[]) T_api_Path (0, 0)) ?_
        obtain ⟨x3, hx3, H⟩ := bind_s H
        refine .sel [5, 1, 0, 2, 3, 4, 6, 7] (by decide) rfl ?_
        refine .callM (dst := some 33) 3 rfl E_tear_Torn_hop rfl rfl (fun w hh => W_tear_Torn_hop ([] : List api_Hop) ([] : List api_Path) x1.1.Na a1 _ _ _ _ _ _ _ _ hx3 w hh.pk hh.pa ⟨rfl, Nat.le_refl _, fun _ => rfl⟩ ⟨rfl, Nat.le_refl _, fun _ => rfl⟩) (fun d hd => by cases hd; decide) fun v nm hR => ?_
        obtain ⟨k_o_33_w0_Out, c_o_33_w0_Out, r_o_33_w0_Out, k_o_33_w0_Lost, c_o_33_w0_Lost, r_o_33_w0_Lost, rfl, rfl, ho_o_33_w0_Out, ho_o_33_w0_Lost⟩ := hR
        refine .nil (.then_n (.seq (.region (?_))))
        refine .step (.fa rfl F_api_Entry_Nb Z_int) (by decide) ?_
        refine .step (.ld1 rfl (.i 5 rfl) A_int (api_Entry.g_Nb _)) (by decide) ?_
        refine .step (.ldA rfl (.i 7 rfl) A_api_Path Z_api_Path (api_Path.size _)) (by decide) ?_
        obtain ⟨x4, hx4, H⟩ := bind_s H
        refine .callM (dst := some 37) 3 rfl E_tear_Torn_hop rfl rfl (fun w hh => W_tear_Torn_hop x3.1 x3.2 x1.1.Nb a1 _ _ _ _ _ _ _ _ hx4 w hh.pk hh.pa ho_o_33_w0_Out ho_o_33_w0_Lost) (fun d hd => by cases hd; decide) fun v nm hR => ?_
        obtain ⟨k_o_37_w0_Out, c_o_37_w0_Out, r_o_37_w0_Out, k_o_37_w0_Lost, c_o_37_w0_Lost, r_o_37_w0_Lost, rfl, rfl, ho_o_37_w0_Out, ho_o_37_w0_Lost⟩ := hR
        refine .nil (.then_n (.seq (.region (?_))))
        refine .step (.ldA rfl (.i 0 rfl) A_tear_Torn Z_tear_Torn (tear_Torn.size _)) (by decide) ?_
        refine .storeA 6 rfl rfl rfl rfl Z_tear_Torn (tear_Torn.size _) (tear_Torn.one _) (tear_Torn.size _) ?_
        refine .sel [1, 2, 3, 4, 6] (by decide) rfl ?_
        cases H
        exact .nil (.then_n (.ret (.retR1 [_, _, _, _] (.cons_cons _ (.cons_cons _ (.cons_cons _ (.cons_cons _ (.cons _ (.slnil)))))) rfl (.ce rfl (.i 4 rfl) A_tear_Torn Z_tear_Torn (tear_Torn.size _)) ⟨k_o_37_w0_Out, c_o_37_w0_Out, r_o_37_w0_Out, k_o_37_w0_Lost, c_o_37_w0_Lost, r_o_37_w0_Lost, rfl, rfl, ho_o_37_w0_Out, ho_o_37_w0_Lost⟩)))
    · replace H := cond_f hb2 H
      refine .pass rfl rfl (by decide) ?_
      refine .pass rfl rfl (by decide) ?_
      refine .pass rfl rfl (by decide) ?_
      refine .stepg rfl (.pk_f rfl rfl) (by decide) ?_
      refine .step (.pk_f rfl rfl) (by decide) ?_
      refine .nil (.then_n (.cond_f rfl ?_))
      refine .skip (.then_n (.seq (.region (?_))))
      refine .step (.mv rfl) (by decide) ?_
      refine .step (.ldA rfl (.i 3 rfl) A_api_Path Z_api_Path (api_Path.size _)) (by decide) ?_
      obtain ⟨x5, hx5, H⟩ := bind_s H
      refine .sel [4, 5, 0, 1, 2, 3] (by decide) rfl ?_
      refine .callM (dst := some 29) 2 rfl E_table_Table_Remove rfl rfl (fun w hh => W_table_Table_Remove a0_most a0_m a1 _ _ _ hx5 w hh.pk hh.pa ) (fun d hd => by cases hd; decide) fun v nm hR => ?_
      obtain ⟨rfl, rfl⟩ := hR
      refine .nil (.then_n (.seq (.region (?_))))
      refine .step (.fa rfl F_api_Entry_Na Z_int) (by decide) ?_
      refine .step (.ld1 rfl (.i 2 rfl) A_int (api_Entry.g_Na _)) (by decide) ?_
      refine .step (.ldA rfl (.i 5 rfl) A_api_Path Z_api_Path (api_Path.size _)) (by decide) ?_
      refine .non (o := .cells (catA (([] : List api_Hop).map api_Hop.enc) ++ #[]) T_api_Hop (0, 0)) ?_
      refine .non (o := .cells (catA (([] : List api_Path).map api_Path.enc) ++ #[]) T_api_Path (0, 0)) ?_
      obtain ⟨x6, hx6, H⟩ := bind_s H
      refine .sel [5, 1, 0, 2, 3, 4, 6, 7] (by decide) rfl ?_
      refine .callM (dst := some 33) 3 rfl E_tear_Torn_hop rfl rfl (fun w hh => W_tear_Torn_hop ([] : List api_Hop) ([] : List api_Path) x1.1.Na a1 _ _ _ _ _ _ _ _ hx6 w hh.pk hh.pa ⟨rfl, Nat.le_refl _, fun _ => rfl⟩ ⟨rfl, Nat.le_refl _, fun _ => rfl⟩) (fun d hd => by cases hd; decide) fun v nm hR => ?_
      obtain ⟨k_o_33_w0_Out, c_o_33_w0_Out, r_o_33_w0_Out, k_o_33_w0_Lost, c_o_33_w0_Lost, r_o_33_w0_Lost, rfl, rfl, ho_o_33_w0_Out, ho_o_33_w0_Lost⟩ := hR
      refine .nil (.then_n (.seq (.region (?_))))
      refine .step (.fa rfl F_api_Entry_Nb Z_int) (by decide) ?_
      refine .step (.ld1 rfl (.i 5 rfl) A_int (api_Entry.g_Nb _)) (by decide) ?_
      refine .step (.ldA rfl (.i 7 rfl) A_api_Path Z_api_Path (api_Path.size _)) (by decide) ?_
      obtain ⟨x7, hx7, H⟩ := bind_s H
      refine .callM (dst := some 37) 3 rfl E_tear_Torn_hop rfl rfl (fun w hh => W_tear_Torn_hop x6.1 x6.2 x1.1.Nb a1 _ _ _ _ _ _ _ _ hx7 w hh.pk hh.pa ho_o_33_w0_Out ho_o_33_w0_Lost) (fun d hd => by cases hd; decide) fun v nm hR => ?_
      obtain ⟨k_o_37_w0_Out, c_o_37_w0_Out, r_o_37_w0_Out, k_o_37_w0_Lost, c_o_37_w0_Lost, r_o_37_w0_Lost, rfl, rfl, ho_o_37_w0_Out, ho_o_37_w0_Lost⟩ := hR
      refine .nil (.then_n (.seq (.region (?_))))
      refine .step (.ldA rfl (.i 0 rfl) A_tear_Torn Z_tear_Torn (tear_Torn.size _)) (by decide) ?_
      refine .storeA 6 rfl rfl rfl rfl Z_tear_Torn (tear_Torn.size _) (tear_Torn.one _) (tear_Torn.size _) ?_
      refine .sel [1, 2, 3, 4, 6] (by decide) rfl ?_
      cases H
      exact .nil (.then_n (.ret (.retR1 [_, _, _, _] (.cons_cons _ (.cons_cons _ (.cons_cons _ (.cons_cons _ (.cons _ (.slnil)))))) rfl (.ce rfl (.i 4 rfl) A_tear_Torn Z_tear_Torn (tear_Torn.size _)) ⟨k_o_37_w0_Out, c_o_37_w0_Out, r_o_37_w0_Out, k_o_37_w0_Lost, c_o_37_w0_Lost, r_o_37_w0_Lost, rfl, rfl, ho_o_37_w0_Out, ho_o_37_w0_Lost⟩)))

def F_annuletref15_End (a0_L : List api_Entry) (a0_Most : Int) (a1 : api_Path) : Option ((List api_Hop) × (List api_Path) × (List api_Entry) × Int) :=
  (F_annuletref12_Table_Get a0_L a0_Most a1).bind fun x1 => cond (!x1.2) (some (([] : List api_Hop), ([] : List api_Path), a0_L, a0_Most)) (cond (!decide (x1.1.Na = (-1))) (cond (!decide (x1.1.Nb = (-1))) (some (([] : List api_Hop), ([] : List api_Path), a0_L, a0_Most)) ((F_annuletref12_Table_Remove a0_L a0_Most a1).bind fun x2 => (F_annuletref15_Torn_side ([] : List api_Hop) ([] : List api_Path) x1.1.Na a1).bind fun x3 => (F_annuletref15_Torn_side x3.1 x3.2 x1.1.Nb a1).bind fun x4 => some (x4.1, x4.2, x2.2.2.1, x2.2.2.2))) ((F_annuletref12_Table_Remove a0_L a0_Most a1).bind fun x5 => (F_annuletref15_Torn_side ([] : List api_Hop) ([] : List api_Path) x1.1.Na a1).bind fun x6 => (F_annuletref15_Torn_side x6.1 x6.2 x1.1.Nb a1).bind fun x7 => some (x7.1, x7.2, x5.2.2.1, x5.2.2.2)))
theorem W_annuletref15_End (a0_L : List api_Entry) (a0_Most : Int) (a1 : api_Path) (b_a0 : Nat) (k_o_a0_L : Option Nat) (c_o_a0_L : Nat) (r_o_a0_L : Array Value) (r : (List api_Hop) × (List api_Path) × (List api_Entry) × Int) (H : F_annuletref15_End a0_L a0_Most a1 = some r) (w : World) (hM : Mem [(some b_a0, .cells (annuletref12_Table.enc (annuletref12_Table.mk (slS k_o_a0_L (a0_L).length c_o_a0_L) a0_Most)) T_annuletref12_Table (0, 0)), (k_o_a0_L, .cells (catA ((a0_L).map api_Entry.enc) ++ r_o_a0_L) T_api_Entry (0, 0))] w) (hA : List.Pairwise Apart [(some b_a0, .cells (annuletref12_Table.enc (annuletref12_Table.mk (slS k_o_a0_L (a0_L).length c_o_a0_L) a0_Most)) T_annuletref12_Table (0, 0)), (k_o_a0_L, .cells (catA ((a0_L).map api_Entry.enc) ++ r_o_a0_L) T_api_Entry (0, 0))]) (ho_o_a0_L : OwnS 51 k_o_a0_L (a0_L).length c_o_a0_L r_o_a0_L) :
    Calls PG f_annuletref15_End #[.pointer (some ⟨b_a0, 0, none⟩), .agg (api_Path.enc a1)] w (Ret w (keysH [(some b_a0, .cells (annuletref12_Table.enc (annuletref12_Table.mk (slS k_o_a0_L (a0_L).length c_o_a0_L) a0_Most)) T_annuletref12_Table (0, 0)), (k_o_a0_L, .cells (catA ((a0_L).map api_Entry.enc) ++ r_o_a0_L) T_api_Entry (0, 0))]) (fun v nm => ∃ (k_o_q0_Out : Option Nat) (c_o_q0_Out : Nat) (r_o_q0_Out : Array Value) (k_o_q0_Lost : Option Nat) (c_o_q0_Lost : Nat) (r_o_q0_Lost : Array Value) (k_o_m0_L : Option Nat) (c_o_m0_L : Nat) (r_o_m0_L : Array Value), v = .agg (annuletref15_Torn.enc (annuletref15_Torn.mk (slS k_o_q0_Out (r.1).length c_o_q0_Out) (slS k_o_q0_Lost (r.2.1).length c_o_q0_Lost))) ∧ nm = [(k_o_q0_Out, .cells (catA ((r.1).map api_Hop.enc) ++ r_o_q0_Out) T_api_Hop (0, 0)), (k_o_q0_Lost, .cells (catA ((r.2.1).map api_Path.enc) ++ r_o_q0_Lost) T_api_Path (0, 0)), (some b_a0, .cells (annuletref12_Table.enc (annuletref12_Table.mk (slS k_o_m0_L (r.2.2.1).length c_o_m0_L) r.2.2.2)) T_annuletref12_Table (0, 0)), (k_o_m0_L, .cells (catA ((r.2.2.1).map api_Entry.enc) ++ r_o_m0_L) T_api_Entry (0, 0))] ∧ OwnS 96 k_o_q0_Out (r.1).length c_o_q0_Out r_o_q0_Out ∧ OwnS 17 k_o_q0_Lost (r.2.1).length c_o_q0_Lost r_o_q0_Lost ∧ OwnS 51 k_o_m0_L (r.2.2.1).length c_o_m0_L r_o_m0_L)) := by
  unfold F_annuletref15_End at H
  refine enter (n := 39) (args := [.pointer (some ⟨b_a0, 0, none⟩), .agg (api_Path.enc a1)]) [(some b_a0, .cells (annuletref12_Table.enc (annuletref12_Table.mk (slS k_o_a0_L (a0_L).length c_o_a0_L) a0_Most)) T_annuletref12_Table (0, 0)), (k_o_a0_L, .cells (catA ((a0_L).map api_Entry.enc) ++ r_o_a0_L) T_api_Entry (0, 0))] B_annuletref15_End rfl rfl (by simp) hM hA keysH_mem ?_
  refine .seq (.region (?_))
  refine .box rfl rfl (by decide) fun b3 hb3 => ?_
  refine .alloc N_annuletref15_Torn rfl (by decide) fun b4 hb4 => ?_
  refine .nil (.then_n (.seq (.region (?_))))
  refine .alloc N_annuletref15_Torn rfl (by decide) fun b5 hb5 => ?_
  refine .nil (.then_n (.seq (.region (?_))))
  refine .step (.mv rfl) (by decide) ?_
  refine .step (.ldA rfl (.i 2 rfl) A_api_Path Z_api_Path (api_Path.size _)) (by decide) ?_
  obtain ⟨x1, hx1, H⟩ := bind_s H
  refine .callQ (v := .tuple #[.agg (api_Entry.enc x1.1), .bool (x1.2)]) rfl E_annuletref12_Table_Get rfl rfl (fun w hm hf => W_annuletref12_Table_Get a0_L a0_Most a1 _ _ _ _ hx1 w (Kn.at (.i 3 rfl) hm hf) (RoK.at ((RoK.own 4 api_Entry.size rfl ho_o_a0_L)) hm hf)) (by decide) ?_
  refine .step (.mv rfl) (by decide) ?_
  refine .step (.xt rfl rfl) (by decide) ?_
  refine .step (.xt rfl rfl) (by decide) ?_
  refine .alloc N_api_Entry rfl (by decide) fun b6 hb6 => ?_
  refine .storeA 0 rfl rfl rfl rfl Z_api_Entry (api_Entry.size _) (api_Entry.one _) (api_Entry.size _) ?_
  refine .step (.as rfl) (by decide) ?_
  refine .nil (.then_n (.seq (.seq (.region (?_)))))
  refine .step (.mv rfl) (by decide) ?_
  refine .step (.not rfl) (by decide) ?_
  refine .step (.mv rfl) (by decide) ?_
  refine .splitb 16 rfl (fun hb1 => ?_) (fun hb1 => ?_)
  · replace H := cond_t hb1 H
    refine .pass rfl rfl (by decide) ?_
    refine .pass rfl rfl (by decide) ?_
    refine .pass rfl rfl (by decide) ?_
    refine .pass rfl rfl (by decide) ?_
    refine .passu rfl rfl (by decide) ?_
    refine .passu rfl rfl (by decide) ?_
    refine .passu rfl rfl (by decide) ?_
    refine .pass rfl rfl (by decide) ?_
    refine .step (.pk_t rfl rfl) (by decide) ?_
    refine .nil (.then_n (.cond_t rfl ?_))
    refine .seq (.region (?_))
    refine .step (.ldA rfl (.i 1 rfl) A_annuletref15_Torn Z_annuletref15_Torn (annuletref15_Torn.size _)) (by decide) ?_
    refine .storeA 2 rfl rfl rfl rfl Z_annuletref15_Torn (annuletref15_Torn.size _) (annuletref15_Torn.one _) (annuletref15_Torn.size _) ?_
    refine .non (o := .cells (catA (([] : List api_Hop).map api_Hop.enc) ++ #[]) T_api_Hop (0, 0)) ?_
    refine .non (o := .cells (catA (([] : List api_Path).map api_Path.enc) ++ #[]) T_api_Path (0, 0)) ?_
    refine .sel [1, 0, 6, 7, 4] (by decide) rfl ?_
    cases H
    exact .nil (.then_n (.ret (.then_r (.retR1 [_, _, _, _] (.cons_cons _ (.cons_cons _ (.cons_cons _ (.cons_cons _ (.cons _ (.slnil)))))) rfl (.ce rfl (.i 4 rfl) A_annuletref15_Torn Z_annuletref15_Torn (annuletref15_Torn.size _)) ⟨none, 0, #[], none, 0, #[], k_o_a0_L, c_o_a0_L, r_o_a0_L, rfl, rfl, ⟨rfl, Nat.le_refl _, fun _ => rfl⟩, ⟨rfl, Nat.le_refl _, fun _ => rfl⟩, ho_o_a0_L⟩))))
  · replace H := cond_f hb1 H
    refine .stepg rfl (.fa rfl F_api_Entry_Na Z_int) (by decide) ?_
    refine .stepg rfl (.ld1 rfl (.i 0 rfl) A_int (api_Entry.g_Na _)) (by decide) ?_
    refine .stepg rfl (.neq rfl rfl) (by decide) ?_
    refine .stepg rfl (.mv rfl) (by decide) ?_
    refine .splitb 20 rfl (fun hb2 => ?_) (fun hb2 => ?_)
    · replace H := cond_t hb2 H
      refine .stepg rfl (.fa rfl F_api_Entry_Nb Z_int) (by decide) ?_
      refine .stepg rfl (.ld1 rfl (.i 0 rfl) A_int (api_Entry.g_Nb _)) (by decide) ?_
      refine .stepg rfl (.neq rfl rfl) (by decide) ?_
      refine .stepg rfl (.pk_t rfl rfl) (by decide) ?_
      refine .step (.pk_f rfl rfl) (by decide) ?_
      refine .nil (.then_n (.cond rfl (fun hc1 => ?_) (fun hc1 => ?_)))
      · replace H := cond_t hc1 H
        refine .seq (.region (?_))
        refine .step (.ldA rfl (.i 1 rfl) A_annuletref15_Torn Z_annuletref15_Torn (annuletref15_Torn.size _)) (by decide) ?_
        refine .storeA 2 rfl rfl rfl rfl Z_annuletref15_Torn (annuletref15_Torn.size _) (annuletref15_Torn.one _) (annuletref15_Torn.size _) ?_
        refine .non (o := .cells (catA (([] : List api_Hop).map api_Hop.enc) ++ #[]) T_api_Hop (0, 0)) ?_
        refine .non (o := .cells (catA (([] : List api_Path).map api_Path.enc) ++ #[]) T_api_Path (0, 0)) ?_
        refine .sel [1, 0, 6, 7, 4] (by decide) rfl ?_
        cases H
        exact .nil (.then_n (.ret (.then_r (.retR1 [_, _, _, _] (.cons_cons _ (.cons_cons _ (.cons_cons _ (.cons_cons _ (.cons _ (.slnil)))))) rfl (.ce rfl (.i 4 rfl) A_annuletref15_Torn Z_annuletref15_Torn (annuletref15_Torn.size _)) ⟨none, 0, #[], none, 0, #[], k_o_a0_L, c_o_a0_L, r_o_a0_L, rfl, rfl, ⟨rfl, Nat.le_refl _, fun _ => rfl⟩, ⟨rfl, Nat.le_refl _, fun _ => rfl⟩, ho_o_a0_L⟩))))
      · replace H := cond_f hc1 H
        refine .skip (.then_n (.seq (.region (?_))))
        refine .step (.mv rfl) (by decide) ?_
        refine .step (.ldA rfl (.i 3 rfl) A_api_Path Z_api_Path (api_Path.size _)) (by decide) ?_
        obtain ⟨x2, hx2, H⟩ := bind_s H
        refine .sel [4, 5, 0, 1, 2, 3] (by decide) rfl ?_
        refine .callM (dst := some 29) 2 rfl E_annuletref12_Table_Remove rfl rfl (fun w hh => W_annuletref12_Table_Remove a0_L a0_Most a1 _ _ _ _ _ hx2 w hh.pk hh.pa ho_o_a0_L) (fun d hd => by cases hd; decide) fun v nm hR => ?_
        obtain ⟨k_o_29_w0_L, c_o_29_w0_L, r_o_29_w0_L, rfl, rfl, ho_o_29_w0_L⟩ := hR
        refine .nil (.then_n (.seq (.region (?_))))
        refine .step (.fa rfl F_api_Entry_Na Z_int) (by decide) ?_
        refine .step (.ld1 rfl (.i 2 rfl) A_int (api_Entry.g_Na _)) (by decide) ?_
        refine .step (.ldA rfl (.i 5 rfl) A_api_Path Z_api_Path (api_Path.size _)) (by decide) ?_
        refine .non (o := .cells (catA (([] : List api_Hop).map api_Hop.enc) ++ #[]) T_api_Hop (0, 0)) ?_
        refine .non (o := .cells (catA (([] : List api_Path).map api_Path.enc) ++ #[]) T_api_Path (0, 0)) ?_
        obtain ⟨x3, hx3, H⟩ := bind_s H
        refine .sel [5, 1, 0, 2, 3, 4, 6, 7] (by decide) rfl ?_
        refine .callM (dst := some 33) 3 rfl E_annuletref15_Torn_side rfl rfl (fun w hh => W_annuletref15_Torn_side ([] : List api_Hop) ([] : List api_Path) x1.1.Na a1 _ _ _ _ _ _ _ _ hx3 w hh.pk hh.pa ⟨rfl, Nat.le_refl _, fun _ => rfl⟩ ⟨rfl, Nat.le_refl _, fun _ => rfl⟩) (fun d hd => by cases hd; decide) fun v nm hR => ?_
        obtain ⟨k_o_33_w0_Out, c_o_33_w0_Out, r_o_33_w0_Out, k_o_33_w0_Lost, c_o_33_w0_Lost, r_o_33_w0_Lost, rfl, rfl, ho_o_33_w0_Out, ho_o_33_w0_Lost⟩ := hR
        refine .nil (.then_n (.seq (.region (?_))))
        refine .step (.fa rfl F_api_Entry_Nb Z_int) (by decide) ?_
        refine .step (.ld1 rfl (.i 5 rfl) A_int (api_Entry.g_Nb _)) (by decide) ?_
        refine .step (.ldA rfl (.i 7 rfl) A_api_Path Z_api_Path (api_Path.size _)) (by decide) ?_
        obtain ⟨x4, hx4, H⟩ := bind_s H
        refine .callM (dst := some 37) 3 rfl E_annuletref15_Torn_side rfl rfl (fun w hh => W_annuletref15_Torn_side x3.1 x3.2 x1.1.Nb a1 _ _ _ _ _ _ _ _ hx4 w hh.pk hh.pa ho_o_33_w0_Out ho_o_33_w0_Lost) (fun d hd => by cases hd; decide) fun v nm hR => ?_
        obtain ⟨k_o_37_w0_Out, c_o_37_w0_Out, r_o_37_w0_Out, k_o_37_w0_Lost, c_o_37_w0_Lost, r_o_37_w0_Lost, rfl, rfl, ho_o_37_w0_Out, ho_o_37_w0_Lost⟩ := hR
        refine .nil (.then_n (.seq (.region (?_))))
        refine .step (.ldA rfl (.i 0 rfl) A_annuletref15_Torn Z_annuletref15_Torn (annuletref15_Torn.size _)) (by decide) ?_
        refine .storeA 6 rfl rfl rfl rfl Z_annuletref15_Torn (annuletref15_Torn.size _) (annuletref15_Torn.one _) (annuletref15_Torn.size _) ?_
        refine .sel [1, 2, 3, 4, 6] (by decide) rfl ?_
        cases H
        exact .nil (.then_n (.ret (.retR1 [_, _, _, _] (.cons_cons _ (.cons_cons _ (.cons_cons _ (.cons_cons _ (.cons _ (.slnil)))))) rfl (.ce rfl (.i 4 rfl) A_annuletref15_Torn Z_annuletref15_Torn (annuletref15_Torn.size _)) ⟨k_o_37_w0_Out, c_o_37_w0_Out, r_o_37_w0_Out, k_o_37_w0_Lost, c_o_37_w0_Lost, r_o_37_w0_Lost, k_o_29_w0_L, c_o_29_w0_L, r_o_29_w0_L, rfl, rfl, ho_o_37_w0_Out, ho_o_37_w0_Lost, ho_o_29_w0_L⟩)))
    · replace H := cond_f hb2 H
      refine .pass rfl rfl (by decide) ?_
      refine .pass rfl rfl (by decide) ?_
      refine .pass rfl rfl (by decide) ?_
      refine .stepg rfl (.pk_f rfl rfl) (by decide) ?_
      refine .step (.pk_f rfl rfl) (by decide) ?_
      refine .nil (.then_n (.cond_f rfl ?_))
      refine .skip (.then_n (.seq (.region (?_))))
      refine .step (.mv rfl) (by decide) ?_
      refine .step (.ldA rfl (.i 3 rfl) A_api_Path Z_api_Path (api_Path.size _)) (by decide) ?_
      obtain ⟨x5, hx5, H⟩ := bind_s H
      refine .sel [4, 5, 0, 1, 2, 3] (by decide) rfl ?_
      refine .callM (dst := some 29) 2 rfl E_annuletref12_Table_Remove rfl rfl (fun w hh => W_annuletref12_Table_Remove a0_L a0_Most a1 _ _ _ _ _ hx5 w hh.pk hh.pa ho_o_a0_L) (fun d hd => by cases hd; decide) fun v nm hR => ?_
      obtain ⟨k_o_29_w0_L, c_o_29_w0_L, r_o_29_w0_L, rfl, rfl, ho_o_29_w0_L⟩ := hR
      refine .nil (.then_n (.seq (.region (?_))))
      refine .step (.fa rfl F_api_Entry_Na Z_int) (by decide) ?_
      refine .step (.ld1 rfl (.i 2 rfl) A_int (api_Entry.g_Na _)) (by decide) ?_
      refine .step (.ldA rfl (.i 5 rfl) A_api_Path Z_api_Path (api_Path.size _)) (by decide) ?_
      refine .non (o := .cells (catA (([] : List api_Hop).map api_Hop.enc) ++ #[]) T_api_Hop (0, 0)) ?_
      refine .non (o := .cells (catA (([] : List api_Path).map api_Path.enc) ++ #[]) T_api_Path (0, 0)) ?_
      obtain ⟨x6, hx6, H⟩ := bind_s H
      refine .sel [5, 1, 0, 2, 3, 4, 6, 7] (by decide) rfl ?_
      refine .callM (dst := some 33) 3 rfl E_annuletref15_Torn_side rfl rfl (fun w hh => W_annuletref15_Torn_side ([] : List api_Hop) ([] : List api_Path) x1.1.Na a1 _ _ _ _ _ _ _ _ hx6 w hh.pk hh.pa ⟨rfl, Nat.le_refl _, fun _ => rfl⟩ ⟨rfl, Nat.le_refl _, fun _ => rfl⟩) (fun d hd => by cases hd; decide) fun v nm hR => ?_
      obtain ⟨k_o_33_w0_Out, c_o_33_w0_Out, r_o_33_w0_Out, k_o_33_w0_Lost, c_o_33_w0_Lost, r_o_33_w0_Lost, rfl, rfl, ho_o_33_w0_Out, ho_o_33_w0_Lost⟩ := hR
      refine .nil (.then_n (.seq (.region (?_))))
      refine .step (.fa rfl F_api_Entry_Nb Z_int) (by decide) ?_
      refine .step (.ld1 rfl (.i 5 rfl) A_int (api_Entry.g_Nb _)) (by decide) ?_
      refine .step (.ldA rfl (.i 7 rfl) A_api_Path Z_api_Path (api_Path.size _)) (by decide) ?_
      obtain ⟨x7, hx7, H⟩ := bind_s H
      refine .callM (dst := some 37) 3 rfl E_annuletref15_Torn_side rfl rfl (fun w hh => W_annuletref15_Torn_side x6.1 x6.2 x1.1.Nb a1 _ _ _ _ _ _ _ _ hx7 w hh.pk hh.pa ho_o_33_w0_Out ho_o_33_w0_Lost) (fun d hd => by cases hd; decide) fun v nm hR => ?_
      obtain ⟨k_o_37_w0_Out, c_o_37_w0_Out, r_o_37_w0_Out, k_o_37_w0_Lost, c_o_37_w0_Lost, r_o_37_w0_Lost, rfl, rfl, ho_o_37_w0_Out, ho_o_37_w0_Lost⟩ := hR
      refine .nil (.then_n (.seq (.region (?_))))
      refine .step (.ldA rfl (.i 0 rfl) A_annuletref15_Torn Z_annuletref15_Torn (annuletref15_Torn.size _)) (by decide) ?_
      refine .storeA 6 rfl rfl rfl rfl Z_annuletref15_Torn (annuletref15_Torn.size _) (annuletref15_Torn.one _) (annuletref15_Torn.size _) ?_
      refine .sel [1, 2, 3, 4, 6] (by decide) rfl ?_
      cases H
      exact .nil (.then_n (.ret (.retR1 [_, _, _, _] (.cons_cons _ (.cons_cons _ (.cons_cons _ (.cons_cons _ (.cons _ (.slnil)))))) rfl (.ce rfl (.i 4 rfl) A_annuletref15_Torn Z_annuletref15_Torn (annuletref15_Torn.size _)) ⟨k_o_37_w0_Out, c_o_37_w0_Out, r_o_37_w0_Out, k_o_37_w0_Lost, c_o_37_w0_Lost, r_o_37_w0_Lost, k_o_29_w0_L, c_o_29_w0_L, r_o_29_w0_L, rfl, rfl, ho_o_37_w0_Out, ho_o_37_w0_Lost, ho_o_29_w0_L⟩)))

def F_annuletlaw15_laid_L1 (a0 : List api_Entry) (again1 : (Int × List api_Entry × Int × MS api_Path api_Entry × Int) → Option (Int × (MS api_Path api_Entry) × (List api_Entry) × Int)) (st : Int × List api_Entry × Int × MS api_Path api_Entry × Int) : Option (Int × (MS api_Path api_Entry) × (List api_Entry) × Int) :=
  match st with | (v_b_9_Most_1, l_o_9_L_1, v_b_8_most_1, m_b_8_m_1, s12_1) => cond (decide (s12_1 < (((a0).length : Nat) : Int))) ((ixL a0 s12_1).bind fun x3 => (F_table_Table_Add v_b_8_most_1 m_b_8_m_1 x3).bind fun x4 => (F_annuletref12_Table_Add l_o_9_L_1 v_b_9_Most_1 x3).bind fun x5 => again1 (x5.2.2, x5.2.1, x4.2.1, x4.2.2, (IntKind.wrap .i64 (s12_1 + 1)))) (some (v_b_8_most_1, m_b_8_m_1, l_o_9_L_1, v_b_9_Most_1))
def F_annuletlaw15_laid (a0 : List api_Entry) : Option (Int × (MS api_Path api_Entry) × (List api_Entry) × Int) :=
  (F_table_New 128).bind fun x1 => (F_annuletref12_New 128).bind fun x2 => iter (F_annuletlaw15_laid_L1 a0) FUEL (x2.2, x2.1, x1.1, x1.2, 0)
theorem W_annuletlaw15_laid (a0 : List api_Entry) (p_a0 : Option Addr) (c_a0 : Nat) (r : Int × (MS api_Path api_Entry) × (List api_Entry) × Int) (H : F_annuletlaw15_laid a0 = some r) (w : World) (hR_a0 : Ro api_Entry.enc 51 w p_a0 a0 c_a0) :
    Calls PG f_annuletlaw15_laid #[.slice p_a0 (a0).length c_a0] w (Ret w [] (fun v nm => ∃ (b_q0 : Nat) (b_q0_m : Nat) (b_q1 : Nat) (k_o_q1_L : Option Nat) (c_o_q1_L : Nat) (r_o_q1_L : Array Value), v = .tuple #[.pointer (some ⟨b_q0, 0, none⟩), .pointer (some ⟨b_q1, 0, none⟩)] ∧ nm = [(some b_q0, .cells (table_Table.enc (table_Table.mk r.1 (.map (some b_q0_m)))) T_table_Table (0, 0)), (some b_q0_m, MS.obj (vA api_Path.enc) (vA api_Entry.enc) r.2.1), (some b_q1, .cells (annuletref12_Table.enc (annuletref12_Table.mk (slS k_o_q1_L (r.2.2.1).length c_o_q1_L) r.2.2.2)) T_annuletref12_Table (0, 0)), (k_o_q1_L, .cells (catA ((r.2.2.1).map api_Entry.enc) ++ r_o_q1_L) T_api_Entry (0, 0))] ∧ OwnS 51 k_o_q1_L (r.2.2.1).length c_o_q1_L r_o_q1_L)) := by
  unfold F_annuletlaw15_laid at H
  refine enter0 (n := 25) (args := [.slice p_a0 (a0).length c_a0]) B_annuletlaw15_laid rfl rfl (by simp) ?_
  refine .seq (.region (?_))
  refine .step (.as rfl) (by decide) ?_
  refine .step (.as rfl) (by decide) ?_
  refine .nil (.then_n (.seq (.region (?_))))
  obtain ⟨x1, hx1, H⟩ := bind_s H
  refine .call0 rfl E_table_New rfl rfl (fun w hm hf => W_table_New 128  _ hx1 w ) (by decide) fun v nm hR => ?_
  obtain ⟨b_8, b_8_m, rfl, rfl⟩ := hR
  refine .step (.as rfl) (by decide) ?_
  refine .nil (.then_n (.seq (.region (?_))))
  obtain ⟨x2, hx2, H⟩ := bind_s H
  refine .call0 rfl E_annuletref12_New rfl rfl (fun w hm hf => W_annuletref12_New 128  _ hx2 w ) (by decide) fun v nm hR => ?_
  obtain ⟨b_9, k_o_9_L, c_o_9_L, r_o_9_L, rfl, rfl, ho_o_9_L⟩ := hR
  refine .step (.as rfl) (by decide) ?_
  refine .nil (.then_n (.seq (.seq (.region (?_)))))
  refine .step (.mv rfl) (by decide) ?_
  refine .step (.len L_sl_api_Entry rfl) (by decide) ?_
  refine .step (.mv rfl) (by decide) ?_
  refine .nil (.then_n (.block (.loop (G := Nat × (Int × List api_Entry × Int × MS api_Path api_Entry × Int) × (Option Nat) × (Nat) × (Array Value)) (fun g => iter (F_annuletlaw15_laid_L1 a0) g.1 g.2.1 = some r ∧ OwnS 51 g.2.2.1 (g.2.1.2.1).length g.2.2.2.1 g.2.2.2.2) (fun g => [(some b_9, .cells (annuletref12_Table.enc (annuletref12_Table.mk (slS g.2.2.1 (g.2.1.2.1).length g.2.2.2.1) g.2.1.1)) T_annuletref12_Table (0, 0)), (g.2.2.1, .cells (catA ((g.2.1.2.1).map api_Entry.enc) ++ g.2.2.2.2) T_api_Entry (0, 0)), (some b_8, .cells (table_Table.enc (table_Table.mk g.2.1.2.2.1 (.map (some b_8_m)))) T_table_Table (0, 0)), (some b_8_m, MS.obj (vA api_Path.enc) (vA api_Entry.enc) g.2.1.2.2.2.1)]) (fun g => [(4, .pointer (some ⟨b_8, 0, none⟩)), (5, .pointer (some ⟨b_9, 0, none⟩)), (10, .slice p_a0 (a0).length c_a0), (11, .int .i64 ((((a0).length : Nat) : Int))), (12, .int .i64 (g.2.1.2.2.2.2))]) (fun g => g.1) ⟨FUEL, (x2.2, x2.1, x1.1, x1.2, 0), k_o_9_L, c_o_9_L, r_o_9_L⟩ ⟨H, ho_o_9_L⟩ (.refl _) (.cons rfl (.cons rfl (.cons rfl (.cons rfl (.cons rfl .nil))))) ?_)))
  rintro ⟨_ | fl1, ⟨v_b_9_Most_1, l_o_9_L_1, v_b_8_most_1, m_b_8_m_1, s12_1⟩, k_o_9_L_1, c_o_9_L_1, r_o_9_L_1⟩ ⟨H, ho_o_9_L_1⟩
  · exact (iter_0 H).elim
  replace H := iter_s H; rw [F_annuletlaw15_laid_L1] at H; dsimp only at H ⊢
  refine .seq (.region (?_))
  refine .step (.lss rfl rfl) (by decide) ?_
  refine .nil (.then_n (.seq (.cond rfl (fun hc1 => ?_) (fun hc1 => ?_))))
  · replace H := cond_t hc1 H
    refine .skip (.then_n (.seq (.block (.seq (.region (?_))))))
    obtain ⟨x3, hx3, H⟩ := bind_s H
    refine .step (.ixP (.par hR_a0) hx3 rfl rfl L_sl_api_Entry Z_api_Entry) (by decide) ?_
    refine .step (.ldP (.par hR_a0) hx3 rfl A_api_Entry Z_api_Entry) (by decide) ?_
    refine .alloc N_api_Entry rfl (by decide) fun b7 hb7 => ?_
    refine .storeA 0 rfl rfl rfl rfl Z_api_Entry (api_Entry.size _) (api_Entry.one _) (api_Entry.size _) ?_
    refine .nil (.then_n (.seq (.region (?_))))
    refine .step (.mv rfl) (by decide) ?_
    refine .step (.ldA rfl (.i 0 rfl) A_api_Entry Z_api_Entry (api_Entry.size _)) (by decide) ?_
    obtain ⟨x4, hx4, H⟩ := bind_s H
    refine .sel [3, 4, 0, 1, 2] (by decide) rfl ?_
    refine .callM (dst := some 18) 2 rfl E_table_Table_Add rfl rfl (fun w hh => W_table_Table_Add v_b_8_most_1 m_b_8_m_1 x3 _ _ _ hx4 w hh.pk hh.pa ) (fun d hd => by cases hd; decide) fun v nm hR => ?_
    obtain ⟨rfl, rfl⟩ := hR
    refine .nil (.then_n (.region (?_)))
    refine .step (.mv rfl) (by decide) ?_
    refine .step (.ldA rfl (.i 2 rfl) A_api_Entry Z_api_Entry (api_Entry.size _)) (by decide) ?_
    obtain ⟨x5, hx5, H⟩ := bind_s H
    refine .sel [3, 4, 0, 1, 2] (by decide) rfl ?_
    refine .callM (dst := some 21) 2 rfl E_annuletref12_Table_Add rfl rfl (fun w hh => W_annuletref12_Table_Add l_o_9_L_1 v_b_9_Most_1 x3 _ _ _ _ _ hx5 w hh.pk hh.pa ho_o_9_L_1) (fun d hd => by cases hd; decide) fun v nm hR => ?_
    obtain ⟨k_o_21_w0_L, c_o_21_w0_L, r_o_21_w0_L, rfl, rfl, ho_o_21_w0_L⟩ := hR
    refine .nil (.blk_n (.then_n (.region (?_))))
    refine .step (.add rfl rfl) (by decide) ?_
    refine .step (.mv rfl) (by decide) ?_
    refine .nil (.then_n (?_))
    exact .again ⟨fl1, (x5.2.2, x5.2.1, x4.2.1, x4.2.2, (IntKind.wrap .i64 (s12_1 + 1))), k_o_21_w0_L, c_o_21_w0_L, r_o_21_w0_L⟩ ⟨H, ho_o_21_w0_L⟩ (Nat.lt_succ_self _) (.cons_cons _ (.cons_cons _ (.cons_cons _ (.cons_cons _ (.cons _ (.slnil)))))) (.cons rfl (.cons rfl (.cons rfl (.cons rfl (.cons rfl .nil)))))
  · replace H := cond_f hc1 H
    refine .exit (.then_x (.then_x (.blk_x (.then_n (.seq (.region (?_)))))))
    refine .step (.mv rfl) (by decide) ?_
    refine .step (.mv rfl) (by decide) ?_
    refine .step (.as rfl) (by decide) ?_
    refine .step (.as rfl) (by decide) ?_
    refine .sel [2, 3, 0, 1] (by decide) rfl ?_
    cases H
    exact .nil (.then_n (.ret (.ret2 [_, _, _, _] (.refl _) rfl rfl rfl ⟨b_8, b_8_m, b_9, k_o_9_L_1, c_o_9_L_1, r_o_9_L_1, rfl, rfl, ho_o_9_L_1⟩)))

def F_annuletlaw15_fixed : Option (Bool) :=
  (mkIdn [(0, 1)]).bind fun x1 => (mkIdn [(0, 1)]).bind fun x2 => (F_annuletlaw15_laid ([(api_Entry.mk (api_Path.mk Idn.zero 1) Idn.zero x1 0 2), (api_Entry.mk (api_Path.mk Idn.zero 2) Idn.zero x2 (-1) 0)] : List api_Entry)).bind fun x3 => (F_tear_Drop x3.1 x3.2.1 4 (api_Path.mk Idn.zero 1)).bind fun x4 => (F_tear_Dead x4.2.2.1 x4.2.2.2 0).bind fun x5 => cond (decide ((IntKind.wrap .i64 ((((x4.1).length : Nat) : Int) + (((x4.2.1).length : Nat) : Int))) = 0)) (cond (decide ((((x5.1).length : Nat) : Int) = 1)) ((ixL x5.1 0).bind fun x6 => cond (decide (x6.N = 2)) ((ixL x5.1 0).bind fun x7 => cond (decide (x7.F.P.N = 1)) (cond (decide ((((x5.2.1).length : Nat) : Int) = 1)) ((ixL x5.2.1 0).bind fun x8 => cond (decide (x8.N = 2)) ((F_table_Table_Len x5.2.2.1 x5.2.2.2).bind fun x9 => some (decide (x9 = 0))) (some false)) (some false)) (some false)) (some false)) (some false)) (some false)
theorem W_annuletlaw15_fixed (r : Bool) (H : F_annuletlaw15_fixed = some r) (w : World) :
    Calls PG f_annuletlaw15_fixed #[] w (Ret w [] (fun v nm => v = .bool (r) ∧ nm = [])) := by
  unfold F_annuletlaw15_fixed at H
  refine enter0 (n := 74) (args := []) B_annuletlaw15_fixed rfl rfl (by simp) ?_
  refine .seq (.region (?_))
  refine .step (.as rfl) (by decide) ?_
  refine .nil (.then_n (.seq (.region (?_))))
  refine .step (.bdS rfl N_api_Path rfl W_api_Path (.cons rfl rfl (le_of (api_Path.size _) (by decide)) (api_Path.u_N _ _) (.nil))) (by decide) ?_
  obtain ⟨x1, hx1, H⟩ := bind_s H
  refine .step (.bdA rfl N_api_ID rfl R_api_ID Z_uint8 (mkIdn_bld hx1)) (by decide) ?_
  refine .step (.bdS rfl N_api_Entry rfl W_api_Entry (.cons rfl (api_Path.size _) (le_of (api_Entry.size _) (by decide)) (api_Entry.u_P _ _) (.cons rfl (Idn.size _) (le_of (api_Entry.size _) (by decide)) (api_Entry.u_B _ _) (.cons rfl rfl (le_of (api_Entry.size _) (by decide)) (api_Entry.u_Na _ _) (.cons rfl rfl (le_of (api_Entry.size _) (by decide)) (api_Entry.u_Nb _ _) (.nil)))))) (by decide) ?_
  refine .step (.bdS rfl N_api_Path rfl W_api_Path (.cons rfl rfl (le_of (api_Path.size _) (by decide)) (api_Path.u_N _ _) (.nil))) (by decide) ?_
  obtain ⟨x2, hx2, H⟩ := bind_s H
  refine .step (.bdA rfl N_api_ID rfl R_api_ID Z_uint8 (mkIdn_bld hx2)) (by decide) ?_
  refine .step (.bdS rfl N_api_Entry rfl W_api_Entry (.cons rfl (api_Path.size _) (le_of (api_Entry.size _) (by decide)) (api_Entry.u_P _ _) (.cons rfl (Idn.size _) (le_of (api_Entry.size _) (by decide)) (api_Entry.u_B _ _) (.cons rfl rfl (le_of (api_Entry.size _) (by decide)) (api_Entry.u_Na _ _) (.cons rfl rfl (le_of (api_Entry.size _) (by decide)) (api_Entry.u_Nb _ _) (.nil)))))) (by decide) ?_
  refine .bsL (vs := [.agg (api_Entry.enc (api_Entry.mk (api_Path.mk Idn.zero 1) Idn.zero x1 0 2)), .agg (api_Entry.enc (api_Entry.mk (api_Path.mk Idn.zero 2) Idn.zero x2 (-1) 0))]) (c := catA (([(api_Entry.mk (api_Path.mk Idn.zero 1) Idn.zero x1 0 2), (api_Entry.mk (api_Path.mk Idn.zero 2) Idn.zero x2 (-1) 0)] : List api_Entry).map api_Entry.enc) ++ #[]) (len := 2) L_sl_api_Entry Z_api_Entry N_api_Entry rfl rfl (by intro v hv; simp only [List.mem_cons, List.not_mem_nil, or_false] at hv; rcases hv with rfl | rfl <;> exact api_Entry.size _) (by rw [Array.append_empty]; rfl) (by decide) (by decide) (by decide) fun b12 hb12 => ?_
  have hob12 : OwnS 51 (some b12) ([(api_Entry.mk (api_Path.mk Idn.zero 1) Idn.zero x1 0 2), (api_Entry.mk (api_Path.mk Idn.zero 2) Idn.zero x2 (-1) 0)] : List api_Entry).length 2 #[] := ⟨rfl, Nat.le_refl _, fun h => by cases h⟩
  obtain ⟨x3, hx3, H⟩ := bind_s H
  refine .call0 rfl E_annuletlaw15_laid rfl rfl (fun w hm hf => W_annuletlaw15_laid ([(api_Entry.mk (api_Path.mk Idn.zero 1) Idn.zero x1 0 2), (api_Entry.mk (api_Path.mk Idn.zero 2) Idn.zero x2 (-1) 0)] : List api_Entry) _ _ _ hx3 w (RoK.at ((RoK.own 0 api_Entry.size rfl hob12)) hm hf)) (by decide) fun v nm hR => ?_
  obtain ⟨b_13_0, b_13_0_m, b_13_1, k_o_13_1_L, c_o_13_1_L, r_o_13_1_L, rfl, rfl, ho_o_13_1_L⟩ := hR
  refine .step (.mv rfl) (by decide) ?_
  refine .step (.xt rfl rfl) (by decide) ?_
  refine .step (.xt rfl rfl) (by decide) ?_
  refine .step (.as rfl) (by decide) ?_
  refine .step (.as rfl) (by decide) ?_
  refine .nil (.then_n (.seq (.seq (.region (?_)))))
  refine .step (.mv rfl) (by decide) ?_
  refine .step (.eqPtr P_pt_table_Table rfl rfl (by simp)) (by decide) ?_
  refine .nil (.then_n (.cond_f rfl ?_))
  refine .skip (.then_n (.seq (.region (?_))))
  refine .step (.mv rfl) (by decide) ?_
  refine .step (.bdS rfl N_api_Path rfl W_api_Path (.cons rfl rfl (le_of (api_Path.size _) (by decide)) (api_Path.u_N _ _) (.nil))) (by decide) ?_
  obtain ⟨x4, hx4, H⟩ := bind_s H
  refine .callM (dst := some 20) 2 rfl E_tear_Drop rfl rfl (fun w hh => W_tear_Drop x3.1 x3.2.1 4 (api_Path.mk Idn.zero 1) _ _ _ hx4 w hh.pk hh.pa ) (fun d hd => by cases hd; decide) fun v nm hR => ?_
  obtain ⟨k_o_20_Out, c_o_20_Out, r_o_20_Out, k_o_20_Lost, c_o_20_Lost, r_o_20_Lost, rfl, rfl, ho_o_20_Out, ho_o_20_Lost⟩ := hR
  refine .alloc N_tear_Torn rfl (by decide) fun b3 hb3 => ?_
  refine .storeA 0 rfl rfl rfl rfl Z_tear_Torn (tear_Torn.size _) (tear_Torn.one _) (tear_Torn.size _) ?_
  refine .nil (.then_n (.seq (.region (?_))))
  refine .step (.mv rfl) (by decide) ?_
  obtain ⟨x5, hx5, H⟩ := bind_s H
  refine .sel [3, 4, 0, 1, 2, 5, 6, 7] (by decide) rfl ?_
  refine .callM (dst := some 22) 2 rfl E_tear_Dead rfl rfl (fun w hh => W_tear_Dead x4.2.2.1 x4.2.2.2 0 _ _ _ hx5 w hh.pk hh.pa ) (fun d hd => by cases hd; decide) fun v nm hR => ?_
  obtain ⟨k_o_22_Out, c_o_22_Out, r_o_22_Out, k_o_22_Lost, c_o_22_Lost, r_o_22_Lost, rfl, rfl, ho_o_22_Out, ho_o_22_Lost⟩ := hR
  refine .alloc N_tear_Torn rfl (by decide) fun b4 hb4 => ?_
  refine .storeA 0 rfl rfl rfl rfl Z_tear_Torn (tear_Torn.size _) (tear_Torn.one _) (tear_Torn.size _) ?_
  refine .nil (.then_n (.seq (.region (?_))))
  refine .step (.fa rfl F_tear_Torn_Out Z_sl_api_Hop) (by decide) ?_
  refine .step (.ld1 (v := slv k_o_20_Out (x4.1).length c_o_20_Out) rfl (.i 5 rfl) A_sl_api_Hop (tear_Torn.g_Out _)) (by decide) ?_
  refine .step (.len L_sl_api_Hop rfl) (by decide) ?_
  refine .step (.fa rfl F_tear_Torn_Lost Z_sl_api_Path) (by decide) ?_
  refine .step (.ld1 (v := slv k_o_20_Lost (x4.2.1).length c_o_20_Lost) rfl (.i 5 rfl) A_sl_api_Path (tear_Torn.g_Lost _)) (by decide) ?_
  refine .step (.len L_sl_api_Path rfl) (by decide) ?_
  refine .step (.add rfl rfl) (by decide) ?_
  refine .step (.eql rfl rfl) (by decide) ?_
  refine .step (.mv rfl) (by decide) ?_
  refine .splitb 31 rfl (fun hb1 => ?_) (fun hb1 => ?_)
  · replace H := cond_t hb1 H
    refine .stepg rfl (.fa rfl F_tear_Torn_Out Z_sl_api_Hop) (by decide) ?_
    refine .stepg rfl (.ld1 (v := slv k_o_22_Out (x5.1).length c_o_22_Out) rfl (.i 0 rfl) A_sl_api_Hop (tear_Torn.g_Out _)) (by decide) ?_
    refine .stepg rfl (.len L_sl_api_Hop rfl) (by decide) ?_
    refine .stepg rfl (.eql rfl rfl) (by decide) ?_
    refine .step (.pk_t rfl rfl) (by decide) ?_
    refine .step (.mv rfl) (by decide) ?_
    refine .splitb 37 rfl (fun hb2 => ?_) (fun hb2 => ?_)
    · replace H := cond_t hb2 H
      refine .stepg rfl (.fa rfl F_tear_Torn_Out Z_sl_api_Hop) (by decide) ?_
      refine .stepg rfl (.ld1 (v := slv k_o_22_Out (x5.1).length c_o_22_Out) rfl (.i 0 rfl) A_sl_api_Hop (tear_Torn.g_Out _)) (by decide) ?_
      obtain ⟨x6, hx6, H⟩ := bind_s H
      refine .stepg rfl (.ixP (.own 1 api_Hop.size rfl ho_o_22_Out) hx6 rfl rfl L_sl_api_Hop Z_api_Hop) (by decide) ?_
      refine .stepg rfl (.faP (.own 1 api_Hop.size rfl ho_o_22_Out) hx6 rfl F_api_Hop_N Z_int) (by decide) ?_
      refine .stepg rfl (.ldP1 (.own 1 api_Hop.size rfl ho_o_22_Out) hx6 rfl A_int (api_Hop.g_N _)) (by decide) ?_
      refine .stepg rfl (.eql rfl rfl) (by decide) ?_
      refine .step (.pk_t rfl rfl) (by decide) ?_
      refine .step (.mv rfl) (by decide) ?_
      refine .splitb 45 rfl (fun hb3 => ?_) (fun hb3 => ?_)
      · replace H := cond_t hb3 H
        refine .stepg rfl (.fa rfl F_tear_Torn_Out Z_sl_api_Hop) (by decide) ?_
        refine .stepg rfl (.ld1 (v := slv k_o_22_Out (x5.1).length c_o_22_Out) rfl (.i 0 rfl) A_sl_api_Hop (tear_Torn.g_Out _)) (by decide) ?_
        obtain ⟨x7, hx7, H⟩ := bind_s H
        refine .stepg rfl (.ixP (.own 1 api_Hop.size rfl ho_o_22_Out) hx7 rfl rfl L_sl_api_Hop Z_api_Hop) (by decide) ?_
        refine .stepg rfl (.faP (.own 1 api_Hop.size rfl ho_o_22_Out) hx7 rfl F_api_Hop_F Z_api_Frame) (by decide) ?_
        refine .stepg rfl (.faP (.own 1 api_Hop.size rfl ho_o_22_Out) hx7 rfl F_api_Frame_P Z_api_Path) (by decide) ?_
        refine .stepg rfl (.faP (.own 1 api_Hop.size rfl ho_o_22_Out) hx7 rfl F_api_Path_N Z_int64) (by decide) ?_
        refine .stepg rfl (.ldP1 (.own 1 api_Hop.size rfl ho_o_22_Out) hx7 rfl A_int64 (api_Hop.g_F_P_N _)) (by decide) ?_
        refine .stepg rfl (.eql rfl rfl) (by decide) ?_
        refine .step (.pk_t rfl rfl) (by decide) ?_
        refine .step (.mv rfl) (by decide) ?_
        refine .splitb 55 rfl (fun hb4 => ?_) (fun hb4 => ?_)
        · replace H := cond_t hb4 H
          refine .stepg rfl (.fa rfl F_tear_Torn_Lost Z_sl_api_Path) (by decide) ?_
          refine .stepg rfl (.ld1 (v := slv k_o_22_Lost (x5.2.1).length c_o_22_Lost) rfl (.i 0 rfl) A_sl_api_Path (tear_Torn.g_Lost _)) (by decide) ?_
          refine .stepg rfl (.len L_sl_api_Path rfl) (by decide) ?_
          refine .stepg rfl (.eql rfl rfl) (by decide) ?_
          refine .step (.pk_t rfl rfl) (by decide) ?_
          refine .step (.mv rfl) (by decide) ?_
          refine .splitb 61 rfl (fun hb5 => ?_) (fun hb5 => ?_)
          · replace H := cond_t hb5 H
            refine .stepg rfl (.fa rfl F_tear_Torn_Lost Z_sl_api_Path) (by decide) ?_
            refine .stepg rfl (.ld1 (v := slv k_o_22_Lost (x5.2.1).length c_o_22_Lost) rfl (.i 0 rfl) A_sl_api_Path (tear_Torn.g_Lost _)) (by decide) ?_
            obtain ⟨x8, hx8, H⟩ := bind_s H
            refine .stepg rfl (.ixP (.own 2 api_Path.size rfl ho_o_22_Lost) hx8 rfl rfl L_sl_api_Path Z_api_Path) (by decide) ?_
            refine .stepg rfl (.faP (.own 2 api_Path.size rfl ho_o_22_Lost) hx8 rfl F_api_Path_N Z_int64) (by decide) ?_
            refine .stepg rfl (.ldP1 (.own 2 api_Path.size rfl ho_o_22_Lost) hx8 rfl A_int64 (api_Path.g_N _)) (by decide) ?_
            refine .stepg rfl (.eql rfl rfl) (by decide) ?_
            refine .step (.pk_t rfl rfl) (by decide) ?_
            refine .step (.mv rfl) (by decide) ?_
            refine .splitb 69 rfl (fun hb6 => ?_) (fun hb6 => ?_)
            · replace H := cond_t hb6 H
              refine .stepg rfl (.mv rfl) (by decide) ?_
              refine .gd rfl ?_
              obtain ⟨x9, hx9, H⟩ := bind_s H
              refine .callQ (v := .int .i64 (x9)) rfl E_table_Table_Len rfl rfl (fun w hm hf => W_table_Table_Len x5.2.2.1 x5.2.2.2 _ _ _ hx9 w (Kn.at (.i 3 rfl) hm hf) (Kn.at (.i 4 rfl) hm hf)) (by decide) ?_
              refine .stepg rfl (.eql rfl rfl) (by decide) ?_
              refine .step (.pk_t rfl rfl) (by decide) ?_
              refine .step (.as rfl) (by decide) ?_
              cases H
              exact .nil (.then_n (.ret (.ret1 [] (by simp) rfl rfl ⟨rfl, rfl⟩)))
            · replace H := cond_f hb6 H
              refine .pass rfl rfl (by decide) ?_
              refine .pass rfl rfl (by decide) ?_
              refine .pass rfl rfl (by decide) ?_
              refine .step (.pk_f rfl rfl) (by decide) ?_
              refine .step (.as rfl) (by decide) ?_
              cases H
              exact .nil (.then_n (.ret (.ret1 [] (by simp) rfl rfl ⟨rfl, rfl⟩)))
          · replace H := cond_f hb5 H
            refine .pass rfl rfl (by decide) ?_
            refine .pass rfl rfl (by decide) ?_
            refine .pass rfl rfl (by decide) ?_
            refine .pass rfl rfl (by decide) ?_
            refine .pass rfl rfl (by decide) ?_
            refine .pass rfl rfl (by decide) ?_
            refine .step (.pk_f rfl rfl) (by decide) ?_
            refine .step (.mv rfl) (by decide) ?_
            refine .pass rfl rfl (by decide) ?_
            refine .pass rfl rfl (by decide) ?_
            refine .pass rfl rfl (by decide) ?_
            refine .step (.pk_f rfl rfl) (by decide) ?_
            refine .step (.as rfl) (by decide) ?_
            cases H
            exact .nil (.then_n (.ret (.ret1 [] (by simp) rfl rfl ⟨rfl, rfl⟩)))
        · replace H := cond_f hb4 H
          refine .pass rfl rfl (by decide) ?_
          refine .pass rfl rfl (by decide) ?_
          refine .pass rfl rfl (by decide) ?_
          refine .pass rfl rfl (by decide) ?_
          refine .step (.pk_f rfl rfl) (by decide) ?_
          refine .step (.mv rfl) (by decide) ?_
          refine .pass rfl rfl (by decide) ?_
          refine .pass rfl rfl (by decide) ?_
          refine .pass rfl rfl (by decide) ?_
          refine .pass rfl rfl (by decide) ?_
          refine .pass rfl rfl (by decide) ?_
          refine .pass rfl rfl (by decide) ?_
          refine .step (.pk_f rfl rfl) (by decide) ?_
          refine .step (.mv rfl) (by decide) ?_
          refine .pass rfl rfl (by decide) ?_
          refine .pass rfl rfl (by decide) ?_
          refine .pass rfl rfl (by decide) ?_
          refine .step (.pk_f rfl rfl) (by decide) ?_
          refine .step (.as rfl) (by decide) ?_
          cases H
          exact .nil (.then_n (.ret (.ret1 [] (by simp) rfl rfl ⟨rfl, rfl⟩)))
      · replace H := cond_f hb3 H
        refine .pass rfl rfl (by decide) ?_
        refine .pass rfl rfl (by decide) ?_
        refine .pass rfl rfl (by decide) ?_
        refine .pass rfl rfl (by decide) ?_
        refine .pass rfl rfl (by decide) ?_
        refine .pass rfl rfl (by decide) ?_
        refine .pass rfl rfl (by decide) ?_
        refine .pass rfl rfl (by decide) ?_
        refine .step (.pk_f rfl rfl) (by decide) ?_
        refine .step (.mv rfl) (by decide) ?_
        refine .pass rfl rfl (by decide) ?_
        refine .pass rfl rfl (by decide) ?_
        refine .pass rfl rfl (by decide) ?_
        refine .pass rfl rfl (by decide) ?_
        refine .step (.pk_f rfl rfl) (by decide) ?_
        refine .step (.mv rfl) (by decide) ?_
        refine .pass rfl rfl (by decide) ?_
        refine .pass rfl rfl (by decide) ?_
        refine .pass rfl rfl (by decide) ?_
        refine .pass rfl rfl (by decide) ?_
        refine .pass rfl rfl (by decide) ?_
        refine .pass rfl rfl (by decide) ?_
        refine .step (.pk_f rfl rfl) (by decide) ?_
        refine .step (.mv rfl) (by decide) ?_
        refine .pass rfl rfl (by decide) ?_
        refine .pass rfl rfl (by decide) ?_
        refine .pass rfl rfl (by decide) ?_
        refine .step (.pk_f rfl rfl) (by decide) ?_
        refine .step (.as rfl) (by decide) ?_
        cases H
        exact .nil (.then_n (.ret (.ret1 [] (by simp) rfl rfl ⟨rfl, rfl⟩)))
    · replace H := cond_f hb2 H
      refine .pass rfl rfl (by decide) ?_
      refine .pass rfl rfl (by decide) ?_
      refine .pass rfl rfl (by decide) ?_
      refine .pass rfl rfl (by decide) ?_
      refine .pass rfl rfl (by decide) ?_
      refine .pass rfl rfl (by decide) ?_
      refine .step (.pk_f rfl rfl) (by decide) ?_
      refine .step (.mv rfl) (by decide) ?_
      refine .pass rfl rfl (by decide) ?_
      refine .pass rfl rfl (by decide) ?_
      refine .pass rfl rfl (by decide) ?_
      refine .pass rfl rfl (by decide) ?_
      refine .pass rfl rfl (by decide) ?_
      refine .pass rfl rfl (by decide) ?_
      refine .pass rfl rfl (by decide) ?_
      refine .pass rfl rfl (by decide) ?_
      refine .step (.pk_f rfl rfl) (by decide) ?_
      refine .step (.mv rfl) (by decide) ?_
      refine .pass rfl rfl (by decide) ?_
      refine .pass rfl rfl (by decide) ?_
      refine .pass rfl rfl (by decide) ?_
      refine .pass rfl rfl (by decide) ?_
      refine .step (.pk_f rfl rfl) (by decide) ?_
      refine .step (.mv rfl) (by decide) ?_
      refine .pass rfl rfl (by decide) ?_
      refine .pass rfl rfl (by decide) ?_
      refine .pass rfl rfl (by decide) ?_
      refine .pass rfl rfl (by decide) ?_
      refine .pass rfl rfl (by decide) ?_
      refine .pass rfl rfl (by decide) ?_
      refine .step (.pk_f rfl rfl) (by decide) ?_
      refine .step (.mv rfl) (by decide) ?_
      refine .pass rfl rfl (by decide) ?_
      refine .pass rfl rfl (by decide) ?_
      refine .pass rfl rfl (by decide) ?_
      refine .step (.pk_f rfl rfl) (by decide) ?_
      refine .step (.as rfl) (by decide) ?_
      cases H
      exact .nil (.then_n (.ret (.ret1 [] (by simp) rfl rfl ⟨rfl, rfl⟩)))
  · replace H := cond_f hb1 H
    refine .pass rfl rfl (by decide) ?_
    refine .pass rfl rfl (by decide) ?_
    refine .pass rfl rfl (by decide) ?_
    refine .pass rfl rfl (by decide) ?_
    refine .step (.pk_f rfl rfl) (by decide) ?_
    refine .step (.mv rfl) (by decide) ?_
    refine .pass rfl rfl (by decide) ?_
    refine .pass rfl rfl (by decide) ?_
    refine .pass rfl rfl (by decide) ?_
    refine .pass rfl rfl (by decide) ?_
    refine .pass rfl rfl (by decide) ?_
    refine .pass rfl rfl (by decide) ?_
    refine .step (.pk_f rfl rfl) (by decide) ?_
    refine .step (.mv rfl) (by decide) ?_
    refine .pass rfl rfl (by decide) ?_
    refine .pass rfl rfl (by decide) ?_
    refine .pass rfl rfl (by decide) ?_
    refine .pass rfl rfl (by decide) ?_
    refine .pass rfl rfl (by decide) ?_
    refine .pass rfl rfl (by decide) ?_
    refine .pass rfl rfl (by decide) ?_
    refine .pass rfl rfl (by decide) ?_
    refine .step (.pk_f rfl rfl) (by decide) ?_
    refine .step (.mv rfl) (by decide) ?_
    refine .pass rfl rfl (by decide) ?_
    refine .pass rfl rfl (by decide) ?_
    refine .pass rfl rfl (by decide) ?_
    refine .pass rfl rfl (by decide) ?_
    refine .step (.pk_f rfl rfl) (by decide) ?_
    refine .step (.mv rfl) (by decide) ?_
    refine .pass rfl rfl (by decide) ?_
    refine .pass rfl rfl (by decide) ?_
    refine .pass rfl rfl (by decide) ?_
    refine .pass rfl rfl (by decide) ?_
    refine .pass rfl rfl (by decide) ?_
    refine .pass rfl rfl (by decide) ?_
    refine .step (.pk_f rfl rfl) (by decide) ?_
    refine .step (.mv rfl) (by decide) ?_
    refine .pass rfl rfl (by decide) ?_
    refine .pass rfl rfl (by decide) ?_
    refine .pass rfl rfl (by decide) ?_
    refine .step (.pk_f rfl rfl) (by decide) ?_
    refine .step (.as rfl) (by decide) ?_
    cases H
    exact .nil (.then_n (.ret (.ret1 [] (by simp) rfl rfl ⟨rfl, rfl⟩)))

def F_annuletlaw15_same_L1 (a0_Out : List api_Hop) (a1_Out : List api_Hop) (again1 : (Int) → Option (Bool)) (st : Int) : Option (Bool) :=
  (fun s24_1 => cond (decide (s24_1 < (((a0_Out).length : Nat) : Int))) ((ixL a0_Out s24_1).bind fun x2 => (ixL a1_Out s24_1).bind fun x3 => cond (!decide (x2.N = x3.N)) (some false) ((ixL a0_Out s24_1).bind fun x4 => (ixL a1_Out s24_1).bind fun x5 => (F_annuletref04_Same x4.F x5.F).bind fun x6 => cond (!x6) (some false) (again1 (IntKind.wrap .i64 (s24_1 + 1))))) (some true)) st
def F_annuletlaw15_same (a0_Out : List api_Hop) (a0_Lost : List api_Path) (a1_Out : List api_Hop) (a1_Lost : List api_Path) : Option (Bool) :=
  cond (!decide ((((a0_Out).length : Nat) : Int) = (((a1_Out).length : Nat) : Int))) (some false) ((F_annuletref15_SamePaths a0_Lost a1_Lost).bind fun x1 => cond (!x1) (some false) (iter (F_annuletlaw15_same_L1 a0_Out a1_Out) FUEL 0))
theorem W_annuletlaw15_same (a0_Out : List api_Hop) (a0_Lost : List api_Path) (a1_Out : List api_Hop) (a1_Lost : List api_Path) (p_a0_Out : Option Addr) (c_a0_Out : Nat) (p_a0_Lost : Option Addr) (c_a0_Lost : Nat) (p_a1_Out : Option Addr) (c_a1_Out : Nat) (p_a1_Lost : Option Addr) (c_a1_Lost : Nat) (r : Bool) (H : F_annuletlaw15_same a0_Out a0_Lost a1_Out a1_Lost = some r) (w : World) (hR_a0_Out : Ro api_Hop.enc 96 w p_a0_Out a0_Out c_a0_Out) (hR_a0_Lost : Ro api_Path.enc 17 w p_a0_Lost a0_Lost c_a0_Lost) (hR_a1_Out : Ro api_Hop.enc 96 w p_a1_Out a1_Out c_a1_Out) (hR_a1_Lost : Ro api_Path.enc 17 w p_a1_Lost a1_Lost c_a1_Lost) :
    Calls PG f_annuletlaw15_same #[.agg (tear_Torn.enc (tear_Torn.mk (Slv.mk p_a0_Out (a0_Out).length c_a0_Out) (Slv.mk p_a0_Lost (a0_Lost).length c_a0_Lost))), .agg (annuletref15_Torn.enc (annuletref15_Torn.mk (Slv.mk p_a1_Out (a1_Out).length c_a1_Out) (Slv.mk p_a1_Lost (a1_Lost).length c_a1_Lost)))] w (Ret w [] (fun v nm => v = .bool (r) ∧ nm = [])) := by
  unfold F_annuletlaw15_same at H
  refine enter0 (n := 57) (args := [.agg (tear_Torn.enc (tear_Torn.mk (Slv.mk p_a0_Out (a0_Out).length c_a0_Out) (Slv.mk p_a0_Lost (a0_Lost).length c_a0_Lost))), .agg (annuletref15_Torn.enc (annuletref15_Torn.mk (Slv.mk p_a1_Out (a1_Out).length c_a1_Out) (Slv.mk p_a1_Lost (a1_Lost).length c_a1_Lost)))]) B_annuletlaw15_same rfl rfl (by simp) ?_
  refine .seq (.region (?_))
  refine .box rfl rfl (by decide) fun b2 hb2 => ?_
  refine .box rfl rfl (by decide) fun b3 hb3 => ?_
  refine .step (.as rfl) (by decide) ?_
  refine .nil (.then_n (.seq (.seq (.region (?_)))))
  refine .step (.fa rfl F_tear_Torn_Out Z_sl_api_Hop) (by decide) ?_
  refine .step (.ld1 (v := .slice p_a0_Out (a0_Out).length c_a0_Out) rfl (.i 1 rfl) A_sl_api_Hop (tear_Torn.g_Out _)) (by decide) ?_
  refine .step (.len L_sl_api_Hop rfl) (by decide) ?_
  refine .step (.fa rfl F_annuletref15_Torn_Out Z_sl_api_Hop) (by decide) ?_
  refine .step (.ld1 (v := .slice p_a1_Out (a1_Out).length c_a1_Out) rfl (.i 0 rfl) A_sl_api_Hop (annuletref15_Torn.g_Out _)) (by decide) ?_
  refine .step (.len L_sl_api_Hop rfl) (by decide) ?_
  refine .step (.neq rfl rfl) (by decide) ?_
  refine .step (.mv rfl) (by decide) ?_
  refine .splitb 13 rfl (fun hb1 => ?_) (fun hb1 => ?_)
  · replace H := cond_t hb1 H
    refine .pass rfl rfl (by decide) ?_
    refine .pass rfl rfl (by decide) ?_
    refine .pass rfl rfl (by decide) ?_
    refine .pass rfl rfl (by decide) ?_
    refine .pass rfl rfl (by decide) ?_
    refine .pass rfl rfl (by decide) ?_
    refine .step (.pk_t rfl rfl) (by decide) ?_
    refine .nil (.then_n (.cond_t rfl ?_))
    refine .seq (.region (?_))
    refine .step (.as rfl) (by decide) ?_
    cases H
    exact .nil (.then_n (.ret (.then_r (.ret1 [] (by simp) rfl rfl ⟨rfl, rfl⟩))))
  · replace H := cond_f hb1 H
    refine .stepg rfl (.fa rfl F_tear_Torn_Lost Z_sl_api_Path) (by decide) ?_
    refine .stepg rfl (.ld1 (v := .slice p_a0_Lost (a0_Lost).length c_a0_Lost) rfl (.i 1 rfl) A_sl_api_Path (tear_Torn.g_Lost _)) (by decide) ?_
    refine .stepg rfl (.fa rfl F_annuletref15_Torn_Lost Z_sl_api_Path) (by decide) ?_
    refine .stepg rfl (.ld1 (v := .slice p_a1_Lost (a1_Lost).length c_a1_Lost) rfl (.i 0 rfl) A_sl_api_Path (annuletref15_Torn.g_Lost _)) (by decide) ?_
    refine .gd rfl ?_
    obtain ⟨x1, hx1, H⟩ := bind_s H
    refine .callQ (v := .bool (x1)) rfl E_annuletref15_SamePaths rfl rfl (fun w hm hf => W_annuletref15_SamePaths a0_Lost a1_Lost _ _ _ _ _ hx1 w (RoK.at ((RoK.par hR_a0_Lost)) hm hf) (RoK.at ((RoK.par hR_a1_Lost)) hm hf)) (by decide) ?_
    refine .stepg rfl (.not rfl) (by decide) ?_
    refine .step (.pk_f rfl rfl) (by decide) ?_
    refine .nil (.then_n (.cond rfl (fun hc1 => ?_) (fun hc1 => ?_)))
    · replace H := cond_t hc1 H
      refine .seq (.region (?_))
      refine .step (.as rfl) (by decide) ?_
      cases H
      exact .nil (.then_n (.ret (.then_r (.ret1 [] (by simp) rfl rfl ⟨rfl, rfl⟩))))
    · replace H := cond_f hc1 H
      refine .skip (.then_n (.seq (.seq (.region (?_)))))
      refine .step (.fa rfl F_tear_Torn_Out Z_sl_api_Hop) (by decide) ?_
      refine .step (.ld1 (v := .slice p_a0_Out (a0_Out).length c_a0_Out) rfl (.i 1 rfl) A_sl_api_Hop (tear_Torn.g_Out _)) (by decide) ?_
      refine .step (.len L_sl_api_Hop rfl) (by decide) ?_
      refine .step (.mv rfl) (by decide) ?_
      refine .nil (.then_n (.block (.loop (G := Nat × (Int)) (fun g => iter (F_annuletlaw15_same_L1 a0_Out a1_Out) g.1 g.2 = some r) (fun g => [(some b3, .cells (annuletref15_Torn.enc (annuletref15_Torn.mk (Slv.mk p_a1_Out (a1_Out).length c_a1_Out) (Slv.mk p_a1_Lost (a1_Lost).length c_a1_Lost))) T_annuletref15_Torn (0, 0)), (some b2, .cells (tear_Torn.enc (tear_Torn.mk (Slv.mk p_a0_Out (a0_Out).length c_a0_Out) (Slv.mk p_a0_Lost (a0_Lost).length c_a0_Lost))) T_tear_Torn (0, 0))]) (fun g => [(2, .pointer (some ⟨b2, 0, none⟩)), (3, .pointer (some ⟨b3, 0, none⟩)), (23, .int .i64 ((((a0_Out).length : Nat) : Int))), (24, .int .i64 (g.2))]) (fun g => g.1) ⟨FUEL, 0⟩ H (.refl _) (.cons rfl (.cons rfl (.cons rfl (.cons rfl .nil)))) ?_)))
      rintro ⟨_ | fl1, s24_1⟩ H
      · exact (iter_0 H).elim
      replace H := iter_s H; rw [F_annuletlaw15_same_L1] at H; dsimp only at H ⊢
      refine .seq (.region (?_))
      refine .step (.lss rfl rfl) (by decide) ?_
      refine .nil (.then_n (.seq (.cond rfl (fun hc2 => ?_) (fun hc2 => ?_))))
      · replace H := cond_t hc2 H
        refine .skip (.then_n (.seq (.block (.seq (.region (?_))))))
        refine .step (.mv rfl) (by decide) ?_
        refine .step (.as rfl) (by decide) ?_
        refine .nil (.then_n (.seq (.drawsI [0, 1] rfl rfl ?_)))
        refine .first [0, 1, 2, 3, 4, 5, 6, 7, 8, 9, 10, 11, 12, 13] 15 rfl (by kernel_rfl) (by kernel_rfl) ?_
        refine .s_step rfl rfl rfl (.fa rfl F_tear_Torn_Out Z_sl_api_Hop) (by decide) ?_
        refine .s_step rfl rfl rfl (.ld1 (v := .slice p_a0_Out (a0_Out).length c_a0_Out) rfl (.i 1 rfl) A_sl_api_Hop (tear_Torn.g_Out _)) (by decide) ?_
        refine .s_step rfl rfl rfl (.mv rfl) (by decide) ?_
        obtain ⟨x2, hx2, H⟩ := bind_s H
        refine .s_step rfl rfl rfl (.ixP (.par hR_a0_Out) hx2 rfl rfl L_sl_api_Hop Z_api_Hop) (by decide) ?_
        refine .s_step rfl rfl rfl (.faP (.par hR_a0_Out) hx2 rfl F_api_Hop_N Z_int) (by decide) ?_
        refine .s_step rfl rfl rfl (.ldP1 (.par hR_a0_Out) hx2 rfl A_int (api_Hop.g_N _)) (by decide) ?_
        refine .s_step rfl rfl rfl (.fa rfl F_annuletref15_Torn_Out Z_sl_api_Hop) (by decide) ?_
        refine .s_step rfl rfl rfl (.ld1 (v := .slice p_a1_Out (a1_Out).length c_a1_Out) rfl (.i 0 rfl) A_sl_api_Hop (annuletref15_Torn.g_Out _)) (by decide) ?_
        refine .s_step rfl rfl rfl (.mv rfl) (by decide) ?_
        obtain ⟨x3, hx3, H⟩ := bind_s H
        refine .s_step rfl rfl rfl (.ixP (.par hR_a1_Out) hx3 rfl rfl L_sl_api_Hop Z_api_Hop) (by decide) ?_
        refine .s_step rfl rfl rfl (.faP (.par hR_a1_Out) hx3 rfl F_api_Hop_N Z_int) (by decide) ?_
        refine .s_step rfl rfl rfl (.ldP1 (.par hR_a1_Out) hx3 rfl A_int (api_Hop.g_N _)) (by decide) ?_
        refine .s_step rfl rfl rfl (.neq rfl rfl) (by decide) ?_
        refine .s_step rfl rfl rfl (.mv rfl) (by decide) ?_
        refine .s_nil ?_
        refine .splitb 40 rfl (fun hb2 => ?_) (fun hb2 => ?_)
        · replace H := cond_t hb2 H
          refine .first [14, 15, 16, 17, 18, 19, 20, 21, 22, 23, 24, 25, 26, 27, 28] 0 rfl (by kernel_rfl) (by kernel_rfl) ?_
          refine .s_pass rfl rfl rfl rfl rfl (by decide) ?_
          refine .s_pass rfl rfl rfl rfl rfl (by decide) ?_
          refine .s_pass rfl rfl rfl rfl rfl (by decide) ?_
          refine .s_pass rfl rfl rfl rfl rfl (by decide) ?_
          refine .s_pass rfl rfl rfl rfl rfl (by decide) ?_
          refine .s_pass rfl rfl rfl rfl rfl (by decide) ?_
          refine .s_pass rfl rfl rfl rfl rfl (by decide) ?_
          refine .s_pass rfl rfl rfl rfl rfl (by decide) ?_
          refine .s_pass rfl rfl rfl rfl rfl (by decide) ?_
          refine .s_pass rfl rfl rfl rfl rfl (by decide) ?_
          refine .s_pass rfl rfl rfl rfl rfl (by decide) ?_
          refine .s_pass rfl rfl rfl rfl rfl (by decide) ?_
          refine .s_pass rfl rfl rfl rfl rfl (by decide) ?_
          refine .s_pass rfl rfl rfl rfl rfl (by decide) ?_
          refine .s_step rfl rfl rfl (.pk_t rfl rfl) (by decide) ?_
          refine .s_nil ?_
          refine .done (.refl _) (by kernel_rfl) ?_
          refine .then_n (.cond_t rfl ?_)
          refine .seq (.region (?_))
          refine .step (.as rfl) (by decide) ?_
          cases H
          exact .nil (.then_n (.ret (.blk_r (.then_r (.then_r (.blk_r (.then_r (.ret1 [] (by simp) rfl rfl ⟨rfl, rfl⟩))))))))
        · replace H := cond_f hb2 H
          refine .first [14, 15, 16, 17, 18, 19, 20, 21, 22, 23, 24, 25] 3 rfl (by kernel_rfl) (by kernel_rfl) ?_
          refine .s_stepg rfl rfl rfl rfl (.fa rfl F_tear_Torn_Out Z_sl_api_Hop) (by decide) ?_
          refine .s_stepg rfl rfl rfl rfl (.ld1 (v := .slice p_a0_Out (a0_Out).length c_a0_Out) rfl (.i 1 rfl) A_sl_api_Hop (tear_Torn.g_Out _)) (by decide) ?_
          refine .s_stepg rfl rfl rfl rfl (.mv rfl) (by decide) ?_
          obtain ⟨x4, hx4, H⟩ := bind_s H
          refine .s_stepg rfl rfl rfl rfl (.ixP (.par hR_a0_Out) hx4 rfl rfl L_sl_api_Hop Z_api_Hop) (by decide) ?_
          refine .s_stepg rfl rfl rfl rfl (.faP (.par hR_a0_Out) hx4 rfl F_api_Hop_F Z_api_Frame) (by decide) ?_
          refine .s_stepg rfl rfl rfl rfl (.ldPf (.par hR_a0_Out) hx4 rfl A_api_Frame Z_api_Frame (api_Hop.s_F _)) (by decide) ?_
          refine .s_stepg rfl rfl rfl rfl (.fa rfl F_annuletref15_Torn_Out Z_sl_api_Hop) (by decide) ?_
          refine .s_stepg rfl rfl rfl rfl (.ld1 (v := .slice p_a1_Out (a1_Out).length c_a1_Out) rfl (.i 0 rfl) A_sl_api_Hop (annuletref15_Torn.g_Out _)) (by decide) ?_
          refine .s_stepg rfl rfl rfl rfl (.mv rfl) (by decide) ?_
          obtain ⟨x5, hx5, H⟩ := bind_s H
          refine .s_stepg rfl rfl rfl rfl (.ixP (.par hR_a1_Out) hx5 rfl rfl L_sl_api_Hop Z_api_Hop) (by decide) ?_
          refine .s_stepg rfl rfl rfl rfl (.faP (.par hR_a1_Out) hx5 rfl F_api_Hop_F Z_api_Frame) (by decide) ?_
          refine .s_stepg rfl rfl rfl rfl (.ldPf (.par hR_a1_Out) hx5 rfl A_api_Frame Z_api_Frame (api_Hop.s_F _)) (by decide) ?_
          refine .s_nil ?_
          refine .only (i := 26) (.refl _) (by kernel_rfl) rfl ?_
          refine .gd rfl ?_
          obtain ⟨x6, hx6, H⟩ := bind_s H
          refine .callQ (v := .bool (x6)) rfl E_annuletref04_Same rfl rfl (fun w hm hf => W_annuletref04_Same x4.F x5.F  _ hx6 w ) (by decide) ?_
          refine .nil (.then_n ?_)
          refine .first [27, 28] 0 rfl (by kernel_rfl) (by kernel_rfl) ?_
          refine .s_stepg rfl rfl rfl rfl (.not rfl) (by decide) ?_
          refine .s_step rfl rfl rfl (.pk_f rfl rfl) (by decide) ?_
          refine .s_nil ?_
          refine .done (.refl _) (by kernel_rfl) ?_
          refine .then_n (.cond rfl (fun hc3 => ?_) (fun hc3 => ?_))
          · replace H := cond_t hc3 H
            refine .seq (.region (?_))
            refine .step (.as rfl) (by decide) ?_
            cases H
            exact .nil (.then_n (.ret (.blk_r (.then_r (.then_r (.blk_r (.then_r (.ret1 [] (by simp) rfl rfl ⟨rfl, rfl⟩))))))))
          · replace H := cond_f hc3 H
            refine .skip (.blk_n (.then_n (.region (?_))))
            refine .step (.add rfl rfl) (by decide) ?_
            refine .step (.mv rfl) (by decide) ?_
            refine .nil (.then_n (?_))
            exact .again ⟨fl1, (IntKind.wrap .i64 (s24_1 + 1))⟩ H (Nat.lt_succ_self _) (.refl _) (.cons rfl (.cons rfl (.cons rfl (.cons rfl .nil))))
      · replace H := cond_f hc2 H
        refine .exit (.then_x (.then_x (.blk_x (.then_n (.seq (.region (?_)))))))
        refine .step (.as rfl) (by decide) ?_
        cases H
        exact .nil (.then_n (.ret (.ret1 [] (by simp) rfl rfl ⟨rfl, rfl⟩)))

def F_annuletlaw15_TearDrops (a0 : List api_Entry) (a1 : Int) (a2 : api_Path) : Option (Bool) :=
  (F_annuletlaw15_laid a0).bind fun x1 => (F_tear_Drop x1.1 x1.2.1 a1 a2).bind fun x2 => (F_annuletlaw15_fixed ).bind fun x3 => cond x3 ((F_annuletref15_Drop x1.2.2.1 x1.2.2.2 a1 a2).bind fun x4 => (F_annuletlaw15_same x2.1 x2.2.1 x4.1 x4.2.1).bind fun x5 => cond x5 ((F_table_Table_All x2.2.2.1 x2.2.2.2).bind fun x6 => (F_annuletref12_Same x6 x4.2.2.1).bind fun x7 => some x7) (some false)) (some false)
theorem W_annuletlaw15_TearDrops (a0 : List api_Entry) (a1 : Int) (a2 : api_Path) (p_a0 : Option Addr) (c_a0 : Nat) (r : Bool) (H : F_annuletlaw15_TearDrops a0 a1 a2 = some r) (w : World) (hR_a0 : Ro api_Entry.enc 51 w p_a0 a0 c_a0) :
    Calls PG f_annuletlaw15_TearDrops #[.slice p_a0 (a0).length c_a0, .int .i64 (a1), .agg (api_Path.enc a2)] w (Ret w [] (fun v nm => v = .bool (r) ∧ nm = [])) := by
  unfold F_annuletlaw15_TearDrops at H
  refine enter0 (n := 37) (args := [.slice p_a0 (a0).length c_a0, .int .i64 (a1), .agg (api_Path.enc a2)]) B_annuletlaw15_TearDrops rfl rfl (by simp) ?_
  refine .seq (.region (?_))
  refine .box rfl rfl (by decide) fun b5 hb5 => ?_
  refine .step (.as rfl) (by decide) ?_
  refine .nil (.then_n (.seq (.region (?_))))
  refine .step (.mv rfl) (by decide) ?_
  obtain ⟨x1, hx1, H⟩ := bind_s H
  refine .call0 rfl E_annuletlaw15_laid rfl rfl (fun w hm hf => W_annuletlaw15_laid a0 _ _ _ hx1 w (RoK.at ((RoK.par hR_a0)) hm hf)) (by decide) fun v nm hR => ?_
  obtain ⟨b_12_0, b_12_0_m, b_12_1, k_o_12_1_L, c_o_12_1_L, r_o_12_1_L, rfl, rfl, ho_o_12_1_L⟩ := hR
  refine .step (.mv rfl) (by decide) ?_
  refine .step (.xt rfl rfl) (by decide) ?_
  refine .step (.xt rfl rfl) (by decide) ?_
  refine .step (.as rfl) (by decide) ?_
  refine .step (.as rfl) (by decide) ?_
  refine .nil (.then_n (.seq (.region (?_))))
  refine .step (.mv rfl) (by decide) ?_
  refine .step (.mv rfl) (by decide) ?_
  refine .step (.ldA rfl (.i 4 rfl) A_api_Path Z_api_Path (api_Path.size _)) (by decide) ?_
  obtain ⟨x2, hx2, H⟩ := bind_s H
  refine .callM (dst := some 18) 2 rfl E_tear_Drop rfl rfl (fun w hh => W_tear_Drop x1.1 x1.2.1 a1 a2 _ _ _ hx2 w hh.pk hh.pa ) (fun d hd => by cases hd; decide) fun v nm hR => ?_
  obtain ⟨k_o_18_Out, c_o_18_Out, r_o_18_Out, k_o_18_Lost, c_o_18_Lost, r_o_18_Lost, rfl, rfl, ho_o_18_Out, ho_o_18_Lost⟩ := hR
  refine .alloc N_tear_Torn rfl (by decide) fun b9 hb9 => ?_
  refine .storeA 0 rfl rfl rfl rfl Z_tear_Torn (tear_Torn.size _) (tear_Torn.one _) (tear_Torn.size _) ?_
  refine .nil (.then_n (.seq (.drawsI [0, 1, 2, 3, 4, 7] rfl rfl ?_)))
  refine .only (i := 0) (.cons_cons _ (.cons_cons _ (.cons_cons _ (.cons_cons _ (.cons_cons _ (.cons _ (.cons _ (.refl _)))))))) (by kernel_rfl) rfl ?_
  obtain ⟨x3, hx3, H⟩ := bind_s H
  refine .callQ (v := .bool (x3)) rfl E_annuletlaw15_fixed rfl rfl (fun w hm hf => W_annuletlaw15_fixed   _ hx3 w ) (by decide) ?_
  refine .nil (.then_n ?_)
  refine .first [1] 17 rfl (by kernel_rfl) (by kernel_rfl) ?_
  refine .s_step rfl rfl rfl (.mv rfl) (by decide) ?_
  refine .s_nil ?_
  refine .splitb 20 rfl (fun hb1 => ?_) (fun hb1 => ?_)
  · replace H := cond_t hb1 H
    refine .first [2, 3, 4, 5] 13 rfl (by kernel_rfl) (by kernel_rfl) ?_
    refine .s_stepg rfl rfl rfl rfl (.ldA rfl (.i 0 rfl) A_tear_Torn Z_tear_Torn (tear_Torn.size _)) (by decide) ?_
    refine .s_stepg rfl rfl rfl rfl (.mv rfl) (by decide) ?_
    refine .s_stepg rfl rfl rfl rfl (.mv rfl) (by decide) ?_
    refine .s_stepg rfl rfl rfl rfl (.ldA rfl (.i 5 rfl) A_api_Path Z_api_Path (api_Path.size _)) (by decide) ?_
    refine .s_nil ?_
    refine .only (i := 6) (.cons_cons _ (.cons_cons _ (.cons_cons _ (.cons_cons _ (.cons_cons _ (.cons _ (.cons _ (.refl _)))))))) (by kernel_rfl) rfl ?_
    refine .gd rfl ?_
    obtain ⟨x4, hx4, H⟩ := bind_s H
    refine .sel [5, 6, 0, 1, 2, 3, 4, 7] (by decide) rfl ?_
    refine .callM (dst := some 25) 2 rfl E_annuletref15_Drop rfl rfl (fun w hh => W_annuletref15_Drop x1.2.2.1 x1.2.2.2 a1 a2 _ _ _ _ _ hx4 w hh.pk hh.pa ho_o_12_1_L) (fun d hd => by cases hd; decide) fun v nm hR => ?_
    obtain ⟨k_o_25_Out, c_o_25_Out, r_o_25_Out, k_o_25_Lost, c_o_25_Lost, r_o_25_Lost, k_o_25_w0_L, c_o_25_w0_L, r_o_25_w0_L, rfl, rfl, ho_o_25_Out, ho_o_25_Lost, ho_o_25_w0_L⟩ := hR
    refine .nil (.then_n ?_)
    refine .only (i := 7) (.cons _ (.cons _ (.cons _ (.cons _ (.refl _))))) (by kernel_rfl) rfl ?_
    refine .gd rfl ?_
    obtain ⟨x5, hx5, H⟩ := bind_s H
    refine .callQ (v := .bool (x5)) rfl E_annuletlaw15_same rfl rfl (fun w hm hf => W_annuletlaw15_same x2.1 x2.2.1 x4.1 x4.2.1 _ _ _ _ _ _ _ _ _ hx5 w (RoK.at ((RoK.own 5 api_Hop.size rfl ho_o_18_Out)) hm hf) (RoK.at ((RoK.own 6 api_Path.size rfl ho_o_18_Lost)) hm hf) (RoK.at ((RoK.own 0 api_Hop.size rfl ho_o_25_Out)) hm hf) (RoK.at ((RoK.own 1 api_Path.size rfl ho_o_25_Lost)) hm hf)) (by decide) ?_
    refine .nil (.then_n ?_)
    refine .first [8, 9] 9 rfl (by kernel_rfl) (by kernel_rfl) ?_
    refine .s_step rfl rfl rfl (.pk_t rfl rfl) (by decide) ?_
    refine .s_step rfl rfl rfl (.mv rfl) (by decide) ?_
    refine .s_nil ?_
    refine .splitb 28 rfl (fun hb2 => ?_) (fun hb2 => ?_)
    · replace H := cond_t hb2 H
      refine .first [10, 12, 13, 14] 5 rfl (by kernel_rfl) (by kernel_rfl) ?_
      refine .s_stepg rfl rfl rfl rfl (.mv rfl) (by decide) ?_
      refine .s_stepg rfl rfl rfl rfl (.mv rfl) (by decide) ?_
      refine .s_stepg rfl rfl rfl rfl (.nc rfl) (by decide) ?_
      refine .s_stepg rfl rfl rfl rfl (.fa rfl F_annuletref12_Table_L Z_sl_api_Entry) (by decide) ?_
      refine .s_nil ?_
      obtain ⟨x6, hx6, H⟩ := bind_s H
      refine .flock [(11, .res 30 _), (15, .con 34 _)] 3 (.cons _ (.cons _ (.cons _ (.cons _ (.refl _))))) rfl (by kernel_rfl) ⟨⟨_, rfl, .call0g rfl rfl E_table_Table_All rfl rfl (fun w hm hf => W_table_Table_All x2.2.2.1 x2.2.2.2 _ _ _ hx6 w (Kn.at (.i 7 rfl) hm hf) (Kn.at (.i 8 rfl) hm hf)) (by decide)⟩, ⟨_, rfl, .valg rfl (.ld1 (v := slv k_o_25_w0_L (x4.2.2.1).length c_o_25_w0_L) rfl (.i 2 rfl) A_sl_api_Entry (annuletref12_Table.g_L _)) (by decide)⟩, trivial⟩ (fun v30 nm30 hR30 => (?_ : St _ _ _ _ _ _))
      obtain ⟨k_o_30, c_o_30, r_o_30, rfl, rfl, ho_o_30⟩ := hR30
      refine .lst (l' := #[true, true, true, true, true, true, true, true, true, true, true, true, true, true, true, true, false, false, false]) (by kernel_rfl) ?_
      refine .only (i := 16) (.cons _ (.cons _ (.cons _ (.cons _ (.cons _ (.refl _)))))) (by kernel_rfl) rfl ?_
      refine .gd rfl ?_
      obtain ⟨x7, hx7, H⟩ := bind_s H
      refine .callQ (v := .bool (x7)) rfl E_annuletref12_Same rfl rfl (fun w hm hf => W_annuletref12_Same x6 x4.2.2.1 _ _ _ _ _ hx7 w (RoK.at ((RoK.own 0 api_Entry.size rfl ho_o_30)) hm hf) (RoK.at ((RoK.own 4 api_Entry.size rfl ho_o_25_w0_L)) hm hf)) (by decide) ?_
      refine .nil (.then_n ?_)
      refine .first [17, 18] 0 rfl (by kernel_rfl) (by kernel_rfl) ?_
      refine .s_step rfl rfl rfl (.pk_t rfl rfl) (by decide) ?_
      refine .s_step rfl rfl rfl (.as rfl) (by decide) ?_
      refine .s_nil ?_
      refine .done (.cons _ (.cons _ (.cons _ (.cons _ (.cons _ (.refl _)))))) (by kernel_rfl) ?_
      cases H
      exact .then_n (.ret (.ret1 [] (by simp) rfl rfl ⟨rfl, rfl⟩))
    · replace H := cond_f hb2 H
      refine .first [10, 11, 12, 13, 14, 15, 16, 17, 18] 0 rfl (by kernel_rfl) (by kernel_rfl) ?_
      refine .s_pass rfl rfl rfl rfl rfl (by decide) ?_
      refine .s_pass rfl rfl rfl rfl rfl (by decide) ?_
      refine .s_pass rfl rfl rfl rfl rfl (by decide) ?_
      refine .s_pass rfl rfl rfl rfl rfl (by decide) ?_
      refine .s_pass rfl rfl rfl rfl rfl (by decide) ?_
      refine .s_pass rfl rfl rfl rfl rfl (by decide) ?_
      refine .s_pass rfl rfl rfl rfl rfl (by decide) ?_
      refine .s_step rfl rfl rfl (.pk_f rfl rfl) (by decide) ?_
      refine .s_step rfl rfl rfl (.as rfl) (by decide) ?_
      refine .s_nil ?_
      refine .done (.cons _ (.cons _ (.cons _ (.cons _ (.refl _))))) (by kernel_rfl) ?_
      cases H
      exact .then_n (.ret (.ret1 [] (by simp) rfl rfl ⟨rfl, rfl⟩))
  · replace H := cond_f hb1 H
    refine .first [2, 3, 4, 5, 6, 7, 8, 9, 10, 11, 12, 13, 14, 15, 16, 17, 18] 0 rfl (by kernel_rfl) (by kernel_rfl) ?_
    refine .s_pass rfl rfl rfl rfl rfl (by decide) ?_
    refine .s_pass rfl rfl rfl rfl rfl (by decide) ?_
    refine .s_pass rfl rfl rfl rfl rfl (by decide) ?_
    refine .s_pass rfl rfl rfl rfl rfl (by decide) ?_
    refine .s_pass rfl rfl rfl rfl rfl (by decide) ?_
    refine .s_pass rfl rfl rfl rfl rfl (by decide) ?_
    refine .s_step rfl rfl rfl (.pk_f rfl rfl) (by decide) ?_
    refine .s_step rfl rfl rfl (.mv rfl) (by decide) ?_
    refine .s_pass rfl rfl rfl rfl rfl (by decide) ?_
    refine .s_pass rfl rfl rfl rfl rfl (by decide) ?_
    refine .s_pass rfl rfl rfl rfl rfl (by decide) ?_
    refine .s_pass rfl rfl rfl rfl rfl (by decide) ?_
    refine .s_pass rfl rfl rfl rfl rfl (by decide) ?_
    refine .s_pass rfl rfl rfl rfl rfl (by decide) ?_
    refine .s_pass rfl rfl rfl rfl rfl (by decide) ?_
    refine .s_step rfl rfl rfl (.pk_f rfl rfl) (by decide) ?_
    refine .s_step rfl rfl rfl (.as rfl) (by decide) ?_
    refine .s_nil ?_
    refine .done (.cons_cons _ (.cons_cons _ (.cons_cons _ (.cons_cons _ (.cons_cons _ (.cons _ (.cons _ (.refl _)))))))) (by kernel_rfl) ?_
    cases H
    exact .then_n (.ret (.ret1 [] (by simp) rfl rfl ⟨rfl, rfl⟩))

def F_annuletlaw15_TearDies (a0 : List api_Entry) (a1 : Int) : Option (Bool) :=
  (F_annuletlaw15_laid a0).bind fun x1 => (F_tear_Dead x1.1 x1.2.1 a1).bind fun x2 => (F_annuletlaw15_fixed ).bind fun x3 => cond x3 ((F_annuletref15_Dead x1.2.2.1 x1.2.2.2 a1).bind fun x4 => (F_annuletlaw15_same x2.1 x2.2.1 x4.1 x4.2.1).bind fun x5 => cond x5 ((F_table_Table_All x2.2.2.1 x2.2.2.2).bind fun x6 => (F_annuletref12_Same x6 x4.2.2.1).bind fun x7 => some x7) (some false)) (some false)
theorem W_annuletlaw15_TearDies (a0 : List api_Entry) (a1 : Int) (p_a0 : Option Addr) (c_a0 : Nat) (r : Bool) (H : F_annuletlaw15_TearDies a0 a1 = some r) (w : World) (hR_a0 : Ro api_Entry.enc 51 w p_a0 a0 c_a0) :
    Calls PG f_annuletlaw15_TearDies #[.slice p_a0 (a0).length c_a0, .int .i64 (a1)] w (Ret w [] (fun v nm => v = .bool (r) ∧ nm = [])) := by
  unfold F_annuletlaw15_TearDies at H
  refine enter0 (n := 33) (args := [.slice p_a0 (a0).length c_a0, .int .i64 (a1)]) B_annuletlaw15_TearDies rfl rfl (by simp) ?_
  refine .seq (.region (?_))
  refine .step (.as rfl) (by decide) ?_
  refine .nil (.then_n (.seq (.region (?_))))
  refine .step (.mv rfl) (by decide) ?_
  obtain ⟨x1, hx1, H⟩ := bind_s H
  refine .call0 rfl E_annuletlaw15_laid rfl rfl (fun w hm hf => W_annuletlaw15_laid a0 _ _ _ hx1 w (RoK.at ((RoK.par hR_a0)) hm hf)) (by decide) fun v nm hR => ?_
  obtain ⟨b_10_0, b_10_0_m, b_10_1, k_o_10_1_L, c_o_10_1_L, r_o_10_1_L, rfl, rfl, ho_o_10_1_L⟩ := hR
  refine .step (.mv rfl) (by decide) ?_
  refine .step (.xt rfl rfl) (by decide) ?_
  refine .step (.xt rfl rfl) (by decide) ?_
  refine .step (.as rfl) (by decide) ?_
  refine .step (.as rfl) (by decide) ?_
  refine .nil (.then_n (.seq (.region (?_))))
  refine .step (.mv rfl) (by decide) ?_
  refine .step (.mv rfl) (by decide) ?_
  obtain ⟨x2, hx2, H⟩ := bind_s H
  refine .callM (dst := some 15) 2 rfl E_tear_Dead rfl rfl (fun w hh => W_tear_Dead x1.1 x1.2.1 a1 _ _ _ hx2 w hh.pk hh.pa ) (fun d hd => by cases hd; decide) fun v nm hR => ?_
  obtain ⟨k_o_15_Out, c_o_15_Out, r_o_15_Out, k_o_15_Lost, c_o_15_Lost, r_o_15_Lost, rfl, rfl, ho_o_15_Out, ho_o_15_Lost⟩ := hR
  refine .alloc N_tear_Torn rfl (by decide) fun b7 hb7 => ?_
  refine .storeA 0 rfl rfl rfl rfl Z_tear_Torn (tear_Torn.size _) (tear_Torn.one _) (tear_Torn.size _) ?_
  refine .nil (.then_n (.seq (.drawsI [0, 1, 2, 3, 4] rfl rfl ?_)))
  refine .only (i := 0) (.cons_cons _ (.cons_cons _ (.cons_cons _ (.cons_cons _ (.cons_cons _ (.cons _ (.cons _ (.slnil)))))))) (by kernel_rfl) rfl ?_
  obtain ⟨x3, hx3, H⟩ := bind_s H
  refine .callQ (v := .bool (x3)) rfl E_annuletlaw15_fixed rfl rfl (fun w hm hf => W_annuletlaw15_fixed   _ hx3 w ) (by decide) ?_
  refine .nil (.then_n ?_)
  refine .first [1] 16 rfl (by kernel_rfl) (by kernel_rfl) ?_
  refine .s_step rfl rfl rfl (.mv rfl) (by decide) ?_
  refine .s_nil ?_
  refine .splitb 17 rfl (fun hb1 => ?_) (fun hb1 => ?_)
  · replace H := cond_t hb1 H
    refine .first [2, 3, 4] 13 rfl (by kernel_rfl) (by kernel_rfl) ?_
    refine .s_stepg rfl rfl rfl rfl (.ldA rfl (.i 0 rfl) A_tear_Torn Z_tear_Torn (tear_Torn.size _)) (by decide) ?_
    refine .s_stepg rfl rfl rfl rfl (.mv rfl) (by decide) ?_
    refine .s_stepg rfl rfl rfl rfl (.mv rfl) (by decide) ?_
    refine .s_nil ?_
    refine .only (i := 5) (.cons_cons _ (.cons_cons _ (.cons_cons _ (.cons_cons _ (.cons_cons _ (.cons _ (.cons _ (.slnil)))))))) (by kernel_rfl) rfl ?_
    refine .gd rfl ?_
    obtain ⟨x4, hx4, H⟩ := bind_s H
    refine .sel [5, 6, 0, 1, 2, 3, 4] (by decide) rfl ?_
    refine .callM (dst := some 21) 2 rfl E_annuletref15_Dead rfl rfl (fun w hh => W_annuletref15_Dead x1.2.2.1 x1.2.2.2 a1 _ _ _ _ _ hx4 w hh.pk hh.pa ho_o_10_1_L) (fun d hd => by cases hd; decide) fun v nm hR => ?_
    obtain ⟨k_o_21_Out, c_o_21_Out, r_o_21_Out, k_o_21_Lost, c_o_21_Lost, r_o_21_Lost, k_o_21_w0_L, c_o_21_w0_L, r_o_21_w0_L, rfl, rfl, ho_o_21_Out, ho_o_21_Lost, ho_o_21_w0_L⟩ := hR
    refine .nil (.then_n ?_)
    refine .only (i := 6) (.cons _ (.cons _ (.cons _ (.cons _ (.refl _))))) (by kernel_rfl) rfl ?_
    refine .gd rfl ?_
    obtain ⟨x5, hx5, H⟩ := bind_s H
    refine .callQ (v := .bool (x5)) rfl E_annuletlaw15_same rfl rfl (fun w hm hf => W_annuletlaw15_same x2.1 x2.2.1 x4.1 x4.2.1 _ _ _ _ _ _ _ _ _ hx5 w (RoK.at ((RoK.own 5 api_Hop.size rfl ho_o_15_Out)) hm hf) (RoK.at ((RoK.own 6 api_Path.size rfl ho_o_15_Lost)) hm hf) (RoK.at ((RoK.own 0 api_Hop.size rfl ho_o_21_Out)) hm hf) (RoK.at ((RoK.own 1 api_Path.size rfl ho_o_21_Lost)) hm hf)) (by decide) ?_
    refine .nil (.then_n ?_)
    refine .first [7, 8] 9 rfl (by kernel_rfl) (by kernel_rfl) ?_
    refine .s_step rfl rfl rfl (.pk_t rfl rfl) (by decide) ?_
    refine .s_step rfl rfl rfl (.mv rfl) (by decide) ?_
    refine .s_nil ?_
    refine .splitb 24 rfl (fun hb2 => ?_) (fun hb2 => ?_)
    · replace H := cond_t hb2 H
      refine .first [9, 11, 12, 13] 5 rfl (by kernel_rfl) (by kernel_rfl) ?_
      refine .s_stepg rfl rfl rfl rfl (.mv rfl) (by decide) ?_
      refine .s_stepg rfl rfl rfl rfl (.mv rfl) (by decide) ?_
      refine .s_stepg rfl rfl rfl rfl (.nc rfl) (by decide) ?_
      refine .s_stepg rfl rfl rfl rfl (.fa rfl F_annuletref12_Table_L Z_sl_api_Entry) (by decide) ?_
      refine .s_nil ?_
      obtain ⟨x6, hx6, H⟩ := bind_s H
      refine .flock [(10, .res 26 _), (14, .con 30 _)] 3 (.cons _ (.cons _ (.cons _ (.cons _ (.refl _))))) rfl (by kernel_rfl) ⟨⟨_, rfl, .call0g rfl rfl E_table_Table_All rfl rfl (fun w hm hf => W_table_Table_All x2.2.2.1 x2.2.2.2 _ _ _ hx6 w (Kn.at (.i 7 rfl) hm hf) (Kn.at (.i 8 rfl) hm hf)) (by decide)⟩, ⟨_, rfl, .valg rfl (.ld1 (v := slv k_o_21_w0_L (x4.2.2.1).length c_o_21_w0_L) rfl (.i 2 rfl) A_sl_api_Entry (annuletref12_Table.g_L _)) (by decide)⟩, trivial⟩ (fun v26 nm26 hR26 => (?_ : St _ _ _ _ _ _))
      obtain ⟨k_o_26, c_o_26, r_o_26, rfl, rfl, ho_o_26⟩ := hR26
      refine .lst (l' := #[true, true, true, true, true, true, true, true, true, true, true, true, true, true, true, false, false, false]) (by kernel_rfl) ?_
      refine .only (i := 15) (.cons _ (.cons _ (.cons _ (.cons _ (.cons _ (.refl _)))))) (by kernel_rfl) rfl ?_
      refine .gd rfl ?_
      obtain ⟨x7, hx7, H⟩ := bind_s H
      refine .callQ (v := .bool (x7)) rfl E_annuletref12_Same rfl rfl (fun w hm hf => W_annuletref12_Same x6 x4.2.2.1 _ _ _ _ _ hx7 w (RoK.at ((RoK.own 0 api_Entry.size rfl ho_o_26)) hm hf) (RoK.at ((RoK.own 4 api_Entry.size rfl ho_o_21_w0_L)) hm hf)) (by decide) ?_
      refine .nil (.then_n ?_)
      refine .first [16, 17] 0 rfl (by kernel_rfl) (by kernel_rfl) ?_
      refine .s_step rfl rfl rfl (.pk_t rfl rfl) (by decide) ?_
      refine .s_step rfl rfl rfl (.as rfl) (by decide) ?_
      refine .s_nil ?_
      refine .done (.cons _ (.cons _ (.cons _ (.cons _ (.cons _ (.refl _)))))) (by kernel_rfl) ?_
      cases H
      exact .then_n (.ret (.ret1 [] (by simp) rfl rfl ⟨rfl, rfl⟩))
    · replace H := cond_f hb2 H
      refine .first [9, 10, 11, 12, 13, 14, 15, 16, 17] 0 rfl (by kernel_rfl) (by kernel_rfl) ?_
      refine .s_pass rfl rfl rfl rfl rfl (by decide) ?_
      refine .s_pass rfl rfl rfl rfl rfl (by decide) ?_
      refine .s_pass rfl rfl rfl rfl rfl (by decide) ?_
      refine .s_pass rfl rfl rfl rfl rfl (by decide) ?_
      refine .s_pass rfl rfl rfl rfl rfl (by decide) ?_
      refine .s_pass rfl rfl rfl rfl rfl (by decide) ?_
      refine .s_pass rfl rfl rfl rfl rfl (by decide) ?_
      refine .s_step rfl rfl rfl (.pk_f rfl rfl) (by decide) ?_
      refine .s_step rfl rfl rfl (.as rfl) (by decide) ?_
      refine .s_nil ?_
      refine .done (.cons _ (.cons _ (.cons _ (.cons _ (.refl _))))) (by kernel_rfl) ?_
      cases H
      exact .then_n (.ret (.ret1 [] (by simp) rfl rfl ⟨rfl, rfl⟩))
  · replace H := cond_f hb1 H
    refine .first [2, 3, 4, 5, 6, 7, 8, 9, 10, 11, 12, 13, 14, 15, 16, 17] 0 rfl (by kernel_rfl) (by kernel_rfl) ?_
    refine .s_pass rfl rfl rfl rfl rfl (by decide) ?_
    refine .s_pass rfl rfl rfl rfl rfl (by decide) ?_
    refine .s_pass rfl rfl rfl rfl rfl (by decide) ?_
    refine .s_pass rfl rfl rfl rfl rfl (by decide) ?_
    refine .s_pass rfl rfl rfl rfl rfl (by decide) ?_
    refine .s_step rfl rfl rfl (.pk_f rfl rfl) (by decide) ?_
    refine .s_step rfl rfl rfl (.mv rfl) (by decide) ?_
    refine .s_pass rfl rfl rfl rfl rfl (by decide) ?_
    refine .s_pass rfl rfl rfl rfl rfl (by decide) ?_
    refine .s_pass rfl rfl rfl rfl rfl (by decide) ?_
    refine .s_pass rfl rfl rfl rfl rfl (by decide) ?_
    refine .s_pass rfl rfl rfl rfl rfl (by decide) ?_
    refine .s_pass rfl rfl rfl rfl rfl (by decide) ?_
    refine .s_pass rfl rfl rfl rfl rfl (by decide) ?_
    refine .s_step rfl rfl rfl (.pk_f rfl rfl) (by decide) ?_
    refine .s_step rfl rfl rfl (.as rfl) (by decide) ?_
    refine .s_nil ?_
    refine .done (.cons_cons _ (.cons_cons _ (.cons_cons _ (.cons_cons _ (.cons_cons _ (.cons _ (.cons _ (.slnil)))))))) (by kernel_rfl) ?_
    cases H
    exact .then_n (.ret (.ret1 [] (by simp) rfl rfl ⟨rfl, rfl⟩))

def F_annuletlaw15_TearEnds (a0 : List api_Entry) (a1 : api_Path) : Option (Bool) :=
  (F_annuletlaw15_laid a0).bind fun x1 => (F_tear_End x1.1 x1.2.1 a1).bind fun x2 => (F_annuletlaw15_fixed ).bind fun x3 => cond x3 ((F_annuletref15_End x1.2.2.1 x1.2.2.2 a1).bind fun x4 => (F_annuletlaw15_same x2.1 x2.2.1 x4.1 x4.2.1).bind fun x5 => cond x5 ((F_table_Table_All x2.2.2.1 x2.2.2.2).bind fun x6 => (F_annuletref12_Same x6 x4.2.2.1).bind fun x7 => some x7) (some false)) (some false)
theorem W_annuletlaw15_TearEnds (a0 : List api_Entry) (a1 : api_Path) (p_a0 : Option Addr) (c_a0 : Nat) (r : Bool) (H : F_annuletlaw15_TearEnds a0 a1 = some r) (w : World) (hR_a0 : Ro api_Entry.enc 51 w p_a0 a0 c_a0) :
    Calls PG f_annuletlaw15_TearEnds #[.slice p_a0 (a0).length c_a0, .agg (api_Path.enc a1)] w (Ret w [] (fun v nm => v = .bool (r) ∧ nm = [])) := by
  unfold F_annuletlaw15_TearEnds at H
  refine enter0 (n := 33) (args := [.slice p_a0 (a0).length c_a0, .agg (api_Path.enc a1)]) B_annuletlaw15_TearEnds rfl rfl (by simp) ?_
  refine .seq (.region (?_))
  refine .box rfl rfl (by decide) fun b3 hb3 => ?_
  refine .step (.as rfl) (by decide) ?_
  refine .nil (.then_n (.seq (.region (?_))))
  refine .step (.mv rfl) (by decide) ?_
  obtain ⟨x1, hx1, H⟩ := bind_s H
  refine .call0 rfl E_annuletlaw15_laid rfl rfl (fun w hm hf => W_annuletlaw15_laid a0 _ _ _ hx1 w (RoK.at ((RoK.par hR_a0)) hm hf)) (by decide) fun v nm hR => ?_
  obtain ⟨b_10_0, b_10_0_m, b_10_1, k_o_10_1_L, c_o_10_1_L, r_o_10_1_L, rfl, rfl, ho_o_10_1_L⟩ := hR
  refine .step (.mv rfl) (by decide) ?_
  refine .step (.xt rfl rfl) (by decide) ?_
  refine .step (.xt rfl rfl) (by decide) ?_
  refine .step (.as rfl) (by decide) ?_
  refine .step (.as rfl) (by decide) ?_
  refine .nil (.then_n (.seq (.region (?_))))
  refine .step (.mv rfl) (by decide) ?_
  refine .step (.ldA rfl (.i 4 rfl) A_api_Path Z_api_Path (api_Path.size _)) (by decide) ?_
  obtain ⟨x2, hx2, H⟩ := bind_s H
  refine .callM (dst := some 15) 2 rfl E_tear_End rfl rfl (fun w hh => W_tear_End x1.1 x1.2.1 a1 _ _ _ hx2 w hh.pk hh.pa ) (fun d hd => by cases hd; decide) fun v nm hR => ?_
  obtain ⟨k_o_15_Out, c_o_15_Out, r_o_15_Out, k_o_15_Lost, c_o_15_Lost, r_o_15_Lost, rfl, rfl, ho_o_15_Out, ho_o_15_Lost⟩ := hR
  refine .alloc N_tear_Torn rfl (by decide) fun b7 hb7 => ?_
  refine .storeA 0 rfl rfl rfl rfl Z_tear_Torn (tear_Torn.size _) (tear_Torn.one _) (tear_Torn.size _) ?_
  refine .nil (.then_n (.seq (.drawsI [0, 1, 2, 3, 4, 7] rfl rfl ?_)))
  refine .only (i := 0) (.cons_cons _ (.cons_cons _ (.cons_cons _ (.cons_cons _ (.cons_cons _ (.cons _ (.cons _ (.refl _)))))))) (by kernel_rfl) rfl ?_
  obtain ⟨x3, hx3, H⟩ := bind_s H
  refine .callQ (v := .bool (x3)) rfl E_annuletlaw15_fixed rfl rfl (fun w hm hf => W_annuletlaw15_fixed   _ hx3 w ) (by decide) ?_
  refine .nil (.then_n ?_)
  refine .first [1] 16 rfl (by kernel_rfl) (by kernel_rfl) ?_
  refine .s_step rfl rfl rfl (.mv rfl) (by decide) ?_
  refine .s_nil ?_
  refine .splitb 17 rfl (fun hb1 => ?_) (fun hb1 => ?_)
  · replace H := cond_t hb1 H
    refine .first [2, 3, 4] 13 rfl (by kernel_rfl) (by kernel_rfl) ?_
    refine .s_stepg rfl rfl rfl rfl (.ldA rfl (.i 0 rfl) A_tear_Torn Z_tear_Torn (tear_Torn.size _)) (by decide) ?_
    refine .s_stepg rfl rfl rfl rfl (.mv rfl) (by decide) ?_
    refine .s_stepg rfl rfl rfl rfl (.ldA rfl (.i 5 rfl) A_api_Path Z_api_Path (api_Path.size _)) (by decide) ?_
    refine .s_nil ?_
    refine .only (i := 5) (.cons_cons _ (.cons_cons _ (.cons_cons _ (.cons_cons _ (.cons_cons _ (.cons _ (.cons _ (.refl _)))))))) (by kernel_rfl) rfl ?_
    refine .gd rfl ?_
    obtain ⟨x4, hx4, H⟩ := bind_s H
    refine .sel [5, 6, 0, 1, 2, 3, 4, 7] (by decide) rfl ?_
    refine .callM (dst := some 21) 2 rfl E_annuletref15_End rfl rfl (fun w hh => W_annuletref15_End x1.2.2.1 x1.2.2.2 a1 _ _ _ _ _ hx4 w hh.pk hh.pa ho_o_10_1_L) (fun d hd => by cases hd; decide) fun v nm hR => ?_
    obtain ⟨k_o_21_Out, c_o_21_Out, r_o_21_Out, k_o_21_Lost, c_o_21_Lost, r_o_21_Lost, k_o_21_w0_L, c_o_21_w0_L, r_o_21_w0_L, rfl, rfl, ho_o_21_Out, ho_o_21_Lost, ho_o_21_w0_L⟩ := hR
    refine .nil (.then_n ?_)
    refine .only (i := 6) (.cons _ (.cons _ (.cons _ (.cons _ (.refl _))))) (by kernel_rfl) rfl ?_
    refine .gd rfl ?_
    obtain ⟨x5, hx5, H⟩ := bind_s H
    refine .callQ (v := .bool (x5)) rfl E_annuletlaw15_same rfl rfl (fun w hm hf => W_annuletlaw15_same x2.1 x2.2.1 x4.1 x4.2.1 _ _ _ _ _ _ _ _ _ hx5 w (RoK.at ((RoK.own 5 api_Hop.size rfl ho_o_15_Out)) hm hf) (RoK.at ((RoK.own 6 api_Path.size rfl ho_o_15_Lost)) hm hf) (RoK.at ((RoK.own 0 api_Hop.size rfl ho_o_21_Out)) hm hf) (RoK.at ((RoK.own 1 api_Path.size rfl ho_o_21_Lost)) hm hf)) (by decide) ?_
    refine .nil (.then_n ?_)
    refine .first [7, 8] 9 rfl (by kernel_rfl) (by kernel_rfl) ?_
    refine .s_step rfl rfl rfl (.pk_t rfl rfl) (by decide) ?_
    refine .s_step rfl rfl rfl (.mv rfl) (by decide) ?_
    refine .s_nil ?_
    refine .splitb 24 rfl (fun hb2 => ?_) (fun hb2 => ?_)
    · replace H := cond_t hb2 H
      refine .first [9, 11, 12, 13] 5 rfl (by kernel_rfl) (by kernel_rfl) ?_
      refine .s_stepg rfl rfl rfl rfl (.mv rfl) (by decide) ?_
      refine .s_stepg rfl rfl rfl rfl (.mv rfl) (by decide) ?_
      refine .s_stepg rfl rfl rfl rfl (.nc rfl) (by decide) ?_
      refine .s_stepg rfl rfl rfl rfl (.fa rfl F_annuletref12_Table_L Z_sl_api_Entry) (by decide) ?_
      refine .s_nil ?_
      obtain ⟨x6, hx6, H⟩ := bind_s H
      refine .flock [(10, .res 26 _), (14, .con 30 _)] 3 (.cons _ (.cons _ (.cons _ (.cons _ (.refl _))))) rfl (by kernel_rfl) ⟨⟨_, rfl, .call0g rfl rfl E_table_Table_All rfl rfl (fun w hm hf => W_table_Table_All x2.2.2.1 x2.2.2.2 _ _ _ hx6 w (Kn.at (.i 7 rfl) hm hf) (Kn.at (.i 8 rfl) hm hf)) (by decide)⟩, ⟨_, rfl, .valg rfl (.ld1 (v := slv k_o_21_w0_L (x4.2.2.1).length c_o_21_w0_L) rfl (.i 2 rfl) A_sl_api_Entry (annuletref12_Table.g_L _)) (by decide)⟩, trivial⟩ (fun v26 nm26 hR26 => (?_ : St _ _ _ _ _ _))
      obtain ⟨k_o_26, c_o_26, r_o_26, rfl, rfl, ho_o_26⟩ := hR26
      refine .lst (l' := #[true, true, true, true, true, true, true, true, true, true, true, true, true, true, true, false, false, false]) (by kernel_rfl) ?_
      refine .only (i := 15) (.cons _ (.cons _ (.cons _ (.cons _ (.cons _ (.refl _)))))) (by kernel_rfl) rfl ?_
      refine .gd rfl ?_
      obtain ⟨x7, hx7, H⟩ := bind_s H
      refine .callQ (v := .bool (x7)) rfl E_annuletref12_Same rfl rfl (fun w hm hf => W_annuletref12_Same x6 x4.2.2.1 _ _ _ _ _ hx7 w (RoK.at ((RoK.own 0 api_Entry.size rfl ho_o_26)) hm hf) (RoK.at ((RoK.own 4 api_Entry.size rfl ho_o_21_w0_L)) hm hf)) (by decide) ?_
      refine .nil (.then_n ?_)
      refine .first [16, 17] 0 rfl (by kernel_rfl) (by kernel_rfl) ?_
      refine .s_step rfl rfl rfl (.pk_t rfl rfl) (by decide) ?_
      refine .s_step rfl rfl rfl (.as rfl) (by decide) ?_
      refine .s_nil ?_
      refine .done (.cons _ (.cons _ (.cons _ (.cons _ (.cons _ (.refl _)))))) (by kernel_rfl) ?_
      cases H
      exact .then_n (.ret (.ret1 [] (by simp) rfl rfl ⟨rfl, rfl⟩))
    · replace H := cond_f hb2 H
      refine .first [9, 10, 11, 12, 13, 14, 15, 16, 17] 0 rfl (by kernel_rfl) (by kernel_rfl) ?_
      refine .s_pass rfl rfl rfl rfl rfl (by decide) ?_
      refine .s_pass rfl rfl rfl rfl rfl (by decide) ?_
      refine .s_pass rfl rfl rfl rfl rfl (by decide) ?_
      refine .s_pass rfl rfl rfl rfl rfl (by decide) ?_
      refine .s_pass rfl rfl rfl rfl rfl (by decide) ?_
      refine .s_pass rfl rfl rfl rfl rfl (by decide) ?_
      refine .s_pass rfl rfl rfl rfl rfl (by decide) ?_
      refine .s_step rfl rfl rfl (.pk_f rfl rfl) (by decide) ?_
      refine .s_step rfl rfl rfl (.as rfl) (by decide) ?_
      refine .s_nil ?_
      refine .done (.cons _ (.cons _ (.cons _ (.cons _ (.refl _))))) (by kernel_rfl) ?_
      cases H
      exact .then_n (.ret (.ret1 [] (by simp) rfl rfl ⟨rfl, rfl⟩))
  · replace H := cond_f hb1 H
    refine .first [2, 3, 4, 5, 6, 7, 8, 9, 10, 11, 12, 13, 14, 15, 16, 17] 0 rfl (by kernel_rfl) (by kernel_rfl) ?_
    refine .s_pass rfl rfl rfl rfl rfl (by decide) ?_
    refine .s_pass rfl rfl rfl rfl rfl (by decide) ?_
    refine .s_pass rfl rfl rfl rfl rfl (by decide) ?_
    refine .s_pass rfl rfl rfl rfl rfl (by decide) ?_
    refine .s_pass rfl rfl rfl rfl rfl (by decide) ?_
    refine .s_step rfl rfl rfl (.pk_f rfl rfl) (by decide) ?_
    refine .s_step rfl rfl rfl (.mv rfl) (by decide) ?_
    refine .s_pass rfl rfl rfl rfl rfl (by decide) ?_
    refine .s_pass rfl rfl rfl rfl rfl (by decide) ?_
    refine .s_pass rfl rfl rfl rfl rfl (by decide) ?_
    refine .s_pass rfl rfl rfl rfl rfl (by decide) ?_
    refine .s_pass rfl rfl rfl rfl rfl (by decide) ?_
    refine .s_pass rfl rfl rfl rfl rfl (by decide) ?_
    refine .s_pass rfl rfl rfl rfl rfl (by decide) ?_
    refine .s_step rfl rfl rfl (.pk_f rfl rfl) (by decide) ?_
    refine .s_step rfl rfl rfl (.as rfl) (by decide) ?_
    refine .s_nil ?_
    refine .done (.cons_cons _ (.cons_cons _ (.cons_cons _ (.cons_cons _ (.cons_cons _ (.cons _ (.cons _ (.refl _)))))))) (by kernel_rfl) ?_
    cases H
    exact .then_n (.ret (.ret1 [] (by simp) rfl rfl ⟨rfl, rfl⟩))

def F_annuletlaw15_TearSweeps_L3 (a1 : Int) (x4 : (List api_Hop) × (List api_Path) × Int × (MS api_Path api_Entry)) (s9_1 : Int) (s39_1 : Int) (again1 : (Int × Int) → Option (Bool)) (x5 : api_Entry) (again3 : (Int × Int) → Option (Bool)) (st : Int × Int) : Option (Bool) :=
  match st with | (s16_3, s117_3) => cond (decide (s117_3 < (((x4.2.1).length : Nat) : Int))) ((ixL x4.2.1 s117_3).bind fun x8 => cond (decide (x8 = x5.P)) (cond (decide ((IntKind.wrap .i64 ((IntKind.wrap .i64 (x5.Na + x5.Nb)) - a1)) = (-1))) (again3 ((IntKind.wrap .i64 (s16_3 + 1)), (IntKind.wrap .i64 (s117_3 + 1)))) (again3 (s16_3, (IntKind.wrap .i64 (s117_3 + 1))))) (again3 (s16_3, (IntKind.wrap .i64 (s117_3 + 1))))) (cond (!decide (s16_3 = 1)) (some false) (again1 ((IntKind.wrap .i64 (s9_1 + 1)), (IntKind.wrap .i64 (s39_1 + 1)))))
def F_annuletlaw15_TearSweeps_L2 (a1 : Int) (x4 : (List api_Hop) × (List api_Path) × Int × (MS api_Path api_Entry)) (s9_1 : Int) (s39_1 : Int) (again1 : (Int × Int) → Option (Bool)) (x5 : api_Entry) (again2 : (Int × Int) → Option (Bool)) (st : Int × Int) : Option (Bool) :=
  match st with | (s16_2, s89_2) => cond (decide (s89_2 < (((x4.1).length : Nat) : Int))) ((ixL x4.1 s89_2).bind fun x7 => cond (decide (x7.F.P = x5.P)) (cond (decide (x7.N = (IntKind.wrap .i64 ((IntKind.wrap .i64 (x5.Na + x5.Nb)) - a1)))) (cond (decide (x7.F.Kind = 5)) (again2 ((IntKind.wrap .i64 (s16_2 + 1)), (IntKind.wrap .i64 (s89_2 + 1)))) (again2 (s16_2, (IntKind.wrap .i64 (s89_2 + 1))))) (again2 (s16_2, (IntKind.wrap .i64 (s89_2 + 1))))) (again2 (s16_2, (IntKind.wrap .i64 (s89_2 + 1))))) (iter (F_annuletlaw15_TearSweeps_L3 a1 x4 s9_1 s39_1 again1 x5) FUEL (s16_2, 0))
def F_annuletlaw15_TearSweeps_L5 (a1 : Int) (x4 : (List api_Hop) × (List api_Path) × Int × (MS api_Path api_Entry)) (s9_1 : Int) (s39_1 : Int) (again1 : (Int × Int) → Option (Bool)) (x5 : api_Entry) (again5 : (Int × Int) → Option (Bool)) (st : Int × Int) : Option (Bool) :=
  match st with | (s16_5, s117_5) => cond (decide (s117_5 < (((x4.2.1).length : Nat) : Int))) ((ixL x4.2.1 s117_5).bind fun x10 => cond (decide (x10 = x5.P)) (cond (decide ((IntKind.wrap .i64 ((IntKind.wrap .i64 (x5.Na + x5.Nb)) - a1)) = (-1))) (again5 ((IntKind.wrap .i64 (s16_5 + 1)), (IntKind.wrap .i64 (s117_5 + 1)))) (again5 (s16_5, (IntKind.wrap .i64 (s117_5 + 1))))) (again5 (s16_5, (IntKind.wrap .i64 (s117_5 + 1))))) (cond (!decide (s16_5 = 1)) (some false) (again1 ((IntKind.wrap .i64 (s9_1 + 1)), (IntKind.wrap .i64 (s39_1 + 1)))))
def F_annuletlaw15_TearSweeps_L4 (a1 : Int) (x4 : (List api_Hop) × (List api_Path) × Int × (MS api_Path api_Entry)) (s9_1 : Int) (s39_1 : Int) (again1 : (Int × Int) → Option (Bool)) (x5 : api_Entry) (again4 : (Int × Int) → Option (Bool)) (st : Int × Int) : Option (Bool) :=
  match st with | (s16_4, s89_4) => cond (decide (s89_4 < (((x4.1).length : Nat) : Int))) ((ixL x4.1 s89_4).bind fun x9 => cond (decide (x9.F.P = x5.P)) (cond (decide (x9.N = (IntKind.wrap .i64 ((IntKind.wrap .i64 (x5.Na + x5.Nb)) - a1)))) (cond (decide (x9.F.Kind = 5)) (again4 ((IntKind.wrap .i64 (s16_4 + 1)), (IntKind.wrap .i64 (s89_4 + 1)))) (again4 (s16_4, (IntKind.wrap .i64 (s89_4 + 1))))) (again4 (s16_4, (IntKind.wrap .i64 (s89_4 + 1))))) (again4 (s16_4, (IntKind.wrap .i64 (s89_4 + 1))))) (iter (F_annuletlaw15_TearSweeps_L5 a1 x4 s9_1 s39_1 again1 x5) FUEL (s16_4, 0))
def F_annuletlaw15_TearSweeps_L7 (a1 : Int) (x4 : (List api_Hop) × (List api_Path) × Int × (MS api_Path api_Entry)) (s9_1 : Int) (s39_1 : Int) (again1 : (Int × Int) → Option (Bool)) (x5 : api_Entry) (again7 : (Int × Int) → Option (Bool)) (st : Int × Int) : Option (Bool) :=
  match st with | (s16_7, s117_7) => cond (decide (s117_7 < (((x4.2.1).length : Nat) : Int))) ((ixL x4.2.1 s117_7).bind fun x12 => cond (decide (x12 = x5.P)) (cond (decide ((IntKind.wrap .i64 ((IntKind.wrap .i64 (x5.Na + x5.Nb)) - a1)) = (-1))) (again7 ((IntKind.wrap .i64 (s16_7 + 1)), (IntKind.wrap .i64 (s117_7 + 1)))) (again7 (s16_7, (IntKind.wrap .i64 (s117_7 + 1))))) (again7 (s16_7, (IntKind.wrap .i64 (s117_7 + 1))))) (cond (!decide (s16_7 = 1)) (some false) (again1 ((IntKind.wrap .i64 (s9_1 + 1)), (IntKind.wrap .i64 (s39_1 + 1)))))
def F_annuletlaw15_TearSweeps_L6 (a1 : Int) (x4 : (List api_Hop) × (List api_Path) × Int × (MS api_Path api_Entry)) (s9_1 : Int) (s39_1 : Int) (again1 : (Int × Int) → Option (Bool)) (x5 : api_Entry) (again6 : (Int × Int) → Option (Bool)) (st : Int × Int) : Option (Bool) :=
  match st with | (s16_6, s89_6) => cond (decide (s89_6 < (((x4.1).length : Nat) : Int))) ((ixL x4.1 s89_6).bind fun x11 => cond (decide (x11.F.P = x5.P)) (cond (decide (x11.N = (IntKind.wrap .i64 ((IntKind.wrap .i64 (x5.Na + x5.Nb)) - a1)))) (cond (decide (x11.F.Kind = 5)) (again6 ((IntKind.wrap .i64 (s16_6 + 1)), (IntKind.wrap .i64 (s89_6 + 1)))) (again6 (s16_6, (IntKind.wrap .i64 (s89_6 + 1))))) (again6 (s16_6, (IntKind.wrap .i64 (s89_6 + 1))))) (again6 (s16_6, (IntKind.wrap .i64 (s89_6 + 1))))) (iter (F_annuletlaw15_TearSweeps_L7 a1 x4 s9_1 s39_1 again1 x5) FUEL (s16_6, 0))
def F_annuletlaw15_TearSweeps_L9 (a1 : Int) (x4 : (List api_Hop) × (List api_Path) × Int × (MS api_Path api_Entry)) (s9_1 : Int) (s39_1 : Int) (again1 : (Int × Int) → Option (Bool)) (x5 : api_Entry) (again9 : (Int × Int) → Option (Bool)) (st : Int × Int) : Option (Bool) :=
  match st with | (s16_9, s117_9) => cond (decide (s117_9 < (((x4.2.1).length : Nat) : Int))) ((ixL x4.2.1 s117_9).bind fun x14 => cond (decide (x14 = x5.P)) (cond (decide ((IntKind.wrap .i64 ((IntKind.wrap .i64 (x5.Na + x5.Nb)) - a1)) = (-1))) (again9 ((IntKind.wrap .i64 (s16_9 + 1)), (IntKind.wrap .i64 (s117_9 + 1)))) (again9 (s16_9, (IntKind.wrap .i64 (s117_9 + 1))))) (again9 (s16_9, (IntKind.wrap .i64 (s117_9 + 1))))) (cond (!decide (s16_9 = 1)) (some false) (again1 ((IntKind.wrap .i64 (s9_1 + 1)), (IntKind.wrap .i64 (s39_1 + 1)))))
def F_annuletlaw15_TearSweeps_L8 (a1 : Int) (x4 : (List api_Hop) × (List api_Path) × Int × (MS api_Path api_Entry)) (s9_1 : Int) (s39_1 : Int) (again1 : (Int × Int) → Option (Bool)) (x5 : api_Entry) (again8 : (Int × Int) → Option (Bool)) (st : Int × Int) : Option (Bool) :=
  match st with | (s16_8, s89_8) => cond (decide (s89_8 < (((x4.1).length : Nat) : Int))) ((ixL x4.1 s89_8).bind fun x13 => cond (decide (x13.F.P = x5.P)) (cond (decide (x13.N = (IntKind.wrap .i64 ((IntKind.wrap .i64 (x5.Na + x5.Nb)) - a1)))) (cond (decide (x13.F.Kind = 5)) (again8 ((IntKind.wrap .i64 (s16_8 + 1)), (IntKind.wrap .i64 (s89_8 + 1)))) (again8 (s16_8, (IntKind.wrap .i64 (s89_8 + 1))))) (again8 (s16_8, (IntKind.wrap .i64 (s89_8 + 1))))) (again8 (s16_8, (IntKind.wrap .i64 (s89_8 + 1))))) (iter (F_annuletlaw15_TearSweeps_L9 a1 x4 s9_1 s39_1 again1 x5) FUEL (s16_8, 0))
def F_annuletlaw15_TearSweeps_L1 (a1 : Int) (x3 : List api_Entry) (x4 : (List api_Hop) × (List api_Path) × Int × (MS api_Path api_Entry)) (again1 : (Int × Int) → Option (Bool)) (st : Int × Int) : Option (Bool) :=
  match st with | (s9_1, s39_1) => cond (decide (s39_1 < (((x3).length : Nat) : Int))) ((ixL x3 s39_1).bind fun x5 => (F_table_Table_Get x4.2.2.1 x4.2.2.2 x5.P).bind fun x6 => cond (decide (0 ≤ a1)) (cond (decide (x5.Na = a1)) (cond (decide (x6.2 = true)) (some false) (cond x6.2 (cond (!decide (x6.1 = x5)) (some false) (iter (F_annuletlaw15_TearSweeps_L2 a1 x4 s9_1 s39_1 again1 x5) FUEL (0, 0))) (iter (F_annuletlaw15_TearSweeps_L4 a1 x4 s9_1 s39_1 again1 x5) FUEL (0, 0)))) (cond (decide (x6.2 = (decide (x5.Nb = a1)))) (some false) (cond x6.2 (cond (!decide (x6.1 = x5)) (some false) (cond (!(decide (x5.Nb = a1))) (again1 (s9_1, (IntKind.wrap .i64 (s39_1 + 1)))) (iter (F_annuletlaw15_TearSweeps_L6 a1 x4 s9_1 s39_1 again1 x5) FUEL (0, 0)))) (cond (!(decide (x5.Nb = a1))) (again1 (s9_1, (IntKind.wrap .i64 (s39_1 + 1)))) (iter (F_annuletlaw15_TearSweeps_L8 a1 x4 s9_1 s39_1 again1 x5) FUEL (0, 0)))))) (cond (decide (x6.2 = false)) (some false) (cond x6.2 (cond (!decide (x6.1 = x5)) (some false) (again1 (s9_1, (IntKind.wrap .i64 (s39_1 + 1))))) (again1 (s9_1, (IntKind.wrap .i64 (s39_1 + 1))))))) (cond (decide ((IntKind.wrap .i64 ((((x4.1).length : Nat) : Int) + (((x4.2.1).length : Nat) : Int))) = s9_1)) ((F_table_Table_Via x4.2.2.1 x4.2.2.2 a1).bind fun x15 => some (decide ((((x15).length : Nat) : Int) = 0))) (some false))
def F_annuletlaw15_TearSweeps (a0 : List api_Entry) (a1 : Int) : Option (Bool) :=
  (F_annuletlaw15_laid a0).bind fun x1 => (F_annuletlaw15_fixed ).bind fun x2 => cond (!x2) (some false) ((F_table_Table_All x1.1 x1.2.1).bind fun x3 => (F_tear_Dead x1.1 x1.2.1 a1).bind fun x4 => iter (F_annuletlaw15_TearSweeps_L1 a1 x3 x4) FUEL (0, 0))
theorem W_annuletlaw15_TearSweeps (a0 : List api_Entry) (a1 : Int) (p_a0 : Option Addr) (c_a0 : Nat) (r : Bool) (H : F_annuletlaw15_TearSweeps a0 a1 = some r) (w : World) (hR_a0 : Ro api_Entry.enc 51 w p_a0 a0 c_a0) :
    Calls PG f_annuletlaw15_TearSweeps #[.slice p_a0 (a0).length c_a0, .int .i64 (a1)] w (Ret w [] (fun v nm => v = .bool (r) ∧ nm = [])) := by
  unfold F_annuletlaw15_TearSweeps at H
  refine enter0 (n := 151) (args := [.slice p_a0 (a0).length c_a0, .int .i64 (a1)]) B_annuletlaw15_TearSweeps rfl rfl (by simp) ?_
  refine .seq (.region (?_))
  refine .step (.as rfl) (by decide) ?_
  refine .nil (.then_n (.seq (.region (?_))))
  refine .step (.mv rfl) (by decide) ?_
  obtain ⟨x1, hx1, H⟩ := bind_s H
  refine .call0 rfl E_annuletlaw15_laid rfl rfl (fun w hm hf => W_annuletlaw15_laid a0 _ _ _ hx1 w (RoK.at ((RoK.par hR_a0)) hm hf)) (by decide) fun v nm hR => ?_
  obtain ⟨b_23_0, b_23_0_m, b_23_1, k_o_23_1_L, c_o_23_1_L, r_o_23_1_L, rfl, rfl, ho_o_23_1_L⟩ := hR
  refine .step (.mv rfl) (by decide) ?_
  refine .step (.xt rfl rfl) (by decide) ?_
  refine .step (.xt rfl rfl) (by decide) ?_
  refine .step (.as rfl) (by decide) ?_
  refine .step (.as rfl) (by decide) ?_
  refine .nil (.then_n (.seq (.seq (.region (?_)))))
  refine .step (.mv rfl) (by decide) ?_
  refine .step (.eqPtr P_pt_table_Table rfl rfl (by simp)) (by decide) ?_
  refine .step (.mv rfl) (by decide) ?_
  refine .gd rfl ?_
  obtain ⟨x2, hx2, H⟩ := bind_s H
  refine .callQ (v := .bool (x2)) rfl E_annuletlaw15_fixed rfl rfl (fun w hm hf => W_annuletlaw15_fixed   _ hx2 w ) (by decide) ?_
  refine .stepg rfl (.not rfl) (by decide) ?_
  refine .step (.pk_f rfl rfl) (by decide) ?_
  refine .nil (.then_n (.cond rfl (fun hc1 => ?_) (fun hc1 => ?_)))
  · replace H := cond_t hc1 H
    refine .seq (.region (?_))
    refine .step (.as rfl) (by decide) ?_
    cases H
    exact .nil (.then_n (.ret (.then_r (.ret1 [] (by simp) rfl rfl ⟨rfl, rfl⟩))))
  · replace H := cond_f hc1 H
    refine .skip (.then_n (.seq (.region (?_))))
    refine .step (.mv rfl) (by decide) ?_
    obtain ⟨x3, hx3, H⟩ := bind_s H
    refine .call0 rfl E_table_Table_All rfl rfl (fun w hm hf => W_table_Table_All x1.1 x1.2.1 _ _ _ hx3 w (Kn.at (.i 0 rfl) hm hf) (Kn.at (.i 1 rfl) hm hf)) (by decide) fun v nm hR => ?_
    obtain ⟨k_o_33, c_o_33, r_o_33, rfl, rfl, ho_o_33⟩ := hR
    refine .step (.as rfl) (by decide) ?_
    refine .nil (.then_n (.seq (.region (?_))))
    refine .step (.mv rfl) (by decide) ?_
    refine .step (.mv rfl) (by decide) ?_
    obtain ⟨x4, hx4, H⟩ := bind_s H
    refine .sel [1, 2, 0, 3, 4] (by decide) rfl ?_
    refine .callM (dst := some 36) 2 rfl E_tear_Dead rfl rfl (fun w hh => W_tear_Dead x1.1 x1.2.1 a1 _ _ _ hx4 w hh.pk hh.pa ) (fun d hd => by cases hd; decide) fun v nm hR => ?_
    obtain ⟨k_o_36_Out, c_o_36_Out, r_o_36_Out, k_o_36_Lost, c_o_36_Lost, r_o_36_Lost, rfl, rfl, ho_o_36_Out, ho_o_36_Lost⟩ := hR
    refine .alloc N_tear_Torn rfl (by decide) fun b8 hb8 => ?_
    refine .storeA 0 rfl rfl rfl rfl Z_tear_Torn (tear_Torn.size _) (tear_Torn.one _) (tear_Torn.size _) ?_
    refine .nil (.then_n (.seq (.region (?_))))
    refine .step (.as rfl) (by decide) ?_
    refine .nil (.then_n (.seq (.seq (.region (?_)))))
    refine .step (.mv rfl) (by decide) ?_
    refine .step (.len L_sl_api_Entry rfl) (by decide) ?_
    refine .step (.mv rfl) (by decide) ?_
    refine .nil (.then_n (.block (.loop (G := Nat × (Int × Int)) (fun g => iter (F_annuletlaw15_TearSweeps_L1 a1 x3 x4) g.1 g.2 = some r) (fun g => [(some b8, .cells (tear_Torn.enc (tear_Torn.mk (slS k_o_36_Out (x4.1).length c_o_36_Out) (slS k_o_36_Lost (x4.2.1).length c_o_36_Lost))) T_tear_Torn (0, 0)), (k_o_36_Out, .cells (catA ((x4.1).map api_Hop.enc) ++ r_o_36_Out) T_api_Hop (0, 0)), (k_o_36_Lost, .cells (catA ((x4.2.1).map api_Path.enc) ++ r_o_36_Lost) T_api_Path (0, 0)), (some b_23_0, .cells (table_Table.enc (table_Table.mk x4.2.2.1 (.map (some b_23_0_m)))) T_table_Table (0, 0)), (some b_23_0_m, MS.obj (vA api_Path.enc) (vA api_Entry.enc) x4.2.2.2), (k_o_33, .cells (catA ((x3).map api_Entry.enc) ++ r_o_33) T_api_Entry (0, 0)), (some b_23_1, .cells (annuletref12_Table.enc (annuletref12_Table.mk (slS k_o_23_1_L (x1.2.2.1).length c_o_23_1_L) x1.2.2.2)) T_annuletref12_Table (0, 0)), (k_o_23_1_L, .cells (catA ((x1.2.2.1).map api_Entry.enc) ++ r_o_23_1_L) T_api_Entry (0, 0))]) (fun g => [(1, .int .i64 (a1)), (5, .pointer (some ⟨b_23_0, 0, none⟩)), (8, .pointer (some ⟨b8, 0, none⟩)), (9, .int .i64 (g.2.1)), (37, slv k_o_33 (x3).length c_o_33), (38, .int .i64 ((((x3).length : Nat) : Int))), (39, .int .i64 (g.2.2))]) (fun g => g.1) ⟨FUEL, (0, 0)⟩ H (.refl _) (.cons rfl (.cons rfl (.cons rfl (.cons rfl (.cons rfl (.cons rfl (.cons rfl .nil))))))) ?_)))
    rintro ⟨_ | fl1, ⟨s9_1, s39_1⟩⟩ H
    · exact (iter_0 H).elim
    replace H := iter_s H; rw [F_annuletlaw15_TearSweeps_L1] at H; dsimp only at H ⊢
    refine .seq (.region (?_))
    refine .step (.lss rfl rfl) (by decide) ?_
    refine .nil (.then_n (.seq (.cond rfl (fun hc2 => ?_) (fun hc2 => ?_))))
    · replace H := cond_t hc2 H
      refine .skip (.then_n (.seq (.block (.seq (.region (?_))))))
      obtain ⟨x5, hx5, H⟩ := bind_s H
      refine .step (.ixP (.own 5 api_Entry.size rfl ho_o_33) hx5 rfl rfl L_sl_api_Entry Z_api_Entry) (by decide) ?_
      refine .step (.ldP (.own 5 api_Entry.size rfl ho_o_33) hx5 rfl A_api_Entry Z_api_Entry) (by decide) ?_
      refine .alloc N_api_Entry rfl (by decide) fun b11 hb11 => ?_
      refine .storeA 0 rfl rfl rfl rfl Z_api_Entry (api_Entry.size _) (api_Entry.one _) (api_Entry.size _) ?_
      refine .nil (.then_n (.seq (.region (?_))))
      refine .step (.mv rfl) (by decide) ?_
      refine .step (.fa rfl F_api_Entry_P Z_api_Path) (by decide) ?_
      refine .step (.lds rfl (.i 0 rfl) A_api_Path Z_api_Path (api_Entry.s_P _)) (by decide) ?_
      obtain ⟨x6, hx6, H⟩ := bind_s H
      refine .callQ (v := .tuple #[.agg (api_Entry.enc x6.1), .bool (x6.2)]) rfl E_table_Table_Get rfl rfl (fun w hm hf => W_table_Table_Get x4.2.2.1 x4.2.2.2 x5.P _ _ _ hx6 w (Kn.at (.i 4 rfl) hm hf) (Kn.at (.i 5 rfl) hm hf)) (by decide) ?_
      refine .step (.mv rfl) (by decide) ?_
      refine .step (.xt rfl rfl) (by decide) ?_
      refine .step (.xt rfl rfl) (by decide) ?_
      refine .alloc N_api_Entry rfl (by decide) fun b12 hb12 => ?_
      refine .storeA 0 rfl rfl rfl rfl Z_api_Entry (api_Entry.size _) (api_Entry.one _) (api_Entry.size _) ?_
      refine .step (.as rfl) (by decide) ?_
      refine .nil (.then_n (.seq (.region (?_))))
      refine .step (.mv rfl) (by decide) ?_
      refine .step (.geq rfl rfl) (by decide) ?_
      refine .step (.mv rfl) (by decide) ?_
      refine .splitb 52 rfl (fun hb1 => ?_) (fun hb1 => ?_)
      · replace H := cond_t hb1 H
        refine .stepg rfl (.fa rfl F_api_Entry_Na Z_int) (by decide) ?_
        refine .stepg rfl (.ld1 rfl (.i 1 rfl) A_int (api_Entry.g_Na _)) (by decide) ?_
        refine .stepg rfl (.mv rfl) (by decide) ?_
        refine .stepg rfl (.eql rfl rfl) (by decide) ?_
        refine .stepg rfl (.mv rfl) (by decide) ?_
        refine .splitb 57 rfl (fun hb2 => ?_) (fun hb2 => ?_)
        · replace H := cond_t hb2 H
          refine .pass rfl rfl (by decide) ?_
          refine .pass rfl rfl (by decide) ?_
          refine .pass rfl rfl (by decide) ?_
          refine .pass rfl rfl (by decide) ?_
          refine .stepg rfl (.pk_t rfl rfl) (by decide) ?_
          refine .step (.pk_t rfl rfl) (by decide) ?_
          refine .step (.as rfl) (by decide) ?_
          refine .nil (.then_n (.seq (.seq (.region (?_)))))
          refine .step (.mv rfl) (by decide) ?_
          refine .step (.mv rfl) (by decide) ?_
          refine .step (.eqlB Q_bool rfl rfl) (by decide) ?_
          refine .step (.mv rfl) (by decide) ?_
          refine .splitb 67 rfl (fun hb3 => ?_) (fun hb3 => ?_)
          · replace H := cond_t hb3 H
            refine .pass rfl rfl (by decide) ?_
            refine .pass rfl rfl (by decide) ?_
            refine .passu rfl rfl (by decide) ?_
            refine .passu rfl rfl (by decide) ?_
            refine .passu rfl rfl (by decide) ?_
            refine .pass rfl rfl (by decide) ?_
            refine .step (.pk_t rfl rfl) (by decide) ?_
            refine .nil (.then_n (.cond_t rfl ?_))
            refine .seq (.region (?_))
            refine .step (.as rfl) (by decide) ?_
            cases H
            exact .nil (.then_n (.ret (.then_r (.blk_r (.then_r (.then_r (.blk_r (.then_r (.ret1 [] (by simp) rfl rfl ⟨rfl, rfl⟩)))))))))
          · replace H := cond_f hb3 H
            refine .stepg rfl (.mv rfl) (by decide) ?_
            refine .stepg rfl (.mv rfl) (by decide) ?_
            refine .splitb 69 rfl (fun hb4 => ?_) (fun hb4 => ?_)
            · replace H := cond_t hb4 H
              refine .stepg rfl (.ldA rfl (.i 0 rfl) A_api_Entry Z_api_Entry (api_Entry.size _)) (by decide) ?_
              refine .stepg rfl (.ldA rfl (.i 1 rfl) A_api_Entry Z_api_Entry (api_Entry.size _)) (by decide) ?_
              refine .stepg rfl (.neA (EQ_api_Entry _ _) G_api_Entry rfl rfl (by decide)) (by decide) ?_
              refine .stepg rfl (.pk_t rfl rfl) (by decide) ?_
              refine .step (.pk_f rfl rfl) (by decide) ?_
              refine .nil (.then_n (.cond rfl (fun hc3 => ?_) (fun hc3 => ?_)))
              · replace H := cond_t hc3 H
                refine .seq (.region (?_))
                refine .step (.as rfl) (by decide) ?_
                cases H
                exact .nil (.then_n (.ret (.then_r (.blk_r (.then_r (.then_r (.blk_r (.then_r (.ret1 [] (by simp) rfl rfl ⟨rfl, rfl⟩)))))))))
              · replace H := cond_f hc3 H
                refine .skip (.then_n (.seq (.seq (.region (?_)))))
                refine .step (.mv rfl) (by decide) ?_
                refine .step (.not rfl) (by decide) ?_
                refine .nil (.then_n (.cond_f rfl ?_))
                refine .skip (.then_n (.seq (.region (?_))))
                refine .step (.mv rfl) (by decide) ?_
                refine .step (.add rfl rfl) (by decide) ?_
                refine .step (.as rfl) (by decide) ?_
                refine .nil (.then_n (.seq (.region (?_))))
                refine .step (.fa rfl F_api_Entry_Na Z_int) (by decide) ?_
                refine .step (.ld1 rfl (.i 1 rfl) A_int (api_Entry.g_Na _)) (by decide) ?_
                refine .step (.fa rfl F_api_Entry_Nb Z_int) (by decide) ?_
                refine .step (.ld1 rfl (.i 1 rfl) A_int (api_Entry.g_Nb _)) (by decide) ?_
                refine .step (.add rfl rfl) (by decide) ?_
                refine .step (.mv rfl) (by decide) ?_
                refine .step (.sub rfl rfl) (by decide) ?_
                refine .step (.as rfl) (by decide) ?_
                refine .nil (.then_n (.seq (.region (?_))))
                refine .step (.as rfl) (by decide) ?_
                refine .nil (.then_n (.seq (.seq (.region (?_)))))
                refine .step (.fa rfl F_tear_Torn_Out Z_sl_api_Hop) (by decide) ?_
                refine .step (.ld1 (v := slv k_o_36_Out (x4.1).length c_o_36_Out) rfl (.i 2 rfl) A_sl_api_Hop (tear_Torn.g_Out _)) (by decide) ?_
                refine .step (.len L_sl_api_Hop rfl) (by decide) ?_
                refine .step (.mv rfl) (by decide) ?_
                refine .nil (.then_n (.block (.loop (G := Nat × (Int × Int)) (fun g => iter (F_annuletlaw15_TearSweeps_L2 a1 x4 s9_1 s39_1 (iter (F_annuletlaw15_TearSweeps_L1 a1 x3 x4) fl1) x5) g.1 g.2 = some r) (fun g => [(some b12, .cells (api_Entry.enc x6.1) T_api_Entry (0, 0)), (some b11, .cells (api_Entry.enc x5) T_api_Entry (0, 0)), (some b8, .cells (tear_Torn.enc (tear_Torn.mk (slS k_o_36_Out (x4.1).length c_o_36_Out) (slS k_o_36_Lost (x4.2.1).length c_o_36_Lost))) T_tear_Torn (0, 0)), (k_o_36_Out, .cells (catA ((x4.1).map api_Hop.enc) ++ r_o_36_Out) T_api_Hop (0, 0)), (k_o_36_Lost, .cells (catA ((x4.2.1).map api_Path.enc) ++ r_o_36_Lost) T_api_Path (0, 0)), (some b_23_0, .cells (table_Table.enc (table_Table.mk x4.2.2.1 (.map (some b_23_0_m)))) T_table_Table (0, 0)), (some b_23_0_m, MS.obj (vA api_Path.enc) (vA api_Entry.enc) x4.2.2.2), (k_o_33, .cells (catA ((x3).map api_Entry.enc) ++ r_o_33) T_api_Entry (0, 0)), (some b_23_1, .cells (annuletref12_Table.enc (annuletref12_Table.mk (slS k_o_23_1_L (x1.2.2.1).length c_o_23_1_L) x1.2.2.2)) T_annuletref12_Table (0, 0)), (k_o_23_1_L, .cells (catA ((x1.2.2.1).map api_Entry.enc) ++ r_o_23_1_L) T_api_Entry (0, 0))]) (fun g => [(1, .int .i64 (a1)), (5, .pointer (some ⟨b_23_0, 0, none⟩)), (8, .pointer (some ⟨b8, 0, none⟩)), (9, .int .i64 ((IntKind.wrap .i64 (s9_1 + 1)))), (11, .pointer (some ⟨b11, 0, none⟩)), (15, .int .i64 ((IntKind.wrap .i64 ((IntKind.wrap .i64 (x5.Na + x5.Nb)) - a1)))), (16, .int .i64 (g.2.1)), (37, slv k_o_33 (x3).length c_o_33), (38, .int .i64 ((((x3).length : Nat) : Int))), (39, .int .i64 (s39_1)), (87, slv k_o_36_Out (x4.1).length c_o_36_Out), (88, .int .i64 ((((x4.1).length : Nat) : Int))), (89, .int .i64 (g.2.2))]) (fun g => g.1) ⟨FUEL, (0, 0)⟩ H (.refl _) (.cons rfl (.cons rfl (.cons rfl (.cons rfl (.cons rfl (.cons rfl (.cons rfl (.cons rfl (.cons rfl (.cons rfl (.cons rfl (.cons rfl (.cons rfl .nil))))))))))))) ?_)))
                rintro ⟨_ | fl2, ⟨s16_2, s89_2⟩⟩ H
                · exact (iter_0 H).elim
                replace H := iter_s H; rw [F_annuletlaw15_TearSweeps_L2] at H; dsimp only at H ⊢
                refine .seq (.region (?_))
                refine .step (.lss rfl rfl) (by decide) ?_
                refine .nil (.then_n (.seq (.cond rfl (fun hc4 => ?_) (fun hc4 => ?_))))
                · replace H := cond_t hc4 H
                  refine .skip (.then_n (.seq (.block (.seq (.region (?_))))))
                  obtain ⟨x7, hx7, H⟩ := bind_s H
                  refine .step (.ixP (.own 3 api_Hop.size rfl ho_o_36_Out) hx7 rfl rfl L_sl_api_Hop Z_api_Hop) (by decide) ?_
                  refine .step (.ldP (.own 3 api_Hop.size rfl ho_o_36_Out) hx7 rfl A_api_Hop Z_api_Hop) (by decide) ?_
                  refine .alloc N_api_Hop rfl (by decide) fun b18 hb18 => ?_
                  refine .storeA 0 rfl rfl rfl rfl Z_api_Hop (api_Hop.size _) (api_Hop.one _) (api_Hop.size _) ?_
                  refine .nil (.then_n (.seq (.region (?_))))
                  refine .step (.fa rfl F_api_Hop_F Z_api_Frame) (by decide) ?_
                  refine .step (.fa rfl F_api_Frame_P Z_api_Path) (by decide) ?_
                  refine .step (.lds rfl (.i 0 rfl) A_api_Path Z_api_Path (api_Hop.s_F_P _)) (by decide) ?_
                  refine .step (.fa rfl F_api_Entry_P Z_api_Path) (by decide) ?_
                  refine .step (.lds rfl (.i 2 rfl) A_api_Path Z_api_Path (api_Entry.s_P _)) (by decide) ?_
                  refine .step (.eqA (EQ_api_Path _ _) G_api_Path rfl rfl (by decide)) (by decide) ?_
                  refine .step (.mv rfl) (by decide) ?_
                  refine .splitb 99 rfl (fun hb5 => ?_) (fun hb5 => ?_)
                  · replace H := cond_t hb5 H
                    refine .stepg rfl (.fa rfl F_api_Hop_N Z_int) (by decide) ?_
                    refine .stepg rfl (.ld1 rfl (.i 0 rfl) A_int (api_Hop.g_N _)) (by decide) ?_
                    refine .stepg rfl (.mv rfl) (by decide) ?_
                    refine .stepg rfl (.eql rfl rfl) (by decide) ?_
                    refine .step (.pk_t rfl rfl) (by decide) ?_
                    refine .step (.mv rfl) (by decide) ?_
                    refine .splitb 105 rfl (fun hb6 => ?_) (fun hb6 => ?_)
                    · replace H := cond_t hb6 H
                      refine .stepg rfl (.fa rfl F_api_Hop_F Z_api_Frame) (by decide) ?_
                      refine .stepg rfl (.fa rfl F_api_Frame_Kind Z_int) (by decide) ?_
                      refine .stepg rfl (.ld1 rfl (.i 0 rfl) A_int (api_Hop.g_F_Kind _)) (by decide) ?_
                      refine .stepg rfl (.eql rfl rfl) (by decide) ?_
                      refine .step (.pk_t rfl rfl) (by decide) ?_
                      refine .nil (.then_n (.cond rfl (fun hc5 => ?_) (fun hc5 => ?_)))
                      · replace H := cond_t hc5 H
                        refine .region (?_)
                        refine .step (.mv rfl) (by decide) ?_
                        refine .step (.add rfl rfl) (by decide) ?_
                        refine .step (.as rfl) (by decide) ?_
                        refine .nil (.blk_n (.then_n (.region (?_))))
                        refine .step (.add rfl rfl) (by decide) ?_
                        refine .step (.mv rfl) (by decide) ?_
                        refine .nil (.then_n (?_))
                        exact .again ⟨fl2, ((IntKind.wrap .i64 (s16_2 + 1)), (IntKind.wrap .i64 (s89_2 + 1)))⟩ H (Nat.lt_succ_self _) (.cons _ (.refl _)) (.cons rfl (.cons rfl (.cons rfl (.cons rfl (.cons rfl (.cons rfl (.cons rfl (.cons rfl (.cons rfl (.cons rfl (.cons rfl (.cons rfl (.cons rfl .nil)))))))))))))
                      · replace H := cond_f hc5 H
                        refine .skip (.blk_n (.then_n (.region (?_))))
                        refine .step (.add rfl rfl) (by decide) ?_
                        refine .step (.mv rfl) (by decide) ?_
                        refine .nil (.then_n (?_))
                        exact .again ⟨fl2, (s16_2, (IntKind.wrap .i64 (s89_2 + 1)))⟩ H (Nat.lt_succ_self _) (.cons _ (.refl _)) (.cons rfl (.cons rfl (.cons rfl (.cons rfl (.cons rfl (.cons rfl (.cons rfl (.cons rfl (.cons rfl (.cons rfl (.cons rfl (.cons rfl (.cons rfl .nil)))))))))))))
                    · replace H := cond_f hb6 H
                      refine .pass rfl rfl (by decide) ?_
                      refine .pass rfl rfl (by decide) ?_
                      refine .pass rfl rfl (by decide) ?_
                      refine .pass rfl rfl (by decide) ?_
                      refine .step (.pk_f rfl rfl) (by decide) ?_
                      refine .nil (.then_n (.cond_f rfl ?_))
                      refine .skip (.blk_n (.then_n (.region (?_))))
                      refine .step (.add rfl rfl) (by decide) ?_
                      refine .step (.mv rfl) (by decide) ?_
                      refine .nil (.then_n (?_))
                      exact .again ⟨fl2, (s16_2, (IntKind.wrap .i64 (s89_2 + 1)))⟩ H (Nat.lt_succ_self _) (.cons _ (.refl _)) (.cons rfl (.cons rfl (.cons rfl (.cons rfl (.cons rfl (.cons rfl (.cons rfl (.cons rfl (.cons rfl (.cons rfl (.cons rfl (.cons rfl (.cons rfl .nil)))))))))))))
                  · replace H := cond_f hb5 H
                    refine .pass rfl rfl (by decide) ?_
                    refine .pass rfl rfl (by decide) ?_
                    refine .pass rfl rfl (by decide) ?_
                    refine .pass rfl rfl (by decide) ?_
                    refine .step (.pk_f rfl rfl) (by decide) ?_
                    refine .step (.mv rfl) (by decide) ?_
                    refine .pass rfl rfl (by decide) ?_
                    refine .pass rfl rfl (by decide) ?_
                    refine .pass rfl rfl (by decide) ?_
                    refine .pass rfl rfl (by decide) ?_
                    refine .step (.pk_f rfl rfl) (by decide) ?_
                    refine .nil (.then_n (.cond_f rfl ?_))
                    refine .skip (.blk_n (.then_n (.region (?_))))
                    refine .step (.add rfl rfl) (by decide) ?_
                    refine .step (.mv rfl) (by decide) ?_
                    refine .nil (.then_n (?_))
                    exact .again ⟨fl2, (s16_2, (IntKind.wrap .i64 (s89_2 + 1)))⟩ H (Nat.lt_succ_self _) (.cons _ (.refl _)) (.cons rfl (.cons rfl (.cons rfl (.cons rfl (.cons rfl (.cons rfl (.cons rfl (.cons rfl (.cons rfl (.cons rfl (.cons rfl (.cons rfl (.cons rfl .nil)))))))))))))
                · replace H := cond_f hc4 H
                  refine .exit (.then_x (.then_x (.blk_x (.then_n (.seq (.seq (.region (?_))))))))
                  refine .step (.fa rfl F_tear_Torn_Lost Z_sl_api_Path) (by decide) ?_
                  refine .step (.ld1 (v := slv k_o_36_Lost (x4.2.1).length c_o_36_Lost) rfl (.i 2 rfl) A_sl_api_Path (tear_Torn.g_Lost _)) (by decide) ?_
                  refine .step (.len L_sl_api_Path rfl) (by decide) ?_
                  refine .step (.mv rfl) (by decide) ?_
                  refine .nil (.then_n (.block (.loop (G := Nat × (Int × Int)) (fun g => iter (F_annuletlaw15_TearSweeps_L3 a1 x4 s9_1 s39_1 (iter (F_annuletlaw15_TearSweeps_L1 a1 x3 x4) fl1) x5) g.1 g.2 = some r) (fun g => [(some b12, .cells (api_Entry.enc x6.1) T_api_Entry (0, 0)), (some b11, .cells (api_Entry.enc x5) T_api_Entry (0, 0)), (some b8, .cells (tear_Torn.enc (tear_Torn.mk (slS k_o_36_Out (x4.1).length c_o_36_Out) (slS k_o_36_Lost (x4.2.1).length c_o_36_Lost))) T_tear_Torn (0, 0)), (k_o_36_Out, .cells (catA ((x4.1).map api_Hop.enc) ++ r_o_36_Out) T_api_Hop (0, 0)), (k_o_36_Lost, .cells (catA ((x4.2.1).map api_Path.enc) ++ r_o_36_Lost) T_api_Path (0, 0)), (some b_23_0, .cells (table_Table.enc (table_Table.mk x4.2.2.1 (.map (some b_23_0_m)))) T_table_Table (0, 0)), (some b_23_0_m, MS.obj (vA api_Path.enc) (vA api_Entry.enc) x4.2.2.2), (k_o_33, .cells (catA ((x3).map api_Entry.enc) ++ r_o_33) T_api_Entry (0, 0)), (some b_23_1, .cells (annuletref12_Table.enc (annuletref12_Table.mk (slS k_o_23_1_L (x1.2.2.1).length c_o_23_1_L) x1.2.2.2)) T_annuletref12_Table (0, 0)), (k_o_23_1_L, .cells (catA ((x1.2.2.1).map api_Entry.enc) ++ r_o_23_1_L) T_api_Entry (0, 0))]) (fun g => [(1, .int .i64 (a1)), (5, .pointer (some ⟨b_23_0, 0, none⟩)), (8, .pointer (some ⟨b8, 0, none⟩)), (9, .int .i64 ((IntKind.wrap .i64 (s9_1 + 1)))), (11, .pointer (some ⟨b11, 0, none⟩)), (15, .int .i64 ((IntKind.wrap .i64 ((IntKind.wrap .i64 (x5.Na + x5.Nb)) - a1)))), (16, .int .i64 (g.2.1)), (37, slv k_o_33 (x3).length c_o_33), (38, .int .i64 ((((x3).length : Nat) : Int))), (39, .int .i64 (s39_1)), (115, slv k_o_36_Lost (x4.2.1).length c_o_36_Lost), (116, .int .i64 ((((x4.2.1).length : Nat) : Int))), (117, .int .i64 (g.2.2))]) (fun g => g.1) ⟨FUEL, (s16_2, 0)⟩ H (.refl _) (.cons rfl (.cons rfl (.cons rfl (.cons rfl (.cons rfl (.cons rfl (.cons rfl (.cons rfl (.cons rfl (.cons rfl (.cons rfl (.cons rfl (.cons rfl .nil))))))))))))) ?_)))
                  rintro ⟨_ | fl3, ⟨s16_3, s117_3⟩⟩ H
                  · exact (iter_0 H).elim
                  replace H := iter_s H; rw [F_annuletlaw15_TearSweeps_L3] at H; dsimp only at H ⊢
                  refine .seq (.region (?_))
                  refine .step (.lss rfl rfl) (by decide) ?_
                  refine .nil (.then_n (.seq (.cond rfl (fun hc6 => ?_) (fun hc6 => ?_))))
                  · replace H := cond_t hc6 H
                    refine .skip (.then_n (.seq (.block (.seq (.region (?_))))))
                    obtain ⟨x8, hx8, H⟩ := bind_s H
                    refine .step (.ixP (.own 4 api_Path.size rfl ho_o_36_Lost) hx8 rfl rfl L_sl_api_Path Z_api_Path) (by decide) ?_
                    refine .step (.ldP (.own 4 api_Path.size rfl ho_o_36_Lost) hx8 rfl A_api_Path Z_api_Path) (by decide) ?_
                    refine .alloc N_api_Path rfl (by decide) fun b20 hb20 => ?_
                    refine .storeA 0 rfl rfl rfl rfl Z_api_Path (api_Path.size _) (api_Path.one _) (api_Path.size _) ?_
                    refine .nil (.then_n (.seq (.region (?_))))
                    refine .step (.ldA rfl (.i 0 rfl) A_api_Path Z_api_Path (api_Path.size _)) (by decide) ?_
                    refine .step (.fa rfl F_api_Entry_P Z_api_Path) (by decide) ?_
                    refine .step (.lds rfl (.i 2 rfl) A_api_Path Z_api_Path (api_Entry.s_P _)) (by decide) ?_
                    refine .step (.eqA (EQ_api_Path _ _) G_api_Path rfl rfl (by decide)) (by decide) ?_
                    refine .step (.mv rfl) (by decide) ?_
                    refine .splitb 125 rfl (fun hb7 => ?_) (fun hb7 => ?_)
                    · replace H := cond_t hb7 H
                      refine .stepg rfl (.mv rfl) (by decide) ?_
                      refine .stepg rfl (.eql rfl rfl) (by decide) ?_
                      refine .step (.pk_t rfl rfl) (by decide) ?_
                      refine .nil (.then_n (.cond rfl (fun hc7 => ?_) (fun hc7 => ?_)))
                      · replace H := cond_t hc7 H
                        refine .region (?_)
                        refine .step (.mv rfl) (by decide) ?_
                        refine .step (.add rfl rfl) (by decide) ?_
                        refine .step (.as rfl) (by decide) ?_
                        refine .nil (.blk_n (.then_n (.region (?_))))
                        refine .step (.add rfl rfl) (by decide) ?_
                        refine .step (.mv rfl) (by decide) ?_
                        refine .nil (.then_n (?_))
                        exact .again ⟨fl3, ((IntKind.wrap .i64 (s16_3 + 1)), (IntKind.wrap .i64 (s117_3 + 1)))⟩ H (Nat.lt_succ_self _) (.cons _ (.refl _)) (.cons rfl (.cons rfl (.cons rfl (.cons rfl (.cons rfl (.cons rfl (.cons rfl (.cons rfl (.cons rfl (.cons rfl (.cons rfl (.cons rfl (.cons rfl .nil)))))))))))))
                      · replace H := cond_f hc7 H
                        refine .skip (.blk_n (.then_n (.region (?_))))
                        refine .step (.add rfl rfl) (by decide) ?_
                        refine .step (.mv rfl) (by decide) ?_
                        refine .nil (.then_n (?_))
                        exact .again ⟨fl3, (s16_3, (IntKind.wrap .i64 (s117_3 + 1)))⟩ H (Nat.lt_succ_self _) (.cons _ (.refl _)) (.cons rfl (.cons rfl (.cons rfl (.cons rfl (.cons rfl (.cons rfl (.cons rfl (.cons rfl (.cons rfl (.cons rfl (.cons rfl (.cons rfl (.cons rfl .nil)))))))))))))
                    · replace H := cond_f hb7 H
                      refine .pass rfl rfl (by decide) ?_
                      refine .pass rfl rfl (by decide) ?_
                      refine .step (.pk_f rfl rfl) (by decide) ?_
                      refine .nil (.then_n (.cond_f rfl ?_))
                      refine .skip (.blk_n (.then_n (.region (?_))))
                      refine .step (.add rfl rfl) (by decide) ?_
                      refine .step (.mv rfl) (by decide) ?_
                      refine .nil (.then_n (?_))
                      exact .again ⟨fl3, (s16_3, (IntKind.wrap .i64 (s117_3 + 1)))⟩ H (Nat.lt_succ_self _) (.cons _ (.refl _)) (.cons rfl (.cons rfl (.cons rfl (.cons rfl (.cons rfl (.cons rfl (.cons rfl (.cons rfl (.cons rfl (.cons rfl (.cons rfl (.cons rfl (.cons rfl .nil)))))))))))))
                  · replace H := cond_f hc6 H
                    refine .exit (.then_x (.then_x (.blk_x (.then_n (.seq (.region (?_)))))))
                    refine .step (.mv rfl) (by decide) ?_
                    refine .step (.neq rfl rfl) (by decide) ?_
                    refine .nil (.then_n (.cond rfl (fun hc8 => ?_) (fun hc8 => ?_)))
                    · replace H := cond_t hc8 H
                      refine .seq (.region (?_))
                      refine .step (.as rfl) (by decide) ?_
                      cases H
                      exact .nil (.then_n (.ret (.blk_r (.then_r (.then_r (.blk_r (.then_r (.ret1 [] (by simp) rfl rfl ⟨rfl, rfl⟩))))))))
                    · replace H := cond_f hc8 H
                      refine .skip (.blk_n (.then_n (.region (?_))))
                      refine .step (.add rfl rfl) (by decide) ?_
                      refine .step (.mv rfl) (by decide) ?_
                      refine .nil (.then_n (?_))
                      exact .again ⟨fl1, ((IntKind.wrap .i64 (s9_1 + 1)), (IntKind.wrap .i64 (s39_1 + 1)))⟩ H (Nat.lt_succ_self _) (.cons _ (.cons _ (.refl _))) (.cons rfl (.cons rfl (.cons rfl (.cons rfl (.cons rfl (.cons rfl (.cons rfl .nil)))))))
            · replace H := cond_f hb4 H
              refine .pass rfl rfl (by decide) ?_
              refine .pass rfl rfl (by decide) ?_
              refine .pass rfl rfl (by decide) ?_
              refine .stepg rfl (.pk_f rfl rfl) (by decide) ?_
              refine .step (.pk_f rfl rfl) (by decide) ?_
              refine .nil (.then_n (.cond_f rfl ?_))
              refine .skip (.then_n (.seq (.seq (.region (?_)))))
              refine .step (.mv rfl) (by decide) ?_
              refine .step (.not rfl) (by decide) ?_
              refine .nil (.then_n (.cond_f rfl ?_))
              refine .skip (.then_n (.seq (.region (?_))))
              refine .step (.mv rfl) (by decide) ?_
              refine .step (.add rfl rfl) (by decide) ?_
              refine .step (.as rfl) (by decide) ?_
              refine .nil (.then_n (.seq (.region (?_))))
              refine .step (.fa rfl F_api_Entry_Na Z_int) (by decide) ?_
              refine .step (.ld1 rfl (.i 1 rfl) A_int (api_Entry.g_Na _)) (by decide) ?_
              refine .step (.fa rfl F_api_Entry_Nb Z_int) (by decide) ?_
              refine .step (.ld1 rfl (.i 1 rfl) A_int (api_Entry.g_Nb _)) (by decide) ?_
              refine .step (.add rfl rfl) (by decide) ?_
              refine .step (.mv rfl) (by decide) ?_
              refine .step (.sub rfl rfl) (by decide) ?_
              refine .step (.as rfl) (by decide) ?_
              refine .nil (.then_n (.seq (.region (?_))))
              refine .step (.as rfl) (by decide) ?_
              refine .nil (.then_n (.seq (.seq (.region (?_)))))
              refine .step (.fa rfl F_tear_Torn_Out Z_sl_api_Hop) (by decide) ?_
              refine .step (.ld1 (v := slv k_o_36_Out (x4.1).length c_o_36_Out) rfl (.i 2 rfl) A_sl_api_Hop (tear_Torn.g_Out _)) (by decide) ?_
              refine .step (.len L_sl_api_Hop rfl) (by decide) ?_
              refine .step (.mv rfl) (by decide) ?_
              refine .nil (.then_n (.block (.loop (G := Nat × (Int × Int)) (fun g => iter (F_annuletlaw15_TearSweeps_L4 a1 x4 s9_1 s39_1 (iter (F_annuletlaw15_TearSweeps_L1 a1 x3 x4) fl1) x5) g.1 g.2 = some r) (fun g => [(some b12, .cells (api_Entry.enc x6.1) T_api_Entry (0, 0)), (some b11, .cells (api_Entry.enc x5) T_api_Entry (0, 0)), (some b8, .cells (tear_Torn.enc (tear_Torn.mk (slS k_o_36_Out (x4.1).length c_o_36_Out) (slS k_o_36_Lost (x4.2.1).length c_o_36_Lost))) T_tear_Torn (0, 0)), (k_o_36_Out, .cells (catA ((x4.1).map api_Hop.enc) ++ r_o_36_Out) T_api_Hop (0, 0)), (k_o_36_Lost, .cells (catA ((x4.2.1).map api_Path.enc) ++ r_o_36_Lost) T_api_Path (0, 0)), (some b_23_0, .cells (table_Table.enc (table_Table.mk x4.2.2.1 (.map (some b_23_0_m)))) T_table_Table (0, 0)), (some b_23_0_m, MS.obj (vA api_Path.enc) (vA api_Entry.enc) x4.2.2.2), (k_o_33, .cells (catA ((x3).map api_Entry.enc) ++ r_o_33) T_api_Entry (0, 0)), (some b_23_1, .cells (annuletref12_Table.enc (annuletref12_Table.mk (slS k_o_23_1_L (x1.2.2.1).length c_o_23_1_L) x1.2.2.2)) T_annuletref12_Table (0, 0)), (k_o_23_1_L, .cells (catA ((x1.2.2.1).map api_Entry.enc) ++ r_o_23_1_L) T_api_Entry (0, 0))]) (fun g => [(1, .int .i64 (a1)), (5, .pointer (some ⟨b_23_0, 0, none⟩)), (8, .pointer (some ⟨b8, 0, none⟩)), (9, .int .i64 ((IntKind.wrap .i64 (s9_1 + 1)))), (11, .pointer (some ⟨b11, 0, none⟩)), (15, .int .i64 ((IntKind.wrap .i64 ((IntKind.wrap .i64 (x5.Na + x5.Nb)) - a1)))), (16, .int .i64 (g.2.1)), (37, slv k_o_33 (x3).length c_o_33), (38, .int .i64 ((((x3).length : Nat) : Int))), (39, .int .i64 (s39_1)), (87, slv k_o_36_Out (x4.1).length c_o_36_Out), (88, .int .i64 ((((x4.1).length : Nat) : Int))), (89, .int .i64 (g.2.2))]) (fun g => g.1) ⟨FUEL, (0, 0)⟩ H (.refl _) (.cons rfl (.cons rfl (.cons rfl (.cons rfl (.cons rfl (.cons rfl (.cons rfl (.cons rfl (.cons rfl (.cons rfl (.cons rfl (.cons rfl (.cons rfl .nil))))))))))))) ?_)))
              rintro ⟨_ | fl4, ⟨s16_4, s89_4⟩⟩ H
              · exact (iter_0 H).elim
              replace H := iter_s H; rw [F_annuletlaw15_TearSweeps_L4] at H; dsimp only at H ⊢
              refine .seq (.region (?_))
              refine .step (.lss rfl rfl) (by decide) ?_
              refine .nil (.then_n (.seq (.cond rfl (fun hc9 => ?_) (fun hc9 => ?_))))
              · replace H := cond_t hc9 H
                refine .skip (.then_n (.seq (.block (.seq (.region (?_))))))
                obtain ⟨x9, hx9, H⟩ := bind_s H
                refine .step (.ixP (.own 3 api_Hop.size rfl ho_o_36_Out) hx9 rfl rfl L_sl_api_Hop Z_api_Hop) (by decide) ?_
                refine .step (.ldP (.own 3 api_Hop.size rfl ho_o_36_Out) hx9 rfl A_api_Hop Z_api_Hop) (by decide) ?_
                refine .alloc N_api_Hop rfl (by decide) fun b18 hb18 => ?_
                refine .storeA 0 rfl rfl rfl rfl Z_api_Hop (api_Hop.size _) (api_Hop.one _) (api_Hop.size _) ?_
                refine .nil (.then_n (.seq (.region (?_))))
                refine .step (.fa rfl F_api_Hop_F Z_api_Frame) (by decide) ?_
                refine .step (.fa rfl F_api_Frame_P Z_api_Path) (by decide) ?_
                refine .step (.lds rfl (.i 0 rfl) A_api_Path Z_api_Path (api_Hop.s_F_P _)) (by decide) ?_
                refine .step (.fa rfl F_api_Entry_P Z_api_Path) (by decide) ?_
                refine .step (.lds rfl (.i 2 rfl) A_api_Path Z_api_Path (api_Entry.s_P _)) (by decide) ?_
                refine .step (.eqA (EQ_api_Path _ _) G_api_Path rfl rfl (by decide)) (by decide) ?_
                refine .step (.mv rfl) (by decide) ?_
                refine .splitb 99 rfl (fun hb8 => ?_) (fun hb8 => ?_)
                · replace H := cond_t hb8 H
                  refine .stepg rfl (.fa rfl F_api_Hop_N Z_int) (by decide) ?_
                  refine .stepg rfl (.ld1 rfl (.i 0 rfl) A_int (api_Hop.g_N _)) (by decide) ?_
                  refine .stepg rfl (.mv rfl) (by decide) ?_
                  refine .stepg rfl (.eql rfl rfl) (by decide) ?_
                  refine .step (.pk_t rfl rfl) (by decide) ?_
                  refine .step (.mv rfl) (by decide) ?_
                  refine .splitb 105 rfl (fun hb9 => ?_) (fun hb9 => ?_)
                  · replace H := cond_t hb9 H
                    refine .stepg rfl (.fa rfl F_api_Hop_F Z_api_Frame) (by decide) ?_
                    refine .stepg rfl (.fa rfl F_api_Frame_Kind Z_int) (by decide) ?_
                    refine .stepg rfl (.ld1 rfl (.i 0 rfl) A_int (api_Hop.g_F_Kind _)) (by decide) ?_
                    refine .stepg rfl (.eql rfl rfl) (by decide) ?_
                    refine .step (.pk_t rfl rfl) (by decide) ?_
                    refine .nil (.then_n (.cond rfl (fun hc10 => ?_) (fun hc10 => ?_)))
                    · replace H := cond_t hc10 H
                      refine .region (?_)
                      refine .step (.mv rfl) (by decide) ?_
                      refine .step (.add rfl rfl) (by decide) ?_
                      refine .step (.as rfl) (by decide) ?_
                      refine .nil (.blk_n (.then_n (.region (?_))))
                      refine .step (.add rfl rfl) (by decide) ?_
                      refine .step (.mv rfl) (by decide) ?_
                      refine .nil (.then_n (?_))
                      exact .again ⟨fl4, ((IntKind.wrap .i64 (s16_4 + 1)), (IntKind.wrap .i64 (s89_4 + 1)))⟩ H (Nat.lt_succ_self _) (.cons _ (.refl _)) (.cons rfl (.cons rfl (.cons rfl (.cons rfl (.cons rfl (.cons rfl (.cons rfl (.cons rfl (.cons rfl (.cons rfl (.cons rfl (.cons rfl (.cons rfl .nil)))))))))))))
                    · replace H := cond_f hc10 H
                      refine .skip (.blk_n (.then_n (.region (?_))))
                      refine .step (.add rfl rfl) (by decide) ?_
                      refine .step (.mv rfl) (by decide) ?_
                      refine .nil (.then_n (?_))
                      exact .again ⟨fl4, (s16_4, (IntKind.wrap .i64 (s89_4 + 1)))⟩ H (Nat.lt_succ_self _) (.cons _ (.refl _)) (.cons rfl (.cons rfl (.cons rfl (.cons rfl (.cons rfl (.cons rfl (.cons rfl (.cons rfl (.cons rfl (.cons rfl (.cons rfl (.cons rfl (.cons rfl .nil)))))))))))))
                  · replace H := cond_f hb9 H
                    refine .pass rfl rfl (by decide) ?_
                    refine .pass rfl rfl (by decide) ?_
                    refine .pass rfl rfl (by decide) ?_
                    refine .pass rfl rfl (by decide) ?_
                    refine .step (.pk_f rfl rfl) (by decide) ?_
                    refine .nil (.then_n (.cond_f rfl ?_))
                    refine .skip (.blk_n (.then_n (.region (?_))))
                    refine .step (.add rfl rfl) (by decide) ?_
                    refine .step (.mv rfl) (by decide) ?_
                    refine .nil (.then_n (?_))
                    exact .again ⟨fl4, (s16_4, (IntKind.wrap .i64 (s89_4 + 1)))⟩ H (Nat.lt_succ_self _) (.cons _ (.refl _)) (.cons rfl (.cons rfl (.cons rfl (.cons rfl (.cons rfl (.cons rfl (.cons rfl (.cons rfl (.cons rfl (.cons rfl (.cons rfl (.cons rfl (.cons rfl .nil)))))))))))))
                · replace H := cond_f hb8 H
                  refine .pass rfl rfl (by decide) ?_
                  refine .pass rfl rfl (by decide) ?_
                  refine .pass rfl rfl (by decide) ?_
                  refine .pass rfl rfl (by decide) ?_
                  refine .step (.pk_f rfl rfl) (by decide) ?_
                  refine .step (.mv rfl) (by decide) ?_
                  refine .pass rfl rfl (by decide) ?_
                  refine .pass rfl rfl (by decide) ?_
                  refine .pass rfl rfl (by decide) ?_
                  refine .pass rfl rfl (by decide) ?_
                  refine .step (.pk_f rfl rfl) (by decide) ?_
                  refine .nil (.then_n (.cond_f rfl ?_))
                  refine .skip (.blk_n (.then_n (.region (?_))))
                  refine .step (.add rfl rfl) (by decide) ?_
                  refine .step (.mv rfl) (by decide) ?_
                  refine .nil (.then_n (?_))
                  exact .again ⟨fl4, (s16_4, (IntKind.wrap .i64 (s89_4 + 1)))⟩ H (Nat.lt_succ_self _) (.cons _ (.refl _)) (.cons rfl (.cons rfl (.cons rfl (.cons rfl (.cons rfl (.cons rfl (.cons rfl (.cons rfl (.cons rfl (.cons rfl (.cons rfl (.cons rfl (.cons rfl .nil)))))))))))))
              · replace H := cond_f hc9 H
                refine .exit (.then_x (.then_x (.blk_x (.then_n (.seq (.seq (.region (?_))))))))
                refine .step (.fa rfl F_tear_Torn_Lost Z_sl_api_Path) (by decide) ?_
                refine .step (.ld1 (v := slv k_o_36_Lost (x4.2.1).length c_o_36_Lost) rfl (.i 2 rfl) A_sl_api_Path (tear_Torn.g_Lost _)) (by decide) ?_
                refine .step (.len L_sl_api_Path rfl) (by decide) ?_
                refine .step (.mv rfl) (by decide) ?_
                refine .nil (.then_n (.block (.loop (G := Nat × (Int × Int)) (fun g => iter (F_annuletlaw15_TearSweeps_L5 a1 x4 s9_1 s39_1 (iter (F_annuletlaw15_TearSweeps_L1 a1 x3 x4) fl1) x5) g.1 g.2 = some r) (fun g => [(some b12, .cells (api_Entry.enc x6.1) T_api_Entry (0, 0)), (some b11, .cells (api_Entry.enc x5) T_api_Entry (0, 0)), (some b8, .cells (tear_Torn.enc (tear_Torn.mk (slS k_o_36_Out (x4.1).length c_o_36_Out) (slS k_o_36_Lost (x4.2.1).length c_o_36_Lost))) T_tear_Torn (0, 0)), (k_o_36_Out, .cells (catA ((x4.1).map api_Hop.enc) ++ r_o_36_Out) T_api_Hop (0, 0)), (k_o_36_Lost, .cells (catA ((x4.2.1).map api_Path.enc) ++ r_o_36_Lost) T_api_Path (0, 0)), (some b_23_0, .cells (table_Table.enc (table_Table.mk x4.2.2.1 (.map (some b_23_0_m)))) T_table_Table (0, 0)), (some b_23_0_m, MS.obj (vA api_Path.enc) (vA api_Entry.enc) x4.2.2.2), (k_o_33, .cells (catA ((x3).map api_Entry.enc) ++ r_o_33) T_api_Entry (0, 0)), (some b_23_1, .cells (annuletref12_Table.enc (annuletref12_Table.mk (slS k_o_23_1_L (x1.2.2.1).length c_o_23_1_L) x1.2.2.2)) T_annuletref12_Table (0, 0)), (k_o_23_1_L, .cells (catA ((x1.2.2.1).map api_Entry.enc) ++ r_o_23_1_L) T_api_Entry (0, 0))]) (fun g => [(1, .int .i64 (a1)), (5, .pointer (some ⟨b_23_0, 0, none⟩)), (8, .pointer (some ⟨b8, 0, none⟩)), (9, .int .i64 ((IntKind.wrap .i64 (s9_1 + 1)))), (11, .pointer (some ⟨b11, 0, none⟩)), (15, .int .i64 ((IntKind.wrap .i64 ((IntKind.wrap .i64 (x5.Na + x5.Nb)) - a1)))), (16, .int .i64 (g.2.1)), (37, slv k_o_33 (x3).length c_o_33), (38, .int .i64 ((((x3).length : Nat) : Int))), (39, .int .i64 (s39_1)), (115, slv k_o_36_Lost (x4.2.1).length c_o_36_Lost), (116, .int .i64 ((((x4.2.1).length : Nat) : Int))), (117, .int .i64 (g.2.2))]) (fun g => g.1) ⟨FUEL, (s16_4, 0)⟩ H (.refl _) (.cons rfl (.cons rfl (.cons rfl (.cons rfl (.cons rfl (.cons rfl (.cons rfl (.cons rfl (.cons rfl (.cons rfl (.cons rfl (.cons rfl (.cons rfl .nil))))))))))))) ?_)))
                rintro ⟨_ | fl5, ⟨s16_5, s117_5⟩⟩ H
                · exact (iter_0 H).elim
                replace H := iter_s H; rw [F_annuletlaw15_TearSweeps_L5] at H; dsimp only at H ⊢
                refine .seq (.region (?_))
                refine .step (.lss rfl rfl) (by decide) ?_
                refine .nil (.then_n (.seq (.cond rfl (fun hc11 => ?_) (fun hc11 => ?_))))
                · replace H := cond_t hc11 H
                  refine .skip (.then_n (.seq (.block (.seq (.region (?_))))))
                  obtain ⟨x10, hx10, H⟩ := bind_s H
                  refine .step (.ixP (.own 4 api_Path.size rfl ho_o_36_Lost) hx10 rfl rfl L_sl_api_Path Z_api_Path) (by decide) ?_
                  refine .step (.ldP (.own 4 api_Path.size rfl ho_o_36_Lost) hx10 rfl A_api_Path Z_api_Path) (by decide) ?_
                  refine .alloc N_api_Path rfl (by decide) fun b20 hb20 => ?_
                  refine .storeA 0 rfl rfl rfl rfl Z_api_Path (api_Path.size _) (api_Path.one _) (api_Path.size _) ?_
                  refine .nil (.then_n (.seq (.region (?_))))
                  refine .step (.ldA rfl (.i 0 rfl) A_api_Path Z_api_Path (api_Path.size _)) (by decide) ?_
                  refine .step (.fa rfl F_api_Entry_P Z_api_Path) (by decide) ?_
                  refine .step (.lds rfl (.i 2 rfl) A_api_Path Z_api_Path (api_Entry.s_P _)) (by decide) ?_
                  refine .step (.eqA (EQ_api_Path _ _) G_api_Path rfl rfl (by decide)) (by decide) ?_
                  refine .step (.mv rfl) (by decide) ?_
                  refine .splitb 125 rfl (fun hb10 => ?_) (fun hb10 => ?_)
                  · replace H := cond_t hb10 H
                    refine .stepg rfl (.mv rfl) (by decide) ?_
                    refine .stepg rfl (.eql rfl rfl) (by decide) ?_
                    refine .step (.pk_t rfl rfl) (by decide) ?_
                    refine .nil (.then_n (.cond rfl (fun hc12 => ?_) (fun hc12 => ?_)))
                    · replace H := cond_t hc12 H
                      refine .region (?_)
                      refine .step (.mv rfl) (by decide) ?_
                      refine .step (.add rfl rfl) (by decide) ?_
                      refine .step (.as rfl) (by decide) ?_
                      refine .nil (.blk_n (.then_n (.region (?_))))
                      refine .step (.add rfl rfl) (by decide) ?_
                      refine .step (.mv rfl) (by decide) ?_
                      refine .nil (.then_n (?_))
                      exact .again ⟨fl5, ((IntKind.wrap .i64 (s16_5 + 1)), (IntKind.wrap .i64 (s117_5 + 1)))⟩ H (Nat.lt_succ_self _) (.cons _ (.refl _)) (.cons rfl (.cons rfl (.cons rfl (.cons rfl (.cons rfl (.cons rfl (.cons rfl (.cons rfl (.cons rfl (.cons rfl (.cons rfl (.cons rfl (.cons rfl .nil)))))))))))))
                    · replace H := cond_f hc12 H
                      refine .skip (.blk_n (.then_n (.region (?_))))
                      refine .step (.add rfl rfl) (by decide) ?_
                      refine .step (.mv rfl) (by decide) ?_
                      refine .nil (.then_n (?_))
                      exact .again ⟨fl5, (s16_5, (IntKind.wrap .i64 (s117_5 + 1)))⟩ H (Nat.lt_succ_self _) (.cons _ (.refl _)) (.cons rfl (.cons rfl (.cons rfl (.cons rfl (.cons rfl (.cons rfl (.cons rfl (.cons rfl (.cons rfl (.cons rfl (.cons rfl (.cons rfl (.cons rfl .nil)))))))))))))
                  · replace H := cond_f hb10 H
                    refine .pass rfl rfl (by decide) ?_
                    refine .pass rfl rfl (by decide) ?_
                    refine .step (.pk_f rfl rfl) (by decide) ?_
                    refine .nil (.then_n (.cond_f rfl ?_))
                    refine .skip (.blk_n (.then_n (.region (?_))))
                    refine .step (.add rfl rfl) (by decide) ?_
                    refine .step (.mv rfl) (by decide) ?_
                    refine .nil (.then_n (?_))
                    exact .again ⟨fl5, (s16_5, (IntKind.wrap .i64 (s117_5 + 1)))⟩ H (Nat.lt_succ_self _) (.cons _ (.refl _)) (.cons rfl (.cons rfl (.cons rfl (.cons rfl (.cons rfl (.cons rfl (.cons rfl (.cons rfl (.cons rfl (.cons rfl (.cons rfl (.cons rfl (.cons rfl .nil)))))))))))))
                · replace H := cond_f hc11 H
                  refine .exit (.then_x (.then_x (.blk_x (.then_n (.seq (.region (?_)))))))
                  refine .step (.mv rfl) (by decide) ?_
                  refine .step (.neq rfl rfl) (by decide) ?_
                  refine .nil (.then_n (.cond rfl (fun hc13 => ?_) (fun hc13 => ?_)))
                  · replace H := cond_t hc13 H
                    refine .seq (.region (?_))
                    refine .step (.as rfl) (by decide) ?_
                    cases H
                    exact .nil (.then_n (.ret (.blk_r (.then_r (.then_r (.blk_r (.then_r (.ret1 [] (by simp) rfl rfl ⟨rfl, rfl⟩))))))))
                  · replace H := cond_f hc13 H
                    refine .skip (.blk_n (.then_n (.region (?_))))
                    refine .step (.add rfl rfl) (by decide) ?_
                    refine .step (.mv rfl) (by decide) ?_
                    refine .nil (.then_n (?_))
                    exact .again ⟨fl1, ((IntKind.wrap .i64 (s9_1 + 1)), (IntKind.wrap .i64 (s39_1 + 1)))⟩ H (Nat.lt_succ_self _) (.cons _ (.cons _ (.refl _))) (.cons rfl (.cons rfl (.cons rfl (.cons rfl (.cons rfl (.cons rfl (.cons rfl .nil)))))))
        · replace H := cond_f hb2 H
          refine .stepg rfl (.fa rfl F_api_Entry_Nb Z_int) (by decide) ?_
          refine .stepg rfl (.ld1 rfl (.i 1 rfl) A_int (api_Entry.g_Nb _)) (by decide) ?_
          refine .stepg rfl (.mv rfl) (by decide) ?_
          refine .stepg rfl (.eql rfl rfl) (by decide) ?_
          refine .stepg rfl (.pk_f rfl rfl) (by decide) ?_
          refine .step (.pk_t rfl rfl) (by decide) ?_
          refine .step (.as rfl) (by decide) ?_
          refine .nil (.then_n (.seq (.seq (.region (?_)))))
          refine .step (.mv rfl) (by decide) ?_
          refine .step (.mv rfl) (by decide) ?_
          refine .step (.eqlB Q_bool rfl rfl) (by decide) ?_
          refine .step (.mv rfl) (by decide) ?_
          refine .splitb 67 rfl (fun hb11 => ?_) (fun hb11 => ?_)
          · replace H := cond_t hb11 H
            refine .pass rfl rfl (by decide) ?_
            refine .pass rfl rfl (by decide) ?_
            refine .passu rfl rfl (by decide) ?_
            refine .passu rfl rfl (by decide) ?_
            refine .passu rfl rfl (by decide) ?_
            refine .pass rfl rfl (by decide) ?_
            refine .step (.pk_t rfl rfl) (by decide) ?_
            refine .nil (.then_n (.cond_t rfl ?_))
            refine .seq (.region (?_))
            refine .step (.as rfl) (by decide) ?_
            cases H
            exact .nil (.then_n (.ret (.then_r (.blk_r (.then_r (.then_r (.blk_r (.then_r (.ret1 [] (by simp) rfl rfl ⟨rfl, rfl⟩)))))))))
          · replace H := cond_f hb11 H
            refine .stepg rfl (.mv rfl) (by decide) ?_
            refine .stepg rfl (.mv rfl) (by decide) ?_
            refine .splitb 69 rfl (fun hb12 => ?_) (fun hb12 => ?_)
            · replace H := cond_t hb12 H
              refine .stepg rfl (.ldA rfl (.i 0 rfl) A_api_Entry Z_api_Entry (api_Entry.size _)) (by decide) ?_
              refine .stepg rfl (.ldA rfl (.i 1 rfl) A_api_Entry Z_api_Entry (api_Entry.size _)) (by decide) ?_
              refine .stepg rfl (.neA (EQ_api_Entry _ _) G_api_Entry rfl rfl (by decide)) (by decide) ?_
              refine .stepg rfl (.pk_t rfl rfl) (by decide) ?_
              refine .step (.pk_f rfl rfl) (by decide) ?_
              refine .nil (.then_n (.cond rfl (fun hc14 => ?_) (fun hc14 => ?_)))
              · replace H := cond_t hc14 H
                refine .seq (.region (?_))
                refine .step (.as rfl) (by decide) ?_
                cases H
                exact .nil (.then_n (.ret (.then_r (.blk_r (.then_r (.then_r (.blk_r (.then_r (.ret1 [] (by simp) rfl rfl ⟨rfl, rfl⟩)))))))))
              · replace H := cond_f hc14 H
                refine .skip (.then_n (.seq (.seq (.region (?_)))))
                refine .step (.mv rfl) (by decide) ?_
                refine .step (.not rfl) (by decide) ?_
                refine .nil (.then_n (.cond rfl (fun hc15 => ?_) (fun hc15 => ?_)))
                · replace H := cond_t hc15 H
                  refine .exit (.then_x (.blk_x (.then_n (.region (?_)))))
                  refine .step (.add rfl rfl) (by decide) ?_
                  refine .step (.mv rfl) (by decide) ?_
                  refine .nil (.then_n (?_))
                  exact .again ⟨fl1, (s9_1, (IntKind.wrap .i64 (s39_1 + 1)))⟩ H (Nat.lt_succ_self _) (.cons _ (.cons _ (.refl _))) (.cons rfl (.cons rfl (.cons rfl (.cons rfl (.cons rfl (.cons rfl (.cons rfl .nil)))))))
                · replace H := cond_f hc15 H
                  refine .skip (.then_n (.seq (.region (?_))))
                  refine .step (.mv rfl) (by decide) ?_
                  refine .step (.add rfl rfl) (by decide) ?_
                  refine .step (.as rfl) (by decide) ?_
                  refine .nil (.then_n (.seq (.region (?_))))
                  refine .step (.fa rfl F_api_Entry_Na Z_int) (by decide) ?_
                  refine .step (.ld1 rfl (.i 1 rfl) A_int (api_Entry.g_Na _)) (by decide) ?_
                  refine .step (.fa rfl F_api_Entry_Nb Z_int) (by decide) ?_
                  refine .step (.ld1 rfl (.i 1 rfl) A_int (api_Entry.g_Nb _)) (by decide) ?_
                  refine .step (.add rfl rfl) (by decide) ?_
                  refine .step (.mv rfl) (by decide) ?_
                  refine .step (.sub rfl rfl) (by decide) ?_
                  refine .step (.as rfl) (by decide) ?_
                  refine .nil (.then_n (.seq (.region (?_))))
                  refine .step (.as rfl) (by decide) ?_
                  refine .nil (.then_n (.seq (.seq (.region (?_)))))
                  refine .step (.fa rfl F_tear_Torn_Out Z_sl_api_Hop) (by decide) ?_
                  refine .step (.ld1 (v := slv k_o_36_Out (x4.1).length c_o_36_Out) rfl (.i 2 rfl) A_sl_api_Hop (tear_Torn.g_Out _)) (by decide) ?_
                  refine .step (.len L_sl_api_Hop rfl) (by decide) ?_
                  refine .step (.mv rfl) (by decide) ?_
                  refine .nil (.then_n (.block (.loop (G := Nat × (Int × Int)) (fun g => iter (F_annuletlaw15_TearSweeps_L6 a1 x4 s9_1 s39_1 (iter (F_annuletlaw15_TearSweeps_L1 a1 x3 x4) fl1) x5) g.1 g.2 = some r) (fun g => [(some b12, .cells (api_Entry.enc x6.1) T_api_Entry (0, 0)), (some b11, .cells (api_Entry.enc x5) T_api_Entry (0, 0)), (some b8, .cells (tear_Torn.enc (tear_Torn.mk (slS k_o_36_Out (x4.1).length c_o_36_Out) (slS k_o_36_Lost (x4.2.1).length c_o_36_Lost))) T_tear_Torn (0, 0)), (k_o_36_Out, .cells (catA ((x4.1).map api_Hop.enc) ++ r_o_36_Out) T_api_Hop (0, 0)), (k_o_36_Lost, .cells (catA ((x4.2.1).map api_Path.enc) ++ r_o_36_Lost) T_api_Path (0, 0)), (some b_23_0, .cells (table_Table.enc (table_Table.mk x4.2.2.1 (.map (some b_23_0_m)))) T_table_Table (0, 0)), (some b_23_0_m, MS.obj (vA api_Path.enc) (vA api_Entry.enc) x4.2.2.2), (k_o_33, .cells (catA ((x3).map api_Entry.enc) ++ r_o_33) T_api_Entry (0, 0)), (some b_23_1, .cells (annuletref12_Table.enc (annuletref12_Table.mk (slS k_o_23_1_L (x1.2.2.1).length c_o_23_1_L) x1.2.2.2)) T_annuletref12_Table (0, 0)), (k_o_23_1_L, .cells (catA ((x1.2.2.1).map api_Entry.enc) ++ r_o_23_1_L) T_api_Entry (0, 0))]) (fun g => [(1, .int .i64 (a1)), (5, .pointer (some ⟨b_23_0, 0, none⟩)), (8, .pointer (some ⟨b8, 0, none⟩)), (9, .int .i64 ((IntKind.wrap .i64 (s9_1 + 1)))), (11, .pointer (some ⟨b11, 0, none⟩)), (15, .int .i64 ((IntKind.wrap .i64 ((IntKind.wrap .i64 (x5.Na + x5.Nb)) - a1)))), (16, .int .i64 (g.2.1)), (37, slv k_o_33 (x3).length c_o_33), (38, .int .i64 ((((x3).length : Nat) : Int))), (39, .int .i64 (s39_1)), (87, slv k_o_36_Out (x4.1).length c_o_36_Out), (88, .int .i64 ((((x4.1).length : Nat) : Int))), (89, .int .i64 (g.2.2))]) (fun g => g.1) ⟨FUEL, (0, 0)⟩ H (.refl _) (.cons rfl (.cons rfl (.cons rfl (.cons rfl (.cons rfl (.cons rfl (.cons rfl (.cons rfl (.cons rfl (.cons rfl (.cons rfl (.cons rfl (.cons rfl .nil))))))))))))) ?_)))
                  rintro ⟨_ | fl6, ⟨s16_6, s89_6⟩⟩ H
                  · exact (iter_0 H).elim
                  replace H := iter_s H; rw [F_annuletlaw15_TearSweeps_L6] at H; dsimp only at H ⊢
                  refine .seq (.region (?_))
                  refine .step (.lss rfl rfl) (by decide) ?_
                  refine .nil (.then_n (.seq (.cond rfl (fun hc16 => ?_) (fun hc16 => ?_))))
                  · replace H := cond_t hc16 H
                    refine .skip (.then_n (.seq (.block (.seq (.region (?_))))))
                    obtain ⟨x11, hx11, H⟩ := bind_s H
                    refine .step (.ixP (.own 3 api_Hop.size rfl ho_o_36_Out) hx11 rfl rfl L_sl_api_Hop Z_api_Hop) (by decide) ?_
                    refine .step (.ldP (.own 3 api_Hop.size rfl ho_o_36_Out) hx11 rfl A_api_Hop Z_api_Hop) (by decide) ?_
                    refine .alloc N_api_Hop rfl (by decide) fun b18 hb18 => ?_
                    refine .storeA 0 rfl rfl rfl rfl Z_api_Hop (api_Hop.size _) (api_Hop.one _) (api_Hop.size _) ?_
                    refine .nil (.then_n (.seq (.region (?_))))
                    refine .step (.fa rfl F_api_Hop_F Z_api_Frame) (by decide) ?_
                    refine .step (.fa rfl F_api_Frame_P Z_api_Path) (by decide) ?_
                    refine .step (.lds rfl (.i 0 rfl) A_api_Path Z_api_Path (api_Hop.s_F_P _)) (by decide) ?_
                    refine .step (.fa rfl F_api_Entry_P Z_api_Path) (by decide) ?_
                    refine .step (.lds rfl (.i 2 rfl) A_api_Path Z_api_Path (api_Entry.s_P _)) (by decide) ?_
                    refine .step (.eqA (EQ_api_Path _ _) G_api_Path rfl rfl (by decide)) (by decide) ?_
                    refine .step (.mv rfl) (by decide) ?_
                    refine .splitb 99 rfl (fun hb13 => ?_) (fun hb13 => ?_)
                    · replace H := cond_t hb13 H
                      refine .stepg rfl (.fa rfl F_api_Hop_N Z_int) (by decide) ?_
                      refine .stepg rfl (.ld1 rfl (.i 0 rfl) A_int (api_Hop.g_N _)) (by decide) ?_
                      refine .stepg rfl (.mv rfl) (by decide) ?_
                      refine .stepg rfl (.eql rfl rfl) (by decide) ?_
                      refine .step (.pk_t rfl rfl) (by decide) ?_
                      refine .step (.mv rfl) (by decide) ?_
                      refine .splitb 105 rfl (fun hb14 => ?_) (fun hb14 => ?_)
                      · replace H := cond_t hb14 H
                        refine .stepg rfl (.fa rfl F_api_Hop_F Z_api_Frame) (by decide) ?_
                        refine .stepg rfl (.fa rfl F_api_Frame_Kind Z_int) (by decide) ?_
                        refine .stepg rfl (.ld1 rfl (.i 0 rfl) A_int (api_Hop.g_F_Kind _)) (by decide) ?_
                        refine .stepg rfl (.eql rfl rfl) (by decide) ?_
                        refine .step (.pk_t rfl rfl) (by decide) ?_
                        refine .nil (.then_n (.cond rfl (fun hc17 => ?_) (fun hc17 => ?_)))
                        · replace H := cond_t hc17 H
                          refine .region (?_)
                          refine .step (.mv rfl) (by decide) ?_
                          refine .step (.add rfl rfl) (by decide) ?_
                          refine .step (.as rfl) (by decide) ?_
                          refine .nil (.blk_n (.then_n (.region (?_))))
                          refine .step (.add rfl rfl) (by decide) ?_
                          refine .step (.mv rfl) (by decide) ?_
                          refine .nil (.then_n (?_))
                          exact .again ⟨fl6, ((IntKind.wrap .i64 (s16_6 + 1)), (IntKind.wrap .i64 (s89_6 + 1)))⟩ H (Nat.lt_succ_self _) (.cons _ (.refl _)) (.cons rfl (.cons rfl (.cons rfl (.cons rfl (.cons rfl (.cons rfl (.cons rfl (.cons rfl (.cons rfl (.cons rfl (.cons rfl (.cons rfl (.cons rfl .nil)))))))))))))
                        · replace H := cond_f hc17 H
                          refine .skip (.blk_n (.then_n (.region (?_))))
                          refine .step (.add rfl rfl) (by decide) ?_
                          refine .step (.mv rfl) (by decide) ?_
                          refine .nil (.then_n (?_))
                          exact .again ⟨fl6, (s16_6, (IntKind.wrap .i64 (s89_6 + 1)))⟩ H (Nat.lt_succ_self _) (.cons _ (.refl _)) (.cons rfl (.cons rfl (.cons rfl (.cons rfl (.cons rfl (.cons rfl (.cons rfl (.cons rfl (.cons rfl (.cons rfl (.cons rfl (.cons rfl (.cons rfl .nil)))))))))))))
                      · replace H := cond_f hb14 H
                        refine .pass rfl rfl (by decide) ?_
                        refine .pass rfl rfl (by decide) ?_
                        refine .pass rfl rfl (by decide) ?_
                        refine .pass rfl rfl (by decide) ?_
                        refine .step (.pk_f rfl rfl) (by decide) ?_
                        refine .nil (.then_n (.cond_f rfl ?_))
                        refine .skip (.blk_n (.then_n (.region (?_))))
                        refine .step (.add rfl rfl) (by decide) ?_
                        refine .step (.mv rfl) (by decide) ?_
                        refine .nil (.then_n (?_))
                        exact .again ⟨fl6, (s16_6, (IntKind.wrap .i64 (s89_6 + 1)))⟩ H (Nat.lt_succ_self _) (.cons _ (.refl _)) (.cons rfl (.cons rfl (.cons rfl (.cons rfl (.cons rfl (.cons rfl (.cons rfl (.cons rfl (.cons rfl (.cons rfl (.cons rfl (.cons rfl (.cons rfl .nil)))))))))))))
                    · replace H := cond_f hb13 H
                      refine .pass rfl rfl (by decide) ?_
                      refine .pass rfl rfl (by decide) ?_
                      refine .pass rfl rfl (by decide) ?_
                      refine .pass rfl rfl (by decide) ?_
                      refine .step (.pk_f rfl rfl) (by decide) ?_
                      refine .step (.mv rfl) (by decide) ?_
                      refine .pass rfl rfl (by decide) ?_
                      refine .pass rfl rfl (by decide) ?_
                      refine .pass rfl rfl (by decide) ?_
                      refine .pass rfl rfl (by decide) ?_
                      refine .step (.pk_f rfl rfl) (by decide) ?_
                      refine .nil (.then_n (.cond_f rfl ?_))
                      refine .skip (.blk_n (.then_n (.region (?_))))
                      refine .step (.add rfl rfl) (by decide) ?_
                      refine .step (.mv rfl) (by decide) ?_
                      refine .nil (.then_n (?_))
                      exact .again ⟨fl6, (s16_6, (IntKind.wrap .i64 (s89_6 + 1)))⟩ H (Nat.lt_succ_self _) (.cons _ (.refl _)) (.cons rfl (.cons rfl (.cons rfl (.cons rfl (.cons rfl (.cons rfl (.cons rfl (.cons rfl (.cons rfl (.cons rfl (.cons rfl (.cons rfl (.cons rfl .nil)))))))))))))
                  · replace H := cond_f hc16 H
                    refine .exit (.then_x (.then_x (.blk_x (.then_n (.seq (.seq (.region (?_))))))))
                    refine .step (.fa rfl F_tear_Torn_Lost Z_sl_api_Path) (by decide) ?_
                    refine .step (.ld1 (v := slv k_o_36_Lost (x4.2.1).length c_o_36_Lost) rfl (.i 2 rfl) A_sl_api_Path (tear_Torn.g_Lost _)) (by decide) ?_
                    refine .step (.len L_sl_api_Path rfl) (by decide) ?_
                    refine .step (.mv rfl) (by decide) ?_
                    refine .nil (.then_n (.block (.loop (G := Nat × (Int × Int)) (fun g => iter (F_annuletlaw15_TearSweeps_L7 a1 x4 s9_1 s39_1 (iter (F_annuletlaw15_TearSweeps_L1 a1 x3 x4) fl1) x5) g.1 g.2 = some r) (fun g => [(some b12, .cells (api_Entry.enc x6.1) T_api_Entry (0, 0)), (some b11, .cells (api_Entry.enc x5) T_api_Entry (0, 0)), (some b8, .cells (tear_Torn.enc (tear_Torn.mk (slS k_o_36_Out (x4.1).length c_o_36_Out) (slS k_o_36_Lost (x4.2.1).length c_o_36_Lost))) T_tear_Torn (0, 0)), (k_o_36_Out, .cells (catA ((x4.1).map api_Hop.enc) ++ r_o_36_Out) T_api_Hop (0, 0)), (k_o_36_Lost, .cells (catA ((x4.2.1).map api_Path.enc) ++ r_o_36_Lost) T_api_Path (0, 0)), (some b_23_0, .cells (table_Table.enc (table_Table.mk x4.2.2.1 (.map (some b_23_0_m)))) T_table_Table (0, 0)), (some b_23_0_m, MS.obj (vA api_Path.enc) (vA api_Entry.enc) x4.2.2.2), (k_o_33, .cells (catA ((x3).map api_Entry.enc) ++ r_o_33) T_api_Entry (0, 0)), (some b_23_1, .cells (annuletref12_Table.enc (annuletref12_Table.mk (slS k_o_23_1_L (x1.2.2.1).length c_o_23_1_L) x1.2.2.2)) T_annuletref12_Table (0, 0)), (k_o_23_1_L, .cells (catA ((x1.2.2.1).map api_Entry.enc) ++ r_o_23_1_L) T_api_Entry (0, 0))]) (fun g => [(1, .int .i64 (a1)), (5, .pointer (some ⟨b_23_0, 0, none⟩)), (8, .pointer (some ⟨b8, 0, none⟩)), (9, .int .i64 ((IntKind.wrap .i64 (s9_1 + 1)))), (11, .pointer (some ⟨b11, 0, none⟩)), (15, .int .i64 ((IntKind.wrap .i64 ((IntKind.wrap .i64 (x5.Na + x5.Nb)) - a1)))), (16, .int .i64 (g.2.1)), (37, slv k_o_33 (x3).length c_o_33), (38, .int .i64 ((((x3).length : Nat) : Int))), (39, .int .i64 (s39_1)), (115, slv k_o_36_Lost (x4.2.1).length c_o_36_Lost), (116, .int .i64 ((((x4.2.1).length : Nat) : Int))), (117, .int .i64 (g.2.2))]) (fun g => g.1) ⟨FUEL, (s16_6, 0)⟩ H (.refl _) (.cons rfl (.cons rfl (.cons rfl (.cons rfl (.cons rfl (.cons rfl (.cons rfl (.cons rfl (.cons rfl (.cons rfl (.cons rfl (.cons rfl (.cons rfl .nil))))))))))))) ?_)))
                    rintro ⟨_ | fl7, ⟨s16_7, s117_7⟩⟩ H
                    · exact (iter_0 H).elim
                    replace H := iter_s H; rw [F_annuletlaw15_TearSweeps_L7] at H; dsimp only at H ⊢
                    refine .seq (.region (?_))
                    refine .step (.lss rfl rfl) (by decide) ?_
                    refine .nil (.then_n (.seq (.cond rfl (fun hc18 => ?_) (fun hc18 => ?_))))
                    · replace H := cond_t hc18 H
                      refine .skip (.then_n (.seq (.block (.seq (.region (?_))))))
                      obtain ⟨x12, hx12, H⟩ := bind_s H
                      refine .step (.ixP (.own 4 api_Path.size rfl ho_o_36_Lost) hx12 rfl rfl L_sl_api_Path Z_api_Path) (by decide) ?_
                      refine .step (.ldP (.own 4 api_Path.size rfl ho_o_36_Lost) hx12 rfl A_api_Path Z_api_Path) (by decide) ?_
                      refine .alloc N_api_Path rfl (by decide) fun b20 hb20 => ?_
                      refine .storeA 0 rfl rfl rfl rfl Z_api_Path (api_Path.size _) (api_Path.one _) (api_Path.size _) ?_
                      refine .nil (.then_n (.seq (.region (?_))))
                      refine .step (.ldA rfl (.i 0 rfl) A_api_Path Z_api_Path (api_Path.size _)) (by decide) ?_
                      refine .step (.fa rfl F_api_Entry_P Z_api_Path) (by decide) ?_
                      refine .step (.lds rfl (.i 2 rfl) A_api_Path Z_api_Path (api_Entry.s_P _)) (by decide) ?_
                      refine .step (.eqA (EQ_api_Path _ _) G_api_Path rfl rfl (by decide)) (by decide) ?_
                      refine .step (.mv rfl) (by decide) ?_
                      refine .splitb 125 rfl (fun hb15 => ?_) (fun hb15 => ?_)
                      · replace H := cond_t hb15 H
                        refine .stepg rfl (.mv rfl) (by decide) ?_
                        refine .stepg rfl (.eql rfl rfl) (by decide) ?_
                        refine .step (.pk_t rfl rfl) (by decide) ?_
                        refine .nil (.then_n (.cond rfl (fun hc19 => ?_) (fun hc19 => ?_)))
                        · replace H := cond_t hc19 H
                          refine .region (?_)
                          refine .step (.mv rfl) (by decide) ?_
                          refine .step (.add rfl rfl) (by decide) ?_
                          refine .step (.as rfl) (by decide) ?_
                          refine .nil (.blk_n (.then_n (.region (?_))))
                          refine .step (.add rfl rfl) (by decide) ?_
                          refine .step (.mv rfl) (by decide) ?_
                          refine .nil (.then_n (?_))
                          exact .again ⟨fl7, ((IntKind.wrap .i64 (s16_7 + 1)), (IntKind.wrap .i64 (s117_7 + 1)))⟩ H (Nat.lt_succ_self _) (.cons _ (.refl _)) (.cons rfl (.cons rfl (.cons rfl (.cons rfl (.cons rfl (.cons rfl (.cons rfl (.cons rfl (.cons rfl (.cons rfl (.cons rfl (.cons rfl (.cons rfl .nil)))))))))))))
                        · replace H := cond_f hc19 H
                          refine .skip (.blk_n (.then_n (.region (?_))))
                          refine .step (.add rfl rfl) (by decide) ?_
                          refine .step (.mv rfl) (by decide) ?_
                          refine .nil (.then_n (?_))
                          exact .again ⟨fl7, (s16_7, (IntKind.wrap .i64 (s117_7 + 1)))⟩ H (Nat.lt_succ_self _) (.cons _ (.refl _)) (.cons rfl (.cons rfl (.cons rfl (.cons rfl (.cons rfl (.cons rfl (.cons rfl (.cons rfl (.cons rfl (.cons rfl (.cons rfl (.cons rfl (.cons rfl .nil)))))))))))))
                      · replace H := cond_f hb15 H
                        refine .pass rfl rfl (by decide) ?_
                        refine .pass rfl rfl (by decide) ?_
                        refine .step (.pk_f rfl rfl) (by decide) ?_
                        refine .nil (.then_n (.cond_f rfl ?_))
                        refine .skip (.blk_n (.then_n (.region (?_))))
                        refine .step (.add rfl rfl) (by decide) ?_
                        refine .step (.mv rfl) (by decide) ?_
                        refine .nil (.then_n (?_))
                        exact .again ⟨fl7, (s16_7, (IntKind.wrap .i64 (s117_7 + 1)))⟩ H (Nat.lt_succ_self _) (.cons _ (.refl _)) (.cons rfl (.cons rfl (.cons rfl (.cons rfl (.cons rfl (.cons rfl (.cons rfl (.cons rfl (.cons rfl (.cons rfl (.cons rfl (.cons rfl (.cons rfl .nil)))))))))))))
                    · replace H := cond_f hc18 H
                      refine .exit (.then_x (.then_x (.blk_x (.then_n (.seq (.region (?_)))))))
                      refine .step (.mv rfl) (by decide) ?_
                      refine .step (.neq rfl rfl) (by decide) ?_
                      refine .nil (.then_n (.cond rfl (fun hc20 => ?_) (fun hc20 => ?_)))
                      · replace H := cond_t hc20 H
                        refine .seq (.region (?_))
                        refine .step (.as rfl) (by decide) ?_
                        cases H
                        exact .nil (.then_n (.ret (.blk_r (.then_r (.then_r (.blk_r (.then_r (.ret1 [] (by simp) rfl rfl ⟨rfl, rfl⟩))))))))
                      · replace H := cond_f hc20 H
                        refine .skip (.blk_n (.then_n (.region (?_))))
                        refine .step (.add rfl rfl) (by decide) ?_
                        refine .step (.mv rfl) (by decide) ?_
                        refine .nil (.then_n (?_))
                        exact .again ⟨fl1, ((IntKind.wrap .i64 (s9_1 + 1)), (IntKind.wrap .i64 (s39_1 + 1)))⟩ H (Nat.lt_succ_self _) (.cons _ (.cons _ (.refl _))) (.cons rfl (.cons rfl (.cons rfl (.cons rfl (.cons rfl (.cons rfl (.cons rfl .nil)))))))
            · replace H := cond_f hb12 H
              refine .pass rfl rfl (by decide) ?_
              refine .pass rfl rfl (by decide) ?_
              refine .pass rfl rfl (by decide) ?_
              refine .stepg rfl (.pk_f rfl rfl) (by decide) ?_
              refine .step (.pk_f rfl rfl) (by decide) ?_
              refine .nil (.then_n (.cond_f rfl ?_))
              refine .skip (.then_n (.seq (.seq (.region (?_)))))
              refine .step (.mv rfl) (by decide) ?_
              refine .step (.not rfl) (by decide) ?_
              refine .nil (.then_n (.cond rfl (fun hc21 => ?_) (fun hc21 => ?_)))
              · replace H := cond_t hc21 H
                refine .exit (.then_x (.blk_x (.then_n (.region (?_)))))
                refine .step (.add rfl rfl) (by decide) ?_
                refine .step (.mv rfl) (by decide) ?_
                refine .nil (.then_n (?_))
                exact .again ⟨fl1, (s9_1, (IntKind.wrap .i64 (s39_1 + 1)))⟩ H (Nat.lt_succ_self _) (.cons _ (.cons _ (.refl _))) (.cons rfl (.cons rfl (.cons rfl (.cons rfl (.cons rfl (.cons rfl (.cons rfl .nil)))))))
              · replace H := cond_f hc21 H
                refine .skip (.then_n (.seq (.region (?_))))
                refine .step (.mv rfl) (by decide) ?_
                refine .step (.add rfl rfl) (by decide) ?_
                refine .step (.as rfl) (by decide) ?_
                refine .nil (.then_n (.seq (.region (?_))))
                refine .step (.fa rfl F_api_Entry_Na Z_int) (by decide) ?_
                refine .step (.ld1 rfl (.i 1 rfl) A_int (api_Entry.g_Na _)) (by decide) ?_
                refine .step (.fa rfl F_api_Entry_Nb Z_int) (by decide) ?_
                refine .step (.ld1 rfl (.i 1 rfl) A_int (api_Entry.g_Nb _)) (by decide) ?_
                refine .step (.add rfl rfl) (by decide) ?_
                refine .step (.mv rfl) (by decide) ?_
                refine .step (.sub rfl rfl) (by decide) ?_
                refine .step (.as rfl) (by decide) ?_
                refine .nil (.then_n (.seq (.region (?_))))
                refine .step (.as rfl) (by decide) ?_
                refine .nil (.then_n (.seq (.seq (.region (?_)))))
                refine .step (.fa rfl F_tear_Torn_Out Z_sl_api_Hop) (by decide) ?_
                refine .step (.ld1 (v := slv k_o_36_Out (x4.1).length c_o_36_Out) rfl (.i 2 rfl) A_sl_api_Hop (tear_Torn.g_Out _)) (by decide) ?_
                refine .step (.len L_sl_api_Hop rfl) (by decide) ?_
                refine .step (.mv rfl) (by decide) ?_
                refine .nil (.then_n (.block (.loop (G := Nat × (Int × Int)) (fun g => iter (F_annuletlaw15_TearSweeps_L8 a1 x4 s9_1 s39_1 (iter (F_annuletlaw15_TearSweeps_L1 a1 x3 x4) fl1) x5) g.1 g.2 = some r) (fun g => [(some b12, .cells (api_Entry.enc x6.1) T_api_Entry (0, 0)), (some b11, .cells (api_Entry.enc x5) T_api_Entry (0, 0)), (some b8, .cells (tear_Torn.enc (tear_Torn.mk (slS k_o_36_Out (x4.1).length c_o_36_Out) (slS k_o_36_Lost (x4.2.1).length c_o_36_Lost))) T_tear_Torn (0, 0)), (k_o_36_Out, .cells (catA ((x4.1).map api_Hop.enc) ++ r_o_36_Out) T_api_Hop (0, 0)), (k_o_36_Lost, .cells (catA ((x4.2.1).map api_Path.enc) ++ r_o_36_Lost) T_api_Path (0, 0)), (some b_23_0, .cells (table_Table.enc (table_Table.mk x4.2.2.1 (.map (some b_23_0_m)))) T_table_Table (0, 0)), (some b_23_0_m, MS.obj (vA api_Path.enc) (vA api_Entry.enc) x4.2.2.2), (k_o_33, .cells (catA ((x3).map api_Entry.enc) ++ r_o_33) T_api_Entry (0, 0)), (some b_23_1, .cells (annuletref12_Table.enc (annuletref12_Table.mk (slS k_o_23_1_L (x1.2.2.1).length c_o_23_1_L) x1.2.2.2)) T_annuletref12_Table (0, 0)), (k_o_23_1_L, .cells (catA ((x1.2.2.1).map api_Entry.enc) ++ r_o_23_1_L) T_api_Entry (0, 0))]) (fun g => [(1, .int .i64 (a1)), (5, .pointer (some ⟨b_23_0, 0, none⟩)), (8, .pointer (some ⟨b8, 0, none⟩)), (9, .int .i64 ((IntKind.wrap .i64 (s9_1 + 1)))), (11, .pointer (some ⟨b11, 0, none⟩)), (15, .int .i64 ((IntKind.wrap .i64 ((IntKind.wrap .i64 (x5.Na + x5.Nb)) - a1)))), (16, .int .i64 (g.2.1)), (37, slv k_o_33 (x3).length c_o_33), (38, .int .i64 ((((x3).length : Nat) : Int))), (39, .int .i64 (s39_1)), (87, slv k_o_36_Out (x4.1).length c_o_36_Out), (88, .int .i64 ((((x4.1).length : Nat) : Int))), (89, .int .i64 (g.2.2))]) (fun g => g.1) ⟨FUEL, (0, 0)⟩ H (.refl _) (.cons rfl (.cons rfl (.cons rfl (.cons rfl (.cons rfl (.cons rfl (.cons rfl (.cons rfl (.cons rfl (.cons rfl (.cons rfl (.cons rfl (.cons rfl .nil))))))))))))) ?_)))
                rintro ⟨_ | fl8, ⟨s16_8, s89_8⟩⟩ H
                · exact (iter_0 H).elim
                replace H := iter_s H; rw [F_annuletlaw15_TearSweeps_L8] at H; dsimp only at H ⊢
                refine .seq (.region (?_))
                refine .step (.lss rfl rfl) (by decide) ?_
                refine .nil (.then_n (.seq (.cond rfl (fun hc22 => ?_) (fun hc22 => ?_))))
                · replace H := cond_t hc22 H
                  refine .skip (.then_n (.seq (.block (.seq (.region (?_))))))
                  obtain ⟨x13, hx13, H⟩ := bind_s H
                  refine .step (.ixP (.own 3 api_Hop.size rfl ho_o_36_Out) hx13 rfl rfl L_sl_api_Hop Z_api_Hop) (by decide) ?_
                  refine .step (.ldP (.own 3 api_Hop.size rfl ho_o_36_Out) hx13 rfl A_api_Hop Z_api_Hop) (by decide) ?_
                  refine .alloc N_api_Hop rfl (by decide) fun b18 hb18 => ?_
                  refine .storeA 0 rfl rfl rfl rfl Z_api_Hop (api_Hop.size _) (api_Hop.one _) (api_Hop.size _) ?_
                  refine .nil (.then_n (.seq (.region (?_))))
                  refine .step (.fa rfl F_api_Hop_F Z_api_Frame) (by decide) ?_
                  refine .step (.fa rfl F_api_Frame_P Z_api_Path) (by decide) ?_
                  refine .step (.lds rfl (.i 0 rfl) A_api_Path Z_api_Path (api_Hop.s_F_P _)) (by decide) ?_
                  refine .step (.fa rfl F_api_Entry_P Z_api_Path) (by decide) ?_
                  refine .step (.lds rfl (.i 2 rfl) A_api_Path Z_api_Path (api_Entry.s_P _)) (by decide) ?_
                  refine .step (.eqA (EQ_api_Path _ _) G_api_Path rfl rfl (by decide)) (by decide) ?_
                  refine .step (.mv rfl) (by decide) ?_
                  refine .splitb 99 rfl (fun hb16 => ?_) (fun hb16 => ?_)
                  · replace H := cond_t hb16 H
                    refine .stepg rfl (.fa rfl F_api_Hop_N Z_int) (by decide) ?_
                    refine .stepg rfl (.ld1 rfl (.i 0 rfl) A_int (api_Hop.g_N _)) (by decide) ?_
                    refine .stepg rfl (.mv rfl) (by decide) ?_
                    refine .stepg rfl (.eql rfl rfl) (by decide) ?_
                    refine .step (.pk_t rfl rfl) (by decide) ?_
                    refine .step (.mv rfl) (by decide) ?_
                    refine .splitb 105 rfl (fun hb17 => ?_) (fun hb17 => ?_)
                    · replace H := cond_t hb17 H
                      refine .stepg rfl (.fa rfl F_api_Hop_F Z_api_Frame) (by decide) ?_
                      refine .stepg rfl (.fa rfl F_api_Frame_Kind Z_int) (by decide) ?_
                      refine .stepg rfl (.ld1 rfl (.i 0 rfl) A_int (api_Hop.g_F_Kind _)) (by decide) ?_
                      refine .stepg rfl (.eql rfl rfl) (by decide) ?_
                      refine .step (.pk_t rfl rfl) (by decide) ?_
                      refine .nil (.then_n (.cond rfl (fun hc23 => ?_) (fun hc23 => ?_)))
                      · replace H := cond_t hc23 H
                        refine .region (?_)
                        refine .step (.mv rfl) (by decide) ?_
                        refine .step (.add rfl rfl) (by decide) ?_
                        refine .step (.as rfl) (by decide) ?_
                        refine .nil (.blk_n (.then_n (.region (?_))))
                        refine .step (.add rfl rfl) (by decide) ?_
                        refine .step (.mv rfl) (by decide) ?_
                        refine .nil (.then_n (?_))
                        exact .again ⟨fl8, ((IntKind.wrap .i64 (s16_8 + 1)), (IntKind.wrap .i64 (s89_8 + 1)))⟩ H (Nat.lt_succ_self _) (.cons _ (.refl _)) (.cons rfl (.cons rfl (.cons rfl (.cons rfl (.cons rfl (.cons rfl (.cons rfl (.cons rfl (.cons rfl (.cons rfl (.cons rfl (.cons rfl (.cons rfl .nil)))))))))))))
                      · replace H := cond_f hc23 H
                        refine .skip (.blk_n (.then_n (.region (?_))))
                        refine .step (.add rfl rfl) (by decide) ?_
                        refine .step (.mv rfl) (by decide) ?_
                        refine .nil (.then_n (?_))
                        exact .again ⟨fl8, (s16_8, (IntKind.wrap .i64 (s89_8 + 1)))⟩ H (Nat.lt_succ_self _) (.cons _ (.refl _)) (.cons rfl (.cons rfl (.cons rfl (.cons rfl (.cons rfl (.cons rfl (.cons rfl (.cons rfl (.cons rfl (.cons rfl (.cons rfl (.cons rfl (.cons rfl .nil)))))))))))))
                    · replace H := cond_f hb17 H
                      refine .pass rfl rfl (by decide) ?_
                      refine .pass rfl rfl (by decide) ?_
                      refine .pass rfl rfl (by decide) ?_
                      refine .pass rfl rfl (by decide) ?_
                      refine .step (.pk_f rfl rfl) (by decide) ?_
                      refine .nil (.then_n (.cond_f rfl ?_))
                      refine .skip (.blk_n (.then_n (.region (?_))))
                      refine .step (.add rfl rfl) (by decide) ?_
                      refine .step (.mv rfl) (by decide) ?_
                      refine .nil (.then_n (?_))
                      exact .again ⟨fl8, (s16_8, (IntKind.wrap .i64 (s89_8 + 1)))⟩ H (Nat.lt_succ_self _) (.cons _ (.refl _)) (.cons rfl (.cons rfl (.cons rfl (.cons rfl (.cons rfl (.cons rfl (.cons rfl (.cons rfl (.cons rfl (.cons rfl (.cons rfl (.cons rfl (.cons rfl .nil)))))))))))))
                  · replace H := cond_f hb16 H
                    refine .pass rfl rfl (by decide) ?_
                    refine .pass rfl rfl (by decide) ?_
                    refine .pass rfl rfl (by decide) ?_
                    refine .pass rfl rfl (by decide) ?_
                    refine .step (.pk_f rfl rfl) (by decide) ?_
                    refine .step (.mv rfl) (by decide) ?_
                    refine .pass rfl rfl (by decide) ?_
                    refine .pass rfl rfl (by decide) ?_
                    refine .pass rfl rfl (by decide) ?_
                    refine .pass rfl rfl (by decide) ?_
                    refine .step (.pk_f rfl rfl) (by decide) ?_
                    refine .nil (.then_n (.cond_f rfl ?_))
                    refine .skip (.blk_n (.then_n (.region (?_))))
                    refine .step (.add rfl rfl) (by decide) ?_
                    refine .step (.mv rfl) (by decide) ?_
                    refine .nil (.then_n (?_))
                    exact .again ⟨fl8, (s16_8, (IntKind.wrap .i64 (s89_8 + 1)))⟩ H (Nat.lt_succ_self _) (.cons _ (.refl _)) (.cons rfl (.cons rfl (.cons rfl (.cons rfl (.cons rfl (.cons rfl (.cons rfl (.cons rfl (.cons rfl (.cons rfl (.cons rfl (.cons rfl (.cons rfl .nil)))))))))))))
                · replace H := cond_f hc22 H
                  refine .exit (.then_x (.then_x (.blk_x (.then_n (.seq (.seq (.region (?_))))))))
                  refine .step (.fa rfl F_tear_Torn_Lost Z_sl_api_Path) (by decide) ?_
                  refine .step (.ld1 (v := slv k_o_36_Lost (x4.2.1).length c_o_36_Lost) rfl (.i 2 rfl) A_sl_api_Path (tear_Torn.g_Lost _)) (by decide) ?_
                  refine .step (.len L_sl_api_Path rfl) (by decide) ?_
                  refine .step (.mv rfl) (by decide) ?_
                  refine .nil (.then_n (.block (.loop (G := Nat × (Int × Int)) (fun g => iter (F_annuletlaw15_TearSweeps_L9 a1 x4 s9_1 s39_1 (iter (F_annuletlaw15_TearSweeps_L1 a1 x3 x4) fl1) x5) g.1 g.2 = some r) (fun g => [(some b12, .cells (api_Entry.enc x6.1) T_api_Entry (0, 0)), (some b11, .cells (api_Entry.enc x5) T_api_Entry (0, 0)), (some b8, .cells (tear_Torn.enc (tear_Torn.mk (slS k_o_36_Out (x4.1).length c_o_36_Out) (slS k_o_36_Lost (x4.2.1).length c_o_36_Lost))) T_tear_Torn (0, 0)), (k_o_36_Out, .cells (catA ((x4.1).map api_Hop.enc) ++ r_o_36_Out) T_api_Hop (0, 0)), (k_o_36_Lost, .cells (catA ((x4.2.1).map api_Path.enc) ++ r_o_36_Lost) T_api_Path (0, 0)), (some b_23_0, .cells (table_Table.enc (table_Table.mk x4.2.2.1 (.map (some b_23_0_m)))) T_table_Table (0, 0)), (some b_23_0_m, MS.obj (vA api_Path.enc) (vA api_Entry.enc) x4.2.2.2), (k_o_33, .cells (catA ((x3).map api_Entry.enc) ++ r_o_33) T_api_Entry (0, 0)), (some b_23_1, .cells (annuletref12_Table.enc (annuletref12_Table.mk (slS k_o_23_1_L (x1.2.2.1).length c_o_23_1_L) x1.2.2.2)) T_annuletref12_Table (0, 0)), (k_o_23_1_L, .cells (catA ((x1.2.2.1).map api_Entry.enc) ++ r_o_23_1_L) T_api_Entry (0, 0))]) (fun g => [(1, .int .i64 (a1)), (5, .pointer (some ⟨b_23_0, 0, none⟩)), (8, .pointer (some ⟨b8, 0, none⟩)), (9, .int .i64 ((IntKind.wrap .i64 (s9_1 + 1)))), (11, .pointer (some ⟨b11, 0, none⟩)), (15, .int .i64 ((IntKind.wrap .i64 ((IntKind.wrap .i64 (x5.Na + x5.Nb)) - a1)))), (16, .int .i64 (g.2.1)), (37, slv k_o_33 (x3).length c_o_33), (38, .int .i64 ((((x3).length : Nat) : Int))), (39, .int .i64 (s39_1)), (115, slv k_o_36_Lost (x4.2.1).length c_o_36_Lost), (116, .int .i64 ((((x4.2.1).length : Nat) : Int))), (117, .int .i64 (g.2.2))]) (fun g => g.1) ⟨FUEL, (s16_8, 0)⟩ H (.refl _) (.cons rfl (.cons rfl (.cons rfl (.cons rfl (.cons rfl (.cons rfl (.cons rfl (.cons rfl (.cons rfl (.cons rfl (.cons rfl (.cons rfl (.cons rfl .nil))))))))))))) ?_)))
                  rintro ⟨_ | fl9, ⟨s16_9, s117_9⟩⟩ H
                  · exact (iter_0 H).elim
                  replace H := iter_s H; rw [F_annuletlaw15_TearSweeps_L9] at H; dsimp only at H ⊢
                  refine .seq (.region (?_))
                  refine .step (.lss rfl rfl) (by decide) ?_
                  refine .nil (.then_n (.seq (.cond rfl (fun hc24 => ?_) (fun hc24 => ?_))))
                  · replace H := cond_t hc24 H
                    refine .skip (.then_n (.seq (.block (.seq (.region (?_))))))
                    obtain ⟨x14, hx14, H⟩ := bind_s H
                    refine .step (.ixP (.own 4 api_Path.size rfl ho_o_36_Lost) hx14 rfl rfl L_sl_api_Path Z_api_Path) (by decide) ?_
                    refine .step (.ldP (.own 4 api_Path.size rfl ho_o_36_Lost) hx14 rfl A_api_Path Z_api_Path) (by decide) ?_
                    refine .alloc N_api_Path rfl (by decide) fun b20 hb20 => ?_
                    refine .storeA 0 rfl rfl rfl rfl Z_api_Path (api_Path.size _) (api_Path.one _) (api_Path.size _) ?_
                    refine .nil (.then_n (.seq (.region (?_))))
                    refine .step (.ldA rfl (.i 0 rfl) A_api_Path Z_api_Path (api_Path.size _)) (by decide) ?_
                    refine .step (.fa rfl F_api_Entry_P Z_api_Path) (by decide) ?_
                    refine .step (.lds rfl (.i 2 rfl) A_api_Path Z_api_Path (api_Entry.s_P _)) (by decide) ?_
                    refine .step (.eqA (EQ_api_Path _ _) G_api_Path rfl rfl (by decide)) (by decide) ?_
                    refine .step (.mv rfl) (by decide) ?_
                    refine .splitb 125 rfl (fun hb18 => ?_) (fun hb18 => ?_)
                    · replace H := cond_t hb18 H
                      refine .stepg rfl (.mv rfl) (by decide) ?_
                      refine .stepg rfl (.eql rfl rfl) (by decide) ?_
                      refine .step (.pk_t rfl rfl) (by decide) ?_
                      refine .nil (.then_n (.cond rfl (fun hc25 => ?_) (fun hc25 => ?_)))
                      · replace H := cond_t hc25 H
                        refine .region (?_)
                        refine .step (.mv rfl) (by decide) ?_
                        refine .step (.add rfl rfl) (by decide) ?_
                        refine .step (.as rfl) (by decide) ?_
                        refine .nil (.blk_n (.then_n (.region (?_))))
                        refine .step (.add rfl rfl) (by decide) ?_
                        refine .step (.mv rfl) (by decide) ?_
                        refine .nil (.then_n (?_))
                        exact .again ⟨fl9, ((IntKind.wrap .i64 (s16_9 + 1)), (IntKind.wrap .i64 (s117_9 + 1)))⟩ H (Nat.lt_succ_self _) (.cons _ (.refl _)) (.cons rfl (.cons rfl (.cons rfl (.cons rfl (.cons rfl (.cons rfl (.cons rfl (.cons rfl (.cons rfl (.cons rfl (.cons rfl (.cons rfl (.cons rfl .nil)))))))))))))
                      · replace H := cond_f hc25 H
                        refine .skip (.blk_n (.then_n (.region (?_))))
                        refine .step (.add rfl rfl) (by decide) ?_
                        refine .step (.mv rfl) (by decide) ?_
                        refine .nil (.then_n (?_))
                        exact .again ⟨fl9, (s16_9, (IntKind.wrap .i64 (s117_9 + 1)))⟩ H (Nat.lt_succ_self _) (.cons _ (.refl _)) (.cons rfl (.cons rfl (.cons rfl (.cons rfl (.cons rfl (.cons rfl (.cons rfl (.cons rfl (.cons rfl (.cons rfl (.cons rfl (.cons rfl (.cons rfl .nil)))))))))))))
                    · replace H := cond_f hb18 H
                      refine .pass rfl rfl (by decide) ?_
                      refine .pass rfl rfl (by decide) ?_
                      refine .step (.pk_f rfl rfl) (by decide) ?_
                      refine .nil (.then_n (.cond_f rfl ?_))
                      refine .skip (.blk_n (.then_n (.region (?_))))
                      refine .step (.add rfl rfl) (by decide) ?_
                      refine .step (.mv rfl) (by decide) ?_
                      refine .nil (.then_n (?_))
                      exact .again ⟨fl9, (s16_9, (IntKind.wrap .i64 (s117_9 + 1)))⟩ H (Nat.lt_succ_self _) (.cons _ (.refl _)) (.cons rfl (.cons rfl (.cons rfl (.cons rfl (.cons rfl (.cons rfl (.cons rfl (.cons rfl (.cons rfl (.cons rfl (.cons rfl (.cons rfl (.cons rfl .nil)))))))))))))
                  · replace H := cond_f hc24 H
                    refine .exit (.then_x (.then_x (.blk_x (.then_n (.seq (.region (?_)))))))
                    refine .step (.mv rfl) (by decide) ?_
                    refine .step (.neq rfl rfl) (by decide) ?_
                    refine .nil (.then_n (.cond rfl (fun hc26 => ?_) (fun hc26 => ?_)))
                    · replace H := cond_t hc26 H
                      refine .seq (.region (?_))
                      refine .step (.as rfl) (by decide) ?_
                      cases H
                      exact .nil (.then_n (.ret (.blk_r (.then_r (.then_r (.blk_r (.then_r (.ret1 [] (by simp) rfl rfl ⟨rfl, rfl⟩))))))))
                    · replace H := cond_f hc26 H
                      refine .skip (.blk_n (.then_n (.region (?_))))
                      refine .step (.add rfl rfl) (by decide) ?_
                      refine .step (.mv rfl) (by decide) ?_
                      refine .nil (.then_n (?_))
                      exact .again ⟨fl1, ((IntKind.wrap .i64 (s9_1 + 1)), (IntKind.wrap .i64 (s39_1 + 1)))⟩ H (Nat.lt_succ_self _) (.cons _ (.cons _ (.refl _))) (.cons rfl (.cons rfl (.cons rfl (.cons rfl (.cons rfl (.cons rfl (.cons rfl .nil)))))))
      · replace H := cond_f hb1 H
        refine .pass rfl rfl (by decide) ?_
        refine .pass rfl rfl (by decide) ?_
        refine .pass rfl rfl (by decide) ?_
        refine .pass rfl rfl (by decide) ?_
        refine .pass rfl rfl (by decide) ?_
        refine .passu rfl rfl (by decide) ?_
        refine .passu rfl rfl (by decide) ?_
        refine .passu rfl rfl (by decide) ?_
        refine .passu rfl rfl (by decide) ?_
        refine .pass rfl rfl (by decide) ?_
        refine .step (.pk_f rfl rfl) (by decide) ?_
        refine .step (.as rfl) (by decide) ?_
        refine .nil (.then_n (.seq (.seq (.region (?_)))))
        refine .step (.mv rfl) (by decide) ?_
        refine .step (.mv rfl) (by decide) ?_
        refine .step (.eqlB Q_bool rfl rfl) (by decide) ?_
        refine .step (.mv rfl) (by decide) ?_
        refine .splitb 67 rfl (fun hb19 => ?_) (fun hb19 => ?_)
        · replace H := cond_t hb19 H
          refine .pass rfl rfl (by decide) ?_
          refine .pass rfl rfl (by decide) ?_
          refine .passu rfl rfl (by decide) ?_
          refine .passu rfl rfl (by decide) ?_
          refine .passu rfl rfl (by decide) ?_
          refine .pass rfl rfl (by decide) ?_
          refine .step (.pk_t rfl rfl) (by decide) ?_
          refine .nil (.then_n (.cond_t rfl ?_))
          refine .seq (.region (?_))
          refine .step (.as rfl) (by decide) ?_
          cases H
          exact .nil (.then_n (.ret (.then_r (.blk_r (.then_r (.then_r (.blk_r (.then_r (.ret1 [] (by simp) rfl rfl ⟨rfl, rfl⟩)))))))))
        · replace H := cond_f hb19 H
          refine .stepg rfl (.mv rfl) (by decide) ?_
          refine .stepg rfl (.mv rfl) (by decide) ?_
          refine .splitb 69 rfl (fun hb20 => ?_) (fun hb20 => ?_)
          · replace H := cond_t hb20 H
            refine .stepg rfl (.ldA rfl (.i 0 rfl) A_api_Entry Z_api_Entry (api_Entry.size _)) (by decide) ?_
            refine .stepg rfl (.ldA rfl (.i 1 rfl) A_api_Entry Z_api_Entry (api_Entry.size _)) (by decide) ?_
            refine .stepg rfl (.neA (EQ_api_Entry _ _) G_api_Entry rfl rfl (by decide)) (by decide) ?_
            refine .stepg rfl (.pk_t rfl rfl) (by decide) ?_
            refine .step (.pk_f rfl rfl) (by decide) ?_
            refine .nil (.then_n (.cond rfl (fun hc27 => ?_) (fun hc27 => ?_)))
            · replace H := cond_t hc27 H
              refine .seq (.region (?_))
              refine .step (.as rfl) (by decide) ?_
              cases H
              exact .nil (.then_n (.ret (.then_r (.blk_r (.then_r (.then_r (.blk_r (.then_r (.ret1 [] (by simp) rfl rfl ⟨rfl, rfl⟩)))))))))
            · replace H := cond_f hc27 H
              refine .skip (.then_n (.seq (.seq (.region (?_)))))
              refine .step (.mv rfl) (by decide) ?_
              refine .step (.not rfl) (by decide) ?_
              refine .nil (.then_n (.cond_t rfl ?_))
              refine .exit (.then_x (.blk_x (.then_n (.region (?_)))))
              refine .step (.add rfl rfl) (by decide) ?_
              refine .step (.mv rfl) (by decide) ?_
              refine .nil (.then_n (?_))
              exact .again ⟨fl1, (s9_1, (IntKind.wrap .i64 (s39_1 + 1)))⟩ H (Nat.lt_succ_self _) (.cons _ (.cons _ (.refl _))) (.cons rfl (.cons rfl (.cons rfl (.cons rfl (.cons rfl (.cons rfl (.cons rfl .nil)))))))
          · replace H := cond_f hb20 H
            refine .pass rfl rfl (by decide) ?_
            refine .pass rfl rfl (by decide) ?_
            refine .pass rfl rfl (by decide) ?_
            refine .stepg rfl (.pk_f rfl rfl) (by decide) ?_
            refine .step (.pk_f rfl rfl) (by decide) ?_
            refine .nil (.then_n (.cond_f rfl ?_))
            refine .skip (.then_n (.seq (.seq (.region (?_)))))
            refine .step (.mv rfl) (by decide) ?_
            refine .step (.not rfl) (by decide) ?_
            refine .nil (.then_n (.cond_t rfl ?_))
            refine .exit (.then_x (.blk_x (.then_n (.region (?_)))))
            refine .step (.add rfl rfl) (by decide) ?_
            refine .step (.mv rfl) (by decide) ?_
            refine .nil (.then_n (?_))
            exact .again ⟨fl1, (s9_1, (IntKind.wrap .i64 (s39_1 + 1)))⟩ H (Nat.lt_succ_self _) (.cons _ (.cons _ (.refl _))) (.cons rfl (.cons rfl (.cons rfl (.cons rfl (.cons rfl (.cons rfl (.cons rfl .nil)))))))
    · replace H := cond_f hc2 H
      refine .exit (.then_x (.then_x (.blk_x (.then_n (.seq (.region (?_)))))))
      refine .step (.fa rfl F_tear_Torn_Out Z_sl_api_Hop) (by decide) ?_
      refine .step (.ld1 (v := slv k_o_36_Out (x4.1).length c_o_36_Out) rfl (.i 0 rfl) A_sl_api_Hop (tear_Torn.g_Out _)) (by decide) ?_
      refine .step (.len L_sl_api_Hop rfl) (by decide) ?_
      refine .step (.fa rfl F_tear_Torn_Lost Z_sl_api_Path) (by decide) ?_
      refine .step (.ld1 (v := slv k_o_36_Lost (x4.2.1).length c_o_36_Lost) rfl (.i 0 rfl) A_sl_api_Path (tear_Torn.g_Lost _)) (by decide) ?_
      refine .step (.len L_sl_api_Path rfl) (by decide) ?_
      refine .step (.add rfl rfl) (by decide) ?_
      refine .step (.mv rfl) (by decide) ?_
      refine .step (.eql rfl rfl) (by decide) ?_
      refine .step (.mv rfl) (by decide) ?_
      refine .splitb 144 rfl (fun hb21 => ?_) (fun hb21 => ?_)
      · replace H := cond_t hb21 H
        refine .stepg rfl (.mv rfl) (by decide) ?_
        refine .stepg rfl (.mv rfl) (by decide) ?_
        refine .gd rfl ?_
        obtain ⟨x15, hx15, H⟩ := bind_s H
        refine .call0 rfl E_table_Table_Via rfl rfl (fun w hm hf => W_table_Table_Via x4.2.2.1 x4.2.2.2 a1 _ _ _ hx15 w (Kn.at (.i 3 rfl) hm hf) (Kn.at (.i 4 rfl) hm hf)) (by decide) fun v nm hR => ?_
        obtain ⟨k_o_147, c_o_147, r_o_147, rfl, rfl, ho_o_147⟩ := hR
        refine .stepg rfl (.len L_sl_api_Entry rfl) (by decide) ?_
        refine .stepg rfl (.eql rfl rfl) (by decide) ?_
        refine .step (.pk_t rfl rfl) (by decide) ?_
        refine .step (.as rfl) (by decide) ?_
        cases H
        exact .nil (.then_n (.ret (.ret1 [] (by simp) rfl rfl ⟨rfl, rfl⟩)))
      · replace H := cond_f hb21 H
        refine .pass rfl rfl (by decide) ?_
        refine .pass rfl rfl (by decide) ?_
        refine .pass rfl rfl (by decide) ?_
        refine .pass rfl rfl (by decide) ?_
        refine .pass rfl rfl (by decide) ?_
        refine .step (.pk_f rfl rfl) (by decide) ?_
        refine .step (.as rfl) (by decide) ?_
        cases H
        exact .nil (.then_n (.ret (.ret1 [] (by simp) rfl rfl ⟨rfl, rfl⟩)))

end Go.Fx
