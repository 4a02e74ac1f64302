/- Packages tear, annuletref15 and annuletref04: paths taken away. -/
import Derived.Test.YtpkdekhmjjcljaaGreatFxRouteA15z
import Derived.Test.YtpkdekhmjjcljaaGreatFxZ
namespace Go.Fx
set_option maxRecDepth 10000
def F_frame_Plain_Drop (a0 : frame_Drop) : Option (api_Frame) :=
  some (api_Frame.mk 5 a0.P false Idn.zero Idn.zero 0 (api_Num.mk 0 0) (api_Num.mk 0 0) (Slv.mk none 0 0) (Slv.mk none 0 0) (api_Item.mk Idn.zero (api_Ver.mk 0 Idn.zero) (Slv.mk none 0 0)) 0 0 (Slv.mk none 0 0))
theorem W_frame_Plain_Drop (a0 : frame_Drop) (r : api_Frame) (H : F_frame_Plain_Drop a0 = some r) (w : World) :
    Calls PG f_frame_Plain #[.iface T_frame_Drop (.agg (frame_Drop.enc a0))] w (Ret w [] (fun v nm => v = .agg (api_Frame.enc r) ∧ nm = [])) := by
  unfold F_frame_Plain_Drop at H
  refine enter0 (n := 157) (args := [.iface T_frame_Drop (.agg (frame_Drop.enc a0))]) B_frame_Plain rfl rfl (by simp) ?_
  refine .seq (.region (?_))
  refine .alloc N_api_Frame rfl (by decide) fun b2 hb2 => ?_
  refine .nil (.then_n (.seq (.seq (.region (?_)))))
  refine .step (.mv rfl) (by decide) ?_
  refine .nil (.then_n (.block (.seq (.region (?_)))))
  refine .step (.tasF (by kernel_rfl) N_frame_Hello (by decide) rfl) (by decide) ?_
  refine .step (.xt rfl rfl) (by decide) ?_
  refine .step (.xt rfl rfl) (by decide) ?_
  refine .nil (.then_n (.cond_f rfl ?_))
  refine .seq (.region (?_))
  refine .step (.tasF (by kernel_rfl) N_frame_Data (by decide) rfl) (by decide) ?_
  refine .step (.xt rfl rfl) (by decide) ?_
  refine .step (.xt rfl rfl) (by decide) ?_
  refine .nil (.then_n (.cond_f rfl ?_))
  refine .seq (.region (?_))
  refine .step (.tasF (by kernel_rfl) N_frame_Ack (by decide) rfl) (by decide) ?_
  refine .step (.xt rfl rfl) (by decide) ?_
  refine .step (.xt rfl rfl) (by decide) ?_
  refine .nil (.then_n (.cond_f rfl ?_))
  refine .seq (.region (?_))
  refine .step (.tasF (by kernel_rfl) N_frame_Setup (by decide) rfl) (by decide) ?_
  refine .step (.xt rfl rfl) (by decide) ?_
  refine .step (.xt rfl rfl) (by decide) ?_
  refine .nil (.then_n (.cond_f rfl ?_))
  refine .seq (.region (?_))
  refine .step (.tasT (by kernel_rfl) rfl) (by decide) ?_
  refine .step (.xt rfl rfl) (by decide) ?_
  refine .step (.xt rfl rfl) (by decide) ?_
  refine .nil (.then_n (.cond_t rfl ?_))
  refine .seq (.region (?_))
  refine .alloc N_frame_Drop rfl (by decide) fun b7 hb7 => ?_
  refine .storeA 0 rfl rfl rfl rfl Z_frame_Drop (frame_Drop.size _) (frame_Drop.one _) (frame_Drop.size _) ?_
  refine .nil (.then_n (.seq (.region (?_))))
  refine .step (.fa rfl F_frame_Drop_P Z_api_Path) (by decide) ?_
  refine .step (.lds rfl (.i 0 rfl) A_api_Path Z_api_Path (frame_Drop.s_P _)) (by decide) ?_
  refine .step (.bdS rfl N_api_Frame rfl W_api_Frame (.cons rfl rfl (le_of (api_Frame.size _) (by decide)) (api_Frame.u_Kind _ _) (.cons rfl (api_Path.size _) (le_of (api_Frame.size _) (by decide)) (api_Frame.u_P _ _) (.nil)))) (by decide) ?_
  refine .storeA 1 rfl rfl rfl rfl Z_api_Frame (api_Frame.size _) (api_Frame.one _) (api_Frame.size _) ?_
  cases H
  exact .nil (.then_n (.ret (.blk_r (.then_r (.retR1 [] (by simp) rfl (.ce rfl (.i 1 rfl) A_api_Frame Z_api_Frame (api_Frame.size _)) ⟨rfl, rfl⟩)))))

def F_table_Table_Get (_a0_most : Int) (a0_m : MS api_Path api_Entry) (a1 : api_Path) : Option (api_Entry × Bool) :=
  some (((MS.get a0_m a1).getD api_Entry.zero), ((MS.get a0_m a1).isSome))
theorem W_table_Table_Get (a0_most : Int) (a0_m : MS api_Path api_Entry) (a1 : api_Path) (b_a0 : Nat) (b_a0_m : Nat) (r : api_Entry × Bool) (H : F_table_Table_Get a0_most a0_m a1 = some r) (w : World) (hB_b_a0 : w.heap[b_a0]? = some (.cells (table_Table.enc (table_Table.mk a0_most (.map (some b_a0_m)))) T_table_Table (0, 0))) (hB_b_a0_m : w.heap[b_a0_m]? = some (MS.obj (vA api_Path.enc) (vA api_Entry.enc) a0_m)) :
    Calls PG f_table_Table_Get #[.pointer (some ⟨b_a0, 0, none⟩), .agg (api_Path.enc a1)] w (Ret w [] (fun v nm => v = .tuple #[.agg (api_Entry.enc r.1), .bool (r.2)] ∧ nm = [])) := by
  unfold F_table_Table_Get at H
  refine enter0 (n := 22) (args := [.pointer (some ⟨b_a0, 0, none⟩), .agg (api_Path.enc a1)]) B_table_Table_Get rfl rfl (by simp) ?_
  refine .seq (.region (?_))
  refine .box rfl rfl (by decide) fun b3 hb3 => ?_
  refine .alloc N_api_Entry rfl (by decide) fun b4 hb4 => ?_
  refine .step (.as rfl) (by decide) ?_
  refine .nil (.then_n (.seq (.seq (.region (?_)))))
  refine .step (.mv rfl) (by decide) ?_
  refine .step (.eqPtr P_pt_table_Table rfl rfl (by simp)) (by decide) ?_
  refine .nil (.then_n (.cond_f rfl ?_))
  refine .skip (.then_n (.seq (.drawsI [0, 1] rfl rfl ?_)))
  refine .first [0, 1, 2, 3, 4, 5, 6, 7, 8] 3 rfl (by kernel_rfl) (by kernel_rfl) ?_
  refine .s_step rfl rfl rfl (.mv rfl) (by decide) ?_
  refine .s_step rfl rfl rfl (.nc rfl) (by decide) ?_
  refine .s_step rfl rfl rfl (.fa rfl F_table_Table_m Z_map_api_Path_api_Entry) (by decide) ?_
  refine .s_step rfl rfl rfl (.ld1 rfl (.o hB_b_a0 (by simp)) A_map_api_Path_api_Entry (table_Table.g_m _)) (by decide) ?_
  refine .s_step rfl rfl rfl (.ldA rfl (.i 1 rfl) A_api_Path Z_api_Path (api_Path.size _)) (by decide) ?_
  refine .s_step rfl rfl rfl (.lkOkS M_map_api_Path_api_Entry U_api_Path KO_api_Path N_api_Entry (.o hB_b_a0_m (by simp)) rfl rfl) (by decide) ?_
  refine .s_step rfl rfl rfl (.mv rfl) (by decide) ?_
  refine .s_step rfl rfl rfl (.xt rfl rfl) (by decide) ?_
  refine .s_step rfl rfl rfl (.xt rfl rfl) (by decide) ?_
  refine .s_nil ?_
  refine .only (i := 9) (.refl _) (by kernel_rfl) rfl ?_
  refine .alloc N_api_Entry rfl (by decide) fun b6 hb6 => ?_
  refine .nil (.then_n ?_)
  refine .only (i := 10) (.cons _ (.refl _)) (by kernel_rfl) rfl ?_
  refine .storeA 0 rfl rfl rfl rfl Z_api_Entry (api_Entry.size _) (api_Entry.one _) (api_Entry.size _) ?_
  refine .nil (.then_n ?_)
  refine .first [11] 0 rfl (by kernel_rfl) (by kernel_rfl) ?_
  refine .s_step rfl rfl rfl (.as rfl) (by decide) ?_
  refine .s_nil ?_
  refine .done (.cons _ (.refl _)) (by kernel_rfl) ?_
  refine .then_n (.seq (.region (?_)))
  refine .step (.ldA rfl (.i 0 rfl) A_api_Entry Z_api_Entry (api_Entry.size _)) (by decide) ?_
  refine .step (.mv rfl) (by decide) ?_
  refine .storeA 1 rfl rfl rfl rfl Z_api_Entry (api_Entry.size _) (api_Entry.one _) (api_Entry.size _) ?_
  refine .step (.as rfl) (by decide) ?_
  cases H
  exact .nil (.then_n (.ret (.retR2 [] (by simp) rfl (.ce rfl (.i 1 rfl) A_api_Entry Z_api_Entry (api_Entry.size _)) (.tm rfl) ⟨rfl, rfl⟩)))

def F_table_Table_Remove (a0_most : Int) (a0_m : MS api_Path api_Entry) (a1 : api_Path) : Option (api_Entry × Bool × Int × (MS api_Path api_Entry)) :=
  (F_table_Table_Get a0_most a0_m a1).bind fun x1 => cond x1.2 (some (x1.1, x1.2, a0_most, (MS.del a0_m a1))) (some (x1.1, x1.2, a0_most, a0_m))
theorem W_table_Table_Remove (a0_most : Int) (a0_m : MS api_Path api_Entry) (a1 : api_Path) (b_a0 : Nat) (b_a0_m : Nat) (r : api_Entry × Bool × Int × (MS api_Path api_Entry)) (H : F_table_Table_Remove a0_most a0_m a1 = some r) (w : World) (hM : Mem [(some b_a0, .cells (table_Table.enc (table_Table.mk a0_most (.map (some b_a0_m)))) T_table_Table (0, 0)), (some b_a0_m, MS.obj (vA api_Path.enc) (vA api_Entry.enc) a0_m)] w) (hA : List.Pairwise Apart [(some b_a0, .cells (table_Table.enc (table_Table.mk a0_most (.map (some b_a0_m)))) T_table_Table (0, 0)), (some b_a0_m, MS.obj (vA api_Path.enc) (vA api_Entry.enc) a0_m)]) :
    Calls PG f_table_Table_Remove #[.pointer (some ⟨b_a0, 0, none⟩), .agg (api_Path.enc a1)] w (Ret w (keysH [(some b_a0, .cells (table_Table.enc (table_Table.mk a0_most (.map (some b_a0_m)))) T_table_Table (0, 0)), (some b_a0_m, MS.obj (vA api_Path.enc) (vA api_Entry.enc) a0_m)]) (fun v nm => v = .tuple #[.agg (api_Entry.enc r.1), .bool (r.2.1)] ∧ nm = [(some b_a0, .cells (table_Table.enc (table_Table.mk r.2.2.1 (.map (some b_a0_m)))) T_table_Table (0, 0)), (some b_a0_m, MS.obj (vA api_Path.enc) (vA api_Entry.enc) r.2.2.2)])) := by
  unfold F_table_Table_Remove at H
  refine enter (n := 22) (args := [.pointer (some ⟨b_a0, 0, none⟩), .agg (api_Path.enc a1)]) [(some b_a0, .cells (table_Table.enc (table_Table.mk a0_most (.map (some b_a0_m)))) T_table_Table (0, 0)), (some b_a0_m, MS.obj (vA api_Path.enc) (vA api_Entry.enc) a0_m)] B_table_Table_Remove rfl rfl (by simp) hM hA keysH_mem ?_
  refine .seq (.region (?_))
  refine .box rfl rfl (by decide) fun b3 hb3 => ?_
  refine .alloc N_api_Entry rfl (by decide) fun b4 hb4 => ?_
  refine .step (.as rfl) (by decide) ?_
  refine .nil (.then_n (.seq (.region (?_))))
  refine .step (.mv rfl) (by decide) ?_
  refine .step (.ldA rfl (.i 1 rfl) A_api_Path Z_api_Path (api_Path.size _)) (by decide) ?_
  obtain ⟨x1, hx1, H⟩ := bind_s H
  refine .callQ (v := .tuple #[.agg (api_Entry.enc x1.1), .bool (x1.2)]) rfl E_table_Table_Get rfl rfl (fun w hm hf => W_table_Table_Get a0_most a0_m a1 _ _ _ hx1 w (Kn.at (.i 2 rfl) hm hf) (Kn.at (.i 3 rfl) hm hf)) (by decide) ?_
  refine .step (.mv rfl) (by decide) ?_
  refine .step (.xt rfl rfl) (by decide) ?_
  refine .step (.xt rfl rfl) (by decide) ?_
  refine .alloc N_api_Entry rfl (by decide) fun b6 hb6 => ?_
  refine .storeA 0 rfl rfl rfl rfl Z_api_Entry (api_Entry.size _) (api_Entry.one _) (api_Entry.size _) ?_
  refine .step (.as rfl) (by decide) ?_
  refine .nil (.then_n (.seq (.seq (.region (?_)))))
  refine .step (.mv rfl) (by decide) ?_
  refine .nil (.then_n (.cond rfl (fun hc1 => ?_) (fun hc1 => ?_)))
  · replace H := cond_t hc1 H
    refine .drawsI [0, 1, 2, 3] rfl rfl ?_
    refine .first [0, 1, 2, 3, 4] 1 rfl (by kernel_rfl) (by kernel_rfl) ?_
    refine .s_step rfl rfl rfl (.mv rfl) (by decide) ?_
    refine .s_step rfl rfl rfl (.nc rfl) (by decide) ?_
    refine .s_step rfl rfl rfl (.fa rfl F_table_Table_m Z_map_api_Path_api_Entry) (by decide) ?_
    refine .s_step rfl rfl rfl (.ld1 rfl (.i 3 rfl) A_map_api_Path_api_Entry (table_Table.g_m _)) (by decide) ?_
    refine .s_step rfl rfl rfl (.ldA rfl (.i 2 rfl) A_api_Path Z_api_Path (api_Path.size _)) (by decide) ?_
    refine .s_nil ?_
    refine .only (i := 5) (.cons_cons _ (.cons_cons _ (.cons_cons _ (.cons_cons _ (.cons _ (.slnil)))))) (by kernel_rfl) rfl ?_
    refine .dlS 4 M_map_api_Path_api_Entry U_api_Path KO_api_Path rfl rfl rfl ?_
    refine .nil (.then_n ?_)
    refine .done (.cons_cons _ (.cons_cons _ (.cons_cons _ (.cons_cons _ (.cons _ (.slnil)))))) (by kernel_rfl) ?_
    refine .then_n (.seq (.region (?_)))
    refine .step (.ldA rfl (.i 0 rfl) A_api_Entry Z_api_Entry (api_Entry.size _)) (by decide) ?_
    refine .step (.mv rfl) (by decide) ?_
    refine .storeA 1 rfl rfl rfl rfl Z_api_Entry (api_Entry.size _) (api_Entry.one _) (api_Entry.size _) ?_
    refine .step (.as rfl) (by decide) ?_
    refine .sel [3, 4, 1] (by decide) rfl ?_
    cases H
    exact .nil (.then_n (.ret (.retR2 [_, _] (.cons_cons _ (.cons_cons _ (.cons _ (.slnil)))) rfl (.ce rfl (.i 2 rfl) A_api_Entry Z_api_Entry (api_Entry.size _)) (.tm rfl) ⟨rfl, rfl⟩)))
  · replace H := cond_f hc1 H
    refine .skip (.then_n (.seq (.region (?_))))
    refine .step (.ldA rfl (.i 0 rfl) A_api_Entry Z_api_Entry (api_Entry.size _)) (by decide) ?_
    refine .step (.mv rfl) (by decide) ?_
    refine .storeA 1 rfl rfl rfl rfl Z_api_Entry (api_Entry.size _) (api_Entry.one _) (api_Entry.size _) ?_
    refine .step (.as rfl) (by decide) ?_
    refine .sel [3, 4, 1] (by decide) rfl ?_
    cases H
    exact .nil (.then_n (.ret (.retR2 [_, _] (.cons_cons _ (.cons_cons _ (.cons _ (.slnil)))) rfl (.ce rfl (.i 2 rfl) A_api_Entry Z_api_Entry (api_Entry.size _)) (.tm rfl) ⟨rfl, rfl⟩)))

def F_table_Table_Len (_a0_most : Int) (a0_m : MS api_Path api_Entry) : Option (Int) :=
  some (((MS.len a0_m) : Nat) : Int)
theorem W_table_Table_Len (a0_most : Int) (a0_m : MS api_Path api_Entry) (b_a0 : Nat) (b_a0_m : Nat) (r : Int) (H : F_table_Table_Len a0_most a0_m = some r) (w : World) (hB_b_a0 : w.heap[b_a0]? = some (.cells (table_Table.enc (table_Table.mk a0_most (.map (some b_a0_m)))) T_table_Table (0, 0))) (hB_b_a0_m : w.heap[b_a0_m]? = some (MS.obj (vA api_Path.enc) (vA api_Entry.enc) a0_m)) :
    Calls PG f_table_Table_Len #[.pointer (some ⟨b_a0, 0, none⟩)] w (Ret w [] (fun v nm => v = .int .i64 (r) ∧ nm = [])) := by
  unfold F_table_Table_Len at H
  refine enter0 (n := 10) (args := [.pointer (some ⟨b_a0, 0, none⟩)]) B_table_Table_Len rfl rfl (by simp) ?_
  refine .seq (.region (?_))
  refine .step (.as rfl) (by decide) ?_
  refine .nil (.then_n (.seq (.seq (.region (?_)))))
  refine .step (.mv rfl) (by decide) ?_
  refine .step (.eqPtr P_pt_table_Table rfl rfl (by simp)) (by decide) ?_
  refine .nil (.then_n (.cond_f rfl ?_))
  refine .skip (.then_n (.seq (.region (?_))))
  refine .step (.mv rfl) (by decide) ?_
  refine .step (.nc rfl) (by decide) ?_
  refine .step (.fa rfl F_table_Table_m Z_map_api_Path_api_Entry) (by decide) ?_
  refine .step (.ld1 rfl (.o hB_b_a0 (by simp)) A_map_api_Path_api_Entry (table_Table.g_m _)) (by decide) ?_
  refine .step (.lenM (ke := vA api_Path.enc) (encV := api_Entry.enc) M_map_api_Path_api_Entry (.o hB_b_a0_m (by simp)) rfl) (by decide) ?_
  refine .step (.as rfl) (by decide) ?_
  cases H
  exact .nil (.then_n (.ret (.ret1 [] (by simp) rfl rfl ⟨rfl, rfl⟩)))

def F_table_Table_Via_f1 (a0 : api_Entry) (a1 : Int) : Option (Bool) :=
  cond (decide (0 ≤ a1)) (cond (decide (a0.Na = a1)) (some true) (some (decide (a0.Nb = a1)))) (some false)
theorem W_table_Table_Via_f1 (a0 : api_Entry) (a1 : Int) (b_a1 : Nat) (r : Bool) (H : F_table_Table_Via_f1 a0 a1 = some r) (w : World) (hB_b_a1 : w.heap[b_a1]? = some (.cells #[.int .i64 (a1)] T_int (0, 0))) :
    Calls PG f_table_Table_Via_f1 #[.agg (api_Entry.enc a0), .pointer (some ⟨b_a1, 0, none⟩)] w (Ret w [] (fun v nm => v = .bool (r) ∧ nm = [])) := by
  unfold F_table_Table_Via_f1 at H
  refine enter0 (n := 18) (args := [.agg (api_Entry.enc a0), .pointer (some ⟨b_a1, 0, none⟩)]) B_table_Table_Via_f1 rfl rfl (by simp) ?_
  refine .seq (.region (?_))
  refine .box rfl rfl (by decide) fun b2 hb2 => ?_
  refine .step (.as rfl) (by decide) ?_
  refine .nil (.then_n (.seq (.region (?_))))
  refine .step (.ld1 rfl (.o hB_b_a1 (by simp)) A_int rfl) (by decide) ?_
  refine .step (.geq rfl rfl) (by decide) ?_
  refine .step (.mv rfl) (by decide) ?_
  refine .splitb 6 rfl (fun hb1 => ?_) (fun hb1 => ?_)
  · replace H := cond_t hb1 H
    refine .stepg rfl (.fa rfl F_api_Entry_Na Z_int) (by decide) ?_
    refine .stepg rfl (.ld1 rfl (.i 0 rfl) A_int (api_Entry.g_Na _)) (by decide) ?_
    refine .stepg rfl (.ld1 rfl (.o hB_b_a1 (by simp)) A_int rfl) (by decide) ?_
    refine .stepg rfl (.eql rfl rfl) (by decide) ?_
    refine .stepg rfl (.mv rfl) (by decide) ?_
    refine .splitb 11 rfl (fun hb2 => ?_) (fun hb2 => ?_)
    · replace H := cond_t hb2 H
      refine .pass rfl rfl (by decide) ?_
      refine .pass rfl rfl (by decide) ?_
      refine .pass rfl rfl (by decide) ?_
      refine .pass rfl rfl (by decide) ?_
      refine .stepg rfl (.pk_t rfl rfl) (by decide) ?_
      refine .step (.pk_t rfl rfl) (by decide) ?_
      refine .step (.as rfl) (by decide) ?_
      cases H
      exact .nil (.then_n (.ret (.ret1 [] (by simp) rfl rfl ⟨rfl, rfl⟩)))
    · replace H := cond_f hb2 H
      refine .stepg rfl (.fa rfl F_api_Entry_Nb Z_int) (by decide) ?_
      refine .stepg rfl (.ld1 rfl (.i 0 rfl) A_int (api_Entry.g_Nb _)) (by decide) ?_
      refine .stepg rfl (.ld1 rfl (.o hB_b_a1 (by simp)) A_int rfl) (by decide) ?_
      refine .stepg rfl (.eql rfl rfl) (by decide) ?_
      refine .stepg rfl (.pk_f rfl rfl) (by decide) ?_
      refine .step (.pk_t rfl rfl) (by decide) ?_
      refine .step (.as rfl) (by decide) ?_
      cases H
      exact .nil (.then_n (.ret (.ret1 [] (by simp) rfl rfl ⟨rfl, rfl⟩)))
  · replace H := cond_f hb1 H
    refine .pass rfl rfl (by decide) ?_
    refine .pass rfl rfl (by decide) ?_
    refine .pass rfl rfl (by decide) ?_
    refine .pass rfl rfl (by decide) ?_
    refine .pass rfl rfl (by decide) ?_
    refine .passu rfl rfl (by decide) ?_
    refine .passu rfl rfl (by decide) ?_
    refine .passu rfl rfl (by decide) ?_
    refine .passu rfl rfl (by decide) ?_
    refine .pass rfl rfl (by decide) ?_
    refine .step (.pk_f rfl rfl) (by decide) ?_
    refine .step (.as rfl) (by decide) ?_
    cases H
    exact .nil (.then_n (.ret (.ret1 [] (by simp) rfl rfl ⟨rfl, rfl⟩)))

def F_table_Table_Via (a0_most : Int) (a0_m : MS api_Path api_Entry) (a1 : Int) : Option (List api_Entry) :=
  (F_table_Table_of a0_most a0_m (fun y0 => F_table_Table_Via_f1 y0 a1)).bind fun x1 => some x1
theorem W_table_Table_Via (a0_most : Int) (a0_m : MS api_Path api_Entry) (a1 : Int) (b_a0 : Nat) (b_a0_m : Nat) (r : List api_Entry) (H : F_table_Table_Via a0_most a0_m a1 = some r) (w : World) (hB_b_a0 : w.heap[b_a0]? = some (.cells (table_Table.enc (table_Table.mk a0_most (.map (some b_a0_m)))) T_table_Table (0, 0))) (hB_b_a0_m : w.heap[b_a0_m]? = some (MS.obj (vA api_Path.enc) (vA api_Entry.enc) a0_m)) :
    Calls PG f_table_Table_Via #[.pointer (some ⟨b_a0, 0, none⟩), .int .i64 (a1)] w (Ret w [] (fun v nm => ∃ (k_o_q0 : Option Nat) (c_o_q0 : Nat) (r_o_q0 : Array Value), v = slv k_o_q0 (r).length c_o_q0 ∧ nm = [(k_o_q0, .cells (catA ((r).map api_Entry.enc) ++ r_o_q0) T_api_Entry (0, 0))] ∧ OwnS 51 k_o_q0 (r).length c_o_q0 r_o_q0)) := by
  unfold F_table_Table_Via at H
  refine enter0 (n := 8) (args := [.pointer (some ⟨b_a0, 0, none⟩), .int .i64 (a1)]) B_table_Table_Via rfl rfl (by simp) ?_
  refine .seq (.region (?_))
  refine .box rfl rfl (by decide) fun b3 hb3 => ?_
  refine .step (.as rfl) (by decide) ?_
  refine .nil (.then_n (.seq (.region (?_))))
  refine .step (.mv rfl) (by decide) ?_
  refine .step (.mf rfl rfl) (by decide) ?_
  obtain ⟨x1, hx1, H⟩ := bind_s H
  refine .call0 rfl E_table_Table_of rfl rfl (fun w hm hf => W_table_Table_of a0_most a0_m (fun y0 => F_table_Table_Via_f1 y0 a1) _ _ _ _ _ hx1 w (Kn.at (.o hB_b_a0 (by simp)) hm hf) (Kn.at (.o hB_b_a0_m (by simp)) hm hf) E_table_Table_Via_f1 (fun y0 r hx w' hf' => W_table_Table_Via_f1 y0 a1 _ _ hx w' (Fr.keep hf' (Kn.at (.i 0 rfl) hm hf)))) (by decide) fun v nm hR => ?_
  obtain ⟨k_o_7, c_o_7, r_o_7, rfl, rfl, ho_o_7⟩ := hR
  refine .step (.as rfl) (by decide) ?_
  cases H
  exact .nil (.then_n (.ret (.ret1 [_] (.cons_cons _ (.cons _ (.slnil))) rfl rfl ⟨k_o_7, c_o_7, r_o_7, rfl, rfl, ho_o_7⟩)))

def F_tear_Torn_hop (a0_Out : List api_Hop) (a0_Lost : List api_Path) (a1 : Int) (a2 : api_Path) : Option ((List api_Hop) × (List api_Path)) :=
  cond (decide (0 ≤ a1)) ((F_frame_Plain_Drop (frame_Drop.mk a2)).bind fun x1 => (appG a0_Out ([(api_Hop.mk a1 x1)] : List api_Hop)).bind fun x2 => some (x2, a0_Lost)) ((appG a0_Lost ([a2] : List api_Path)).bind fun x3 => some (a0_Out, x3))
theorem W_tear_Torn_hop (a0_Out : List api_Hop) (a0_Lost : List api_Path) (a1 : Int) (a2 : api_Path) (b_a0 : Nat) (k_o_a0_Out : Option Nat) (c_o_a0_Out : Nat) (r_o_a0_Out : Array Value) (k_o_a0_Lost : Option Nat) (c_o_a0_Lost : Nat) (r_o_a0_Lost : Array Value) (r : (List api_Hop) × (List api_Path)) (H : F_tear_Torn_hop a0_Out a0_Lost a1 a2 = some r) (w : World) (hM : Mem [(some b_a0, .cells (tear_Torn.enc (tear_Torn.mk (slS k_o_a0_Out (a0_Out).length c_o_a0_Out) (slS k_o_a0_Lost (a0_Lost).length c_o_a0_Lost))) T_tear_Torn (0, 0)), (k_o_a0_Out, .cells (catA ((a0_Out).map api_Hop.enc) ++ r_o_a0_Out) T_api_Hop (0, 0)), (k_o_a0_Lost, .cells (catA ((a0_Lost).map api_Path.enc) ++ r_o_a0_Lost) T_api_Path (0, 0))] w) (hA : List.Pairwise Apart [(some b_a0, .cells (tear_Torn.enc (tear_Torn.mk (slS k_o_a0_Out (a0_Out).length c_o_a0_Out) (slS k_o_a0_Lost (a0_Lost).length c_o_a0_Lost))) T_tear_Torn (0, 0)), (k_o_a0_Out, .cells (catA ((a0_Out).map api_Hop.enc) ++ r_o_a0_Out) T_api_Hop (0, 0)), (k_o_a0_Lost, .cells (catA ((a0_Lost).map api_Path.enc) ++ r_o_a0_Lost) T_api_Path (0, 0))]) (ho_o_a0_Out : OwnS 96 k_o_a0_Out (a0_Out).length c_o_a0_Out r_o_a0_Out) (ho_o_a0_Lost : OwnS 17 k_o_a0_Lost (a0_Lost).length c_o_a0_Lost r_o_a0_Lost) :
    Calls PG f_tear_Torn_hop #[.pointer (some ⟨b_a0, 0, none⟩), .int .i64 (a1), .agg (api_Path.enc a2)] w (Ret w (keysH [(some b_a0, .cells (tear_Torn.enc (tear_Torn.mk (slS k_o_a0_Out (a0_Out).length c_o_a0_Out) (slS k_o_a0_Lost (a0_Lost).length c_o_a0_Lost))) T_tear_Torn (0, 0)), (k_o_a0_Out, .cells (catA ((a0_Out).map api_Hop.enc) ++ r_o_a0_Out) T_api_Hop (0, 0)), (k_o_a0_Lost, .cells (catA ((a0_Lost).map api_Path.enc) ++ r_o_a0_Lost) T_api_Path (0, 0))]) (fun v nm => ∃ (k_o_m0_Out : Option Nat) (c_o_m0_Out : Nat) (r_o_m0_Out : Array Value) (k_o_m0_Lost : Option Nat) (c_o_m0_Lost : Nat) (r_o_m0_Lost : Array Value), v = .tuple #[] ∧ nm = [(some b_a0, .cells (tear_Torn.enc (tear_Torn.mk (slS k_o_m0_Out (r.1).length c_o_m0_Out) (slS k_o_m0_Lost (r.2).length c_o_m0_Lost))) T_tear_Torn (0, 0)), (k_o_m0_Out, .cells (catA ((r.1).map api_Hop.enc) ++ r_o_m0_Out) T_api_Hop (0, 0)), (k_o_m0_Lost, .cells (catA ((r.2).map api_Path.enc) ++ r_o_m0_Lost) T_api_Path (0, 0))] ∧ OwnS 96 k_o_m0_Out (r.1).length c_o_m0_Out r_o_m0_Out ∧ OwnS 17 k_o_m0_Lost (r.2).length c_o_m0_Lost r_o_m0_Lost)) := by
  unfold F_tear_Torn_hop at H
  refine enter (n := 33) (args := [.pointer (some ⟨b_a0, 0, none⟩), .int .i64 (a1), .agg (api_Path.enc a2)]) [(some b_a0, .cells (tear_Torn.enc (tear_Torn.mk (slS k_o_a0_Out (a0_Out).length c_o_a0_Out) (slS k_o_a0_Lost (a0_Lost).length c_o_a0_Lost))) T_tear_Torn (0, 0)), (k_o_a0_Out, .cells (catA ((a0_Out).map api_Hop.enc) ++ r_o_a0_Out) T_api_Hop (0, 0)), (k_o_a0_Lost, .cells (catA ((a0_Lost).map api_Path.enc) ++ r_o_a0_Lost) T_api_Path (0, 0))] B_tear_Torn_hop rfl rfl (by simp) hM hA keysH_mem ?_
  refine .seq (.region (?_))
  refine .box rfl rfl (by decide) fun b5 hb5 => ?_
  refine .nil (.then_n (.seq (.region (?_))))
  refine .step (.mv rfl) (by decide) ?_
  refine .step (.geq rfl rfl) (by decide) ?_
  refine .nil (.then_n (.cond rfl (fun hc1 => ?_) (fun hc1 => ?_)))
  · replace H := cond_t hc1 H
    refine .drawsI [0, 3] rfl rfl ?_
    refine .first [0, 1, 2, 3, 5, 6, 7, 8] 8 rfl (by kernel_rfl) (by kernel_rfl) ?_
    refine .s_step rfl rfl rfl (.mv rfl) (by decide) ?_
    refine .s_step rfl rfl rfl (.mv rfl) (by decide) ?_
    refine .s_step rfl rfl rfl (.nc rfl) (by decide) ?_
    refine .s_step rfl rfl rfl (.fa rfl F_tear_Torn_Out Z_sl_api_Hop) (by decide) ?_
    refine .s_step rfl rfl rfl (.mv rfl) (by decide) ?_
    refine .s_step rfl rfl rfl (.ldA rfl (.i 0 rfl) A_api_Path Z_api_Path (api_Path.size _)) (by decide) ?_
    refine .s_step rfl rfl rfl (.bdS rfl N_frame_Drop rfl W_frame_Drop (.cons rfl (api_Path.size _) (le_of (frame_Drop.size _) (by decide)) (frame_Drop.u_P _ _) (.nil))) (by decide) ?_
    refine .s_step rfl rfl rfl (.mkI (by kernel_rfl) rfl) (by decide) ?_
    refine .s_nil ?_
    obtain ⟨x1, hx1, H⟩ := bind_s H
    refine .flock [(4, .con 12 _), (9, .con 17 _), (10, .con 18 _), (11, .res 19 _)] 4 (.cons_cons _ (.cons _ (.cons _ (.refl _)))) rfl (by kernel_rfl) ⟨⟨_, rfl, .val (.ld1 (v := slv k_o_a0_Out (a0_Out).length c_o_a0_Out) rfl (.i 1 rfl) A_sl_api_Hop (tear_Torn.g_Out _)) (by decide)⟩, ⟨_, rfl, .callQ rfl E_frame_Plain rfl rfl (fun w hm hf => W_frame_Plain_Drop (frame_Drop.mk a2)  _ hx1 w ) (by decide)⟩, ⟨_, rfl, .val (.bdS rfl N_api_Hop rfl W_api_Hop (.cons rfl rfl (le_of (api_Hop.size _) (by decide)) (api_Hop.u_N _ _) (.cons rfl (api_Frame.size _) (le_of (api_Hop.size _) (by decide)) (api_Hop.u_F _ _) (.nil)))) (by decide)⟩, ⟨_, rfl, .bsL (vs := [.agg (api_Hop.enc (api_Hop.mk a1 x1))]) (c := catA (([(api_Hop.mk a1 x1)] : List api_Hop).map api_Hop.enc) ++ #[]) (len := 1) L_sl_api_Hop Z_api_Hop N_api_Hop rfl rfl (by intro v hv; simp only [List.mem_cons, List.not_mem_nil, or_false] at hv; subst hv; exact api_Hop.size _) (by rw [Array.append_empty]; rfl) (by decide) (by decide) (by decide)⟩, trivial⟩ (fun v19 nm19 hR19 => (?_ : St _ _ _ _ _ _))
    obtain ⟨b19, hb19, rfl, rfl⟩ := hR19
    have hob19 : OwnS 96 (some b19) (([(api_Hop.mk a1 x1)] : List api_Hop)).length 1 #[] := ⟨rfl, Nat.le_refl _, fun h => by cases h⟩
    refine .lst (l' := #[true, true, true, true, true, true, true, true, true, true, true, true, false, false, false, false]) (by kernel_rfl) ?_
    refine .only (i := 12) (.cons _ (.cons_cons _ (.cons _ (.cons _ (.refl _))))) (by kernel_rfl) rfl ?_
    obtain ⟨x2, hx2, H⟩ := bind_s H
    refine .appX 3 api_Hop.size ho_o_a0_Out (.own 0 api_Hop.size rfl hob19) hx2 rfl rfl rfl L_sl_api_Hop Z_api_Hop Y_api_Hop N_api_Hop (api_Hop.size _) (by decide) (by decide) (fun a _ => api_Hop.one a) (by decide) fun k_q1 c_q1 r_q1 ho_q1 => ?_
    refine .nil (.then_n ?_)
    refine .first [13, 14] 1 rfl (by kernel_rfl) (by kernel_rfl) ?_
    refine .s_step rfl rfl rfl (.nc rfl) (by decide) ?_
    refine .s_step rfl rfl rfl (.fa rfl F_tear_Torn_Out Z_sl_api_Hop) (by decide) ?_
    refine .s_nil ?_
    refine .only (i := 15) (.cons _ (.cons_cons _ (.cons _ (.cons _ (.refl _))))) (by kernel_rfl) rfl ?_
    refine .store (c' := tear_Torn.enc (tear_Torn.mk (slS k_q1 (x2).length c_q1) (slS k_o_a0_Lost (a0_Lost).length c_o_a0_Lost))) 2 rfl rfl rfl rfl Z_sl_api_Hop (rfl) (Ones.single rfl) (by show _ ≤ (tear_Torn.enc _).size; rw [tear_Torn.size]; decide) (tear_Torn.u_Out _ (slS k_q1 (x2).length c_q1)) ?_
    refine .nil (.then_n ?_)
    refine .done (.cons _ (.cons_cons _ (.cons _ (.cons _ (.refl _))))) (by kernel_rfl) ?_
    cases H
    exact .end0 [_, _, _] (.cons _ (.cons _ (.refl _))) rfl ⟨k_q1, c_q1, r_q1, k_o_a0_Lost, c_o_a0_Lost, r_o_a0_Lost, rfl, rfl, ho_q1, ho_o_a0_Lost⟩
  · replace H := cond_f hc1 H
    refine .drawsI [0, 2] rfl rfl ?_
    refine .first [0, 1, 2, 3, 5] 6 rfl (by kernel_rfl) (by kernel_rfl) ?_
    refine .s_step rfl rfl rfl (.mv rfl) (by decide) ?_
    refine .s_step rfl rfl rfl (.mv rfl) (by decide) ?_
    refine .s_step rfl rfl rfl (.nc rfl) (by decide) ?_
    refine .s_step rfl rfl rfl (.fa rfl F_tear_Torn_Lost Z_sl_api_Path) (by decide) ?_
    refine .s_step rfl rfl rfl (.ldA rfl (.i 0 rfl) A_api_Path Z_api_Path (api_Path.size _)) (by decide) ?_
    refine .s_nil ?_
    refine .flock [(4, .con 27 _), (6, .res 29 _)] 4 (.cons_cons _ (.cons _ (.cons_cons _ (.cons _ (.slnil))))) rfl (by kernel_rfl) ⟨⟨_, rfl, .val (.ld1 (v := slv k_o_a0_Lost (a0_Lost).length c_o_a0_Lost) rfl (.i 1 rfl) A_sl_api_Path (tear_Torn.g_Lost _)) (by decide)⟩, ⟨_, rfl, .bsL (vs := [.agg (api_Path.enc a2)]) (c := catA (([a2] : List api_Path).map api_Path.enc) ++ #[]) (len := 1) L_sl_api_Path Z_api_Path N_api_Path rfl rfl (by intro v hv; simp only [List.mem_cons, List.not_mem_nil, or_false] at hv; subst hv; exact api_Path.size _) (by rw [Array.append_empty]; rfl) (by decide) (by decide) (by decide)⟩, trivial⟩ (fun v29 nm29 hR29 => (?_ : St _ _ _ _ _ _))
    obtain ⟨b29, hb29, rfl, rfl⟩ := hR29
    have hob29 : OwnS 17 (some b29) (([a2] : List api_Path)).length 1 #[] := ⟨rfl, Nat.le_refl _, fun h => by cases h⟩
    refine .lst (l' := #[true, true, true, true, true, true, true, false, false, false, false]) (by kernel_rfl) ?_
    refine .only (i := 7) (.cons _ (.cons_cons _ (.cons _ (.cons_cons _ (.cons _ (.slnil)))))) (by kernel_rfl) rfl ?_
    obtain ⟨x3, hx3, H⟩ := bind_s H
    refine .appX 4 api_Path.size ho_o_a0_Lost (.own 0 api_Path.size rfl hob29) hx3 rfl rfl rfl L_sl_api_Path Z_api_Path Y_api_Path N_api_Path (api_Path.size _) (by decide) (by decide) (fun a _ => api_Path.one a) (by decide) fun k_q2 c_q2 r_q2 ho_q2 => ?_
    refine .nil (.then_n ?_)
    refine .first [8, 9] 1 rfl (by kernel_rfl) (by kernel_rfl) ?_
    refine .s_step rfl rfl rfl (.nc rfl) (by decide) ?_
    refine .s_step rfl rfl rfl (.fa rfl F_tear_Torn_Lost Z_sl_api_Path) (by decide) ?_
    refine .s_nil ?_
    refine .only (i := 10) (.cons _ (.cons_cons _ (.cons _ (.cons_cons _ (.cons _ (.slnil)))))) (by kernel_rfl) rfl ?_
    refine .store (c' := tear_Torn.enc (tear_Torn.mk (slS k_o_a0_Out (a0_Out).length c_o_a0_Out) (slS k_q2 (x3).length c_q2))) 2 rfl rfl rfl rfl Z_sl_api_Path (rfl) (Ones.single rfl) (by show _ ≤ (tear_Torn.enc _).size; rw [tear_Torn.size]; decide) (tear_Torn.u_Lost _ (slS k_q2 (x3).length c_q2)) ?_
    refine .nil (.then_n ?_)
    refine .done (.cons _ (.cons_cons _ (.cons _ (.cons_cons _ (.cons _ (.slnil)))))) (by kernel_rfl) ?_
    cases H
    exact .end0 [_, _, _] (.cons _ (.cons _ (.refl _))) rfl ⟨k_o_a0_Out, c_o_a0_Out, r_o_a0_Out, k_q2, c_q2, r_q2, rfl, rfl, ho_o_a0_Out, ho_q2⟩

def F_tear_Drop (a0_most : Int) (a0_m : MS api_Path api_Entry) (a1 : Int) (a2 : api_Path) : Option ((List api_Hop) × (List api_Path) × Int × (MS api_Path api_Entry)) :=
  (F_table_Table_Get a0_most a0_m a2).bind fun x1 => cond (!x1.2) (some (([] : List api_Hop), ([] : List api_Path), a0_most, a0_m)) (cond (decide (a1 < 0)) (some (([] : List api_Hop), ([] : List api_Path), a0_most, a0_m)) (cond (!decide (x1.1.Na = a1)) (cond (!decide (x1.1.Nb = a1)) (some (([] : List api_Hop), ([] : List api_Path), a0_most, a0_m)) ((F_table_Table_Remove a0_most a0_m a2).bind fun x2 => cond (decide (x1.1.Na = a1)) ((F_tear_Torn_hop ([] : List api_Hop) ([] : List api_Path) x1.1.Nb a2).bind fun x3 => some (x3.1, x3.2, x2.2.2.1, x2.2.2.2)) ((F_tear_Torn_hop ([] : List api_Hop) ([] : List api_Path) x1.1.Na a2).bind fun x4 => some (x4.1, x4.2, x2.2.2.1, x2.2.2.2)))) ((F_table_Table_Remove a0_most a0_m a2).bind fun x5 => cond (decide (x1.1.Na = a1)) ((F_tear_Torn_hop ([] : List api_Hop) ([] : List api_Path) x1.1.Nb a2).bind fun x6 => some (x6.1, x6.2, x5.2.2.1, x5.2.2.2)) ((F_tear_Torn_hop ([] : List api_Hop) ([] : List api_Path) x1.1.Na a2).bind fun x7 => some (x7.1, x7.2, x5.2.2.1, x5.2.2.2)))))
theorem W_tear_Drop (a0_most : Int) (a0_m : MS api_Path api_Entry) (a1 : Int) (a2 : api_Path) (b_a0 : Nat) (b_a0_m : Nat) (r : (List api_Hop) × (List api_Path) × Int × (MS api_Path api_Entry)) (H : F_tear_Drop a0_most a0_m a1 a2 = some r) (w : World) (hM : Mem [(some b_a0, .cells (table_Table.enc (table_Table.mk a0_most (.map (some b_a0_m)))) T_table_Table (0, 0)), (some b_a0_m, MS.obj (vA api_Path.enc) (vA api_Entry.enc) a0_m)] w) (hA : List.Pairwise Apart [(some b_a0, .cells (table_Table.enc (table_Table.mk a0_most (.map (some b_a0_m)))) T_table_Table (0, 0)), (some b_a0_m, MS.obj (vA api_Path.enc) (vA api_Entry.enc) a0_m)]) :
    Calls PG f_tear_Drop #[.pointer (some ⟨b_a0, 0, none⟩), .int .i64 (a1), .agg (api_Path.enc a2)] w (Ret w (keysH [(some b_a0, .cells (table_Table.enc (table_Table.mk a0_most (.map (some b_a0_m)))) T_table_Table (0, 0)), (some b_a0_m, MS.obj (vA api_Path.enc) (vA api_Entry.enc) a0_m)]) (fun v nm => ∃ (k_o_q0_Out : Option Nat) (c_o_q0_Out : Nat) (r_o_q0_Out : Array Value) (k_o_q0_Lost : Option Nat) (c_o_q0_Lost : Nat) (r_o_q0_Lost : Array Value), v = .agg (tear_Torn.enc (tear_Torn.mk (slS k_o_q0_Out (r.1).length c_o_q0_Out) (slS k_o_q0_Lost (r.2.1).length c_o_q0_Lost))) ∧ nm = [(k_o_q0_Out, .cells (catA ((r.1).map api_Hop.enc) ++ r_o_q0_Out) T_api_Hop (0, 0)), (k_o_q0_Lost, .cells (catA ((r.2.1).map api_Path.enc) ++ r_o_q0_Lost) T_api_Path (0, 0)), (some b_a0, .cells (table_Table.enc (table_Table.mk r.2.2.1 (.map (some b_a0_m)))) T_table_Table (0, 0)), (some b_a0_m, MS.obj (vA api_Path.enc) (vA api_Entry.enc) r.2.2.2)] ∧ OwnS 96 k_o_q0_Out (r.1).length c_o_q0_Out r_o_q0_Out ∧ OwnS 17 k_o_q0_Lost (r.2.1).length c_o_q0_Lost r_o_q0_Lost)) := by
  unfold F_tear_Drop at H
  refine enter (n := 51) (args := [.pointer (some ⟨b_a0, 0, none⟩), .int .i64 (a1), .agg (api_Path.enc a2)]) [(some b_a0, .cells (table_Table.enc (table_Table.mk a0_most (.map (some b_a0_m)))) T_table_Table (0, 0)), (some b_a0_m, MS.obj (vA api_Path.enc) (vA api_Entry.enc) a0_m)] B_tear_Drop rfl rfl (by simp) hM hA keysH_mem ?_
  refine .seq (.region (?_))
  refine .box rfl rfl (by decide) fun b5 hb5 => ?_
  refine .alloc N_tear_Torn rfl (by decide) fun b6 hb6 => ?_
  refine .nil (.then_n (.seq (.region (?_))))
  refine .alloc N_tear_Torn rfl (by decide) fun b7 hb7 => ?_
  refine .nil (.then_n (.seq (.region (?_))))
  refine .step (.mv rfl) (by decide) ?_
  refine .step (.ldA rfl (.i 2 rfl) A_api_Path Z_api_Path (api_Path.size _)) (by decide) ?_
  obtain ⟨x1, hx1, H⟩ := bind_s H
  refine .callQ (v := .tuple #[.agg (api_Entry.enc x1.1), .bool (x1.2)]) rfl E_table_Table_Get rfl rfl (fun w hm hf => W_table_Table_Get a0_most a0_m a2 _ _ _ hx1 w (Kn.at (.i 3 rfl) hm hf) (Kn.at (.i 4 rfl) hm hf)) (by decide) ?_
  refine .step (.mv rfl) (by decide) ?_
  refine .step (.xt rfl rfl) (by decide) ?_
  refine .step (.xt rfl rfl) (by decide) ?_
  refine .alloc N_api_Entry rfl (by decide) fun b8 hb8 => ?_
  refine .storeA 0 rfl rfl rfl rfl Z_api_Entry (api_Entry.size _) (api_Entry.one _) (api_Entry.size _) ?_
  refine .step (.as rfl) (by decide) ?_
  refine .nil (.then_n (.seq (.seq (.region (?_)))))
  refine .step (.mv rfl) (by decide) ?_
  refine .step (.not rfl) (by decide) ?_
  refine .step (.mv rfl) (by decide) ?_
  refine .splitb 18 rfl (fun hb1 => ?_) (fun hb1 => ?_)
  · replace H := cond_t hb1 H
    refine .pass rfl rfl (by decide) ?_
    refine .pass rfl rfl (by decide) ?_
    refine .step (.pk_t rfl rfl) (by decide) ?_
    refine .step (.mv rfl) (by decide) ?_
    refine .pass rfl rfl (by decide) ?_
    refine .pass rfl rfl (by decide) ?_
    refine .pass rfl rfl (by decide) ?_
    refine .pass rfl rfl (by decide) ?_
    refine .pass rfl rfl (by decide) ?_
    refine .passu rfl rfl (by decide) ?_
    refine .passu rfl rfl (by decide) ?_
    refine .passu rfl rfl (by decide) ?_
    refine .passu rfl rfl (by decide) ?_
    refine .pass rfl rfl (by decide) ?_
    refine .step (.pk_t rfl rfl) (by decide) ?_
    refine .nil (.then_n (.cond_t rfl ?_))
    refine .seq (.region (?_))
    refine .step (.ldA rfl (.i 1 rfl) A_tear_Torn Z_tear_Torn (tear_Torn.size _)) (by decide) ?_
    refine .storeA 2 rfl rfl rfl rfl Z_tear_Torn (tear_Torn.size _) (tear_Torn.one _) (tear_Torn.size _) ?_
    refine .non (o := .cells (catA (([] : List api_Hop).map api_Hop.enc) ++ #[]) T_api_Hop (0, 0)) ?_
    refine .non (o := .cells (catA (([] : List api_Path).map api_Path.enc) ++ #[]) T_api_Path (0, 0)) ?_
    refine .sel [1, 0, 6, 7, 4] (by decide) rfl ?_
    cases H
    exact .nil (.then_n (.ret (.then_r (.retR1 [_, _, _, _] (.cons_cons _ (.cons_cons _ (.cons_cons _ (.cons_cons _ (.cons _ (.slnil)))))) rfl (.ce rfl (.i 4 rfl) A_tear_Torn Z_tear_Torn (tear_Torn.size _)) ⟨none, 0, #[], none, 0, #[], rfl, rfl, ⟨rfl, Nat.le_refl _, fun _ => rfl⟩, ⟨rfl, Nat.le_refl _, fun _ => rfl⟩⟩))))
  · replace H := cond_f hb1 H
    refine .stepg rfl (.mv rfl) (by decide) ?_
    refine .stepg rfl (.lss rfl rfl) (by decide) ?_
    refine .step (.pk_f rfl rfl) (by decide) ?_
    refine .step (.mv rfl) (by decide) ?_
    refine .splitb 22 rfl (fun hb2 => ?_) (fun hb2 => ?_)
    · replace H := cond_t hb2 H
      refine .pass rfl rfl (by decide) ?_
      refine .pass rfl rfl (by decide) ?_
      refine .pass rfl rfl (by decide) ?_
      refine .pass rfl rfl (by decide) ?_
      refine .pass rfl rfl (by decide) ?_
      refine .passu rfl rfl (by decide) ?_
      refine .passu rfl rfl (by decide) ?_
      refine .passu rfl rfl (by decide) ?_
      refine .passu rfl rfl (by decide) ?_
      refine .pass rfl rfl (by decide) ?_
      refine .step (.pk_t rfl rfl) (by decide) ?_
      refine .nil (.then_n (.cond_t rfl ?_))
      refine .seq (.region (?_))
      refine .step (.ldA rfl (.i 1 rfl) A_tear_Torn Z_tear_Torn (tear_Torn.size _)) (by decide) ?_
      refine .storeA 2 rfl rfl rfl rfl Z_tear_Torn (tear_Torn.size _) (tear_Torn.one _) (tear_Torn.size _) ?_
      refine .non (o := .cells (catA (([] : List api_Hop).map api_Hop.enc) ++ #[]) T_api_Hop (0, 0)) ?_
      refine .non (o := .cells (catA (([] : List api_Path).map api_Path.enc) ++ #[]) T_api_Path (0, 0)) ?_
      refine .sel [1, 0, 6, 7, 4] (by decide) rfl ?_
      cases H
      exact .nil (.then_n (.ret (.then_r (.retR1 [_, _, _, _] (.cons_cons _ (.cons_cons _ (.cons_cons _ (.cons_cons _ (.cons _ (.slnil)))))) rfl (.ce rfl (.i 4 rfl) A_tear_Torn Z_tear_Torn (tear_Torn.size _)) ⟨none, 0, #[], none, 0, #[], rfl, rfl, ⟨rfl, Nat.le_refl _, fun _ => rfl⟩, ⟨rfl, Nat.le_refl _, fun _ => rfl⟩⟩))))
    · replace H := cond_f hb2 H
      refine .stepg rfl (.fa rfl F_api_Entry_Na Z_int) (by decide) ?_
      refine .stepg rfl (.ld1 rfl (.i 0 rfl) A_int (api_Entry.g_Na _)) (by decide) ?_
      refine .stepg rfl (.mv rfl) (by decide) ?_
      refine .stepg rfl (.neq rfl rfl) (by decide) ?_
      refine .stepg rfl (.mv rfl) (by decide) ?_
      refine .splitb 27 rfl (fun hb3 => ?_) (fun hb3 => ?_)
      · replace H := cond_t hb3 H
        refine .stepg rfl (.fa rfl F_api_Entry_Nb Z_int) (by decide) ?_
        refine .stepg rfl (.ld1 rfl (.i 0 rfl) A_int (api_Entry.g_Nb _)) (by decide) ?_
        refine .stepg rfl (.mv rfl) (by decide) ?_
        refine .stepg rfl (.neq rfl rfl) (by decide) ?_
        refine .stepg rfl (.pk_t rfl rfl) (by decide) ?_
        refine .step (.pk_f rfl rfl) (by decide) ?_
        refine .nil (.then_n (.cond rfl (fun hc1 => ?_) (fun hc1 => ?_)))
        · replace H := cond_t hc1 H
          refine .seq (.region (?_))
          refine .step (.ldA rfl (.i 1 rfl) A_tear_Torn Z_tear_Torn (tear_Torn.size _)) (by decide) ?_
          refine .storeA 2 rfl rfl rfl rfl Z_tear_Torn (tear_Torn.size _) (tear_Torn.one _) (tear_Torn.size _) ?_
          refine .non (o := .cells (catA (([] : List api_Hop).map api_Hop.enc) ++ #[]) T_api_Hop (0, 0)) ?_
          refine .non (o := .cells (catA (([] : List api_Path).map api_Path.enc) ++ #[]) T_api_Path (0, 0)) ?_
          refine .sel [1, 0, 6, 7, 4] (by decide) rfl ?_
          cases H
          exact .nil (.then_n (.ret (.then_r (.retR1 [_, _, _, _] (.cons_cons _ (.cons_cons _ (.cons_cons _ (.cons_cons _ (.cons _ (.slnil)))))) rfl (.ce rfl (.i 4 rfl) A_tear_Torn Z_tear_Torn (tear_Torn.size _)) ⟨none, 0, #[], none, 0, #[], rfl, rfl, ⟨rfl, Nat.le_refl _, fun _ => rfl⟩, ⟨rfl, Nat.le_refl _, fun _ => rfl⟩⟩))))
        · replace H := cond_f hc1 H
          refine .skip (.then_n (.seq (.region (?_))))
          refine .step (.mv rfl) (by decide) ?_
          refine .step (.ldA rfl (.i 3 rfl) A_api_Path Z_api_Path (api_Path.size _)) (by decide) ?_
          obtain ⟨x2, hx2, H⟩ := bind_s H
          refine .sel [4, 5, 0, 1, 2, 3] (by decide) rfl ?_
          refine .callM (dst := some 37) 2 rfl E_table_Table_Remove rfl rfl (fun w hh => W_table_Table_Remove a0_most a0_m a2 _ _ _ hx2 w hh.pk hh.pa ) (fun d hd => by cases hd; decide) fun v nm hR => ?_
          obtain ⟨rfl, rfl⟩ := hR
          refine .nil (.then_n (.seq (.seq (.region (?_)))))
          refine .step (.fa rfl F_api_Entry_Na Z_int) (by decide) ?_
          refine .step (.ld1 rfl (.i 2 rfl) A_int (api_Entry.g_Na _)) (by decide) ?_
          refine .step (.mv rfl) (by decide) ?_
          refine .step (.eql rfl rfl) (by decide) ?_
          refine .nil (.then_n (.cond rfl (fun hc2 => ?_) (fun hc2 => ?_)))
          · replace H := cond_t hc2 H
            refine .region (?_)
            refine .step (.fa rfl F_api_Entry_Nb Z_int) (by decide) ?_
            refine .step (.ld1 rfl (.i 2 rfl) A_int (api_Entry.g_Nb _)) (by decide) ?_
            refine .step (.ldA rfl (.i 5 rfl) A_api_Path Z_api_Path (api_Path.size _)) (by decide) ?_
            refine .non (o := .cells (catA (([] : List api_Hop).map api_Hop.enc) ++ #[]) T_api_Hop (0, 0)) ?_
            refine .non (o := .cells (catA (([] : List api_Path).map api_Path.enc) ++ #[]) T_api_Path (0, 0)) ?_
            obtain ⟨x3, hx3, H⟩ := bind_s H
            refine .sel [5, 1, 0, 2, 3, 4, 6, 7] (by decide) rfl ?_
            refine .callM (dst := some 45) 3 rfl E_tear_Torn_hop rfl rfl (fun w hh => W_tear_Torn_hop ([] : List api_Hop) ([] : List api_Path) x1.1.Nb a2 _ _ _ _ _ _ _ _ hx3 w hh.pk hh.pa ⟨rfl, Nat.le_refl _, fun _ => rfl⟩ ⟨rfl, Nat.le_refl _, fun _ => rfl⟩) (fun d hd => by cases hd; decide) fun v nm hR => ?_
            obtain ⟨k_o_45_w0_Out, c_o_45_w0_Out, r_o_45_w0_Out, k_o_45_w0_Lost, c_o_45_w0_Lost, r_o_45_w0_Lost, rfl, rfl, ho_o_45_w0_Out, ho_o_45_w0_Lost⟩ := hR
            refine .nil (.then_n (.seq (.region (?_))))
            refine .step (.ldA rfl (.i 0 rfl) A_tear_Torn Z_tear_Torn (tear_Torn.size _)) (by decide) ?_
            refine .storeA 6 rfl rfl rfl rfl Z_tear_Torn (tear_Torn.size _) (tear_Torn.one _) (tear_Torn.size _) ?_
            refine .sel [1, 2, 3, 4, 6] (by decide) rfl ?_
            cases H
            exact .nil (.then_n (.ret (.retR1 [_, _, _, _] (.cons_cons _ (.cons_cons _ (.cons_cons _ (.cons_cons _ (.cons _ (.slnil)))))) rfl (.ce rfl (.i 4 rfl) A_tear_Torn Z_tear_Torn (tear_Torn.size _)) ⟨k_o_45_w0_Out, c_o_45_w0_Out, r_o_45_w0_Out, k_o_45_w0_Lost, c_o_45_w0_Lost, r_o_45_w0_Lost, rfl, rfl, ho_o_45_w0_Out, ho_o_45_w0_Lost⟩)))
          · replace H := cond_f hc2 H
            refine .region (?_)
            refine .step (.fa rfl F_api_Entry_Na Z_int) (by decide) ?_
            refine .step (.ld1 rfl (.i 2 rfl) A_int (api_Entry.g_Na _)) (by decide) ?_
            refine .step (.ldA rfl (.i 5 rfl) A_api_Path Z_api_Path (api_Path.size _)) (by decide) ?_
            refine .non (o := .cells (catA (([] : List api_Hop).map api_Hop.enc) ++ #[]) T_api_Hop (0, 0)) ?_
            refine .non (o := .cells (catA (([] : List api_Path).map api_Path.enc) ++ #[]) T_api_Path (0, 0)) ?_
            obtain ⟨x4, hx4, H⟩ := bind_s H
            refine .sel [5, 1, 0, 2, 3, 4, 6, 7] (by decide) rfl ?_
            refine .callM (dst := some 49) 3 rfl E_tear_Torn_hop rfl rfl (fun w hh => W_tear_Torn_hop ([] : List api_Hop) ([] : List api_Path) x1.1.Na a2 _ _ _ _ _ _ _ _ hx4 w hh.pk hh.pa ⟨rfl, Nat.le_refl _, fun _ => rfl⟩ ⟨rfl, Nat.le_refl _, fun _ => rfl⟩) (fun d hd => by cases hd; decide) fun v nm hR => ?_
            obtain ⟨k_o_49_w0_Out, c_o_49_w0_Out, r_o_49_w0_Out, k_o_49_w0_Lost, c_o_49_w0_Lost, r_o_49_w0_Lost, rfl, rfl, ho_o_49_w0_Out, ho_o_49_w0_Lost⟩ := hR
            refine .nil (.then_n (.seq (.region (?_))))
            refine .step (.ldA rfl (.i 0 rfl) A_tear_Torn Z_tear_Torn (tear_Torn.size _)) (by decide) ?_
            refine .storeA 6 rfl rfl rfl rfl Z_tear_Torn (tear_Torn.size _) (tear_Torn.one _) (tear_Torn.size _) ?_
            refine .sel [1, 2, 3, 4, 6] (by decide) rfl ?_
            cases H
            exact .nil (.then_n (.ret (.retR1 [_, _, _, _] (.cons_cons _ (.cons_cons _ (.cons_cons _ (.cons_cons _ (.cons _ (.slnil)))))) rfl (.ce rfl (.i 4 rfl) A_tear_Torn Z_tear_Torn (tear_Torn.size _)) ⟨k_o_49_w0_Out, c_o_49_w0_Out, r_o_49_w0_Out, k_o_49_w0_Lost, c_o_49_w0_Lost, r_o_49_w0_Lost, rfl, rfl, ho_o_49_w0_Out, ho_o_49_w0_Lost⟩)))
      · replace H := cond_f hb3 H
        refine .pass rfl rfl (by decide) ?_
        refine .pass rfl rfl (by decide) ?_
        refine .pass rfl rfl (by decide) ?_
        refine .pass rfl rfl (by decide) ?_
        refine .stepg rfl (.pk_f rfl rfl) (by decide) ?_
        refine .step (.pk_f rfl rfl) (by decide) ?_
        refine .nil (.then_n (.cond_f rfl ?_))
        refine .skip (.then_n (.seq (.region (?_))))
        refine .step (.mv rfl) (by decide) ?_
        refine .step (.ldA rfl (.i 3 rfl) A_api_Path Z_api_Path (api_Path.size _)) (by decide) ?_
        obtain ⟨x5, hx5, H⟩ := bind_s H
        refine .sel [4, 5, 0, 1, 2, 3] (by decide) rfl ?_
        refine .callM (dst := some 37) 2 rfl E_table_Table_Remove rfl rfl (fun w hh => W_table_Table_Remove a0_most a0_m a2 _ _ _ hx5 w hh.pk hh.pa ) (fun d hd => by cases hd; decide) fun v nm hR => ?_
        obtain ⟨rfl, rfl⟩ := hR
        refine .nil (.then_n (.seq (.seq (.region (?_)))))
        refine .step (.fa rfl F_api_Entry_Na Z_int) (by decide) ?_
        refine .step (.ld1 rfl (.i 2 rfl) A_int (api_Entry.g_Na _)) (by decide) ?_
        refine .step (.mv rfl) (by decide) ?_
        refine .step (.eql rfl rfl) (by decide) ?_
        refine .nil (.then_n (.cond rfl (fun hc3 => ?_) (fun hc3 => ?_)))
        · replace H := cond_t hc3 H
          refine .region (?_)
          refine .step (.fa rfl F_api_Entry_Nb Z_int) (by decide) ?_
          refine .step (.ld1 rfl (.i 2 rfl) A_int (api_Entry.g_Nb _)) (by decide) ?_
          refine .step (.ldA rfl (.i 5 rfl) A_api_Path Z_api_Path (api_Path.size _)) (by decide) ?_
          refine .non (o := .cells (catA (([] : List api_Hop).map api_Hop.enc) ++ #[]) T_api_Hop (0, 0)) ?_
          refine .non (o := .cells (catA (([] : List api_Path).map api_Path.enc) ++ #[]) T_api_Path (0, 0)) ?_
          obtain ⟨x6, hx6, H⟩ := bind_s H
          refine .sel [5, 1, 0, 2, 3, 4, 6, 7] (by decide) rfl ?_
          refine .callM (dst := some 45) 3 rfl E_tear_Torn_hop rfl rfl (fun w hh => W_tear_Torn_hop ([] : List api_Hop) ([] : List api_Path) x1.1.Nb a2 _ _ _ _ _ _ _ _ hx6 w hh.pk hh.pa ⟨rfl, Nat.le_refl _, fun _ => rfl⟩ ⟨rfl, Nat.le_refl _, fun _ => rfl⟩) (fun d hd => by cases hd; decide) fun v nm hR => ?_
          obtain ⟨k_o_45_w0_Out, c_o_45_w0_Out, r_o_45_w0_Out, k_o_45_w0_Lost, c_o_45_w0_Lost, r_o_45_w0_Lost, rfl, rfl, ho_o_45_w0_Out, ho_o_45_w0_Lost⟩ := hR
          refine .nil (.then_n (.seq (.region (?_))))
          refine .step (.ldA rfl (.i 0 rfl) A_tear_Torn Z_tear_Torn (tear_Torn.size _)) (by decide) ?_
          refine .storeA 6 rfl rfl rfl rfl Z_tear_Torn (tear_Torn.size _) (tear_Torn.one _) (tear_Torn.size _) ?_
          refine .sel [1, 2, 3, 4, 6] (by decide) rfl ?_
          cases H
          exact .nil (.then_n (.ret (.retR1 [_, _, _, _] (.cons_cons _ (.cons_cons _ (.cons_cons _ (.cons_cons _ (.cons _ (.slnil)))))) rfl (.ce rfl (.i 4 rfl) A_tear_Torn Z_tear_Torn (tear_Torn.size _)) ⟨k_o_45_w0_Out, c_o_45_w0_Out, r_o_45_w0_Out, k_o_45_w0_Lost, c_o_45_w0_Lost, r_o_45_w0_Lost, rfl, rfl, ho_o_45_w0_Out, ho_o_45_w0_Lost⟩)))
        · replace H := cond_f hc3 H
          refine .region (?_)
          refine .step (.fa rfl F_api_Entry_Na Z_int) (by decide) ?_
          refine .step (.ld1 rfl (.i 2 rfl) A_int (api_Entry.g_Na _)) (by decide) ?_
          refine .step (.ldA rfl (.i 5 rfl) A_api_Path Z_api_Path (api_Path.size _)) (by decide) ?_
          refine .non (o := .cells (catA (([] : List api_Hop).map api_Hop.enc) ++ #[]) T_api_Hop (0, 0)) ?_
          refine .non (o := .cells (catA (([] : List api_Path).map api_Path.enc) ++ #[]) T_api_Path (0, 0)) ?_
          obtain ⟨x7, hx7, H⟩ := bind_s H
          refine .sel [5, 1, 0, 2, 3, 4, 6, 7] (by decide) rfl ?_
          refine .callM (dst := some 49) 3 rfl E_tear_Torn_hop rfl rfl (fun w hh => W_tear_Torn_hop ([] : List api_Hop) ([] : List api_Path) x1.1.Na a2 _ _ _ _ _ _ _ _ hx7 w hh.pk hh.pa ⟨rfl, Nat.le_refl _, fun _ => rfl⟩ ⟨rfl, Nat.le_refl _, fun _ => rfl⟩) (fun d hd => by cases hd; decide) fun v nm hR => ?_
          obtain ⟨k_o_49_w0_Out, c_o_49_w0_Out, r_o_49_w0_Out, k_o_49_w0_Lost, c_o_49_w0_Lost, r_o_49_w0_Lost, rfl, rfl, ho_o_49_w0_Out, ho_o_49_w0_Lost⟩ := hR
          refine .nil (.then_n (.seq (.region (?_))))
          refine .step (.ldA rfl (.i 0 rfl) A_tear_Torn Z_tear_Torn (tear_Torn.size _)) (by decide) ?_
          refine .storeA 6 rfl rfl rfl rfl Z_tear_Torn (tear_Torn.size _) (tear_Torn.one _) (tear_Torn.size _) ?_
          refine .sel [1, 2, 3, 4, 6] (by decide) rfl ?_
          cases H
          exact .nil (.then_n (.ret (.retR1 [_, _, _, _] (.cons_cons _ (.cons_cons _ (.cons_cons _ (.cons_cons _ (.cons _ (.slnil)))))) rfl (.ce rfl (.i 4 rfl) A_tear_Torn Z_tear_Torn (tear_Torn.size _)) ⟨k_o_49_w0_Out, c_o_49_w0_Out, r_o_49_w0_Out, k_o_49_w0_Lost, c_o_49_w0_Lost, r_o_49_w0_Lost, rfl, rfl, ho_o_49_w0_Out, ho_o_49_w0_Lost⟩)))

def F_tear_Dead_L1 (a1 : Int) (x1 : List api_Entry) (again1 : (List api_Path × List api_Hop × Int × MS api_Path api_Entry × Int) → Option ((List api_Hop) × (List api_Path) × Int × (MS api_Path api_Entry))) (st : List api_Path × List api_Hop × Int × MS api_Path api_Entry × Int) : Option ((List api_Hop) × (List api_Path) × Int × (MS api_Path api_Entry)) :=
  match st with | (l_n_b5_Lost_1, l_n_b5_Out_1, v_b_a0_most_1, m_b_a0_m_1, s12_1) => cond (decide (s12_1 < (((x1).length : Nat) : Int))) ((ixL x1 s12_1).bind fun x2 => (F_table_Table_Remove v_b_a0_most_1 m_b_a0_m_1 x2.P).bind fun x3 => cond (decide (x2.Na = a1)) ((F_tear_Torn_hop l_n_b5_Out_1 l_n_b5_Lost_1 x2.Nb x2.P).bind fun x4 => again1 (x4.2, x4.1, x3.2.2.1, x3.2.2.2, (IntKind.wrap .i64 (s12_1 + 1)))) ((F_tear_Torn_hop l_n_b5_Out_1 l_n_b5_Lost_1 x2.Na x2.P).bind fun x5 => again1 (x5.2, x5.1, x3.2.2.1, x3.2.2.2, (IntKind.wrap .i64 (s12_1 + 1))))) (some (l_n_b5_Out_1, l_n_b5_Lost_1, v_b_a0_most_1, m_b_a0_m_1))
def F_tear_Dead (a0_most : Int) (a0_m : MS api_Path api_Entry) (a1 : Int) : Option ((List api_Hop) × (List api_Path) × Int × (MS api_Path api_Entry)) :=
  (F_table_Table_Via a0_most a0_m a1).bind fun x1 => iter (F_tear_Dead_L1 a1 x1) FUEL (([] : List api_Path), ([] : List api_Hop), a0_most, a0_m, 0)
theorem W_tear_Dead (a0_most : Int) (a0_m : MS api_Path api_Entry) (a1 : Int) (b_a0 : Nat) (b_a0_m : Nat) (r : (List api_Hop) × (List api_Path) × Int × (MS api_Path api_Entry)) (H : F_tear_Dead a0_most a0_m a1 = some r) (w : World) (hM : Mem [(some b_a0, .cells (table_Table.enc (table_Table.mk a0_most (.map (some b_a0_m)))) T_table_Table (0, 0)), (some b_a0_m, MS.obj (vA api_Path.enc) (vA api_Entry.enc) a0_m)] w) (hA : List.Pairwise Apart [(some b_a0, .cells (table_Table.enc (table_Table.mk a0_most (.map (some b_a0_m)))) T_table_Table (0, 0)), (some b_a0_m, MS.obj (vA api_Path.enc) (vA api_Entry.enc) a0_m)]) :
    Calls PG f_tear_Dead #[.pointer (some ⟨b_a0, 0, none⟩), .int .i64 (a1)] w (Ret w (keysH [(some b_a0, .cells (table_Table.enc (table_Table.mk a0_most (.map (some b_a0_m)))) T_table_Table (0, 0)), (some b_a0_m, MS.obj (vA api_Path.enc) (vA api_Entry.enc) a0_m)]) (fun v nm => ∃ (k_o_q0_Out : Option Nat) (c_o_q0_Out : Nat) (r_o_q0_Out : Array Value) (k_o_q0_Lost : Option Nat) (c_o_q0_Lost : Nat) (r_o_q0_Lost : Array Value), v = .agg (tear_Torn.enc (tear_Torn.mk (slS k_o_q0_Out (r.1).length c_o_q0_Out) (slS k_o_q0_Lost (r.2.1).length c_o_q0_Lost))) ∧ nm = [(k_o_q0_Out, .cells (catA ((r.1).map api_Hop.enc) ++ r_o_q0_Out) T_api_Hop (0, 0)), (k_o_q0_Lost, .cells (catA ((r.2.1).map api_Path.enc) ++ r_o_q0_Lost) T_api_Path (0, 0)), (some b_a0, .cells (table_Table.enc (table_Table.mk r.2.2.1 (.map (some b_a0_m)))) T_table_Table (0, 0)), (some b_a0_m, MS.obj (vA api_Path.enc) (vA api_Entry.enc) r.2.2.2)] ∧ OwnS 96 k_o_q0_Out (r.1).length c_o_q0_Out r_o_q0_Out ∧ OwnS 17 k_o_q0_Lost (r.2.1).length c_o_q0_Lost r_o_q0_Lost)) := by
  unfold F_tear_Dead at H
  refine enter (n := 36) (args := [.pointer (some ⟨b_a0, 0, none⟩), .int .i64 (a1)]) [(some b_a0, .cells (table_Table.enc (table_Table.mk a0_most (.map (some b_a0_m)))) T_table_Table (0, 0)), (some b_a0_m, MS.obj (vA api_Path.enc) (vA api_Entry.enc) a0_m)] B_tear_Dead rfl rfl (by simp) hM hA keysH_mem ?_
  refine .seq (.region (?_))
  refine .alloc N_tear_Torn rfl (by decide) fun b4 hb4 => ?_
  refine .nil (.then_n (.seq (.region (?_))))
  refine .alloc N_tear_Torn rfl (by decide) fun b5 hb5 => ?_
  refine .nil (.then_n (.seq (.seq (.region (?_)))))
  refine .step (.mv rfl) (by decide) ?_
  refine .step (.mv rfl) (by decide) ?_
  obtain ⟨x1, hx1, H⟩ := bind_s H
  refine .call0 rfl E_table_Table_Via rfl rfl (fun w hm hf => W_table_Table_Via a0_most a0_m a1 _ _ _ hx1 w (Kn.at (.i 2 rfl) hm hf) (Kn.at (.i 3 rfl) hm hf)) (by decide) fun v nm hR => ?_
  obtain ⟨k_o_10, c_o_10, r_o_10, rfl, rfl, ho_o_10⟩ := hR
  refine .step (.len L_sl_api_Entry rfl) (by decide) ?_
  refine .step (.mv rfl) (by decide) ?_
  refine .nil (.then_n (.block (.non (o := .cells (catA (([] : List api_Hop).map api_Hop.enc) ++ #[]) T_api_Hop (0, 0)) (.non (o := .cells (catA (([] : List api_Path).map api_Path.enc) ++ #[]) T_api_Path (0, 0)) (.loop (G := Nat × (List api_Path × List api_Hop × Int × MS api_Path api_Entry × Int) × (Option Nat) × (Nat) × (Array Value) × (Option Nat) × (Nat) × (Array Value)) (fun g => iter (F_tear_Dead_L1 a1 x1) g.1 g.2.1 = some r ∧ OwnS 17 g.2.2.1 (g.2.1.1).length g.2.2.2.1 g.2.2.2.2.1 ∧ OwnS 96 g.2.2.2.2.2.1 (g.2.1.2.1).length g.2.2.2.2.2.2.1 g.2.2.2.2.2.2.2) (fun g => [(g.2.2.1, .cells (catA ((g.2.1.1).map api_Path.enc) ++ g.2.2.2.2.1) T_api_Path (0, 0)), (g.2.2.2.2.2.1, .cells (catA ((g.2.1.2.1).map api_Hop.enc) ++ g.2.2.2.2.2.2.2) T_api_Hop (0, 0)), (k_o_10, .cells (catA ((x1).map api_Entry.enc) ++ r_o_10) T_api_Entry (0, 0)), (some b5, .cells (tear_Torn.enc (tear_Torn.mk (slS g.2.2.2.2.2.1 (g.2.1.2.1).length g.2.2.2.2.2.2.1) (slS g.2.2.1 (g.2.1.1).length g.2.2.2.1))) T_tear_Torn (0, 0)), (some b4, .cells (tear_Torn.enc (tear_Torn.mk (Slv.mk none 0 0) (Slv.mk none 0 0))) T_tear_Torn (0, 0)), (some b_a0, .cells (table_Table.enc (table_Table.mk g.2.1.2.2.1 (.map (some b_a0_m)))) T_table_Table (0, 0)), (some b_a0_m, MS.obj (vA api_Path.enc) (vA api_Entry.enc) g.2.1.2.2.2.1)]) (fun g => [(0, .pointer (some ⟨b_a0, 0, none⟩)), (1, .int .i64 (a1)), (4, .pointer (some ⟨b4, 0, none⟩)), (5, .pointer (some ⟨b5, 0, none⟩)), (10, slv k_o_10 (x1).length c_o_10), (11, .int .i64 ((((x1).length : Nat) : Int))), (12, .int .i64 (g.2.1.2.2.2.2))]) (fun g => g.1) ⟨FUEL, (([] : List api_Path), ([] : List api_Hop), a0_most, a0_m, 0), none, 0, #[], none, 0, #[]⟩ ⟨H, ⟨rfl, Nat.le_refl _, fun _ => rfl⟩, ⟨rfl, Nat.le_refl _, fun _ => rfl⟩⟩ (.refl _) (.cons rfl (.cons rfl (.cons rfl (.cons rfl (.cons rfl (.cons rfl (.cons rfl .nil))))))) ?_)))))
  rintro ⟨_ | fl1, ⟨l_n_b5_Lost_1, l_n_b5_Out_1, v_b_a0_most_1, m_b_a0_m_1, s12_1⟩, k_n_b5_Lost_1, c_n_b5_Lost_1, r_n_b5_Lost_1, k_n_b5_Out_1, c_n_b5_Out_1, r_n_b5_Out_1⟩ ⟨H, ho_n_b5_Lost_1, ho_n_b5_Out_1⟩
  · exact (iter_0 H).elim
  replace H := iter_s H; rw [F_tear_Dead_L1] at H; dsimp only at H ⊢
  refine .seq (.region (?_))
  refine .step (.lss rfl rfl) (by decide) ?_
  refine .nil (.then_n (.seq (.cond rfl (fun hc1 => ?_) (fun hc1 => ?_))))
  · replace H := cond_t hc1 H
    refine .skip (.then_n (.seq (.block (.seq (.region (?_))))))
    obtain ⟨x2, hx2, H⟩ := bind_s H
    refine .step (.ixP (.own 2 api_Entry.size rfl ho_o_10) hx2 rfl rfl L_sl_api_Entry Z_api_Entry) (by decide) ?_
    refine .step (.ldP (.own 2 api_Entry.size rfl ho_o_10) hx2 rfl A_api_Entry Z_api_Entry) (by decide) ?_
    refine .alloc N_api_Entry rfl (by decide) fun b7 hb7 => ?_
    refine .storeA 0 rfl rfl rfl rfl Z_api_Entry (api_Entry.size _) (api_Entry.one _) (api_Entry.size _) ?_
    refine .nil (.then_n (.seq (.region (?_))))
    refine .step (.mv rfl) (by decide) ?_
    refine .step (.fa rfl F_api_Entry_P Z_api_Path) (by decide) ?_
    refine .step (.lds rfl (.i 0 rfl) A_api_Path Z_api_Path (api_Entry.s_P _)) (by decide) ?_
    obtain ⟨x3, hx3, H⟩ := bind_s H
    refine .sel [6, 7, 0, 1, 2, 3, 4, 5] (by decide) rfl ?_
    refine .callM (dst := some 19) 2 rfl E_table_Table_Remove rfl rfl (fun w hh => W_table_Table_Remove v_b_a0_most_1 m_b_a0_m_1 x2.P _ _ _ hx3 w hh.pk hh.pa ) (fun d hd => by cases hd; decide) fun v nm hR => ?_
    obtain ⟨rfl, rfl⟩ := hR
    refine .nil (.then_n (.seq (.region (?_))))
    refine .step (.fa rfl F_api_Entry_Na Z_int) (by decide) ?_
    refine .step (.ld1 rfl (.i 2 rfl) A_int (api_Entry.g_Na _)) (by decide) ?_
    refine .step (.mv rfl) (by decide) ?_
    refine .step (.eql rfl rfl) (by decide) ?_
    refine .nil (.then_n (.cond rfl (fun hc2 => ?_) (fun hc2 => ?_)))
    · replace H := cond_t hc2 H
      refine .region (?_)
      refine .step (.fa rfl F_api_Entry_Nb Z_int) (by decide) ?_
      refine .step (.ld1 rfl (.i 2 rfl) A_int (api_Entry.g_Nb _)) (by decide) ?_
      refine .step (.fa rfl F_api_Entry_P Z_api_Path) (by decide) ?_
      refine .step (.lds rfl (.i 2 rfl) A_api_Path Z_api_Path (api_Entry.s_P _)) (by decide) ?_
      obtain ⟨x4, hx4, H⟩ := bind_s H
      refine .sel [6, 4, 3, 0, 1, 2, 5, 7] (by decide) rfl ?_
      refine .callM (dst := some 28) 3 rfl E_tear_Torn_hop rfl rfl (fun w hh => W_tear_Torn_hop l_n_b5_Out_1 l_n_b5_Lost_1 x2.Nb x2.P _ _ _ _ _ _ _ _ hx4 w hh.pk hh.pa ho_n_b5_Out_1 ho_n_b5_Lost_1) (fun d hd => by cases hd; decide) fun v nm hR => ?_
      obtain ⟨k_o_28_w0_Out, c_o_28_w0_Out, r_o_28_w0_Out, k_o_28_w0_Lost, c_o_28_w0_Lost, r_o_28_w0_Lost, rfl, rfl, ho_o_28_w0_Out, ho_o_28_w0_Lost⟩ := hR
      refine .nil (.blk_n (.then_n (.region (?_))))
      refine .step (.add rfl rfl) (by decide) ?_
      refine .step (.mv rfl) (by decide) ?_
      refine .nil (.then_n (?_))
      refine .sel [2, 1, 6, 0, 7, 3, 4] (by decide) rfl ?_
      exact .again ⟨fl1, (x4.2, x4.1, x3.2.2.1, x3.2.2.2, (IntKind.wrap .i64 (s12_1 + 1))), k_o_28_w0_Lost, c_o_28_w0_Lost, r_o_28_w0_Lost, k_o_28_w0_Out, c_o_28_w0_Out, r_o_28_w0_Out⟩ ⟨H, ho_o_28_w0_Lost, ho_o_28_w0_Out⟩ (Nat.lt_succ_self _) (.refl _) (.cons rfl (.cons rfl (.cons rfl (.cons rfl (.cons rfl (.cons rfl (.cons rfl .nil)))))))
    · replace H := cond_f hc2 H
      refine .region (?_)
      refine .step (.fa rfl F_api_Entry_Na Z_int) (by decide) ?_
      refine .step (.ld1 rfl (.i 2 rfl) A_int (api_Entry.g_Na _)) (by decide) ?_
      refine .step (.fa rfl F_api_Entry_P Z_api_Path) (by decide) ?_
      refine .step (.lds rfl (.i 2 rfl) A_api_Path Z_api_Path (api_Entry.s_P _)) (by decide) ?_
      obtain ⟨x5, hx5, H⟩ := bind_s H
      refine .sel [6, 4, 3, 0, 1, 2, 5, 7] (by decide) rfl ?_
      refine .callM (dst := some 33) 3 rfl E_tear_Torn_hop rfl rfl (fun w hh => W_tear_Torn_hop l_n_b5_Out_1 l_n_b5_Lost_1 x2.Na x2.P _ _ _ _ _ _ _ _ hx5 w hh.pk hh.pa ho_n_b5_Out_1 ho_n_b5_Lost_1) (fun d hd => by cases hd; decide) fun v nm hR => ?_
      obtain ⟨k_o_33_w0_Out, c_o_33_w0_Out, r_o_33_w0_Out, k_o_33_w0_Lost, c_o_33_w0_Lost, r_o_33_w0_Lost, rfl, rfl, ho_o_33_w0_Out, ho_o_33_w0_Lost⟩ := hR
      refine .nil (.blk_n (.then_n (.region (?_))))
      refine .step (.add rfl rfl) (by decide) ?_
      refine .step (.mv rfl) (by decide) ?_
      refine .nil (.then_n (?_))
      refine .sel [2, 1, 6, 0, 7, 3, 4] (by decide) rfl ?_
      exact .again ⟨fl1, (x5.2, x5.1, x3.2.2.1, x3.2.2.2, (IntKind.wrap .i64 (s12_1 + 1))), k_o_33_w0_Lost, c_o_33_w0_Lost, r_o_33_w0_Lost, k_o_33_w0_Out, c_o_33_w0_Out, r_o_33_w0_Out⟩ ⟨H, ho_o_33_w0_Lost, ho_o_33_w0_Out⟩ (Nat.lt_succ_self _) (.refl _) (.cons rfl (.cons rfl (.cons rfl (.cons rfl (.cons rfl (.cons rfl (.cons rfl .nil)))))))
  · replace H := cond_f hc1 H
    refine .exit (.then_x (.then_x (.blk_x (.then_n (.seq (.region (?_)))))))
    refine .step (.ldA rfl (.i 3 rfl) A_tear_Torn Z_tear_Torn (tear_Torn.size _)) (by decide) ?_
    refine .storeA 4 rfl rfl rfl rfl Z_tear_Torn (tear_Torn.size _) (tear_Torn.one _) (tear_Torn.size _) ?_
    refine .sel [1, 0, 5, 6, 4] (by decide) rfl ?_
    cases H
    exact .nil (.then_n (.ret (.retR1 [_, _, _, _] (.cons_cons _ (.cons_cons _ (.cons_cons _ (.cons_cons _ (.cons _ (.slnil)))))) rfl (.ce rfl (.i 4 rfl) A_tear_Torn Z_tear_Torn (tear_Torn.size _)) ⟨k_n_b5_Out_1, c_n_b5_Out_1, r_n_b5_Out_1, k_n_b5_Lost_1, c_n_b5_Lost_1, r_n_b5_Lost_1, rfl, rfl, ho_n_b5_Out_1, ho_n_b5_Lost_1⟩)))

def F_annuletref15_SamePaths_L1 (a0 : List api_Path) (a1 : List api_Path) (again1 : (Int) → Option (Bool)) (st : Int) : Option (Bool) :=
  (fun s5_1 => cond (decide (s5_1 < (((a0).length : Nat) : Int))) ((ixL a0 s5_1).bind fun x1 => (ixL a1 s5_1).bind fun x2 => cond (!decide (x1 = x2)) (some false) (again1 (IntKind.wrap .i64 (s5_1 + 1)))) (some true)) st
def F_annuletref15_SamePaths (a0 : List api_Path) (a1 : List api_Path) : Option (Bool) :=
  cond (!decide ((((a0).length : Nat) : Int) = (((a1).length : Nat) : Int))) (some false) (iter (F_annuletref15_SamePaths_L1 a0 a1) FUEL 0)
theorem W_annuletref15_SamePaths (a0 : List api_Path) (a1 : List api_Path) (p_a0 : Option Addr) (c_a0 : Nat) (p_a1 : Option Addr) (c_a1 : Nat) (r : Bool) (H : F_annuletref15_SamePaths a0 a1 = some r) (w : World) (hR_a0 : Ro api_Path.enc 17 w p_a0 a0 c_a0) (hR_a1 : Ro api_Path.enc 17 w p_a1 a1 c_a1) :
    Calls PG f_annuletref15_SamePaths #[.slice p_a0 (a0).length c_a0, .slice p_a1 (a1).length c_a1] w (Ret w [] (fun v nm => v = .bool (r) ∧ nm = [])) := by
  unfold F_annuletref15_SamePaths at H
  refine enter0 (n := 26) (args := [.slice p_a0 (a0).length c_a0, .slice p_a1 (a1).length c_a1]) B_annuletref15_SamePaths rfl rfl (by simp) ?_
  refine .seq (.region (?_))
  refine .step (.as rfl) (by decide) ?_
  refine .nil (.then_n (.seq (.seq (.region (?_)))))
  refine .step (.mv rfl) (by decide) ?_
  refine .step (.len L_sl_api_Path rfl) (by decide) ?_
  refine .step (.mv rfl) (by decide) ?_
  refine .step (.len L_sl_api_Path rfl) (by decide) ?_
  refine .step (.neq rfl rfl) (by decide) ?_
  refine .nil (.then_n (.cond rfl (fun hc1 => ?_) (fun hc1 => ?_)))
  · replace H := cond_t hc1 H
    refine .seq (.region (?_))
    refine .step (.as rfl) (by decide) ?_
    cases H
    exact .nil (.then_n (.ret (.then_r (.ret1 [] (by simp) rfl rfl ⟨rfl, rfl⟩))))
  · replace H := cond_f hc1 H
    refine .skip (.then_n (.seq (.seq (.region (?_)))))
    refine .step (.as rfl) (by decide) ?_
    refine .nil (.then_n (.block (.loop (G := Nat × (Int)) (fun g => iter (F_annuletref15_SamePaths_L1 a0 a1) g.1 g.2 = some r) (fun g => []) (fun g => [(0, .slice p_a0 (a0).length c_a0), (1, .slice p_a1 (a1).length c_a1), (5, .int .i64 (g.2))]) (fun g => g.1) ⟨FUEL, 0⟩ H (.refl _) (.cons rfl (.cons rfl (.cons rfl .nil))) ?_)))
    rintro ⟨_ | fl1, s5_1⟩ H
    · exact (iter_0 H).elim
    replace H := iter_s H; rw [F_annuletref15_SamePaths_L1] at H; dsimp only at H ⊢
    refine .seq (.seq (.region (?_)))
    refine .step (.mv rfl) (by decide) ?_
    refine .step (.mv rfl) (by decide) ?_
    refine .step (.len L_sl_api_Path rfl) (by decide) ?_
    refine .step (.lss rfl rfl) (by decide) ?_
    refine .nil (.then_n (.cond rfl (fun hc2 => ?_) (fun hc2 => ?_)))
    · replace H := cond_t hc2 H
      refine .skip (.then_n (.seq (.block (.seq (.drawsI [] rfl rfl ?_)))))
      refine .first [0, 1, 2, 3, 4, 5, 6, 7, 8] 0 rfl (by kernel_rfl) (by kernel_rfl) ?_
      refine .s_step rfl rfl rfl (.mv rfl) (by decide) ?_
      refine .s_step rfl rfl rfl (.mv rfl) (by decide) ?_
      obtain ⟨x1, hx1, H⟩ := bind_s H
      refine .s_step rfl rfl rfl (.ixP (.par hR_a0) hx1 rfl rfl L_sl_api_Path Z_api_Path) (by decide) ?_
      refine .s_step rfl rfl rfl (.ldP (.par hR_a0) hx1 rfl A_api_Path Z_api_Path) (by decide) ?_
      refine .s_step rfl rfl rfl (.mv rfl) (by decide) ?_
      refine .s_step rfl rfl rfl (.mv rfl) (by decide) ?_
      obtain ⟨x2, hx2, H⟩ := bind_s H
      refine .s_step rfl rfl rfl (.ixP (.par hR_a1) hx2 rfl rfl L_sl_api_Path Z_api_Path) (by decide) ?_
      refine .s_step rfl rfl rfl (.ldP (.par hR_a1) hx2 rfl A_api_Path Z_api_Path) (by decide) ?_
      refine .s_step rfl rfl rfl (.neA (EQ_api_Path _ _) G_api_Path rfl rfl (by decide)) (by decide) ?_
      refine .s_nil ?_
      refine .done (.refl _) (by kernel_rfl) ?_
      refine .then_n (.cond rfl (fun hc3 => ?_) (fun hc3 => ?_))
      · replace H := cond_t hc3 H
        refine .seq (.region (?_))
        refine .step (.as rfl) (by decide) ?_
        cases H
        exact .nil (.then_n (.ret (.blk_r (.then_r (.then_r (.blk_r (.then_r (.ret1 [] (by simp) rfl rfl ⟨rfl, rfl⟩))))))))
      · replace H := cond_f hc3 H
        refine .skip (.blk_n (.then_n (.region (?_))))
        refine .step (.mv rfl) (by decide) ?_
        refine .step (.add rfl rfl) (by decide) ?_
        refine .step (.as rfl) (by decide) ?_
        refine .nil (.then_n (?_))
        exact .again ⟨fl1, (IntKind.wrap .i64 (s5_1 + 1))⟩ H (Nat.lt_succ_self _) (.refl _) (.cons rfl (.cons rfl (.cons rfl .nil)))
    · replace H := cond_f hc2 H
      refine .exit (.then_x (.then_x (.blk_x (.then_n (.seq (.region (?_)))))))
      refine .step (.as rfl) (by decide) ?_
      cases H
      exact .nil (.then_n (.ret (.ret1 [] (by simp) rfl rfl ⟨rfl, rfl⟩)))

def F_annuletref12_Same_L1 (a0 : List api_Entry) (a1 : List api_Entry) (again1 : (Int) → Option (Bool)) (st : Int) : Option (Bool) :=
  (fun s5_1 => cond (decide (s5_1 < (((a0).length : Nat) : Int))) ((ixL a0 s5_1).bind fun x1 => (ixL a1 s5_1).bind fun x2 => cond (!decide (x1 = x2)) (some false) (again1 (IntKind.wrap .i64 (s5_1 + 1)))) (some true)) st
def F_annuletref12_Same (a0 : List api_Entry) (a1 : List api_Entry) : Option (Bool) :=
  cond (!decide ((((a0).length : Nat) : Int) = (((a1).length : Nat) : Int))) (some false) (iter (F_annuletref12_Same_L1 a0 a1) FUEL 0)
theorem W_annuletref12_Same (a0 : List api_Entry) (a1 : List api_Entry) (p_a0 : Option Addr) (c_a0 : Nat) (p_a1 : Option Addr) (c_a1 : Nat) (r : Bool) (H : F_annuletref12_Same a0 a1 = some r) (w : World) (hR_a0 : Ro api_Entry.enc 51 w p_a0 a0 c_a0) (hR_a1 : Ro api_Entry.enc 51 w p_a1 a1 c_a1) :
    Calls PG f_annuletref12_Same #[.slice p_a0 (a0).length c_a0, .slice p_a1 (a1).length c_a1] w (Ret w [] (fun v nm => v = .bool (r) ∧ nm = [])) := by
  unfold F_annuletref12_Same at H
  refine enter0 (n := 26) (args := [.slice p_a0 (a0).length c_a0, .slice p_a1 (a1).length c_a1]) B_annuletref12_Same rfl rfl (by simp) ?_
  refine .seq (.region (?_))
  refine .step (.as rfl) (by decide) ?_
  refine .nil (.then_n (.seq (.seq (.region (?_)))))
  refine .step (.mv rfl) (by decide) ?_
  refine .step (.len L_sl_api_Entry rfl) (by decide) ?_
  refine .step (.mv rfl) (by decide) ?_
  refine .step (.len L_sl_api_Entry rfl) (by decide) ?_
  refine .step (.neq rfl rfl) (by decide) ?_
  refine .nil (.then_n (.cond rfl (fun hc1 => ?_) (fun hc1 => ?_)))
  · replace H := cond_t hc1 H
    refine .seq (.region (?_))
    refine .step (.as rfl) (by decide) ?_
    cases H
    exact .nil (.then_n (.ret (.then_r (.ret1 [] (by simp) rfl rfl ⟨rfl, rfl⟩))))
  · replace H := cond_f hc1 H
    refine .skip (.then_n (.seq (.seq (.region (?_)))))
    refine .step (.as rfl) (by decide) ?_
    refine .nil (.then_n (.block (.loop (G := Nat × (Int)) (fun g => iter (F_annuletref12_Same_L1 a0 a1) g.1 g.2 = some r) (fun g => []) (fun g => [(0, .slice p_a0 (a0).length c_a0), (1, .slice p_a1 (a1).length c_a1), (5, .int .i64 (g.2))]) (fun g => g.1) ⟨FUEL, 0⟩ H (.refl _) (.cons rfl (.cons rfl (.cons rfl .nil))) ?_)))
    rintro ⟨_ | fl1, s5_1⟩ H
    · exact (iter_0 H).elim
    replace H := iter_s H; rw [F_annuletref12_Same_L1] at H; dsimp only at H ⊢
    refine .seq (.seq (.region (?_)))
    refine .step (.mv rfl) (by decide) ?_
    refine .step (.mv rfl) (by decide) ?_
    refine .step (.len L_sl_api_Entry rfl) (by decide) ?_
    refine .step (.lss rfl rfl) (by decide) ?_
    refine .nil (.then_n (.cond rfl (fun hc2 => ?_) (fun hc2 => ?_)))
    · replace H := cond_t hc2 H
      refine .skip (.then_n (.seq (.block (.seq (.drawsI [] rfl rfl ?_)))))
      refine .first [0, 1, 2, 3, 4, 5, 6, 7, 8] 0 rfl (by kernel_rfl) (by kernel_rfl) ?_
      refine .s_step rfl rfl rfl (.mv rfl) (by decide) ?_
      refine .s_step rfl rfl rfl (.mv rfl) (by decide) ?_
      obtain ⟨x1, hx1, H⟩ := bind_s H
      refine .s_step rfl rfl rfl (.ixP (.par hR_a0) hx1 rfl rfl L_sl_api_Entry Z_api_Entry) (by decide) ?_
      refine .s_step rfl rfl rfl (.ldP (.par hR_a0) hx1 rfl A_api_Entry Z_api_Entry) (by decide) ?_
      refine .s_step rfl rfl rfl (.mv rfl) (by decide) ?_
      refine .s_step rfl rfl rfl (.mv rfl) (by decide) ?_
      obtain ⟨x2, hx2, H⟩ := bind_s H
      refine .s_step rfl rfl rfl (.ixP (.par hR_a1) hx2 rfl rfl L_sl_api_Entry Z_api_Entry) (by decide) ?_
      refine .s_step rfl rfl rfl (.ldP (.par hR_a1) hx2 rfl A_api_Entry Z_api_Entry) (by decide) ?_
      refine .s_step rfl rfl rfl (.neA (EQ_api_Entry _ _) G_api_Entry rfl rfl (by decide)) (by decide) ?_
      refine .s_nil ?_
      refine .done (.refl _) (by kernel_rfl) ?_
      refine .then_n (.cond rfl (fun hc3 => ?_) (fun hc3 => ?_))
      · replace H := cond_t hc3 H
        refine .seq (.region (?_))
        refine .step (.as rfl) (by decide) ?_
        cases H
        exact .nil (.then_n (.ret (.blk_r (.then_r (.then_r (.blk_r (.then_r (.ret1 [] (by simp) rfl rfl ⟨rfl, rfl⟩))))))))
      · replace H := cond_f hc3 H
        refine .skip (.blk_n (.then_n (.region (?_))))
        refine .step (.mv rfl) (by decide) ?_
        refine .step (.add rfl rfl) (by decide) ?_
        refine .step (.as rfl) (by decide) ?_
        refine .nil (.then_n (?_))
        exact .again ⟨fl1, (IntKind.wrap .i64 (s5_1 + 1))⟩ H (Nat.lt_succ_self _) (.refl _) (.cons rfl (.cons rfl (.cons rfl .nil)))
    · replace H := cond_f hc2 H
      refine .exit (.then_x (.then_x (.blk_x (.then_n (.seq (.region (?_)))))))
      refine .step (.as rfl) (by decide) ?_
      cases H
      exact .nil (.then_n (.ret (.ret1 [] (by simp) rfl rfl ⟨rfl, rfl⟩)))

end Go.Fx
