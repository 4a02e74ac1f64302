/- The table's lists. -/
import Derived.Test.YtpkdekhmjjcljaaGreatFxTabS15z
namespace Go.Fx
set_option maxRecDepth 10000
def F_table_Table_of_L1 (a0_m : MS api_Path api_Entry) (a1 : api_Entry → Option Bool) (x1 : List api_Path) (again1 : (List api_Entry × Int) → Option (List api_Entry)) (st : List api_Entry × Int) : Option (List api_Entry) :=
  match st with | (l_n5_1, s17_1) => cond (decide (s17_1 < (((x1).length : Nat) : Int))) ((ixL x1 s17_1).bind fun x2 => (a1 ((MS.get a0_m x2).getD api_Entry.zero)).bind fun x3 => cond x3 ((appG l_n5_1 ([((MS.get a0_m x2).getD api_Entry.zero)] : List api_Entry)).bind fun x4 => again1 (x4, (IntKind.wrap .i64 (s17_1 + 1)))) (again1 (l_n5_1, (IntKind.wrap .i64 (s17_1 + 1))))) (some l_n5_1)
def F_table_Table_of (_a0_most : Int) (a0_m : MS api_Path api_Entry) (a1 : api_Entry → Option Bool) : Option (List api_Entry) :=
  (keysF a0_m).bind fun x1 => iter (F_table_Table_of_L1 a0_m a1 x1) FUEL (([] : List api_Entry), 0)
theorem W_table_Table_of (a0_most : Int) (a0_m : MS api_Path api_Entry) (a1 : api_Entry → Option Bool) (b_a0 : Nat) (b_a0_m : Nat) (g_a1 : Nat) (cb_a1 : Array Value) (r : List api_Entry) (H : F_table_Table_of a0_most a0_m a1 = some r) (w : World) (hB_b_a0 : w.heap[b_a0]? = some (.cells (table_Table.enc (table_Table.mk a0_most (.map (some b_a0_m)))) T_table_Table (0, 0))) (hB_b_a0_m : w.heap[b_a0_m]? = some (MS.obj (vA api_Path.enc) (vA api_Entry.enc) a0_m)) (hE_a1 : enterB PG g_a1 = true) (hG_a1 : ∀ (y0 : api_Entry) (r : Bool), a1 y0 = some r → ∀ w', Fr [] w w' → Calls PG g_a1 (#[.agg (api_Entry.enc y0)] ++ cb_a1) w' (Ret w' [] fun v nm => v = .bool (r) ∧ nm = [])) :
    Calls PG f_table_Table_of #[.pointer (some ⟨b_a0, 0, none⟩), .func (.func g_a1) #[] cb_a1] w (Ret w [] (fun v nm => ∃ (k_o_q0 : Option Nat) (c_o_q0 : Nat) (r_o_q0 : Array Value), v = slv k_o_q0 (r).length c_o_q0 ∧ nm = [(k_o_q0, .cells (catA ((r).map api_Entry.enc) ++ r_o_q0) T_api_Entry (0, 0))] ∧ OwnS 51 k_o_q0 (r).length c_o_q0 r_o_q0)) := by
  unfold F_table_Table_of at H
  refine enter0 (n := 40) (args := [.pointer (some ⟨b_a0, 0, none⟩), .func (.func g_a1) #[] cb_a1]) B_table_Table_of rfl rfl (by simp) ?_
  refine .seq (.region (?_))
  refine .step (.as rfl) (by decide) ?_
  refine .nil (.then_n (.seq (.seq (.region (?_)))))
  refine .step (.mv rfl) (by decide) ?_
  refine .step (.eqPtr P_pt_table_Table rfl rfl (by simp)) (by decide) ?_
  refine .nil (.then_n (.cond_f rfl ?_))
  refine .skip (.then_n (.seq (.region (?_))))
  refine .step (.as rfl) (by decide) ?_
  refine .nil (.then_n (.seq (.seq (.region (?_)))))
  refine .step (.mv rfl) (by decide) ?_
  refine .step (.nc rfl) (by decide) ?_
  refine .step (.fa rfl F_table_Table_m Z_map_api_Path_api_Entry) (by decide) ?_
  refine .step (.ld1 rfl (.o hB_b_a0 (by simp)) A_map_api_Path_api_Entry (table_Table.g_m _)) (by decide) ?_
  refine .call0 rfl E_maps_Keys_map_api_Path_api_Entry_api_Path_api_Entry rfl rfl (fun w hm hf => maps_Keys_api_Path b_a0_m w) (by decide) fun v nm hR => ?_
  obtain ⟨b14, rfl, rfl⟩ := hR
  obtain ⟨x1, hx1, H⟩ := bind_s H
  refine .call0 rfl E_slices_SortedFunc_api_Path rfl rfl (fun w hm hf => W_sorted_api_Path _ _ _ _ hx1 w (Kn.at (.i 0 rfl) hm hf) (Kn.at (.o hB_b_a0_m (by simp)) hm hf)) (by decide) fun v nm hR => ?_
  obtain ⟨k_o_15, c_o_15, r_o_15, rfl, rfl, ho_o_15⟩ := hR
  refine .step (.len L_sl_api_Path rfl) (by decide) ?_
  refine .step (.mv rfl) (by decide) ?_
  refine .nil (.then_n (.block (.non (o := .cells (catA (([] : List api_Entry).map api_Entry.enc) ++ #[]) T_api_Entry (0, 0)) (.loop (G := Nat × (List api_Entry × Int) × (Option Nat) × (Nat) × (Array Value)) (fun g => iter (F_table_Table_of_L1 a0_m a1 x1) g.1 g.2.1 = some r ∧ OwnS 51 g.2.2.1 (g.2.1.1).length g.2.2.2.1 g.2.2.2.2) (fun g => [(g.2.2.1, .cells (catA ((g.2.1.1).map api_Entry.enc) ++ g.2.2.2.2) T_api_Entry (0, 0)), (k_o_15, .cells (catA ((x1).map api_Path.enc) ++ r_o_15) T_api_Path (0, 0)), (some b14, .cells #[.map (some b_a0_m)] T_map_api_Path_api_Entry (0, 0))]) (fun g => [(0, .pointer (some ⟨b_a0, 0, none⟩)), (1, .func (.func g_a1) #[] cb_a1), (5, slv g.2.2.1 (g.2.1.1).length g.2.2.2.1), (15, slv k_o_15 (x1).length c_o_15), (16, .int .i64 ((((x1).length : Nat) : Int))), (17, .int .i64 (g.2.1.2))]) (fun g => g.1) ⟨FUEL, (([] : List api_Entry), 0), none, 0, #[]⟩ ⟨H, ⟨rfl, Nat.le_refl _, fun _ => rfl⟩⟩ (.refl _) (.cons rfl (.cons rfl (.cons rfl (.cons rfl (.cons rfl (.cons rfl .nil)))))) ?_))))
  rintro ⟨_ | fl1, ⟨l_n5_1, s17_1⟩, k_n5_1, c_n5_1, r_n5_1⟩ ⟨H, ho_n5_1⟩
  · exact (iter_0 H).elim
  replace H := iter_s H; rw [F_table_Table_of_L1] at H; dsimp only at H ⊢
  refine .seq (.region (?_))
  refine .step (.lss rfl rfl) (by decide) ?_
  refine .nil (.then_n (.seq (.cond rfl (fun hc1 => ?_) (fun hc1 => ?_))))
  · replace H := cond_t hc1 H
    refine .skip (.then_n (.seq (.block (.seq (.region (?_))))))
    obtain ⟨x2, hx2, H⟩ := bind_s H
    refine .step (.ixP (.own 1 api_Path.size rfl ho_o_15) hx2 rfl rfl L_sl_api_Path Z_api_Path) (by decide) ?_
    refine .step (.ldP (.own 1 api_Path.size rfl ho_o_15) hx2 rfl A_api_Path Z_api_Path) (by decide) ?_
    refine .alloc N_api_Path rfl (by decide) fun b7 hb7 => ?_
    refine .storeA 0 rfl rfl rfl rfl Z_api_Path (api_Path.size _) (api_Path.one _) (api_Path.size _) ?_
    refine .nil (.then_n (.seq (.drawsI [0, 1, 2, 3] rfl rfl ?_)))
    refine .first [0, 1, 2, 3, 4, 5, 6] 1 rfl (by kernel_rfl) (by kernel_rfl) ?_
    refine .s_step rfl rfl rfl (.mv rfl) (by decide) ?_
    refine .s_step rfl rfl rfl (.mv rfl) (by decide) ?_
    refine .s_step rfl rfl rfl (.nc rfl) (by decide) ?_
    refine .s_step rfl rfl rfl (.fa rfl F_table_Table_m Z_map_api_Path_api_Entry) (by decide) ?_
    refine .s_step rfl rfl rfl (.ld1 rfl (.o hB_b_a0 (by simp)) A_map_api_Path_api_Entry (table_Table.g_m _)) (by decide) ?_
    refine .s_step rfl rfl rfl (.ldA rfl (.i 0 rfl) A_api_Path Z_api_Path (api_Path.size _)) (by decide) ?_
    refine .s_step rfl rfl rfl (.lkS M_map_api_Path_api_Entry U_api_Path KO_api_Path N_api_Entry (.o hB_b_a0_m (by simp)) rfl rfl) (by decide) ?_
    refine .s_nil ?_
    refine .only (i := 7) (.refl _) (by kernel_rfl) rfl ?_
    obtain ⟨x3, hx3, H⟩ := bind_s H
    refine .callQ (v := .bool (x3)) rfl hE_a1 rfl (args1 (.agg (api_Entry.enc ((MS.get a0_m x2).getD api_Entry.zero))) cb_a1) (fun w hm hf => hG_a1 ((MS.get a0_m x2).getD api_Entry.zero) _ hx3 w hf) (by decide) ?_
    refine .nil (.then_n ?_)
    refine .done (.refl _) (by kernel_rfl) ?_
    refine .then_n (.cond rfl (fun hc2 => ?_) (fun hc2 => ?_))
    · replace H := cond_t hc2 H
      refine .drawsI [0, 2, 3] rfl rfl ?_
      refine .first [0, 1, 2, 3, 4, 5, 6] 3 rfl (by kernel_rfl) (by kernel_rfl) ?_
      refine .s_step rfl rfl rfl (.mv rfl) (by decide) ?_
      refine .s_step rfl rfl rfl (.mv rfl) (by decide) ?_
      refine .s_step rfl rfl rfl (.nc rfl) (by decide) ?_
      refine .s_step rfl rfl rfl (.fa rfl F_table_Table_m Z_map_api_Path_api_Entry) (by decide) ?_
      refine .s_step rfl rfl rfl (.ld1 rfl (.o hB_b_a0 (by simp)) A_map_api_Path_api_Entry (table_Table.g_m _)) (by decide) ?_
      refine .s_step rfl rfl rfl (.ldA rfl (.i 0 rfl) A_api_Path Z_api_Path (api_Path.size _)) (by decide) ?_
      refine .s_step rfl rfl rfl (.lkS M_map_api_Path_api_Entry U_api_Path KO_api_Path N_api_Entry (.o hB_b_a0_m (by simp)) rfl rfl) (by decide) ?_
      refine .s_nil ?_
      refine .only (i := 7) (.cons_cons _ (.cons _ (.refl _))) (by kernel_rfl) rfl ?_
      refine .bsL (vs := [.agg (api_Entry.enc ((MS.get a0_m x2).getD api_Entry.zero))]) (c := catA (([((MS.get a0_m x2).getD api_Entry.zero)] : List api_Entry).map api_Entry.enc) ++ #[]) (len := 1) L_sl_api_Entry Z_api_Entry N_api_Entry rfl rfl (by intro v hv; simp only [List.mem_cons, List.not_mem_nil, or_false] at hv; subst hv; exact api_Entry.size _) (by rw [Array.append_empty]; rfl) (by decide) (by decide) (by decide) fun b36 hb36 => ?_
      have hob36 : OwnS 51 (some b36) ([((MS.get a0_m x2).getD api_Entry.zero)] : List api_Entry).length 1 #[] := ⟨rfl, Nat.le_refl _, fun h => by cases h⟩
      refine .nil (.then_n ?_)
      refine .only (i := 8) (.cons _ (.cons_cons _ (.cons _ (.refl _)))) (by kernel_rfl) rfl ?_
      obtain ⟨x4, hx4, H⟩ := bind_s H
      refine .appX 2 api_Entry.size ho_n5_1 (.own 0 api_Entry.size rfl hob36) hx4 rfl rfl rfl L_sl_api_Entry Z_api_Entry Y_api_Entry N_api_Entry (api_Entry.size _) (by decide) (by decide) (fun a _ => api_Entry.one a) (by decide) fun k_q1 c_q1 r_q1 ho_q1 => ?_
      refine .nil (.then_n ?_)
      refine .first [9] 0 rfl (by kernel_rfl) (by kernel_rfl) ?_
      refine .s_step rfl rfl rfl (.as rfl) (by decide) ?_
      refine .s_nil ?_
      refine .done (.cons _ (.cons_cons _ (.cons _ (.refl _)))) (by kernel_rfl) ?_
      refine .blk_n (.then_n (.region (?_)))
      refine .step (.add rfl rfl) (by decide) ?_
      refine .step (.mv rfl) (by decide) ?_
      refine .nil (.then_n (?_))
      exact .again ⟨fl1, (x4, (IntKind.wrap .i64 (s17_1 + 1))), k_q1, c_q1, r_q1⟩ ⟨H, ho_q1⟩ (Nat.lt_succ_self _) (.cons _ (.cons _ (.refl _))) (.cons rfl (.cons rfl (.cons rfl (.cons rfl (.cons rfl (.cons rfl .nil))))))
    · replace H := cond_f hc2 H
      refine .skip (.blk_n (.then_n (.region (?_))))
      refine .step (.add rfl rfl) (by decide) ?_
      refine .step (.mv rfl) (by decide) ?_
      refine .nil (.then_n (?_))
      exact .again ⟨fl1, (l_n5_1, (IntKind.wrap .i64 (s17_1 + 1))), k_n5_1, c_n5_1, r_n5_1⟩ ⟨H, ho_n5_1⟩ (Nat.lt_succ_self _) (.cons _ (.refl _)) (.cons rfl (.cons rfl (.cons rfl (.cons rfl (.cons rfl (.cons rfl .nil))))))
  · replace H := cond_f hc1 H
    refine .exit (.then_x (.then_x (.blk_x (.then_n (.seq (.region (?_)))))))
    refine .step (.mv rfl) (by decide) ?_
    refine .step (.as rfl) (by decide) ?_
    cases H
    exact .nil (.then_n (.ret (.ret1 [_] (.cons_cons _ (.cons _ (.cons _ (.slnil)))) rfl rfl ⟨k_n5_1, c_n5_1, r_n5_1, rfl, rfl, ho_n5_1⟩)))

def F_table_Table_All_f1 (_a0 : api_Entry) : Option (Bool) :=
  some true
theorem W_table_Table_All_f1 (a0 : api_Entry) (r : Bool) (H : F_table_Table_All_f1 a0 = some r) (w : World) :
    Calls PG f_table_Table_All_f1 #[.agg (api_Entry.enc a0)] w (Ret w [] (fun v nm => v = .bool (r) ∧ nm = [])) := by
  unfold F_table_Table_All_f1 at H
  refine enter0 (n := 3) (args := [.agg (api_Entry.enc a0)]) B_table_Table_All_f1 rfl rfl (by simp) ?_
  refine .seq (.region (?_))
  refine .box rfl rfl (by decide) fun b1 hb1 => ?_
  refine .step (.as rfl) (by decide) ?_
  refine .nil (.then_n (.seq (.region (?_))))
  refine .step (.as rfl) (by decide) ?_
  cases H
  exact .nil (.then_n (.ret (.ret1 [] (by simp) rfl rfl ⟨rfl, rfl⟩)))

def F_table_Table_All (a0_most : Int) (a0_m : MS api_Path api_Entry) : Option (List api_Entry) :=
  (F_table_Table_of a0_most a0_m (fun y0 => F_table_Table_All_f1 y0)).bind fun x1 => some x1
theorem W_table_Table_All (a0_most : Int) (a0_m : MS api_Path api_Entry) (b_a0 : Nat) (b_a0_m : Nat) (r : List api_Entry) (H : F_table_Table_All a0_most a0_m = some r) (w : World) (hB_b_a0 : w.heap[b_a0]? = some (.cells (table_Table.enc (table_Table.mk a0_most (.map (some b_a0_m)))) T_table_Table (0, 0))) (hB_b_a0_m : w.heap[b_a0_m]? = some (MS.obj (vA api_Path.enc) (vA api_Entry.enc) a0_m)) :
    Calls PG f_table_Table_All #[.pointer (some ⟨b_a0, 0, none⟩)] w (Ret w [] (fun v nm => ∃ (k_o_q0 : Option Nat) (c_o_q0 : Nat) (r_o_q0 : Array Value), v = slv k_o_q0 (r).length c_o_q0 ∧ nm = [(k_o_q0, .cells (catA ((r).map api_Entry.enc) ++ r_o_q0) T_api_Entry (0, 0))] ∧ OwnS 51 k_o_q0 (r).length c_o_q0 r_o_q0)) := by
  unfold F_table_Table_All at H
  refine enter0 (n := 5) (args := [.pointer (some ⟨b_a0, 0, none⟩)]) B_table_Table_All rfl rfl (by simp) ?_
  refine .seq (.region (?_))
  refine .step (.as rfl) (by decide) ?_
  refine .nil (.then_n (.seq (.region (?_))))
  refine .step (.mv rfl) (by decide) ?_
  obtain ⟨x1, hx1, H⟩ := bind_s H
  refine .call0 rfl E_table_Table_of rfl rfl (fun w hm hf => W_table_Table_of a0_most a0_m (fun y0 => F_table_Table_All_f1 y0) _ _ _ _ _ hx1 w (Kn.at (.o hB_b_a0 (by simp)) hm hf) (Kn.at (.o hB_b_a0_m (by simp)) hm hf) E_table_Table_All_f1 (fun y0 r hx w' hf' => W_table_Table_All_f1 y0  _ hx w' )) (by decide) fun v nm hR => ?_
  obtain ⟨k_o_4, c_o_4, r_o_4, rfl, rfl, ho_o_4⟩ := hR
  refine .step (.as rfl) (by decide) ?_
  cases H
  exact .nil (.then_n (.ret (.ret1 [_] (.refl _) rfl rfl ⟨k_o_4, c_o_4, r_o_4, rfl, rfl, ho_o_4⟩)))

end Go.Fx
