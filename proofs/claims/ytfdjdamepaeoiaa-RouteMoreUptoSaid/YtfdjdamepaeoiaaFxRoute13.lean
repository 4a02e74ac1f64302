/- The table's lists; packages route and annuletlaw13. -/
import Derived.Test.YtfdjdamepaeoiaaFxRouteA13
namespace Go.Fx
set_option maxRecDepth 10000
def F_route_Before (a0 : Idn) (a1 : route_Choice) (a2 : route_Choice) : Option (Bool) :=
  cond (!decide (a1.ID = a2.ID)) (some (Idn.nearer a0 a1.ID a2.ID)) (cond (decide (a1.N = (-1))) (cond (decide (a1.N = (-1))) (some (!decide (a2.N = (-1)))) (some false)) (cond (decide (a2.N = (-1))) (cond (decide (a1.N = (-1))) (some (!decide (a2.N = (-1)))) (some false)) (cond (!decide (a1.Near = a2.Near)) (some a1.Near) (cond a1.Near (some (decide (a1.N < a2.N))) (cond (!decide (a1.P = a2.P)) ((F_table_Less a1.P a2.P).bind fun x1 => some x1) (some (decide (a1.N < a2.N))))))))
theorem W_route_Before (a0 : Idn) (a1 : route_Choice) (a2 : route_Choice) (r : Bool) (H : F_route_Before a0 a1 a2 = some r) (w : World) :
    Calls PG f_route_Before #[.agg (Idn.enc a0), .agg (route_Choice.enc a1), .agg (route_Choice.enc a2)] w (Ret w [] (fun v nm => v = .bool (r) ∧ nm = [])) := by
  unfold F_route_Before at H
  refine enter0 (n := 68) (args := [.agg (Idn.enc a0), .agg (route_Choice.enc a1), .agg (route_Choice.enc a2)]) B_route_Before rfl rfl (by simp) ?_
  refine .seq (.region (?_))
  refine .box rfl rfl (by decide) fun b3 hb3 => ?_
  refine .box rfl rfl (by decide) fun b4 hb4 => ?_
  refine .box rfl rfl (by decide) fun b5 hb5 => ?_
  refine .step (.as rfl) (by decide) ?_
  refine .nil (.then_n (.seq (.block (.seq (.region (?_))))))
  refine .step (.fa rfl F_route_Choice_ID Z_api_ID) (by decide) ?_
  refine .step (.lds rfl (.i 1 rfl) A_api_ID Z_api_ID (route_Choice.s_ID _)) (by decide) ?_
  refine .step (.fa rfl F_route_Choice_ID Z_api_ID) (by decide) ?_
  refine .step (.lds rfl (.i 0 rfl) A_api_ID Z_api_ID (route_Choice.s_ID _)) (by decide) ?_
  refine .step (.neA (EQ_api_ID _ _) G_api_ID rfl rfl (by decide)) (by decide) ?_
  refine .step (.as rfl) (by decide) ?_
  refine .nil (.then_n (.cond rfl (fun hc1 => ?_) (fun hc1 => ?_)))
  · replace H := cond_t hc1 H
    refine .seq (.region (?_))
    refine .step (.ldA rfl (.i 2 rfl) A_api_ID Z_api_ID (Idn.size _)) (by decide) ?_
    refine .step (.fa rfl F_route_Choice_ID Z_api_ID) (by decide) ?_
    refine .step (.lds rfl (.i 1 rfl) A_api_ID Z_api_ID (route_Choice.s_ID _)) (by decide) ?_
    refine .step (.fa rfl F_route_Choice_ID Z_api_ID) (by decide) ?_
    refine .step (.lds rfl (.i 0 rfl) A_api_ID Z_api_ID (route_Choice.s_ID _)) (by decide) ?_
    refine .callQ (v := .bool ((Idn.nearer a0 a1.ID a2.ID))) rfl E_ident_Nearer rfl rfl (fun w hm hf => ident_Nearer a0 a1.ID a2.ID w) (by decide) ?_
    refine .step (.as rfl) (by decide) ?_
    cases H
    exact .nil (.then_n (.ret (.blk_r (.then_r (.ret1 [] (by simp) rfl rfl ⟨rfl, rfl⟩)))))
  · replace H := cond_f hc1 H
    refine .seq (.region (?_))
    refine .step (.fa rfl F_route_Choice_N Z_int) (by decide) ?_
    refine .step (.ld1 rfl (.i 1 rfl) A_int (route_Choice.g_N _)) (by decide) ?_
    refine .step (.eql rfl rfl) (by decide) ?_
    refine .step (.mv rfl) (by decide) ?_
    refine .splitb 23 rfl (fun hb1 => ?_) (fun hb1 => ?_)
    · replace H := cond_t hb1 H
      refine .pass rfl rfl (by decide) ?_
      refine .pass rfl rfl (by decide) ?_
      refine .pass rfl rfl (by decide) ?_
      refine .step (.pk_t rfl rfl) (by decide) ?_
      refine .step (.as rfl) (by decide) ?_
      refine .nil (.then_n (.cond_t rfl ?_))
      refine .seq (.region (?_))
      refine .step (.fa rfl F_route_Choice_N Z_int) (by decide) ?_
      refine .step (.ld1 rfl (.i 1 rfl) A_int (route_Choice.g_N _)) (by decide) ?_
      refine .step (.eql rfl rfl) (by decide) ?_
      refine .step (.mv rfl) (by decide) ?_
      refine .splitb 31 rfl (fun hb2 => ?_) (fun hb2 => ?_)
      · replace H := cond_t hb2 H
        refine .stepg rfl (.fa rfl F_route_Choice_N Z_int) (by decide) ?_
        refine .stepg rfl (.ld1 rfl (.i 0 rfl) A_int (route_Choice.g_N _)) (by decide) ?_
        refine .stepg rfl (.neq rfl rfl) (by decide) ?_
        refine .step (.pk_t rfl rfl) (by decide) ?_
        refine .step (.as rfl) (by decide) ?_
        cases H
        exact .nil (.then_n (.ret (.blk_r (.then_r (.ret1 [] (by simp) rfl rfl ⟨rfl, rfl⟩)))))
      · replace H := cond_f hb2 H
        refine .pass rfl rfl (by decide) ?_
        refine .pass rfl rfl (by decide) ?_
        refine .pass rfl rfl (by decide) ?_
        refine .step (.pk_f rfl rfl) (by decide) ?_
        refine .step (.as rfl) (by decide) ?_
        cases H
        exact .nil (.then_n (.ret (.blk_r (.then_r (.ret1 [] (by simp) rfl rfl ⟨rfl, rfl⟩)))))
    · replace H := cond_f hb1 H
      refine .stepg rfl (.fa rfl F_route_Choice_N Z_int) (by decide) ?_
      refine .stepg rfl (.ld1 rfl (.i 0 rfl) A_int (route_Choice.g_N _)) (by decide) ?_
      refine .stepg rfl (.eql rfl rfl) (by decide) ?_
      refine .step (.pk_f rfl rfl) (by decide) ?_
      refine .step (.as rfl) (by decide) ?_
      refine .nil (.then_n (.cond rfl (fun hc2 => ?_) (fun hc2 => ?_)))
      · replace H := cond_t hc2 H
        refine .seq (.region (?_))
        refine .step (.fa rfl F_route_Choice_N Z_int) (by decide) ?_
        refine .step (.ld1 rfl (.i 1 rfl) A_int (route_Choice.g_N _)) (by decide) ?_
        refine .step (.eql rfl rfl) (by decide) ?_
        refine .step (.mv rfl) (by decide) ?_
        refine .splitb 31 rfl (fun hb3 => ?_) (fun hb3 => ?_)
        · replace H := cond_t hb3 H
          refine .stepg rfl (.fa rfl F_route_Choice_N Z_int) (by decide) ?_
          refine .stepg rfl (.ld1 rfl (.i 0 rfl) A_int (route_Choice.g_N _)) (by decide) ?_
          refine .stepg rfl (.neq rfl rfl) (by decide) ?_
          refine .step (.pk_t rfl rfl) (by decide) ?_
          refine .step (.as rfl) (by decide) ?_
          cases H
          exact .nil (.then_n (.ret (.blk_r (.then_r (.ret1 [] (by simp) rfl rfl ⟨rfl, rfl⟩)))))
        · replace H := cond_f hb3 H
          refine .pass rfl rfl (by decide) ?_
          refine .pass rfl rfl (by decide) ?_
          refine .pass rfl rfl (by decide) ?_
          refine .step (.pk_f rfl rfl) (by decide) ?_
          refine .step (.as rfl) (by decide) ?_
          cases H
          exact .nil (.then_n (.ret (.blk_r (.then_r (.ret1 [] (by simp) rfl rfl ⟨rfl, rfl⟩)))))
      · replace H := cond_f hc2 H
        refine .seq (.region (?_))
        refine .step (.fa rfl F_route_Choice_Near Z_bool) (by decide) ?_
        refine .step (.ld1 rfl (.i 1 rfl) A_bool (route_Choice.g_Near _)) (by decide) ?_
        refine .step (.fa rfl F_route_Choice_Near Z_bool) (by decide) ?_
        refine .step (.ld1 rfl (.i 0 rfl) A_bool (route_Choice.g_Near _)) (by decide) ?_
        refine .step (.neqB Q_bool rfl rfl) (by decide) ?_
        refine .step (.as rfl) (by decide) ?_
        refine .nil (.then_n (.cond rfl (fun hc3 => ?_) (fun hc3 => ?_)))
        · replace H := cond_t hc3 H
          refine .seq (.region (?_))
          refine .step (.fa rfl F_route_Choice_Near Z_bool) (by decide) ?_
          refine .step (.ld1 rfl (.i 1 rfl) A_bool (route_Choice.g_Near _)) (by decide) ?_
          refine .step (.as rfl) (by decide) ?_
          cases H
          exact .nil (.then_n (.ret (.blk_r (.then_r (.ret1 [] (by simp) rfl rfl ⟨rfl, rfl⟩)))))
        · replace H := cond_f hc3 H
          refine .seq (.region (?_))
          refine .step (.fa rfl F_route_Choice_Near Z_bool) (by decide) ?_
          refine .step (.ld1 rfl (.i 1 rfl) A_bool (route_Choice.g_Near _)) (by decide) ?_
          refine .step (.as rfl) (by decide) ?_
          refine .nil (.then_n (.cond rfl (fun hc4 => ?_) (fun hc4 => ?_)))
          · replace H := cond_t hc4 H
            refine .seq (.region (?_))
            refine .step (.fa rfl F_route_Choice_N Z_int) (by decide) ?_
            refine .step (.ld1 rfl (.i 1 rfl) A_int (route_Choice.g_N _)) (by decide) ?_
            refine .step (.fa rfl F_route_Choice_N Z_int) (by decide) ?_
            refine .step (.ld1 rfl (.i 0 rfl) A_int (route_Choice.g_N _)) (by decide) ?_
            refine .step (.lss rfl rfl) (by decide) ?_
            refine .step (.as rfl) (by decide) ?_
            cases H
            exact .nil (.then_n (.ret (.blk_r (.then_r (.ret1 [] (by simp) rfl rfl ⟨rfl, rfl⟩)))))
          · replace H := cond_f hc4 H
            refine .seq (.region (?_))
            refine .step (.fa rfl F_route_Choice_P Z_api_Path) (by decide) ?_
            refine .step (.lds rfl (.i 1 rfl) A_api_Path Z_api_Path (route_Choice.s_P _)) (by decide) ?_
            refine .step (.fa rfl F_route_Choice_P Z_api_Path) (by decide) ?_
            refine .step (.lds rfl (.i 0 rfl) A_api_Path Z_api_Path (route_Choice.s_P _)) (by decide) ?_
            refine .step (.neA (EQ_api_Path _ _) G_api_Path rfl rfl (by decide)) (by decide) ?_
            refine .step (.as rfl) (by decide) ?_
            refine .nil (.then_n (.cond rfl (fun hc5 => ?_) (fun hc5 => ?_)))
            · replace H := cond_t hc5 H
              refine .seq (.region (?_))
              refine .step (.fa rfl F_route_Choice_P Z_api_Path) (by decide) ?_
              refine .step (.lds rfl (.i 1 rfl) A_api_Path Z_api_Path (route_Choice.s_P _)) (by decide) ?_
              refine .step (.fa rfl F_route_Choice_P Z_api_Path) (by decide) ?_
              refine .step (.lds rfl (.i 0 rfl) A_api_Path Z_api_Path (route_Choice.s_P _)) (by decide) ?_
              obtain ⟨x1, hx1, H⟩ := bind_s H
              refine .callQ (v := .bool (x1)) rfl E_table_Less rfl rfl (fun w hm hf => W_table_Less a1.P a2.P  _ hx1 w ) (by decide) ?_
              refine .step (.as rfl) (by decide) ?_
              cases H
              exact .nil (.then_n (.ret (.blk_r (.then_r (.ret1 [] (by simp) rfl rfl ⟨rfl, rfl⟩)))))
            · replace H := cond_f hc5 H
              refine .skip (.blk_n (.then_n (.seq (.region (?_)))))
              refine .step (.fa rfl F_route_Choice_N Z_int) (by decide) ?_
              refine .step (.ld1 rfl (.i 1 rfl) A_int (route_Choice.g_N _)) (by decide) ?_
              refine .step (.fa rfl F_route_Choice_N Z_int) (by decide) ?_
              refine .step (.ld1 rfl (.i 0 rfl) A_int (route_Choice.g_N _)) (by decide) ?_
              refine .step (.lss rfl rfl) (by decide) ?_
              refine .step (.as rfl) (by decide) ?_
              cases H
              exact .nil (.then_n (.ret (.ret1 [] (by simp) rfl rfl ⟨rfl, rfl⟩)))

def F_route_Known_L2 (x3 : List api_Entry) (again2 : (List route_Choice × Int) → Option (List route_Choice)) (st : List route_Choice × Int) : Option (List route_Choice) :=
  match st with | (l_b14_2, s33_2) => cond (decide (s33_2 < (((x3).length : Nat) : Int))) ((ixL x3 s33_2).bind fun x4 => cond (decide (0 ≤ x4.Na)) ((appG l_b14_2 ([(route_Choice.mk x4.A false x4.P x4.Na)] : List route_Choice)).bind fun x5 => cond (decide (0 ≤ x4.Nb)) ((appG x5 ([(route_Choice.mk x4.B false x4.P x4.Nb)] : List route_Choice)).bind fun x6 => again2 (x6, (IntKind.wrap .i64 (s33_2 + 1)))) (again2 (x5, (IntKind.wrap .i64 (s33_2 + 1))))) (cond (decide (0 ≤ x4.Nb)) ((appG l_b14_2 ([(route_Choice.mk x4.B false x4.P x4.Nb)] : List route_Choice)).bind fun x7 => again2 (x7, (IntKind.wrap .i64 (s33_2 + 1)))) (again2 (l_b14_2, (IntKind.wrap .i64 (s33_2 + 1)))))) (some l_b14_2)
def F_route_Known_L1 (a1 : List api_Near) (a2_most : Int) (a2_m : MS api_Path api_Entry) (again1 : (List route_Choice × Int) → Option (List route_Choice)) (st : List route_Choice × Int) : Option (List route_Choice) :=
  match st with | (l_b14_1, s17_1) => cond (decide (s17_1 < (((a1).length : Nat) : Int))) ((ixL a1 s17_1).bind fun x1 => (appG l_b14_1 ([(route_Choice.mk x1.ID true (api_Path.mk Idn.zero 0) x1.N)] : List route_Choice)).bind fun x2 => again1 (x2, (IntKind.wrap .i64 (s17_1 + 1)))) ((F_table_Table_All a2_most a2_m).bind fun x3 => iter (F_route_Known_L2 x3) FUEL (l_b14_1, 0))
def F_route_Known (a0 : Idn) (a1 : List api_Near) (a2_most : Int) (a2_m : MS api_Path api_Entry) : Option (List route_Choice) :=
  iter (F_route_Known_L1 a1 a2_most a2_m) FUEL (([(route_Choice.mk a0 false (api_Path.mk Idn.zero 0) (-1))] : List route_Choice), 0)
theorem W_route_Known (a0 : Idn) (a1 : List api_Near) (a2_most : Int) (a2_m : MS api_Path api_Entry) (p_a1 : Option Addr) (c_a1 : Nat) (b_a2 : Nat) (b_a2_m : Nat) (r : List route_Choice) (H : F_route_Known a0 a1 a2_most a2_m = some r) (w : World) (hR_a1 : Ro api_Near.enc 17 w p_a1 a1 c_a1) (hB_b_a2 : w.heap[b_a2]? = some (.cells (table_Table.enc (table_Table.mk a2_most (.map (some b_a2_m)))) T_table_Table (0, 0))) (hB_b_a2_m : w.heap[b_a2_m]? = some (MS.obj (vA api_Path.enc) (vA api_Entry.enc) a2_m)) :
    Calls PG f_route_Known #[.agg (Idn.enc a0), .slice p_a1 (a1).length c_a1, .pointer (some ⟨b_a2, 0, none⟩)] w (Ret w [] (fun v nm => ∃ (k_o_q0 : Option Nat) (c_o_q0 : Nat) (r_o_q0 : Array Value), v = slv k_o_q0 (r).length c_o_q0 ∧ nm = [(k_o_q0, .cells (catA ((r).map route_Choice.enc) ++ r_o_q0) T_route_Choice (0, 0))] ∧ OwnS 35 k_o_q0 (r).length c_o_q0 r_o_q0)) := by
  unfold F_route_Known at H
  refine enter0 (n := 65) (args := [.agg (Idn.enc a0), .slice p_a1 (a1).length c_a1, .pointer (some ⟨b_a2, 0, none⟩)]) B_route_Known rfl rfl (by simp) ?_
  refine .seq (.region (?_))
  refine .box rfl rfl (by decide) fun b3 hb3 => ?_
  refine .step (.as rfl) (by decide) ?_
  refine .nil (.then_n (.seq (.region (?_))))
  refine .step (.ldA rfl (.i 0 rfl) A_api_ID Z_api_ID (Idn.size _)) (by decide) ?_
  refine .step (.bdS rfl N_route_Choice rfl W_route_Choice (.cons rfl (Idn.size _) (le_of (route_Choice.size _) (by decide)) (route_Choice.u_ID _ _) (.cons rfl rfl (le_of (route_Choice.size _) (by decide)) (route_Choice.u_N _ _) (.nil)))) (by decide) ?_
  refine .bsL (vs := [.agg (route_Choice.enc (route_Choice.mk a0 false (api_Path.mk Idn.zero 0) (-1)))]) (c := catA (([(route_Choice.mk a0 false (api_Path.mk Idn.zero 0) (-1))] : List route_Choice).map route_Choice.enc) ++ #[]) (len := 1) L_sl_route_Choice Z_route_Choice N_route_Choice rfl rfl (by intro v hv; simp only [List.mem_cons, List.not_mem_nil, or_false] at hv; subst hv; exact route_Choice.size _) (by rw [Array.append_empty]; rfl) (by decide) (by decide) (by decide) fun b14 hb14 => ?_
  have hob14 : OwnS 35 (some b14) ([(route_Choice.mk a0 false (api_Path.mk Idn.zero 0) (-1))] : List route_Choice).length 1 #[] := ⟨rfl, Nat.le_refl _, fun h => by cases h⟩
  refine .step (.as rfl) (by decide) ?_
  refine .nil (.then_n (.seq (.seq (.region (?_)))))
  refine .step (.mv rfl) (by decide) ?_
  refine .step (.len L_sl_api_Near rfl) (by decide) ?_
  refine .step (.mv rfl) (by decide) ?_
  refine .nil (.then_n (.block (.loop (G := Nat × (List route_Choice × Int) × (Option Nat) × (Nat) × (Array Value)) (fun g => iter (F_route_Known_L1 a1 a2_most a2_m) g.1 g.2.1 = some r ∧ OwnS 35 g.2.2.1 (g.2.1.1).length g.2.2.2.1 g.2.2.2.2) (fun g => [(g.2.2.1, .cells (catA ((g.2.1.1).map route_Choice.enc) ++ g.2.2.2.2) T_route_Choice (0, 0)), (some b3, .cells (Idn.enc a0) T_api_ID (0, 0))]) (fun g => [(2, .pointer (some ⟨b_a2, 0, none⟩)), (7, slv g.2.2.1 (g.2.1.1).length g.2.2.2.1), (15, .slice p_a1 (a1).length c_a1), (16, .int .i64 ((((a1).length : Nat) : Int))), (17, .int .i64 (g.2.1.2))]) (fun g => g.1) ⟨FUEL, (([(route_Choice.mk a0 false (api_Path.mk Idn.zero 0) (-1))] : List route_Choice), 0), (some b14), 1, #[]⟩ ⟨H, hob14⟩ (.refl _) (.cons rfl (.cons rfl (.cons rfl (.cons rfl (.cons rfl .nil))))) ?_)))
  rintro ⟨_ | fl1, ⟨l_b14_1, s17_1⟩, k_b14_1, c_b14_1, r_b14_1⟩ ⟨H, ho_b14_1⟩
  · exact (iter_0 H).elim
  replace H := iter_s H; rw [F_route_Known_L1] at H; dsimp only at H ⊢
  refine .seq (.region (?_))
  refine .step (.lss rfl rfl) (by decide) ?_
  refine .nil (.then_n (.seq (.cond rfl (fun hc1 => ?_) (fun hc1 => ?_))))
  · replace H := cond_t hc1 H
    refine .skip (.then_n (.seq (.block (.seq (.region (?_))))))
    obtain ⟨x1, hx1, H⟩ := bind_s H
    refine .step (.ixP (.par hR_a1) hx1 rfl rfl L_sl_api_Near Z_api_Near) (by decide) ?_
    refine .step (.ldP (.par hR_a1) hx1 rfl A_api_Near Z_api_Near) (by decide) ?_
    refine .alloc N_api_Near rfl (by decide) fun b9 hb9 => ?_
    refine .storeA 0 rfl rfl rfl rfl Z_api_Near (api_Near.size _) (api_Near.one _) (api_Near.size _) ?_
    refine .nil (.then_n (.region (?_)))
    refine .step (.mv rfl) (by decide) ?_
    refine .step (.fa rfl F_api_Near_ID Z_api_ID) (by decide) ?_
    refine .step (.lds rfl (.i 0 rfl) A_api_ID Z_api_ID (api_Near.s_ID _)) (by decide) ?_
    refine .step (.fa rfl F_api_Near_N Z_int) (by decide) ?_
    refine .step (.ld1 rfl (.i 0 rfl) A_int (api_Near.g_N _)) (by decide) ?_
    refine .step (.bdS rfl N_route_Choice rfl W_route_Choice (.cons rfl (Idn.size _) (le_of (route_Choice.size _) (by decide)) (route_Choice.u_ID _ _) (.cons rfl rfl (le_of (route_Choice.size _) (by decide)) (route_Choice.u_Near _ _) (.cons rfl rfl (le_of (route_Choice.size _) (by decide)) (route_Choice.u_N _ _) (.nil))))) (by decide) ?_
    refine .bsL (vs := [.agg (route_Choice.enc (route_Choice.mk x1.ID true (api_Path.mk Idn.zero 0) x1.N))]) (c := catA (([(route_Choice.mk x1.ID true (api_Path.mk Idn.zero 0) x1.N)] : List route_Choice).map route_Choice.enc) ++ #[]) (len := 1) L_sl_route_Choice Z_route_Choice N_route_Choice rfl rfl (by intro v hv; simp only [List.mem_cons, List.not_mem_nil, or_false] at hv; subst hv; exact route_Choice.size _) (by rw [Array.append_empty]; rfl) (by decide) (by decide) (by decide) fun b27 hb27 => ?_
    have hob27 : OwnS 35 (some b27) ([(route_Choice.mk x1.ID true (api_Path.mk Idn.zero 0) x1.N)] : List route_Choice).length 1 #[] := ⟨rfl, Nat.le_refl _, fun h => by cases h⟩
    obtain ⟨x2, hx2, H⟩ := bind_s H
    refine .appX 2 route_Choice.size ho_b14_1 (.own 0 route_Choice.size rfl hob27) hx2 rfl rfl rfl L_sl_route_Choice Z_route_Choice Y_route_Choice N_route_Choice (route_Choice.size _) (by decide) (by decide) (fun a _ => route_Choice.one a) (by decide) fun k_q1 c_q1 r_q1 ho_q1 => ?_
    refine .step (.as rfl) (by decide) ?_
    refine .nil (.blk_n (.then_n (.region (?_))))
    refine .step (.add rfl rfl) (by decide) ?_
    refine .step (.mv rfl) (by decide) ?_
    refine .nil (.then_n (?_))
    exact .again ⟨fl1, (x2, (IntKind.wrap .i64 (s17_1 + 1))), k_q1, c_q1, r_q1⟩ ⟨H, ho_q1⟩ (Nat.lt_succ_self _) (.cons _ (.cons _ (.refl _))) (.cons rfl (.cons rfl (.cons rfl (.cons rfl (.cons rfl .nil)))))
  · replace H := cond_f hc1 H
    refine .exit (.then_x (.then_x (.blk_x (.then_n (.seq (.seq (.region (?_))))))))
    refine .step (.mv rfl) (by decide) ?_
    obtain ⟨x3, hx3, H⟩ := bind_s H
    refine .call0 rfl E_table_Table_All rfl rfl (fun w hm hf => W_table_Table_All a2_most a2_m _ _ _ hx3 w (Kn.at (.o hB_b_a2 (by simp)) hm hf) (Kn.at (.o hB_b_a2_m (by simp)) hm hf)) (by decide) fun v nm hR => ?_
    obtain ⟨k_o_31, c_o_31, r_o_31, rfl, rfl, ho_o_31⟩ := hR
    refine .step (.len L_sl_api_Entry rfl) (by decide) ?_
    refine .step (.mv rfl) (by decide) ?_
    refine .nil (.then_n (.block (.loop (G := Nat × (List route_Choice × Int) × (Option Nat) × (Nat) × (Array Value)) (fun g => iter (F_route_Known_L2 x3) g.1 g.2.1 = some r ∧ OwnS 35 g.2.2.1 (g.2.1.1).length g.2.2.2.1 g.2.2.2.2) (fun g => [(k_o_31, .cells (catA ((x3).map api_Entry.enc) ++ r_o_31) T_api_Entry (0, 0)), (g.2.2.1, .cells (catA ((g.2.1.1).map route_Choice.enc) ++ g.2.2.2.2) T_route_Choice (0, 0)), (some b3, .cells (Idn.enc a0) T_api_ID (0, 0))]) (fun g => [(7, slv g.2.2.1 (g.2.1.1).length g.2.2.2.1), (31, slv k_o_31 (x3).length c_o_31), (32, .int .i64 ((((x3).length : Nat) : Int))), (33, .int .i64 (g.2.1.2))]) (fun g => g.1) ⟨FUEL, (l_b14_1, 0), k_b14_1, c_b14_1, r_b14_1⟩ ⟨H, ho_b14_1⟩ (.refl _) (.cons rfl (.cons rfl (.cons rfl (.cons rfl .nil)))) ?_)))
    rintro ⟨_ | fl2, ⟨l_b14_2, s33_2⟩, k_b14_2, c_b14_2, r_b14_2⟩ ⟨H, ho_b14_2⟩
    · exact (iter_0 H).elim
    replace H := iter_s H; rw [F_route_Known_L2] at H; dsimp only at H ⊢
    refine .seq (.region (?_))
    refine .step (.lss rfl rfl) (by decide) ?_
    refine .nil (.then_n (.seq (.cond rfl (fun hc2 => ?_) (fun hc2 => ?_))))
    · replace H := cond_t hc2 H
      refine .skip (.then_n (.seq (.block (.seq (.region (?_))))))
      obtain ⟨x4, hx4, H⟩ := bind_s H
      refine .step (.ixP (.own 0 api_Entry.size rfl ho_o_31) hx4 rfl rfl L_sl_api_Entry Z_api_Entry) (by decide) ?_
      refine .step (.ldP (.own 0 api_Entry.size rfl ho_o_31) hx4 rfl A_api_Entry Z_api_Entry) (by decide) ?_
      refine .alloc N_api_Entry rfl (by decide) fun b11 hb11 => ?_
      refine .storeA 0 rfl rfl rfl rfl Z_api_Entry (api_Entry.size _) (api_Entry.one _) (api_Entry.size _) ?_
      refine .nil (.then_n (.seq (.seq (.region (?_)))))
      refine .step (.fa rfl F_api_Entry_Na Z_int) (by decide) ?_
      refine .step (.ld1 rfl (.i 0 rfl) A_int (api_Entry.g_Na _)) (by decide) ?_
      refine .step (.geq rfl rfl) (by decide) ?_
      refine .nil (.then_n (.cond rfl (fun hc3 => ?_) (fun hc3 => ?_)))
      · replace H := cond_t hc3 H
        refine .region (?_)
        refine .step (.mv rfl) (by decide) ?_
        refine .step (.fa rfl F_api_Entry_A Z_api_ID) (by decide) ?_
        refine .step (.lds rfl (.i 0 rfl) A_api_ID Z_api_ID (api_Entry.s_A _)) (by decide) ?_
        refine .step (.fa rfl F_api_Entry_P Z_api_Path) (by decide) ?_
        refine .step (.lds rfl (.i 0 rfl) A_api_Path Z_api_Path (api_Entry.s_P _)) (by decide) ?_
        refine .step (.fa rfl F_api_Entry_Na Z_int) (by decide) ?_
        refine .step (.ld1 rfl (.i 0 rfl) A_int (api_Entry.g_Na _)) (by decide) ?_
        refine .step (.bdS rfl N_route_Choice rfl W_route_Choice (.cons rfl (Idn.size _) (le_of (route_Choice.size _) (by decide)) (route_Choice.u_ID _ _) (.cons rfl (api_Path.size _) (le_of (route_Choice.size _) (by decide)) (route_Choice.u_P _ _) (.cons rfl rfl (le_of (route_Choice.size _) (by decide)) (route_Choice.u_N _ _) (.nil))))) (by decide) ?_
        refine .bsL (vs := [.agg (route_Choice.enc (route_Choice.mk x4.A false x4.P x4.Na))]) (c := catA (([(route_Choice.mk x4.A false x4.P x4.Na)] : List route_Choice).map route_Choice.enc) ++ #[]) (len := 1) L_sl_route_Choice Z_route_Choice N_route_Choice rfl rfl (by intro v hv; simp only [List.mem_cons, List.not_mem_nil, or_false] at hv; subst hv; exact route_Choice.size _) (by rw [Array.append_empty]; rfl) (by decide) (by decide) (by decide) fun b48 hb48 => ?_
        have hob48 : OwnS 35 (some b48) ([(route_Choice.mk x4.A false x4.P x4.Na)] : List route_Choice).length 1 #[] := ⟨rfl, Nat.le_refl _, fun h => by cases h⟩
        obtain ⟨x5, hx5, H⟩ := bind_s H
        refine .appX 3 route_Choice.size ho_b14_2 (.own 0 route_Choice.size rfl hob48) hx5 rfl rfl rfl L_sl_route_Choice Z_route_Choice Y_route_Choice N_route_Choice (route_Choice.size _) (by decide) (by decide) (fun a _ => route_Choice.one a) (by decide) fun k_q2 c_q2 r_q2 ho_q2 => ?_
        refine .step (.as rfl) (by decide) ?_
        refine .nil (.then_n (.seq (.region (?_))))
        refine .step (.fa rfl F_api_Entry_Nb Z_int) (by decide) ?_
        refine .step (.ld1 rfl (.i 1 rfl) A_int (api_Entry.g_Nb _)) (by decide) ?_
        refine .step (.geq rfl rfl) (by decide) ?_
        refine .nil (.then_n (.cond rfl (fun hc4 => ?_) (fun hc4 => ?_)))
        · replace H := cond_t hc4 H
          refine .region (?_)
          refine .step (.mv rfl) (by decide) ?_
          refine .step (.fa rfl F_api_Entry_B Z_api_ID) (by decide) ?_
          refine .step (.lds rfl (.i 1 rfl) A_api_ID Z_api_ID (api_Entry.s_B _)) (by decide) ?_
          refine .step (.fa rfl F_api_Entry_P Z_api_Path) (by decide) ?_
          refine .step (.lds rfl (.i 1 rfl) A_api_Path Z_api_Path (api_Entry.s_P _)) (by decide) ?_
          refine .step (.fa rfl F_api_Entry_Nb Z_int) (by decide) ?_
          refine .step (.ld1 rfl (.i 1 rfl) A_int (api_Entry.g_Nb _)) (by decide) ?_
          refine .step (.bdS rfl N_route_Choice rfl W_route_Choice (.cons rfl (Idn.size _) (le_of (route_Choice.size _) (by decide)) (route_Choice.u_ID _ _) (.cons rfl (api_Path.size _) (le_of (route_Choice.size _) (by decide)) (route_Choice.u_P _ _) (.cons rfl rfl (le_of (route_Choice.size _) (by decide)) (route_Choice.u_N _ _) (.nil))))) (by decide) ?_
          refine .bsL (vs := [.agg (route_Choice.enc (route_Choice.mk x4.B false x4.P x4.Nb))]) (c := catA (([(route_Choice.mk x4.B false x4.P x4.Nb)] : List route_Choice).map route_Choice.enc) ++ #[]) (len := 1) L_sl_route_Choice Z_route_Choice N_route_Choice rfl rfl (by intro v hv; simp only [List.mem_cons, List.not_mem_nil, or_false] at hv; subst hv; exact route_Choice.size _) (by rw [Array.append_empty]; rfl) (by decide) (by decide) (by decide) fun b61 hb61 => ?_
          have hob61 : OwnS 35 (some b61) ([(route_Choice.mk x4.B false x4.P x4.Nb)] : List route_Choice).length 1 #[] := ⟨rfl, Nat.le_refl _, fun h => by cases h⟩
          obtain ⟨x6, hx6, H⟩ := bind_s H
          refine .appX 4 route_Choice.size ho_q2 (.own 0 route_Choice.size rfl hob61) hx6 rfl rfl rfl L_sl_route_Choice Z_route_Choice Y_route_Choice N_route_Choice (route_Choice.size _) (by decide) (by decide) (fun a _ => route_Choice.one a) (by decide) fun k_q3 c_q3 r_q3 ho_q3 => ?_
          refine .step (.as rfl) (by decide) ?_
          refine .nil (.blk_n (.then_n (.region (?_))))
          refine .step (.add rfl rfl) (by decide) ?_
          refine .step (.mv rfl) (by decide) ?_
          refine .nil (.then_n (?_))
          exact .again ⟨fl2, (x6, (IntKind.wrap .i64 (s33_2 + 1))), k_q3, c_q3, r_q3⟩ ⟨H, ho_q3⟩ (Nat.lt_succ_self _) (.cons _ (.cons _ (.cons _ (.refl _)))) (.cons rfl (.cons rfl (.cons rfl (.cons rfl .nil))))
        · replace H := cond_f hc4 H
          refine .skip (.blk_n (.then_n (.region (?_))))
          refine .step (.add rfl rfl) (by decide) ?_
          refine .step (.mv rfl) (by decide) ?_
          refine .nil (.then_n (?_))
          exact .again ⟨fl2, (x5, (IntKind.wrap .i64 (s33_2 + 1))), k_q2, c_q2, r_q2⟩ ⟨H, ho_q2⟩ (Nat.lt_succ_self _) (.cons _ (.cons _ (.refl _))) (.cons rfl (.cons rfl (.cons rfl (.cons rfl .nil))))
      · replace H := cond_f hc3 H
        refine .skip (.then_n (.seq (.region (?_))))
        refine .step (.fa rfl F_api_Entry_Nb Z_int) (by decide) ?_
        refine .step (.ld1 rfl (.i 0 rfl) A_int (api_Entry.g_Nb _)) (by decide) ?_
        refine .step (.geq rfl rfl) (by decide) ?_
        refine .nil (.then_n (.cond rfl (fun hc5 => ?_) (fun hc5 => ?_)))
        · replace H := cond_t hc5 H
          refine .region (?_)
          refine .step (.mv rfl) (by decide) ?_
          refine .step (.fa rfl F_api_Entry_B Z_api_ID) (by decide) ?_
          refine .step (.lds rfl (.i 0 rfl) A_api_ID Z_api_ID (api_Entry.s_B _)) (by decide) ?_
          refine .step (.fa rfl F_api_Entry_P Z_api_Path) (by decide) ?_
          refine .step (.lds rfl (.i 0 rfl) A_api_Path Z_api_Path (api_Entry.s_P _)) (by decide) ?_
          refine .step (.fa rfl F_api_Entry_Nb Z_int) (by decide) ?_
          refine .step (.ld1 rfl (.i 0 rfl) A_int (api_Entry.g_Nb _)) (by decide) ?_
          refine .step (.bdS rfl N_route_Choice rfl W_route_Choice (.cons rfl (Idn.size _) (le_of (route_Choice.size _) (by decide)) (route_Choice.u_ID _ _) (.cons rfl (api_Path.size _) (le_of (route_Choice.size _) (by decide)) (route_Choice.u_P _ _) (.cons rfl rfl (le_of (route_Choice.size _) (by decide)) (route_Choice.u_N _ _) (.nil))))) (by decide) ?_
          refine .bsL (vs := [.agg (route_Choice.enc (route_Choice.mk x4.B false x4.P x4.Nb))]) (c := catA (([(route_Choice.mk x4.B false x4.P x4.Nb)] : List route_Choice).map route_Choice.enc) ++ #[]) (len := 1) L_sl_route_Choice Z_route_Choice N_route_Choice rfl rfl (by intro v hv; simp only [List.mem_cons, List.not_mem_nil, or_false] at hv; subst hv; exact route_Choice.size _) (by rw [Array.append_empty]; rfl) (by decide) (by decide) (by decide) fun b61 hb61 => ?_
          have hob61 : OwnS 35 (some b61) ([(route_Choice.mk x4.B false x4.P x4.Nb)] : List route_Choice).length 1 #[] := ⟨rfl, Nat.le_refl _, fun h => by cases h⟩
          obtain ⟨x7, hx7, H⟩ := bind_s H
          refine .appX 3 route_Choice.size ho_b14_2 (.own 0 route_Choice.size rfl hob61) hx7 rfl rfl rfl L_sl_route_Choice Z_route_Choice Y_route_Choice N_route_Choice (route_Choice.size _) (by decide) (by decide) (fun a _ => route_Choice.one a) (by decide) fun k_q4 c_q4 r_q4 ho_q4 => ?_
          refine .step (.as rfl) (by decide) ?_
          refine .nil (.blk_n (.then_n (.region (?_))))
          refine .step (.add rfl rfl) (by decide) ?_
          refine .step (.mv rfl) (by decide) ?_
          refine .nil (.then_n (?_))
          exact .again ⟨fl2, (x7, (IntKind.wrap .i64 (s33_2 + 1))), k_q4, c_q4, r_q4⟩ ⟨H, ho_q4⟩ (Nat.lt_succ_self _) (.cons _ (.cons _ (.refl _))) (.cons rfl (.cons rfl (.cons rfl (.cons rfl .nil))))
        · replace H := cond_f hc5 H
          refine .skip (.blk_n (.then_n (.region (?_))))
          refine .step (.add rfl rfl) (by decide) ?_
          refine .step (.mv rfl) (by decide) ?_
          refine .nil (.then_n (?_))
          exact .again ⟨fl2, (l_b14_2, (IntKind.wrap .i64 (s33_2 + 1))), k_b14_2, c_b14_2, r_b14_2⟩ ⟨H, ho_b14_2⟩ (Nat.lt_succ_self _) (.cons _ (.refl _)) (.cons rfl (.cons rfl (.cons rfl (.cons rfl .nil))))
    · replace H := cond_f hc2 H
      refine .exit (.then_x (.then_x (.blk_x (.then_n (.seq (.region (?_)))))))
      refine .step (.mv rfl) (by decide) ?_
      refine .step (.as rfl) (by decide) ?_
      cases H
      exact .nil (.then_n (.ret (.ret1 [_] (.cons _ (.cons_cons _ (.cons _ (.slnil)))) rfl rfl ⟨k_b14_2, c_b14_2, r_b14_2, rfl, rfl, ho_b14_2⟩)))

def F_route_Choose_L1 (a0 : Idn) (x1 : List route_Choice) (again1 : (route_Choice × Int) → Option (route_Choice)) (st : route_Choice × Int) : Option (route_Choice) :=
  match st with | (v_b9_1, s19_1) => cond (decide (s19_1 < (((x1).length : Nat) : Int))) ((ixL x1 s19_1).bind fun x2 => (F_route_Before a0 x2 v_b9_1).bind fun x3 => cond x3 (again1 (x2, (IntKind.wrap .i64 (s19_1 + 1)))) (again1 (v_b9_1, (IntKind.wrap .i64 (s19_1 + 1))))) (some v_b9_1)
def F_route_Choose (a0 : Idn) (a1 : Idn) (a2 : List api_Near) (a3_most : Int) (a3_m : MS api_Path api_Entry) : Option (route_Choice) :=
  (F_route_Known a1 a2 a3_most a3_m).bind fun x1 => iter (F_route_Choose_L1 a0 x1) FUEL ((route_Choice.mk a1 false (api_Path.mk Idn.zero 0) (-1)), 0)
theorem W_route_Choose (a0 : Idn) (a1 : Idn) (a2 : List api_Near) (a3_most : Int) (a3_m : MS api_Path api_Entry) (p_a2 : Option Addr) (c_a2 : Nat) (b_a3 : Nat) (b_a3_m : Nat) (r : route_Choice) (H : F_route_Choose a0 a1 a2 a3_most a3_m = some r) (w : World) (hR_a2 : Ro api_Near.enc 17 w p_a2 a2 c_a2) (hB_b_a3 : w.heap[b_a3]? = some (.cells (table_Table.enc (table_Table.mk a3_most (.map (some b_a3_m)))) T_table_Table (0, 0))) (hB_b_a3_m : w.heap[b_a3_m]? = some (MS.obj (vA api_Path.enc) (vA api_Entry.enc) a3_m)) :
    Calls PG f_route_Choose #[.agg (Idn.enc a0), .agg (Idn.enc a1), .slice p_a2 (a2).length c_a2, .pointer (some ⟨b_a3, 0, none⟩)] w (Ret w [] (fun v nm => v = .agg (route_Choice.enc r) ∧ nm = [])) := by
  unfold F_route_Choose at H
  refine enter0 (n := 30) (args := [.agg (Idn.enc a0), .agg (Idn.enc a1), .slice p_a2 (a2).length c_a2, .pointer (some ⟨b_a3, 0, none⟩)]) B_route_Choose rfl rfl (by simp) ?_
  refine .seq (.region (?_))
  refine .box rfl rfl (by decide) fun b4 hb4 => ?_
  refine .box rfl rfl (by decide) fun b5 hb5 => ?_
  refine .alloc N_route_Choice rfl (by decide) fun b8 hb8 => ?_
  refine .nil (.then_n (.seq (.region (?_))))
  refine .step (.ldA rfl (.i 1 rfl) A_api_ID Z_api_ID (Idn.size _)) (by decide) ?_
  refine .step (.bdS rfl N_route_Choice rfl W_route_Choice (.cons rfl (Idn.size _) (le_of (route_Choice.size _) (by decide)) (route_Choice.u_ID _ _) (.cons rfl rfl (le_of (route_Choice.size _) (by decide)) (route_Choice.u_N _ _) (.nil)))) (by decide) ?_
  refine .alloc N_route_Choice rfl (by decide) fun b9 hb9 => ?_
  refine .storeA 0 rfl rfl rfl rfl Z_route_Choice (route_Choice.size _) (route_Choice.one _) (route_Choice.size _) ?_
  refine .nil (.then_n (.seq (.seq (.region (?_)))))
  refine .step (.ldA rfl (.i 2 rfl) A_api_ID Z_api_ID (Idn.size _)) (by decide) ?_
  refine .step (.mv rfl) (by decide) ?_
  refine .step (.mv rfl) (by decide) ?_
  obtain ⟨x1, hx1, H⟩ := bind_s H
  refine .call0 rfl E_route_Known rfl rfl (fun w hm hf => W_route_Known a1 a2 a3_most a3_m _ _ _ _ _ hx1 w (RoK.at ((RoK.par hR_a2)) hm hf) (Kn.at (.o hB_b_a3 (by simp)) hm hf) (Kn.at (.o hB_b_a3_m (by simp)) hm hf)) (by decide) fun v nm hR => ?_
  obtain ⟨k_o_17, c_o_17, r_o_17, rfl, rfl, ho_o_17⟩ := hR
  refine .step (.len L_sl_route_Choice rfl) (by decide) ?_
  refine .step (.mv rfl) (by decide) ?_
  refine .nil (.then_n (.block (.loop (G := Nat × (route_Choice × Int)) (fun g => iter (F_route_Choose_L1 a0 x1) g.1 g.2 = some r) (fun g => [(k_o_17, .cells (catA ((x1).map route_Choice.enc) ++ r_o_17) T_route_Choice (0, 0)), (some b9, .cells (route_Choice.enc g.2.1) T_route_Choice (0, 0)), (some b8, .cells (route_Choice.enc (route_Choice.mk Idn.zero false (api_Path.mk Idn.zero 0) 0)) T_route_Choice (0, 0)), (some b5, .cells (Idn.enc a1) T_api_ID (0, 0)), (some b4, .cells (Idn.enc a0) T_api_ID (0, 0))]) (fun g => [(4, .pointer (some ⟨b4, 0, none⟩)), (8, .pointer (some ⟨b8, 0, none⟩)), (9, .pointer (some ⟨b9, 0, none⟩)), (17, slv k_o_17 (x1).length c_o_17), (18, .int .i64 ((((x1).length : Nat) : Int))), (19, .int .i64 (g.2.2))]) (fun g => g.1) ⟨FUEL, ((route_Choice.mk a1 false (api_Path.mk Idn.zero 0) (-1)), 0)⟩ H (.refl _) (.cons rfl (.cons rfl (.cons rfl (.cons rfl (.cons rfl (.cons rfl .nil)))))) ?_)))
  rintro ⟨_ | fl1, ⟨v_b9_1, s19_1⟩⟩ H
  · exact (iter_0 H).elim
  replace H := iter_s H; rw [F_route_Choose_L1] at H; dsimp only at H ⊢
  refine .seq (.region (?_))
  refine .step (.lss rfl rfl) (by decide) ?_
  refine .nil (.then_n (.seq (.cond rfl (fun hc1 => ?_) (fun hc1 => ?_))))
  · replace H := cond_t hc1 H
    refine .skip (.then_n (.seq (.block (.seq (.region (?_))))))
    obtain ⟨x2, hx2, H⟩ := bind_s H
    refine .step (.ixP (.own 0 route_Choice.size rfl ho_o_17) hx2 rfl rfl L_sl_route_Choice Z_route_Choice) (by decide) ?_
    refine .step (.ldP (.own 0 route_Choice.size rfl ho_o_17) hx2 rfl A_route_Choice Z_route_Choice) (by decide) ?_
    refine .alloc N_route_Choice rfl (by decide) fun b11 hb11 => ?_
    refine .storeA 0 rfl rfl rfl rfl Z_route_Choice (route_Choice.size _) (route_Choice.one _) (route_Choice.size _) ?_
    refine .nil (.then_n (.seq (.region (?_))))
    refine .step (.ldA rfl (.i 5 rfl) A_api_ID Z_api_ID (Idn.size _)) (by decide) ?_
    refine .step (.ldA rfl (.i 0 rfl) A_route_Choice Z_route_Choice (route_Choice.size _)) (by decide) ?_
    refine .step (.ldA rfl (.i 2 rfl) A_route_Choice Z_route_Choice (route_Choice.size _)) (by decide) ?_
    obtain ⟨x3, hx3, H⟩ := bind_s H
    refine .callQ (v := .bool (x3)) rfl E_route_Before rfl rfl (fun w hm hf => W_route_Before a0 x2 v_b9_1  _ hx3 w ) (by decide) ?_
    refine .nil (.then_n (.cond rfl (fun hc2 => ?_) (fun hc2 => ?_)))
    · replace H := cond_t hc2 H
      refine .region (?_)
      refine .step (.ldA rfl (.i 0 rfl) A_route_Choice Z_route_Choice (route_Choice.size _)) (by decide) ?_
      refine .storeA 2 rfl rfl rfl rfl Z_route_Choice (route_Choice.size _) (route_Choice.one _) (route_Choice.size _) ?_
      refine .nil (.blk_n (.then_n (.region (?_))))
      refine .step (.add rfl rfl) (by decide) ?_
      refine .step (.mv rfl) (by decide) ?_
      refine .nil (.then_n (?_))
      exact .again ⟨fl1, (x2, (IntKind.wrap .i64 (s19_1 + 1)))⟩ H (Nat.lt_succ_self _) (.cons _ (.refl _)) (.cons rfl (.cons rfl (.cons rfl (.cons rfl (.cons rfl (.cons rfl .nil))))))
    · replace H := cond_f hc2 H
      refine .skip (.blk_n (.then_n (.region (?_))))
      refine .step (.add rfl rfl) (by decide) ?_
      refine .step (.mv rfl) (by decide) ?_
      refine .nil (.then_n (?_))
      exact .again ⟨fl1, (v_b9_1, (IntKind.wrap .i64 (s19_1 + 1)))⟩ H (Nat.lt_succ_self _) (.cons _ (.refl _)) (.cons rfl (.cons rfl (.cons rfl (.cons rfl (.cons rfl (.cons rfl .nil))))))
  · replace H := cond_f hc1 H
    refine .exit (.then_x (.then_x (.blk_x (.then_n (.seq (.region (?_)))))))
    refine .step (.ldA rfl (.i 1 rfl) A_route_Choice Z_route_Choice (route_Choice.size _)) (by decide) ?_
    refine .storeA 2 rfl rfl rfl rfl Z_route_Choice (route_Choice.size _) (route_Choice.one _) (route_Choice.size _) ?_
    cases H
    exact .nil (.then_n (.ret (.retR1 [] (by simp) rfl (.ce rfl (.i 2 rfl) A_route_Choice Z_route_Choice (route_Choice.size _)) ⟨rfl, rfl⟩)))

def F_annuletref01_Add (a0 : Idn) (a1 : Idn) : Option (Idn) :=
  some (Idn.sub a0 (Idn.sub Idn.zero a1))
theorem W_annuletref01_Add (a0 : Idn) (a1 : Idn) (r : Idn) (H : F_annuletref01_Add a0 a1 = some r) (w : World) :
    Calls PG f_annuletref01_Add #[.agg (Idn.enc a0), .agg (Idn.enc a1)] w (Ret w [] (fun v nm => v = .agg (Idn.enc r) ∧ nm = [])) := by
  unfold F_annuletref01_Add at H
  refine enter0 (n := 10) (args := [.agg (Idn.enc a0), .agg (Idn.enc a1)]) B_annuletref01_Add rfl rfl (by simp) ?_
  refine .seq (.region (?_))
  refine .box rfl rfl (by decide) fun b2 hb2 => ?_
  refine .box rfl rfl (by decide) fun b3 hb3 => ?_
  refine .alloc N_api_ID rfl (by decide) fun b4 hb4 => ?_
  refine .nil (.then_n (.seq (.drawsI [1, 2] rfl rfl ?_)))
  refine .first [0, 1, 2] 3 rfl (by kernel_rfl) (by kernel_rfl) ?_
  refine .s_step rfl rfl rfl (.ldA rfl (.i 1 rfl) A_api_ID Z_api_ID (Idn.size _)) (by decide) ?_
  refine .s_step rfl rfl rfl (.bdA (ps := []) rfl N_api_ID rfl R_api_ID Z_uint8 .nil) (by decide) ?_
  refine .s_step rfl rfl rfl (.ldA rfl (.i 0 rfl) A_api_ID Z_api_ID (Idn.size _)) (by decide) ?_
  refine .s_nil ?_
  refine .only (i := 3) (.cons _ (.refl _)) (by kernel_rfl) rfl ?_
  refine .callQ (v := .agg (Idn.enc (Idn.sub Idn.zero a1))) rfl E_annuletref01_Sub rfl rfl (fun w hm hf => ref01_Sub Idn.zero a1 w) (by decide) ?_
  refine .nil (.then_n ?_)
  refine .only (i := 4) (.cons _ (.refl _)) (by kernel_rfl) rfl ?_
  refine .callQ (v := .agg (Idn.enc (Idn.sub a0 (Idn.sub Idn.zero a1)))) rfl E_annuletref01_Sub rfl rfl (fun w hm hf => ref01_Sub a0 (Idn.sub Idn.zero a1) w) (by decide) ?_
  refine .nil (.then_n ?_)
  refine .only (i := 5) (.cons _ (.refl _)) (by kernel_rfl) rfl ?_
  refine .storeA 0 rfl rfl rfl rfl Z_api_ID (Idn.size _) (Idn.one _) (Idn.size _) ?_
  refine .nil (.then_n ?_)
  refine .done (.cons _ (.refl _)) (by kernel_rfl) ?_
  cases H
  exact .then_n (.ret (.retR1 [] (by simp) rfl (.ce rfl (.i 0 rfl) A_api_ID Z_api_ID (Idn.size _)) ⟨rfl, rfl⟩))

def F_annuletlaw13_n (a0 : Int) : Option (Idn) :=
  (mkIdn [(15, a0)]).bind fun x1 => some x1
theorem W_annuletlaw13_n (a0 : Int) (r : Idn) (H : F_annuletlaw13_n a0 = some r) (w : World) :
    Calls PG f_annuletlaw13_n #[.int .u8 (a0)] w (Ret w [] (fun v nm => v = .agg (Idn.enc r) ∧ nm = [])) := by
  unfold F_annuletlaw13_n at H
  refine enter0 (n := 5) (args := [.int .u8 (a0)]) B_annuletlaw13_n rfl rfl (by simp) ?_
  refine .seq (.region (?_))
  refine .alloc N_api_ID rfl (by decide) fun b2 hb2 => ?_
  refine .nil (.then_n (.seq (.region (?_))))
  refine .step (.mv rfl) (by decide) ?_
  obtain ⟨x1, hx1, H⟩ := bind_s H
  refine .step (.bdA rfl N_api_ID rfl R_api_ID Z_uint8 (mkIdn_bld hx1)) (by decide) ?_
  refine .storeA 0 rfl rfl rfl rfl Z_api_ID (Idn.size _) (Idn.one _) (Idn.size _) ?_
  cases H
  exact .nil (.then_n (.ret (.retR1 [] (by simp) rfl (.ce rfl (.i 0 rfl) A_api_ID Z_api_ID (Idn.size _)) ⟨rfl, rfl⟩)))

def F_annuletlaw13_laid_L1 (a0 : List api_Entry) (again1 : (Int × List api_Entry × Int × MS api_Path api_Entry × Int) → Option (Int × (MS api_Path api_Entry) × (List api_Entry))) (st : Int × List api_Entry × Int × MS api_Path api_Entry × Int) : Option (Int × (MS api_Path api_Entry) × (List api_Entry)) :=
  match st with | (v_b_9_Most_1, l_o_9_L_1, v_b_8_most_1, m_b_8_m_1, s12_1) => cond (decide (s12_1 < (((a0).length : Nat) : Int))) ((ixL a0 s12_1).bind fun x3 => (F_table_Table_Add v_b_8_most_1 m_b_8_m_1 x3).bind fun x4 => (F_annuletref12_Table_Add l_o_9_L_1 v_b_9_Most_1 x3).bind fun x5 => again1 (x5.2.2, x5.2.1, x4.2.1, x4.2.2, (IntKind.wrap .i64 (s12_1 + 1)))) (some (v_b_8_most_1, m_b_8_m_1, l_o_9_L_1))
def F_annuletlaw13_laid (a0 : List api_Entry) : Option (Int × (MS api_Path api_Entry) × (List api_Entry)) :=
  (F_table_New 128).bind fun x1 => (F_annuletref12_New 128).bind fun x2 => iter (F_annuletlaw13_laid_L1 a0) FUEL (x2.2, x2.1, x1.1, x1.2, 0)
theorem W_annuletlaw13_laid (a0 : List api_Entry) (p_a0 : Option Addr) (c_a0 : Nat) (r : Int × (MS api_Path api_Entry) × (List api_Entry)) (H : F_annuletlaw13_laid a0 = some r) (w : World) (hR_a0 : Ro api_Entry.enc 51 w p_a0 a0 c_a0) :
    Calls PG f_annuletlaw13_laid #[.slice p_a0 (a0).length c_a0] w (Ret w [] (fun v nm => ∃ (b_q0 : Nat) (b_q0_m : Nat) (k_o_q1 : Option Nat) (c_o_q1 : Nat) (r_o_q1 : Array Value), v = .tuple #[.pointer (some ⟨b_q0, 0, none⟩), slv k_o_q1 (r.2.2).length c_o_q1] ∧ nm = [(some b_q0, .cells (table_Table.enc (table_Table.mk r.1 (.map (some b_q0_m)))) T_table_Table (0, 0)), (some b_q0_m, MS.obj (vA api_Path.enc) (vA api_Entry.enc) r.2.1), (k_o_q1, .cells (catA ((r.2.2).map api_Entry.enc) ++ r_o_q1) T_api_Entry (0, 0))] ∧ OwnS 51 k_o_q1 (r.2.2).length c_o_q1 r_o_q1)) := by
  unfold F_annuletlaw13_laid at H
  refine enter0 (n := 28) (args := [.slice p_a0 (a0).length c_a0]) B_annuletlaw13_laid rfl rfl (by simp) ?_
  refine .seq (.region (?_))
  refine .step (.as rfl) (by decide) ?_
  refine .step (.as rfl) (by decide) ?_
  refine .nil (.then_n (.seq (.region (?_))))
  obtain ⟨x1, hx1, H⟩ := bind_s H
  refine .call0 rfl E_table_New rfl rfl (fun w hm hf => W_table_New 128  _ hx1 w ) (by decide) fun v nm hR => ?_
  obtain ⟨b_8, b_8_m, rfl, rfl⟩ := hR
  refine .step (.as rfl) (by decide) ?_
  refine .nil (.then_n (.seq (.region (?_))))
  obtain ⟨x2, hx2, H⟩ := bind_s H
  refine .call0 rfl E_annuletref12_New rfl rfl (fun w hm hf => W_annuletref12_New 128  _ hx2 w ) (by decide) fun v nm hR => ?_
  obtain ⟨b_9, k_o_9_L, c_o_9_L, r_o_9_L, rfl, rfl, ho_o_9_L⟩ := hR
  refine .step (.as rfl) (by decide) ?_
  refine .nil (.then_n (.seq (.seq (.region (?_)))))
  refine .step (.mv rfl) (by decide) ?_
  refine .step (.len L_sl_api_Entry rfl) (by decide) ?_
  refine .step (.mv rfl) (by decide) ?_
  refine .nil (.then_n (.block (.loop (G := Nat × (Int × List api_Entry × Int × MS api_Path api_Entry × Int) × (Option Nat) × (Nat) × (Array Value)) (fun g => iter (F_annuletlaw13_laid_L1 a0) g.1 g.2.1 = some r ∧ OwnS 51 g.2.2.1 (g.2.1.2.1).length g.2.2.2.1 g.2.2.2.2) (fun g => [(some b_9, .cells (annuletref12_Table.enc (annuletref12_Table.mk (slv g.2.2.1 (g.2.1.2.1).length g.2.2.2.1) g.2.1.1)) T_annuletref12_Table (0, 0)), (g.2.2.1, .cells (catA ((g.2.1.2.1).map api_Entry.enc) ++ g.2.2.2.2) T_api_Entry (0, 0)), (some b_8, .cells (table_Table.enc (table_Table.mk g.2.1.2.2.1 (.map (some b_8_m)))) T_table_Table (0, 0)), (some b_8_m, MS.obj (vA api_Path.enc) (vA api_Entry.enc) g.2.1.2.2.2.1)]) (fun g => [(4, .pointer (some ⟨b_8, 0, none⟩)), (5, .pointer (some ⟨b_9, 0, none⟩)), (10, .slice p_a0 (a0).length c_a0), (11, .int .i64 ((((a0).length : Nat) : Int))), (12, .int .i64 (g.2.1.2.2.2.2))]) (fun g => g.1) ⟨FUEL, (x2.2, x2.1, x1.1, x1.2, 0), k_o_9_L, c_o_9_L, r_o_9_L⟩ ⟨H, ho_o_9_L⟩ (.refl _) (.cons rfl (.cons rfl (.cons rfl (.cons rfl (.cons rfl .nil))))) ?_)))
  rintro ⟨_ | fl1, ⟨v_b_9_Most_1, l_o_9_L_1, v_b_8_most_1, m_b_8_m_1, s12_1⟩, k_o_9_L_1, c_o_9_L_1, r_o_9_L_1⟩ ⟨H, ho_o_9_L_1⟩
  · exact (iter_0 H).elim
  replace H := iter_s H; rw [F_annuletlaw13_laid_L1] at H; dsimp only at H ⊢
  refine .seq (.region (?_))
  refine .step (.lss rfl rfl) (by decide) ?_
  refine .nil (.then_n (.seq (.cond rfl (fun hc1 => ?_) (fun hc1 => ?_))))
  · replace H := cond_t hc1 H
    refine .skip (.then_n (.seq (.block (.seq (.region (?_))))))
    obtain ⟨x3, hx3, H⟩ := bind_s H
    refine .step (.ixP (.par hR_a0) hx3 rfl rfl L_sl_api_Entry Z_api_Entry) (by decide) ?_
    refine .step (.ldP (.par hR_a0) hx3 rfl A_api_Entry Z_api_Entry) (by decide) ?_
    refine .alloc N_api_Entry rfl (by decide) fun b7 hb7 => ?_
    refine .storeA 0 rfl rfl rfl rfl Z_api_Entry (api_Entry.size _) (api_Entry.one _) (api_Entry.size _) ?_
    refine .nil (.then_n (.seq (.region (?_))))
    refine .step (.mv rfl) (by decide) ?_
    refine .step (.ldA rfl (.i 0 rfl) A_api_Entry Z_api_Entry (api_Entry.size _)) (by decide) ?_
    obtain ⟨x4, hx4, H⟩ := bind_s H
    refine .sel [3, 4, 0, 1, 2] (by decide) rfl ?_
    refine .callM (dst := some 18) 2 rfl E_table_Table_Add rfl rfl (fun w hh => W_table_Table_Add v_b_8_most_1 m_b_8_m_1 x3 _ _ _ hx4 w hh.pk hh.pa ) (fun d hd => by cases hd; decide) fun v nm hR => ?_
    obtain ⟨rfl, rfl⟩ := hR
    refine .nil (.then_n (.region (?_)))
    refine .step (.mv rfl) (by decide) ?_
    refine .step (.ldA rfl (.i 2 rfl) A_api_Entry Z_api_Entry (api_Entry.size _)) (by decide) ?_
    obtain ⟨x5, hx5, H⟩ := bind_s H
    refine .sel [3, 4, 0, 1, 2] (by decide) rfl ?_
    refine .callM (dst := some 21) 2 rfl E_annuletref12_Table_Add rfl rfl (fun w hh => W_annuletref12_Table_Add l_o_9_L_1 v_b_9_Most_1 x3 _ _ _ _ _ hx5 w hh.pk hh.pa ho_o_9_L_1) (fun d hd => by cases hd; decide) fun v nm hR => ?_
    obtain ⟨k_o_21_w0_L, c_o_21_w0_L, r_o_21_w0_L, rfl, rfl, ho_o_21_w0_L⟩ := hR
    refine .nil (.blk_n (.then_n (.region (?_))))
    refine .step (.add rfl rfl) (by decide) ?_
    refine .step (.mv rfl) (by decide) ?_
    refine .nil (.then_n (?_))
    exact .again ⟨fl1, (x5.2.2, x5.2.1, x4.2.1, x4.2.2, (IntKind.wrap .i64 (s12_1 + 1))), k_o_21_w0_L, c_o_21_w0_L, r_o_21_w0_L⟩ ⟨H, ho_o_21_w0_L⟩ (Nat.lt_succ_self _) (.cons_cons _ (.cons_cons _ (.cons_cons _ (.cons_cons _ (.cons _ (.slnil)))))) (.cons rfl (.cons rfl (.cons rfl (.cons rfl (.cons rfl .nil)))))
  · replace H := cond_f hc1 H
    refine .exit (.then_x (.then_x (.blk_x (.then_n (.seq (.drawsI [0, 1, 2, 3] rfl rfl ?_))))))
    refine .first [0, 1, 2, 3, 4, 5, 6] 0 rfl (by kernel_rfl) (by kernel_rfl) ?_
    refine .s_step rfl rfl rfl (.mv rfl) (by decide) ?_
    refine .s_step rfl rfl rfl (.mv rfl) (by decide) ?_
    refine .s_step rfl rfl rfl (.nc rfl) (by decide) ?_
    refine .s_step rfl rfl rfl (.fa rfl F_annuletref12_Table_L Z_sl_api_Entry) (by decide) ?_
    refine .s_step rfl rfl rfl (.ld1 rfl (.i 0 rfl) A_sl_api_Entry (annuletref12_Table.g_L _)) (by decide) ?_
    refine .s_step rfl rfl rfl (.as rfl) (by decide) ?_
    refine .s_step rfl rfl rfl (.as rfl) (by decide) ?_
    refine .s_nil ?_
    refine .done (.refl _) (by kernel_rfl) ?_
    refine .sel [2, 3, 1] (by decide) rfl ?_
    cases H
    exact .then_n (.ret (.ret2 [_, _, _] (.refl _) rfl rfl rfl ⟨b_8, b_8_m, k_o_9_L_1, c_o_9_L_1, r_o_9_L_1, rfl, rfl, ho_o_9_L_1⟩))

def F_table_Table_Len (_a0_most : Int) (a0_m : MS api_Path api_Entry) : Option (Int) :=
  some (((MS.len a0_m) : Nat) : Int)
theorem W_table_Table_Len (a0_most : Int) (a0_m : MS api_Path api_Entry) (b_a0 : Nat) (b_a0_m : Nat) (r : Int) (H : F_table_Table_Len a0_most a0_m = some r) (w : World) (hB_b_a0 : w.heap[b_a0]? = some (.cells (table_Table.enc (table_Table.mk a0_most (.map (some b_a0_m)))) T_table_Table (0, 0))) (hB_b_a0_m : w.heap[b_a0_m]? = some (MS.obj (vA api_Path.enc) (vA api_Entry.enc) a0_m)) :
    Calls PG f_table_Table_Len #[.pointer (some ⟨b_a0, 0, none⟩)] w (Ret w [] (fun v nm => v = .int .i64 (r) ∧ nm = [])) := by
  unfold F_table_Table_Len at H
  refine enter0 (n := 10) (args := [.pointer (some ⟨b_a0, 0, none⟩)]) B_table_Table_Len rfl rfl (by simp) ?_
  refine .seq (.region (?_))
  refine .step (.as rfl) (by decide) ?_
  refine .nil (.then_n (.seq (.seq (.region (?_)))))
  refine .step (.mv rfl) (by decide) ?_
  refine .step (.eqPtr P_pt_table_Table rfl rfl (by simp)) (by decide) ?_
  refine .nil (.then_n (.cond_f rfl ?_))
  refine .skip (.then_n (.seq (.region (?_))))
  refine .step (.mv rfl) (by decide) ?_
  refine .step (.nc rfl) (by decide) ?_
  refine .step (.fa rfl F_table_Table_m Z_map_api_Path_api_Entry) (by decide) ?_
  refine .step (.ld1 rfl (.o hB_b_a0 (by simp)) A_map_api_Path_api_Entry (table_Table.g_m _)) (by decide) ?_
  refine .step (.lenM (ke := vA api_Path.enc) (encV := api_Entry.enc) M_map_api_Path_api_Entry (.o hB_b_a0_m (by simp)) rfl) (by decide) ?_
  refine .step (.as rfl) (by decide) ?_
  cases H
  exact .nil (.then_n (.ret (.ret1 [] (by simp) rfl rfl ⟨rfl, rfl⟩)))

def F_annuletlaw13_fixed : Option (Bool) :=
  (F_annuletlaw13_n 5).bind fun x1 => (F_annuletlaw13_n 20).bind fun x2 => (F_annuletlaw13_laid ([(api_Entry.mk (api_Path.mk Idn.zero 1) x1 x2 (-1) 2)] : List api_Entry)).bind fun x3 => (F_annuletlaw13_n 9).bind fun x4 => cond (decide ((((x3.2.2).length : Nat) : Int) = 1)) ((F_annuletlaw13_n 21).bind fun x5 => (F_annuletlaw13_n 5).bind fun x6 => (F_route_Choose x5 x6 ([(api_Near.mk 1 x4)] : List api_Near) x3.1 x3.2.1).bind fun x7 => (F_annuletlaw13_n 20).bind fun x8 => cond (decide (x7 = (route_Choice.mk x8 false (api_Path.mk Idn.zero 1) 2))) ((F_annuletlaw13_n 7).bind fun x9 => (F_annuletlaw13_n 5).bind fun x10 => (F_route_Choose x9 x10 ([(api_Near.mk 1 x4)] : List api_Near) x3.1 x3.2.1).bind fun x11 => (F_annuletlaw13_n 9).bind fun x12 => some (decide (x11 = (route_Choice.mk x12 true (api_Path.mk Idn.zero 0) 1)))) (some false)) (some false)
theorem W_annuletlaw13_fixed (r : Bool) (H : F_annuletlaw13_fixed = some r) (w : World) :
    Calls PG f_annuletlaw13_fixed #[] w (Ret w [] (fun v nm => v = .bool (r) ∧ nm = [])) := by
  unfold F_annuletlaw13_fixed at H
  refine enter0 (n := 40) (args := []) B_annuletlaw13_fixed rfl rfl (by simp) ?_
  refine .seq (.region (?_))
  refine .step (.as rfl) (by decide) ?_
  refine .nil (.then_n (.seq (.region (?_))))
  refine .step (.bdS rfl N_api_Path rfl W_api_Path (.cons rfl rfl (le_of (api_Path.size _) (by decide)) (api_Path.u_N _ _) (.nil))) (by decide) ?_
  obtain ⟨x1, hx1, H⟩ := bind_s H
  refine .callQ (v := .agg (Idn.enc x1)) rfl E_annuletlaw13_n rfl rfl (fun w hm hf => W_annuletlaw13_n 5  _ hx1 w ) (by decide) ?_
  obtain ⟨x2, hx2, H⟩ := bind_s H
  refine .callQ (v := .agg (Idn.enc x2)) rfl E_annuletlaw13_n rfl rfl (fun w hm hf => W_annuletlaw13_n 20  _ hx2 w ) (by decide) ?_
  refine .step (.bdS rfl N_api_Entry rfl W_api_Entry (.cons rfl (api_Path.size _) (le_of (api_Entry.size _) (by decide)) (api_Entry.u_P _ _) (.cons rfl (Idn.size _) (le_of (api_Entry.size _) (by decide)) (api_Entry.u_A _ _) (.cons rfl (Idn.size _) (le_of (api_Entry.size _) (by decide)) (api_Entry.u_B _ _) (.cons rfl rfl (le_of (api_Entry.size _) (by decide)) (api_Entry.u_Na _ _) (.cons rfl rfl (le_of (api_Entry.size _) (by decide)) (api_Entry.u_Nb _ _) (.nil))))))) (by decide) ?_
  refine .bsL (vs := [.agg (api_Entry.enc (api_Entry.mk (api_Path.mk Idn.zero 1) x1 x2 (-1) 2))]) (c := catA (([(api_Entry.mk (api_Path.mk Idn.zero 1) x1 x2 (-1) 2)] : List api_Entry).map api_Entry.enc) ++ #[]) (len := 1) L_sl_api_Entry Z_api_Entry N_api_Entry rfl rfl (by intro v hv; simp only [List.mem_cons, List.not_mem_nil, or_false] at hv; subst hv; exact api_Entry.size _) (by rw [Array.append_empty]; rfl) (by decide) (by decide) (by decide) fun b9 hb9 => ?_
  have hob9 : OwnS 51 (some b9) ([(api_Entry.mk (api_Path.mk Idn.zero 1) x1 x2 (-1) 2)] : List api_Entry).length 1 #[] := ⟨rfl, Nat.le_refl _, fun h => by cases h⟩
  obtain ⟨x3, hx3, H⟩ := bind_s H
  refine .call0 rfl E_annuletlaw13_laid rfl rfl (fun w hm hf => W_annuletlaw13_laid ([(api_Entry.mk (api_Path.mk Idn.zero 1) x1 x2 (-1) 2)] : List api_Entry) _ _ _ hx3 w (RoK.at ((RoK.own 0 api_Entry.size rfl hob9)) hm hf)) (by decide) fun v nm hR => ?_
  obtain ⟨b_10_0, b_10_0_m, k_o_10_1, c_o_10_1, r_o_10_1, rfl, rfl, ho_o_10_1⟩ := hR
  refine .step (.mv rfl) (by decide) ?_
  refine .step (.xt rfl rfl) (by decide) ?_
  refine .step (.xt rfl rfl) (by decide) ?_
  refine .step (.as rfl) (by decide) ?_
  refine .step (.as rfl) (by decide) ?_
  refine .nil (.then_n (.seq (.region (?_))))
  obtain ⟨x4, hx4, H⟩ := bind_s H
  refine .callQ (v := .agg (Idn.enc x4)) rfl E_annuletlaw13_n rfl rfl (fun w hm hf => W_annuletlaw13_n 9  _ hx4 w ) (by decide) ?_
  refine .step (.bdS rfl N_api_Near rfl W_api_Near (.cons rfl rfl (le_of (api_Near.size _) (by decide)) (api_Near.u_N _ _) (.cons rfl (Idn.size _) (le_of (api_Near.size _) (by decide)) (api_Near.u_ID _ _) (.nil)))) (by decide) ?_
  refine .bsL (vs := [.agg (api_Near.enc (api_Near.mk 1 x4))]) (c := catA (([(api_Near.mk 1 x4)] : List api_Near).map api_Near.enc) ++ #[]) (len := 1) L_sl_api_Near Z_api_Near N_api_Near rfl rfl (by intro v hv; simp only [List.mem_cons, List.not_mem_nil, or_false] at hv; subst hv; exact api_Near.size _) (by rw [Array.append_empty]; rfl) (by decide) (by decide) (by decide) fun b15 hb15 => ?_
  have hob15 : OwnS 17 (some b15) ([(api_Near.mk 1 x4)] : List api_Near).length 1 #[] := ⟨rfl, Nat.le_refl _, fun h => by cases h⟩
  refine .step (.as rfl) (by decide) ?_
  refine .nil (.then_n (.seq (.region (?_))))
  refine .step (.mv rfl) (by decide) ?_
  refine .step (.len L_sl_api_Entry rfl) (by decide) ?_
  refine .step (.eql rfl rfl) (by decide) ?_
  refine .step (.mv rfl) (by decide) ?_
  refine .splitb 19 rfl (fun hb1 => ?_) (fun hb1 => ?_)
  · replace H := cond_t hb1 H
    refine .gd rfl ?_
    obtain ⟨x5, hx5, H⟩ := bind_s H
    refine .callQ (v := .agg (Idn.enc x5)) rfl E_annuletlaw13_n rfl rfl (fun w hm hf => W_annuletlaw13_n 21  _ hx5 w ) (by decide) ?_
    refine .gd rfl ?_
    obtain ⟨x6, hx6, H⟩ := bind_s H
    refine .callQ (v := .agg (Idn.enc x6)) rfl E_annuletlaw13_n rfl rfl (fun w hm hf => W_annuletlaw13_n 5  _ hx6 w ) (by decide) ?_
    refine .stepg rfl (.mv rfl) (by decide) ?_
    refine .stepg rfl (.mv rfl) (by decide) ?_
    refine .gd rfl ?_
    obtain ⟨x7, hx7, H⟩ := bind_s H
    refine .callQ (v := .agg (route_Choice.enc x7)) rfl E_route_Choose rfl rfl (fun w hm hf => W_route_Choose x5 x6 ([(api_Near.mk 1 x4)] : List api_Near) x3.1 x3.2.1 _ _ _ _ _ hx7 w (RoK.at ((RoK.own 0 api_Near.size rfl hob15)) hm hf) (Kn.at (.i 1 rfl) hm hf) (Kn.at (.i 2 rfl) hm hf)) (by decide) ?_
    refine .gd rfl ?_
    obtain ⟨x8, hx8, H⟩ := bind_s H
    refine .callQ (v := .agg (Idn.enc x8)) rfl E_annuletlaw13_n rfl rfl (fun w hm hf => W_annuletlaw13_n 20  _ hx8 w ) (by decide) ?_
    refine .stepg rfl (.bdS rfl N_api_Path rfl W_api_Path (.cons rfl rfl (le_of (api_Path.size _) (by decide)) (api_Path.u_N _ _) (.nil))) (by decide) ?_
    refine .stepg rfl (.bdS rfl N_route_Choice rfl W_route_Choice (.cons rfl (Idn.size _) (le_of (route_Choice.size _) (by decide)) (route_Choice.u_ID _ _) (.cons rfl (api_Path.size _) (le_of (route_Choice.size _) (by decide)) (route_Choice.u_P _ _) (.cons rfl rfl (le_of (route_Choice.size _) (by decide)) (route_Choice.u_N _ _) (.nil))))) (by decide) ?_
    refine .stepg rfl (.eqA (EQ_route_Choice _ _) G_route_Choice rfl rfl (by decide)) (by decide) ?_
    refine .step (.pk_t rfl rfl) (by decide) ?_
    refine .step (.mv rfl) (by decide) ?_
    refine .splitb 30 rfl (fun hb2 => ?_) (fun hb2 => ?_)
    · replace H := cond_t hb2 H
      refine .gd rfl ?_
      obtain ⟨x9, hx9, H⟩ := bind_s H
      refine .callQ (v := .agg (Idn.enc x9)) rfl E_annuletlaw13_n rfl rfl (fun w hm hf => W_annuletlaw13_n 7  _ hx9 w ) (by decide) ?_
      refine .gd rfl ?_
      obtain ⟨x10, hx10, H⟩ := bind_s H
      refine .callQ (v := .agg (Idn.enc x10)) rfl E_annuletlaw13_n rfl rfl (fun w hm hf => W_annuletlaw13_n 5  _ hx10 w ) (by decide) ?_
      refine .stepg rfl (.mv rfl) (by decide) ?_
      refine .stepg rfl (.mv rfl) (by decide) ?_
      refine .gd rfl ?_
      obtain ⟨x11, hx11, H⟩ := bind_s H
      refine .callQ (v := .agg (route_Choice.enc x11)) rfl E_route_Choose rfl rfl (fun w hm hf => W_route_Choose x9 x10 ([(api_Near.mk 1 x4)] : List api_Near) x3.1 x3.2.1 _ _ _ _ _ hx11 w (RoK.at ((RoK.own 0 api_Near.size rfl hob15)) hm hf) (Kn.at (.i 1 rfl) hm hf) (Kn.at (.i 2 rfl) hm hf)) (by decide) ?_
      refine .gd rfl ?_
      obtain ⟨x12, hx12, H⟩ := bind_s H
      refine .callQ (v := .agg (Idn.enc x12)) rfl E_annuletlaw13_n rfl rfl (fun w hm hf => W_annuletlaw13_n 9  _ hx12 w ) (by decide) ?_
      refine .stepg rfl (.bdS rfl N_route_Choice rfl W_route_Choice (.cons rfl (Idn.size _) (le_of (route_Choice.size _) (by decide)) (route_Choice.u_ID _ _) (.cons rfl rfl (le_of (route_Choice.size _) (by decide)) (route_Choice.u_Near _ _) (.cons rfl rfl (le_of (route_Choice.size _) (by decide)) (route_Choice.u_N _ _) (.nil))))) (by decide) ?_
      refine .stepg rfl (.eqA (EQ_route_Choice _ _) G_route_Choice rfl rfl (by decide)) (by decide) ?_
      refine .step (.pk_t rfl rfl) (by decide) ?_
      refine .step (.as rfl) (by decide) ?_
      cases H
      exact .nil (.then_n (.ret (.ret1 [] (by simp) rfl rfl ⟨rfl, rfl⟩)))
    · replace H := cond_f hb2 H
      refine .pass rfl rfl (by decide) ?_
      refine .pass rfl rfl (by decide) ?_
      refine .pass rfl rfl (by decide) ?_
      refine .pass rfl rfl (by decide) ?_
      refine .pass rfl rfl (by decide) ?_
      refine .pass rfl rfl (by decide) ?_
      refine .pass rfl rfl (by decide) ?_
      refine .pass rfl rfl (by decide) ?_
      refine .step (.pk_f rfl rfl) (by decide) ?_
      refine .step (.as rfl) (by decide) ?_
      cases H
      exact .nil (.then_n (.ret (.ret1 [] (by simp) rfl rfl ⟨rfl, rfl⟩)))
  · replace H := cond_f hb1 H
    refine .pass rfl rfl (by decide) ?_
    refine .pass rfl rfl (by decide) ?_
    refine .pass rfl rfl (by decide) ?_
    refine .pass rfl rfl (by decide) ?_
    refine .pass rfl rfl (by decide) ?_
    refine .pass rfl rfl (by decide) ?_
    refine .pass rfl rfl (by decide) ?_
    refine .pass rfl rfl (by decide) ?_
    refine .pass rfl rfl (by decide) ?_
    refine .step (.pk_f rfl rfl) (by decide) ?_
    refine .step (.mv rfl) (by decide) ?_
    refine .pass rfl rfl (by decide) ?_
    refine .pass rfl rfl (by decide) ?_
    refine .pass rfl rfl (by decide) ?_
    refine .pass rfl rfl (by decide) ?_
    refine .pass rfl rfl (by decide) ?_
    refine .pass rfl rfl (by decide) ?_
    refine .pass rfl rfl (by decide) ?_
    refine .pass rfl rfl (by decide) ?_
    refine .step (.pk_f rfl rfl) (by decide) ?_
    refine .step (.as rfl) (by decide) ?_
    cases H
    exact .nil (.then_n (.ret (.ret1 [] (by simp) rfl rfl ⟨rfl, rfl⟩)))

def F_annuletlaw13_RouteTurned_f1 (a0 : Idn) (a1 : Idn) : Option (Idn) :=
  (F_annuletref01_Add a0 a1).bind fun x1 => some x1
theorem W_annuletlaw13_RouteTurned_f1 (a0 : Idn) (a1 : Idn) (b_a1 : Nat) (r : Idn) (H : F_annuletlaw13_RouteTurned_f1 a0 a1 = some r) (w : World) (hB_b_a1 : w.heap[b_a1]? = some (.cells (Idn.enc a1) T_api_ID (0, 0))) :
    Calls PG f_annuletlaw13_RouteTurned_f1 #[.agg (Idn.enc a0), .pointer (some ⟨b_a1, 0, none⟩)] w (Ret w [] (fun v nm => v = .agg (Idn.enc r) ∧ nm = [])) := by
  unfold F_annuletlaw13_RouteTurned_f1 at H
  refine enter0 (n := 7) (args := [.agg (Idn.enc a0), .pointer (some ⟨b_a1, 0, none⟩)]) B_annuletlaw13_RouteTurned_f1 rfl rfl (by simp) ?_
  refine .seq (.region (?_))
  refine .box rfl rfl (by decide) fun b2 hb2 => ?_
  refine .alloc N_api_ID rfl (by decide) fun b3 hb3 => ?_
  refine .nil (.then_n (.seq (.region (?_))))
  refine .step (.ldA rfl (.i 1 rfl) A_api_ID Z_api_ID (Idn.size _)) (by decide) ?_
  refine .step (.ldA rfl (.o hB_b_a1 (by simp)) A_api_ID Z_api_ID (Idn.size _)) (by decide) ?_
  obtain ⟨x1, hx1, H⟩ := bind_s H
  refine .callQ (v := .agg (Idn.enc x1)) rfl E_annuletref01_Add rfl rfl (fun w hm hf => W_annuletref01_Add a0 a1  _ hx1 w ) (by decide) ?_
  refine .storeA 0 rfl rfl rfl rfl Z_api_ID (Idn.size _) (Idn.one _) (Idn.size _) ?_
  cases H
  exact .nil (.then_n (.ret (.retR1 [] (by simp) rfl (.ce rfl (.i 0 rfl) A_api_ID Z_api_ID (Idn.size _)) ⟨rfl, rfl⟩)))

def F_annuletlaw13_RouteTurned_L2 (a0 : Idn) (a1_Self : Idn) (a1_Nears : List api_Near) (a1_Entries : List api_Entry) (a2 : Idn) (l_n_b8_Nears_1 : List api_Near) (again2 : (List api_Entry × Idn × Int) → Option (Bool)) (st : List api_Entry × Idn × Int) : Option (Bool) :=
  match st with | (l_n_b8_Entries_2, v_b8_Self_2, s48_2) => cond (decide (s48_2 < (((a1_Entries).length : Nat) : Int))) ((ixL a1_Entries s48_2).bind fun x5 => (F_annuletlaw13_RouteTurned_f1 x5.A a2).bind fun x6 => (F_annuletlaw13_RouteTurned_f1 x5.B a2).bind fun x7 => (appG l_n_b8_Entries_2 ([(api_Entry.mk x5.P x6 x7 x5.Na x5.Nb)] : List api_Entry)).bind fun x8 => again2 (x8, v_b8_Self_2, (IntKind.wrap .i64 (s48_2 + 1)))) ((F_annuletlaw13_laid a1_Entries).bind fun x9 => (F_annuletlaw13_laid l_n_b8_Entries_2).bind fun x10 => (F_route_Choose a0 a1_Self a1_Nears x9.1 x9.2.1).bind fun x11 => (F_annuletlaw13_RouteTurned_f1 a0 a2).bind fun x12 => (F_route_Choose x12 v_b8_Self_2 l_n_b8_Nears_1 x10.1 x10.2.1).bind fun x13 => (F_annuletlaw13_RouteTurned_f1 x11.ID a2).bind fun x14 => (F_annuletlaw13_fixed ).bind fun x15 => cond x15 (some (decide ((route_Choice.mk x14 x11.Near x11.P x11.N) = x13))) (some false))
def F_annuletlaw13_RouteTurned_L1 (a0 : Idn) (a1_Self : Idn) (a1_Nears : List api_Near) (a1_Entries : List api_Entry) (a2 : Idn) (again1 : (List api_Near × Idn × Int) → Option (Bool)) (st : List api_Near × Idn × Int) : Option (Bool) :=
  match st with | (l_n_b8_Nears_1, v_b8_Self_1, s28_1) => cond (decide (s28_1 < (((a1_Nears).length : Nat) : Int))) ((ixL a1_Nears s28_1).bind fun x2 => (F_annuletlaw13_RouteTurned_f1 x2.ID a2).bind fun x3 => (appG l_n_b8_Nears_1 ([(api_Near.mk x2.N x3)] : List api_Near)).bind fun x4 => again1 (x4, v_b8_Self_1, (IntKind.wrap .i64 (s28_1 + 1)))) (iter (F_annuletlaw13_RouteTurned_L2 a0 a1_Self a1_Nears a1_Entries a2 l_n_b8_Nears_1) FUEL (([] : List api_Entry), v_b8_Self_1, 0))
def F_annuletlaw13_RouteTurned (a0 : Idn) (a1_Self : Idn) (a1_Nears : List api_Near) (a1_Entries : List api_Entry) (a2 : Idn) : Option (Bool) :=
  (F_annuletlaw13_RouteTurned_f1 a1_Self a2).bind fun x1 => iter (F_annuletlaw13_RouteTurned_L1 a0 a1_Self a1_Nears a1_Entries a2) FUEL (([] : List api_Near), x1, 0)
theorem W_annuletlaw13_RouteTurned (a0 : Idn) (a1_Self : Idn) (a1_Nears : List api_Near) (a1_Entries : List api_Entry) (a2 : Idn) (p_a1_Nears : Option Addr) (c_a1_Nears : Nat) (p_a1_Entries : Option Addr) (c_a1_Entries : Nat) (r : Bool) (H : F_annuletlaw13_RouteTurned a0 a1_Self a1_Nears a1_Entries a2 = some r) (w : World) (hR_a1_Nears : Ro api_Near.enc 17 w p_a1_Nears a1_Nears c_a1_Nears) (hR_a1_Entries : Ro api_Entry.enc 51 w p_a1_Entries a1_Entries c_a1_Entries) :
    Calls PG f_annuletlaw13_RouteTurned #[.agg (Idn.enc a0), .agg (annuletlaw13_Place.enc (annuletlaw13_Place.mk a1_Self (.slice p_a1_Nears (a1_Nears).length c_a1_Nears) (.slice p_a1_Entries (a1_Entries).length c_a1_Entries))), .agg (Idn.enc a2)] w (Ret w [] (fun v nm => v = .bool (r) ∧ nm = [])) := by
  unfold F_annuletlaw13_RouteTurned at H
  refine enter0 (n := 108) (args := [.agg (Idn.enc a0), .agg (annuletlaw13_Place.enc (annuletlaw13_Place.mk a1_Self (.slice p_a1_Nears (a1_Nears).length c_a1_Nears) (.slice p_a1_Entries (a1_Entries).length c_a1_Entries))), .agg (Idn.enc a2)]) B_annuletlaw13_RouteTurned rfl rfl (by simp) ?_
  refine .seq (.region (?_))
  refine .box rfl rfl (by decide) fun b3 hb3 => ?_
  refine .box rfl rfl (by decide) fun b4 hb4 => ?_
  refine .box rfl rfl (by decide) fun b5 hb5 => ?_
  refine .step (.as rfl) (by decide) ?_
  refine .nil (.then_n (.seq (.region (?_))))
  refine .step (.mf rfl rfl) (by decide) ?_
  refine .step (.as rfl) (by decide) ?_
  refine .nil (.then_n (.seq (.region (?_))))
  refine .step (.mv rfl) (by decide) ?_
  refine .step (.fa rfl F_annuletlaw13_Place_Self Z_api_ID) (by decide) ?_
  refine .step (.lds rfl (.i 1 rfl) A_api_ID Z_api_ID (annuletlaw13_Place.s_Self _)) (by decide) ?_
  obtain ⟨x1, hx1, H⟩ := bind_s H
  refine .callQ (v := .agg (Idn.enc x1)) rfl E_annuletlaw13_RouteTurned_f1 rfl rfl (fun w hm hf => W_annuletlaw13_RouteTurned_f1 a1_Self a2 _ _ hx1 w (Kn.at (.i 0 rfl) hm hf)) (by decide) ?_
  refine .step (.bdS rfl N_annuletlaw13_Place rfl W_annuletlaw13_Place (.cons rfl (Idn.size _) (le_of (annuletlaw13_Place.size _) (by decide)) (annuletlaw13_Place.u_Self _ _) (.nil))) (by decide) ?_
  refine .alloc N_annuletlaw13_Place rfl (by decide) fun b8 hb8 => ?_
  refine .storeA 0 rfl rfl rfl rfl Z_annuletlaw13_Place (annuletlaw13_Place.size _) (annuletlaw13_Place.one _ rfl rfl) (annuletlaw13_Place.size _) ?_
  refine .nil (.then_n (.seq (.seq (.region (?_)))))
  refine .step (.fa rfl F_annuletlaw13_Place_Nears Z_sl_api_Near) (by decide) ?_
  refine .step (.ld1 rfl (.i 2 rfl) A_sl_api_Near (annuletlaw13_Place.g_Nears _)) (by decide) ?_
  refine .step (.len L_sl_api_Near rfl) (by decide) ?_
  refine .step (.mv rfl) (by decide) ?_
  refine .nil (.then_n (.block (.non (o := .cells (catA (([] : List api_Near).map api_Near.enc) ++ #[]) T_api_Near (0, 0)) (.loop (G := Nat × (List api_Near × Idn × Int) × (Option Nat) × (Nat) × (Array Value)) (fun g => iter (F_annuletlaw13_RouteTurned_L1 a0 a1_Self a1_Nears a1_Entries a2) g.1 g.2.1 = some r ∧ OwnS 17 g.2.2.1 (g.2.1.1).length g.2.2.2.1 g.2.2.2.2) (fun g => [(g.2.2.1, .cells (catA ((g.2.1.1).map api_Near.enc) ++ g.2.2.2.2) T_api_Near (0, 0)), (some b8, .cells (annuletlaw13_Place.enc (annuletlaw13_Place.mk g.2.1.2.1 (slv g.2.2.1 (g.2.1.1).length g.2.2.2.1) (.slice none 0 0))) T_annuletlaw13_Place (0, 0)), (some b5, .cells (Idn.enc a2) T_api_ID (0, 0)), (some b4, .cells (annuletlaw13_Place.enc (annuletlaw13_Place.mk a1_Self (.slice p_a1_Nears (a1_Nears).length c_a1_Nears) (.slice p_a1_Entries (a1_Entries).length c_a1_Entries))) T_annuletlaw13_Place (0, 0)), (some b3, .cells (Idn.enc a0) T_api_ID (0, 0))]) (fun g => [(3, .pointer (some ⟨b3, 0, none⟩)), (4, .pointer (some ⟨b4, 0, none⟩)), (7, .func (.func 5) #[] #[.pointer (some ⟨b5, 0, none⟩)]), (8, .pointer (some ⟨b8, 0, none⟩)), (26, .slice p_a1_Nears (a1_Nears).length c_a1_Nears), (27, .int .i64 ((((a1_Nears).length : Nat) : Int))), (28, .int .i64 (g.2.1.2.2))]) (fun g => g.1) ⟨FUEL, (([] : List api_Near), x1, 0), none, 0, #[]⟩ ⟨H, ⟨rfl, Nat.le_refl _, fun _ => rfl⟩⟩ (.refl _) (.cons rfl (.cons rfl (.cons rfl (.cons rfl (.cons rfl (.cons rfl (.cons rfl .nil))))))) ?_))))
  rintro ⟨_ | fl1, ⟨l_n_b8_Nears_1, v_b8_Self_1, s28_1⟩, k_n_b8_Nears_1, c_n_b8_Nears_1, r_n_b8_Nears_1⟩ ⟨H, ho_n_b8_Nears_1⟩
  · exact (iter_0 H).elim
  replace H := iter_s H; rw [F_annuletlaw13_RouteTurned_L1] at H; dsimp only at H ⊢
  refine .seq (.region (?_))
  refine .step (.lss rfl rfl) (by decide) ?_
  refine .nil (.then_n (.seq (.cond rfl (fun hc1 => ?_) (fun hc1 => ?_))))
  · replace H := cond_t hc1 H
    refine .skip (.then_n (.seq (.block (.seq (.region (?_))))))
    obtain ⟨x2, hx2, H⟩ := bind_s H
    refine .step (.ixP (.par hR_a1_Nears) hx2 rfl rfl L_sl_api_Near Z_api_Near) (by decide) ?_
    refine .step (.ldP (.par hR_a1_Nears) hx2 rfl A_api_Near Z_api_Near) (by decide) ?_
    refine .alloc N_api_Near rfl (by decide) fun b10 hb10 => ?_
    refine .storeA 0 rfl rfl rfl rfl Z_api_Near (api_Near.size _) (api_Near.one _) (api_Near.size _) ?_
    refine .nil (.then_n (.drawsI [0, 3, 4, 5] rfl rfl ?_))
    refine .first [0, 2, 3, 4, 5, 6] 7 rfl (by kernel_rfl) (by kernel_rfl) ?_
    refine .s_step rfl rfl rfl (.fa rfl F_annuletlaw13_Place_Nears Z_sl_api_Near) (by decide) ?_
    refine .s_step rfl rfl rfl (.fa rfl F_api_Near_N Z_int) (by decide) ?_
    refine .s_step rfl rfl rfl (.ld1 rfl (.i 0 rfl) A_int (api_Near.g_N _)) (by decide) ?_
    refine .s_step rfl rfl rfl (.mv rfl) (by decide) ?_
    refine .s_step rfl rfl rfl (.fa rfl F_api_Near_ID Z_api_ID) (by decide) ?_
    refine .s_step rfl rfl rfl (.lds rfl (.i 0 rfl) A_api_ID Z_api_ID (api_Near.s_ID _)) (by decide) ?_
    refine .s_nil ?_
    obtain ⟨x3, hx3, H⟩ := bind_s H
    refine .flock [(1, .con 33 _), (7, .con 39 _), (8, .con 40 _), (9, .res 41 _)] 3 (.cons_cons _ (.cons _ (.cons _ (.refl _)))) rfl (by kernel_rfl) ⟨⟨_, rfl, .val (.ld1 rfl (.i 2 rfl) A_sl_api_Near (annuletlaw13_Place.g_Nears _)) (by decide)⟩, ⟨_, rfl, .callQ rfl E_annuletlaw13_RouteTurned_f1 rfl rfl (fun w hm hf => W_annuletlaw13_RouteTurned_f1 x2.ID a2 _ _ hx3 w (Kn.at (.i 3 rfl) hm hf)) (by decide)⟩, ⟨_, rfl, .val (.bdS rfl N_api_Near rfl W_api_Near (.cons rfl rfl (le_of (api_Near.size _) (by decide)) (api_Near.u_N _ _) (.cons rfl (Idn.size _) (le_of (api_Near.size _) (by decide)) (api_Near.u_ID _ _) (.nil)))) (by decide)⟩, ⟨_, rfl, .bsL (vs := [.agg (api_Near.enc (api_Near.mk x2.N x3))]) (c := catA (([(api_Near.mk x2.N x3)] : List api_Near).map api_Near.enc) ++ #[]) (len := 1) L_sl_api_Near Z_api_Near N_api_Near rfl rfl (by intro v hv; simp only [List.mem_cons, List.not_mem_nil, or_false] at hv; subst hv; exact api_Near.size _) (by rw [Array.append_empty]; rfl) (by decide) (by decide) (by decide)⟩, trivial⟩ (fun v41 nm41 hR41 => (?_ : St _ _ _ _ _ _))
    obtain ⟨b41, hb41, rfl, rfl⟩ := hR41
    have hob41 : OwnS 17 (some b41) (([(api_Near.mk x2.N x3)] : List api_Near)).length 1 #[] := ⟨rfl, Nat.le_refl _, fun h => by cases h⟩
    refine .lst (l' := #[true, true, true, true, true, true, true, true, true, true, false, false, false]) (by kernel_rfl) ?_
    refine .only (i := 10) (.cons _ (.cons_cons _ (.cons _ (.cons _ (.refl _))))) (by kernel_rfl) rfl ?_
    obtain ⟨x4, hx4, H⟩ := bind_s H
    refine .appX 2 api_Near.size ho_n_b8_Nears_1 (.own 0 api_Near.size rfl hob41) hx4 rfl rfl rfl L_sl_api_Near Z_api_Near Y_api_Near N_api_Near (api_Near.size _) (by decide) (by decide) (fun a _ => api_Near.one a) (by decide) fun k_q1 c_q1 r_q1 ho_q1 => ?_
    refine .nil (.then_n ?_)
    refine .first [11] 1 rfl (by kernel_rfl) (by kernel_rfl) ?_
    refine .s_step rfl rfl rfl (.fa rfl F_annuletlaw13_Place_Nears Z_sl_api_Near) (by decide) ?_
    refine .s_nil ?_
    refine .only (i := 12) (.cons _ (.cons_cons _ (.cons _ (.cons _ (.refl _))))) (by kernel_rfl) rfl ?_
    refine .store (c' := annuletlaw13_Place.enc (annuletlaw13_Place.mk v_b8_Self_1 (slv k_q1 (x4).length c_q1) (.slice none 0 0))) 3 rfl rfl rfl rfl Z_sl_api_Near (rfl) (Ones.single rfl) (by show _ ≤ (annuletlaw13_Place.enc _).size; rw [annuletlaw13_Place.size]; decide) (annuletlaw13_Place.u_Nears _ _) ?_
    refine .nil (.then_n ?_)
    refine .done (.cons _ (.cons_cons _ (.cons _ (.cons _ (.refl _))))) (by kernel_rfl) ?_
    refine .blk_n (.then_n (.region (?_)))
    refine .step (.add rfl rfl) (by decide) ?_
    refine .step (.mv rfl) (by decide) ?_
    refine .nil (.then_n (?_))
    exact .again ⟨fl1, (x4, v_b8_Self_1, (IntKind.wrap .i64 (s28_1 + 1))), k_q1, c_q1, r_q1⟩ ⟨H, ho_q1⟩ (Nat.lt_succ_self _) (.cons _ (.cons _ (.refl _))) (.cons rfl (.cons rfl (.cons rfl (.cons rfl (.cons rfl (.cons rfl (.cons rfl .nil)))))))
  · replace H := cond_f hc1 H
    refine .exit (.then_x (.then_x (.blk_x (.then_n (.seq (.seq (.region (?_))))))))
    refine .step (.fa rfl F_annuletlaw13_Place_Entries Z_sl_api_Entry) (by decide) ?_
    refine .step (.ld1 rfl (.i 3 rfl) A_sl_api_Entry (annuletlaw13_Place.g_Entries _)) (by decide) ?_
    refine .step (.len L_sl_api_Entry rfl) (by decide) ?_
    refine .step (.mv rfl) (by decide) ?_
    refine .nil (.then_n (.block (.non (o := .cells (catA (([] : List api_Entry).map api_Entry.enc) ++ #[]) T_api_Entry (0, 0)) (.loop (G := Nat × (List api_Entry × Idn × Int) × (Option Nat) × (Nat) × (Array Value)) (fun g => iter (F_annuletlaw13_RouteTurned_L2 a0 a1_Self a1_Nears a1_Entries a2 l_n_b8_Nears_1) g.1 g.2.1 = some r ∧ OwnS 51 g.2.2.1 (g.2.1.1).length g.2.2.2.1 g.2.2.2.2) (fun g => [(g.2.2.1, .cells (catA ((g.2.1.1).map api_Entry.enc) ++ g.2.2.2.2) T_api_Entry (0, 0)), (k_n_b8_Nears_1, .cells (catA ((l_n_b8_Nears_1).map api_Near.enc) ++ r_n_b8_Nears_1) T_api_Near (0, 0)), (some b8, .cells (annuletlaw13_Place.enc (annuletlaw13_Place.mk g.2.1.2.1 (slv k_n_b8_Nears_1 (l_n_b8_Nears_1).length c_n_b8_Nears_1) (slv g.2.2.1 (g.2.1.1).length g.2.2.2.1))) T_annuletlaw13_Place (0, 0)), (some b5, .cells (Idn.enc a2) T_api_ID (0, 0)), (some b4, .cells (annuletlaw13_Place.enc (annuletlaw13_Place.mk a1_Self (.slice p_a1_Nears (a1_Nears).length c_a1_Nears) (.slice p_a1_Entries (a1_Entries).length c_a1_Entries))) T_annuletlaw13_Place (0, 0)), (some b3, .cells (Idn.enc a0) T_api_ID (0, 0))]) (fun g => [(3, .pointer (some ⟨b3, 0, none⟩)), (4, .pointer (some ⟨b4, 0, none⟩)), (7, .func (.func 5) #[] #[.pointer (some ⟨b5, 0, none⟩)]), (8, .pointer (some ⟨b8, 0, none⟩)), (46, .slice p_a1_Entries (a1_Entries).length c_a1_Entries), (47, .int .i64 ((((a1_Entries).length : Nat) : Int))), (48, .int .i64 (g.2.1.2.2))]) (fun g => g.1) ⟨FUEL, (([] : List api_Entry), v_b8_Self_1, 0), none, 0, #[]⟩ ⟨H, ⟨rfl, Nat.le_refl _, fun _ => rfl⟩⟩ (.refl _) (.cons rfl (.cons rfl (.cons rfl (.cons rfl (.cons rfl (.cons rfl (.cons rfl .nil))))))) ?_))))
    rintro ⟨_ | fl2, ⟨l_n_b8_Entries_2, v_b8_Self_2, s48_2⟩, k_n_b8_Entries_2, c_n_b8_Entries_2, r_n_b8_Entries_2⟩ ⟨H, ho_n_b8_Entries_2⟩
    · exact (iter_0 H).elim
    replace H := iter_s H; rw [F_annuletlaw13_RouteTurned_L2] at H; dsimp only at H ⊢
    refine .seq (.region (?_))
    refine .step (.lss rfl rfl) (by decide) ?_
    refine .nil (.then_n (.seq (.cond rfl (fun hc2 => ?_) (fun hc2 => ?_))))
    · replace H := cond_t hc2 H
      refine .skip (.then_n (.seq (.block (.seq (.region (?_))))))
      obtain ⟨x5, hx5, H⟩ := bind_s H
      refine .step (.ixP (.par hR_a1_Entries) hx5 rfl rfl L_sl_api_Entry Z_api_Entry) (by decide) ?_
      refine .step (.ldP (.par hR_a1_Entries) hx5 rfl A_api_Entry Z_api_Entry) (by decide) ?_
      refine .alloc N_api_Entry rfl (by decide) fun b12 hb12 => ?_
      refine .storeA 0 rfl rfl rfl rfl Z_api_Entry (api_Entry.size _) (api_Entry.one _) (api_Entry.size _) ?_
      refine .nil (.then_n (.seq (.drawsI [1, 2, 3, 4, 5, 6] rfl rfl ?_)))
      refine .first [0, 1, 4, 5] 8 rfl (by kernel_rfl) (by kernel_rfl) ?_
      refine .s_step rfl rfl rfl (.mv rfl) (by decide) ?_
      refine .s_step rfl rfl rfl (.fa rfl F_api_Entry_A Z_api_ID) (by decide) ?_
      refine .s_step rfl rfl rfl (.mv rfl) (by decide) ?_
      refine .s_step rfl rfl rfl (.fa rfl F_api_Entry_B Z_api_ID) (by decide) ?_
      refine .s_nil ?_
      obtain ⟨x6, hx6, H⟩ := bind_s H
      refine .flock [(2, .con 54 _), (3, .con 55 _), (6, .con 58 _)] 5 (.cons _ (.refl _)) rfl (by kernel_rfl) ⟨⟨_, rfl, .val (.lds rfl (.i 0 rfl) A_api_ID Z_api_ID (api_Entry.s_A _)) (by decide)⟩, ⟨_, rfl, .callQ rfl E_annuletlaw13_RouteTurned_f1 rfl rfl (fun w hm hf => W_annuletlaw13_RouteTurned_f1 x5.A a2 _ _ hx6 w (Kn.at (.i 4 rfl) hm hf)) (by decide)⟩, ⟨_, rfl, .val (.lds rfl (.i 0 rfl) A_api_ID Z_api_ID (api_Entry.s_B _)) (by decide)⟩, trivial⟩ ((?_ : St _ _ _ _ _ _))
      refine .lst (l' := #[true, true, true, true, true, true, true, false, false, false, false, false]) (by kernel_rfl) ?_
      refine .first [8] 4 rfl (by kernel_rfl) (by kernel_rfl) ?_
      refine .s_step rfl rfl rfl (.fa rfl F_api_Entry_A Z_api_ID) (by decide) ?_
      refine .s_nil ?_
      refine .only (i := 7) (.cons _ (.refl _)) (by kernel_rfl) rfl ?_
      obtain ⟨x7, hx7, H⟩ := bind_s H
      refine .callQ (v := .agg (Idn.enc x7)) rfl E_annuletlaw13_RouteTurned_f1 rfl rfl (fun w hm hf => W_annuletlaw13_RouteTurned_f1 x5.B a2 _ _ hx7 w (Kn.at (.i 4 rfl) hm hf)) (by decide) ?_
      refine .nil (.then_n ?_)
      refine .only (i := 9) (.cons _ (.refl _)) (by kernel_rfl) rfl ?_
      refine .store (c' := api_Entry.enc (api_Entry.mk x5.P x6 x5.B x5.Na x5.Nb)) 0 rfl rfl rfl rfl Z_api_ID (Idn.size _) ((Idn.one _)) (by show _ ≤ (api_Entry.enc _).size; rw [api_Entry.size]; decide) (api_Entry.u_A _ _) ?_
      refine .nil (.then_n ?_)
      refine .first [10] 1 rfl (by kernel_rfl) (by kernel_rfl) ?_
      refine .s_step rfl rfl rfl (.fa rfl F_api_Entry_B Z_api_ID) (by decide) ?_
      refine .s_nil ?_
      refine .only (i := 11) (.cons _ (.refl _)) (by kernel_rfl) rfl ?_
      refine .store (c' := api_Entry.enc (api_Entry.mk x5.P x6 x7 x5.Na x5.Nb)) 0 rfl rfl rfl rfl Z_api_ID (Idn.size _) ((Idn.one _)) (by show _ ≤ (api_Entry.enc _).size; rw [api_Entry.size]; decide) (api_Entry.u_B _ _) ?_
      refine .nil (.then_n ?_)
      refine .done (.cons _ (.refl _)) (by kernel_rfl) ?_
      refine .then_n (.region (?_))
      refine .step (.fa rfl F_annuletlaw13_Place_Entries Z_sl_api_Entry) (by decide) ?_
      refine .step (.ld1 rfl (.i 3 rfl) A_sl_api_Entry (annuletlaw13_Place.g_Entries _)) (by decide) ?_
      refine .step (.ldA rfl (.i 0 rfl) A_api_Entry Z_api_Entry (api_Entry.size _)) (by decide) ?_
      refine .bsL (vs := [.agg (api_Entry.enc (api_Entry.mk x5.P x6 x7 x5.Na x5.Nb))]) (c := catA (([(api_Entry.mk x5.P x6 x7 x5.Na x5.Nb)] : List api_Entry).map api_Entry.enc) ++ #[]) (len := 1) L_sl_api_Entry Z_api_Entry N_api_Entry rfl rfl (by intro v hv; simp only [List.mem_cons, List.not_mem_nil, or_false] at hv; subst hv; exact api_Entry.size _) (by rw [Array.append_empty]; rfl) (by decide) (by decide) (by decide) fun b65 hb65 => ?_
      have hob65 : OwnS 51 (some b65) ([(api_Entry.mk x5.P x6 x7 x5.Na x5.Nb)] : List api_Entry).length 1 #[] := ⟨rfl, Nat.le_refl _, fun h => by cases h⟩
      obtain ⟨x8, hx8, H⟩ := bind_s H
      refine .appX 2 api_Entry.size ho_n_b8_Entries_2 (.own 0 api_Entry.size rfl hob65) hx8 rfl rfl rfl L_sl_api_Entry Z_api_Entry Y_api_Entry N_api_Entry (api_Entry.size _) (by decide) (by decide) (fun a _ => api_Entry.one a) (by decide) fun k_q2 c_q2 r_q2 ho_q2 => ?_
      refine .step (.fa rfl F_annuletlaw13_Place_Entries Z_sl_api_Entry) (by decide) ?_
      refine .store (c' := annuletlaw13_Place.enc (annuletlaw13_Place.mk v_b8_Self_2 (slv k_n_b8_Nears_1 (l_n_b8_Nears_1).length c_n_b8_Nears_1) (slv k_q2 (x8).length c_q2))) 4 rfl rfl rfl rfl Z_sl_api_Entry (rfl) (Ones.single rfl) (by show _ ≤ (annuletlaw13_Place.enc _).size; rw [annuletlaw13_Place.size]; decide) (annuletlaw13_Place.u_Entries _ _) ?_
      refine .nil (.blk_n (.then_n (.region (?_))))
      refine .step (.add rfl rfl) (by decide) ?_
      refine .step (.mv rfl) (by decide) ?_
      refine .nil (.then_n (?_))
      exact .again ⟨fl2, (x8, v_b8_Self_2, (IntKind.wrap .i64 (s48_2 + 1))), k_q2, c_q2, r_q2⟩ ⟨H, ho_q2⟩ (Nat.lt_succ_self _) (.cons _ (.cons _ (.refl _))) (.cons rfl (.cons rfl (.cons rfl (.cons rfl (.cons rfl (.cons rfl (.cons rfl .nil)))))))
    · replace H := cond_f hc2 H
      refine .exit (.then_x (.then_x (.blk_x (.then_n (.seq (.region (?_)))))))
      refine .step (.fa rfl F_annuletlaw13_Place_Entries Z_sl_api_Entry) (by decide) ?_
      refine .step (.ld1 rfl (.i 4 rfl) A_sl_api_Entry (annuletlaw13_Place.g_Entries _)) (by decide) ?_
      obtain ⟨x9, hx9, H⟩ := bind_s H
      refine .call0 rfl E_annuletlaw13_laid rfl rfl (fun w hm hf => W_annuletlaw13_laid a1_Entries _ _ _ hx9 w (RoK.at ((RoK.par hR_a1_Entries)) hm hf)) (by decide) fun v nm hR => ?_
      obtain ⟨b_72_0, b_72_0_m, k_o_72_1, c_o_72_1, r_o_72_1, rfl, rfl, ho_o_72_1⟩ := hR
      refine .step (.mv rfl) (by decide) ?_
      refine .step (.xt rfl rfl) (by decide) ?_
      refine .step (.xt rfl rfl) (by decide) ?_
      refine .step (.as rfl) (by decide) ?_
      refine .step (.as rfl) (by decide) ?_
      refine .nil (.then_n (.seq (.region (?_))))
      refine .step (.fa rfl F_annuletlaw13_Place_Entries Z_sl_api_Entry) (by decide) ?_
      refine .step (.ld1 rfl (.i 5 rfl) A_sl_api_Entry (annuletlaw13_Place.g_Entries _)) (by decide) ?_
      obtain ⟨x10, hx10, H⟩ := bind_s H
      refine .call0 rfl E_annuletlaw13_laid rfl rfl (fun w hm hf => W_annuletlaw13_laid l_n_b8_Entries_2 _ _ _ hx10 w (RoK.at ((RoK.own 3 api_Entry.size rfl ho_n_b8_Entries_2)) hm hf)) (by decide) fun v nm hR => ?_
      obtain ⟨b_78_0, b_78_0_m, k_o_78_1, c_o_78_1, r_o_78_1, rfl, rfl, ho_o_78_1⟩ := hR
      refine .step (.mv rfl) (by decide) ?_
      refine .step (.xt rfl rfl) (by decide) ?_
      refine .step (.xt rfl rfl) (by decide) ?_
      refine .step (.as rfl) (by decide) ?_
      refine .step (.as rfl) (by decide) ?_
      refine .nil (.then_n (.seq (.drawsI [0, 1, 2, 3, 4, 5, 6, 7, 8, 9, 10, 11] rfl rfl ?_)))
      refine .first [0, 1, 2, 3, 4, 5, 7, 8, 10, 11, 12, 13, 14] 7 rfl (by kernel_rfl) (by kernel_rfl) ?_
      refine .s_step rfl rfl rfl (.ldA rfl (.i 11 rfl) A_api_ID Z_api_ID (Idn.size _)) (by decide) ?_
      refine .s_step rfl rfl rfl (.fa rfl F_annuletlaw13_Place_Self Z_api_ID) (by decide) ?_
      refine .s_step rfl rfl rfl (.lds rfl (.i 10 rfl) A_api_ID Z_api_ID (annuletlaw13_Place.s_Self _)) (by decide) ?_
      refine .s_step rfl rfl rfl (.fa rfl F_annuletlaw13_Place_Nears Z_sl_api_Near) (by decide) ?_
      refine .s_step rfl rfl rfl (.ld1 rfl (.i 10 rfl) A_sl_api_Near (annuletlaw13_Place.g_Nears _)) (by decide) ?_
      refine .s_step rfl rfl rfl (.mv rfl) (by decide) ?_
      refine .s_step rfl rfl rfl (.mv rfl) (by decide) ?_
      refine .s_step rfl rfl rfl (.ldA rfl (.i 11 rfl) A_api_ID Z_api_ID (Idn.size _)) (by decide) ?_
      refine .s_step rfl rfl rfl (.fa rfl F_annuletlaw13_Place_Self Z_api_ID) (by decide) ?_
      refine .s_step rfl rfl rfl (.lds rfl (.i 8 rfl) A_api_ID Z_api_ID (annuletlaw13_Place.s_Self _)) (by decide) ?_
      refine .s_step rfl rfl rfl (.fa rfl F_annuletlaw13_Place_Nears Z_sl_api_Near) (by decide) ?_
      refine .s_step rfl rfl rfl (.ld1 rfl (.i 8 rfl) A_sl_api_Near (annuletlaw13_Place.g_Nears _)) (by decide) ?_
      refine .s_step rfl rfl rfl (.mv rfl) (by decide) ?_
      refine .s_nil ?_
      obtain ⟨x11, hx11, H⟩ := bind_s H
      obtain ⟨x12, hx12, H⟩ := bind_s H
      obtain ⟨x13, hx13, H⟩ := bind_s H
      refine .flock [(6, .con 87 _), (9, .con 90 _), (15, .con 96 _), (16, .blk 17 _ _), (17, .blk 18 _ _)] 2 (.refl _) rfl (by kernel_rfl) ⟨⟨_, rfl, .callQ rfl E_route_Choose rfl rfl (fun w hm hf => W_route_Choose a0 a1_Self a1_Nears x9.1 x9.2.1 _ _ _ _ _ hx11 w (RoK.at ((RoK.par hR_a1_Nears)) hm hf) (Kn.at (.i 3 rfl) hm hf) (Kn.at (.i 4 rfl) hm hf)) (by decide)⟩, ⟨_, rfl, .callQ rfl E_annuletlaw13_RouteTurned_f1 rfl rfl (fun w hm hf => W_annuletlaw13_RouteTurned_f1 a0 a2 _ _ hx12 w (Kn.at (.i 9 rfl) hm hf)) (by decide)⟩, ⟨_, rfl, .callQ rfl E_route_Choose rfl rfl (fun w hm hf => W_route_Choose x12 v_b8_Self_2 l_n_b8_Nears_1 x10.1 x10.2.1 _ _ _ _ _ hx13 w (RoK.at ((RoK.own 7 api_Near.size rfl ho_n_b8_Nears_1)) hm hf) (Kn.at (.i 0 rfl) hm hf) (Kn.at (.i 1 rfl) hm hf)) (by decide)⟩, ⟨_, rfl, .alloc N_route_Choice rfl (by decide)⟩, ⟨_, rfl, .alloc N_route_Choice rfl (by decide)⟩, trivial⟩ (fun b17 hb17 b18 hb18 => (?_ : St _ _ _ _ _ _))
      refine .lst (l' := #[true, true, true, true, true, true, true, true, true, true, true, true, true, true, true, true, true, true, false, false]) (by kernel_rfl) ?_
      refine .only (i := 18) (.cons _ (.cons _ (.refl _))) (by kernel_rfl) rfl ?_
      refine .storeA 1 rfl rfl rfl rfl Z_route_Choice (route_Choice.size _) (route_Choice.one _) (route_Choice.size _) ?_
      refine .nil (.then_n ?_)
      refine .only (i := 19) (.cons _ (.cons _ (.refl _))) (by kernel_rfl) rfl ?_
      refine .storeA 0 rfl rfl rfl rfl Z_route_Choice (route_Choice.size _) (route_Choice.one _) (route_Choice.size _) ?_
      refine .nil (.then_n ?_)
      refine .done (.cons _ (.cons _ (.refl _))) (by kernel_rfl) ?_
      refine .then_n (.seq (.region (?_)))
      refine .step (.mv rfl) (by decide) ?_
      refine .step (.fa rfl F_route_Choice_ID Z_api_ID) (by decide) ?_
      refine .step (.lds rfl (.i 1 rfl) A_api_ID Z_api_ID (route_Choice.s_ID _)) (by decide) ?_
      obtain ⟨x14, hx14, H⟩ := bind_s H
      refine .callQ (v := .agg (Idn.enc x14)) rfl E_annuletlaw13_RouteTurned_f1 rfl rfl (fun w hm hf => W_annuletlaw13_RouteTurned_f1 x11.ID a2 _ _ hx14 w (Kn.at (.i 11 rfl) hm hf)) (by decide) ?_
      refine .step (.fa rfl F_route_Choice_ID Z_api_ID) (by decide) ?_
      refine .store (c' := route_Choice.enc (route_Choice.mk x14 x11.Near x11.P x11.N)) 1 rfl rfl rfl rfl Z_api_ID (Idn.size _) ((Idn.one _)) (by show _ ≤ (route_Choice.enc _).size; rw [route_Choice.size]; decide) (route_Choice.u_ID _ _) ?_
      refine .nil (.then_n (.seq (.region (?_))))
      obtain ⟨x15, hx15, H⟩ := bind_s H
      refine .callQ (v := .bool (x15)) rfl E_annuletlaw13_fixed rfl rfl (fun w hm hf => W_annuletlaw13_fixed   _ hx15 w ) (by decide) ?_
      refine .step (.mv rfl) (by decide) ?_
      refine .splitb 103 rfl (fun hb1 => ?_) (fun hb1 => ?_)
      · replace H := cond_t hb1 H
        refine .stepg rfl (.ldA rfl (.i 1 rfl) A_route_Choice Z_route_Choice (route_Choice.size _)) (by decide) ?_
        refine .stepg rfl (.ldA rfl (.i 0 rfl) A_route_Choice Z_route_Choice (route_Choice.size _)) (by decide) ?_
        refine .stepg rfl (.eqA (EQ_route_Choice _ _) G_route_Choice rfl rfl (by decide)) (by decide) ?_
        refine .step (.pk_t rfl rfl) (by decide) ?_
        refine .step (.as rfl) (by decide) ?_
        cases H
        exact .nil (.then_n (.ret (.ret1 [] (by simp) rfl rfl ⟨rfl, rfl⟩)))
      · replace H := cond_f hb1 H
        refine .pass rfl rfl (by decide) ?_
        refine .pass rfl rfl (by decide) ?_
        refine .pass rfl rfl (by decide) ?_
        refine .step (.pk_f rfl rfl) (by decide) ?_
        refine .step (.as rfl) (by decide) ?_
        cases H
        exact .nil (.then_n (.ret (.ret1 [] (by simp) rfl rfl ⟨rfl, rfl⟩)))

def F_annuletlaw13_RouteMore (a0 : Idn) (a1_Self : Idn) (a1_Nears : List api_Near) (a1_Entries : List api_Entry) (a2 : List api_Entry) : Option (Bool) :=
  (F_annuletlaw13_laid a1_Entries).bind fun x1 => (appG ([] : List api_Entry) a1_Entries).bind fun x2 => (appG x2 a2).bind fun x3 => (F_annuletlaw13_laid x3).bind fun x4 => (F_table_Table_Len x1.1 x1.2.1).bind fun x5 => cond (decide (128 ≤ x5)) ((F_annuletlaw13_fixed ).bind fun x6 => some x6) ((F_route_Choose a0 a1_Self a1_Nears x1.1 x1.2.1).bind fun x7 => (F_route_Choose a0 a1_Self a1_Nears x4.1 x4.2.1).bind fun x8 => (F_annuletlaw13_fixed ).bind fun x9 => cond x9 (some (!(Idn.nearer a0 x7.ID x8.ID))) (some false))
theorem W_annuletlaw13_RouteMore (a0 : Idn) (a1_Self : Idn) (a1_Nears : List api_Near) (a1_Entries : List api_Entry) (a2 : List api_Entry) (p_a1_Nears : Option Addr) (c_a1_Nears : Nat) (p_a1_Entries : Option Addr) (c_a1_Entries : Nat) (p_a2 : Option Addr) (c_a2 : Nat) (r : Bool) (H : F_annuletlaw13_RouteMore a0 a1_Self a1_Nears a1_Entries a2 = some r) (w : World) (hR_a1_Nears : Ro api_Near.enc 17 w p_a1_Nears a1_Nears c_a1_Nears) (hR_a1_Entries : Ro api_Entry.enc 51 w p_a1_Entries a1_Entries c_a1_Entries) (hR_a2 : Ro api_Entry.enc 51 w p_a2 a2 c_a2) :
    Calls PG f_annuletlaw13_RouteMore #[.agg (Idn.enc a0), .agg (annuletlaw13_Place.enc (annuletlaw13_Place.mk a1_Self (.slice p_a1_Nears (a1_Nears).length c_a1_Nears) (.slice p_a1_Entries (a1_Entries).length c_a1_Entries))), .slice p_a2 (a2).length c_a2] w (Ret w [] (fun v nm => v = .bool (r) ∧ nm = [])) := by
  unfold F_annuletlaw13_RouteMore at H
  refine enter0 (n := 64) (args := [.agg (Idn.enc a0), .agg (annuletlaw13_Place.enc (annuletlaw13_Place.mk a1_Self (.slice p_a1_Nears (a1_Nears).length c_a1_Nears) (.slice p_a1_Entries (a1_Entries).length c_a1_Entries))), .slice p_a2 (a2).length c_a2]) B_annuletlaw13_RouteMore rfl rfl (by simp) ?_
  refine .seq (.region (?_))
  refine .box rfl rfl (by decide) fun b3 hb3 => ?_
  refine .box rfl rfl (by decide) fun b4 hb4 => ?_
  refine .step (.as rfl) (by decide) ?_
  refine .nil (.then_n (.seq (.drawsI [0, 1] rfl rfl ?_)))
  refine .first [0, 1, 2, 3, 4, 5] 4 rfl (by kernel_rfl) (by kernel_rfl) ?_
  refine .s_step rfl rfl rfl (.fa rfl F_annuletlaw13_Place_Self Z_api_ID) (by decide) ?_
  refine .s_step rfl rfl rfl (.lds rfl (.i 0 rfl) A_api_ID Z_api_ID (annuletlaw13_Place.s_Self _)) (by decide) ?_
  refine .s_step rfl rfl rfl (.fa rfl F_annuletlaw13_Place_Nears Z_sl_api_Near) (by decide) ?_
  refine .s_step rfl rfl rfl (.ld1 rfl (.i 0 rfl) A_sl_api_Near (annuletlaw13_Place.g_Nears _)) (by decide) ?_
  refine .s_step rfl rfl rfl (.fa rfl F_annuletlaw13_Place_Entries Z_sl_api_Entry) (by decide) ?_
  refine .s_step rfl rfl rfl (.ld1 rfl (.i 0 rfl) A_sl_api_Entry (annuletlaw13_Place.g_Entries _)) (by decide) ?_
  refine .s_nil ?_
  refine .only (i := 6) (.refl _) (by kernel_rfl) rfl ?_
  refine .alloc N_api_ID rfl (by decide) fun b7 hb7 => ?_
  refine .nil (.then_n ?_)
  refine .only (i := 7) (.cons _ (.refl _)) (by kernel_rfl) rfl ?_
  refine .storeA 0 rfl rfl rfl rfl Z_api_ID (Idn.size _) (Idn.one _) (Idn.size _) ?_
  refine .nil (.then_n ?_)
  refine .first [8, 9] 0 rfl (by kernel_rfl) (by kernel_rfl) ?_
  refine .s_step rfl rfl rfl (.as rfl) (by decide) ?_
  refine .s_step rfl rfl rfl (.as rfl) (by decide) ?_
  refine .s_nil ?_
  refine .done (.cons _ (.refl _)) (by kernel_rfl) ?_
  refine .then_n (.seq (.region (?_)))
  refine .step (.mv rfl) (by decide) ?_
  obtain ⟨x1, hx1, H⟩ := bind_s H
  refine .call0 rfl E_annuletlaw13_laid rfl rfl (fun w hm hf => W_annuletlaw13_laid a1_Entries _ _ _ hx1 w (RoK.at ((RoK.par hR_a1_Entries)) hm hf)) (by decide) fun v nm hR => ?_
  obtain ⟨b_24_0, b_24_0_m, k_o_24_1, c_o_24_1, r_o_24_1, rfl, rfl, ho_o_24_1⟩ := hR
  refine .step (.mv rfl) (by decide) ?_
  refine .step (.xt rfl rfl) (by decide) ?_
  refine .step (.xt rfl rfl) (by decide) ?_
  refine .step (.as rfl) (by decide) ?_
  refine .step (.as rfl) (by decide) ?_
  refine .nil (.then_n (.seq (.region (?_))))
  refine .bs0 L_sl_api_Entry Z_api_Entry (by decide) fun b28 hb28 => ?_
  have hob28 : OwnS 51 (some b28) ([] : List api_Entry).length 0 #[] := ⟨rfl, Nat.le_refl _, fun h => by cases h⟩
  refine .step (.mv rfl) (by decide) ?_
  obtain ⟨x2, hx2, H⟩ := bind_s H
  refine .appX 0 api_Entry.size hob28 (.par hR_a1_Entries) hx2 rfl rfl rfl L_sl_api_Entry Z_api_Entry Y_api_Entry N_api_Entry (api_Entry.size _) (by decide) (by decide) (fun a _ => api_Entry.one a) (by decide) fun k_q1 c_q1 r_q1 ho_q1 => ?_
  refine .step (.mv rfl) (by decide) ?_
  obtain ⟨x3, hx3, H⟩ := bind_s H
  refine .appX 0 api_Entry.size ho_q1 (.par hR_a2) hx3 rfl rfl rfl L_sl_api_Entry Z_api_Entry Y_api_Entry N_api_Entry (api_Entry.size _) (by decide) (by decide) (fun a _ => api_Entry.one a) (by decide) fun k_q2 c_q2 r_q2 ho_q2 => ?_
  obtain ⟨x4, hx4, H⟩ := bind_s H
  refine .call0 rfl E_annuletlaw13_laid rfl rfl (fun w hm hf => W_annuletlaw13_laid x3 _ _ _ hx4 w (RoK.at ((RoK.own 0 api_Entry.size rfl ho_q2)) hm hf)) (by decide) fun v nm hR => ?_
  obtain ⟨b_33_0, b_33_0_m, k_o_33_1, c_o_33_1, r_o_33_1, rfl, rfl, ho_o_33_1⟩ := hR
  refine .step (.mv rfl) (by decide) ?_
  refine .step (.xt rfl rfl) (by decide) ?_
  refine .step (.xt rfl rfl) (by decide) ?_
  refine .step (.as rfl) (by decide) ?_
  refine .step (.as rfl) (by decide) ?_
  refine .nil (.then_n (.seq (.seq (.region (?_)))))
  refine .step (.mv rfl) (by decide) ?_
  refine .step (.eqPtr P_pt_table_Table rfl rfl (by simp)) (by decide) ?_
  refine .step (.mv rfl) (by decide) ?_
  refine .stepg rfl (.mv rfl) (by decide) ?_
  refine .gd rfl ?_
  obtain ⟨x5, hx5, H⟩ := bind_s H
  refine .callQ (v := .int .i64 (x5)) rfl E_table_Table_Len rfl rfl (fun w hm hf => W_table_Table_Len x1.1 x1.2.1 _ _ _ hx5 w (Kn.at (.i 4 rfl) hm hf) (Kn.at (.i 5 rfl) hm hf)) (by decide) ?_
  refine .stepg rfl (.geq rfl rfl) (by decide) ?_
  refine .step (.pk_f rfl rfl) (by decide) ?_
  refine .nil (.then_n (.cond rfl (fun hc1 => ?_) (fun hc1 => ?_)))
  · replace H := cond_t hc1 H
    refine .seq (.region (?_))
    obtain ⟨x6, hx6, H⟩ := bind_s H
    refine .callQ (v := .bool (x6)) rfl E_annuletlaw13_fixed rfl rfl (fun w hm hf => W_annuletlaw13_fixed   _ hx6 w ) (by decide) ?_
    refine .step (.as rfl) (by decide) ?_
    cases H
    exact .nil (.then_n (.ret (.then_r (.ret1 [] (by simp) rfl rfl ⟨rfl, rfl⟩))))
  · replace H := cond_f hc1 H
    refine .skip (.then_n (.seq (.drawsI [0, 1, 2, 3, 4, 5, 6, 7, 8, 9] rfl rfl ?_)))
    refine .first [0, 1, 2, 3, 5, 6, 7, 8] 6 rfl (by kernel_rfl) (by kernel_rfl) ?_
    refine .s_step rfl rfl rfl (.ldA rfl (.i 9 rfl) A_api_ID Z_api_ID (Idn.size _)) (by decide) ?_
    refine .s_step rfl rfl rfl (.ldA rfl (.i 7 rfl) A_api_ID Z_api_ID (Idn.size _)) (by decide) ?_
    refine .s_step rfl rfl rfl (.mv rfl) (by decide) ?_
    refine .s_step rfl rfl rfl (.mv rfl) (by decide) ?_
    refine .s_step rfl rfl rfl (.ldA rfl (.i 9 rfl) A_api_ID Z_api_ID (Idn.size _)) (by decide) ?_
    refine .s_step rfl rfl rfl (.ldA rfl (.i 7 rfl) A_api_ID Z_api_ID (Idn.size _)) (by decide) ?_
    refine .s_step rfl rfl rfl (.mv rfl) (by decide) ?_
    refine .s_step rfl rfl rfl (.mv rfl) (by decide) ?_
    refine .s_nil ?_
    obtain ⟨x7, hx7, H⟩ := bind_s H
    obtain ⟨x8, hx8, H⟩ := bind_s H
    refine .flock [(4, .con 48 _), (9, .con 53 _), (10, .blk 14 _ _), (11, .blk 15 _ _)] 2 (.refl _) rfl (by kernel_rfl) ⟨⟨_, rfl, .callQ rfl E_route_Choose rfl rfl (fun w hm hf => W_route_Choose a0 a1_Self a1_Nears x1.1 x1.2.1 _ _ _ _ _ hx7 w (RoK.at ((RoK.par hR_a1_Nears)) hm hf) (Kn.at (.i 4 rfl) hm hf) (Kn.at (.i 5 rfl) hm hf)) (by decide)⟩, ⟨_, rfl, .callQ rfl E_route_Choose rfl rfl (fun w hm hf => W_route_Choose a0 a1_Self a1_Nears x4.1 x4.2.1 _ _ _ _ _ hx8 w (RoK.at ((RoK.par hR_a1_Nears)) hm hf) (Kn.at (.i 0 rfl) hm hf) (Kn.at (.i 1 rfl) hm hf)) (by decide)⟩, ⟨_, rfl, .alloc N_route_Choice rfl (by decide)⟩, ⟨_, rfl, .alloc N_route_Choice rfl (by decide)⟩, trivial⟩ (fun b14 hb14 b15 hb15 => (?_ : St _ _ _ _ _ _))
    refine .lst (l' := #[true, true, true, true, true, true, true, true, true, true, true, true, false, false]) (by kernel_rfl) ?_
    refine .only (i := 12) (.cons _ (.cons _ (.refl _))) (by kernel_rfl) rfl ?_
    refine .storeA 1 rfl rfl rfl rfl Z_route_Choice (route_Choice.size _) (route_Choice.one _) (route_Choice.size _) ?_
    refine .nil (.then_n ?_)
    refine .only (i := 13) (.cons _ (.cons _ (.refl _))) (by kernel_rfl) rfl ?_
    refine .storeA 0 rfl rfl rfl rfl Z_route_Choice (route_Choice.size _) (route_Choice.one _) (route_Choice.size _) ?_
    refine .nil (.then_n ?_)
    refine .done (.cons _ (.cons _ (.refl _))) (by kernel_rfl) ?_
    refine .then_n (.seq (.region (?_)))
    obtain ⟨x9, hx9, H⟩ := bind_s H
    refine .callQ (v := .bool (x9)) rfl E_annuletlaw13_fixed rfl rfl (fun w hm hf => W_annuletlaw13_fixed   _ hx9 w ) (by decide) ?_
    refine .step (.mv rfl) (by decide) ?_
    refine .splitb 55 rfl (fun hb1 => ?_) (fun hb1 => ?_)
    · replace H := cond_t hb1 H
      refine .stepg rfl (.ldA rfl (.i 11 rfl) A_api_ID Z_api_ID (Idn.size _)) (by decide) ?_
      refine .stepg rfl (.fa rfl F_route_Choice_ID Z_api_ID) (by decide) ?_
      refine .stepg rfl (.lds rfl (.i 1 rfl) A_api_ID Z_api_ID (route_Choice.s_ID _)) (by decide) ?_
      refine .stepg rfl (.fa rfl F_route_Choice_ID Z_api_ID) (by decide) ?_
      refine .stepg rfl (.lds rfl (.i 0 rfl) A_api_ID Z_api_ID (route_Choice.s_ID _)) (by decide) ?_
      refine .gd rfl ?_
      refine .callQ (v := .bool ((Idn.nearer a0 x7.ID x8.ID))) rfl E_annuletref01_Nearer rfl rfl (fun w hm hf => ref01_Nearer a0 x7.ID x8.ID w) (by decide) ?_
      refine .stepg rfl (.not rfl) (by decide) ?_
      refine .step (.pk_t rfl rfl) (by decide) ?_
      refine .step (.as rfl) (by decide) ?_
      cases H
      exact .nil (.then_n (.ret (.ret1 [] (by simp) rfl rfl ⟨rfl, rfl⟩)))
    · replace H := cond_f hb1 H
      refine .pass rfl rfl (by decide) ?_
      refine .pass rfl rfl (by decide) ?_
      refine .pass rfl rfl (by decide) ?_
      refine .pass rfl rfl (by decide) ?_
      refine .pass rfl rfl (by decide) ?_
      refine .pass rfl rfl (by decide) ?_
      refine .pass rfl rfl (by decide) ?_
      refine .step (.pk_f rfl rfl) (by decide) ?_
      refine .step (.as rfl) (by decide) ?_
      cases H
      exact .nil (.then_n (.ret (.ret1 [] (by simp) rfl rfl ⟨rfl, rfl⟩)))

end Go.Fx
