/- The table of paths (packages table and annuletref12). -/
import Derived.Test.YtpkdekhmjjcljaaGreatFxRef0115z
import Derived.Test.YtpkdekhmjjcljaaGreatFxY
namespace Go.Fx
set_option maxRecDepth 10000
def F_table_Less (a0 : api_Path) (a1 : api_Path) : Option (Bool) :=
  cond (!decide ((Idn.cmp a0.Who a1.Who) = 0)) (some (decide ((Idn.cmp a0.Who a1.Who) < 0))) (some (decide (a0.N < a1.N)))
theorem W_table_Less (a0 : api_Path) (a1 : api_Path) (r : Bool) (H : F_table_Less a0 a1 = some r) (w : World) :
    Calls PG f_table_Less #[.agg (api_Path.enc a0), .agg (api_Path.enc a1)] w (Ret w [] (fun v nm => v = .bool (r) ∧ nm = [])) := by
  unfold F_table_Less at H
  refine enter0 (n := 20) (args := [.agg (api_Path.enc a0), .agg (api_Path.enc a1)]) B_table_Less rfl rfl (by simp) ?_
  refine .seq (.region (?_))
  refine .box rfl rfl (by decide) fun b2 hb2 => ?_
  refine .box rfl rfl (by decide) fun b3 hb3 => ?_
  refine .step (.as rfl) (by decide) ?_
  refine .nil (.then_n (.seq (.seq (.region (?_)))))
  refine .step (.fa rfl F_api_Path_Who Z_api_ID) (by decide) ?_
  refine .step (.lds rfl (.i 1 rfl) A_api_ID Z_api_ID (api_Path.s_Who _)) (by decide) ?_
  refine .step (.fa rfl F_api_Path_Who Z_api_ID) (by decide) ?_
  refine .step (.lds rfl (.i 0 rfl) A_api_ID Z_api_ID (api_Path.s_Who _)) (by decide) ?_
  refine .callQ (v := .int .i64 ((Idn.cmp a0.Who a1.Who))) rfl E_ident_Compare rfl rfl (fun w hm hf => ident_Compare a0.Who a1.Who w) (by decide) ?_
  refine .step (.as rfl) (by decide) ?_
  refine .nil (.then_n (.seq (.region (?_))))
  refine .step (.mv rfl) (by decide) ?_
  refine .step (.neq rfl rfl) (by decide) ?_
  refine .nil (.then_n (.cond rfl (fun hc1 => ?_) (fun hc1 => ?_)))
  · replace H := cond_t hc1 H
    refine .seq (.region (?_))
    refine .step (.mv rfl) (by decide) ?_
    refine .step (.lss rfl rfl) (by decide) ?_
    refine .step (.as rfl) (by decide) ?_
    cases H
    exact .nil (.then_n (.ret (.then_r (.ret1 [] (by simp) rfl rfl ⟨rfl, rfl⟩))))
  · replace H := cond_f hc1 H
    refine .skip (.then_n (.seq (.region (?_))))
    refine .step (.fa rfl F_api_Path_N Z_int64) (by decide) ?_
    refine .step (.ld1 rfl (.i 1 rfl) A_int64 (api_Path.g_N _)) (by decide) ?_
    refine .step (.fa rfl F_api_Path_N Z_int64) (by decide) ?_
    refine .step (.ld1 rfl (.i 0 rfl) A_int64 (api_Path.g_N _)) (by decide) ?_
    refine .step (.lss rfl rfl) (by decide) ?_
    refine .step (.as rfl) (by decide) ?_
    cases H
    exact .nil (.then_n (.ret (.ret1 [] (by simp) rfl rfl ⟨rfl, rfl⟩)))

def F_annuletref12_Less (a0 : api_Path) (a1 : api_Path) : Option (Bool) :=
  cond (!decide (a0.Who = a1.Who)) (some (decide (Idn.n a0.Who < Idn.n a1.Who))) (some (decide (a0.N < a1.N)))
theorem W_annuletref12_Less (a0 : api_Path) (a1 : api_Path) (r : Bool) (H : F_annuletref12_Less a0 a1 = some r) (w : World) :
    Calls PG f_annuletref12_Less #[.agg (api_Path.enc a0), .agg (api_Path.enc a1)] w (Ret w [] (fun v nm => v = .bool (r) ∧ nm = [])) := by
  unfold F_annuletref12_Less at H
  refine enter0 (n := 20) (args := [.agg (api_Path.enc a0), .agg (api_Path.enc a1)]) B_annuletref12_Less rfl rfl (by simp) ?_
  refine .seq (.region (?_))
  refine .box rfl rfl (by decide) fun b2 hb2 => ?_
  refine .box rfl rfl (by decide) fun b3 hb3 => ?_
  refine .step (.as rfl) (by decide) ?_
  refine .nil (.then_n (.seq (.seq (.region (?_)))))
  refine .step (.fa rfl F_api_Path_Who Z_api_ID) (by decide) ?_
  refine .step (.lds rfl (.i 1 rfl) A_api_ID Z_api_ID (api_Path.s_Who _)) (by decide) ?_
  refine .step (.fa rfl F_api_Path_Who Z_api_ID) (by decide) ?_
  refine .step (.lds rfl (.i 0 rfl) A_api_ID Z_api_ID (api_Path.s_Who _)) (by decide) ?_
  refine .step (.neA (EQ_api_ID _ _) G_api_ID rfl rfl (by decide)) (by decide) ?_
  refine .nil (.then_n (.cond rfl (fun hc1 => ?_) (fun hc1 => ?_)))
  · replace H := cond_t hc1 H
    refine .seq (.region (?_))
    refine .step (.fa rfl F_api_Path_Who Z_api_ID) (by decide) ?_
    refine .step (.lds rfl (.i 1 rfl) A_api_ID Z_api_ID (api_Path.s_Who _)) (by decide) ?_
    refine .step (.fa rfl F_api_Path_Who Z_api_ID) (by decide) ?_
    refine .step (.lds rfl (.i 0 rfl) A_api_ID Z_api_ID (api_Path.s_Who _)) (by decide) ?_
    refine .callQ (v := .bool ((decide (Idn.n a0.Who < Idn.n a1.Who)))) rfl E_annuletref01_Less rfl rfl (fun w hm hf => ref01_Less a0.Who a1.Who w) (by decide) ?_
    refine .step (.as rfl) (by decide) ?_
    cases H
    exact .nil (.then_n (.ret (.then_r (.ret1 [] (by simp) rfl rfl ⟨rfl, rfl⟩))))
  · replace H := cond_f hc1 H
    refine .skip (.then_n (.seq (.region (?_))))
    refine .step (.fa rfl F_api_Path_N Z_int64) (by decide) ?_
    refine .step (.ld1 rfl (.i 1 rfl) A_int64 (api_Path.g_N _)) (by decide) ?_
    refine .step (.fa rfl F_api_Path_N Z_int64) (by decide) ?_
    refine .step (.ld1 rfl (.i 0 rfl) A_int64 (api_Path.g_N _)) (by decide) ?_
    refine .step (.lss rfl rfl) (by decide) ?_
    refine .step (.as rfl) (by decide) ?_
    cases H
    exact .nil (.then_n (.ret (.ret1 [] (by simp) rfl rfl ⟨rfl, rfl⟩)))

def F_annuletref12_Right (a0 : api_Entry) : Option (Bool) :=
  cond (!decide (a0.A = a0.B)) (cond (!decide (a0.Na = a0.Nb)) (cond (decide ((-1) ≤ a0.Na)) (cond (decide (a0.Na ≤ 5)) (cond (decide ((-1) ≤ a0.Nb)) (some (decide (a0.Nb ≤ 5))) (some false)) (some false)) (some false)) (some false)) (some false)
theorem W_annuletref12_Right (a0 : api_Entry) (r : Bool) (H : F_annuletref12_Right a0 = some r) (w : World) :
    Calls PG f_annuletref12_Right #[.agg (api_Entry.enc a0)] w (Ret w [] (fun v nm => v = .bool (r) ∧ nm = [])) := by
  unfold F_annuletref12_Right at H
  refine enter0 (n := 35) (args := [.agg (api_Entry.enc a0)]) B_annuletref12_Right rfl rfl (by simp) ?_
  refine .seq (.region (?_))
  refine .box rfl rfl (by decide) fun b1 hb1 => ?_
  refine .step (.as rfl) (by decide) ?_
  refine .nil (.then_n (.seq (.region (?_))))
  refine .step (.fa rfl F_api_Entry_A Z_api_ID) (by decide) ?_
  refine .step (.lds rfl (.i 0 rfl) A_api_ID Z_api_ID (api_Entry.s_A _)) (by decide) ?_
  refine .step (.fa rfl F_api_Entry_B Z_api_ID) (by decide) ?_
  refine .step (.lds rfl (.i 0 rfl) A_api_ID Z_api_ID (api_Entry.s_B _)) (by decide) ?_
  refine .step (.neA (EQ_api_ID _ _) G_api_ID rfl rfl (by decide)) (by decide) ?_
  refine .step (.mv rfl) (by decide) ?_
  refine .splitb 8 rfl (fun hb1 => ?_) (fun hb1 => ?_)
  · replace H := cond_t hb1 H
    refine .stepg rfl (.fa rfl F_api_Entry_Na Z_int) (by decide) ?_
    refine .stepg rfl (.ld1 rfl (.i 0 rfl) A_int (api_Entry.g_Na _)) (by decide) ?_
    refine .stepg rfl (.fa rfl F_api_Entry_Nb Z_int) (by decide) ?_
    refine .stepg rfl (.ld1 rfl (.i 0 rfl) A_int (api_Entry.g_Nb _)) (by decide) ?_
    refine .stepg rfl (.neq rfl rfl) (by decide) ?_
    refine .step (.pk_t rfl rfl) (by decide) ?_
    refine .step (.mv rfl) (by decide) ?_
    refine .splitb 15 rfl (fun hb2 => ?_) (fun hb2 => ?_)
    · replace H := cond_t hb2 H
      refine .stepg rfl (.fa rfl F_api_Entry_Na Z_int) (by decide) ?_
      refine .stepg rfl (.ld1 rfl (.i 0 rfl) A_int (api_Entry.g_Na _)) (by decide) ?_
      refine .stepg rfl (.geq rfl rfl) (by decide) ?_
      refine .step (.pk_t rfl rfl) (by decide) ?_
      refine .step (.mv rfl) (by decide) ?_
      refine .splitb 20 rfl (fun hb3 => ?_) (fun hb3 => ?_)
      · replace H := cond_t hb3 H
        refine .stepg rfl (.fa rfl F_api_Entry_Na Z_int) (by decide) ?_
        refine .stepg rfl (.ld1 rfl (.i 0 rfl) A_int (api_Entry.g_Na _)) (by decide) ?_
        refine .stepg rfl (.leq rfl rfl) (by decide) ?_
        refine .step (.pk_t rfl rfl) (by decide) ?_
        refine .step (.mv rfl) (by decide) ?_
        refine .splitb 25 rfl (fun hb4 => ?_) (fun hb4 => ?_)
        · replace H := cond_t hb4 H
          refine .stepg rfl (.fa rfl F_api_Entry_Nb Z_int) (by decide) ?_
          refine .stepg rfl (.ld1 rfl (.i 0 rfl) A_int (api_Entry.g_Nb _)) (by decide) ?_
          refine .stepg rfl (.geq rfl rfl) (by decide) ?_
          refine .step (.pk_t rfl rfl) (by decide) ?_
          refine .step (.mv rfl) (by decide) ?_
          refine .splitb 30 rfl (fun hb5 => ?_) (fun hb5 => ?_)
          · replace H := cond_t hb5 H
            refine .stepg rfl (.fa rfl F_api_Entry_Nb Z_int) (by decide) ?_
            refine .stepg rfl (.ld1 rfl (.i 0 rfl) A_int (api_Entry.g_Nb _)) (by decide) ?_
            refine .stepg rfl (.leq rfl rfl) (by decide) ?_
            refine .step (.pk_t rfl rfl) (by decide) ?_
            refine .step (.as rfl) (by decide) ?_
            cases H
            exact .nil (.then_n (.ret (.ret1 [] (by simp) rfl rfl ⟨rfl, rfl⟩)))
          · replace H := cond_f hb5 H
            refine .pass rfl rfl (by decide) ?_
            refine .pass rfl rfl (by decide) ?_
            refine .pass rfl rfl (by decide) ?_
            refine .step (.pk_f rfl rfl) (by decide) ?_
            refine .step (.as rfl) (by decide) ?_
            cases H
            exact .nil (.then_n (.ret (.ret1 [] (by simp) rfl rfl ⟨rfl, rfl⟩)))
        · replace H := cond_f hb4 H
          refine .pass rfl rfl (by decide) ?_
          refine .pass rfl rfl (by decide) ?_
          refine .pass rfl rfl (by decide) ?_
          refine .step (.pk_f rfl rfl) (by decide) ?_
          refine .step (.mv rfl) (by decide) ?_
          refine .pass rfl rfl (by decide) ?_
          refine .pass rfl rfl (by decide) ?_
          refine .pass rfl rfl (by decide) ?_
          refine .step (.pk_f rfl rfl) (by decide) ?_
          refine .step (.as rfl) (by decide) ?_
          cases H
          exact .nil (.then_n (.ret (.ret1 [] (by simp) rfl rfl ⟨rfl, rfl⟩)))
      · replace H := cond_f hb3 H
        refine .pass rfl rfl (by decide) ?_
        refine .pass rfl rfl (by decide) ?_
        refine .pass rfl rfl (by decide) ?_
        refine .step (.pk_f rfl rfl) (by decide) ?_
        refine .step (.mv rfl) (by decide) ?_
        refine .pass rfl rfl (by decide) ?_
        refine .pass rfl rfl (by decide) ?_
        refine .pass rfl rfl (by decide) ?_
        refine .step (.pk_f rfl rfl) (by decide) ?_
        refine .step (.mv rfl) (by decide) ?_
        refine .pass rfl rfl (by decide) ?_
        refine .pass rfl rfl (by decide) ?_
        refine .pass rfl rfl (by decide) ?_
        refine .step (.pk_f rfl rfl) (by decide) ?_
        refine .step (.as rfl) (by decide) ?_
        cases H
        exact .nil (.then_n (.ret (.ret1 [] (by simp) rfl rfl ⟨rfl, rfl⟩)))
    · replace H := cond_f hb2 H
      refine .pass rfl rfl (by decide) ?_
      refine .pass rfl rfl (by decide) ?_
      refine .pass rfl rfl (by decide) ?_
      refine .step (.pk_f rfl rfl) (by decide) ?_
      refine .step (.mv rfl) (by decide) ?_
      refine .pass rfl rfl (by decide) ?_
      refine .pass rfl rfl (by decide) ?_
      refine .pass rfl rfl (by decide) ?_
      refine .step (.pk_f rfl rfl) (by decide) ?_
      refine .step (.mv rfl) (by decide) ?_
      refine .pass rfl rfl (by decide) ?_
      refine .pass rfl rfl (by decide) ?_
      refine .pass rfl rfl (by decide) ?_
      refine .step (.pk_f rfl rfl) (by decide) ?_
      refine .step (.mv rfl) (by decide) ?_
      refine .pass rfl rfl (by decide) ?_
      refine .pass rfl rfl (by decide) ?_
      refine .pass rfl rfl (by decide) ?_
      refine .step (.pk_f rfl rfl) (by decide) ?_
      refine .step (.as rfl) (by decide) ?_
      cases H
      exact .nil (.then_n (.ret (.ret1 [] (by simp) rfl rfl ⟨rfl, rfl⟩)))
  · replace H := cond_f hb1 H
    refine .pass rfl rfl (by decide) ?_
    refine .pass rfl rfl (by decide) ?_
    refine .pass rfl rfl (by decide) ?_
    refine .pass rfl rfl (by decide) ?_
    refine .pass rfl rfl (by decide) ?_
    refine .step (.pk_f rfl rfl) (by decide) ?_
    refine .step (.mv rfl) (by decide) ?_
    refine .pass rfl rfl (by decide) ?_
    refine .pass rfl rfl (by decide) ?_
    refine .pass rfl rfl (by decide) ?_
    refine .step (.pk_f rfl rfl) (by decide) ?_
    refine .step (.mv rfl) (by decide) ?_
    refine .pass rfl rfl (by decide) ?_
    refine .pass rfl rfl (by decide) ?_
    refine .pass rfl rfl (by decide) ?_
    refine .step (.pk_f rfl rfl) (by decide) ?_
    refine .step (.mv rfl) (by decide) ?_
    refine .pass rfl rfl (by decide) ?_
    refine .pass rfl rfl (by decide) ?_
    refine .pass rfl rfl (by decide) ?_
    refine .step (.pk_f rfl rfl) (by decide) ?_
    refine .step (.mv rfl) (by decide) ?_
    refine .pass rfl rfl (by decide) ?_
    refine .pass rfl rfl (by decide) ?_
    refine .pass rfl rfl (by decide) ?_
    refine .step (.pk_f rfl rfl) (by decide) ?_
    refine .step (.as rfl) (by decide) ?_
    cases H
    exact .nil (.then_n (.ret (.ret1 [] (by simp) rfl rfl ⟨rfl, rfl⟩)))

def F_table_Right_f1 (a0 : Int) : Option (Bool) :=
  cond (decide ((-1) ≤ a0)) (some (decide (a0 < 6))) (some false)
theorem W_table_Right_f1 (a0 : Int) (r : Bool) (H : F_table_Right_f1 a0 = some r) (w : World) :
    Calls PG f_table_Right_f1 #[.int .i64 (a0)] w (Ret w [] (fun v nm => v = .bool (r) ∧ nm = [])) := by
  unfold F_table_Right_f1 at H
  refine enter0 (n := 9) (args := [.int .i64 (a0)]) B_table_Right_f1 rfl rfl (by simp) ?_
  refine .seq (.region (?_))
  refine .step (.as rfl) (by decide) ?_
  refine .nil (.then_n (.seq (.region (?_))))
  refine .step (.mv rfl) (by decide) ?_
  refine .step (.geq rfl rfl) (by decide) ?_
  refine .step (.mv rfl) (by decide) ?_
  refine .splitb 5 rfl (fun hb1 => ?_) (fun hb1 => ?_)
  · replace H := cond_t hb1 H
    refine .stepg rfl (.mv rfl) (by decide) ?_
    refine .stepg rfl (.lss rfl rfl) (by decide) ?_
    refine .step (.pk_t rfl rfl) (by decide) ?_
    refine .step (.as rfl) (by decide) ?_
    cases H
    exact .nil (.then_n (.ret (.ret1 [] (by simp) rfl rfl ⟨rfl, rfl⟩)))
  · replace H := cond_f hb1 H
    refine .pass rfl rfl (by decide) ?_
    refine .pass rfl rfl (by decide) ?_
    refine .step (.pk_f rfl rfl) (by decide) ?_
    refine .step (.as rfl) (by decide) ?_
    cases H
    exact .nil (.then_n (.ret (.ret1 [] (by simp) rfl rfl ⟨rfl, rfl⟩)))

def F_table_Right (a0 : api_Entry) : Option (Bool) :=
  cond (!decide (a0.A = a0.B)) ((F_table_Right_f1 a0.Na).bind fun x1 => cond x1 ((F_table_Right_f1 a0.Nb).bind fun x2 => cond x2 (some (!decide (a0.Na = a0.Nb))) (some false)) (some false)) (some false)
theorem W_table_Right (a0 : api_Entry) (r : Bool) (H : F_table_Right a0 = some r) (w : World) :
    Calls PG f_table_Right #[.agg (api_Entry.enc a0)] w (Ret w [] (fun v nm => v = .bool (r) ∧ nm = [])) := by
  unfold F_table_Right at H
  refine enter0 (n := 28) (args := [.agg (api_Entry.enc a0)]) B_table_Right rfl rfl (by simp) ?_
  refine .seq (.region (?_))
  refine .box rfl rfl (by decide) fun b1 hb1 => ?_
  refine .step (.as rfl) (by decide) ?_
  refine .nil (.then_n (.seq (.region (?_))))
  refine .step (.as rfl) (by decide) ?_
  refine .nil (.then_n (.seq (.region (?_))))
  refine .step (.fa rfl F_api_Entry_A Z_api_ID) (by decide) ?_
  refine .step (.lds rfl (.i 0 rfl) A_api_ID Z_api_ID (api_Entry.s_A _)) (by decide) ?_
  refine .step (.fa rfl F_api_Entry_B Z_api_ID) (by decide) ?_
  refine .step (.lds rfl (.i 0 rfl) A_api_ID Z_api_ID (api_Entry.s_B _)) (by decide) ?_
  refine .step (.neA (EQ_api_ID _ _) G_api_ID rfl rfl (by decide)) (by decide) ?_
  refine .step (.mv rfl) (by decide) ?_
  refine .splitb 9 rfl (fun hb1 => ?_) (fun hb1 => ?_)
  · replace H := cond_t hb1 H
    refine .stepg rfl (.mv rfl) (by decide) ?_
    refine .stepg rfl (.fa rfl F_api_Entry_Na Z_int) (by decide) ?_
    refine .stepg rfl (.ld1 rfl (.i 0 rfl) A_int (api_Entry.g_Na _)) (by decide) ?_
    refine .gd rfl ?_
    obtain ⟨x1, hx1, H⟩ := bind_s H
    refine .callQ (v := .bool (x1)) rfl E_table_Right_f1 rfl rfl (fun w hm hf => W_table_Right_f1 a0.Na  _ hx1 w ) (by decide) ?_
    refine .step (.pk_t rfl rfl) (by decide) ?_
    refine .step (.mv rfl) (by decide) ?_
    refine .splitb 15 rfl (fun hb2 => ?_) (fun hb2 => ?_)
    · replace H := cond_t hb2 H
      refine .stepg rfl (.mv rfl) (by decide) ?_
      refine .stepg rfl (.fa rfl F_api_Entry_Nb Z_int) (by decide) ?_
      refine .stepg rfl (.ld1 rfl (.i 0 rfl) A_int (api_Entry.g_Nb _)) (by decide) ?_
      refine .gd rfl ?_
      obtain ⟨x2, hx2, H⟩ := bind_s H
      refine .callQ (v := .bool (x2)) rfl E_table_Right_f1 rfl rfl (fun w hm hf => W_table_Right_f1 a0.Nb  _ hx2 w ) (by decide) ?_
      refine .step (.pk_t rfl rfl) (by decide) ?_
      refine .step (.mv rfl) (by decide) ?_
      refine .splitb 21 rfl (fun hb3 => ?_) (fun hb3 => ?_)
      · replace H := cond_t hb3 H
        refine .stepg rfl (.fa rfl F_api_Entry_Na Z_int) (by decide) ?_
        refine .stepg rfl (.ld1 rfl (.i 0 rfl) A_int (api_Entry.g_Na _)) (by decide) ?_
        refine .stepg rfl (.fa rfl F_api_Entry_Nb Z_int) (by decide) ?_
        refine .stepg rfl (.ld1 rfl (.i 0 rfl) A_int (api_Entry.g_Nb _)) (by decide) ?_
        refine .stepg rfl (.neq rfl rfl) (by decide) ?_
        refine .step (.pk_t rfl rfl) (by decide) ?_
        refine .step (.as rfl) (by decide) ?_
        cases H
        exact .nil (.then_n (.ret (.ret1 [] (by simp) rfl rfl ⟨rfl, rfl⟩)))
      · replace H := cond_f hb3 H
        refine .pass rfl rfl (by decide) ?_
        refine .pass rfl rfl (by decide) ?_
        refine .pass rfl rfl (by decide) ?_
        refine .pass rfl rfl (by decide) ?_
        refine .pass rfl rfl (by decide) ?_
        refine .step (.pk_f rfl rfl) (by decide) ?_
        refine .step (.as rfl) (by decide) ?_
        cases H
        exact .nil (.then_n (.ret (.ret1 [] (by simp) rfl rfl ⟨rfl, rfl⟩)))
    · replace H := cond_f hb2 H
      refine .pass rfl rfl (by decide) ?_
      refine .pass rfl rfl (by decide) ?_
      refine .pass rfl rfl (by decide) ?_
      refine .pass rfl rfl (by decide) ?_
      refine .step (.pk_f rfl rfl) (by decide) ?_
      refine .step (.mv rfl) (by decide) ?_
      refine .pass rfl rfl (by decide) ?_
      refine .pass rfl rfl (by decide) ?_
      refine .pass rfl rfl (by decide) ?_
      refine .pass rfl rfl (by decide) ?_
      refine .pass rfl rfl (by decide) ?_
      refine .step (.pk_f rfl rfl) (by decide) ?_
      refine .step (.as rfl) (by decide) ?_
      cases H
      exact .nil (.then_n (.ret (.ret1 [] (by simp) rfl rfl ⟨rfl, rfl⟩)))
  · replace H := cond_f hb1 H
    refine .pass rfl rfl (by decide) ?_
    refine .pass rfl rfl (by decide) ?_
    refine .pass rfl rfl (by decide) ?_
    refine .pass rfl rfl (by decide) ?_
    refine .step (.pk_f rfl rfl) (by decide) ?_
    refine .step (.mv rfl) (by decide) ?_
    refine .pass rfl rfl (by decide) ?_
    refine .pass rfl rfl (by decide) ?_
    refine .pass rfl rfl (by decide) ?_
    refine .pass rfl rfl (by decide) ?_
    refine .step (.pk_f rfl rfl) (by decide) ?_
    refine .step (.mv rfl) (by decide) ?_
    refine .pass rfl rfl (by decide) ?_
    refine .pass rfl rfl (by decide) ?_
    refine .pass rfl rfl (by decide) ?_
    refine .pass rfl rfl (by decide) ?_
    refine .pass rfl rfl (by decide) ?_
    refine .step (.pk_f rfl rfl) (by decide) ?_
    refine .step (.as rfl) (by decide) ?_
    cases H
    exact .nil (.then_n (.ret (.ret1 [] (by simp) rfl rfl ⟨rfl, rfl⟩)))

def F_table_New (a0 : Int) : Option (Int × (MS api_Path api_Entry)) :=
  some ((if 128 < (if 0 > a0 then 0 else a0) then 128 else (if 0 > a0 then 0 else a0)), (MS.emp : MS api_Path api_Entry))
theorem W_table_New (a0 : Int) (r : Int × (MS api_Path api_Entry)) (H : F_table_New a0 = some r) (w : World) :
    Calls PG f_table_New #[.int .i64 (a0)] w (Ret w [] (fun v nm => ∃ (b_q0 : Nat) (b_q0_m : Nat), v = .pointer (some ⟨b_q0, 0, none⟩) ∧ nm = [(some b_q0, .cells (table_Table.enc (table_Table.mk r.1 (.map (some b_q0_m)))) T_table_Table (0, 0)), (some b_q0_m, MS.obj (vA api_Path.enc) (vA api_Entry.enc) r.2)])) := by
  unfold F_table_New at H
  refine enter0 (n := 9) (args := [.int .i64 (a0)]) B_table_New rfl rfl (by simp) ?_
  refine .seq (.region (?_))
  refine .step (.as rfl) (by decide) ?_
  refine .nil (.then_n (.seq (.region (?_))))
  refine .step (.mv rfl) (by decide) ?_
  refine .step (.max rfl rfl) (by decide) ?_
  refine .step (.min rfl rfl) (by decide) ?_
  refine .mkS (vA api_Path.enc) api_Entry.enc (by decide) fun b6 hb6 => ?_
  refine .step (.bdS rfl N_table_Table rfl W_table_Table (.cons rfl rfl (le_of (table_Table.size _) (by decide)) (table_Table.u_most _ _) (.cons rfl rfl (le_of (table_Table.size _) (by decide)) (table_Table.u_m _ _) (.nil)))) (by decide) ?_
  refine .box rfl rfl (by decide) fun b8 hb8 => ?_
  refine .step (.as rfl) (by decide) ?_
  cases H
  exact .nil (.then_n (.ret (.ret1 [_, _] (.refl _) rfl rfl ⟨b8, b6, rfl, rfl⟩)))

def F_annuletref12_New (a0 : Int) : Option ((List api_Entry) × Int) :=
  cond (decide (a0 < 0)) (cond (decide (128 < 0)) (some (([] : List api_Entry), 128)) (some (([] : List api_Entry), 0))) (cond (decide (128 < a0)) (some (([] : List api_Entry), 128)) (some (([] : List api_Entry), a0)))
theorem W_annuletref12_New (a0 : Int) (r : (List api_Entry) × Int) (H : F_annuletref12_New a0 = some r) (w : World) :
    Calls PG f_annuletref12_New #[.int .i64 (a0)] w (Ret w [] (fun v nm => ∃ (b_q0 : Nat) (k_o_q0_L : Option Nat) (c_o_q0_L : Nat) (r_o_q0_L : Array Value), v = .pointer (some ⟨b_q0, 0, none⟩) ∧ nm = [(some b_q0, .cells (annuletref12_Table.enc (annuletref12_Table.mk (slS k_o_q0_L (r.1).length c_o_q0_L) r.2)) T_annuletref12_Table (0, 0)), (k_o_q0_L, .cells (catA ((r.1).map api_Entry.enc) ++ r_o_q0_L) T_api_Entry (0, 0))] ∧ OwnS 51 k_o_q0_L (r.1).length c_o_q0_L r_o_q0_L)) := by
  unfold F_annuletref12_New at H
  refine enter0 (n := 10) (args := [.int .i64 (a0)]) B_annuletref12_New rfl rfl (by simp) ?_
  refine .seq (.region (?_))
  refine .step (.as rfl) (by decide) ?_
  refine .nil (.then_n (.seq (.seq (.region (?_)))))
  refine .step (.mv rfl) (by decide) ?_
  refine .step (.lss rfl rfl) (by decide) ?_
  refine .nil (.then_n (.cond rfl (fun hc1 => ?_) (fun hc1 => ?_)))
  · replace H := cond_t hc1 H
    refine .region (?_)
    refine .step (.as rfl) (by decide) ?_
    refine .nil (.then_n (.seq (.seq (.region (?_)))))
    refine .step (.mv rfl) (by decide) ?_
    refine .step (.gtr rfl rfl) (by decide) ?_
    refine .nil (.then_n (.cond rfl (fun hc2 => ?_) (fun hc2 => ?_)))
    · replace H := cond_t hc2 H
      refine .region (?_)
      refine .step (.as rfl) (by decide) ?_
      refine .nil (.then_n (.seq (.region (?_))))
      refine .step (.mv rfl) (by decide) ?_
      refine .step (.bdS rfl N_annuletref12_Table rfl W_annuletref12_Table (.cons rfl rfl (le_of (annuletref12_Table.size _) (by decide)) (annuletref12_Table.u_Most _ _) (.nil))) (by decide) ?_
      refine .box rfl rfl (by decide) fun b9 hb9 => ?_
      refine .step (.as rfl) (by decide) ?_
      refine .non (o := .cells (catA (([] : List api_Entry).map api_Entry.enc) ++ #[]) T_api_Entry (0, 0)) ?_
      refine .sel [1, 0] (by decide) rfl ?_
      cases H
      exact .nil (.then_n (.ret (.ret1 [_, _] (.refl _) rfl rfl ⟨b9, none, 0, #[], rfl, rfl, ⟨rfl, Nat.le_refl _, fun _ => rfl⟩⟩)))
    · replace H := cond_f hc2 H
      refine .skip (.then_n (.seq (.region (?_))))
      refine .step (.mv rfl) (by decide) ?_
      refine .step (.bdS rfl N_annuletref12_Table rfl W_annuletref12_Table (.cons rfl rfl (le_of (annuletref12_Table.size _) (by decide)) (annuletref12_Table.u_Most _ _) (.nil))) (by decide) ?_
      refine .box rfl rfl (by decide) fun b9 hb9 => ?_
      refine .step (.as rfl) (by decide) ?_
      refine .non (o := .cells (catA (([] : List api_Entry).map api_Entry.enc) ++ #[]) T_api_Entry (0, 0)) ?_
      refine .sel [1, 0] (by decide) rfl ?_
      cases H
      exact .nil (.then_n (.ret (.ret1 [_, _] (.refl _) rfl rfl ⟨b9, none, 0, #[], rfl, rfl, ⟨rfl, Nat.le_refl _, fun _ => rfl⟩⟩)))
  · replace H := cond_f hc1 H
    refine .skip (.then_n (.seq (.seq (.region (?_)))))
    refine .step (.mv rfl) (by decide) ?_
    refine .step (.gtr rfl rfl) (by decide) ?_
    refine .nil (.then_n (.cond rfl (fun hc3 => ?_) (fun hc3 => ?_)))
    · replace H := cond_t hc3 H
      refine .region (?_)
      refine .step (.as rfl) (by decide) ?_
      refine .nil (.then_n (.seq (.region (?_))))
      refine .step (.mv rfl) (by decide) ?_
      refine .step (.bdS rfl N_annuletref12_Table rfl W_annuletref12_Table (.cons rfl rfl (le_of (annuletref12_Table.size _) (by decide)) (annuletref12_Table.u_Most _ _) (.nil))) (by decide) ?_
      refine .box rfl rfl (by decide) fun b9 hb9 => ?_
      refine .step (.as rfl) (by decide) ?_
      refine .non (o := .cells (catA (([] : List api_Entry).map api_Entry.enc) ++ #[]) T_api_Entry (0, 0)) ?_
      refine .sel [1, 0] (by decide) rfl ?_
      cases H
      exact .nil (.then_n (.ret (.ret1 [_, _] (.refl _) rfl rfl ⟨b9, none, 0, #[], rfl, rfl, ⟨rfl, Nat.le_refl _, fun _ => rfl⟩⟩)))
    · replace H := cond_f hc3 H
      refine .skip (.then_n (.seq (.region (?_))))
      refine .step (.mv rfl) (by decide) ?_
      refine .step (.bdS rfl N_annuletref12_Table rfl W_annuletref12_Table (.cons rfl rfl (le_of (annuletref12_Table.size _) (by decide)) (annuletref12_Table.u_Most _ _) (.nil))) (by decide) ?_
      refine .box rfl rfl (by decide) fun b9 hb9 => ?_
      refine .step (.as rfl) (by decide) ?_
      refine .non (o := .cells (catA (([] : List api_Entry).map api_Entry.enc) ++ #[]) T_api_Entry (0, 0)) ?_
      refine .sel [1, 0] (by decide) rfl ?_
      cases H
      exact .nil (.then_n (.ret (.ret1 [_, _] (.refl _) rfl rfl ⟨b9, none, 0, #[], rfl, rfl, ⟨rfl, Nat.le_refl _, fun _ => rfl⟩⟩)))

def F_table_Table_has (_a0_most : Int) (a0_m : MS api_Path api_Entry) (a1 : api_Path) : Option (Bool) :=
  some ((MS.get a0_m a1).isSome)
theorem W_table_Table_has (a0_most : Int) (a0_m : MS api_Path api_Entry) (a1 : api_Path) (b_a0 : Nat) (b_a0_m : Nat) (r : Bool) (H : F_table_Table_has a0_most a0_m a1 = some r) (w : World) (hB_b_a0 : w.heap[b_a0]? = some (.cells (table_Table.enc (table_Table.mk a0_most (.map (some b_a0_m)))) T_table_Table (0, 0))) (hB_b_a0_m : w.heap[b_a0_m]? = some (MS.obj (vA api_Path.enc) (vA api_Entry.enc) a0_m)) :
    Calls PG f_table_Table_has #[.pointer (some ⟨b_a0, 0, none⟩), .agg (api_Path.enc a1)] w (Ret w [] (fun v nm => v = .bool (r) ∧ nm = [])) := by
  unfold F_table_Table_has at H
  refine enter0 (n := 17) (args := [.pointer (some ⟨b_a0, 0, none⟩), .agg (api_Path.enc a1)]) B_table_Table_has rfl rfl (by simp) ?_
  refine .seq (.region (?_))
  refine .box rfl rfl (by decide) fun b3 hb3 => ?_
  refine .step (.as rfl) (by decide) ?_
  refine .nil (.then_n (.seq (.drawsI [0] rfl rfl ?_)))
  refine .first [0, 1, 2, 3, 4, 5, 6, 7, 8] 3 rfl (by kernel_rfl) (by kernel_rfl) ?_
  refine .s_step rfl rfl rfl (.mv rfl) (by decide) ?_
  refine .s_step rfl rfl rfl (.nc rfl) (by decide) ?_
  refine .s_step rfl rfl rfl (.fa rfl F_table_Table_m Z_map_api_Path_api_Entry) (by decide) ?_
  refine .s_step rfl rfl rfl (.ld1 rfl (.o hB_b_a0 (by simp)) A_map_api_Path_api_Entry (table_Table.g_m _)) (by decide) ?_
  refine .s_step rfl rfl rfl (.ldA rfl (.i 0 rfl) A_api_Path Z_api_Path (api_Path.size _)) (by decide) ?_
  refine .s_step rfl rfl rfl (.lkOkS M_map_api_Path_api_Entry U_api_Path KO_api_Path N_api_Entry (.o hB_b_a0_m (by simp)) rfl rfl) (by decide) ?_
  refine .s_step rfl rfl rfl (.mv rfl) (by decide) ?_
  refine .s_step rfl rfl rfl (.xt rfl rfl) (by decide) ?_
  refine .s_step rfl rfl rfl (.xt rfl rfl) (by decide) ?_
  refine .s_nil ?_
  refine .only (i := 9) (.refl _) (by kernel_rfl) rfl ?_
  refine .alloc N_api_Entry rfl (by decide) fun b5 hb5 => ?_
  refine .nil (.then_n ?_)
  refine .only (i := 10) (.cons _ (.refl _)) (by kernel_rfl) rfl ?_
  refine .storeA 0 rfl rfl rfl rfl Z_api_Entry (api_Entry.size _) (api_Entry.one _) (api_Entry.size _) ?_
  refine .nil (.then_n ?_)
  refine .first [11] 0 rfl (by kernel_rfl) (by kernel_rfl) ?_
  refine .s_step rfl rfl rfl (.as rfl) (by decide) ?_
  refine .s_nil ?_
  refine .done (.cons _ (.refl _)) (by kernel_rfl) ?_
  refine .then_n (.seq (.region (?_)))
  refine .step (.mv rfl) (by decide) ?_
  refine .step (.as rfl) (by decide) ?_
  cases H
  exact .nil (.then_n (.ret (.ret1 [] (by simp) rfl rfl ⟨rfl, rfl⟩)))

def F_annuletref12_Table_Get_L1 (a0_L : List api_Entry) (a1 : api_Path) (again1 : (Int) → Option (api_Entry × Bool)) (st : Int) : Option (api_Entry × Bool) :=
  (fun s6_1 => cond (decide (s6_1 < (((a0_L).length : Nat) : Int))) ((ixL a0_L s6_1).bind fun x1 => cond (decide (x1.P = a1)) ((ixL a0_L s6_1).bind fun x2 => some (x2, true)) (again1 (IntKind.wrap .i64 (s6_1 + 1)))) (some ((api_Entry.mk (api_Path.mk Idn.zero 0) Idn.zero Idn.zero 0 0), false))) st
def F_annuletref12_Table_Get (a0_L : List api_Entry) (_a0_Most : Int) (a1 : api_Path) : Option (api_Entry × Bool) :=
  iter (F_annuletref12_Table_Get_L1 a0_L a1) FUEL 0
theorem W_annuletref12_Table_Get (a0_L : List api_Entry) (a0_Most : Int) (a1 : api_Path) (b_a0 : Nat) (p_a0_L : Option Addr) (c_a0_L : Nat) (r : api_Entry × Bool) (H : F_annuletref12_Table_Get a0_L a0_Most a1 = some r) (w : World) (hB_b_a0 : w.heap[b_a0]? = some (.cells (annuletref12_Table.enc (annuletref12_Table.mk (Slv.mk p_a0_L (a0_L).length c_a0_L) a0_Most)) T_annuletref12_Table (0, 0))) (hR_a0_L : Ro api_Entry.enc 51 w p_a0_L a0_L c_a0_L) :
    Calls PG f_annuletref12_Table_Get #[.pointer (some ⟨b_a0, 0, none⟩), .agg (api_Path.enc a1)] w (Ret w [] (fun v nm => v = .tuple #[.agg (api_Entry.enc r.1), .bool (r.2)] ∧ nm = [])) := by
  unfold F_annuletref12_Table_Get at H
  refine enter0 (n := 34) (args := [.pointer (some ⟨b_a0, 0, none⟩), .agg (api_Path.enc a1)]) B_annuletref12_Table_Get rfl rfl (by simp) ?_
  refine .seq (.region (?_))
  refine .box rfl rfl (by decide) fun b3 hb3 => ?_
  refine .alloc N_api_Entry rfl (by decide) fun b4 hb4 => ?_
  refine .step (.as rfl) (by decide) ?_
  refine .nil (.then_n (.seq (.seq (.region (?_)))))
  refine .step (.as rfl) (by decide) ?_
  refine .nil (.then_n (.block (.loop (G := Nat × (Int)) (fun g => iter (F_annuletref12_Table_Get_L1 a0_L a1) g.1 g.2 = some r) (fun g => [(some b4, .cells (api_Entry.enc (api_Entry.mk (api_Path.mk Idn.zero 0) Idn.zero Idn.zero 0 0)) T_api_Entry (0, 0)), (some b3, .cells (api_Path.enc a1) T_api_Path (0, 0))]) (fun g => [(0, .pointer (some ⟨b_a0, 0, none⟩)), (3, .pointer (some ⟨b3, 0, none⟩)), (4, .pointer (some ⟨b4, 0, none⟩)), (6, .int .i64 (g.2))]) (fun g => g.1) ⟨FUEL, 0⟩ H (.refl _) (.cons rfl (.cons rfl (.cons rfl (.cons rfl .nil)))) ?_)))
  rintro ⟨_ | fl1, s6_1⟩ H
  · exact (iter_0 H).elim
  replace H := iter_s H; rw [F_annuletref12_Table_Get_L1] at H; dsimp only at H ⊢
  refine .seq (.seq (.region (?_)))
  refine .step (.mv rfl) (by decide) ?_
  refine .step (.mv rfl) (by decide) ?_
  refine .step (.nc rfl) (by decide) ?_
  refine .step (.fa rfl F_annuletref12_Table_L Z_sl_api_Entry) (by decide) ?_
  refine .step (.ld1 (v := .slice p_a0_L (a0_L).length c_a0_L) rfl (.o hB_b_a0 (by simp)) A_sl_api_Entry (annuletref12_Table.g_L _)) (by decide) ?_
  refine .step (.len L_sl_api_Entry rfl) (by decide) ?_
  refine .step (.lss rfl rfl) (by decide) ?_
  refine .nil (.then_n (.cond rfl (fun hc1 => ?_) (fun hc1 => ?_)))
  · replace H := cond_t hc1 H
    refine .skip (.then_n (.seq (.block (.seq (.drawsI [0, 1] rfl rfl ?_)))))
    refine .first [0, 1, 2, 3, 4, 5, 6, 7, 8, 9] 0 rfl (by kernel_rfl) (by kernel_rfl) ?_
    refine .s_step rfl rfl rfl (.mv rfl) (by decide) ?_
    refine .s_step rfl rfl rfl (.nc rfl) (by decide) ?_
    refine .s_step rfl rfl rfl (.fa rfl F_annuletref12_Table_L Z_sl_api_Entry) (by decide) ?_
    refine .s_step rfl rfl rfl (.ld1 (v := .slice p_a0_L (a0_L).length c_a0_L) rfl (.o hB_b_a0 (by simp)) A_sl_api_Entry (annuletref12_Table.g_L _)) (by decide) ?_
    refine .s_step rfl rfl rfl (.mv rfl) (by decide) ?_
    obtain ⟨x1, hx1, H⟩ := bind_s H
    refine .s_step rfl rfl rfl (.ixP (.par hR_a0_L) hx1 rfl rfl L_sl_api_Entry Z_api_Entry) (by decide) ?_
    refine .s_step rfl rfl rfl (.faP (.par hR_a0_L) hx1 rfl F_api_Entry_P Z_api_Path) (by decide) ?_
    refine .s_step rfl rfl rfl (.ldPf (.par hR_a0_L) hx1 rfl A_api_Path Z_api_Path (api_Entry.s_P _)) (by decide) ?_
    refine .s_step rfl rfl rfl (.ldA rfl (.i 1 rfl) A_api_Path Z_api_Path (api_Path.size _)) (by decide) ?_
    refine .s_step rfl rfl rfl (.eqA (EQ_api_Path _ _) G_api_Path rfl rfl (by decide)) (by decide) ?_
    refine .s_nil ?_
    refine .done (.refl _) (by kernel_rfl) ?_
    refine .then_n (.cond rfl (fun hc2 => ?_) (fun hc2 => ?_))
    · replace H := cond_t hc2 H
      refine .seq (.region (?_))
      refine .step (.mv rfl) (by decide) ?_
      refine .step (.nc rfl) (by decide) ?_
      refine .step (.fa rfl F_annuletref12_Table_L Z_sl_api_Entry) (by decide) ?_
      refine .step (.ld1 (v := .slice p_a0_L (a0_L).length c_a0_L) rfl (.o hB_b_a0 (by simp)) A_sl_api_Entry (annuletref12_Table.g_L _)) (by decide) ?_
      refine .step (.mv rfl) (by decide) ?_
      obtain ⟨x2, hx2, H⟩ := bind_s H
      refine .step (.ixP (.par hR_a0_L) hx2 rfl rfl L_sl_api_Entry Z_api_Entry) (by decide) ?_
      refine .step (.ldP (.par hR_a0_L) hx2 rfl A_api_Entry Z_api_Entry) (by decide) ?_
      refine .storeA 0 rfl rfl rfl rfl Z_api_Entry (api_Entry.size _) (api_Entry.one _) (api_Entry.size _) ?_
      refine .step (.as rfl) (by decide) ?_
      cases H
      exact .nil (.then_n (.ret (.blk_r (.then_r (.then_r (.blk_r (.then_r (.retR2 [] (by simp) rfl (.ce rfl (.i 0 rfl) A_api_Entry Z_api_Entry (api_Entry.size _)) (.tm rfl) ⟨rfl, rfl⟩))))))))
    · replace H := cond_f hc2 H
      refine .skip (.blk_n (.then_n (.region (?_))))
      refine .step (.mv rfl) (by decide) ?_
      refine .step (.add rfl rfl) (by decide) ?_
      refine .step (.as rfl) (by decide) ?_
      refine .nil (.then_n (?_))
      exact .again ⟨fl1, (IntKind.wrap .i64 (s6_1 + 1))⟩ H (Nat.lt_succ_self _) (.refl _) (.cons rfl (.cons rfl (.cons rfl (.cons rfl .nil))))
  · replace H := cond_f hc1 H
    refine .exit (.then_x (.then_x (.blk_x (.then_n (.seq (.region (?_)))))))
    refine .step (.bdS rfl N_api_Entry rfl W_api_Entry (.nil)) (by decide) ?_
    refine .storeA 0 rfl rfl rfl rfl Z_api_Entry (api_Entry.size _) (api_Entry.one _) (api_Entry.size _) ?_
    refine .step (.as rfl) (by decide) ?_
    cases H
    exact .nil (.then_n (.ret (.retR2 [] (by simp) rfl (.ce rfl (.i 0 rfl) A_api_Entry Z_api_Entry (api_Entry.size _)) (.tm rfl) ⟨rfl, rfl⟩)))

def F_table_Table_Add (a0_most : Int) (a0_m : MS api_Path api_Entry) (a1 : api_Entry) : Option (Int × Int × (MS api_Path api_Entry)) :=
  (F_table_Right a1).bind fun x1 => cond (!x1) (some (1, a0_most, a0_m)) ((F_table_Table_has a0_most a0_m a1.P).bind fun x2 => cond x2 (some (7, a0_most, a0_m)) (cond (decide (a0_most ≤ (((MS.len a0_m) : Nat) : Int))) (some (5, a0_most, a0_m)) (some (0, a0_most, (MS.put a0_m a1.P a1)))))
theorem W_table_Table_Add (a0_most : Int) (a0_m : MS api_Path api_Entry) (a1 : api_Entry) (b_a0 : Nat) (b_a0_m : Nat) (r : Int × Int × (MS api_Path api_Entry)) (H : F_table_Table_Add a0_most a0_m a1 = some r) (w : World) (hM : Mem [(some b_a0, .cells (table_Table.enc (table_Table.mk a0_most (.map (some b_a0_m)))) T_table_Table (0, 0)), (some b_a0_m, MS.obj (vA api_Path.enc) (vA api_Entry.enc) a0_m)] w) (hA : List.Pairwise Apart [(some b_a0, .cells (table_Table.enc (table_Table.mk a0_most (.map (some b_a0_m)))) T_table_Table (0, 0)), (some b_a0_m, MS.obj (vA api_Path.enc) (vA api_Entry.enc) a0_m)]) :
    Calls PG f_table_Table_Add #[.pointer (some ⟨b_a0, 0, none⟩), .agg (api_Entry.enc a1)] w (Ret w (keysH [(some b_a0, .cells (table_Table.enc (table_Table.mk a0_most (.map (some b_a0_m)))) T_table_Table (0, 0)), (some b_a0_m, MS.obj (vA api_Path.enc) (vA api_Entry.enc) a0_m)]) (fun v nm => v = .int .i64 (r.1) ∧ nm = [(some b_a0, .cells (table_Table.enc (table_Table.mk r.2.1 (.map (some b_a0_m)))) T_table_Table (0, 0)), (some b_a0_m, MS.obj (vA api_Path.enc) (vA api_Entry.enc) r.2.2)])) := by
  unfold F_table_Table_Add at H
  refine enter (n := 36) (args := [.pointer (some ⟨b_a0, 0, none⟩), .agg (api_Entry.enc a1)]) [(some b_a0, .cells (table_Table.enc (table_Table.mk a0_most (.map (some b_a0_m)))) T_table_Table (0, 0)), (some b_a0_m, MS.obj (vA api_Path.enc) (vA api_Entry.enc) a0_m)] B_table_Table_Add rfl rfl (by simp) hM hA keysH_mem ?_
  refine .seq (.region (?_))
  refine .box rfl rfl (by decide) fun b3 hb3 => ?_
  refine .step (.as rfl) (by decide) ?_
  refine .nil (.then_n (.seq (.block (.seq (.region (?_))))))
  refine .step (.mv rfl) (by decide) ?_
  refine .step (.eqPtr P_pt_table_Table rfl rfl (by simp)) (by decide) ?_
  refine .step (.mv rfl) (by decide) ?_
  refine .stepg rfl (.ldA rfl (.i 0 rfl) A_api_Entry Z_api_Entry (api_Entry.size _)) (by decide) ?_
  refine .gd rfl ?_
  obtain ⟨x1, hx1, H⟩ := bind_s H
  refine .callQ (v := .bool (x1)) rfl E_table_Right rfl rfl (fun w hm hf => W_table_Right a1  _ hx1 w ) (by decide) ?_
  refine .stepg rfl (.not rfl) (by decide) ?_
  refine .step (.pk_f rfl rfl) (by decide) ?_
  refine .step (.as rfl) (by decide) ?_
  refine .nil (.then_n (.cond rfl (fun hc1 => ?_) (fun hc1 => ?_)))
  · replace H := cond_t hc1 H
    refine .seq (.region (?_))
    refine .step (.as rfl) (by decide) ?_
    cases H
    exact .nil (.then_n (.ret (.blk_r (.then_r (.ret1 [_, _] (.cons _ (.refl _)) rfl rfl ⟨rfl, rfl⟩)))))
  · replace H := cond_f hc1 H
    refine .seq (.region (?_))
    refine .step (.mv rfl) (by decide) ?_
    refine .step (.fa rfl F_api_Entry_P Z_api_Path) (by decide) ?_
    refine .step (.lds rfl (.i 0 rfl) A_api_Path Z_api_Path (api_Entry.s_P _)) (by decide) ?_
    obtain ⟨x2, hx2, H⟩ := bind_s H
    refine .callQ (v := .bool (x2)) rfl E_table_Table_has rfl rfl (fun w hm hf => W_table_Table_has a0_most a0_m a1.P _ _ _ hx2 w (Kn.at (.i 1 rfl) hm hf) (Kn.at (.i 2 rfl) hm hf)) (by decide) ?_
    refine .step (.as rfl) (by decide) ?_
    refine .nil (.then_n (.cond rfl (fun hc2 => ?_) (fun hc2 => ?_)))
    · replace H := cond_t hc2 H
      refine .seq (.region (?_))
      refine .step (.as rfl) (by decide) ?_
      cases H
      exact .nil (.then_n (.ret (.blk_r (.then_r (.ret1 [_, _] (.cons _ (.refl _)) rfl rfl ⟨rfl, rfl⟩)))))
    · replace H := cond_f hc2 H
      refine .seq (.drawsI [0, 1, 2] rfl rfl ?_)
      refine .first [0, 1, 2, 3, 4, 5, 6, 7, 8, 9, 10] 0 rfl (by kernel_rfl) (by kernel_rfl) ?_
      refine .s_step rfl rfl rfl (.mv rfl) (by decide) ?_
      refine .s_step rfl rfl rfl (.nc rfl) (by decide) ?_
      refine .s_step rfl rfl rfl (.fa rfl F_table_Table_m Z_map_api_Path_api_Entry) (by decide) ?_
      refine .s_step rfl rfl rfl (.ld1 rfl (.i 1 rfl) A_map_api_Path_api_Entry (table_Table.g_m _)) (by decide) ?_
      refine .s_step rfl rfl rfl (.lenM (ke := vA api_Path.enc) (encV := api_Entry.enc) M_map_api_Path_api_Entry (.i 2 rfl) rfl) (by decide) ?_
      refine .s_step rfl rfl rfl (.mv rfl) (by decide) ?_
      refine .s_step rfl rfl rfl (.nc rfl) (by decide) ?_
      refine .s_step rfl rfl rfl (.fa rfl F_table_Table_most Z_int) (by decide) ?_
      refine .s_step rfl rfl rfl (.ld1 rfl (.i 1 rfl) A_int (table_Table.g_most _)) (by decide) ?_
      refine .s_step rfl rfl rfl (.geq rfl rfl) (by decide) ?_
      refine .s_step rfl rfl rfl (.as rfl) (by decide) ?_
      refine .s_nil ?_
      refine .done (.refl _) (by kernel_rfl) ?_
      refine .then_n (.cond rfl (fun hc3 => ?_) (fun hc3 => ?_))
      · replace H := cond_t hc3 H
        refine .seq (.region (?_))
        refine .step (.as rfl) (by decide) ?_
        cases H
        exact .nil (.then_n (.ret (.blk_r (.then_r (.ret1 [_, _] (.cons _ (.refl _)) rfl rfl ⟨rfl, rfl⟩)))))
      · replace H := cond_f hc3 H
        refine .skip (.blk_n (.then_n (.seq (.drawsI [0, 1] rfl rfl ?_))))
        refine .first [0, 1, 2, 3, 4, 5, 6] 1 rfl (by kernel_rfl) (by kernel_rfl) ?_
        refine .s_step rfl rfl rfl (.mv rfl) (by decide) ?_
        refine .s_step rfl rfl rfl (.nc rfl) (by decide) ?_
        refine .s_step rfl rfl rfl (.fa rfl F_table_Table_m Z_map_api_Path_api_Entry) (by decide) ?_
        refine .s_step rfl rfl rfl (.ld1 rfl (.i 1 rfl) A_map_api_Path_api_Entry (table_Table.g_m _)) (by decide) ?_
        refine .s_step rfl rfl rfl (.fa rfl F_api_Entry_P Z_api_Path) (by decide) ?_
        refine .s_step rfl rfl rfl (.lds rfl (.i 0 rfl) A_api_Path Z_api_Path (api_Entry.s_P _)) (by decide) ?_
        refine .s_step rfl rfl rfl (.ldA rfl (.i 0 rfl) A_api_Entry Z_api_Entry (api_Entry.size _)) (by decide) ?_
        refine .s_nil ?_
        refine .only (i := 7) (.cons_cons _ (.cons_cons _ (.cons _ (.slnil)))) (by kernel_rfl) rfl ?_
        refine .muS 2 M_map_api_Path_api_Entry U_api_Path KO_api_Path rfl rfl rfl rfl ?_
        refine .nil (.then_n ?_)
        refine .done (.cons_cons _ (.cons_cons _ (.cons _ (.slnil)))) (by kernel_rfl) ?_
        refine .then_n (.seq (.region (?_)))
        refine .step (.as rfl) (by decide) ?_
        cases H
        exact .nil (.then_n (.ret (.ret1 [_, _] (.cons _ (.refl _)) rfl rfl ⟨rfl, rfl⟩)))

def F_annuletref12_Table_Add_L1 (a0_L : List api_Entry) (a0_Most : Int) (a1 : api_Entry) (again1 : (List api_Entry × Int) → Option (Int × (List api_Entry) × Int)) (st : List api_Entry × Int) : Option (Int × (List api_Entry) × Int) :=
  match st with | (l_n7_1, s8_1) => cond (decide (s8_1 < (((a0_L).length : Nat) : Int))) ((ixL a0_L s8_1).bind fun x3 => (F_annuletref12_Less x3.P a1.P).bind fun x4 => cond x4 ((ixL a0_L s8_1).bind fun x5 => (appG l_n7_1 ([x5] : List api_Entry)).bind fun x6 => again1 (x6, (IntKind.wrap .i64 (s8_1 + 1)))) ((appG l_n7_1 ([a1] : List api_Entry)).bind fun x7 => (drpL a0_L s8_1).bind fun x8 => (appG x7 x8).bind fun x9 => some (0, x9, a0_Most))) ((appG l_n7_1 ([a1] : List api_Entry)).bind fun x10 => (drpL a0_L s8_1).bind fun x11 => (appG x10 x11).bind fun x12 => some (0, x12, a0_Most))
def F_annuletref12_Table_Add (a0_L : List api_Entry) (a0_Most : Int) (a1 : api_Entry) : Option (Int × (List api_Entry) × Int) :=
  (F_annuletref12_Right a1).bind fun x1 => cond (!x1) (some (1, a0_L, a0_Most)) ((F_annuletref12_Table_Get a0_L a0_Most a1.P).bind fun x2 => cond x2.2 (some (7, a0_L, a0_Most)) (cond (decide (a0_Most ≤ (((a0_L).length : Nat) : Int))) (some (5, a0_L, a0_Most)) (iter (F_annuletref12_Table_Add_L1 a0_L a0_Most a1) FUEL (([] : List api_Entry), 0))))
theorem W_annuletref12_Table_Add (a0_L : List api_Entry) (a0_Most : Int) (a1 : api_Entry) (b_a0 : Nat) (k_o_a0_L : Option Nat) (c_o_a0_L : Nat) (r_o_a0_L : Array Value) (r : Int × (List api_Entry) × Int) (H : F_annuletref12_Table_Add a0_L a0_Most a1 = some r) (w : World) (hM : Mem [(some b_a0, .cells (annuletref12_Table.enc (annuletref12_Table.mk (slS k_o_a0_L (a0_L).length c_o_a0_L) a0_Most)) T_annuletref12_Table (0, 0)), (k_o_a0_L, .cells (catA ((a0_L).map api_Entry.enc) ++ r_o_a0_L) T_api_Entry (0, 0))] w) (hA : List.Pairwise Apart [(some b_a0, .cells (annuletref12_Table.enc (annuletref12_Table.mk (slS k_o_a0_L (a0_L).length c_o_a0_L) a0_Most)) T_annuletref12_Table (0, 0)), (k_o_a0_L, .cells (catA ((a0_L).map api_Entry.enc) ++ r_o_a0_L) T_api_Entry (0, 0))]) (ho_o_a0_L : OwnS 51 k_o_a0_L (a0_L).length c_o_a0_L r_o_a0_L) :
    Calls PG f_annuletref12_Table_Add #[.pointer (some ⟨b_a0, 0, none⟩), .agg (api_Entry.enc a1)] w (Ret w (keysH [(some b_a0, .cells (annuletref12_Table.enc (annuletref12_Table.mk (slS k_o_a0_L (a0_L).length c_o_a0_L) a0_Most)) T_annuletref12_Table (0, 0)), (k_o_a0_L, .cells (catA ((a0_L).map api_Entry.enc) ++ r_o_a0_L) T_api_Entry (0, 0))]) (fun v nm => ∃ (k_o_m0_L : Option Nat) (c_o_m0_L : Nat) (r_o_m0_L : Array Value), v = .int .i64 (r.1) ∧ nm = [(some b_a0, .cells (annuletref12_Table.enc (annuletref12_Table.mk (slS k_o_m0_L (r.2.1).length c_o_m0_L) r.2.2)) T_annuletref12_Table (0, 0)), (k_o_m0_L, .cells (catA ((r.2.1).map api_Entry.enc) ++ r_o_m0_L) T_api_Entry (0, 0))] ∧ OwnS 51 k_o_m0_L (r.2.1).length c_o_m0_L r_o_m0_L)) := by
  unfold F_annuletref12_Table_Add at H
  refine enter (n := 77) (args := [.pointer (some ⟨b_a0, 0, none⟩), .agg (api_Entry.enc a1)]) [(some b_a0, .cells (annuletref12_Table.enc (annuletref12_Table.mk (slS k_o_a0_L (a0_L).length c_o_a0_L) a0_Most)) T_annuletref12_Table (0, 0)), (k_o_a0_L, .cells (catA ((a0_L).map api_Entry.enc) ++ r_o_a0_L) T_api_Entry (0, 0))] B_annuletref12_Table_Add rfl rfl (by simp) hM hA keysH_mem ?_
  refine .seq (.region (?_))
  refine .box rfl rfl (by decide) fun b3 hb3 => ?_
  refine .step (.as rfl) (by decide) ?_
  refine .nil (.then_n (.seq (.seq (.region (?_)))))
  refine .step (.ldA rfl (.i 0 rfl) A_api_Entry Z_api_Entry (api_Entry.size _)) (by decide) ?_
  obtain ⟨x1, hx1, H⟩ := bind_s H
  refine .callQ (v := .bool (x1)) rfl E_annuletref12_Right rfl rfl (fun w hm hf => W_annuletref12_Right a1  _ hx1 w ) (by decide) ?_
  refine .step (.not rfl) (by decide) ?_
  refine .nil (.then_n (.cond rfl (fun hc1 => ?_) (fun hc1 => ?_)))
  · replace H := cond_t hc1 H
    refine .seq (.region (?_))
    refine .step (.as rfl) (by decide) ?_
    cases H
    exact .nil (.then_n (.ret (.then_r (.ret1 [_, _] (.cons _ (.refl _)) rfl rfl ⟨k_o_a0_L, c_o_a0_L, r_o_a0_L, rfl, rfl, ho_o_a0_L⟩))))
  · replace H := cond_f hc1 H
    refine .skip (.then_n (.seq (.seq (.region (?_)))))
    refine .step (.mv rfl) (by decide) ?_
    refine .step (.fa rfl F_api_Entry_P Z_api_Path) (by decide) ?_
    refine .step (.lds rfl (.i 0 rfl) A_api_Path Z_api_Path (api_Entry.s_P _)) (by decide) ?_
    obtain ⟨x2, hx2, H⟩ := bind_s H
    refine .callQ (v := .tuple #[.agg (api_Entry.enc x2.1), .bool (x2.2)]) rfl E_annuletref12_Table_Get rfl rfl (fun w hm hf => W_annuletref12_Table_Get a0_L a0_Most a1.P _ _ _ _ hx2 w (Kn.at (.i 1 rfl) hm hf) (RoK.at ((RoK.own 2 api_Entry.size rfl ho_o_a0_L)) hm hf)) (by decide) ?_
    refine .step (.mv rfl) (by decide) ?_
    refine .step (.xt rfl rfl) (by decide) ?_
    refine .step (.xt rfl rfl) (by decide) ?_
    refine .alloc N_api_Entry rfl (by decide) fun b5 hb5 => ?_
    refine .storeA 0 rfl rfl rfl rfl Z_api_Entry (api_Entry.size _) (api_Entry.one _) (api_Entry.size _) ?_
    refine .step (.as rfl) (by decide) ?_
    refine .nil (.then_n (.seq (.region (?_))))
    refine .step (.mv rfl) (by decide) ?_
    refine .nil (.then_n (.cond rfl (fun hc2 => ?_) (fun hc2 => ?_)))
    · replace H := cond_t hc2 H
      refine .seq (.region (?_))
      refine .step (.as rfl) (by decide) ?_
      cases H
      exact .nil (.then_n (.ret (.then_r (.ret1 [_, _] (.cons _ (.cons _ (.refl _))) rfl rfl ⟨k_o_a0_L, c_o_a0_L, r_o_a0_L, rfl, rfl, ho_o_a0_L⟩))))
    · replace H := cond_f hc2 H
      refine .skip (.then_n (.seq (.seq (.drawsI [0, 1, 2, 3] rfl rfl ?_))))
      refine .first [0, 1, 2, 3, 4, 5, 6, 7, 8, 9] 0 rfl (by kernel_rfl) (by kernel_rfl) ?_
      refine .s_step rfl rfl rfl (.mv rfl) (by decide) ?_
      refine .s_step rfl rfl rfl (.nc rfl) (by decide) ?_
      refine .s_step rfl rfl rfl (.fa rfl F_annuletref12_Table_L Z_sl_api_Entry) (by decide) ?_
      refine .s_step rfl rfl rfl (.ld1 (v := slv k_o_a0_L (a0_L).length c_o_a0_L) rfl (.i 2 rfl) A_sl_api_Entry (annuletref12_Table.g_L _)) (by decide) ?_
      refine .s_step rfl rfl rfl (.len L_sl_api_Entry rfl) (by decide) ?_
      refine .s_step rfl rfl rfl (.mv rfl) (by decide) ?_
      refine .s_step rfl rfl rfl (.nc rfl) (by decide) ?_
      refine .s_step rfl rfl rfl (.fa rfl F_annuletref12_Table_Most Z_int) (by decide) ?_
      refine .s_step rfl rfl rfl (.ld1 rfl (.i 2 rfl) A_int (annuletref12_Table.g_Most _)) (by decide) ?_
      refine .s_step rfl rfl rfl (.geq rfl rfl) (by decide) ?_
      refine .s_nil ?_
      refine .done (.refl _) (by kernel_rfl) ?_
      refine .then_n (.cond rfl (fun hc3 => ?_) (fun hc3 => ?_))
      · replace H := cond_t hc3 H
        refine .seq (.region (?_))
        refine .step (.as rfl) (by decide) ?_
        cases H
        exact .nil (.then_n (.ret (.then_r (.ret1 [_, _] (.cons _ (.cons _ (.refl _))) rfl rfl ⟨k_o_a0_L, c_o_a0_L, r_o_a0_L, rfl, rfl, ho_o_a0_L⟩))))
      · replace H := cond_f hc3 H
        refine .skip (.then_n (.seq (.region (?_))))
        refine .step (.as rfl) (by decide) ?_
        refine .nil (.then_n (.seq (.region (?_))))
        refine .step (.as rfl) (by decide) ?_
        refine .nil (.then_n (.seq (.block (.non (o := .cells (catA (([] : List api_Entry).map api_Entry.enc) ++ #[]) T_api_Entry (0, 0)) (.loop (G := Nat × (List api_Entry × Int) × (Option Nat) × (Nat) × (Array Value)) (fun g => iter (F_annuletref12_Table_Add_L1 a0_L a0_Most a1) g.1 g.2.1 = some r ∧ OwnS 51 g.2.2.1 (g.2.1.1).length g.2.2.2.1 g.2.2.2.2) (fun g => [(g.2.2.1, .cells (catA ((g.2.1.1).map api_Entry.enc) ++ g.2.2.2.2) T_api_Entry (0, 0)), (some b5, .cells (api_Entry.enc x2.1) T_api_Entry (0, 0)), (some b3, .cells (api_Entry.enc a1) T_api_Entry (0, 0)), (some b_a0, .cells (annuletref12_Table.enc (annuletref12_Table.mk (slS k_o_a0_L (a0_L).length c_o_a0_L) a0_Most)) T_annuletref12_Table (0, 0)), (k_o_a0_L, .cells (catA ((a0_L).map api_Entry.enc) ++ r_o_a0_L) T_api_Entry (0, 0))]) (fun g => [(0, .pointer (some ⟨b_a0, 0, none⟩)), (3, .pointer (some ⟨b3, 0, none⟩)), (7, slv g.2.2.1 (g.2.1.1).length g.2.2.2.1), (8, .int .i64 (g.2.1.2))]) (fun g => g.1) ⟨FUEL, (([] : List api_Entry), 0), none, 0, #[]⟩ ⟨H, ⟨rfl, Nat.le_refl _, fun _ => rfl⟩⟩ (.refl _) (.cons rfl (.cons rfl (.cons rfl (.cons rfl .nil)))) ?_)))))
        rintro ⟨_ | fl1, ⟨l_n7_1, s8_1⟩, k_n7_1, c_n7_1, r_n7_1⟩ ⟨H, ho_n7_1⟩
        · exact (iter_0 H).elim
        replace H := iter_s H; rw [F_annuletref12_Table_Add_L1] at H; dsimp only at H ⊢
        refine .seq (.seq (.drawsI [0, 1, 2, 3, 4] rfl rfl ?_))
        refine .first [0, 1, 2, 3, 4, 5, 6, 7] 12 rfl (by kernel_rfl) (by kernel_rfl) ?_
        refine .s_step rfl rfl rfl (.mv rfl) (by decide) ?_
        refine .s_step rfl rfl rfl (.mv rfl) (by decide) ?_
        refine .s_step rfl rfl rfl (.nc rfl) (by decide) ?_
        refine .s_step rfl rfl rfl (.fa rfl F_annuletref12_Table_L Z_sl_api_Entry) (by decide) ?_
        refine .s_step rfl rfl rfl (.ld1 (v := slv k_o_a0_L (a0_L).length c_o_a0_L) rfl (.i 3 rfl) A_sl_api_Entry (annuletref12_Table.g_L _)) (by decide) ?_
        refine .s_step rfl rfl rfl (.len L_sl_api_Entry rfl) (by decide) ?_
        refine .s_step rfl rfl rfl (.lss rfl rfl) (by decide) ?_
        refine .s_step rfl rfl rfl (.mv rfl) (by decide) ?_
        refine .s_nil ?_
        refine .splitb 37 rfl (fun hb1 => ?_) (fun hb1 => ?_)
        · replace H := cond_t hb1 H
          refine .first [8, 9, 10, 11, 12, 13, 14, 15, 16, 17] 2 rfl (by kernel_rfl) (by kernel_rfl) ?_
          refine .s_stepg rfl rfl rfl rfl (.mv rfl) (by decide) ?_
          refine .s_stepg rfl rfl rfl rfl (.nc rfl) (by decide) ?_
          refine .s_stepg rfl rfl rfl rfl (.fa rfl F_annuletref12_Table_L Z_sl_api_Entry) (by decide) ?_
          refine .s_stepg rfl rfl rfl rfl (.ld1 (v := slv k_o_a0_L (a0_L).length c_o_a0_L) rfl (.i 3 rfl) A_sl_api_Entry (annuletref12_Table.g_L _)) (by decide) ?_
          refine .s_stepg rfl rfl rfl rfl (.mv rfl) (by decide) ?_
          obtain ⟨x3, hx3, H⟩ := bind_s H
          refine .s_stepg rfl rfl rfl rfl (.ixP (.own 4 api_Entry.size rfl ho_o_a0_L) hx3 rfl rfl L_sl_api_Entry Z_api_Entry) (by decide) ?_
          refine .s_stepg rfl rfl rfl rfl (.faP (.own 4 api_Entry.size rfl ho_o_a0_L) hx3 rfl F_api_Entry_P Z_api_Path) (by decide) ?_
          refine .s_stepg rfl rfl rfl rfl (.ldPf (.own 4 api_Entry.size rfl ho_o_a0_L) hx3 rfl A_api_Path Z_api_Path (api_Entry.s_P _)) (by decide) ?_
          refine .s_stepg rfl rfl rfl rfl (.fa rfl F_api_Entry_P Z_api_Path) (by decide) ?_
          refine .s_stepg rfl rfl rfl rfl (.lds rfl (.i 2 rfl) A_api_Path Z_api_Path (api_Entry.s_P _)) (by decide) ?_
          refine .s_nil ?_
          refine .only (i := 18) (.refl _) (by kernel_rfl) rfl ?_
          refine .gd rfl ?_
          obtain ⟨x4, hx4, H⟩ := bind_s H
          refine .callQ (v := .bool (x4)) rfl E_annuletref12_Less rfl rfl (fun w hm hf => W_annuletref12_Less x3.P a1.P  _ hx4 w ) (by decide) ?_
          refine .nil (.then_n ?_)
          refine .first [19] 0 rfl (by kernel_rfl) (by kernel_rfl) ?_
          refine .s_step rfl rfl rfl (.pk_t rfl rfl) (by decide) ?_
          refine .s_nil ?_
          refine .done (.refl _) (by kernel_rfl) ?_
          refine .then_n (.cond rfl (fun hc4 => ?_) (fun hc4 => ?_))
          · replace H := cond_t hc4 H
            refine .skip (.then_n (.block (.seq (.region (?_)))))
            refine .step (.mv rfl) (by decide) ?_
            refine .step (.mv rfl) (by decide) ?_
            refine .step (.nc rfl) (by decide) ?_
            refine .step (.fa rfl F_annuletref12_Table_L Z_sl_api_Entry) (by decide) ?_
            refine .step (.ld1 (v := slv k_o_a0_L (a0_L).length c_o_a0_L) rfl (.i 3 rfl) A_sl_api_Entry (annuletref12_Table.g_L _)) (by decide) ?_
            refine .step (.mv rfl) (by decide) ?_
            obtain ⟨x5, hx5, H⟩ := bind_s H
            refine .step (.ixP (.own 4 api_Entry.size rfl ho_o_a0_L) hx5 rfl rfl L_sl_api_Entry Z_api_Entry) (by decide) ?_
            refine .step (.ldP (.own 4 api_Entry.size rfl ho_o_a0_L) hx5 rfl A_api_Entry Z_api_Entry) (by decide) ?_
            refine .bsL (vs := [.agg (api_Entry.enc x5)]) (c := catA (([x5] : List api_Entry).map api_Entry.enc) ++ #[]) (len := 1) L_sl_api_Entry Z_api_Entry N_api_Entry rfl rfl (by intro v hv; simp only [List.mem_cons, List.not_mem_nil, or_false] at hv; subst hv; exact api_Entry.size _) (by rw [Array.append_empty]; rfl) (by decide) (by decide) (by decide) fun b58 hb58 => ?_
            have hob58 : OwnS 51 (some b58) ([x5] : List api_Entry).length 1 #[] := ⟨rfl, Nat.le_refl _, fun h => by cases h⟩
            obtain ⟨x6, hx6, H⟩ := bind_s H
            refine .appX 1 api_Entry.size ho_n7_1 (.own 0 api_Entry.size rfl hob58) hx6 rfl rfl rfl L_sl_api_Entry Z_api_Entry Y_api_Entry N_api_Entry (api_Entry.size _) (by decide) (by decide) (fun a _ => api_Entry.one a) (by decide) fun k_q1 c_q1 r_q1 ho_q1 => ?_
            refine .step (.as rfl) (by decide) ?_
            refine .nil (.then_n (.region (?_)))
            refine .step (.mv rfl) (by decide) ?_
            refine .step (.add rfl rfl) (by decide) ?_
            refine .step (.as rfl) (by decide) ?_
            refine .nil (.blk_n (.then_n (?_)))
            exact .again ⟨fl1, (x6, (IntKind.wrap .i64 (s8_1 + 1))), k_q1, c_q1, r_q1⟩ ⟨H, ho_q1⟩ (Nat.lt_succ_self _) (.cons _ (.refl _)) (.cons rfl (.cons rfl (.cons rfl (.cons rfl .nil))))
          · replace H := cond_f hc4 H
            refine .exit (.then_x (.then_x (.blk_x (.then_n (.seq (.region (?_)))))))
            refine .step (.mv rfl) (by decide) ?_
            refine .step (.ldA rfl (.i 2 rfl) A_api_Entry Z_api_Entry (api_Entry.size _)) (by decide) ?_
            refine .bsL (vs := [.agg (api_Entry.enc a1)]) (c := catA (([a1] : List api_Entry).map api_Entry.enc) ++ #[]) (len := 1) L_sl_api_Entry Z_api_Entry N_api_Entry rfl rfl (by intro v hv; simp only [List.mem_cons, List.not_mem_nil, or_false] at hv; subst hv; exact api_Entry.size _) (by rw [Array.append_empty]; rfl) (by decide) (by decide) (by decide) fun b64 hb64 => ?_
            have hob64 : OwnS 51 (some b64) ([a1] : List api_Entry).length 1 #[] := ⟨rfl, Nat.le_refl _, fun h => by cases h⟩
            obtain ⟨x7, hx7, H⟩ := bind_s H
            refine .appX 1 api_Entry.size ho_n7_1 (.own 0 api_Entry.size rfl hob64) hx7 rfl rfl rfl L_sl_api_Entry Z_api_Entry Y_api_Entry N_api_Entry (api_Entry.size _) (by decide) (by decide) (fun a _ => api_Entry.one a) (by decide) fun k_q2 c_q2 r_q2 ho_q2 => ?_
            refine .step (.as rfl) (by decide) ?_
            refine .nil (.then_n (.seq (.region (?_))))
            refine .step (.mv rfl) (by decide) ?_
            refine .step (.mv rfl) (by decide) ?_
            refine .step (.mv rfl) (by decide) ?_
            refine .step (.nc rfl) (by decide) ?_
            refine .step (.fa rfl F_annuletref12_Table_L Z_sl_api_Entry) (by decide) ?_
            refine .step (.ld1 (v := slv k_o_a0_L (a0_L).length c_o_a0_L) rfl (.i 4 rfl) A_sl_api_Entry (annuletref12_Table.g_L _)) (by decide) ?_
            refine .step (.mv rfl) (by decide) ?_
            obtain ⟨x8, hx8, H⟩ := bind_s H
            refine .step (.slD (.own 5 api_Entry.size rfl ho_o_a0_L) hx8 L_sl_api_Entry Z_api_Entry rfl rfl) (by decide) ?_
            obtain ⟨x9, hx9, H⟩ := bind_s H
            refine .appX 1 api_Entry.size ho_q2 (((RoK.own 5 api_Entry.size rfl ho_o_a0_L)).drp hx8) hx9 rfl rfl rfl L_sl_api_Entry Z_api_Entry Y_api_Entry N_api_Entry (api_Entry.size _) (by decide) (by decide) (fun a _ => api_Entry.one a) (by decide) fun k_q3 c_q3 r_q3 ho_q3 => ?_
            refine .step (.nc rfl) (by decide) ?_
            refine .step (.fa rfl F_annuletref12_Table_L Z_sl_api_Entry) (by decide) ?_
            refine .store (c' := annuletref12_Table.enc (annuletref12_Table.mk (slS k_q3 (x9).length c_q3) a0_Most)) 4 rfl rfl rfl rfl Z_sl_api_Entry (rfl) (Ones.single rfl) (by show _ ≤ (annuletref12_Table.enc _).size; rw [annuletref12_Table.size]; decide) (annuletref12_Table.u_L _ (slS k_q3 (x9).length c_q3)) ?_
            refine .nil (.then_n (.seq (.region (?_))))
            refine .step (.as rfl) (by decide) ?_
            refine .sel [4, 1] (by decide) rfl ?_
            cases H
            exact .nil (.then_n (.ret (.ret1 [_, _] (.refl _) rfl rfl ⟨k_q3, c_q3, r_q3, rfl, rfl, ho_q3⟩)))
        · replace H := cond_f hb1 H
          refine .first [8, 9, 10, 11, 12, 13, 14, 15, 16, 17, 18, 19] 0 rfl (by kernel_rfl) (by kernel_rfl) ?_
          refine .s_pass rfl rfl rfl rfl rfl (by decide) ?_
          refine .s_pass rfl rfl rfl rfl rfl (by decide) ?_
          refine .s_pass rfl rfl rfl rfl rfl (by decide) ?_
          refine .s_pass rfl rfl rfl rfl rfl (by decide) ?_
          refine .s_pass rfl rfl rfl rfl rfl (by decide) ?_
          refine .s_pass rfl rfl rfl rfl rfl (by decide) ?_
          refine .s_pass rfl rfl rfl rfl rfl (by decide) ?_
          refine .s_pass rfl rfl rfl rfl rfl (by decide) ?_
          refine .s_pass rfl rfl rfl rfl rfl (by decide) ?_
          refine .s_pass rfl rfl rfl rfl rfl (by decide) ?_
          refine .s_pass rfl rfl rfl rfl rfl (by decide) ?_
          refine .s_step rfl rfl rfl (.pk_f rfl rfl) (by decide) ?_
          refine .s_nil ?_
          refine .done (.refl _) (by kernel_rfl) ?_
          refine .then_n (.cond_f rfl ?_)
          refine .exit (.then_x (.then_x (.blk_x (.then_n (.seq (.region (?_)))))))
          refine .step (.mv rfl) (by decide) ?_
          refine .step (.ldA rfl (.i 2 rfl) A_api_Entry Z_api_Entry (api_Entry.size _)) (by decide) ?_
          refine .bsL (vs := [.agg (api_Entry.enc a1)]) (c := catA (([a1] : List api_Entry).map api_Entry.enc) ++ #[]) (len := 1) L_sl_api_Entry Z_api_Entry N_api_Entry rfl rfl (by intro v hv; simp only [List.mem_cons, List.not_mem_nil, or_false] at hv; subst hv; exact api_Entry.size _) (by rw [Array.append_empty]; rfl) (by decide) (by decide) (by decide) fun b64 hb64 => ?_
          have hob64 : OwnS 51 (some b64) ([a1] : List api_Entry).length 1 #[] := ⟨rfl, Nat.le_refl _, fun h => by cases h⟩
          obtain ⟨x10, hx10, H⟩ := bind_s H
          refine .appX 1 api_Entry.size ho_n7_1 (.own 0 api_Entry.size rfl hob64) hx10 rfl rfl rfl L_sl_api_Entry Z_api_Entry Y_api_Entry N_api_Entry (api_Entry.size _) (by decide) (by decide) (fun a _ => api_Entry.one a) (by decide) fun k_q4 c_q4 r_q4 ho_q4 => ?_
          refine .step (.as rfl) (by decide) ?_
          refine .nil (.then_n (.seq (.region (?_))))
          refine .step (.mv rfl) (by decide) ?_
          refine .step (.mv rfl) (by decide) ?_
          refine .step (.mv rfl) (by decide) ?_
          refine .step (.nc rfl) (by decide) ?_
          refine .step (.fa rfl F_annuletref12_Table_L Z_sl_api_Entry) (by decide) ?_
          refine .step (.ld1 (v := slv k_o_a0_L (a0_L).length c_o_a0_L) rfl (.i 4 rfl) A_sl_api_Entry (annuletref12_Table.g_L _)) (by decide) ?_
          refine .step (.mv rfl) (by decide) ?_
          obtain ⟨x11, hx11, H⟩ := bind_s H
          refine .step (.slD (.own 5 api_Entry.size rfl ho_o_a0_L) hx11 L_sl_api_Entry Z_api_Entry rfl rfl) (by decide) ?_
          obtain ⟨x12, hx12, H⟩ := bind_s H
          refine .appX 1 api_Entry.size ho_q4 (((RoK.own 5 api_Entry.size rfl ho_o_a0_L)).drp hx11) hx12 rfl rfl rfl L_sl_api_Entry Z_api_Entry Y_api_Entry N_api_Entry (api_Entry.size _) (by decide) (by decide) (fun a _ => api_Entry.one a) (by decide) fun k_q5 c_q5 r_q5 ho_q5 => ?_
          refine .step (.nc rfl) (by decide) ?_
          refine .step (.fa rfl F_annuletref12_Table_L Z_sl_api_Entry) (by decide) ?_
          refine .store (c' := annuletref12_Table.enc (annuletref12_Table.mk (slS k_q5 (x12).length c_q5) a0_Most)) 4 rfl rfl rfl rfl Z_sl_api_Entry (rfl) (Ones.single rfl) (by show _ ≤ (annuletref12_Table.enc _).size; rw [annuletref12_Table.size]; decide) (annuletref12_Table.u_L _ (slS k_q5 (x12).length c_q5)) ?_
          refine .nil (.then_n (.seq (.region (?_))))
          refine .step (.as rfl) (by decide) ?_
          refine .sel [4, 1] (by decide) rfl ?_
          cases H
          exact .nil (.then_n (.ret (.ret1 [_, _] (.refl _) rfl rfl ⟨k_q5, c_q5, r_q5, rfl, rfl, ho_q5⟩)))

def F_table_order (a0 : api_Path) (a1 : api_Path) : Option (Int) :=
  (F_table_Less a0 a1).bind fun x1 => cond x1 (some (-1)) ((F_table_Less a1 a0).bind fun x2 => cond x2 (some 1) (some 0))
theorem W_table_order (a0 : api_Path) (a1 : api_Path) (r : Int) (H : F_table_order a0 a1 = some r) (w : World) :
    Calls PG f_table_order #[.agg (api_Path.enc a0), .agg (api_Path.enc a1)] w (Ret w [] (fun v nm => v = .int .i64 (r) ∧ nm = [])) := by
  unfold F_table_order at H
  refine enter0 (n := 13) (args := [.agg (api_Path.enc a0), .agg (api_Path.enc a1)]) B_table_order rfl rfl (by simp) ?_
  refine .seq (.region (?_))
  refine .box rfl rfl (by decide) fun b2 hb2 => ?_
  refine .box rfl rfl (by decide) fun b3 hb3 => ?_
  refine .step (.as rfl) (by decide) ?_
  refine .nil (.then_n (.seq (.block (.seq (.region (?_))))))
  refine .step (.ldA rfl (.i 1 rfl) A_api_Path Z_api_Path (api_Path.size _)) (by decide) ?_
  refine .step (.ldA rfl (.i 0 rfl) A_api_Path Z_api_Path (api_Path.size _)) (by decide) ?_
  obtain ⟨x1, hx1, H⟩ := bind_s H
  refine .callQ (v := .bool (x1)) rfl E_table_Less rfl rfl (fun w hm hf => W_table_Less a0 a1  _ hx1 w ) (by decide) ?_
  refine .step (.as rfl) (by decide) ?_
  refine .nil (.then_n (.cond rfl (fun hc1 => ?_) (fun hc1 => ?_)))
  · replace H := cond_t hc1 H
    refine .seq (.region (?_))
    refine .step (.as rfl) (by decide) ?_
    cases H
    exact .nil (.then_n (.ret (.blk_r (.then_r (.ret1 [] (by simp) rfl rfl ⟨rfl, rfl⟩)))))
  · replace H := cond_f hc1 H
    refine .seq (.region (?_))
    refine .step (.ldA rfl (.i 0 rfl) A_api_Path Z_api_Path (api_Path.size _)) (by decide) ?_
    refine .step (.ldA rfl (.i 1 rfl) A_api_Path Z_api_Path (api_Path.size _)) (by decide) ?_
    obtain ⟨x2, hx2, H⟩ := bind_s H
    refine .callQ (v := .bool (x2)) rfl E_table_Less rfl rfl (fun w hm hf => W_table_Less a1 a0  _ hx2 w ) (by decide) ?_
    refine .step (.as rfl) (by decide) ?_
    refine .nil (.then_n (.cond rfl (fun hc2 => ?_) (fun hc2 => ?_)))
    · replace H := cond_t hc2 H
      refine .seq (.region (?_))
      refine .step (.as rfl) (by decide) ?_
      cases H
      exact .nil (.then_n (.ret (.blk_r (.then_r (.ret1 [] (by simp) rfl rfl ⟨rfl, rfl⟩)))))
    · replace H := cond_f hc2 H
      refine .skip (.blk_n (.then_n (.seq (.region (?_)))))
      refine .step (.as rfl) (by decide) ?_
      cases H
      exact .nil (.then_n (.ret (.ret1 [] (by simp) rfl rfl ⟨rfl, rfl⟩)))

end Go.Fx
