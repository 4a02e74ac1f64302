/- Package ring: who is wanted, and who is among some. -/
import Derived.Test.YtpkdekhmjjcljaaGreatFxRing15z
import Derived.Test.YtpkdekhmjjcljaaGreatFxY
import Derived.Test.YtpkdekhmjjcljaaGreatFxP
namespace Go.Fx
set_option maxRecDepth 10000

/-- a slot's value, said otherwise -/
theorem St.chg {w0 : World} {mods : List Nat} {n : Nat} {m : HF} {e : Env} {X : Act → World → Prop} (t : Nat) {v v' : Value} (h : look e t = some v) (hv : v = v') (k : St w0 mods n m ((t, v') :: e) X) : St w0 mods n m e X :=
  fun a w hs => k a w (hs.sub (.refl _) (subEnv.cons (hv ▸ h) subEnv.refl))

def lenG {α : Type} (l : List α) : Option Unit := if l.length < 2 ^ 40 then some () else none
theorem lenG_lt {α : Type} {l : List α} {u : Unit} (h : lenG l = some u) : l.length < 2 ^ 40 := by
  unfold lenG at h
  split at h
  · assumption
  · cases h
theorem lenG_of {α : Type} {l : List α} (h : l.length < 2 ^ 40) : lenG l = some () := by unfold lenG; rw [if_pos h]

def F_slices_Clone_api_ID_api_ID (l : List Idn) : Option (List Idn) := (lenG l).bind fun _ => some l
theorem W_slices_Clone_api_ID_api_ID (l : List Idn) (p : Option Addr) (cap : Nat) (r : List Idn) (H : F_slices_Clone_api_ID_api_ID l = some r) (w : World) (hR : Ro Idn.enc 16 w p l cap) :
    Calls PG f_slices_Clone_api_ID_api_ID #[.slice p l.length cap] w (Ret w [] fun v nm => ∃ (k : Option Nat) (c : Nat) (rs : Array Value), v = slv k r.length c ∧ nm = [(k, .cells (catA (r.map Idn.enc) ++ rs) T_api_ID (0, 0))] ∧ OwnS 16 k r.length c rs) := by
  unfold F_slices_Clone_api_ID_api_ID at H
  obtain ⟨u, hu, H⟩ := bind_s H
  cases H
  exact slices_Clone_api_ID p cap l (lenG_lt hu) w hR.rd
def F_ring_Sorted (self : Idn) (l : List Idn) : Option (List Idn) := (lenG l).bind fun _ => some (sorted self l)
theorem W_ring_Sorted (self : Idn) (l : List Idn) (p : Option Addr) (cap : Nat) (r : List Idn) (H : F_ring_Sorted self l = some r) (w : World) (hR : Ro Idn.enc 16 w p l cap) :
    Calls PG f_ring_Sorted #[.agg self.enc, .slice p l.length cap] w (Ret w [] fun v nm => ∃ (k : Option Nat) (c : Nat) (rs : Array Value), v = slv k r.length c ∧ nm = [(k, .cells (catA (r.map Idn.enc) ++ rs) T_api_ID (0, 0))] ∧ OwnS 16 k r.length c rs) := by
  unfold F_ring_Sorted at H
  obtain ⟨u, hu, H⟩ := bind_s H
  cases H
  exact ring_Sorted self p cap l (lenG_lt hu) w hR.rd

/-! ### by the way clockwise from oneself -/
def wcmp (self x y : Idn) : Int := Idn.cmp (x.sub self) (y.sub self)
theorem wcmp_lt (self x y : Idn) : Go.Proofs.ltOf (wcmp self) x y = decide ((x.sub self).n < (y.sub self).n) := by
  unfold Go.Proofs.ltOf
  exact decide_eq_decide.2 (Idn.cmp_lt _ _)
theorem wcmp_swo (self : Idn) : Go.Sort.SWO (Go.Proofs.ltOf (wcmp self)) where
  irrefl x := by rw [wcmp_lt]; simp
  trans x y z h1 h2 := by rw [wcmp_lt] at *; simp at *; omega
  ntrans x y z h1 h2 := by rw [wcmp_lt] at *; simp at *; omega
theorem sub_inj {x y z : Idn} (h : x.sub z = y.sub z) : x = y := by
  apply Idn.ext_n
  have h1 := congrArg Idn.n h
  unfold Idn.sub at h1
  simp only at h1
  have hx := x.lt
  have hy := y.lt
  have hz := z.lt
  unfold M128 at *
  omega
def F_ring_Want_f1 (a0 : Idn) (a1 : Idn) (a2 : Idn) : Option (Int) :=
  some (Idn.cmp (Idn.sub a0 a2) (Idn.sub a1 a2))
theorem W_ring_Want_f1 (a0 : Idn) (a1 : Idn) (a2 : Idn) (b_a2 : Nat) (r : Int) (H : F_ring_Want_f1 a0 a1 a2 = some r) (w : World) (hB_b_a2 : w.heap[b_a2]? = some (.cells (Idn.enc a2) T_api_ID (0, 0))) :
    Calls PG f_ring_Want_f1 #[.agg (Idn.enc a0), .agg (Idn.enc a1), .pointer (some ⟨b_a2, 0, none⟩)] w (Ret w [] (fun v nm => v = .int .i64 (r) ∧ nm = [])) := by
  unfold F_ring_Want_f1 at H
  refine enter0 (n := 13) (args := [.agg (Idn.enc a0), .agg (Idn.enc a1), .pointer (some ⟨b_a2, 0, none⟩)]) B_ring_Want_f1 rfl rfl (by simp) ?_
  refine .seq (.region (?_))
  refine .box rfl rfl (by decide) fun b3 hb3 => ?_
  refine .box rfl rfl (by decide) fun b4 hb4 => ?_
  refine .step (.as rfl) (by decide) ?_
  refine .nil (.then_n (.seq (.drawsI [0, 1] rfl rfl ?_)))
  refine .first [0, 1, 3, 4] 4 rfl (by kernel_rfl) (by kernel_rfl) ?_
  refine .s_step rfl rfl rfl (.ldA rfl (.i 1 rfl) A_api_ID Z_api_ID (Idn.size _)) (by decide) ?_
  refine .s_step rfl rfl rfl (.ldA rfl (.o hB_b_a2 (by simp)) A_api_ID Z_api_ID (Idn.size _)) (by decide) ?_
  refine .s_step rfl rfl rfl (.ldA rfl (.i 0 rfl) A_api_ID Z_api_ID (Idn.size _)) (by decide) ?_
  refine .s_step rfl rfl rfl (.ldA rfl (.o hB_b_a2 (by simp)) A_api_ID Z_api_ID (Idn.size _)) (by decide) ?_
  refine .s_nil ?_
  refine .only (i := 2) (.refl _) (by kernel_rfl) rfl ?_
  refine .callQ (v := .agg (Idn.enc (Idn.sub a0 a2))) rfl E_ident_Sub rfl rfl (fun w hm hf => ident_Sub a0 a2 w) (by decide) ?_
  refine .nil (.then_n ?_)
  refine .only (i := 5) (.refl _) (by kernel_rfl) rfl ?_
  refine .callQ (v := .agg (Idn.enc (Idn.sub a1 a2))) rfl E_ident_Sub rfl rfl (fun w hm hf => ident_Sub a1 a2 w) (by decide) ?_
  refine .nil (.then_n ?_)
  refine .only (i := 6) (.refl _) (by kernel_rfl) rfl ?_
  refine .callQ (v := .int .i64 ((Idn.cmp (Idn.sub a0 a2) (Idn.sub a1 a2)))) rfl E_ident_Compare rfl rfl (fun w hm hf => ident_Compare (Idn.sub a0 a2) (Idn.sub a1 a2) w) (by decide) ?_
  refine .nil (.then_n ?_)
  refine .first [7] 0 rfl (by kernel_rfl) (by kernel_rfl) ?_
  refine .s_step rfl rfl rfl (.as rfl) (by decide) ?_
  refine .s_nil ?_
  refine .done (.refl _) (by kernel_rfl) ?_
  cases H
  exact .then_n (.ret (.ret1 [] (by simp) rfl rfl ⟨rfl, rfl⟩))

theorem Want_f1_eq (x y self : Idn) : F_ring_Want_f1 x y self = some (wcmp self x y) := rfl
theorem slices_SortFunc_want (self : Idn) (b : Nat) (key : Option Nat) (cap : Nat) (l : List Idn) (rs : Array Value) (hlen : l.length < 2 ^ 40) (ho : OwnS 16 key l.length cap rs) (w : World)
    (hm : ∀ b, key = some b → w.heap[b]? = some (.cells (catA (l.map Idn.enc) ++ rs) T_api_ID (0, 0))) (hb : ∀ w', Fr key.toList w w' → w'.heap[b]? = some (.cells self.enc T_api_ID (0, 0))) :
    Calls PG f_slices_SortFunc_api_ID_api_ID #[slv key l.length cap, .func (.func f_ring_Want_f1) #[] #[.pointer (some ⟨b, 0, none⟩)]] w (Ret w key.toList fun v nm => v = .tuple #[] ∧ nm = [(key, .cells (catA ((sortL (wcmp self) l).map Idn.enc) ++ rs) T_api_ID (0, 0))]) := by
  have h := sortFunc_ret lay_slices_SortFunc_api_ID_api_ID (fun w => run_isAggB (w := w) A_api_ID) (fun w => run_sizeB (w := w) Z_api_ID) Idn.size Idn.one (wcmp self) (wcmp_swo self)
    (fun x y h1 h2 => sub_inj (z := self) (Idn.ext_n (by rw [wcmp_lt] at *; simp at *; omega))) f_ring_Want_f1 #[.pointer (some ⟨b, 0, none⟩)] key cap l rs T_api_ID w E_ring_Want_f1 (fun w' hf x y => W_ring_Want_f1 x y self b _ (Want_f1_eq x y self) w' (hb w' hf)) hm
    (fun h => List.length_eq_zero_iff.1 (by have := ho.nil h; have := ho.le; omega)) (by omega)
  exact h

def F_slices_Index_api_ID_api_ID_L1 (a0 : List Idn) (a1 : Idn) (again1 : (Int) → Option (Int)) (st : Int) : Option (Int) :=
  (fun s8_1 => cond (decide (s8_1 < (((a0).length : Nat) : Int))) ((ixL a0 s8_1).bind fun x1 => cond (decide (a1 = x1)) (some s8_1) (again1 (IntKind.wrap .i64 (s8_1 + 1)))) (some (-1))) st
def F_slices_Index_api_ID_api_ID (a0 : List Idn) (a1 : Idn) : Option (Int) :=
  iter (F_slices_Index_api_ID_api_ID_L1 a0 a1) FUEL 0
theorem W_slices_Index_api_ID_api_ID (a0 : List Idn) (a1 : Idn) (p_a0 : Option Addr) (c_a0 : Nat) (r : Int) (H : F_slices_Index_api_ID_api_ID a0 a1 = some r) (w : World) (hR_a0 : Ro Idn.enc 16 w p_a0 a0 c_a0) :
    Calls PG f_slices_Index_api_ID_api_ID #[.slice p_a0 (a0).length c_a0, .agg (Idn.enc a1)] w (Ret w [] (fun v nm => v = .int .i64 (r) ∧ nm = [])) := by
  unfold F_slices_Index_api_ID_api_ID at H
  refine enter0 (n := 19) (args := [.slice p_a0 (a0).length c_a0, .agg (Idn.enc a1)]) B_slices_Index_api_ID_api_ID rfl rfl (by simp) ?_
  refine .seq (.region (?_))
  refine .box rfl rfl (by decide) fun b3 hb3 => ?_
  refine .step (.as rfl) (by decide) ?_
  refine .nil (.then_n (.seq (.seq (.region (?_)))))
  refine .step (.mv rfl) (by decide) ?_
  refine .step (.len L_sl_api_ID rfl) (by decide) ?_
  refine .step (.mv rfl) (by decide) ?_
  refine .nil (.then_n (.block (.loop (G := Nat × (Int)) (fun g => iter (F_slices_Index_api_ID_api_ID_L1 a0 a1) g.1 g.2 = some r) (fun g => [(some b3, .cells (Idn.enc a1) T_api_ID (0, 0))]) (fun g => [(0, .slice p_a0 (a0).length c_a0), (3, .pointer (some ⟨b3, 0, none⟩)), (7, .int .i64 ((((a0).length : Nat) : Int))), (8, .int .i64 (g.2))]) (fun g => g.1) ⟨FUEL, 0⟩ H (.refl _) (.cons rfl (.cons rfl (.cons rfl (.cons rfl .nil)))) ?_)))
  rintro ⟨_ | fl1, s8_1⟩ H
  · exact (iter_0 H).elim
  replace H := iter_s H; rw [F_slices_Index_api_ID_api_ID_L1] at H; dsimp only at H ⊢
  refine .seq (.region (?_))
  refine .step (.lss rfl rfl) (by decide) ?_
  refine .nil (.then_n (.seq (.cond rfl (fun hc1 => ?_) (fun hc1 => ?_))))
  · replace H := cond_t hc1 H
    refine .skip (.then_n (.seq (.block (.seq (.region (?_))))))
    refine .step (.mv rfl) (by decide) ?_
    refine .step (.as rfl) (by decide) ?_
    refine .nil (.then_n (.seq (.drawsI [0] rfl rfl ?_)))
    refine .first [0, 1, 2, 3, 4, 5] 0 rfl (by kernel_rfl) (by kernel_rfl) ?_
    refine .s_step rfl rfl rfl (.ldA rfl (.i 0 rfl) A_api_ID Z_api_ID (Idn.size _)) (by decide) ?_
    refine .s_step rfl rfl rfl (.mv rfl) (by decide) ?_
    refine .s_step rfl rfl rfl (.mv rfl) (by decide) ?_
    obtain ⟨x1, hx1, H⟩ := bind_s H
    refine .s_step rfl rfl rfl (.ixP (.par hR_a0) hx1 rfl rfl L_sl_api_ID Z_api_ID) (by decide) ?_
    refine .s_step rfl rfl rfl (.ldP (.par hR_a0) hx1 rfl A_api_ID Z_api_ID) (by decide) ?_
    refine .s_step rfl rfl rfl (.eqA (EQ_api_ID _ _) G_api_ID rfl rfl (by decide)) (by decide) ?_
    refine .s_nil ?_
    refine .done (.refl _) (by kernel_rfl) ?_
    refine .then_n (.cond rfl (fun hc2 => ?_) (fun hc2 => ?_))
    · replace H := cond_t hc2 H
      refine .seq (.region (?_))
      refine .step (.mv rfl) (by decide) ?_
      refine .step (.as rfl) (by decide) ?_
      cases H
      exact .nil (.then_n (.ret (.blk_r (.then_r (.then_r (.blk_r (.then_r (.ret1 [] (by simp) rfl rfl ⟨rfl, rfl⟩))))))))
    · replace H := cond_f hc2 H
      refine .skip (.blk_n (.then_n (.region (?_))))
      refine .step (.add rfl rfl) (by decide) ?_
      refine .step (.mv rfl) (by decide) ?_
      refine .nil (.then_n (?_))
      exact .again ⟨fl1, (IntKind.wrap .i64 (s8_1 + 1))⟩ H (Nat.lt_succ_self _) (.refl _) (.cons rfl (.cons rfl (.cons rfl (.cons rfl .nil))))
  · replace H := cond_f hc1 H
    refine .exit (.then_x (.then_x (.blk_x (.then_n (.seq (.region (?_)))))))
    refine .step (.as rfl) (by decide) ?_
    cases H
    exact .nil (.then_n (.ret (.ret1 [] (by simp) rfl rfl ⟨rfl, rfl⟩)))

def F_slices_Contains_api_ID_api_ID (a0 : List Idn) (a1 : Idn) : Option (Bool) :=
  (F_slices_Index_api_ID_api_ID a0 a1).bind fun x1 => some (decide (0 ≤ x1))
theorem W_slices_Contains_api_ID_api_ID (a0 : List Idn) (a1 : Idn) (p_a0 : Option Addr) (c_a0 : Nat) (r : Bool) (H : F_slices_Contains_api_ID_api_ID a0 a1 = some r) (w : World) (hR_a0 : Ro Idn.enc 16 w p_a0 a0 c_a0) :
    Calls PG f_slices_Contains_api_ID_api_ID #[.slice p_a0 (a0).length c_a0, .agg (Idn.enc a1)] w (Ret w [] (fun v nm => v = .bool (r) ∧ nm = [])) := by
  unfold F_slices_Contains_api_ID_api_ID at H
  refine enter0 (n := 9) (args := [.slice p_a0 (a0).length c_a0, .agg (Idn.enc a1)]) B_slices_Contains_api_ID_api_ID rfl rfl (by simp) ?_
  refine .seq (.region (?_))
  refine .box rfl rfl (by decide) fun b3 hb3 => ?_
  refine .step (.as rfl) (by decide) ?_
  refine .nil (.then_n (.seq (.region (?_))))
  refine .step (.mv rfl) (by decide) ?_
  refine .step (.ldA rfl (.i 0 rfl) A_api_ID Z_api_ID (Idn.size _)) (by decide) ?_
  obtain ⟨x1, hx1, H⟩ := bind_s H
  refine .callQ (v := .int .i64 (x1)) rfl E_slices_Index_api_ID_api_ID rfl rfl (fun w hm hf => W_slices_Index_api_ID_api_ID a0 a1 _ _ _ hx1 w (RoK.at ((RoK.par hR_a0)) hm hf)) (by decide) ?_
  refine .step (.geq rfl rfl) (by decide) ?_
  refine .step (.as rfl) (by decide) ?_
  cases H
  exact .nil (.then_n (.ret (.ret1 [] (by simp) rfl rfl ⟨rfl, rfl⟩)))

def F_ring_Has (a0 : List Idn) (a1 : Idn) : Option (Bool) :=
  (F_slices_Contains_api_ID_api_ID a0 a1).bind fun x1 => some x1
theorem W_ring_Has (a0 : List Idn) (a1 : Idn) (p_a0 : Option Addr) (c_a0 : Nat) (r : Bool) (H : F_ring_Has a0 a1 = some r) (w : World) (hR_a0 : Ro Idn.enc 16 w p_a0 a0 c_a0) :
    Calls PG f_ring_Has #[.slice p_a0 (a0).length c_a0, .agg (Idn.enc a1)] w (Ret w [] (fun v nm => v = .bool (r) ∧ nm = [])) := by
  unfold F_ring_Has at H
  refine enter0 (n := 8) (args := [.slice p_a0 (a0).length c_a0, .agg (Idn.enc a1)]) B_ring_Has rfl rfl (by simp) ?_
  refine .seq (.region (?_))
  refine .box rfl rfl (by decide) fun b3 hb3 => ?_
  refine .step (.as rfl) (by decide) ?_
  refine .nil (.then_n (.seq (.region (?_))))
  refine .step (.mv rfl) (by decide) ?_
  refine .step (.ldA rfl (.i 0 rfl) A_api_ID Z_api_ID (Idn.size _)) (by decide) ?_
  obtain ⟨x1, hx1, H⟩ := bind_s H
  refine .callQ (v := .bool (x1)) rfl E_slices_Contains_api_ID_api_ID rfl rfl (fun w hm hf => W_slices_Contains_api_ID_api_ID a0 a1 _ _ _ hx1 w (RoK.at ((RoK.par hR_a0)) hm hf)) (by decide) ?_
  refine .step (.as rfl) (by decide) ?_
  cases H
  exact .nil (.then_n (.ret (.ret1 [] (by simp) rfl rfl ⟨rfl, rfl⟩)))

def F_ring_Want (a0 : Idn) (a1 : List Idn) (a2 : Int) : Option (List Idn) :=
  (F_ring_Sorted a0 a1).bind fun x1 => (lenG x1).bind fun _ => (takL (sortL (wcmp a0) x1) (if (((x1).length : Nat) : Int) < (if 0 > a2 then 0 else a2) then (((x1).length : Nat) : Int) else (if 0 > a2 then 0 else a2))).bind fun x3 => (drpL (sortL (wcmp a0) x1) (IntKind.wrap .i64 (((((sortL (wcmp a0) x1)).length : Nat) : Int) - (if (((x1).length : Nat) : Int) < (if 0 > a2 then 0 else a2) then (((x1).length : Nat) : Int) else (if 0 > a2 then 0 else a2))))).bind fun x4 => (F_slices_Clone_api_ID_api_ID x3).bind fun x5 => (appG x5 x4).bind fun x6 => (F_ring_Sorted a0 x6).bind fun x7 => some x7
theorem W_ring_Want (a0 : Idn) (a1 : List Idn) (a2 : Int) (p_a1 : Option Addr) (c_a1 : Nat) (r : List Idn) (H : F_ring_Want a0 a1 a2 = some r) (w : World) (hR_a1 : Ro Idn.enc 16 w p_a1 a1 c_a1) :
    Calls PG f_ring_Want #[.agg (Idn.enc a0), .slice p_a1 (a1).length c_a1, .int .i64 (a2)] w (Ret w [] (fun v nm => ∃ (k_o_q0 : Option Nat) (c_o_q0 : Nat) (r_o_q0 : Array Value), v = slv k_o_q0 (r).length c_o_q0 ∧ nm = [(k_o_q0, .cells (catA ((r).map Idn.enc) ++ r_o_q0) T_api_ID (0, 0))] ∧ OwnS 16 k_o_q0 (r).length c_o_q0 r_o_q0)) := by
  unfold F_ring_Want at H
  refine enter0 (n := 33) (args := [.agg (Idn.enc a0), .slice p_a1 (a1).length c_a1, .int .i64 (a2)]) B_ring_Want rfl rfl (by simp) ?_
  refine .seq (.region (?_))
  refine .box rfl rfl (by decide) fun b3 hb3 => ?_
  refine .step (.as rfl) (by decide) ?_
  refine .nil (.then_n (.seq (.region (?_))))
  refine .step (.ldA rfl (.i 0 rfl) A_api_ID Z_api_ID (Idn.size _)) (by decide) ?_
  refine .step (.mv rfl) (by decide) ?_
  obtain ⟨x1, hx1, H⟩ := bind_s H
  refine .call0 rfl E_ring_Sorted rfl rfl (fun w hm hf => W_ring_Sorted a0 a1 _ _ _ hx1 w (RoK.at ((RoK.par hR_a1)) hm hf)) (by decide) fun v nm hR => ?_
  obtain ⟨k_o_11, c_o_11, r_o_11, rfl, rfl, ho_o_11⟩ := hR
  refine .step (.as rfl) (by decide) ?_
  refine .nil (.then_n (.seq (.region (?_))))
  refine .step (.mv rfl) (by decide) ?_
  refine .step (.max rfl rfl) (by decide) ?_
  refine .step (.mv rfl) (by decide) ?_
  refine .step (.len L_sl_api_ID rfl) (by decide) ?_
  refine .step (.min rfl rfl) (by decide) ?_
  refine .step (.as rfl) (by decide) ?_
  refine .nil (.then_n (.seq (.region (?_))))
  refine .step (.mv rfl) (by decide) ?_
  refine .step (.mf rfl rfl) (by decide) ?_
  obtain ⟨x2, hx2, H⟩ := bind_s H
  refine .callK 0 rfl rfl E_slices_SortFunc_api_ID_api_ID rfl rfl (fun w' hm hf ha => slices_SortFunc_want a0 b3 k_o_11 c_o_11 _ r_o_11 (lenG_lt hx2) ho_o_11 w' (hm.atK 0 rfl) (fun w'' hf'' => hf''.keepK (hm.at 1 rfl) (ha _ (List.mem_of_getElem? (i := 0) rfl)))) (by decide) fun v nm hR => ?_
  obtain ⟨rfl, rfl⟩ := hR
  have hq1 : OwnS 16 k_o_11 (sortL (wcmp a0) x1).length c_o_11 r_o_11 := by rw [sortL_len]; exact ho_o_11
  refine .chg 7 (v' := slv k_o_11 (sortL (wcmp a0) x1).length c_o_11) rfl (by rw [sortL_len]) ?_
  refine .chg 11 (v' := slv k_o_11 (sortL (wcmp a0) x1).length c_o_11) rfl (by rw [sortL_len]) ?_
  refine .chg 14 (v' := slv k_o_11 (sortL (wcmp a0) x1).length c_o_11) rfl (by rw [sortL_len]) ?_
  refine .chg 17 (v' := slv k_o_11 (sortL (wcmp a0) x1).length c_o_11) rfl (by rw [sortL_len]) ?_
  refine .nil (.then_n (.seq (.drawsI [0, 1] rfl rfl ?_)))
  refine .first [0, 1, 2, 3, 5, 6, 7, 8, 9, 10] 4 rfl (by kernel_rfl) (by kernel_rfl) ?_
  refine .s_step rfl rfl rfl (.ldA rfl (.i 1 rfl) A_api_ID Z_api_ID (Idn.size _)) (by decide) ?_
  refine .s_step rfl rfl rfl (.mv rfl) (by decide) ?_
  refine .s_step rfl rfl rfl (.mv rfl) (by decide) ?_
  obtain ⟨x3, hx3, H⟩ := bind_s H
  refine .s_step rfl rfl rfl (.slT (OwnS.le hq1) hx3 L_sl_api_ID (by kernel_rfl) rfl rfl) (by decide) ?_
  refine .s_step rfl rfl rfl (.mv rfl) (by decide) ?_
  refine .s_step rfl rfl rfl (.mv rfl) (by decide) ?_
  refine .s_step rfl rfl rfl (.len L_sl_api_ID rfl) (by decide) ?_
  refine .s_step rfl rfl rfl (.mv rfl) (by decide) ?_
  refine .s_step rfl rfl rfl (.sub rfl rfl) (by decide) ?_
  obtain ⟨x4, hx4, H⟩ := bind_s H
  refine .s_step rfl rfl rfl (.slD (.own 0 Idn.size rfl hq1) hx4 L_sl_api_ID Z_api_ID rfl rfl) (by decide) ?_
  refine .s_nil ?_
  refine .only (i := 4) (.refl _) (by kernel_rfl) rfl ?_
  obtain ⟨x5, hx5, H⟩ := bind_s H
  refine .call0 rfl E_slices_Clone_api_ID_api_ID rfl rfl (fun w hm hf => W_slices_Clone_api_ID_api_ID x3 _ _ _ hx5 w (RoK.at ((((RoK.own 0 Idn.size rfl hq1)).tak hx3)) hm hf)) (by decide) fun v nm hR => ?_
  obtain ⟨k_o_24, c_o_24, r_o_24, rfl, rfl, ho_o_24⟩ := hR
  refine .nil (.then_n ?_)
  refine .only (i := 11) (.cons _ (.refl _)) (by kernel_rfl) rfl ?_
  obtain ⟨x6, hx6, H⟩ := bind_s H
  refine .appX 0 Idn.size ho_o_24 (((RoK.own 1 Idn.size rfl hq1)).drp hx4) hx6 rfl rfl rfl L_sl_api_ID Z_api_ID Y_api_ID N_api_ID (Idn.size _) (by decide) (by decide) (fun a _ => Idn.one a) (by decide) fun k_q1 c_q1 r_q1 ho_q1 => ?_
  refine .nil (.then_n ?_)
  refine .only (i := 12) (.cons _ (.refl _)) (by kernel_rfl) rfl ?_
  obtain ⟨x7, hx7, H⟩ := bind_s H
  refine .call0 rfl E_ring_Sorted rfl rfl (fun w hm hf => W_ring_Sorted a0 x6 _ _ _ hx7 w (RoK.at ((RoK.own 0 Idn.size rfl ho_q1)) hm hf)) (by decide) fun v nm hR => ?_
  obtain ⟨k_o_32, c_o_32, r_o_32, rfl, rfl, ho_o_32⟩ := hR
  refine .nil (.then_n ?_)
  refine .first [13] 0 rfl (by kernel_rfl) (by kernel_rfl) ?_
  refine .s_step rfl rfl rfl (.as rfl) (by decide) ?_
  refine .s_nil ?_
  refine .done (.cons _ (.cons _ (.refl _))) (by kernel_rfl) ?_
  cases H
  exact .then_n (.ret (.ret1 [_] (.cons_cons _ (.cons _ (.cons _ (.cons _ (.slnil))))) rfl rfl ⟨k_o_32, c_o_32, r_o_32, rfl, rfl, ho_o_32⟩))

end Go.Fx
