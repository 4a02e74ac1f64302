/- What the functions of package copies answer: the root, to whom an item is owed. -/
import Derived.Test.YtidmhfggemmegaaFxRing
namespace Go.Fx
set_option maxRecDepth 10000

theorem ref01_SameIDs (p q : Option Addr) (ca cb : Nat) (a b : List Idn) (ha : a.length < 2 ^ 40) (hb : b.length < 2 ^ 40) (w : World) (hA : IRd w p a) (hB : IRd w q b) :
    Calls PG f_annuletref01_SameIDs #[.slice p a.length ca, .slice q b.length cb] w (Ret w [] fun v nm => v = .bool (decide (a = b)) ∧ nm = []) := by
  refine enter0 (n := 26) (args := [.slice p a.length ca, .slice q b.length cb]) B_annuletref01_SameIDs rfl rfl (by simp) ?_
  refine .seq (.region (?_))
  refine .step (.as rfl) (by decide) ?_
  refine .nil (.then_n (.seq (.seq (.region (?_)))))
  refine .step (.mv rfl) (by decide) ?_
  refine .step (.len L_sl_api_ID rfl) (by decide) ?_
  refine .step (.mv rfl) (by decide) ?_
  refine .step (.len L_sl_api_ID rfl) (by decide) ?_
  refine .step (.neq rfl rfl) (by decide) ?_
  refine .nil (.then_n (.cond rfl (fun hc => ?_) (fun hc => ?_)))
  · refine .seq (.region (?_))
    refine .step (.as rfl) (by decide) ?_
    refine .nil (.then_n (.ret (.then_r (.ret1 [] (by simp) rfl rfl ⟨by have : a ≠ b := (by rintro rfl; simp at hc); rw [decide_eq_false this], rfl⟩))))
  · refine .skip (.then_n (.seq (.seq (.region (?_)))))
    refine .step (.as rfl) (by decide) ?_
    refine .nil (.then_n (.block (.loop (G := Nat) (fun g1 => g1 ≤ a.length ∧ a.take g1 = b.take g1) (fun g1 => []) (fun g1 => [(0, .slice p a.length ca), (1, .slice q b.length cb), (5, .int .i64 (g1 : Nat))]) (fun g1 => a.length - g1) 0 ⟨Nat.zero_le _, by simp⟩ (.refl _) (.cons rfl (.cons rfl (.cons rfl .nil))) ?_)))
    have hlen : a.length = b.length := by simp at hc; omega
    intro g1 hg1
    refine .seq (.seq (.region (?_)))
    refine .step (.mv rfl) (by decide) ?_
    refine .step (.mv rfl) (by decide) ?_
    refine .step (.len L_sl_api_ID rfl) (by decide) ?_
    refine .step (.lss rfl rfl) (by decide) ?_
    refine .nil (.then_n (.cond rfl (fun hc => ?_) (fun hc => ?_)))
    · have hlt : g1 < a.length := by simp at hc; omega
      obtain ⟨b1, o1, c1, T1, fr1, rfl, hb1, hsel1⟩ := hA.get hlt
      obtain ⟨b2, o2, c2, T2, fr2, rfl, hb2, hsel2⟩ := hB.get (i := g1) (by omega)
      obtain ⟨x, hx⟩ : ∃ x, a[g1]? = some x := ⟨_, List.getElem?_eq_getElem hlt⟩
      obtain ⟨y, hy⟩ : ∃ y, b[g1]? = some y := ⟨_, List.getElem?_eq_getElem (by omega)⟩
      refine .skip (.then_n (.seq (.block (.seq (.drawsI [] rfl rfl ?_)))))
      refine .first [0, 1, 2, 3, 4, 5, 6, 7, 8] 0 rfl (by kernel_rfl) (by kernel_rfl) ?_
      refine .s_step rfl rfl rfl (.mv rfl) (by decide) ?_
      refine .s_step rfl rfl rfl (.mv rfl) (by decide) ?_
      refine .s_step rfl rfl rfl (.ix rfl rfl L_sl_api_ID Z_api_ID (by omega) (by omega)) (by decide) ?_
      refine .s_step rfl rfl rfl (.lds rfl (.o hb1 (by simp)) A_api_ID Z_api_ID (hsel1 _ _ hx)) (by decide) ?_
      refine .s_step rfl rfl rfl (.mv rfl) (by decide) ?_
      refine .s_step rfl rfl rfl (.mv rfl) (by decide) ?_
      refine .s_step rfl rfl rfl (.ix rfl rfl L_sl_api_ID Z_api_ID (by omega) (by omega)) (by decide) ?_
      refine .s_step rfl rfl rfl (.lds rfl (.o hb2 (by simp)) A_api_ID Z_api_ID (hsel2 _ _ hy)) (by decide) ?_
      refine .s_step rfl rfl rfl (.neA (EQ_api_ID _ _) G_api_ID rfl rfl (by decide)) (by decide) ?_
      refine .s_nil ?_
      refine .done (.refl _) (by kernel_rfl) ?_
      refine .then_n (.cond rfl (fun hc => ?_) (fun hc => ?_))
      · refine .seq (.region (?_))
        refine .step (.as rfl) (by decide) ?_
        refine .nil (.then_n (.ret (.blk_r (.then_r (.then_r (.blk_r (.then_r (.ret1 [] (by simp) rfl rfl ⟨by have : a ≠ b := (by rintro rfl; rw [hx] at hy; cases hy; simp at hc); rw [decide_eq_false this], rfl⟩))))))))
      · refine .skip (.blk_n (.then_n (.region (?_))))
        refine .step (.mv rfl) (by decide) ?_
        refine .step (.add' (c := ((g1 + 1 : Nat) : Int)) rfl rfl (by rw [w64] <;> omega)) (by decide) ?_
        refine .step (.as rfl) (by decide) ?_
        refine .nil (.then_n (?_))
        refine .again (g1 + 1) ⟨by omega, by rw [List.take_add_one, List.take_add_one, hg1.2, hx, hy, show x = y by simpa using hc]⟩ (by omega) (.refl _) (.cons rfl (.cons rfl (.cons rfl .nil)))
    · refine .exit (.then_x (.then_x (.blk_x (.then_n (.seq (.region (?_)))))))
      refine .step (.as rfl) (by decide) ?_
      refine .nil (.then_n (.ret (.ret1 [] (by simp) rfl rfl ⟨by have h2 : g1 = a.length := (by simp at hc; omega); have := hg1.2; rw [h2, List.take_length, hlen, List.take_length] at this; rw [decide_eq_true this], rfl⟩)))

/-! ### the nearest one -/
def nrStep (d : Idn) (i : Nat) (x : Idn) : Option (Nat × Idn) → Option (Nat × Idn)
  | none => some (i, x)
  | some (j, y) => if d.nearer x y then some (i, x) else some (j, y)
def nrO (d : Idn) : List Idn → Nat → Option (Nat × Idn) → Option (Nat × Idn)
  | [], _, b => b
  | x :: r, i, b => nrO d r (i + 1) (nrStep d i x b)
def bval : Option (Nat × Idn) → Int
  | none => -1
  | some (j, _) => (j : Nat)
def nearestO (d : Idn) (l : List Idn) : Option (Nat × Idn) := nrO d l 0 none

structure NrG where
  i : Nat
  b : Option (Nat × Idn)
def NrI (d : Idn) (l : List Idn) (g : NrG) : Prop := g.i ≤ l.length ∧ nearestO d l = nrO d (l.drop g.i) g.i g.b ∧ (∀ j y, g.b = some (j, y) → l[j]? = some y ∧ j < g.i) ∧ (g.b = none → g.i = 0)
theorem nr_step {d : Idn} {l : List Idn} {i : Nat} {b : Option (Nat × Idn)} {x : Idn} (h : NrI d l ⟨i, b⟩) (hx : l[i]? = some x) : NrI d l ⟨i + 1, nrStep d i x b⟩ := by
  obtain ⟨h1, h2, h3, h4⟩ := h
  simp only at *
  obtain ⟨hi, hxi⟩ := List.getElem?_eq_some_iff.1 hx
  refine ⟨hi, ?_, ?_, ?_⟩
  · rw [h2, List.drop_eq_getElem_cons hi, hxi, nrO]
  · intro j y hj
    simp only at hj ⊢
    cases b with
    | none => simp only [nrStep, Option.some.injEq, Prod.mk.injEq] at hj; obtain ⟨rfl, rfl⟩ := hj; exact ⟨hx, by omega⟩
    | some p =>
      obtain ⟨j', y'⟩ := p
      simp only [nrStep] at hj
      split at hj
      · simp only [Option.some.injEq, Prod.mk.injEq] at hj; obtain ⟨rfl, rfl⟩ := hj; exact ⟨hx, by omega⟩
      · have := h3 j y hj; exact ⟨this.1, by omega⟩
  · intro hn
    exfalso
    cases b with
    | none => simp [nrStep] at hn
    | some p => simp only [nrStep] at hn; split at hn <;> cases hn
theorem nr_end {d : Idn} {l : List Idn} {b : Option (Nat × Idn)} (h : NrI d l ⟨l.length, b⟩) : nearestO d l = b := by
  have := h.2.1
  simpa [nrO] using this
theorem nr_all {d : Idn} {l : List Idn} : ∀ (i : Nat) (b : Option (Nat × Idn)), NrI d l ⟨i, b⟩ → ∃ b', NrI d l ⟨l.length, b'⟩ := by
  intro i b h
  obtain ⟨k, hk⟩ : ∃ k, l.length - i = k := ⟨_, rfl⟩
  induction k generalizing i b with
  | zero => have := h.1; simp only at this; have : i = l.length := by omega
            subst this; exact ⟨b, h⟩
  | succ k ih =>
    have hi : i < l.length := by omega
    exact ih (i + 1) _ (nr_step h (List.getElem?_eq_getElem hi)) (by omega)
theorem nr_start {d : Idn} {l : List Idn} : NrI d l ⟨0, none⟩ := ⟨Nat.zero_le _, rfl, by simp, fun _ => rfl⟩
theorem nearest_get {d : Idn} {l : List Idn} (h : l ≠ []) : ∃ j y, nearestO d l = some (j, y) ∧ l[j]? = some y := by
  obtain ⟨b, hb⟩ := nr_all 0 none (nr_start (d := d) (l := l))
  have hl : 0 < l.length := List.length_pos_iff.2 h
  have he := nr_end hb
  cases b with
  | none => have := hb.2.2.2 rfl; simp only at this; omega
  | some p => obtain ⟨j, y⟩ := p; exact ⟨j, y, he, (hb.2.2.1 j y rfl).1⟩

theorem ident_Nearest (d : Idn) (p : Option Addr) (cap : Nat) (l : List Idn) (hlen : l.length < 2 ^ 41) (w : World) (hR : IRd w p l) :
    Calls PG f_ident_Nearest #[.agg d.enc, .slice p l.length cap] w (Ret w [] fun v nm => v = .int .i64 (bval (nearestO d l)) ∧ nm = []) := by
  refine enter0 (n := 29) (args := [.agg d.enc, .slice p l.length cap]) B_ident_Nearest rfl rfl (by simp) ?_
  refine .seq (.region (?_))
  refine .box rfl rfl (by decide) fun b2 hb2 => ?_
  refine .step (.as rfl) (by decide) ?_
  refine .nil (.then_n (.seq (.region (?_))))
  refine .step (.as rfl) (by decide) ?_
  refine .nil (.then_n (.seq (.seq (.region (?_)))))
  refine .step (.mv rfl) (by decide) ?_
  refine .step (.len L_sl_api_ID rfl) (by decide) ?_
  refine .step (.mv rfl) (by decide) ?_
  refine .nil (.then_n (.block (.loop (G := NrG) (fun g1 => NrI d l g1) (fun g1 => [(some b2, .cells (d.enc) T_api_ID (0, 0))]) (fun g1 => [(1, .slice p l.length cap), (2, .pointer (some ⟨b2, 0, none⟩)), (5, .int .i64 (bval g1.b)), (8, .slice p l.length cap), (9, .int .i64 (l.length : Nat)), (10, .int .i64 (g1.i : Nat))]) (fun g1 => l.length - g1.i) ⟨0, none⟩ nr_start (.refl _) (.cons rfl (.cons rfl (.cons rfl (.cons rfl (.cons rfl (.cons rfl .nil)))))) ?_)))
  rintro ⟨i, bo⟩ hg1
  dsimp only
  have hil : i ≤ l.length := hg1.1
  refine .seq (.region (?_))
  refine .step (.lss rfl rfl) (by decide) ?_
  refine .nil (.then_n (.seq (.cond rfl (fun hc => ?_) (fun hc => ?_))))
  · have hlt : i < l.length := by simp at hc; omega
    obtain ⟨b, o, c, T, fr, rfl, hb, hsel⟩ := hR.get hlt
    obtain ⟨x, hx⟩ : ∃ x, l[i]? = some x := ⟨_, List.getElem?_eq_getElem hlt⟩
    have hst := nr_step hg1 hx
    refine .skip (.then_n (.seq (.block (.seq (.region (?_))))))
    refine .step (.mv rfl) (by decide) ?_
    refine .step (.ix rfl rfl L_sl_api_ID Z_api_ID (by omega) (by omega)) (by decide) ?_
    refine .step (.lds rfl (.o hb (by simp)) A_api_ID Z_api_ID (hsel _ _ hx)) (by decide) ?_
    refine .alloc N_api_ID rfl (by decide) fun b7 hb7 => ?_
    refine .step (.as rfl) (by decide) ?_
    refine .storeA 0 rfl rfl rfl rfl Z_api_ID (Idn.size _) (Idn.one _) (Idn.size _) ?_
    refine .nil (.then_n (.seq (.drawsI [0, 1] rfl rfl ?_)))
    refine .first [0, 1, 2] 8 rfl (by kernel_rfl) (by kernel_rfl) ?_
    refine .s_step rfl rfl rfl (.mv rfl) (by decide) ?_
    refine .s_step rfl rfl rfl (.lss rfl rfl) (by decide) ?_
    refine .s_step rfl rfl rfl (.mv rfl) (by decide) ?_
    refine .s_nil ?_
    refine .splitb 17 rfl (fun h1 => ?_) (fun h1 => ?_)
    · have hbn : bo = none := by
        cases bo with
        | none => rfl
        | some q => exfalso; obtain ⟨j, y⟩ := q; have h9 : bval (some (j, y)) < 0 := of_decide_eq_true h1; have h8 : bval (some (j, y)) = (j : Nat) := rfl; omega
      subst hbn
      refine .first [3, 4, 5, 6, 7, 8, 9, 10] 0 rfl (by kernel_rfl) (by kernel_rfl) ?_
      refine .s_pass rfl rfl rfl rfl rfl (by decide) ?_
      refine .s_pass rfl rfl rfl rfl rfl (by decide) ?_
      refine .s_pass rfl rfl rfl rfl rfl (by decide) ?_
      refine .s_pass rfl rfl rfl rfl rfl (by decide) ?_
      refine .s_pass rfl rfl rfl rfl rfl (by decide) ?_
      refine .s_pass rfl rfl rfl rfl rfl (by decide) ?_
      refine .s_pass rfl rfl rfl rfl rfl (by decide) ?_
      refine .s_step rfl rfl rfl (.pk_t rfl rfl) (by decide) ?_
      refine .s_nil ?_
      refine .done (.refl _) (by kernel_rfl) ?_
      refine .then_n (.cond_t rfl (.region (?_)))
      refine .step (.mv rfl) (by decide) ?_
      refine .step (.as rfl) (by decide) ?_
      refine .nil (.blk_n (.then_n (.region (?_))))
      refine .step (.add' (c := ((i + 1 : Nat) : Int)) rfl rfl (by rw [w64] <;> omega)) (by decide) ?_
      refine .step (.mv rfl) (by decide) ?_
      refine .nil (.then_n (?_))
      refine .again ⟨i + 1, _⟩ hst (by show l.length - (i + 1) < l.length - i; omega) (.cons _ (.refl _)) (.cons rfl (.cons rfl (.cons rfl (.cons rfl (.cons rfl (.cons rfl .nil))))))
    · obtain ⟨j, y, rfl⟩ : ∃ j y, bo = some (j, y) := by
        cases bo with
        | none => simp [bval] at h1
        | some q => exact ⟨q.1, q.2, rfl⟩
      obtain ⟨hy, hji⟩ := hg1.2.2.1 j y rfl
      simp only at hji
      refine .first [3, 4, 5, 6, 7, 8] 2 rfl (by kernel_rfl) (by kernel_rfl) ?_
      refine .s_stepg rfl rfl rfl rfl (.ldA rfl (.i 1 rfl) A_api_ID Z_api_ID (Idn.size _)) (by decide) ?_
      refine .s_stepg rfl rfl rfl rfl (.ldA rfl (.i 0 rfl) A_api_ID Z_api_ID (Idn.size _)) (by decide) ?_
      refine .s_stepg rfl rfl rfl rfl (.mv rfl) (by decide) ?_
      refine .s_stepg rfl rfl rfl rfl (.mv rfl) (by decide) ?_
      refine .s_stepg rfl rfl rfl rfl (.ix (i := ((j : Nat) : Int)) rfl rfl L_sl_api_ID Z_api_ID (by omega) (by omega)) (by decide) ?_
      refine .s_stepg rfl rfl rfl rfl (.lds rfl (.o hb (by simp)) A_api_ID Z_api_ID (hsel _ _ hy)) (by decide) ?_
      refine .s_nil ?_
      refine .only (i := 9) (.refl _) (by kernel_rfl) rfl ?_  -- op 9
      refine .gd rfl ?_
      refine .callQ rfl E_ident_Nearer rfl rfl (fun w _ _ => ident_Nearer _ _ _ w) (by decide) ?_
      refine .nil (.then_n ?_)
      refine .first [10] 0 rfl (by kernel_rfl) (by kernel_rfl) ?_
      refine .s_step rfl rfl rfl (.pk_f rfl rfl) (by decide) ?_
      refine .s_nil ?_
      refine .done (.refl _) (by kernel_rfl) ?_
      refine .then_n (.cond rfl (fun hc => ?_) (fun hc => ?_))
      · have hs2 : nrStep d i x (some (j, y)) = some (i, x) := by simp only [nrStep, hc, if_true]
        rw [hs2] at hst
        refine .region (?_)
        refine .step (.mv rfl) (by decide) ?_
        refine .step (.as rfl) (by decide) ?_
        refine .nil (.blk_n (.then_n (.region (?_))))
        refine .step (.add' (c := ((i + 1 : Nat) : Int)) rfl rfl (by rw [w64] <;> omega)) (by decide) ?_
        refine .step (.mv rfl) (by decide) ?_
        refine .nil (.then_n (?_))
        refine .again ⟨i + 1, some (i, x)⟩ hst (by show l.length - (i + 1) < l.length - i; omega) (.cons _ (.refl _)) (.cons rfl (.cons rfl (.cons rfl (.cons rfl (.cons rfl (.cons rfl .nil))))))
      · have hs2 : nrStep d i x (some (j, y)) = some (j, y) := by simp only [nrStep, hc]; rfl
        rw [hs2] at hst
        refine .skip (.blk_n (.then_n (.region (?_))))
        refine .step (.add' (c := ((i + 1 : Nat) : Int)) rfl rfl (by rw [w64] <;> omega)) (by decide) ?_
        refine .step (.mv rfl) (by decide) ?_
        refine .nil (.then_n (?_))
        refine .again ⟨i + 1, some (j, y)⟩ hst (by show l.length - (i + 1) < l.length - i; omega) (.cons _ (.refl _)) (.cons rfl (.cons rfl (.cons rfl (.cons rfl (.cons rfl (.cons rfl .nil))))))
  · refine .exit (.then_x (.then_x (.blk_x (.then_n (.seq (.region (?_)))))))
    refine .step (.mv rfl) (by decide) ?_
    refine .step (.as rfl) (by decide) ?_
    refine .nil (.then_n (.ret (.ret1 [] (by simp) rfl rfl ⟨by have h2 : i = l.length := (by simp at hc; omega); subst h2; rw [nr_end hg1], rfl⟩)))

theorem mem_len {l : List Idn} {j : Nat} {y : Idn} (h : l[j]? = some y) : j < l.length := (List.getElem?_eq_some_iff.1 h).1

/-- is the node itself the nearest one? -/
def rootB (self : Idn) (l : List Idn) (key : Idn) : Bool := decide (bval (nearestO key (self :: l)) = 0)

theorem copies_Root (self key : Idn) (p : Option Addr) (cap : Nat) (l : List Idn) (hlen : l.length < 2 ^ 40) (w : World) (hR : IRd w p l) :
    Calls PG f_copies_Root #[.agg self.enc, .slice p l.length cap, .agg key.enc] w (Ret w [] fun v nm => v = .bool (rootB self l key) ∧ nm = []) := by
  have hRd := hR
  refine enter0 (n := 14) (args := [.agg self.enc, .slice p l.length cap, .agg key.enc]) B_copies_Root rfl rfl (by simp) ?_
  refine .seq (.region (?_))
  refine .box rfl rfl (by decide) fun b3 hb3 => ?_
  refine .box rfl rfl (by decide) fun b5 hb5 => ?_
  refine .step (.as rfl) (by decide) ?_
  refine .nil (.then_n (.seq (.drawsI [0, 1] rfl rfl ?_)))
  refine .first [0, 1, 3] 5 rfl (by kernel_rfl) (by kernel_rfl) ?_
  refine .s_step rfl rfl rfl (.ldA rfl (.i 0 rfl) A_api_ID Z_api_ID (Idn.size _)) (by decide) ?_
  refine .s_step rfl rfl rfl (.ldA rfl (.i 1 rfl) A_api_ID Z_api_ID (Idn.size _)) (by decide) ?_
  refine .s_step rfl rfl rfl (.mv rfl) (by decide) ?_
  refine .s_nil ?_
  refine .only (i := 2) (.refl _) (by kernel_rfl) rfl ?_  -- op 2
  refine .bsL (vs := [.agg self.enc]) (c := catA ([self].map Idn.enc)) (len := 1) L_sl_api_ID Z_api_ID N_api_ID rfl rfl (by intro v hv; rw [List.mem_singleton.1 hv]; exact Idn.size _) rfl (by decide) (by decide) (by decide) fun b9 hb9 => ?_
  refine .nil (.then_n ?_)
  refine .only (i := 4) (.cons _ (.refl _)) (by kernel_rfl) rfl ?_  -- op 4
  refine .app (key := some b9) (len := 1) (cap := 1) (xs := catA ([self].map Idn.enc)) (rs := #[]) 0 (by simp [catA]) rfl rfl (hRd.src Idn.size cap) L_sl_api_ID rfl Z_api_ID Y_api_ID N_api_ID rfl (by decide) (catA_list_size Idn.size _) rfl (Nat.le_refl _) (by simp) (ones_list _) (by omega) (by decide) fun key11 cap11 rs11 hrs11 hle11 hnil11 => ?_
  rw [← catA_append, ← List.map_append, Nat.add_comm 1 l.length] at *
  have ho : OwnS 16 key11 ([self] ++ l).length cap11 rs11 := ⟨by simpa using hrs11, by simpa using hle11, hnil11⟩
  refine .nil (.then_n ?_)
  refine .only (i := 5) (.cons _ (.refl _)) (by kernel_rfl) rfl ?_  -- op 5
  refine .callQ (v := .int .i64 (bval (nearestO key (self :: l)))) rfl E_ident_Nearest rfl rfl (fun w' hm hf => ident_Nearest key (key11.map fun b => ⟨b, 0, none⟩) cap11 ([self] ++ l) (by simp; omega) w' (.ownM (i := 0) hm Idn.size rfl ho)) (by decide) ?_
  refine .nil (.then_n ?_)
  refine .first [6, 7] 0 rfl (by kernel_rfl) (by kernel_rfl) ?_
  refine .s_step rfl rfl rfl (.eql rfl rfl) (by decide) ?_
  refine .s_step rfl rfl rfl (.as rfl) (by decide) ?_
  refine .s_nil ?_
  refine .done (.cons _ (.refl _)) (by kernel_rfl) ?_
  refine .then_n (.ret (.ret1 [] (by simp) rfl rfl ⟨rfl, rfl⟩))

/-- to whom an item is owed -/
def owed (self : Idn) (l : List Idn) (key : Idn) : List Idn :=
  if rootB self (sorted self l) key || decide (sorted self l = []) then sorted self l else match nearestO key (sorted self l) with
    | some (_, y) => [y]
    | none => []

theorem copies_Owed (self key : Idn) (p : Option Addr) (cap : Nat) (l : List Idn) (hlen : l.length < 2 ^ 39) (w : World) (hR : IRd w p l) :
    Calls PG f_copies_Owed #[.agg self.enc, .slice p l.length cap, .agg key.enc] w (Ret w [] (RetL Idn.enc 16 T_api_ID (owed self l key))) := by
  have hRd := hR
  have hsl := sorted_len self l
  refine enter0 (n := 28) (args := [.agg self.enc, .slice p l.length cap, .agg key.enc]) B_copies_Owed rfl rfl (by simp) ?_
  refine .seq (.region (?_))
  refine .box rfl rfl (by decide) fun b3 hb3 => ?_
  refine .box rfl rfl (by decide) fun b5 hb5 => ?_
  refine .step (.as rfl) (by decide) ?_
  refine .nil (.then_n (.seq (.region (?_))))
  refine .step (.ldA rfl (.i 1 rfl) A_api_ID Z_api_ID (Idn.size _)) (by decide) ?_
  refine .step (.mv rfl) (by decide) ?_
  refine .call0 rfl E_ring_Sorted rfl rfl (fun w hm hf => ring_Sorted self p cap l (by omega) w (hRd.fr hf)) (by decide) fun v nm hR => ?_
  obtain ⟨key10, cap10, rs10, rfl, rfl, ho10⟩ := hR
  generalize hS : sorted self l = S at *
  refine .step (.as rfl) (by decide) ?_
  refine .nil (.then_n (.seq (.seq (.region (?_)))))
  refine .step (.mv rfl) (by decide) ?_
  refine .step (.len L_sl_api_ID rfl) (by decide) ?_
  refine .step (.eql rfl rfl) (by decide) ?_
  refine .step (.mv rfl) (by decide) ?_
  refine .splitb 14 rfl (fun h1 => ?_) (fun h1 => ?_)
  · have hS0 : S = [] := List.length_eq_zero_iff.1 (by have := of_decide_eq_true h1; omega)
    have how : owed self l key = S := by unfold owed; rw [hS]; simp [hS0]
    rw [how]
    refine .pass rfl rfl (by decide) ?_
    refine .pass rfl rfl (by decide) ?_
    refine .pass rfl rfl (by decide) ?_
    refine .pass rfl rfl (by decide) ?_
    refine .step (.pk_t rfl rfl) (by decide) ?_
    refine .nil (.then_n (.cond_t rfl (.seq (.region (?_)))))
    refine .step (.mv rfl) (by decide) ?_
    refine .step (.as rfl) (by decide) ?_
    refine .nil (.then_n (.ret (.then_r (.ret1 [_] (.cons_cons _ (.cons _ (.cons _ .slnil))) rfl rfl ⟨key10, cap10, rs10, rfl, rfl, ho10⟩))))
  · have hS0 : S ≠ [] := by rintro rfl; simp at h1
    refine .stepg rfl (.ldA rfl (.i 2 rfl) A_api_ID Z_api_ID (Idn.size _)) (by decide) ?_
    refine .stepg rfl (.mv rfl) (by decide) ?_
    refine .stepg rfl (.ldA rfl (.i 1 rfl) A_api_ID Z_api_ID (Idn.size _)) (by decide) ?_
    refine .gd rfl ?_
    refine .callQ (v := .bool (rootB self S key)) rfl E_copies_Root rfl rfl (fun w' hm hf => copies_Root self key (key10.map fun b => ⟨b, 0, none⟩) cap10 S (by omega) w' (.ownM (i := 0) hm Idn.size rfl ho10)) (by decide) ?_
    refine .step (.pk_f rfl rfl) (by decide) ?_
    refine .nil (.then_n (.cond rfl (fun hc => ?_) (fun hc => ?_)))
    · have how : owed self l key = S := by unfold owed; rw [hS, hc]; simp
      rw [how]
      refine .seq (.region (?_))
      refine .step (.mv rfl) (by decide) ?_
      refine .step (.as rfl) (by decide) ?_
      refine .nil (.then_n (.ret (.then_r (.ret1 [_] (.cons_cons _ (.cons _ (.cons _ .slnil))) rfl rfl ⟨key10, cap10, rs10, rfl, rfl, ho10⟩))))
    · obtain ⟨j, y, hn, hy⟩ := nearest_get (d := key) hS0
      have how : owed self l key = [y] := by unfold owed; rw [hS, hc, hn]; simp [hS0]
      rw [how]
      have hjl := mem_len hy
      obtain ⟨b, rfl⟩ : ∃ b, key10 = some b := by
        cases key10 with
        | none => exfalso; have h1 := ho10.nil rfl; have h2 := ho10.le; omega
        | some b => exact ⟨b, rfl⟩
      refine .skip (.then_n (.seq (.region (?_))))
      refine .step (.mv rfl) (by decide) ?_
      refine .step (.ldA rfl (.i 1 rfl) A_api_ID Z_api_ID (Idn.size _)) (by decide) ?_
      refine .step (.mv rfl) (by decide) ?_
      refine .callQ (v := .int .i64 ((j : Nat) : Int)) rfl E_ident_Nearest rfl rfl (fun w' hm hf => by have h := ident_Nearest key (some ⟨b, 0, none⟩) cap10 S (by omega) w' (.ownM (i := 0) hm Idn.size rfl ho10); rw [hn] at h; exact h) (by decide) ?_
      refine .step (.ix rfl rfl L_sl_api_ID Z_api_ID (by omega) (by omega)) (by decide) ?_
      refine .step (.lds rfl (.i 0 rfl) A_api_ID Z_api_ID (sel_at Idn.size rfl hy)) (by decide) ?_
      refine .bsL (vs := [.agg y.enc]) (c := catA ([y].map Idn.enc)) (len := 1) L_sl_api_ID Z_api_ID N_api_ID rfl rfl (by intro v hv; rw [List.mem_singleton.1 hv]; exact Idn.size _) rfl (by decide) (by decide) (by decide) fun b27 hb27 => ?_
      refine .step (.as rfl) (by decide) ?_
      refine .nil (.then_n (.ret (.ret1 [_] (.cons_cons _ (.cons _ (.cons _ (.cons _ .slnil)))) rfl rfl ⟨some b27, 1, #[], rfl, by simp [catA], ⟨rfl, Nat.le_refl _, by simp⟩⟩)))

end Go.Fx
