/- What the functions of package slices do at identities. -/
import Derived.Test.YtpkdekhmjjcljaaGreatFxRefB15z
import Derived.Test.YtpkdekhmjjcljaaGreatFxJ
namespace Go.Fx
set_option maxRecDepth 10000

theorem slices_Clone_api_ID (p : Option Addr) (cap : Nat) (l : List Idn) (hlen : l.length < 2 ^ 40) (w : World) (hR : IRd w p l) :
    Calls PG f_slices_Clone_api_ID_api_ID #[.slice p l.length cap] w (Ret w [] (RetL Idn.enc 16 T_api_ID l)) := by
  refine enter0 (n := 8) (args := [.slice p l.length cap]) B_slices_Clone_api_ID_api_ID rfl rfl (by simp) ?_
  refine .seq (.region (?_))
  refine .step (.as rfl) (by decide) ?_
  refine .nil (.then_n (.seq (.seq (.region (?_)))))
  refine .step (.mv rfl) (by decide) ?_
  refine .step (.eqSl L_sl_api_ID rfl rfl) (by decide) ?_
  refine .nil (.then_n (.cond rfl (fun hc => ?_) (fun hc => ?_)))
  · refine .seq (.region (?_))
    have hp : p = none := by simpa using hc
    have hl : l = [] := by rcases hR with ⟨h, _⟩ | ⟨b, o, c, T, fr, h, _⟩; exact h; rw [hp] at h; cases h
    subst hl
    refine .step (.as rfl) (by decide) ?_
    refine .non (o := .cells (catA (([] : List Idn).map Idn.enc) ++ #[]) T_api_ID (0, 0)) ?_
    refine .nil (.then_n (.ret (.then_r (.ret1 [(none, .cells (catA (([] : List Idn).map Idn.enc) ++ #[]) T_api_ID (0, 0))] (.refl _) rfl rfl ⟨none, 0, #[], rfl, rfl, ⟨rfl, Nat.le_refl _, fun _ => rfl⟩⟩))))
  · refine .skip (.then_n (.seq (.region (?_))))
    refine .bs0 L_sl_api_ID Z_api_ID (by decide) fun b5 hb5 => ?_
    refine .step (.mv rfl) (by decide) ?_
    refine .app (xs := #[]) (rs := #[]) (key := some b5) (cap := 0) (len := 0) 0 rfl rfl rfl (hR.src Idn.size cap) L_sl_api_ID rfl Z_api_ID Y_api_ID N_api_ID rfl (by decide) rfl rfl (Nat.le_refl _) (by simp) (Ones.cat (by intro q hq; obtain ⟨x, _, rfl⟩ := List.mem_map.1 hq; exact x.one)) (by omega) (by decide) fun key7 cap7 rs7 hrs7 hle7 hnil7 => ?_
    refine .step (.as rfl) (by decide) ?_
    refine .nil (.then_n (.ret (.ret1 [_] (.refl _) rfl rfl ⟨key7, cap7, rs7, by rw [Nat.zero_add], by rw [Array.empty_append], ⟨by simpa using hrs7, by simpa using hle7, hnil7⟩⟩)))

/-- where the first one stands for which this holds -/
def IxOf (q : Idn → Bool) (l : List Idn) (v : Value) : Prop :=
  (∃ i x, v = .int .i64 ((i : Nat) : Int) ∧ l[i]? = some x ∧ q x = true ∧ ∀ y ∈ l.take i, q y = false) ∨ (v = .int .i64 (-1) ∧ ∀ y ∈ l, q y = false)

theorem slices_IndexFunc_api_ID (p : Option Addr) (cap : Nat) (l : List Idn) (hlen : l.length < 2 ^ 40) (g : Nat) (cb : Array Value) (q : Idn → Bool) (hg : enterB PG g = true) (w : World) (hR : IRd w p l)
    (hc : ∀ w', Fr [] w w' → ∀ x : Idn, Calls PG g (#[.agg x.enc] ++ cb) w' (Ret w' [] fun v nm => v = .bool (q x) ∧ nm = [])) :
    Calls PG f_slices_IndexFunc_api_ID_api_ID #[.slice p l.length cap, .func (.func g) #[] cb] w (Ret w [] fun v nm => IxOf q l v ∧ nm = []) := by
  have hcl := hc
  refine enter0 (n := 19) (args := [.slice p l.length cap, .func (.func g) #[] cb]) B_slices_IndexFunc_api_ID_api_ID rfl rfl (by simp) ?_
  refine .seq (.region (?_))
  refine .step (.as rfl) (by decide) ?_
  refine .nil (.then_n (.seq (.seq (.region (?_)))))
  refine .step (.mv rfl) (by decide) ?_
  refine .step (.len L_sl_api_ID rfl) (by decide) ?_
  refine .step (.mv rfl) (by decide) ?_
  refine .nil (.then_n (.block (.loop (G := Nat) (fun g1 => g1 ≤ l.length ∧ ∀ y ∈ l.take g1, q y = false) (fun g1 => []) (fun g1 => [(0, .slice p l.length cap), (1, .func (.func g) #[] cb), (7, .int .i64 (l.length : Nat)), (8, .int .i64 (g1 : Nat))]) (fun g1 => l.length - g1) 0 ⟨Nat.zero_le _, by simp⟩ (.refl _) (.cons rfl (.cons rfl (.cons rfl (.cons rfl .nil)))) ?_)))
  intro g1 hg1
  refine .seq (.region (?_))
  refine .step (.lss rfl rfl) (by decide) ?_
  refine .nil (.then_n (.seq (.cond rfl (fun hc => ?_) (fun hc => ?_))))
  · have hlt : g1 < l.length := by simp at hc; omega
    obtain ⟨b, o, c, T, fr, rfl, hb, hsel⟩ := hR.get hlt
    obtain ⟨x, hx⟩ : ∃ x, l[g1]? = some x := ⟨_, List.getElem?_eq_getElem hlt⟩
    have htk : l.take (g1 + 1) = l.take g1 ++ [x] := by rw [List.take_add_one, hx]; rfl
    refine .skip (.then_n (.seq (.block (.seq (.region (?_))))))
    refine .step (.mv rfl) (by decide) ?_
    refine .step (.as rfl) (by decide) ?_
    refine .nil (.then_n (.seq (.region (?_))))
    refine .step (.mv rfl) (by decide) ?_
    refine .step (.mv rfl) (by decide) ?_
    refine .step (.mv rfl) (by decide) ?_
    refine .step (.ix rfl rfl L_sl_api_ID Z_api_ID (by omega) (by omega)) (by decide) ?_
    refine .step (.lds rfl (.o hb (by simp)) A_api_ID Z_api_ID (hsel _ _ hx)) (by decide) ?_
    refine .callQ (first := #[]) (capt := cb) (v := .bool (q x)) rfl hg rfl (args1 _ _) (fun w' _ hf => hcl w' hf x) (by decide) ?_
    refine .nil (.then_n (.cond rfl (fun hc => ?_) (fun hc => ?_)))
    · refine .seq (.region (?_))
      refine .step (.mv rfl) (by decide) ?_
      refine .step (.as rfl) (by decide) ?_
      refine .nil (.then_n (.ret (.blk_r (.then_r (.then_r (.blk_r (.then_r (.ret1 [] (by simp) rfl rfl ⟨.inl ⟨g1, x, rfl, hx, hc, hg1.2⟩, rfl⟩))))))))
    · refine .skip (.blk_n (.then_n (.region (?_))))
      refine .step (.add' (c := ((g1 + 1 : Nat) : Int)) rfl rfl (by rw [w64] <;> omega)) (by decide) ?_
      refine .step (.mv rfl) (by decide) ?_
      refine .nil (.then_n (?_))
      refine .again (g1 + 1) ⟨by omega, by rw [htk]; intro y hy; rcases List.mem_append.1 hy with hy | hy; exact hg1.2 y hy; rw [List.mem_singleton.1 hy]; exact hc⟩ (by omega) (.refl _) (.cons rfl (.cons rfl (.cons rfl (.cons rfl .nil))))
  · refine .exit (.then_x (.then_x (.blk_x (.then_n (.seq (.region (?_)))))))
    refine .step (.as rfl) (by decide) ?_
    refine .nil (.then_n (.ret (.ret1 [] (by simp) rfl rfl ⟨.inr ⟨rfl, by have h2 : g1 = l.length := (by simp at hc; omega); have := hg1.2; rw [h2, List.take_length] at this; exact this⟩, rfl⟩)))

/-- a list that lies where one lay: shorter -/
def RetIn {α : Type} (enc : α → Array Value) (s : Nat) (T : TypeId) (key : Option Nat) (cap : Nat) (l : List α) : Value → HF → Prop := fun v nm =>
  v = slv key l.length cap ∧ ∃ rs, nm = [(key, .cells (catA (l.map enc) ++ rs) T (0, 0))] ∧ OwnS s key l.length cap rs

structure DelG where
  j : Nat
  cur : List Idn
def keep (q : Idn → Bool) (l : List Idn) : List Idn := l.filter fun x => !q x
def DelI (q : Idn → Bool) (l : List Idn) (g : DelG) : Prop :=
  g.j ≤ l.length ∧ g.cur.length = l.length ∧ g.cur.drop g.j = l.drop g.j ∧ g.cur.take (keep q (l.take g.j)).length = keep q (l.take g.j) ∧ (keep q (l.take g.j)).length < g.j

theorem del_len {q : Idn → Bool} {l : List Idn} {j : Nat} : (keep q (l.take j)).length ≤ j := Nat.le_trans (List.length_filter_le _ _) (by rw [List.length_take]; exact Nat.min_le_left _ _)
theorem del_keep {q : Idn → Bool} {l cur : List Idn} {j : Nat} {x : Idn} (h : DelI q l ⟨j, cur⟩) (hx : l[j]? = some x) (hq : q x = false) :
    DelI q l ⟨j + 1, cur.set (keep q (l.take j)).length x⟩ ∧ (keep q (l.take (j + 1))).length = (keep q (l.take j)).length + 1 := by
  obtain ⟨h1, h2, h3, h4, h5⟩ := h
  simp only at *
  have hj : j < l.length := (List.getElem?_eq_some_iff.1 hx).1
  have e : keep q (l.take (j + 1)) = keep q (l.take j) ++ [x] := by
    rw [List.take_add_one, hx]; simp [keep, hq]
  have el : (keep q (l.take (j + 1))).length = (keep q (l.take j)).length + 1 := by rw [e]; simp
  refine ⟨⟨hj, by simp [h2], ?_, ?_, by simp only; omega⟩, el⟩
  · simp only
    rw [List.drop_set, if_pos (by omega)]
    have := congrArg (List.drop 1) h3
    simpa [List.drop_drop, Nat.add_comm] using this
  · simp only
    rw [el, e, List.take_add_one, List.take_set_of_le (Nat.le_refl _), h4]
    simp [show (keep q (l.take j)).length < cur.length by omega]
theorem del_drop {q : Idn → Bool} {l cur : List Idn} {j : Nat} {x : Idn} (h : DelI q l ⟨j, cur⟩) (hx : l[j]? = some x) (hq : q x = true) : DelI q l ⟨j + 1, cur⟩ ∧ (keep q (l.take (j + 1))).length = (keep q (l.take j)).length := by
  obtain ⟨h1, h2, h3, h4, h5⟩ := h
  simp only at *
  have hj : j < l.length := (List.getElem?_eq_some_iff.1 hx).1
  have e : keep q (l.take (j + 1)) = keep q (l.take j) := by
    rw [List.take_add_one, hx]; simp [keep, hq]
  refine ⟨⟨hj, h2, ?_, by rw [e]; exact h4, by rw [e]; simp only; omega⟩, by rw [e]⟩
  simp only
  have := congrArg (List.drop 1) h3
  simpa [List.drop_drop, Nat.add_comm] using this
theorem del_get {q : Idn → Bool} {l cur : List Idn} {j : Nat} (h : DelI q l ⟨j, cur⟩) : cur[j]? = l[j]? := by
  have := congrArg (fun z : List Idn => z[0]?) h.2.2.1
  simpa using this
theorem del_start {q : Idn → Bool} {l : List Idn} {i : Nat} {x : Idn} (hx : l[i]? = some x) (hq : q x = true) (hn : ∀ y ∈ l.take i, q y = false) : DelI q l ⟨i + 1, l⟩ ∧ (keep q (l.take (i + 1))).length = i := by
  have hi : i < l.length := (List.getElem?_eq_some_iff.1 hx).1
  have e : keep q (l.take (i + 1)) = l.take i := by
    rw [List.take_add_one, hx]
    unfold keep
    rw [List.filter_append]
    rw [List.filter_eq_self.2 (fun y hy => by simp [hn y hy])]
    simp [hq]
  have el : (keep q (l.take (i + 1))).length = i := by rw [e, List.length_take, Nat.min_eq_left (by omega)]
  exact ⟨⟨hi, rfl, rfl, by simp only; rw [el, e], by simp only; omega⟩, el⟩

theorem slices_DeleteFunc_api_ID (key : Option Nat) (cap : Nat) (l : List Idn) (rs : Array Value) (hlen : l.length < 2 ^ 40) (ho : OwnS 16 key l.length cap rs) (g : Nat) (cb : Array Value) (q : Idn → Bool) (hg : enterB PG g = true) (w : World)
    (hm : ∀ b, key = some b → w.heap[b]? = some (.cells (catA (l.map Idn.enc) ++ rs) T_api_ID (0, 0)))
    (hc : ∀ w', Fr key.toList w w' → ∀ x : Idn, Calls PG g (#[.agg x.enc] ++ cb) w' (Ret w' [] fun v nm => v = .bool (q x) ∧ nm = [])) :
    Calls PG f_slices_DeleteFunc_api_ID_api_ID #[slv key l.length cap, .func (.func g) #[] cb] w (Ret w key.toList (RetIn Idn.enc 16 T_api_ID key cap (keep q l))) := by
  have hcl := hc
  refine enter (n := 42) (args := [slv key l.length cap, .func (.func g) #[] cb]) [(key, .cells (catA (l.map Idn.enc) ++ rs) T_api_ID (0, 0))] B_slices_DeleteFunc_api_ID_api_ID rfl rfl (by simp) (.one hm) (List.pairwise_singleton _ _) own_one ?_
  refine .seq (.region (?_))
  refine .step (.as rfl) (by decide) ?_
  refine .nil (.then_n (.seq (.region (?_))))
  refine .step (.mv rfl) (by decide) ?_
  refine .step (.mv rfl) (by decide) ?_
  refine .call0 rfl E_slices_IndexFunc_api_ID_api_ID rfl rfl (fun w hm hf => slices_IndexFunc_api_ID (key.map fun b => ⟨b, 0, none⟩) cap l hlen g cb q hg w (Rd.slv Idn.size ho (fun b hb => hm b _ (by rw [← hb]; exact List.mem_singleton.2 rfl))) (fun w' hw' x => hcl w' (hf.trans (hw'.mono (by simp))) x)) (by decide) fun v nm hR => ?_
  obtain ⟨hR, rfl⟩ := hR
  rw [List.nil_append]
  refine .step (.as rfl) (by decide) ?_
  obtain ⟨z, hz⟩ : ∃ z : Int, v = .int .i64 z := by
    rcases hR with ⟨i, x, h1, _⟩ | h
    · exact ⟨_, h1⟩
    · exact ⟨_, h.1⟩
  subst hz
  refine .nil (.then_n (.seq (.seq (.region (?_)))))
  refine .step (.mv rfl) (by decide) ?_
  refine .step (.eql rfl rfl) (by decide) ?_
  refine .nil (.then_n (.cond rfl (fun hc => ?_) (fun hc => ?_)))
  · have hv : ∀ y ∈ l, q y = false := by
      rcases hR with ⟨i, x, h1, h2, _⟩ | h
      · exfalso; cases h1; simp at hc
      · exact h.2
    have hk : keep q l = l := List.filter_eq_self.2 (fun y hy => by simp [hv y hy])
    rw [hk]
    refine .seq (.region (?_))
    refine .step (.mv rfl) (by decide) ?_
    refine .step (.as rfl) (by decide) ?_
    refine .nil (.then_n (.ret (.then_r (.ret1 [_] (.refl _) rfl rfl ⟨rfl, rs, rfl, ho⟩))))
  · obtain ⟨i, x, h1, hx, hq, hpre⟩ : ∃ i x, Value.int .i64 z = .int .i64 ((i : Nat) : Int) ∧ l[i]? = some x ∧ q x = true ∧ ∀ y ∈ l.take i, q y = false := by
      rcases hR with h | h
      · exact h
      · exfalso; have := h.1; cases this; simp at hc
    cases h1
    have hi : i < l.length := (List.getElem?_eq_some_iff.1 hx).1
    obtain ⟨b, rfl⟩ : ∃ b, key = some b := by
      cases key with
      | none => exfalso; have h1 := ho.nil rfl; have h2 := ho.le; omega
      | some b => exact ⟨b, rfl⟩
    obtain ⟨hst, hln⟩ := del_start hx hq hpre
    have hcap := ho.le
    refine .skip (.then_n (.seq (.seq (.region (?_)))))
    refine .step (.mv rfl) (by decide) ?_
    refine .step (.add' (c := ((i + 1 : Nat) : Int)) rfl rfl (by rw [w64] <;> omega)) (by decide) ?_
    refine .step (.as rfl) (by decide) ?_
    refine .nil (.then_n (.block (.loop (G := DelG) (fun g1 => DelI q l g1) (fun g1 => [(some b, .cells (catA (g1.cur.map Idn.enc) ++ rs) T_api_ID (0, 0))]) (fun g1 => [(0, .slice (some ⟨b, 0, none⟩) l.length cap), (1, .func (.func g) #[] cb), (5, .int .i64 ((keep q (l.take g1.j)).length : Nat)), (6, .int .i64 (g1.j : Nat))]) (fun g1 => l.length - g1.j) ⟨i + 1, l⟩ hst (.refl _) (.cons rfl (.cons rfl (.cons (by show some (Value.int .i64 _) = _; rw [hln]) (.cons rfl .nil)))) ?_)))
    rintro ⟨j, cur⟩ hg1
    dsimp only
    have hj : j ≤ l.length := hg1.1
    have hcl2 : cur.length = l.length := hg1.2.1
    have hkj : (keep q (l.take j)).length < j := hg1.2.2.2.2
    refine .seq (.seq (.region (?_)))
    refine .step (.mv rfl) (by decide) ?_
    refine .step (.mv rfl) (by decide) ?_
    refine .step (.len L_sl_api_ID rfl) (by decide) ?_
    refine .step (.lss rfl rfl) (by decide) ?_
    refine .nil (.then_n (.cond rfl (fun hc => ?_) (fun hc => ?_)))
    · have hlt : j < l.length := by simp at hc; omega
      obtain ⟨x, hx⟩ : ∃ x, l[j]? = some x := ⟨_, List.getElem?_eq_getElem hlt⟩
      have hx' : cur[j]? = some x := by rw [del_get hg1, hx]
      refine .skip (.then_n (.seq (.block (.seq (.region (?_))))))
      refine .step (.mv rfl) (by decide) ?_
      refine .step (.mv rfl) (by decide) ?_
      refine .step (.ix rfl rfl L_sl_api_ID Z_api_ID (by omega) (by omega)) (by decide) ?_
      refine .step (.lds rfl (.i 0 rfl) A_api_ID Z_api_ID (sel_at Idn.size rfl hx')) (by decide) ?_
      refine .alloc N_api_ID rfl (by decide) fun b7 hb7 => ?_
      refine .storeA 0 rfl rfl rfl rfl Z_api_ID (Idn.size _) (Idn.one _) (Idn.size _) ?_
      refine .nil (.then_n (.seq (.region (?_))))
      refine .step (.mv rfl) (by decide) ?_
      refine .step (.ldA rfl (.i 0 rfl) A_api_ID Z_api_ID (Idn.size _)) (by decide) ?_
      refine .callQ (first := #[]) (capt := cb) (v := .bool (q x)) rfl hg rfl (args1 _ _) (fun w' _ hf => hcl w' hf x) (by decide) ?_
      refine .step (.not rfl) (by decide) ?_
      refine .nil (.then_n (.cond rfl (fun hc => ?_) (fun hc => ?_)))
      · obtain ⟨hnx, hnl⟩ := del_keep hg1 hx (by simpa using hc)
        refine .seq (.region (?_))
        refine .step (.mv rfl) (by decide) ?_
        refine .step (.mv rfl) (by decide) ?_
        refine .step (.ldA rfl (.i 0 rfl) A_api_ID Z_api_ID (Idn.size _)) (by decide) ?_
        refine .step (.ix rfl rfl L_sl_api_ID Z_api_ID (by omega) (by omega)) (by decide) ?_
        refine .store (c' := catA ((cur.set (keep q (l.take j)).length x).map Idn.enc) ++ rs) 1 rfl rfl rfl rfl Z_api_ID (Idn.size _) (Idn.one _) (fit_at Idn.size rfl (by omega)) (put_at Idn.size rfl (by omega)) ?_
        refine .nil (.then_n (.region (?_)))
        refine .step (.mv rfl) (by decide) ?_
        refine .step (.add' (c := (((keep q (l.take j)).length + 1 : Nat) : Int)) rfl rfl (by rw [w64] <;> omega)) (by decide) ?_
        refine .step (.as rfl) (by decide) ?_
        refine .nil (.blk_n (.then_n (.region (?_))))
        refine .step (.mv rfl) (by decide) ?_
        refine .step (.add' (c := ((j + 1 : Nat) : Int)) rfl rfl (by rw [w64] <;> omega)) (by decide) ?_
        refine .step (.as rfl) (by decide) ?_
        refine .nil (.then_n (?_))
        refine .again ⟨j + 1, _⟩ hnx (by show l.length - (j + 1) < l.length - j; omega) (.cons _ (.refl _)) (.cons rfl (.cons rfl (.cons (by show some (Value.int .i64 _) = _; rw [hnl]) (.cons rfl .nil))))
      · obtain ⟨hnx, hnl⟩ := del_drop hg1 hx (by simpa using hc)
        refine .skip (.blk_n (.then_n (.region (?_))))
        refine .step (.mv rfl) (by decide) ?_
        refine .step (.add' (c := ((j + 1 : Nat) : Int)) rfl rfl (by rw [w64] <;> omega)) (by decide) ?_
        refine .step (.as rfl) (by decide) ?_
        refine .nil (.then_n (?_))
        refine .again ⟨j + 1, _⟩ hnx (by show l.length - (j + 1) < l.length - j; omega) (.cons _ (.refl _)) (.cons rfl (.cons rfl (.cons (by show some (Value.int .i64 _) = _; rw [hnl]) (.cons rfl .nil))))
    · have hjl : j = l.length := by simp at hc; omega
      subst hjl
      have hkk : keep q (l.take l.length) = keep q l := by rw [List.take_length]
      have hpre := hg1.2.2.2.1
      have hkl : (keep q l).length < l.length := by rw [hkk] at hkj; exact hkj
      rw [hkk] at hpre hkj ⊢
      simp only at hpre
      have hne : ¬ cap = (((keep q l).length : Nat) : Int).toNat := by omega
      have hps := pre_at (rs := rs) Idn.size (show (keep q l).length ≤ cur.length by omega)
      rw [hpre] at hps
      have hsz : (catA (cur.map Idn.enc) ++ rs).size = cap * 16 := by rw [Array.size_append, catA_list_size Idn.size, ho.rs, hcl2]; omega
      have hz16 : (Value.agg Idn.zero.enc).cells.size = 16 := Idn.size _
      generalize hcells : catA (cur.map Idn.enc) ++ rs = cells at *
      refine .exit (.then_x (.then_x (.blk_x (.then_n (.seq (.region (?_)))))))
      refine .step (.mv rfl) (by decide) ?_
      refine .step (.mv rfl) (by decide) ?_
      refine .step (.slL L_sl_api_ID Z_api_ID rfl rfl (by omega) (by omega)) (by decide) ?_
      refine .clear 0 rfl rfl L_sl_api_ID N_api_ID (Idn.one _) (by rw [if_neg hne, hz16, hsz]; omega) (by decide) ?_
      have hcl3 : putAt cells (if cap = (((keep q l).length : Nat) : Int).toNat then 0 else 0 + (((keep q l).length : Nat) : Int).toNat * 16) (zerosOf (Value.agg Idn.zero.enc).cells (l.length - (((keep q l).length : Nat) : Int).toNat)) =
          catA ((keep q l).map Idn.enc) ++ (zerosOf (Value.agg Idn.zero.enc).cells (l.length - (((keep q l).length : Nat) : Int).toNat) ++ cells.extract ((keep q l).length * 16 + (zerosOf (Value.agg Idn.zero.enc).cells (l.length - (((keep q l).length : Nat) : Int).toNat)).size) cells.size) := by
        rw [if_neg hne, Nat.zero_add, Int.toNat_natCast, putAt, hps, Array.append_assoc]
      rw [hcl3]
      refine .nil (.then_n (.seq (.region (?_))))
      refine .step (.mv rfl) (by decide) ?_
      refine .step (.mv rfl) (by decide) ?_
      refine .step (.slH L_sl_api_ID (by kernel_rfl) rfl rfl (by omega) (by omega)) (by decide) ?_
      refine .step (.as rfl) (by decide) ?_
      refine .nil (.then_n (.ret (.ret1 [_] (.refl _) rfl rfl ⟨rfl, _, rfl, ⟨by simp only [Array.size_append, zeros_size, hz16, Array.size_extract, hsz, Int.toNat_natCast, Nat.min_self]; omega, by omega, by simp⟩⟩)))

/-- one of each run -/
def adj (p : Idn) : List Idn → List Idn
  | [] => []
  | x :: r => if x = p then adj p r else x :: adj x r
def cmpct : List Idn → List Idn
  | [] => []
  | x :: r => x :: adj x r

def CmI (l : List Idn) (i : Nat) : Prop := 1 ≤ i ∧ i ≤ l.length ∧ ∃ p, l[i - 1]? = some p ∧ cmpct l = l.take i ++ adj p (l.drop i)
theorem cm_start {l : List Idn} (h : 2 ≤ l.length) : CmI l 1 := by
  cases l with
  | nil => simp at h
  | cons x r => exact ⟨Nat.le_refl _, by simp, x, rfl, by simp [cmpct]⟩
theorem cm_next {l : List Idn} {i : Nat} {x : Idn} (h : CmI l i) (hx : l[i]? = some x) (hne : ∀ p, l[i - 1]? = some p → x ≠ p) : CmI l (i + 1) := by
  obtain ⟨h1, h2, p, hp, h3⟩ := h
  obtain ⟨hi, hxi⟩ := List.getElem?_eq_some_iff.1 hx
  refine ⟨by omega, hi, x, by simpa using hx, ?_⟩
  rw [h3, List.drop_eq_getElem_cons hi, hxi, adj, if_neg (hne p hp), List.take_add_one, hx]
  simp
theorem cm_end {l : List Idn} (h : CmI l l.length) : cmpct l = l := by
  obtain ⟨h1, h2, p, hp, h3⟩ := h
  simpa [adj] using h3

structure CmG where
  k : Nat
  r : Nat
  cur : List Idn
def CmJ (l : List Idn) (i : Nat) (g : CmG) : Prop :=
  1 ≤ g.k ∧ i + g.k ≤ l.length ∧ i ≤ g.r ∧ g.r + 1 ≤ i + g.k ∧ g.cur.length = l.length ∧ g.cur.drop (i + g.k - 1) = l.drop (i + g.k - 1) ∧ ∃ p, l[i + g.k - 1]? = some p ∧ cmpct l = g.cur.take g.r ++ adj p (l.drop (i + g.k))
theorem cj_start {l : List Idn} {i : Nat} {x : Idn} (h : CmI l i) (hx : l[i]? = some x) (he : l[i - 1]? = some x) : CmJ l i ⟨1, i, l⟩ := by
  obtain ⟨h1, h2, p, hp, h3⟩ := h
  obtain ⟨hi, hxi⟩ := List.getElem?_eq_some_iff.1 hx
  rw [he] at hp
  cases hp
  refine ⟨Nat.le_refl _, hi, Nat.le_refl _, Nat.le_refl _, rfl, rfl, x, by simpa using hx, ?_⟩
  simp only
  rw [h3, List.drop_eq_getElem_cons hi, hxi, adj, if_pos rfl]
theorem cj_get {l cur : List Idn} {i k r j : Nat} (h : CmJ l i ⟨k, r, cur⟩) (hj : i + k - 1 ≤ j) : cur[j]? = l[j]? := by
  have := congrArg (fun z : List Idn => z[j - (i + k - 1)]?) h.2.2.2.2.2.1
  simp only [List.getElem?_drop] at this
  rwa [show i + k - 1 + (j - (i + k - 1)) = j by omega] at this
theorem cj_drop {l cur : List Idn} {i k : Nat} (hk : 1 ≤ k) (h : cur.drop (i + k - 1) = l.drop (i + k - 1)) : cur.drop (i + (k + 1) - 1) = l.drop (i + (k + 1) - 1) := by
  have := congrArg (List.drop 1) h
  rw [List.drop_drop, List.drop_drop] at this
  rwa [show i + (k + 1) - 1 = i + k - 1 + 1 by omega]
theorem cj_keep {l cur : List Idn} {i k r : Nat} {x y : Idn} (h : CmJ l i ⟨k, r, cur⟩) (hx : l[i + k]? = some x) (hy : l[i + k - 1]? = some y) (hne : x ≠ y) : CmJ l i ⟨k + 1, r + 1, cur.set r x⟩ := by
  obtain ⟨h1, h2, h3, h4, h5, h6, p, hp, h7⟩ := h
  simp only at *
  obtain ⟨hi, hxi⟩ := List.getElem?_eq_some_iff.1 hx
  rw [hy] at hp
  cases hp
  refine ⟨by simp only; omega, by simp only; omega, by simp only; omega, by simp only; omega, by simp [h5], ?_, x, by simpa [Nat.add_assoc] using hx, ?_⟩
  · simp only
    rw [List.drop_set, if_pos (by omega)]
    exact cj_drop h1 h6
  · simp only
    rw [h7, List.drop_eq_getElem_cons hi, hxi, adj, if_neg hne, List.take_add_one, List.take_set_of_le (Nat.le_refl _), Nat.add_assoc]
    simp [show r < cur.length by omega]
theorem cj_skip {l cur : List Idn} {i k r : Nat} {x : Idn} (h : CmJ l i ⟨k, r, cur⟩) (hx : l[i + k]? = some x) (hy : l[i + k - 1]? = some x) : CmJ l i ⟨k + 1, r, cur⟩ := by
  obtain ⟨h1, h2, h3, h4, h5, h6, p, hp, h7⟩ := h
  simp only at *
  obtain ⟨hi, hxi⟩ := List.getElem?_eq_some_iff.1 hx
  rw [hy] at hp
  cases hp
  refine ⟨by simp only; omega, by simp only; omega, by simp only; omega, by simp only; omega, h5, cj_drop h1 h6, x, by simpa [Nat.add_assoc] using hx, ?_⟩
  simp only
  rw [h7, List.drop_eq_getElem_cons hi, hxi, adj, if_pos rfl, Nat.add_assoc]
theorem cj_end {l cur : List Idn} {i k r : Nat} (h : CmJ l i ⟨k, r, cur⟩) (he : i + k = l.length) : cur.take r = cmpct l ∧ (cmpct l).length = r := by
  obtain ⟨h1, h2, h3, h4, h5, h6, p, hp, h7⟩ := h
  simp only at *
  rw [he, List.drop_length, adj, List.append_nil] at h7
  refine ⟨h7.symm, ?_⟩
  rw [h7, List.length_take, Nat.min_eq_left (by omega)]

theorem slices_Compact_api_ID (key : Option Nat) (cap : Nat) (l : List Idn) (rs : Array Value) (hlen : l.length < 2 ^ 40) (ho : OwnS 16 key l.length cap rs) (w : World)
    (hm : ∀ b, key = some b → w.heap[b]? = some (.cells (catA (l.map Idn.enc) ++ rs) T_api_ID (0, 0))) :
    Calls PG f_slices_Compact_api_ID_api_ID #[slv key l.length cap] w (Ret w key.toList (RetIn Idn.enc 16 T_api_ID key cap (cmpct l))) := by
  refine enter (n := 61) (args := [slv key l.length cap]) [(key, .cells (catA (l.map Idn.enc) ++ rs) T_api_ID (0, 0))] B_slices_Compact_api_ID_api_ID rfl rfl (by simp) (.one hm) (List.pairwise_singleton _ _) own_one ?_
  refine .seq (.region (?_))
  refine .step (.as rfl) (by decide) ?_
  refine .nil (.then_n (.seq (.seq (.region (?_)))))
  refine .step (.mv rfl) (by decide) ?_
  refine .step (.len L_sl_api_ID rfl) (by decide) ?_
  refine .step (.lss rfl rfl) (by decide) ?_
  refine .nil (.then_n (.cond rfl (fun hc => ?_) (fun hc => ?_)))
  · refine .seq (.region (?_))
    refine .step (.mv rfl) (by decide) ?_
    refine .step (.as rfl) (by decide) ?_
    have hcm : cmpct l = l := by
      have : l.length < 2 := by simp at hc; omega
      cases l with
      | nil => rfl
      | cons x r => cases r with
        | nil => rfl
        | cons y r => simp at this; omega
    rw [hcm]
    refine .nil (.then_n (.ret (.then_r (.ret1 [_] (.refl _) rfl rfl ⟨rfl, rs, rfl, ho⟩))))
  · have h2 : 2 ≤ l.length := by simp at hc; omega
    obtain ⟨b, rfl⟩ : ∃ b, key = some b := by
      cases key with
      | none => exfalso; have h1 := ho.nil rfl; have h2 := ho.le; omega
      | some b => exact ⟨b, rfl⟩
    have hcap := ho.le
    refine .skip (.then_n (.seq (.seq (.region (?_)))))
    refine .step (.as rfl) (by decide) ?_
    refine .nil (.then_n (.block (.loop (G := Nat) (fun g1 => CmI l g1) (fun g1 => [(some b, .cells (catA (l.map Idn.enc) ++ rs) T_api_ID (0, 0))]) (fun g1 => [(0, .slice (some ⟨b, 0, none⟩) l.length cap), (3, .int .i64 (g1 : Nat))]) (fun g1 => l.length - g1) 1 (cm_start h2) (.refl _) (.cons rfl (.cons rfl .nil)) ?_)))
    intro i hg1
    have hi1 : 1 ≤ i := hg1.1
    have hil : i ≤ l.length := hg1.2.1
    refine .seq (.seq (.region (?_)))
    refine .step (.mv rfl) (by decide) ?_
    refine .step (.mv rfl) (by decide) ?_
    refine .step (.len L_sl_api_ID rfl) (by decide) ?_
    refine .step (.lss rfl rfl) (by decide) ?_
    refine .nil (.then_n (.cond rfl (fun hc => ?_) (fun hc => ?_)))
    · have hlt : i < l.length := by simp at hc; omega
      obtain ⟨x, hx⟩ : ∃ x, l[i]? = some x := ⟨_, List.getElem?_eq_getElem hlt⟩
      obtain ⟨y, hy⟩ : ∃ y, l[i - 1]? = some y := ⟨_, List.getElem?_eq_getElem (by omega)⟩
      refine .skip (.then_n (.seq (.block (.seq (.drawsI [0] rfl rfl ?_)))))
      refine .first [0, 1, 2, 3, 4, 5, 6, 7, 8, 9] 0 rfl (by kernel_rfl) (by kernel_rfl) ?_
      refine .s_step rfl rfl rfl (.mv rfl) (by decide) ?_
      refine .s_step rfl rfl rfl (.mv rfl) (by decide) ?_
      refine .s_step rfl rfl rfl (.ix rfl rfl L_sl_api_ID Z_api_ID (by omega) (by omega)) (by decide) ?_
      refine .s_step rfl rfl rfl (.lds rfl (.i 0 rfl) A_api_ID Z_api_ID (sel_at Idn.size rfl hx)) (by decide) ?_
      refine .s_step rfl rfl rfl (.mv rfl) (by decide) ?_
      refine .s_step rfl rfl rfl (.mv rfl) (by decide) ?_
      refine .s_step rfl rfl rfl (.sub' (c := ((i - 1 : Nat) : Int)) rfl rfl (by rw [w64] <;> omega)) (by decide) ?_
      refine .s_step rfl rfl rfl (.ix rfl rfl L_sl_api_ID Z_api_ID (by omega) (by omega)) (by decide) ?_
      refine .s_step rfl rfl rfl (.lds rfl (.i 0 rfl) A_api_ID Z_api_ID (sel_at Idn.size rfl hy)) (by decide) ?_
      refine .s_step rfl rfl rfl (.eqA (EQ_api_ID _ _) G_api_ID rfl rfl (by decide)) (by decide) ?_
      refine .s_nil ?_
      refine .done (.refl _) (by kernel_rfl) ?_
      refine .then_n (.cond rfl (fun hc => ?_) (fun hc => ?_))
      · have hxy : x = y := by simpa using hc
        subst hxy
        have hst := cj_start hg1 hx hy
        have hne : ¬ cap = ((i : Nat) : Int).toNat := by omega
        refine .seq (.region (?_))
        refine .step (.mv rfl) (by decide) ?_
        refine .step (.mv rfl) (by decide) ?_
        refine .step (.slL L_sl_api_ID Z_api_ID rfl rfl (by omega) (by omega)) (by decide) ?_
        refine .step (.as rfl) (by decide) ?_
        refine .nil (.then_n (.seq (.seq (.region (?_)))))
        refine .step (.as rfl) (by decide) ?_
        refine .nil (.then_n (.block (.loop (G := CmG) (fun g2 => CmJ l i g2) (fun g2 => [(some b, .cells (catA (g2.cur.map Idn.enc) ++ rs) T_api_ID (0, 0))]) (fun g2 => [(0, .slice (some ⟨b, 0, none⟩) l.length cap), (3, .int .i64 (g2.r : Nat)), (4, .slice (some ⟨b, i * 16, none⟩) (l.length - i) (cap - i)), (5, .int .i64 (g2.k : Nat))]) (fun g2 => l.length - g2.k) ⟨1, i, l⟩ hst (.refl _) (.cons rfl (.cons rfl (.cons (by show some (Value.slice _ _ _) = _; rw [if_neg hne]; simp) (.cons rfl .nil)))) ?_)))
        rintro ⟨k, r, cur⟩ hg2
        dsimp only
        obtain ⟨j1, j2, j3, j4, j5, _⟩ := id hg2
        simp only at j1 j2 j3 j4 j5
        refine .seq (.seq (.region (?_)))
        refine .step (.mv rfl) (by decide) ?_
        refine .step (.mv rfl) (by decide) ?_
        refine .step (.len L_sl_api_ID rfl) (by decide) ?_
        refine .step (.lss rfl rfl) (by decide) ?_
        refine .nil (.then_n (.cond rfl (fun hc => ?_) (fun hc => ?_)))
        · have hlk : i + k < l.length := by simp at hc; omega
          obtain ⟨u, hu⟩ : ∃ u, l[i + k]? = some u := ⟨_, List.getElem?_eq_getElem hlk⟩
          obtain ⟨v, hv⟩ : ∃ v, l[i + k - 1]? = some v := ⟨_, List.getElem?_eq_getElem (by omega)⟩
          have hu' : cur[i + k]? = some u := by rw [cj_get hg2 (by omega), hu]
          have hv' : cur[i + k - 1]? = some v := by rw [cj_get hg2 (by omega), hv]
          have su : Sel (catA (cur.map Idn.enc) ++ rs) (i * 16 + ((k : Nat) : Int).toNat * 16) 16 u.enc := by
            have := sel_list (rs := rs) Idn.size hu'
            rwa [show i * 16 + ((k : Nat) : Int).toNat * 16 = (i + k) * 16 by omega]
          have sv : Sel (catA (cur.map Idn.enc) ++ rs) (i * 16 + ((k - 1 : Nat) : Int).toNat * 16) 16 v.enc := by
            have := sel_list (rs := rs) Idn.size hv'
            rwa [show i * 16 + ((k - 1 : Nat) : Int).toNat * 16 = (i + k - 1) * 16 by omega]
          refine .skip (.then_n (.seq (.block (.seq (.drawsI [0] rfl rfl ?_)))))
          refine .first [0, 1, 2, 3, 4, 5, 6, 7, 8, 9] 0 rfl (by kernel_rfl) (by kernel_rfl) ?_
          refine .s_step rfl rfl rfl (.mv rfl) (by decide) ?_
          refine .s_step rfl rfl rfl (.mv rfl) (by decide) ?_
          refine .s_step rfl rfl rfl (.ix rfl rfl L_sl_api_ID Z_api_ID (by omega) (by omega)) (by decide) ?_
          refine .s_step rfl rfl rfl (.lds rfl (.i 0 rfl) A_api_ID Z_api_ID su) (by decide) ?_
          refine .s_step rfl rfl rfl (.mv rfl) (by decide) ?_
          refine .s_step rfl rfl rfl (.mv rfl) (by decide) ?_
          refine .s_step rfl rfl rfl (.sub' (c := ((k - 1 : Nat) : Int)) rfl rfl (by rw [w64] <;> omega)) (by decide) ?_
          refine .s_step rfl rfl rfl (.ix rfl rfl L_sl_api_ID Z_api_ID (by omega) (by omega)) (by decide) ?_
          refine .s_step rfl rfl rfl (.lds rfl (.i 0 rfl) A_api_ID Z_api_ID sv) (by decide) ?_
          refine .s_step rfl rfl rfl (.neA (EQ_api_ID _ _) G_api_ID rfl rfl (by decide)) (by decide) ?_
          refine .s_nil ?_
          refine .done (.refl _) (by kernel_rfl) ?_
          refine .then_n (.cond rfl (fun hc => ?_) (fun hc => ?_))
          · have huv : u ≠ v := by simpa using hc
            have hnx := cj_keep hg2 hu hv huv
            refine .seq (.region (?_))
            refine .step (.mv rfl) (by decide) ?_
            refine .step (.mv rfl) (by decide) ?_
            refine .step (.mv rfl) (by decide) ?_
            refine .step (.mv rfl) (by decide) ?_
            refine .step (.ix rfl rfl L_sl_api_ID Z_api_ID (by omega) (by omega)) (by decide) ?_
            refine .step (.lds rfl (.i 0 rfl) A_api_ID Z_api_ID su) (by decide) ?_
            refine .step (.ix rfl rfl L_sl_api_ID Z_api_ID (by omega) (by omega)) (by decide) ?_
            refine .store (c' := catA ((cur.set r u).map Idn.enc) ++ rs) 0 rfl rfl rfl rfl Z_api_ID (Idn.size _) (Idn.one _) (fit_at Idn.size rfl (by omega)) (put_at Idn.size rfl (by omega)) ?_
            refine .nil (.then_n (.region (?_)))
            refine .step (.mv rfl) (by decide) ?_
            refine .step (.add' (c := ((r + 1 : Nat) : Int)) rfl rfl (by rw [w64] <;> omega)) (by decide) ?_
            refine .step (.as rfl) (by decide) ?_
            refine .nil (.blk_n (.then_n (.region (?_))))
            refine .step (.mv rfl) (by decide) ?_
            refine .step (.add' (c := ((k + 1 : Nat) : Int)) rfl rfl (by rw [w64] <;> omega)) (by decide) ?_
            refine .step (.as rfl) (by decide) ?_
            refine .nil (.then_n (?_))
            refine .again ⟨k + 1, r + 1, _⟩ hnx (by show l.length - (k + 1) < l.length - k; omega) (.refl _) (.cons rfl (.cons rfl (.cons rfl (.cons rfl .nil))))
          · have huv : u = v := by simpa using hc
            subst huv
            have hnx := cj_skip hg2 hu hv
            refine .skip (.blk_n (.then_n (.region (?_))))
            refine .step (.mv rfl) (by decide) ?_
            refine .step (.add' (c := ((k + 1 : Nat) : Int)) rfl rfl (by rw [w64] <;> omega)) (by decide) ?_
            refine .step (.as rfl) (by decide) ?_
            refine .nil (.then_n (?_))
            refine .again ⟨k + 1, r, _⟩ hnx (by show l.length - (k + 1) < l.length - k; omega) (.refl _) (.cons rfl (.cons rfl (.cons rfl (.cons rfl .nil))))
        · have hkl : i + k = l.length := by simp at hc; omega
          obtain ⟨hpre, hlr⟩ := cj_end hg2 hkl
          have hne2 : ¬ cap = ((r : Nat) : Int).toNat := by omega
          have hps := pre_at (rs := rs) Idn.size (show r ≤ cur.length by omega)
          rw [hpre] at hps
          have hsz : (catA (cur.map Idn.enc) ++ rs).size = cap * 16 := by rw [Array.size_append, catA_list_size Idn.size, ho.rs, j5]; omega
          have hz16 : (Value.agg Idn.zero.enc).cells.size = 16 := Idn.size _
          generalize hcells : catA (cur.map Idn.enc) ++ rs = cells at *
          refine .exit (.then_x (.then_x (.blk_x (.then_n (.seq (.region (?_)))))))
          refine .step (.mv rfl) (by decide) ?_
          refine .step (.mv rfl) (by decide) ?_
          refine .step (.slL L_sl_api_ID Z_api_ID rfl rfl (by omega) (by omega)) (by decide) ?_
          refine .clear 0 rfl rfl L_sl_api_ID N_api_ID (Idn.one _) (by rw [if_neg hne2, hz16, hsz]; omega) (by decide) ?_
          have hcl3 : putAt cells (if cap = ((r : Nat) : Int).toNat then 0 else 0 + ((r : Nat) : Int).toNat * 16) (zerosOf (Value.agg Idn.zero.enc).cells (l.length - ((r : Nat) : Int).toNat)) =
              catA ((cmpct l).map Idn.enc) ++ (zerosOf (Value.agg Idn.zero.enc).cells (l.length - ((r : Nat) : Int).toNat) ++ cells.extract (r * 16 + (zerosOf (Value.agg Idn.zero.enc).cells (l.length - ((r : Nat) : Int).toNat)).size) cells.size) := by
            rw [if_neg hne2, Nat.zero_add, Int.toNat_natCast, putAt, hps, Array.append_assoc]
          rw [hcl3]
          refine .nil (.then_n (.seq (.region (?_))))
          refine .step (.mv rfl) (by decide) ?_
          refine .step (.mv rfl) (by decide) ?_
          refine .step (.slH L_sl_api_ID (by kernel_rfl) rfl rfl (by omega) (by omega)) (by decide) ?_
          refine .step (.as rfl) (by decide) ?_
          refine .nil (.then_n (.ret (.blk_r (.then_r (.then_r (.blk_r (.then_r (.ret1 [_] (.refl _) rfl rfl ⟨by rw [hlr]; rfl, _, rfl, ⟨by rw [hlr]; simp only [Array.size_append, zeros_size, hz16, Array.size_extract, hsz, Int.toNat_natCast, Nat.min_self]; omega, by omega, by simp⟩⟩))))))))
      · have hxy : x ≠ y := by simpa using hc
        have hnx := cm_next hg1 hx (fun p hp => by rw [hy] at hp; cases hp; exact hxy)
        refine .skip (.blk_n (.then_n (.region (?_))))
        refine .step (.mv rfl) (by decide) ?_
        refine .step (.add' (c := ((i + 1 : Nat) : Int)) rfl rfl (by rw [w64] <;> omega)) (by decide) ?_
        refine .step (.as rfl) (by decide) ?_
        refine .nil (.then_n (?_))
        refine .again (i + 1) hnx (by omega) (.refl _) (.cons rfl (.cons rfl .nil))
    · have hil2 : i = l.length := by simp at hc; omega
      subst hil2
      rw [cm_end hg1]
      refine .exit (.then_x (.then_x (.blk_x (.then_n (.seq (.region (?_)))))))
      refine .step (.mv rfl) (by decide) ?_
      refine .step (.as rfl) (by decide) ?_
      refine .nil (.then_n (.ret (.ret1 [_] (.refl _) rfl rfl ⟨rfl, rs, rfl, ho⟩)))

end Go.Fx
