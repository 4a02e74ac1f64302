/- Functions of the program told as plain functions that may fail (a run that fails says nothing): the rules by which a walk follows such a function, and the rule by which a loop of it comes to an end. -/
import Derived.Test.YtpkdekhmjjcljaaGreatFxM
import Derived.Test.YtpkdekhmjjcljaaGreatFxK
import Derived.Test.YtpkdekhmjjcljaaGreatFxSort
namespace Go.Fx

/-! ### plain functions -/
theorem cond_t {α : Type} {b : Bool} {x y : Option α} {r : α} (hb : b = true) (h : cond b x y = some r) : x = some r := by subst hb; exact h
theorem cond_f {α : Type} {b : Bool} {x y : Option α} {r : α} (hb : b = false) (h : cond b x y = some r) : y = some r := by subst hb; exact h
theorem bind_s {α β : Type} {x : Option α} {f : α → Option β} {r : β} (h : x.bind f = some r) : ∃ a, x = some a ∧ f a = some r := by
  cases x with
  | none => cases h
  | some a => exact ⟨a, rfl, h⟩

/-- so often a loop goes round at most -/
@[irreducible] def FUEL : Nat := 2 ^ 62
theorem FUEL_eq : FUEL = 2 ^ 62 := by unfold FUEL; rfl

def iter {S R : Type} (body : (S → Option R) → S → Option R) : Nat → S → Option R
  | 0, _ => none
  | n + 1, s => body (iter body n) s
section
variable {S R : Type} {body : (S → Option R) → S → Option R} {n : Nat} {s : S} {r : R}
theorem iter_0 (h : iter body 0 s = some r) : False := by cases h
theorem iter_s (h : iter body (n + 1) s = some r) : body (iter body n) s = some r := h
/-- A loop comes to an end. -/
theorem iter_run {Q : R → Prop} (Inv : S → Prop) (μ : S → Nat) (step : ∀ (again : S → Option R) s, Inv s → (∀ s', Inv s' → μ s' < μ s → ∃ r, again s' = some r ∧ Q r) → ∃ r, body again s = some r ∧ Q r) :
    ∀ {n : Nat} {s : S}, Inv s → μ s < n → ∃ r, iter body n s = some r ∧ Q r
  | 0, s, _, h => absurd h (Nat.not_lt_zero _)
  | n + 1, s, hs, h => step (iter body n) s hs fun s' hs' hμ => iter_run Inv μ step hs' (by omega)
theorem iter_eq {v : R} (Inv : S → Prop) (μ : S → Nat) (step : ∀ (again : S → Option R) s, Inv s → (∀ s', Inv s' → μ s' < μ s → again s' = some v) → body again s = some v) {n : Nat} {s : S} (hs : Inv s) (h : μ s < n) : iter body n s = some v := by
  obtain ⟨r, h1, h2⟩ := iter_run (Q := fun r => r = v) Inv μ (fun again s hs ih => ⟨v, step again s hs fun s' h1 h2 => by obtain ⟨r, h3, h4⟩ := ih s' h1 h2; rw [h3, h4], rfl⟩) hs h
  rw [h1, h2]
end

/-- a place in a list -/
def ixL {α : Type} (l : List α) (z : Int) : Option α := if 0 ≤ z then l[z.toNat]? else none
def takL {α : Type} (l : List α) (z : Int) : Option (List α) := if 0 ≤ z ∧ z ≤ l.length then some (l.take z.toNat) else none
def drpL {α : Type} (l : List α) (z : Int) : Option (List α) := if 0 ≤ z ∧ z ≤ l.length then some (l.drop z.toNat) else none
/-- one list behind another -/
def appG {α : Type} (a b : List α) : Option (List α) := if a.length + b.length < 68719476736 then some (a ++ b) else none
section
variable {α : Type} {l l2 l3 : List α} {z : Int} {x : α}
theorem ixL_nn (h : ixL l z = some x) : 0 ≤ z := by unfold ixL at h; split at h; assumption; cases h
theorem ixL_get (h : ixL l z = some x) : l[z.toNat]? = some x := by unfold ixL at h; split at h; exact h; cases h
theorem ixL_ltN (h : ixL l z = some x) : z.toNat < l.length := by
  rcases Nat.lt_or_ge z.toNat l.length with h' | h'
  · exact h'
  · have := (ixL_get h); rw [List.getElem?_eq_none h'] at this; cases this
theorem ixL_lt (h : ixL l z = some x) : z < l.length := by have := (ixL_ltN h); have := (ixL_nn h); omega
theorem ixL_nat {i : Nat} (h : l[i]? = some x) : ixL l i = some x := by unfold ixL; rw [if_pos (by omega)]; exact h
theorem takL_nn (h : takL l z = some l2) : 0 ≤ z := by unfold takL at h; split at h; omega; cases h
theorem takL_le (h : takL l z = some l2) : z ≤ l.length := by unfold takL at h; split at h; omega; cases h
theorem takL_eq (h : takL l z = some l2) : l2 = l.take z.toNat := by unfold takL at h; split at h; exact (Option.some.inj h).symm; cases h
theorem takL_len (h : takL l z = some l2) : l2.length = z.toNat := by have := (takL_le h); have := (takL_nn h); rw [(takL_eq h), List.length_take]; omega
theorem takL_nat {i : Nat} (h : i ≤ l.length) : takL l i = some (l.take i) := by unfold takL; rw [if_pos (by omega)]; rfl
theorem drpL_nn (h : drpL l z = some l2) : 0 ≤ z := by unfold drpL at h; split at h; omega; cases h
theorem drpL_le (h : drpL l z = some l2) : z ≤ l.length := by unfold drpL at h; split at h; omega; cases h
theorem drpL_eq (h : drpL l z = some l2) : l2 = l.drop z.toNat := by unfold drpL at h; split at h; exact (Option.some.inj h).symm; cases h
theorem drpL_len (h : drpL l z = some l2) : l2.length = l.length - z.toNat := by rw [(drpL_eq h), List.length_drop]
theorem drpL_nat {i : Nat} (h : i ≤ l.length) : drpL l i = some (l.drop i) := by unfold drpL; rw [if_pos (by omega)]; rfl
theorem takL_cap {cap : Nat} (h : takL l z = some l2) (hc : l.length ≤ cap) : l2.length ≤ cap := by have := takL_len h; have := takL_le h; omega
theorem tkmL_cap {y : Int} (h : takL l z = some l2) (hy : z ≤ y) : l2.length ≤ y.toNat := by have := takL_len h; have := takL_nn h; omega
theorem drpL_cap {cap : Nat} (h : drpL l z = some l2) (hc : l.length ≤ cap) : l2.length ≤ cap - z.toNat := by have := drpL_len h; have := drpL_le h; omega
theorem appG_eq (h : appG l l2 = some l3) : l3 = l ++ l2 := by unfold appG at h; split at h; exact (Option.some.inj h).symm; cases h
theorem appG_lt (h : appG l l2 = some l3) : l.length + l2.length < 68719476736 := by unfold appG at h; split at h; assumption; cases h
theorem appG_of (h : l.length + l2.length < 68719476736) : appG l l2 = some (l ++ l2) := by unfold appG; rw [if_pos h]
end

/-! ### lists in memory -/
/-- a list that comes in -/
structure Ro {α : Type} (enc : α → Array Value) (s : Nat) (w : World) (p : Option Addr) (l : List α) (cap : Nat) : Prop where
  rd : Rd enc s w p l
  le : l.length ≤ cap

/-- a list of which is known where it lies -/
structure RoK (w0 : World) (mods : List Nat) (m : HF) {α : Type} (enc : α → Array Value) (s : Nat) (p : Option Addr) (l : List α) (cap : Nat) : Prop where
  rd : (l = [] ∧ (p = none ∨ ∃ b o, p = some ⟨b, o, none⟩)) ∨ ∃ b o c T fr, p = some ⟨b, o, none⟩ ∧ Kn w0 mods m b (.cells c T fr) ∧ ∀ i x, l[i]? = some x → Sel c (o + i * s) s (enc x)
  le : l.length ≤ cap

def dropP (p : Option Addr) (cap k s : Nat) : Option Addr := if cap = k then p else p.map fun a => a.add (k * s)
def elP (p : Option Addr) (k : Nat) : Option Addr := p.map fun a => a.add k

section
variable {w0 w : World} {mods : List Nat} {m : HF} {α : Type} {enc : α → Array Value} {s : Nat} {p : Option Addr} {l l2 : List α} {cap : Nat} {z : Int}
theorem Ro.fr {w' : World} (h : Ro enc s w p l cap) (hf : Fr [] w w') : Ro enc s w' p l cap := ⟨h.rd.fr hf, h.le⟩
theorem Ro.nil : Ro enc s w none ([] : List α) 0 := ⟨.nil, Nat.le_refl _⟩
theorem RoK.par (h : Ro enc s w0 p l cap) : RoK w0 [] m enc s p l cap := ⟨by
  rcases h.rd with h | ⟨b, o, c, T, f, h1, h2, h3⟩
  · exact .inl h
  · exact .inr ⟨b, o, c, T, f, h1, .o h2 (by simp), h3⟩, h.le⟩
theorem RoK.parM (h : Ro enc s w0 p l cap) (hb : ∀ b o, p = some ⟨b, o, none⟩ → b ∉ mods) : RoK w0 mods m enc s p l cap := ⟨by
  rcases h.rd with h | ⟨b, o, c, T, f, h1, h2, h3⟩
  · exact .inl h
  · exact .inr ⟨b, o, c, T, f, h1, .o h2 (hb _ _ h1), h3⟩, h.le⟩
theorem RoK.own {key : Option Nat} {T : TypeId} {rs : Array Value} (i : Nat) (hs : ∀ x, (enc x).size = s) (hk : m[i]? = some (key, .cells (catA (l.map enc) ++ rs) T (0, 0))) (ho : OwnS s key l.length cap rs) :
    RoK w0 mods m enc s (key.map fun b => ⟨b, 0, none⟩) l cap := ⟨by
  cases key with
  | none =>
    have h1 := ho.nil rfl
    have h2 := ho.le
    exact .inl ⟨List.length_eq_zero_iff.1 (by omega), .inl rfl⟩
  | some b => exact .inr ⟨b, 0, _, T, _, rfl, .i i hk, fun i x hx => by rw [Nat.zero_add]; exact sel_list hs hx⟩, ho.le⟩
theorem RoK.nil : RoK w0 mods m enc s none ([] : List α) 0 := ⟨.inl ⟨rfl, .inl rfl⟩, Nat.le_refl _⟩
theorem RoK.at (h : RoK w0 mods m enc s p l cap) (hm : Mem m w) (hf : Fr mods w0 w) : Ro enc s w p l cap := ⟨by
  rcases h.rd with h | ⟨b, o, c, T, f, h1, h2, h3⟩
  · exact .inl h
  · exact .inr ⟨b, o, c, T, f, h1, h2 w hm hf, h3⟩, h.le⟩
theorem RoK.tak (h : RoK w0 mods m enc s p l cap) (ht : takL l z = some l2) : RoK w0 mods m enc s p l2 cap := by
  have e := (takL_eq ht)
  subst e
  refine ⟨?_, Nat.le_trans (by rw [List.length_take]; exact Nat.min_le_right _ _) h.le⟩
  rcases h.rd with ⟨e, hq⟩ | ⟨b, o, c, T, f, h1, h2, h3⟩
  · exact .inl ⟨by rw [e]; simp, hq⟩
  · refine .inr ⟨b, o, c, T, f, h1, h2, fun i x hx => h3 i x ?_⟩
    rw [List.getElem?_take] at hx
    split at hx
    · exact hx
    · cases hx
theorem RoK.tkm (h : RoK w0 mods m enc s p l cap) (ht : takL l z = some l2) {y : Int} (hy : z ≤ y) : RoK w0 mods m enc s p l2 y.toNat :=
  ⟨(h.tak ht).rd, by have := (takL_len ht); have := (takL_nn ht); omega⟩
theorem RoK.drp (h : RoK w0 mods m enc s p l cap) (ht : drpL l z = some l2) : RoK w0 mods m enc s (dropP p cap z.toNat s) l2 (cap - z.toNat) := by
  have hle := h.le
  have hz := (drpL_nn ht)
  have hz2 := (drpL_le ht)
  have e := (drpL_eq ht)
  subst e
  refine ⟨?_, by rw [List.length_drop]; omega⟩
  unfold dropP
  by_cases hc : cap = z.toNat
  · rw [if_pos hc]
    have hd : l.drop z.toNat = [] := by rw [List.drop_eq_nil_iff]; omega
    rcases h.rd with ⟨_, hq⟩ | ⟨b, o, c, T, f, h1, h2, h3⟩
    · exact .inl ⟨hd, hq⟩
    · exact .inl ⟨hd, .inr ⟨b, o, h1⟩⟩
  · rw [if_neg hc]
    rcases h.rd with ⟨e, hq⟩ | ⟨b, o, c, T, f, h1, h2, h3⟩
    · refine .inl ⟨by rw [e]; simp, ?_⟩
      rcases hq with rfl | ⟨b, o, rfl⟩
      · exact .inl rfl
      · exact .inr ⟨b, _, by rw [Option.map_some, add_plain]⟩
    · subst h1
      refine .inr ⟨b, _, c, T, f, by rw [Option.map_some, add_plain], h2, fun i x hx => ?_⟩
      rw [List.getElem?_drop] at hx
      have := h3 _ _ hx
      rw [show o + (z.toNat + i) * s = o + z.toNat * s + i * s by rw [Nat.add_mul]; omega] at this
      exact this
theorem RoK.src (hs : ∀ x, (enc x).size = s) (h : RoK w0 mods m enc s p l cap) : Src w0 mods m s (.slice p l.length cap) l.length (catA (l.map enc)) := by
  rcases h.rd with ⟨rfl, rfl | ⟨b, o, rfl⟩⟩ | ⟨b, o, c, T, f, rfl, h2, h3⟩
  · exact .nil
  · exact .em
  · by_cases hl : l = []
    · subst hl; exact .em
    · exact .at_ h2 (sel_all hs l (Rd.fit h3 hl) h3)
theorem RoK.one (h : RoK w0 mods m enc s p l cap) {x : α} (hx : ixL l z = some x) : ∃ b o c T fr, p = some ⟨b, o, none⟩ ∧ Kn w0 mods m b (.cells c T fr) ∧ Sel c (o + z.toNat * s) s (enc x) := by
  rcases h.rd with ⟨rfl, _⟩ | ⟨b, o, c, T, f, h1, h2, h3⟩
  · have := (ixL_ltN hx); simp at this
  · exact ⟨b, o, c, T, f, h1, h2, h3 _ _ (ixL_get hx)⟩
end

/-! ### operations -/
section
variable {P : Program} {w0 : World} {mods : List Nat} {n : Nat} {m : HF} {e : Env} {t : TypeId} {pp : String} {af : Array Edge} {d : Option Nat} {g : Option (Nat × Bool)} {x y y2 : Operand} {T U el : TypeId}
  {α : Type} {enc : α → Array Value} {s : Nat} {p : Option Addr} {l l2 : List α} {cap : Nat} {z : Int} {a : α} {k : IntKind}
theorem Val.ixP (R : RoK w0 mods m enc s p l cap) (h : ixL l z = some a) (hx : evalE e x = some (.slice p l.length cap)) (hy : evalE e y = some (.int k z)) (hT : elemB P T = some el) (hs : sizeB P el = some s) :
    Val P w0 mods m e ⟨d, .indexAddr T x y, t, pp, af, g⟩ (.pointer (elP p (z.toNat * s))) := by
  obtain ⟨b, o, c, T', f, rfl, _, _⟩ := R.one h
  have := Val.ix (P := P) (w0 := w0) (mods := mods) (m := m) (d := d) (g := g) (t := t) (p := pp) (af := af) hx hy hT hs (ixL_nn h) (ixL_lt h)
  rw [show (Value.pointer (elP (some ⟨b, o, none⟩) (z.toNat * s))) = .pointer (some ⟨b, o + z.toNat * s, none⟩) by unfold elP; rw [Option.map_some, add_plain]]
  exact this
theorem elP_some {b o k : Nat} : elP (some ⟨b, o, none⟩) k = some ⟨b, o + k, none⟩ := by unfold elP; rw [Option.map_some, add_plain]
theorem Val.faP {off s' i : Nat} (R : RoK w0 mods m enc s p l cap) (h : ixL l z = some a) {j : Nat} (hx : evalE e x = some (.pointer (elP p j))) (hf : fieldB P T i = some (off, U)) (hs : sizeB P U = some (s' + 1)) :
    Val P w0 mods m e ⟨d, .fieldAddr T x i, t, pp, af, g⟩ (.pointer (elP p (j + off))) := by
  obtain ⟨b, o, c, T', f, rfl, _, _⟩ := R.one h
  rw [elP_some] at hx ⊢
  rw [← Nat.add_assoc]
  exact Val.fa hx hf hs
theorem Val.ldP (R : RoK w0 mods m enc s p l cap) (h : ixL l z = some a) (hx : evalE e x = some (.pointer (elP p (z.toNat * s)))) (ha : isAggB P T = some true) (hs : sizeB P T = some s) :
    Val P w0 mods m e ⟨d, .load T x, t, pp, af, g⟩ (.agg (enc a)) := by
  obtain ⟨b, o, c, T', f, rfl, h1, h2⟩ := R.one h
  rw [elP_some] at hx
  exact Val.lds hx h1 ha hs h2
theorem Val.ldPf {off s' : Nat} {q : Array Value} (R : RoK w0 mods m enc s p l cap) (h : ixL l z = some a) (hx : evalE e x = some (.pointer (elP p (z.toNat * s + off)))) (ha : isAggB P T = some true) (hs : sizeB P T = some s') (hq : Sel (enc a) off s' q) :
    Val P w0 mods m e ⟨d, .load T x, t, pp, af, g⟩ (.agg q) := by
  obtain ⟨b, o, c, T', f, rfl, h1, h2⟩ := R.one h
  rw [elP_some] at hx
  exact Val.lds hx h1 ha hs (by rw [← Nat.add_assoc]; exact h2.trans hq)
theorem Val.ldP1 {off : Nat} {v : Value} (R : RoK w0 mods m enc s p l cap) (h : ixL l z = some a) (hx : evalE e x = some (.pointer (elP p (z.toNat * s + off)))) (ha : isAggB P T = some false) (hv : (enc a)[off]? = some v) :
    Val P w0 mods m e ⟨d, .load T x, t, pp, af, g⟩ v := by
  obtain ⟨b, o, c, T', f, rfl, h1, h2⟩ := R.one h
  rw [elP_some] at hx
  exact Val.ld1 hx h1 ha (by rw [← Nat.add_assoc]; exact h2.get hv)
theorem Val.ldP0 {v : Value} (R : RoK w0 mods m enc s p l cap) (h : ixL l z = some a) (hx : evalE e x = some (.pointer (elP p (z.toNat * s)))) (ha : isAggB P T = some false) (hv : (enc a)[0]? = some v) :
    Val P w0 mods m e ⟨d, .load T x, t, pp, af, g⟩ v := Val.ldP1 (off := 0) R h hx ha hv
theorem Val.slT (hc : l.length ≤ cap) (h : takL l z = some l2) (hT : elemB P T = some el) (hs : (P.info? el).isSome = true) (hx : evalE e x = some (.slice p l.length cap)) (hy : evalE e y = some (.int k z)) :
    Val P w0 mods m e ⟨d, .slice T x none (some y) none, t, pp, af, g⟩ (.slice p l2.length cap) := by
  rw [(takL_len h)]
  exact Val.slH hT hs hx hy (takL_nn h) (by have := (takL_le h); omega)
theorem Val.slTM {k' : IntKind} {z2 : Int} (hc : l.length ≤ cap) (h : takL l z = some l2) (hz : z ≤ z2) (hz2 : z2 ≤ l.length) (hT : elemB P T = some el) (hs : (P.info? el).isSome = true) (hx : evalE e x = some (.slice p l.length cap)) (hy : evalE e y = some (.int k z)) (hy2 : evalE e y2 = some (.int k' z2)) :
    Val P w0 mods m e ⟨d, .slice T x none (some y) (some y2), t, pp, af, g⟩ (.slice p l2.length z2.toNat) := by
  rw [(takL_len h)]
  exact Val.slHM hT hs hx hy hy2 (takL_nn h) hz (by omega)
theorem Val.slD (R : RoK w0 mods m enc s p l cap) (h : drpL l z = some l2) (hT : elemB P T = some el) (hs : sizeB P el = some s) (hx : evalE e x = some (.slice p l.length cap)) (hy : evalE e y = some (.int k z)) :
    Val P w0 mods m e ⟨d, .slice T x (some y) none none, t, pp, af, g⟩ (.slice (dropP p cap z.toNat s) l2.length (cap - z.toNat)) := fun ρ w hρ _ _ => by
  have h0 := (drpL_nn h)
  have h1 := (drpL_le h)
  rw [(drpL_len h)]
  simp only [execOp, Instr.sliceAt, Instr.slice, Instr.sliceBounds, Instr.sliceBound, asIntOf, hρ _ _ hx, hρ _ _ hy, run_underlying' w (elemB_spec hT), run_sizeB w hs, h0, h1, Sem.run_bind, Sem.run_pure, Result.andThen, Option.map_some, Option.map_none,
    and_self, if_true, Bool.false_eq_true, if_false, Option.isSome_none]
  by_cases hc : cap = z.toNat
  · subst hc
    simp [dropP]
  · simp [dropP, hc]
end

section
variable {P : Program} {w0 : World} {mods : List Nat} {n : Nat} {m : HF} {e : Env} {Q : Exit → Act → World → Prop} {ops : Array Oper} {rest : List Oper} {d : Nat} {t : TypeId} {p : String} {af : Array Edge}
/-- A list of one's own grows by another list. -/
theorem St.appX {α : Type} {enc : α → Array Value} {x y : Operand} {sT el : TypeId} {key : Option Nat} {cap s by_ cap2 : Nat} {rs : Array Value} {zv : Value} {l l2 l3 : List α} {p2 : Option Addr} (i : Nat) (hsz : ∀ a, (enc a).size = s) (ho : OwnS s key l.length cap rs) (R : RoK w0 mods m enc s p2 l2 cap2) (h : appG l l2 = some l3)
    (hk : m[i]? = some (key, .cells (catA (l.map enc) ++ rs) el (0, 0))) (hx : evalE e x = some (slv key l.length cap)) (hy : evalE e y = some (.slice p2 l2.length cap2))
    (hT : elemB P sT = some el) (hs : sizeB P el = some s) (hby : bytesB P el = some by_) (hz : zeroB P el = some zv) (hzs : zv.cells.size = s) (hpos : 0 < by_) (hb2 : by_ ≤ 2048)
    (hone : ∀ a ∈ l2, Ones (enc a)) (hd : d < n)
    (K : ∀ (key' : Option Nat) (cap' : Nat) (rs' : Array Value), OwnS s key' l3.length cap' rs' → St w0 mods n (m.set i (key', .cells (catA (l3.map enc) ++ rs') el (0, 0))) ((d, slv key' l3.length cap') :: e) (wpList P ops Q rest)) :
    St w0 mods n m e (wpList P ops Q (⟨some d, .call ⟨.builtin .append, [x, y].toArray, [sT, sT].toArray⟩, t, p, af, none⟩ :: rest)) := by
  have h1 := (appG_lt h)
  have h2 := (appG_eq h)
  subst h2
  refine St.appL i hk hx hy (R.src hsz) hT hs hby hz hzs hpos hsz ho hone ?_ hd K
  calc (l.length + l2.length) * by_ ≤ 68719476736 * 2048 := Nat.mul_le_mul (by omega) hb2
    _ = 140737488355328 := rfl
end

section
variable {P : Program} {w0 : World} {mods : List Nat} {m : HF} {e : Env} {t : TypeId} {p : String} {af : Array Edge} {d : Option Nat} {g : Option (Nat × Bool)} {x y : Operand} {T U : TypeId} {a b : Bool}
theorem run_bools (P : Program) (w : World) (T : TypeId) (a b : Bool) (r : Bool) (h : (Op.equalIn 10000 T (.bool a) (.bool b)).run P w = .ok r w) : (binOp .eql T (.bool a) (.bool b)).run P w = .ok (.bool r) w ∧ (binOp .neq T (.bool a) (.bool b)).run P w = .ok (.bool (!r)) w := by
  constructor <;> simp [binOp, Op.equal, Op.maxDepth, h]
theorem Val.eqlB (hT : boolB P T = true) (hx : evalE e x = some (.bool a)) (hy : evalE e y = some (.bool b)) : Val P w0 mods m e ⟨d, .binOp .eql T x y U, t, p, af, g⟩ (.bool (decide (a = b))) := fun ρ w hρ _ _ => by
  have h := EqV.bool (P := P) hT a b 9999 w
  simp only [execOp, hρ _ _ hx, hρ _ _ hy, Sem.run_bind, show (eqGuard .eql T x y (.bool a) (.bool b)).run P w = .ok () w from rfl, Result.andThen, (run_bools P w T a b _ h).1, Sem.run_pure]
theorem Val.neqB (hT : boolB P T = true) (hx : evalE e x = some (.bool a)) (hy : evalE e y = some (.bool b)) : Val P w0 mods m e ⟨d, .binOp .neq T x y U, t, p, af, g⟩ (.bool (!decide (a = b))) := fun ρ w hρ _ _ => by
  have h := EqV.bool (P := P) hT a b 9999 w
  simp only [execOp, hρ _ _ hx, hρ _ _ hy, Sem.run_bind, show (eqGuard .neq T x y (.bool a) (.bool b)).run P w = .ok () w from rfl, Result.andThen, (run_bools P w T a b _ h).2, Sem.run_pure]
end

section
variable {P : Program} {w0 : World} {mods : List Nat} {n : Nat} {m : HF} {pe e' : Env} {Q : Exit → Act → World → Prop} {ops : Array Oper} {d : Nat} {t : TypeId} {p : String} {af : Array Edge}
theorem subEnv.evalP (h : subEnv pe e') : ∀ {ps : List (Nat × Operand)} {us : List (Nat × Value)}, Fx.evalP pe ps = some us → Fx.evalP e' ps = some us
  | [], us, hx => hx
  | (i, x) :: ps, us, hx => by
    unfold Fx.evalP at hx ⊢
    split at hx
    · rename_i a b h1 h2
      rw [h.eval h1, h.evalP h2]
      exact hx
    · cases hx
/-- A slice literal among operations that come in any order. -/
theorem Ob.bsL {sT el : TypeId} {s len : Nat} {ps : List (Nat × Operand)} {vs : List Value} {zv : Value} {c : Array Value} (hT : elemB P sT = some el) (hs : sizeB P el = some s) (hz : zeroB P el = some zv) (hps : Fx.evalP pe ps = some (zipFrom 0 vs))
    (hl : vs.length = len) (hv : ∀ v ∈ vs, v.cells.size = s) (hc : catA (vs.map (·.cells)) = c) (hs0 : 0 < len * s) (hsm : len * s ≤ 16777216) (hd : d < n) :
    Ob P ops w0 mods n m pe Q ⟨some d, .buildSlice sT len ps.toArray, t, p, af, none⟩ (.res d fun v nm => ∃ b, w0.heap.size ≤ b ∧ v = .slice (some ⟨b, 0, none⟩) len len ∧ nm = [(some b, .cells c el (0, 0))]) :=
  fun _ _ _ _ he hk => .bsL hT hs hz (he.evalP hps) hl hv hc hs0 hsm hd fun b hb => hk _ _ ⟨b, hb, rfl, rfl⟩
end

/-! ### identities of which some bytes are told -/
def mkIdnL (bs : List Nat) : List (Nat × Int) → Option (List Nat)
  | [] => some bs
  | (i, z) :: r => if i < 16 ∧ 0 ≤ z ∧ z < 256 then mkIdnL (bs.set i z.toNat) r else none
def idnOf (bs : List Nat) : Idn := ⟨numOf bs % M128, Nat.mod_lt _ M128_pos⟩
def mkIdn (ps : List (Nat × Int)) : Option Idn := (mkIdnL (List.replicate 16 0) ps).map idnOf
theorem idnOf_enc {bs : List Nat} (hl : bs.length = 16) (hb : ∀ b ∈ bs, b < 256) : (idnOf bs).enc = bytesA bs := by
  obtain ⟨x, h1, h2⟩ := Idn.of_bytes bs hl hb
  have : idnOf bs = x := by
    have h3 := x.lt
    cases x
    simp only at h2 h3
    subst h2
    unfold idnOf
    congr
    exact Nat.mod_eq_of_lt h3
  rw [this, h1]; rfl
theorem mkIdnL_bld : ∀ (ps : List (Nat × Int)) (bs bs' : List Nat), mkIdnL bs ps = some bs' → bs.length = 16 → (∀ b ∈ bs, b < 256) →
    Bld (fun i => some (i * 1, 1)) (bytesA bs) (ps.map fun p => (p.1, Value.int .u8 p.2)) (bytesA bs') ∧ bs'.length = 16 ∧ ∀ b ∈ bs', b < 256
  | [], bs, bs', h, hl, hb => by cases h; exact ⟨.nil, hl, hb⟩
  | (i, z) :: ps, bs, bs', h, hl, hb => by
    unfold mkIdnL at h
    split at h
    · rename_i hc
      obtain ⟨h1, h2, h3⟩ := hc
      obtain ⟨h4, h5, h6⟩ := mkIdnL_bld ps _ bs' h (by simpa using hl) (by
        intro b hb'
        rcases List.mem_or_eq_of_mem_set hb' with h | h
        · exact hb b h
        · omega)
      refine ⟨.cons rfl rfl (by rw [bytesA_size]; omega) ?_ h4, h5, h6⟩
      obtain ⟨k, rfl⟩ := Int.eq_ofNat_of_zero_le h2
      unfold Upd
      show putAt (bytesA bs) (i * 1) #[Value.int .u8 (k : Nat)] = _
      rw [Nat.mul_one, putAt_one _ (by rw [bytesA_size]; omega), bytesA_set]
      rfl
    · cases h
theorem mkIdn_bld {ps : List (Nat × Int)} {x : Idn} (h : mkIdn ps = some x) : Bld (fun i => some (i * 1, 1)) (Value.agg Idn.zero.enc).cells (ps.map fun p => (p.1, Value.int .u8 p.2)) x.enc := by
  unfold mkIdn at h
  cases hl : mkIdnL (List.replicate 16 0) ps with
  | none => rw [hl] at h; cases h
  | some bs =>
    rw [hl] at h
    cases h
    obtain ⟨h1, h2, h3⟩ := mkIdnL_bld ps _ bs hl (by simp) (by intro b hb; rw [List.mem_replicate] at hb; omega)
    rw [idnOf_enc h2 h3]
    show Bld _ Idn.zero.enc _ _
    rw [Idn.zero_enc]
    exact h1

/-! ### lists of plain things -/
def eI (z : Int) : Array Value := #[.int .i64 z]
def eU8 (z : Int) : Array Value := #[.int .u8 z]
def eB (b : Bool) : Array Value := #[.bool b]
theorem eI.size (z : Int) : (eI z).size = 1 := rfl
theorem eU8.size (z : Int) : (eU8 z).size = 1 := rfl
theorem eB.size (b : Bool) : (eB b).size = 1 := rfl
theorem eI.one (z : Int) : Ones (eI z) := Ones.single rfl
theorem eU8.one (z : Int) : Ones (eU8 z) := Ones.single rfl
theorem eB.one (b : Bool) : Ones (eB b) := Ones.single rfl

/-- one value comes back -/
def RV (u : Value) : Value → HF → Prop := fun v nm => v = u ∧ nm = []
end Go.Fx
