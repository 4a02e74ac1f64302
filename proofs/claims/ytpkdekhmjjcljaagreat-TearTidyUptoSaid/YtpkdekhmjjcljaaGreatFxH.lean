/- What comes in any order: operations of a drawing region whose results do not hang on their order, taken as one. -/
import Derived.Test.YtpkdekhmjjcljaaGreatFxE
namespace Go.Fx

/-- What an operation yields: a told value; a new block; something told of. -/
inductive Sp where
  | con (d : Nat) (v : Value)
  | blk (d : Nat) (c : Array Value) (T : TypeId)
  | res (d : Nat) (R : Value → HF → Prop)

def Sp.d : Sp → Nat
  | .con d _ => d
  | .blk d _ _ => d
  | .res d _ => d
def Sp.ok (w0 : World) : Sp → Value → HF → Prop
  | .con _ v, v', nm => v' = v ∧ nm = []
  | .blk _ c T, v', nm => ∃ b, w0.heap.size ≤ b ∧ v' = .pointer (some ⟨b, 0, none⟩) ∧ nm = [(some b, .cells c T (0, 0))]
  | .res _ R, v', nm => R v' nm

def memN : List Nat → Nat → Bool
  | [], _ => false
  | k :: r, i => bif Nat.beq k i then true else memN r i
theorem memN_iff : ∀ {l : List Nat} {i : Nat}, memN l i = true ↔ i ∈ l
  | [], i => by simp [memN]
  | k :: r, i => by
    simp only [memN, List.mem_cons]
    by_cases h : k = i
    · subst h; simp
    · have : Nat.beq k i = false := Bool.eq_false_iff.2 (fun hh => h (Nat.eq_of_beq_eq_true hh))
      rw [this, cond_false, memN_iff]
      exact ⟨.inr, fun hh => hh.resolve_left (fun e => h e.symm)⟩

def nodupN : List Nat → Bool
  | [] => true
  | k :: r => !memN r k && nodupN r
theorem nodupN_iff : ∀ {l : List Nat}, nodupN l = true → l.Nodup
  | [], _ => .nil
  | k :: r, h => by
    simp only [nodupN, Bool.and_eq_true, Bool.not_eq_true'] at h
    exact List.nodup_cons.2 ⟨fun hh => by rw [memN_iff.2 hh] at h; simp at h, nodupN_iff h.2⟩

def dropEnv (ds : List Nat) : Env → Env
  | [] => []
  | (k, v) :: r => bif memN ds k then dropEnv ds r else (k, v) :: dropEnv ds r
theorem look_drop {ds : List Nat} : ∀ {e : Env} {s : Nat} {v : Value}, look (dropEnv ds e) s = some v → s ∉ ds ∧ look e s = some v
  | [], _, _, h => by simp [dropEnv, look] at h
  | (k, u) :: r, s, v, h => by
    simp only [dropEnv] at h
    cases hk : memN ds k with
    | true =>
      rw [hk, cond_true] at h
      obtain ⟨h1, h2⟩ := look_drop h
      refine ⟨h1, ?_⟩
      have hne : k ≠ s := by rintro rfl; exact h1 (memN_iff.1 hk)
      rw [look_cons_ne hne]
      exact h2
    | false =>
      rw [hk, cond_false] at h
      by_cases hks : k = s
      · subst hks
        rw [look_cons_eq] at h ⊢
        exact ⟨fun hh => (by rw [memN_iff.2 hh] at hk; cases hk), h⟩
      · rw [look_cons_ne hks] at h ⊢
        exact look_drop h

def afterB (ops : Array Oper) (i k : Nat) : Bool := match ops[i]? with
  | some o => o.after.toList.any fun e => Region.binds .any e && Nat.beq e.on k
  | none => false

/-- What an operation may look at: what those yield that it comes behind, and what was there. -/
def conE (ops : Array Oper) (i : Nat) : List (Nat × Sp) → Env
  | [] => []
  | (k, .con d v) :: r => bif afterB ops i k then (d, v) :: conE ops i r else conE ops i r
  | _ :: r => conE ops i r
theorem look_conE {ops : Array Oper} {i : Nat} : ∀ {its : List (Nat × Sp)} {s : Nat} {v : Value}, look (conE ops i its) s = some v → ∃ k, (k, Sp.con s v) ∈ its ∧ afterB ops i k = true
  | [], _, _, h => by simp [conE, look] at h
  | (k, .con d u) :: r, s, v, h => by
    simp only [conE] at h
    cases hk : afterB ops i k with
    | true =>
      rw [hk, cond_true] at h
      by_cases hds : d = s
      · subst hds; rw [look_cons_eq] at h; cases h; exact ⟨k, by simp, hk⟩
      · rw [look_cons_ne hds] at h
        obtain ⟨k', h1, h2⟩ := look_conE h
        exact ⟨k', by simp [h1], h2⟩
    | false =>
      rw [hk, cond_false] at h
      obtain ⟨k', h1, h2⟩ := look_conE h
      exact ⟨k', by simp [h1], h2⟩
  | (k, .blk d c T) :: r, s, v, h => by
    simp only [conE] at h
    obtain ⟨k', h1, h2⟩ := look_conE h
    exact ⟨k', by simp [h1], h2⟩
  | (k, .res d R) :: r, s, v, h => by
    simp only [conE] at h
    obtain ⟨k', h1, h2⟩ := look_conE h
    exact ⟨k', by simp [h1], h2⟩

theorem look_app {a b : Env} {s : Nat} : look (a ++ b) s = (match look a s with | some v => some v | none => look b s) := by
  induction a with
  | nil => rfl
  | cons p a ih =>
    obtain ⟨k, v⟩ := p
    simp only [List.cons_append, look]
    cases Nat.beq k s with
    | true => rfl
    | false => simpa using ih
theorem look_mem : ∀ {e : Env} {s : Nat} {v : Value}, look e s = some v → (s, v) ∈ e
  | [], _, _, h => by simp [look] at h
  | (k, u) :: r, s, v, h => by
    by_cases hks : k = s
    · subst hks; rw [look_cons_eq] at h; cases h; simp
    · rw [look_cons_ne hks] at h; simp [look_mem h]
theorem look_of_mem : ∀ {e : Env} {s : Nat} {v : Value}, (e.map (·.1)).Nodup → (s, v) ∈ e → look e s = some v
  | (k, u) :: r, s, v, hn, h => by
    simp only [List.map_cons, List.nodup_cons] at hn
    rcases List.mem_cons.1 h with h | h
    · cases h; exact look_cons_eq
    · have hne : k ≠ s := by rintro rfl; exact hn.1 (List.mem_map.2 ⟨_, h, rfl⟩)
      rw [look_cons_ne hne]
      exact look_of_mem hn.2 h
theorem look_none : ∀ {e : Env} {s : Nat}, s ∉ e.map (·.1) → look e s = none
  | [], _, _ => rfl
  | (k, u) :: r, s, h => by
    simp only [List.map_cons, List.mem_cons, not_or] at h
    rw [look_cons_ne (fun e => h.1 e.symm)]
    exact look_none h.2

section
variable {P : Program} {w0 : World} {mods : List Nat} {n : Nat} {m ms : HF} {e : Env} {Q : Exit → Act → World → Prop} {K : Act → World → Prop} {ops : Array Oper}

/-- What one operation does wherever it comes. -/
def Ob (P : Program) (ops : Array Oper) (w0 : World) (mods : List Nat) (n : Nat) (m : HF) (pe : Env) (Q : Exit → Act → World → Prop) (o : Oper) (sp : Sp) : Prop :=
  ∀ (m' : HF) (e' : Env) (K : Act → World → Prop), (∀ p ∈ m, p ∈ m') → subEnv pe e' → (∀ v nm, sp.ok w0 v nm → St w0 mods n (nm ++ m') ((sp.d, v) :: e') K) →
    St w0 mods n m' e' (wpList P ops (Exit.then K Q) [o])

def Obs (P : Program) (ops : Array Oper) (w0 : World) (mods : List Nat) (n : Nat) (m : HF) (e : Env) (Q : Exit → Act → World → Prop) (its : List (Nat × Sp)) : List (Nat × Sp) → Prop
  | [] => True
  | (i, sp) :: r => (∃ o, ops[i]? = some o ∧ Ob P ops w0 mods n m (conE ops i its ++ dropEnv (its.map (·.2.d)) e) Q o sp) ∧ Obs P ops w0 mods n m e Q its r

theorem Obs.get {its : List (Nat × Sp)} : ∀ {l : List (Nat × Sp)}, Obs P ops w0 mods n m e Q its l → ∀ p ∈ l, ∃ o, ops[p.1]? = some o ∧ Ob P ops w0 mods n m (conE ops p.1 its ++ dropEnv (its.map (·.2.d)) e) Q o p.2
  | (i, sp) :: r, h, p, hp => by
    rcases List.mem_cons.1 hp with rfl | hp
    · exact h.1
    · exact Obs.get h.2 p hp

def Fin (w0 : World) (mods : List Nat) (n : Nat) (K : Act → World → Prop) : List (Nat × Sp) → HF → Env → Prop
  | [], m, e => St w0 mods n m e K
  | (_, .con d v) :: r, m, e => Fin w0 mods n K r m ((d, v) :: e)
  | (_, .blk d c T) :: r, m, e => ∀ b, w0.heap.size ≤ b → Fin w0 mods n K r ((some b, .cells c T (0, 0)) :: m) ((d, .pointer (some ⟨b, 0, none⟩)) :: e)
  | (_, .res d R) :: r, m, e => ∀ v nm, R v nm → Fin w0 mods n K r (nm ++ m) ((d, v) :: e)

def fMem (f : Nat → Value × HF) (l : List Nat) : HF := l.flatMap fun i => (f i).2
def fEnv (f : Nat → Value × HF) (dd : Nat → Nat) (l : List Nat) : Env := l.map fun i => (dd i, (f i).1)

theorem Fin.app {f : Nat → Value × HF} {dd : Nat → Nat} : ∀ {its : List (Nat × Sp)} {m : HF} {e : Env}, Fin w0 mods n K its m e → (∀ p ∈ its, p.2.ok w0 (f p.1).1 (f p.1).2 ∧ dd p.1 = p.2.d) →
    St w0 mods n (fMem f (its.map (·.1)).reverse ++ m) (fEnv f dd (its.map (·.1)).reverse ++ e) K
  | [], _, _, h, _ => h
  | (i, sp) :: r, m, e, h, hf => by
    have h0 := hf (i, sp) (by simp)
    have : Fin w0 mods n K r ((f i).2 ++ m) ((dd i, (f i).1) :: e) := by
      cases sp with
      | con d v =>
        obtain ⟨⟨h1, h2⟩, h3⟩ := h0
        simp only at h1 h2 h3
        rw [h1, h2, h3]; exact h
      | blk d c T =>
        obtain ⟨⟨b, hb, h1, h2⟩, h3⟩ := h0
        simp only at h1 h2 h3
        rw [h1, h2, h3]; exact h b hb
      | res d R =>
        obtain ⟨h1, h3⟩ := h0
        simp only [Sp.ok, Sp.d] at h1 h3
        rw [h3]; exact h _ _ h1
    have := Fin.app this fun p hp => hf p (by simp [hp])
    simpa [fMem, fEnv, List.flatMap_append] using this

def topoB (ops : Array Oper) : Array Bool → List Nat → Bool
  | _, [] => true
  | l, i :: is => (Region.ready .any ops l).contains i && topoB ops (l.setIfInBounds i true) is

/-- an operation and those that come behind it (told in an order that fits) -/
def laterB (ops : Array Oper) (j : Nat) : List Nat → List Nat → List Nat
  | acc, [] => acc
  | acc, k :: is => laterB ops j (bif Nat.beq k j || acc.any (fun x => afterB ops k x) then k :: acc else acc) is
theorem laterB_out {ops : Array Oper} {j : Nat} {I D : List Nat} (hj : j ∉ D) (hcl : ∀ k ∈ D, ∀ x ∈ I, afterB ops k x = true → x ∈ D) : ∀ (is acc : List Nat), (∀ x ∈ is, x ∈ I) → (∀ x ∈ acc, x ∈ I ∧ x ∉ D) → ∀ x ∈ laterB ops j acc is, x ∉ D
  | [], _, _, ha => fun x hx => (ha x hx).2
  | k :: is, acc, hi, ha => by
    unfold laterB
    refine laterB_out hj hcl is _ (fun x hx => hi x (by simp [hx])) ?_
    cases hc : (Nat.beq k j || acc.any (fun x => afterB ops k x)) with
    | false => exact ha
    | true =>
      intro x hx
      rcases List.mem_cons.1 hx with rfl | hx
      · refine ⟨hi _ (by simp), fun hD => ?_⟩
        rcases Bool.or_eq_true_iff.1 hc with h | h
        · exact hj (Nat.eq_of_beq_eq_true h ▸ hD)
        · obtain ⟨y, hy, hya⟩ := List.any_eq_true.1 h
          exact (ha y hy).2 (hcl _ hD y (ha y hy).1 hya)
      · exact ha x hx

def onlyB (ops : Array Oper) (base : Array Bool) (is : List Nat) : Bool :=
  is.all fun i => (Region.ready .any ops (listing base (is.filter fun k => !memN (laterB ops i [] is) k))).all fun j => memN is j

/-- This check is what a told order must pass. -/
def flockB (ops : Array Oper) (base : Array Bool) (is ds : List Nat) : Bool := topoB ops base is && onlyB ops base is && nodupN is && nodupN ds

theorem listing_get : ∀ {is : List Nat} {l : Array Bool} {k : Nat}, (listing l is)[k]? = if k ∈ is ∧ k < l.size then some true else l[k]?
  | [], l, k => by simp [listing]
  | i :: is, l, k => by
    rw [listing, listing_get]
    simp only [Array.size_setIfInBounds, List.mem_cons, Array.getElem?_setIfInBounds]
    by_cases h1 : k ∈ is ∧ k < l.size
    · rw [if_pos h1, if_pos ⟨.inr h1.1, h1.2⟩]
    · rw [if_neg h1]
      by_cases h2 : i = k
      · subst h2
        by_cases h3 : i < l.size
        · simp [h3]
        · simp [h3]
      · rw [if_neg h2, if_neg]
        rintro ⟨rfl | h, h'⟩
        · exact h2 rfl
        · exact h1 ⟨h, h'⟩
theorem listing_size : ∀ {is : List Nat} {l : Array Bool}, (listing l is).size = l.size
  | [], _ => rfl
  | i :: is, l => by rw [listing, listing_size]; simp
theorem listing_congr {a b : List Nat} {l : Array Bool} (h : ∀ k, k ∈ a ↔ k ∈ b) : listing l a = listing l b := by
  apply Array.ext_getElem?
  intro k
  rw [listing_get, listing_get]
  simp only [h k]
theorem listing_mono {a b : List Nat} {l : Array Bool} (h : ∀ k ∈ a, k ∈ b) {k : Nat} (hk : (listing l a).getD k false = true) : (listing l b).getD k false = true := by
  simp only [Array.getD_eq_getD_getElem?, listing_get] at *
  by_cases h1 : k ∈ b ∧ k < l.size
  · rw [if_pos h1]; rfl
  · rw [if_neg h1]
    rw [if_neg (fun h2 => h1 ⟨h k h2.1, h2.2⟩)] at hk
    exact hk
theorem listing_set {a : List Nat} {l : Array Bool} {i : Nat} : (listing l a).setIfInBounds i true = listing l (i :: a) := by
  apply Array.ext_getElem?
  intro k
  rw [Array.getElem?_setIfInBounds, listing_get, listing_get, listing_size]
  by_cases h1 : i = k
  · subst h1
    by_cases h3 : i < l.size <;> simp [h3]
  · rw [if_neg h1]
    have : (k ∈ a ∧ k < l.size) ↔ (k ∈ i :: a ∧ k < l.size) := by
      simp only [List.mem_cons]
      exact ⟨fun h => ⟨.inr h.1, h.2⟩, fun h => ⟨h.1.resolve_left (fun e => h1 e.symm), h.2⟩⟩
    by_cases h : k ∈ a ∧ k < l.size
    · rw [if_pos h, if_pos (this.1 h)]
    · rw [if_neg h, if_neg (fun h' => h (this.2 h'))]

theorem topo_ready : ∀ {is : List Nat} {l : Array Bool}, topoB ops l is = true → ∀ {D : List Nat}, (∃ i ∈ is, i ∉ D) → ∃ i ∈ is, i ∉ D ∧ ∃ pre, (∀ k ∈ pre, k ∈ D) ∧ i ∈ Region.ready .any ops (listing l pre)
  | [], _, _, D, h => by obtain ⟨i, hi, _⟩ := h; cases hi
  | i :: is, l, h, D, hD => by
    simp only [topoB, Bool.and_eq_true, List.contains_iff_mem] at h
    by_cases hi : i ∈ D
    · have hD' : ∃ k ∈ is, k ∉ D := by
        obtain ⟨k, hk, hkd⟩ := hD
        rcases List.mem_cons.1 hk with rfl | hk
        · exact absurd hi hkd
        · exact ⟨k, hk, hkd⟩
      obtain ⟨k, hk, hkd, pre, h1, h2⟩ := topo_ready h.2 hD'
      refine ⟨k, by simp [hk], hkd, i :: pre, ?_, ?_⟩
      · intro x hx
        rcases List.mem_cons.1 hx with rfl | hx
        · exact hi
        · exact h1 x hx
      · simpa [listing] using h2
    · exact ⟨i, by simp, hi, [], by simp, h.1⟩

theorem Sat.swap {a : Act} {w : World} (hs : Sat w0 mods n m e a w) {m' : HF} {e' : Env} (hm : m'.Perm m) (he : subEnv e' e) : Sat w0 mods n m' e' a w :=
  ⟨hs.tmps, hs.defers, fun i v hv => hs.env i v (he i v hv), fun b o hb => hs.mem b o (hm.mem_iff.1 hb), hs.apart.perm hm.symm (fun h => h.symm), fun b o hb => hs.own b o (hm.mem_iff.1 hb), hs.fr⟩

/-- Operations that may come in any order, before all else. -/
theorem St.flock {listed : Array Bool} {N : Nat} (its : List (Nat × Sp)) (k : Nat) (hsub : ms.Sublist m) (hN : k + its.length = N) (hB : flockB ops listed (its.map (·.1)) (its.map (·.2.d)) = true)
    (ho : Obs P ops w0 mods n m e Q its its) (h : Fin w0 mods n (wpAnyC P ops (Cls ms mods w0) Q k (listing listed (its.map (·.1)))) its m e) :
    St w0 mods n m e (wpAnyC P ops (Cls ms mods w0) Q N listed) := by
  subst hN
  simp only [flockB, Bool.and_eq_true] at hB
  obtain ⟨⟨⟨htopo, honly⟩, hnis⟩, hnds⟩ := hB
  have hnis := nodupN_iff hnis
  have hnds := nodupN_iff hnds
  -- the place of each
  let dd : Nat → Nat := fun i => match its.find? (fun p => p.1 == i) with | some p => p.2.d | none => 0
  have hfind : ∀ p ∈ its, its.find? (fun q => q.1 == p.1) = some p := by
    have : ∀ (l : List (Nat × Sp)), (l.map (·.1)).Nodup → ∀ p ∈ l, l.find? (fun q => q.1 == p.1) = some p := by
      intro l
      induction l with
      | nil => intro _ p hp; cases hp
      | cons q l ih =>
        intro hn p hp
        simp only [List.map_cons, List.nodup_cons] at hn
        rcases List.mem_cons.1 hp with rfl | hp
        · simp
        · have : q.1 ≠ p.1 := fun he => hn.1 (he ▸ List.mem_map.2 ⟨p, hp, rfl⟩)
          rw [List.find?_cons_of_neg (by simpa using this)]
          exact ih hn.2 p hp
    exact this its hnis
  have hdd : ∀ p ∈ its, dd p.1 = p.2.d := fun p hp => by show (match its.find? (fun q => q.1 == p.1) with | some p => p.2.d | none => 0) = _; rw [hfind p hp]
  have hddn : ((its.map (·.1)).map dd).Nodup := by
    have : (its.map (·.1)).map dd = its.map (·.2.d) := by
      rw [List.map_map]
      exact List.map_congr_left fun p hp => hdd p hp
    rw [this]; exact hnds
  -- any state on the way
  have key : ∀ (r : Nat) (D rest : List Nat) (f : Nat → Value × HF), r = rest.length → (its.map (·.1)).Perm (D ++ rest) → (∀ k ∈ D, ∀ x ∈ its.map (·.1), afterB ops k x = true → x ∈ D) → (∀ p ∈ its, p.1 ∈ D → p.2.ok w0 (f p.1).1 (f p.1).2) →
      St w0 mods n (fMem f D ++ m) (fEnv f dd D ++ e) (wpAnyC P ops (Cls ms mods w0) Q (k + r) (listing listed D)) := by
    intro r
    induction r with
    | zero =>
      intro D rest f hr hp _ hok
      have hrest : rest = [] := List.length_eq_zero_iff.1 hr.symm
      subst hrest
      rw [List.append_nil] at hp
      have h1 := Fin.app (f := f) (dd := dd) h fun p hpi => ⟨hok p hpi (hp.mem_iff.1 (List.mem_map.2 ⟨p, hpi, rfl⟩)), hdd p hpi⟩
      have hp2 : ((its.map (·.1)).reverse).Perm D := (List.reverse_perm _).trans hp
      rw [Nat.add_zero, listing_congr (fun k => (hp.mem_iff (a := k)).symm)]
      refine fun a w hs => h1 a w (hs.swap ?_ ?_)
      · exact (hp2.flatMap_right _).append_right _
      · intro s v hv
        rw [look_app] at hv ⊢
        have hnD : ((fEnv f dd D).map (·.1)).Nodup := by
          have : (fEnv f dd D).map (·.1) = D.map dd := by simp [fEnv]
          rw [this]
          exact (hp.map dd).nodup_iff.1 hddn
        cases hl : look (fEnv f dd (its.map (·.1)).reverse) s with
        | some u =>
          rw [hl] at hv
          simp only at hv
          have hm : (s, u) ∈ fEnv f dd D := (hp2.map _).mem_iff.1 (look_mem hl)
          rw [look_of_mem hnD hm]
          exact hv
        | none =>
          rw [hl] at hv
          simp only at hv
          have : s ∉ (fEnv f dd D).map (·.1) := by
            intro hh
            obtain ⟨⟨s', u⟩, hu, rfl⟩ := List.mem_map.1 hh
            have hm : (s', u) ∈ fEnv f dd (its.map (·.1)).reverse := (hp2.map _).mem_iff.2 hu
            have hnR : ((fEnv f dd (its.map (·.1)).reverse).map (·.1)).Nodup := by
              have : (fEnv f dd (its.map (·.1)).reverse).map (·.1) = (its.map (·.1)).reverse.map dd := by simp [fEnv]
              rw [this]
              exact ((List.reverse_perm (its.map (·.1))).symm.map dd).nodup_iff.1 hddn
            rw [look_of_mem hnR hm] at hl
            cases hl
          rw [look_none this]
          exact hv
    | succ r ih =>
      intro D rest f hr hp hcl hok
      have hndD : (D ++ rest).Nodup := hp.nodup_iff.1 hnis
      intro a w hs
      refine ⟨hs.cls (hsub.trans (List.sublist_append_right _ _)), fun h0 => ?_, fun i hi => ?_⟩
      · exfalso
        have hex : ∃ i ∈ its.map (·.1), i ∉ D := by
          cases rest with
          | nil => cases hr
          | cons j rest =>
            refine ⟨j, hp.mem_iff.2 (by simp), fun hj => ?_⟩
            rw [List.nodup_append] at hndD
            exact hndD.2.2 j hj j (by simp) rfl
        obtain ⟨i, _, hiD, pre, hpre, hrd⟩ := topo_ready htopo hex
        have : i ∈ Region.ready .any ops (listing listed D) := by
          rw [mem_ready] at hrd ⊢
          obtain ⟨h1, o, h2, h3⟩ := hrd
          refine ⟨?_, o, h2, fun ed hed hb => listing_mono hpre (h3 ed hed hb)⟩
          simp only [Array.getD_eq_getD_getElem?, listing_get] at h1 ⊢
          rw [if_neg (fun hh => hiD hh.1)]
          by_cases hh : i ∈ pre ∧ i < listed.size
          · rw [if_pos hh] at h1; cases h1
          · rw [if_neg hh] at h1; exact h1
        rw [h0] at this
        cases this
      · obtain ⟨hi1, oi, hoi, hall⟩ := mem_ready.1 hi
        have hiD : i ∉ D := fun hh => by
          have hlt : i < listed.size := by
            rcases Nat.lt_or_ge i listed.size with h' | h'
            · exact h'
            · simp [Array.getD_eq_getD_getElem?, listing_get, Nat.not_lt.2 h'] at hi1
          simp [Array.getD_eq_getD_getElem?, listing_get, hh, hlt] at hi1
        have his : i ∈ its.map (·.1) := by
          cases rest with
          | nil => cases hr
          | cons j rest =>
            by_cases hij : i ∈ its.map (·.1)
            · exact hij
            · exfalso
              have hj : j ∈ its.map (·.1) := hp.mem_iff.2 (by simp)
              have hjD : j ∉ D := fun hjD => by
                rw [List.nodup_append] at hndD
                exact hndD.2.2 j hjD j (by simp) rfl
              have h1 := List.all_eq_true.1 honly j hj
              have h2 := List.all_eq_true.1 h1 i (by
                rw [mem_ready]
                refine ⟨?_, oi, hoi, fun ed hed hb => listing_mono ?_ (hall ed hed hb)⟩
                · simp only [Array.getD_eq_getD_getElem?, listing_get] at hi1 ⊢
                  rw [if_neg (fun hh => hij (List.mem_filter.1 hh.1).1)]
                  rw [if_neg (fun hh => hiD hh.1)] at hi1
                  exact hi1
                · intro x hx
                  refine List.mem_filter.2 ⟨hp.mem_iff.2 (by simp [hx]), ?_⟩
                  have : memN (laterB ops j [] (its.map (·.1))) x = false := Bool.eq_false_iff.2 (fun hh => laterB_out hjD hcl _ [] (fun y hy => hy) (by simp) x (memN_iff.1 hh) hx)
                  rw [this]; rfl)
              exact hij (memN_iff.1 h2)
        have hdep : ∀ kk ∈ its.map (·.1), afterB ops i kk = true → kk ∈ D := by
          intro kk hk1 hk2
          unfold afterB at hk2
          rw [hoi] at hk2
          simp only [List.any_eq_true, Bool.and_eq_true] at hk2
          obtain ⟨ed, hed, hb, hon⟩ := hk2
          have hon := Nat.eq_of_beq_eq_true hon
          have h3 := hall ed (by simpa using hed) hb
          rw [hon] at h3
          simp only [Array.getD_eq_getD_getElem?, listing_get] at h3
          by_cases hh : kk ∈ D ∧ kk < listed.size
          · exact hh.1
          · exfalso
            rw [if_neg hh] at h3
            -- it was listed before: then it is not ready
            have : ∃ pre, kk ∈ Region.ready .any ops (listing listed pre) := by
              have : ∀ (is : List Nat) (l : Array Bool), topoB ops l is = true → kk ∈ is → ∃ pre, kk ∈ Region.ready .any ops (listing l pre) := by
                intro is
                induction is with
                | nil => intro l _ hk; cases hk
                | cons x is ih2 =>
                  intro l ht hk
                  simp only [topoB, Bool.and_eq_true, List.contains_iff_mem] at ht
                  rcases List.mem_cons.1 hk with rfl | hk
                  · exact ⟨[], ht.1⟩
                  · obtain ⟨pre, hpre⟩ := ih2 _ ht.2 hk
                    exact ⟨x :: pre, hpre⟩
              exact this _ _ htopo hk1
            obtain ⟨pre, hpre⟩ := this
            have h4 := (mem_ready.1 hpre).1
            simp only [Array.getD_eq_getD_getElem?, listing_get] at h4
            by_cases h5 : kk ∈ pre ∧ kk < listed.size
            · rw [if_pos h5] at h4; cases h4
            · rw [if_neg h5] at h4
              cases h6 : listed[kk]? with
              | none => rw [h6] at h3; cases h3
              | some b => rw [h6] at h3 h4; simp only [Option.getD_some] at h3 h4; rw [h3] at h4; cases h4
        obtain ⟨p, hp1, hp2⟩ := List.mem_map.1 his
        subst hp2
        obtain ⟨o, ho1, hob⟩ := Obs.get ho p hp1
        rw [hoi] at ho1
        cases ho1
        refine wpOp_of_list hoi (hob (fMem f D ++ m) (fEnv f dd D ++ e) _ (fun q hq => List.mem_append.2 (.inr hq)) ?_ ?_ a w hs)
        · -- what it may look at is there
          intro s v hv
          rw [look_app] at hv ⊢
          cases hl : look (conE ops p.1 its) s with
          | some u =>
            rw [hl] at hv
            simp only [Option.some.injEq] at hv
            subst hv
            obtain ⟨kk, hk1, hk2⟩ := look_conE hl
            have hkD : kk ∈ D := hdep kk (List.mem_map.2 ⟨_, hk1, rfl⟩) hk2
            have hnD : ((fEnv f dd D).map (·.1)).Nodup := by
              have : (fEnv f dd D).map (·.1) = D.map dd := by simp [fEnv]
              rw [this]
              have h7 := (hp.map dd).nodup_iff.1 hddn
              rw [List.map_append, List.nodup_append] at h7
              exact h7.1
            have h8 := hok _ hk1 hkD
            have h9 := hdd _ hk1
            simp only [Sp.ok, Sp.d] at h8 h9
            have hm : (s, u) ∈ fEnv f dd D := List.mem_map.2 ⟨kk, hkD, by rw [h8.1, h9]⟩
            rw [look_of_mem hnD hm]
          | none =>
            rw [hl] at hv
            simp only at hv
            obtain ⟨h1, h2⟩ := look_drop hv
            have : s ∉ (fEnv f dd D).map (·.1) := by
              intro hh
              have e1 : (fEnv f dd D).map (·.1) = D.map dd := by simp [fEnv]
              rw [e1] at hh
              obtain ⟨x, hx, rfl⟩ := List.mem_map.1 hh
              have hx2 : x ∈ its.map (·.1) := hp.mem_iff.2 (by simp [hx])
              obtain ⟨q, hq, rfl⟩ := List.mem_map.1 hx2
              exact h1 (List.mem_map.2 ⟨q, hq, (hdd q hq).symm⟩)
            rw [look_none this]
            exact h2
        · -- and goes on
          intro v nm hvn
          have hrest : p.1 ∈ rest := by
            rcases List.mem_append.1 (hp.mem_iff.1 his) with h' | h'
            · exact absurd h' hiD
            · exact h'
          have hp3 : (its.map (·.1)).Perm ((p.1 :: D) ++ rest.erase p.1) := by
            refine hp.trans ?_
            refine ((List.perm_cons_erase hrest).append_left D).trans ?_
            simp
          let f' : Nat → Value × HF := fun x => if x = p.1 then (v, nm) else f x
          have hlen : r = (rest.erase p.1).length := by
            rw [List.length_erase_of_mem hrest, ← hr]; rfl
          have h1 := ih (p.1 :: D) (rest.erase p.1) f' hlen hp3 (by
            intro k hk x hx hxa
            rcases List.mem_cons.1 hk with rfl | hk
            · exact List.mem_cons_of_mem _ (hdep x hx hxa)
            · exact List.mem_cons_of_mem _ (hcl k hk x hx hxa)) (by
            intro q hq hqD
            by_cases hqp : q.1 = p.1
            · have : q = p := by
                have h1 := hfind q hq
                have h2 := hfind p hp1
                rw [hqp, h2] at h1
                exact (Option.some.inj h1).symm
              subst this
              simpa [f'] using hvn
            · have : q.1 ∈ D := (List.mem_cons.1 hqD).resolve_left hqp
              simpa [f', hqp] using hok q hq this)
          have e1 : fMem f' (p.1 :: D) = nm ++ fMem f D := by
            simp only [fMem, List.flatMap_cons, f', if_true]
            congr 1
            have : ∀ (L : List Nat), p.1 ∉ L → L.flatMap (fun i => (if i = p.1 then (v, nm) else f i).2) = L.flatMap (fun i => (f i).2) := by
              intro L
              induction L with
              | nil => intro _; rfl
              | cons x L ih2 =>
                intro hx
                simp only [List.mem_cons, not_or] at hx
                rw [List.flatMap_cons, List.flatMap_cons, ih2 hx.2, if_neg (fun h => hx.1 h.symm)]
            exact this D hiD
          have e2 : fEnv f' dd (p.1 :: D) = (dd p.1, v) :: fEnv f dd D := by
            simp only [fEnv, List.map_cons, f', if_true]
            congr 1
            exact List.map_congr_left fun x hx => by
              have hne : x ≠ p.1 := by intro hh; rw [hh] at hx; exact hiD hx
              rw [if_neg hne]
          rw [e1, e2, hdd p hp1, List.append_assoc, List.cons_append] at h1
          have e3 : (listing listed D).setIfInBounds p.1 true = listing listed (p.1 :: D) := listing_set
          rw [e3]
          exact h1
  have := key its.length [] (its.map (·.1)) (fun _ => (undef, [])) (by simp) (by simp) (by simp) (by simp)
  simpa [fMem, fEnv, listing] using this

/-! ### what comes where -/
variable {pe : Env} {d : Nat} {op : Op} {t : TypeId} {p : String} {af : Array Edge} {v : Value}

theorem subEnv.eval {e' : Env} (h : subEnv pe e') {x : Operand} {u : Value} (hx : evalE pe x = some u) : evalE e' x = some u := by
  cases x with
  | tmp t => exact h t u hx
  | const c => exact hx
  | global g => exact hx
  | func f => exact hx
theorem subEnv.evals {e' : Env} (h : subEnv pe e') : ∀ {xs : List Operand} {us : List Value}, evalsE pe xs = some us → evalsE e' xs = some us
  | [], us, hx => hx
  | x :: xs, us, hx => by
    simp only [evalsE] at hx ⊢
    split at hx
    · rename_i a b h1 h2
      rw [h.eval h1, h.evals h2]
      exact hx
    · simp at hx
theorem subEnv.gval {e' : Env} (h : subEnv pe e') {j : Nat} {b : Bool} (hx : gval ops pe j = some b) : gval ops e' j = some b := by
  unfold Fx.gval at hx ⊢
  cases hd : (ops[j]?).bind (·.dst) with
  | none => simp [hd] at hx
  | some t =>
    simp only [hd, Option.bind_some] at hx ⊢
    cases hl : look pe t with
    | none => simp [hl] at hx
    | some u => rw [hl] at hx; rw [h t u hl]; exact hx
theorem Val.up {o : Oper} {m' : HF} {e' : Env} (h : Val P w0 mods m pe o v) (hm : ∀ p ∈ m, p ∈ m') (he : subEnv pe e') : Val P w0 mods m' e' o v :=
  fun ρ w hρ hmm hf => h ρ w (fun x u hx => hρ x u (he.eval hx)) (fun b o hb => hmm b o (hm _ hb)) hf

theorem Ob.val (h : Val P w0 mods m pe ⟨some d, op, t, p, af, none⟩ v) (hd : d < n) : Ob P ops w0 mods n m pe Q ⟨some d, op, t, p, af, none⟩ (.con d v) :=
  fun _ _ _ hm he hk => .step (h.up hm he) hd (hk v [] ⟨rfl, rfl⟩)
theorem Ob.valg {j : Nat} {b : Bool} (hg : Fx.gval ops pe j = some b) (h : Val P w0 mods m pe ⟨some d, op, t, p, af, some (j, b)⟩ v) (hd : d < n) : Ob P ops w0 mods n m pe Q ⟨some d, op, t, p, af, some (j, b)⟩ (.con d v) :=
  fun _ _ _ hm he hk => .stepg (he.gval hg) (h.up hm he) hd (hk v [] ⟨rfl, rfl⟩)
theorem Ob.pass {j : Nat} {b b' : Bool} (hg : Fx.gval ops pe j = some b') (hne : (b' == b) = false) (hd : d < n) : Ob P ops w0 mods n m pe Q ⟨some d, op, t, p, af, some (j, b)⟩ (.con d undef) :=
  fun _ _ _ _ he hk => .pass (he.gval hg) hne hd (hk undef [] ⟨rfl, rfl⟩)
theorem Ob.passu {j : Nat} {b : Bool} {t' : Nat} (hj : (ops[j]?).bind (·.dst) = some t') (ht : look pe t' = some undef) (hd : d < n) : Ob P ops w0 mods n m pe Q ⟨some d, op, t, p, af, some (j, b)⟩ (.con d undef) :=
  fun _ _ _ _ he hk => .passu hj (he t' _ ht) hd (hk undef [] ⟨rfl, rfl⟩)
theorem Ob.alloc {T : TypeId} {z : Value} {c : Array Value} (hz : zeroB P T = some z) (hc : z.cells = c) (hd : d < n) : Ob P ops w0 mods n m pe Q ⟨some d, .alloc T, t, p, af, none⟩ (.blk d c T) :=
  fun _ _ _ _ _ hk => .alloc hz hc hd fun b hb => hk _ _ ⟨b, hb, rfl, rfl⟩
theorem Ob.box {T : TypeId} {x : Operand} {c : Array Value} (hx : evalE pe x = some v) (hc : v.cells = c) (hd : d < n) : Ob P ops w0 mods n m pe Q ⟨some d, .box T x, t, p, af, none⟩ (.blk d c T) :=
  fun _ _ _ _ he hk => .box (he.eval hx) hc hd fun b hb => hk _ _ ⟨b, hb, rfl, rfl⟩
theorem Ob.call0 {fo : Operand} {xs : List Operand} {ats : Array TypeId} {f : FuncId} {first capt args : Array Value} {vs : List Value} {R : Value → HF → Prop}
    (hf : evalE pe fo = some (.func (.func f) first capt)) (hE : enterB P f = true) (hxs : evalsE pe xs = some vs) (hargs : first ++ vs.toArray ++ capt = args)
    (hc : ∀ w, Mem m w → Fr mods w0 w → Calls P f args w (Ret w [] R)) (hd : d < n) : Ob P ops w0 mods n m pe Q ⟨some d, .call ⟨.value fo, xs.toArray, ats⟩, t, p, af, none⟩ (.res d R) :=
  fun _ _ _ hm he hk => .call0 (he.eval hf) hE (he.evals hxs) hargs (fun w hmm hfr => hc w (fun b o hb => hmm b o (hm _ hb)) hfr) hd fun v nm hR => hk v nm hR
theorem Ob.callQ {fo : Operand} {xs : List Operand} {ats : Array TypeId} {f : FuncId} {first capt args : Array Value} {vs : List Value}
    (hf : evalE pe fo = some (.func (.func f) first capt)) (hE : enterB P f = true) (hxs : evalsE pe xs = some vs) (hargs : first ++ vs.toArray ++ capt = args)
    (hc : ∀ w, Mem m w → Fr mods w0 w → Calls P f args w (Ret w [] fun v' nm => v' = v ∧ nm = [])) (hd : d < n) : Ob P ops w0 mods n m pe Q ⟨some d, .call ⟨.value fo, xs.toArray, ats⟩, t, p, af, none⟩ (.con d v) :=
  fun _ _ _ hm he hk => .callQ (he.eval hf) hE (he.evals hxs) hargs (fun w hmm hfr => hc w (fun b o hb => hmm b o (hm _ hb)) hfr) hd (hk v [] ⟨rfl, rfl⟩)
theorem Ob.callQg {j : Nat} {bo : Bool} (hg : Fx.gval ops pe j = some bo) {fo : Operand} {xs : List Operand} {ats : Array TypeId} {f : FuncId} {first capt args : Array Value} {vs : List Value}
    (hf : evalE pe fo = some (.func (.func f) first capt)) (hE : enterB P f = true) (hxs : evalsE pe xs = some vs) (hargs : first ++ vs.toArray ++ capt = args)
    (hc : ∀ w, Mem m w → Fr mods w0 w → Calls P f args w (Ret w [] fun v' nm => v' = v ∧ nm = [])) (hd : d < n) : Ob P ops w0 mods n m pe Q ⟨some d, .call ⟨.value fo, xs.toArray, ats⟩, t, p, af, some (j, bo)⟩ (.con d v) :=
  fun _ _ _ hm he hk => .callQg (he.gval hg) (he.eval hf) hE (he.evals hxs) hargs (fun w hmm hfr => hc w (fun b o hb => hmm b o (hm _ hb)) hfr) hd (hk v [] ⟨rfl, rfl⟩)
end
end Go.Fx
