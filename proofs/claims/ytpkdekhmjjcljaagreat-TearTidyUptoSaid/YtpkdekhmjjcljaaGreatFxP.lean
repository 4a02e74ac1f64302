/- Plain laws about plain functions: loops over lists, small facts. -/
import Derived.Test.YtpkdekhmjjcljaaGreatFxY
namespace Go.Fx

theorem wrap1 {i : Nat} (h : i < 4611686018427387904) : IntKind.wrap .i64 ((i : Int) + 1) = ((i + 1 : Nat) : Int) := by rw [w64] <;> omega
theorem ixL_of {α : Type} {l : List α} {i : Nat} : ixL l (i : Int) = l[i]? := by unfold ixL; rw [if_pos (by omega)]; rfl
theorem dec_lt {i n : Nat} : decide ((i : Int) < (n : Int)) = decide (i < n) := by rw [decide_eq_decide]; omega
theorem dec_true {p : Prop} [Decidable p] (h : p) : decide p = true := decide_eq_true h
theorem dec_false {p : Prop} [Decidable p] (h : ¬ p) : decide p = false := decide_eq_false h

/-- A loop that goes through a list: what it comes to. -/
theorem iter_list {α S R : Type} {body : (S → Option R) → S → Option R} (l : List α) (hl : l.length < 4611686018427387904) (Inv : Nat → Prop) (mk : Nat → S) (out : Option R)
    (hstep : ∀ again i x, i < l.length → l[i]? = some x → Inv i → (Inv (i + 1) → again (mk (i + 1)) = out) → body again (mk i) = out)
    (hend : ∀ again, Inv l.length → body again (mk l.length) = out) (h0 : Inv 0) : iter body FUEL (mk 0) = out := by
  have key : ∀ (k n i : Nat), l.length - i = k → i ≤ l.length → k < n → Inv i → iter body n (mk i) = out := by
    intro k
    induction k with
    | zero =>
      intro n i hk hi hn hI
      obtain ⟨n, rfl⟩ : ∃ n', n = n' + 1 := ⟨n - 1, by omega⟩
      have : i = l.length := by omega
      subst this
      exact hend _ hI
    | succ k ih =>
      intro n i hk hi hn hI
      obtain ⟨n, rfl⟩ : ∃ n', n = n' + 1 := ⟨n - 1, by omega⟩
      have hlt : i < l.length := by omega
      exact hstep _ i l[i] hlt (List.getElem?_eq_getElem hlt) hI fun hI' => ih n (i + 1) (by omega) (by omega) (by omega) hI'
  exact key l.length FUEL 0 (by omega) (Nat.zero_le _) (by rw [FUEL_eq]; omega) h0

/-- Lists that rise strictly are told by what they hold. -/
theorem strict_ext {α : Type} {lt : α → α → Prop} (hirr : ∀ a, ¬ lt a a) (htr : ∀ a b c, lt a b → lt b c → lt a c) : ∀ {a b : List α}, a.Pairwise lt → b.Pairwise lt → (∀ x, x ∈ a ↔ x ∈ b) → a = b
  | [], [], _, _, _ => rfl
  | [], y :: b, _, _, h => absurd ((h y).2 (by simp)) (by simp)
  | x :: a, [], _, _, h => absurd ((h x).1 (by simp)) (by simp)
  | x :: a, y :: b, ha, hb, h => by
    rw [List.pairwise_cons] at ha hb
    have hxy : x = y := by
      rcases List.mem_cons.1 ((h x).1 (by simp)) with e | e
      · exact e
      · rcases List.mem_cons.1 ((h y).2 (by simp)) with e' | e'
        · exact e'.symm
        · exact absurd (htr _ _ _ (hb.1 x e) (ha.1 y e')) (hirr _)
    subst hxy
    congr 1
    refine strict_ext hirr htr ha.2 hb.2 fun z => ?_
    have := h z
    simp only [List.mem_cons] at this
    constructor
    · intro hz
      rcases this.1 (.inr hz) with e | e
      · subst e; exact absurd (ha.1 _ hz) (hirr _)
      · exact e
    · intro hz
      rcases this.2 (.inr hz) with e | e
      · subst e; exact absurd (hb.1 _ hz) (hirr _)
      · exact e

section
variable {K V : Type} [DecidableEq K]
theorem MS.get_some (t : MS K V) (k : K) : (t.get k).isSome = true ↔ k ∈ t.l.map (·.key) := by
  unfold MS.get getM findM
  rw [Option.isSome_map]
  rw [List.find?_isSome]
  simp only [decide_eq_true_eq, List.mem_map]
  constructor
  · rintro ⟨x, hx, rfl⟩; exact ⟨x, hx, rfl⟩
  · rintro ⟨x, hx, rfl⟩; exact ⟨x, hx, rfl⟩
theorem MS.get_none (t : MS K V) (k : K) : t.get k = none ↔ k ∉ t.l.map (·.key) := by
  rw [← MS.get_some]; cases t.get k <;> simp
theorem MS.put_new {t : MS K V} {k : K} (h : t.get k = none) (v : V) : (t.put k v).l = t.l ++ [⟨k, v, t.clock⟩] := by
  unfold MS.put putM
  have : (findM t.l k).isSome = false := by
    unfold MS.get getM at h
    cases hf : findM t.l k with
    | none => rfl
    | some e => rw [hf] at h; cases h
  simp [this]
theorem MS.get_put_new {t : MS K V} {k : K} (h : t.get k = none) (v : V) (k' : K) : (t.put k v).get k' = if k' = k then some v else t.get k' := by
  unfold MS.get getM findM at h ⊢
  rw [MS.put_new (by unfold MS.get getM findM; exact h), List.find?_append]
  by_cases hk : k' = k
  · subst hk
    cases hf : t.l.find? (fun e => decide (k' = e.key)) with
    | none => simp
    | some e => rw [hf] at h; cases h
  · rw [if_neg hk]
    cases hf : t.l.find? (fun e => decide (k' = e.key)) with
    | none => simp [hk]
    | some e => simp
theorem MS.len_put_new {t : MS K V} {k : K} (h : t.get k = none) (v : V) : (t.put k v).len = t.len + 1 := by unfold MS.len; rw [MS.put_new h]; simp
theorem MS.get_mem {t : MS K V} {k : K} {v : V} (h : t.get k = some v) : ∃ e ∈ t.l, e.key = k ∧ e.val = v := by
  unfold MS.get getM findM at h
  cases hf : t.l.find? (fun e => decide (k = e.key)) with
  | none => rw [hf] at h; cases h
  | some e =>
    rw [hf] at h
    cases h
    have h1 := List.find?_some hf
    exact ⟨e, List.mem_of_find?_eq_some hf, by simpa using (of_decide_eq_true h1).symm, rfl⟩
theorem MS.get_del (t : MS K V) (k k' : K) : (t.del k).get k' = if k' = k then none else t.get k' := by
  unfold MS.get getM MS.del delM findM
  simp only
  rw [List.find?_filter]
  by_cases hk : k' = k
  · subst hk
    rw [if_pos rfl]
    rw [List.find?_eq_none.2]
    · rfl
    · intro x _
      simp only [Bool.not_eq_true', decide_eq_false_iff_not, decide_eq_true_eq, not_and]
      exact fun h1 h2 => h1 h2.symm
  · rw [if_neg hk]
    congr 2
    funext e
    by_cases h : k' = e.key
    · subst h; simp [hk]
    · simp [h]
theorem MS.keys_del (t : MS K V) (k : K) : (t.del k).l.map (·.key) = (t.l.map (·.key)).filter (fun x => !decide (x = k)) := by
  unfold MS.del delM
  simp only
  rw [List.filter_map]
  rfl
theorem MS.get_emp (k : K) : (MS.emp : MS K V).get k = none := rfl
end

section
variable {α β : Type}
theorem bind_of {x : Option α} {a : α} {f : α → Option β} {r : Option β} (h : x = some a) (k : f a = r) : x.bind f = r := by subst h; exact k
end
end Go.Fx
