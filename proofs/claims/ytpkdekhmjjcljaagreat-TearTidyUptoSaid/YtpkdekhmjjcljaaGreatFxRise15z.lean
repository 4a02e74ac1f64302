/- Rising lists of identities. -/
import Derived.Test.YtpkdekhmjjcljaaGreatFxRing15z
namespace Go.Fx

/-! ### rising lists -/
def Rise (l : List Idn) : Prop := l.Pairwise fun a b => a.n < b.n
theorem rise_ext : ∀ {a b : List Idn}, Rise a → Rise b → (∀ x, x ∈ a ↔ x ∈ b) → a = b
  | [], [], _, _, _ => rfl
  | [], y :: b, _, _, h => by have := (h y).2 (by simp); simp at this
  | x :: a, [], _, _, h => by have := (h x).1 (by simp); simp at this
  | x :: a, y :: b, ha, hb, h => by
    unfold Rise at ha hb
    rw [List.pairwise_cons] at ha hb
    have hxy : x = y := by
      rcases List.mem_cons.1 ((h x).1 (by simp)) with h1 | h1
      · exact h1
      · rcases List.mem_cons.1 ((h y).2 (by simp)) with h2 | h2
        · exact h2.symm
        · have := hb.1 x h1; have := ha.1 y h2; omega
    subst hxy
    congr 1
    refine rise_ext ha.2 hb.2 fun z => ⟨fun hz => ?_, fun hz => ?_⟩
    · rcases List.mem_cons.1 ((h z).1 (by simp [hz])) with h1 | h1
      · subst h1; have := ha.1 z hz; omega
      · exact h1
    · rcases List.mem_cons.1 ((h z).2 (by simp [hz])) with h1 | h1
      · subst h1; have := hb.1 z hz; omega
      · exact h1

theorem adj_mem (p : Idn) (l : List Idn) (x : Idn) : x ∈ adj p l → x ∈ l := by
  induction l generalizing p with
  | nil => simp [adj]
  | cons y l ih =>
    simp only [adj]
    split
    · intro h; exact List.mem_cons_of_mem _ (ih p h)
    · intro h
      rcases List.mem_cons.1 h with rfl | h
      · simp
      · exact List.mem_cons_of_mem _ (ih y h)
theorem mem_adj (p : Idn) (l : List Idn) (x : Idn) : x ∈ l → x = p ∨ x ∈ adj p l := by
  induction l generalizing p with
  | nil => simp
  | cons y l ih =>
    intro h
    simp only [adj]
    split
    · rename_i hy
      rcases List.mem_cons.1 h with rfl | h
      · exact .inl hy
      · exact ih p h
    · rcases List.mem_cons.1 h with rfl | h
      · exact .inr (by simp)
      · rcases ih y h with rfl | h
        · exact .inr (by simp)
        · exact .inr (by simp [h])
theorem adj_rise (p : Idn) (l : List Idn) (hp : ∀ x ∈ l, p.n ≤ x.n) (hl : l.Pairwise fun a b => a.n ≤ b.n) : Rise (adj p l) ∧ ∀ x ∈ adj p l, p.n < x.n := by
  induction l generalizing p with
  | nil => exact ⟨.nil, by simp [adj]⟩
  | cons y l ih =>
    rw [List.pairwise_cons] at hl
    simp only [adj]
    split
    · exact ih p (fun x hx => hp x (by simp [hx])) hl.2
    · rename_i hne
      obtain ⟨h1, h2⟩ := ih y hl.1 hl.2
      have hpy : p.n < y.n := by
        have := hp y (by simp)
        rcases Nat.lt_or_ge p.n y.n with h | h
        · exact h
        · exact absurd (Idn.ext_n (by omega)) hne
      refine ⟨?_, ?_⟩
      · unfold Rise; rw [List.pairwise_cons]; exact ⟨h2, h1⟩
      · intro x hx
        rcases List.mem_cons.1 hx with rfl | hx
        · exact hpy
        · exact Nat.lt_trans hpy (h2 x hx)
theorem cmpct_rise {l : List Idn} (hl : l.Pairwise fun a b => a.n ≤ b.n) : Rise (cmpct l) := by
  cases l with
  | nil => exact .nil
  | cons x l =>
    rw [List.pairwise_cons] at hl
    obtain ⟨h1, h2⟩ := adj_rise x l hl.1 hl.2
    unfold Rise
    simp only [cmpct]
    rw [List.pairwise_cons]
    exact ⟨h2, h1⟩
theorem mem_cmpct {l : List Idn} {x : Idn} : x ∈ cmpct l ↔ x ∈ l := by
  cases l with
  | nil => simp [cmpct]
  | cons y l =>
    simp only [cmpct, List.mem_cons]
    exact ⟨fun h => h.elim .inl fun h => .inr (adj_mem y l x h), fun h => h.elim .inl fun h => mem_adj y l x h⟩
theorem sortL_rise (l : List Idn) : (sortL Idn.cmp l).Pairwise fun a b => a.n ≤ b.n := by
  have := List.pairwise_mergeSort (le := fun x y : Idn => !(Go.Proofs.ltOf Idn.cmp) y x) (by
    intro a b c h1 h2
    rw [cmp_lt] at *
    simp at *
    omega) (by
    intro a b
    rw [cmp_lt, cmp_lt]
    simp
    omega) l
  refine this.imp ?_
  intro a b h
  rw [cmp_lt] at h
  simpa using h
theorem sorted_rise (self : Idn) (l : List Idn) : Rise (sorted self l) := cmpct_rise (sortL_rise _)
theorem mem_sorted {self : Idn} {l : List Idn} {x : Idn} : x ∈ sorted self l ↔ x ∈ l ∧ x ≠ self := by
  unfold sorted
  rw [mem_cmpct]
  unfold sortL
  rw [List.mem_mergeSort]
  simp [keep]

end Go.Fx
