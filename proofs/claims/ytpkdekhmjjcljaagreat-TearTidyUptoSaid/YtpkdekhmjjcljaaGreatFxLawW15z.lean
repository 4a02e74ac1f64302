/- Whom one wants: package ring and the document agree. -/
import Derived.Test.YtpkdekhmjjcljaaGreatFxAsk15z
import Derived.Test.YtpkdekhmjjcljaaGreatFxRise15z
namespace Go.Fx
set_option maxRecDepth 10000

/-! ### small things -/
theorem hasL_eq (l : List Idn) (x : Idn) (hl : l.length < 1000000000) : F_annuletref10_Has l x = some (decide (x ∈ l)) := by
  unfold F_annuletref10_Has
  refine iter_list l (by omega) (fun i => x ∉ l.take i) (fun i => ((i : Nat) : Int)) _ ?_ ?_ (by simp)
  · intro again i y hi hy hI ih
    rw [F_annuletref10_Has_L1]
    simp only [dec_lt, dec_true hi, cond_true, ixL_of, hy, Option.bind_some]
    by_cases h : y = x
    · subst h
      rw [dec_true rfl, cond_true, dec_true (List.mem_of_getElem? hy)]
    · rw [dec_false h, cond_false, wrap1 (by omega)]
      refine ih ?_
      rw [List.take_add_one, hy]
      intro hm
      rcases List.mem_append.1 hm with hm | hm
      · exact hI hm
      · simp at hm; exact h hm.symm
  · intro again hI
    rw [F_annuletref10_Has_L1]
    rw [List.take_length] at hI
    simp only [dec_lt, Nat.lt_irrefl, decide_false, cond_false, dec_false hI]
theorem indexI_eq (l : List Idn) (x : Idn) (hl : l.length < 1000000000) : ∃ z, F_slices_Index_api_ID_api_ID l x = some z ∧ (0 ≤ z ↔ x ∈ l) := by
  unfold F_slices_Index_api_ID_api_ID
  have key : ∀ k i : Nat, l.length - i = k → i ≤ l.length → x ∉ l.take i → ∀ n, k < n → ∃ z, iter (F_slices_Index_api_ID_api_ID_L1 l x) n ((i : Nat) : Int) = some z ∧ (0 ≤ z ↔ x ∈ l) := by
    intro k
    induction k with
    | zero =>
      intro i hk hi hI n hn
      obtain ⟨n, rfl⟩ : ∃ n', n = n' + 1 := ⟨n - 1, by omega⟩
      have e : i = l.length := by omega
      subst e
      rw [List.take_length] at hI
      refine ⟨-1, ?_, by simp [hI]⟩
      show F_slices_Index_api_ID_api_ID_L1 l x _ _ = _
      rw [F_slices_Index_api_ID_api_ID_L1]
      simp only [dec_lt, Nat.lt_irrefl, decide_false, cond_false]
    | succ k ih =>
      intro i hk hi hI n hn
      obtain ⟨n, rfl⟩ : ∃ n', n = n' + 1 := ⟨n - 1, by omega⟩
      have hlt : i < l.length := by omega
      have hy : l[i]? = some l[i] := List.getElem?_eq_getElem hlt
      show ∃ z, F_slices_Index_api_ID_api_ID_L1 l x _ _ = some z ∧ _
      rw [F_slices_Index_api_ID_api_ID_L1]
      simp only [dec_lt, dec_true hlt, cond_true, ixL_of, hy, Option.bind_some]
      by_cases h : x = l[i]
      · rw [dec_true h, cond_true]
        exact ⟨_, rfl, by rw [h]; simp⟩
      · rw [dec_false h, cond_false, wrap1 (by omega)]
        refine ih (i + 1) (by omega) (by omega) ?_ n (by omega)
        rw [List.take_add_one, hy]
        intro hm
        rcases List.mem_append.1 hm with hm | hm
        · exact hI hm
        · simp at hm; exact h hm
  exact key l.length 0 (by omega) (by omega) (by simp) FUEL (by rw [FUEL_eq]; omega)
theorem ringHas_eq (l : List Idn) (x : Idn) (hl : l.length < 1000000000) : F_ring_Has l x = some (decide (x ∈ l)) := by
  obtain ⟨z, h1, h2⟩ := indexI_eq l x hl
  unfold F_ring_Has F_slices_Contains_api_ID_api_ID
  rw [h1]
  simp only [Option.bind_some]
  congr 1
  exact decide_eq_decide.2 h2
theorem SameIDs_eq (l : List Idn) (hl : l.length < 1000000000) : F_annuletref01_SameIDs l l = some true := by
  unfold F_annuletref01_SameIDs
  simp only [decide_true, Bool.not_true, cond_false]
  refine iter_list l (by omega) (fun _ => True) (fun i => ((i : Nat) : Int)) _ ?_ ?_ trivial
  · intro again i x hi hx _ ih
    rw [F_annuletref01_SameIDs_L1]
    simp only [dec_lt, dec_true hi, cond_true, ixL_of, hx, Option.bind_some, decide_true, Bool.not_true, cond_false, wrap1 (show i < 4611686018427387904 by omega)]
    exact ih trivial
  · intro again _
    rw [F_annuletref01_SameIDs_L1]
    simp only [dec_lt, Nat.lt_irrefl, decide_false, cond_false]
theorem ringSorted_eq (self : Idn) (l : List Idn) (hl : l.length < 1000000000) : F_ring_Sorted self l = some (sorted self l) := by
  unfold F_ring_Sorted
  rw [lenG_of (by omega)]
  rfl

/-! ### sorted, by the document -/
theorem rise_nodup {l : List Idn} (h : Rise l) : l.Nodup := by
  unfold Rise at h
  exact h.imp fun hab e => by rw [e] at hab; omega
theorem ins_rise {out : List Idn} (h : Rise out) {j : Nat} {x : Idn} (h1 : ∀ y ∈ out.take j, y.n < x.n) (h2 : ∀ y ∈ out.drop j, x.n < y.n) : Rise (out.take j ++ [x] ++ out.drop j) := by
  unfold Rise at *
  rw [← List.take_append_drop j out, List.pairwise_append] at h
  rw [List.append_assoc, List.pairwise_append]
  refine ⟨h.1, ?_, ?_⟩
  · rw [List.singleton_append, List.pairwise_cons]; exact ⟨h2, h.2.1⟩
  · intro a ha b hb
    rcases List.mem_append.1 hb with hb | hb
    · simp at hb; subst hb; exact h1 a ha
    · exact h.2.2 a ha b hb
theorem sorted_skip {self : Idn} {l : List Idn} {x : Idn} (h : x = self ∨ x ∈ sorted self l) : sorted self (l ++ [x]) = sorted self l := by
  refine rise_ext (sorted_rise _ _) (sorted_rise _ _) fun y => ?_
  rw [mem_sorted, mem_sorted, List.mem_append, List.mem_singleton]
  rw [mem_sorted] at h
  constructor
  · rintro ⟨h1 | h1, h2⟩
    · exact ⟨h1, h2⟩
    · subst h1; rcases h with h | h; exact absurd h h2; exact ⟨h.1, h2⟩
  · rintro ⟨h1, h2⟩; exact ⟨.inl h1, h2⟩
theorem sorted_ins {self : Idn} {l : List Idn} {x : Idn} {j : Nat} (hx : x ≠ self) (h1 : ∀ y ∈ (sorted self l).take j, y.n < x.n) (h2 : ∀ y ∈ (sorted self l).drop j, x.n < y.n) :
    (sorted self l).take j ++ [x] ++ (sorted self l).drop j = sorted self (l ++ [x]) := by
  refine rise_ext (ins_rise (sorted_rise _ _) h1 h2) (sorted_rise _ _) fun y => ?_
  have e : y ∈ sorted self l ↔ y ∈ (sorted self l).take j ∨ y ∈ (sorted self l).drop j := by rw [← List.mem_append, List.take_append_drop]
  rw [mem_sorted, List.mem_append, List.mem_append, List.mem_append, List.mem_singleton]
  rw [mem_sorted] at e
  constructor
  · rintro ((h | h) | h)
    · have := e.2 (.inl h); exact ⟨.inl this.1, this.2⟩
    · subst h; exact ⟨.inr rfl, hx⟩
    · have := e.2 (.inr h); exact ⟨.inl this.1, this.2⟩
  · rintro ⟨h | h, h2⟩
    · rcases e.1 ⟨h, h2⟩ with h | h
      · exact .inl (.inl h)
      · exact .inr h
    · exact .inl (.inr h)
theorem rise_drop {out : List Idn} (h : Rise out) {j : Nat} {y : Idn} (hy : out[j]? = some y) {x : Idn} (hx : x.n < y.n) : ∀ z ∈ out.drop j, x.n < z.n := by
  obtain ⟨hj, e⟩ := List.getElem?_eq_some_iff.1 hy
  unfold Rise at h
  rw [← List.take_append_drop j out, List.pairwise_append, List.drop_eq_getElem_cons hj, List.pairwise_cons] at h
  rw [List.drop_eq_getElem_cons hj]
  intro z hz
  rcases List.mem_cons.1 hz with rfl | hz
  · rw [e]; exact hx
  · have := h.2.1.1 z hz
    rw [e] at this; omega
theorem ref10_Sorted_eq (self : Idn) (l : List Idn) (hl : l.length < 100000000) : F_annuletref10_Sorted self l = some (sorted self l) := by
  unfold F_annuletref10_Sorted
  have e0 : sorted self [] = [] := List.length_eq_zero_iff.1 (Nat.le_zero.1 (sorted_len self []))
  have h := iter_list (body := F_annuletref10_Sorted_L1 self l) l (by omega) (fun _ => True) (fun i => (sorted self (l.take i), ((i : Nat) : Int))) (some (sorted self l)) ?_ ?_ trivial
  · rw [List.take_zero, e0] at h
    exact h
  · intro again i x hi hx _ ih
    have ih := ih trivial
    have hs : l.take (i + 1) = l.take i ++ [x] := by rw [List.take_add_one, hx]; rfl
    have hle : (sorted self (l.take i)).length ≤ l.length := Nat.le_trans (sorted_len _ _) (by rw [List.length_take]; omega)
    have hrise := sorted_rise self (l.take i)
    rw [hs] at ih
    rw [F_annuletref10_Sorted_L1]
    simp only [dec_lt, dec_true hi, cond_true, ixL_of, hx, Option.bind_some, wrap1 (show i < 4611686018427387904 by omega)]
    by_cases h1 : x = self
    · rw [dec_true h1, cond_true]
      rw [sorted_skip (.inl h1)] at ih
      exact ih
    · rw [dec_false h1, cond_false, hasL_eq _ _ (by omega)]
      simp only [Option.bind_some]
      by_cases h2 : x ∈ sorted self (l.take i)
      · rw [dec_true h2, cond_true]
        rw [sorted_skip (.inr h2)] at ih
        exact ih
      · rw [dec_false h2, cond_false]
        obtain ⟨out, hout⟩ : ∃ out, out = sorted self (l.take i) := ⟨_, rfl⟩
        have FX_ins : ∀ {j : Nat}, (∀ y ∈ out.take j, y.n < x.n) → (∀ y ∈ out.drop j, x.n < y.n) → out.take j ++ [x] ++ out.drop j = sorted self (l.take i ++ [x]) := fun a b => by subst hout; exact sorted_ins h1 a b
        rw [← hout] at hrise hle h2 ⊢
        refine iter_list out (by omega) (fun j => ∀ y ∈ out.take j, y.n < x.n) (fun j => ((j : Nat) : Int)) _ ?_ ?_ (by simp)
        · intro ag2 j y hj hy hI ih2
          rw [F_annuletref10_Sorted_L2]
          simp only [dec_lt, dec_true hj, cond_true, ixL_of, hx, hy, Option.bind_some, wrap1 (show i < 4611686018427387904 by omega), wrap1 (show j < 4611686018427387904 by omega)]
          by_cases h3 : y.n < x.n
          · rw [dec_true h3, cond_true]
            refine ih2 ?_
            intro z hz
            rw [List.take_add_one, hy] at hz
            rcases List.mem_append.1 hz with hz | hz
            · exact hI z hz
            · simp at hz; subst hz; exact h3
          · rw [dec_false h3, cond_false]
            have hxy : x.n < y.n := by
              have : y ≠ x := fun e => h2 (e ▸ List.mem_of_getElem? hy)
              have : y.n ≠ x.n := fun e => this (Idn.ext_n e)
              omega
            rw [takL_nat (Nat.le_of_lt hj), drpL_nat (Nat.le_of_lt hj)]
            simp only [Option.bind_some]
            rw [appG_of (by simp only [List.length_nil, List.length_take]; omega)]
            simp only [Option.bind_some, List.nil_append]
            rw [appG_of (by simp only [List.length_singleton, List.length_take]; omega)]
            simp only [Option.bind_some]
            rw [appG_of (by simp only [List.length_append, List.length_singleton, List.length_take, List.length_drop]; omega)]
            simp only [Option.bind_some]
            rw [FX_ins (j := j) hI (rise_drop hrise hy hxy)]
            exact ih
        · intro ag2 hI
          rw [List.take_length] at hI
          rw [F_annuletref10_Sorted_L2]
          simp only [dec_lt, Nat.lt_irrefl, decide_false, cond_false, ixL_of, hx, Option.bind_some, wrap1 (show i < 4611686018427387904 by omega)]
          rw [takL_nat (Nat.le_refl _), drpL_nat (Nat.le_refl _)]
          simp only [Option.bind_some]
          rw [appG_of (by simp only [List.length_nil, List.length_take]; omega)]
          simp only [Option.bind_some, List.nil_append]
          rw [appG_of (by simp only [List.length_singleton, List.length_take]; omega)]
          simp only [Option.bind_some]
          rw [appG_of (by simp only [List.length_append, List.length_singleton, List.length_take, List.length_drop]; omega)]
          simp only [Option.bind_some]
          rw [FX_ins (j := out.length) (by rw [List.take_length]; exact hI) (by simp)]
          exact ih
  · intro again _
    rw [F_annuletref10_Sorted_L1]
    simp only [dec_lt, Nat.lt_irrefl, decide_false, cond_false, List.take_length]
end Go.Fx
