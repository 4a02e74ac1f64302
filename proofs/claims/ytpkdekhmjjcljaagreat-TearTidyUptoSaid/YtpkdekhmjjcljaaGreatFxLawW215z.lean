/- Whom one wants: package ring and the document agree. -/
import Derived.Test.YtpkdekhmjjcljaaGreatFxLawW15z
namespace Go.Fx
set_option maxRecDepth 10000

def cntR (self : Idn) (S : List Idn) (x : Idn) : Nat := S.countP fun y => decide ((y.sub self).n < (x.sub self).n)
def cntV (self : Idn) (S : List Idn) (x : Idn) : Nat := S.countP fun y => decide ((self.sub y).n < (self.sub x).n)
def wantQ (self : Idn) (half : Int) (S : List Idn) (x : Idn) : Bool := decide ((cntR self S x : Int) < half) || decide ((cntV self S x : Int) < half)
def wantL (self : Idn) (l : List Idn) (half : Int) : List Idn := (sorted self l).filter (wantQ self half (sorted self l))

theorem ref10_Want_eq (self : Idn) (l : List Idn) (half : Int) (hl : l.length < 100000000) : F_annuletref10_Want self l half = some (wantL self l half) := by
  unfold F_annuletref10_Want wantL
  rw [ref10_Sorted_eq self l hl]
  simp only [Option.bind_some]
  have hle := sorted_len self l
  generalize sorted self l = S at *
  refine iter_list S (by omega) (fun _ => True) (fun i => ((S.take i).filter (wantQ self half S), ((i : Nat) : Int))) _ ?_ ?_ trivial
  · intro again i x hi hx _ ih
    have ih := ih trivial
    have hs : S.take (i + 1) = S.take i ++ [x] := by rw [List.take_add_one, hx]; rfl
    rw [hs, List.filter_append] at ih
    have hfl : ((S.take i).filter (wantQ self half S)).length ≤ i := Nat.le_trans (List.length_filter_le _ _) (by rw [List.length_take]; omega)
    rw [F_annuletref10_Want_L1]
    simp only [dec_lt, dec_true hi, cond_true]
    have h := iter_list (body := F_annuletref10_Want_L2 self half S ((S.take i).filter (wantQ self half S)) ((i : Nat) : Int) again) S (by omega) (fun _ => True)
      (fun k => (((cntR self (S.take k) x : Nat) : Int), ((cntV self (S.take k) x : Nat) : Int), ((k : Nat) : Int))) (some (S.filter (wantQ self half S))) ?_ ?_ trivial
    · simpa [cntR, cntV] using h
    · intro ag k y hk hy _ ih2
      have ih2 := ih2 trivial
      have hs2 : S.take (k + 1) = S.take k ++ [y] := by rw [List.take_add_one, hy]; rfl
      have c1 : cntR self (S.take k) x ≤ k := Nat.le_trans List.countP_le_length (by rw [List.length_take]; omega)
      have c2 : cntV self (S.take k) x ≤ k := Nat.le_trans List.countP_le_length (by rw [List.length_take]; omega)
      have a1 : cntR self (S.take (k + 1)) x = cntR self (S.take k) x + if decide ((y.sub self).n < (x.sub self).n) = true then 1 else 0 := by unfold cntR; rw [hs2, List.countP_append, List.countP_singleton]
      have a2 : cntV self (S.take (k + 1)) x = cntV self (S.take k) x + if decide ((self.sub y).n < (self.sub x).n) = true then 1 else 0 := by unfold cntV; rw [hs2, List.countP_append, List.countP_singleton]
      rw [a1, a2] at ih2
      rw [F_annuletref10_Want_L2]
      simp only [dec_lt, dec_true hk, cond_true, ixL_of, hx, hy, Option.bind_some, wrap1 (show k < 4611686018427387904 by omega), wrap1 (show cntR self (S.take k) x < 4611686018427387904 by omega), wrap1 (show cntV self (S.take k) x < 4611686018427387904 by omega)]
      by_cases h1 : (y.sub self).n < (x.sub self).n
      · by_cases h2 : (self.sub y).n < (self.sub x).n
        · rw [dec_true h1, dec_true h2] at ih2 ⊢
          exact ih2
        · rw [dec_true h1, dec_false h2] at ih2 ⊢
          exact ih2
      · by_cases h2 : (self.sub y).n < (self.sub x).n
        · rw [dec_false h1, dec_true h2] at ih2 ⊢
          exact ih2
        · rw [dec_false h1, dec_false h2] at ih2 ⊢
          exact ih2
    · intro ag _
      rw [F_annuletref10_Want_L2]
      simp only [dec_lt, Nat.lt_irrefl, decide_false, cond_false, List.take_length, ixL_of, hx, Option.bind_some, wrap1 (show i < 4611686018427387904 by omega)]
      rw [appG_of (by simp only [List.length_singleton]; omega)]
      simp only [Option.bind_some]
      by_cases h1 : (cntR self S x : Int) < half
      · rw [dec_true h1, cond_true]
        rw [List.filter_cons_of_pos (by unfold wantQ; rw [dec_true h1]; rfl), List.filter_nil] at ih
        exact ih
      · rw [dec_false h1, cond_false]
        by_cases h2 : (cntV self S x : Int) < half
        · rw [dec_true h2, cond_true]
          rw [List.filter_cons_of_pos (by unfold wantQ; rw [dec_true h2, Bool.or_true]), List.filter_nil] at ih
          exact ih
        · rw [dec_false h2, cond_false]
          rw [List.filter_cons_of_neg (by unfold wantQ; rw [dec_false h1, dec_false h2]; decide), List.filter_nil, List.append_nil] at ih
          exact ih
  · intro again _
    rw [F_annuletref10_Want_L1]
    simp only [dec_lt, Nat.lt_irrefl, decide_false, cond_false, List.take_length]

/-! ### by the way clockwise -/
theorem wsort_perm (self : Idn) (S : List Idn) : (sortL (wcmp self) S).Perm S := List.mergeSort_perm _ _
theorem wsort_strict (self : Idn) {S : List Idn} (h : S.Nodup) : (sortL (wcmp self) S).Pairwise fun a b => (a.sub self).n < (b.sub self).n := by
  have h1 := List.pairwise_mergeSort (le := fun x y : Idn => !(Go.Proofs.ltOf (wcmp self)) y x) (by
    intro a b c h1 h2
    rw [wcmp_lt] at *
    simp at *
    omega) (by
    intro a b
    rw [wcmp_lt, wcmp_lt]
    simp
    omega) S
  have h2 : (sortL (wcmp self) S).Pairwise (· ≠ ·) := (wsort_perm self S).nodup_iff.2 h
  refine List.Pairwise.imp ?_ (List.Pairwise.and h1 h2)
  rintro a b ⟨h3, h4⟩
  rw [wcmp_lt] at h3
  simp at h3
  rcases Nat.lt_or_ge (a.sub self).n (b.sub self).n with h | h
  · exact h
  · exact absurd (sub_inj (z := self) (Idn.ext_n (by omega))) h4
theorem pos_split {W : List Idn} {f : Idn → Nat} (hp : W.Pairwise fun a b => f a < f b) {i : Nat} {x : Idn} (hx : W[i]? = some x) :
    W.countP (fun y => decide (f y < f x)) = i ∧ W.countP (fun y => decide (f x < f y)) = W.length - 1 - i := by
  obtain ⟨hi, e⟩ := List.getElem?_eq_some_iff.1 hx
  have hW : W = W.take i ++ ([x] ++ W.drop (i + 1)) := by
    conv => lhs; rw [← List.take_append_drop i W, List.drop_eq_getElem_cons hi, e]
    rfl
  rw [hW, List.pairwise_append, List.singleton_append, List.pairwise_cons] at hp
  have a1 : (W.take i).countP (fun y => decide (f y < f x)) = (W.take i).length := by
    rw [List.countP_eq_length]
    intro y hy
    exact decide_eq_true (hp.2.2 y hy x (by simp))
  have a2 : (W.drop (i + 1)).countP (fun y => decide (f y < f x)) = 0 := by
    rw [List.countP_eq_zero]
    intro y hy
    have := hp.2.1.1 y hy
    simp; omega
  have b1 : (W.take i).countP (fun y => decide (f x < f y)) = 0 := by
    rw [List.countP_eq_zero]
    intro y hy
    have := hp.2.2 y hy x (by simp)
    simp; omega
  have b2 : (W.drop (i + 1)).countP (fun y => decide (f x < f y)) = (W.drop (i + 1)).length := by
    rw [List.countP_eq_length]
    intro y hy
    exact decide_eq_true (hp.2.1.1 y hy)
  have c1 : W.countP (fun y => decide (f y < f x)) = i := by
    rw [hW, List.countP_append, List.countP_append, List.countP_singleton, a1, a2, List.length_take]
    simp; omega
  have c2 : W.countP (fun y => decide (f x < f y)) = W.length - 1 - i := by
    conv => lhs; rw [hW]
    rw [List.countP_append, List.countP_append, List.countP_singleton, b1, b2, List.length_drop]
    simp; omega
  exact ⟨c1, c2⟩
theorem sub_rev {self x y : Idn} (hx : x ≠ self) (hy : y ≠ self) : (self.sub y).n < (self.sub x).n ↔ (x.sub self).n < (y.sub self).n := by
  have h1 : x.n ≠ self.n := fun e => hx (Idn.ext_n e)
  have h2 : y.n ≠ self.n := fun e => hy (Idn.ext_n e)
  have l1 := x.lt
  have l2 := y.lt
  have l3 := self.lt
  unfold Idn.sub
  simp only
  unfold M128 at *
  omega
theorem want_pos (self : Idn) (l : List Idn) (half : Int) {i : Nat} {x : Idn} (hx : (sortL (wcmp self) (sorted self l))[i]? = some x) :
    wantQ self half (sorted self l) x = (decide ((i : Int) < half) || decide ((((sorted self l).length - 1 - i : Nat) : Int) < half)) := by
  have hp := wsort_strict self (rise_nodup (sorted_rise self l))
  obtain ⟨h1, h2⟩ := pos_split (f := fun y => (y.sub self).n) hp hx
  have hperm := wsort_perm self (sorted self l)
  have hxs : x ≠ self := (mem_sorted.1 (hperm.mem_iff.1 (List.mem_of_getElem? hx))).2
  have e1 : cntR self (sorted self l) x = i := by
    unfold cntR
    rw [← hperm.countP_eq]
    exact h1
  have e2 : cntV self (sorted self l) x = (sorted self l).length - 1 - i := by
    unfold cntV
    have : (sorted self l).countP (fun y => decide ((self.sub y).n < (self.sub x).n)) = (sorted self l).countP (fun y => decide ((x.sub self).n < (y.sub self).n)) := by
      refine List.countP_congr ?_
      intro y hy
      simp only [decide_eq_true_eq]
      exact sub_rev hxs (mem_sorted.1 hy).2
    rw [this, ← hperm.countP_eq, ← sortL_len (wcmp self) (sorted self l)]
    exact h2
  unfold wantQ
  rw [e1, e2]
theorem ring_Want_eq (self : Idn) (l : List Idn) (half : Int) (hl : l.length < 100000000) : F_ring_Want self l half = some (wantL self l half) := by
  unfold F_ring_Want wantL
  rw [ringSorted_eq self l (by omega)]
  simp only [Option.bind_some]
  have hle := sorted_len self l
  have hpos := fun (i : Nat) (x : Idn) (h : (sortL (wcmp self) (sorted self l))[i]? = some x) => want_pos self l half h
  have hperm := wsort_perm self (sorted self l)
  have hself : ∀ x ∈ sorted self l, x ≠ self := fun x hx => (mem_sorted.1 hx).2
  have hrise := sorted_rise self l
  have hWl := sortL_len (wcmp self) (sorted self l)
  rw [lenG_of (by omega)]
  simp only [Option.bind_some, hWl]
  generalize sorted self l = S at *
  generalize sortL (wcmp self) S = W at *
  obtain ⟨n, hn, hnS, hnh⟩ : ∃ n : Nat, (if ((S.length : Nat) : Int) < (if 0 > half then 0 else half) then ((S.length : Nat) : Int) else (if 0 > half then 0 else half)) = ((n : Nat) : Int) ∧ n ≤ S.length ∧ ∀ i : Nat, i < S.length → (i < n ↔ (i : Int) < half) := by
    by_cases h0 : 0 > half
    · refine ⟨0, ?_, by omega, ?_⟩
      · rw [if_pos h0, if_neg (by omega)]; rfl
      · intro i hi; omega
    · by_cases h1 : ((S.length : Nat) : Int) < half
      · refine ⟨S.length, ?_, Nat.le_refl _, ?_⟩
        · rw [if_neg h0, if_pos h1]
        · intro i hi; omega
      · refine ⟨half.toNat, ?_, by omega, ?_⟩
        · rw [if_neg h0, if_neg h1]; omega
        · intro i hi; omega
  rw [hn]
  rw [takL_nat (by omega)]
  simp only [Option.bind_some]
  rw [w64 (by omega) (by omega), show ((S.length : Nat) : Int) - (n : Int) = ((S.length - n : Nat) : Int) by omega, drpL_nat (by omega)]
  simp only [Option.bind_some]
  unfold F_slices_Clone_api_ID_api_ID
  rw [lenG_of (by rw [List.length_take]; omega)]
  simp only [Option.bind_some]
  rw [appG_of (by rw [List.length_take, List.length_drop]; omega)]
  simp only [Option.bind_some]
  rw [ringSorted_eq self _ (by rw [List.length_append, List.length_take, List.length_drop]; omega)]
  simp only [Option.bind_some]
  congr 1
  refine rise_ext (sorted_rise _ _) (List.Pairwise.filter _ hrise) fun x => ?_
  rw [mem_sorted, List.mem_filter, List.mem_append]
  constructor
  · rintro ⟨h, hx⟩
    have hmem : x ∈ W := h.elim List.mem_of_mem_take List.mem_of_mem_drop
    refine ⟨hperm.mem_iff.1 hmem, ?_⟩
    rcases h with h | h
    · obtain ⟨i, hi⟩ := List.mem_iff_getElem?.1 h
      rw [List.getElem?_take] at hi
      split at hi
      · rename_i hin
        have hiS := (List.getElem?_eq_some_iff.1 hi).1
        rw [hpos i x hi, dec_true ((hnh i (by omega)).1 hin)]; rfl
      · cases hi
    · obtain ⟨i, hi⟩ := List.mem_iff_getElem?.1 h
      rw [List.getElem?_drop] at hi
      have hiS := (List.getElem?_eq_some_iff.1 hi).1
      rw [hpos _ x hi, dec_true ((hnh (S.length - 1 - (S.length - n + i)) (by omega)).1 (by omega)), Bool.or_true]
  · rintro ⟨hx, hq⟩
    refine ⟨?_, hself x hx⟩
    obtain ⟨i, hi⟩ := List.mem_iff_getElem?.1 (hperm.mem_iff.2 hx)
    have hiS := (List.getElem?_eq_some_iff.1 hi).1
    rw [hpos i x hi] at hq
    simp only [Bool.or_eq_true, decide_eq_true_eq] at hq
    rcases hq with hq | hq
    · left
      have hin := (hnh i (by omega)).2 hq
      refine List.mem_iff_getElem?.2 ⟨i, ?_⟩
      rw [List.getElem?_take, if_pos hin]; exact hi
    · right
      have hin := (hnh (S.length - 1 - i) (by omega)).2 hq
      refine List.mem_iff_getElem?.2 ⟨i - (S.length - n), ?_⟩
      rw [List.getElem?_drop, show S.length - n + (i - (S.length - n)) = i by omega]; exact hi
end Go.Fx
