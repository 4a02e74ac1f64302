/- The law TearSweeps of layer 15, as a plain law. -/
import Derived.Test.YtpkdekhmjjcljaaFxLawT215
namespace Go.Fx
set_option maxRecDepth 10000

theorem L5_3 : @F_annuletlaw15_TearSweeps_L5 = @F_annuletlaw15_TearSweeps_L3 := rfl
theorem L7_3 : @F_annuletlaw15_TearSweeps_L7 = @F_annuletlaw15_TearSweeps_L3 := rfl
theorem L9_3 : @F_annuletlaw15_TearSweeps_L9 = @F_annuletlaw15_TearSweeps_L3 := rfl
theorem L4_2 : @F_annuletlaw15_TearSweeps_L4 = @F_annuletlaw15_TearSweeps_L2 := by
  funext a b c d e f g s
  rw [F_annuletlaw15_TearSweeps_L4, F_annuletlaw15_TearSweeps_L2, L5_3]
theorem L6_2 : @F_annuletlaw15_TearSweeps_L6 = @F_annuletlaw15_TearSweeps_L2 := by
  funext a b c d e f g s
  rw [F_annuletlaw15_TearSweeps_L6, F_annuletlaw15_TearSweeps_L2, L7_3]
theorem L8_2 : @F_annuletlaw15_TearSweeps_L8 = @F_annuletlaw15_TearSweeps_L2 := by
  funext a b c d e f g s
  rw [F_annuletlaw15_TearSweeps_L8, F_annuletlaw15_TearSweeps_L2, L9_3]

abbrev Torn4 := (List api_Hop) × (List api_Path) × Int × (MS api_Path api_Entry)
def sideW (n : Int) (y : api_Entry) : Int := IntKind.wrap .i64 ((IntKind.wrap .i64 (y.Na + y.Nb)) - n)
def cntO (o : List api_Hop) (side : Int) (p : api_Path) : Nat := o.countP fun h => decide (h.F.P = p) && (decide (h.N = side) && decide (h.F.Kind = 5))
def cntL (l : List api_Path) (side : Int) (p : api_Path) : Nat := l.countP fun q => decide (q = p) && decide (side = -1)
theorem cntO_le (o : List api_Hop) (side : Int) (p : api_Path) : cntO o side p ≤ o.length := List.countP_le_length
theorem cntL_le (l : List api_Path) (side : Int) (p : api_Path) : cntL l side p ≤ l.length := List.countP_le_length

theorem L3_eq (n : Int) (t : Torn4) (told i : Int) (again : (Int × Int) → Option Bool) (y : api_Entry) (c : Nat) (hc : c < 1000000000) (hl : t.2.1.length < 1000000000) :
    iter (F_annuletlaw15_TearSweeps_L3 n t told i again y) FUEL ((c : Int), 0) = if c + cntL t.2.1 (sideW n y) y.P = 1 then again (IntKind.wrap .i64 (told + 1), IntKind.wrap .i64 (i + 1)) else some false := by
  have h := iter_list (body := F_annuletlaw15_TearSweeps_L3 n t told i again y) t.2.1 (by omega) (fun _ => True) (fun k => (((c + cntL (t.2.1.take k) (sideW n y) y.P : Nat) : Int), ((k : Nat) : Int)))
    (if c + cntL t.2.1 (sideW n y) y.P = 1 then again (IntKind.wrap .i64 (told + 1), IntKind.wrap .i64 (i + 1)) else some false) ?_ ?_ trivial
  · simpa [cntL] using h
  · intro ag k x hk hx _ ih
    have ih := ih trivial
    have hs : t.2.1.take (k + 1) = t.2.1.take k ++ [x] := by rw [List.take_add_one, hx]; rfl
    have hle := cntL_le (t.2.1.take k) (sideW n y) y.P
    rw [List.length_take] at hle
    unfold cntL at ih hle
    rw [hs, List.countP_append, List.countP_singleton] at ih
    rw [F_annuletlaw15_TearSweeps_L3]
    unfold cntL
    simp only [dec_lt, dec_true hk, cond_true, ixL_of, hx, Option.bind_some, wrap1 (show k < 4611686018427387904 by omega)]
    rw [wrap1 (by omega)]
    by_cases h1 : x = y.P
    · rw [dec_true h1, cond_true]
      by_cases h2 : sideW n y = -1
      · rw [show decide (IntKind.wrap .i64 (IntKind.wrap .i64 (y.Na + y.Nb) - n) = -1) = true from dec_true h2, cond_true]
        rw [show (decide (x = y.P) && decide (sideW n y = -1)) = true by rw [dec_true h1, dec_true h2]; rfl, if_pos rfl] at ih
        exact ih
      · rw [show decide (IntKind.wrap .i64 (IntKind.wrap .i64 (y.Na + y.Nb) - n) = -1) = false from dec_false h2, cond_false]
        rw [show (decide (x = y.P) && decide (sideW n y = -1)) = false by rw [dec_false h2, Bool.and_false], if_neg (by decide)] at ih
        exact ih
    · rw [dec_false h1, cond_false]
      rw [show (decide (x = y.P) && decide (sideW n y = -1)) = false by rw [dec_false h1, Bool.false_and], if_neg (by decide)] at ih
      exact ih
  · intro ag _
    rw [F_annuletlaw15_TearSweeps_L3]
    simp only [dec_lt, Nat.lt_irrefl, decide_false, cond_false, List.take_length]
    by_cases h : c + cntL t.2.1 (sideW n y) y.P = 1
    · rw [h]; simp
    · rw [if_neg h, dec_false (by omega)]; rfl

theorem L2_eq (n : Int) (t : Torn4) (told i : Int) (again : (Int × Int) → Option Bool) (y : api_Entry) (ho : t.1.length < 100000000) (hl : t.2.1.length < 100000000) :
    iter (F_annuletlaw15_TearSweeps_L2 n t told i again y) FUEL (0, 0) = if cntO t.1 (sideW n y) y.P + cntL t.2.1 (sideW n y) y.P = 1 then again (IntKind.wrap .i64 (told + 1), IntKind.wrap .i64 (i + 1)) else some false := by
  have h := iter_list (body := F_annuletlaw15_TearSweeps_L2 n t told i again y) t.1 (by omega) (fun _ => True) (fun k => (((cntO (t.1.take k) (sideW n y) y.P : Nat) : Int), ((k : Nat) : Int)))
    (if cntO t.1 (sideW n y) y.P + cntL t.2.1 (sideW n y) y.P = 1 then again (IntKind.wrap .i64 (told + 1), IntKind.wrap .i64 (i + 1)) else some false) ?_ ?_ trivial
  · simpa [cntO] using h
  · intro ag k x hk hx _ ih
    have ih := ih trivial
    have hs : t.1.take (k + 1) = t.1.take k ++ [x] := by rw [List.take_add_one, hx]; rfl
    have hle := cntO_le (t.1.take k) (sideW n y) y.P
    rw [List.length_take] at hle
    unfold cntO at ih hle
    rw [hs, List.countP_append, List.countP_singleton] at ih
    rw [F_annuletlaw15_TearSweeps_L2]
    unfold cntO
    simp only [dec_lt, dec_true hk, cond_true, ixL_of, hx, Option.bind_some, wrap1 (show k < 4611686018427387904 by omega)]
    rw [wrap1 (by omega)]
    by_cases h1 : x.F.P = y.P
    · rw [dec_true h1, cond_true]
      by_cases h2 : x.N = sideW n y
      · rw [show decide (x.N = IntKind.wrap .i64 (IntKind.wrap .i64 (y.Na + y.Nb) - n)) = true from dec_true h2, cond_true]
        by_cases h3 : x.F.Kind = 5
        · rw [dec_true h3, cond_true]
          rw [dec_true h1, dec_true h2, dec_true h3] at ih
          simpa using ih
        · rw [dec_false h3, cond_false]
          rw [dec_true h1, dec_true h2, dec_false h3] at ih
          simpa using ih
      · rw [show decide (x.N = IntKind.wrap .i64 (IntKind.wrap .i64 (y.Na + y.Nb) - n)) = false from dec_false h2, cond_false]
        rw [dec_true h1, dec_false h2] at ih
        simpa using ih
    · rw [dec_false h1, cond_false]
      rw [dec_false h1] at ih
      simpa using ih
  · intro ag _
    rw [F_annuletlaw15_TearSweeps_L2]
    simp only [dec_lt, Nat.lt_irrefl, decide_false, cond_false, List.take_length]
    have := cntO_le t.1 (sideW n y) y.P
    exact L3_eq n t told i again y _ (by omega) (by omega)

theorem sideW_eq {n : Int} {y : api_Entry} (hr : rightE y = true) (ho : overE n y = true) : sideW n y = sideE n y := by
  obtain ⟨a, b, c, d, e⟩ := right_ge hr
  unfold overE at ho
  simp only [Bool.and_eq_true, Bool.or_eq_true, decide_eq_true_eq] at ho
  unfold sideW sideE
  rw [w64 (z := y.Na + y.Nb) (by omega) (by omega), w64 (by omega) (by omega)]
  split <;> omega
theorem hopO_cnt (s : Int) (p : api_Path) (side : Int) (q : api_Path) : cntO (hopO s p) side q = if 0 ≤ s ∧ p = q ∧ s = side then 1 else 0 := by
  unfold cntO hopO
  by_cases h0 : 0 ≤ s
  · rw [if_pos h0, List.countP_singleton]
    by_cases h1 : p = q <;> by_cases h2 : s = side <;> first | (simp [h0, h1, h2, dropF]; done) | (simp [h1, h2, dropF]; omega)
  · rw [if_neg h0]; simp [h0]
theorem hopL_cnt (s : Int) (p : api_Path) (side : Int) (q : api_Path) : cntL (hopL s p) side q = if s < 0 ∧ p = q ∧ side = -1 then 1 else 0 := by
  unfold cntL hopL
  by_cases h0 : 0 ≤ s
  · rw [if_pos h0]; simp [show ¬ s < 0 by omega]
  · rw [if_neg h0, List.countP_singleton]
    by_cases h1 : p = q <;> by_cases h2 : side = -1 <;> simp [show s < 0 by omega, h1, h2]
/-- others' tidings don't count -/
theorem cnt_other (n side : Int) (q : api_Path) : ∀ (l : List api_Entry), (∀ x ∈ l, x.P ≠ q) → cntO (deadO n l) side q = 0 ∧ cntL (deadL n l) side q = 0
  | [], _ => ⟨rfl, rfl⟩
  | x :: l, h => by
    have ih := cnt_other n side q l (fun y hy => h y (by simp [hy]))
    have e : x :: l = [x] ++ l := rfl
    have hx := h x (by simp)
    have a1 := hopO_cnt (sideE n x) x.P side q
    have a2 := hopL_cnt (sideE n x) x.P side q
    rw [if_neg (fun k => hx k.2.1)] at a1 a2
    rw [e, deadO_app, deadL_app, deadO_one, deadL_one]
    unfold cntO cntL at *
    rw [List.countP_append, List.countP_append]
    omega
theorem cnt_own {n : Int} {l : List api_Entry} (hp : l.Pairwise fun a b => pathLt a.P b.P = true) {y : api_Entry} (hy : y ∈ l) (hs : -1 ≤ sideE n y) : cntO (deadO n l) (sideE n y) y.P + cntL (deadL n l) (sideE n y) y.P = 1 := by
  obtain ⟨a, b, rfl⟩ := List.append_of_mem hy
  rw [List.pairwise_append, List.pairwise_cons] at hp
  have ha : ∀ x ∈ a, x.P ≠ y.P := fun x hx e => by
    have := hp.2.2 x hx y (by simp)
    rw [e, pathLt_irrefl] at this; cases this
  have hb : ∀ x ∈ b, x.P ≠ y.P := fun x hx e => by
    have := hp.2.1.1 x hx
    rw [e, pathLt_irrefl] at this; cases this
  obtain ⟨a1, a2⟩ := cnt_other n (sideE n y) y.P a ha
  obtain ⟨b1, b2⟩ := cnt_other n (sideE n y) y.P b hb
  have c1 := hopO_cnt (sideE n y) y.P (sideE n y) y.P
  have c2 := hopL_cnt (sideE n y) y.P (sideE n y) y.P
  have e : a ++ y :: b = a ++ ([y] ++ b) := rfl
  rw [e, deadO_app, deadL_app, deadO_app, deadL_app, deadO_one, deadL_one]
  unfold cntO cntL at *
  rw [List.countP_append, List.countP_append, List.countP_append, List.countP_append]
  by_cases h0 : 0 ≤ sideE n y
  · rw [if_pos ⟨h0, rfl, rfl⟩] at c1
    rw [if_neg (fun k => by omega)] at c2
    omega
  · rw [if_neg (fun k => by omega)] at c1
    rw [if_pos ⟨by omega, rfl, by omega⟩] at c2
    omega

theorem TearSweeps_true (l : List api_Entry) (n : Int) (hl : l.length < 1000000000) : F_annuletlaw15_TearSweeps l n = some true := by
  unfold F_annuletlaw15_TearSweeps
  obtain ⟨ok, hlen, hr⟩ := laidM_ok l
  rw [laid_eq l hl, fixed_eq]
  simp only [Option.bind_some, Bool.not_true, cond_false]
  generalize laidM l = m at *
  rw [table_All_eq _ _ (by omega), tear_Dead_eq _ _ _ ok (by omega)]
  simp only [Option.bind_some]
  have hv := viaL_len n m
  have hd := dead_len n (viaL n m)
  have hel := ents_len m
  have hmd := deadM_len m (viaL n m)
  have hgone : ∀ y ∈ ents m, (deadM m (viaL n m)).get y.P = if overE n y = true then none else some y := by
    intro y hy
    have hy' := (ents_mem ok y).1 hy
    rw [deadM_get, hy']
    by_cases ho : overE n y = true
    · rw [if_pos ho, if_pos (List.mem_map_of_mem ((viaL_mem ok).2 ⟨hy', ho⟩))]
    · rw [if_neg ho, if_neg]
      rw [List.mem_map]
      rintro ⟨x, hx, e⟩
      have hx' := (viaL_mem ok).1 hx
      rw [e, hy'] at hx'
      obtain ⟨h1, h2⟩ := hx'
      rw [← Option.some.inj h1] at h2
      exact ho h2
  refine iter_list (ents m) (by omega) (fun _ => True) (fun i => (((((ents m).take i).countP (overE n) : Nat) : Int), ((i : Nat) : Int))) _ ?_ ?_ trivial
  · intro again i y hi hy _ ih
    have ih := ih trivial
    have hs : (ents m).take (i + 1) = (ents m).take i ++ [y] := by rw [List.take_add_one, hy]; rfl
    rw [hs, List.countP_append, List.countP_singleton] at ih
    have hmem := List.mem_of_getElem? hy
    have hg := hgone y hmem
    have hgy := (ents_mem ok y).1 hmem
    have hry := hr _ _ hgy
    have hcp : ((ents m).take i).countP (overE n) ≤ i := Nat.le_trans List.countP_le_length (by rw [List.length_take]; omega)
    have hin : overE n y = true → (if cntO (deadO n (viaL n m)) (sideW n y) y.P + cntL (deadL n (viaL n m)) (sideW n y) y.P = 1 then again (IntKind.wrap .i64 (((((ents m).take i).countP (overE n) : Nat) : Int) + 1), IntKind.wrap .i64 (((i : Nat) : Int) + 1)) else some false) = some true := by
      intro ho
      rw [sideW_eq hry ho, if_pos (cnt_own (viaL_strict ok n) ((viaL_mem ok).2 ⟨hgy, ho⟩) (by
        obtain ⟨a, b, c, d, e⟩ := right_ge hry
        unfold sideE; split <;> omega)), wrap1 (by omega), wrap1 (by omega)]
      rw [if_pos ho] at ih
      exact ih
    rw [F_annuletlaw15_TearSweeps_L1]
    simp only [dec_lt, dec_true hi, cond_true, ixL_of, hy, Option.bind_some]
    unfold F_table_Table_Get
    rw [hg]
    simp only [Option.bind_some]
    rw [L4_2, L6_2, L8_2]
    rw [L2_eq _ _ _ _ _ _ (by show (deadO n (viaL n m)).length < _; omega) (by show (deadL n (viaL n m)).length < _; omega)]
    by_cases ho : overE n y = true
    · have hin := hin ho
      have ho' := ho
      unfold overE at ho'
      simp only [Bool.and_eq_true, Bool.or_eq_true, decide_eq_true_eq] at ho'
      rw [if_pos ho, dec_true ho'.1]
      by_cases h1 : y.Na = n
      · rw [dec_true h1]
        simp only [cond_true, Option.isSome_none, Bool.false_eq_true, decide_false, cond_false]
        exact hin
      · have h2 : y.Nb = n := by rcases ho'.2 with h | h; exact absurd h h1; exact h
        rw [dec_false h1, dec_true h2]
        simp only [cond_true, Option.isSome_none, Bool.false_eq_true, decide_false, cond_false, Bool.not_true]
        exact hin
    · rw [if_neg ho]
      rw [if_neg ho, Nat.add_zero] at ih
      unfold overE at ho
      by_cases h0 : 0 ≤ n
      · have h1 : ¬ y.Na = n := fun h => ho (by simp [h0, h])
        have h2 : ¬ y.Nb = n := fun h => ho (by simp [h0, h])
        rw [dec_true h0, dec_false h1, dec_false h2]
        simp only [cond_true, cond_false, Option.isSome_some, Option.getD_some, decide_true, Bool.not_true, Bool.not_false, Bool.true_eq_false, decide_false, wrap1 (show i < 4611686018427387904 by omega)]
        exact ih
      · rw [dec_false h0]
        simp only [cond_true, cond_false, Option.isSome_some, Option.getD_some, decide_true, Bool.not_true, Bool.true_eq_false, decide_false, wrap1 (show i < 4611686018427387904 by omega)]
        exact ih
  · intro again _
    rw [F_annuletlaw15_TearSweeps_L1]
    simp only [dec_lt, Nat.lt_irrefl, decide_false, cond_false, List.take_length]
    have hcount : (ents m).countP (overE n) = (viaL n m).length := by unfold viaL; rw [List.countP_eq_length_filter]
    rw [w64 (by omega) (by omega), hcount, dec_true (by omega)]
    simp only [cond_true]
    rw [table_Via_eq _ _ _ (by omega)]
    have hnone : (ents (deadM m (viaL n m))).filter (overE n) = [] := by
      rw [List.filter_eq_nil_iff]
      intro y hy ho
      have h1 := (ents_mem (deadM_ok ok _) y).1 hy
      rw [deadM_get] at h1
      split at h1
      · cases h1
      · rename_i hn
        exact hn (List.mem_map_of_mem ((viaL_mem ok).2 ⟨h1, ho⟩))
    rw [hnone]
    rfl
end Go.Fx
