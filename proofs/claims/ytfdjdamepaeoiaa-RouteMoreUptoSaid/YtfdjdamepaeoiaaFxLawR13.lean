/- The laws of layer 13, as plain laws. -/
import Derived.Test.YtfdjdamepaeoiaaFxRoute13
import Derived.Test.YtfdjdamepaeoiaaFxTabP13
namespace Go.Fx
set_option maxRecDepth 10000

/-! ### a table of entries -/
def laidM (l : List api_Entry) : Tab := l.foldl (fun m x => (tabAdd 128 m x).2) MS.emp
theorem laidM_snoc (l : List api_Entry) (x : api_Entry) : laidM (l ++ [x]) = (tabAdd 128 (laidM l) x).2 := by unfold laidM; rw [List.foldl_append]; rfl
theorem laidM_app (a b : List api_Entry) : laidM (a ++ b) = b.foldl (fun m x => (tabAdd 128 m x).2) (laidM a) := by unfold laidM; rw [List.foldl_append]
theorem laidM_ok (l : List api_Entry) : TabOk (laidM l) ∧ (laidM l).len ≤ 128 := by
  unfold laidM
  suffices h : ∀ (l : List api_Entry) (m : Tab), TabOk m → m.len ≤ 128 → TabOk (l.foldl (fun m x => (tabAdd 128 m x).2) m) ∧ (l.foldl (fun m x => (tabAdd 128 m x).2) m).len ≤ 128 from h l _ TabOk.emp (by decide)
  intro l
  induction l with
  | nil => intro m h1 h2; exact ⟨h1, h2⟩
  | cons x l ih => intro m h1 h2; exact ih _ (add_same h1 128 x).2.2 (tabAdd_len m x 128 128 (Int.le_refl _) h2)
theorem laid_eq (l : List api_Entry) (hl : l.length < 1000000000) : F_annuletlaw13_laid l = some (128, laidM l, ents (laidM l)) := by
  unfold F_annuletlaw13_laid
  rw [show F_table_New 128 = some (128, MS.emp) from rfl, show F_annuletref12_New 128 = some ([], 128) by rfl]
  simp only [Option.bind_some]
  have h := iter_list (body := F_annuletlaw13_laid_L1 l) l (by omega) (fun _ => True) (fun i => ((128 : Int), ents (laidM (l.take i)), (128 : Int), laidM (l.take i), ((i : Nat) : Int))) (some (128, laidM l, ents (laidM l))) ?_ ?_ trivial
  · rw [List.take_zero, show laidM [] = MS.emp from rfl, ents_emp] at h
    exact h
  · intro again i x hi hx _ ih
    have hs : l.take (i + 1) = l.take i ++ [x] := by rw [List.take_add_one, hx]; rfl
    obtain ⟨ok, hlen⟩ := laidM_ok (l.take i)
    obtain ⟨h1, h2, h3⟩ := add_same ok 128 x
    rw [F_annuletlaw13_laid_L1]
    simp only [dec_lt, dec_true hi, cond_true, ixL_of, hx, Option.bind_some, table_Add_eq]
    rw [annuletref12_Add_eq _ _ _ (by rw [ents_len]; omega)]
    simp only [Option.bind_some, wrap1 (show i < 4611686018427387904 by omega)]
    have ih := ih trivial
    rw [hs, laidM_snoc, h2] at ih
    exact ih
  · intro again _
    rw [F_annuletlaw13_laid_L1]
    simp only [dec_lt, Nat.lt_irrefl, decide_false, cond_false, List.take_length]

/-! ### choices -/
def beforeC (d : Idn) (a b : route_Choice) : Bool :=
  if a.ID = b.ID then
    if a.N = -1 then !decide (b.N = -1) else if b.N = -1 then false
    else if a.Near = b.Near then (if a.Near = true then decide (a.N < b.N) else if a.P = b.P then decide (a.N < b.N) else pathLt a.P b.P) else a.Near
  else d.nearer a.ID b.ID
theorem before_eq (d : Idn) (a b : route_Choice) : F_route_Before d a b = some (beforeC d a b) := by
  unfold F_route_Before beforeC
  simp only [table_Less_eq, Option.bind_some]
  by_cases h1 : a.ID = b.ID
  · by_cases h2 : a.N = -1
    · by_cases h3 : b.N = -1 <;> simp [h1, h2, h3]
    · by_cases h3 : b.N = -1
      · simp [h1, h2, h3]
      · by_cases h4 : a.Near = b.Near
        · by_cases h5 : b.Near = true
          · simp [h1, h2, h3, h4, h5]
          · by_cases h6 : a.P = b.P <;> simp [h1, h2, h3, h4, h5, h6]
        · simp [h1, h2, h3, h4]
  · simp [h1]

abbrev zP : api_Path := ⟨Idn.zero, 0⟩
def nearC (x : api_Near) : route_Choice := ⟨x.ID, true, zP, x.N⟩
def entC (x : api_Entry) : List route_Choice := (if 0 ≤ x.Na then [⟨x.A, false, x.P, x.Na⟩] else []) ++ (if 0 ≤ x.Nb then [⟨x.B, false, x.P, x.Nb⟩] else [])
def knownC (self : Idn) (nears : List api_Near) (es : List api_Entry) : List route_Choice := [⟨self, false, zP, -1⟩] ++ nears.map nearC ++ es.flatMap entC
theorem entC_len (x : api_Entry) : (entC x).length ≤ 2 := by unfold entC; split <;> split <;> simp
theorem flat_len (es : List api_Entry) : (es.flatMap entC).length ≤ 2 * es.length := by
  induction es with
  | nil => simp
  | cons x es ih => rw [List.flatMap_cons, List.length_append, List.length_cons]; have := entC_len x; omega
theorem known_eq (self : Idn) (nears : List api_Near) (most : Int) (m : Tab) (hn : nears.length < 1000000000) (hm : m.len < 1000000) : F_route_Known self nears most m = some (knownC self nears (ents m)) := by
  unfold F_route_Known
  refine iter_list (body := F_route_Known_L1 nears most m) nears (by omega) (fun _ => True) (fun i => ([⟨self, false, zP, -1⟩] ++ (nears.take i).map nearC, ((i : Nat) : Int))) _ ?_ ?_ trivial
  · intro again i x hi hx _ ih
    rw [F_route_Known_L1]
    simp only [dec_lt, dec_true hi, cond_true, ixL_of, hx, Option.bind_some]
    rw [appG_of (by simp only [List.length_append, List.length_singleton, List.length_map, List.length_take]; omega)]
    simp only [Option.bind_some, wrap1 (show i < 4611686018427387904 by omega)]
    have ih := ih trivial
    rw [show nears.take (i + 1) = nears.take i ++ [x] by rw [List.take_add_one, hx]; rfl, List.map_append, ← List.append_assoc] at ih
    exact ih
  · intro again _
    rw [F_route_Known_L1]
    simp only [dec_lt, Nat.lt_irrefl, decide_false, cond_false, List.take_length, table_All_eq _ _ (show m.len < 1000000000 by omega), Option.bind_some]
    have hel : (ents m).length < 1000000 := by rw [ents_len]; exact hm
    have h := iter_list (body := F_route_Known_L2 (ents m)) (ents m) (by omega) (fun _ => True) (fun i => ([⟨self, false, zP, -1⟩] ++ nears.map nearC ++ ((ents m).take i).flatMap entC, ((i : Nat) : Int))) (some (knownC self nears (ents m))) ?_ ?_ trivial
    · rw [List.take_zero, List.flatMap_nil, List.append_nil] at h
      exact h
    · intro again i x hi hx _ ih
      rw [F_route_Known_L2]
      simp only [dec_lt, dec_true hi, cond_true, ixL_of, hx, Option.bind_some]
      have ih := ih trivial
      rw [show (ents m).take (i + 1) = (ents m).take i ++ [x] by rw [List.take_add_one, hx]; rfl, List.flatMap_append] at ih
      have hb := flat_len ((ents m).take i)
      have hb2 : ((ents m).take i).length ≤ 1000000 := by rw [List.length_take]; omega
      generalize hL : [(⟨self, false, zP, -1⟩ : route_Choice)] ++ nears.map nearC ++ ((ents m).take i).flatMap entC = L at ih ⊢
      have hLl : L.length < 10000000000 := by
        rw [← hL]; simp only [List.length_append, List.length_singleton, List.length_map]; omega
      rw [← List.append_assoc, hL] at ih
      have e1 : [x].flatMap entC = entC x := by simp
      rw [e1] at ih
      unfold entC at ih
      by_cases h1 : 0 ≤ x.Na
      · rw [dec_true h1, cond_true, appG_of (by simp only [List.length_singleton]; omega)]
        simp only [Option.bind_some]
        by_cases h2 : 0 ≤ x.Nb
        · rw [dec_true h2, cond_true, appG_of (by simp only [List.length_append, List.length_singleton]; omega)]
          simp only [Option.bind_some, wrap1 (show i < 4611686018427387904 by omega)]
          rw [if_pos h1, if_pos h2, ← List.append_assoc] at ih
          exact ih
        · rw [dec_false h2, cond_false]
          simp only [wrap1 (show i < 4611686018427387904 by omega)]
          rw [if_pos h1, if_neg h2, List.append_nil] at ih
          exact ih
      · rw [dec_false h1, cond_false]
        by_cases h2 : 0 ≤ x.Nb
        · rw [dec_true h2, cond_true, appG_of (by simp only [List.length_singleton]; omega)]
          simp only [Option.bind_some, wrap1 (show i < 4611686018427387904 by omega)]
          rw [if_neg h1, if_pos h2, List.nil_append] at ih
          exact ih
        · rw [dec_false h2, cond_false]
          simp only [wrap1 (show i < 4611686018427387904 by omega)]
          rw [if_neg h1, if_neg h2, List.append_nil, List.append_nil] at ih
          exact ih
    · intro again _
      rw [F_route_Known_L2]
      simp only [dec_lt, Nat.lt_irrefl, decide_false, cond_false, List.take_length]
      rfl

def chooseC (d self : Idn) (l : List route_Choice) : route_Choice := l.foldl (fun b x => if beforeC d x b then x else b) ⟨self, false, zP, -1⟩
theorem choose_eq (d self : Idn) (nears : List api_Near) (most : Int) (m : Tab) (hn : nears.length < 1000000000) (hm : m.len < 1000000) : F_route_Choose d self nears most m = some (chooseC d self (knownC self nears (ents m))) := by
  unfold F_route_Choose
  rw [known_eq self nears most m hn hm]
  simp only [Option.bind_some]
  have hb := flat_len (ents m)
  have hel : (ents m).length < 1000000 := by rw [ents_len]; exact hm
  have hKl : (knownC self nears (ents m)).length < 10000000000 := by unfold knownC; simp only [List.length_append, List.length_singleton, List.length_map]; omega
  generalize knownC self nears (ents m) = K at *
  refine iter_list (body := F_route_Choose_L1 d K) K (by omega) (fun _ => True) (fun i => (chooseC d self (K.take i), ((i : Nat) : Int))) _ ?_ ?_ trivial
  · intro again i x hi hx _ ih
    rw [F_route_Choose_L1]
    simp only [dec_lt, dec_true hi, cond_true, ixL_of, hx, Option.bind_some, before_eq, wrap1 (show i < 4611686018427387904 by omega)]
    have ih := ih trivial
    have hs : chooseC d self (K.take (i + 1)) = if beforeC d x (chooseC d self (K.take i)) then x else chooseC d self (K.take i) := by
      rw [List.take_add_one, hx]; unfold chooseC; rw [List.foldl_append]; rfl
    rw [hs] at ih
    cases hc : beforeC d x (chooseC d self (K.take i)) with
    | true => rw [hc, if_pos rfl] at ih; exact ih
    | false => rw [hc, if_neg (by simp)] at ih; exact ih
  · intro again _
    rw [F_route_Choose_L1]
    simp only [dec_lt, Nat.lt_irrefl, decide_false, cond_false, List.take_length]

/-! ### the chapter's examples -/
def bid (z : Nat) : Idn := idnOf ((List.replicate 16 0).set 15 z)
theorem n_eq (z : Nat) (hz : z < 256) : F_annuletlaw13_n (z : Int) = some (bid z) := by
  unfold F_annuletlaw13_n mkIdn
  simp only [mkIdnL]
  rw [if_pos (by omega)]
  rfl
theorem fixed_eq : F_annuletlaw13_fixed = some true := by
  have n5 := n_eq 5 (by decide)
  have n20 := n_eq 20 (by decide)
  have n9 := n_eq 9 (by decide)
  have n21 := n_eq 21 (by decide)
  have n7 := n_eq 7 (by decide)
  unfold F_annuletlaw13_fixed
  rw [show (5 : Int) = ((5 : Nat) : Int) from rfl, show (20 : Int) = ((20 : Nat) : Int) from rfl, show (9 : Int) = ((9 : Nat) : Int) from rfl, show (21 : Int) = ((21 : Nat) : Int) from rfl, show (7 : Int) = ((7 : Nat) : Int) from rfl]
  rw [n5, n20, n9, n21, n7]
  simp only [Option.bind_some]
  generalize hx : (⟨⟨Idn.zero, 1⟩, bid 5, bid 20, -1, 2⟩ : api_Entry) = x
  rw [laid_eq [x] (by simp)]
  simp only [Option.bind_some]
  have hg : (MS.emp : Tab).get x.P = none := rfl
  have hm : laidM [x] = MS.emp.put x.P x := by
    show (tabAdd 128 MS.emp x).2 = _
    unfold tabAdd
    rw [if_neg (by rw [← hx]; decide), if_neg (by rw [hg]; simp), if_neg (by decide)]
  have he : ents (laidM [x]) = [x] := by rw [hm, ents_put TabOk.emp hg, ents_emp]; rfl
  have hlen : (laidM [x]).len < 1000000 := Nat.lt_of_le_of_lt (laidM_ok [x]).2 (by decide)
  rw [choose_eq _ _ _ _ _ (by simp) hlen, choose_eq _ _ _ _ _ (by simp) hlen, he, ← hx]
  decide +kernel
end Go.Fx
