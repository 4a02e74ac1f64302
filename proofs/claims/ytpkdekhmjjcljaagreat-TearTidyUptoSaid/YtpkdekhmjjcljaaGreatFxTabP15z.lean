/- What a table does, told by the list of its entries in the order of their paths; the document's table does the same. -/
import Derived.Test.YtpkdekhmjjcljaaGreatFxRouteA15z
import Derived.Test.YtpkdekhmjjcljaaGreatFxP
namespace Go.Fx
set_option maxRecDepth 10000

def rightE (x : api_Entry) : Bool := !decide (x.A = x.B) && (!decide (x.Na = x.Nb) && (decide (-1 ≤ x.Na) && (decide (x.Na ≤ 5) && (decide (-1 ≤ x.Nb) && decide (x.Nb ≤ 5)))))
theorem annuletref12_Right_eq (x : api_Entry) : F_annuletref12_Right x = some (rightE x) := by
  unfold F_annuletref12_Right rightE
  cases decide (x.A = x.B) <;> cases decide (x.Na = x.Nb) <;> cases decide (-1 ≤ x.Na) <;> cases decide (x.Na ≤ 5) <;> cases decide (-1 ≤ x.Nb) <;> rfl
theorem table_Right_f1_eq (z : Int) : F_table_Right_f1 z = some (decide (-1 ≤ z) && decide (z ≤ 5)) := by
  unfold F_table_Right_f1
  rw [show decide (z < 6) = decide (z ≤ 5) by rw [decide_eq_decide]; omega]
  cases decide (-1 ≤ z) <;> rfl
theorem table_Right_eq (x : api_Entry) : F_table_Right x = some (rightE x) := by
  unfold F_table_Right rightE
  rw [table_Right_f1_eq, table_Right_f1_eq]
  simp only [Option.bind_some]
  cases decide (x.A = x.B) <;> cases decide (x.Na = x.Nb) <;> cases decide (-1 ≤ x.Na) <;> cases decide (x.Na ≤ 5) <;> cases decide (-1 ≤ x.Nb) <;> cases decide (x.Nb ≤ 5) <;> rfl
theorem annuletref12_Less_eq (a b : api_Path) : F_annuletref12_Less a b = some (pathLt a b) := by
  unfold F_annuletref12_Less pathLt
  by_cases h : a.Who = b.Who
  · simp [h]
  · simp [h]

abbrev Tab := MS api_Path api_Entry
def tabAdd (most : Int) (m : Tab) (x : api_Entry) : Int × Tab :=
  if rightE x = false then (1, m) else if (m.get x.P).isSome then (7, m) else if most ≤ (m.len : Int) then (5, m) else (0, m.put x.P x)
theorem table_Add_eq (most : Int) (m : Tab) (x : api_Entry) : F_table_Table_Add most m x = some ((tabAdd most m x).1, most, (tabAdd most m x).2) := by
  unfold F_table_Table_Add tabAdd F_table_Table_has
  rw [table_Right_eq]
  simp only [Option.bind_some]
  cases rightE x
  · rfl
  · cases h : (m.get x.P).isSome
    · by_cases h2 : most ≤ (m.len : Int)
      · simp [h2]
      · simp [h2]
    · simp

/-! ### the entries in order -/
def ents (m : Tab) : List api_Entry := (keysS m).map fun p => (m.get p).getD api_Entry.zero
/-- each entry lies under its own path -/
def TabOk (m : Tab) : Prop := ∀ k v, m.get k = some v → v.P = k

theorem sortP_sorted (l : List api_Path) : (sortL pathCmp l).Pairwise fun x y => pathLt y x = false := by
  have := List.pairwise_mergeSort (le := fun x y => !(Go.Proofs.ltOf pathCmp) y x) (fun x y z h1 h2 => by
    rw [pcmp_lt] at *
    simp only [Bool.not_eq_true'] at *
    cases h : pathLt z x with
    | false => rfl
    | true =>
      cases h3 : pathLt x y with
      | true => rw [pathLt_trans h h3] at h2; cases h2
      | false => have := pathLt_total h3 h1; subst this; rw [h] at h2; cases h2) (fun x y => by
    rw [pcmp_lt, pcmp_lt]
    cases h : pathLt y x with
    | false => rfl
    | true => rw [pathLt_asymm h]; rfl) l
  refine this.imp ?_
  intro x y h
  rw [pcmp_lt] at h
  simpa using h
theorem keysS_perm (m : Tab) : (keysS m).Perm (m.l.map (·.key)) := List.mergeSort_perm _ _
theorem keysS_mem (m : Tab) (p : api_Path) : p ∈ keysS m ↔ (m.get p).isSome = true := by rw [(keysS_perm m).mem_iff, MS.get_some]
theorem keysS_strict (m : Tab) : (keysS m).Pairwise fun a b => pathLt a b = true := by
  have hn : (sortL pathCmp (m.l.map (·.key))).Nodup := (keysS_perm m).nodup_iff.2 m.ok.keys
  have h1 := sortP_sorted (m.l.map (·.key))
  have h2 : (sortL pathCmp (m.l.map (·.key))).Pairwise (· ≠ ·) := hn
  refine List.Pairwise.imp ?_ (h1.and h2)
  rintro x y ⟨h1, h2⟩
  cases h : pathLt x y with
  | true => rfl
  | false => exact absurd (pathLt_total h h1) h2
theorem ents_len (m : Tab) : (ents m).length = m.len := by unfold ents; rw [List.length_map, (keysS_perm m).length_eq, List.length_map]; rfl
theorem ents_mem {m : Tab} (ok : TabOk m) (x : api_Entry) : x ∈ ents m ↔ m.get x.P = some x := by
  unfold ents
  rw [List.mem_map]
  constructor
  · rintro ⟨p, hp, rfl⟩
    rw [keysS_mem] at hp
    obtain ⟨v, hv⟩ := Option.isSome_iff_exists.1 hp
    rw [hv]
    simp only [Option.getD_some]
    rw [ok p v hv, hv]
  · intro h
    exact ⟨x.P, by rw [keysS_mem, h]; rfl, by rw [h]; rfl⟩
theorem ents_strict {m : Tab} (ok : TabOk m) : (ents m).Pairwise fun a b => pathLt a.P b.P = true := by
  unfold ents
  rw [List.pairwise_map]
  refine (keysS_strict m).imp_of_mem ?_
  intro a b ha hb h
  rw [keysS_mem] at ha hb
  obtain ⟨u, hu⟩ := Option.isSome_iff_exists.1 ha
  obtain ⟨v, hv⟩ := Option.isSome_iff_exists.1 hb
  rw [hu, hv]
  simp only [Option.getD_some]
  rw [ok _ _ hu, ok _ _ hv]
  exact h
theorem entLt_irr (a : api_Entry) : ¬ pathLt a.P a.P = true := by rw [pathLt_irrefl]; simp
theorem entLt_tr (a b c : api_Entry) : pathLt a.P b.P = true → pathLt b.P c.P = true → pathLt a.P c.P = true := pathLt_trans
/-- lists of entries in order are told by what they hold -/
theorem ents_ext {a b : List api_Entry} (ha : a.Pairwise fun a b => pathLt a.P b.P = true) (hb : b.Pairwise fun a b => pathLt a.P b.P = true) (h : ∀ x, x ∈ a ↔ x ∈ b) : a = b :=
  strict_ext entLt_irr entLt_tr ha hb h

theorem ents_find {m : Tab} (ok : TabOk m) (p : api_Path) : (ents m).find? (fun x => decide (x.P = p)) = m.get p := by
  cases h : m.get p with
  | none =>
    rw [List.find?_eq_none]
    intro x hx
    rw [ents_mem ok] at hx
    simp only [decide_eq_true_eq]
    rintro rfl
    rw [h] at hx; cases hx
  | some v =>
    have hP := ok p v h
    have hv : v ∈ ents m := by rw [ents_mem ok, hP, h]
    cases hf : (ents m).find? (fun x => decide (x.P = p)) with
    | none =>
      rw [List.find?_eq_none] at hf
      exact absurd hP (by simpa using hf v hv)
    | some u =>
      have h1 := List.mem_of_find?_eq_some hf
      have h2 := List.find?_some hf
      simp only [decide_eq_true_eq] at h2
      rw [ents_mem ok, h2, h] at h1
      exact h1.symm

/-- where an entry comes in -/
def insE (x : api_Entry) (l : List api_Entry) : List api_Entry := l.takeWhile (fun y => pathLt y.P x.P) ++ x :: l.dropWhile (fun y => pathLt y.P x.P)
theorem insE_mem {x : api_Entry} {l : List api_Entry} {y : api_Entry} : y ∈ insE x l ↔ y = x ∨ y ∈ l := by
  unfold insE
  rw [List.mem_append, List.mem_cons]
  have h : y ∈ l ↔ y ∈ l.takeWhile (fun y => pathLt y.P x.P) ∨ y ∈ l.dropWhile (fun y => pathLt y.P x.P) := by
    rw [← List.mem_append, List.takeWhile_append_dropWhile]
  rw [h]
  constructor
  · rintro (h | h | h)
    · exact .inr (.inl h)
    · exact .inl h
    · exact .inr (.inr h)
  · rintro (h | h | h)
    · exact .inr (.inl h)
    · exact .inl h
    · exact .inr (.inr h)
theorem takeWhile_all {α : Type} {q : α → Bool} : ∀ {l : List α} {y : α}, y ∈ l.takeWhile q → q y = true
  | [], y, h => by simp at h
  | x :: l, y, h => by
    rw [List.takeWhile_cons] at h
    split at h
    · rcases List.mem_cons.1 h with rfl | h
      · assumption
      · exact takeWhile_all h
    · simp at h
theorem insE_strict {x : api_Entry} {l : List api_Entry} (hl : l.Pairwise fun a b => pathLt a.P b.P = true) (hx : ∀ y ∈ l, y.P ≠ x.P) : (insE x l).Pairwise fun a b => pathLt a.P b.P = true := by
  unfold insE
  have hs := hl
  rw [← List.takeWhile_append_dropWhile (p := fun y : api_Entry => pathLt y.P x.P) (l := l), List.pairwise_append] at hs
  have hd : ∀ y ∈ l.dropWhile (fun y => pathLt y.P x.P), pathLt x.P y.P = true := by
    intro y hy
    have hyl : y ∈ l := by rw [← List.takeWhile_append_dropWhile (p := fun y : api_Entry => pathLt y.P x.P) (l := l)]; exact List.mem_append.2 (.inr hy)
    have hne : (l.dropWhile (fun y => pathLt y.P x.P)) ≠ [] := by intro e; rw [e] at hy; cases hy
    have hh := List.head_dropWhile_not (fun y : api_Entry => pathLt y.P x.P) hne
    have key : pathLt y.P x.P = false := by
      cases hc : l.dropWhile (fun y => pathLt y.P x.P) with
      | nil => exact absurd hc hne
      | cons z zs =>
        simp only [hc, List.head_cons] at hh
        rw [hc] at hy
        rcases List.mem_cons.1 hy with rfl | hy
        · exact hh
        · have h2 := hs.2.1
          rw [hc, List.pairwise_cons] at h2
          cases h3 : pathLt y.P x.P with
          | false => rfl
          | true => rw [pathLt_trans (h2.1 y hy) h3] at hh; cases hh
    cases h : pathLt x.P y.P with
    | true => rfl
    | false => exact absurd (pathLt_total key h) (hx y hyl)
  rw [List.pairwise_append, List.pairwise_cons]
  refine ⟨hs.1, ⟨hd, hs.2.1⟩, ?_⟩
  intro a ha b hb
  have h1 : pathLt a.P x.P = true := takeWhile_all (q := fun y : api_Entry => pathLt y.P x.P) ha
  rcases List.mem_cons.1 hb with rfl | hb
  · exact h1
  · exact pathLt_trans h1 (hd b hb)

theorem TabOk.put {m : Tab} (ok : TabOk m) {x : api_Entry} (h : m.get x.P = none) : TabOk (m.put x.P x) := by
  intro k v hv
  rw [MS.get_put_new h] at hv
  split at hv
  · cases hv; rename_i e; exact e.symm
  · exact ok k v hv
theorem TabOk.del {m : Tab} (ok : TabOk m) (p : api_Path) : TabOk (m.del p) := by
  intro k v hv
  rw [MS.get_del] at hv
  split at hv
  · cases hv
  · exact ok k v hv
theorem TabOk.emp : TabOk MS.emp := fun k v h => by rw [MS.get_emp] at h; cases h
theorem ents_put {m : Tab} (ok : TabOk m) {x : api_Entry} (h : m.get x.P = none) : ents (m.put x.P x) = insE x (ents m) := by
  refine ents_ext (ents_strict (ok.put h)) (insE_strict (ents_strict ok) ?_) ?_
  · intro y hy e
    rw [ents_mem ok, e, h] at hy; cases hy
  · intro y
    rw [ents_mem (ok.put h), insE_mem, ents_mem ok, MS.get_put_new h]
    constructor
    · intro hy
      split at hy
      · exact .inl (Option.some.inj hy).symm
      · exact .inr hy
    · rintro (rfl | hy)
      · rw [if_pos rfl]
      · rw [if_neg (fun e => by rw [e, h] at hy; cases hy)]; exact hy
theorem ents_del {m : Tab} (ok : TabOk m) (p : api_Path) : ents (m.del p) = (ents m).filter fun x => !decide (x.P = p) := by
  refine ents_ext (ents_strict (ok.del p)) ((ents_strict ok).filter _) ?_
  intro y
  rw [ents_mem (ok.del p), List.mem_filter, ents_mem ok, MS.get_del]
  by_cases e : y.P = p
  · simp [e]
  · simp [e]
theorem ents_emp : ents MS.emp = [] := List.length_eq_zero_iff.1 (by rw [ents_len]; rfl)

/-! ### what is asked of a table -/
theorem table_of_eq (most : Int) (m : Tab) (q : api_Entry → Option Bool) (q' : api_Entry → Bool) (hq : ∀ x, q x = some (q' x)) (hlen : m.len < 1000000000) : F_table_Table_of most m q = some ((ents m).filter q') := by
  unfold F_table_Table_of keysF
  rw [if_pos (by omega)]
  simp only [Option.bind_some]
  have hkl : (keysS m).length = m.len := by rw [(keysS_perm m).length_eq, List.length_map]; rfl
  refine iter_list (keysS m) (by omega) (fun _ => True) (fun i => (((((keysS m).take i).map fun p => (m.get p).getD api_Entry.zero).filter q'), (i : Int))) _ ?_ ?_ trivial
  · intro again i p hi hp _ ih
    rw [F_table_Table_of_L1]
    simp only [dec_lt, dec_true hi, cond_true, ixL_of, hp, Option.bind_some, hq]
    have ih := ih trivial
    have hstep : (((keysS m).take (i + 1)).map fun p => (m.get p).getD api_Entry.zero).filter q' = ((((keysS m).take i).map fun p => (m.get p).getD api_Entry.zero).filter q') ++ ([(m.get p).getD api_Entry.zero].filter q') := by
      rw [List.take_add_one, hp]; simp
    have hlen2 : (((((keysS m).take i).map fun p => (m.get p).getD api_Entry.zero).filter q')).length ≤ m.len := by
      refine Nat.le_trans (List.length_filter_le _ _) ?_
      rw [List.length_map, List.length_take]; omega
    cases hc : q' ((m.get p).getD api_Entry.zero) with
    | true =>
      simp only [cond_true]
      rw [appG_of (by simp only [List.length_singleton]; omega)]
      simp only [Option.bind_some, wrap1 (show i < 4611686018427387904 by omega)]
      rw [hstep, List.filter_cons_of_pos hc, List.filter_nil] at ih
      exact ih
    | false =>
      simp only [cond_false, wrap1 (show i < 4611686018427387904 by omega)]
      rw [hstep, List.filter_cons_of_neg (by simp [hc]), List.filter_nil, List.append_nil] at ih
      exact ih
  · intro again _
    rw [F_table_Table_of_L1]
    simp only [dec_lt, Nat.lt_irrefl, decide_false, cond_false, List.take_length]
    rfl
theorem table_All_eq (most : Int) (m : Tab) (hlen : m.len < 1000000000) : F_table_Table_All most m = some (ents m) := by
  unfold F_table_Table_All
  rw [table_of_eq most m (fun y0 => F_table_Table_All_f1 y0) (fun _ => true) (fun _ => rfl) hlen]
  simp

/-! ### the document's table -/
def getL (L : List api_Entry) (p : api_Path) : api_Entry × Bool := match L.find? (fun x => decide (x.P = p)) with
  | some x => (x, true)
  | none => (api_Entry.zero, false)
theorem annuletref12_Get_eq (L : List api_Entry) (most : Int) (p : api_Path) (hlen : L.length < 1000000000) : F_annuletref12_Table_Get L most p = some (getL L p) := by
  unfold F_annuletref12_Table_Get
  refine iter_list L (by omega) (fun i => ∀ y ∈ L.take i, y.P ≠ p) (fun i => ((i : Nat) : Int)) _ ?_ ?_ (by simp)
  · intro again i x hi hx hI ih
    rw [F_annuletref12_Table_Get_L1]
    simp only [dec_lt, dec_true hi, cond_true, ixL_of, hx, Option.bind_some]
    by_cases hc : x.P = p
    · rw [dec_true hc, cond_true]
      have : L.find? (fun x => decide (x.P = p)) = some x := by
        rw [← List.take_append_drop i L, List.find?_append, List.find?_eq_none.2 (by simpa using hI)]
        have : L.drop i = x :: L.drop (i + 1) := by
          rw [List.drop_eq_getElem_cons hi]
          congr
          rw [List.getElem?_eq_getElem hi] at hx
          exact Option.some.inj hx
        rw [this]; simp [hc]
      unfold getL
      rw [this]
    · rw [dec_false hc, cond_false, wrap1 (by omega)]
      refine ih ?_
      intro y hy
      rw [List.take_add_one, hx] at hy
      rcases List.mem_append.1 hy with hy | hy
      · exact hI y hy
      · simp at hy; subst hy; exact hc
  · intro again hI
    rw [F_annuletref12_Table_Get_L1]
    simp only [dec_lt, Nat.lt_irrefl, decide_false, cond_false]
    have : L.find? (fun x => decide (x.P = p)) = none := by
      rw [List.find?_eq_none]
      rw [List.take_length] at hI
      simpa using hI
    unfold getL
    rw [this]
    rfl

def addL (most : Int) (L : List api_Entry) (x : api_Entry) : Int × List api_Entry :=
  if rightE x = false then (1, L) else if (L.find? (fun y => decide (y.P = x.P))).isSome then (7, L) else if most ≤ (L.length : Int) then (5, L) else (0, insE x L)
theorem getL_snd (L : List api_Entry) (p : api_Path) : (getL L p).2 = (L.find? (fun x => decide (x.P = p))).isSome := by
  unfold getL; cases L.find? (fun x => decide (x.P = p)) <;> rfl
theorem annuletref12_Add_eq (L : List api_Entry) (most : Int) (x : api_Entry) (hlen : L.length < 1000000000) : F_annuletref12_Table_Add L most x = some ((addL most L x).1, (addL most L x).2, most) := by
  unfold F_annuletref12_Table_Add addL
  rw [annuletref12_Right_eq, annuletref12_Get_eq _ _ _ hlen]
  simp only [Option.bind_some, getL_snd]
  cases rightE x
  · rfl
  · cases h : (L.find? (fun y => decide (y.P = x.P))).isSome
    · by_cases h2 : most ≤ (L.length : Int)
      · simp [h2]
      · simp only [Bool.not_true, cond_false, dec_false h2, if_neg h2, Bool.true_eq_false, if_false, Bool.false_eq_true]
        -- the loop takes those ahead
        refine iter_list L (by omega) (fun i => L.takeWhile (fun y => pathLt y.P x.P) = L.take i ++ (L.drop i).takeWhile (fun y => pathLt y.P x.P) ∧ L.dropWhile (fun y => pathLt y.P x.P) = (L.drop i).dropWhile (fun y => pathLt y.P x.P)) (fun i => (L.take i, ((i : Nat) : Int))) _ ?_ ?_ (by simp)
        · intro again i y hi hy hI ih
          have hdr : L.drop i = y :: L.drop (i + 1) := by
            rw [List.drop_eq_getElem_cons hi]
            congr
            rw [List.getElem?_eq_getElem hi] at hy
            exact Option.some.inj hy
          rw [F_annuletref12_Table_Add_L1]
          simp only [dec_lt, dec_true hi, cond_true, ixL_of, hy, Option.bind_some, annuletref12_Less_eq]
          cases hc : pathLt y.P x.P with
          | true =>
            rw [cond_true, appG_of (by simp only [List.length_singleton, List.length_take]; omega)]
            simp only [Option.bind_some, wrap1 (show i < 4611686018427387904 by omega)]
            have hs : L.take i ++ [y] = L.take (i + 1) := by rw [List.take_add_one, hy]; rfl
            rw [hs]
            refine ih ⟨?_, ?_⟩
            · rw [hI.1, hdr, List.takeWhile_cons, hc, ← hs]; simp
            · rw [hI.2, hdr, List.dropWhile_cons, hc]; simp
          | false =>
            rw [cond_false, appG_of (by simp only [List.length_singleton, List.length_take]; omega)]
            simp only [Option.bind_some, drpL_nat (Nat.le_of_lt hi)]
            rw [appG_of (by simp only [List.length_append, List.length_singleton, List.length_take, List.length_drop]; omega)]
            simp only [Option.bind_some]
            have e : L.take i ++ [x] ++ L.drop i = insE x L := by
              unfold insE
              rw [hI.1, hI.2, hdr, List.takeWhile_cons, List.dropWhile_cons, hc]
              simp
            rw [e]
        · intro again hI
          rw [F_annuletref12_Table_Add_L1]
          simp only [dec_lt, Nat.lt_irrefl, decide_false, cond_false, List.take_length]
          rw [appG_of (by simp only [List.length_singleton]; omega)]
          simp only [Option.bind_some, drpL_nat (Nat.le_refl _), List.drop_length]
          rw [appG_of (by simp only [List.length_append, List.length_singleton, List.length_nil]; omega)]
          simp only [Option.bind_some]
          have e : L ++ [x] ++ [] = insE x L := by
            unfold insE
            rw [hI.1, hI.2]
            simp
          rw [e]
    · simp

/-- the two tables as one -/
theorem add_same {m : Tab} (ok : TabOk m) (most : Int) (x : api_Entry) : (tabAdd most m x).1 = (addL most (ents m) x).1 ∧ ents (tabAdd most m x).2 = (addL most (ents m) x).2 ∧ TabOk (tabAdd most m x).2 := by
  unfold tabAdd addL
  rw [ents_find ok, ents_len]
  split
  · exact ⟨rfl, rfl, ok⟩
  · split
    · exact ⟨rfl, rfl, ok⟩
    · rename_i h
      have hn : m.get x.P = none := by cases hg : m.get x.P with
        | none => rfl
        | some v => rw [hg] at h; exact absurd rfl h
      split
      · exact ⟨rfl, rfl, ok⟩
      · exact ⟨rfl, ents_put ok hn, ok.put hn⟩
theorem tabAdd_len (m : Tab) (x : api_Entry) (most : Int) (k : Nat) (hk : most ≤ k) (h : m.len ≤ k) : (tabAdd most m x).2.len ≤ k := by
  unfold tabAdd
  split
  · exact h
  · split
    · exact h
    · rename_i h1
      have hn : m.get x.P = none := by cases hg : m.get x.P with
        | none => rfl
        | some v => rw [hg] at h1; exact absurd rfl h1
      split
      · exact h
      · rename_i h2
        rw [MS.len_put_new hn]
        omega
end Go.Fx
