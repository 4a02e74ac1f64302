/- The law TearAsks of layer 15, as a plain law. -/
import Derived.Test.YtpkdekhmjjcljaaGreatFxLawT215z
import Derived.Test.YtpkdekhmjjcljaaGreatFxAskL15z
import Derived.Test.YtpkdekhmjjcljaaGreatFxLawW215z
namespace Go.Fx
set_option maxRecDepth 10000

def ownE (x : api_Entry) : Bool := decide (x.Na = -1) || decide (x.Nb = -1)
def otherE (x : api_Entry) : Idn := if x.Na = -1 then x.B else x.A
theorem Own_f1_eq (x : api_Entry) : F_table_Table_Own_f1 x = some (ownE x) := by
  unfold F_table_Table_Own_f1 ownE
  by_cases h1 : x.Na = -1 <;> simp [h1]
theorem table_Own_eq (most : Int) (m : Tab) (hlen : m.len < 1000000000) : F_table_Table_Own most m = some ((ents m).filter ownE) := by
  unfold F_table_Table_Own
  rw [table_of_eq most m (fun y0 => F_table_Table_Own_f1 y0) ownE (fun x => Own_f1_eq x) hlen]
  rfl
theorem ref12_Own_eq (L : List api_Entry) (most : Int) (hlen : L.length < 1000000000) : F_annuletref12_Table_Own L most = some (L.filter ownE) := by
  unfold F_annuletref12_Table_Own
  refine iter_list L (by omega) (fun _ => True) (fun i => ((L.take i).filter ownE, ((i : Nat) : Int))) _ ?_ ?_ trivial
  · intro again i x hi hx _ ih
    have ih := ih trivial
    have hs : L.take (i + 1) = L.take i ++ [x] := by rw [List.take_add_one, hx]; rfl
    rw [hs, List.filter_append] at ih
    have hlen2 : ((L.take i).filter ownE).length ≤ L.length := Nat.le_trans (List.length_filter_le _ _) (by rw [List.length_take]; omega)
    rw [F_annuletref12_Table_Own_L1]
    simp only [dec_lt, dec_true hi, cond_true, ixL_of, hx, Option.bind_some, wrap1 (show i < 4611686018427387904 by omega)]
    rw [appG_of (by simp only [List.length_singleton]; omega)]
    simp only [Option.bind_some]
    by_cases h1 : x.Na = -1
    · rw [dec_true h1, cond_true]
      rw [List.filter_cons_of_pos (by simp [ownE, h1]), List.filter_nil] at ih
      exact ih
    · rw [dec_false h1, cond_false]
      by_cases h2 : x.Nb = -1
      · rw [dec_true h2, cond_true]
        rw [List.filter_cons_of_pos (by simp [ownE, h2]), List.filter_nil] at ih
        exact ih
      · rw [dec_false h2, cond_false]
        rw [List.filter_cons_of_neg (by simp [ownE, h1, h2]), List.filter_nil, List.append_nil] at ih
        exact ih
  · intro again _
    rw [F_annuletref12_Table_Own_L1]
    simp only [dec_lt, Nat.lt_irrefl, decide_false, cond_false, List.take_length]
theorem Other_eq (x : api_Entry) : ∃ z, F_table_Other x = some (otherE x, z) := by
  unfold F_table_Other otherE
  by_cases h : x.Na = -1 <;> simp [h]
theorem ref12_Other_eq (x : api_Entry) : ∃ z, F_annuletref12_Other x = some (otherE x, z) := by
  unfold F_annuletref12_Other otherE
  by_cases h : x.Na = -1 <;> simp [h]
def friendsL (self : Idn) (own : List api_Entry) : List Idn := sorted self (own.map otherE)
theorem tear_Friends_eq (most : Int) (m : Tab) (self : Idn) (hlen : m.len < 1000000) : F_tear_Friends most m self = some (friendsL self ((ents m).filter ownE)) := by
  unfold F_tear_Friends
  rw [table_Own_eq most m (by omega)]
  simp only [Option.bind_some]
  have hle : ((ents m).filter ownE).length ≤ m.len := by rw [← ents_len]; exact List.length_filter_le _ _
  generalize (ents m).filter ownE = own at *
  refine iter_list own (by omega) (fun _ => True) (fun i => ((own.take i).map otherE, ((i : Nat) : Int))) _ ?_ ?_ trivial
  · intro again i x hi hx _ ih
    have ih := ih trivial
    have hs : own.take (i + 1) = own.take i ++ [x] := by rw [List.take_add_one, hx]; rfl
    rw [hs, List.map_append] at ih
    obtain ⟨z, hz⟩ := Other_eq x
    rw [F_tear_Friends_L1]
    simp only [dec_lt, dec_true hi, cond_true, ixL_of, hx, Option.bind_some, hz, wrap1 (show i < 4611686018427387904 by omega)]
    rw [appG_of (by simp only [List.length_map, List.length_take, List.length_singleton]; omega)]
    simp only [Option.bind_some]
    exact ih
  · intro again _
    rw [F_tear_Friends_L1]
    simp only [dec_lt, Nat.lt_irrefl, decide_false, cond_false, List.take_length]
    rw [ringSorted_eq _ _ (by rw [List.length_map]; omega)]
    rfl
theorem ref15_Friends_eq (L : List api_Entry) (most : Int) (self : Idn) (hlen : L.length < 1000000) : F_annuletref15_Friends L most self = some (friendsL self (L.filter ownE)) := by
  unfold F_annuletref15_Friends
  rw [ref12_Own_eq L most (by omega)]
  simp only [Option.bind_some]
  have hle : (L.filter ownE).length ≤ L.length := List.length_filter_le _ _
  generalize L.filter ownE = own at *
  refine iter_list own (by omega) (fun _ => True) (fun i => ((own.take i).map otherE, ((i : Nat) : Int))) _ ?_ ?_ trivial
  · intro again i x hi hx _ ih
    have ih := ih trivial
    have hs : own.take (i + 1) = own.take i ++ [x] := by rw [List.take_add_one, hx]; rfl
    rw [hs, List.map_append] at ih
    obtain ⟨z, hz⟩ := ref12_Other_eq x
    rw [F_annuletref15_Friends_L1]
    simp only [dec_lt, dec_true hi, cond_true, ixL_of, hx, Option.bind_some, hz, wrap1 (show i < 4611686018427387904 by omega)]
    rw [appG_of (by simp only [List.length_map, List.length_take, List.length_singleton]; omega)]
    simp only [Option.bind_some]
    exact ih
  · intro again _
    rw [F_annuletref15_Friends_L1]
    simp only [dec_lt, Nat.lt_irrefl, decide_false, cond_false, List.take_length]
    rw [ref10_Sorted_eq _ _ (by rw [List.length_map]; omega)]
    rfl
theorem friends_len (self : Idn) (own : List api_Entry) : (friendsL self own).length ≤ own.length := Nat.le_trans (sorted_len _ _) (by rw [List.length_map]; omega)
theorem want_len (self : Idn) (l : List Idn) (half : Int) : (wantL self l half).length ≤ l.length := Nat.le_trans (List.length_filter_le _ _) (sorted_len _ _)
def spareL (self : Idn) (half : Int) (own : List api_Entry) : List api_Path := (own.filter fun x => !decide (otherE x ∈ wantL self (friendsL self own) half)).map (·.P)
theorem tear_Spare_eq (most : Int) (m : Tab) (self : Idn) (half : Int) (hlen : m.len < 1000000) : F_tear_Spare most m self half = some (spareL self half ((ents m).filter ownE)) := by
  unfold F_tear_Spare spareL
  rw [tear_Friends_eq most m self hlen]
  simp only [Option.bind_some]
  have hle : ((ents m).filter ownE).length ≤ m.len := by rw [← ents_len]; exact List.length_filter_le _ _
  have hfl := friends_len self ((ents m).filter ownE)
  rw [ring_Want_eq _ _ _ (by omega)]
  simp only [Option.bind_some]
  rw [table_Own_eq most m (by omega)]
  simp only [Option.bind_some]
  have hwl := want_len self (friendsL self ((ents m).filter ownE)) half
  generalize wantL self (friendsL self ((ents m).filter ownE)) half = W at *
  generalize (ents m).filter ownE = own at *
  refine iter_list own (by omega) (fun _ => True) (fun i => (((own.take i).filter fun x => !decide (otherE x ∈ W)).map (·.P), ((i : Nat) : Int))) _ ?_ ?_ trivial
  · intro again i x hi hx _ ih
    have ih := ih trivial
    have hs : own.take (i + 1) = own.take i ++ [x] := by rw [List.take_add_one, hx]; rfl
    rw [hs, List.filter_append, List.map_append] at ih
    have hl2 : ((own.take i).filter fun x => !decide (otherE x ∈ W)).length ≤ own.length := Nat.le_trans (List.length_filter_le _ _) (by rw [List.length_take]; omega)
    obtain ⟨z, hz⟩ := Other_eq x
    rw [F_tear_Spare_L1]
    simp only [dec_lt, dec_true hi, cond_true, ixL_of, hx, Option.bind_some, hz, ringHas_eq W _ (by omega), wrap1 (show i < 4611686018427387904 by omega)]
    rw [appG_of (by simp only [List.length_map, List.length_singleton]; omega)]
    simp only [Option.bind_some]
    by_cases h : otherE x ∈ W
    · rw [dec_true h]
      rw [List.filter_cons_of_neg (by simp [h]), List.filter_nil, List.map_nil, List.append_nil] at ih
      exact ih
    · rw [dec_false h]
      rw [List.filter_cons_of_pos (by simp [h]), List.filter_nil] at ih
      exact ih
  · intro again _
    rw [F_tear_Spare_L1]
    simp only [dec_lt, Nat.lt_irrefl, decide_false, cond_false, List.take_length]
theorem ref15_Spare_eq (L : List api_Entry) (most : Int) (self : Idn) (half : Int) (hlen : L.length < 1000000) : F_annuletref15_Spare L most self half = some (spareL self half (L.filter ownE)) := by
  unfold F_annuletref15_Spare spareL
  rw [ref15_Friends_eq L most self hlen]
  simp only [Option.bind_some]
  have hle : (L.filter ownE).length ≤ L.length := List.length_filter_le _ _
  have hfl := friends_len self (L.filter ownE)
  rw [ref10_Want_eq _ _ _ (by omega)]
  simp only [Option.bind_some]
  rw [ref12_Own_eq L most (by omega)]
  simp only [Option.bind_some]
  have hwl := want_len self (friendsL self (L.filter ownE)) half
  generalize wantL self (friendsL self (L.filter ownE)) half = W at *
  generalize L.filter ownE = own at *
  refine iter_list own (by omega) (fun _ => True) (fun i => (((own.take i).filter fun x => !decide (otherE x ∈ W)).map (·.P), ((i : Nat) : Int))) _ ?_ ?_ trivial
  · intro again i x hi hx _ ih
    have ih := ih trivial
    have hs : own.take (i + 1) = own.take i ++ [x] := by rw [List.take_add_one, hx]; rfl
    rw [hs, List.filter_append, List.map_append] at ih
    have hl2 : ((own.take i).filter fun x => !decide (otherE x ∈ W)).length ≤ own.length := Nat.le_trans (List.length_filter_le _ _) (by rw [List.length_take]; omega)
    obtain ⟨z, hz⟩ := ref12_Other_eq x
    rw [F_annuletref15_Spare_L1]
    simp only [dec_lt, dec_true hi, cond_true, ixL_of, hx, Option.bind_some, hz, hasL_eq W _ (by omega), wrap1 (show i < 4611686018427387904 by omega)]
    rw [appG_of (by simp only [List.length_map, List.length_singleton]; omega)]
    simp only [Option.bind_some]
    by_cases h : otherE x ∈ W
    · rw [dec_true h]
      rw [List.filter_cons_of_neg (by simp [h]), List.filter_nil, List.map_nil, List.append_nil] at ih
      exact ih
    · rw [dec_false h]
      rw [List.filter_cons_of_pos (by simp [h]), List.filter_nil] at ih
      exact ih
  · intro again _
    rw [F_annuletref15_Spare_L1]
    simp only [dec_lt, Nat.lt_irrefl, decide_false, cond_false, List.take_length]

/-! ### twins -/
def twn : List Idn → List api_Entry → List api_Path
  | _, [] => []
  | seen, x :: r => (if otherE x ∈ seen then [x.P] else []) ++ twn (seen ++ [otherE x]) r
theorem twn_snoc (x : api_Entry) : ∀ (l : List api_Entry) (seen : List Idn), twn seen (l ++ [x]) = twn seen l ++ (if otherE x ∈ seen ++ l.map otherE then [x.P] else [])
  | [], seen => by simp [twn]
  | y :: l, seen => by
    show (if otherE y ∈ seen then [y.P] else []) ++ twn (seen ++ [otherE y]) (l ++ [x]) = _
    rw [twn_snoc x l]
    simp only [twn, List.append_assoc, List.map_cons, List.singleton_append]
theorem twn_len : ∀ (l : List api_Entry) (seen : List Idn), (twn seen l).length ≤ l.length
  | [], _ => Nat.le_refl _
  | x :: l, seen => by
    have := twn_len l (seen ++ [otherE x])
    simp only [twn, List.length_append, List.length_cons]
    split <;> simp <;> omega
theorem twn_take {own : List api_Entry} {i : Nat} {x : api_Entry} (hx : own[i]? = some x) : twn [] (own.take (i + 1)) = twn [] (own.take i) ++ (if otherE x ∈ (own.take i).map otherE then [x.P] else []) := by
  rw [List.take_add_one, hx]
  show twn [] (own.take i ++ [x]) = _
  rw [twn_snoc, List.nil_append]
theorem tear_Twins_eq (most : Int) (m : Tab) (hlen : m.len < 1000000) : F_tear_Twins most m = some (twn [] ((ents m).filter ownE)) := by
  unfold F_tear_Twins
  rw [table_Own_eq most m (by omega)]
  simp only [Option.bind_some]
  have hle : ((ents m).filter ownE).length ≤ m.len := by rw [← ents_len]; exact List.length_filter_le _ _
  generalize (ents m).filter ownE = own at *
  refine iter_list own (by omega) (fun _ => True) (fun i => (twn [] (own.take i), (own.take i).map otherE, ((i : Nat) : Int))) _ ?_ ?_ trivial
  · intro again i x hi hx _ ih
    have ih := ih trivial
    have hl2 := twn_len (own.take i) []
    rw [List.length_take] at hl2
    have hs : own.take (i + 1) = own.take i ++ [x] := by rw [List.take_add_one, hx]; rfl
    rw [twn_take hx, hs, List.map_append] at ih
    obtain ⟨z, hz⟩ := Other_eq x
    rw [F_tear_Twins_L1]
    simp only [dec_lt, dec_true hi, cond_true, ixL_of, hx, Option.bind_some, hz, ringHas_eq _ _ (show ((own.take i).map otherE).length < 1000000000 by rw [List.length_map, List.length_take]; omega), wrap1 (show i < 4611686018427387904 by omega)]
    rw [appG_of (by simp only [List.length_singleton]; omega), appG_of (by simp only [List.length_map, List.length_take, List.length_singleton]; omega)]
    simp only [Option.bind_some]
    by_cases h : otherE x ∈ (own.take i).map otherE
    · rw [dec_true h, cond_true]
      rw [if_pos h] at ih
      exact ih
    · rw [dec_false h, cond_false]
      rw [if_neg h, List.append_nil] at ih
      exact ih
  · intro again _
    rw [F_tear_Twins_L1]
    simp only [dec_lt, Nat.lt_irrefl, decide_false, cond_false, List.take_length]
theorem ref15_Twins_eq (L : List api_Entry) (most : Int) (hlen : L.length < 1000000) : F_annuletref15_Twins L most = some (twn [] (L.filter ownE)) := by
  unfold F_annuletref15_Twins
  rw [ref12_Own_eq L most (by omega)]
  simp only [Option.bind_some]
  have hle : (L.filter ownE).length ≤ L.length := List.length_filter_le _ _
  generalize L.filter ownE = own at *
  refine iter_list own (by omega) (fun _ => True) (fun i => (twn [] (own.take i), ((i : Nat) : Int))) _ ?_ ?_ trivial
  · intro again i x hi hx _ ih
    have ih := ih trivial
    have hl2 := twn_len (own.take i) []
    rw [List.length_take] at hl2
    rw [twn_take hx] at ih
    obtain ⟨z, hz⟩ := ref12_Other_eq x
    rw [F_annuletref15_Twins_L1]
    simp only [dec_lt, dec_true hi, cond_true, ixL_of, hx, Option.bind_some, hz]
    have htl : (own.take i).length = i := by rw [List.length_take]; omega
    have h := iter_list (body := F_annuletref15_Twins_L2 own (twn [] (own.take i)) ((i : Nat) : Int) again (otherE x, z)) (own.take i) (by omega) (fun k => ∀ y ∈ (own.take i).take k, otherE y ≠ otherE x) (fun k => ((k : Nat) : Int)) (some (twn [] own)) ?_ ?_ (by simp)
    · exact h
    · intro ag k y hk hy hI ih2
      have hy' : own[k]? = some y := by
        rw [List.getElem?_take] at hy
        split at hy
        · exact hy
        · cases hy
      obtain ⟨z2, hz2⟩ := ref12_Other_eq y
      rw [F_annuletref15_Twins_L2]
      simp only [dec_lt, dec_true (show k < i by omega), cond_true, ixL_of, hy', hx, Option.bind_some, hz2, wrap1 (show k < 4611686018427387904 by omega), wrap1 (show i < 4611686018427387904 by omega)]
      rw [appG_of (by simp only [List.length_singleton]; omega)]
      simp only [Option.bind_some]
      by_cases h : otherE x = otherE y
      · rw [dec_true h, cond_true]
        rw [if_pos (by rw [h]; exact List.mem_map_of_mem (List.mem_of_getElem? hy))] at ih
        exact ih
      · rw [dec_false h, cond_false]
        refine ih2 ?_
        intro w hw
        rw [List.take_add_one, hy] at hw
        rcases List.mem_append.1 hw with hw | hw
        · exact hI w hw
        · simp at hw; subst hw; exact fun e => h e.symm
    · intro ag hI
      rw [List.take_length] at hI
      rw [F_annuletref15_Twins_L2]
      simp only [dec_lt, htl, Nat.lt_irrefl, decide_false, cond_false, wrap1 (show i < 4611686018427387904 by omega)]
      rw [if_neg, List.append_nil] at ih
      · exact ih
      · rw [List.mem_map]
        rintro ⟨y, hy, e⟩
        exact hI y hy e
  · intro again _
    rw [F_annuletref15_Twins_L1]
    simp only [dec_lt, Nat.lt_irrefl, decide_false, cond_false, List.take_length]

/-! ### the first -/
theorem cmp_zero (a b : Idn) : decide (Idn.cmp a b = 0) = decide (a = b) := by
  rw [decide_eq_decide]
  constructor
  · intro h
    unfold Idn.cmp at h
    split at h
    · cases h
    · split at h
      · cases h
      · exact Idn.ext_n (by omega)
  · rintro rfl
    unfold Idn.cmp
    simp
theorem tear_First_eq (most : Int) (m : Tab) (id : Idn) (hlen : m.len < 1000000) : F_tear_First most m id = F_annuletref15_First (ents m) most id := by
  unfold F_tear_First F_annuletref15_First
  rw [table_Own_eq most m (by omega), ref12_Own_eq _ most (by rw [ents_len]; omega)]
  simp only [Option.bind_some]
  have hle : ((ents m).filter ownE).length ≤ m.len := by rw [← ents_len]; exact List.length_filter_le _ _
  generalize (ents m).filter ownE = own at *
  have key : ∀ n i : Nat, i ≤ own.length → iter (F_tear_First_L1 id own) n ((i : Nat) : Int) = iter (F_annuletref15_First_L1 id own) n ((i : Nat) : Int) := by
    intro n
    induction n with
    | zero => intro i _; rfl
    | succ n ih =>
      intro i hi
      show F_tear_First_L1 id own _ _ = F_annuletref15_First_L1 id own _ _
      rw [F_tear_First_L1, F_annuletref15_First_L1]
      by_cases h : i < own.length
      · obtain ⟨z, hz⟩ := Other_eq own[i]
        obtain ⟨z2, hz2⟩ := ref12_Other_eq own[i]
        simp only [dec_lt, dec_true h, cond_true, ixL_of, List.getElem?_eq_getElem h, Option.bind_some, hz, hz2, cmp_zero, wrap1 (show i < 4611686018427387904 by omega)]
        rw [ih (i + 1) (by omega)]
      · simp only [dec_lt, dec_false h, cond_false]
  exact key FUEL 0 (Nat.zero_le _)
theorem ref15_First_some (L : List api_Entry) (most : Int) (id : Idn) (hlen : L.length < 1000000) : ∃ r, F_annuletref15_First L most id = some r := by
  unfold F_annuletref15_First
  rw [ref12_Own_eq L most (by omega)]
  simp only [Option.bind_some]
  have hle : (L.filter ownE).length ≤ L.length := List.length_filter_le _ _
  generalize L.filter ownE = own at *
  have key : ∀ k i : Nat, own.length - i = k → i ≤ own.length → ∀ n, k < n → ∃ r, iter (F_annuletref15_First_L1 id own) n ((i : Nat) : Int) = some r := by
    intro k
    induction k with
    | zero =>
      intro i hk hi n hn
      obtain ⟨n, rfl⟩ : ∃ n', n = n' + 1 := ⟨n - 1, by omega⟩
      show ∃ r, F_annuletref15_First_L1 id own _ _ = some r
      rw [F_annuletref15_First_L1]
      simp only [dec_lt, dec_false (show ¬ i < own.length by omega), cond_false]
      exact ⟨_, rfl⟩
    | succ k ih =>
      intro i hk hi n hn
      obtain ⟨n, rfl⟩ : ∃ n', n = n' + 1 := ⟨n - 1, by omega⟩
      have h : i < own.length := by omega
      obtain ⟨z2, hz2⟩ := ref12_Other_eq own[i]
      show ∃ r, F_annuletref15_First_L1 id own _ _ = some r
      rw [F_annuletref15_First_L1]
      simp only [dec_lt, dec_true h, cond_true, ixL_of, List.getElem?_eq_getElem h, Option.bind_some, hz2, wrap1 (show i < 4611686018427387904 by omega)]
      by_cases h2 : otherE own[i] = id
      · rw [dec_true h2]; exact ⟨_, rfl⟩
      · rw [dec_false h2]; exact ih (i + 1) (by omega) (by omega) n (by omega)
  exact key own.length 0 (by omega) (by omega) FUEL (by rw [FUEL_eq]; omega)

theorem TearAsks_true (l : List api_Entry) (two : ar2_api_ID) (half : Int) (hl : l.length < 1000000000) : F_annuletlaw15_TearAsks l two half = some true := by
  unfold F_annuletlaw15_TearAsks
  obtain ⟨ok, hlen, hr⟩ := laidM_ok l
  rw [laid_eq l hl, fixed_eq]
  simp only [Option.bind_some]
  generalize laidM l = m at *
  have hel := ents_len m
  rw [tear_First_eq _ _ _ (by omega)]
  obtain ⟨r, hrr⟩ := ref15_First_some (ents m) 128 two.E1 (by omega)
  have hle : ((ents m).filter ownE).length ≤ m.len := by rw [← ents_len]; exact List.length_filter_le _ _
  have hfl := friends_len two.E0 ((ents m).filter ownE)
  have hsl : (spareL two.E0 half ((ents m).filter ownE)).length ≤ ((ents m).filter ownE).length := by unfold spareL; rw [List.length_map]; exact List.length_filter_le _ _
  have htl := twn_len ((ents m).filter ownE) []
  rw [hrr]
  simp only [Option.bind_some, cond_true]
  rw [tear_Friends_eq _ _ _ (by omega), ref15_Friends_eq _ _ _ (by omega)]
  simp only [Option.bind_some]
  rw [SameIDs_eq _ (by omega)]
  simp only [Option.bind_some, cond_true]
  rw [tear_Spare_eq _ _ _ _ (by omega), ref15_Spare_eq _ _ _ _ (by omega)]
  simp only [Option.bind_some]
  rw [SamePaths_eq _ (by omega)]
  simp only [Option.bind_some, cond_true]
  rw [tear_Twins_eq _ _ (by omega), ref15_Twins_eq _ _ (by omega)]
  simp only [Option.bind_some]
  rw [SamePaths_eq _ (by omega)]
  simp only [Option.bind_some, cond_true, decide_true]
  rw [table_All_eq _ _ (by omega)]
  simp only [Option.bind_some]
  rw [SameE_eq _ (by omega)]
  rfl
end Go.Fx
