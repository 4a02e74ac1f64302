/- The laws of layer 15, as plain laws: what is torn. -/
import Derived.Test.YtpkdekhmjjcljaaGreatFxTearL15z
import Derived.Test.YtpkdekhmjjcljaaGreatFxTabP15z
namespace Go.Fx
set_option maxRecDepth 10000

/-! ### a table of entries -/
def laidM (l : List api_Entry) : Tab := l.foldl (fun m x => (tabAdd 128 m x).2) MS.emp
theorem laidM_snoc (l : List api_Entry) (x : api_Entry) : laidM (l ++ [x]) = (tabAdd 128 (laidM l) x).2 := by unfold laidM; rw [List.foldl_append]; rfl
/-- each entry may be -/
def TabR (m : Tab) : Prop := ∀ k v, m.get k = some v → rightE v = true
theorem TabR.add {m : Tab} (h : TabR m) (most : Int) (x : api_Entry) : TabR (tabAdd most m x).2 := by
  unfold tabAdd
  split
  · exact h
  · rename_i hr
    split
    · exact h
    · rename_i h1
      have hn : m.get x.P = none := by cases hg : m.get x.P with
        | none => rfl
        | some v => rw [hg] at h1; exact absurd rfl h1
      split
      · exact h
      · intro k v hv
        rw [MS.get_put_new hn] at hv
        split at hv
        · cases hv; simpa using hr
        · exact h k v hv
theorem laidM_ok (l : List api_Entry) : TabOk (laidM l) ∧ (laidM l).len ≤ 128 ∧ TabR (laidM l) := by
  unfold laidM
  suffices h : ∀ (l : List api_Entry) (m : Tab), TabOk m → m.len ≤ 128 → TabR m → TabOk (l.foldl (fun m x => (tabAdd 128 m x).2) m) ∧ (l.foldl (fun m x => (tabAdd 128 m x).2) m).len ≤ 128 ∧ TabR (l.foldl (fun m x => (tabAdd 128 m x).2) m) from h l _ TabOk.emp (by decide) (fun k v h => by rw [MS.get_emp] at h; cases h)
  intro l
  induction l with
  | nil => intro m h1 h2 h3; exact ⟨h1, h2, h3⟩
  | cons x l ih => intro m h1 h2 h3; exact ih _ (add_same h1 128 x).2.2 (tabAdd_len m x 128 128 (Int.le_refl _) h2) (h3.add 128 x)
theorem laid_eq (l : List api_Entry) (hl : l.length < 1000000000) : F_annuletlaw15_laid l = some (128, laidM l, ents (laidM l), 128) := by
  unfold F_annuletlaw15_laid
  rw [show F_table_New 128 = some (128, MS.emp) from rfl, show F_annuletref12_New 128 = some ([], 128) by rfl]
  simp only [Option.bind_some]
  have h := iter_list (body := F_annuletlaw15_laid_L1 l) l (by omega) (fun _ => True) (fun i => ((128 : Int), ents (laidM (l.take i)), (128 : Int), laidM (l.take i), ((i : Nat) : Int))) (some (128, laidM l, ents (laidM l), 128)) ?_ ?_ trivial
  · rw [List.take_zero, show laidM [] = MS.emp from rfl, ents_emp] at h
    exact h
  · intro again i x hi hx _ ih
    have hs : l.take (i + 1) = l.take i ++ [x] := by rw [List.take_add_one, hx]; rfl
    obtain ⟨ok, hlen, _⟩ := laidM_ok (l.take i)
    obtain ⟨h1, h2, h3⟩ := add_same ok 128 x
    rw [F_annuletlaw15_laid_L1]
    simp only [dec_lt, dec_true hi, cond_true, ixL_of, hx, Option.bind_some, table_Add_eq]
    rw [annuletref12_Add_eq _ _ _ (by rw [ents_len]; omega)]
    simp only [Option.bind_some, wrap1 (show i < 4611686018427387904 by omega)]
    have ih := ih trivial
    rw [hs, laidM_snoc, h2] at ih
    exact ih
  · intro again _
    rw [F_annuletlaw15_laid_L1]
    simp only [dec_lt, Nat.lt_irrefl, decide_false, cond_false, List.take_length]

/-! ### the documents' table: what is taken out, what goes over a neighbour -/
def overE (n : Int) (x : api_Entry) : Bool := decide (0 ≤ n) && (decide (x.Na = n) || decide (x.Nb = n))
theorem Via_f1_eq (n : Int) (x : api_Entry) : F_table_Table_Via_f1 x n = some (overE n x) := by
  unfold F_table_Table_Via_f1 overE
  by_cases h0 : 0 ≤ n <;> by_cases h1 : x.Na = n <;> simp [h0, h1]
theorem table_Via_eq (most : Int) (m : Tab) (n : Int) (hlen : m.len < 1000000000) : F_table_Table_Via most m n = some ((ents m).filter (overE n)) := by
  unfold F_table_Table_Via
  rw [table_of_eq most m (fun y0 => F_table_Table_Via_f1 y0 n) (overE n) (fun x => Via_f1_eq n x) hlen]
  rfl

/-! ### what goes out -/
def dropF (p : api_Path) : api_Frame := api_Frame.mk 5 p false Idn.zero Idn.zero 0 (api_Num.mk 0 0) (api_Num.mk 0 0) (Slv.mk none 0 0) (Slv.mk none 0 0) (api_Item.mk Idn.zero (api_Ver.mk 0 Idn.zero) (Slv.mk none 0 0)) 0 0 (Slv.mk none 0 0)
def hopO (n : Int) (p : api_Path) : List api_Hop := if 0 ≤ n then [⟨n, dropF p⟩] else []
def hopL (n : Int) (p : api_Path) : List api_Path := if 0 ≤ n then [] else [p]
theorem hopO_len (n : Int) (p : api_Path) : (hopO n p).length ≤ 1 := by unfold hopO; split <;> simp
theorem hopL_len (n : Int) (p : api_Path) : (hopL n p).length ≤ 1 := by unfold hopL; split <;> simp
theorem hop_eq (o : List api_Hop) (l : List api_Path) (n : Int) (p : api_Path) (ho : o.length < 1000000000) (hl : l.length < 1000000000) : F_tear_Torn_hop o l n p = some (o ++ hopO n p, l ++ hopL n p) := by
  unfold F_tear_Torn_hop hopO hopL F_frame_Plain_Drop
  by_cases h : 0 ≤ n
  · simp only [dec_true h, cond_true, Option.bind_some, if_pos h]
    rw [appG_of (by simp only [List.length_singleton]; omega)]
    simp only [Option.bind_some, List.append_nil]
    rfl
  · simp only [dec_false h, cond_false, if_neg h]
    rw [appG_of (by simp only [List.length_singleton]; omega)]
    simp only [Option.bind_some, List.append_nil]

/-! ### a Drop that came -/
def dropY (g : Option api_Entry) (f : Int) : Bool := match g with
  | none => false
  | some x => overE f x
def sideE (f : Int) (x : api_Entry) : Int := if x.Na = f then x.Nb else x.Na
def dropS (g : Option api_Entry) (f : Int) : Int := match g with
  | none => 0
  | some x => sideE f x
def dropOut (g : Option api_Entry) (f : Int) (p : api_Path) : List api_Hop := if dropY g f = true then hopO (dropS g f) p else []
def dropLost (g : Option api_Entry) (f : Int) (p : api_Path) : List api_Path := if dropY g f = true then hopL (dropS g f) p else []
theorem tear_Drop_eq (most : Int) (m : Tab) (f : Int) (p : api_Path) : F_tear_Drop most m f p = some (dropOut (m.get p) f p, dropLost (m.get p) f p, most, if dropY (m.get p) f = true then m.del p else m) := by
  unfold F_tear_Drop F_table_Table_Remove F_table_Table_Get dropOut dropLost
  cases h : m.get p with
  | none => simp [dropY]
  | some x =>
    simp only [Option.isSome_some, Option.getD_some, Option.bind_some, Bool.not_true, cond_false, cond_true, dropY, dropS, overE, sideE]
    by_cases h0 : f < 0
    · simp [h0]
      omega
    · have h0' : 0 ≤ f := by omega
      by_cases h1 : x.Na = f
      · simp [h0, h0', h1, hop_eq]
      · by_cases h2 : x.Nb = f
        · simp [h0, h0', h1, h2, hop_eq]
        · simp [h0, h0', h1, h2]

/-! ### an own path that ends -/
def endY (g : Option api_Entry) : Bool := match g with
  | none => false
  | some x => !(decide (0 ≤ x.Na) && decide (0 ≤ x.Nb))
def endOut (g : Option api_Entry) (p : api_Path) : List api_Hop := match g with
  | none => []
  | some x => if endY g = true then hopO x.Na p ++ hopO x.Nb p else []
def endLost (g : Option api_Entry) (p : api_Path) : List api_Path := match g with
  | none => []
  | some x => if endY g = true then hopL x.Na p ++ hopL x.Nb p else []
theorem tear_End_eq (most : Int) (m : Tab) (p : api_Path) : F_tear_End most m p = some (endOut (m.get p) p, endLost (m.get p) p, most, if endY (m.get p) = true then m.del p else m) := by
  unfold F_tear_End F_table_Table_Remove F_table_Table_Get endOut endLost
  cases h : m.get p with
  | none => simp [endY]
  | some x =>
    have e1 := hopO_len x.Na p
    have e2 := hopL_len x.Na p
    simp only [Option.isSome_some, Option.getD_some, Option.bind_some, Bool.not_true, cond_false, cond_true, endY]
    rw [hop_eq [] [] _ _ (by simp) (by simp)]
    simp only [Option.bind_some, List.nil_append]
    rw [hop_eq _ _ _ _ (by omega) (by omega)]
    by_cases h0 : 0 ≤ x.Na
    · by_cases h1 : 0 ≤ x.Nb
      · simp [h0, h1]
      · simp [h0, h1]
    · simp [h0]
theorem right_ge {x : api_Entry} (h : rightE x = true) : -1 ≤ x.Na ∧ x.Na ≤ 5 ∧ -1 ≤ x.Nb ∧ x.Nb ≤ 5 ∧ x.Na ≠ x.Nb := by
  unfold rightE at h
  simp only [Bool.and_eq_true, decide_eq_true_eq, Bool.not_eq_true', decide_eq_false_iff_not] at h
  omega

/-! ### are two answers one -/
theorem nilS_nil : nilS (Slv.mk none 0 0) = some () := rfl
theorem SamePaths_eq (l : List api_Path) (hl : l.length < 1000000000) : F_annuletref15_SamePaths l l = some true := by
  unfold F_annuletref15_SamePaths
  simp only [decide_true, Bool.not_true, cond_false]
  refine iter_list l (by omega) (fun _ => True) (fun i => ((i : Nat) : Int)) _ ?_ ?_ trivial
  · intro again i x hi hx _ ih
    rw [F_annuletref15_SamePaths_L1]
    simp only [dec_lt, dec_true hi, cond_true, ixL_of, hx, Option.bind_some, decide_true, Bool.not_true, cond_false, wrap1 (show i < 4611686018427387904 by omega)]
    exact ih trivial
  · intro again _
    rw [F_annuletref15_SamePaths_L1]
    simp only [dec_lt, Nat.lt_irrefl, decide_false, cond_false]
theorem SameE_eq (l : List api_Entry) (hl : l.length < 1000000000) : F_annuletref12_Same l l = some true := by
  unfold F_annuletref12_Same
  simp only [decide_true, Bool.not_true, cond_false]
  refine iter_list l (by omega) (fun _ => True) (fun i => ((i : Nat) : Int)) _ ?_ ?_ trivial
  · intro again i x hi hx _ ih
    rw [F_annuletref12_Same_L1]
    simp only [dec_lt, dec_true hi, cond_true, ixL_of, hx, Option.bind_some, decide_true, Bool.not_true, cond_false, wrap1 (show i < 4611686018427387904 by omega)]
    exact ih trivial
  · intro again _
    rw [F_annuletref12_Same_L1]
    simp only [dec_lt, Nat.lt_irrefl, decide_false, cond_false]
def Drops (l : List api_Hop) : Prop := ∀ x ∈ l, ∃ n p, x = ⟨n, dropF p⟩
theorem hopO_drops (n : Int) (p : api_Path) : Drops (hopO n p) := by
  unfold hopO
  split
  · intro x hx; simp at hx; exact ⟨_, _, hx⟩
  · intro x hx; cases hx
theorem Drops.app {a b : List api_Hop} (ha : Drops a) (hb : Drops b) : Drops (a ++ b) := fun x hx => (List.mem_append.1 hx).elim (ha x) (hb x)
theorem Drops.nil : Drops [] := fun x hx => by cases hx
end Go.Fx
