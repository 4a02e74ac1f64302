/- The laws TearDrops, TearEnds, TearDies and TearSweeps of layer 15, as plain laws. -/
import Derived.Test.YtpkdekhmjjcljaaGreatFxLawT15z
namespace Go.Fx
set_option maxRecDepth 10000

/-! ### a session that died -/
def deadM (m : Tab) (l : List api_Entry) : Tab := l.foldl (fun m x => m.del x.P) m
def deadO (n : Int) (l : List api_Entry) : List api_Hop := l.flatMap fun x => hopO (sideE n x) x.P
def deadL (n : Int) (l : List api_Entry) : List api_Path := l.flatMap fun x => hopL (sideE n x) x.P
theorem deadM_snoc (m : Tab) (l : List api_Entry) (x : api_Entry) : deadM m (l ++ [x]) = (deadM m l).del x.P := by unfold deadM; rw [List.foldl_append]; rfl
theorem deadO_app (n : Int) (a b : List api_Entry) : deadO n (a ++ b) = deadO n a ++ deadO n b := by unfold deadO; rw [List.flatMap_append]
theorem deadL_app (n : Int) (a b : List api_Entry) : deadL n (a ++ b) = deadL n a ++ deadL n b := by unfold deadL; rw [List.flatMap_append]
theorem deadO_one (n : Int) (x : api_Entry) : deadO n [x] = hopO (sideE n x) x.P := by unfold deadO; simp
theorem deadL_one (n : Int) (x : api_Entry) : deadL n [x] = hopL (sideE n x) x.P := by unfold deadL; simp
theorem hop_len (n : Int) (p : api_Path) : (hopO n p).length + (hopL n p).length = 1 := by unfold hopO hopL; split <;> rfl
theorem dead_len (n : Int) (l : List api_Entry) : (deadO n l).length + (deadL n l).length = l.length := by
  induction l with
  | nil => rfl
  | cons x l ih =>
    have e : x :: l = [x] ++ l := rfl
    rw [e, deadO_app, deadL_app, deadO_one, deadL_one]
    simp only [List.length_append, List.length_singleton]
    have := hop_len (sideE n x) x.P
    omega
theorem deadO_drops (n : Int) (l : List api_Entry) : Drops (deadO n l) := by
  intro x hx
  unfold deadO at hx
  rw [List.mem_flatMap] at hx
  obtain ⟨y, _, hy⟩ := hx
  exact hopO_drops _ _ x hy
theorem deadM_get (m : Tab) (p : api_Path) : ∀ (l : List api_Entry), (deadM m l).get p = if p ∈ l.map (·.P) then none else m.get p := by
  suffices h : ∀ (l : List api_Entry) (m : Tab), (deadM m l).get p = if p ∈ l.map (·.P) then none else m.get p from fun l => h l m
  intro l
  induction l with
  | nil => intro m; simp [deadM]
  | cons x l ih =>
    intro m
    show (deadM (m.del x.P) l).get p = _
    rw [ih, MS.get_del]
    by_cases h1 : p ∈ l.map (·.P)
    · simp [h1]
    · by_cases h2 : p = x.P
      · simp [h2]
      · simp [h2]
theorem deadM_ok {m : Tab} (ok : TabOk m) (l : List api_Entry) : TabOk (deadM m l) := by
  intro k v hv
  rw [deadM_get] at hv
  split at hv
  · cases hv
  · exact ok k v hv
theorem MS.del_len (m : Tab) (p : api_Path) : (m.del p).len ≤ m.len := by
  unfold MS.len MS.del delM
  exact List.length_filter_le _ _
theorem deadM_len (m : Tab) (l : List api_Entry) : (deadM m l).len ≤ m.len := by
  suffices h : ∀ (l : List api_Entry) (m : Tab), (deadM m l).len ≤ m.len from h l m
  intro l
  induction l with
  | nil => intro m; exact Nat.le_refl _
  | cons x l ih => intro m; exact Nat.le_trans (ih (m.del x.P)) (MS.del_len m x.P)
theorem pw_take {α : Type} {R : α → α → Prop} {l : List α} (h : l.Pairwise R) {i : Nat} {x : α} (hx : l[i]? = some x) : ∀ y ∈ l.take i, R y x := by
  obtain ⟨hi, e⟩ := List.getElem?_eq_some_iff.1 hx
  rw [← List.take_append_drop i l, List.pairwise_append] at h
  intro y hy
  refine h.2.2 y hy x ?_
  rw [List.drop_eq_getElem_cons hi, e]; simp
/-- those that go over a neighbour -/
def viaL (n : Int) (m : Tab) : List api_Entry := (ents m).filter (overE n)
theorem viaL_strict {m : Tab} (ok : TabOk m) (n : Int) : (viaL n m).Pairwise fun a b => pathLt a.P b.P = true := (ents_strict ok).filter _
theorem viaL_len (n : Int) (m : Tab) : (viaL n m).length ≤ m.len := by unfold viaL; rw [← ents_len]; exact List.length_filter_le _ _
theorem viaL_mem {m : Tab} (ok : TabOk m) {n : Int} {x : api_Entry} : x ∈ viaL n m ↔ m.get x.P = some x ∧ overE n x = true := by
  unfold viaL
  rw [List.mem_filter, ents_mem ok]
theorem via_next {m : Tab} (ok : TabOk m) {n : Int} {i : Nat} {x : api_Entry} (hx : (viaL n m)[i]? = some x) : (deadM m ((viaL n m).take i)).get x.P = some x := by
  rw [deadM_get, if_neg, ((viaL_mem ok).1 (List.mem_of_getElem? hx)).1]
  rw [List.mem_map]
  rintro ⟨y, hy, e⟩
  have := pw_take (viaL_strict ok n) hx y hy
  rw [e, pathLt_irrefl] at this
  cases this
theorem tear_Dead_eq (most : Int) (m : Tab) (n : Int) (ok : TabOk m) (hlen : m.len < 1000000) : F_tear_Dead most m n = some (deadO n (viaL n m), deadL n (viaL n m), most, deadM m (viaL n m)) := by
  unfold F_tear_Dead
  rw [table_Via_eq most m n (by omega)]
  simp only [Option.bind_some]
  show iter (F_tear_Dead_L1 n (viaL n m)) FUEL _ = _
  have hv := viaL_len n m
  refine iter_list (viaL n m) (by omega) (fun _ => True) (fun i => (deadL n ((viaL n m).take i), deadO n ((viaL n m).take i), most, deadM m ((viaL n m).take i), ((i : Nat) : Int))) _ ?_ ?_ trivial
  · intro again i x hi hx _ ih
    have ih := ih trivial
    have hs : (viaL n m).take (i + 1) = (viaL n m).take i ++ [x] := by rw [List.take_add_one, hx]; rfl
    rw [hs, deadL_app, deadO_app, deadM_snoc, deadL_one, deadO_one] at ih
    have hd := dead_len n ((viaL n m).take i)
    rw [List.length_take] at hd
    rw [F_tear_Dead_L1]
    simp only [dec_lt, dec_true hi, cond_true, ixL_of, hx, Option.bind_some, wrap1 (show i < 4611686018427387904 by omega)]
    unfold F_table_Table_Remove F_table_Table_Get
    rw [via_next ok hx]
    simp only [Option.isSome_some, cond_true, Option.bind_some]
    rw [hop_eq _ _ _ _ (by omega) (by omega), hop_eq _ _ _ _ (by omega) (by omega)]
    simp only [Option.bind_some]
    unfold sideE at ih
    by_cases h : x.Na = n
    · rw [dec_true h, cond_true]
      rw [if_pos h] at ih
      exact ih
    · rw [dec_false h, cond_false]
      rw [if_neg h] at ih
      exact ih
  · intro again _
    rw [F_tear_Dead_L1]
    simp only [dec_lt, Nat.lt_irrefl, decide_false, cond_false, List.take_length]

/-! ### the chapter's example -/
theorem mk01 : mkIdn [(0, 1)] = some (idnOf ((List.replicate 16 0).set 0 1)) := by
  unfold mkIdn
  simp only [mkIdnL]
  rw [if_pos (by omega)]
  rfl
theorem fixed_eq : F_annuletlaw15_fixed = some true := by
  unfold F_annuletlaw15_fixed
  rw [mk01]
  simp only [Option.bind_some]
  generalize h1 : (⟨⟨Idn.zero, 1⟩, Idn.zero, idnOf ((List.replicate 16 0).set 0 1), 0, 2⟩ : api_Entry) = x
  generalize h2 : (⟨⟨Idn.zero, 2⟩, Idn.zero, idnOf ((List.replicate 16 0).set 0 1), -1, 0⟩ : api_Entry) = y
  rw [laid_eq [x, y] (by simp)]
  simp only [Option.bind_some]
  have hg : (MS.emp : Tab).get x.P = none := rfl
  have hm1 : (tabAdd 128 MS.emp x).2 = MS.emp.put x.P x := by
    unfold tabAdd
    rw [if_neg (by rw [← h1]; decide +kernel), if_neg (by rw [hg]; simp), if_neg (by decide)]
  have hpe : y.P ≠ x.P := by rw [← h1, ← h2]; decide
  have hg2 : (MS.emp.put x.P x : Tab).get y.P = none := by rw [MS.get_put_new hg, if_neg hpe]; rfl
  have hm : laidM [x, y] = (MS.emp.put x.P x).put y.P y := by
    show (tabAdd 128 (tabAdd 128 MS.emp x).2 y).2 = _
    rw [hm1]
    unfold tabAdd
    rw [if_neg (by rw [← h2]; decide +kernel), if_neg (by rw [hg2]; simp), if_neg (by rw [MS.len_put_new hg]; decide)]
  have ok1 := TabOk.emp.put hg
  have ok2 := ok1.put hg2
  have he : ents (laidM [x, y]) = [x, y] := by
    rw [hm, ents_put ok1 hg2, ents_put TabOk.emp hg, ents_emp]
    have : pathLt x.P y.P = true := by rw [← h1, ← h2]; decide +kernel
    simp [insE, this]
  have hgx : (laidM [x, y]).get ⟨Idn.zero, 1⟩ = some x := by
    have : (⟨Idn.zero, 1⟩ : api_Path) = x.P := by rw [← h1]
    rw [hm, MS.get_put_new hg2, this, if_neg (Ne.symm hpe), MS.get_put_new hg, if_pos rfl]
  obtain ⟨ok, hlen, _⟩ := laidM_ok [x, y]
  have hno : dropY (some x) 4 = false := by rw [← h1]; decide +kernel
  rw [tear_Drop_eq, hgx]
  unfold dropOut dropLost
  simp only [hno, Bool.false_eq_true, if_false, Option.bind_some]
  rw [tear_Dead_eq _ _ _ ok (by omega)]
  have hv : viaL 0 (laidM [x, y]) = [x, y] := by
    unfold viaL
    rw [he]
    have a1 : overE 0 x = true := by rw [← h1]; decide +kernel
    have a2 : overE 0 y = true := by rw [← h2]; decide +kernel
    simp [a1, a2]
  rw [hv]
  have hO : deadO 0 [x, y] = [⟨2, dropF ⟨Idn.zero, 1⟩⟩] := by rw [← h1, ← h2]; rfl
  have hL : deadL 0 [x, y] = [⟨Idn.zero, 2⟩] := by rw [← h1, ← h2]; rfl
  have hl : (deadM (laidM [x, y]) [x, y]).len = 0 := by
    rw [← ents_len, List.length_eq_zero_iff, List.eq_nil_iff_forall_not_mem]
    intro z hz
    rw [ents_mem (deadM_ok ok _), deadM_get] at hz
    split at hz
    · cases hz
    · rename_i hn
      rw [← ents_mem ok, he] at hz
      exact hn (List.mem_map_of_mem hz)
  unfold F_table_Table_Len
  simp only [Option.bind_some, hO, hL, hl]
  rfl

end Go.Fx
