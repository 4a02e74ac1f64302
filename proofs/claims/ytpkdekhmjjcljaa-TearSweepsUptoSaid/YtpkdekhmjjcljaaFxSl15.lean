/- What the functions of package slices do at identities. -/
import Derived.Test.YtpkdekhmjjcljaaFxRefB15
import Derived.Test.YtpkdekhmjjcljaaFxJ
namespace Go.Fx
set_option maxRecDepth 10000


/-- where the first one stands for which this holds -/
def IxOf (q : Idn → Bool) (l : List Idn) (v : Value) : Prop :=
  (∃ i x, v = .int .i64 ((i : Nat) : Int) ∧ l[i]? = some x ∧ q x = true ∧ ∀ y ∈ l.take i, q y = false) ∨ (v = .int .i64 (-1) ∧ ∀ y ∈ l, q y = false)


/-- a list that lies where one lay: shorter -/
def RetIn {α : Type} (enc : α → Array Value) (s : Nat) (T : TypeId) (key : Option Nat) (cap : Nat) (l : List α) : Value → HF → Prop := fun v nm =>
  v = slv key l.length cap ∧ ∃ rs, nm = [(key, .cells (catA (l.map enc) ++ rs) T (0, 0))] ∧ OwnS s key l.length cap rs

structure DelG where
  j : Nat
  cur : List Idn
def keep (q : Idn → Bool) (l : List Idn) : List Idn := l.filter fun x => !q x
def DelI (q : Idn → Bool) (l : List Idn) (g : DelG) : Prop :=
  g.j ≤ l.length ∧ g.cur.length = l.length ∧ g.cur.drop g.j = l.drop g.j ∧ g.cur.take (keep q (l.take g.j)).length = keep q (l.take g.j) ∧ (keep q (l.take g.j)).length < g.j

theorem del_len {q : Idn → Bool} {l : List Idn} {j : Nat} : (keep q (l.take j)).length ≤ j := Nat.le_trans (List.length_filter_le _ _) (by rw [List.length_take]; exact Nat.min_le_left _ _)
theorem del_keep {q : Idn → Bool} {l cur : List Idn} {j : Nat} {x : Idn} (h : DelI q l ⟨j, cur⟩) (hx : l[j]? = some x) (hq : q x = false) :
    DelI q l ⟨j + 1, cur.set (keep q (l.take j)).length x⟩ ∧ (keep q (l.take (j + 1))).length = (keep q (l.take j)).length + 1 := by
  obtain ⟨h1, h2, h3, h4, h5⟩ := h
  simp only at *
  have hj : j < l.length := (List.getElem?_eq_some_iff.1 hx).1
  have e : keep q (l.take (j + 1)) = keep q (l.take j) ++ [x] := by
    rw [List.take_add_one, hx]; simp [keep, hq]
  have el : (keep q (l.take (j + 1))).length = (keep q (l.take j)).length + 1 := by rw [e]; simp
  refine ⟨⟨hj, by simp [h2], ?_, ?_, by simp only; omega⟩, el⟩
  · simp only
    rw [List.drop_set, if_pos (by omega)]
    have := congrArg (List.drop 1) h3
    simpa [List.drop_drop, Nat.add_comm] using this
  · simp only
    rw [el, e, List.take_add_one, List.take_set_of_le (Nat.le_refl _), h4]
    simp [show (keep q (l.take j)).length < cur.length by omega]
theorem del_drop {q : Idn → Bool} {l cur : List Idn} {j : Nat} {x : Idn} (h : DelI q l ⟨j, cur⟩) (hx : l[j]? = some x) (hq : q x = true) : DelI q l ⟨j + 1, cur⟩ ∧ (keep q (l.take (j + 1))).length = (keep q (l.take j)).length := by
  obtain ⟨h1, h2, h3, h4, h5⟩ := h
  simp only at *
  have hj : j < l.length := (List.getElem?_eq_some_iff.1 hx).1
  have e : keep q (l.take (j + 1)) = keep q (l.take j) := by
    rw [List.take_add_one, hx]; simp [keep, hq]
  refine ⟨⟨hj, h2, ?_, by rw [e]; exact h4, by rw [e]; simp only; omega⟩, by rw [e]⟩
  simp only
  have := congrArg (List.drop 1) h3
  simpa [List.drop_drop, Nat.add_comm] using this
theorem del_get {q : Idn → Bool} {l cur : List Idn} {j : Nat} (h : DelI q l ⟨j, cur⟩) : cur[j]? = l[j]? := by
  have := congrArg (fun z : List Idn => z[0]?) h.2.2.1
  simpa using this
theorem del_start {q : Idn → Bool} {l : List Idn} {i : Nat} {x : Idn} (hx : l[i]? = some x) (hq : q x = true) (hn : ∀ y ∈ l.take i, q y = false) : DelI q l ⟨i + 1, l⟩ ∧ (keep q (l.take (i + 1))).length = i := by
  have hi : i < l.length := (List.getElem?_eq_some_iff.1 hx).1
  have e : keep q (l.take (i + 1)) = l.take i := by
    rw [List.take_add_one, hx]
    unfold keep
    rw [List.filter_append]
    rw [List.filter_eq_self.2 (fun y hy => by simp [hn y hy])]
    simp [hq]
  have el : (keep q (l.take (i + 1))).length = i := by rw [e, List.length_take, Nat.min_eq_left (by omega)]
  exact ⟨⟨hi, rfl, rfl, by simp only; rw [el, e], by simp only; omega⟩, el⟩


/-- one of each run -/
def adj (p : Idn) : List Idn → List Idn
  | [] => []
  | x :: r => if x = p then adj p r else x :: adj x r
def cmpct : List Idn → List Idn
  | [] => []
  | x :: r => x :: adj x r

def CmI (l : List Idn) (i : Nat) : Prop := 1 ≤ i ∧ i ≤ l.length ∧ ∃ p, l[i - 1]? = some p ∧ cmpct l = l.take i ++ adj p (l.drop i)
theorem cm_start {l : List Idn} (h : 2 ≤ l.length) : CmI l 1 := by
  cases l with
  | nil => simp at h
  | cons x r => exact ⟨Nat.le_refl _, by simp, x, rfl, by simp [cmpct]⟩
theorem cm_next {l : List Idn} {i : Nat} {x : Idn} (h : CmI l i) (hx : l[i]? = some x) (hne : ∀ p, l[i - 1]? = some p → x ≠ p) : CmI l (i + 1) := by
  obtain ⟨h1, h2, p, hp, h3⟩ := h
  obtain ⟨hi, hxi⟩ := List.getElem?_eq_some_iff.1 hx
  refine ⟨by omega, hi, x, by simpa using hx, ?_⟩
  rw [h3, List.drop_eq_getElem_cons hi, hxi, adj, if_neg (hne p hp), List.take_add_one, hx]
  simp
theorem cm_end {l : List Idn} (h : CmI l l.length) : cmpct l = l := by
  obtain ⟨h1, h2, p, hp, h3⟩ := h
  simpa [adj] using h3

structure CmG where
  k : Nat
  r : Nat
  cur : List Idn
def CmJ (l : List Idn) (i : Nat) (g : CmG) : Prop :=
  1 ≤ g.k ∧ i + g.k ≤ l.length ∧ i ≤ g.r ∧ g.r + 1 ≤ i + g.k ∧ g.cur.length = l.length ∧ g.cur.drop (i + g.k - 1) = l.drop (i + g.k - 1) ∧ ∃ p, l[i + g.k - 1]? = some p ∧ cmpct l = g.cur.take g.r ++ adj p (l.drop (i + g.k))
theorem cj_start {l : List Idn} {i : Nat} {x : Idn} (h : CmI l i) (hx : l[i]? = some x) (he : l[i - 1]? = some x) : CmJ l i ⟨1, i, l⟩ := by
  obtain ⟨h1, h2, p, hp, h3⟩ := h
  obtain ⟨hi, hxi⟩ := List.getElem?_eq_some_iff.1 hx
  rw [he] at hp
  cases hp
  refine ⟨Nat.le_refl _, hi, Nat.le_refl _, Nat.le_refl _, rfl, rfl, x, by simpa using hx, ?_⟩
  simp only
  rw [h3, List.drop_eq_getElem_cons hi, hxi, adj, if_pos rfl]
theorem cj_get {l cur : List Idn} {i k r j : Nat} (h : CmJ l i ⟨k, r, cur⟩) (hj : i + k - 1 ≤ j) : cur[j]? = l[j]? := by
  have := congrArg (fun z : List Idn => z[j - (i + k - 1)]?) h.2.2.2.2.2.1
  simp only [List.getElem?_drop] at this
  rwa [show i + k - 1 + (j - (i + k - 1)) = j by omega] at this
theorem cj_drop {l cur : List Idn} {i k : Nat} (hk : 1 ≤ k) (h : cur.drop (i + k - 1) = l.drop (i + k - 1)) : cur.drop (i + (k + 1) - 1) = l.drop (i + (k + 1) - 1) := by
  have := congrArg (List.drop 1) h
  rw [List.drop_drop, List.drop_drop] at this
  rwa [show i + (k + 1) - 1 = i + k - 1 + 1 by omega]
theorem cj_keep {l cur : List Idn} {i k r : Nat} {x y : Idn} (h : CmJ l i ⟨k, r, cur⟩) (hx : l[i + k]? = some x) (hy : l[i + k - 1]? = some y) (hne : x ≠ y) : CmJ l i ⟨k + 1, r + 1, cur.set r x⟩ := by
  obtain ⟨h1, h2, h3, h4, h5, h6, p, hp, h7⟩ := h
  simp only at *
  obtain ⟨hi, hxi⟩ := List.getElem?_eq_some_iff.1 hx
  rw [hy] at hp
  cases hp
  refine ⟨by simp only; omega, by simp only; omega, by simp only; omega, by simp only; omega, by simp [h5], ?_, x, by simpa [Nat.add_assoc] using hx, ?_⟩
  · simp only
    rw [List.drop_set, if_pos (by omega)]
    exact cj_drop h1 h6
  · simp only
    rw [h7, List.drop_eq_getElem_cons hi, hxi, adj, if_neg hne, List.take_add_one, List.take_set_of_le (Nat.le_refl _), Nat.add_assoc]
    simp [show r < cur.length by omega]
theorem cj_skip {l cur : List Idn} {i k r : Nat} {x : Idn} (h : CmJ l i ⟨k, r, cur⟩) (hx : l[i + k]? = some x) (hy : l[i + k - 1]? = some x) : CmJ l i ⟨k + 1, r, cur⟩ := by
  obtain ⟨h1, h2, h3, h4, h5, h6, p, hp, h7⟩ := h
  simp only at *
  obtain ⟨hi, hxi⟩ := List.getElem?_eq_some_iff.1 hx
  rw [hy] at hp
  cases hp
  refine ⟨by simp only; omega, by simp only; omega, by simp only; omega, by simp only; omega, h5, cj_drop h1 h6, x, by simpa [Nat.add_assoc] using hx, ?_⟩
  simp only
  rw [h7, List.drop_eq_getElem_cons hi, hxi, adj, if_pos rfl, Nat.add_assoc]
theorem cj_end {l cur : List Idn} {i k r : Nat} (h : CmJ l i ⟨k, r, cur⟩) (he : i + k = l.length) : cur.take r = cmpct l ∧ (cmpct l).length = r := by
  obtain ⟨h1, h2, h3, h4, h5, h6, p, hp, h7⟩ := h
  simp only at *
  rw [he, List.drop_length, adj, List.append_nil] at h7
  refine ⟨h7.symm, ?_⟩
  rw [h7, List.length_take, Nat.min_eq_left (by omega)]


end Go.Fx
