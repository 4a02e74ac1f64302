/- Values of several parts: their cells one behind the other. -/
import Derived.Test.YtpkdekhmjjcljaaGreatFxI
namespace Go.Fx

def catA (ps : List (Array Value)) : Array Value := (ps.map Array.toList).flatten.toArray
def Sel (c : Array Value) (o s : Nat) (q : Array Value) : Prop := o + s ≤ c.size ∧ c.extract o (o + s) = q
def szs : List (Array Value) → Nat
  | [] => 0
  | p :: ps => p.size + szs ps
def Ones (c : Array Value) : Prop := ∀ u ∈ c.toList, u.oneCell' = true

theorem catA_size (ps : List (Array Value)) : (catA ps).size = szs ps := by
  induction ps with
  | nil => rfl
  | cons p ps ih => simp only [catA, List.map_cons, List.flatten_cons, List.size_toArray, List.length_append, Array.length_toList, szs] at *; rw [ih]
theorem catA_append (a b : List (Array Value)) : catA (a ++ b) = catA a ++ catA b := by
  apply Array.ext'; simp [catA]
theorem catA_cons (p : Array Value) (b : List (Array Value)) : catA (p :: b) = p ++ catA b := by
  apply Array.ext'; simp [catA]
theorem Ones.cat {ps : List (Array Value)} (h : ∀ p ∈ ps, Ones p) : Ones (catA ps) := by
  intro u hu
  simp only [catA, List.mem_flatten, List.mem_map] at hu
  obtain ⟨l, ⟨p, hp, rfl⟩, hu⟩ := hu
  exact h p hp u hu
theorem Ones.single {v : Value} (h : v.oneCell' = true) : Ones #[v] := by intro u hu; simp at hu; subst hu; exact h

theorem Sel.cat (pre : List (Array Value)) (p : Array Value) (post : List (Array Value)) {o s : Nat} (ho : szs pre = o) (hs : p.size = s) : Sel (catA (pre ++ p :: post)) o s p := by
  subst ho; subst hs
  have h1 := catA_size pre
  rw [catA_append, catA_cons]
  constructor
  · simp only [Array.size_append]; omega
  · apply Array.ext'
    simp only [Array.toList_extract, Array.toList_append, List.extract]
    rw [List.drop_append, List.drop_eq_nil_of_le (by simp [h1]), List.nil_append, Array.length_toList, h1, Nat.sub_self, List.drop_zero, Nat.add_sub_cancel_left]
    rw [List.take_append_of_le_length (by simp), List.take_of_length_le (by simp)]

theorem Sel.trans {c q r : Array Value} {o s o' s' : Nat} (h : Sel c o s q) (k : Sel q o' s' r) : Sel c (o + o') s' r := by
  obtain ⟨h1, h2⟩ := h
  obtain ⟨k1, k2⟩ := k
  subst h2
  have hsz : (c.extract o (o + s)).size = s := by simp; omega
  rw [hsz] at k1
  refine ⟨by omega, ?_⟩
  rw [← k2]
  apply Array.ext'
  simp only [Array.toList_extract, List.extract]
  rw [List.drop_take, List.drop_drop, List.take_take]
  congr 1
  omega

theorem Sel.get {c q : Array Value} {o s i : Nat} {v : Value} (h : Sel c o s q) (hv : q[i]? = some v) : c[o + i]? = some v := by
  obtain ⟨h1, h2⟩ := h
  subst h2
  rw [Array.getElem?_extract] at hv
  split at hv
  · exact hv
  · simp at hv

theorem Sel.one {c : Array Value} {o : Nat} {v : Value} (h : Sel c o 1 #[v]) : c[o]? = some v := by
  have := h.get (i := 0) (v := v) rfl; simpa using this

def Upd (c : Array Value) (o : Nat) (vs c' : Array Value) : Prop := putAt c o vs = c'

theorem Upd.cat (pre : List (Array Value)) (p p' : Array Value) (post : List (Array Value)) {o : Nat} (ho : szs pre = o) (hs : p'.size = p.size) : Upd (catA (pre ++ p :: post)) o p' (catA (pre ++ p' :: post)) := by
  subst ho
  have h1 := catA_size pre
  unfold Upd putAt
  rw [catA_append, catA_append, catA_cons, catA_cons]
  apply Array.ext'
  simp only [Array.toList_append, Array.toList_extract, List.extract, List.drop_zero, Nat.sub_zero, Array.size_append]
  rw [List.take_append_of_le_length (by simp [h1]), List.take_of_length_le (by simp [h1])]
  rw [List.drop_append, List.drop_eq_nil_of_le (by simp [h1]), List.nil_append, Array.length_toList, h1, Nat.add_sub_cancel_left]
  rw [List.drop_append, List.drop_eq_nil_of_le (by simp [hs]), List.nil_append, Array.length_toList, hs, Nat.sub_self, List.drop_zero]
  rw [List.take_of_length_le (by rw [Array.length_toList]; omega), List.append_assoc]

theorem putAt_size {c vs : Array Value} {o : Nat} (h : o + vs.size ≤ c.size) : (putAt c o vs).size = c.size := by
  simp [putAt]; omega
theorem putAt_get {c vs : Array Value} {o : Nat} (h : o + vs.size ≤ c.size) (i : Nat) : (putAt c o vs)[i]? = if i < o then c[i]? else if i < o + vs.size then vs[i - o]? else c[i]? := by
  have h1 : (c.extract 0 o).size = o := by simp; omega
  unfold putAt
  by_cases hi : i < o
  · rw [if_pos hi, Array.append_assoc, Array.getElem?_append_left (by omega), Array.getElem?_extract, if_pos (by omega), Nat.zero_add]
  · rw [if_neg hi]
    by_cases h2 : i < o + vs.size
    · rw [if_pos h2, Array.append_assoc, Array.getElem?_append_right (by omega), h1, Array.getElem?_append_left (by omega)]
    · rw [if_neg h2, Array.getElem?_append_right (by rw [Array.size_append, h1]; omega), Array.size_append, h1, Array.getElem?_extract]
      by_cases h3 : i < c.size
      · rw [if_pos (by omega)]; congr 1; omega
      · rw [if_neg (by omega), Array.getElem?_eq_none (by omega)]

/-- an update inside a part -/
theorem Upd.trans {c q q' c' vs : Array Value} {o s o' : Nat} (h : Sel c o s q) (k : Upd q o' vs q') (hk : o' + vs.size ≤ s) (h' : Upd c o q' c') : Upd c (o + o') vs c' := by
  obtain ⟨h1, h2⟩ := h
  have hsz : q.size = s := by subst h2; simp; omega
  unfold Upd at *
  subst k
  subst h'
  have hq : (putAt q o' vs).size = s := by rw [putAt_size (by omega), hsz]
  apply Array.ext_getElem?
  intro i
  have hqi : ∀ j, j < s → q[j]? = c[o + j]? := by
    intro j hj
    rw [← h2, Array.getElem?_extract, if_pos (by omega)]
  have e1 := putAt_get (c := c) (vs := vs) (o := o + o') (by omega) i
  have e2 := putAt_get (c := c) (vs := putAt q o' vs) (o := o) (by omega) i
  have e3 := putAt_get (c := q) (vs := vs) (o := o') (by omega) (i - o)
  rw [hq] at e2
  rw [e1, e2]
  by_cases a1 : i < o
  · rw [if_pos a1, if_pos (show i < o + o' by omega)]
  · rw [if_neg a1]
    by_cases a2 : i < o + s
    · rw [if_pos a2, e3]
      by_cases a3 : i < o + o'
      · rw [if_pos a3, if_pos (show i - o < o' by omega), hqi _ (by omega), show o + (i - o) = i from by omega]
      · rw [if_neg a3, if_neg (show ¬ i - o < o' by omega)]
        by_cases a4 : i < o + o' + vs.size
        · rw [if_pos a4, if_pos (show i - o < o' + vs.size by omega), show i - o - o' = i - (o + o') from by omega]
        · rw [if_neg a4, if_neg (show ¬ i - o < o' + vs.size by omega), hqi _ (by omega), show o + (i - o) = i from by omega]
    · rw [if_neg a2, if_neg (show ¬ i < o + o' by omega), if_neg (show ¬ i < o + o' + vs.size by omega)]

theorem Upd.set {c c' : Array Value} {o : Nat} {v : Value} (h : Upd c o #[v] c') (ho : o < c.size) : c.setIfInBounds o v = c' := by rw [← putAt_one v ho]; exact h
/-- cells that are numbers, truth values or words -/
def plainV : Value → Bool
  | .int _ _ => true
  | .bool _ => true
  | _ => false
def Pl (c : Array Value) : Prop := ∀ u ∈ c.toList, plainV u = true
theorem Pl.cat {ps : List (Array Value)} (h : ∀ p ∈ ps, Pl p) : Pl (catA ps) := by
  intro u hu
  simp only [catA, List.mem_flatten, List.mem_map] at hu
  obtain ⟨l, ⟨p, hp, rfl⟩, hu⟩ := hu
  exact h p hp u hu
theorem Pl.single {v : Value} (h : plainV v = true) : Pl #[v] := by intro u hu; simp at hu; subst hu; exact h
end Go.Fx
