/- Lists that lie in memory and are only read. -/
import Derived.Test.YtpkdekhmjjcljaaGreatFxH
import Derived.Test.YtpkdekhmjjcljaaGreatFxG
import Derived.Test.YtpkdekhmjjcljaaGreatFxI
namespace Go.Fx

/-- A slice's elements: where it begins, and what they are. -/
def Rd {α : Type} (enc : α → Array Value) (s : Nat) (w : World) (p : Option Addr) (l : List α) : Prop :=
  (l = [] ∧ (p = none ∨ ∃ b o, p = some ⟨b, o, none⟩)) ∨ ∃ b o c T fr, p = some ⟨b, o, none⟩ ∧ w.heap[b]? = some (.cells c T fr) ∧ ∀ i x, l[i]? = some x → Sel c (o + i * s) s (enc x)

section
variable {α : Type} {enc : α → Array Value} {s : Nat} {w w' : World} {p : Option Addr} {l : List α}
theorem Rd.nil : Rd enc s w none ([] : List α) := .inl ⟨rfl, .inl rfl⟩
theorem Rd.em {b o : Nat} : Rd enc s w (some ⟨b, o, none⟩) ([] : List α) := .inl ⟨rfl, .inr ⟨_, _, rfl⟩⟩
theorem Rd.get (h : Rd enc s w p l) {i : Nat} (hi : i < l.length) : ∃ b o c T fr, p = some ⟨b, o, none⟩ ∧ w.heap[b]? = some (.cells c T fr) ∧ ∀ i x, l[i]? = some x → Sel c (o + i * s) s (enc x) := by
  rcases h with ⟨rfl, _⟩ | h
  · simp at hi
  · exact h
theorem Rd.fr (h : Rd enc s w p l) (hf : Fr [] w w') : Rd enc s w' p l := by
  rcases h with h | ⟨b, o, c, T, f, h1, h2, h3⟩
  · exact .inl h
  · exact .inr ⟨b, o, c, T, f, h1, by rw [hf.block b (lt_of_heap h2) (by simp)]; exact h2, h3⟩
theorem Rd.front {l' : List α} (h : Rd enc s w p (l ++ l')) : Rd enc s w p l := by
  rcases h with h | ⟨b, o, c, T, f, h1, h2, h3⟩
  · exact .inl ⟨(List.append_eq_nil_iff.1 h.1).1, h.2⟩
  · refine .inr ⟨b, o, c, T, f, h1, h2, fun i x hx => h3 i x ?_⟩
    have : i < l.length := by
      rcases Nat.lt_or_ge i l.length with h' | h'
      · exact h'
      · simp [List.getElem?_eq_none h'] at hx
    rw [List.getElem?_append_left this]; exact hx
theorem szs_map (hs : ∀ x, (enc x).size = s) : ∀ (l : List α), szs (l.map enc) = l.length * s
  | [] => by simp [szs]
  | x :: l => by simp only [List.map_cons, szs, szs_map hs l, hs, List.length_cons, Nat.add_mul]; omega
theorem Sel.app {c q r : Array Value} {o n : Nat} (h : Sel c o n q) : Sel (c ++ r) o n q := by
  obtain ⟨h1, h2⟩ := h
  refine ⟨by simp; omega, ?_⟩
  rw [← h2]
  apply Array.ext_getElem?
  intro i
  simp only [Array.getElem?_extract, Array.size_append]
  by_cases hi : i < n
  · rw [if_pos (by omega), if_pos (by omega), Array.getElem?_append_left (by omega)]
  · rw [if_neg (by omega), if_neg (by omega)]
theorem sel_list (hs : ∀ x, (enc x).size = s) {i : Nat} {x : α} {rs : Array Value} (h : l[i]? = some x) : Sel (catA (l.map enc) ++ rs) (i * s) s (enc x) := by
  refine Sel.app ?_
  obtain ⟨hi, rfl⟩ := List.getElem?_eq_some_iff.1 h
  have e : l.map enc = (l.take i).map enc ++ enc l[i] :: (l.drop (i + 1)).map enc := by
    rw [← List.map_cons, ← List.map_append]
    simp
  rw [e]
  refine Sel.cat _ _ _ ?_ (hs _)
  rw [szs_map hs, List.length_take, Nat.min_eq_left (by omega)]
theorem Rd.own {b : Nat} {T : TypeId} {fr : Nat × Nat} {rs : Array Value} (hs : ∀ x, (enc x).size = s) (h : w.heap[b]? = some (.cells (catA (l.map enc) ++ rs) T fr)) : Rd enc s w (some ⟨b, 0, none⟩) l :=
  .inr ⟨b, 0, _, T, fr, rfl, h, fun i x hx => by rw [Nat.zero_add]; exact sel_list hs hx⟩
theorem catA_list_size (hs : ∀ x, (enc x).size = s) (l : List α) : (catA (l.map enc)).size = l.length * s := by rw [catA_size, szs_map hs]
theorem catA_snoc (l : List α) (x : α) : catA ((l ++ [x]).map enc) = catA (l.map enc) ++ enc x := by
  rw [List.map_append, catA_append]; simp [catA]

/-- what lies in a row lies there as one -/
theorem sel_all {c : Array Value} {o : Nat} (hs : ∀ x, (enc x).size = s) : ∀ (l : List α), o + l.length * s ≤ c.size → (∀ i x, l[i]? = some x → Sel c (o + i * s) s (enc x)) → Sel c o (l.length * s) (catA (l.map enc))
  | [], h, _ => ⟨by simpa using h, by apply Array.ext'; simp [catA]⟩
  | x :: l, h, hsel => by
    simp only [List.length_cons, Nat.add_mul, Nat.one_mul] at h ⊢
    have h0 := hsel 0 x rfl
    have ih := sel_all (o := o + s) (c := c) hs l (by omega) (fun i y hy => by
      have := hsel (i + 1) y (by simpa using hy)
      rwa [Nat.add_mul, Nat.one_mul, show o + (i * s + s) = o + s + i * s by omega] at this)
    refine ⟨by omega, ?_⟩
    have hsz : (c.extract (o + 0 * s) (o + 0 * s + s)).size = s := by rw [Array.size_extract, Nat.zero_mul, Nat.add_zero, Nat.min_eq_left (by omega)]; omega
    rw [List.map_cons, catA_cons, ← ih.2, ← h0.2]
    apply Array.ext_getElem?
    intro j
    rw [Array.getElem?_append, hsz]
    simp only [Array.getElem?_extract, Nat.zero_mul, Nat.add_zero]
    rw [Nat.min_eq_left (show o + (l.length * s + s) ≤ c.size by omega), Nat.min_eq_left (show o + s ≤ c.size by omega), Nat.min_eq_left (show o + s + l.length * s ≤ c.size by omega)]
    by_cases h1 : j < s
    · rw [if_pos (by omega), if_pos h1, if_pos (by omega)]
    · rw [if_neg h1]
      by_cases h2 : j < l.length * s + s
      · rw [if_pos (by omega), if_pos (by omega)]; congr 1; omega
      · rw [if_neg (by omega), if_neg (by omega)]
theorem Rd.fit {o : Nat} {c : Array Value} (hsel : ∀ i x, l[i]? = some x → Sel c (o + i * s) s (enc x)) (hl : l ≠ []) : o + l.length * s ≤ c.size := by
  have hlen : 0 < l.length := List.length_pos_iff.2 hl
  have := (hsel (l.length - 1) _ (List.getElem?_eq_getElem (by omega))).1
  have e : (l.length - 1) * s + s = l.length * s := by rw [← Nat.succ_mul]; congr 1; omega
  omega
theorem Rd.src {m : HF} (hs : ∀ x, (enc x).size = s) (h : Rd enc s w p l) (cap : Nat) : Src w [] m s (.slice p l.length cap) l.length (catA (l.map enc)) := by
  rcases h with ⟨rfl, rfl | ⟨b, o, rfl⟩⟩ | ⟨b, o, c, T, f, rfl, h2, h3⟩
  · exact .nil
  · exact .em
  · by_cases hl : l = []
    · subst hl; exact .em
    · exact .at_ (.o h2 (by simp)) (sel_all hs l (Rd.fit h3 hl) h3)

/-- a slice of one's own: where, so many, room for so many, what lies behind -/
structure OwnS (s : Nat) (key : Option Nat) (len cap : Nat) (rs : Array Value) : Prop where
  rs : rs.size = (cap - len) * s
  le : len ≤ cap
  nil : key = none → cap = 0
/-- a list that comes back in a block of one's own -/
def RetL (enc : α → Array Value) (s : Nat) (T : TypeId) (l : List α) : Value → HF → Prop := fun v nm =>
  ∃ key cap rs, v = slv key l.length cap ∧ nm = [(key, .cells (catA (l.map enc) ++ rs) T (0, 0))] ∧ OwnS s key l.length cap rs
theorem Rd.slv {key : Option Nat} {T : TypeId} {fr : Nat × Nat} {rs : Array Value} {cap : Nat} (hs : ∀ x, (enc x).size = s) (ho : OwnS s key l.length cap rs) (h : ∀ b, key = some b → w.heap[b]? = some (.cells (catA (l.map enc) ++ rs) T fr)) : Rd enc s w (key.map fun b => ⟨b, 0, none⟩) l := by
  cases key with
  | none =>
    have h1 := ho.nil rfl
    have h2 := ho.le
    have : l = [] := List.length_eq_zero_iff.1 (by omega)
    subst this
    exact .nil
  | some b => exact .own hs (h b rfl)
end
end Go.Fx
