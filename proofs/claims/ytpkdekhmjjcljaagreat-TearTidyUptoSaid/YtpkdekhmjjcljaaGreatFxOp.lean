/- What comes in, opened: integers, identities, flat structs, lists of them. -/
import Derived.Test.YtpkdekhmjjcljaaGreatFxRow
import Derived.Test.YtpkdekhmjjcljaaGreatFxX
namespace Go.Fx
open Go.ChangeShapes Go.WideShapes Go.RowKit Go.Deep

/-- a type whose cells spell a value of a plain type -/
structure Opn (P : Program) (t : TypeId) {α : Type} (enc : α → Array Value) (s : Nat) : Prop where
  cells : P.cellsOf t = s
  op : ∀ (H : Type) (en : TypeId × Value → H) (w : World) (base : Nat) (spare : Nat → Bool) (held : Bool) (fuel : Nat) (cs : List Value) (x : DataW H × List MemPlace), DataW.trod en P w base spare held fuel t cs = some x → ∃ y, cs = (enc y).toList

theorem Opn.int {P : Program} {t : TypeId} {k : IntKind} (ht : P.underlying t = some (.int k)) (hc : P.cellsOf t = 1) : Opn P t (fun z : Int => #[Value.int k z]) 1 := ⟨hc, fun _ _ _ _ _ _ _ _ _ h => by
  obtain ⟨n, h1, _⟩ := DataW.trod_int ht h
  exact ⟨n, h1⟩⟩
theorem Opn.bool {P : Program} {t : TypeId} (ht : P.underlying t = some .bool) (hc : P.cellsOf t = 1) : Opn P t (fun z : Bool => #[Value.bool z]) 1 := ⟨hc, fun _ _ _ _ _ _ _ _ _ h => by
  obtain ⟨n, h1, _⟩ := DataW.trod_bool ht h
  exact ⟨n, h1⟩⟩
theorem Opn.idn {P : Program} {t e : TypeId} (ht : P.underlying t = some (.array 16 e)) (he : P.underlying e = some (.int .u8)) (hC : P.cellsOf e = 1) (hT : P.cellsOf t = 16) : Opn P t Idn.enc 16 := ⟨hT, fun _ _ _ _ _ _ _ _ _ h => trod_idn ht he hC hT h⟩

/-- the cells from 'o' on are these parts -/
def From (cs : List Value) (o : Nat) (ps : List (Array Value)) : Prop := cs.drop o = (catA ps).toList
theorem From.nil {cs : List Value} {o : Nat} (h : cs.length = o) : From cs o [] := by
  show cs.drop o = _
  rw [List.drop_eq_nil_of_le (by omega)]; rfl
theorem From.cons {cs : List Value} {o s o' : Nat} {q : Array Value} {ps : List (Array Value)} (h : (cs.drop o).take s = q.toList) (ho : o + s = o') (k : From cs o' ps) : From cs o (q :: ps) := by
  subst ho
  show cs.drop o = _
  rw [catA_cons, Array.toList_append, ← h, ← show cs.drop (o + s) = (catA ps).toList from k, ← List.drop_drop, List.take_append_drop]
theorem From.all {cs : List Value} {ps : List (Array Value)} (h : From cs 0 ps) : cs = (catA ps).toList := h

/-- the fields of a struct, by place and type -/
def strB (P : Program) (t : TypeId) : Option (List (Nat × TypeId)) := match P.underlying t with
  | some (.struct fs) => some (fs.toList.map fun f => (f.offset, f.type))
  | _ => none

section
variable {H : Type} {en : TypeId × Value → H} {P : Program} {w : World} {base : Nat} {spare : Nat → Bool} {held : Bool} {t e : TypeId} {fuel : Nat} {cs : List Value} {x : DataW H × List MemPlace}
theorem trod_fields {L : List (Nat × TypeId)} (ht : strB P t = some L) (h : DataW.trod en P w base spare held fuel t cs = some x) :
    cs.length = P.cellsOf t ∧ ∃ (n : Nat) (xs : List (DataW H × List MemPlace)), x.1 = .agg (xs.map (·.1)) ∧ ∀ (i : Nat) (o : Nat) (u : TypeId), L[i]? = some (o, u) → ∃ y ∈ xs, DataW.trod en P w base spare held n u ((cs.drop o).take (P.cellsOf u)) = some y := by
  unfold strB at ht
  split at ht
  · rename_i fs hu
    obtain ⟨xs, n, _, hx, hl, hs, hf⟩ := DataW.trod_struct hu h
    refine ⟨hl, n, xs, by rw [hx], fun i o u hi => ?_⟩
    have e := Option.some.inj ht
    subst e
    rw [List.getElem?_map] at hi
    obtain ⟨f, h1, h2⟩ := Option.map_eq_some_iff.1 hi
    have h3 : fs[i]? = some f := by simpa using h1
    have h4 := hf i f h3
    have hlt : i < xs.length := by
      rw [hs]
      exact (Array.getElem?_eq_some_iff.1 h3).1
    rw [List.getElem?_eq_getElem hlt] at h4
    obtain ⟨rfl, rfl⟩ := Prod.mk.inj h2
    exact ⟨_, List.getElem_mem hlt, h4⟩
  · cases ht

theorem Opn.fld {α : Type} {enc : α → Array Value} {s o : Nat} (E : Opn P e enc s) {n : Nat} {xs : List (DataW H × List MemPlace)} (h : ∃ y ∈ xs, DataW.trod en P w base spare held n e ((cs.drop o).take (P.cellsOf e)) = some y) : ∃ y, (cs.drop o).take s = (enc y).toList := by
  obtain ⟨y, _, h⟩ := h
  have h1 := E.op _ _ _ _ _ _ _ _ _ h
  rwa [E.cells] at h1

/-- how many a reading counts -/
def lenOf : DataW H → Nat
  | .slice l _ => l.length
  | _ => 0

theorem trod_list {α : Type} {enc : α → Array Value} {s : Nat} (E : Opn P e enc s) (hsz : ∀ y, (enc y).size = s) (hs : 0 < s) (ht : P.underlying t = some (.slice e)) (hsp : ∀ a n c, cs = [.slice (some a) n c] → a.spot = none)
    (h : DataW.trod en P w base spare held fuel t cs = some x) : ∃ (p : Option Addr) (l : List α) (cap : Nat), cs = [.slice p l.length cap] ∧ Ro enc s w p l cap ∧ lenOf x.1 = l.length := by
  rcases open_slice ht h with ⟨rfl, rfl⟩ | ⟨a, len, cap, m, n, D, Pl, rfl, _, hl, _, hm, rfl, hx⟩
  · exact ⟨none, [], 0, rfl, .nil, rfl⟩
  have hle : len ≤ m := by rw [hm]; split <;> omega
  have key : ∀ i, i < len → ∃ y, w.cells? base (a.add (i * s)) s = some (enc y).toList := by
    intro i hi
    obtain ⟨cs', h1, h2⟩ := hx i (by omega)
    rw [E.cells] at h1
    obtain ⟨y, rfl⟩ := E.op _ _ _ _ _ _ _ _ _ h2
    exact ⟨y, h1⟩
  have hspot := hsp a len cap rfl
  obtain ⟨b, o, sp⟩ := a
  dsimp only at hspot
  subst hspot
  let g : _root_.Fin len → α := fun i => (key i.1 i.2).choose
  have hg : ∀ i : _root_.Fin len, w.cells? base (Addr.add ⟨b, o, none⟩ (i.1 * s)) s = some (enc (g i)).toList := fun i => (key i.1 i.2).choose_spec
  refine ⟨some ⟨b, o, none⟩, List.ofFn g, cap, by rw [List.length_ofFn], ⟨?_, by rw [List.length_ofFn]; exact hl⟩, by simp [lenOf]⟩
  by_cases h0 : len = 0
  · left
    subst h0
    exact ⟨by simp, .inr ⟨_, _, rfl⟩⟩
  right
  have hcell : ∀ (i : _root_.Fin len) (j : Nat), j < s → w.cell? ⟨b, o + i.1 * s + j, none⟩ = (enc (g i)).toList[j]? := by
    intro i j hj
    obtain ⟨_, _, h3⟩ := World.cells?_some (hg i)
    have := h3 j hj
    rw [add_plain, add_plain] at this
    exact this
  have hblk : ∃ c T fr, w.heap[b]? = some (.cells c T fr) := by
    have h1 := hcell ⟨0, by omega⟩ 0 hs
    have h2 : (enc (g ⟨0, by omega⟩)).toList[0]?.isSome = true := by simp [hsz]; omega
    rw [← h1] at h2
    unfold World.cell? at h2
    split at h2
    · exact ⟨_, _, _, by assumption⟩
    · cases h2
  obtain ⟨c, T, fr, hc⟩ := hblk
  refine ⟨b, o, c, T, fr, rfl, hc, fun i y hi => ?_⟩
  have hi' : i < len := by
    have := (List.getElem?_eq_some_iff.1 hi).1
    simpa using this
  have e : y = g ⟨i, hi'⟩ := by
    rw [List.getElem?_ofFn, dif_pos hi'] at hi
    exact (Option.some.inj hi).symm
  subst e
  have hget : ∀ j, j < s → c[o + i * s + j]? = (enc (g ⟨i, hi'⟩))[j]? := by
    intro j hj
    have := hcell ⟨i, hi'⟩ j hj
    unfold World.cell? at this
    rw [hc] at this
    simpa using this
  have hsize : o + i * s + s ≤ c.size := by
    have h1 := hget (s - 1) (by omega)
    have h2 : (enc (g ⟨i, hi'⟩))[s - 1]?.isSome = true := by simp [hsz]; omega
    rw [← h1] at h2
    have := (Array.getElem?_eq_some_iff.1 (Option.eq_some_of_isSome h2)).1
    omega
  refine ⟨hsize, ?_⟩
  apply Array.ext_getElem?
  intro j
  rw [Array.getElem?_extract]
  by_cases hj : j < s
  · rw [if_pos (by omega), hget j hj]
  · rw [if_neg (by omega)]
    symm
    apply Array.getElem?_eq_none
    rw [hsz]; omega

theorem spot_cell {r : Reach} {b0 : Nat} {u : TypeId} {a : Addr} {n c : Nat} (h : Cell.okWide P w r b0 u (.slice (some a) n c)) : a.spot = none := by
  unfold Cell.okWide Cell.ok at h
  cases hu : P.underlying u with
  | none => rw [hu] at h; exact absurd h (by simp)
  | some d => rw [hu] at h; cases d <;> first | exact h.2.2.2.1 | exact absurd h (by simp)

theorem spot_slice {r : Reach} {b0 : Nat} {a : Addr} {n c : Nat} (ht : P.underlying t = some (.slice e)) (h : Value.okWide P w r b0 t (.slice (some a) n c)) : a.spot = none := by
  unfold Value.okWide at h
  rw [ht] at h
  exact spot_cell h

/-- a list at the top -/
theorem Trod.list {α : Type} {enc : α → Array Value} {s : Nat} {v : Value} {d : DataW H} {ps : List MemPlace} {r : Reach} {b0 : Nat} (E : Opn P e enc s) (hsz : ∀ y, (enc y).size = s) (hs : 0 < s) (ht : P.underlying t = some (.slice e)) (hv : Value.okWide P w r b0 t v)
    (h : DataW.Trod en P w base spare held t v d ps) : ∃ (p : Option Addr) (l : List α) (cap : Nat), v = .slice p l.length cap ∧ Ro enc s w p l cap ∧ lenOf d = l.length := by
  obtain ⟨a, n, c, rfl⟩ := okWide_slice ht hv
  obtain ⟨f, hf⟩ := h
  obtain ⟨p, l, cap, h1, h2, h3⟩ := trod_list E hsz hs ht (cs := [.slice a n c]) (fun a' n' c' e => by
    simp only [List.cons.injEq, Value.slice.injEq, and_true] at e
    obtain ⟨rfl, rfl, rfl⟩ := e
    exact spot_slice ht hv) hf
  refine ⟨p, l, cap, ?_, h2, h3⟩
  simpa using h1

/-- an integer at the top -/
theorem Trod.flat {α : Type} {enc : α → Array Value} {s : Nat} {v : Value} {d : DataW H} {ps : List MemPlace} {L : List (Nat × TypeId)} {r : Reach} {b0 : Nat} (E : Opn P t enc s) (ht : strB P t = some L) (hv : Value.okWide P w r b0 t v)
    (h : DataW.Trod en P w base spare held t v d ps) : ∃ y, v = .agg (enc y) := by
  unfold strB at ht
  split at ht
  · rename_i fs hu
    obtain ⟨cs, rfl, _⟩ := okWide_struct hu hv
    obtain ⟨f, hf⟩ := h
    obtain ⟨y, hy⟩ := E.op _ _ _ _ _ _ _ _ _ hf
    exact ⟨y, by congr 1; exact Array.ext' hy⟩
  · cases ht

/-- a list within a struct at the top -/
theorem fld_list {α : Type} {enc : α → Array Value} {s o : Nat} {n : Nat} {xs : List (DataW H × List MemPlace)} {cs : Array Value} {r : Reach} {b0 : Nat} (E : Opn P e enc s) (hsz : ∀ y, (enc y).size = s) (hs : 0 < s) {u : TypeId} (hu : P.underlying u = some (.slice e)) (hc : P.cellsOf u = 1)
    (hv : Row.okWide P w r b0 t cs) (h : ∃ y ∈ xs, DataW.trod en P w base spare held n u ((cs.toList.drop o).take (P.cellsOf u)) = some y) :
    ∃ (p : Option Addr) (l : List α) (cap : Nat), (cs.toList.drop o).take 1 = (#[Value.slice p l.length cap] : Array Value).toList ∧ Ro enc s w p l cap ∧ ∃ y ∈ xs, lenOf y.1 = l.length := by
  obtain ⟨y, hy, h⟩ := h
  rw [hc] at h
  obtain ⟨p, l, cap, h1, h2, h3⟩ := trod_list E hsz hs hu (fun a n' c' e' => by
    obtain ⟨ts, _, _, hrow⟩ := hv
    have hget : cs[o]? = some (.slice (some a) n' c') := by
      have : ((cs.toList.drop o).take 1)[0]? = some (.slice (some a) n' c') := by rw [e']; rfl
      rw [List.getElem?_take, if_pos (by omega), List.getElem?_drop, Nat.add_zero] at this
      simpa using this
    obtain ⟨u', _, hu'⟩ := hrow o _ hget
    exact spot_cell hu') h
  exact ⟨p, l, cap, h1, h2, y, hy, h3⟩

theorem okWide_row {L : List (Nat × TypeId)} {v : Value} {r : Reach} {b0 : Nat} (ht : strB P t = some L) (hv : Value.okWide P w r b0 t v) : ∃ cs, v = .agg cs ∧ Row.okWide P w r b0 t cs := by
  unfold strB at ht
  split at ht
  · rename_i fs hu
    unfold Value.okWide at hv
    rw [hu] at hv
    obtain ⟨cs, rfl, _, h⟩ := hv
    exact ⟨cs, rfl, h⟩
  · cases ht

/-- two identities in an array -/
theorem trod_twoId (E : Opn P e Idn.enc 16) (ht : P.underlying t = some (.array 2 e)) (hc : P.cellsOf t = 32) (h : DataW.trod en P w base spare held fuel t cs = some x) : ∃ a b : Idn, cs = (catA [a.enc, b.enc]).toList := by
  obtain ⟨xs, m, _, _, hlen, hxl, hx⟩ := DataW.trod_array ht h
  rw [hc] at hlen
  have key : ∀ i, i < 2 → ∃ y : Idn, (cs.drop (i * 16)).take 16 = y.enc.toList := by
    intro i hi
    have h1 := hx i hi
    rw [E.cells, List.getElem?_eq_getElem (by omega)] at h1
    exact E.op _ _ _ _ _ _ _ _ _ h1
  obtain ⟨a, ha⟩ := key 0 (by omega)
  obtain ⟨b, hb⟩ := key 1 (by omega)
  exact ⟨a, b, From.all (.cons (s := 16) ha rfl (.cons (s := 16) hb rfl (.nil hlen)))⟩
theorem Trod.arr {α : Type} {enc : α → Array Value} {s k : Nat} {v : Value} {d : DataW H} {ps : List MemPlace} {r : Reach} {b0 : Nat} (E : Opn P t enc s) (ht : P.underlying t = some (.array k e)) (hv : Value.okWide P w r b0 t v)
    (h : DataW.Trod en P w base spare held t v d ps) : ∃ y, v = .agg (enc y) := by
  unfold Value.okWide at hv
  rw [ht] at hv
  obtain ⟨cs, rfl, _⟩ := hv
  obtain ⟨f, hf⟩ := h
  obtain ⟨y, hy⟩ := E.op _ _ _ _ _ _ _ _ _ hf
  exact ⟨y, by congr 1; exact Array.ext' hy⟩
end
end Go.Fx
