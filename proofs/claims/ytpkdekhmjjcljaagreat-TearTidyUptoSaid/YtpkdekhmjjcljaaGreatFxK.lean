/- A call that writes a slice of one's own. -/
import Derived.Test.YtpkdekhmjjcljaaGreatFxJ
namespace Go.Fx
section
variable {P : Program} {w0 : World} {mods : List Nat} {n : Nat} {m : HF} {e : Env} {Q : Exit → Act → World → Prop} {ops : Array Oper} {rest : List Oper} {d : Nat} {t : TypeId} {p : String} {af : Array Edge}

theorem apart_erase {i : Nat} {key : Option Nat} {o : Obj} (ha : m.Pairwise Apart) (hk : m[i]? = some (key, o)) : ∀ q ∈ m.eraseIdx i, Apart (key, o) q := by
  intro q hq
  obtain ⟨j, hj⟩ := List.getElem?_of_mem hq
  rw [List.getElem?_eraseIdx] at hj
  split at hj
  · exact apart_at ha (by omega) hj hk
  · exact apart_at ha (by omega) hj hk

/-- A call that may write the blocks of one known slice: its place falls out; what comes of it is told anew. -/
theorem St.callK {fo : Operand} {xs : List Operand} {ats : Array TypeId} {f : FuncId} {first capt args : Array Value} {vs : List Value} {key : Option Nat} {o : Obj} {R : Value → HF → Prop} (i : Nat) (hk : m[i]? = some (key, o))
    (hf : evalE e fo = some (.func (.func f) first capt)) (hE : enterB P f = true) (hxs : evalsE e xs = some vs) (hargs : first ++ vs.toArray ++ capt = args)
    (hc : ∀ w, Mem m w → Fr mods w0 w → (∀ q ∈ m.eraseIdx i, Apart (key, o) q) → Calls P f args w (Ret w key.toList R)) (hd : d < n)
    (k : ∀ v nm, R v nm → St w0 mods n (nm ++ m.eraseIdx i) ((d, v) :: e) (wpList P ops Q rest)) :
    St w0 mods n m e (wpList P ops Q (⟨some d, .call ⟨.value fo, xs.toArray, ats⟩, t, p, af, none⟩ :: rest)) := fun a w hs => by
  have hap := apart_erase hs.apart hk
  have hcm : ∀ b ∈ key.toList, ∃ o, (some b, o) ∈ m := by
    intro b hb
    cases key with
    | none => simp at hb
    | some c => simp at hb; subst hb; exact ⟨o, List.mem_of_getElem? hk⟩
  have hap2 : ∀ b ∈ key.toList, ∀ o', (some b, o') ∉ m.eraseIdx i := by
    intro b hb o' hm
    cases key with
    | none => simp at hb
    | some c => simp at hb; subst hb; exact hap _ hm b rfl rfl
  exact St.call (m.eraseIdx i) hf hE hxs hargs (fun w hm hfr => hc w hm hfr hap) hcm (List.eraseIdx_sublist _ _) hap2 hd k a w hs

/-- what another block holds stays -/
theorem Fr.keepK {key : Option Nat} {o o' : Obj} {w w' : World} {b : Nat} (hf : Fr key.toList w w') (h : w.heap[b]? = some o') (ha : Apart (key, o) (some b, o')) : w'.heap[b]? = some o' := by
  rw [hf.block b (lt_of_heap h) (fun hb => by
    cases key with
    | none => simp at hb
    | some c => simp at hb; subst hb; exact ha b rfl rfl)]
  exact h

theorem RetL.of {α : Type} {enc : α → Array Value} {s : Nat} {T : TypeId} {l : List α} {v : Value} {nm : HF} (h : RetL enc s T l v nm) : ∃ key cap rs, v = slv key l.length cap ∧ nm = [(key, .cells (catA (l.map enc) ++ rs) T (0, 0))] ∧ OwnS s key l.length cap rs := h
theorem Mem.at {m : HF} {w : World} (hm : Mem m w) (i : Nat) {b : Nat} {o : Obj} (h : m[i]? = some (some b, o)) : w.heap[b]? = some o := hm b o (List.mem_of_getElem? h)
theorem Mem.atK {m : HF} {w : World} (hm : Mem m w) (i : Nat) {key : Option Nat} {o : Obj} (h : m[i]? = some (key, o)) : ∀ b, key = some b → w.heap[b]? = some o := by
  rintro b rfl; exact hm.at i h
/-- a list of one's own, to be appended -/
theorem Src.own {α : Type} {enc : α → Array Value} {s i cap : Nat} {key : Option Nat} {T : TypeId} {l : List α} {rs : Array Value} (hs : ∀ x, (enc x).size = s) (hk : m[i]? = some (key, .cells (catA (l.map enc) ++ rs) T (0, 0))) (ho : OwnS s key l.length cap rs) :
    Src w0 mods m s (slv key l.length cap) l.length (catA (l.map enc)) := by
  cases key with
  | none =>
    have h1 := ho.nil rfl
    have h2 := ho.le
    have : l = [] := List.length_eq_zero_iff.1 (by omega)
    subst this
    subst h1
    exact .nil
  | some b => exact .at_ (.i i hk) (Sel.app ⟨by rw [catA_list_size hs]; omega, by rw [← catA_list_size hs l, Nat.zero_add]; simp⟩)
theorem Rd.ownM {α : Type} {enc : α → Array Value} {s i cap : Nat} {key : Option Nat} {T : TypeId} {l : List α} {rs : Array Value} {w : World} (hm : Mem m w) (hs : ∀ x, (enc x).size = s) (hk : m[i]? = some (key, .cells (catA (l.map enc) ++ rs) T (0, 0))) (ho : OwnS s key l.length cap rs) :
    Rd enc s w (key.map fun b => ⟨b, 0, none⟩) l := Rd.slv hs ho (hm.atK i hk)

/-- A list of one's own grows by another list. -/
theorem St.appL {α : Type} {enc : α → Array Value} {x y : Operand} {sT el : TypeId} {key : Option Nat} {cap s by_ : Nat} {rs : Array Value} {zv yv : Value} {l l2 : List α} (i : Nat) (hk : m[i]? = some (key, .cells (catA (l.map enc) ++ rs) el (0, 0))) (hx : evalE e x = some (slv key l.length cap)) (hy : evalE e y = some yv)
    (hsrc : Src w0 mods m s yv l2.length (catA (l2.map enc))) (hT : elemB P sT = some el) (hs : sizeB P el = some s) (hby : bytesB P el = some by_) (hz : zeroB P el = some zv) (hzs : zv.cells.size = s) (hpos : 0 < by_) (hsz : ∀ a, (enc a).size = s)
    (ho : OwnS s key l.length cap rs) (hone : ∀ a ∈ l2, Ones (enc a)) (hfit : (l.length + l2.length) * by_ ≤ 140737488355328) (hd : d < n)
    (K : ∀ (key' : Option Nat) (cap' : Nat) (rs' : Array Value), OwnS s key' (l ++ l2).length cap' rs' → St w0 mods n (m.set i (key', .cells (catA ((l ++ l2).map enc) ++ rs') el (0, 0))) ((d, slv key' (l ++ l2).length cap') :: e) (wpList P ops Q rest)) :
    St w0 mods n m e (wpList P ops Q (⟨some d, .call ⟨.builtin .append, [x, y].toArray, [sT, sT].toArray⟩, t, p, af, none⟩ :: rest)) :=
  St.app i hk hx hy hsrc hT rfl hs hby hz hzs hpos (catA_list_size hsz l) ho.rs ho.le ho.nil (Ones.cat (by intro q hq; obtain ⟨a, ha, rfl⟩ := List.mem_map.1 hq; exact hone a ha)) hfit hd fun key' cap' rs' h1 h2 h3 => by
    have := K key' cap' rs' ⟨by rw [List.length_append]; exact h1, by rw [List.length_append]; exact h2, h3⟩
    rw [List.map_append, catA_append, List.length_append] at this
    exact this
/-- a list's part -/
theorem Src.part {α : Type} {enc : α → Array Value} {s i cap b o k a : Nat} {T : TypeId} {fr : Nat × Nat} {l : List α} {rs : Array Value} (hs : ∀ x, (enc x).size = s) (hk : m[i]? = some (some b, .cells (catA (l.map enc) ++ rs) T fr)) (ha : o = a * s) (hak : a + k ≤ l.length) :
    Src w0 mods m s (.slice (some ⟨b, o, none⟩) k cap) k (catA (((l.drop a).take k).map enc)) := by
  subst ha
  refine .at_ (.i i hk) (Sel.app ?_)
  have e : l.map enc = (l.take a).map enc ++ (((l.drop a).take k).map enc ++ ((l.drop a).drop k).map enc) := by
    rw [← List.map_append, List.take_append_drop, ← List.map_append, List.take_append_drop]
  have h1 : (catA ((l.take a).map enc)).size = a * s := by rw [catA_list_size hs, List.length_take, Nat.min_eq_left (by omega)]
  have h2 : (catA (((l.drop a).take k).map enc)).size = k * s := by rw [catA_list_size hs, List.length_take, List.length_drop, Nat.min_eq_left (by omega)]
  rw [e, catA_append, catA_append]
  refine ⟨by simp only [Array.size_append, h1, h2]; omega, ?_⟩
  apply Array.ext_getElem?
  intro j
  rw [Array.getElem?_extract, Array.getElem?_append, h1, Array.getElem?_append, h2]
  by_cases hj : j < k * s
  · rw [if_pos (by simp only [Array.size_append, h1, h2]; omega), if_neg (by omega), if_pos (by omega)]
    congr 1; omega
  · rw [if_neg (by simp only [Array.size_append, h1, h2]; omega), Array.getElem?_eq_none (by omega)]
theorem Src.pre {α : Type} {enc : α → Array Value} {s i cap cap' a : Nat} {key : Option Nat} {T : TypeId} {l : List α} {rs : Array Value} (hs : ∀ x, (enc x).size = s) (hk : m[i]? = some (key, .cells (catA (l.map enc) ++ rs) T (0, 0))) (ho : OwnS s key l.length cap rs) (h : a ≤ l.length) :
    Src w0 mods m s (.slice (key.map fun b => ⟨b, 0, none⟩) a cap') a (catA ((l.take a).map enc)) := by
  cases key with
  | none =>
    have h1 := ho.nil rfl
    have h2 := ho.le
    have ha : a = 0 := by omega
    subst ha
    exact .nil
  | some b =>
    have := Src.part (w0 := w0) (mods := mods) (m := m) (o := 0) (a := 0) (k := a) (cap := cap') hs hk (by omega) (by omega)
    simpa using this
theorem Src.suf {α : Type} {enc : α → Array Value} {s i cap cap' a : Nat} {key : Option Nat} {T : TypeId} {l : List α} {rs : Array Value} (hs : ∀ x, (enc x).size = s) (hk : m[i]? = some (key, .cells (catA (l.map enc) ++ rs) T (0, 0))) (ho : OwnS s key l.length cap rs) (h : a ≤ l.length) :
    Src w0 mods m s (.slice (key.map fun b => ⟨b, if cap = a then 0 else a * s, none⟩) (l.length - a) cap') (l.length - a) (catA ((l.drop a).map enc)) := by
  cases key with
  | none =>
    have h1 := ho.nil rfl
    have h2 := ho.le
    have hl : l = [] := List.length_eq_zero_iff.1 (by omega)
    subst hl
    simp
    exact .nil
  | some b =>
    by_cases hc : cap = a
    · have h2 := ho.le
      have hl : l.length = a := by omega
      subst hl
      rw [Nat.sub_self, List.drop_length]
      exact .em
    · have := Src.part (w0 := w0) (mods := mods) (m := m) (o := a * s) (a := a) (k := l.length - a) (cap := cap') hs hk rfl (by omega)
      rw [List.take_of_length_le (by rw [List.length_drop]; omega)] at this
      simp only [Option.map_some, if_neg hc]
      exact this
/-- the rest of a slice of one's own -/
theorem Val.slK {dd : Option Nat} {g : Option (Nat × Bool)} {x y : Operand} {T el : TypeId} {k : IntKind} {key : Option Nat} {l c s a : Nat} (hT : elemB P T = some el) (hs : sizeB P el = some s) (hx : evalE e x = some (slv key l c)) (hy : evalE e y = some (.int k ((a : Nat) : Int))) (hnil : key = none → c = 0) (hle : l ≤ c) (ha : a ≤ l) :
    Val P w0 mods m e ⟨dd, .slice T x (some y) none none, t, p, af, g⟩ (.slice (key.map fun b => ⟨b, if c = a then 0 else a * s, none⟩) (l - a) (c - a)) := by
  cases key with
  | some b =>
    have := Val.slL (P := P) (w0 := w0) (mods := mods) (m := m) (d := dd) (g := g) (t := t) (p := p) (af := af) (b := b) (o := 0) hT hs hx hy (by omega) (by omega)
    rw [Int.toNat_natCast, Nat.zero_add] at this
    exact this
  | none =>
    have h0 := hnil rfl
    subst h0
    have hl0 : l = 0 := by omega
    subst hl0
    have ha0 : a = 0 := by omega
    subst ha0
    intro ρ w hρ _ _
    simp [execOp, Instr.sliceAt, Instr.slice, Instr.sliceBounds, Instr.sliceBound, asIntOf, hρ _ _ hx, hρ _ _ hy, run_underlying' w (elemB_spec hT), run_sizeB w hs, slv]
end
end Go.Fx
