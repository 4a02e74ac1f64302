/- Facts about memory and slots, carried as lists, for walks over the loaded program: a state is a list of slots' values and a list of known blocks. -/
import Derived.WalkKit
namespace Go.Fx

/-- A slot's value in a list of slots. -/
def look : List (Nat × Value) → Nat → Option Value
  | [], _ => none
  | (k, v) :: r, i => bif Nat.beq k i then some v else look r i

abbrev Env := List (Nat × Value)
/-- Known blocks of one's own; no number: a slice that is nil so far. -/
abbrev HF := List (Option Nat × Obj)

def Mem (m : HF) (w : World) : Prop := ∀ b o, (some b, o) ∈ m → w.heap[b]? = some o

/-- Two entries are not of one block. -/
def Apart (p q : Option Nat × Obj) : Prop := ∀ b, p.1 = some b → q.1 = some b → False

structure Fr (mods : List Nat) (w w' : World) : Prop where
  os : w'.os = w.os
  tape : w'.tape = w.tape
  output : w'.output = w.output
  size : w.heap.size ≤ w'.heap.size
  block : ∀ k, k < w.heap.size → k ∉ mods → w'.heap[k]? = w.heap[k]?
  drawn : w.drawn ≤ w'.drawn

theorem Fr.refl (mods : List Nat) (w : World) : Fr mods w w := ⟨rfl, rfl, rfl, Nat.le_refl _, fun _ _ _ => rfl, Nat.le_refl _⟩

theorem Fr.trans {mods : List Nat} {a b c : World} (h : Fr mods a b) (k : Fr mods b c) : Fr mods a c :=
  ⟨k.os.trans h.os, k.tape.trans h.tape, k.output.trans h.output, Nat.le_trans h.size k.size,
   fun i hi hm => (k.block i (Nat.lt_of_lt_of_le hi h.size) hm).trans (h.block i hi hm), Nat.le_trans h.drawn k.drawn⟩

theorem Fr.mono {mods mods' : List Nat} {a b : World} (h : Fr mods a b) (hs : ∀ x ∈ mods, x ∈ mods') : Fr mods' a b :=
  ⟨h.os, h.tape, h.output, h.size, fun i hi hm => h.block i hi (fun hh => hm (hs _ hh)), h.drawn⟩

/-- What is known at a place of a walk. -/
structure Sat (w0 : World) (mods : List Nat) (n : Nat) (m : HF) (e : Env) (a : Act) (w : World) : Prop where
  tmps : a.tmps.size = n
  defers : a.defers = []
  env : ∀ i v, look e i = some v → a.tmps[i]? = some v
  mem : Mem m w
  apart : m.Pairwise Apart
  own : ∀ b o, (some b, o) ∈ m → w0.heap.size ≤ b ∨ b ∈ mods
  fr : Fr mods w0 w

def St (w0 : World) (mods : List Nat) (n : Nat) (m : HF) (e : Env) (X : Act → World → Prop) : Prop :=
  ∀ a w, Sat w0 mods n m e a w → X a w

/-- A block is known. -/
def Kn (w0 : World) (mods : List Nat) (m : HF) (b : Nat) (o : Obj) : Prop := ∀ w, Mem m w → Fr mods w0 w → w.heap[b]? = some o

section
variable {w0 : World} {mods : List Nat} {n : Nat} {m : HF} {e : Env}

theorem Kn.i {b : Nat} {o : Obj} (k : Nat) (h : m[k]? = some (some b, o)) : Kn w0 mods m b o :=
  fun _ hm _ => hm b o (List.mem_of_getElem? h)

theorem lt_of_heap {w : World} {b : Nat} {o : Obj} (h : w.heap[b]? = some o) : b < w.heap.size := by
  rcases Nat.lt_or_ge b w.heap.size with h' | h'
  · exact h'
  · simp [Array.getElem?_eq_none h'] at h

theorem Kn.o {b : Nat} {o : Obj} (h : w0.heap[b]? = some o) (hb : b ∉ mods) : Kn w0 mods m b o :=
  fun w _ hf => by rw [hf.block b (lt_of_heap h) hb]; exact h

def evalE (e : Env) : Operand → Option Value
  | .tmp t => look e t
  | .const v => some v
  | .global g => some (.pointer (some ⟨g, 0, none⟩))
  | .func f => some (.func (.func f) #[] #[])

theorem Sat.eval {a : Act} {w : World} (h : Sat w0 mods n m e a w) {x : Operand} {v : Value} (hx : evalE e x = some v) : a.eval x = v := by
  cases x with
  | tmp t => have := h.env t v hx; simp only [Act.eval, Array.getD_eq_getD_getElem?, this, Option.getD_some]
  | const u => exact Option.some.inj hx
  | global g => exact Option.some.inj hx
  | func f => exact Option.some.inj hx

theorem look_cons_eq {d : Nat} {v : Value} {e : Env} : look ((d, v) :: e) d = some v := by simp [look]
theorem look_cons_ne {d i : Nat} {v : Value} {e : Env} (h : d ≠ i) : look ((d, v) :: e) i = look e i := by
  simp only [look]
  have : Nat.beq d i = false := Bool.eq_false_iff.2 (fun hh => h (Nat.eq_of_beq_eq_true hh))
  rw [this]; rfl

theorem Sat.put {a : Act} {w : World} (h : Sat w0 mods n m e a w) {d : Nat} (hd : d < n) (v : Value) :
    Sat w0 mods n m ((d, v) :: e) (a.put (some d) v) w := by
  refine ⟨by simpa [Act.put] using h.tmps, by simpa [Act.put] using h.defers, ?_, h.mem, h.apart, h.own, h.fr⟩
  intro i u hu
  simp only [Act.put, Array.getElem?_setIfInBounds]
  by_cases hdi : d = i
  · subst hdi
    rw [look_cons_eq] at hu
    cases hu
    rw [if_pos rfl, if_pos (by rw [h.tmps]; exact hd)]
  · rw [look_cons_ne hdi] at hu
    rw [if_neg hdi]
    exact h.env i u hu

/-- Slots that are told of among others. -/
def subEnv (e' e : Env) : Prop := ∀ i v, look e' i = some v → look e i = some v
theorem subEnv.nil {e : Env} : subEnv [] e := fun _ _ h => by simp [look] at h
theorem subEnv.cons {e' e : Env} {d : Nat} {v : Value} (h : look e d = some v) (k : subEnv e' e) : subEnv ((d, v) :: e') e := by
  intro i u hu
  by_cases hd : d = i
  · subst hd; rw [look_cons_eq] at hu; cases hu; exact h
  · rw [look_cons_ne hd] at hu; exact k i u hu
theorem subEnv.refl {e : Env} : subEnv e e := fun _ _ h => h

theorem Sat.sub {a : Act} {w : World} (h : Sat w0 mods n m e a w) {m' : HF} {e' : Env} (hm : m'.Sublist m) (he : subEnv e' e) :
    Sat w0 mods n m' e' a w :=
  ⟨h.tmps, h.defers, fun i v hv => h.env i v (he i v hv), fun b o hp => h.mem b o (hm.mem hp), h.apart.sublist hm, fun b o hp => h.own b o (hm.mem hp), h.fr⟩

theorem St.weaken {m' : HF} {e' : Env} {X : Act → World → Prop} (hm : m'.Sublist m) (he : subEnv e' e) (h : St w0 mods n m' e' X) : St w0 mods n m e X :=
  fun a w hs => h a w (hs.sub hm he)

theorem St.mono {X Y : Act → World → Prop} (h : St w0 mods n m e X) (hxy : ∀ a w, X a w → Y a w) : St w0 mods n m e Y := fun a w hs => hxy a w (h a w hs)
end

/-! ### memory steps -/
section
variable {w0 : World} {mods : List Nat} {n : Nat} {m : HF} {e : Env} {a : Act} {w : World}

theorem heap_alloc_old (w : World) (o : Obj) {k : Nat} (h : k < w.heap.size) : (w.alloc o).heap[k]? = w.heap[k]? := by
  show (w.heap.push o)[k]? = _
  rw [Array.getElem?_push, if_neg (by omega)]

theorem heap_alloc_new (w : World) (o : Obj) : (w.alloc o).heap[w.heap.size]? = some o := by
  show (w.heap.push o)[w.heap.size]? = _
  simp

theorem Fr.alloc (mods : List Nat) (w : World) (o : Obj) : Fr mods w (w.alloc o) :=
  ⟨rfl, rfl, rfl, by simp, fun _ hk _ => heap_alloc_old w o hk, Nat.le_refl _⟩

theorem Sat.lt (h : Sat w0 mods n m e a w) {b : Nat} {o : Obj} (hp : (some b, o) ∈ m) : b < w.heap.size := lt_of_heap (h.mem b o hp)

theorem Apart.symm {p q : Option Nat × Obj} (h : Apart p q) : Apart q p := fun b h1 h2 => h b h2 h1

/-- A new block apart from all that is known. -/
theorem Sat.apart_new (h : Sat w0 mods n m e a w) {b : Nat} {o : Obj} (hb : w.heap.size ≤ b) : ∀ q ∈ m, Apart (some b, o) q := by
  intro q hq c h1 h2
  cases h1
  obtain ⟨k, o'⟩ := q
  simp only at h2
  subst h2
  have := h.lt hq
  omega

theorem Sat.alloc (h : Sat w0 mods n m e a w) (o : Obj) : Sat w0 mods n ((some w.heap.size, o) :: m) e a (w.alloc o) := by
  refine ⟨h.tmps, h.defers, h.env, ?_, ?_, ?_, h.fr.trans (Fr.alloc _ _ _)⟩
  · intro b o' hp
    rcases List.mem_cons.1 hp with hp | hp
    · cases hp; exact heap_alloc_new w o
    · rw [heap_alloc_old w o (h.lt hp)]; exact h.mem b o' hp
  · rw [List.pairwise_cons]
    exact ⟨h.apart_new (Nat.le_refl _), h.apart⟩
  · intro b o' hp
    rcases List.mem_cons.1 hp with hp | hp
    · cases hp; exact .inl h.fr.size
    · exact h.own b o' hp

/-- A block is written anew. -/
def setB (w : World) (b : Nat) (o : Obj) : World := { w with heap := w.heap.setIfInBounds b o }

theorem heap_setB_ne (w : World) {b k : Nat} (o : Obj) (h : k ≠ b) : (setB w b o).heap[k]? = w.heap[k]? := by
  simp only [setB, Array.getElem?_setIfInBounds]
  rw [if_neg (by omega)]

theorem heap_setB_eq (w : World) {b : Nat} (o : Obj) (h : b < w.heap.size) : (setB w b o).heap[b]? = some o := by
  simp only [setB, Array.getElem?_setIfInBounds]
  rw [if_pos trivial, if_pos h]

theorem Fr.setB {mods : List Nat} {w : World} {b : Nat} (o : Obj) (h : b ∈ mods) : Fr mods w (setB w b o) :=
  ⟨rfl, rfl, rfl, by simp [Fx.setB], fun k _ hm => heap_setB_ne w o (fun e => hm (e ▸ h)), Nat.le_refl _⟩

theorem get_of_mem_set {m : HF} {k : Nat} {q p : Option Nat × Obj} (h : p ∈ m.set k q) : p = q ∨ ∃ i, i ≠ k ∧ m[i]? = some p := by
  obtain ⟨i, hi⟩ := List.getElem?_of_mem h
  rw [List.getElem?_set] at hi
  by_cases hki : k = i
  · rw [if_pos hki] at hi
    split at hi
    · exact .inl (Option.some.inj hi).symm
    · simp at hi
  · rw [if_neg hki] at hi
    exact .inr ⟨i, fun h => hki h.symm, hi⟩

theorem pairwise_set {m : HF} (h : m.Pairwise Apart) {k : Nat} {q : Option Nat × Obj} (hq : ∀ i p, i ≠ k → m[i]? = some p → Apart q p) : (m.set k q).Pairwise Apart := by
  rw [List.pairwise_iff_getElem] at h ⊢
  intro i j hi hj hij
  rw [List.length_set] at hi hj
  rw [List.getElem_set, List.getElem_set]
  by_cases h1 : k = i
  · rw [if_pos h1, if_neg (by omega)]
    exact hq j _ (by omega) (List.getElem?_eq_getElem hj)
  · rw [if_neg h1]
    by_cases h2 : k = j
    · rw [if_pos h2]
      exact (hq i _ (by omega) (List.getElem?_eq_getElem hi)).symm
    · rw [if_neg h2]
      exact h i j hi hj hij

theorem apart_at {m : HF} (h : m.Pairwise Apart) {i k : Nat} {p q : Option Nat × Obj} (hne : i ≠ k) (hi : m[i]? = some p) (hk : m[k]? = some q) : Apart q p := by
  rw [List.pairwise_iff_getElem] at h
  obtain ⟨hil, hi⟩ := List.getElem?_eq_some_iff.1 hi
  obtain ⟨hkl, hk⟩ := List.getElem?_eq_some_iff.1 hk
  rcases Nat.lt_or_gt_of_ne hne with hlt | hlt
  · have := h i k hil hkl hlt; rw [hi, hk] at this; exact this.symm
  · have := h k i hkl hil hlt; rw [hi, hk] at this; exact this

theorem Sat.setB (h : Sat w0 mods n m e a w) {k b : Nat} {o : Obj} (hk : m[k]? = some (some b, o)) (o' : Obj) :
    Sat w0 mods n (m.set k (some b, o')) e a (setB w b o') := by
  have hb : (some b, o) ∈ m := List.mem_of_getElem? hk
  refine ⟨h.tmps, h.defers, h.env, ?_, ?_, ?_, ?_⟩
  · intro c oc hp
    rcases get_of_mem_set hp with hp | ⟨i, hne, hi⟩
    · cases hp; exact heap_setB_eq w o' (h.lt hb)
    · have hcb : c ≠ b := fun hcb => apart_at h.apart hne hi hk c (by rw [hcb]) rfl
      rw [heap_setB_ne w o' hcb]
      exact h.mem c oc (List.mem_of_getElem? hi)
  · exact pairwise_set h.apart fun i p hne hi => fun c h1 h2 => apart_at h.apart hne hi hk c h1 h2
  · intro c oc hp
    rcases get_of_mem_set hp with hp | ⟨i, hne, hi⟩
    · cases hp; exact h.own b o hb
    · exact h.own c oc (List.mem_of_getElem? hi)
  · refine ⟨h.fr.os, h.fr.tape, h.fr.output, by simpa [Fx.setB] using h.fr.size, fun i hi hm => ?_, h.fr.drawn⟩
    have hib : i ≠ b := by
      intro hib
      subst hib
      rcases h.own _ _ hb with h1 | h1
      · exact absurd hi (Nat.not_lt.2 h1)
      · exact hm h1
    rw [heap_setB_ne w o' hib]
    exact h.fr.block i hi hm

/-- A new block comes in the place of a known one. -/
theorem Sat.renew (h : Sat w0 mods n m e a w) (k : Nat) (o : Obj) : Sat w0 mods n (m.set k (some w.heap.size, o)) e a (w.alloc o) := by
  have h2 := h.alloc o
  refine ⟨h.tmps, h.defers, h.env, ?_, ?_, ?_, h2.fr⟩
  · intro c oc hp
    rcases get_of_mem_set hp with hp | ⟨i, hne, hi⟩
    · exact h2.mem c oc (by rw [hp]; simp)
    · exact h2.mem c oc (by simp [List.mem_of_getElem? hi])
  · exact pairwise_set h.apart fun i p _ hi => h.apart_new (Nat.le_refl _) p (List.mem_of_getElem? hi)
  · intro c oc hp
    rcases get_of_mem_set hp with hp | ⟨i, hne, hi⟩
    · exact h2.own c oc (by rw [hp]; simp)
    · exact h2.own c oc (by simp [List.mem_of_getElem? hi])

/-- A draw. -/
theorem Sat.drew (h : Sat w0 mods n m e a w) : Sat w0 mods n m e a w.drew :=
  ⟨h.tmps, h.defers, h.env, h.mem, h.apart, h.own, ⟨h.fr.os, h.fr.tape, h.fr.output, h.fr.size, h.fr.block, Nat.le_succ_of_le h.fr.drawn⟩⟩
end
end Go.Fx
