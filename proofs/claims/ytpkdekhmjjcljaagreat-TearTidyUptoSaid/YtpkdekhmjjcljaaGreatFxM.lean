/- Maps whose keys are structs or arrays: a list of keys, values and stamps. -/
import Derived.Test.YtpkdekhmjjcljaaGreatFxJ
import Derived.WideKeyRuns
import Derived.Laws.IdiomRangeMap
namespace Go.Fx

/-! ### what may be a key -/
def CkV (P : Program) (k : Nat) (T : TypeId) (v : Value) : Prop := ∀ b d w, (Instr.checkKey b (d + k) T v).run P w = .ok () w
section
variable {P : Program}
theorem CkV.up {k k' : Nat} {T : TypeId} {x : Value} (h : CkV P k T x) (hk : k ≤ k') : CkV P k' T x := fun b d w => by
  have := h b (d + (k' - k)) w
  rwa [show d + (k' - k) + k = d + k' by omega] at this
theorem CkV.int {T : TypeId} {k : IntKind} (hT : intB P T = some k) (a : Int) : CkV P 1 T (.int k a) := fun b d w => by
  rw [Instr.checkKey]
  simp [run_underlying' w (intB_spec hT)]
theorem CkV.arr {T el : TypeId} {n : Nat} {k : IntKind} (hT : arrB P T = some (n, el)) (hel : intB P el = some k) (hag : isAggB P el = some false) (hs : sizeB P el = some 1) (f : Nat → Int) (xs : Array Value)
    (hx : ∀ i, i < n → xs[i]? = some (.int k (f i))) : CkV P 2 T (.agg xs) := fun b d w => by
  rw [show d + 2 = (d + 1) + 1 from rfl, Instr.checkKey]
  simp only [Sem.run_bind, run_underlying' w (arrB_spec hT), Result.andThen]
  simp only [Std.Legacy.Range.forIn_eq_forIn_range', Std.Legacy.Range.size, Nat.sub_zero, Nat.add_one_sub_one, Nat.div_one]
  have key : ∀ is : List Nat, (∀ i ∈ is, i < n) → (forIn is PUnit.unit (fun i _ => do
      Instr.checkKey b (d + 1) el (← part el xs (i * (← sizeOf el)))
      pure (ForInStep.yield PUnit.unit)) : Sem PUnit).run P w = .ok PUnit.unit w := by
    intro is
    induction is with
    | nil => intro _; simp
    | cons i is ih =>
      intro h
      have h1 := run_part1 w hag (off := i) (hx i (h i (by simp)))
      have h2 := CkV.int hel (f i) b d w
      simp only [List.forIn_cons, Sem.run_bind, run_sizeB w hs, Result.andThen, Nat.mul_one, h1, h2, Sem.run_pure]
      exact ih (fun j hj => h j (by simp [hj]))
  have := key (List.range' 0 n) (fun i hi => by simp at hi; omega)
  simp at this
  simp [this]
theorem CkV.idn {T el : TypeId} (hT : arrB P T = some (16, el)) (hel : intB P el = some .u8) (hag : isAggB P el = some false) (hs : sizeB P el = some 1) (x : Idn) : CkV P 2 T (.agg x.enc) :=
  .arr hT hel hag hs (fun i => (byteAt x.n i : Nat)) x.enc (fun _ h => Idn.get x h)

inductive CkF (P : Program) (k : Nat) (xs : Array Value) : List (Nat × TypeId) → Prop
  | nil : CkF P k xs []
  | one {o : Nat} {T : TypeId} {fs : List (Nat × TypeId)} {a : Value} (ha : isAggB P T = some false) (h1 : xs[o]? = some a) (h : CkV P k T a) (hr : CkF P k xs fs) : CkF P k xs ((o, T) :: fs)
  | agg {o s : Nat} {T : TypeId} {fs : List (Nat × TypeId)} {p : Array Value} (ha : isAggB P T = some true) (hs : sizeB P T = some s) (h1 : Sel xs o s p) (h : CkV P k T (.agg p)) (hr : CkF P k xs fs) : CkF P k xs ((o, T) :: fs)

theorem CkF.run {k d : Nat} {b : Bool} {xs : Array Value} (w : World) {ps : List (Nat × TypeId)} (h : CkF P k xs ps) : ∀ fs : List Field, fs.all (fun f => f.name != "_") = true → fs.map (fun f => (f.offset, f.type)) = ps →
    (forIn fs PUnit.unit (fun f _ => do
      if f.name ≠ "_" then Instr.checkKey b (d + k) f.type (← part f.type xs f.offset)
      pure (ForInStep.yield PUnit.unit)) : Sem PUnit).run P w = .ok PUnit.unit w := by
  induction h with
  | nil => intro fs _ hm; simp only [List.map_eq_nil_iff] at hm; subst hm; simp
  | one ha h1 hv hr ih =>
    intro fs hn hm
    cases fs with
    | nil => simp at hm
    | cons f fs =>
      simp only [List.map_cons, List.cons.injEq, Prod.mk.injEq] at hm
      obtain ⟨⟨rfl, rfl⟩, hm⟩ := hm
      simp only [List.all_cons, Bool.and_eq_true, bne_iff_ne, ne_eq] at hn
      simp only [List.forIn_cons, ne_eq, hn.1, not_false_eq_true, if_true, Sem.run_bind, run_part1 w ha h1, hv b d w, Result.andThen, Sem.run_pure]
      exact ih fs (by simpa using hn.2) hm
  | agg ha hs h1 hv hr ih =>
    intro fs hn hm
    cases fs with
    | nil => simp at hm
    | cons f fs =>
      simp only [List.map_cons, List.cons.injEq, Prod.mk.injEq] at hm
      obtain ⟨⟨rfl, rfl⟩, hm⟩ := hm
      simp only [List.all_cons, Bool.and_eq_true, bne_iff_ne, ne_eq] at hn
      simp only [List.forIn_cons, ne_eq, hn.1, not_false_eq_true, if_true, Sem.run_bind, run_partN w ha hs h1.2, hv b d w, Result.andThen, Sem.run_pure]
      exact ih fs (by simpa using hn.2) hm
theorem CkV.str {k : Nat} {T : TypeId} {xs : Array Value} {ps : List (Nat × TypeId)} (hT : fieldsB P T = some ps) (h : CkF P k xs ps) : CkV P (k + 1) T (.agg xs) := fun b d w => by
  unfold fieldsB at hT
  split at hT
  · rename_i fs hu
    split at hT
    · rename_i hc
      simp only [Bool.and_eq_true, Bool.not_eq_true'] at hc
      simp only [Option.some.injEq] at hT
      rw [show d + (k + 1) = (d + k) + 1 from rfl, Instr.checkKey]
      simp only [Sem.run_bind, run_underlying' w hu, Result.andThen]
      rw [← Array.forIn_toList]
      have := h.run (d := d) (b := b) w fs.toList hc.1 hT
      simp at this
      simp [this]
    · cases hT
  · cases hT
end

/-! ### a map -/
structure ME (K V : Type) where
  key : K
  val : V
  born : Nat

section
variable {K V : Type} [DecidableEq K]

def findM (l : List (ME K V)) (k : K) : Option (ME K V) := l.find? fun e => decide (k = e.key)
def getM (l : List (ME K V)) (k : K) : Option V := (findM l k).map (·.val)
/-- written: in its place, or behind all -/
def putM (l : List (ME K V)) (k : K) (v : V) (clock : Nat) : List (ME K V) × Nat :=
  if (findM l k).isSome then (l.map fun e => if e.key = k then { e with val := v } else e, clock) else (l ++ [⟨k, v, clock⟩], clock + 1)
def delM (l : List (ME K V)) (k : K) : List (ME K V) := l.filter fun e => !decide (e.key = k)

/-- keys once each, stamps rising below the clock -/
structure OkM (l : List (ME K V)) (clock : Nat) : Prop where
  keys : (l.map (·.key)).Nodup
  borns : l.Pairwise fun a b => a.born < b.born
  lt : ∀ e ∈ l, e.born < clock

def mapO (ke : K → Value) (ve : V → Value) (l : List (ME K V)) (clock : Nat) : Obj := .map (l.map fun e => ⟨ke e.key, ve e.val, e.born⟩).toArray clock

omit [DecidableEq K] in
theorem OkM.nil (c : Nat) : OkM ([] : List (ME K V)) c := ⟨.nil, .nil, by simp⟩
omit [DecidableEq K] in
theorem OkM.filter {l : List (ME K V)} {c : Nat} (h : OkM l c) (q : ME K V → Bool) : OkM (l.filter q) c :=
  ⟨h.keys.sublist (List.Sublist.map _ List.filter_sublist), h.borns.sublist List.filter_sublist, fun e he => h.lt e (List.mem_filter.1 he).1⟩
theorem findM_none {l : List (ME K V)} {k : K} (h : findM l k = none) : k ∉ l.map (·.key) := by
  intro hk
  obtain ⟨e, he, rfl⟩ := List.mem_map.1 hk
  have := List.find?_eq_none.1 h e he
  simp at this
theorem OkM.put {l : List (ME K V)} {c : Nat} (h : OkM l c) (k : K) (v : V) : OkM (putM l k v c).1 (putM l k v c).2 := by
  unfold putM
  split
  · refine ⟨?_, ?_, ?_⟩
    · have : (l.map fun e => if e.key = k then { e with val := v } else e).map (·.key) = l.map (·.key) := by
        rw [List.map_map]; exact List.map_congr_left fun e _ => by simp only [Function.comp]; split <;> rfl
      rw [this]; exact h.keys
    · simp only [List.pairwise_map]
      refine h.borns.imp ?_
      intro a b hab
      split <;> split <;> exact hab
    · intro e he
      obtain ⟨e', he', rfl⟩ := List.mem_map.1 he
      have := h.lt e' he'
      split <;> exact this
  · rename_i hn
    have hn : findM l k = none := by simpa using hn
    refine ⟨?_, ?_, ?_⟩
    · rw [List.map_append, List.nodup_append]
      refine ⟨h.keys, by simp, ?_⟩
      intro a ha b hb
      simp at hb
      subst hb
      rintro rfl
      exact findM_none hn ha
    · rw [List.pairwise_append]
      refine ⟨h.borns, by simp, ?_⟩
      intro a ha b hb
      simp at hb
      subst hb
      exact h.lt a ha
    · intro e he
      rcases List.mem_append.1 he with he | he
      · exact Nat.lt_succ_of_lt (h.lt e he)
      · simp at he; subst he; exact Nat.lt_succ_self _
end

/-- What is asked of a map's keys, at its type. -/
structure KeyOk {K : Type} [DecidableEq K] (P : Program) (kt : TypeId) (ke : K → Value) : Prop where
  ck : ∃ k, k ≤ 10000 ∧ ∀ x, CkV P k kt (ke x)
  eq : ∃ k, k ≤ 10000 ∧ ∀ x y, EqV P k kt (ke x) (ke y) (decide (x = y))
  now : ∀ d, P.underlying kt = some d → ∀ x v, Instr.sameNow d (ke x) v = none
  bits : ∀ x, Instr.sameBits 10000 (ke x) (ke x) = true

theorem sameBits_plain {v : Value} (h : plainV v = true) (k : Nat) : Instr.sameBits (k + 1) v v = true := by
  cases v <;> simp_all [plainV, Instr.sameBits]
theorem sameBits_agg {c : Array Value} (h : Pl c) : Instr.sameBits 10000 (.agg c) (.agg c) = true := by
  rw [show (10000 : Nat) = 9998 + 1 + 1 from rfl, Instr.sameBits]
  simp only [beq_self_eq_true, Bool.true_and, List.all_eq_true]
  rintro ⟨a, b⟩ hab
  have : a = b ∧ a ∈ c.toList := by
    obtain ⟨i, hi⟩ := List.getElem?_of_mem hab
    rw [List.getElem?_zip_eq_some] at hi
    have h1 := hi.1; have h2 := hi.2
    simp only at h1 h2
    rw [h1] at h2
    exact ⟨Option.some.inj h2, List.mem_of_getElem? h1⟩
  obtain ⟨rfl, ha⟩ := this
  exact sameBits_plain (h a ha) _

section
variable {K V : Type} [DecidableEq K] {P : Program} {kt : TypeId} {ke : K → Value} {ve : V → Value}

theorem run_findAsking (hk : KeyOk P kt ke) (w : World) (k : K) : ∀ (l : List (ME K V)) (i : Nat),
    (Instr.findAsking kt (ke k) (l.map fun e => ⟨ke e.key, ve e.val, e.born⟩) i).run P w = .ok ((l.findIdx? fun e => decide (k = e.key)).bind fun j => (l[j]?).map fun e => (i + j, ve e.val)) w
  | [], i => by simp [Instr.findAsking]
  | e :: l, i => by
    obtain ⟨d, hd, he⟩ := hk.eq
    have h1 : (Op.equal kt (ke k) (ke e.key)).run P w = .ok (decide (k = e.key)) w := by
      have := he k e.key (10000 - d) w
      rwa [show 10000 - d + d = 10000 by omega] at this
    rw [List.map_cons, Instr.findAsking]
    simp only [Sem.run_bind, h1, Result.andThen, List.findIdx?_cons]
    by_cases hke : k = e.key
    · simp [hke]
    · simp only [hke, decide_false, Bool.false_eq_true, if_false]
      rw [run_findAsking hk w k l (i + 1)]
      cases l.findIdx? fun e => decide (k = e.key) with
      | none => rfl
      | some j => simp [Nat.add_assoc, Nat.add_comm 1 j]

theorem run_findKey (hk : KeyOk P kt ke) {d : TypeDesc} (hd : P.underlying kt = some d) (w : World) (k : K) (l : List (ME K V)) :
    (Instr.findKey kt (ke k) (l.map fun e => ⟨ke e.key, ve e.val, e.born⟩)).run P w = .ok ((l.findIdx? fun e => decide (k = e.key)).bind fun j => (l[j]?).map fun e => (j, ve e.val)) w := by
  unfold Instr.findKey
  simp only [Sem.run_bind, run_underlying' w hd, Result.andThen]
  cases l with
  | nil => simp [Instr.findNow]
  | cons e l =>
    have h := hk.now d hd k (ke e.key)
    simp only [List.map_cons, Instr.findNow, h]
    have := run_findAsking (ve := ve) hk w k (e :: l) 0
    simpa using this

/-! what is found is the one of that key -/
theorem findIdx_find (l : List (ME K V)) (k : K) : ((l.findIdx? fun e => decide (k = e.key)).bind fun j => l[j]?) = findM l k := by
  induction l with
  | nil => rfl
  | cons e l ih =>
    rw [List.findIdx?_cons]
    unfold findM
    rw [List.find?_cons]
    by_cases h : k = e.key
    · simp [h]
    · simp only [h, decide_false, Bool.false_eq_true, if_false]
      have : findM l k = l.find? fun e => decide (k = e.key) := rfl
      rw [← this, ← ih]
      cases l.findIdx? fun e => decide (k = e.key) with
      | none => rfl
      | some j => simp

variable {w0 : World} {mods : List Nat} {n : Nat} {m : HF} {e : Env} {Q : Exit → Act → World → Prop} {ops : Array Oper} {rest : List Oper} {d : Nat} {t : TypeId} {p : String} {af : Array Edge} {dd : Option Nat} {g : Option (Nat × Bool)} {x y z : Operand} {T vt : TypeId}

theorem run_getMap {w : World} {b clock : Nat} {es : Array MapEntry} (h : w.heap[b]? = some (.map es clock)) : (getObj b).run P w = .ok (.map es clock) w := by
  simp [getObj, Sem.run, h]

/-- what a map holds under a key, or the zero value -/
theorem Val.lk {b clock : Nat} {l : List (ME K V)} {k : K} {zv : Value} (hT : mapB P T = some (kt, vt)) (hu : (P.underlying kt).isSome = true) (hk : KeyOk P kt ke) (hz : zeroB P vt = some zv) (hx : evalE e x = some (.map (some b))) (hy : evalE e y = some (ke k)) (hb : Kn w0 mods m b (mapO ke ve l clock)) :
    Val P w0 mods m e ⟨dd, .lookup T x y false, t, p, af, g⟩ (match getM l k with | some v => ve v | none => zv) := fun ρ w hρ hm hf => by
  obtain ⟨d, hd⟩ := Option.isSome_iff_exists.1 hu
  obtain ⟨c, hc, hck⟩ := hk.ck
  have h1 := hb w hm hf
  have h2 : ∀ bo, (Instr.checkKey bo 10000 kt (ke k)).run P w = .ok () w := fun bo => by
    have := hck k bo (10000 - c) w
    rwa [show 10000 - c + c = 10000 by omega] at this
  have h3 := run_findKey (ve := ve) hk hd w k l
  have h4 := findIdx_find l k
  unfold mapO at h1
  simp only [execOp, Instr.lookup, hρ _ _ hx, hρ _ _ hy, Sem.run_bind, run_underlying' w (mapB_spec hT), Result.andThen, run_getMap h1, h2, Sem.run_pure, h3]
  unfold getM
  rw [← h4]
  cases hi : l.findIdx? fun e => decide (k = e.key) with
  | none => simp [run_zeroB w hz]
  | some j =>
    cases hj : l[j]? with
    | none => simp [hj, run_zeroB w hz]
    | some e => simp [hj]
/-- .. and whether it is there -/
theorem Val.lkOk {b clock : Nat} {l : List (ME K V)} {k : K} {zv : Value} (hT : mapB P T = some (kt, vt)) (hu : (P.underlying kt).isSome = true) (hk : KeyOk P kt ke) (hz : zeroB P vt = some zv) (hx : evalE e x = some (.map (some b))) (hy : evalE e y = some (ke k)) (hb : Kn w0 mods m b (mapO ke ve l clock)) :
    Val P w0 mods m e ⟨dd, .lookup T x y true, t, p, af, g⟩ (.tuple #[(match getM l k with | some v => ve v | none => zv), .bool (getM l k).isSome]) := fun ρ w hρ hm hf => by
  obtain ⟨d, hd⟩ := Option.isSome_iff_exists.1 hu
  obtain ⟨c, hc, hck⟩ := hk.ck
  have h1 := hb w hm hf
  have h2 : ∀ bo, (Instr.checkKey bo 10000 kt (ke k)).run P w = .ok () w := fun bo => by
    have := hck k bo (10000 - c) w
    rwa [show 10000 - c + c = 10000 by omega] at this
  have h3 := run_findKey (ve := ve) hk hd w k l
  have h4 := findIdx_find l k
  unfold mapO at h1
  simp only [execOp, Instr.lookup, hρ _ _ hx, hρ _ _ hy, Sem.run_bind, run_underlying' w (mapB_spec hT), Result.andThen, run_getMap h1, h2, Sem.run_pure, h3]
  unfold getM
  rw [← h4]
  cases hi : l.findIdx? fun e => decide (k = e.key) with
  | none => simp [run_zeroB w hz]
  | some j =>
    cases hj : l[j]? with
    | none => simp [hj, run_zeroB w hz]
    | some e => simp [hj]


theorem map_modify {l : List (ME K V)} {k : K} {v : V} {i : Nat} (hn : (l.map (·.key)).Nodup) (hi : (l.findIdx? fun e => decide (k = e.key)) = some i) :
    (l.map fun e => if e.key = k then { e with val := v } else e) = l.modify i fun e => { e with val := v } := by
  induction l generalizing i with
  | nil => simp at hi
  | cons e l ih =>
    simp only [List.map_cons, List.nodup_cons] at hn
    rw [List.findIdx?_cons] at hi
    by_cases h : k = e.key
    · subst h
      simp only [decide_true, if_true, Option.some.injEq] at hi
      subst hi
      rw [List.map_cons, if_pos rfl, List.modify_zero_cons]
      congr 1
      have : ∀ a ∈ l, (if a.key = e.key then { a with val := v } else a) = a := fun a ha => by
        rw [if_neg]
        intro hk
        exact hn.1 (hk ▸ List.mem_map.2 ⟨a, ha, rfl⟩)
      rw [List.map_congr_left this, List.map_id']
    · simp only [h, decide_false, Bool.false_eq_true, if_false, Option.map_eq_some_iff] at hi
      obtain ⟨j, hj, rfl⟩ := hi
      rw [List.map_cons, if_neg (fun hh => h hh.symm), List.modify_succ_cons, ih hn.2 hj]

theorem findIdx_key {l : List (ME K V)} {k : K} {i : Nat} (hi : (l.findIdx? fun e => decide (k = e.key)) = some i) : ∃ e, l[i]? = some e ∧ e.key = k := by
  obtain ⟨h, h1, _⟩ := List.findIdx?_eq_some_iff_getElem.1 hi
  exact ⟨l[i], List.getElem?_eq_getElem h, by simpa using (of_decide_eq_true h1).symm⟩

/-- A map of one's own is written. -/
theorem St.mu {b clock : Nat} {l : List (ME K V)} {k : K} {v : V} (i : Nat) (hb : m[i]? = some (some b, mapO ke ve l clock)) (hok : OkM l clock) (hT : mapB P T = some (kt, vt)) (hu : (P.underlying kt).isSome = true) (hk : KeyOk P kt ke)
    (hx : evalE e x = some (.map (some b))) (hy : evalE e y = some (ke k)) (hz : evalE e z = some (ve v))
    (h : St w0 mods n (m.set i (some b, mapO ke ve (putM l k v clock).1 (putM l k v clock).2)) e (wpList P ops Q rest)) :
    St w0 mods n m e (wpList P ops Q (⟨none, .mapUpdate T x y z, t, p, af, none⟩ :: rest)) := fun a w hs =>
  wpList_plain rfl fun K' hK => by
    obtain ⟨d, hd⟩ := Option.isSome_iff_exists.1 hu
    obtain ⟨c, hc, hck⟩ := hk.ck
    have h1 : w.heap[b]? = some (mapO ke ve l clock) := hs.mem b _ (List.mem_of_getElem? hb)
    have h2 : ∀ bo, (Instr.checkKey bo 10000 kt (ke k)).run P w = .ok () w := fun bo => by
      have := hck k bo (10000 - c) w
      rwa [show 10000 - c + c = 10000 by omega] at this
    have h3 := run_findKey (ve := ve) hk hd w k l
    have h4 := findIdx_find l k
    unfold mapO at h1
    have hset : ∀ o, (setObj b o).run P w = .ok () (setB w b o) := fun o => by simp [setObj, Sem.run, h1, setB]
    have hr : (execOp a.eval ⟨none, .mapUpdate T x y z, t, p, af, none⟩).run P w = .ok .skip (setB w b (mapO ke ve (putM l k v clock).1 (putM l k v clock).2)) := by
      simp only [execOp, Instr.mapUpdate, hs.eval hx, hs.eval hy, hs.eval hz, Sem.run_bind, run_underlying' w (mapB_spec hT), Result.andThen, run_getMap h1, h2, Sem.run_pure, h3]
      cases hi : l.findIdx? fun e => decide (k = e.key) with
      | none =>
        rw [hi] at h4
        simp only [Option.bind_none] at h4
        simp only [Option.bind_none, hset, putM, ← h4, Option.isSome_none, Bool.false_eq_true, if_false]
        simp [mapO]
      | some j =>
        obtain ⟨e0, he0, hk0⟩ := findIdx_key hi
        rw [hi] at h4
        simp only [Option.bind_some, he0] at h4
        simp only [Option.bind_some, he0, Option.map_some]
        simp only [putM, ← h4, Option.isSome_some, if_true, map_modify hok.keys hi]
        simp [Instr.keyThatStays, he0, hk0, hk.bits, hset, mapO]
        congr 3
        apply List.ext_getElem?
        intro q
        simp only [List.getElem?_modify, List.getElem?_map]
        by_cases hq : j = q
        · subst hq; simp [he0, hk0]
        · simp [hq]
    unfold Oper.wp
    rw [hr]
    exact hK _ _ (h _ _ (hs.setB hb _))


theorem delM_idx {l : List (ME K V)} {k : K} {i : Nat} (hn : (l.map (·.key)).Nodup) (hi : (l.findIdx? fun e => decide (k = e.key)) = some i) : delM l k = l.eraseIdx i := by
  unfold delM
  induction l generalizing i with
  | nil => simp at hi
  | cons e l ih =>
    simp only [List.map_cons, List.nodup_cons] at hn
    rw [List.findIdx?_cons] at hi
    by_cases h : k = e.key
    · subst h
      simp only [decide_true, if_true, Option.some.injEq] at hi
      subst hi
      simp only [List.filter_cons, decide_true, Bool.not_true, Bool.false_eq_true, if_false, List.eraseIdx_cons_zero]
      rw [List.filter_eq_self]
      intro a ha
      simp only [Bool.not_eq_true', decide_eq_false_iff_not]
      intro hk
      exact hn.1 (hk ▸ List.mem_map.2 ⟨a, ha, rfl⟩)
    · simp only [h, decide_false, Bool.false_eq_true, if_false, Option.map_eq_some_iff] at hi
      obtain ⟨j, hj, rfl⟩ := hi
      have h' : ¬ e.key = k := fun hh => h hh.symm
      simp only [List.filter_cons, h', decide_false, Bool.not_false, if_true, List.eraseIdx_cons_succ, ih hn.2 hj]
theorem delM_none {l : List (ME K V)} {k : K} (h : findM l k = none) : delM l k = l := by
  unfold delM
  rw [List.filter_eq_self]
  intro a ha
  simp only [Bool.not_eq_true', decide_eq_false_iff_not]
  intro hk
  exact findM_none h (hk ▸ List.mem_map.2 ⟨a, ha, rfl⟩)

/-- An entry of a map of one's own is taken away. -/
theorem St.dl {b clock : Nat} {l : List (ME K V)} {k : K} (i : Nat) (hb : m[i]? = some (some b, mapO ke ve l clock)) (hok : OkM l clock) (hT : mapB P T = some (kt, vt)) (hu : (P.underlying kt).isSome = true) (hk : KeyOk P kt ke)
    (hx : evalE e x = some (.map (some b))) (hy : evalE e y = some (ke k)) {ts : List TypeId}
    (h : St w0 mods n (m.set i (some b, mapO ke ve (delM l k) clock)) e (wpList P ops Q rest)) :
    St w0 mods n m e (wpList P ops Q (⟨none, .call ⟨.builtin .delete, [x, y].toArray, (T :: ts).toArray⟩, t, p, af, none⟩ :: rest)) := fun a w hs =>
  wpList_plain rfl fun K' hK => by
    obtain ⟨d, hd⟩ := Option.isSome_iff_exists.1 hu
    obtain ⟨c, hc, hck⟩ := hk.ck
    have h1 : w.heap[b]? = some (mapO ke ve l clock) := hs.mem b _ (List.mem_of_getElem? hb)
    have h2 : ∀ bo, (Instr.checkKey bo 10000 kt (ke k)).run P w = .ok () w := fun bo => by
      have := hck k bo (10000 - c) w
      rwa [show 10000 - c + c = 10000 by omega] at this
    have h3 := run_findKey (ve := ve) hk hd w k l
    have h4 := findIdx_find l k
    unfold mapO at h1
    have hset : ∀ o, (setObj b o).run P w = .ok () (setB w b o) := fun o => by simp [setObj, Sem.run, h1, setB]
    have hr : (execOp a.eval ⟨none, .call ⟨.builtin .delete, [x, y].toArray, (T :: ts).toArray⟩, t, p, af, none⟩).run P w = .ok (.value (.tuple #[])) (setB w b (mapO ke ve (delM l k) clock)) := by
      have h5 : (Builtin.delete_ (T :: ts).toArray t #[.map (some b), ke k]).run P w = .ok (.tuple #[]) (setB w b (mapO ke ve (delM l k) clock)) := by
        simp only [Builtin.delete_, List.getElem?_toArray, List.getElem?_cons_zero]
        simp [run_underlying' w (mapB_spec hT), run_getMap h1, h2, h3]
        cases hi : l.findIdx? fun e => decide (k = e.key) with
        | none =>
          rw [hi] at h4
          simp only [Option.bind_none] at h4
          simp [hset, delM_none h4.symm, mapO]
        | some j =>
          obtain ⟨e0, he0, hk0⟩ := findIdx_key hi
          rw [delM_idx hok.keys hi]
          simp [he0, hset, mapO]
          congr 3
          apply List.ext_getElem?
          intro q
          simp only [List.getElem?_eraseIdx, List.getElem?_map]
          split <;> rfl
      simp [execOp, resolve, invoke, builtin, hs.eval hx, hs.eval hy, h5]
    unfold Oper.wp
    rw [hr]
    exact hK _ _ (h _ _ (hs.setB hb _))


/-! ### ranging over a map -/
omit [DecidableEq K] in
theorem St.rg {b clock : Nat} {l : List (ME K V)} (hb : Kn w0 mods m b (mapO ke ve l clock)) (hT : mapB P T = some (kt, vt)) (hx : evalE e x = some (.map (some b))) (hd : d < n)
    (h : ∀ bi, w0.heap.size ≤ bi → St w0 mods n ((some bi, .mapIter (some b) clock #[] clock) :: m) ((d, .pointer (some ⟨bi, 0, none⟩)) :: e) (wpList P ops Q rest)) :
    St w0 mods n m e (wpList P ops Q (⟨some d, .range T x, t, p, af, none⟩ :: rest)) := fun a w hs =>
  wpList_plain rfl fun K' hK => by
    have h1 := hb w hs.mem hs.fr
    unfold mapO at h1
    have hr : (execOp a.eval ⟨some d, .range T x, t, p, af, none⟩).run P w = .ok (.value (.pointer (some ⟨w.heap.size, 0, none⟩))) (w.alloc (.mapIter (some b) clock #[] clock)) := by
      simp [execOp, Instr.range, hs.eval hx, run_underlying' w (mapB_spec hT), run_getMap h1]
    unfold Oper.wp
    rw [hr]
    exact hK _ _ (h _ hs.fr.size _ _ ((hs.alloc _).put hd _))

theorem run_next_own {w : World} {bi bm since last clock : Nat} {seen : Array Nat} {es : Array MapEntry} (ty : TypeId) (h2 : w.heap[bi]? = some (.mapIter (some bm) since seen last)) (h1 : w.heap[bm]? = some (.map es clock)) (hold : ∀ x ∈ es.toList, x.born < since) (hsc : since ≤ last) :
    ((∀ x ∈ es.toList, x.born ∈ seen) ∧ (Instr.next (.pointer (some ⟨bi, 0, none⟩)) false ty).run P w = .ok (.tuple #[.bool false]) w) ∨
    ∃ x ∈ es.toList, x.born ∉ seen ∧ ∃ w1 : World, (w1 = w ∨ w1 = w.drew) ∧ (Instr.next (.pointer (some ⟨bi, 0, none⟩)) false ty).run P w = .ok (.tuple #[.bool true, x.key, x.val]) (setB w1 bi (.mapIter (some bm) since (seen.push x.born) clock)) := by
  simp only [Instr.next, getObj, Sem.run_bind, Sem.run, h2, h1, Result.andThen, next_test_false seen es since last hold hsc, Bool.false_eq_true, if_false]
  have hmem : ∀ x ∈ (Array.filter (fun e => !seen.contains e.born) es).toList, x ∈ es.toList ∧ x.born ∉ seen := fun x hx => by
    simp at hx ⊢; exact hx
  have hall : (Array.filter (fun e => !seen.contains e.born) es).size = 0 → ∀ x ∈ es.toList, x.born ∈ seen := by
    intro h0 x hx
    have h3 : Array.filter (fun e => !seen.contains e.born) es = #[] := Array.eq_empty_of_size_eq_zero h0
    rw [Array.filter_eq_empty_iff] at h3
    have := h3 x (by simpa using hx)
    simpa using this
  generalize Array.filter (fun e => !seen.contains e.born) es = L at hmem hall ⊢
  have e1 : L.filter (fun x => decide (x.born < since)) = L := Array.filter_eq_self.2 (fun x hx => by simpa using hold x (hmem x (by simpa using hx)).1)
  have e2 : L.filter (fun x => decide (x.born ≥ since)) = #[] := by
    rw [Array.filter_eq_empty_iff]
    intro x hx
    have := hold x (hmem x (by simpa using hx)).1
    simp
    omega
  simp only [e1, e2, Array.append_empty]
  by_cases h0 : L.size = 0
  · left
    have h3 := hall h0
    have : L = #[] := Array.eq_empty_of_size_eq_zero h0
    subst this
    refine ⟨h3, ?_⟩
    simp [choose, Sem.run, Question.forced]
  · right
    have hne : L.isEmpty = false := by simp [Array.isEmpty, h0]
    simp only [hne, Bool.false_eq_true, if_false, Array.empty_append, Array.size_map]
    have hch : ∃ (j : Nat) (w1 : World), j < L.size ∧ (w1 = w ∨ w1 = w.drew) ∧ (choose (Question.mapNext L.size)).run P w = .ok j w1 := by
      by_cases hf : L.size ≤ 1
      · exact ⟨0, w, by omega, .inl rfl, by simp [choose, Sem.run, Question.forced, hf]⟩
      · exact ⟨_, w.drew, Nat.mod_lt _ (by omega), .inr rfl, by
          simp only [choose, Sem.run, Question.forced, decide_eq_true_eq, hf, if_false, Question.cut]
          rfl⟩
    obtain ⟨j, w1, hj, hw1, hrun⟩ := hch
    have hm := hmem L[j] (by simp)
    have h2' : w1.heap[bi]? = some (.mapIter (some bm) since seen last) := by rcases hw1 with rfl | rfl <;> exact h2
    have hset : ∀ o, (setObj bi o).run P w1 = .ok () (setB w1 bi o) := fun o => by simp [setObj, Sem.run, h2', setB]
    refine ⟨L[j], hm.1, hm.2, w1, hw1, ?_⟩
    simp only [hrun, Array.getElem?_map, Array.getElem?_eq_getElem hj, Option.map_some, Sem.run_bind, hset, Result.andThen]
    rfl

omit [DecidableEq K] in
/-- The next entry, whichever: none is left, or one that was not met. Nothing came in since the loop began. -/
theorem St.nx {b bi clock since last : Nat} {seen : Array Nat} {l : List (ME K V)} (i : Nat) (hi : m[i]? = some (some bi, .mapIter (some b) since seen last)) (hb : Kn w0 mods m b (mapO ke ve l clock)) (hx : evalE e x = some (.pointer (some ⟨bi, 0, none⟩)))
    (hold : ∀ e ∈ l, e.born < since) (hsl : since ≤ last) (hd : d < n)
    (hA : (∀ e ∈ l, e.born ∈ seen) → St w0 mods n m ((d, .tuple #[.bool false]) :: e) (wpList P ops Q rest))
    (hB : ∀ e0 ∈ l, e0.born ∉ seen → St w0 mods n (m.set i (some bi, .mapIter (some b) since (seen.push e0.born) clock)) ((d, .tuple #[.bool true, ke e0.key, ve e0.val]) :: e) (wpList P ops Q rest)) :
    St w0 mods n m e (wpList P ops Q (⟨some d, .next x false, t, p, af, none⟩ :: rest)) := fun a w hs =>
  wpList_plain rfl fun K' hK => by
    have h1 := hb w hs.mem hs.fr
    have h2 : w.heap[bi]? = some (.mapIter (some b) since seen last) := hs.mem bi _ (List.mem_of_getElem? hi)
    unfold mapO at h1
    have hes : ∀ z ∈ (l.map fun e => (⟨ke e.key, ve e.val, e.born⟩ : MapEntry)).toArray.toList, z.born < since := by
      intro z hz
      simp only [List.mem_map] at hz
      obtain ⟨e', he', rfl⟩ := hz
      exact hold e' he'
    have hrun : (execOp a.eval ⟨some d, .next x false, t, p, af, none⟩).run P w = (Instr.next (.pointer (some ⟨bi, 0, none⟩)) false t >>= fun v => pure (.value v)).run P w := by
      simp [execOp, hs.eval hx]
    unfold Oper.wp
    rw [hrun, Sem.run_bind]
    rcases run_next_own (P := P) t h2 h1 hes hsl with ⟨hall, hr⟩ | ⟨z, hz, hzs, w1, hw1, hr⟩
    · rw [hr]
      refine hK _ _ (hA (fun e' he' => ?_) _ _ (hs.put hd _))
      exact hall ⟨ke e'.key, ve e'.val, e'.born⟩ (by simp only [List.mem_map]; exact ⟨e', he', rfl⟩)
    · rw [hr]
      simp only [List.mem_map] at hz
      obtain ⟨e', he', rfl⟩ := hz
      refine hK _ _ (hB e' he' hzs _ _ ?_)
      have hs1 : Sat w0 mods n m e a w1 := by
        rcases hw1 with rfl | rfl
        · exact hs
        · exact hs.drew
      exact (hs1.setB hi _).put hd _


omit [DecidableEq K] in
/-- the entry that the loop stands at -/
theorem Val.en {b bi since clock : Nat} {seen : Array Nat} {e0 : ME K V} {l : List (ME K V)} (hi : Kn w0 mods m bi (.mapIter (some b) since (seen.push e0.born) clock)) (hb : Kn w0 mods m b (mapO ke ve l clock)) (hx : evalE e x = some (.pointer (some ⟨bi, 0, none⟩))) (hok : OkM l clock) (he : e0 ∈ l) :
    Val P w0 mods m e ⟨dd, .entry x, t, p, af, g⟩ (.tuple #[ke e0.key, ve e0.val]) := fun ρ w hρ hm hf => by
  have h1 := hb w hm hf
  have h2 := hi w hm hf
  unfold mapO at h1
  have hfind : ∀ (l : List (ME K V)), l.Pairwise (fun a b => a.born < b.born) → e0 ∈ l → (l.map fun e => (⟨ke e.key, ve e.val, e.born⟩ : MapEntry)).find? (fun z => z.born == e0.born) = some ⟨ke e0.key, ve e0.val, e0.born⟩ := by
    intro l
    induction l with
    | nil => intro _ h; cases h
    | cons a l ih =>
      intro hp h
      rw [List.pairwise_cons] at hp
      rw [List.map_cons, List.find?_cons]
      rcases List.mem_cons.1 h with rfl | h
      · simp
      · have := hp.1 e0 h
        have hne : (a.born == e0.born) = false := by simp; omega
        simp only [hne]
        exact ih hp.2 h
  have h3 := hfind l hok.borns he
  simp only [execOp, Instr.entry, getObj, hρ _ _ hx, Sem.run_bind, Sem.run, h2, h1, Result.andThen, Array.back?_push, bne_self_eq_false, Bool.false_eq_true, if_false, List.find?_toArray, h3]
  rfl

end
end Go.Fx
