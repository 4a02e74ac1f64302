/- Steps of a walk over a state of known slots and blocks: code, regions in the order of the text, operations that yield a value. -/
import Derived.Test.YtpkdekhmjjcljaaGreatFxA
namespace Go.Fx

def isAggB (P : Program) (t : TypeId) : Option Bool := (P.underlying t).map fun | .struct _ | .array _ _ => true | _ => false
def sizeB (P : Program) (t : TypeId) : Option Nat := (P.info? t).map (·.size)
def zeroB (P : Program) (t : TypeId) : Option Value := (P.info? t).bind (·.zero)
def fieldB (P : Program) (s i : Nat) : Option (Nat × TypeId) := match P.underlying s with
  | some (.struct fs) => (fs[i]?).map fun f => (f.offset, f.type)
  | _ => none
def elemB (P : Program) (t : TypeId) : Option TypeId := match P.underlying t with
  | some (.slice el) => some el
  | _ => none
def arrB (P : Program) (t : TypeId) : Option (Nat × TypeId) := match P.underlying t with
  | some (.array n el) => some (n, el)
  | _ => none
def mapB (P : Program) (t : TypeId) : Option (TypeId × TypeId) := match P.underlying t with
  | some (.map k v) => some (k, v)
  | _ => none
def intB (P : Program) (t : TypeId) : Option IntKind := match P.underlying t with
  | some (.int k) => some k
  | _ => none
def enterB (P : Program) (f : FuncId) : Bool := match P.funcs[f]? with
  | some fn => fn.name != "runtime.NumGoroutine" && fn.body.isSome
  | none => false

section runs
variable {P : Program} (w : World)
theorem run_isAggB {t : TypeId} {b : Bool} (h : isAggB P t = some b) : (isAgg t).run P w = .ok b w := by
  unfold isAggB at h
  cases hu : P.underlying t with
  | none => simp [hu] at h
  | some d => simp only [hu, Option.map_some, Option.some.injEq] at h; subst h; simp [isAgg, underlying, hu]; cases d <;> rfl
theorem run_sizeB {t s : Nat} (h : sizeB P t = some s) : (sizeOf t).run P w = .ok s w := by
  unfold sizeB at h
  cases hu : P.info? t with
  | none => simp [hu] at h
  | some d => simp only [hu, Option.map_some, Option.some.injEq] at h; subst h; simp [sizeOf, typeInfo, hu]
theorem run_zeroB {t : Nat} {z : Value} (h : zeroB P t = some z) : (zeroValue t).run P w = .ok z w := by
  unfold zeroB at h
  cases hu : P.info? t with
  | none => simp [hu] at h
  | some d => simp only [hu, Option.bind_some] at h; simp [zeroValue, typeInfo, hu, h]
theorem fieldB_spec {s i off : Nat} {t : TypeId} (h : fieldB P s i = some (off, t)) : ∃ fs f, P.underlying s = some (.struct fs) ∧ fs[i]? = some f ∧ f.offset = off ∧ f.type = t := by
  unfold fieldB at h
  split at h
  · rename_i fs hu
    cases hf : fs[i]? with
    | none => simp [hf] at h
    | some f => simp [hf] at h; exact ⟨fs, f, hu, hf, h.1, h.2⟩
  · simp at h
theorem elemB_spec {t el : TypeId} (h : elemB P t = some el) : P.underlying t = some (.slice el) := by
  unfold elemB at h; split at h
  · rename_i el' hu; simp at h; subst h; exact hu
  · simp at h
theorem arrB_spec {t el : TypeId} {n : Nat} (h : arrB P t = some (n, el)) : P.underlying t = some (.array n el) := by
  unfold arrB at h; split at h
  · rename_i el' hu; simp at h; obtain ⟨rfl, rfl⟩ := h; exact hu
  · simp at h
theorem mapB_spec {t k v : TypeId} (h : mapB P t = some (k, v)) : P.underlying t = some (.map k v) := by
  unfold mapB at h; split at h
  · rename_i el' hu; simp at h; obtain ⟨rfl, rfl⟩ := h; exact hu
  · simp at h
theorem intB_spec {t : TypeId} {k : IntKind} (h : intB P t = some k) : P.underlying t = some (.int k) := by
  unfold intB at h; split at h
  · rename_i el' hu; simp at h; subst h; exact hu
  · simp at h
theorem run_underlying' {t : TypeId} {d : TypeDesc} (h : P.underlying t = some d) : (underlying t).run P w = .ok d w := by simp [underlying, h]

theorem cell_of_heap {w : World} {b : Nat} {c : Array Value} {T : TypeId} {fr : Nat × Nat} (h : w.heap[b]? = some (.cells c T fr)) (i : Nat) : w.cell? ⟨b, i, none⟩ = c[i]? := by
  simp [World.cell?, h]

theorem add_plain (b o k : Nat) : Addr.add ⟨b, o, none⟩ k = ⟨b, o + k, none⟩ := by
  unfold Addr.add; split
  · rename_i h; subst h; rfl
  · rfl

theorem run_loadCellsFrom' {w : World} {b : Nat} {c : Array Value} {T : TypeId} {fr : Nat × Nat} (h : w.heap[b]? = some (.cells c T fr)) (o : Nat) :
    ∀ (k i : Nat) (acc : Array Value), o + i + k ≤ c.size → (loadCellsFrom ⟨b, o, none⟩ i k acc).run P w = .ok (acc ++ c.extract (o + i) (o + i + k)) w
  | 0, i, acc, hk => by
    simp only [loadCellsFrom, Sem.run_pure, Nat.add_zero]
    congr 1
    apply Array.ext'
    simp [List.extract]
  | k + 1, i, acc, hk => by
    have hlt : o + i < c.size := by omega
    simp only [loadCellsFrom, add_plain, Sem.run_bind, run_load, cell_of_heap h, Array.getElem?_eq_getElem hlt, Result.andThen]
    rw [run_loadCellsFrom' h o k (i + 1) _ (by omega)]
    congr 1
    apply Array.ext'
    simp only [Array.toList_append, Array.toList_push, Array.toList_extract, List.append_assoc]
    congr 1
    rw [show o + (i + 1) + k = o + i + (k + 1) from by omega, show o + (i + 1) = o + i + 1 from by omega]
    simp only [List.extract]
    rw [show o + i + (k + 1) - (o + i + 1) = k from by omega, show o + i + (k + 1) - (o + i) = k + 1 from by omega]
    rw [List.drop_eq_getElem_cons (i := o + i) (by rw [Array.length_toList]; exact hlt), List.take_succ_cons]
    simp

theorem run_loadCells' {w : World} {b : Nat} {c : Array Value} {T : TypeId} {fr : Nat × Nat} (h : w.heap[b]? = some (.cells c T fr)) {o k : Nat} (hk : o + k ≤ c.size) :
    (loadCells ⟨b, o, none⟩ k).run P w = .ok (c.extract o (o + k)) w := by
  unfold loadCells
  rw [run_loadCellsFrom' h o k 0 #[] (by omega)]
  simp

theorem run_loadVar1 {w : World} {b o : Nat} {c : Array Value} {T t : TypeId} {fr : Nat × Nat} {v : Value} (h : w.heap[b]? = some (.cells c T fr)) (ha : isAggB P t = some false) (hv : c[o]? = some v) :
    (loadVar t ⟨b, o, none⟩).run P w = .ok v w := by
  simp [loadVar, run_isAggB w ha, cell_of_heap h, hv]

theorem run_loadVarN {w : World} {b o s : Nat} {c p : Array Value} {T t : TypeId} {fr : Nat × Nat} (h : w.heap[b]? = some (.cells c T fr)) (ha : isAggB P t = some true) (hs : sizeB P t = some s)
    (hk : o + s ≤ c.size) (hp : c.extract o (o + s) = p) : (loadVar t ⟨b, o, none⟩).run P w = .ok (.agg p) w := by
  simp [loadVar, run_isAggB w ha, run_sizeB w hs, run_loadCells' h hk, hp]

theorem run_part1 {t : TypeId} {cs : Array Value} {off : Nat} {v : Value} (ha : isAggB P t = some false) (hv : cs[off]? = some v) : (part t cs off).run P w = .ok v w := by
  simp [part, run_isAggB w ha, hv]
theorem run_partN {t : TypeId} {cs p : Array Value} {off s : Nat} (ha : isAggB P t = some true) (hs : sizeB P t = some s) (hp : cs.extract off (off + s) = p) : (part t cs off).run P w = .ok (.agg p) w := by
  simp [part, run_isAggB w ha, run_sizeB w hs, hp]

theorem storeCells_step {b : Nat} {T : TypeId} (o : Nat) :
    ∀ (vs : List Value) (i : Nat) (c : Array Value) (w : World), w.heap[b]? = some (.cells c T (0, 0)) → o + i + vs.length ≤ c.size → (∀ v ∈ vs, v.oneCell' = true) →
      (storeCells ⟨b, o, none⟩ vs i).run P w = .ok () (setB w b (.cells (c.extract 0 (o + i) ++ vs.toArray ++ c.extract (o + i + vs.length) c.size) T (0, 0)))
  | [], i, c, w, h, hk, _ => by
    simp only [storeCells, Sem.run_pure, List.length_nil, Nat.add_zero]
    congr 1
    have : (c.extract 0 (o + i) ++ [].toArray ++ c.extract (o + i) c.size) = c := by
      apply Array.ext'
      simp only [Array.toList_append, Array.toList_extract, List.extract, List.drop_zero, Nat.sub_zero, List.append_nil]
      rw [show (c.toList.drop (o + i)).take (c.size - (o + i)) = c.toList.drop (o + i) from List.take_of_length_le (by simp)]
      exact List.take_append_drop _ _
    rw [this]
    unfold setB
    have : w.heap.setIfInBounds b (.cells c T (0, 0)) = w.heap := by
      apply Array.ext_getElem?
      intro j
      rw [Array.getElem?_setIfInBounds]
      by_cases hj : b = j
      · subst hj; rw [if_pos rfl, if_pos (lt_of_heap h), h]
      · rw [if_neg hj]
    rw [this]
  | v :: vs, i, c, w, h, hk, hv => by
    have hlt : o + i < c.size := by simp at hk; omega
    have h1 : v.oneCell' = true := hv v (by simp)
    have hfz : w.frozen? ⟨b, o + i, none⟩ = false := by simp [World.frozen?, h]
    simp only [storeCells, add_plain, Sem.run_bind, run_store P w _ v _ h1, cell_of_heap h, Array.getElem?_eq_getElem hlt, hfz, Bool.false_eq_true, if_false, Result.andThen]
    have hset : w.setCell ⟨b, o + i, none⟩ v = setB w b (.cells (c.setIfInBounds (o + i) v) T (0, 0)) := by
      unfold World.setCell setB
      congr 1
      apply Array.ext_getElem?
      intro j
      rw [Array.getElem?_setIfInBounds, Array.getElem?_modify]
      by_cases hj : b = j
      · subst hj; rw [if_pos rfl, if_pos rfl, if_pos (lt_of_heap h), h]; rfl
      · rw [if_neg hj, if_neg (fun h => hj h)]
    rw [hset]
    rw [storeCells_step o vs (i + 1) (c.setIfInBounds (o + i) v) _ (heap_setB_eq _ _ (lt_of_heap h)) (by simp at hk ⊢; omega) (fun u hu => hv u (by simp [hu]))]
    congr 1
    have hbb : ∀ o1 o2, setB (setB w b o1) b o2 = setB w b o2 := by
      intro o1 o2; unfold setB; simp only [Array.setIfInBounds_setIfInBounds]
    rw [hbb]
    congr 2
    apply Array.ext'
    simp only [Array.toList_append, Array.toList_extract, List.extract, List.drop_zero, Nat.sub_zero, Array.toList_setIfInBounds, Array.size_setIfInBounds, List.length_cons]
    rw [show o + (i + 1) = o + i + 1 from by omega, show o + i + 1 + vs.length = o + i + (vs.length + 1) from by omega]
    rw [List.take_set, List.drop_set_of_lt (by omega)]
    have : (c.toList.take (o + i + 1)).set (o + i) v = c.toList.take (o + i) ++ [v] := by
      rw [List.take_succ_eq_append_getElem (i := o + i) (by rw [Array.length_toList]; exact hlt)]
      have hl : (c.toList.take (o + i)).length = o + i := by rw [List.length_take, Array.length_toList]; omega
      rw [List.set_append_right _ _ (by omega), hl, Nat.sub_self]; rfl
    rw [this]
    simp
end runs
end Go.Fx
