/- The shelf's contract for slices.SortFunc at elements of several cells, in this framework's words. -/
import Derived.Test.YtpkdekhmjjcljaaGreatFxL
import Derived.Shelf.SlSortCmp.NoneTotal
namespace Go.Fx
open Go.Proofs Go.Sort Go.Shelf

section
variable {α : Type} [Inhabited α] {enc : α → Array Value} {k : Nat}

theorem flat_eq (hk : ∀ x, (enc x).size = k) (l : List α) : flatK (fun x => (enc x).toList) k l.toArray = catA (l.map enc) := by
  refine ext_get! (by rw [size_flatK, catA_list_size hk]; simp) fun t ht => ?_
  rw [size_flatK] at ht
  rw [get_flatK _ _ _ t ht]
  have hk0 : 0 < k := by
    rcases Nat.eq_zero_or_pos k with h | h
    · subst h; simp at ht
    · exact h
  have hi : t / k < l.length := (Nat.div_lt_iff_lt_mul hk0).2 (by simpa using ht)
  have hs := sel_list (rs := #[]) hk (List.getElem?_eq_getElem hi)
  rw [Array.append_empty] at hs
  have hm : t % k < k := Nat.mod_lt _ hk0
  have h1 : (enc l[t / k])[t % k]? = some (enc l[t / k])[t % k]! := by
    rw [getElem!_pos _ _ (by rw [hk]; exact hm)]; exact Array.getElem?_eq_getElem _
  have h2 := hs.get h1
  have e : t / k * k + t % k = t := by rw [Nat.mul_comm]; exact Nat.div_add_mod t k
  rw [e] at h2
  have e1 : l.toArray[t / k]! = l[t / k] := by rw [getElem!_pos _ _ (by simpa using hi)]; simp
  have e2 : (catA (l.map enc))[t]! = (enc l[t / k])[t % k]! := by rw [getElem!_def, h2]
  rw [e1, e2, Array.getElem!_toList]

theorem putCells_own {F rs : Array Value} (c : Array Value) (h : c.size = F.size) : putCells id 0 F (c ++ rs) = F ++ rs := by
  unfold putCells
  apply Array.ext_getElem?
  intro i
  rw [Array.getElem?_mapIdx, Array.getElem?_append, Array.getElem?_append]
  by_cases hi : i < F.size
  · rw [if_pos (by omega), if_pos hi]
    have : i < c.size := by omega
    simp [this, hi]
  · rw [if_neg (by omega), if_neg hi, h]
    cases rs[i - F.size]? with
    | none => rfl
    | some x => simp; omega

variable {w : World} {b : Nat} {T : TypeId} {rs : Array Value} {l l' : List α}

theorem sortWorld_at (hk : ∀ x, (enc x).size = k) (hb : w.heap[b]? = some (.cells (catA (l.map enc) ++ rs) T (0, 0))) (hl : l'.length = l.length) (n : Nat) (os : Array Obj) :
    (sortWorldK (fun x => (enc x).toList) k w b 0 n l'.toArray os).heap[b]? = some (.cells (catA (l'.map enc) ++ rs) T (0, 0)) := by
  have hlt := lt_of_heap hb
  unfold sortWorldK putRowK putRow
  rw [flat_eq hk]
  show ((Sort.ahead w n).heap.modify b _ ++ os)[b]? = _
  rw [Array.getElem?_append_left (by simpa using hlt), Array.getElem?_modify, if_pos rfl]
  show Option.map _ w.heap[b]? = _
  rw [hb]
  simp only [Option.map_some, onCells]
  rw [putCells_own _ (by rw [catA_list_size hk, catA_list_size hk, hl])]

theorem sortWorld_fr (n : Nat) (d : Array α) (os : Array Obj) : Fr [b] w (sortWorldK (fun x => (enc x).toList) k w b 0 n d os) := by
  refine ⟨rfl, rfl, rfl, ?_, ?_, Nat.le_add_right _ _⟩
  · show w.heap.size ≤ ((Sort.ahead w n).heap.modify b _ ++ os).size
    simp only [Array.size_append, Array.size_modify]
    exact Nat.le_add_right _ _
  · intro i hi hm
    have hib : b ≠ i := fun h => hm (by simp [h])
    show ((Sort.ahead w n).heap.modify b _ ++ os)[i]? = _
    rw [Array.getElem?_append_left (by simpa using hi), Array.getElem?_modify, if_neg hib]
    rfl

theorem grow_of_fr {w w' : World} (h : Fr [] w w') : ∃ q os, w' = grow (w.drewN q) os := by
  refine ⟨w'.drawn - w.drawn, w'.heap.extract w.heap.size w'.heap.size, ?_⟩
  obtain ⟨h1, h2, h3, h4, h5, h6⟩ := h
  have hh : w'.heap = w.heap ++ w'.heap.extract w.heap.size w'.heap.size := by
    apply Array.ext_getElem?
    intro i
    rw [Array.getElem?_append]
    split
    · rename_i hi; exact h5 i hi (by simp)
    · rename_i hi
      rw [Array.getElem?_extract]
      by_cases h7 : i < w'.heap.size
      · rw [if_pos (by omega)]; congr 1; omega
      · rw [if_neg (by omega), Array.getElem?_eq_none (by omega)]
  cases w'
  cases w
  simp only [grow, World.drewN] at *
  subst h1 h2 h3
  rw [← hh]
  congr 1
  omega

def sortL (cf : α → α → Int) (l : List α) : List α := l.mergeSort fun x y => !(ltOf cf) y x
omit [Inhabited α] in
theorem sortL_len (cf : α → α → Int) (l : List α) : (sortL cf l).length = l.length := List.length_mergeSort _

theorem sortFunc_ret {P : Program} {ρ : Ren} (L : SlLaysF0.n6 P ρ) (aE : ∀ w, (isAgg (ρ.t 24)).run P w = .ok true w) (zE : ∀ w, (Go.sizeOf (ρ.t 24)).run P w = .ok k w)
    (hk : ∀ x, (enc x).size = k) (h1 : ∀ x, ∀ v ∈ (enc x).toList, v.oneCell' = true) (cf : α → α → Int) (hO : SWO (ltOf cf)) (hT : ∀ x y, (ltOf cf) x y = false → (ltOf cf) y x = false → x = y)
    (g : Nat) (cb : Array Value) (key : Option Nat) (cap : Nat) (l : List α) (rs : Array Value) (T : TypeId) (w : World) (eg : enterB P g = true)
    (hc : ∀ w', Fr key.toList w w' → ∀ x y, Calls P g (#[.agg (enc x), .agg (enc y)] ++ cb) w' (Ret w' [] fun v nm => v = .int .i64 (cf x y) ∧ nm = []))
    (hm : ∀ b, key = some b → w.heap[b]? = some (.cells (catA (l.map enc) ++ rs) T (0, 0))) (hnil : key = none → l = []) (hlen : l.length < 4611686018427387904) :
    Calls P (ρ.f 6) #[slv key l.length cap, .func (.func g) #[] cb] w (Ret w key.toList fun v nm => v = .tuple #[] ∧ nm = [(key, .cells (catA ((sortL cf l).map enc) ++ rs) T (0, 0))]) := by
  cases key with
  | none =>
    have hl := hnil rfl
    subst hl
    refine (AnyF.slices_SortFunc_none L none cap (.func (.func g) #[] cb) w).mono ?_
    rintro e w' ⟨rfl, rfl⟩
    refine ⟨_, [(none, .cells (catA ((sortL cf []).map enc) ++ rs) T (0, 0))], rfl, ⟨rfl, rfl⟩, Fr.refl _ _, ?_, ?_, ?_⟩
    · intro b o hb; simp at hb
    · simp
    · intro b o hb; simp at hb
  | some b =>
    have hb := hm b rfl
    have hlt := lt_of_heap hb
    have eg' : ∀ args w, (callFunc g args).run P w = .ok (.enter g args) w := by
      intro args w
      unfold enterB at eg
      cases hfn : P.funcs[g]? with
      | none => simp [hfn] at eg
      | some fn =>
        simp only [hfn, Bool.and_eq_true, bne_iff_ne, ne_eq] at eg
        obtain ⟨h1, h2⟩ := eg
        have h3 : fn.body.isNone = false := by cases hb : fn.body <;> simp_all
        have h4 : (fn.name == "runtime.NumGoroutine") = false := by simpa using h1
        simp only [callFunc, Sem.run_bind, run_program, Result.andThen, hfn, h4, h3, Bool.false_eq_true, if_false, Sem.run_pure]
    have hH : HoldsK (fun x => (enc x).toList) k w b 0 l.toArray := by
      unfold HoldsK
      rw [flat_eq hk]
      intro j hj
      refine ⟨?_, ?_⟩
      · unfold World.cell?
        simp only [hb, Option.isSome_none, Bool.false_eq_true, if_false, Nat.zero_add]
        rw [Array.getElem?_append_left hj, Array.getElem?_eq_getElem hj]
        simp [hj]
      · unfold World.frozen?
        simp only [hb]
        simp
    have h := AnyQ.slices_SortFunc_total L k aE zE (fun x => (enc x).toList) (fun x => by simpa using hk x) h1 cf hO g cb b 0 cap l.toArray w eg'
      (fun m os dk _ x y => (hc _ (sortWorld_fr (enc := enc) m dk os) x y).mono fun e w' ⟨v, nm, he, ⟨hv, _⟩, hf, _⟩ => ⟨by rw [he, hv], grow_of_fr hf⟩)
      hH hlt (by simpa using hlen) hT
    have hsz : l.toArray.size = l.length := by simp
    rw [hsz] at h
    refine h.mono ?_
    rintro e w' ⟨rfl, n, os, rfl⟩
    refine ⟨_, [(some b, .cells (catA ((sortL cf l).map enc) ++ rs) T (0, 0))], rfl, ⟨rfl, rfl⟩, ?_, ?_, ?_, ?_⟩
    · exact sortWorld_fr n _ os
    · intro b' o hb'
      simp only [List.mem_singleton, Prod.mk.injEq, Option.some.injEq] at hb'
      obtain ⟨rfl, rfl⟩ := hb'
      exact sortWorld_at hk hb (sortL_len cf l) n os
    · simp
    · intro b' o hb'
      simp only [List.mem_singleton, Prod.mk.injEq, Option.some.injEq] at hb'
      exact .inr (by simp [hb'.1])
end
end Go.Fx
