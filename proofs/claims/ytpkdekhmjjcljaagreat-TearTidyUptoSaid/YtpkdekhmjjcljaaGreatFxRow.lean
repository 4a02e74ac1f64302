/- From a walk to a row: what comes in is opened, what goes out is shut. -/
import Derived.Test.YtpkdekhmjjcljaaGreatFxL
import Derived.ProofKit
import Derived.Deep.Slices
import Derived.OpenShut
namespace Go.Fx
open Go.ChangeShapes Go.WideShapes Go.RowKit Go.Deep

theorem Fr.below {w w' : World} (h : Fr [] w w') : Below w.heap.size w w' := ⟨h.os, h.tape, h.output, h.size, fun k hk => h.block k hk (by simp)⟩

section
variable {H : Type} {enc : TypeId × Value → H} {P : Program} {w : World} {base : Nat} {spare : Nat → Bool} {held : Bool} {t e : TypeId} {fuel : Nat} {cs : List Value} {x : DataW H × List MemPlace}

/-- an identity -/
theorem trod_idn (ht : P.underlying t = some (.array 16 e)) (he : P.underlying e = some (.int .u8)) (hC : P.cellsOf e = 1) (hT : P.cellsOf t = 16) (h : DataW.trod enc P w base spare held fuel t cs = some x) : ∃ y : Idn, cs = y.enc.toList := by
  obtain ⟨xs, m, _, _, hlen, hxl, hx⟩ := DataW.trod_array ht h
  rw [hT] at hlen
  have key : ∀ i, i < 16 → ∃ n : Nat, n < 256 ∧ cs[i]? = some (.int .u8 (n : Nat)) := by
    intro i hi
    have h1 := hx i hi
    rw [hC, Nat.mul_one] at h1
    have hs : xs[i]? = some xs[i] := List.getElem?_eq_getElem (by omega)
    rw [hs] at h1
    obtain ⟨n, h2, _, h3⟩ := DataW.trod_int he h1
    have hi' : i < cs.length := by omega
    rw [List.drop_eq_getElem_cons hi', List.take_succ_cons, List.take_zero] at h2
    have h4 : cs[i] = .int .u8 n := by simpa using h2
    simp only [Lit.wf, Bool.and_eq_true, decide_eq_true_eq] at h3
    have h5 : 0 ≤ n ∧ n < 256 := by
      have e1 : IntKind.u8.min = 0 := rfl
      have e2 : IntKind.u8.max = 255 := rfl
      rw [e1, e2] at h3
      omega
    refine ⟨n.toNat, by omega, ?_⟩
    rw [List.getElem?_eq_getElem hi', h4, Int.toNat_of_nonneg h5.1]
  let g : Nat → Nat := fun i => if hi : i < 16 then (key i hi).choose else 0
  have hg : ∀ i, i < 16 → g i < 256 ∧ cs[i]? = some (.int .u8 (g i : Nat)) := by
    intro i hi
    have := (key i hi).choose_spec
    simp only [g, hi, dif_pos]
    exact this
  obtain ⟨y, hy, _⟩ := Idn.of_bytes ((List.range 16).map g) (by simp) (by
    intro b hb
    obtain ⟨i, hi, rfl⟩ := List.mem_map.1 hb
    exact (hg i (List.mem_range.1 hi)).1)
  refine ⟨y, ?_⟩
  rw [hy]
  apply List.ext_getElem?
  intro i
  by_cases hi : i < 16
  · rw [(hg i hi).2]; simp [hi]
  · rw [List.getElem?_eq_none (by omega), List.getElem?_eq_none (by simp; omega)]

theorem Trod.idn {v : Value} {d : DataW H} {ps : List MemPlace} (ht : P.underlying t = some (.array 16 e)) (he : P.underlying e = some (.int .u8)) (hC : P.cellsOf e = 1) (hT : P.cellsOf t = 16) {r : Reach} {b0 : Nat} (hv : Value.okWide P w r b0 t v)
    (h : DataW.Trod enc P w base spare held t v d ps) : ∃ y : Idn, v = .agg y.enc := by
  unfold Value.okWide at hv
  rw [ht] at hv
  obtain ⟨c, rfl, _, _⟩ := hv
  obtain ⟨f, hf⟩ := h
  obtain ⟨y, hy⟩ := trod_idn ht he hC hT hf
  refine ⟨y, ?_⟩
  congr 1
  apply Array.ext'
  exact hy

/-- what was there reads as it did -/
theorem trodAll_below (hl : laidOutB P = true) {W W' : World} (hb : Below W.heap.size W W') : ∀ {ts : List TypeId} {vs : List Value} {ds : List (DataW H)} {ps : List MemPlace}, (∀ t ∈ ts, P.readableRec t = true ∧ t < P.types.size) →
    DataW.TrodAll enc P W 0 (fun _ => true) true ts vs ds ps → (∀ x ∈ ps, x.block < W.heap.size) → DataW.TrodAll enc P W' 0 (fun b => decide (b < W.heap.size)) true ts vs ds ps
  | [], [], [], _, _, h, _ => h
  | t :: ts, v :: vs, d :: ds, ps, hr, ⟨p, q, h1, h2, e⟩, hlt => by
    subst e
    exact ⟨p, q, Below.trod hl (hr t (by simp)).1 (hr t (by simp)).2 h1 hb (fun x hx => hlt x (by simp [hx])), trodAll_below hl hb (fun t ht => hr t (by simp [ht])) h2 (fun x hx => hlt x (by simp [hx])), rfl⟩

/-- The row's end: it returned true; what came in reads as it did. -/
theorem row_true {fn : Func} {s : ChangeSpec} {apart fresh handsOn : Bool} {W W' : World} {args : Array Value} {ds gs : List (DataW H)} {before : List MemPlace} {bt : TypeId} (hl : laidOutB P = true) (hbt : P.underlying bt = some .bool)
    (hr : ∀ t ∈ fn.params.toList, P.readableRec t = true ∧ t < P.types.size) (hres : fn.resultTypes = #[bt]) (hvars : s.vars = [])
    (hW : DataW.Whole enc P fn.params.toList s.vars apart W args.toList ds gs before) (hs : s.fn H (ds ++ gs) = { results := [.lit (.bool true)], args := ds }) (hf : Fr [] W W') :
    s.post enc P fn apart fresh handsOn false W args (.bool true) W' := by
  have hb := hf.below
  have hlt := hW.lt
  have hW' := hW
  obtain ⟨p, q, hA, hV, rfl, hfz, hnd⟩ := hW'
  rw [hvars] at hV
  have hA' := trodAll_below hl hb hr hA (fun x hx => hlt x (by simp [hx]))
  refine ⟨ds, gs, _, [], p, [], hW, ?_, ?_, ?_, Below.frame hb _, fun h => by cases h⟩
  · rw [hs, hres]
    exact trodAll_mk1 (shut_bool hbt true)
  · rw [hs]; exact hA'
  · rw [hs, hvars]; exact rfl
end
end Go.Fx
