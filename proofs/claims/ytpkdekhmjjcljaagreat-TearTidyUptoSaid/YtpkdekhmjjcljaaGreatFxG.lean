/- Slices: their lengths, parts of them, appending, literals. -/
import Derived.Test.YtpkdekhmjjcljaaGreatFxE
import Derived.Laws.Append
namespace Go.Fx

def bytesB (P : Program) (t : TypeId) : Option Nat := (P.info? t).map (·.bytes)
/-- A slice from the head of a block, or nil. -/
def slv (k : Option Nat) (len cap : Nat) : Value := .slice (k.map fun b => ⟨b, 0, none⟩) len cap

section
variable {P : Program} {w0 : World} {mods : List Nat} {n : Nat} {m : HF} {e : Env} {t : TypeId} {p : String} {af : Array Edge} {d : Option Nat} {g : Option (Nat × Bool)} {x y z : Operand} {T U el : TypeId}

theorem Val.len {a : Option Addr} {l c : Nat} (hT : elemB P T = some el) (hx : evalE e x = some (.slice a l c)) : Val P w0 mods m e ⟨d, .call ⟨.builtin .len, [x].toArray, [T].toArray⟩, t, p, af, g⟩ (.int .i64 (l : Nat)) := fun ρ w hρ _ _ => by
  simp [execOp, resolve, invoke, builtin, Builtin.len_, hρ _ _ hx, run_underlying' w (elemB_spec hT), goInt]
theorem Val.cap {a : Option Addr} {l c : Nat} (hT : elemB P T = some el) (hx : evalE e x = some (.slice a l c)) : Val P w0 mods m e ⟨d, .call ⟨.builtin .cap, [x].toArray, [T].toArray⟩, t, p, af, g⟩ (.int .i64 (c : Nat)) := fun ρ w hρ _ _ => by
  simp [execOp, resolve, invoke, builtin, Builtin.cap_, hρ _ _ hx, run_underlying' w (elemB_spec hT), goInt]
theorem Val.min {k : IntKind} {a b : Int} {ts : List TypeId} (hx : evalE e x = some (.int k a)) (hy : evalE e y = some (.int k b)) : Val P w0 mods m e ⟨d, .call ⟨.builtin .min, [x, y].toArray, ts.toArray⟩, t, p, af, g⟩ (.int k (if b < a then b else a)) := fun ρ w hρ _ _ => by
  simp [execOp, resolve, invoke, builtin, Builtin.min_, Builtin.min2, hρ _ _ hx, hρ _ _ hy]
theorem Val.max {k : IntKind} {a b : Int} {ts : List TypeId} (hx : evalE e x = some (.int k a)) (hy : evalE e y = some (.int k b)) : Val P w0 mods m e ⟨d, .call ⟨.builtin .max, [x, y].toArray, ts.toArray⟩, t, p, af, g⟩ (.int k (if b > a then b else a)) := fun ρ w hρ _ _ => by
  simp [execOp, resolve, invoke, builtin, Builtin.max_, Builtin.max2, hρ _ _ hx, hρ _ _ hy]
theorem Val.mf {fn : Fn} {first capt : List Operand} {vs us : List Value} (h1 : evalsE e first = some vs) (h2 : evalsE e capt = some us) : Val P w0 mods m e ⟨d, .makeFunc fn first.toArray capt.toArray, t, p, af, g⟩ (.func fn vs.toArray us.toArray) := fun ρ w hρ _ _ => by
  have key : ∀ (xs : List Operand) (vs : List Value), evalsE e xs = some vs → xs.map ρ = vs := by
    intro xs
    induction xs with
    | nil => intro vs h; simp only [evalsE, Option.some.injEq] at h; rw [← h]; rfl
    | cons x xs ih =>
      intro vs h
      simp only [evalsE] at h
      split at h
      · rename_i a b h3 h4
        simp only [Option.some.injEq] at h
        rw [← h, List.map_cons, hρ _ _ h3, ih _ h4]
      · simp at h
  simp [execOp, Instr.makeFunc, key _ _ h1, key _ _ h2]

/-! parts of a slice -/
theorem Val.slH {k : IntKind} {a : Option Addr} {l c : Nat} {hi : Int} (hT : elemB P T = some el) (hs : (P.info? el).isSome = true) (hx : evalE e x = some (.slice a l c)) (hy : evalE e y = some (.int k hi)) (h0 : 0 ≤ hi) (h1 : hi ≤ c) :
    Val P w0 mods m e ⟨d, .slice T x none (some y) none, t, p, af, g⟩ (.slice a hi.toNat c) := fun ρ w hρ _ _ => by
  obtain ⟨i, hi'⟩ := Option.isSome_iff_exists.1 hs
  have ha : (if c = 0 then a else a.map fun x => x.add 0) = a := by split <;> cases a <;> simp [Addr.add]
  simp [execOp, Instr.sliceAt, Instr.slice, Instr.sliceBounds, Instr.sliceBound, asIntOf, hρ _ _ hx, hρ _ _ hy, run_underlying' w (elemB_spec hT), sizeOf, typeInfo, hi', h0, h1, ha]
theorem Val.slL {k : IntKind} {b o l c s : Nat} {lo : Int} (hT : elemB P T = some el) (hs : sizeB P el = some s) (hx : evalE e x = some (.slice (some ⟨b, o, none⟩) l c)) (hy : evalE e y = some (.int k lo)) (h0 : 0 ≤ lo) (h1 : lo ≤ l) :
    Val P w0 mods m e ⟨d, .slice T x (some y) none none, t, p, af, g⟩ (.slice (some ⟨b, if c = lo.toNat then o else o + lo.toNat * s, none⟩) (l - lo.toNat) (c - lo.toNat)) := fun ρ w hρ _ _ => by
  simp only [execOp, Instr.sliceAt, Instr.slice, Instr.sliceBounds, Instr.sliceBound, asIntOf, hρ _ _ hx, hρ _ _ hy, run_underlying' w (elemB_spec hT), run_sizeB w hs, h0, h1, Sem.run_bind, Sem.run_pure, Result.andThen, Option.map_some, Option.map_none,
    and_self, if_true, add_plain, Bool.false_eq_true, if_false, Option.isSome_none]
  by_cases hc : c = lo.toNat
  · simp [hc]
  · simp [hc]
/-- with three indexes, all of one -/
theorem Val.slHM {k k' : IntKind} {a : Option Addr} {l c : Nat} {hi mx : Int} (hT : elemB P T = some el) (hs : (P.info? el).isSome = true) (hx : evalE e x = some (.slice a l c)) (hy : evalE e y = some (.int k hi)) (hz : evalE e z = some (.int k' mx))
    (h0 : 0 ≤ hi) (h1 : hi ≤ mx) (h2 : mx ≤ c) : Val P w0 mods m e ⟨d, .slice T x none (some y) (some z), t, p, af, g⟩ (.slice a hi.toNat mx.toNat) := fun ρ w hρ _ _ => by
  obtain ⟨i, hi'⟩ := Option.isSome_iff_exists.1 hs
  have h3 : 0 ≤ mx := Int.le_trans h0 h1
  have h4 : hi ≤ ((mx.toNat : Nat) : Int) := by omega
  have ha : (if mx.toNat = 0 then a else a.map fun x => x.add 0) = a := by split <;> cases a <;> simp [Addr.add]
  simp only [execOp, Instr.sliceAt, Instr.slice, Instr.sliceBounds, Instr.sliceBound, asIntOf, hρ _ _ hx, hρ _ _ hy, hρ _ _ hz, run_underlying' w (elemB_spec hT), sizeOf, typeInfo, run_program, hi', h0, h2, h3, h4, Sem.run_bind, Sem.run_pure, Result.andThen,
    Option.map_some, Option.map_none, and_self, if_true, Bool.false_eq_true, if_false, Nat.zero_mul, Nat.sub_zero, ha]

/-! ### building -/
inductive Bld (pl : Nat → Option (Nat × Nat)) : Array Value → List (Nat × Value) → Array Value → Prop
  | nil {c : Array Value} : Bld pl c [] c
  | cons {c c1 c' : Array Value} {i o s : Nat} {v : Value} {ps : List (Nat × Value)} (hp : pl i = some (o, s)) (hs : v.cells.size = s) (ho : o + s ≤ c.size) (hu : Upd c o v.cells c1) (h : Bld pl c1 ps c') : Bld pl c ((i, v) :: ps) c'

theorem foldl_put (off : Nat) : ∀ (vs : List Value) (j : Nat) (c : Array Value), off + j + vs.length ≤ c.size →
    (vs.zipIdx j).foldl (fun cs (x : Value × Nat) => cs.setIfInBounds (off + x.2) x.1) c = putAt c (off + j) vs.toArray
  | [], j, c, _ => by
    apply Array.ext'
    simp only [List.zipIdx_nil, List.foldl_nil, putAt, Array.toList_append, Array.toList_extract, List.extract, List.drop_zero, Nat.sub_zero, List.size_toArray, List.length_nil, Nat.add_zero, List.append_nil]
    rw [List.take_of_length_le (l := c.toList.drop (off + j)) (by simp)]
    exact (List.take_append_drop _ _).symm
  | v :: vs, j, c, h => by
    simp only [List.zipIdx_cons, List.foldl_cons]
    simp only [List.length_cons] at h
    rw [foldl_put off vs (j + 1) _ (by simp; omega)]
    apply Array.ext_getElem?
    intro i
    rw [putAt_get (by simp; omega), putAt_get (by simp; omega)]
    simp only [List.size_toArray, List.length_cons, Array.getElem?_setIfInBounds, List.getElem?_toArray]
    by_cases a1 : i < off + j
    · rw [if_pos (show i < off + (j + 1) by omega), if_neg (by omega), if_pos a1]
    · rw [if_neg a1]
      by_cases a2 : i = off + j
      · subst a2
        rw [if_pos (by omega), if_pos rfl, if_pos (by omega), if_pos (by omega)]
        simp
      · rw [if_neg (by omega)]
        by_cases a3 : i < off + j + (vs.length + 1)
        · rw [if_pos (by omega), if_pos a3, show i - (off + j) = (i - (off + (j + 1))) + 1 by omega, List.getElem?_cons_succ]
        · rw [if_neg (by omega), if_neg a3, if_neg (by omega)]

theorem fill_bld {pl : Nat → Option (Nat × Nat)} {c c' : Array Value} {ps : List (Nat × Value)} (h : Bld pl c ps c') : Instr.fill pl c ps = some c' := by
  induction h with
  | nil => rfl
  | cons h1 h2 h3 h4 _ ih =>
    simp only [Instr.fill, h1]
    rw [if_neg (by simp; omega)]
    rename_i c c1 c' i o s v ps _
    have : (v.cells.zipIdx.foldl (fun cs (x : Value × Nat) => cs.setIfInBounds (o + x.2) x.1) c) = c1 := by
      rw [← Array.foldl_toList]
      rw [Array.toList_zipIdx]
      have := foldl_put o v.cells.toList 0 c (by simp; omega)
      simp only [Nat.add_zero] at this
      rw [this]; exact h4
    rw [this]
    exact ih

/-- the fields' places, as the model reckons them -/
def placesR (P : Program) (T : TypeId) (w : World) : Result (Array (Nat × Nat)) := match P.underlying T with
  | some (.struct fs) => (fs.mapM fun f => (do pure (f.offset, ← sizeOf f.type) : Sem (Nat × Nat))).run P w
  | _ => .halt .blocked w

theorem run_buildS {T : TypeId} {ps : List (Nat × Value)} {zv : Value} {c c' : Array Value} {pl : Array (Nat × Nat)} (w : World) (hz : zeroB P T = some zv) (hc : zv.cells = c) (hT : placesR P T w = .ok pl w) (h : Bld (pl[·]?) c ps c') : (Instr.build T ps.toArray).run P w = .ok (.agg c') w := by
  subst hc
  unfold placesR at hT
  split at hT
  · rename_i fs hu
    have hf := fill_bld h
    unfold Instr.build
    simp only [Sem.run_bind, run_zeroB w hz, Result.andThen, run_underlying' w hu, hT, hf, Sem.run_pure]
  · cases hT
theorem run_buildA {T el : TypeId} {k s : Nat} {ps : List (Nat × Value)} {zv : Value} {c c' : Array Value} (w : World) (hz : zeroB P T = some zv) (hc : zv.cells = c) (hT : arrB P T = some (k, el)) (hs : sizeB P el = some s) (h : Bld (fun i => some (i * s, s)) c ps c') : (Instr.build T ps.toArray).run P w = .ok (.agg c') w := by
  subst hc
  have hf := fill_bld h
  unfold Instr.build
  simp only [Sem.run_bind, run_zeroB w hz, Result.andThen, run_underlying' w (arrB_spec hT), run_sizeB w hs, hf, Sem.run_pure]

def evalP (e : Env) : List (Nat × Operand) → Option (List (Nat × Value))
  | [] => some []
  | (i, x) :: xs => match evalE e x, evalP e xs with
    | some v, some vs => some ((i, v) :: vs)
    | _, _ => none
theorem evalP_map {ρ : Operand → Value} (hρ : ∀ x u, evalE e x = some u → ρ x = u) : ∀ {xs : List (Nat × Operand)} {vs : List (Nat × Value)}, evalP e xs = some vs → xs.map (fun x : Nat × Operand => (x.1, ρ x.2)) = vs
  | [], vs, h => by simp only [evalP, Option.some.injEq] at h; rw [← h]; rfl
  | (i, x) :: xs, vs, h => by
    simp only [evalP] at h
    split at h
    · rename_i v us h1 h2
      simp only [Option.some.injEq] at h
      rw [← h, List.map_cons, hρ _ _ h1, evalP_map hρ h2]
    · simp at h
theorem Val.bdS {ps : List (Nat × Operand)} {vs : List (Nat × Value)} {zv : Value} {c c' : Array Value} {pl : Array (Nat × Nat)} (hps : evalP e ps = some vs) (hz : zeroB P T = some zv) (hc : zv.cells = c) (hT : ∀ w, placesR P T w = .ok pl w) (h : Bld (pl[·]?) c vs c') :
    Val P w0 mods m e ⟨d, .build T ps.toArray, t, p, af, g⟩ (.agg c') := fun ρ w hρ _ _ => by
  have h1 : (ps.toArray.map fun (x : Nat × Operand) => (x.1, ρ x.2)) = vs.toArray := by rw [← evalP_map hρ hps]; simp
  simp only [execOp, Sem.run_bind]
  rw [h1, run_buildS w hz hc (hT w) h]; rfl
theorem Val.bdA {k s : Nat} {ps : List (Nat × Operand)} {vs : List (Nat × Value)} {zv : Value} {c c' : Array Value} (hps : evalP e ps = some vs) (hz : zeroB P T = some zv) (hc : zv.cells = c) (hT : arrB P T = some (k, el)) (hs : sizeB P el = some s) (h : Bld (fun i => some (i * s, s)) c vs c') :
    Val P w0 mods m e ⟨d, .build T ps.toArray, t, p, af, g⟩ (.agg c') := fun ρ w hρ _ _ => by
  have h1 : (ps.toArray.map fun (x : Nat × Operand) => (x.1, ρ x.2)) = vs.toArray := by rw [← evalP_map hρ hps]; simp
  simp only [execOp, Sem.run_bind]
  rw [h1, run_buildA w hz hc hT hs h]; rfl
/-- no parts -/
theorem Val.bd0 {c : Array Value} (hz : zeroB P T = some (.agg c)) (hpl : (∃ pl, ∀ w, placesR P T w = .ok pl w) ∨ (∃ k el s, arrB P T = some (k, el) ∧ sizeB P el = some s)) :
    Val P w0 mods m e ⟨d, .build T #[], t, p, af, g⟩ (.agg c) := by
  rcases hpl with ⟨pl, h⟩ | ⟨k, el, s, h1, h2⟩
  · exact Val.bdS (ps := []) rfl hz rfl h .nil
  · exact Val.bdA (ps := []) rfl hz rfl h1 h2 .nil

/-! ### appending -/
theorem run_firstCells {w : World} {b o k s l c : Nat} {cs ys : Array Value} {U : TypeId} {fr : Nat × Nat} (h : w.heap[b]? = some (.cells cs U fr)) (hs : Sel cs o (k * s) ys) : (Builtin.firstCells s k (.slice (some ⟨b, o, none⟩) l c)).run P w = .ok ys w := by
  simp only [Builtin.firstCells]
  rw [run_loadCells' h hs.1, hs.2]

theorem zeroCells_size (z : Array Value) (k : Nat) : (Builtin.zeroCells z k).size = k * z.size := by simp [Builtin.zeroCells]

/-- What stands behind an append in place. -/
theorem run_append_in {w : World} {sT el U : TypeId} {b len cap s k b2 o2 l2 c2 : Nat} {xs rest ys cs2 : Array Value} {U2 : TypeId} {fr2 : Nat × Nat} (ty : TypeId) (hT : elemB P sT = some el) (hs : sizeB P el = some s)
    (hb : w.heap[b]? = some (.cells (xs ++ rest) U (0, 0))) (hxs : xs.size = len * s) (hrest : k * s ≤ rest.size) (h2 : w.heap[b2]? = some (.cells cs2 U2 fr2)) (hsel : Sel cs2 o2 (k * s) ys) (hl2 : l2 = k) (hone : Ones ys) (hroom : len + k ≤ cap) :
    (Builtin.append_ #[sT, sT] ty #[.slice (some ⟨b, 0, none⟩) len cap, .slice (some ⟨b2, o2, none⟩) l2 c2]).run P w = .ok (.slice (some ⟨b, 0, none⟩) (len + k) cap) (setB w b (.cells (xs ++ ys ++ rest.extract ys.size rest.size) U (0, 0))) := by
  subst hl2
  have hys : ys.size = l2 * s := by rw [← hsel.2]; have := hsel.1; simp; omega
  have hst := storeCells_step (P := P) (b := b) (T := U) (len * s) ys.toList 0 (xs ++ rest) w hb (by simp; omega) hone
  have hpa : (xs ++ rest).extract 0 (len * s + 0) ++ ys.toList.toArray ++ (xs ++ rest).extract (len * s + 0 + ys.toList.length) (xs ++ rest).size = xs ++ ys ++ rest.extract ys.size rest.size := by
    rw [Nat.add_zero, ← hxs]
    apply Array.ext'
    simp only [Array.toList_append, Array.toList_extract, List.extract, List.drop_zero, Nat.sub_zero, Array.size_append, Array.length_toList]
    rw [List.take_append_of_le_length (by simp), List.take_of_length_le (by simp), List.drop_append, List.drop_eq_nil_of_le (by simp), List.nil_append, Array.length_toList, Nat.add_sub_cancel_left]
    congr 1
    rw [List.take_of_length_le (by simp; omega), List.take_of_length_le (by simp)]
  rw [hpa] at hst
  have hf := run_firstCells (P := P) (l := l2) (c := c2) h2 hsel
  simp only [Builtin.append_, List.getElem?_toArray, List.getElem?_cons_zero, List.getElem?_cons_succ, Sem.run_bind, Sem.run_pure, run_underlying' w (elemB_spec hT), run_sizeB w hs, Builtin.lenOf, Result.andThen, Bool.false_eq_true, if_false, Bool.not_false, if_true, hroom,
    hf, add_plain, Nat.zero_add]
  rw [hst]

theorem infoB {el s by_ : Nat} {zv : Value} (hs : sizeB P el = some s) (hby : bytesB P el = some by_) (hz : zeroB P el = some zv) : ∃ i, P.info? el = some i ∧ i.bytes = by_ ∧ i.size = s ∧ i.zero = some zv := by
  unfold bytesB at hby
  unfold sizeB at hs
  unfold zeroB at hz
  cases h : P.info? el with
  | none => simp [h] at hby
  | some i => simp [h] at hby hs hz; exact ⟨i, rfl, hby, hs, hz⟩

theorem Sel.cells {w : World} {b o s : Nat} {cs ys : Array Value} {U : TypeId} {fr : Nat × Nat} (h : w.heap[b]? = some (.cells cs U fr)) (hs : Sel cs o s ys) : ∀ (j : Nat) v, ys.toList[j]? = some v → w.cell? (Addr.add ⟨b, o, none⟩ j) = some v := by
  intro j v hv
  rw [add_plain, cell_of_heap h]
  obtain ⟨h1, h2⟩ := hs
  subst h2
  rw [Array.getElem?_toList, Array.getElem?_extract] at hv
  split at hv
  · exact hv
  · cases hv

theorem run_append_new {w : World} {sT el U U2 : TypeId} {b len cap s by_ k b2 o2 c2 : Nat} {xs rest ys cs2 : Array Value} {fr2 : Nat × Nat} {zv : Value} (ty : TypeId) (hT : elemB P sT = some el) (hs : sizeB P el = some s) (hby : bytesB P el = some by_) (hz : zeroB P el = some zv) (hpos : 0 < by_)
    (hb : w.heap[b]? = some (.cells (xs ++ rest) U (0, 0))) (hxs : xs.size = len * s) (h2 : w.heap[b2]? = some (.cells cs2 U2 fr2)) (hsel : Sel cs2 o2 (k * s) ys) (hroom : cap < len + k) (hfit : (len + k) * by_ ≤ 140737488355328) :
    ∃ cap', len + k ≤ cap' ∧ (Builtin.append_ #[sT, sT] ty #[.slice (some ⟨b, 0, none⟩) len cap, .slice (some ⟨b2, o2, none⟩) k c2]).run P w = .ok (.slice (some ⟨w.heap.size, 0, none⟩) (len + k) cap') (w.drew.alloc (.cells (xs ++ ys ++ Builtin.zeroCells zv.cells (cap' - (len + k))) el (0, 0))) := by
  obtain ⟨i, hi, hib, his, hiz⟩ := infoB hs hby hz
  have hle : len + k ≤ 140737488355328 := by
    have : (len + k) * 1 ≤ (len + k) * by_ := Nat.mul_le_mul_left _ hpos
    omega
  have hys : ys.size = k * s := by rw [← hsel.2]; have := hsel.1; simp; omega
  have hsx : Sel (xs ++ rest) 0 (len * s) xs := ⟨by simp; omega, by rw [← hxs]; apply Array.ext'; simp⟩
  have h48 : Builtin.nextslicecap (len + k) cap * i.bytes ≤ 281474976710656 := by rw [hib]; exact growslice_fits hroom hfit
  have := run_append_grow (P := P) (w := w) sT ty el i zv (elemB_spec hT) hi hiz ⟨b, 0, none⟩ len cap xs.toList (by rw [his]; simpa using hxs) (hsx.cells hb) ⟨b2, o2, none⟩ k c2 ys.toList (by rw [his]; simpa using hys) (hsel.cells h2) hroom (by omega) h48
  refine ⟨grownCap w (len + k) cap el, Nat.le_add_right _ _, ?_⟩
  rw [this]

theorem run_append_nil' {w : World} {sT el U2 : TypeId} {s by_ k b2 o2 c2 : Nat} {ys cs2 : Array Value} {fr2 : Nat × Nat} {zv : Value} (ty : TypeId) (hT : elemB P sT = some el) (hs : sizeB P el = some s) (hby : bytesB P el = some by_) (hz : zeroB P el = some zv) (hpos : 0 < by_)
    (h2 : w.heap[b2]? = some (.cells cs2 U2 fr2)) (hsel : Sel cs2 o2 (k * s) ys) (hroom : 0 < k) (hfit : k * by_ ≤ 140737488355328) :
    ∃ cap', k ≤ cap' ∧ (Builtin.append_ #[sT, sT] ty #[.slice none 0 0, .slice (some ⟨b2, o2, none⟩) k c2]).run P w = .ok (.slice (some ⟨w.heap.size, 0, none⟩) k cap') (w.drew.alloc (.cells (ys ++ Builtin.zeroCells zv.cells (cap' - k)) el (0, 0))) := by
  obtain ⟨i, hi, hib, his, hiz⟩ := infoB hs hby hz
  have hle : k ≤ 140737488355328 := by
    have : k * 1 ≤ k * by_ := Nat.mul_le_mul_left _ hpos
    omega
  have hys : ys.size = k * s := by rw [← hsel.2]; have := hsel.1; simp; omega
  have := run_append_nil (P := P) (w := w) sT ty el i zv (elemB_spec hT) hi hiz ⟨b2, o2, none⟩ k c2 ys.toList (by rw [his]; simpa using hys) (hsel.cells h2) hroom (by omega) (by rw [hib]; omega)
  refine ⟨grownCap w k 0 el, Nat.le_add_right _ _, ?_⟩
  rw [this]

/-- nothing is appended -/
theorem run_append_none {w : World} {sT el : TypeId} {s len cap : Nat} {a : Option Addr} (ty : TypeId) (hT : elemB P sT = some el) (hs : sizeB P el = some s) (hle : len ≤ cap) (x : Value) (hx : (∃ c, x = .slice none 0 c) ∨ ∃ b o c, x = .slice (some ⟨b, o, none⟩) 0 c) :
    (Builtin.append_ #[sT, sT] ty #[.slice a len cap, x]).run P w = .ok (.slice a len cap) w := by
  rcases hx with ⟨c, rfl⟩ | ⟨b, o, c, rfl⟩ <;> cases a <;>
    simp [Builtin.append_, run_underlying' w (elemB_spec hT), run_sizeB w hs, Builtin.lenOf, Builtin.firstCells, loadCells, loadCellsFrom, storeCells, hle]
end

section
variable {P : Program} {w0 : World} {mods : List Nat} {n : Nat} {m : HF} {e : Env} {Q : Exit → Act → World → Prop} {ops : Array Oper} {rest : List Oper} {d : Nat} {t : TypeId} {p : String} {af : Array Edge}

/-- a slice that comes in: nil and empty, or so many elements from a place on -/
inductive Src (w0 : World) (mods : List Nat) (m : HF) (s : Nat) : Value → Nat → Array Value → Prop
  | nil {c : Nat} : Src w0 mods m s (.slice none 0 c) 0 #[]
  | em {b o c : Nat} : Src w0 mods m s (.slice (some ⟨b, o, none⟩) 0 c) 0 #[]
  | at_ {b o k c : Nat} {cs ys : Array Value} {U : TypeId} {fr : Nat × Nat} (hk : Kn w0 mods m b (.cells cs U fr)) (hsel : Sel cs o (k * s) ys) : Src w0 mods m s (.slice (some ⟨b, o, none⟩) k c) k ys

/-- Appending to a slice of one's own. -/
theorem St.app {x y : Operand} {sT el U : TypeId} {key : Option Nat} {len cap s by_ k : Nat} {xs rs ys : Array Value} {zv yv : Value} (i : Nat) (hk : m[i]? = some (key, .cells (xs ++ rs) U (0, 0))) (hx : evalE e x = some (slv key len cap)) (hy : evalE e y = some yv) (hsrc : Src w0 mods m s yv k ys)
    (hT : elemB P sT = some el) (hU : U = el) (hs : sizeB P el = some s) (hby : bytesB P el = some by_) (hz : zeroB P el = some zv) (hzs : zv.cells.size = s) (hpos : 0 < by_) (hxs : xs.size = len * s) (hrs : rs.size = (cap - len) * s) (hle : len ≤ cap) (hnil : key = none → cap = 0)
    (hone : Ones ys) (hfit : (len + k) * by_ ≤ 140737488355328) (hd : d < n)
    (K : ∀ (key' : Option Nat) (cap' : Nat) (rs' : Array Value), rs'.size = (cap' - (len + k)) * s → len + k ≤ cap' → (key' = none → cap' = 0) →
      St w0 mods n (m.set i (key', .cells (xs ++ ys ++ rs') el (0, 0))) ((d, slv key' (len + k) cap') :: e) (wpList P ops Q rest)) :
    St w0 mods n m e (wpList P ops Q (⟨some d, .call ⟨.builtin .append, [x, y].toArray, [sT, sT].toArray⟩, t, p, af, none⟩ :: rest)) := fun a w hs' =>
  wpList_plain rfl fun K' hK => by
    subst hU
    unfold Oper.wp
    have hrun : (execOp a.eval ⟨some d, .call ⟨.builtin .append, [x, y].toArray, [sT, sT].toArray⟩, t, p, af, none⟩).run P w = ((Builtin.append_ #[sT, sT] t #[slv key len cap, yv]).run P w).andThen fun v w' => .ok (.value v) w' := by
      simp [execOp, resolve, invoke, builtin, hs'.eval hx, hs'.eval hy]
    rw [hrun]
    have hyk : ys.size = k * s := by
      cases hsrc with
      | nil => simp
      | em => simp
      | at_ _ hsel => rw [← hsel.2]; have := hsel.1; simp; omega
    by_cases hk0 : k = 0
    · subst hk0
      have hys : ys = #[] := by apply Array.eq_empty_of_size_eq_zero; simpa using hyk
      subst hys
      have hrun2 := run_append_none (P := P) (w := w) (s := s) (a := key.map fun b => ⟨b, 0, none⟩) t hT hs hle yv (by
        cases hsrc with
        | nil => exact .inl ⟨_, rfl⟩
        | em => exact .inr ⟨_, _, _, rfl⟩
        | at_ _ _ => exact .inr ⟨_, _, _, rfl⟩)
      have h1 := K key cap rs (by simpa using hrs) (by simpa using hle) hnil
      have hset : m.set i (key, .cells (xs ++ #[] ++ rs) U (0, 0)) = m := by
        apply List.ext_getElem?
        intro j
        rw [List.getElem?_set]
        by_cases hij : i = j
        · subst hij
          have hlt : i < m.length := by
            rcases Nat.lt_or_ge i m.length with h | h
            · exact h
            · simp [List.getElem?_eq_none h] at hk
          rw [if_pos rfl, if_pos hlt, hk]; simp
        · rw [if_neg hij]
      rw [hset] at h1
      unfold slv at hrun2 ⊢
      rw [hrun2]
      exact hK _ _ (h1 _ _ (hs'.put hd _))
    · cases hsrc with
      | nil => exact absurd rfl hk0
      | em => exact absurd rfl hk0
      | @at_ b2 o2 _ c2 cs2 _ U2 fr2 hkn hsel =>
        have h2 := hkn w hs'.mem hs'.fr
        cases key with
        | none =>
          have hc0 : cap = 0 := hnil rfl
          subst hc0
          have hl0 : len = 0 := by omega
          subst hl0
          have hx0 : xs = #[] := by apply Array.eq_empty_of_size_eq_zero; simpa using hxs
          subst hx0
          obtain ⟨cap', hcap, hr⟩ := run_append_nil' (P := P) (k := k) (c2 := c2) t hT hs hby hz hpos h2 hsel (by omega) (by simpa using hfit)
          have h1 := K (some w.drew.heap.size) cap' (Builtin.zeroCells zv.cells (cap' - k)) (by rw [zeroCells_size, hzs]; simp) (by simpa using hcap) (by simp)
          simp only [slv, Option.map_none]
          rw [hr]
          simp only [Result.andThen, Oper.upon]
          refine hK _ _ ?_
          have h3 := h1 _ _ (((hs'.drew).renew i _).put hd _)
          simp only [slv, Option.map_some, Nat.zero_add, Array.empty_append] at h3
          exact h3
        | some b =>
          have hb := hs'.mem b _ (List.mem_of_getElem? hk)
          by_cases hroom : len + k ≤ cap
          · have hr := run_append_in (P := P) (l2 := k) (c2 := c2) t hT hs hb hxs (by rw [hrs]; exact Nat.mul_le_mul_right _ (by omega)) h2 hsel rfl hone hroom
            have h1 := K (some b) cap (rs.extract ys.size rs.size) (by simp only [Array.size_extract]; rw [hrs, hyk, Nat.min_self, ← Nat.sub_mul]; congr 1; omega) hroom (by simp)
            simp only [slv, Option.map_some]
            rw [hr]
            exact hK _ _ (h1 _ _ ((hs'.setB hk _).put hd _))
          · obtain ⟨cap', hcap, hr⟩ := run_append_new (P := P) (k := k) (c2 := c2) (cap := cap) t hT hs hby hz hpos hb hxs h2 hsel (by omega) hfit
            have h1 := K (some w.drew.heap.size) cap' (Builtin.zeroCells zv.cells (cap' - (len + k))) (by rw [zeroCells_size, hzs]) hcap (by simp)
            simp only [slv, Option.map_some]
            rw [hr]
            exact hK _ _ (h1 _ _ (((hs'.drew).renew i _).put hd _))

/-- A slice of one element, laid for an append. -/
theorem St.bs1 {x : Operand} {sT el : TypeId} {s : Nat} {v : Value} {c : Array Value} {zv : Value} (hT : elemB P sT = some el) (hs : sizeB P el = some s) (hz : zeroB P el = some zv) (hx : evalE e x = some v) (hv : v.cells = c) (hc : c.size = s) (hs0 : 0 < s) (hsm : s ≤ 16777216) (hd : d < n)
    (k : ∀ b, w0.heap.size ≤ b → St w0 mods n ((some b, .cells c el (0, 0)) :: m) ((d, .slice (some ⟨b, 0, none⟩) 1 1) :: e) (wpList P ops Q rest)) :
    St w0 mods n m e (wpList P ops Q (⟨some d, .buildSlice sT 1 [(0, x)].toArray, t, p, af, none⟩ :: rest)) := fun a w hs' =>
  wpList_plain rfl fun K hK => by
    subst hv
    have hfill : Instr.fill (fun i => some (i * s, s)) ((Array.range (1 * s)).map (zv.cells[· % zv.cells.size]!)) [(0, v)] = some v.cells := by
      refine fill_bld (.cons rfl hc (by simp) ?_ .nil)
      unfold Upd putAt
      apply Array.ext'
      simp [List.extract, hc]
    have hr : (execOp a.eval ⟨some d, .buildSlice sT 1 [(0, x)].toArray, t, p, af, none⟩).run P w = .ok (.value (.slice (some ⟨w.heap.size, 0, none⟩) 1 1)) (w.alloc (.cells v.cells el (0, 0))) := by
      have h1 : ¬ (1 * s > 2 ^ 24) := by omega
      have h2 : ¬ (1 * s = 0) := by omega
      simp only [execOp, Instr.buildSlice, List.map_toArray, List.map_cons, List.map_nil, hs'.eval hx, Sem.run_bind, run_underlying' w (elemB_spec hT), run_sizeB w hs, Result.andThen, h1, h2, if_false, run_zeroB w hz, Sem.run_pure, hfill, newRow, run_newObj, World.alloc_eq]
    unfold Oper.wp
    rw [hr]
    exact hK _ _ (k _ hs'.fr.size _ _ ((hs'.alloc _).put hd _))
end
end Go.Fx
