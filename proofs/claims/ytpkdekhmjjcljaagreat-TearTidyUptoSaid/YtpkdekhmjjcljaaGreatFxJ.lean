/- More operations: slices that are laid whole, clear, a slice against nil. -/
import Derived.Test.YtpkdekhmjjcljaaGreatFxL
namespace Go.Fx

theorem Upd.app {pre v z post : Array Value} {o : Nat} (ho : pre.size = o) (hz : z.size = v.size) : Upd (pre ++ z ++ post) o v (pre ++ v ++ post) := by
  have := Upd.cat [pre] z v [post] (o := o) (by simp [szs, ho]) hz.symm
  have e : ∀ q : Array Value, catA ([pre] ++ q :: [post]) = pre ++ q ++ post := fun q => by
    rw [List.singleton_append, catA_cons, catA_cons, catA_cons]
    simp [catA, Array.append_assoc]
  rwa [e, e] at this

def zipFrom : Nat → List Value → List (Nat × Value)
  | _, [] => []
  | k, v :: vs => (k, v) :: zipFrom (k + 1) vs

theorem bld_list {s : Nat} : ∀ (vs : List Value) (k : Nat) (pre Z : Array Value), (∀ v ∈ vs, v.cells.size = s) → pre.size = k * s → Z.size = vs.length * s →
    Bld (fun i => some (i * s, s)) (pre ++ Z) (zipFrom k vs) (pre ++ catA (vs.map (·.cells)))
  | [], k, pre, Z, _, _, hZ => by
    have : Z = #[] := Array.eq_empty_of_size_eq_zero (by simpa using hZ)
    subst this
    exact .nil
  | v :: vs, k, pre, Z, hv, hp, hZ => by
    have hs := hv v (by simp)
    have hZ' : Z.size = s + vs.length * s := by simpa [Nat.add_mul, Nat.add_comm] using hZ
    have hsplit : Z = Z.extract 0 s ++ Z.extract s Z.size := by
      apply Array.ext'
      simp only [Array.toList_append, Array.toList_extract, List.extract, List.drop_zero, Nat.sub_zero]
      rw [show (Z.toList.drop s).take (Z.size - s) = Z.toList.drop s from List.take_of_length_le (by simp)]
      exact (List.take_append_drop _ _).symm
    have h1 : (Z.extract 0 s).size = v.cells.size := by rw [hs]; simp; omega
    refine .cons (c1 := (pre ++ v.cells) ++ Z.extract s Z.size) rfl hs (by simp; omega) ?_ ?_
    · rw [show pre ++ Z = pre ++ Z.extract 0 s ++ Z.extract s Z.size by rw [Array.append_assoc, ← hsplit]]
      exact Upd.app hp h1
    · have := bld_list vs (k + 1) (pre ++ v.cells) (Z.extract s Z.size) (fun u hu => hv u (by simp [hu])) (by simp [hp, hs, Nat.add_mul]) (by simp; omega)
      rw [List.map_cons, catA_cons, ← Array.append_assoc]
      exact this

section
variable {α : Type} {enc : α → Array Value} {s : Nat} {l : List α} {x : α} {rs : Array Value}
theorem sel_at (hs : ∀ x, (enc x).size = s) {z : Int} {i : Nat} (hz : z = (i : Nat)) (h : l[i]? = some x) : Sel (catA (l.map enc) ++ rs) (0 + z.toNat * s) s (enc x) := by
  subst hz
  rw [Nat.zero_add, Int.toNat_natCast]
  exact sel_list hs h
theorem fit_at (hs : ∀ x, (enc x).size = s) {z : Int} {i : Nat} (hz : z = (i : Nat)) (h : i < l.length) : 0 + z.toNat * s + s ≤ (catA (l.map enc) ++ rs).size := by
  subst hz
  rw [Array.size_append, catA_list_size hs, Int.toNat_natCast]
  have := Nat.mul_le_mul_right s (show i + 1 ≤ l.length from h)
  rw [Nat.add_mul, Nat.one_mul] at this
  omega
theorem put_at (hs : ∀ x, (enc x).size = s) {z : Int} {i : Nat} (hz : z = (i : Nat)) (h : i < l.length) : putAt (catA (l.map enc) ++ rs) (0 + z.toNat * s) (Value.agg (enc x)).cells = catA ((l.set i x).map enc) ++ rs := by
  subst hz
  rw [Int.toNat_natCast, Nat.zero_add]
  have e : l.map enc = (l.take i).map enc ++ enc l[i] :: (l.drop (i + 1)).map enc := by
    rw [← List.map_cons, ← List.map_append]; simp
  have e' : (l.set i x).map enc = (l.take i).map enc ++ enc x :: (l.drop (i + 1)).map enc := by
    rw [List.set_eq_take_append_cons_drop, if_pos h, List.map_append, List.map_cons]
  have h1 := Upd.cat ((l.take i).map enc) (enc l[i]) (enc x) ((l.drop (i + 1)).map enc ++ [rs]) (o := i * s) (by rw [szs_map hs, List.length_take, Nat.min_eq_left (by omega)]) (by rw [hs, hs])
  unfold Upd at h1
  have e2 : ∀ q : Array Value, catA ((l.take i).map enc ++ q :: ((l.drop (i + 1)).map enc ++ [rs])) = catA ((l.take i).map enc ++ q :: (l.drop (i + 1)).map enc) ++ rs := fun q => by
    rw [show (l.take i).map enc ++ q :: ((l.drop (i + 1)).map enc ++ [rs]) = ((l.take i).map enc ++ q :: (l.drop (i + 1)).map enc) ++ [rs] by simp, catA_append]
    congr 1
    simp [catA]
  rw [e2, e2, ← e, ← e'] at h1
  exact h1
theorem pre_at (hs : ∀ x, (enc x).size = s) {i : Nat} (h : i ≤ l.length) : (catA (l.map enc) ++ rs).extract 0 (i * s) = catA ((l.take i).map enc) := by
  have e : l.map enc = (l.take i).map enc ++ (l.drop i).map enc := by rw [← List.map_append, List.take_append_drop]
  rw [e, catA_append, Array.append_assoc]
  have hz : (catA ((l.take i).map enc)).size = i * s := by rw [catA_list_size hs, List.length_take, Nat.min_eq_left h]
  rw [← hz, Array.extract_append_left]
  simp
end

def slB (P : Program) (t : TypeId) : Bool := (elemB P t).isSome
def zerosOf (z : Array Value) (n : Nat) : Array Value := Builtin.zeroCells z n
theorem zeros_size (z : Array Value) (n : Nat) : (zerosOf z n).size = n * z.size := by simp [zerosOf, Builtin.zeroCells]

section
variable {P : Program} {w0 : World} {mods : List Nat} {n : Nat} {m : HF} {e : Env} {Q : Exit → Act → World → Prop} {ops : Array Oper} {rest : List Oper} {d : Nat} {t : TypeId} {p : String} {af : Array Edge}

theorem Mem.one {key : Option Nat} {o : Obj} {w : World} (h : ∀ b, key = some b → w.heap[b]? = some o) : Mem [(key, o)] w := by
  intro b o' hb
  simp only [List.mem_singleton, Prod.mk.injEq] at hb
  obtain ⟨h1, rfl⟩ := hb
  exact h b h1.symm
theorem own_one {key : Option Nat} {o : Obj} : ∀ b o', (some b, o') ∈ [(key, o)] → b ∈ key.toList := by
  intro b o' hb
  simp only [List.mem_singleton, Prod.mk.injEq] at hb
  simp [← hb.1]
theorem args1 (v : Value) (cb : Array Value) : #[] ++ [v].toArray ++ cb = #[v] ++ cb := by simp
theorem args2 (u v : Value) (cb : Array Value) : #[] ++ [u, v].toArray ++ cb = #[u, v] ++ cb := by simp
theorem le_of {n m k : Nat} (h : m = k) (h2 : n ≤ k) : n ≤ m := h ▸ h2
theorem zero_ones {x : Array Value} (h : Ones x) : Ones (Value.agg x).cells := h

/-- Under a guard that says yes an operation is as without one. -/
theorem St.gd {j : Nat} {bo : Bool} {dd : Option Nat} {op : Op} (hg : gval ops e j = some bo) (h : St w0 mods n m e (wpList P ops Q (⟨dd, op, t, p, af, none⟩ :: rest))) :
    St w0 mods n m e (wpList P ops Q (⟨dd, op, t, p, af, some (j, bo)⟩ :: rest)) := fun a w hs => by
  have h1 := h a w hs
  unfold wpList at h1 ⊢
  rw [if_pos (by simp [Region.wanted])] at h1
  rw [if_pos (by simp [Region.wanted, hs.yield hg])]
  exact h1

/-- A map is made. -/
theorem St.mkm {mt : TypeId} (hd : d < n) (k : ∀ b, w0.heap.size ≤ b → St w0 mods n ((some b, .map #[] 0) :: m) ((d, .map (some b)) :: e) (wpList P ops Q rest)) :
    St w0 mods n m e (wpList P ops Q (⟨some d, .makeMap mt none, t, p, af, none⟩ :: rest)) := fun a w hs' =>
  wpList_plain rfl fun K hK => by
    have hr : (execOp a.eval ⟨some d, .makeMap mt none, t, p, af, none⟩).run P w = .ok (.value (.map (some w.heap.size))) (w.alloc (.map #[] 0)) := by
      simp [execOp, Instr.makeMap]
    unfold Oper.wp
    rw [hr]
    exact hK _ _ (k _ hs'.fr.size _ _ ((hs'.alloc _).put hd _))

/-- A slice that is nil takes no block. -/
theorem St.non {o : Obj} {X : Act → World → Prop} (h : St w0 mods n ((none, o) :: m) e X) : St w0 mods n m e X := fun a w hs =>
  h a w ⟨hs.tmps, hs.defers, hs.env, fun b o' hb => hs.mem b o' (by simpa using hb), List.pairwise_cons.2 ⟨fun q _ b hb => by simp at hb, hs.apart⟩, fun b o' hb => hs.own b o' (by simpa using hb), hs.fr⟩

/-- A slice of no element. -/
theorem St.bs0 {sT el : TypeId} {s : Nat} (hT : elemB P sT = some el) (hs : sizeB P el = some s) (hd : d < n)
    (k : ∀ b, w0.heap.size ≤ b → St w0 mods n ((some b, .cells #[] el (0, 0)) :: m) ((d, .slice (some ⟨b, 0, none⟩) 0 0) :: e) (wpList P ops Q rest)) :
    St w0 mods n m e (wpList P ops Q (⟨some d, .buildSlice sT 0 [].toArray, t, p, af, none⟩ :: rest)) := fun a w hs' =>
  wpList_plain rfl fun K hK => by
    have hr : (execOp a.eval ⟨some d, .buildSlice sT 0 [].toArray, t, p, af, none⟩).run P w = .ok (.value (.slice (some ⟨w.heap.size, 0, none⟩) 0 0)) (w.alloc (.cells #[] el (0, 0))) := by
      simp [execOp, Instr.buildSlice, run_underlying' w (elemB_spec hT), run_sizeB w hs, Instr.fill, newRow, show (Array.range 0) = #[] from rfl]
    unfold Oper.wp
    rw [hr]
    exact hK _ _ (k _ hs'.fr.size _ _ ((hs'.alloc _).put hd _))

/-- A slice of some elements. -/
theorem St.bsL {sT el : TypeId} {s len : Nat} {ps : List (Nat × Operand)} {vs : List Value} {zv : Value} {c : Array Value} (hT : elemB P sT = some el) (hs : sizeB P el = some s) (hz : zeroB P el = some zv) (hps : evalP e ps = some (zipFrom 0 vs))
    (hl : vs.length = len) (hv : ∀ v ∈ vs, v.cells.size = s) (hc : catA (vs.map (·.cells)) = c) (hs0 : 0 < len * s) (hsm : len * s ≤ 16777216) (hd : d < n)
    (k : ∀ b, w0.heap.size ≤ b → St w0 mods n ((some b, .cells c el (0, 0)) :: m) ((d, .slice (some ⟨b, 0, none⟩) len len) :: e) (wpList P ops Q rest)) :
    St w0 mods n m e (wpList P ops Q (⟨some d, .buildSlice sT len ps.toArray, t, p, af, none⟩ :: rest)) := fun a w hs' =>
  wpList_plain rfl fun K hK => by
    subst hc
    have hfill : Instr.fill (fun i => some (i * s, s)) ((Array.range (len * s)).map (zv.cells[· % zv.cells.size]!)) (zipFrom 0 vs) = some (catA (vs.map (·.cells))) := by
      have := bld_list vs 0 #[] ((Array.range (len * s)).map (zv.cells[· % zv.cells.size]!)) hv (by simp) (by simp [hl])
      rw [Array.empty_append, Array.empty_append] at this
      exact fill_bld this
    have hps' : ps.map (fun (i, x) => (i, a.eval x)) = zipFrom 0 vs := evalP_map hs'.evals hps
    have hr : (execOp a.eval ⟨some d, .buildSlice sT len ps.toArray, t, p, af, none⟩).run P w = .ok (.value (.slice (some ⟨w.heap.size, 0, none⟩) len len)) (w.alloc (.cells (catA (vs.map (·.cells))) el (0, 0))) := by
      have h1 : ¬ (len * s > 2 ^ 24) := by omega
      have h2 : ¬ (len * s = 0) := by omega
      simp only [execOp, Instr.buildSlice, List.map_toArray, hps', Sem.run_bind, run_underlying' w (elemB_spec hT), run_sizeB w hs, Result.andThen, h1, h2, if_false, run_zeroB w hz, Sem.run_pure, hfill, newRow, run_newObj, World.alloc_eq]
    unfold Oper.wp
    rw [hr]
    exact hK _ _ (k _ hs'.fr.size _ _ ((hs'.alloc _).put hd _))

/-- clear on a slice of one's own -/
theorem St.clear {x : Operand} {sT el U : TypeId} {b o l c : Nat} {cs : Array Value} {zv : Value} (i : Nat) (hk : m[i]? = some (some b, .cells cs U (0, 0))) (hx : evalE e x = some (.slice (some ⟨b, o, none⟩) l c)) (hT : elemB P sT = some el) (hz : zeroB P el = some zv)
    (hone : Ones zv.cells) (hfit : o + l * zv.cells.size ≤ cs.size) (hpos : 0 < zv.cells.size)
    (k : St w0 mods n (m.set i (some b, .cells (putAt cs o (zerosOf zv.cells l)) U (0, 0))) e (wpList P ops Q rest)) :
    St w0 mods n m e (wpList P ops Q (⟨none, .call ⟨.builtin .clear, [x].toArray, [sT].toArray⟩, t, p, af, none⟩ :: rest)) := fun a w hs' =>
  wpList_plain rfl fun K hK => by
    have hb := hs'.mem b _ (List.mem_of_getElem? hk)
    have h1 : Ones (zerosOf zv.cells l) := by
      intro u hu
      simp only [zerosOf, Builtin.zeroCells, Array.toList_map, List.mem_map] at hu
      obtain ⟨j, _, rfl⟩ := hu
      have hj : j % zv.cells.size < zv.cells.size := Nat.mod_lt _ hpos
      rw [getElem!_pos zv.cells _ hj]
      exact hone _ (by simp)
    have hst := storeCells_step (P := P) (b := b) (T := U) o (zerosOf zv.cells l).toList 0 cs w hb (by rw [Array.length_toList, zeros_size]; omega) h1
    have hr : (execOp a.eval ⟨none, .call ⟨.builtin .clear, [x].toArray, [sT].toArray⟩, t, p, af, none⟩).run P w = .ok (.value (.tuple #[])) (setB w b (.cells (putAt cs o (zerosOf zv.cells l)) U (0, 0))) := by
      by_cases hl : l = 0
      · subst hl
        have e0 : putAt cs o (zerosOf zv.cells 0) = cs := by
          have hz0 : zerosOf zv.cells 0 = #[] := Array.eq_empty_of_size_eq_zero (by rw [zeros_size]; simp)
          rw [hz0]
          apply Array.ext'
          simp only [putAt, Array.toList_append, Array.toList_extract, List.extract, List.drop_zero, Nat.sub_zero, List.append_nil, Array.size_empty, Nat.add_zero]
          rw [show (cs.toList.drop o).take (cs.size - o) = cs.toList.drop o from List.take_of_length_le (by simp)]
          simp
        have e1 : setB w b (.cells cs U (0, 0)) = w := by
          unfold setB
          have : w.heap.setIfInBounds b (.cells cs U (0, 0)) = w.heap := by
            apply Array.ext_getElem?
            intro j
            rw [Array.getElem?_setIfInBounds]
            by_cases hj : b = j
            · subst hj; rw [if_pos rfl, if_pos (lt_of_heap hb), hb]
            · rw [if_neg hj]
          rw [this]
        rw [e0, e1]
        simp [execOp, resolve, invoke, builtin, hs'.eval hx, Builtin.clear_, run_underlying' w (elemB_spec hT)]
      · obtain ⟨l', rfl⟩ : ∃ l', l = l' + 1 := ⟨l - 1, by omega⟩
        simp only [Nat.add_zero, Array.length_toList] at hst
        simp only [execOp, resolve, invoke, builtin, List.map_toArray, List.map_cons, List.map_nil, hs'.eval hx]
        simp [Builtin.clear_, run_underlying' w (elemB_spec hT), run_zeroB w hz, ← zerosOf.eq_1, hst, putAt]
    unfold Oper.wp
    rw [hr]
    exact hK _ _ (k _ _ (hs'.setB hk _))

/-- a slice against nil -/
theorem run_eqSl (w : World) {T el : TypeId} (hT : elemB P T = some el) (a : Option Addr) (l c : Nat) (dp : Nat) : (Op.equalIn (dp + 1) T (.slice a l c) (.slice none 0 0)).run P w = .ok a.isNone w := by
  unfold Op.equalIn
  cases a <;> simp [run_underlying' w (elemB_spec hT)]
variable {dd : Option Nat} {g : Option (Nat × Bool)} {x y : Operand} {T U el : TypeId} {a : Option Addr} {l c : Nat}
theorem run_eqGuard_sl (w : World) (op : BinOp) (a b : Option Addr) (l c l' c' : Nat) : (eqGuard op T x y (.slice a l c) (.slice b l' c')).run P w = .ok () w := by cases op <;> rfl
theorem run_sl (w : World) (T : TypeId) (u v : Value) (a b : Option Addr) (l c l' c' : Nat) (hu : u = .slice a l c) (hv : v = .slice b l' c') (r : Bool) (h : (Op.equalIn 10000 T u v).run P w = .ok r w) : (binOp .eql T u v).run P w = .ok (.bool r) w ∧ (binOp .neq T u v).run P w = .ok (.bool (!r)) w := by
  subst hu hv
  constructor
  · show (do pure (Value.bool (← Op.equalIn 10000 T _ _)) : Sem Value).run P w = _
    rw [Sem.run_bind, h]; rfl
  · show (do pure (Value.bool (!(← Op.equalIn 10000 T _ _))) : Sem Value).run P w = _
    rw [Sem.run_bind, h]; rfl
theorem Val.eqSl (hT : elemB P T = some el) (hx : evalE e x = some (.slice a l c)) (hy : evalE e y = some (.slice none 0 0)) : Val P w0 mods m e ⟨dd, .binOp .eql T x y U, t, p, af, g⟩ (.bool a.isNone) := fun ρ w hρ _ _ => by
  have h := run_sl w T _ _ _ _ _ _ _ _ rfl rfl _ (run_eqSl w hT a l c 9999)
  simp only [execOp, hρ _ _ hx, hρ _ _ hy, Sem.run_bind, run_eqGuard_sl, Sem.run_pure, Result.andThen, h.1]
theorem Val.neSl (hT : elemB P T = some el) (hx : evalE e x = some (.slice a l c)) (hy : evalE e y = some (.slice none 0 0)) : Val P w0 mods m e ⟨dd, .binOp .neq T x y U, t, p, af, g⟩ (.bool (!a.isNone)) := fun ρ w hρ _ _ => by
  have h := run_sl w T _ _ _ _ _ _ _ _ rfl rfl _ (run_eqSl w hT a l c 9999)
  simp only [execOp, hρ _ _ hx, hρ _ _ hy, Sem.run_bind, run_eqGuard_sl, Sem.run_pure, Result.andThen, h.2]
end
end Go.Fx
