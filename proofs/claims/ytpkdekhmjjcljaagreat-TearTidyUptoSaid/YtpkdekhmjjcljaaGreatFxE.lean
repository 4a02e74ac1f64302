/- '==' and '!=' on values of several parts. -/
import Derived.Test.YtpkdekhmjjcljaaGreatFxF
import Derived.Test.YtpkdekhmjjcljaaGreatFxR
import Derived.Laws.StructEq
import Derived.ChangeKeysEq
namespace Go.Fx

def EqV (P : Program) (k : Nat) (T : TypeId) (x y : Value) (r : Bool) : Prop := ∀ d w, (Op.equalIn (d + k) T x y).run P w = .ok r w

section
variable {P : Program}

theorem EqV.up {k k' : Nat} {T : TypeId} {x y : Value} {r : Bool} (h : EqV P k T x y r) (hk : k ≤ k') : EqV P k' T x y r := fun d w => by
  have := h (d + (k' - k)) w
  rwa [show d + (k' - k) + k = d + k' by omega] at this

theorem EqV.int {T : TypeId} {k : IntKind} (hT : intB P T = some k) (a b : Int) : EqV P 1 T (.int k a) (.int k b) (decide (a = b)) := fun d w => by
  rw [run_equalIn_int w d T k k a b (intB_spec hT)]; rfl
def boolB (P : Program) (t : TypeId) : Bool := match P.underlying t with
  | some .bool => true
  | _ => false
theorem EqV.bool {T : TypeId} (hT : boolB P T = true) (a b : Bool) : EqV P 1 T (.bool a) (.bool b) (decide (a = b)) := fun d w => by
  have hu : P.underlying T = some .bool := by
    unfold boolB at hT; split at hT
    · rename_i h; exact h
    · cases hT
  rw [run_equalIn_bool' w d T a b hu]; cases a <;> cases b <;> rfl

/-- the items of an array of numbers -/
theorem run_eqItems_int {el : TypeId} {k : IntKind} (d : Nat) (w : World) (hel : intB P el = some k) (hag : isAggB P el = some false) (f g : Nat → Int) (xs ys : Array Value) :
    ∀ is : List Nat, (∀ i ∈ is, xs[i]? = some (.int k (f i))) → (∀ i ∈ is, ys[i]? = some (.int k (g i))) → (Op.eqItems (d + 1) el 1 xs ys is).run P w = .ok (is.all fun i => decide (f i = g i)) w
  | [], _, _ => rfl
  | i :: is, hx, hy => by
    have h1 := run_part1 w hag (off := i) (hx i (by simp))
    have h2 := run_part1 w hag (off := i) (hy i (by simp))
    have h3 := EqV.int hel (f i) (g i) d w
    have ih := run_eqItems_int d w hel hag f g xs ys is (fun j hj => hx j (by simp [hj])) (fun j hj => hy j (by simp [hj]))
    simp only [Op.eqItems, Sem.run_bind, Nat.mul_one, h1, h2, h3, Result.andThen, List.all_cons]
    cases decide (f i = g i)
    · rfl
    · exact ih

theorem EqV.arr {T el : TypeId} {n : Nat} {k : IntKind} (hT : arrB P T = some (n, el)) (hel : intB P el = some k) (hag : isAggB P el = some false) (hs : sizeB P el = some 1) (f g : Nat → Int) (xs ys : Array Value)
    (hx : ∀ i, i < n → xs[i]? = some (.int k (f i))) (hy : ∀ i, i < n → ys[i]? = some (.int k (g i))) : EqV P 2 T (.agg xs) (.agg ys) ((List.range n).all fun i => decide (f i = g i)) := fun d w => by
  have hi : ∃ i, P.info? el = some i ∧ i.size = 1 := by
    unfold sizeB at hs
    cases h : P.info? el with
    | none => simp [h] at hs
    | some i => simp [h] at hs; exact ⟨i, rfl, hs⟩
  obtain ⟨i, hi, hsz⟩ := hi
  have hc : P.cellsOf el = 1 := by simp [Program.cellsOf, hi, hsz]
  rw [show d + 2 = (d + 1) + 1 from rfl, run_equalIn_array w (d + 1) xs ys (arrB_spec hT) hi, hc]
  exact run_eqItems_int d w hel hag f g xs ys _ (fun i h => hx i (List.mem_range.1 h)) (fun i h => hy i (List.mem_range.1 h))

theorem EqV.idn {T el : TypeId} (hT : arrB P T = some (16, el)) (hel : intB P el = some .u8) (hag : isAggB P el = some false) (hs : sizeB P el = some 1) (x y : Idn) : EqV P 2 T (.agg x.enc) (.agg y.enc) (decide (x = y)) := by
  have h := EqV.arr hT hel hag hs (fun i => (byteAt x.n i : Nat)) (fun i => (byteAt y.n i : Nat)) x.enc y.enc (fun i h => Idn.get x h) (fun i h => Idn.get y h)
  have : ((List.range 16).all fun i => decide (((byteAt x.n i : Nat) : Int) = ((byteAt y.n i : Nat) : Int))) = decide (x = y) := by
    rw [Bool.eq_iff_iff, List.all_eq_true, decide_eq_true_iff]
    constructor
    · intro h
      apply Idn.enc_inj
      apply Array.ext'
      simp only [Idn.enc]
      rw [List.map_inj_left]
      intro i hi
      have := of_decide_eq_true (h i hi)
      rw [this]
    · rintro rfl i _; simp
  rw [← this]; exact h

/-- the fields, by place and type; none is blank -/
def fieldsB (P : Program) (t : TypeId) : Option (List (Nat × TypeId)) := match P.underlying t with
  | some (.struct fs) => if fs.toList.all (fun f => f.name != "_") && !P.stoodInHeld t then some (fs.toList.map fun f => (f.offset, f.type)) else none
  | _ => none

inductive EqF (P : Program) (k : Nat) (xs ys : Array Value) : List (Nat × TypeId) → Bool → Prop
  | nil : EqF P k xs ys [] true
  | one {o : Nat} {T : TypeId} {fs : List (Nat × TypeId)} {a b : Value} {r r' : Bool} (ha : isAggB P T = some false) (h1 : xs[o]? = some a) (h2 : ys[o]? = some b) (h : EqV P k T a b r) (hr : EqF P k xs ys fs r') : EqF P k xs ys ((o, T) :: fs) (r && r')
  | agg {o s : Nat} {T : TypeId} {fs : List (Nat × TypeId)} {p q : Array Value} {r r' : Bool} (ha : isAggB P T = some true) (hs : sizeB P T = some s) (h1 : Sel xs o s p) (h2 : Sel ys o s q) (h : EqV P k T (.agg p) (.agg q) r) (hr : EqF P k xs ys fs r') : EqF P k xs ys ((o, T) :: fs) (r && r')

theorem run_eqFields {k d : Nat} {xs ys : Array Value} (w : World) {ps : List (Nat × TypeId)} {r : Bool} (h : EqF P k xs ys ps r) : ∀ fs : List Field, fs.all (fun f => f.name != "_") = true → fs.map (fun f => (f.offset, f.type)) = ps →
    (Op.eqFields (d + k) xs ys fs).run P w = .ok r w := by
  induction h with
  | nil => intro fs _ hm; simp only [List.map_eq_nil_iff] at hm; subst hm; rfl
  | one ha h1 h2 hv hr ih =>
    intro fs hn hm
    cases fs with
    | nil => simp at hm
    | cons f fs =>
      simp only [List.map_cons, List.cons.injEq, Prod.mk.injEq] at hm
      obtain ⟨⟨rfl, rfl⟩, hm⟩ := hm
      simp only [List.all_cons, Bool.and_eq_true, bne_iff_ne, ne_eq] at hn
      simp only [Op.eqFields, ne_eq, hn.1, not_false_eq_true, if_true, Sem.run_bind, run_part1 w ha h1, run_part1 w ha h2, hv d w, Result.andThen]
      rename_i r1 r2
      cases r1
      · rfl
      · exact ih fs (by simpa using hn.2) hm
  | agg ha hs h1 h2 hv hr ih =>
    intro fs hn hm
    cases fs with
    | nil => simp at hm
    | cons f fs =>
      simp only [List.map_cons, List.cons.injEq, Prod.mk.injEq] at hm
      obtain ⟨⟨rfl, rfl⟩, hm⟩ := hm
      simp only [List.all_cons, Bool.and_eq_true, bne_iff_ne, ne_eq] at hn
      simp only [Op.eqFields, ne_eq, hn.1, not_false_eq_true, if_true, Sem.run_bind, run_partN w ha hs h1.2, run_partN w ha hs h2.2, hv d w, Result.andThen]
      rename_i r1 r2
      cases r1
      · rfl
      · exact ih fs (by simpa using hn.2) hm

theorem EqV.str {k : Nat} {T : TypeId} {xs ys : Array Value} {ps : List (Nat × TypeId)} {r : Bool} (hT : fieldsB P T = some ps) (h : EqF P k xs ys ps r) : EqV P (k + 1) T (.agg xs) (.agg ys) r := fun d w => by
  unfold fieldsB at hT
  split at hT
  · rename_i fs hu
    split at hT
    · rename_i hc
      simp only [Bool.and_eq_true, Bool.not_eq_true'] at hc
      simp only [Option.some.injEq] at hT
      have hf : P.fieldsOf T = fs := by simp [Program.fieldsOf, hu]
      rw [show d + (k + 1) = (d + k) + 1 from rfl, run_equalIn_struct w (d + k) T xs ys (by rw [hf]; exact hu) hc.2, hf]
      exact run_eqFields w h _ hc.1 hT
    · cases hT
  · cases hT
end

section
variable {P : Program} {w0 : World} {mods : List Nat} {n : Nat} {m : HF} {e : Env} {t : TypeId} {p : String} {af : Array Edge} {d : Option Nat} {g : Option (Nat × Bool)} {x y : Operand} {T U : TypeId} {xs ys : Array Value} {r : Bool} {k : Nat}
theorem Val.eqA (h : EqV P k T (.agg xs) (.agg ys) r) (hg : P.eqGuardType P.depth T = false) (hx : evalE e x = some (.agg xs)) (hy : evalE e y = some (.agg ys)) (hk : k ≤ 10000) :
    Val P w0 mods m e ⟨d, .binOp .eql T x y U, t, p, af, g⟩ (.bool r) := fun ρ w hρ _ _ => by
  have := h (10000 - k) w
  rw [show 10000 - k + k = 10000 by omega] at this
  simp only [execOp, hρ _ _ hx, hρ _ _ hy, Sem.run_bind, run_eqGuard_agg w .eql T x y xs ys hg, Result.andThen, run_eql_struct, this, Sem.run_pure]
theorem Val.neA (h : EqV P k T (.agg xs) (.agg ys) r) (hg : P.eqGuardType P.depth T = false) (hx : evalE e x = some (.agg xs)) (hy : evalE e y = some (.agg ys)) (hk : k ≤ 10000) :
    Val P w0 mods m e ⟨d, .binOp .neq T x y U, t, p, af, g⟩ (.bool (!r)) := fun ρ w hρ _ _ => by
  have := h (10000 - k) w
  rw [show 10000 - k + k = 10000 by omega] at this
  simp only [execOp, hρ _ _ hx, hρ _ _ hy, Sem.run_bind, run_eqGuard_agg w .neq T x y xs ys hg, Result.andThen, run_neq_struct, this, Sem.run_pure]
end

def ptrB (P : Program) (t : TypeId) : Bool := match P.underlying t with
  | some (.pointer _) => true
  | _ => false
section
variable {P : Program}
theorem EqV.ptr {T : TypeId} (hT : ptrB P T = true) (a b : Option Addr) (h : a = none ∨ b = none) : EqV P 1 T (.pointer a) (.pointer b) (a.isNone && b.isNone) := fun d w => by
  unfold ptrB at hT
  split at hT
  · rename_i el hu
    unfold Op.equalIn
    rcases h with rfl | rfl
    · simp [run_underlying' w hu]
    · cases a <;> simp [run_underlying' w hu]
  · cases hT
theorem run_ptr (w : World) (T : TypeId) (a b : Option Addr) (r : Bool) (h : (Op.equalIn 10000 T (.pointer a) (.pointer b)).run P w = .ok r w) : (binOp .eql T (.pointer a) (.pointer b)).run P w = .ok (.bool r) w ∧ (binOp .neq T (.pointer a) (.pointer b)).run P w = .ok (.bool (!r)) w := by
  constructor
  · show (do pure (Value.bool (← Op.equalIn 10000 T (.pointer a) (.pointer b))) : Sem Value).run P w = _
    rw [Sem.run_bind, h]; rfl
  · show (do pure (Value.bool (!(← Op.equalIn 10000 T (.pointer a) (.pointer b)))) : Sem Value).run P w = _
    rw [Sem.run_bind, h]; rfl
variable {w0 : World} {mods : List Nat} {n : Nat} {m : HF} {e : Env} {t : TypeId} {p : String} {af : Array Edge} {d : Option Nat} {g : Option (Nat × Bool)} {x y : Operand} {T U : TypeId}
theorem run_eqGuard_ptr (w : World) (op : BinOp) (a b : Option Addr) : (eqGuard op T x y (.pointer a) (.pointer b)).run P w = .ok () w := by cases op <;> rfl
/-- a pointer against nil -/
theorem Val.eqPtr {a b : Option Addr} (hT : ptrB P T = true) (hx : evalE e x = some (.pointer a)) (hy : evalE e y = some (.pointer b)) (hn : a = none ∨ b = none) : Val P w0 mods m e ⟨d, .binOp .eql T x y U, t, p, af, g⟩ (.bool (a.isNone && b.isNone)) := fun ρ w hρ _ _ => by
  have h := run_ptr w T a b _ (EqV.ptr hT a b hn 9999 w)
  simp only [execOp, hρ _ _ hx, hρ _ _ hy, Sem.run_bind, run_eqGuard_ptr, Sem.run_pure, Result.andThen, h.1]
theorem Val.nePtr {a b : Option Addr} (hT : ptrB P T = true) (hx : evalE e x = some (.pointer a)) (hy : evalE e y = some (.pointer b)) (hn : a = none ∨ b = none) : Val P w0 mods m e ⟨d, .binOp .neq T x y U, t, p, af, g⟩ (.bool !(a.isNone && b.isNone)) := fun ρ w hρ _ _ => by
  have h := run_ptr w T a b _ (EqV.ptr hT a b hn 9999 w)
  simp only [execOp, hρ _ _ hx, hρ _ _ hy, Sem.run_bind, run_eqGuard_ptr, Sem.run_pure, Result.andThen, h.2]
end
end Go.Fx
