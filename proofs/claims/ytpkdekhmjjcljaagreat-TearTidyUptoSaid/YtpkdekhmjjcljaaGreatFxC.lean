/- The rules of a walk: code, regions in the order of the text, single operations. -/
import Derived.Test.YtpkdekhmjjcljaaGreatFxB
import Derived.IntWalk
import Derived.Deep.LoopGhost
namespace Go.Fx

section code
variable {P : Program} {w0 : World} {mods : List Nat} {n : Nat} {m : HF} {e : Env} {Q : Exit → Act → World → Prop} {K : Act → World → Prop}

theorem St.seq {x y : Code} (h : St w0 mods n m e (x.wp P (Exit.then (y.wp P Q) Q))) : St w0 mods n m e ((Code.seq x y).wp P Q) := fun a w hs => wp_seq (h a w hs)
theorem St.block {id : Nat} {c : Code} (h : St w0 mods n m e (c.wp P (Exit.inBlock id Q))) : St w0 mods n m e ((Code.block id c).wp P Q) := fun a w hs => wp_block (h a w hs)
theorem St.skip (h : St w0 mods n m e (Q .normal)) : St w0 mods n m e (Code.skip.wp P Q) := fun a w hs => wp_skip (h a w hs)
theorem St.exit {id : Nat} (h : St w0 mods n m e (Q (.exit id))) : St w0 mods n m e ((Code.exit id).wp P Q) := fun a w hs => wp_exit (h a w hs)
theorem St.ret (h : St w0 mods n m e (Q .ret)) : St w0 mods n m e (Code.ret.wp P Q) := fun a w hs => wp_ret (h a w hs)
theorem St.cond {c : Operand} {x y : Code} {t : Bool} (hc : evalE e c = some (.bool t)) (ht : t = true → St w0 mods n m e (x.wp P Q)) (hf : t = false → St w0 mods n m e (y.wp P Q)) :
    St w0 mods n m e ((Code.cond c x y).wp P Q) := fun a w hs => wp_cond_split (hs.eval hc) (fun h => ht h a w hs) (fun h => hf h a w hs)
theorem St.cond_t {c : Operand} {x y : Code} (hc : evalE e c = some (.bool true)) (h : St w0 mods n m e (x.wp P Q)) : St w0 mods n m e ((Code.cond c x y).wp P Q) :=
  fun a w hs => wp_cond_true (hs.eval hc) (h a w hs)
theorem St.cond_f {c : Operand} {x y : Code} (hc : evalE e c = some (.bool false)) (h : St w0 mods n m e (y.wp P Q)) : St w0 mods n m e ((Code.cond c x y).wp P Q) :=
  fun a w hs => wp_cond_false (hs.eval hc) (h a w hs)
theorem St.region {id : Nat} {l : List Oper} (h : St w0 mods n m e (wpList P l.toArray Q l)) : St w0 mods n m e ((Code.region id l.toArray false).wp P Q) := fun a w hs => wp_region_lit (h a w hs)
theorem St.nil {ops : Array Oper} (h : St w0 mods n m e (Q .normal)) : St w0 mods n m e (wpList P ops Q []) := fun a w hs => wpList_nil (h a w hs)

theorem St.then_n (h : St w0 mods n m e K) : St w0 mods n m e (Exit.then K Q .normal) := h
theorem St.then_x {id : Nat} (h : St w0 mods n m e (Q (.exit id))) : St w0 mods n m e (Exit.then K Q (.exit id)) := h
theorem St.then_r (h : St w0 mods n m e (Q .ret)) : St w0 mods n m e (Exit.then K Q .ret) := h
theorem St.blk_n {id : Nat} (h : St w0 mods n m e (Q .normal)) : St w0 mods n m e (Exit.inBlock id Q .normal) := h
theorem St.blk_r {id : Nat} (h : St w0 mods n m e (Q .ret)) : St w0 mods n m e (Exit.inBlock id Q .ret) := h
theorem St.blk_x {id : Nat} (h : St w0 mods n m e (Q .normal)) : St w0 mods n m e (Exit.inBlock id Q (.exit id)) := fun a w hs => by
  simp only [Exit.inBlock, if_true]; exact h a w hs
theorem St.blk_y {id id' : Nat} (hne : id' ≠ id) (h : St w0 mods n m e (Q (.exit id'))) : St w0 mods n m e (Exit.inBlock id Q (.exit id')) := fun a w hs => by
  simp only [Exit.inBlock, if_neg hne]; exact h a w hs

/-- Ways that meet again. -/
theorem St.cut {c : Code} {G : Type} (M : G → HF) (E : G → Env) (h1 : St w0 mods n m e (c.wp P (Exit.then (fun a w => ∃ g, Sat w0 mods n (M g) (E g) a w) Q))) (h2 : ∀ g, St w0 mods n (M g) (E g) K) :
    St w0 mods n m e (c.wp P (Exit.then K Q)) := fun a w hs => wp_mono (h1 a w hs) fun x a' w' hq => by
  cases x with
  | normal => obtain ⟨g, hg⟩ := hq; exact h2 g a' w' hg
  | _ => exact hq

/-- A loop. -/
theorem St.loop {c : Code} {G : Type} (I : G → Prop) (M : G → HF) (E : G → Env) (μ : G → Nat) (g0 : G) (hI : I g0) (hm : (M g0).Sublist m) (he : subEnv (E g0) e)
    (h : ∀ g, I g → St w0 mods n (M g) (E g) (c.wp P (Exit.then (fun a w => ∃ g', I g' ∧ μ g' < μ g ∧ Sat w0 mods n (M g') (E g') a w) Q))) :
    St w0 mods n m e ((Code.loop c).wp P Q) := fun a w hs =>
  wp_loop_ghost (fun k a w => ∃ g, μ g = k ∧ I g ∧ Sat w0 mods n (M g) (E g) a w) (μ g0) ⟨g0, rfl, hI, hs.sub hm he⟩ fun k a' w' ⟨g, hk, hg, hs'⟩ =>
    wp_mono (h g hg a' w' hs') fun x a2 w2 hq => by
      cases x with
      | normal => obtain ⟨g', h1, h2, h3⟩ := hq; exact ⟨μ g', by omega, g', rfl, h1, h3⟩
      | _ => exact hq

theorem St.again {G : Type} {I : G → Prop} {M : G → HF} {E : G → Env} {μ : G → Nat} {k : Nat} (g : G) (hI : I g) (hμ : μ g < k) (hm : (M g).Sublist m) (he : subEnv (E g) e) :
    St w0 mods n m e (fun a w => ∃ g', I g' ∧ μ g' < k ∧ Sat w0 mods n (M g') (E g') a w) := fun _ _ hs => ⟨g, hI, hμ, hs.sub hm he⟩
theorem St.join {G : Type} {M : G → HF} {E : G → Env} (g : G) (hm : (M g).Sublist m) (he : subEnv (E g) e) :
    St w0 mods n m e (fun a w => ∃ g, Sat w0 mods n (M g) (E g) a w) := fun _ _ hs => ⟨g, hs.sub hm he⟩
end code

theorem w64 {z : Int} (h : -9223372036854775808 ≤ z) (h' : z ≤ 9223372036854775807) : IntKind.i64.wrap z = z := IntWalk.i64_in _ ⟨h, h'⟩

theorem wu8 {z : Int} (h : 0 ≤ z) (h' : z ≤ 255) : IntKind.u8.wrap z = z := IntWalk.u8_in _ ⟨h, h'⟩
theorem wu64 {z : Int} (h : 0 ≤ z) (h' : z ≤ 18446744073709551615) : IntKind.u64.wrap z = z := IntWalk.u64_in _ ⟨h, h'⟩

theorem tmodN (a b : Nat) : ((a : Nat) : Int).tmod ((b : Nat) : Int) = ((a % b : Nat) : Int) := rfl
theorem tdivN (a b : Nat) : ((a : Nat) : Int).tdiv ((b : Nat) : Int) = ((a / b : Nat) : Int) := rfl
/-- An operation yields this value and leaves the world alone. -/
def Val (P : Program) (w0 : World) (mods : List Nat) (m : HF) (e : Env) (o : Oper) (v : Value) : Prop :=
  ∀ (ρ : Operand → Value) (w : World), (∀ x u, evalE e x = some u → ρ x = u) → Mem m w → Fr mods w0 w → (execOp ρ o).run P w = .ok (.value v) w

/-- A slot that holds a truth value: both ways. -/
theorem St.splitb {w0 : World} {mods : List Nat} {n : Nat} {m : HF} {e : Env} {X : Act → World → Prop} (t : Nat) {b : Bool} (h : look e t = some (.bool b))
    (ht : b = true → St w0 mods n m ((t, .bool true) :: e) X) (hf : b = false → St w0 mods n m ((t, .bool false) :: e) X) : St w0 mods n m e X := fun a w hs => by
  cases b
  · exact hf rfl a w (hs.sub (.refl _) (subEnv.cons h subEnv.refl))
  · exact ht rfl a w (hs.sub (.refl _) (subEnv.cons h subEnv.refl))

def gval (ops : Array Oper) (e : Env) (j : Nat) : Option Bool := match ((ops[j]?).bind (·.dst)).bind (look e) with
  | some (.bool b) => some b
  | _ => none

section ops
variable {P : Program} {w0 : World} {mods : List Nat} {n : Nat} {m : HF} {e : Env} {Q : Exit → Act → World → Prop} {ops : Array Oper} {rest : List Oper}
  {d : Nat} {op : Op} {t : TypeId} {p : String} {af : Array Edge} {v : Value}

theorem Sat.evals {a : Act} {w : World} (h : Sat w0 mods n m e a w) : ∀ x u, evalE e x = some u → a.eval x = u := fun _ _ hx => h.eval hx

theorem St.step (h : Val P w0 mods m e ⟨some d, op, t, p, af, none⟩ v) (hd : d < n) (k : St w0 mods n m ((d, v) :: e) (wpList P ops Q rest)) :
    St w0 mods n m e (wpList P ops Q (⟨some d, op, t, p, af, none⟩ :: rest)) := fun a w hs =>
  wpList_plain rfl fun K hK => by
    unfold Oper.wp
    rw [h a.eval w hs.evals hs.mem hs.fr]
    exact hK _ _ (k _ _ (hs.put hd v))

theorem Sat.yield {a : Act} {w : World} (h : Sat w0 mods n m e a w) {j : Nat} {b : Bool} (hg : gval ops e j = some b) : yielded ops a.tmps j = some b := by
  unfold gval at hg
  unfold yielded
  cases hd : (ops[j]?).bind (·.dst) with
  | none => simp [hd] at hg
  | some t =>
    simp only [hd, Option.bind_some] at hg ⊢
    cases hl : look e t with
    | none => simp [hl] at hg
    | some v =>
      rw [h.env t v hl]
      rw [hl] at hg
      exact hg

theorem St.stepg {j : Nat} {b : Bool} (hg : gval ops e j = some b) (h : Val P w0 mods m e ⟨some d, op, t, p, af, some (j, b)⟩ v) (hd : d < n) (k : St w0 mods n m ((d, v) :: e) (wpList P ops Q rest)) :
    St w0 mods n m e (wpList P ops Q (⟨some d, op, t, p, af, some (j, b)⟩ :: rest)) := fun a w hs =>
  wpList_step fun K hK => by
    rw [if_pos (by simp [Region.wanted, hs.yield hg])]
    unfold Oper.wp
    rw [h a.eval w hs.evals hs.mem hs.fr]
    exact hK _ _ (k _ _ (hs.put hd v))

/-- Its guard says no. -/
theorem St.pass {j : Nat} {b b' : Bool} (hg : gval ops e j = some b') (hne : (b' == b) = false) (hd : d < n) (k : St w0 mods n m ((d, undef) :: e) (wpList P ops Q rest)) :
    St w0 mods n m e (wpList P ops Q (⟨some d, op, t, p, af, some (j, b)⟩ :: rest)) := fun a w hs =>
  wpList_step fun K hK => by
    rw [if_neg (by simp only [Region.wanted, hs.yield hg]; cases b <;> cases b' <;> simp_all)]
    exact hK _ _ (k _ _ (hs.put hd undef))

theorem Val.mv {d : Option Nat} {g : Option (Nat × Bool)} {x : Operand} (hx : evalE e x = some v) : Val P w0 mods m e ⟨d, .move x, t, p, af, g⟩ v := fun ρ w hρ _ _ => by
  simp only [execOp, hρ _ _ hx]; rfl
theorem Val.as {d : Option Nat} {g : Option (Nat × Bool)} {x : Operand} (hx : evalE e x = some v) : Val P w0 mods m e ⟨d, .assign x, t, p, af, g⟩ v := fun ρ w hρ _ _ => by
  simp only [execOp, hρ _ _ hx]; rfl
theorem Val.pk_t {d : Option Nat} {g : Option (Nat × Bool)} {c x y : Operand} (hc : evalE e c = some (.bool true)) (hx : evalE e x = some v) : Val P w0 mods m e ⟨d, .pick c x y, t, p, af, g⟩ v := fun ρ w hρ _ _ => by
  simp [execOp, hρ _ _ hx, hρ _ _ hc, asBool]
theorem Val.pk_f {d : Option Nat} {g : Option (Nat × Bool)} {c x y : Operand} (hc : evalE e c = some (.bool false)) (hx : evalE e y = some v) : Val P w0 mods m e ⟨d, .pick c x y, t, p, af, g⟩ v := fun ρ w hρ _ _ => by
  simp [execOp, hρ _ _ hx, hρ _ _ hc, asBool]

/-! #### numbers -/
section
variable {d : Option Nat} {g : Option (Nat × Bool)} {x y : Operand} {T U : TypeId} {k : IntKind} {a b : Int}
theorem Val.add (hx : evalE e x = some (.int k a)) (hy : evalE e y = some (.int k b)) : Val P w0 mods m e ⟨d, .binOp .add T x y U, t, p, af, g⟩ (.int k (k.wrap (a + b))) := fun ρ w hρ _ _ => by
  simp [execOp, eqGuard, binOp, Op.intArith, hρ _ _ hx, hρ _ _ hy]
theorem Val.sub (hx : evalE e x = some (.int k a)) (hy : evalE e y = some (.int k b)) : Val P w0 mods m e ⟨d, .binOp .sub T x y U, t, p, af, g⟩ (.int k (k.wrap (a - b))) := fun ρ w hρ _ _ => by
  simp [execOp, eqGuard, binOp, Op.intArith, hρ _ _ hx, hρ _ _ hy]
theorem Val.mul (hx : evalE e x = some (.int k a)) (hy : evalE e y = some (.int k b)) : Val P w0 mods m e ⟨d, .binOp .mul T x y U, t, p, af, g⟩ (.int k (k.wrap (a * b))) := fun ρ w hρ _ _ => by
  simp [execOp, eqGuard, binOp, Op.intArith, hρ _ _ hx, hρ _ _ hy]
/-- a sum whose value is told -/
theorem Val.add' {c : Int} (hx : evalE e x = some (.int k a)) (hy : evalE e y = some (.int k b)) (hc : k.wrap (a + b) = c) : Val P w0 mods m e ⟨d, .binOp .add T x y U, t, p, af, g⟩ (.int k c) := hc ▸ Val.add hx hy
theorem Val.sub' {c : Int} (hx : evalE e x = some (.int k a)) (hy : evalE e y = some (.int k b)) (hc : k.wrap (a - b) = c) : Val P w0 mods m e ⟨d, .binOp .sub T x y U, t, p, af, g⟩ (.int k c) := hc ▸ Val.sub hx hy
theorem Val.mul' {c : Int} (hx : evalE e x = some (.int k a)) (hy : evalE e y = some (.int k b)) (hc : k.wrap (a * b) = c) : Val P w0 mods m e ⟨d, .binOp .mul T x y U, t, p, af, g⟩ (.int k c) := hc ▸ Val.mul hx hy
theorem Val.quo (hx : evalE e x = some (.int k a)) (hy : evalE e y = some (.int k b)) (hb : b ≠ 0) : Val P w0 mods m e ⟨d, .binOp .quo T x y U, t, p, af, g⟩ (.int k (k.wrap (a.tdiv b))) := fun ρ w hρ _ _ => by
  simp [execOp, eqGuard, binOp, Op.intDiv, hρ _ _ hx, hρ _ _ hy, hb]
theorem Val.rem (hx : evalE e x = some (.int k a)) (hy : evalE e y = some (.int k b)) (hb : b ≠ 0) : Val P w0 mods m e ⟨d, .binOp .rem T x y U, t, p, af, g⟩ (.int k (a.tmod b)) := fun ρ w hρ _ _ => by
  simp [execOp, eqGuard, binOp, Op.intDiv, hρ _ _ hx, hρ _ _ hy, hb]
theorem Val.quo' {c : Int} (hx : evalE e x = some (.int k a)) (hy : evalE e y = some (.int k b)) (hb : b ≠ 0) (hc : k.wrap (a.tdiv b) = c) : Val P w0 mods m e ⟨d, .binOp .quo T x y U, t, p, af, g⟩ (.int k c) := hc ▸ Val.quo hx hy hb
theorem Val.rem' {c : Int} (hx : evalE e x = some (.int k a)) (hy : evalE e y = some (.int k b)) (hb : b ≠ 0) (hc : a.tmod b = c) : Val P w0 mods m e ⟨d, .binOp .rem T x y U, t, p, af, g⟩ (.int k c) := hc ▸ Val.rem hx hy hb
theorem Val.lss (hx : evalE e x = some (.int k a)) (hy : evalE e y = some (.int k b)) : Val P w0 mods m e ⟨d, .binOp .lss T x y U, t, p, af, g⟩ (.bool (decide (a < b))) := fun ρ w hρ _ _ => by
  simp [execOp, eqGuard, binOp, Op.intCmp, hρ _ _ hx, hρ _ _ hy]
theorem Val.leq (hx : evalE e x = some (.int k a)) (hy : evalE e y = some (.int k b)) : Val P w0 mods m e ⟨d, .binOp .leq T x y U, t, p, af, g⟩ (.bool (decide (a ≤ b))) := fun ρ w hρ _ _ => by
  simp [execOp, eqGuard, binOp, Op.intCmp, hρ _ _ hx, hρ _ _ hy]
theorem Val.gtr (hx : evalE e x = some (.int k a)) (hy : evalE e y = some (.int k b)) : Val P w0 mods m e ⟨d, .binOp .gtr T x y U, t, p, af, g⟩ (.bool (decide (b < a))) := fun ρ w hρ _ _ => by
  simp [execOp, eqGuard, binOp, Op.intCmp, hρ _ _ hx, hρ _ _ hy]
theorem Val.geq (hx : evalE e x = some (.int k a)) (hy : evalE e y = some (.int k b)) : Val P w0 mods m e ⟨d, .binOp .geq T x y U, t, p, af, g⟩ (.bool (decide (b ≤ a))) := fun ρ w hρ _ _ => by
  simp [execOp, eqGuard, binOp, Op.intCmp, hρ _ _ hx, hρ _ _ hy]
theorem Val.eql (hx : evalE e x = some (.int k a)) (hy : evalE e y = some (.int k b)) : Val P w0 mods m e ⟨d, .binOp .eql T x y U, t, p, af, g⟩ (.bool (decide (a = b))) := fun ρ w hρ _ _ => by
  simp [execOp, eqGuard, binOp, Op.intCmp, hρ _ _ hx, hρ _ _ hy]; rfl
theorem Val.neq (hx : evalE e x = some (.int k a)) (hy : evalE e y = some (.int k b)) : Val P w0 mods m e ⟨d, .binOp .neq T x y U, t, p, af, g⟩ (.bool (!decide (a = b))) := fun ρ w hρ _ _ => by
  simp [execOp, eqGuard, binOp, Op.intCmp, hρ _ _ hx, hρ _ _ hy]; rfl
theorem Val.cv {S D : TypeId} {k' : IntKind} (hS : (P.underlying S).isSome = true) (hD : intB P D = some k) (hx : evalE e x = some (.int k' a)) : Val P w0 mods m e ⟨d, .convert S D x, t, p, af, g⟩ (.int k (k.wrap a)) := fun ρ w hρ _ _ => by
  obtain ⟨s, hs⟩ := Option.isSome_iff_exists.1 hS
  simp only [execOp, hρ _ _ hx, convert, Sem.run_bind, run_underlying' w hs, run_underlying' w (intB_spec hD), Result.andThen]
  cases s <;> simp [Conv.intToInt]
theorem Val.cv' {S D : TypeId} {k' : IntKind} {c : Int} (hS : (P.underlying S).isSome = true) (hD : intB P D = some k) (hx : evalE e x = some (.int k' a)) (hc : k.wrap a = c) : Val P w0 mods m e ⟨d, .convert S D x, t, p, af, g⟩ (.int k c) := hc ▸ Val.cv hS hD hx
theorem Val.not {b : Bool} (hx : evalE e x = some (.bool b)) : Val P w0 mods m e ⟨d, .unOp .not T x, t, p, af, g⟩ (.bool (!b)) := fun ρ w hρ _ _ => by
  simp [execOp, Op.unary, hρ _ _ hx]
theorem Val.neg (hx : evalE e x = some (.int k a)) : Val P w0 mods m e ⟨d, .unOp .neg T x, t, p, af, g⟩ (.int k (k.wrap (0 - a))) := fun ρ w hρ _ _ => by
  simp [execOp, Op.unary, Op.intArith, hρ _ _ hx]
end

/-! #### memory that is read -/
section
variable {d : Option Nat} {g : Option (Nat × Bool)} {x y : Operand} {T U el : TypeId} {b o off s : Nat} {c q : Array Value} {fr : Nat × Nat}
theorem Val.ld1 (hx : evalE e x = some (.pointer (some ⟨b, o, none⟩))) (hk : Kn w0 mods m b (.cells c U fr)) (ha : isAggB P T = some false) (hv : c[o]? = some v) : Val P w0 mods m e ⟨d, .load T x, t, p, af, g⟩ v := fun ρ w hρ hm hf => by
  simp [execOp, Instr.loadAt, Instr.sureAddr, hρ _ _ hx, run_loadVar1 (hk w hm hf) ha hv]
theorem Val.ldN (hx : evalE e x = some (.pointer (some ⟨b, o, none⟩))) (hk : Kn w0 mods m b (.cells c U fr)) (ha : isAggB P T = some true) (hs : sizeB P T = some s) (hsz : o + s ≤ c.size)
    (hq : c.extract o (o + s) = q) : Val P w0 mods m e ⟨d, .load T x, t, p, af, g⟩ (.agg q) := fun ρ w hρ hm hf => by
  simp [execOp, Instr.loadAt, Instr.sureAddr, hρ _ _ hx, run_loadVarN (hk w hm hf) ha hs hsz hq]
/-- the whole block -/
theorem Val.ldA (hx : evalE e x = some (.pointer (some ⟨b, 0, none⟩))) (hk : Kn w0 mods m b (.cells c U fr)) (ha : isAggB P T = some true) (hs : sizeB P T = some s) (hsz : c.size = s) :
    Val P w0 mods m e ⟨d, .load T x, t, p, af, g⟩ (.agg c) := Val.ldN hx hk ha hs (by omega) (by subst hsz; simp)
theorem Val.fa {i : Nat} (hx : evalE e x = some (.pointer (some ⟨b, o, none⟩))) (hf : fieldB P T i = some (off, U)) (hs : sizeB P U = some (s + 1)) : Val P w0 mods m e ⟨d, .fieldAddr T x i, t, p, af, g⟩ (.pointer (some ⟨b, o + off, none⟩)) := fun ρ w hρ _ _ => by
  obtain ⟨fs, f, h1, h2, h3, h4⟩ := fieldB_spec hf
  subst h3; subst h4
  simp [execOp, Instr.fieldAt, Instr.sureAddr, hρ _ _ hx, run_underlying' w h1, h2, fieldPlace, run_sizeB w hs, add_plain]
theorem Val.fd1 {i : Nat} (hx : evalE e x = some (.agg c)) (hf : fieldB P T i = some (off, U)) (ha : isAggB P U = some false) (hv : c[off]? = some v) : Val P w0 mods m e ⟨d, .field T x i, t, p, af, g⟩ v := fun ρ w hρ _ _ => by
  obtain ⟨fs, f, h1, h2, h3, h4⟩ := fieldB_spec hf
  subst h3; subst h4
  simp [execOp, Instr.field, asAgg, hρ _ _ hx, run_underlying' w h1, h2, run_part1 w ha hv]
theorem Val.fdN {i : Nat} (hx : evalE e x = some (.agg c)) (hf : fieldB P T i = some (off, U)) (ha : isAggB P U = some true) (hs : sizeB P U = some s) (hq : c.extract off (off + s) = q) :
    Val P w0 mods m e ⟨d, .field T x i, t, p, af, g⟩ (.agg q) := fun ρ w hρ _ _ => by
  obtain ⟨fs, f, h1, h2, h3, h4⟩ := fieldB_spec hf
  subst h3; subst h4
  simp [execOp, Instr.field, asAgg, hρ _ _ hx, run_underlying' w h1, h2, run_partN w ha hs hq]
theorem Val.nc {a : Addr} (hx : evalE e x = some (.pointer (some a))) : Val P w0 mods m e ⟨d, .nilCheck x, t, p, af, g⟩ (.pointer (some a)) := fun ρ w hρ _ _ => by
  simp [execOp, hρ _ _ hx]
/-- a part of a block -/
theorem Val.lds (hx : evalE e x = some (.pointer (some ⟨b, o, none⟩))) (hk : Kn w0 mods m b (.cells c U fr)) (ha : isAggB P T = some true) (hs : sizeB P T = some s)
    (hq : o + s ≤ c.size ∧ c.extract o (o + s) = q) : Val P w0 mods m e ⟨d, .load T x, t, p, af, g⟩ (.agg q) := Val.ldN hx hk ha hs hq.1 hq.2
/-- an element's address: of a slice -/
theorem Val.ix {k : IntKind} {len cap : Nat} {i : Int} (hx : evalE e x = some (.slice (some ⟨b, o, none⟩) len cap)) (hy : evalE e y = some (.int k i)) (hT : elemB P T = some el) (hs : sizeB P el = some s) (h0 : 0 ≤ i) (h1 : i < len) :
    Val P w0 mods m e ⟨d, .indexAddr T x y, t, p, af, g⟩ (.pointer (some ⟨b, o + i.toNat * s, none⟩)) := fun ρ w hρ _ _ => by
  simp [execOp, Instr.indexAt, asIntOf, hρ _ _ hx, hρ _ _ hy, run_underlying' w (elemB_spec hT), run_sizeB w hs, h0, h1, add_plain]
/-- of an array -/
theorem Val.ixa {k : IntKind} {len : Nat} {i : Int} (hx : evalE e x = some (.pointer (some ⟨b, o, none⟩))) (hy : evalE e y = some (.int k i)) (hT : arrB P T = some (len, el)) (hs : sizeB P el = some s) (h0 : 0 ≤ i) (h1 : i < len) :
    Val P w0 mods m e ⟨d, .indexAddr T x y, t, p, af, g⟩ (.pointer (some ⟨b, o + i.toNat * s, none⟩)) := fun ρ w hρ _ _ => by
  simp [execOp, Instr.indexAt, Instr.sureAddr, asIntOf, hρ _ _ hx, hρ _ _ hy, run_underlying' w (arrB_spec hT), run_sizeB w hs, h0, h1, add_plain]
/-- all of an array as a slice -/
theorem Val.sla {len : Nat} (hx : evalE e x = some (.pointer (some ⟨b, o, none⟩))) (hT : arrB P T = some (len, el)) (hs : sizeB P el = some s) :
    Val P w0 mods m e ⟨d, .slice T x none none none, t, p, af, g⟩ (.slice (some ⟨b, o, none⟩) len len) := fun ρ w hρ _ _ => by
  simp [execOp, Instr.sliceAt, Instr.sureAddr, Instr.sliceBounds, hρ _ _ hx, run_underlying' w (arrB_spec hT), run_sizeB w hs, Addr.add]
theorem Val.xt {i : Nat} {vs : Array Value} (hx : evalE e x = some (.tuple vs)) (hv : vs[i]? = some v) : Val P w0 mods m e ⟨d, .extract x i, t, p, af, g⟩ v := fun ρ w hρ _ _ => by
  simp [execOp, Instr.extract, hρ _ _ hx, hv]
end
end ops
end Go.Fx
