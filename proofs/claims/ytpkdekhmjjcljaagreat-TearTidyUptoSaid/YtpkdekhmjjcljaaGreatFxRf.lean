/- Ranges over a function: steps of a walk inside a round. -/
import Derived.Test.YtpkdekhmjjcljaaGreatFxY
import Derived.RangeFuncFrom
import Derived.RangeFuncLeaves
import Derived.OwnWalkIn
import Derived.LoopNIn
namespace Go.Fx
open Go.RowKit

section
variable {P : Program} {w0 : World} {mods : List Nat} {n : Nat} {m : HF} {e : Env} {Q : Exit → Act → World → Prop} {F : Fence} {N : Nat} {ops : Array Oper} {rest : List Oper}

theorem St.inReg {id : Nat} {l : List Oper} (h : St w0 mods n m e (wpListIn Fence.wide 0 P l.toArray Q l)) : St w0 mods n m e ((Code.region id l.toArray false).wp P Q) :=
  fun a w hs => wpIn_wide.1 (wpIn_region_lit (h a w hs))

theorem St.inStep {d : Nat} {op : Op} {t : TypeId} {p : String} {af : Array Edge} {v : Value} (hF : ∀ f, F.fn f) (hop : ∀ c, op ≠ .defer c) (h : Val P w0 mods m e ⟨some d, op, t, p, af, none⟩ v) (hd : d < n)
    (k : St w0 mods n m ((d, v) :: e) (wpListIn F N P ops Q rest)) : St w0 mods n m e (wpListIn F N P ops Q (⟨some d, op, t, p, af, none⟩ :: rest)) := fun a w hs =>
  wpListIn_plain rfl fun K hK => by
    unfold Oper.wpIn
    refine ⟨fun f _ => hF f, ?_⟩
    rw [Oper.semAt_plain _ _ _ hop, h a.eval w hs.evals hs.mem hs.fr]
    exact hK _ _ (k _ _ (hs.put hd v))

/-- It comes to a value, or to none. -/
def Tame (P : Program) (o : Oper) : Prop := ∀ ρ w r w', (execOp ρ o).run P w = .ok r w' → (∃ v, r = .value v) ∨ r = .skip

theorem tame_bind {s : Sem Value} {P : Program} {w w' : World} {r : Next} (h : (s >>= fun v => pure (Next.value v)).run P w = .ok r w') : (∃ v, r = .value v) ∨ r = .skip := by
  rw [Sem.run_bind] at h
  cases hs : s.run P w with
  | ok v w1 => rw [hs] at h; simp only [Result.andThen, Sem.run_pure, Result.ok.injEq] at h; exact .inl ⟨v, h.1.symm⟩
  | halt q w1 => rw [hs] at h; simp [Result.andThen] at h

theorem St.inOf {o : Oper} {G : Type} (M : G → HF) (E : G → Env) (hF : ∀ f, F.fn f) (hg : o.guard = none) (hop : ∀ c, o.op ≠ .defer c) (ht : Tame P o)
    (h : St w0 mods n m e (wpList P #[] (fun x a w => x = .normal ∧ ∃ g, Sat w0 mods n (M g) (E g) a w) [o])) (k : ∀ g, St w0 mods n (M g) (E g) (wpListIn F N P ops Q rest)) :
    St w0 mods n m e (wpListIn F N P ops Q (o :: rest)) := fun a w hs =>
  wpListIn_plain hg fun K hK => by
    have h1 := h a w hs
    unfold wpList at h1
    rw [if_pos (by simp [Region.wanted, hg])] at h1
    have h2 : o.wp P a w (wpList P #[] (fun x a w => x = .normal ∧ ∃ g, Sat w0 mods n (M g) (E g) a w) []) (fun x a w => x = .normal ∧ ∃ g, Sat w0 mods n (M g) (E g) a w) := by
      rcases h1 with h1 | ⟨_, a', w', h1⟩
      · exact h1
      · cases h1.1
    unfold Oper.wp at h2
    unfold Oper.wpIn
    refine ⟨fun f _ => hF f, ?_⟩
    rw [Oper.semAt_plain _ _ _ hop]
    have h3 := ht a.eval w
    cases hr : (execOp a.eval o).run P w with
    | ok r w' =>
      rw [hr] at h2
      rcases h3 r w' hr with ⟨v, rfl⟩ | rfl
      · obtain ⟨_, g, hg⟩ := h2
        exact hK _ _ (k g _ _ hg)
      · obtain ⟨_, g, hg⟩ := h2
        exact hK _ _ (k g _ _ hg)
    | halt q w' =>
      rw [hr] at h2
      cases q <;> first | exact absurd h2.1 (by intro h; cases h) | exact h2.elim

theorem St.fin {G : Type} {M : G → HF} {E : G → Env} (g : G) (hm : (M g).Sublist m) (he : subEnv (E g) e) : St w0 mods n m e (wpList P #[] (fun x a w => x = .normal ∧ ∃ g, Sat w0 mods n (M g) (E g) a w) []) :=
  fun _ _ hs => ⟨rfl, g, hs.sub hm he⟩

theorem tame_alloc {d : Option Nat} {T t : TypeId} {p : String} {af : Array Edge} {g : Option (Nat × Bool)} : Tame P ⟨d, .alloc T, t, p, af, g⟩ := fun _ _ _ _ h => tame_bind h
theorem tame_bs {d : Option Nat} {T t : TypeId} {n : Nat} {ps : Array (Nat × Operand)} {p : String} {af : Array Edge} {g : Option (Nat × Bool)} : Tame P ⟨d, .buildSlice T n ps, t, p, af, g⟩ := fun _ _ _ _ h => tame_bind h
theorem tame_store {d : Option Nat} {T t : TypeId} {x y : Operand} {p : String} {af : Array Edge} {g : Option (Nat × Bool)} : Tame P ⟨d, .store T x y, t, p, af, g⟩ := fun ρ w r w' h => by
  have h1 : ((Instr.storeAt T (ρ x) (ρ y)) >>= fun _ => pure Next.skip).run P w = .ok r w' := h
  rw [Sem.run_bind] at h1
  cases hs : (Instr.storeAt T (ρ x) (ρ y)).run P w with
  | ok v w1 => rw [hs] at h1; simp only [Result.andThen, Sem.run_pure, Result.ok.injEq] at h1; exact .inr h1.1.symm
  | halt q w1 => rw [hs] at h1; simp [Result.andThen] at h1
theorem tame_app {d : Option Nat} {T t : TypeId} {x y : Operand} {p : String} {af : Array Edge} {g : Option (Nat × Bool)} : Tame P ⟨d, .call ⟨.builtin .append, [x, y].toArray, [T, T].toArray⟩, t, p, af, g⟩ := fun ρ w r w' h => by
  have h1 : (execOp ρ ⟨d, .call ⟨.builtin .append, [x, y].toArray, [T, T].toArray⟩, t, p, af, g⟩).run P w = ((Builtin.append_ #[T, T] t #[ρ x, ρ y]).run P w).andThen fun v w' => .ok (.value v) w' := by
    simp [execOp, resolve, invoke, builtin]
  rw [h1] at h
  cases hs : (Builtin.append_ #[T, T] t #[ρ x, ρ y]).run P w with
  | ok v w1 => rw [hs] at h; simp only [Result.andThen, Result.ok.injEq] at h; exact .inl ⟨v, h.1.symm⟩
  | halt q w1 => rw [hs] at h; simp [Result.andThen] at h
end
end Go.Fx
