/- Interfaces that hold a struct, slices told by where they lie, texts. -/
import Derived.Test.YtpkdekhmjjcljaaGreatFxY
import Derived.Test.YtpkdekhmjjcljaaGreatFxJ
import Derived.Test.YtpkdekhmjjcljaaGreatFxH
import Derived.Test.YtpkdekhmjjcljaaGreatFxS
namespace Go.Fx

/-- no slice at all -/
def nilS (x : Slv) : Option Unit := if x = ⟨none, 0, 0⟩ then some () else none
theorem nilS_eq {x : Slv} {u : Unit} (h : nilS x = some u) : x = ⟨none, 0, 0⟩ := by
  unfold nilS at h
  split at h
  · assumption
  · cases h

def ifaceB (P : Program) (t : TypeId) : Bool := match P.underlying t with
  | some (.interface _) => true
  | _ => false
/-- known, and no interface -/
def concB (P : Program) (t : TypeId) : Bool := match P.underlying t with
  | some (.interface _) => false
  | some _ => true
  | none => false
def strgB (P : Program) (t : TypeId) : Bool := match P.underlying t with
  | some .string => true
  | _ => false
def bytsB (P : Program) (t : TypeId) : Bool := match P.underlying t with
  | some (.slice e) => match P.underlying e with
    | some (.int .u8) => true
    | _ => false
  | _ => false

section
variable {P : Program} {w0 : World} {mods : List Nat} {m : HF} {e : Env} {t : TypeId} {p : String} {af : Array Edge} {d : Option Nat} {g : Option (Nat × Bool)} {x y : Operand} {T U T' : TypeId} {v z : Value}
theorem Val.mkI (hT : concB P T = true) (hx : evalE e x = some v) : Val P w0 mods m e ⟨d, .makeInterface T x, t, p, af, g⟩ (.iface T v) := fun ρ w hρ _ _ => by
  unfold concB at hT
  split at hT
  · cases hT
  · rename_i h' D hn hu
    have : (Instr.makeInterface T v).run P w = .ok (.iface T v) w := by
      simp only [Instr.makeInterface, Sem.run_bind, run_underlying' w hu, Result.andThen]
      cases D <;> first | exact absurd rfl (hn _) | rfl
    simp only [execOp, hρ _ _ hx, Sem.run_bind, this, Result.andThen, Sem.run_pure]
  · cases hT
theorem Val.tasT {T0 : TypeId} (hT : concB P T = true) (hx : evalE e x = some (.iface T v)) : Val P w0 mods m e ⟨d, .typeAssert x T0 T true, t, p, af, g⟩ (.tuple #[v, .bool true]) := fun ρ w hρ _ _ => by
  unfold concB at hT
  split at hT
  · cases hT
  · rename_i h' D hn hu
    have : (Instr.typeAssert (.iface T v) T0 T true).run P w = .ok (.tuple #[v, .bool true]) w := by
      simp only [Instr.typeAssert, Sem.run_bind, run_underlying' w hu, Result.andThen]
      cases D <;> first | exact absurd rfl (hn _) | (simp; done)
    simp only [execOp, hρ _ _ hx, Sem.run_bind, this, Result.andThen, Sem.run_pure]
  · cases hT
theorem Val.tasF {T0 : TypeId} (hT : concB P T = true) (hz : zeroB P T = some z) (hne : T' ≠ T) (hx : evalE e x = some (.iface T' v)) : Val P w0 mods m e ⟨d, .typeAssert x T0 T true, t, p, af, g⟩ (.tuple #[z, .bool false]) := fun ρ w hρ _ _ => by
  unfold concB at hT
  split at hT
  · cases hT
  · rename_i h' D hn hu
    have : (Instr.typeAssert (.iface T' v) T0 T true).run P w = .ok (.tuple #[z, .bool false]) w := by
      simp only [Instr.typeAssert, Sem.run_bind, run_underlying' w hu, Result.andThen]
      cases D <;> first | exact absurd rfl (hn _) | (simp [hne, run_zeroB w hz]; done)
    simp only [execOp, hρ _ _ hx, Sem.run_bind, this, Result.andThen, Sem.run_pure]
  · cases hT
/-- no bytes as a text -/
theorem Val.cvN {b : Slv} {u : Unit} (hT : bytsB P T = true) (hU : strgB P U = true) (hn : nilS b = some u) (hx : evalE e x = some b.v) : Val P w0 mods m e ⟨d, .convert T U x, t, p, af, g⟩ (.string .empty) := fun ρ w hρ _ _ => by
  have hb := nilS_eq hn
  subst hb
  have hx' : evalE e x = some (.slice none 0 0) := hx
  unfold bytsB at hT
  split at hT
  · rename_i el h1
    split at hT
    · rename_i h2
      unfold strgB at hU
      split at hU
      · rename_i h3
        have : (convert T U (.slice none 0 0)).run P w = .ok (.string .empty) w := by
          simp [convert, run_underlying' w h1, run_underlying' w h2, run_underlying' w h3, Conv.bytesToString, Result.andThen]
        simp only [execOp, hρ _ _ hx', Sem.run_bind, this, Result.andThen, Sem.run_pure]
      · cases hU
    · cases hT
  · cases hT
theorem run_strs (P : Program) (w : World) (T : TypeId) (a b : ByteArray) : (binOp .eql T (.string a) (.string b)).run P w = .ok (.bool (a.toList == b.toList)) w ∧ (binOp .neq T (.string a) (.string b)).run P w = .ok (.bool (!(a.toList == b.toList))) w := by
  constructor <;> simp [binOp, Op.stringOp]
theorem Val.eqlS {a b : ByteArray} (hx : evalE e x = some (.string a)) (hy : evalE e y = some (.string b)) : Val P w0 mods m e ⟨d, .binOp .eql T x y U, t, p, af, g⟩ (.bool (a.toList == b.toList)) := fun ρ w hρ _ _ => by
  simp only [execOp, hρ _ _ hx, hρ _ _ hy, Sem.run_bind, show (eqGuard .eql T x y (.string a) (.string b)).run P w = .ok () w from rfl, Result.andThen, (run_strs P w T a b).1, Sem.run_pure]
theorem Val.neqS {a b : ByteArray} (hx : evalE e x = some (.string a)) (hy : evalE e y = some (.string b)) : Val P w0 mods m e ⟨d, .binOp .neq T x y U, t, p, af, g⟩ (.bool (!(a.toList == b.toList))) := fun ρ w hρ _ _ => by
  simp only [execOp, hρ _ _ hx, hρ _ _ hy, Sem.run_bind, show (eqGuard .neq T x y (.string a) (.string b)).run P w = .ok () w from rfl, Result.andThen, (run_strs P w T a b).2, Sem.run_pure]
end

section
variable {P : Program} {ops : Array Oper} {w0 : World} {mods : List Nat} {n : Nat} {m : HF} {pe : Env} {Q : Exit → Act → World → Prop} {d : Nat} {t : TypeId} {p : String} {af : Array Edge}
theorem Ob.call0g {j : Nat} {bo : Bool} (hg : Fx.gval ops pe j = some bo) {fo : Operand} {xs : List Operand} {ats : Array TypeId} {f : FuncId} {first capt args : Array Value} {vs : List Value} {R : Value → HF → Prop}
    (hf : evalE pe fo = some (.func (.func f) first capt)) (hE : enterB P f = true) (hxs : evalsE pe xs = some vs) (hargs : first ++ vs.toArray ++ capt = args)
    (hc : ∀ w, Mem m w → Fr mods w0 w → Calls P f args w (Ret w [] R)) (hd : d < n) : Ob P ops w0 mods n m pe Q ⟨some d, .call ⟨.value fo, xs.toArray, ats⟩, t, p, af, some (j, bo)⟩ (.res d R) :=
  fun _ _ _ hm he hk => .gd (he.gval hg) (.call0 (he.eval hf) hE (he.evals hxs) hargs (fun w hmm hfr => hc w (fun b o hb => hmm b o (hm _ hb)) hfr) hd fun v nm hR => hk v nm hR)
end
end Go.Fx
