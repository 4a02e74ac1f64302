/- Nearness by a number. -/
import Derived.Test.YtfdjdamepaeoiaaFxIdent13
namespace Go.Fx
/-! ### the nearest one, by a number -/
def kap (d a : Idn) : Nat := (a.far d).n * M128 + (a.sub d).n
theorem nearer_kap (d a b : Idn) : d.nearer a b = decide (kap d a < kap d b) := by
  have h1 := (a.sub d).lt
  have h2 := (b.sub d).lt
  unfold Idn.nearer kap
  unfold M128 at *
  split
  · rename_i h
    rw [h]
    apply decide_eq_decide.2
    omega
  · rename_i h
    apply decide_eq_decide.2
    omega

end Go.Fx
