/- What the functions of package annuletref01 answer that read lists. -/
import Derived.Test.YtpkdekhmjjcljaaGreatFxRef0115z
import Derived.Test.YtpkdekhmjjcljaaGreatFxJ
namespace Go.Fx
set_option maxRecDepth 10000

abbrev IRd := Rd Idn.enc 16

/-- is none of the list nearer? -/
def refNearB (d y : Idn) (l : List Idn) : Bool := l.all fun x => !d.nearer x y
def refNearest (d : Idn) (l : List Idn) : Nat → Int
  | i => match h : l[i]? with
    | some y => if refNearB d y l then (i : Int) else refNearest d l (i + 1)
    | none => -1
  termination_by i => l.length - i
  decreasing_by
  have := (List.getElem?_eq_some_iff.1 h).1
  omega

theorem refNearest_some {d : Idn} {l : List Idn} {i : Nat} {y : Idn} (h : l[i]? = some y) : refNearest d l i = if refNearB d y l then (i : Int) else refNearest d l (i + 1) := by
  rw [refNearest]; split
  · rename_i z hz; rw [h] at hz; cases hz; rfl
  · rename_i hz; rw [h] at hz; cases hz
theorem refNearest_none {d : Idn} {l : List Idn} {i : Nat} (h : l.length ≤ i) : refNearest d l i = -1 := by
  rw [refNearest]; split
  · rename_i z hz; rw [List.getElem?_eq_none h] at hz; cases hz
  · rfl

def takeAll (d y : Idn) (l : List Idn) (k : Nat) : Bool := (l.take k).all fun x => !d.nearer x y
theorem takeAll_succ {d y x : Idn} {l : List Idn} {k : Nat} (h : l[k]? = some x) : takeAll d y l (k + 1) = (takeAll d y l k && !d.nearer x y) := by
  obtain ⟨hk, rfl⟩ := List.getElem?_eq_some_iff.1 h
  unfold takeAll
  rw [List.take_succ_eq_append_getElem hk, List.all_append]
  simp


end Go.Fx
