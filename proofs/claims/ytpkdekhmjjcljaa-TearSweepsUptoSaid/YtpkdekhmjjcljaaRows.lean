/-
  No cell of these rows narrows 'for every input' (looked for: loops, veiled, ifaces, maps, wideKeys, modest, calm, conditions, laid).
  DERIVED. THE GIVEN ROWS OF THIS SEAT. 5 by the template 'for every input the law returns true; each argument reads behind the call as it read before'; 0 by the template 'total and deterministic' (their statements: YtpkdekhmjjcljaaTotals.lean).
  GIVEN WITH THE SEED: the statements are not yours to turn. If you find one false, say at which input.
  Laid BY PROGRAM, IN A SANDBOX (cutbox-rows.mjs): the forced cells as the released guide's own fill.sh prints them over the translation 9f8877ed6e46552a… (all of the seat's roots in one cut). By AI agents, Wed Nov 11 2026. No macro, syntax, notation, axiom, sorry.
-/
import Derived.Test.YtpkdekhmjjcljaaChecked
import GoSem.Claim
import GoSem.ClaimJoined
import GoSem.ClaimMapViews
import Derived.JoinedTies
import Derived.KernelRfl
namespace Go.Proofs.Ytpkdekhmjjcljaa
/- THE CELL 'sum', in the pinned program and in every row, IS THE sha256 OF THE DUMP (.gsa) THAT YtpkdekhmjjcljaaProg.lean LOADS. Nothing in Lean hashes anything: it is a label: what it is worth is what the hold of that sum in a sandbox is worth. -/
noncomputable def Try.pinned : Pinned := { name := "ytpkdekhmjjcljaa", sum := "9f8877ed6e46552a23838eb0d333421f148f26641aef69dfd8b8ee0db411a575", checked := Try.checked }
namespace Rows
def none {H : Type} : Left H := { results := [], args := [] }

/-- 'annuletlaw15.TearAlong': WHATEVER THE INPUT: true; the input reads as it did. -/
def tearAlongSpec : ChangeSpec := { name := "tearAlong", fn := fun _ => fun
  | [d1, d2, d3] => { results := [.lit (.bool true)], args := [d1, d2, d3] }
  | _ => none }
def tearAlongRow : OpenClaim := { program := "ytpkdekhmjjcljaa", sum := "9f8877ed6e46552a23838eb0d333421f148f26641aef69dfd8b8ee0db411a575", func := "annulet/annuletlaw15.TearAlong", spec := "tearAlong", inPlace := ["internal/bytealg.Compare"], unfollowed := true, recurses := true, plainKeys := false, apart := false }
def TearAlongSaid : Prop := tearAlongRow.holds Try.pinned (OpenSpec.ofChange tearAlongSpec)

/-- ITS FALSE NEIGHBOUR: 'it returns false'. Refute it at one input. -/
def tearAlongWrong : ChangeSpec := { name := "tearAlong", fn := fun _ => fun
  | [d1, d2, d3] => { results := [.lit (.bool false)], args := [d1, d2, d3] }
  | _ => none }
def TearAlongWrongFalsely : Prop := tearAlongRow.holds Try.pinned (OpenSpec.ofChange tearAlongWrong)

/-- 'annuletlaw15.TearDrops': WHATEVER THE INPUT: true; the input reads as it did. -/
def tearDropsSpec : ChangeSpec := { name := "tearDrops", fn := fun _ => fun
  | [d1, d2, d3] => { results := [.lit (.bool true)], args := [d1, d2, d3] }
  | _ => none }
def tearDropsRow : OpenClaim := { program := "ytpkdekhmjjcljaa", sum := "9f8877ed6e46552a23838eb0d333421f148f26641aef69dfd8b8ee0db411a575", func := "annulet/annuletlaw15.TearDrops", spec := "tearDrops", inPlace := ["internal/bytealg.Compare"], unfollowed := true, recurses := true, plainKeys := false, apart := false }
def TearDropsSaid : Prop := tearDropsRow.holds Try.pinned (OpenSpec.ofChange tearDropsSpec)

/-- ITS FALSE NEIGHBOUR: 'it returns false'. Refute it at one input. -/
def tearDropsWrong : ChangeSpec := { name := "tearDrops", fn := fun _ => fun
  | [d1, d2, d3] => { results := [.lit (.bool false)], args := [d1, d2, d3] }
  | _ => none }
def TearDropsWrongFalsely : Prop := tearDropsRow.holds Try.pinned (OpenSpec.ofChange tearDropsWrong)

/-- 'annuletlaw15.TearDies': WHATEVER THE INPUT: true; the input reads as it did. -/
def tearDiesSpec : ChangeSpec := { name := "tearDies", fn := fun _ => fun
  | [d1, d2] => { results := [.lit (.bool true)], args := [d1, d2] }
  | _ => none }
def tearDiesRow : OpenClaim := { program := "ytpkdekhmjjcljaa", sum := "9f8877ed6e46552a23838eb0d333421f148f26641aef69dfd8b8ee0db411a575", func := "annulet/annuletlaw15.TearDies", spec := "tearDies", inPlace := ["internal/bytealg.Compare"], unfollowed := true, recurses := true, plainKeys := false, apart := false }
def TearDiesSaid : Prop := tearDiesRow.holds Try.pinned (OpenSpec.ofChange tearDiesSpec)

/-- ITS FALSE NEIGHBOUR: 'it returns false'. Refute it at one input. -/
def tearDiesWrong : ChangeSpec := { name := "tearDies", fn := fun _ => fun
  | [d1, d2] => { results := [.lit (.bool false)], args := [d1, d2] }
  | _ => none }
def TearDiesWrongFalsely : Prop := tearDiesRow.holds Try.pinned (OpenSpec.ofChange tearDiesWrong)

/-- 'annuletlaw15.TearSweeps': WHATEVER THE INPUT: true; the input reads as it did. -/
def tearSweepsSpec : ChangeSpec := { name := "tearSweeps", fn := fun _ => fun
  | [d1, d2] => { results := [.lit (.bool true)], args := [d1, d2] }
  | _ => none }
def tearSweepsRow : OpenClaim := { program := "ytpkdekhmjjcljaa", sum := "9f8877ed6e46552a23838eb0d333421f148f26641aef69dfd8b8ee0db411a575", func := "annulet/annuletlaw15.TearSweeps", spec := "tearSweeps", inPlace := ["internal/bytealg.Compare"], unfollowed := true, recurses := true, plainKeys := false, apart := false }
def TearSweepsSaid : Prop := tearSweepsRow.holds Try.pinned (OpenSpec.ofChange tearSweepsSpec)

/-- ITS FALSE NEIGHBOUR: 'it returns false'. Refute it at one input. -/
def tearSweepsWrong : ChangeSpec := { name := "tearSweeps", fn := fun _ => fun
  | [d1, d2] => { results := [.lit (.bool false)], args := [d1, d2] }
  | _ => none }
def TearSweepsWrongFalsely : Prop := tearSweepsRow.holds Try.pinned (OpenSpec.ofChange tearSweepsWrong)

/-- 'annuletlaw15.TearEnds': WHATEVER THE INPUT: true; the input reads as it did. -/
def tearEndsSpec : ChangeSpec := { name := "tearEnds", fn := fun _ => fun
  | [d1, d2] => { results := [.lit (.bool true)], args := [d1, d2] }
  | _ => none }
def tearEndsRow : OpenClaim := { program := "ytpkdekhmjjcljaa", sum := "9f8877ed6e46552a23838eb0d333421f148f26641aef69dfd8b8ee0db411a575", func := "annulet/annuletlaw15.TearEnds", spec := "tearEnds", inPlace := ["internal/bytealg.Compare"], unfollowed := true, recurses := true, plainKeys := false, apart := false }
def TearEndsSaid : Prop := tearEndsRow.holds Try.pinned (OpenSpec.ofChange tearEndsSpec)

/-- ITS FALSE NEIGHBOUR: 'it returns false'. Refute it at one input. -/
def tearEndsWrong : ChangeSpec := { name := "tearEnds", fn := fun _ => fun
  | [d1, d2] => { results := [.lit (.bool false)], args := [d1, d2] }
  | _ => none }
def TearEndsWrongFalsely : Prop := tearEndsRow.holds Try.pinned (OpenSpec.ofChange tearEndsWrong)

/- THE SECOND FORM. 'bulk': how many values and letters a reading holds, each counted each time it is reached (what is shared counts as often as it is met; a slice's spare places count too). A statement '..UptoSaid' is the law's where the arguments, and the package variables that the reading takes, are together of bulk at most 1048576: NARROWER than '..Said'. Prove '..Said' where nothing that the law and all that it calls make is longer than what came in: it says more and counts as full. Else prove '..UptoSaid'. A law counts once. -/
mutual
def uptoBulk {H : Type} : DataW H → Nat
  | .lit (.string bytes) => bytes.length + 1
  | .lit _ => 1
  | .nil => 1
  | .ptr d => uptoBulk d + 1
  | .slice elems spare => uptoBulkAll elems + uptoBulkAll spare + 1
  | .agg parts => uptoBulkAll parts + 1
  | .iface _ d => uptoBulk d + 1
  | .map entries => uptoBulkEntries entries + 1
  | .held _ => 1
def uptoBulkAll {H : Type} : List (DataW H) → Nat
  | [] => 0
  | d :: r => uptoBulk d + uptoBulkAll r
def uptoBulkEntries {H : Type} : List (Lit × DataW H) → Nat
  | [] => 0
  | x :: r => uptoBulkEntry x + uptoBulkEntries r
def uptoBulkEntry {H : Type} : Lit × DataW H → Nat
  | (.string bytes, d) => bytes.length + uptoBulk d + 1
  | (_, d) => uptoBulk d + 1
 end
def uptoSmall : (H : Type) → List (DataW H) → Bool := fun _ ds => decide (uptoBulkAll ds ≤ 1048576)
def OpenSpec.upto (s : _root_.Go.ChangeSpec) : _root_.Go.OpenSpec := { _root_.Go.OpenSpec.ofChange s with cond := some uptoSmall }

/-- 'annuletlaw15.TearAlong', WHERE WHAT IT READS IS OF BULK AT MOST 1048576: true; the input reads as it did. -/
def tearAlongUptoRow : OpenClaim := { program := "ytpkdekhmjjcljaa", sum := "9f8877ed6e46552a23838eb0d333421f148f26641aef69dfd8b8ee0db411a575", func := "annulet/annuletlaw15.TearAlong", spec := "tearAlong", inPlace := ["internal/bytealg.Compare"], unfollowed := true, recurses := true, plainKeys := false, apart := false, narrowed := true }
def TearAlongUptoSaid : Prop := tearAlongUptoRow.holds Try.pinned (OpenSpec.upto tearAlongSpec)

/-- 'annuletlaw15.TearDrops', WHERE WHAT IT READS IS OF BULK AT MOST 1048576: true; the input reads as it did. -/
def tearDropsUptoRow : OpenClaim := { program := "ytpkdekhmjjcljaa", sum := "9f8877ed6e46552a23838eb0d333421f148f26641aef69dfd8b8ee0db411a575", func := "annulet/annuletlaw15.TearDrops", spec := "tearDrops", inPlace := ["internal/bytealg.Compare"], unfollowed := true, recurses := true, plainKeys := false, apart := false, narrowed := true }
def TearDropsUptoSaid : Prop := tearDropsUptoRow.holds Try.pinned (OpenSpec.upto tearDropsSpec)

/-- 'annuletlaw15.TearDies', WHERE WHAT IT READS IS OF BULK AT MOST 1048576: true; the input reads as it did. -/
def tearDiesUptoRow : OpenClaim := { program := "ytpkdekhmjjcljaa", sum := "9f8877ed6e46552a23838eb0d333421f148f26641aef69dfd8b8ee0db411a575", func := "annulet/annuletlaw15.TearDies", spec := "tearDies", inPlace := ["internal/bytealg.Compare"], unfollowed := true, recurses := true, plainKeys := false, apart := false, narrowed := true }
def TearDiesUptoSaid : Prop := tearDiesUptoRow.holds Try.pinned (OpenSpec.upto tearDiesSpec)

/-- 'annuletlaw15.TearSweeps', WHERE WHAT IT READS IS OF BULK AT MOST 1048576: true; the input reads as it did. -/
def tearSweepsUptoRow : OpenClaim := { program := "ytpkdekhmjjcljaa", sum := "9f8877ed6e46552a23838eb0d333421f148f26641aef69dfd8b8ee0db411a575", func := "annulet/annuletlaw15.TearSweeps", spec := "tearSweeps", inPlace := ["internal/bytealg.Compare"], unfollowed := true, recurses := true, plainKeys := false, apart := false, narrowed := true }
def TearSweepsUptoSaid : Prop := tearSweepsUptoRow.holds Try.pinned (OpenSpec.upto tearSweepsSpec)

/-- 'annuletlaw15.TearEnds', WHERE WHAT IT READS IS OF BULK AT MOST 1048576: true; the input reads as it did. -/
def tearEndsUptoRow : OpenClaim := { program := "ytpkdekhmjjcljaa", sum := "9f8877ed6e46552a23838eb0d333421f148f26641aef69dfd8b8ee0db411a575", func := "annulet/annuletlaw15.TearEnds", spec := "tearEnds", inPlace := ["internal/bytealg.Compare"], unfollowed := true, recurses := true, plainKeys := false, apart := false, narrowed := true }
def TearEndsUptoSaid : Prop := tearEndsUptoRow.holds Try.pinned (OpenSpec.upto tearEndsSpec)

end Rows
end Go.Proofs.Ytpkdekhmjjcljaa
