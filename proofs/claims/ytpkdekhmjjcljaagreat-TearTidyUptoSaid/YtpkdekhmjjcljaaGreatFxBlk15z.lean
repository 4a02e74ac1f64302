/- What a bound on the bulk says of lists. -/
import Derived.Test.YtpkdekhmjjcljaaGreatRows
import Derived.Test.YtpkdekhmjjcljaaGreatFxOp
namespace Go.Proofs.YtpkdekhmjjcljaaGreat
open Go.ChangeShapes Go.WideShapes Go.Fx

theorem blk_one {H : Type} (d : DataW H) : 1 ≤ Rows.uptoBulk d := by
  cases d with
  | lit l => cases l <;> simp [Rows.uptoBulk]
  | nil => simp [Rows.uptoBulk]
  | ptr d => simp [Rows.uptoBulk]
  | slice elems spare => simp [Rows.uptoBulk]
  | agg parts => simp [Rows.uptoBulk]
  | iface t d => simp [Rows.uptoBulk]
  | map entries => simp [Rows.uptoBulk]
  | held h => simp [Rows.uptoBulk]
theorem blk_part {H : Type} {d : DataW H} {l : List (DataW H)} (h : d ∈ l) : Rows.uptoBulk d ≤ Rows.uptoBulkAll l := by
  induction l with
  | nil => cases h
  | cons x r ih =>
    simp only [Rows.uptoBulkAll]
    cases List.mem_cons.1 h with
    | inl e => subst e; omega
    | inr e => have := ih e; omega
theorem blk_len {H : Type} (l : List (DataW H)) : l.length ≤ Rows.uptoBulkAll l := by
  induction l with
  | nil => simp
  | cons x r ih => have := blk_one x; simp only [Rows.uptoBulkAll, List.length_cons]; omega
theorem blk_lenOf {H : Type} (d : DataW H) : lenOf d ≤ Rows.uptoBulk d := by
  cases d with
  | slice elems spare => have := blk_len elems; simp only [lenOf, Rows.uptoBulk]; omega
  | _ => simp [lenOf]
theorem blk_agg {H : Type} {xs : List (DataW H × List MemPlace)} {d : DataW H} {y : DataW H × List MemPlace} {n : Nat} (hd : d = .agg (xs.map (·.1))) (hy : y ∈ xs) (hn : lenOf y.1 = n) : n ≤ Rows.uptoBulk d := by
  subst hd
  have h1 := blk_lenOf y.1
  have h2 := blk_part (List.mem_map_of_mem (f := (·.1)) hy)
  simp only [Rows.uptoBulk]
  omega
theorem blk_bound {H : Type} {l : List (DataW H)} (hk : Rows.uptoSmall H l = true) : Rows.uptoBulkAll l ≤ 1048576 := of_decide_eq_true hk
theorem blk_all {H : Type} {l : List (DataW H)} {d : DataW H} {n : Nat} (hk : Rows.uptoSmall H l = true) (hd : d ∈ l) (hn : n ≤ Rows.uptoBulk d) : n ≤ 1048576 := by
  have h1 := blk_bound hk
  have h2 := blk_part hd
  omega

/-- an identity of zeros, read -/
def zid {H : Type} : DataW H := .agg (List.replicate 16 (.lit (.int .u8 0)))
theorem Tryz.own : ownKnob Tryz.prog.godebug = none := by kernel_rfl
theorem Tryz.laidOut : laidOutB Tryz.prog = true := by kernel_rfl
end Go.Proofs.YtpkdekhmjjcljaaGreat
