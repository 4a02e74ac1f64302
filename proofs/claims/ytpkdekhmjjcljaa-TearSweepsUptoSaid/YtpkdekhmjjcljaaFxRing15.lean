/- What the functions of package ring answer; sorting of identities. -/
import Derived.Test.YtpkdekhmjjcljaaFxSl15
import Derived.Test.YtpkdekhmjjcljaaFxK
import Derived.Test.YtpkdekhmjjcljaaFxSort
namespace Go.Fx
set_option maxRecDepth 10000


instance : Inhabited Idn := ⟨Idn.zero⟩
theorem cmp_lt (x y : Idn) : Go.Proofs.ltOf Idn.cmp x y = decide (x.n < y.n) := by
  unfold Go.Proofs.ltOf
  exact decide_eq_decide.2 (Idn.cmp_lt x y)
theorem cmp_swo : Go.Sort.SWO (Go.Proofs.ltOf Idn.cmp) where
  irrefl x := by rw [cmp_lt]; simp
  trans x y z h1 h2 := by rw [cmp_lt] at *; simp at *; omega
  ntrans x y z h1 h2 := by rw [cmp_lt] at *; simp at *; omega



def sorted (self : Idn) (l : List Idn) : List Idn := cmpct (sortL Idn.cmp (keep (fun x => decide (x = self)) l))

theorem adj_len (p : Idn) (l : List Idn) : (adj p l).length ≤ l.length := by
  induction l generalizing p with
  | nil => simp [adj]
  | cons x r ih =>
    simp only [adj]; split
    · have := ih p; simp; omega
    · have := ih x; simp; omega
theorem cmpct_len (l : List Idn) : (cmpct l).length ≤ l.length := by
  cases l with
  | nil => simp [cmpct]
  | cons x r => simp only [cmpct, List.length_cons]; have := adj_len x r; omega
theorem keep_len (q : Idn → Bool) (l : List Idn) : (keep q l).length ≤ l.length := List.length_filter_le _ _
theorem sorted_len (self : Idn) (l : List Idn) : (sorted self l).length ≤ l.length := by
  have h1 := cmpct_len (sortL Idn.cmp (keep (fun x => decide (x = self)) l))
  rw [sortL_len] at h1
  exact Nat.le_trans h1 (keep_len _ _)

theorem ones_list (l : List Idn) : Ones (catA (l.map Idn.enc)) := Ones.cat (by intro q hq; obtain ⟨x, _, rfl⟩ := List.mem_map.1 hq; exact x.one)


end Go.Fx
