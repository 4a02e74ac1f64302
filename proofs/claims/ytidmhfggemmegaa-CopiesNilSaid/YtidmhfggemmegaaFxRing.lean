/- What the functions of package ring answer; sorting of identities. -/
import Derived.Test.YtidmhfggemmegaaFxSl
import Derived.Test.YtidmhfggemmegaaFxK
import Derived.Test.YtidmhfggemmegaaFxSort
namespace Go.Fx
set_option maxRecDepth 10000

def lay_slices_SortFunc_api_ID_api_ID_ren : Go.Shelf.Ren := ⟨fun | 6 => 36 | 15 => 46 | 14 => 45 | 28 => 57 | 29 => 58 | 20 => 49 | 21 => 50 | 22 => 51 | 23 => 52 | 24 => 53 | 25 => 54 | 26 => 55 | 27 => 56 | 46 => 60 | 47 => 61 | 48 => 62 | 49 => 63 | 50 => 64 | 57 => 65 | n => n, fun | 22 => 34 | 24 => 31 | 25 => 79 | 3 => 3 | 39 => 87 | 0 => 0 | 53 => 99 | 55 => 80 | 4 => 4 | 46 => 92 | 45 => 91 | 50 => 96 | 5 => 5 | 9 => 9 | 66 => 101 | 70 => 105 | 76 => 107 | 77 => 108 | n => n, fun | n => n⟩
theorem lay_slices_SortFunc_api_ID_api_ID : Go.Proofs.SlLaysF0.n6 PG lay_slices_SortFunc_api_ID_api_ID_ren where
  mixed := by kernel_rfl
  f6 := ⟨ "slices.SortFunc[[]annulet/api.ID,annulet/api.ID]", by decide, Go.Proofs.Try.func36.trans (congrArg some (by kernel_rfl))⟩
  f14 := ⟨ "slices.pdqsortCmpFunc[annulet/api.ID]", by decide, Go.Proofs.Try.func45.trans (congrArg some (by kernel_rfl))⟩
  f15 := Go.Proofs.Try.func46.trans (congrArg some (by kernel_rfl))
  f20 := ⟨ "slices.insertionSortCmpFunc[annulet/api.ID]", by decide, Go.Proofs.Try.func49.trans (congrArg some (by kernel_rfl))⟩
  f21 := ⟨ "slices.heapSortCmpFunc[annulet/api.ID]", by decide, Go.Proofs.Try.func50.trans (congrArg some (by kernel_rfl))⟩
  f22 := ⟨ "slices.breakPatternsCmpFunc[annulet/api.ID]", by decide, Go.Proofs.Try.func51.trans (congrArg some (by kernel_rfl))⟩
  f23 := ⟨ "slices.choosePivotCmpFunc[annulet/api.ID]", by decide, Go.Proofs.Try.func52.trans (congrArg some (by kernel_rfl))⟩
  f24 := ⟨ "slices.reverseRangeCmpFunc[annulet/api.ID]", by decide, Go.Proofs.Try.func53.trans (congrArg some (by kernel_rfl))⟩
  f25 := ⟨ "slices.partialInsertionSortCmpFunc[annulet/api.ID]", by decide, Go.Proofs.Try.func54.trans (congrArg some (by kernel_rfl))⟩
  f26 := ⟨ "slices.partitionEqualCmpFunc[annulet/api.ID]", by decide, Go.Proofs.Try.func55.trans (congrArg some (by kernel_rfl))⟩
  f27 := ⟨ "slices.partitionCmpFunc[annulet/api.ID]", by decide, Go.Proofs.Try.func56.trans (congrArg some (by kernel_rfl))⟩
  f28 := Go.Proofs.Try.func57.trans (congrArg some (by kernel_rfl))
  f29 := Go.Proofs.Try.func58.trans (congrArg some (by kernel_rfl))
  f46 := ⟨ "slices.siftDownCmpFunc[annulet/api.ID]", by decide, Go.Proofs.Try.func60.trans (congrArg some (by kernel_rfl))⟩
  f47 := Go.Proofs.Try.func61.trans (congrArg some (by kernel_rfl))
  f48 := Go.Proofs.Try.func62.trans (congrArg some (by kernel_rfl))
  f49 := ⟨ "slices.medianAdjacentCmpFunc[annulet/api.ID]", by decide, Go.Proofs.Try.func63.trans (congrArg some (by kernel_rfl))⟩
  f50 := ⟨ "slices.medianCmpFunc[annulet/api.ID]", by decide, Go.Proofs.Try.func64.trans (congrArg some (by kernel_rfl))⟩
  f57 := ⟨ "slices.order2CmpFunc[annulet/api.ID]", by decide, Go.Proofs.Try.func65.trans (congrArg some (by kernel_rfl))⟩
  t0 := Go.Proofs.Try.underlying0
  a0 := Go.Proofs.Try.isAgg0
  z0 := Go.Proofs.Try.sizeOf0
  v0 := Go.Proofs.Try.zeroValue0
  t3 := Go.Proofs.Try.underlying3
  a3 := Go.Proofs.Try.isAgg3
  z3 := Go.Proofs.Try.sizeOf3
  v3 := Go.Proofs.Try.zeroValue3
  t4 := Go.Proofs.Try.underlying4
  a4 := Go.Proofs.Try.isAgg4
  z4 := Go.Proofs.Try.sizeOf4
  v4 := Go.Proofs.Try.zeroValue4
  t5 := Go.Proofs.Try.underlying5
  a5 := Go.Proofs.Try.isAgg5
  z5 := Go.Proofs.Try.sizeOf5
  v5 := Go.Proofs.Try.zeroValue5
  t9 := Go.Proofs.Try.underlying9
  a9 := Go.Proofs.Try.isAgg9
  z9 := Go.Proofs.Try.sizeOf9
  v9 := Go.Proofs.Try.zeroValue9
  t22 := Go.Proofs.Try.underlying34
  a22 := Go.Proofs.Try.isAgg34
  z22 := Go.Proofs.Try.sizeOf34
  v22 := Go.Proofs.Try.zeroValue34
  t25 := Go.Proofs.Try.underlying79
  a25 := Go.Proofs.Try.isAgg79
  z25 := Go.Proofs.Try.sizeOf79
  v25 := Go.Proofs.Try.zeroValue79
  t39 := Go.Proofs.Try.underlying87
  a39 := Go.Proofs.Try.isAgg87
  z39 := Go.Proofs.Try.sizeOf87
  v39 := Go.Proofs.Try.zeroValue87
  t45 := Go.Proofs.Try.underlying91
  a45 := Go.Proofs.Try.isAgg91
  z45 := Go.Proofs.Try.sizeOf91
  v45 := Go.Proofs.Try.zeroValue91
  t46 := Go.Proofs.Try.underlying92
  a46 := Go.Proofs.Try.isAgg92
  z46 := Go.Proofs.Try.sizeOf92
  v46 := Go.Proofs.Try.zeroValue92
  t50 := Go.Proofs.Try.underlying96
  a50 := Go.Proofs.Try.isAgg96
  z50 := Go.Proofs.Try.sizeOf96
  v50 := Go.Proofs.Try.zeroValue96
  t53 := Go.Proofs.Try.underlying99
  a53 := Go.Proofs.Try.isAgg99
  z53 := Go.Proofs.Try.sizeOf99
  v53 := Go.Proofs.Try.zeroValue99
  t55 := Go.Proofs.Try.underlying80
  a55 := Go.Proofs.Try.isAgg80
  z55 := Go.Proofs.Try.sizeOf80
  v55 := Go.Proofs.Try.zeroValue80
  t66 := Go.Proofs.Try.underlying101
  a66 := Go.Proofs.Try.isAgg101
  z66 := Go.Proofs.Try.sizeOf101
  v66 := Go.Proofs.Try.zeroValue101
  t70 := Go.Proofs.Try.underlying105
  a70 := Go.Proofs.Try.isAgg105
  z70 := Go.Proofs.Try.sizeOf105
  v70 := Go.Proofs.Try.zeroValue105
  t76 := Go.Proofs.Try.underlying107
  a76 := Go.Proofs.Try.isAgg107
  z76 := Go.Proofs.Try.sizeOf107
  v76 := Go.Proofs.Try.zeroValue107
  t77 := Go.Proofs.Try.underlying108
  a77 := Go.Proofs.Try.isAgg108
  z77 := Go.Proofs.Try.sizeOf108
  v77 := Go.Proofs.Try.zeroValue108


instance : Inhabited Idn := ⟨Idn.zero⟩
theorem cmp_lt (x y : Idn) : Go.Proofs.ltOf Idn.cmp x y = decide (x.n < y.n) := by
  unfold Go.Proofs.ltOf
  exact decide_eq_decide.2 (Idn.cmp_lt x y)
theorem cmp_swo : Go.Sort.SWO (Go.Proofs.ltOf Idn.cmp) where
  irrefl x := by rw [cmp_lt]; simp
  trans x y z h1 h2 := by rw [cmp_lt] at *; simp at *; omega
  ntrans x y z h1 h2 := by rw [cmp_lt] at *; simp at *; omega

theorem slices_SortFunc_api_ID (key : Option Nat) (cap : Nat) (l : List Idn) (rs : Array Value) (hlen : l.length < 2 ^ 40) (ho : OwnS 16 key l.length cap rs) (w : World)
    (hm : ∀ b, key = some b → w.heap[b]? = some (.cells (catA (l.map Idn.enc) ++ rs) T_api_ID (0, 0))) :
    Calls PG f_slices_SortFunc_api_ID_api_ID #[slv key l.length cap, .func (.func f_ident_Compare) #[] #[]] w (Ret w key.toList fun v nm => v = .tuple #[] ∧ nm = [(key, .cells (catA ((sortL Idn.cmp l).map Idn.enc) ++ rs) T_api_ID (0, 0))]) := by
  have h := sortFunc_ret lay_slices_SortFunc_api_ID_api_ID (fun w => run_isAggB (w := w) A_api_ID) (fun w => run_sizeB (w := w) Z_api_ID) Idn.size Idn.one Idn.cmp cmp_swo
    (fun x y h1 h2 => Idn.ext_n (by rw [cmp_lt] at *; simp at *; omega)) f_ident_Compare #[] key cap l rs T_api_ID w E_ident_Compare (fun w' _ x y => ident_Compare x y w') hm
    (fun h => List.length_eq_zero_iff.1 (by have := ho.nil h; have := ho.le; omega)) (by omega)
  exact h

theorem ring_Sorted_f1 (x self : Idn) (b : Nat) (w : World) {fr : Nat × Nat} (hb : w.heap[b]? = some (.cells self.enc T_api_ID fr)) :
    Calls PG f_ring_Sorted_f1 #[.agg x.enc, .pointer (some ⟨b, 0, none⟩)] w (Ret w [] fun v nm => v = .bool (decide (x = self)) ∧ nm = []) := by
  refine enter0 (n := 7) (args := [.agg x.enc, .pointer (some ⟨b, 0, none⟩)]) B_ring_Sorted_f1 rfl rfl (by simp) ?_
  refine .seq (.region (?_))
  refine .box rfl rfl (by decide) fun b2 hb2 => ?_
  refine .step (.as rfl) (by decide) ?_
  refine .nil (.then_n (.seq (.region (?_))))
  refine .step (.ldA rfl (.i 0 rfl) A_api_ID Z_api_ID (Idn.size _)) (by decide) ?_
  refine .step (.ldA rfl (.o hb (by simp)) A_api_ID Z_api_ID (Idn.size _)) (by decide) ?_
  refine .step (.eqA (EQ_api_ID _ _) G_api_ID rfl rfl (by decide)) (by decide) ?_
  refine .step (.as rfl) (by decide) ?_
  refine .nil (.then_n (.ret (.ret1 [] (by simp) rfl rfl ⟨rfl, rfl⟩)))

def sorted (self : Idn) (l : List Idn) : List Idn := cmpct (sortL Idn.cmp (keep (fun x => decide (x = self)) l))

theorem adj_len (p : Idn) (l : List Idn) : (adj p l).length ≤ l.length := by
  induction l generalizing p with
  | nil => simp [adj]
  | cons x r ih =>
    simp only [adj]; split
    · have := ih p; simp; omega
    · have := ih x; simp; omega
theorem cmpct_len (l : List Idn) : (cmpct l).length ≤ l.length := by
  cases l with
  | nil => simp [cmpct]
  | cons x r => simp only [cmpct, List.length_cons]; have := adj_len x r; omega
theorem keep_len (q : Idn → Bool) (l : List Idn) : (keep q l).length ≤ l.length := List.length_filter_le _ _
theorem sorted_len (self : Idn) (l : List Idn) : (sorted self l).length ≤ l.length := by
  have h1 := cmpct_len (sortL Idn.cmp (keep (fun x => decide (x = self)) l))
  rw [sortL_len] at h1
  exact Nat.le_trans h1 (keep_len _ _)

theorem ones_list (l : List Idn) : Ones (catA (l.map Idn.enc)) := Ones.cat (by intro q hq; obtain ⟨x, _, rfl⟩ := List.mem_map.1 hq; exact x.one)

theorem ring_Sorted (self : Idn) (p : Option Addr) (cap : Nat) (l : List Idn) (hlen : l.length < 2 ^ 40) (w : World) (hR : IRd w p l) :
    Calls PG f_ring_Sorted #[.agg self.enc, .slice p l.length cap] w (Ret w [] (RetL Idn.enc 16 T_api_ID (sorted self l))) := by
  have hRd := hR
  refine enter0 (n := 15) (args := [.agg self.enc, .slice p l.length cap]) B_ring_Sorted rfl rfl (by simp) ?_
  refine .seq (.region (?_))
  refine .box rfl rfl (by decide) fun b2 hb2 => ?_
  refine .step (.as rfl) (by decide) ?_
  refine .nil (.then_n (.seq (.region (?_))))
  refine .step (.mv rfl) (by decide) ?_
  refine .call0 rfl E_slices_Clone_api_ID_api_ID rfl rfl (fun w' _ hf => slices_Clone_api_ID p cap l hlen w' (hRd.fr hf)) (by decide) fun v nm hR => ?_
  obtain ⟨k1, c1, rs1, rfl, rfl, ho1⟩ := hR
  refine .step (.mf rfl rfl) (by decide) ?_
  refine .callK 0 rfl rfl E_slices_DeleteFunc_api_ID_api_ID rfl rfl (fun w' hm hf ha => slices_DeleteFunc_api_ID k1 c1 l rs1 hlen ho1 f_ring_Sorted_f1 #[.pointer (some ⟨b2, 0, none⟩)] (fun x => decide (x = self)) E_ring_Sorted_f1 w' (hm.atK 0 rfl)
      (fun w'' hf'' x => ring_Sorted_f1 x self b2 w'' (hf''.keepK (hm.at 1 rfl) (ha _ (List.mem_singleton.2 rfl))))) (by decide) fun v nm hR => ?_
  obtain ⟨rfl, rs2, rfl, ho2⟩ := hR
  have hl2 : (keep (fun x => decide (x = self)) l).length < 2 ^ 40 := Nat.lt_of_le_of_lt (keep_len _ _) hlen
  refine .step (.as rfl) (by decide) ?_
  refine .nil (.then_n (.seq (.region (?_))))
  refine .step (.mv rfl) (by decide) ?_
  refine .callK 0 rfl rfl E_slices_SortFunc_api_ID_api_ID rfl rfl (fun w' hm hf ha => slices_SortFunc_api_ID k1 c1 _ rs2 hl2 ho2 w' (hm.atK 0 rfl)) (by decide) fun v nm hR => ?_
  obtain ⟨rfl, rfl⟩ := hR
  have ho3 : OwnS 16 k1 (sortL Idn.cmp (keep (fun x => decide (x = self)) l)).length c1 rs2 := by rw [sortL_len]; exact ho2
  refine .nil (.then_n (.seq (.region (?_))))
  refine .step (.mv rfl) (by decide) ?_
  refine .callK 0 rfl rfl E_slices_Compact_api_ID_api_ID rfl (by rw [← sortL_len Idn.cmp]; rfl) (fun w' hm hf ha => slices_Compact_api_ID k1 c1 _ rs2 (by rw [sortL_len]; exact hl2) ho3 w' (hm.atK 0 rfl)) (by decide) fun v nm hR => ?_
  obtain ⟨rfl, rs4, rfl, ho4⟩ := hR
  have hsl := sorted_len self l
  refine .non (o := .cells (#[] ++ #[]) T_api_ID (0, 0)) ?_
  refine .app (key := none) (len := 0) (cap := 0) (xs := #[]) (rs := #[]) 0 rfl rfl rfl (Src.own (i := 1) Idn.size rfl ho4) L_sl_api_ID rfl Z_api_ID Y_api_ID N_api_ID rfl (by decide) rfl rfl (Nat.le_refl _) (fun _ => rfl) (ones_list _) (by rw [Nat.zero_add]; unfold sorted at hsl; omega) (by decide) fun key14 cap14 rs14 hrs14 hle14 hnil14 => ?_
  refine .step (.as rfl) (by decide) ?_
  refine .nil (.then_n (.ret (.ret1 [_] (.cons_cons _ (.cons _ (.cons _ .slnil))) rfl rfl ⟨key14, cap14, rs14, by rw [Nat.zero_add]; rfl, by rw [Array.empty_append]; rfl, ⟨by rw [Nat.zero_add] at hrs14; exact hrs14, by rw [Nat.zero_add] at hle14; exact hle14, hnil14⟩⟩)))

end Go.Fx
