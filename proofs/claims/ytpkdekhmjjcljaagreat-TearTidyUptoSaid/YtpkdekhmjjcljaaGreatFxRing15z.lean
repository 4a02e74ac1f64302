/- What the functions of package ring answer; sorting of identities. -/
import Derived.Test.YtpkdekhmjjcljaaGreatFxSl15z
import Derived.Test.YtpkdekhmjjcljaaGreatFxK
import Derived.Test.YtpkdekhmjjcljaaGreatFxSort
namespace Go.Fx
set_option maxRecDepth 10000

def lay_slices_SortFunc_api_ID_api_ID_ren : Go.Shelf.Ren := ⟨fun | 6 => 56 | 15 => 72 | 14 => 71 | 28 => 87 | 29 => 88 | 20 => 79 | 21 => 80 | 22 => 81 | 23 => 82 | 24 => 83 | 25 => 84 | 26 => 85 | 27 => 86 | 46 => 91 | 47 => 92 | 48 => 93 | 49 => 94 | 50 => 95 | 57 => 104 | n => n, fun | 22 => 39 | 24 => 24 | 25 => 65 | 3 => 3 | 39 => 118 | 0 => 0 | 53 => 156 | 55 => 110 | 4 => 4 | 46 => 149 | 45 => 148 | 50 => 153 | 5 => 5 | 9 => 9 | 66 => 160 | 70 => 164 | 76 => 171 | 77 => 172 | n => n, fun | n => n⟩
theorem lay_slices_SortFunc_api_ID_api_ID : Go.Proofs.SlLaysF0.n6 PG lay_slices_SortFunc_api_ID_api_ID_ren where
  mixed := by kernel_rfl
  f6 := ⟨ "slices.SortFunc[[]annulet/api.ID,annulet/api.ID]", by decide, Go.Proofs.Tryz.func56.trans (congrArg some (by kernel_rfl))⟩
  f14 := ⟨ "slices.pdqsortCmpFunc[annulet/api.ID]", by decide, Go.Proofs.Tryz.func71.trans (congrArg some (by kernel_rfl))⟩
  f15 := Go.Proofs.Tryz.func72.trans (congrArg some (by kernel_rfl))
  f20 := ⟨ "slices.insertionSortCmpFunc[annulet/api.ID]", by decide, Go.Proofs.Tryz.func79.trans (congrArg some (by kernel_rfl))⟩
  f21 := ⟨ "slices.heapSortCmpFunc[annulet/api.ID]", by decide, Go.Proofs.Tryz.func80.trans (congrArg some (by kernel_rfl))⟩
  f22 := ⟨ "slices.breakPatternsCmpFunc[annulet/api.ID]", by decide, Go.Proofs.Tryz.func81.trans (congrArg some (by kernel_rfl))⟩
  f23 := ⟨ "slices.choosePivotCmpFunc[annulet/api.ID]", by decide, Go.Proofs.Tryz.func82.trans (congrArg some (by kernel_rfl))⟩
  f24 := ⟨ "slices.reverseRangeCmpFunc[annulet/api.ID]", by decide, Go.Proofs.Tryz.func83.trans (congrArg some (by kernel_rfl))⟩
  f25 := ⟨ "slices.partialInsertionSortCmpFunc[annulet/api.ID]", by decide, Go.Proofs.Tryz.func84.trans (congrArg some (by kernel_rfl))⟩
  f26 := ⟨ "slices.partitionEqualCmpFunc[annulet/api.ID]", by decide, Go.Proofs.Tryz.func85.trans (congrArg some (by kernel_rfl))⟩
  f27 := ⟨ "slices.partitionCmpFunc[annulet/api.ID]", by decide, Go.Proofs.Tryz.func86.trans (congrArg some (by kernel_rfl))⟩
  f28 := Go.Proofs.Tryz.func87.trans (congrArg some (by kernel_rfl))
  f29 := Go.Proofs.Tryz.func88.trans (congrArg some (by kernel_rfl))
  f46 := ⟨ "slices.siftDownCmpFunc[annulet/api.ID]", by decide, Go.Proofs.Tryz.func91.trans (congrArg some (by kernel_rfl))⟩
  f47 := Go.Proofs.Tryz.func92.trans (congrArg some (by kernel_rfl))
  f48 := Go.Proofs.Tryz.func93.trans (congrArg some (by kernel_rfl))
  f49 := ⟨ "slices.medianAdjacentCmpFunc[annulet/api.ID]", by decide, Go.Proofs.Tryz.func94.trans (congrArg some (by kernel_rfl))⟩
  f50 := ⟨ "slices.medianCmpFunc[annulet/api.ID]", by decide, Go.Proofs.Tryz.func95.trans (congrArg some (by kernel_rfl))⟩
  f57 := ⟨ "slices.order2CmpFunc[annulet/api.ID]", by decide, Go.Proofs.Tryz.func104.trans (congrArg some (by kernel_rfl))⟩
  t0 := Go.Proofs.Tryz.underlying0
  a0 := Go.Proofs.Tryz.isAgg0
  z0 := Go.Proofs.Tryz.sizeOf0
  v0 := Go.Proofs.Tryz.zeroValue0
  t3 := Go.Proofs.Tryz.underlying3
  a3 := Go.Proofs.Tryz.isAgg3
  z3 := Go.Proofs.Tryz.sizeOf3
  v3 := Go.Proofs.Tryz.zeroValue3
  t4 := Go.Proofs.Tryz.underlying4
  a4 := Go.Proofs.Tryz.isAgg4
  z4 := Go.Proofs.Tryz.sizeOf4
  v4 := Go.Proofs.Tryz.zeroValue4
  t5 := Go.Proofs.Tryz.underlying5
  a5 := Go.Proofs.Tryz.isAgg5
  z5 := Go.Proofs.Tryz.sizeOf5
  v5 := Go.Proofs.Tryz.zeroValue5
  t9 := Go.Proofs.Tryz.underlying9
  a9 := Go.Proofs.Tryz.isAgg9
  z9 := Go.Proofs.Tryz.sizeOf9
  v9 := Go.Proofs.Tryz.zeroValue9
  t22 := Go.Proofs.Tryz.underlying39
  a22 := Go.Proofs.Tryz.isAgg39
  z22 := Go.Proofs.Tryz.sizeOf39
  v22 := Go.Proofs.Tryz.zeroValue39
  t25 := Go.Proofs.Tryz.underlying65
  a25 := Go.Proofs.Tryz.isAgg65
  z25 := Go.Proofs.Tryz.sizeOf65
  v25 := Go.Proofs.Tryz.zeroValue65
  t39 := Go.Proofs.Tryz.underlying118
  a39 := Go.Proofs.Tryz.isAgg118
  z39 := Go.Proofs.Tryz.sizeOf118
  v39 := Go.Proofs.Tryz.zeroValue118
  t45 := Go.Proofs.Tryz.underlying148
  a45 := Go.Proofs.Tryz.isAgg148
  z45 := Go.Proofs.Tryz.sizeOf148
  v45 := Go.Proofs.Tryz.zeroValue148
  t46 := Go.Proofs.Tryz.underlying149
  a46 := Go.Proofs.Tryz.isAgg149
  z46 := Go.Proofs.Tryz.sizeOf149
  v46 := Go.Proofs.Tryz.zeroValue149
  t50 := Go.Proofs.Tryz.underlying153
  a50 := Go.Proofs.Tryz.isAgg153
  z50 := Go.Proofs.Tryz.sizeOf153
  v50 := Go.Proofs.Tryz.zeroValue153
  t53 := Go.Proofs.Tryz.underlying156
  a53 := Go.Proofs.Tryz.isAgg156
  z53 := Go.Proofs.Tryz.sizeOf156
  v53 := Go.Proofs.Tryz.zeroValue156
  t55 := Go.Proofs.Tryz.underlying110
  a55 := Go.Proofs.Tryz.isAgg110
  z55 := Go.Proofs.Tryz.sizeOf110
  v55 := Go.Proofs.Tryz.zeroValue110
  t66 := Go.Proofs.Tryz.underlying160
  a66 := Go.Proofs.Tryz.isAgg160
  z66 := Go.Proofs.Tryz.sizeOf160
  v66 := Go.Proofs.Tryz.zeroValue160
  t70 := Go.Proofs.Tryz.underlying164
  a70 := Go.Proofs.Tryz.isAgg164
  z70 := Go.Proofs.Tryz.sizeOf164
  v70 := Go.Proofs.Tryz.zeroValue164
  t76 := Go.Proofs.Tryz.underlying171
  a76 := Go.Proofs.Tryz.isAgg171
  z76 := Go.Proofs.Tryz.sizeOf171
  v76 := Go.Proofs.Tryz.zeroValue171
  t77 := Go.Proofs.Tryz.underlying172
  a77 := Go.Proofs.Tryz.isAgg172
  z77 := Go.Proofs.Tryz.sizeOf172
  v77 := Go.Proofs.Tryz.zeroValue172

instance : Inhabited Idn := ⟨Idn.zero⟩
theorem cmp_lt (x y : Idn) : Go.Proofs.ltOf Idn.cmp x y = decide (x.n < y.n) := by
  unfold Go.Proofs.ltOf
  exact decide_eq_decide.2 (Idn.cmp_lt x y)
theorem cmp_swo : Go.Sort.SWO (Go.Proofs.ltOf Idn.cmp) where
  irrefl x := by rw [cmp_lt]; simp
  trans x y z h1 h2 := by rw [cmp_lt] at *; simp at *; omega
  ntrans x y z h1 h2 := by rw [cmp_lt] at *; simp at *; omega

theorem slices_SortFunc_api_ID (key : Option Nat) (cap : Nat) (l : List Idn) (rs : Array Value) (hlen : l.length < 2 ^ 40) (ho : OwnS 16 key l.length cap rs) (w : World)
    (hm : ∀ b, key = some b → w.heap[b]? = some (.cells (catA (l.map Idn.enc) ++ rs) T_api_ID (0, 0))) :
    Calls PG f_slices_SortFunc_api_ID_api_ID #[slv key l.length cap, .func (.func f_ident_Compare) #[] #[]] w (Ret w key.toList fun v nm => v = .tuple #[] ∧ nm = [(key, .cells (catA ((sortL Idn.cmp l).map Idn.enc) ++ rs) T_api_ID (0, 0))]) := by
  have h := sortFunc_ret lay_slices_SortFunc_api_ID_api_ID (fun w => run_isAggB (w := w) A_api_ID) (fun w => run_sizeB (w := w) Z_api_ID) Idn.size Idn.one Idn.cmp cmp_swo
    (fun x y h1 h2 => Idn.ext_n (by rw [cmp_lt] at *; simp at *; omega)) f_ident_Compare #[] key cap l rs T_api_ID w E_ident_Compare (fun w' _ x y => ident_Compare x y w') hm
    (fun h => List.length_eq_zero_iff.1 (by have := ho.nil h; have := ho.le; omega)) (by omega)
  exact h

theorem ring_Sorted_f1 (x self : Idn) (b : Nat) (w : World) {fr : Nat × Nat} (hb : w.heap[b]? = some (.cells self.enc T_api_ID fr)) :
    Calls PG f_ring_Sorted_f1 #[.agg x.enc, .pointer (some ⟨b, 0, none⟩)] w (Ret w [] fun v nm => v = .bool (decide (x = self)) ∧ nm = []) := by
  refine enter0 (n := 7) (args := [.agg x.enc, .pointer (some ⟨b, 0, none⟩)]) B_ring_Sorted_f1 rfl rfl (by simp) ?_
  refine .seq (.region (?_))
  refine .box rfl rfl (by decide) fun b2 hb2 => ?_
  refine .step (.as rfl) (by decide) ?_
  refine .nil (.then_n (.seq (.region (?_))))
  refine .step (.ldA rfl (.i 0 rfl) A_api_ID Z_api_ID (Idn.size _)) (by decide) ?_
  refine .step (.ldA rfl (.o hb (by simp)) A_api_ID Z_api_ID (Idn.size _)) (by decide) ?_
  refine .step (.eqA (EQ_api_ID _ _) G_api_ID rfl rfl (by decide)) (by decide) ?_
  refine .step (.as rfl) (by decide) ?_
  refine .nil (.then_n (.ret (.ret1 [] (by simp) rfl rfl ⟨rfl, rfl⟩)))

def sorted (self : Idn) (l : List Idn) : List Idn := cmpct (sortL Idn.cmp (keep (fun x => decide (x = self)) l))

theorem adj_len (p : Idn) (l : List Idn) : (adj p l).length ≤ l.length := by
  induction l generalizing p with
  | nil => simp [adj]
  | cons x r ih =>
    simp only [adj]; split
    · have := ih p; simp; omega
    · have := ih x; simp; omega
theorem cmpct_len (l : List Idn) : (cmpct l).length ≤ l.length := by
  cases l with
  | nil => simp [cmpct]
  | cons x r => simp only [cmpct, List.length_cons]; have := adj_len x r; omega
theorem keep_len (q : Idn → Bool) (l : List Idn) : (keep q l).length ≤ l.length := List.length_filter_le _ _
theorem sorted_len (self : Idn) (l : List Idn) : (sorted self l).length ≤ l.length := by
  have h1 := cmpct_len (sortL Idn.cmp (keep (fun x => decide (x = self)) l))
  rw [sortL_len] at h1
  exact Nat.le_trans h1 (keep_len _ _)

theorem ones_list (l : List Idn) : Ones (catA (l.map Idn.enc)) := Ones.cat (by intro q hq; obtain ⟨x, _, rfl⟩ := List.mem_map.1 hq; exact x.one)

theorem ring_Sorted (self : Idn) (p : Option Addr) (cap : Nat) (l : List Idn) (hlen : l.length < 2 ^ 40) (w : World) (hR : IRd w p l) :
    Calls PG f_ring_Sorted #[.agg self.enc, .slice p l.length cap] w (Ret w [] (RetL Idn.enc 16 T_api_ID (sorted self l))) := by
  have hRd := hR
  refine enter0 (n := 15) (args := [.agg self.enc, .slice p l.length cap]) B_ring_Sorted rfl rfl (by simp) ?_
  refine .seq (.region (?_))
  refine .box rfl rfl (by decide) fun b2 hb2 => ?_
  refine .step (.as rfl) (by decide) ?_
  refine .nil (.then_n (.seq (.region (?_))))
  refine .step (.mv rfl) (by decide) ?_
  refine .call0 rfl E_slices_Clone_api_ID_api_ID rfl rfl (fun w' _ hf => slices_Clone_api_ID p cap l hlen w' (hRd.fr hf)) (by decide) fun v nm hR => ?_
  obtain ⟨k1, c1, rs1, rfl, rfl, ho1⟩ := hR
  refine .step (.mf rfl rfl) (by decide) ?_
  refine .callK 0 rfl rfl E_slices_DeleteFunc_api_ID_api_ID rfl rfl (fun w' hm hf ha => slices_DeleteFunc_api_ID k1 c1 l rs1 hlen ho1 f_ring_Sorted_f1 #[.pointer (some ⟨b2, 0, none⟩)] (fun x => decide (x = self)) E_ring_Sorted_f1 w' (hm.atK 0 rfl)
      (fun w'' hf'' x => ring_Sorted_f1 x self b2 w'' (hf''.keepK (hm.at 1 rfl) (ha _ (List.mem_singleton.2 rfl))))) (by decide) fun v nm hR => ?_
  obtain ⟨rfl, rs2, rfl, ho2⟩ := hR
  have hl2 : (keep (fun x => decide (x = self)) l).length < 2 ^ 40 := Nat.lt_of_le_of_lt (keep_len _ _) hlen
  refine .step (.as rfl) (by decide) ?_
  refine .nil (.then_n (.seq (.region (?_))))
  refine .step (.mv rfl) (by decide) ?_
  refine .callK 0 rfl rfl E_slices_SortFunc_api_ID_api_ID rfl rfl (fun w' hm hf ha => slices_SortFunc_api_ID k1 c1 _ rs2 hl2 ho2 w' (hm.atK 0 rfl)) (by decide) fun v nm hR => ?_
  obtain ⟨rfl, rfl⟩ := hR
  have ho3 : OwnS 16 k1 (sortL Idn.cmp (keep (fun x => decide (x = self)) l)).length c1 rs2 := by rw [sortL_len]; exact ho2
  refine .nil (.then_n (.seq (.region (?_))))
  refine .step (.mv rfl) (by decide) ?_
  refine .callK 0 rfl rfl E_slices_Compact_api_ID_api_ID rfl (by rw [← sortL_len Idn.cmp]; rfl) (fun w' hm hf ha => slices_Compact_api_ID k1 c1 _ rs2 (by rw [sortL_len]; exact hl2) ho3 w' (hm.atK 0 rfl)) (by decide) fun v nm hR => ?_
  obtain ⟨rfl, rs4, rfl, ho4⟩ := hR
  have hsl := sorted_len self l
  refine .non (o := .cells (#[] ++ #[]) T_api_ID (0, 0)) ?_
  refine .app (key := none) (len := 0) (cap := 0) (xs := #[]) (rs := #[]) 0 rfl rfl rfl (Src.own (i := 1) Idn.size rfl ho4) L_sl_api_ID rfl Z_api_ID Y_api_ID N_api_ID rfl (by decide) rfl rfl (Nat.le_refl _) (fun _ => rfl) (ones_list _) (by rw [Nat.zero_add]; unfold sorted at hsl; omega) (by decide) fun key14 cap14 rs14 hrs14 hle14 hnil14 => ?_
  refine .step (.as rfl) (by decide) ?_
  refine .nil (.then_n (.ret (.ret1 [_] (.cons_cons _ (.cons _ (.cons _ .slnil))) rfl rfl ⟨key14, cap14, rs14, by rw [Nat.zero_add]; rfl, by rw [Array.empty_append]; rfl, ⟨by rw [Nat.zero_add] at hrs14; exact hrs14, by rw [Nat.zero_add] at hle14; exact hle14, hnil14⟩⟩)))

end Go.Fx
