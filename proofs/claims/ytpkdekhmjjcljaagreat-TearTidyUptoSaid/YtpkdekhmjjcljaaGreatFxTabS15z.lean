/- The keys of a table's map, sorted. -/
import Derived.Test.YtpkdekhmjjcljaaGreatFxTab15z
import Derived.Test.YtpkdekhmjjcljaaGreatFxKeysP15z
import Derived.Test.YtpkdekhmjjcljaaGreatFxRing15z
namespace Go.Fx
set_option maxRecDepth 10000

/-! ### the order of paths -/
def pathLt (a b : api_Path) : Bool := if a.Who = b.Who then decide (a.N < b.N) else decide (a.Who.n < b.Who.n)
def pathCmp (a b : api_Path) : Int := if pathLt a b then -1 else if pathLt b a then 1 else 0
theorem cmp_ne {a b : Idn} (h : a ≠ b) : Idn.cmp a b = if a.n < b.n then -1 else 1 := by
  have : a.n ≠ b.n := fun e => h (Idn.ext_n e)
  unfold Idn.cmp
  split
  · rfl
  · rw [if_pos (by omega)]
theorem table_Less_eq (a b : api_Path) : F_table_Less a b = some (pathLt a b) := by
  unfold F_table_Less pathLt
  by_cases h : a.Who = b.Who
  · simp [h, Idn.cmp]
  · simp only [h, if_false, cmp_ne h]
    split <;> simp_all
theorem pathLt_irrefl (a : api_Path) : pathLt a a = false := by simp [pathLt]
theorem pathLt_ne {a b : api_Path} (h : a.Who ≠ b.Who) : pathLt a b = decide (a.Who.n < b.Who.n) := by unfold pathLt; rw [if_neg h]
theorem pathLt_eq {a b : api_Path} (h : a.Who = b.Who) : pathLt a b = decide (a.N < b.N) := by unfold pathLt; rw [if_pos h]
theorem pathLt_asymm {a b : api_Path} (h : pathLt a b = true) : pathLt b a = false := by
  by_cases e : a.Who = b.Who
  · rw [pathLt_eq e] at h; rw [pathLt_eq e.symm]; simp at h ⊢; omega
  · rw [pathLt_ne e] at h; rw [pathLt_ne (fun h => e h.symm)]; simp at h ⊢; omega
theorem pathLt_total {a b : api_Path} (h1 : pathLt a b = false) (h2 : pathLt b a = false) : a = b := by
  by_cases e : a.Who = b.Who
  · rw [pathLt_eq e] at h1; rw [pathLt_eq e.symm] at h2
    simp at h1 h2
    cases a; cases b; simp only at *; subst e; congr; omega
  · rw [pathLt_ne e] at h1; rw [pathLt_ne (fun h => e h.symm)] at h2
    simp at h1 h2
    exact absurd (Idn.ext_n (by omega)) e
theorem pathLt_trans {a b c : api_Path} (h1 : pathLt a b = true) (h2 : pathLt b c = true) : pathLt a c = true := by
  unfold pathLt at *
  by_cases e : a.Who = b.Who
  · by_cases f : b.Who = c.Who
    · simp [e, f] at h1 h2 ⊢; omega
    · simp [e, f] at h1 h2 ⊢; omega
  · by_cases f : b.Who = c.Who
    · rw [f] at e; rw [f] at h1
      simp [e] at h1 ⊢; omega
    · simp [e, f] at h1 h2
      by_cases g : a.Who = c.Who
      · rw [g] at h1; omega
      · simp [g]; omega
theorem table_order_eq (a b : api_Path) : F_table_order a b = some (pathCmp a b) := by
  unfold F_table_order pathCmp
  simp only [table_Less_eq, Option.bind_some]
  cases pathLt a b <;> cases pathLt b a <;> rfl

def lay_slices_SortFunc_api_Path_api_Path_ren : Go.Shelf.Ren := ⟨fun | 6 => 75 | 15 => 72 | 14 => 90 | 28 => 87 | 29 => 88 | 20 => 96 | 21 => 97 | 22 => 98 | 23 => 99 | 24 => 100 | 25 => 101 | 26 => 102 | 27 => 103 | 46 => 105 | 47 => 92 | 48 => 93 | 49 => 106 | 50 => 107 | 57 => 108 | n => n, fun | 22 => 43 | 24 => 31 | 25 => 105 | 3 => 3 | 39 => 118 | 0 => 0 | 53 => 156 | 55 => 110 | 4 => 4 | 46 => 149 | 45 => 148 | 50 => 153 | 5 => 5 | 9 => 9 | 66 => 160 | 70 => 164 | 76 => 171 | 77 => 172 | n => n, fun | n => n⟩
theorem lay_slices_SortFunc_api_Path_api_Path : Go.Proofs.SlLaysF0.n6 PG lay_slices_SortFunc_api_Path_api_Path_ren where
  mixed := by kernel_rfl
  f6 := ⟨ "slices.SortFunc[[]annulet/api.Path,annulet/api.Path]", by decide, Go.Proofs.Tryz.func75.trans (congrArg some (by kernel_rfl))⟩
  f14 := ⟨ "slices.pdqsortCmpFunc[annulet/api.Path]", by decide, Go.Proofs.Tryz.func90.trans (congrArg some (by kernel_rfl))⟩
  f15 := Go.Proofs.Tryz.func72.trans (congrArg some (by kernel_rfl))
  f20 := ⟨ "slices.insertionSortCmpFunc[annulet/api.Path]", by decide, Go.Proofs.Tryz.func96.trans (congrArg some (by kernel_rfl))⟩
  f21 := ⟨ "slices.heapSortCmpFunc[annulet/api.Path]", by decide, Go.Proofs.Tryz.func97.trans (congrArg some (by kernel_rfl))⟩
  f22 := ⟨ "slices.breakPatternsCmpFunc[annulet/api.Path]", by decide, Go.Proofs.Tryz.func98.trans (congrArg some (by kernel_rfl))⟩
  f23 := ⟨ "slices.choosePivotCmpFunc[annulet/api.Path]", by decide, Go.Proofs.Tryz.func99.trans (congrArg some (by kernel_rfl))⟩
  f24 := ⟨ "slices.reverseRangeCmpFunc[annulet/api.Path]", by decide, Go.Proofs.Tryz.func100.trans (congrArg some (by kernel_rfl))⟩
  f25 := ⟨ "slices.partialInsertionSortCmpFunc[annulet/api.Path]", by decide, Go.Proofs.Tryz.func101.trans (congrArg some (by kernel_rfl))⟩
  f26 := ⟨ "slices.partitionEqualCmpFunc[annulet/api.Path]", by decide, Go.Proofs.Tryz.func102.trans (congrArg some (by kernel_rfl))⟩
  f27 := ⟨ "slices.partitionCmpFunc[annulet/api.Path]", by decide, Go.Proofs.Tryz.func103.trans (congrArg some (by kernel_rfl))⟩
  f28 := Go.Proofs.Tryz.func87.trans (congrArg some (by kernel_rfl))
  f29 := Go.Proofs.Tryz.func88.trans (congrArg some (by kernel_rfl))
  f46 := ⟨ "slices.siftDownCmpFunc[annulet/api.Path]", by decide, Go.Proofs.Tryz.func105.trans (congrArg some (by kernel_rfl))⟩
  f47 := Go.Proofs.Tryz.func92.trans (congrArg some (by kernel_rfl))
  f48 := Go.Proofs.Tryz.func93.trans (congrArg some (by kernel_rfl))
  f49 := ⟨ "slices.medianAdjacentCmpFunc[annulet/api.Path]", by decide, Go.Proofs.Tryz.func106.trans (congrArg some (by kernel_rfl))⟩
  f50 := ⟨ "slices.medianCmpFunc[annulet/api.Path]", by decide, Go.Proofs.Tryz.func107.trans (congrArg some (by kernel_rfl))⟩
  f57 := ⟨ "slices.order2CmpFunc[annulet/api.Path]", by decide, Go.Proofs.Tryz.func108.trans (congrArg some (by kernel_rfl))⟩
  t0 := Go.Proofs.Tryz.underlying0
  a0 := Go.Proofs.Tryz.isAgg0
  z0 := Go.Proofs.Tryz.sizeOf0
  v0 := Go.Proofs.Tryz.zeroValue0
  t3 := Go.Proofs.Tryz.underlying3
  a3 := Go.Proofs.Tryz.isAgg3
  z3 := Go.Proofs.Tryz.sizeOf3
  v3 := Go.Proofs.Tryz.zeroValue3
  t4 := Go.Proofs.Tryz.underlying4
  a4 := Go.Proofs.Tryz.isAgg4
  z4 := Go.Proofs.Tryz.sizeOf4
  v4 := Go.Proofs.Tryz.zeroValue4
  t5 := Go.Proofs.Tryz.underlying5
  a5 := Go.Proofs.Tryz.isAgg5
  z5 := Go.Proofs.Tryz.sizeOf5
  v5 := Go.Proofs.Tryz.zeroValue5
  t9 := Go.Proofs.Tryz.underlying9
  a9 := Go.Proofs.Tryz.isAgg9
  z9 := Go.Proofs.Tryz.sizeOf9
  v9 := Go.Proofs.Tryz.zeroValue9
  t22 := Go.Proofs.Tryz.underlying43
  a22 := Go.Proofs.Tryz.isAgg43
  z22 := Go.Proofs.Tryz.sizeOf43
  v22 := Go.Proofs.Tryz.zeroValue43
  t25 := Go.Proofs.Tryz.underlying105
  a25 := Go.Proofs.Tryz.isAgg105
  z25 := Go.Proofs.Tryz.sizeOf105
  v25 := Go.Proofs.Tryz.zeroValue105
  t39 := Go.Proofs.Tryz.underlying118
  a39 := Go.Proofs.Tryz.isAgg118
  z39 := Go.Proofs.Tryz.sizeOf118
  v39 := Go.Proofs.Tryz.zeroValue118
  t45 := Go.Proofs.Tryz.underlying148
  a45 := Go.Proofs.Tryz.isAgg148
  z45 := Go.Proofs.Tryz.sizeOf148
  v45 := Go.Proofs.Tryz.zeroValue148
  t46 := Go.Proofs.Tryz.underlying149
  a46 := Go.Proofs.Tryz.isAgg149
  z46 := Go.Proofs.Tryz.sizeOf149
  v46 := Go.Proofs.Tryz.zeroValue149
  t50 := Go.Proofs.Tryz.underlying153
  a50 := Go.Proofs.Tryz.isAgg153
  z50 := Go.Proofs.Tryz.sizeOf153
  v50 := Go.Proofs.Tryz.zeroValue153
  t53 := Go.Proofs.Tryz.underlying156
  a53 := Go.Proofs.Tryz.isAgg156
  z53 := Go.Proofs.Tryz.sizeOf156
  v53 := Go.Proofs.Tryz.zeroValue156
  t55 := Go.Proofs.Tryz.underlying110
  a55 := Go.Proofs.Tryz.isAgg110
  z55 := Go.Proofs.Tryz.sizeOf110
  v55 := Go.Proofs.Tryz.zeroValue110
  t66 := Go.Proofs.Tryz.underlying160
  a66 := Go.Proofs.Tryz.isAgg160
  z66 := Go.Proofs.Tryz.sizeOf160
  v66 := Go.Proofs.Tryz.zeroValue160
  t70 := Go.Proofs.Tryz.underlying164
  a70 := Go.Proofs.Tryz.isAgg164
  z70 := Go.Proofs.Tryz.sizeOf164
  v70 := Go.Proofs.Tryz.zeroValue164
  t76 := Go.Proofs.Tryz.underlying171
  a76 := Go.Proofs.Tryz.isAgg171
  z76 := Go.Proofs.Tryz.sizeOf171
  v76 := Go.Proofs.Tryz.zeroValue171
  t77 := Go.Proofs.Tryz.underlying172
  a77 := Go.Proofs.Tryz.isAgg172
  z77 := Go.Proofs.Tryz.sizeOf172
  v77 := Go.Proofs.Tryz.zeroValue172

instance : Inhabited api_Path := ⟨api_Path.zero⟩
theorem pcmp_lt (x y : api_Path) : Go.Proofs.ltOf pathCmp x y = pathLt x y := by
  unfold Go.Proofs.ltOf pathCmp
  cases h : pathLt x y
  · cases pathLt y x <;> simp
  · simp
theorem pcmp_swo : Go.Sort.SWO (Go.Proofs.ltOf pathCmp) where
  irrefl x := by rw [pcmp_lt]; exact pathLt_irrefl x
  trans x y z h1 h2 := by rw [pcmp_lt] at *; exact pathLt_trans h1 h2
  ntrans x y z h1 h2 := by
    rw [pcmp_lt] at *
    cases h : pathLt x z with
    | false => rfl
    | true =>
      cases h3 : pathLt y x with
      | true => rw [pathLt_trans h3 h] at h2; cases h2
      | false =>
        have := pathLt_total h1 h3
        subst this
        rw [h] at h2; cases h2
theorem slices_SortFunc_api_Path (key : Option Nat) (cap : Nat) (l : List api_Path) (rs : Array Value) (hlen : l.length < 2 ^ 40) (ho : OwnS 17 key l.length cap rs) (w : World)
    (hm : ∀ b, key = some b → w.heap[b]? = some (.cells (catA (l.map api_Path.enc) ++ rs) T_api_Path (0, 0))) :
    Calls PG f_slices_SortFunc_api_Path_api_Path #[slv key l.length cap, .func (.func f_table_order) #[] #[]] w (Ret w key.toList fun v nm => v = .tuple #[] ∧ nm = [(key, .cells (catA ((sortL pathCmp l).map api_Path.enc) ++ rs) T_api_Path (0, 0))]) := by
  have h := sortFunc_ret lay_slices_SortFunc_api_Path_api_Path (fun w => run_isAggB (w := w) A_api_Path) (fun w => run_sizeB (w := w) Z_api_Path) api_Path.size api_Path.one pathCmp pcmp_swo
    (fun x y h1 h2 => by rw [pcmp_lt] at *; exact pathLt_total h1 h2) f_table_order #[] key cap l rs T_api_Path w E_table_order (fun w' _ x y => W_table_order x y _ (table_order_eq x y) w') hm
    (fun h => List.length_eq_zero_iff.1 (by have := ho.nil h; have := ho.le; omega)) (by omega)
  exact h

/-! ### collected, sorted -/
theorem maps_Keys_api_Path (mb : Nat) (w : World) : Calls PG f_maps_Keys_map_api_Path_api_Entry_api_Path_api_Entry #[.map (some mb)] w (Ret w [] fun v nm => ∃ bx, v = .func (.func f_maps_Keys_map_api_Path_api_Entry_api_Path_api_Entry_f1) #[] #[.pointer (some ⟨bx, 0, none⟩)] ∧ nm = [(some bx, .cells #[.map (some mb)] T_map_api_Path_api_Entry (0, 0))]) := by
  refine enter0 (n := 4) (args := [.map (some mb)]) B_maps_Keys_map_api_Path_api_Entry_api_Path_api_Entry rfl rfl (by simp) ?_
  refine .seq (.region (?_))
  refine .box rfl rfl (by decide) fun b1 hb1 => ?_
  refine .step (.as rfl) (by decide) ?_
  refine .nil (.then_n (.seq (.region (?_))))
  refine .step (.mf rfl rfl) (by decide) ?_
  refine .step (.as rfl) (by decide) ?_
  exact .nil (.then_n (.ret (.ret1 [_] (.refl _) rfl rfl ⟨b1, rfl, rfl⟩)))

theorem slices_Collect_api_Path (bx mb : Nat) (t : MS api_Path api_Entry) (w : World) {T : TypeId} {fr : Nat × Nat} (hbx : w.heap[bx]? = some (.cells #[.map (some mb)] T fr)) (hmb : w.heap[mb]? = some (mobj t)) (hlen : t.len < 68719476736) :
    Calls PG f_slices_Collect_api_Path #[.func (.func f_maps_Keys_map_api_Path_api_Entry_api_Path_api_Entry_f1) #[] #[.pointer (some ⟨bx, 0, none⟩)]] w (Ret w [] fun v nm => ∃ xs : List api_Path, xs.Perm (t.l.map (·.key)) ∧ RetL api_Path.enc 17 T_api_Path xs v nm) := by
  refine enter0 (n := 5) (args := [.func (.func f_maps_Keys_map_api_Path_api_Entry_api_Path_api_Entry_f1) #[] #[.pointer (some ⟨bx, 0, none⟩)]]) B_slices_Collect_api_Path rfl rfl (by simp) ?_
  refine .seq (.region (?_))
  refine .step (.as rfl) (by decide) ?_
  refine .nil (.then_n (.seq (.region (?_))))
  refine .step (.mv rfl) (by decide) ?_
  refine .call0 rfl E_slices_AppendSeq_api_Path_api_Path rfl rfl (fun w' hm hf => appendSeq_api_Path _ _ E_maps_Keys_map_api_Path_api_Entry_api_Path_api_Entry_f1 _ w' t.len hlen fun l J W hW hJ hY h0 => iter_api_Path bx mb l t J W (hW.keep (hf.keep hbx)) (hW.keep (hf.keep hmb)) hJ hY h0) (by decide) fun v nm hR => ?_
  obtain ⟨xs, hp, key, cap, rs, rfl, rfl, ho⟩ := hR
  refine .step (.as rfl) (by decide) ?_
  exact .nil (.then_n (.ret (.ret1 [_] (.refl _) rfl rfl ⟨xs, hp, key, cap, rs, rfl, rfl, ho⟩)))

/-- a list of paths, sorted: whatever order they came in -/
theorem sortP_perm {a b : List api_Path} (h : a.Perm b) : sortL pathCmp a = sortL pathCmp b := by
  have hp : (sortL pathCmp a).Perm (sortL pathCmp b) := (List.mergeSort_perm _ _).trans (h.trans (List.mergeSort_perm _ _).symm)
  have hs : ∀ l : List api_Path, (sortL pathCmp l).Pairwise fun x y => pathLt y x = false := by
    intro l
    have := List.pairwise_mergeSort (le := fun x y => !(Go.Proofs.ltOf pathCmp) y x) (fun x y z h1 h2 => by
      rw [pcmp_lt] at *
      simp only [Bool.not_eq_true'] at *
      cases h : pathLt z x with
      | false => rfl
      | true =>
        cases h3 : pathLt x y with
        | true => rw [pathLt_trans h h3] at h2; cases h2
        | false => have := pathLt_total h3 h1; subst this; rw [h] at h2; cases h2) (fun x y => by
      rw [pcmp_lt, pcmp_lt]
      cases h : pathLt y x with
      | false => rfl
      | true => rw [pathLt_asymm h]; rfl) l
    refine this.imp ?_
    intro x y h
    rw [pcmp_lt] at h
    simpa using h
  exact hp.eq_of_pairwise (fun x y _ _ h1 h2 => pathLt_total h2 h1) (hs a) (hs b)

def keysS (t : MS api_Path api_Entry) : List api_Path := sortL pathCmp (t.l.map (·.key))

theorem slices_SortedFunc_api_Path (bx mb : Nat) (t : MS api_Path api_Entry) (w : World) {T : TypeId} {fr : Nat × Nat} (hbx : w.heap[bx]? = some (.cells #[.map (some mb)] T fr)) (hmb : w.heap[mb]? = some (mobj t)) (hlen : t.len < 68719476736) :
    Calls PG f_slices_SortedFunc_api_Path #[.func (.func f_maps_Keys_map_api_Path_api_Entry_api_Path_api_Entry_f1) #[] #[.pointer (some ⟨bx, 0, none⟩)], .func (.func f_table_order) #[] #[]] w (Ret w [] (RetL api_Path.enc 17 T_api_Path (keysS t))) := by
  refine enter0 (n := 12) (args := [.func (.func f_maps_Keys_map_api_Path_api_Entry_api_Path_api_Entry_f1) #[] #[.pointer (some ⟨bx, 0, none⟩)], .func (.func f_table_order) #[] #[]]) B_slices_SortedFunc_api_Path rfl rfl (by simp) ?_
  refine .seq (.region (?_))
  refine .step (.as rfl) (by decide) ?_
  refine .nil (.then_n (.seq (.region (?_))))
  refine .step (.mv rfl) (by decide) ?_
  refine .call0 rfl E_slices_Collect_api_Path rfl rfl (fun w' hm hf => slices_Collect_api_Path bx mb t w' (hf.keep hbx) (hf.keep hmb) hlen) (by decide) fun v nm hR => ?_
  obtain ⟨xs, hp, key, cap, rs, rfl, rfl, ho⟩ := hR
  have hxl : xs.length < 68719476736 := by rw [hp.length_eq, List.length_map]; exact hlen
  refine .step (.as rfl) (by decide) ?_
  refine .nil (.then_n (.seq (.region (?_))))
  refine .step (.mv rfl) (by decide) ?_
  refine .step (.mv rfl) (by decide) ?_
  refine .callK 0 rfl rfl E_slices_SortFunc_api_Path_api_Path rfl rfl (fun w' hm hf _ => slices_SortFunc_api_Path key cap xs rs (by omega) ho w' (hm.atK 0 rfl)) (by decide) fun v nm hR => ?_
  obtain ⟨rfl, rfl⟩ := hR
  refine .nil (.then_n (.seq (.region (?_))))
  refine .step (.mv rfl) (by decide) ?_
  refine .step (.as rfl) (by decide) ?_
  have he : sortL pathCmp xs = keysS t := sortP_perm hp
  rw [he]
  have hl : (keysS t).length = xs.length := by rw [← he, sortL_len]
  exact .nil (.then_n (.ret (.ret1 [_] (.refl _) rfl rfl ⟨key, cap, rs, by rw [hl], rfl, by rw [hl]; exact ho⟩)))
def keysF (t : MS api_Path api_Entry) : Option (List api_Path) := if t.len < 68719476736 then some (keysS t) else none
theorem W_sorted_api_Path (bx mb : Nat) (t : MS api_Path api_Entry) (r : List api_Path) (H : keysF t = some r) (w : World) {T : TypeId} {fr : Nat × Nat} (hbx : w.heap[bx]? = some (.cells #[.map (some mb)] T fr)) (hmb : w.heap[mb]? = some (mobj t)) :
    Calls PG f_slices_SortedFunc_api_Path #[.func (.func f_maps_Keys_map_api_Path_api_Entry_api_Path_api_Entry_f1) #[] #[.pointer (some ⟨bx, 0, none⟩)], .func (.func f_table_order) #[] #[]] w (Ret w [] (RetL api_Path.enc 17 T_api_Path r)) := by
  unfold keysF at H
  split at H
  · cases H; exact slices_SortedFunc_api_Path bx mb t w hbx hmb ‹_›
  · cases H
end Go.Fx
