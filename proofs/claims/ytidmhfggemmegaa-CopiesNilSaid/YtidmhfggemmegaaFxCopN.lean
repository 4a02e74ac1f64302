/- The chapter's examples, and the nil book. -/
import Derived.Test.YtidmhfggemmegaaFxCop
namespace Go.Fx
set_option maxRecDepth 10000

/-- an identity of one byte -/
def Idn.byte (x : Nat) : Idn := ⟨x % M128, Nat.mod_lt _ M128_pos⟩
theorem byte_enc {x : Nat} (hx : x < 256) : bytesA ((List.replicate 16 0).set 15 x) = (Idn.byte x).enc := by
  obtain ⟨z, hz, hn⟩ := Idn.of_bytes ((List.replicate 16 0).set 15 x) (by simp) (by
    intro b hb
    rcases List.mem_or_eq_of_mem_set hb with hb | hb
    · rw [List.eq_of_mem_replicate hb]; decide
    · omega)
  have hz' : bytesA ((List.replicate 16 0).set 15 x) = z.enc := hz.symm
  rw [hz']
  congr 1
  apply Idn.ext_n
  rw [hn]
  show numOf [0, 0, 0, 0, 0, 0, 0, 0, 0, 0, 0, 0, 0, 0, 0, x] = x % M128
  rw [Nat.mod_eq_of_lt (Nat.lt_trans hx (by decide))]
  simp [numOf]

theorem law_n (x : Nat) (hx : x < 256) (w : World) : Calls PG f_annuletlaw19_n #[.int .u8 (x : Nat)] w (Ret w [] fun v nm => v = .agg (Idn.byte x).enc ∧ nm = []) := by
  refine enter0 (n := 5) (args := [.int .u8 (x : Nat)]) B_annuletlaw19_n rfl rfl (by simp) ?_
  refine .seq (.region (?_))
  refine .alloc N_api_ID rfl (by decide) fun b2 hb2 => ?_
  refine .nil (.then_n (.seq (.region (?_))))
  refine .step (.mv rfl) (by decide) ?_
  refine .step (.bdA rfl N_api_ID rfl R_api_ID Z_uint8 (.cons rfl rfl (by decide) (c1 := (Idn.byte x).enc) (by rw [Idn.zero_enc, ← byte_enc hx]; exact putB rfl (by simp)) .nil)) (by decide) ?_
  refine .storeA 0 rfl rfl rfl rfl Z_api_ID (Idn.size _) (Idn.one _) (Idn.size _) ?_
  refine .nil (.then_n (.ret (.retR1 [] (by simp) rfl (.ce rfl (.i 0 rfl) A_api_ID Z_api_ID (Idn.size _)) ⟨rfl, rfl⟩)))

theorem copies_New (w : World) : Calls PG f_copies_New #[] w (Ret w [] fun v nm => ∃ b1 b2, v = .pointer (some ⟨b2, 0, none⟩) ∧ nm = [(some b2, .cells (copies_Book.enc ⟨.map (some b1)⟩) T_copies_Book (0, 0)), (some b1, .map #[] 0)]) := by
  refine enter0 (n := 4) (args := []) B_copies_New rfl rfl (by simp) ?_
  refine .seq (.region (?_))
  refine .step (.as rfl) (by decide) ?_
  refine .nil (.then_n (.seq (.region (?_))))
  refine .mkm (by decide) fun b1 hb1 => ?_
  refine .step (.bdS rfl N_copies_Book rfl W_copies_Book (.cons rfl rfl (le_of (copies_Book.size _) (by decide)) (copies_Book.u_m _ _) (.nil))) (by decide) ?_
  refine .box rfl rfl (by decide) fun b3 hb3 => ?_
  refine .step (.as rfl) (by decide) ?_
  refine .nil (.then_n (.ret (.ret1 [_, _] (.refl _) rfl rfl ⟨b1, b3, rfl, rfl⟩)))

theorem fx1 : rootB (.byte 5) [.byte 9, .byte 20] (.byte 6) = true := by decide
theorem fx_sort : sorted (.byte 5) [.byte 9, .byte 20] = [.byte 9, .byte 20] := by
  have h1 : keep (fun x => decide (x = Idn.byte 5)) [.byte 9, .byte 20] = [.byte 9, .byte 20] := by decide
  have h2 : sortL Idn.cmp [Idn.byte 9, Idn.byte 20] = [.byte 9, .byte 20] := by
    unfold sortL
    refine List.mergeSort_of_pairwise ?_
    decide
  unfold sorted
  rw [h1, h2]
  decide
theorem fx2 : owed (.byte 5) [.byte 9, .byte 20] (.byte 6) = [.byte 9, .byte 20] := by
  unfold owed
  rw [fx_sort, fx1]
  rfl
theorem fx3 : owed (.byte 5) [.byte 9, .byte 20] (.byte 10) = [.byte 9] := by
  unfold owed
  rw [fx_sort]
  decide

theorem law_fixed (w : World) : Calls PG f_annuletlaw19_fixed #[] w (Ret w [] fun v nm => v = .bool true ∧ nm = []) := by
  refine enter0 (n := 30) (args := []) B_annuletlaw19_fixed rfl rfl (by simp) ?_
  refine .seq (.region (?_))
  refine .step (.as rfl) (by decide) ?_
  refine .nil (.then_n (.seq (.region (?_))))
  refine .callQ rfl E_annuletlaw19_n rfl rfl (fun w _ _ => law_n _ (by decide) w) (by decide) ?_
  refine .callQ rfl E_annuletlaw19_n rfl rfl (fun w _ _ => law_n _ (by decide) w) (by decide) ?_
  refine .bsL (vs := [.agg (Idn.byte 9).enc, .agg (Idn.byte 20).enc]) (c := catA ([Idn.byte 9, Idn.byte 20].map Idn.enc) ++ #[]) (len := 2) L_sl_api_ID Z_api_ID N_api_ID rfl rfl (by intro v hv; simp only [List.mem_cons, List.not_mem_nil, or_false] at hv; rcases hv with rfl | rfl <;> exact Idn.size _) (by rw [Array.append_empty]; rfl) (by decide) (by decide) (by decide) fun b4 hb4 => ?_
  refine .step (.as rfl) (by decide) ?_
  refine .nil (.then_n (.seq (.drawsI [0] rfl rfl ?_)))
  refine .first [1] 25 rfl (by kernel_rfl) (by kernel_rfl) ?_
  refine .s_step rfl rfl rfl (.mv rfl) (by decide) ?_
  refine .s_nil ?_
  refine .only (i := 0) (.refl _) (by kernel_rfl) rfl ?_  -- op 0
  refine .callQ rfl E_annuletlaw19_n rfl rfl (fun w _ _ => law_n _ (by decide) w) (by decide) ?_
  refine .nil (.then_n ?_)
  refine .only (i := 2) (.refl _) (by kernel_rfl) rfl ?_  -- op 2
  refine .callQ rfl E_annuletlaw19_n rfl rfl (fun w _ _ => law_n _ (by decide) w) (by decide) ?_
  refine .nil (.then_n ?_)
  refine .only (i := 3) (.refl _) (by kernel_rfl) rfl ?_  -- op 3
  refine .callQ rfl E_copies_Root rfl rfl (fun w hm hf => copies_Root (.byte 5) (.byte 6) (some ⟨b4, 0, none⟩) 2 [.byte 9, .byte 20] (by decide) w (.own Idn.size (hm.at 0 rfl))) (by decide) ?_
  refine .nil (.then_n ?_)
  refine .first [4] 21 rfl (by kernel_rfl) (by kernel_rfl) ?_
  refine .s_step rfl rfl rfl (.mv rfl) (by decide) ?_
  refine .s_nil ?_
  refine .splitb 9 rfl (fun h1 => ?_) (fun h1 => absurd h1 (by rw [fx1]; decide))
  refine .first [6, 9] 19 rfl (by kernel_rfl) (by kernel_rfl) ?_
  refine .s_stepg rfl rfl rfl rfl (.mv rfl) (by decide) ?_
  refine .s_stepg rfl rfl rfl rfl (.mv rfl) (by decide) ?_
  refine .s_nil ?_
  refine .only (i := 5) (.refl _) (by kernel_rfl) rfl ?_  -- op 5
  refine .gd rfl ?_
  refine .callQ rfl E_annuletlaw19_n rfl rfl (fun w _ _ => law_n _ (by decide) w) (by decide) ?_
  refine .nil (.then_n ?_)
  refine .only (i := 7) (.refl _) (by kernel_rfl) rfl ?_  -- op 7
  refine .gd rfl ?_
  refine .callQ rfl E_annuletlaw19_n rfl rfl (fun w _ _ => law_n _ (by decide) w) (by decide) ?_
  refine .nil (.then_n ?_)
  refine .only (i := 8) (.refl _) (by kernel_rfl) rfl ?_  -- op 8
  refine .gd rfl ?_
  refine .call0 rfl E_copies_Owed rfl rfl (fun w hm hf => copies_Owed (.byte 5) (.byte 6) (some ⟨b4, 0, none⟩) 2 [.byte 9, .byte 20] (by decide) w (.own Idn.size (hm.at 0 rfl))) (by decide) fun v nm hR => ?_
  obtain ⟨key13, cap13, rs13, rfl, rfl, ho13⟩ := hR
  refine .nil (.then_n ?_)
  refine .only (i := 10) (.cons _ (.refl _)) (by kernel_rfl) rfl ?_  -- op 10
  refine .gd rfl ?_
  refine .callQ rfl E_annuletref01_SameIDs rfl rfl (fun w hm hf => ref01_SameIDs (key13.map fun b => ⟨b, 0, none⟩) (some ⟨b4, 0, none⟩) cap13 2 _ [.byte 9, .byte 20] (by rw [fx2]; decide) (by decide) w (.ownM (i := 0) hm Idn.size rfl ho13) (.own Idn.size (hm.at 1 rfl))) (by decide) ?_
  refine .nil (.then_n ?_)
  refine .first [11, 12] 13 rfl (by kernel_rfl) (by kernel_rfl) ?_
  refine .s_step rfl rfl rfl (.pk_t rfl rfl) (by decide) ?_
  refine .s_step rfl rfl rfl (.mv rfl) (by decide) ?_
  refine .s_nil ?_
  refine .splitb 17 rfl (fun h2 => ?_) (fun h2 => absurd h2 (by rw [fx2]; decide))
  refine .first [14, 17, 18] 10 rfl (by kernel_rfl) (by kernel_rfl) ?_
  refine .s_stepg rfl rfl rfl rfl (.mv rfl) (by decide) ?_
  refine .s_stepg rfl rfl rfl rfl (.mv rfl) (by decide) ?_
  refine .s_stepg rfl rfl rfl rfl (.slH L_sl_api_ID (by kernel_rfl) rfl rfl (by omega) (by omega)) (by decide) ?_
  refine .s_nil ?_
  refine .only (i := 13) (.cons _ (.refl _)) (by kernel_rfl) rfl ?_  -- op 13
  refine .gd rfl ?_
  refine .callQ rfl E_annuletlaw19_n rfl rfl (fun w _ _ => law_n _ (by decide) w) (by decide) ?_
  refine .nil (.then_n ?_)
  refine .only (i := 15) (.cons _ (.refl _)) (by kernel_rfl) rfl ?_  -- op 15
  refine .gd rfl ?_
  refine .callQ rfl E_annuletlaw19_n rfl rfl (fun w _ _ => law_n _ (by decide) w) (by decide) ?_
  refine .nil (.then_n ?_)
  refine .only (i := 16) (.cons _ (.refl _)) (by kernel_rfl) rfl ?_  -- op 16
  refine .gd rfl ?_
  refine .call0 rfl E_copies_Owed rfl rfl (fun w hm hf => copies_Owed (.byte 5) (.byte 10) (some ⟨b4, 0, none⟩) 2 [.byte 9, .byte 20] (by decide) w (.own Idn.size (hm.at 1 rfl))) (by decide) fun v nm hR => ?_
  obtain ⟨key21, cap21, rs21, rfl, rfl, ho21⟩ := hR
  refine .nil (.then_n ?_)
  refine .only (i := 19) (.cons _ (.cons _ (.refl _))) (by kernel_rfl) rfl ?_  -- op 19
  refine .gd rfl ?_
  refine .callQ rfl E_annuletref01_SameIDs rfl rfl (fun w hm hf => ref01_SameIDs (key21.map fun b => ⟨b, 0, none⟩) (some ⟨b4, 0, none⟩) cap21 2 _ [.byte 9] (by rw [fx3]; decide) (by decide) w (.ownM (i := 0) hm Idn.size rfl ho21) (.front (l' := [.byte 20]) (.own Idn.size (hm.at 2 rfl)))) (by decide) ?_
  refine .nil (.then_n ?_)
  refine .first [20, 21] 4 rfl (by kernel_rfl) (by kernel_rfl) ?_
  refine .s_step rfl rfl rfl (.pk_t rfl rfl) (by decide) ?_
  refine .s_step rfl rfl rfl (.mv rfl) (by decide) ?_
  refine .s_nil ?_
  refine .splitb 26 rfl (fun h3 => ?_) (fun h3 => absurd h3 (by rw [fx3]; decide))
  refine .only (i := 22) (.cons _ (.cons _ (.refl _))) (by kernel_rfl) rfl ?_  -- op 22
  refine .gd rfl ?_
  refine .call0 rfl E_copies_New rfl rfl (fun w hm hf => copies_New w) (by decide) fun v nm hR => ?_
  obtain ⟨m1, m2, rfl, rfl⟩ := hR
  refine .nil (.then_n ?_)
  refine .first [23, 24, 25] 0 rfl (by kernel_rfl) (by kernel_rfl) ?_
  refine .s_stepg rfl rfl rfl rfl (.nePtr P_pt_copies_Book rfl rfl (by simp)) (by decide) ?_
  refine .s_step rfl rfl rfl (.pk_t rfl rfl) (by decide) ?_
  refine .s_step rfl rfl rfl (.as rfl) (by decide) ?_
  refine .s_nil ?_
  refine .done (.cons _ (.cons _ (.cons _ (.cons _ (.refl _))))) (by kernel_rfl) ?_
  refine .then_n (.ret (.ret1 [] (by simp) rfl rfl ⟨rfl, rfl⟩))

theorem nil_Mark (x y : Idn) (v : api_Ver) (w : World) : Calls PG f_copies_Book_Mark #[.pointer none, .agg x.enc, .agg y.enc, .agg v.enc] w (Ret w [] fun v nm => v = .tuple #[] ∧ nm = []) := by
  refine enter0 (n := 18) (args := [.pointer none, .agg x.enc, .agg y.enc, .agg v.enc]) B_copies_Book_Mark rfl rfl (by simp) ?_
  refine .seq (.region (?_))
  refine .box rfl rfl (by decide) fun b5 hb5 => ?_
  refine .box rfl rfl (by decide) fun b6 hb6 => ?_
  refine .box rfl rfl (by decide) fun b7 hb7 => ?_
  refine .nil (.then_n (.seq (.region (?_))))
  refine .step (.mv rfl) (by decide) ?_
  refine .step (.nePtr P_pt_copies_Book rfl rfl (by simp)) (by decide) ?_
  refine .nil (.then_n (.cond rfl (fun hc => absurd hc (by decide)) (fun hc => ?_)))
  refine .skip (.end0 [] (by simp) rfl ⟨rfl, rfl⟩)

theorem nil_Retain (l : Value) (w : World) : Calls PG f_copies_Book_Retain #[.pointer none, l] w (Ret w [] fun v nm => v = .tuple #[] ∧ nm = []) := by
  refine enter0 (n := 26) (args := [.pointer none, l]) B_copies_Book_Retain rfl rfl (by simp) ?_
  refine .seq (.seq (.region (?_)))
  refine .step (.mv rfl) (by decide) ?_
  refine .step (.eqPtr P_pt_copies_Book rfl rfl (by simp)) (by decide) ?_
  refine .nil (.then_n (.cond rfl (fun hc => ?_) (fun hc => absurd hc (by decide))))
  refine .ret (.then_r (.ret0 [] (by simp) rfl ⟨rfl, rfl⟩))

theorem nil_Due (self : Idn) (l x : Value) (w : World) : Calls PG f_copies_Book_Due #[.pointer none, .agg self.enc, l, x] w (Ret w [] fun v nm => v = .slice none 0 0 ∧ nm = []) := by
  refine enter0 (n := 59) (args := [.pointer none, .agg self.enc, l, x]) B_copies_Book_Due rfl rfl (by simp) ?_
  refine .seq (.region (?_))
  refine .box rfl rfl (by decide) fun b5 hb5 => ?_
  refine .step (.as rfl) (by decide) ?_
  refine .nil (.then_n (.seq (.seq (.region (?_)))))
  refine .step (.mv rfl) (by decide) ?_
  refine .step (.eqPtr P_pt_copies_Book rfl rfl (by simp)) (by decide) ?_
  refine .nil (.then_n (.cond rfl (fun hc => ?_) (fun hc => absurd hc (by decide))))
  refine .seq (.region (?_))
  refine .step (.as rfl) (by decide) ?_
  refine .nil (.then_n (.ret (.then_r (.ret1 [] (by simp) rfl rfl ⟨rfl, rfl⟩))))

theorem law_CopiesNil (id : Idn) (items : Value) (w : World) : Calls PG f_annuletlaw19_CopiesNil #[.agg id.enc, items] w (Ret w [] fun v nm => v = .bool true ∧ nm = []) := by
  refine enter0 (n := 27) (args := [.agg id.enc, items]) B_annuletlaw19_CopiesNil rfl rfl (by simp) ?_
  refine .seq (.region (?_))
  refine .box rfl rfl (by decide) fun b2 hb2 => ?_
  refine .step (.as rfl) (by decide) ?_
  refine .nil (.then_n (.seq (.region (?_))))
  refine .step (.as rfl) (by decide) ?_
  refine .nil (.then_n (.seq (.region (?_))))
  refine .step (.mv rfl) (by decide) ?_
  refine .step (.ldA rfl (.i 0 rfl) A_api_ID Z_api_ID (Idn.size _)) (by decide) ?_
  refine .step (.ldA rfl (.i 0 rfl) A_api_ID Z_api_ID (Idn.size _)) (by decide) ?_
  refine .step (.bdS rfl N_api_Ver rfl W_api_Ver (.cons rfl rfl (le_of (api_Ver.size _) (by decide)) (api_Ver.u_N _ _) (.nil))) (by decide) ?_
  refine .callQ rfl E_copies_Book_Mark rfl rfl (fun w hm hf => nil_Mark id id _ w) (by decide) ?_
  refine .nil (.then_n (.seq (.region (?_))))
  refine .step (.mv rfl) (by decide) ?_
  refine .step (.ldA rfl (.i 0 rfl) A_api_ID Z_api_ID (Idn.size _)) (by decide) ?_
  refine .bsL (vs := [.agg id.enc]) (c := catA ([id].map Idn.enc)) (len := 1) L_sl_api_ID Z_api_ID N_api_ID rfl rfl (by intro v hv; rw [List.mem_singleton.1 hv]; exact Idn.size _) rfl (by decide) (by decide) (by decide) fun b13 hb13 => ?_
  refine .callQ rfl E_copies_Book_Retain rfl rfl (fun w hm hf => nil_Retain _ w) (by decide) ?_
  refine .nil (.then_n (.seq (.drawsI [0, 1] rfl rfl ?_)))
  refine .only (i := 0) (.refl _) (by kernel_rfl) rfl ?_  -- op 0
  refine .callQ rfl E_annuletlaw19_fixed rfl rfl (fun w hm hf => law_fixed w) (by decide) ?_
  refine .nil (.then_n ?_)
  refine .first [1] 11 rfl (by kernel_rfl) (by kernel_rfl) ?_
  refine .s_step rfl rfl rfl (.mv rfl) (by decide) ?_
  refine .s_nil ?_
  refine .splitb 16 rfl (fun h1 => ?_) (fun h1 => absurd h1 (by decide))
  refine .first [2, 3, 7] 8 rfl (by kernel_rfl) (by kernel_rfl) ?_
  refine .s_stepg rfl rfl rfl rfl (.mv rfl) (by decide) ?_
  refine .s_stepg rfl rfl rfl rfl (.ldA rfl (.i 1 rfl) A_api_ID Z_api_ID (Idn.size _)) (by decide) ?_
  refine .s_stepg rfl rfl rfl rfl (.mv rfl) (by decide) ?_
  refine .s_nil ?_
  refine .only (i := 4) (.refl _) (by kernel_rfl) rfl ?_  -- op 4
  refine .gd rfl ?_
  refine .callQ rfl E_annuletlaw19_n rfl rfl (fun w _ _ => law_n _ (by decide) w) (by decide) ?_
  refine .nil (.then_n ?_)
  refine .only (i := 5) (.refl _) (by kernel_rfl) rfl ?_  -- op 5
  refine .gd rfl ?_
  refine .callQ rfl E_annuletlaw19_n rfl rfl (fun w _ _ => law_n _ (by decide) w) (by decide) ?_
  refine .nil (.then_n ?_)
  refine .only (i := 6) (.refl _) (by kernel_rfl) rfl ?_  -- op 6
  refine .gd rfl ?_
  refine .bsL (vs := [.agg (Idn.byte 1).enc, .agg (Idn.byte 2).enc]) (c := catA ([Idn.byte 1, Idn.byte 2].map Idn.enc)) (len := 2) L_sl_api_ID Z_api_ID N_api_ID rfl rfl (by intro v hv; simp only [List.mem_cons, List.not_mem_nil, or_false] at hv; rcases hv with rfl | rfl <;> exact Idn.size _) rfl (by decide) (by decide) (by decide) fun b21 hb21 => ?_
  refine .nil (.then_n ?_)
  refine .only (i := 8) (.cons _ (.refl _)) (by kernel_rfl) rfl ?_  -- op 8
  refine .gd rfl ?_
  refine .callQ rfl E_copies_Book_Due rfl rfl (fun w hm hf => nil_Due id _ _ w) (by decide) ?_
  refine .nil (.then_n ?_)
  refine .first [9, 10, 11, 12] 0 rfl (by kernel_rfl) (by kernel_rfl) ?_
  refine .s_stepg rfl rfl rfl rfl (.len L_sl_copies_Due rfl) (by decide) ?_
  refine .s_stepg rfl rfl rfl rfl (.eql rfl rfl) (by decide) ?_
  refine .s_step rfl rfl rfl (.pk_t rfl rfl) (by decide) ?_
  refine .s_step rfl rfl rfl (.as rfl) (by decide) ?_
  refine .s_nil ?_
  refine .done (.cons _ (.refl _)) (by kernel_rfl) ?_
  refine .then_n (.ret (.ret1 [] (by simp) rfl rfl ⟨rfl, rfl⟩))

end Go.Fx
