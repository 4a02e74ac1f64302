/- A map's keys, each once, in some order, laid in a new list. -/
import Derived.Test.YtpkdekhmjjcljaaGreatFxNm15z
import Derived.Test.YtpkdekhmjjcljaaGreatFxRf
namespace Go.Fx
open Go.RowKit
set_option maxRecDepth 10000

abbrev mobj (t : MS api_Path api_Entry) : Obj := MS.obj (vA api_Path.enc) (vA api_Entry.enc) t

theorem SatOf {w : World} {mods : List Nat} {n : Nat} {m : HF} {e : Env} {a : Act} (h1 : a.tmps.size = n) (h2 : a.defers = []) (h3 : ∀ i v, look e i = some v → a.tmps[i]? = some v) (h4 : Mem m w) (h5 : m.Pairwise Apart) (h6 : ∀ b o, (some b, o) ∈ m → b ∈ mods) : Sat w mods n m e a w :=
  ⟨h1, h2, h3, h4, h5, fun b o h => .inr (h6 b o h), Fr.refl _ _⟩

theorem enterX {P : Program} {f : FuncId} {fn : Func} {c : Code} {n : Nat} {args : List Value} {w : World} {R : Ending → World → Prop} (hf : P.funcs[f]? = some fn) (hb : fn.body = some c) (hn : fn.ntmps = n) (ha : args.length ≤ n)
    (h : St w [] n [] (envOf 0 args) (c.wp P (bodyPost P fn R))) : Calls P f args.toArray w R := by
  refine calls_of_wp hf hb (h _ _ ⟨?_, rfl, ?_, by intro b o h; simp at h, .nil, by simp, Fr.refl _ _⟩)
  · simp; omega
  · intro i v hv
    obtain ⟨_, h2⟩ := look_envOf args 0 i v hv
    simp only [Nat.sub_zero] at h2
    have hlt : i < args.length := by
      rcases Nat.lt_or_ge i args.length with h' | h'
      · exact h'
      · simp [List.getElem?_eq_none h'] at h2
    rw [Array.getElem?_append_left (by simpa using hlt)]
    simpa using h2

theorem St.endR {P : Program} {w0 : World} {mods : List Nat} {n : Nat} {m : HF} {e : Env} {fn : Func} {R : Ending → World → Prop} (hf : fn.results = #[]) (hR : ∀ a w, Sat w0 mods n m e a w → R (.returned (.tuple #[])) w) : St w0 mods n m e (bodyPost P fn R .normal) :=
  fun a w hs => ⟨hs.defers, .tuple #[], by rw [results_none hf], hR a w hs⟩

theorem St.inNil {P : Program} {w0 : World} {mods : List Nat} {n : Nat} {m : HF} {e : Env} {Q : Exit → Act → World → Prop} {ops : Array Oper} {F : Fence} {N : Nat} (h : St w0 mods n m e (Q .normal)) : St w0 mods n m e (wpListIn F N P ops Q []) := h

theorem Fr.walks {mods : List Nat} {A B : World} (h : Fr mods A B) (hm : ∀ b ∈ mods, ∀ o, A.heap[b]? = some o → o.isWalk = false) : KeepsWalks A B :=
  ⟨h.size, fun k o hk ho => by
    rw [h.block k (lt_of_heap hk) (fun hh => by rw [hm k hh o hk] at ho; cases ho)]
    exact hk⟩

/-- what the iterator's steps leave -/
def Abide {β : Type} (B : Nat) (J : β → World → Prop) : Prop :=
  ∀ s W W' r, J s W → Fr [r] W W' → (∀ o, W.heap[r]? = some o → o.isWalk = true) → B ≤ r → J s W'

theorem nodup_of {α β : Type} (f : α → β) {l : List α} (h : (l.map f).Nodup) : l.Nodup := List.Pairwise.of_map f (fun _ _ hne hab => hne (congrArg f hab)) h

theorem len_le {α : Type} : ∀ {A L : List α}, A.Nodup → (∀ x ∈ A, x ∈ L) → A.length ≤ L.length
  | [], L, _, _ => Nat.zero_le _
  | a :: A, L, h, hs => by
    obtain ⟨s, t, rfl⟩ := List.append_of_mem (hs a (by simp))
    rw [List.nodup_cons] at h
    have := len_le (L := s ++ t) h.2 (fun x hx => by
      have h1 := hs x (by simp [hx])
      simp only [List.mem_append, List.mem_cons] at h1 ⊢
      rcases h1 with h1 | rfl | h1
      · exact .inl h1
      · exact absurd hx h.1
      · exact .inr h1)
    simp only [List.length_append, List.length_cons] at this ⊢
    omega

theorem keys_perm {A L : List (ME api_Path api_Entry)} {clock : Nat} (hok : OkM L clock) (h : (A.map (·.born)).Nodup) (hs : ∀ x ∈ A, x ∈ L) (hall : ∀ x ∈ L, x.born ∈ A.map (·.born)) : (A.map (·.key)).Perm (L.map (·.key)) := by
  refine List.Perm.map _ ?_
  have hLn : L.Nodup := nodup_of (·.key) hok.keys
  have hAn : A.Nodup := nodup_of (·.born) h
  rw [List.perm_ext_iff_of_nodup hAn hLn]
  intro x
  refine ⟨hs x, fun hx => ?_⟩
  obtain ⟨y, hy, he⟩ := List.mem_map.1 (hall x hx)
  have hyL := hs y hy
  -- two entries of one stamp are one
  have : x = y := by
    have hp := hok.borns
    rw [List.pairwise_iff_getElem] at hp
    obtain ⟨i, hi, rfl⟩ := List.getElem_of_mem hx
    obtain ⟨j, hj, rfl⟩ := List.getElem_of_mem hyL
    rcases Nat.lt_trichotomy i j with hij | hij | hij
    · have := hp i j hi hj hij; omega
    · subst hij; rfl
    · have := hp j i hj hi hij; omega
  rw [this]; exact hy

theorem iter_api_Path (bx mb l : Nat) (t : MS api_Path api_Entry) (J : List api_Path → World → Prop) (W0 : World) {T : TypeId} {fr : Nat × Nat} (hbx : W0.heap[bx]? = some (.cells #[.map (some mb)] T fr)) (hmb : W0.heap[mb]? = some (mobj t))
    (hJ : Abide W0.heap.size J)
    (hY : ∀ pre x W, J pre W → pre.length < t.len → YieldAt Fence.wide 0 PG l #[.agg x.enc] W fun e W' => e = .returned (.bool true) ∧ J (pre ++ [x]) W' ∧ KeepsWalks W W')
    (h0 : J [] W0) : Calls PG f_maps_Keys_map_api_Path_api_Entry_api_Path_api_Entry_f1 #[.func (.yield l) #[] #[], .pointer (some ⟨bx, 0, none⟩)] W0 fun e W' => (∃ v, e = .returned v) ∧ ∃ xs : List api_Path, xs.Perm (t.l.map (·.key)) ∧ J xs W' := by
  refine enterX (n := 14) (args := [.func (.yield l) #[] #[], .pointer (some ⟨bx, 0, none⟩)]) B_maps_Keys_map_api_Path_api_Entry_api_Path_api_Entry_f1 rfl rfl (by simp) ?_
  refine .seq (.region ?_)
  refine .step (.ld1 rfl (.o hbx (by simp)) A_map_api_Path_api_Entry rfl) (by decide) ?_
  refine .rg (ke := vA api_Path.enc) (ve := vA api_Entry.enc) (l := t.l) (clock := t.clock) (.o hmb (by simp)) M_map_api_Path_api_Entry rfl (by decide) fun bi hbi => ?_
  refine .nil (.then_n (.block ?_))
  intro a W hs
  have hJ0 : J [] W := hJ [] W0 W bi h0 (hs.fr.mono (by simp)) (fun o ho => absurd (lt_of_heap ho) (by omega)) hbi
  have hbi0 : W.heap[bi]? = some (.mapIter (some mb) t.clock #[] t.clock) := hs.mem bi _ (by simp)
  have hmb0 : W.heap[mb]? = some (mobj t) := hs.fr.keep hmb
  refine wp_loop_ghost (fun k a W => ∃ (A : List (ME api_Path api_Entry)) (last : Nat), k = t.l.length - A.length ∧ a.tmps.size = 14 ∧ a.defers = [] ∧ a.tmps[0]? = some (.func (.yield l) #[] #[]) ∧ a.tmps[5]? = some (.pointer (some ⟨bi, 0, none⟩)) ∧
      W.heap[bi]? = some (.mapIter (some mb) t.clock (A.map (·.born)).toArray last) ∧ t.clock ≤ last ∧ W.heap[mb]? = some (mobj t) ∧ (∀ x ∈ A, x ∈ t.l) ∧ (A.map (·.born)).Nodup ∧ J (A.map (·.key)) W) t.l.length
    ⟨[], t.clock, by simp, hs.tmps, hs.defers, hs.env 0 _ rfl, hs.env 5 _ rfl, hbi0, Nat.le_refl _, hmb0, by simp, .nil, hJ0⟩ ?_
  clear hs hJ0 hbi0 hmb0 a W
  rintro k a W ⟨A, last, rfl, h1, h2, h3, h4, h5, h6, h7, h8, h9, h10⟩
  have hne : mb ≠ bi := by rintro rfl; rw [h7] at h5; simp [MS.obj, mapO] at h5
  have hsat : Sat W [bi] 14 [(some bi, .mapIter (some mb) t.clock (A.map (·.born)).toArray last)] [(0, .func (.yield l) #[] #[]), (5, .pointer (some ⟨bi, 0, none⟩))] a W :=
    SatOf h1 h2 (by
      intro i v hv
      by_cases hi : 0 = i
      · subst hi; rw [look_cons_eq] at hv; cases hv; exact h3
      · rw [look_cons_ne hi] at hv
        by_cases hi : 5 = i
        · subst hi; rw [look_cons_eq] at hv; cases hv; exact h4
        · rw [look_cons_ne hi] at hv; simp [look] at hv) (by
      intro b o hb
      simp only [List.mem_singleton, Prod.mk.injEq, Option.some.injEq] at hb
      obtain ⟨rfl, rfl⟩ := hb
      exact h5) (by simp) (by
      intro b o hb
      simp only [List.mem_singleton, Prod.mk.injEq, Option.some.injEq] at hb
      obtain ⟨rfl, rfl⟩ := hb
      simp)
  have hwalk : ∀ o, W.heap[bi]? = some o → o.isWalk = true := fun o ho => by rw [h5] at ho; cases ho; rfl
  refine (?_ : St W [bi] 14 [(some bi, .mapIter (some mb) t.clock (A.map (·.born)).toArray last)] [(0, .func (.yield l) #[] #[]), (5, .pointer (some ⟨bi, 0, none⟩))] _) a W hsat
  refine .seq (.region ?_)
  refine .nx (ke := vA api_Path.enc) (ve := vA api_Entry.enc) (l := t.l) (clock := t.clock) 0 rfl (.o h7 (by simp [hne])) rfl (fun x hx => t.ok.lt x hx) h6 (by decide) (fun hall => ?_) (fun e0 he0 hnew => ?_)
  · refine .step (.xt rfl rfl) (by decide) ?_
    refine .nil (.then_n (.seq (.cond_f rfl (.exit (.then_x (.then_x (.blk_x ?_)))))))
    refine .endR rfl fun a' w' hs' => ⟨⟨_, rfl⟩, A.map (·.key), keys_perm t.ok h9 h8 (fun x hx => by simpa using hall x hx), hJ _ _ _ bi h10 hs'.fr hwalk hbi⟩
  · refine .step (.xt rfl rfl) (by decide) ?_
    refine .nil (.then_n (.seq (.cond_t rfl (.skip (.then_n (.block (.seq (.region ?_))))))))
    refine .step (.en (ke := vA api_Path.enc) (ve := vA api_Entry.enc) (.i 0 rfl) (.o h7 (by simp [hne])) rfl t.ok he0) (by decide) ?_
    refine .step (.xt rfl rfl) (by decide) ?_
    refine .alloc N_api_Path rfl (by decide) fun b3 hb3 => ?_
    refine .storeA 0 rfl rfl rfl rfl Z_api_Path (api_Path.size _) (api_Path.one _) (api_Path.size _) ?_
    refine .nil (.then_n (.seq (.inReg ?_)))
    refine .inStep (fun _ => trivial) (by intro c hc; cases hc) (.mv rfl) (by decide) ?_
    refine .inStep (fun _ => trivial) (by intro c hc; cases hc) (.ldA rfl (.i 0 rfl) A_api_Path Z_api_Path (api_Path.size _)) (by decide) ?_
    intro a1 W1 hs1
    have hlt : A.length < t.len := by
      have hx : e0 ∉ A := fun hx => hnew (by simp; exact ⟨e0, hx, rfl⟩)
      have hn : (e0 :: A).Nodup := List.nodup_cons.2 ⟨hx, nodup_of (·.born) h9⟩
      have := len_le (L := t.l) hn (by intro y hy; rcases List.mem_cons.1 hy with rfl | hy; exact he0; exact h8 y hy)
      simp only [List.length_cons] at this
      unfold MS.len; omega
    have hJ1 : J (A.map (·.key)) W1 := hJ _ _ _ bi h10 hs1.fr hwalk hbi
    obtain ⟨fn, tmps, assign, body, hy, hR⟩ := hY _ e0.key W1 hJ1 (by simpa using hlt)
    have hbi1 : W1.heap[bi]? = some (.mapIter (some mb) t.clock ((A.map (·.born)).toArray.push e0.born) t.clock) := hs1.mem bi _ (by simp)
    have hmb1 : W1.heap[mb]? = some (mobj t) := by rw [hs1.fr.block mb (lt_of_heap h7) (by simp [hne])]; exact h7
    have e10 : a1.tmps[0]? = some (.func (.yield l) #[] #[]) := hs1.env 0 _ rfl
    have e15 : a1.tmps[5]? = some (.pointer (some ⟨bi, 0, none⟩)) := hs1.env 5 _ rfl
    refine wpListIn_plain rfl fun K hK => ?_
    unfold Oper.wpIn
    refine ⟨fun _ _ => trivial, ?_⟩
    rw [Oper.semAt_plain _ _ _ (by intro c hc; cases hc)]
    have hev1 : a1.eval (.tmp 10) = .func (.yield l) #[] #[] := hs1.eval rfl
    have hev2 : a1.eval (.tmp 11) = .agg e0.key.enc := hs1.eval rfl
    have hrun : ∀ (d : Option Nat) (ats : Array TypeId) (ty : TypeId) (p : String) (af : Array Edge), (execOp a1.eval ⟨d, .call ⟨.value (.tmp 10), #[.tmp 11], ats⟩, ty, p, af, none⟩).run PG W1 = .ok (.round l fn tmps assign body) W1 := by
      intro d ats ty p af
      simp [execOp, resolve, hev1, hev2, Deferred.ofValue, invoke, hy]
    rw [hrun, Oper.uponIn_round]
    refine ⟨fun h => (by cases h), ?_⟩
    refine hR.mono ?_
    rintro e W2 ⟨rfl, hJ2, hk2⟩
    refine hK _ _ ?_
    have hbi2 := hk2.same bi _ hbi1 rfl
    have hmb2 := hk2.same mb _ hmb1 rfl
    have hsat2 : Sat W2 [] 14 [] [(12, .bool true), (0, .func (.yield l) #[] #[]), (5, .pointer (some ⟨bi, 0, none⟩))] (a1.put (some 12) (.bool true)) W2 := by
      have hb : Sat W2 [] 14 [] [(0, .func (.yield l) #[] #[]), (5, .pointer (some ⟨bi, 0, none⟩))] a1 W2 := SatOf hs1.tmps hs1.defers (by
        intro i v hv
        by_cases hi : 0 = i
        · subst hi; rw [look_cons_eq] at hv; cases hv; exact e10
        · rw [look_cons_ne hi] at hv
          by_cases hi : 5 = i
          · subst hi; rw [look_cons_eq] at hv; cases hv; exact e15
          · rw [look_cons_ne hi] at hv; simp [look] at hv) (by intro b o h; simp at h) .nil (by simp)
      exact hb.put (by decide) _
    refine (?_ : St W2 [] 14 [] [(12, .bool true), (0, .func (.yield l) #[] #[]), (5, .pointer (some ⟨bi, 0, none⟩))] _) _ W2 hsat2
    refine .inStep (fun _ => trivial) (by intro c hc; cases hc) (.not rfl) (by decide) ?_
    refine .inNil (.then_n (.cond_f rfl (.skip (.blk_n (.then_n ?_)))))
    intro a3 W3 hs3
    refine ⟨_, ?_, A ++ [e0], t.clock, rfl, hs3.tmps, hs3.defers, hs3.env 0 _ rfl, hs3.env 5 _ rfl, ?_, Nat.le_refl _, hs3.fr.keep hmb2, ?_, ?_, ?_⟩
    · rw [List.length_append]; unfold MS.len at hlt; simp; omega
    · rw [hs3.fr.keep hbi2]; simp
    · intro x hx
      rcases List.mem_append.1 hx with hx | hx
      · exact h8 x hx
      · rw [List.mem_singleton.1 hx]; exact he0
    · rw [List.map_append, List.nodup_append]
      refine ⟨h9, by simp, ?_⟩
      intro x hx y hy hxy
      simp at hy
      subst hy; subst hxy
      exact hnew (by simpa using hx)
    · rw [List.map_append]
      exact hJ _ _ _ bi hJ2 (hs3.fr.mono (by simp)) (fun o ho => by rw [hbi2] at ho; cases ho; rfl) hbi

theorem enterM {P : Program} {f : FuncId} {fn : Func} {c : Code} {n : Nat} {args : List Value} {w : World} {R : Ending → World → Prop} (hf : P.funcs[f]? = some fn) (hb : fn.body = some c) (hn : fn.ntmps = n) (ha : args.length ≤ n)
    (h : St w [] n [] (envOf 0 args) (c.wp P (bodyPostM Fence.wide 0 P fn R))) : Calls P f args.toArray w R := by
  refine callsIn_wide.1 (callsIn_of_wp_marks (n := 0) hf hb trivial (wpIn_wide.2 (h _ _ ⟨?_, rfl, ?_, by intro b o h; simp at h, .nil, by simp, Fr.refl _ _⟩)))
  · simp; omega
  · intro i v hv
    obtain ⟨_, h2⟩ := look_envOf args 0 i v hv
    simp only [Nat.sub_zero] at h2
    have hlt : i < args.length := by
      rcases Nat.lt_or_ge i args.length with h' | h'
      · exact h'
      · simp [List.getElem?_eq_none h'] at h2
    rw [Array.getElem?_append_left (by simpa using hlt)]
    simpa using h2

theorem run_invokeF {P : Program} {g : Nat} {lb args : Array Value} {w : World} (hE : enterB P g = true) : (invoke (.fn (.func g) lb) args).run P w = .ok (.enter g (args ++ lb)) w := by
  unfold enterB at hE
  cases hfn : P.funcs[g]? with
  | none => simp [hfn] at hE
  | some fn =>
    simp only [hfn, Bool.and_eq_true, bne_iff_ne, ne_eq] at hE
    obtain ⟨h1, h2⟩ := hE
    have h3 : fn.body.isNone = false := by cases hb : fn.body <;> simp_all
    have h4 : (fn.name == "runtime.NumGoroutine") = false := by simpa using h1
    simp only [Sem.run_bind, Sem.run_pure, Result.andThen, invoke, callFunc, run_program, hfn, h4, h3, Bool.false_eq_true, if_false]

theorem raw_val {P : Program} {w0 w : World} {mods : List Nat} {n : Nat} {m : HF} {e : Env} {a : Act} {Q : Exit → Act → World → Prop} {ops : Array Oper} {rest : List Oper} {d : Nat} {op : Op} {t : TypeId} {p : String} {af : Array Edge} {v : Value}
    (hs : Sat w0 mods n m e { a with defers := [] } w) (h : Val P w0 mods m e ⟨some d, op, t, p, af, none⟩ v) (hd : d < n)
    (k : Sat w0 mods n m ((d, v) :: e) { a.put (some d) v with defers := [] } w → wpList P ops Q rest (a.put (some d) v) w) : wpList P ops Q (⟨some d, op, t, p, af, none⟩ :: rest) a w :=
  wpList_plain rfl fun K hK => by
    unfold Oper.wp
    have he : a.eval = ({ a with defers := [] } : Act).eval := by funext x; cases x <;> rfl
    rw [he, h _ w hs.evals hs.mem hs.fr]
    exact hK _ _ (k (hs.put hd v))

theorem Fr.past {mods : List Nat} {w A B : World} (h : Fr [] w A) (k : Fr mods A B) (hm : ∀ b ∈ mods, w.heap.size ≤ b) : Fr [] w B :=
  ⟨k.os.trans h.os, k.tape.trans h.tape, k.output.trans h.output, Nat.le_trans h.size k.size, fun i hi hn => by
    rw [k.block i (Nat.lt_of_lt_of_le hi h.size) (fun hh => by have := hm i hh; omega)]
    exact h.block i hi hn, Nat.le_trans h.drawn k.drawn⟩
theorem Fr.put1 (w : World) (l : Nat) (o : Obj) : Fr [l] w (w.putObj l o) :=
  ⟨rfl, rfl, rfl, by simp, fun _ _ hk => World.putObj_heap_other (fun e => hk (by simp [e])), Nat.le_refl _⟩

/-- what lies between two rounds -/
structure ApJ (w : World) (b2 D : Nat) (rec : Loop) (xs : List api_Path) (V : World) (key : Option Nat) (cap : Nat) (rs : Array Value) : Prop where
  box : V.heap[b2]? = some (.cells #[slv key xs.length cap] T_sl_api_Path (0, 0))
  lst : ∀ b, key = some b → V.heap[b]? = some (.cells (catA (xs.map api_Path.enc) ++ rs) T_api_Path (0, 0)) ∧ w.heap.size ≤ b
  own : OwnS 17 key xs.length cap rs
  loop : V.heap[D + 1]? = some (.loop rec)
  dfr : V.heap[D]? = some (.deferred (some []))
  fr : Fr [] w V

theorem ApJ.on {w : World} {b2 D : Nat} {rec : Loop} {xs : List api_Path} {V V' : World} {key : Option Nat} {cap : Nat} {rs : Array Value} {mods : List Nat} (h : ApJ w b2 D rec xs V key cap rs) (hf : Fr mods V V') (hm : ∀ r ∈ mods, w.heap.size ≤ r ∧ ∀ o, V.heap[r]? = some o → o.isWalk = true) : ApJ w b2 D rec xs V' key cap rs := by
  have keep : ∀ {k : Nat} {o : Obj}, V.heap[k]? = some o → o.isWalk = false → V'.heap[k]? = some o := by
    intro k o hk ho
    rw [hf.block k (lt_of_heap hk) (fun hh => by rw [(hm k hh).2 o hk] at ho; cases ho)]
    exact hk
  exact ⟨keep h.box rfl, fun b hb => ⟨keep (h.lst b hb).1 rfl, (h.lst b hb).2⟩, h.own, keep h.loop rfl, keep h.dfr rfl, h.fr.past hf (fun r hr => (hm r hr).1)⟩

theorem ApJ.sat {w : World} {b2 D : Nat} {rec : Loop} {xs : List api_Path} {V : World} {key : Option Nat} {cap : Nat} {rs : Array Value} (h : ApJ w b2 D rec xs V key cap rs) : Mem [(some b2, .cells #[slv key xs.length cap] T_sl_api_Path (0, 0)), (key, .cells (catA (xs.map api_Path.enc) ++ rs) T_api_Path (0, 0))] V ∧
    ([(some b2, .cells #[slv key xs.length cap] T_sl_api_Path (0, 0)), (key, .cells (catA (xs.map api_Path.enc) ++ rs) T_api_Path (0, 0))] : HF).Pairwise Apart ∧ ∀ b o, (some b, o) ∈ ([(some b2, .cells #[slv key xs.length cap] T_sl_api_Path (0, 0)), (key, .cells (catA (xs.map api_Path.enc) ++ rs) T_api_Path (0, 0))] : HF) → b ∈ b2 :: key.toList := by
  refine ⟨?_, ?_, ?_⟩
  · intro b o hb
    simp only [List.mem_cons, Prod.mk.injEq, Option.some.injEq, List.not_mem_nil, or_false] at hb
    rcases hb with ⟨rfl, rfl⟩ | ⟨hb, rfl⟩
    · exact h.box
    · exact (h.lst b hb.symm).1
  · simp only [List.pairwise_cons, List.mem_singleton, forall_eq, List.not_mem_nil, false_implies, implies_true, List.Pairwise.nil, and_true]
    intro b h1 h2
    cases h1
    have h3 := (h.lst _ h2).1
    rw [h.box] at h3
    simp only [Option.some.injEq, Obj.cells.injEq] at h3
    exact absurd h3.2.1 (by decide)
  · intro b o hb
    simp only [List.mem_cons, Prod.mk.injEq, Option.some.injEq, List.not_mem_nil, or_false] at hb
    rcases hb with ⟨rfl, _⟩ | ⟨hb, _⟩
    · simp
    · simp [← hb]

theorem appendSeq_api_Path (g : Nat) (lb : Array Value) (hE : enterB PG g = true) (S : List api_Path → Prop) (w : World) (N : Nat) (hN : N < 68719476736)
    (hseq : ∀ (l : Nat) (J : List api_Path → World → Prop) (W : World), Fr [] w W → Abide W.heap.size J →
      (∀ pre x V, J pre V → pre.length < N → YieldAt Fence.wide 0 PG l #[.agg x.enc] V fun e W' => e = .returned (.bool true) ∧ J (pre ++ [x]) W' ∧ KeepsWalks V W') → J [] W →
      Calls PG g (#[.func (.yield l) #[] #[]] ++ lb) W fun e W' => (∃ v, e = .returned v) ∧ ∃ xs : List api_Path, S xs ∧ J xs W') :
    Calls PG f_slices_AppendSeq_api_Path_api_Path #[.slice none 0 0, .func (.func g) #[] lb] w (Ret w [] fun v nm => ∃ xs, S xs ∧ RetL api_Path.enc 17 T_api_Path xs v nm) := by
  refine enterM (n := 13) (args := [.slice none 0 0, .func (.func g) #[] lb]) B_slices_AppendSeq_api_Path_api_Path rfl rfl (by simp) ?_
  refine .seq (.region ?_)
  refine .box rfl rfl (by decide) fun b2 hb2 => ?_
  refine .step (.as rfl) (by decide) ?_
  refine .nil (.then_n (.seq (.seq (.region ?_))))
  refine .step (.mv rfl) (by decide) ?_
  refine .nil (.then_n (.block ?_))
  intro a W hs
  have hd0 := hs.defers
  have hev : a.tmps[6]? = some (.func (.func g) #[] lb) := hs.env 6 _ rfl
  have h20 : a.tmps[2]? = some (.pointer (some ⟨b2, 0, none⟩)) := hs.env 2 _ rfl
  have hsz := hs.tmps
  have hW : w.heap.size ≤ W.heap.size := hs.fr.size
  have hbx : W.heap[b2]? = some (.cells #[slv none ([] : List api_Path).length 0] T_sl_api_Path (0, 0)) := hs.mem b2 _ (by simp; rfl)
  have hfrW := hs.fr
  clear hs
  refine (wpIn_wide (n := 0)).1 (wpIn_rangeFunc ?_)
  intro fn _
  refine ⟨W.heap.size + 1, [{ target := .collected W.heap.size, args := #[] }], _, { target := .fn (.func g) lb, args := #[.func (.yield (W.heap.size + 1)) #[] #[]] }, _, g, #[.func (.yield (W.heap.size + 1)) #[] #[]] ++ lb, _,
    run_enterLoop_outer _ _ _ _ _, (by simp [resolve, hev, Deferred.ofValue, Act.eval]; rfl), fun _ _ => trivial, run_invokeF hE, fun h => (by cases h), ?_⟩
  generalize hrec : ({ state := .ready, pending := none, fn, tmps := a.tmps, params := #[7], assign := _, body := _, defers := W.heap.size } : Loop) = rec
  generalize hW1 : (W.alloc (.deferred (some []))).alloc (.loop rec) = W1
  have hfr1 : Fr [] W W1 := by rw [← hW1]; exact (Fr.alloc _ _ _).trans (Fr.alloc _ _ _)
  have hD1 : W1.heap[W.heap.size]? = some (.deferred (some [])) := by
    rw [← hW1, heap_alloc_old _ _ (by simp)]; exact heap_alloc_new _ _
  have hL1 := heap_alloc_new (W.alloc (.deferred (some []))) (.loop rec)
  rw [hW1, World.size_alloc] at hL1
  refine callsIn_wide.2 ((hseq (W.heap.size + 1) (fun xs V => xs.length ≤ N ∧ ∃ key cap rs, ApJ w b2 W.heap.size rec xs V key cap rs) W1 (hfrW.trans hfr1) ?_ ?_
    ⟨by simp, none, 0, #[], hfr1.keep hbx, by simp, ⟨rfl, Nat.le_refl _, fun _ => rfl⟩, hL1, hD1, hfrW.trans hfr1⟩).mono ?_)
  · rintro xs V V' r ⟨hx, key, cap, rs, h⟩ hf hwk hr
    exact ⟨hx, key, cap, rs, h.on hf (fun b hb => by rw [List.mem_singleton.1 hb]; exact ⟨Nat.le_trans hfrW.size (Nat.le_trans hfr1.size hr), hwk⟩)⟩
  · -- a round
    rintro pre x V ⟨_, key, cap, rs, h⟩ hlt
    have hyr := run_yield (P := PG) (args := #[.agg x.enc]) h.loop (by rw [← hrec]; rfl)
    refine ⟨_, _, _, _, hyr, roundIn_of_wpIn trivial ?_⟩
    obtain ⟨hm1, hm2, hm3⟩ := h.sat
    have htm : ((rec.params.zip #[.agg x.enc]).foldl (fun tmps (t, a) => tmps.setIfInBounds t a) rec.tmps) = a.tmps.setIfInBounds 7 (.agg x.enc) := by rw [← hrec]; simp
    have has := congrArg Loop.assign hrec
    have hbo := congrArg Loop.body hrec
    dsimp only at has hbo
    rw [htm, ← has, ← hbo]
    have hsat : Sat V (b2 :: key.toList) 13 [(some b2, .cells #[slv key pre.length cap] T_sl_api_Path (0, 0)), (key, .cells (catA (pre.map api_Path.enc) ++ rs) T_api_Path (0, 0))] [(7, .agg x.enc), (2, .pointer (some ⟨b2, 0, none⟩))] { tmps := a.tmps.setIfInBounds 7 (.agg x.enc), defers := [] } V :=
      SatOf (by simpa using hsz) rfl (by
        intro i v hv
        by_cases hi : 7 = i
        · subst hi; rw [look_cons_eq] at hv; cases hv
          rw [Array.getElem?_setIfInBounds, if_pos rfl, if_pos (by rw [hsz]; decide)]
        · rw [look_cons_ne hi] at hv
          by_cases hi2 : 2 = i
          · subst hi2; rw [look_cons_eq] at hv; cases hv
            rw [Array.getElem?_setIfInBounds, if_neg (by decide)]; exact h20
          · rw [look_cons_ne hi2] at hv; simp [look] at hv) hm1 hm2 hm3
    refine wpIn_region_lit ?_
    refine (?_ : St V (b2 :: key.toList) 13 [(some b2, .cells #[slv key pre.length cap] T_sl_api_Path (0, 0)), (key, .cells (catA (pre.map api_Path.enc) ++ rs) T_api_Path (0, 0))] [(7, .agg x.enc), (2, .pointer (some ⟨b2, 0, none⟩))] _) _ V hsat
    refine .inOf (G := { b : Nat // V.heap.size ≤ b }) (fun b5 => [(some b5.1, .cells api_Path.zero.enc T_api_Path (0, 0)), (some b2, .cells #[slv key pre.length cap] T_sl_api_Path (0, 0)), (key, .cells (catA (pre.map api_Path.enc) ++ rs) T_api_Path (0, 0))]) (fun b5 => [(5, .pointer (some ⟨b5.1, 0, none⟩)), (7, .agg x.enc), (2, .pointer (some ⟨b2, 0, none⟩))]) (fun _ => trivial) rfl (by intro c hc; cases hc) tame_alloc
      (.alloc N_api_Path rfl (by decide) fun b5 hb5 => .fin ⟨b5, hb5⟩ (.refl _) subEnv.refl) fun b5 => ?_
    refine .inOf (G := Unit) (fun _ => [(some b5.1, .cells x.enc T_api_Path (0, 0)), (some b2, .cells #[slv key pre.length cap] T_sl_api_Path (0, 0)), (key, .cells (catA (pre.map api_Path.enc) ++ rs) T_api_Path (0, 0))]) (fun _ => [(5, .pointer (some ⟨b5.1, 0, none⟩)), (7, .agg x.enc), (2, .pointer (some ⟨b2, 0, none⟩))]) (fun _ => trivial) rfl (by intro c hc; cases hc) tame_store
      (.storeA 0 rfl rfl rfl rfl Z_api_Path (api_Path.size _) (api_Path.one _) (api_Path.size _) (.fin () (.refl _) subEnv.refl)) fun _ => ?_
    refine .inNil (.then_n ?_)
    intro a1 V1 hs1
    have hno : ∀ {k : Nat} {o : Obj}, V.heap[k]? = some o → (∀ c T fr, o ≠ .cells c T fr) → k ∉ b2 :: key.toList := by
      intro k o hk ho hh
      rcases List.mem_cons.1 hh with rfl | hh
      · rw [h.box] at hk; cases hk; exact ho _ _ _ rfl
      · rw [(h.lst k (by simpa using hh)).1] at hk; cases hk; exact ho _ _ _ rfl
    have hL2 : V1.heap[W.heap.size + 1]? = some (.loop rec) := by rw [hs1.fr.block _ (lt_of_heap h.loop) (hno h.loop (by intro c T fr e; cases e))]; exact h.loop
    have hD2 : V1.heap[W.heap.size]? = some (.deferred (some [])) := by rw [hs1.fr.block _ (lt_of_heap h.dfr) (hno h.dfr (by intro c T fr e; cases e))]; exact h.dfr
    refine ⟨_, run_beginRound hL2 (by rw [← hrec]), ?_⟩
    have hp := Fr.put1 V1 (W.heap.size + 1) (.loop { rec with state := .busy })
    have hL3 : (V1.putObj (W.heap.size + 1) (.loop { rec with state := .busy })).heap[W.heap.size + 1]? = some (.loop { rec with state := .busy }) := World.putObj_heap_same (lt_of_heap hL2)
    generalize hV2 : V1.putObj (W.heap.size + 1) (.loop { rec with state := .busy }) = V2 at hp hL3
    have hk2 : ∀ {k : Nat} {o : Obj}, V1.heap[k]? = some o → (∀ r, o ≠ .loop r) → V2.heap[k]? = some o := by
      intro k o hk ho
      rw [hp.block k (lt_of_heap hk) (by simp only [List.mem_singleton]; rintro rfl; rw [hL2] at hk; cases hk; exact ho _ rfl)]
      exact hk
    have hsat2 : Sat V2 (b5.1 :: b2 :: key.toList) 13 [(some b5.1, .cells x.enc T_api_Path (0, 0)), (some b2, .cells #[slv key pre.length cap] T_sl_api_Path (0, 0)), (key, .cells (catA (pre.map api_Path.enc) ++ rs) T_api_Path (0, 0))] [(5, .pointer (some ⟨b5.1, 0, none⟩)), (2, .pointer (some ⟨b2, 0, none⟩))] a1 V2 :=
      SatOf hs1.tmps hs1.defers (by
        intro i v hv
        by_cases hi : 5 = i
        · subst hi; rw [look_cons_eq] at hv; cases hv; exact hs1.env 5 _ rfl
        · rw [look_cons_ne hi] at hv
          by_cases hi2 : 2 = i
          · subst hi2; rw [look_cons_eq] at hv; cases hv; exact hs1.env 2 _ rfl
          · rw [look_cons_ne hi2] at hv; simp [look] at hv)
        (fun b o hb => by
          have hb' := hs1.mem b o hb
          refine hk2 hb' ?_
          simp only [List.mem_cons, Prod.mk.injEq, List.not_mem_nil, or_false] at hb
          rcases hb with ⟨_, rfl⟩ | ⟨_, rfl⟩ | ⟨_, rfl⟩ <;> (intro r e; cases e)) hs1.apart (by
          intro b o hb
          simp only [List.mem_cons, Prod.mk.injEq, Option.some.injEq, List.not_mem_nil, or_false] at hb
          rcases hb with ⟨rfl, _⟩ | ⟨rfl, _⟩ | ⟨hb, _⟩
          · simp
          · simp
          · simp [← hb])
    refine wpIn_block (wpIn_region_lit ?_)
    refine (?_ : St V2 (b5.1 :: b2 :: key.toList) 13 _ _ _) _ V2 hsat2
    refine .inStep (fun _ => trivial) (by intro c hc; cases hc) (.ld1 rfl (.i 1 rfl) A_sl_api_Path rfl) (by decide) ?_
    refine .inStep (fun _ => trivial) (by intro c hc; cases hc) (.ldA rfl (.i 0 rfl) A_api_Path Z_api_Path (api_Path.size _)) (by decide) ?_
    refine .inOf (G := { b : Nat // V2.heap.size ≤ b }) (fun b10 => [(some b10.1, .cells (catA ([x].map api_Path.enc) ++ #[]) T_api_Path (0, 0)), (some b5.1, .cells x.enc T_api_Path (0, 0)), (some b2, .cells #[slv key pre.length cap] T_sl_api_Path (0, 0)), (key, .cells (catA (pre.map api_Path.enc) ++ rs) T_api_Path (0, 0))])
      (fun b10 => [(10, .slice (some ⟨b10.1, 0, none⟩) 1 1), (8, slv key pre.length cap), (2, .pointer (some ⟨b2, 0, none⟩))]) (fun _ => trivial) rfl (by intro c hc; cases hc) tame_bs
      (.bsL (vs := [.agg x.enc]) (c := catA ([x].map api_Path.enc) ++ #[]) (len := 1) L_sl_api_Path Z_api_Path N_api_Path rfl rfl (by intro v hv; rw [List.mem_singleton.1 hv]; exact api_Path.size _) (by rw [Array.append_empty]; rfl) (by decide) (by decide) (by decide)
        fun b10 hb10 => .fin ⟨b10, hb10⟩ (.refl _) (.cons rfl (.cons rfl (.cons rfl .nil)))) fun b10 => ?_
    have hl1 : appG pre [x] = some (pre ++ [x]) := appG_of (by simp; omega)
    refine .inOf (G := { q : Option Nat × Nat × Array Value // OwnS 17 q.1 (pre ++ [x]).length q.2.1 q.2.2 }) (fun q => [(some b2, .cells #[slv key pre.length cap] T_sl_api_Path (0, 0)), (q.1.1, .cells (catA ((pre ++ [x]).map api_Path.enc) ++ q.1.2.2) T_api_Path (0, 0))])
      (fun q => [(11, slv q.1.1 (pre ++ [x]).length q.1.2.1), (2, .pointer (some ⟨b2, 0, none⟩))]) (fun _ => trivial) rfl (by intro c hc; cases hc) tame_app
      (.appX (l := pre) (l2 := [x]) (cap2 := 1) 3 api_Path.size h.own (.own (key := some b10.1) (rs := #[]) 0 api_Path.size rfl ⟨rfl, Nat.le_refl _, fun h => by cases h⟩) hl1 rfl rfl rfl L_sl_api_Path Z_api_Path Y_api_Path N_api_Path (api_Path.size _) (by decide) (by decide) (fun a _ => api_Path.one a) (by decide)
        fun key' cap' rs' ho' => .fin ⟨(key', cap', rs'), ho'⟩ (.cons _ (.cons _ (.refl _))) (.cons rfl (.cons rfl .nil))) fun q => ?_
    obtain ⟨⟨key', cap', rs'⟩, ho'⟩ := q
    dsimp only at ho' ⊢
    refine .inOf (G := Unit) (fun _ => [(some b2, .cells #[slv key' (pre ++ [x]).length cap'] T_sl_api_Path (0, 0)), (key', .cells (catA ((pre ++ [x]).map api_Path.enc) ++ rs') T_api_Path (0, 0))]) (fun _ => []) (fun _ => trivial) rfl (by intro c hc; cases hc) tame_store
      (.store1 0 rfl rfl rfl rfl rfl Z_sl_api_Path Nat.zero_lt_one rfl (.fin () (.refl _) .nil)) fun _ => ?_
    refine .inNil (.blk_n ?_)
    intro a3 V3 hs3
    have hb5 := b5.2
    have hsz1 := hs1.fr.size
    have hcel : ∀ b ∈ b5.1 :: b2 :: key.toList, ∃ c T fr, V2.heap[b]? = some (.cells c T fr) := by
      intro b hb
      rcases List.mem_cons.1 hb with e | hb
      · exact ⟨_, _, _, by rw [e]; exact hsat2.mem b5.1 _ (List.mem_cons_self ..)⟩
      · rcases List.mem_cons.1 hb with e | hb
        · exact ⟨_, _, _, by rw [e]; exact hsat2.mem b2 _ (List.mem_cons_of_mem _ (List.mem_cons_self ..))⟩
        · exact ⟨_, _, _, hsat2.mem b _ (List.mem_cons_of_mem _ (List.mem_cons_of_mem _ (by rw [show key = some b by simpa using hb]; exact List.mem_cons_self ..)))⟩
    have hno2 : ∀ {k : Nat} {o : Obj}, V2.heap[k]? = some o → (∀ c T fr, o ≠ .cells c T fr) → V3.heap[k]? = some o := by
      intro k o hk ho
      rw [hs3.fr.block k (lt_of_heap hk) (fun hh => ?_)]
      · exact hk
      · obtain ⟨c, T, fr, hc⟩ := hcel k hh
        rw [hc] at hk; cases hk; exact ho _ _ _ rfl
    have hL4 := hno2 hL3 (by intro c T fr e; cases e)
    have hD4 := hno2 (hk2 hD2 (by intro r e; cases e)) (by intro c T fr e; cases e)
    have hp4 := Fr.put1 V3 (W.heap.size + 1) (.loop { ({ rec with state := .busy } : Loop) with state := .ready, pending := none })
    have hL5 : (V3.putObj (W.heap.size + 1) (.loop { ({ rec with state := .busy } : Loop) with state := .ready, pending := none })).heap[W.heap.size + 1]? = some (.loop rec) := by
      rw [World.putObj_heap_same (lt_of_heap hL4)]; rw [← hrec]
    have hk5 : ∀ {k : Nat} {o : Obj}, V3.heap[k]? = some o → (∀ r, o ≠ .loop r) → (V3.putObj (W.heap.size + 1) (.loop { ({ rec with state := .busy } : Loop) with state := .ready, pending := none })).heap[k]? = some o := by
      intro k o hk ho
      rw [hp4.block k (lt_of_heap hk) (by simp only [List.mem_singleton]; rintro rfl; rw [hL4] at hk; cases hk; exact ho _ rfl)]
      exact hk
    have hmods : ∀ b ∈ b2 :: key.toList, w.heap.size ≤ b := by
      intro b hb
      rcases List.mem_cons.1 hb with rfl | hb
      · exact hb2
      · exact (h.lst b (by simpa using hb)).2
    have hfA : Fr [] w V1 := h.fr.past hs1.fr hmods
    have hfB : Fr [] w V2 := hfA.past hp (by intro b hb; rw [List.mem_singleton.1 hb]; omega)
    have hfC : Fr [] w V3 := hfB.past hs3.fr (by
      intro b hb
      rcases List.mem_cons.1 hb with rfl | hb
      · have := h.fr.size; omega
      · exact hmods b hb)
    have hfD := hfC.past hp4 (by intro b hb; rw [List.mem_singleton.1 hb]; omega)
    refine ⟨_, _, run_endRound none hL4, rfl, ⟨by simp; omega, key', cap', rs', ⟨hk5 (hs3.mem b2 _ (by simp)) (by intro r e; cases e), fun b hb => ⟨hk5 (hs3.mem b _ (by simp [hb])) (by intro r e; cases e), ?_⟩, ho', hL5, hk5 hD4 (by intro r e; cases e), hfD⟩⟩, ?_⟩
    · rcases hs3.own b _ (List.mem_cons_of_mem _ (by rw [hb]; exact List.mem_cons_self ..)) with hh | hh
      · have := hfB.size; omega
      · rcases List.mem_cons.1 hh with rfl | hh
        · have := h.fr.size; omega
        · exact hmods b hh
    · refine ((hs1.fr.walks ?_).trans ((hp.walks ?_).trans (hs3.fr.walks ?_))).trans (hp4.walks ?_)
      · intro b hb o ho
        rcases List.mem_cons.1 hb with rfl | hb
        · rw [h.box] at ho; cases ho; rfl
        · rw [(h.lst b (by simpa using hb)).1] at ho; cases ho; rfl
      · intro b hb o ho
        rw [List.mem_singleton.1 hb, hL2] at ho; cases ho; rfl
      · intro b hb o ho
        obtain ⟨c, T, fr, hc⟩ := hcel b hb
        rw [hc] at ho; cases ho; rfl
      · intro b hb o ho
        rw [List.mem_singleton.1 hb, hL4] at ho; cases ho; rfl
  · -- behind the loop
    rintro e W2 ⟨⟨v, rfl⟩, xs, hS, _, key, cap, rs, h⟩
    refine ⟨none, _, (run_endLoop h.loop (by rw [← hrec]; simp)).trans (by rw [← hrec]), ?_⟩
    generalize hW3 : W2.putObj (W.heap.size + 1) _ = W3
    have hp : Fr [W.heap.size + 1] W2 W3 := by rw [← hW3]; exact Fr.put1 _ _ _
    have hk : ∀ {k : Nat} {o : Obj}, W2.heap[k]? = some o → (∀ r, o ≠ .loop r) → W3.heap[k]? = some o := by
      intro k o hk ho
      rw [hp.block k (lt_of_heap hk) (by simp only [List.mem_singleton]; rintro rfl; rw [h.loop] at hk; cases hk; exact ho _ rfl)]
      exact hk
    have hfr3 : Fr [] w W3 := h.fr.past hp (by intro b hb; rw [List.mem_singleton.1 hb]; omega)
    have hbox3 := hk h.box (by intro r e; cases e)
    have hD3 := hk h.dfr (by intro r e; cases e)
    have hsat : Sat W3 [] 13 [] [(2, .pointer (some ⟨b2, 0, none⟩))] { tmps := a.tmps, defers := [] } W3 := SatOf hsz rfl (by
      intro i v hv
      by_cases hi2 : 2 = i
      · subst hi2; rw [look_cons_eq] at hv; cases hv; exact h20
      · rw [look_cons_ne hi2] at hv; simp [look] at hv) (by intro b o h; simp at h) .nil (by simp)
    refine wp_seq (wp_region_lit ?_)
    refine raw_val hsat (.ld1 rfl (.o hbox3 (by simp)) A_sl_api_Path rfl) (by decide) fun hsat => ?_
    refine raw_val hsat (.as rfl) (by decide) fun hsat => ?_
    refine wpList_nil (wp_ret ?_)
    show LeavesInM _ _ _ _ _ _ _ _ _
    simp only [Act.put, hd0, List.append_nil, LeavesInM]
    refine ⟨by simp, .inl ⟨_, _, rfl, run_takeDeferred hD3, ?_⟩⟩
    have hp6 := Fr.put1 W3 W.heap.size (.deferred none)
    refine ⟨slv key xs.length cap, ?_, _, _, rfl, ⟨xs, hS, key, cap, rs, rfl, rfl, h.own⟩, hfr3.past hp6 (by intro b hb; rw [List.mem_singleton.1 hb]; omega), ?_, by simp, ?_⟩
    · rw [results_tmp rfl]
      have := hsat.getD (t := 4) (v := slv key xs.length cap) rfl
      simp only [Act.put] at this
      rw [this]
    · intro b o hb
      simp only [List.mem_singleton, Prod.mk.injEq] at hb
      obtain ⟨hb, rfl⟩ := hb
      have h3 := hk (h.lst b hb.symm).1 (by intro r e; cases e)
      rw [hp6.block b (lt_of_heap h3) (by simp only [List.mem_singleton]; rintro rfl; rw [hD3] at h3; cases h3)]
      exact h3
    · intro b o hb
      simp only [List.mem_singleton, Prod.mk.injEq] at hb
      exact .inl (h.lst b hb.1.symm).2
end Go.Fx
