/- The rules of a walk: operations that make or write memory; calls; the beginning and the end of a function. -/
import Derived.Test.YtpkdekhmjjcljaaGreatFxC
namespace Go.Fx

theorem Sat.redrawn {w0 w w' : World} {mods : List Nat} {n : Nat} {m : HF} {e : Env} {a : Act} (h : Sat w0 mods n m e a w) (hh : w'.heap = w.heap) (h1 : w'.os = w.os) (h2 : w'.tape = w.tape) (h3 : w'.output = w.output) (h4 : w.drawn ≤ w'.drawn) :
    Sat w0 mods n m e a w' :=
  ⟨h.tmps, h.defers, h.env, fun b o hp => by rw [hh]; exact h.mem b o hp, h.apart, h.own,
   ⟨h1.trans h.fr.os, h2.trans h.fr.tape, h3.trans h.fr.output, by rw [hh]; exact h.fr.size, fun k h1 h2 => by rw [hh]; exact h.fr.block k h1 h2, Nat.le_trans h.fr.drawn h4⟩⟩

section
variable {P : Program} {w0 : World} {mods : List Nat} {n : Nat} {m : HF} {e : Env} {Q : Exit → Act → World → Prop} {ops : Array Oper} {rest : List Oper}
  {d : Nat} {op : Op} {t : TypeId} {p : String} {af : Array Edge} {v : Value}

theorem St.alloc {T : TypeId} {z : Value} {c : Array Value} (hz : zeroB P T = some z) (hc : z.cells = c) (hd : d < n)
    (k : ∀ b, w0.heap.size ≤ b → St w0 mods n ((some b, .cells c T (0, 0)) :: m) ((d, .pointer (some ⟨b, 0, none⟩)) :: e) (wpList P ops Q rest)) :
    St w0 mods n m e (wpList P ops Q (⟨some d, .alloc T, t, p, af, none⟩ :: rest)) := fun a w hs =>
  wpList_plain rfl fun K hK => by
    have hr : (execOp a.eval ⟨some d, .alloc T, t, p, af, none⟩).run P w = .ok (.value (.pointer (some ⟨w.heap.size, 0, none⟩))) (w.alloc (.cells c T (0, 0))) := by
      subst hc
      simp [execOp, Instr.alloc, run_zeroB w hz, newVar, newRow]
    unfold Oper.wp
    rw [hr]
    exact hK _ _ (k _ hs.fr.size _ _ ((hs.alloc _).put hd _))

theorem St.box {T : TypeId} {x : Operand} {c : Array Value} (hx : evalE e x = some v) (hc : v.cells = c) (hd : d < n)
    (k : ∀ b, w0.heap.size ≤ b → St w0 mods n ((some b, .cells c T (0, 0)) :: m) ((d, .pointer (some ⟨b, 0, none⟩)) :: e) (wpList P ops Q rest)) :
    St w0 mods n m e (wpList P ops Q (⟨some d, .box T x, t, p, af, none⟩ :: rest)) := fun a w hs =>
  wpList_plain rfl fun K hK => by
    have hr : (execOp a.eval ⟨some d, .box T x, t, p, af, none⟩).run P w = .ok (.value (.pointer (some ⟨w.heap.size, 0, none⟩))) (w.alloc (.cells c T (0, 0))) := by
      subst hc
      simp [execOp, Instr.box, newVar, newRow, hs.eval hx]
    unfold Oper.wp
    rw [hr]
    exact hK _ _ (k _ hs.fr.size _ _ ((hs.alloc _).put hd _))

def putAt (c : Array Value) (o : Nat) (vs : Array Value) : Array Value := c.extract 0 o ++ vs ++ c.extract (o + vs.size) c.size

theorem run_storeVar {w : World} {b o s : Nat} {c vs : Array Value} {U T : TypeId} {v : Value} (h : w.heap[b]? = some (.cells c U (0, 0))) (hs : sizeB P T = some s) (hv : v.cells = vs) (hvs : vs.size = s)
    (hone : ∀ u ∈ vs.toList, u.oneCell' = true) (hsz : o + s ≤ c.size) : (storeVar T ⟨b, o, none⟩ v).run P w = .ok () (setB w b (.cells (putAt c o vs) U (0, 0))) := by
  subst hv
  have h1 := storeCells_step (P := P) (b := b) (T := U) o v.cells.toList 0 c w h (by simp only [Array.length_toList, Nat.add_zero]; omega) hone
  simp only [Nat.add_zero, Array.length_toList] at h1
  simp [storeVar, run_sizeB w hs, hvs, h1, putAt]

theorem St.store {T U : TypeId} {x y : Operand} {b o s : Nat} {c vs c' : Array Value} (i : Nat) (hk : m[i]? = some (some b, .cells c U (0, 0))) (hx : evalE e x = some (.pointer (some ⟨b, o, none⟩)))
    (hy : evalE e y = some v) (hv : v.cells = vs) (hs : sizeB P T = some s) (hvs : vs.size = s) (hone : ∀ u ∈ vs.toList, u.oneCell' = true) (hsz : o + s ≤ c.size) (hc' : putAt c o vs = c')
    (k : St w0 mods n (m.set i (some b, .cells c' U (0, 0))) e (wpList P ops Q rest)) :
    St w0 mods n m e (wpList P ops Q (⟨none, .store T x y, t, p, af, none⟩ :: rest)) := fun a w hs' =>
  wpList_plain rfl fun K hK => by
    have hr : (execOp a.eval ⟨none, .store T x y, t, p, af, none⟩).run P w = .ok .skip (setB w b (.cells c' U (0, 0))) := by
      subst hc'
      simp [execOp, Instr.storeAt, Instr.sureAddr, hs'.eval hx, hs'.eval hy, run_storeVar (hs'.mem b _ (List.mem_of_getElem? hk)) hs hv hvs hone hsz]
    unfold Oper.wp
    rw [hr]
    exact hK _ _ (k _ _ (hs'.setB hk _))

theorem putAt_one {c : Array Value} {o : Nat} (v : Value) (h : o < c.size) : putAt c o #[v] = c.setIfInBounds o v := by
  apply Array.ext'
  simp only [putAt, Array.toList_append, Array.toList_extract, List.extract, List.drop_zero, Nat.sub_zero, Array.toList_setIfInBounds, List.size_toArray, List.length_cons, List.length_nil, Nat.zero_add]
  rw [List.take_of_length_le (l := c.toList.drop (o + 1)) (by simp)]
  rw [List.set_eq_take_append_cons_drop, if_pos (by simpa using h)]
  simp

/-- A store of one cell. -/
theorem St.store1 {T U : TypeId} {x y : Operand} {b o : Nat} {c c' : Array Value} (i : Nat) (hk : m[i]? = some (some b, .cells c U (0, 0))) (hx : evalE e x = some (.pointer (some ⟨b, o, none⟩)))
    (hy : evalE e y = some v) (hv : v.cells = #[v]) (hone : v.oneCell' = true) (hs : sizeB P T = some 1) (hsz : o < c.size) (hc' : c.setIfInBounds o v = c')
    (k : St w0 mods n (m.set i (some b, .cells c' U (0, 0))) e (wpList P ops Q rest)) :
    St w0 mods n m e (wpList P ops Q (⟨none, .store T x y, t, p, af, none⟩ :: rest)) :=
  St.store i hk hx hy hv hs rfl (by simpa using hone) (by omega) (by rw [putAt_one v hsz, hc']) k

/-- A store over a whole block. -/
theorem St.storeA {T U : TypeId} {x y : Operand} {b s : Nat} {c vs : Array Value} (i : Nat) (hk : m[i]? = some (some b, .cells c U (0, 0))) (hx : evalE e x = some (.pointer (some ⟨b, 0, none⟩)))
    (hy : evalE e y = some v) (hv : v.cells = vs) (hs : sizeB P T = some s) (hvs : vs.size = s) (hone : ∀ u ∈ vs.toList, u.oneCell' = true) (hsz : c.size = s)
    (k : St w0 mods n (m.set i (some b, .cells vs U (0, 0))) e (wpList P ops Q rest)) :
    St w0 mods n m e (wpList P ops Q (⟨none, .store T x y, t, p, af, none⟩ :: rest)) :=
  St.store i hk hx hy hv hs hvs hone (by omega) (by apply Array.ext'; simp [putAt, List.extract, hvs, hsz]) k

/-! ### calls -/
def evalsE (e : Env) : List Operand → Option (List Value)
  | [] => some []
  | x :: xs => match evalE e x, evalsE e xs with
    | some v, some vs => some (v :: vs)
    | _, _ => none

theorem Sat.evalsL {a : Act} {w : World} (h : Sat w0 mods n m e a w) : ∀ {xs : List Operand} {vs : List Value}, evalsE e xs = some vs → xs.map a.eval = vs
  | [], vs, hx => by simp only [evalsE, Option.some.injEq] at hx; rw [← hx]; rfl
  | x :: xs, vs, hx => by
    simp only [evalsE] at hx
    split at hx
    · rename_i v us h1 h2
      simp only [Option.some.injEq] at hx
      rw [← hx, List.map_cons, h.eval h1, h.evalsL h2]
    · simp at hx

/-- What a call comes to: it returns, what it tells of its result holds with new blocks, nothing else has turned but the named blocks. -/
def Ret (w : World) (cm : List Nat) (R : Value → HF → Prop) (e : Ending) (w' : World) : Prop :=
  ∃ v nm, e = .returned v ∧ R v nm ∧ Fr cm w w' ∧ Mem nm w' ∧ nm.Pairwise Apart ∧ ∀ b o, (some b, o) ∈ nm → w.heap.size ≤ b ∨ b ∈ cm

theorem Ret.mono {w w' : World} {cm : List Nat} {R R' : Value → HF → Prop} {e : Ending} (h : Ret w cm R e w') (hr : ∀ v nm, R v nm → R' v nm) : Ret w cm R' e w' :=
  let ⟨v, nm, h1, h2, h3⟩ := h; ⟨v, nm, h1, hr _ _ h2, h3⟩

theorem Sat.called {a : Act} {w w' : World} (h : Sat w0 mods n m e a w) {cm : List Nat} {nm m' : HF} (hcm : ∀ b ∈ cm, ∃ o, (some b, o) ∈ m) (hsub : m'.Sublist m) (hap : ∀ b ∈ cm, ∀ o, (some b, o) ∉ m')
    (h1 : Fr cm w w') (h2 : Mem nm w') (h3 : nm.Pairwise Apart) (h4 : ∀ b o, (some b, o) ∈ nm → w.heap.size ≤ b ∨ b ∈ cm) : Sat w0 mods n (nm ++ m') e a w' := by
  refine ⟨h.tmps, h.defers, h.env, ?_, ?_, ?_, ?_⟩
  · intro b o hb
    rcases List.mem_append.1 hb with hb | hb
    · exact h2 b o hb
    · have hbm := hsub.mem hb
      rw [h1.block b (h.lt hbm) (fun hh => hap b hh o hb)]
      exact h.mem b o hbm
  · rw [List.pairwise_append]
    refine ⟨h3, h.apart.sublist hsub, ?_⟩
    rintro ⟨kp, op⟩ hp ⟨kq, oq⟩ hq b hb1 hb2
    simp only at hb1 hb2
    subst hb1; subst hb2
    rcases h4 b op hp with h5 | h5
    · have := h.lt (hsub.mem hq); omega
    · exact hap b h5 oq hq
  · intro b o hb
    rcases List.mem_append.1 hb with hb | hb
    · rcases h4 b o hb with h5 | h5
      · exact .inl (Nat.le_trans h.fr.size h5)
      · obtain ⟨o', ho'⟩ := hcm b h5; exact h.own b o' ho'
    · exact h.own b o (hsub.mem hb)
  · refine ⟨h1.os.trans h.fr.os, h1.tape.trans h.fr.tape, h1.output.trans h.fr.output, Nat.le_trans h.fr.size h1.size, fun k hk hm => ?_, Nat.le_trans h.fr.drawn h1.drawn⟩
    have hkc : k ∉ cm := fun hc => by
      obtain ⟨o', ho'⟩ := hcm k hc
      rcases h.own k o' ho' with h5 | h5
      · omega
      · exact hm h5
    rw [h1.block k (Nat.lt_of_lt_of_le hk h.fr.size) hkc]
    exact h.fr.block k hk hm

theorem run_call {ρ : Operand → Value} {w : World} {fo : Operand} {xs : List Operand} {ats : Array TypeId} {f : FuncId} {first capt args : Array Value} {vs : List Value} {d : Option Nat} {g : Option (Nat × Bool)}
    (hf : ρ fo = .func (.func f) first capt) (hE : enterB P f = true) (hxs : xs.map ρ = vs) (hargs : first ++ vs.toArray ++ capt = args) :
    (execOp ρ ⟨d, .call ⟨.value fo, xs.toArray, ats⟩, t, p, af, g⟩).run P w = .ok (.enter f args) w := by
  subst hargs
  unfold enterB at hE
  cases hfn : P.funcs[f]? with
  | none => simp [hfn] at hE
  | some fn =>
    simp only [hfn, Bool.and_eq_true, bne_iff_ne, ne_eq] at hE
    obtain ⟨h1, h2⟩ := hE
    have h3 : fn.body.isNone = false := by cases hb : fn.body <;> simp_all
    have h4 : (fn.name == "runtime.NumGoroutine") = false := by simpa using h1
    simp only [execOp, resolve, Sem.run_bind, hf, Deferred.ofValue, Sem.run_pure, Result.andThen, invoke, callFunc, run_program, hfn, h4, h3, Bool.false_eq_true, if_false]
    rw [← hxs]
    simp

theorem St.call {fo : Operand} {xs : List Operand} {ats : Array TypeId} {f : FuncId} {first capt args : Array Value} {vs : List Value} {cm : List Nat} {R : Value → HF → Prop} (m' : HF)
    (hf : evalE e fo = some (.func (.func f) first capt)) (hE : enterB P f = true) (hxs : evalsE e xs = some vs) (hargs : first ++ vs.toArray ++ capt = args)
    (hc : ∀ w, Mem m w → Fr mods w0 w → Calls P f args w (Ret w cm R))
    (hcm : ∀ b ∈ cm, ∃ o, (some b, o) ∈ m) (hsub : m'.Sublist m) (hap : ∀ b ∈ cm, ∀ o, (some b, o) ∉ m') (hd : d < n)
    (k : ∀ v nm, R v nm → St w0 mods n (nm ++ m') ((d, v) :: e) (wpList P ops Q rest)) :
    St w0 mods n m e (wpList P ops Q (⟨some d, .call ⟨.value fo, xs.toArray, ats⟩, t, p, af, none⟩ :: rest)) := fun a w hs =>
  wpList_plain rfl fun K hK => by
    unfold Oper.wp
    rw [run_call (hs.eval hf) hE (hs.evalsL hxs) hargs]
    refine (hc w hs.mem hs.fr).mono ?_
    rintro en w' ⟨v, nm, rfl, hR, h1, h2, h3, h4⟩
    exact hK _ _ (k v nm hR _ _ ((hs.called hcm hsub hap h1 h2 h3 h4).put hd v))

/-- A call that writes no block that was there. -/
theorem St.call0 {fo : Operand} {xs : List Operand} {ats : Array TypeId} {f : FuncId} {first capt args : Array Value} {vs : List Value} {R : Value → HF → Prop}
    (hf : evalE e fo = some (.func (.func f) first capt)) (hE : enterB P f = true) (hxs : evalsE e xs = some vs) (hargs : first ++ vs.toArray ++ capt = args)
    (hc : ∀ w, Mem m w → Fr mods w0 w → Calls P f args w (Ret w [] R)) (hd : d < n)
    (k : ∀ v nm, R v nm → St w0 mods n (nm ++ m) ((d, v) :: e) (wpList P ops Q rest)) :
    St w0 mods n m e (wpList P ops Q (⟨some d, .call ⟨.value fo, xs.toArray, ats⟩, t, p, af, none⟩ :: rest)) :=
  St.call m hf hE hxs hargs hc (by simp) (List.Sublist.refl _) (by simp) hd k

/-- The same under a guard that says yes. -/
theorem St.callg {j : Nat} {bo : Bool} (hg : gval ops e j = some bo) {fo : Operand} {xs : List Operand} {ats : Array TypeId} {f : FuncId} {first capt args : Array Value} {vs : List Value} {cm : List Nat} {R : Value → HF → Prop} (m' : HF)
    (hf : evalE e fo = some (.func (.func f) first capt)) (hE : enterB P f = true) (hxs : evalsE e xs = some vs) (hargs : first ++ vs.toArray ++ capt = args)
    (hc : ∀ w, Mem m w → Fr mods w0 w → Calls P f args w (Ret w cm R))
    (hcm : ∀ b ∈ cm, ∃ o, (some b, o) ∈ m) (hsub : m'.Sublist m) (hap : ∀ b ∈ cm, ∀ o, (some b, o) ∉ m') (hd : d < n)
    (k : ∀ v nm, R v nm → St w0 mods n (nm ++ m') ((d, v) :: e) (wpList P ops Q rest)) :
    St w0 mods n m e (wpList P ops Q (⟨some d, .call ⟨.value fo, xs.toArray, ats⟩, t, p, af, some (j, bo)⟩ :: rest)) := fun a w hs =>
  wpList_step fun K hK => by
    rw [if_pos (by simp [Region.wanted, hs.yield hg])]
    unfold Oper.wp
    rw [run_call (hs.eval hf) hE (hs.evalsL hxs) hargs]
    refine (hc w hs.mem hs.fr).mono ?_
    rintro en w' ⟨v, nm, rfl, hR, h1, h2, h3, h4⟩
    exact hK _ _ (k v nm hR _ _ ((hs.called hcm hsub hap h1 h2 h3 h4).put hd v))

/-- A function of the model's own, without a body. -/
theorem Val.ext {fo : Operand} {xs : List Operand} {ats : Array TypeId} {f : FuncId} {fn : Func} {ex : Array Value → Sem Value} {args : Array Value} {vs : List Value} {d : Option Nat} {g : Option (Nat × Bool)}
    (hf : evalE e fo = some (.func (.func f) #[] #[])) (hfn : P.funcs[f]? = some fn) (hb : fn.body.isNone = true) (hnm : (fn.name == "runtime.NumGoroutine") = false) (h1 : Extern.findNext fn = none) (h2 : Extern.find fn = some ex)
    (hxs : evalsE e xs = some vs) (hargs : vs.toArray = args) (hr : ∀ w, Mem m w → Fr mods w0 w → (ex args).run P w = .ok v w) :
    Val P w0 mods m e ⟨d, .call ⟨.value fo, xs.toArray, ats⟩, t, p, af, g⟩ v := fun ρ w hρ hm hfr => by
  subst hargs
  have hx : xs.map ρ = vs := by
    have : ∀ (xs : List Operand) (vs : List Value), evalsE e xs = some vs → xs.map ρ = vs := by
      intro xs
      induction xs with
      | nil => intro vs h; simp only [evalsE, Option.some.injEq] at h; rw [← h]; rfl
      | cons x xs ih =>
        intro vs h
        simp only [evalsE] at h
        split at h
        · rename_i a b h3 h4
          simp only [Option.some.injEq] at h
          rw [← h, List.map_cons, hρ _ _ h3, ih _ h4]
        · simp at h
    exact this xs vs hxs
  simp only [execOp, resolve, Sem.run_bind, hρ _ _ hf, Deferred.ofValue, Sem.run_pure, Result.andThen, invoke, callFunc, run_program, hfn, hb, hnm, h1, h2, Bool.false_eq_true, if_false, if_true, run_mark]
  rw [show (#[] ++ Array.map ρ xs.toArray ++ #[] : Array Value) = vs.toArray by rw [← hx]; simp, hr w hm hfr]

/-! ### the beginning and the end of a function -/
def envOf : Nat → List Value → Env
  | _, [] => []
  | i, v :: vs => (i, v) :: envOf (i + 1) vs

theorem look_envOf : ∀ (vs : List Value) (i k : Nat) (v : Value), look (envOf i vs) k = some v → i ≤ k ∧ vs[k - i]? = some v
  | [], i, k, v, h => by simp [envOf, look] at h
  | u :: vs, i, k, v, h => by
    by_cases hik : i = k
    · subst hik; rw [envOf, look_cons_eq] at h; cases h; simp
    · rw [envOf, look_cons_ne hik] at h
      obtain ⟨h1, h2⟩ := look_envOf vs (i + 1) k v h
      refine ⟨by omega, ?_⟩
      rw [show k - i = (k - (i + 1)) + 1 from by omega, List.getElem?_cons_succ]
      exact h2

theorem enter {f : FuncId} {fn : Func} {c : Code} {args : List Value} {w : World} {cm : List Nat} {R : Value → HF → Prop} (m0 : HF) (hf : P.funcs[f]? = some fn) (hb : fn.body = some c) (hn : fn.ntmps = n) (ha : args.length ≤ n)
    (hm : Mem m0 w) (hap : m0.Pairwise Apart) (hown : ∀ b o, (some b, o) ∈ m0 → b ∈ cm)
    (h : St w cm n m0 (envOf 0 args) (c.wp P (bodyPost P fn (Ret w cm R)))) : Calls P f args.toArray w (Ret w cm R) := by
  refine calls_of_wp hf hb (h _ _ ⟨?_, rfl, ?_, hm, hap, fun b o hb => .inr (hown b o hb), Fr.refl _ _⟩)
  · simp; omega
  · intro i v hv
    obtain ⟨_, h2⟩ := look_envOf args 0 i v hv
    simp only [Nat.sub_zero] at h2
    have hlt : i < args.length := by
      rcases Nat.lt_or_ge i args.length with h' | h'
      · exact h'
      · simp [List.getElem?_eq_none h'] at h2
    rw [Array.getElem?_append_left (by simpa using hlt)]
    simpa using h2

theorem enter0 {f : FuncId} {fn : Func} {c : Code} {args : List Value} {w : World} {R : Value → HF → Prop} (hf : P.funcs[f]? = some fn) (hb : fn.body = some c) (hn : fn.ntmps = n) (ha : args.length ≤ n)
    (h : St w [] n [] (envOf 0 args) (c.wp P (bodyPost P fn (Ret w [] R)))) : Calls P f args.toArray w (Ret w [] R) :=
  enter [] hf hb hn ha (by intro b o h; simp at h) .nil (by simp) h

theorem Sat.returned {fn : Func} {a : Act} {w : World} {R : Value → HF → Prop} (hs : Sat w0 mods n m e a w) (nm : HF) (hsub : nm.Sublist m) (hr : (results fn a.tmps).run P w = .ok v w) (hR : R v nm) :
    bodyPost P fn (Ret w0 mods R) .ret a w :=
  ⟨hs.defers, v, hr, v, nm, rfl, hR, hs.fr, fun b o hb => hs.mem b o (hsub.mem hb), hs.apart.sublist hsub, fun b o hb => hs.own b o (hsub.mem hb)⟩

theorem Sat.getD {a : Act} {w : World} (h : Sat w0 mods n m e a w) {t : Nat} (ht : look e t = some v) : a.tmps.getD t undef = v := by
  have := h.env t v ht; simp only [Array.getD_eq_getD_getElem?, this, Option.getD_some]

theorem St.ret1 {fn : Func} {r : Nat} {R : Value → HF → Prop} (nm : HF) (hsub : nm.Sublist m) (hf : fn.results = #[.tmp r]) (hv : look e r = some v) (hR : R v nm) : St w0 mods n m e (bodyPost P fn (Ret w0 mods R) .ret) :=
  fun a w hs => hs.returned nm hsub (by rw [results_tmp hf, hs.getD hv]) hR

/-- a result that lies in a cell -/
def rvE (tmps : Array Value) : ResultVar → Sem Value
  | .tmp t => pure (tmps.getD t undef)
  | .cell a t => do loadVar t (← asAddr (tmps.getD a undef))
def Res (P : Program) (w0 : World) (mods : List Nat) (m : HF) (e : Env) (r : ResultVar) (v : Value) : Prop :=
  ∀ (n : Nat) a w, Sat w0 mods n m e a w → (rvE a.tmps r).run P w = .ok v w
theorem Res.tm {r : Nat} (hv : look e r = some v) : Res P w0 mods m e (.tmp r) v := fun n a w hs => by
  show Sem.run P (pure (a.tmps.getD r undef)) w = _
  rw [hs.getD hv]; rfl
theorem Res.ce {r b s : Nat} {T U : TypeId} {c : Array Value} {fr : Nat × Nat} (hv : look e r = some (.pointer (some ⟨b, 0, none⟩)))
    (hk : Kn w0 mods m b (.cells c U fr)) (ha : isAggB P T = some true) (hs : sizeB P T = some s) (hsz : c.size = s) : Res P w0 mods m e (.cell r T) (.agg c) := fun n a w hs' => by
  have hl : (loadVar T ⟨b, 0, none⟩).run P w = .ok (.agg c) w := run_loadVarN (hk w hs'.mem hs'.fr) ha hs (by omega) (by subst hsz; simp)
  show Sem.run P (asAddr (a.tmps.getD r undef) >>= fun x => loadVar T x) w = _
  rw [hs'.getD hv]
  simp [asAddr, hl]
theorem Res.ce1 {r b : Nat} {T U : TypeId} {c : Array Value} {fr : Nat × Nat} (hv : look e r = some (.pointer (some ⟨b, 0, none⟩)))
    (hk : Kn w0 mods m b (.cells c U fr)) (ha : isAggB P T = some false) (hc : c[0]? = some v) : Res P w0 mods m e (.cell r T) v := fun n a w hs' => by
  have hl : (loadVar T ⟨b, 0, none⟩).run P w = .ok v w := run_loadVar1 (hk w hs'.mem hs'.fr) ha hc
  show Sem.run P (asAddr (a.tmps.getD r undef) >>= fun x => loadVar T x) w = _
  rw [hs'.getD hv]
  simp [asAddr, hl]

theorem run_results (fn : Func) (tmps : Array Value) : results fn tmps = (do
    let vs ← fn.results.mapM (rvE tmps)
    pure (if h : vs.size = 1 then vs[0] else .tuple vs)) := by
  unfold results
  have : (fun x : ResultVar => match x with
    | .tmp t => (pure (tmps.getD t undef) : Sem Value)
    | .cell a t => do loadVar t (← asAddr (tmps.getD a undef))) = rvE tmps := by
    funext x; cases x <;> rfl
  rw [← this]; rfl

theorem St.retR1 {fn : Func} {r : ResultVar} {R : Value → HF → Prop} (nm : HF) (hsub : nm.Sublist m) (hf : fn.results = #[r]) (h1 : Res P w0 mods m e r v) (hR : R v nm) : St w0 mods n m e (bodyPost P fn (Ret w0 mods R) .ret) :=
  fun a w hs' => hs'.returned nm hsub (by have := h1 n a w hs'; rw [run_results, hf]; simp [this]) hR
theorem St.retR2 {fn : Func} {r1 r2 : ResultVar} {v1 v2 : Value} {R : Value → HF → Prop} (nm : HF) (hsub : nm.Sublist m) (hf : fn.results = #[r1, r2]) (h1 : Res P w0 mods m e r1 v1) (h2 : Res P w0 mods m e r2 v2) (hR : R (.tuple #[v1, v2]) nm) :
    St w0 mods n m e (bodyPost P fn (Ret w0 mods R) .ret) :=
  fun a w hs' => hs'.returned nm hsub (by have h1 := h1 n a w hs'; have h2 := h2 n a w hs'; rw [run_results, hf]; simp [h1, h2]) hR
theorem St.retR3 {fn : Func} {r1 r2 r3 : ResultVar} {v1 v2 v3 : Value} {R : Value → HF → Prop} (nm : HF) (hsub : nm.Sublist m) (hf : fn.results = #[r1, r2, r3]) (h1 : Res P w0 mods m e r1 v1) (h2 : Res P w0 mods m e r2 v2)
    (h3 : Res P w0 mods m e r3 v3) (hR : R (.tuple #[v1, v2, v3]) nm) : St w0 mods n m e (bodyPost P fn (Ret w0 mods R) .ret) :=
  fun a w hs' => hs'.returned nm hsub (by have h1 := h1 n a w hs'; have h2 := h2 n a w hs'; have h3 := h3 n a w hs'; rw [run_results, hf]; simp [h1, h2, h3]) hR

/-- no result -/
theorem St.ret0 {fn : Func} {R : Value → HF → Prop} (nm : HF) (hsub : nm.Sublist m) (hf : fn.results = #[]) (hR : R (.tuple #[]) nm) : St w0 mods n m e (bodyPost P fn (Ret w0 mods R) .ret) :=
  fun a w hs => hs.returned nm hsub (by rw [results_none hf]) hR
theorem St.end0 {fn : Func} {R : Value → HF → Prop} (nm : HF) (hsub : nm.Sublist m) (hf : fn.results = #[]) (hR : R (.tuple #[]) nm) : St w0 mods n m e (bodyPost P fn (Ret w0 mods R) .normal) :=
  fun a w hs => hs.returned nm hsub (by rw [results_none hf]) hR
/-- two results -/
theorem St.ret2 {fn : Func} {r r' : Nat} {v' : Value} {R : Value → HF → Prop} (nm : HF) (hsub : nm.Sublist m) (hf : fn.results = #[.tmp r, .tmp r']) (hv : look e r = some v) (hv' : look e r' = some v') (hR : R (.tuple #[v, v']) nm) :
    St w0 mods n m e (bodyPost P fn (Ret w0 mods R) .ret) :=
  fun a w hs => hs.returned nm hsub (by rw [results_tmp2 hf, hs.getD hv, hs.getD hv']) hR
end
end Go.Fx
