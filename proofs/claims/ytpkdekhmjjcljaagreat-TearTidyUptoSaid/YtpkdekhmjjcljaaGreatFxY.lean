/- Maps as values, and calls that write several blocks of one's own. -/
import Derived.Test.YtpkdekhmjjcljaaGreatFxX
namespace Go.Fx

/-! ### maps -/
abbrev vA {α : Type} (enc : α → Array Value) : α → Value := fun x => .agg (enc x)

structure MS (K V : Type) where
  l : List (ME K V)
  clock : Nat
  ok : OkM l clock
section
variable {K V : Type} [DecidableEq K]
def MS.emp : MS K V := ⟨[], 0, OkM.nil 0⟩
def MS.get (t : MS K V) (k : K) : Option V := getM t.l k
def MS.put (t : MS K V) (k : K) (v : V) : MS K V := ⟨(putM t.l k v t.clock).1, (putM t.l k v t.clock).2, t.ok.put k v⟩
def MS.del (t : MS K V) (k : K) : MS K V := ⟨delM t.l k, t.clock, t.ok.filter _⟩
end
def MS.obj {K V : Type} (ke : K → Value) (ve : V → Value) (t : MS K V) : Obj := mapO ke ve t.l t.clock
def MS.len {K V : Type} (t : MS K V) : Nat := t.l.length

section
variable {K V : Type} [DecidableEq K] {P : Program} {kt vt : TypeId} {ke : K → Value} {encV : V → Array Value}
  {w0 : World} {mods : List Nat} {n : Nat} {m : HF} {e : Env} {Q : Exit → Act → World → Prop} {ops : Array Oper} {rest : List Oper} {d : Nat} {t : TypeId} {p : String} {af : Array Edge} {dd : Option Nat} {g : Option (Nat × Bool)} {x y z : Operand} {T : TypeId}
theorem Val.lkS {b : Nat} {s : MS K V} {k : K} {zv : V} (hT : mapB P T = some (kt, vt)) (hu : (P.underlying kt).isSome = true) (hk : KeyOk P kt ke) (hz : zeroB P vt = some (.agg (encV zv))) (hb : Kn w0 mods m b (MS.obj ke (vA encV) s)) (hx : evalE e x = some (.map (some b))) (hy : evalE e y = some (ke k)) :
    Val P w0 mods m e ⟨dd, .lookup T x y false, t, p, af, g⟩ (.agg (encV ((s.get k).getD zv))) := by
  have h := Val.lk (P := P) (w0 := w0) (mods := mods) (m := m) (e := e) (dd := dd) (g := g) (t := t) (p := p) (af := af) (ve := vA encV) hT hu hk hz hx hy hb
  unfold MS.get
  generalize getM s.l k = q at h ⊢
  cases q <;> exact h
theorem Val.lkOkS {b : Nat} {s : MS K V} {k : K} {zv : V} (hT : mapB P T = some (kt, vt)) (hu : (P.underlying kt).isSome = true) (hk : KeyOk P kt ke) (hz : zeroB P vt = some (.agg (encV zv))) (hb : Kn w0 mods m b (MS.obj ke (vA encV) s)) (hx : evalE e x = some (.map (some b))) (hy : evalE e y = some (ke k)) :
    Val P w0 mods m e ⟨dd, .lookup T x y true, t, p, af, g⟩ (.tuple #[.agg (encV ((s.get k).getD zv)), .bool (s.get k).isSome]) := by
  have h := Val.lkOk (P := P) (w0 := w0) (mods := mods) (m := m) (e := e) (dd := dd) (g := g) (t := t) (p := p) (af := af) (ve := vA encV) hT hu hk hz hx hy hb
  unfold MS.get
  generalize getM s.l k = q at h ⊢
  cases q <;> exact h
theorem St.muS {b : Nat} {s : MS K V} {k : K} {v : V} (i : Nat) (hT : mapB P T = some (kt, vt)) (hu : (P.underlying kt).isSome = true) (hk : KeyOk P kt ke) (hb : m[i]? = some (some b, MS.obj ke (vA encV) s))
    (hx : evalE e x = some (.map (some b))) (hy : evalE e y = some (ke k)) (hz : evalE e z = some (.agg (encV v)))
    (h : St w0 mods n (m.set i (some b, MS.obj ke (vA encV) (s.put k v))) e (wpList P ops Q rest)) :
    St w0 mods n m e (wpList P ops Q (⟨none, .mapUpdate T x y z, t, p, af, none⟩ :: rest)) :=
  St.mu (ve := vA encV) i hb s.ok hT hu hk hx hy hz h
theorem St.dlS {b : Nat} {s : MS K V} {k : K} (i : Nat) (hT : mapB P T = some (kt, vt)) (hu : (P.underlying kt).isSome = true) (hk : KeyOk P kt ke) (hb : m[i]? = some (some b, MS.obj ke (vA encV) s))
    (hx : evalE e x = some (.map (some b))) (hy : evalE e y = some (ke k)) {ts : List TypeId}
    (h : St w0 mods n (m.set i (some b, MS.obj ke (vA encV) (s.del k))) e (wpList P ops Q rest)) :
    St w0 mods n m e (wpList P ops Q (⟨none, .call ⟨.builtin .delete, [x, y].toArray, (T :: ts).toArray⟩, t, p, af, none⟩ :: rest)) :=
  St.dl (ve := vA encV) i hb s.ok hT hu hk hx hy h
omit [DecidableEq K] in
theorem Val.lenM {b : Nat} {s : MS K V} (hT : mapB P T = some (kt, vt)) (hb : Kn w0 mods m b (MS.obj ke (vA encV) s)) (hx : evalE e x = some (.map (some b))) :
    Val P w0 mods m e ⟨dd, .call ⟨.builtin .len, [x].toArray, [T].toArray⟩, t, p, af, g⟩ (.int .i64 ((s.len : Nat) : Int)) := fun ρ w hρ hm hf => by
  have h1 := hb w hm hf
  unfold MS.obj mapO at h1
  simp [execOp, resolve, invoke, builtin, hρ _ _ hx, Builtin.len_, run_underlying' w (mapB_spec hT), run_getMap h1, MS.len, goInt]
omit [DecidableEq K] in
theorem St.mkS {mt : TypeId} (ke : K → Value) (encV : V → Array Value) (hd : d < n) (k : ∀ b, w0.heap.size ≤ b → St w0 mods n ((some b, MS.obj ke (vA encV) MS.emp) :: m) ((d, .map (some b)) :: e) (wpList P ops Q rest)) :
    St w0 mods n m e (wpList P ops Q (⟨some d, .makeMap mt none, t, p, af, none⟩ :: rest)) := St.mkm hd k
end

/-! ### calls -/
def keysH (m : HF) : List Nat := m.filterMap (·.1)
theorem keysH_iff {m : HF} {b : Nat} : b ∈ keysH m ↔ ∃ o, (some b, o) ∈ m := by
  unfold keysH
  rw [List.mem_filterMap]
  constructor
  · rintro ⟨⟨k, o⟩, h1, h2⟩
    simp only at h2
    subst h2
    exact ⟨o, h1⟩
  · rintro ⟨o, h⟩
    exact ⟨_, h, rfl⟩
theorem keysH_mem {m : HF} : ∀ b o, (some b, o) ∈ m → b ∈ keysH m := fun _ o h => keysH_iff.2 ⟨o, h⟩

section
variable {P : Program} {w0 : World} {mods : List Nat} {n : Nat} {m : HF} {e : Env} {Q : Exit → Act → World → Prop} {ops : Array Oper} {rest : List Oper} {d : Nat} {t : TypeId} {p : String} {af : Array Edge}
/-- What a caller may tell of the blocks that the call writes. -/
structure Hand (w0 : World) (mods : List Nat) (m : HF) (k : Nat) (w : World) : Prop where
  mem : Mem m w
  fr : Fr mods w0 w
  apart : m.Pairwise Apart
  old : ∀ b ∈ keysH (m.take k), w0.heap.size ≤ b ∨ b ∈ mods
theorem Hand.pk {k : Nat} {w : World} (h : Hand w0 mods m k w) : Mem (m.take k) w := fun b o hb => h.mem b o (List.mem_of_mem_take hb)
theorem Hand.pa {k : Nat} {w : World} (h : Hand w0 mods m k w) : (m.take k).Pairwise Apart := h.apart.sublist (List.take_sublist _ _)

/-- A call that may write the first k blocks. -/
theorem St.callM (k : Nat) {fo : Operand} {xs : List Operand} {ats : Array TypeId} {f : FuncId} {first capt args : Array Value} {vs : List Value} {R : Value → HF → Prop} {dst : Option Nat}
    (hf : evalE e fo = some (.func (.func f) first capt)) (hE : enterB P f = true) (hxs : evalsE e xs = some vs) (hargs : first ++ vs.toArray ++ capt = args)
    (hc : ∀ w, Hand w0 mods m k w → Calls P f args w (Ret w (keysH (m.take k)) R)) (hd : ∀ d, dst = some d → d < n)
    (K : ∀ v nm, R v nm → St w0 mods n (nm ++ m.drop k) (match dst with | some d => (d, v) :: e | none => e) (wpList P ops Q rest)) :
    St w0 mods n m e (wpList P ops Q (⟨dst, .call ⟨.value fo, xs.toArray, ats⟩, t, p, af, none⟩ :: rest)) := fun a w hs =>
  wpList_plain rfl fun K' hK => by
    have hap := hs.apart
    rw [← List.take_append_drop k m, List.pairwise_append] at hap
    have hcm : ∀ b ∈ keysH (m.take k), ∃ o, (some b, o) ∈ m := fun b hb => by
      obtain ⟨o, ho⟩ := keysH_iff.1 hb
      exact ⟨o, List.mem_of_mem_take ho⟩
    have hap2 : ∀ b ∈ keysH (m.take k), ∀ o, (some b, o) ∉ m.drop k := fun b hb o ho => by
      obtain ⟨o', ho'⟩ := keysH_iff.1 hb
      exact hap.2.2 _ ho' _ ho b rfl rfl
    unfold Oper.wp
    rw [run_call (hs.eval hf) hE (hs.evalsL hxs) hargs]
    refine (hc w ⟨hs.mem, hs.fr, hs.apart, fun b hb => by obtain ⟨o, ho⟩ := hcm b hb; exact hs.own b o ho⟩).mono ?_
    rintro en w' ⟨v, nm, rfl, hR, h1, h2, h3, h4⟩
    have hs2 := hs.called hcm (List.drop_sublist k m) hap2 h1 h2 h3 h4
    cases dst with
    | none => exact hK _ _ (K v nm hR _ _ hs2)
    | some d => exact hK _ _ (K v nm hR _ _ (hs2.put (hd d rfl) v))

/-- a list that came in lies apart from what is one's own -/
theorem Ro.apart {α : Type} {enc : α → Array Value} {s : Nat} {p : Option Addr} {l : List α} {cap : Nat} (h : Ro enc s w0 p l cap) {ks : List Nat} (hk : ∀ b ∈ ks, w0.heap.size ≤ b ∨ b ∈ ([] : List Nat)) : l ≠ [] → ∀ b o, p = some ⟨b, o, none⟩ → b ∉ ks := by
  intro hl b o hp hb
  rcases h.rd with ⟨h, _⟩ | ⟨b', o', c, T, fr, h1, h2, _⟩
  · exact hl h
  · rw [hp] at h1
    cases h1
    have := lt_of_heap h2
    rcases hk b hb with h | h
    · omega
    · cases h
/-- a list of one's own lies apart from the first blocks -/
theorem own_apart {α : Type} {key : Option Nat} {l : List α} {k : Nat} {o : Obj} (i : Nat) (hap : m.Pairwise Apart) (hi : m[i]? = some (key, o)) (hik : k ≤ i) : l ≠ [] → ∀ b o', (key.map fun b => (⟨b, 0, none⟩ : Addr)) = some ⟨b, o', none⟩ → b ∉ keysH (m.take k) := by
  intro _ b o' hp hb
  obtain ⟨o2, ho2⟩ := keysH_iff.1 hb
  cases key with
  | none => cases hp
  | some c =>
    simp only [Option.map_some, Option.some.injEq, Addr.mk.injEq] at hp
    obtain ⟨rfl, _⟩ := hp
    rw [← List.take_append_drop k m, List.pairwise_append] at hap
    have : (some c, o) ∈ m.drop k := by
      have h2 : (m.drop k)[i - k]? = some (some c, o) := by rw [List.getElem?_drop, show k + (i - k) = i by omega]; exact hi
      exact List.mem_of_getElem? h2
    exact hap.2.2 _ ho2 _ this c rfl rfl
theorem RoK.parN {α : Type} {enc : α → Array Value} {s : Nat} {p : Option Addr} {l : List α} {cap : Nat} (h : Ro enc s w0 p l cap) (hb : l ≠ [] → ∀ b o, p = some ⟨b, o, none⟩ → b ∉ mods) : RoK w0 mods m enc s p l cap := by
  by_cases hl : l = []
  · subst hl
    refine ⟨.inl ⟨rfl, ?_⟩, h.le⟩
    rcases h.rd with ⟨_, h⟩ | ⟨b, o, c, T, f, h1, _⟩
    · exact h
    · exact .inr ⟨b, o, h1⟩
  · exact .parM h (hb hl)
theorem Fr.keep {w w' : World} {b : Nat} {o : Obj} (hf : Fr [] w w') (h : w.heap[b]? = some o) : w'.heap[b]? = some o := by rw [hf.block b (lt_of_heap h) (by simp)]; exact h
theorem Kn.at {w : World} {b : Nat} {o : Obj} (h : Kn w0 mods m b o) (hm : Mem m w) (hf : Fr mods w0 w) : w.heap[b]? = some o := h w hm hf
end

/-- a call without a result slot -/
theorem St.call0n {P : Program} {w0 : World} {mods : List Nat} {n : Nat} {m : HF} {e : Env} {Q : Exit → Act → World → Prop} {ops : Array Oper} {rest : List Oper} {t : TypeId} {p : String} {af : Array Edge} {fo : Operand} {xs : List Operand} {ats : Array TypeId} {f : FuncId} {first capt args : Array Value} {vs : List Value} {R : Value → HF → Prop}
    (hf : evalE e fo = some (.func (.func f) first capt)) (hE : enterB P f = true) (hxs : evalsE e xs = some vs) (hargs : first ++ vs.toArray ++ capt = args)
    (hc : ∀ w, Mem m w → Fr mods w0 w → Calls P f args w (Ret w [] R))
    (k : ∀ v nm, R v nm → St w0 mods n (nm ++ m) e (wpList P ops Q rest)) :
    St w0 mods n m e (wpList P ops Q (⟨none, .call ⟨.value fo, xs.toArray, ats⟩, t, p, af, none⟩ :: rest)) :=
  St.callM 0 hf hE hxs hargs (fun w hh => hc w hh.mem hh.fr) (by simp) k
end Go.Fx
