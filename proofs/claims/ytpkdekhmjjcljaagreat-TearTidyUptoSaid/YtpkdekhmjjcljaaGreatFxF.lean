/- Regions that draw their order: what only reads may be taken first; the rest is gone through in each order. -/
import Derived.Test.YtpkdekhmjjcljaaGreatFxD
import Derived.Still
namespace Go.Fx

class NoPanic (Q : Exit → Act → World → Prop) : Prop where
  no : ∀ c a w, ¬ Q (.panic c) a w
instance {K : Act → World → Prop} {Q : Exit → Act → World → Prop} [h : NoPanic Q] : NoPanic (Exit.then K Q) := ⟨fun c a w => h.no c a w⟩
instance {id : Nat} {Q : Exit → Act → World → Prop} [h : NoPanic Q] : NoPanic (Exit.inBlock id Q) := ⟨fun c a w => h.no c a w⟩
instance {P : Program} {fn : Func} {w : World} {cm : List Nat} {R : Value → HF → Prop} : NoPanic (bodyPost P fn (Ret w cm R)) := ⟨fun c a w h => by obtain ⟨_, v, nm, h, _⟩ := h; cases h⟩

section
variable {P : Program} {ops : Array Oper} {C : World → Prop} {Q : Exit → Act → World → Prop}

def YieldsC (P : Program) (ops : Array Oper) (C : World → Prop) (o : Oper) (v : Value) (a : Act) : Prop :=
  (Region.wanted o (yielded ops a.tmps) = true ∧ ∀ w, C w → (execOp a.eval o).run P w = .ok (.value v) w) ∨ (Region.wanted o (yielded ops a.tmps) = false ∧ v = undef)

theorem YieldsC.of_same {o : Oper} {v : Value} {a a' : Act} (hy : YieldsC P ops C o v a) (he : execOp a'.eval o = execOp a.eval o)
    (hw : Region.wanted o (yielded ops a'.tmps) = Region.wanted o (yielded ops a.tmps)) : YieldsC P ops C o v a' := by
  unfold YieldsC at *
  rw [he, hw]
  exact hy

theorem YieldsC.wpOp {i : Nat} {o : Oper} {v : Value} {a : Act} (hi : ops[i]? = some o) (hy : YieldsC P ops C o v a) {K : Act → World → Prop} {w : World} (hC : C w) (h : K (a.put o.dst v) w) : wpOp P ops Q i K a w := by
  unfold Go.wpOp
  simp only [hi]
  rcases hy with ⟨hw, hv⟩ | ⟨hw, rfl⟩
  · simp only [hw, if_true, Oper.wp, hv w hC, Oper.upon]; exact .inl h
  · simp only [hw, Bool.false_eq_true, if_false]; exact h

def wpAnyC (P : Program) (ops : Array Oper) (C : World → Prop) (Q : Exit → Act → World → Prop) : Nat → Array Bool → Act → World → Prop
  | 0, listed, a, w => C w ∧ Region.ready .any ops listed = [] ∧ Q .normal a w
  | fuel + 1, listed, a, w => C w ∧ (Region.ready .any ops listed = [] → Q .normal a w) ∧ ∀ i ∈ Region.ready .any ops listed, wpOp P ops Q i (wpAnyC P ops C Q fuel (listed.setIfInBounds i true)) a w

theorem wpAnyC.cls {fuel : Nat} {listed : Array Bool} {a : Act} {w : World} (h : wpAnyC P ops C Q fuel listed a w) : C w := by cases fuel <;> exact h.1

theorem wpAny_of_C : ∀ {fuel : Nat} {listed : Array Bool} {a : Act} {w : World}, wpAnyC P ops C Q fuel listed a w → wpAny P .any ops Q fuel listed a w
  | 0, _, _, _, h => h.2
  | _ + 1, _, _, _, h => ⟨h.2.1, fun i hi => wpOp_mono (fun _ _ h => wpAny_of_C h) (h.2.2 i hi)⟩

theorem wpOpC_put [hQ : NoPanic Q] {j : Nat} {oi oj : Oper} {v : Value} (hj : ops[j]? = some oj) (hap : oi.apart ops oj = true)
    (hsi : ∀ cs b, oi.op ≠ .select cs b) (hsj : ∀ cs b, oj.op ≠ .select cs b) {K : Act → World → Prop} {a : Act} {w : World}
    (hy : YieldsC P ops C oi v a) (h : wpOp P ops Q j K (a.put oi.dst v) w) :
    wpOp P ops Q j (fun a' w' => YieldsC P ops C oi v a' ∧ K (a'.put oi.dst v) w') a w := by
  obtain ⟨h1, h2, h3⟩ := Oper.apart_spec hap
  have keep : ∀ (a : Act), YieldsC P ops C oi v a → ∀ u, YieldsC P ops C oi v (a.put oj.dst u) := fun a hy u =>
    hy.of_same (execOp_put oi hsi a oj.dst u h3) (wanted_put oi a oj.dst u h3)
  have keepD : ∀ d, YieldsC P ops C oi v { a with defers := d :: a.defers } := fun d => hy.of_same rfl rfl
  unfold wpOp at *
  simp only [hj] at *
  rw [wanted_put oj a oi.dst v h1] at h
  split
  · rename_i hw
    simp only [hw, if_true] at h
    rcases h with h | ⟨hasks, hlets⟩
    case inr => exact .inr ⟨by unfold Oper.asks at *; rw [execOp_put oj hsj a oi.dst v h1] at hasks; exact hasks, hlets⟩
    refine .inl ?_
    unfold Oper.wp at *
    rw [execOp_put oj hsj a oi.dst v h1] at h
    generalize (execOp a.eval oj).run P w = r at *
    cases r with
    | ok n w' =>
      cases n <;> simp only [Oper.upon] at h ⊢
      case value u => exact ⟨keep a hy u, by rw [← Act.put_comm a v u h2]; exact h⟩
      case skip => exact ⟨keep a hy _, by rw [← Act.put_comm a v undef h2]; exact h⟩
      case defer d =>
        refine ⟨keep _ (keepD d) _, ?_⟩
        rw [← Act.put_comm _ v undef h2, ← Act.put_defers]
        exact h
      case enter f args =>
        refine Calls.mono h fun e w'' he => ?_
        cases e with
        | returned u => exact ⟨keep a hy u, by rw [← Act.put_comm a v u h2]; exact he⟩
        | panicked c => exact absurd he (hQ.no _ _ _)
        | outgrown => exact he
      case row row args => exact Rows.mono h fun u w'' he => ⟨keep a hy u, by rw [← Act.put_comm a v u h2]; exact he⟩
    | halt x w' =>
      cases x <;> simp only [Oper.upon] at h ⊢
      case panic u => exact absurd h (hQ.no _ _ _)
  · rename_i hw
    simp only [hw] at h
    exact ⟨keep a hy _, by rw [← Act.put_comm a v undef h2]; exact h⟩

theorem wpAnyC_first [hQ : NoPanic Q] {i : Nat} {oi : Oper} {v : Value} (hi : ops[i]? = some oi) (hsel : ∀ (j : Nat) (o : Oper) cs b, ops[j]? = some o → o.op ≠ .select cs b) :
    ∀ (fuel : Nat) (listed : Array Bool) (a : Act) (w : World),
      (∀ j oj, ops[j]? = some oj → j ≠ i → listed.getD j true = false → (∀ e ∈ oj.after, Region.binds .any e = true → e.on ≠ i) → oi.apart ops oj = true) →
      i ∈ Region.ready .any ops listed → YieldsC P ops C oi v a →
      wpAnyC P ops C Q fuel (listed.setIfInBounds i true) (a.put oi.dst v) w → wpAnyC P ops C Q (fuel + 1) listed a w := by
  intro fuel
  induction fuel with
  | zero =>
    intro listed a w _ hr hy H
    refine ⟨H.cls, fun h => (by rw [h] at hr; cases hr), fun j hj => ?_⟩
    by_cases hji : j = i
    · subst hji; exact hy.wpOp hi H.cls H
    · have := ready_mono hj hji
      rw [H.2.1] at this
      cases this
  | succ fuel ih =>
    intro listed a w hfree hr hy H
    refine ⟨H.cls, fun h => (by rw [h] at hr; cases hr), fun j hj => ?_⟩
    by_cases hji : j = i
    · subst hji; exact hy.wpOp hi H.cls H
    · have h1 := H.2.2 j (ready_mono hj hji)
      obtain ⟨hjun, oj, hoj, hall⟩ := mem_ready.1 hj
      have hnot : ∀ e ∈ oj.after, Region.binds .any e = true → e.on ≠ i := fun e he hb heq => by
        have h1 := hall e he hb
        have h0 := (mem_ready.1 hr).1
        rw [heq] at h1
        rcases Nat.lt_or_ge i listed.size with h' | h'
        · simp [h'] at h0 h1; rw [h0] at h1; cases h1
        · simp [Array.getElem?_eq_none h'] at h1
      have h2 := wpOpC_put hoj (hfree j oj hoj hji hjun hnot) (fun cs b => hsel i oi cs b hi) (fun cs b => hsel j oj cs b hoj) hy h1
      have hfree' : ∀ k ok, ops[k]? = some ok → k ≠ i → (listed.setIfInBounds j true).getD k true = false →
          (∀ e ∈ ok.after, Region.binds .any e = true → e.on ≠ i) → oi.apart ops ok = true := fun k ok hk hki hun hno => by
        refine hfree k ok hk hki ?_ hno
        by_cases hjk : j = k
        · subst hjk; exact hjun
        · rw [getD_set_ne true hjk] at hun; exact hun
      refine wpOp_mono (fun a' w' h3 => ih (listed.setIfInBounds j true) a' w' hfree' (ready_mono hr (Ne.symm hji)) h3.1 ?_) h2
      rw [Array.setIfInBounds_comm _ _ hji]
      exact h3.2

/-- Operations that only read, one behind the other. -/
def wpS (P : Program) (ops : Array Oper) (C : World → Prop) (K : Act → World → Prop) : List Nat → Act → World → Prop
  | [], a, w => K a w
  | i :: is, a, w => ∃ oi v, ops[i]? = some oi ∧ YieldsC P ops C oi v a ∧ wpS P ops C K is (a.put oi.dst v) w

def listing : Array Bool → List Nat → Array Bool
  | l, [] => l
  | l, i :: is => listing (l.setIfInBounds i true) is
def firstB (ops : Array Oper) : Array Bool → List Nat → Bool
  | _, [] => true
  | l, i :: is => (Region.ready .any ops l).contains i && Region.free .any ops l i && firstB ops (l.setIfInBounds i true) is

theorem wpAnyC_of_S [hQ : NoPanic Q] (hsel : Region.noSelect ops = true) {fuel : Nat} : ∀ (is : List Nat) (listed : Array Bool) (a : Act) (w : World), firstB ops listed is = true →
    wpS P ops C (wpAnyC P ops C Q fuel (listing listed is)) is a w → wpAnyC P ops C Q (fuel + is.length) listed a w
  | [], _, _, _, _, h => h
  | i :: is, listed, a, w, hB, ⟨oi, v, hi, hy, h⟩ => by
    simp only [firstB, Bool.and_eq_true] at hB
    exact wpAnyC_first hi (Region.noSelect_spec hsel) (fuel + is.length) listed a w (Region.free_spec hi hB.1.2) (by simpa using hB.1.1) hy (wpAnyC_of_S hsel is _ _ _ hB.2 h)

end

/-! ### the rules -/
def Cls (m : HF) (mods : List Nat) (w0 : World) (w : World) : Prop := Mem m w ∧ Fr mods w0 w

section
variable {P : Program} {w0 : World} {mods : List Nat} {n : Nat} {m ms : HF} {e : Env} {Q : Exit → Act → World → Prop} {K : Act → World → Prop}

def falses (n : Nat) : Array Bool := Array.replicate n false

/-- A region that draws: 'ms' are the blocks that what only reads in it looks at. -/
theorem St.draws {id : Nat} {l : List Oper} (ms : HF) (hm : P.follows .mixedOrders = true) (h : St w0 mods n m e (wpAnyC P l.toArray (Cls ms mods w0) Q l.length (falses l.length))) :
    St w0 mods n m e ((Code.region id l.toArray true).wp P Q) := fun a w hs => by
  refine wp_region_any hm ?_
  have := wpAny_of_C (h a w.drew hs.drew)
  simpa [falses] using this

/-- What only reads comes first. -/
theorem St.first [NoPanic Q] {l : List Oper} {listed : Array Bool} {N : Nat} (is : List Nat) (fuel : Nat) (hN : fuel + is.length = N) (hsel : Region.noSelect l.toArray = true) (hB : firstB l.toArray listed is = true)
    (h : St w0 mods n m e (wpS P l.toArray (Cls ms mods w0) (wpAnyC P l.toArray (Cls ms mods w0) Q fuel (listing listed is)) is)) :
    St w0 mods n m e (wpAnyC P l.toArray (Cls ms mods w0) Q N listed) := fun a w hs => by
  subst hN
  exact wpAnyC_of_S hsel is listed a w hB (h a w hs)

theorem St.s_nil {ops : Array Oper} {C : World → Prop} (h : St w0 mods n m e K) : St w0 mods n m e (wpS P ops C K []) := h

theorem St.s_step {ops : Array Oper} {is : List Nat} {i d : Nat} {o : Oper} {v : Value} (hi : ops[i]? = some o) (hg : o.guard = none) (hdst : o.dst = some d) (h : Val P w0 mods ms e o v) (hd : d < n)
    (k : St w0 mods n m ((d, v) :: e) (wpS P ops (Cls ms mods w0) K is)) : St w0 mods n m e (wpS P ops (Cls ms mods w0) K (i :: is)) := fun a w hs =>
  ⟨o, v, hi, .inl ⟨by simp [Region.wanted, hg], fun w' hw' => h a.eval w' hs.evals hw'.1 hw'.2⟩, by rw [hdst]; exact k _ _ (hs.put hd v)⟩

theorem St.s_stepg {ops : Array Oper} {is : List Nat} {i d j : Nat} {b : Bool} {o : Oper} {v : Value} (hi : ops[i]? = some o) (hg : o.guard = some (j, b)) (hgv : gval ops e j = some b) (hdst : o.dst = some d) (h : Val P w0 mods ms e o v) (hd : d < n)
    (k : St w0 mods n m ((d, v) :: e) (wpS P ops (Cls ms mods w0) K is)) : St w0 mods n m e (wpS P ops (Cls ms mods w0) K (i :: is)) := fun a w hs =>
  ⟨o, v, hi, .inl ⟨by simp [Region.wanted, hg, hs.yield hgv], fun w' hw' => h a.eval w' hs.evals hw'.1 hw'.2⟩, by rw [hdst]; exact k _ _ (hs.put hd v)⟩

theorem St.s_pass {ops : Array Oper} {is : List Nat} {i d j : Nat} {b b' : Bool} {o : Oper} (hi : ops[i]? = some o) (hg : o.guard = some (j, b)) (hgv : gval ops e j = some b') (hne : (b' == b) = false) (hdst : o.dst = some d) (hd : d < n)
    (k : St w0 mods n m ((d, undef) :: e) (wpS P ops (Cls ms mods w0) K is)) : St w0 mods n m e (wpS P ops (Cls ms mods w0) K (i :: is)) := fun a w hs =>
  ⟨o, undef, hi, .inr ⟨by simp only [Region.wanted, hg, hs.yield hgv]; cases b <;> cases b' <;> simp_all, rfl⟩, by rw [hdst]; exact k _ _ (hs.put hd undef)⟩

theorem St.s_passu {ops : Array Oper} {is : List Nat} {i d j : Nat} {b : Bool} {o : Oper} (hi : ops[i]? = some o) (hg : o.guard = some (j, b)) {t : Nat} (hj : (ops[j]?).bind (·.dst) = some t) (ht : look e t = some undef) (hdst : o.dst = some d) (hd : d < n)
    (k : St w0 mods n m ((d, undef) :: e) (wpS P ops (Cls ms mods w0) K is)) : St w0 mods n m e (wpS P ops (Cls ms mods w0) K (i :: is)) := fun a w hs =>
  ⟨o, undef, hi, .inr ⟨by simp only [Region.wanted, hg, yielded, hj, Option.bind_some, hs.env t _ ht]; rfl, rfl⟩, by rw [hdst]; exact k _ _ (hs.put hd undef)⟩
theorem St.passu {ops : Array Oper} {rest : List Oper} {op : Op} {ty : TypeId} {p : String} {af : Array Edge} {d j : Nat} {b : Bool} {t : Nat} (hj : (ops[j]?).bind (·.dst) = some t) (ht : look e t = some undef) (hd : d < n)
    (k : St w0 mods n m ((d, undef) :: e) (wpList P ops Q rest)) : St w0 mods n m e (wpList P ops Q (⟨some d, op, ty, p, af, some (j, b)⟩ :: rest)) := fun a w hs =>
  wpList_step fun K hK => by
    have : Region.wanted ⟨some d, op, ty, p, af, some (j, b)⟩ (yielded ops a.tmps) = false := by simp only [Region.wanted, yielded, hj, Option.bind_some, hs.env t _ ht]; rfl
    rw [if_neg (by rw [this]; decide)]
    exact hK _ _ (k _ _ (hs.put hd undef))

theorem Sat.cls {a : Act} {w : World} (hs : Sat w0 mods n m e a w) (hsub : ms.Sublist m) : Cls ms mods w0 w := ⟨fun b o hb => hs.mem b o (hsub.mem hb), hs.fr⟩

/-- All have come. -/
theorem St.done {ops : Array Oper} {listed : Array Bool} (hsub : ms.Sublist m) (hr : Region.ready .any ops listed = []) (h : St w0 mods n m e (Q .normal)) : St w0 mods n m e (wpAnyC P ops (Cls ms mods w0) Q 0 listed) :=
  fun a w hs => ⟨hs.cls hsub, hr, h a w hs⟩

theorem wpOp_of_list {ops : Array Oper} {i : Nat} {o : Oper} (hi : ops[i]? = some o) {a : Act} {w : World} (h : wpList P ops (Exit.then K Q) [o] a w) : wpOp P ops Q i K a w := by
  unfold wpOp
  simp only [hi]
  unfold wpList at h
  split
  · rename_i hw
    rw [if_pos hw] at h
    rcases h with h | ⟨h1, h2⟩
    · refine .inl ?_
      unfold Oper.wp at *
      generalize (execOp a.eval o).run P w = r at *
      cases r with
      | ok nx w' =>
        cases nx <;> simp only [Oper.upon] at h ⊢
        case value => exact h
        case skip => exact h
        case defer => exact h
        case enter f args => exact Calls.mono h fun e w'' he => by cases e <;> exact he
        case row row args => exact Rows.mono h fun u w'' he => he
      | halt x w' => cases x <;> simp only [Oper.upon] at h ⊢; exact h
    · exact .inr ⟨h1, h2⟩
  · rename_i hw
    rw [if_neg hw] at h
    exact h

/-- One operation may come, and no other. -/
theorem St.only {ops : Array Oper} {listed : Array Bool} {fuel i : Nat} {o : Oper} (hsub : ms.Sublist m) (hr : Region.ready .any ops listed = [i]) (hi : ops[i]? = some o)
    (h : St w0 mods n m e (wpList P ops (Exit.then (wpAnyC P ops (Cls ms mods w0) Q fuel (listed.setIfInBounds i true)) Q) [o])) : St w0 mods n m e (wpAnyC P ops (Cls ms mods w0) Q (fuel + 1) listed) :=
  fun a w hs => ⟨hs.cls hsub, fun h0 => (by rw [hr] at h0; cases h0), fun j hj => by
    rw [hr] at hj
    simp only [List.mem_singleton] at hj
    subst hj
    exact wpOp_of_list hi (h a w hs)⟩

/-- One of these may come. -/
theorem St.each {ops : Array Oper} {listed : Array Bool} {fuel : Nat} {is : List Nat} (hsub : ms.Sublist m) (hr : Region.ready .any ops listed = is) (hne : is.isEmpty = false)
    (h : ∀ i ∈ is, ∃ o, ops[i]? = some o ∧ St w0 mods n m e (wpList P ops (Exit.then (wpAnyC P ops (Cls ms mods w0) Q fuel (listed.setIfInBounds i true)) Q) [o])) : St w0 mods n m e (wpAnyC P ops (Cls ms mods w0) Q (fuel + 1) listed) :=
  fun a w hs => ⟨hs.cls hsub, fun h0 => (by rw [hr] at h0; subst h0; cases hne), fun j hj => by
    rw [hr] at hj
    obtain ⟨o, hi, h⟩ := h j hj
    exact wpOp_of_list hi (h a w hs)⟩

theorem St.each2 {ops : Array Oper} {listed : Array Bool} {fuel i j : Nat} {oi oj : Oper} (hsub : ms.Sublist m) (hr : Region.ready .any ops listed = [i, j]) (hi : ops[i]? = some oi) (hj : ops[j]? = some oj)
    (h1 : St w0 mods n m e (wpList P ops (Exit.then (wpAnyC P ops (Cls ms mods w0) Q fuel (listed.setIfInBounds i true)) Q) [oi]))
    (h2 : St w0 mods n m e (wpList P ops (Exit.then (wpAnyC P ops (Cls ms mods w0) Q fuel (listed.setIfInBounds j true)) Q) [oj])) : St w0 mods n m e (wpAnyC P ops (Cls ms mods w0) Q (fuel + 1) listed) :=
  .each hsub hr rfl fun k hk => by
    simp only [List.mem_cons, List.not_mem_nil, or_false] at hk
    rcases hk with rfl | rfl
    · exact ⟨oi, hi, h1⟩
    · exact ⟨oj, hj, h2⟩
theorem St.each3 {ops : Array Oper} {listed : Array Bool} {fuel i j l : Nat} {oi oj ol : Oper} (hsub : ms.Sublist m) (hr : Region.ready .any ops listed = [i, j, l]) (hi : ops[i]? = some oi) (hj : ops[j]? = some oj) (hl : ops[l]? = some ol)
    (h1 : St w0 mods n m e (wpList P ops (Exit.then (wpAnyC P ops (Cls ms mods w0) Q fuel (listed.setIfInBounds i true)) Q) [oi]))
    (h2 : St w0 mods n m e (wpList P ops (Exit.then (wpAnyC P ops (Cls ms mods w0) Q fuel (listed.setIfInBounds j true)) Q) [oj]))
    (h3 : St w0 mods n m e (wpList P ops (Exit.then (wpAnyC P ops (Cls ms mods w0) Q fuel (listed.setIfInBounds l true)) Q) [ol])) : St w0 mods n m e (wpAnyC P ops (Cls ms mods w0) Q (fuel + 1) listed) :=
  .each hsub hr rfl fun k hk => by
    simp only [List.mem_cons, List.not_mem_nil, or_false] at hk
    rcases hk with rfl | rfl | rfl
    · exact ⟨oi, hi, h1⟩
    · exact ⟨oj, hj, h2⟩
    · exact ⟨ol, hl, h3⟩

/-- Some of what is known, in another order. -/
def pickL (m : HF) : List Nat → Option HF
  | [] => some []
  | i :: is => match m[i]?, pickL m is with
    | some p, some q => some (p :: q)
    | _, _ => none
theorem pickL_mem {m : HF} : ∀ {is : List Nat} {m' : HF}, pickL m is = some m' → ∀ p ∈ m', ∃ i ∈ is, m[i]? = some p
  | [], m', h, p, hp => by simp only [pickL, Option.some.injEq] at h; subst h; simp at hp
  | i :: is, m', h, p, hp => by
    simp only [pickL] at h
    split at h
    · rename_i a b h1 h2
      simp only [Option.some.injEq] at h
      subst h
      rcases List.mem_cons.1 hp with rfl | hp
      · exact ⟨i, by simp, h1⟩
      · obtain ⟨k, hk, h3⟩ := pickL_mem h2 p hp
        exact ⟨k, by simp [hk], h3⟩
    · simp at h
theorem pickL_apart {m : HF} (ha : m.Pairwise Apart) : ∀ {is : List Nat} {m' : HF}, is.Nodup → pickL m is = some m' → m'.Pairwise Apart
  | [], m', _, h => by simp only [pickL, Option.some.injEq] at h; subst h; exact .nil
  | i :: is, m', hn, h => by
    simp only [pickL] at h
    split at h
    · rename_i a b h1 h2
      simp only [Option.some.injEq] at h
      subst h
      rw [List.nodup_cons] at hn
      refine List.pairwise_cons.2 ⟨fun q hq => ?_, pickL_apart ha hn.2 h2⟩
      obtain ⟨k, hk, h3⟩ := pickL_mem h2 q hq
      exact apart_at ha (by rintro rfl; exact hn.1 hk) h3 h1
    · simp at h
theorem Sat.sel {a : Act} {w : World} (hs : Sat w0 mods n m e a w) {m' : HF} (is : List Nat) (hn : is.Nodup) (h : pickL m is = some m') : Sat w0 mods n m' e a w :=
  ⟨hs.tmps, hs.defers, hs.env, fun b o hb => (by obtain ⟨i, _, hi⟩ := pickL_mem h _ hb; exact hs.mem b o (List.mem_of_getElem? hi)), pickL_apart hs.apart hn h,
   fun b o hb => (by obtain ⟨i, _, hi⟩ := pickL_mem h _ hb; exact hs.own b o (List.mem_of_getElem? hi)), hs.fr⟩
theorem St.sel {m' : HF} {X : Act → World → Prop} (is : List Nat) (hn : is.Nodup) (h : pickL m is = some m') (k : St w0 mods n m' e X) : St w0 mods n m e X := fun a w hs => k a w (hs.sel is hn h)
theorem St.env {e' : Env} {X : Act → World → Prop} (he : subEnv e' e) (k : St w0 mods n m e' X) : St w0 mods n m e X := fun a w hs => k a w (hs.sub (.refl _) he)

theorem St.lst {ops : Array Oper} {C : World → Prop} {fuel : Nat} {l l' : Array Bool} (hl : l = l') (k : St w0 mods n m e (wpAnyC P ops C Q fuel l')) : St w0 mods n m e (wpAnyC P ops C Q fuel l) := hl ▸ k

theorem St.drawsI {id : Nat} {l : List Oper} (is : List Nat) (_h : pickL m is = some ms) (hm : P.follows .mixedOrders = true) (h : St w0 mods n m e (wpAnyC P l.toArray (Cls ms mods w0) Q l.length (falses l.length))) :
    St w0 mods n m e ((Code.region id l.toArray true).wp P Q) := .draws ms hm h

/-- A call that answers a told value, and makes nothing that counts. -/
theorem St.callQ {ops : Array Oper} {rest : List Oper} {t : TypeId} {p : String} {af : Array Edge} {d : Nat} {v : Value} {fo : Operand} {xs : List Operand} {ats : Array TypeId} {f : FuncId} {first capt args : Array Value} {vs : List Value}
    (hf : evalE e fo = some (.func (.func f) first capt)) (hE : enterB P f = true) (hxs : evalsE e xs = some vs) (hargs : first ++ vs.toArray ++ capt = args)
    (hc : ∀ w, Mem m w → Fr mods w0 w → Calls P f args w (Ret w [] fun v' nm => v' = v ∧ nm = [])) (hd : d < n)
    (k : St w0 mods n m ((d, v) :: e) (wpList P ops Q rest)) :
    St w0 mods n m e (wpList P ops Q (⟨some d, .call ⟨.value fo, xs.toArray, ats⟩, t, p, af, none⟩ :: rest)) :=
  St.call0 hf hE hxs hargs hc hd (by rintro v' nm ⟨rfl, rfl⟩; exact k)
theorem St.call0g {ops : Array Oper} {rest : List Oper} {t : TypeId} {p : String} {af : Array Edge} {d j : Nat} {bo : Bool} (hg : gval ops e j = some bo) {fo : Operand} {xs : List Operand} {ats : Array TypeId} {f : FuncId} {first capt args : Array Value} {vs : List Value} {R : Value → HF → Prop}
    (hf : evalE e fo = some (.func (.func f) first capt)) (hE : enterB P f = true) (hxs : evalsE e xs = some vs) (hargs : first ++ vs.toArray ++ capt = args)
    (hc : ∀ w, Mem m w → Fr mods w0 w → Calls P f args w (Ret w [] R)) (hd : d < n)
    (k : ∀ v nm, R v nm → St w0 mods n (nm ++ m) ((d, v) :: e) (wpList P ops Q rest)) :
    St w0 mods n m e (wpList P ops Q (⟨some d, .call ⟨.value fo, xs.toArray, ats⟩, t, p, af, some (j, bo)⟩ :: rest)) :=
  St.callg hg m hf hE hxs hargs hc (by simp) (List.Sublist.refl _) (by simp) hd k
theorem St.callQg {ops : Array Oper} {rest : List Oper} {t : TypeId} {p : String} {af : Array Edge} {d j : Nat} {bo : Bool} {v : Value} (hg : gval ops e j = some bo) {fo : Operand} {xs : List Operand} {ats : Array TypeId} {f : FuncId} {first capt args : Array Value} {vs : List Value}
    (hf : evalE e fo = some (.func (.func f) first capt)) (hE : enterB P f = true) (hxs : evalsE e xs = some vs) (hargs : first ++ vs.toArray ++ capt = args)
    (hc : ∀ w, Mem m w → Fr mods w0 w → Calls P f args w (Ret w [] fun v' nm => v' = v ∧ nm = [])) (hd : d < n)
    (k : St w0 mods n m ((d, v) :: e) (wpList P ops Q rest)) :
    St w0 mods n m e (wpList P ops Q (⟨some d, .call ⟨.value fo, xs.toArray, ats⟩, t, p, af, some (j, bo)⟩ :: rest)) :=
  St.call0g hg hf hE hxs hargs hc hd (by rintro v' nm ⟨rfl, rfl⟩; exact k)
end
end Go.Fx
