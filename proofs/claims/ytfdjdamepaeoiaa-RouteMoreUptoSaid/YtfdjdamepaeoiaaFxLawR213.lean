/- RouteTurned and RouteMore hold, as plain laws. -/
import Derived.Test.YtfdjdamepaeoiaaFxLawR13
import Derived.Test.YtfdjdamepaeoiaaFxKap13
namespace Go.Fx
set_option maxRecDepth 10000

/-! ### whoever knows more -/
theorem choose_min (d self : Idn) : ∀ (l : List route_Choice) (b : route_Choice), (∀ x ∈ l, kap d (l.foldl (fun b x => if beforeC d x b then x else b) b).ID ≤ kap d x.ID) ∧ kap d (l.foldl (fun b x => if beforeC d x b then x else b) b).ID ≤ kap d b.ID
  | [], b => ⟨by simp, Nat.le_refl _⟩
  | x :: l, b => by
    rw [List.foldl_cons]
    have hstep : kap d (if beforeC d x b then x else b).ID ≤ kap d x.ID ∧ kap d (if beforeC d x b then x else b).ID ≤ kap d b.ID := by
      by_cases hid : x.ID = b.ID
      · cases beforeC d x b <;> simp [hid]
      · have hb : beforeC d x b = decide (kap d x.ID < kap d b.ID) := by unfold beforeC; rw [if_neg hid, nearer_kap]
        rw [hb]
        by_cases h : kap d x.ID < kap d b.ID
        · simp [h]; omega
        · simp [h]; omega
    obtain ⟨h1, h2⟩ := choose_min d self l (if beforeC d x b then x else b)
    refine ⟨fun y hy => ?_, Nat.le_trans h2 hstep.2⟩
    rcases List.mem_cons.1 hy with rfl | hy
    · exact Nat.le_trans h2 hstep.1
    · exact h1 y hy
theorem choose_in (d self : Idn) (l : List route_Choice) : chooseC d self l = ⟨self, false, zP, -1⟩ ∨ chooseC d self l ∈ l := by
  unfold chooseC
  suffices h : ∀ (l : List route_Choice) (b : route_Choice), l.foldl (fun b x => if beforeC d x b then x else b) b = b ∨ l.foldl (fun b x => if beforeC d x b then x else b) b ∈ l from h l _
  intro l
  induction l with
  | nil => intro b; exact .inl rfl
  | cons x l ih =>
    intro b
    rw [List.foldl_cons]
    rcases ih (if beforeC d x b then x else b) with h | h
    · rw [h]
      split
      · exact .inr (by simp)
      · exact .inl rfl
    · exact .inr (List.mem_cons_of_mem _ h)
theorem fold_keeps : ∀ (l : List api_Entry) (m : Tab) (p : api_Path) (v : api_Entry), m.get p = some v → (l.foldl (fun m x => (tabAdd 128 m x).2) m).get p = some v
  | [], _, _, _, h => h
  | x :: l, m, p, v, h => by
    refine fold_keeps l _ p v ?_
    show (tabAdd 128 m x).2.get p = some v
    unfold tabAdd
    split
    · exact h
    · split
      · exact h
      · rename_i h1
        split
        · exact h
        · have hn : m.get x.P = none := by
            cases hg : m.get x.P with
            | none => rfl
            | some v => rw [hg] at h1; exact absurd rfl h1
          rw [MS.get_put_new hn, if_neg (fun e => by rw [e, hn] at h; cases h)]
          exact h

theorem RouteMore_true (d self : Idn) (nears : List api_Near) (es more : List api_Entry) (hn : nears.length < 1000000000) (he : es.length < 100000000) (hm : more.length < 100000000) : F_annuletlaw13_RouteMore d self nears es more = some true := by
  unfold F_annuletlaw13_RouteMore
  obtain ⟨ok1, hl1⟩ := laidM_ok es
  obtain ⟨ok2, hl2⟩ := laidM_ok (es ++ more)
  rw [laid_eq es (by omega)]
  simp only [Option.bind_some]
  rw [appG_of (by simp only [List.length_nil]; omega)]
  simp only [Option.bind_some, List.nil_append]
  rw [appG_of (by omega)]
  simp only [Option.bind_some]
  rw [laid_eq (es ++ more) (by rw [List.length_append]; omega)]
  simp only [Option.bind_some, F_table_Table_Len]
  rw [choose_eq _ _ _ _ _ hn (by omega), choose_eq _ _ _ _ _ hn (by omega)]
  simp only [Option.bind_some, fixed_eq]
  have hmain : Idn.nearer d (chooseC d self (knownC self nears (ents (laidM es)))).ID (chooseC d self (knownC self nears (ents (laidM (es ++ more))))).ID = false := by
    rw [nearer_kap, decide_eq_false_iff_not, Nat.not_lt]
    obtain ⟨h1, h2⟩ := choose_min d self (knownC self nears (ents (laidM (es ++ more)))) ⟨self, false, zP, -1⟩
    rcases choose_in d self (knownC self nears (ents (laidM es))) with h | h
    · rw [h]; exact h2
    · refine h1 _ ?_
      unfold knownC at h ⊢
      rw [List.mem_append] at h ⊢
      rcases h with h | h
      · exact .inl h
      · refine .inr ?_
        rw [List.mem_flatMap] at h ⊢
        obtain ⟨x, hx, hxc⟩ := h
        refine ⟨x, ?_, hxc⟩
        rw [ents_mem ok1] at hx
        rw [ents_mem ok2, laidM_app]
        exact fold_keeps more _ _ _ hx
  rw [hmain]
  cases decide ((128 : Int) ≤ ((laidM es).len : Int)) <;> rfl

/-! ### all turned by one way -/
def Idn.add (x y : Idn) : Idn := Idn.sub x (Idn.sub Idn.zero y)
theorem add_eq (x y : Idn) : F_annuletref01_Add x y = some (x.add y) := rfl
theorem add_n (x y : Idn) : (x.add y).n = (x.n + y.n) % M128 := by
  have hx := x.lt
  have hy := y.lt
  unfold Idn.add Idn.sub Idn.zero
  simp only
  unfold M128 at *
  omega
theorem add_sub_add (x y z : Idn) : (x.add z).sub (y.add z) = x.sub y := by
  refine Idn.ext_n ?_
  have hx := x.lt
  have hy := y.lt
  have hz := z.lt
  show ((x.add z).n + (M128 - (y.add z).n)) % M128 = (x.n + (M128 - y.n)) % M128
  rw [add_n, add_n]
  unfold M128 at *
  omega
theorem add_inj {x y z : Idn} : x.add z = y.add z ↔ x = y := by
  constructor
  · intro h
    have h1 : (x.add z).n = (y.add z).n := by rw [h]
    rw [add_n, add_n] at h1
    have hx := x.lt
    have hy := y.lt
    have hz := z.lt
    refine Idn.ext_n ?_
    unfold M128 at *
    omega
  · rintro rfl; rfl
theorem far_add (x y z : Idn) : (x.add z).far (y.add z) = x.far y := by unfold Idn.far; rw [add_sub_add, add_sub_add]
theorem nearer_add (d a b z : Idn) : (d.add z).nearer (a.add z) (b.add z) = d.nearer a b := by unfold Idn.nearer; rw [far_add, far_add, add_sub_add, add_sub_add]

def turnE (by_ : Idn) (x : api_Entry) : api_Entry := ⟨x.P, x.A.add by_, x.B.add by_, x.Na, x.Nb⟩
def turnN (by_ : Idn) (x : api_Near) : api_Near := ⟨x.N, x.ID.add by_⟩
def turnC (by_ : Idn) (x : route_Choice) : route_Choice := ⟨x.ID.add by_, x.Near, x.P, x.N⟩
theorem before_turn (d z : Idn) (a b : route_Choice) : beforeC (d.add z) (turnC z a) (turnC z b) = beforeC d a b := by
  unfold beforeC turnC
  simp only [add_inj, nearer_add]
theorem choose_turn (d self z : Idn) (l : List route_Choice) : chooseC (d.add z) (self.add z) (l.map (turnC z)) = turnC z (chooseC d self l) := by
  unfold chooseC
  rw [List.foldl_map]
  suffices h : ∀ (l : List route_Choice) (b : route_Choice), l.foldl (fun x y => if beforeC (d.add z) (turnC z y) x = true then turnC z y else x) (turnC z b) = turnC z (l.foldl (fun b x => if beforeC d x b then x else b) b) from h l ⟨self, false, zP, -1⟩
  intro l
  induction l with
  | nil => intro b; rfl
  | cons x l ih =>
    intro b
    rw [List.foldl_cons, List.foldl_cons, ← ih]
    congr 1
    rw [before_turn]
    split <;> rfl

/-- one table is the other one, turned -/
structure Turned (z : Idn) (m u : Tab) : Prop where
  keys : u.l.map (·.key) = m.l.map (·.key)
  get : ∀ k, u.get k = (m.get k).map (turnE z)
theorem right_turn (z : Idn) (x : api_Entry) : rightE (turnE z x) = rightE x := by unfold rightE turnE; simp only [add_inj]
theorem Turned.add {z : Idn} {m u : Tab} (h : Turned z m u) (x : api_Entry) : Turned z (tabAdd 128 m x).2 (tabAdd 128 u (turnE z x)).2 := by
  have hlen : u.len = m.len := by have := congrArg List.length h.keys; simpa [MS.len] using this
  have hg : (u.get (turnE z x).P).isSome = (m.get x.P).isSome := by rw [h.get]; show ((m.get x.P).map _).isSome = _; rw [Option.isSome_map]
  unfold tabAdd
  rw [right_turn, hg, hlen]
  split
  · exact h
  · split
    · exact h
    · rename_i h1
      have hn : m.get x.P = none := by
        cases hg : m.get x.P with
        | none => rfl
        | some v => rw [hg] at h1; exact absurd rfl h1
      have hu : u.get (turnE z x).P = none := by rw [h.get]; show (m.get x.P).map _ = _; rw [hn]; rfl
      split
      · exact h
      · refine ⟨?_, fun k => ?_⟩
        · rw [MS.put_new hu, MS.put_new hn, List.map_append, List.map_append, h.keys]; rfl
        · rw [MS.get_put_new hu, MS.get_put_new hn, h.get]
          show (if k = x.P then _ else _) = _
          split <;> rfl
theorem laid_turn (z : Idn) (l : List api_Entry) : Turned z (laidM l) (laidM (l.map (turnE z))) := by
  unfold laidM
  rw [List.foldl_map]
  suffices h : ∀ (l : List api_Entry) (m u : Tab), Turned z m u → Turned z (l.foldl (fun m x => (tabAdd 128 m x).2) m) (l.foldl (fun x y => (tabAdd 128 x (turnE z y)).2) u) from h l _ _ ⟨rfl, fun k => rfl⟩
  intro l
  induction l with
  | nil => intro m u h; exact h
  | cons x l ih => intro m u h; exact ih _ _ (h.add x)
theorem ents_turn {z : Idn} {m u : Tab} (h : Turned z m u) : ents u = (ents m).map (turnE z) := by
  unfold ents keysS
  rw [h.keys, List.map_map]
  refine List.map_congr_left ?_
  intro p hp
  have hp2 : p ∈ keysS m := hp
  rw [keysS_mem] at hp2
  obtain ⟨v, hv⟩ := Option.isSome_iff_exists.1 hp2
  simp only [Function.comp]
  rw [h.get, hv]
  rfl
theorem entC_turn (z : Idn) (x : api_Entry) : entC (turnE z x) = (entC x).map (turnC z) := by
  unfold entC turnE
  simp only [List.map_append]
  split <;> split <;> rfl
theorem known_turn (z self : Idn) (nears : List api_Near) (es : List api_Entry) : knownC (self.add z) (nears.map (turnN z)) (es.map (turnE z)) = (knownC self nears es).map (turnC z) := by
  unfold knownC
  simp only [List.map_append, List.map_map, List.map_flatMap, List.flatMap_map]
  congr 1
  congr 1
  funext x
  exact entC_turn z x

theorem RouteTurned_true (d self : Idn) (nears : List api_Near) (es : List api_Entry) (z : Idn) (hn : nears.length < 1000000000) (he : es.length < 100000000) : F_annuletlaw13_RouteTurned d self nears es z = some true := by
  have f1 : ∀ x : Idn, F_annuletlaw13_RouteTurned_f1 x z = some (x.add z) := fun x => rfl
  unfold F_annuletlaw13_RouteTurned
  rw [f1]
  simp only [Option.bind_some]
  refine iter_list (body := F_annuletlaw13_RouteTurned_L1 d self nears es z) nears (by omega) (fun _ => True) (fun i => ((nears.take i).map (turnN z), self.add z, ((i : Nat) : Int))) _ ?_ ?_ trivial
  · intro again i x hi hx _ ih
    rw [F_annuletlaw13_RouteTurned_L1]
    simp only [dec_lt, dec_true hi, cond_true, ixL_of, hx, Option.bind_some, f1]
    rw [appG_of (by simp only [List.length_singleton, List.length_map, List.length_take]; omega)]
    simp only [Option.bind_some, wrap1 (show i < 4611686018427387904 by omega)]
    have ih := ih trivial
    rw [show nears.take (i + 1) = nears.take i ++ [x] by rw [List.take_add_one, hx]; rfl, List.map_append] at ih
    exact ih
  · intro again _
    rw [F_annuletlaw13_RouteTurned_L1]
    simp only [dec_lt, Nat.lt_irrefl, decide_false, cond_false, List.take_length]
    refine iter_list (body := F_annuletlaw13_RouteTurned_L2 d self nears es z (nears.map (turnN z))) es (by omega) (fun _ => True) (fun i => ((es.take i).map (turnE z), self.add z, ((i : Nat) : Int))) _ ?_ ?_ trivial
    · intro again i x hi hx _ ih
      rw [F_annuletlaw13_RouteTurned_L2]
      simp only [dec_lt, dec_true hi, cond_true, ixL_of, hx, Option.bind_some, f1]
      rw [appG_of (by simp only [List.length_singleton, List.length_map, List.length_take]; omega)]
      simp only [Option.bind_some, wrap1 (show i < 4611686018427387904 by omega)]
      have ih := ih trivial
      rw [show es.take (i + 1) = es.take i ++ [x] by rw [List.take_add_one, hx]; rfl, List.map_append] at ih
      exact ih
    · intro again _
      rw [F_annuletlaw13_RouteTurned_L2]
      obtain ⟨_, hl1⟩ := laidM_ok es
      obtain ⟨_, hl2⟩ := laidM_ok (es.map (turnE z))
      simp only [dec_lt, Nat.lt_irrefl, decide_false, cond_false, List.take_length]
      rw [laid_eq es (by omega), laid_eq (es.map (turnE z)) (by rw [List.length_map]; omega)]
      simp only [Option.bind_some]
      rw [choose_eq d self nears 128 (laidM es) hn (by omega)]
      simp only [Option.bind_some, f1]
      rw [choose_eq _ _ (nears.map (turnN z)) 128 (laidM (es.map (turnE z))) (by rw [List.length_map]; exact hn) (by omega)]
      simp only [Option.bind_some, fixed_eq, cond_true]
      rw [ents_turn (laid_turn z es), known_turn, choose_turn]
      congr 1
      exact decide_eq_true rfl
end Go.Fx
