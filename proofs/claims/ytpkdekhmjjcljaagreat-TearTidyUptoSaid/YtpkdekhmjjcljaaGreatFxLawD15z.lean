/- The law TearTidy of layer 15, as a plain law. -/
import Derived.Test.YtpkdekhmjjcljaaGreatFxLawA15z
namespace Go.Fx
set_option maxRecDepth 10000

def ownL (m : Tab) : List api_Entry := (ents m).filter ownE
def endM (m : Tab) (p : api_Path) : Tab := if endY (m.get p) = true then m.del p else m
def endsM (m : Tab) (ps : List api_Path) : Tab := ps.foldl endM m
theorem endsM_snoc (m : Tab) (ps : List api_Path) (p : api_Path) : endsM m (ps ++ [p]) = endM (endsM m ps) p := by unfold endsM; rw [List.foldl_append]; rfl
theorem endM_get {m : Tab} {p : api_Path} (h : ∀ x, m.get p = some x → endY (some x) = true) (q : api_Path) : (endM m p).get q = if q = p then none else m.get q := by
  unfold endM
  cases hg : m.get p with
  | none =>
    rw [if_neg (by simp [endY])]
    by_cases e : q = p
    · rw [if_pos e, e, hg]
    · rw [if_neg e]
  | some x => rw [if_pos (h x hg), MS.get_del]
theorem endsM_get : ∀ (ps : List api_Path) (m : Tab), (∀ p ∈ ps, ∀ x, m.get p = some x → endY (some x) = true) → ∀ q, (endsM m ps).get q = if q ∈ ps then none else m.get q
  | [], m, _, q => by simp [endsM]
  | p :: ps, m, h, q => by
    have h1 := endM_get (h p (by simp))
    show (endsM (endM m p) ps).get q = _
    rw [endsM_get ps (endM m p) (fun p' hp' x hx => by
      rw [h1] at hx
      split at hx
      · cases hx
      · exact h p' (by simp [hp']) x hx) q, h1]
    by_cases e1 : q ∈ ps
    · simp [e1]
    · by_cases e2 : q = p
      · simp [e2]
      · simp [e1, e2]
theorem own_end {x : api_Entry} (h : ownE x = true) : endY (some x) = true := by
  unfold ownE at h
  simp only [Bool.or_eq_true, decide_eq_true_eq] at h
  unfold endY
  simp only [Bool.not_eq_true', Bool.and_eq_false_iff, decide_eq_false_iff_not]
  omega
theorem ownL_mem {m : Tab} (ok : TabOk m) {x : api_Entry} : x ∈ ownL m ↔ m.get x.P = some x ∧ ownE x = true := by
  unfold ownL
  rw [List.mem_filter, ents_mem ok]
/-- own paths that end fall out -/
structure Out (m m2 : Tab) (ps : List api_Path) : Prop where
  ok : TabOk m2
  get : ∀ q, m2.get q = if q ∈ ps then none else m.get q
theorem Out.of {m : Tab} (ok : TabOk m) {ps : List api_Path} (h : ∀ p ∈ ps, ∃ x ∈ ownL m, x.P = p) : Out m (endsM m ps) ps := by
  have hg := endsM_get ps m (fun p hp x hx => by
    obtain ⟨y, hy, e⟩ := h p hp
    have hy' := (ownL_mem ok).1 hy
    rw [e, hx] at hy'
    rw [Option.some.inj hy'.1]
    exact own_end hy'.2)
  refine ⟨fun k v hv => ?_, hg⟩
  rw [hg] at hv
  split at hv
  · cases hv
  · exact ok k v hv
theorem ownL_strict {m : Tab} (ok : TabOk m) : (ownL m).Pairwise fun a b => pathLt a.P b.P = true := (ents_strict ok).filter _
theorem Out.own {m m2 : Tab} {ps : List api_Path} (ok : TabOk m) (h : Out m m2 ps) : ownL m2 = (ownL m).filter fun x => !decide (x.P ∈ ps) := by
  refine ents_ext (ownL_strict h.ok) ((ownL_strict ok).filter _) fun x => ?_
  rw [ownL_mem h.ok, List.mem_filter, ownL_mem ok, h.get]
  by_cases e : x.P ∈ ps
  · simp [e]
  · simp [e]
theorem ownL_len (m : Tab) : (ownL m).length ≤ m.len := by unfold ownL; rw [← ents_len]; exact List.length_filter_le _ _
theorem endM_len (m : Tab) (p : api_Path) : (endM m p).len ≤ m.len := by
  unfold endM
  split
  · exact MS.del_len m p
  · exact Nat.le_refl _
theorem endsM_len : ∀ (ps : List api_Path) (m : Tab), (endsM m ps).len ≤ m.len
  | [], _ => Nat.le_refl _
  | p :: ps, m => Nat.le_trans (endsM_len ps (endM m p)) (endM_len m p)

/-! ### twins fall out -/
theorem twn_sub : ∀ (l : List api_Entry) (seen : List Idn) (p : api_Path), p ∈ twn seen l → ∃ x ∈ l, x.P = p
  | [], _, p, h => by simp [twn] at h
  | x :: l, seen, p, h => by
    simp only [twn] at h
    rcases List.mem_append.1 h with h | h
    · split at h
      · simp at h; exact ⟨x, by simp, h.symm⟩
      · cases h
    · obtain ⟨y, hy, e⟩ := twn_sub l _ p h
      exact ⟨y, by simp [hy], e⟩
theorem twn_nodup : ∀ (l : List api_Entry) (seen : List Idn), l.Pairwise (fun a b => a.P ≠ b.P) → ((l.filter fun x => !decide (x.P ∈ twn seen l)).map otherE).Nodup ∧ ∀ x ∈ l.filter (fun x => !decide (x.P ∈ twn seen l)), otherE x ∉ seen
  | [], _, _ => ⟨by simp, by simp⟩
  | x :: l, seen, hp => by
    rw [List.pairwise_cons] at hp
    obtain ⟨h1, h2⟩ := twn_nodup l (seen ++ [otherE x]) hp.2
    have hf : l.filter (fun y => !decide (y.P ∈ twn seen (x :: l))) = l.filter (fun y => !decide (y.P ∈ twn (seen ++ [otherE x]) l)) := by
      refine List.filter_congr fun y hy => ?_
      have hne := hp.1 y hy
      refine congrArg (fun b => !b) (decide_eq_decide.2 ?_)
      show y.P ∈ (if otherE x ∈ seen then [x.P] else []) ++ twn (seen ++ [otherE x]) l ↔ _
      rw [List.mem_append]
      constructor
      · rintro (h | h)
        · split at h
          · simp at h; exact absurd h.symm hne
          · cases h
        · exact h
      · exact .inr
    have hx : x.P ∈ twn seen (x :: l) ↔ otherE x ∈ seen := by
      simp only [twn, List.mem_append]
      constructor
      · rintro (h | h)
        · split at h
          · assumption
          · cases h
        · obtain ⟨y, hy, e⟩ := twn_sub _ _ _ h
          exact absurd e.symm (hp.1 y hy)
      · intro h
        rw [if_pos h]; simp
    by_cases hs : otherE x ∈ seen
    · rw [List.filter_cons_of_neg (by simp [hx.2 hs]), hf]
      exact ⟨h1, fun y hy h => h2 y hy (by simp [h])⟩
    · rw [List.filter_cons_of_pos (by rw [dec_false (fun h => hs (hx.1 h))]; rfl), hf, List.map_cons, List.nodup_cons]
      refine ⟨⟨?_, h1⟩, ?_⟩
      · rw [List.mem_map]
        rintro ⟨y, hy, e⟩
        exact h2 y hy (by simp [e])
      · intro y hy
        rcases List.mem_cons.1 hy with rfl | hy
        · exact hs
        · exact fun h => h2 y hy (by simp [h])

/-- no twins, no way to oneself -/
structure Tidy (me : Idn) (m : Tab) : Prop where
  ok : TabOk m
  nodup : ((ownL m).map otherE).Nodup
  noself : me ∉ (ownL m).map otherE
theorem Tidy.out {self : Idn} {m m2 : Tab} {ps : List api_Path} (h : Tidy self m) (o : Out m m2 ps) : Tidy self m2 := by
  have e := o.own h.ok
  refine ⟨o.ok, ?_, ?_⟩
  · rw [e]
    exact List.Nodup.sublist (List.Sublist.map _ List.filter_sublist) h.nodup
  · rw [e]
    intro hm
    exact h.noself ((List.Sublist.map _ List.filter_sublist).subset hm)
theorem tidy_len {self : Idn} {m : Tab} (h : Tidy self m) : (friendsL self (ownL m)).length = (ownL m).length := by
  have hp : (friendsL self (ownL m)).Perm ((ownL m).map otherE) := by
    refine (List.perm_ext_iff_of_nodup (rise_nodup (sorted_rise _ _)) h.nodup).2 fun x => ?_
    rw [mem_sorted]
    exact ⟨fun k => k.1, fun k => ⟨k, fun e => h.noself (e ▸ k)⟩⟩
  rw [hp.length_eq, List.length_map]
theorem twn_nil {l : List api_Entry} (h : (l.map otherE).Nodup) : twn [] l = [] := by
  suffices g : ∀ (l : List api_Entry) (seen : List Idn), (seen ++ l.map otherE).Nodup → twn seen l = [] from g l [] h
  intro l
  induction l with
  | nil => intro _ _; rfl
  | cons x l ih =>
    intro seen hn
    simp only [twn]
    rw [List.map_cons] at hn
    rw [if_neg, List.nil_append, ih]
    · rw [List.append_assoc]; exact hn
    · intro hs
      rw [List.nodup_append] at hn
      exact hn.2.2 _ hs _ (by simp) rfl
theorem spare_nil {self : Idn} {half : Int} {own : List api_Entry} (h : spareL self half own = []) : wantL self (friendsL self own) half = friendsL self own := by
  have hr : Rise (friendsL self own) := sorted_rise _ _
  have hself : self ∉ friendsL self own := fun k => (mem_sorted.1 k).2 rfl
  have hsub : ∀ x, x ∈ wantL self (friendsL self own) half → x ∈ friendsL self own := by
    intro x hx
    unfold wantL at hx
    exact (mem_sorted.1 (List.mem_filter.1 hx).1).1
  refine rise_ext ((sorted_rise _ _).filter _) hr fun x => ⟨hsub x, fun hx => ?_⟩
  obtain ⟨hm, _⟩ := mem_sorted.1 hx
  obtain ⟨y, hy, e⟩ := List.mem_map.1 hm
  unfold spareL at h
  rw [List.map_eq_nil_iff, List.filter_eq_nil_iff] at h
  have := h y hy
  rw [e] at this
  simpa using this
theorem spare_in {self : Idn} {half : Int} {own : List api_Entry} {p : api_Path} (h : p ∈ spareL self half own) : ∃ x ∈ own, x.P = p := by
  unfold spareL at h
  obtain ⟨x, hx, e⟩ := List.mem_map.1 h
  exact ⟨x, (List.mem_filter.1 hx).1, e⟩

/-- the end: all is tidy -/
theorem tidy_end {self : Idn} {m : Tab} (half : Int) (h : Tidy self m) (hlen : m.len < 1000000) (hs : spareL self half (ownL m) = []) :
    ((F_tear_Friends 128 m self).bind fun x11 => (F_tear_Spare 128 m self half).bind fun x12 => cond (decide ((((x12).length : Nat) : Int) = 0)) ((F_tear_Twins 128 m).bind fun x13 => cond (decide ((((x13).length : Nat) : Int) = 0)) ((F_table_Table_Own 128 m).bind fun x14 => cond (decide ((((x14).length : Nat) : Int) = (((x11).length : Nat) : Int))) ((F_annuletref10_Want self x11 half).bind fun x15 => (F_annuletref01_SameIDs x15 x11).bind fun x16 => some x16) (some false)) (some false)) (some false)) = some true := by
  have hol := ownL_len m
  have hfl := tidy_len h
  rw [tear_Friends_eq _ _ _ hlen, tear_Spare_eq _ _ _ _ hlen, tear_Twins_eq _ _ hlen, table_Own_eq _ _ (by omega)]
  show (some (friendsL self (ownL m))).bind _ = _
  simp only [Option.bind_some]
  rw [show (ents m).filter ownE = ownL m from rfl, hs, twn_nil h.nodup]
  simp only [List.length_nil, hfl, decide_true]
  rw [ref10_Want_eq _ _ _ (by omega)]
  simp only [Option.bind_some]
  rw [spare_nil hs, SameIDs_eq _ (by omega)]
  rfl

theorem L3_eq (self : Idn) (half : Int) : ∀ (k : Nat) (m : Tab) (i : Nat), (ownL m).length ≤ k → Tidy self m → m.len < 1000000 → i + k ≤ 128 → ∀ n, k < n → iter (F_annuletlaw15_TearTidy_L3 self half) n (128, m, ((i : Nat) : Int)) = some true := by
  intro k
  induction k with
  | zero =>
    intro m i hk h hlen hi n hn
    obtain ⟨n, rfl⟩ : ∃ n', n = n' + 1 := ⟨n - 1, by omega⟩
    have h0 : ownL m = [] := List.length_eq_zero_iff.1 (by omega)
    have hs : spareL self half (ownL m) = [] := by rw [h0]; rfl
    have he := tidy_end half h hlen hs
    show F_annuletlaw15_TearTidy_L3 self half _ _ = _
    rw [F_annuletlaw15_TearTidy_L3]
    simp only [dec_true (show ((i : Nat) : Int) < 130 by omega), cond_true]
    have hsp := tear_Spare_eq 128 m self half hlen
    rw [show (ents m).filter ownE = ownL m from rfl, hs] at hsp
    rw [hsp] at he ⊢
    simp only [Option.bind_some, List.length_nil] at he ⊢
    exact he
  | succ k ih =>
    intro m i hk h hlen hi n hn
    obtain ⟨n, rfl⟩ : ∃ n', n = n' + 1 := ⟨n - 1, by omega⟩
    have hsp := tear_Spare_eq 128 m self half hlen
    rw [show (ents m).filter ownE = ownL m from rfl] at hsp
    show F_annuletlaw15_TearTidy_L3 self half _ _ = _
    rw [F_annuletlaw15_TearTidy_L3]
    simp only [dec_true (show ((i : Nat) : Int) < 130 by omega), cond_true]
    cases hs : spareL self half (ownL m) with
    | nil =>
      have he := tidy_end half h hlen hs
      rw [hs] at hsp
      rw [hsp] at he ⊢
      simp only [Option.bind_some, List.length_nil] at he ⊢
      exact he
    | cons p ps =>
      rw [hs] at hsp
      rw [hsp]
      have hol := ownL_len m
      simp only [Option.bind_some, List.length_cons, dec_false (show ¬ (((ps.length + 1 : Nat)) : Int) = 0 by omega), cond_false]
      rw [show ixL (p :: ps) 0 = some p from rfl]
      simp only [Option.bind_some]
      rw [tear_End_eq]
      simp only [Option.bind_some, wrap1 (show i < 4611686018427387904 by omega)]
      obtain ⟨x, hx, hxp⟩ := spare_in (p := p) (by rw [hs]; simp)
      have o := Out.of h.ok (ps := [p]) (fun q hq => by simp at hq; subst hq; exact ⟨x, hx, hxp⟩)
      have hlt : (ownL (endsM m [p])).length < (ownL m).length := by
        rw [o.own h.ok]
        refine List.length_filter_lt_length_iff_exists.2 ⟨x, hx, by simp [hxp]⟩
      exact ih (endsM m [p]) (i + 1) (by omega) (h.out o) (Nat.lt_of_le_of_lt (endsM_len _ _) hlen) (by omega) n (by omega)

theorem TearTidy_true (l : List api_Entry) (self : Idn) (half : Int) (hl : l.length < 1000000000) : F_annuletlaw15_TearTidy l self half = some true := by
  unfold F_annuletlaw15_TearTidy
  obtain ⟨ok, hlen, hr⟩ := laidM_ok l
  rw [laid_eq l hl, fixed_eq]
  simp only [Option.bind_some, Bool.not_true, cond_false]
  generalize laidM l = m at *
  have hol := ownL_len m
  rw [tear_Twins_eq _ _ (by omega)]
  simp only [Option.bind_some]
  rw [show (ents m).filter ownE = ownL m from rfl]
  have htl := twn_len (ownL m) []
  have hne : (ownL m).Pairwise (fun a b => a.P ≠ b.P) := (ownL_strict ok).imp fun h e => by rw [e, pathLt_irrefl] at h; cases h
  obtain ⟨hnd, _⟩ := twn_nodup (ownL m) [] hne
  have o1 := Out.of ok (ps := twn [] (ownL m)) (fun p hp => twn_sub _ _ p hp)
  have hown1 := o1.own ok
  have hlen1 := endsM_len (twn [] (ownL m)) m
  have ok1 := o1.ok
  generalize hps : twn [] (ownL m) = ps at *
  refine iter_list ps (by omega) (fun _ => True) (fun i => ((128 : Int), endsM m (ps.take i), ((i : Nat) : Int))) _ ?_ ?_ trivial
  · intro again i p hi hp _ ih
    have ih := ih trivial
    have hs : ps.take (i + 1) = ps.take i ++ [p] := by rw [List.take_add_one, hp]; rfl
    rw [hs, endsM_snoc] at ih
    rw [F_annuletlaw15_TearTidy_L1]
    simp only [dec_lt, dec_true hi, cond_true, ixL_of, hp, Option.bind_some, tear_End_eq, wrap1 (show i < 4611686018427387904 by omega)]
    exact ih
  · intro again _
    rw [F_annuletlaw15_TearTidy_L1]
    simp only [dec_lt, Nat.lt_irrefl, decide_false, cond_false, List.take_length]
    generalize hm1 : endsM m ps = m1 at *
    rw [table_Own_eq _ _ (by omega)]
    simp only [Option.bind_some]
    rw [show (ents m1).filter ownE = ownL m1 from rfl]
    have hol1 := ownL_len m1
    have o2 := Out.of ok1 (ps := ((ownL m1).filter fun x => decide (otherE x = self)).map (·.P)) (fun p hp => by
      obtain ⟨x, hx, e⟩ := List.mem_map.1 hp
      exact ⟨x, (List.mem_filter.1 hx).1, e⟩)
    refine iter_list (ownL m1) (by omega) (fun _ => True) (fun i => ((128 : Int), endsM m1 ((((ownL m1).take i).filter fun x => decide (otherE x = self)).map (·.P)), ((i : Nat) : Int))) _ ?_ ?_ trivial
    · intro ag i x hi hx _ ih
      have ih := ih trivial
      have hs : (ownL m1).take (i + 1) = (ownL m1).take i ++ [x] := by rw [List.take_add_one, hx]; rfl
      rw [hs, List.filter_append, List.map_append] at ih
      obtain ⟨z, hz⟩ := Other_eq x
      rw [F_annuletlaw15_TearTidy_L2]
      simp only [dec_lt, dec_true hi, cond_true, ixL_of, hx, Option.bind_some, hz, tear_End_eq, wrap1 (show i < 4611686018427387904 by omega)]
      by_cases h : otherE x = self
      · rw [dec_true h, cond_true]
        rw [List.filter_cons_of_pos (by simp [h]), List.filter_nil, List.map_singleton, endsM_snoc] at ih
        exact ih
      · rw [dec_false h, cond_false]
        rw [List.filter_cons_of_neg (by simp [h]), List.filter_nil, List.map_nil, List.append_nil] at ih
        exact ih
    · intro ag _
      rw [F_annuletlaw15_TearTidy_L2]
      simp only [dec_lt, Nat.lt_irrefl, decide_false, cond_false, List.take_length]
      have hown2 := o2.own ok1
      have hlen2 := endsM_len (((ownL m1).filter fun x => decide (otherE x = self)).map (·.P)) m1
      have htidy : Tidy self (endsM m1 (((ownL m1).filter fun x => decide (otherE x = self)).map (·.P))) := by
        refine ⟨o2.ok, ?_, ?_⟩
        · rw [hown2, hown1]
          exact List.Nodup.sublist (List.Sublist.map _ List.filter_sublist) hnd
        · rw [hown2, List.mem_map]
          rintro ⟨x, hx, e⟩
          obtain ⟨h1, h2⟩ := List.mem_filter.1 hx
          simp only [Bool.not_eq_true', decide_eq_false_iff_not] at h2
          exact h2 (List.mem_map.2 ⟨x, List.mem_filter.2 ⟨h1, by simp [e]⟩, rfl⟩)
      exact L3_eq self half (ownL (endsM m1 (((ownL m1).filter fun x => decide (otherE x = self)).map (·.P)))).length _ 0 (Nat.le_refl _) htidy (by omega) (by have := ownL_len (endsM m1 (((ownL m1).filter fun x => decide (otherE x = self)).map (·.P))); omega) FUEL (by rw [FUEL_eq]; have := ownL_len (endsM m1 (((ownL m1).filter fun x => decide (otherE x = self)).map (·.P))); omega)
end Go.Fx
