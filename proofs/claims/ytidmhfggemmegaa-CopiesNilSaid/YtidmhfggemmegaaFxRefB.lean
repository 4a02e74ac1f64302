/- What the functions of package annuletref01 answer that read lists. -/
import Derived.Test.YtidmhfggemmegaaFxRef01
import Derived.Test.YtidmhfggemmegaaFxJ
namespace Go.Fx
set_option maxRecDepth 10000

abbrev IRd := Rd Idn.enc 16

/-- is none of the list nearer? -/
def refNearB (d y : Idn) (l : List Idn) : Bool := l.all fun x => !d.nearer x y
def refNearest (d : Idn) (l : List Idn) : Nat → Int
  | i => match h : l[i]? with
    | some y => if refNearB d y l then (i : Int) else refNearest d l (i + 1)
    | none => -1
  termination_by i => l.length - i
  decreasing_by
  have := (List.getElem?_eq_some_iff.1 h).1
  omega

theorem refNearest_some {d : Idn} {l : List Idn} {i : Nat} {y : Idn} (h : l[i]? = some y) : refNearest d l i = if refNearB d y l then (i : Int) else refNearest d l (i + 1) := by
  rw [refNearest]; split
  · rename_i z hz; rw [h] at hz; cases hz; rfl
  · rename_i hz; rw [h] at hz; cases hz
theorem refNearest_none {d : Idn} {l : List Idn} {i : Nat} (h : l.length ≤ i) : refNearest d l i = -1 := by
  rw [refNearest]; split
  · rename_i z hz; rw [List.getElem?_eq_none h] at hz; cases hz
  · rfl

def takeAll (d y : Idn) (l : List Idn) (k : Nat) : Bool := (l.take k).all fun x => !d.nearer x y
theorem takeAll_succ {d y x : Idn} {l : List Idn} {k : Nat} (h : l[k]? = some x) : takeAll d y l (k + 1) = (takeAll d y l k && !d.nearer x y) := by
  obtain ⟨hk, rfl⟩ := List.getElem?_eq_some_iff.1 h
  unfold takeAll
  rw [List.take_succ_eq_append_getElem hk, List.all_append]
  simp

theorem ref01_Nearest (d : Idn) (p : Option Addr) (cap : Nat) (l : List Idn) (hlen : l.length < 2 ^ 62) (w : World) (hR : IRd w p l) : Calls PG f_annuletref01_Nearest #[.agg d.enc, .slice p l.length cap] w (Ret w [] fun v nm => v = .int .i64 (refNearest d l 0) ∧ nm = []) := by
  refine enter0 (n := 36) (args := [.agg d.enc, .slice p l.length cap]) B_annuletref01_Nearest rfl rfl (by simp) ?_
  refine .seq (.region (?_))
  refine .box rfl rfl (by decide) fun b2 hb2 => ?_
  refine .step (.as rfl) (by decide) ?_
  refine .nil (.then_n (.seq (.seq (.region (?_)))))
  refine .step (.as rfl) (by decide) ?_
  refine .nil (.then_n (.block (.loop (G := Nat) (fun g1 => g1 ≤ l.length ∧ refNearest d l 0 = refNearest d l g1) (fun g1 => [(some b2, .cells (d.enc) T_api_ID (0, 0))]) (fun g1 => [(1, .slice p l.length cap), (2, .pointer (some ⟨b2, 0, none⟩)), (5, .int .i64 (g1 : Nat))]) (fun g1 => l.length - g1) 0 ⟨Nat.zero_le _, rfl⟩ (.refl _) (.cons rfl (.cons rfl (.cons rfl .nil))) ?_)))
  intro g1 hg1
  refine .seq (.seq (.region (?_)))
  refine .step (.mv rfl) (by decide) ?_
  refine .step (.mv rfl) (by decide) ?_
  refine .step (.len L_sl_api_ID rfl) (by decide) ?_
  refine .step (.lss rfl rfl) (by decide) ?_
  refine .nil (.then_n (.cond rfl (fun hc => ?_) (fun hc => ?_)))
  · have hlt : g1 < l.length := by simp at hc; omega
    obtain ⟨b, o, c, T, fr, rfl, hb, hsel⟩ := hR.get hlt
    obtain ⟨y, hy⟩ : ∃ y, l[g1]? = some y := ⟨_, List.getElem?_eq_getElem hlt⟩
    refine .skip (.then_n (.seq (.block (.seq (.region (?_))))))
    refine .step (.as rfl) (by decide) ?_
    refine .nil (.then_n (.seq (.seq (.region (?_)))))
    refine .step (.as rfl) (by decide) ?_
    refine .nil (.then_n (.block (.loop (G := Nat) (fun g2 => g2 ≤ l.length) (fun g2 => [(some b2, .cells (d.enc) T_api_ID (0, 0))]) (fun g2 => [(1, .slice (some ⟨b, o, none⟩) l.length cap), (2, .pointer (some ⟨b2, 0, none⟩)), (5, .int .i64 (g1 : Nat)), (6, .bool (takeAll d y l g2)), (7, .int .i64 (g2 : Nat))]) (fun g2 => l.length - g2) 0 (Nat.zero_le _) (.refl _) (.cons rfl (.cons rfl (.cons rfl (.cons rfl (.cons rfl .nil))))) ?_)))
    intro g2 hg2
    refine .seq (.seq (.region (?_)))
    refine .step (.mv rfl) (by decide) ?_
    refine .step (.mv rfl) (by decide) ?_
    refine .step (.len L_sl_api_ID rfl) (by decide) ?_
    refine .step (.lss rfl rfl) (by decide) ?_
    refine .nil (.then_n (.cond rfl (fun hc => ?_) (fun hc => ?_)))
    · have hlt2 : g2 < l.length := by simp at hc; omega
      obtain ⟨x, hx⟩ : ∃ x, l[g2]? = some x := ⟨_, List.getElem?_eq_getElem hlt2⟩
      have hst := takeAll_succ (d := d) (y := y) hx
      refine .skip (.then_n (.seq (.block (.drawsI [0] rfl rfl ?_))))
      refine .first [0, 1] 13 rfl (by kernel_rfl) (by kernel_rfl) ?_
      refine .s_step rfl rfl rfl (.mv rfl) (by decide) ?_
      refine .s_step rfl rfl rfl (.mv rfl) (by decide) ?_
      refine .s_nil ?_
      refine .splitb 21 rfl (fun h1 => ?_) (fun h1 => ?_)
      · refine .first [2, 3, 4, 5, 6, 7, 8, 9, 10] 4 rfl (by kernel_rfl) (by kernel_rfl) ?_
        refine .s_stepg rfl rfl rfl rfl (.ldA rfl (.i 0 rfl) A_api_ID Z_api_ID (Idn.size _)) (by decide) ?_
        refine .s_stepg rfl rfl rfl rfl (.mv rfl) (by decide) ?_
        refine .s_stepg rfl rfl rfl rfl (.mv rfl) (by decide) ?_
        refine .s_stepg rfl rfl rfl rfl (.ix rfl rfl L_sl_api_ID Z_api_ID (by omega) (by omega)) (by decide) ?_
        refine .s_stepg rfl rfl rfl rfl (.lds rfl (.o hb (by simp)) A_api_ID Z_api_ID (hsel _ _ hx)) (by decide) ?_
        refine .s_stepg rfl rfl rfl rfl (.mv rfl) (by decide) ?_
        refine .s_stepg rfl rfl rfl rfl (.mv rfl) (by decide) ?_
        refine .s_stepg rfl rfl rfl rfl (.ix rfl rfl L_sl_api_ID Z_api_ID (by omega) (by omega)) (by decide) ?_
        refine .s_stepg rfl rfl rfl rfl (.lds rfl (.o hb (by simp)) A_api_ID Z_api_ID (hsel _ _ hy)) (by decide) ?_
        refine .s_nil ?_
        refine .only (i := 11) (.refl _) (by kernel_rfl) rfl ?_  -- op 11
        refine .gd rfl ?_
        refine .callQ rfl E_annuletref01_Nearer rfl rfl (fun w _ _ => ref01_Nearer _ _ _ w) (by decide) ?_
        refine .nil (.then_n ?_)
        refine .first [12, 13, 14] 0 rfl (by kernel_rfl) (by kernel_rfl) ?_
        refine .s_stepg rfl rfl rfl rfl (.not rfl) (by decide) ?_
        refine .s_step rfl rfl rfl (.pk_t rfl rfl) (by decide) ?_
        refine .s_step rfl rfl rfl (.as rfl) (by decide) ?_
        refine .s_nil ?_
        refine .done (.refl _) (by kernel_rfl) ?_
        refine .blk_n (.then_n (.region (?_)))
        refine .step (.mv rfl) (by decide) ?_
        refine .step (.add' (c := ((g2 + 1 : Nat) : Int)) rfl rfl (by rw [w64] <;> omega)) (by decide) ?_
        refine .step (.as rfl) (by decide) ?_
        refine .nil (.then_n (?_))
        refine .again (g2 + 1) (by omega) (by omega) (.refl _) (.cons rfl (.cons rfl (.cons rfl (.cons (by show some (Value.bool _) = _; rw [hst, h1, Bool.true_and]) (.cons rfl .nil)))))
      · refine .first [2, 3, 4, 5, 6, 7, 8, 9, 10, 11, 12, 13, 14] 0 rfl (by kernel_rfl) (by kernel_rfl) ?_
        refine .s_pass rfl rfl rfl rfl rfl (by decide) ?_
        refine .s_pass rfl rfl rfl rfl rfl (by decide) ?_
        refine .s_pass rfl rfl rfl rfl rfl (by decide) ?_
        refine .s_pass rfl rfl rfl rfl rfl (by decide) ?_
        refine .s_pass rfl rfl rfl rfl rfl (by decide) ?_
        refine .s_pass rfl rfl rfl rfl rfl (by decide) ?_
        refine .s_pass rfl rfl rfl rfl rfl (by decide) ?_
        refine .s_pass rfl rfl rfl rfl rfl (by decide) ?_
        refine .s_pass rfl rfl rfl rfl rfl (by decide) ?_
        refine .s_pass rfl rfl rfl rfl rfl (by decide) ?_
        refine .s_pass rfl rfl rfl rfl rfl (by decide) ?_
        refine .s_step rfl rfl rfl (.pk_f rfl rfl) (by decide) ?_
        refine .s_step rfl rfl rfl (.as rfl) (by decide) ?_
        refine .s_nil ?_
        refine .done (.refl _) (by kernel_rfl) ?_
        refine .blk_n (.then_n (.region (?_)))
        refine .step (.mv rfl) (by decide) ?_
        refine .step (.add' (c := ((g2 + 1 : Nat) : Int)) rfl rfl (by rw [w64] <;> omega)) (by decide) ?_
        refine .step (.as rfl) (by decide) ?_
        refine .nil (.then_n (?_))
        refine .again (g2 + 1) (by omega) (by omega) (.refl _) (.cons rfl (.cons rfl (.cons rfl (.cons (by show some (Value.bool _) = _; rw [hst, h1, Bool.false_and]) (.cons rfl .nil)))))
    · have h2 : g2 = l.length := by simp at hc; omega
      subst h2
      have hB : takeAll d y l l.length = refNearB d y l := by rw [takeAll, List.take_length]; rfl
      have hst := refNearest_some (d := d) hy
      refine .exit (.then_x (.then_x (.blk_x (.then_n (.seq (.region (?_)))))))
      refine .step (.mv rfl) (by decide) ?_
      refine .nil (.then_n (.cond rfl (fun hc => ?_) (fun hc => ?_)))
      · refine .seq (.region (?_))
        refine .step (.mv rfl) (by decide) ?_
        refine .step (.as rfl) (by decide) ?_
        refine .nil (.then_n (.ret (.blk_r (.then_r (.then_r (.blk_r (.then_r (.ret1 [] (by simp) rfl rfl ⟨by rw [hg1.2, hst, if_pos (by rw [← hB]; exact hc)], rfl⟩))))))))
      · refine .skip (.blk_n (.then_n (.region (?_))))
        refine .step (.mv rfl) (by decide) ?_
        refine .step (.add' (c := ((g1 + 1 : Nat) : Int)) rfl rfl (by rw [w64] <;> omega)) (by decide) ?_
        refine .step (.as rfl) (by decide) ?_
        refine .nil (.then_n (?_))
        refine .again (g1 + 1) ⟨by omega, by rw [hg1.2, hst, if_neg (by rw [← hB, hc]; decide)]⟩ (by omega) (.refl _) (.cons rfl (.cons rfl (.cons rfl .nil)))
  · refine .exit (.then_x (.then_x (.blk_x (.then_n (.seq (.region (?_)))))))
    refine .step (.as rfl) (by decide) ?_
    refine .nil (.then_n (.ret (.ret1 [] (by simp) rfl rfl ⟨by rw [hg1.2, refNearest_none (by simp at hc; omega)], rfl⟩)))

end Go.Fx
