/- A call that writes a slice of one's own. -/
import Derived.Test.YtidmhfggemmegaaFxJ
namespace Go.Fx
section
variable {P : Program} {w0 : World} {mods : List Nat} {n : Nat} {m : HF} {e : Env} {Q : Exit → Act → World → Prop} {ops : Array Oper} {rest : List Oper} {d : Nat} {t : TypeId} {p : String} {af : Array Edge}

theorem apart_erase {i : Nat} {key : Option Nat} {o : Obj} (ha : m.Pairwise Apart) (hk : m[i]? = some (key, o)) : ∀ q ∈ m.eraseIdx i, Apart (key, o) q := by
  intro q hq
  obtain ⟨j, hj⟩ := List.getElem?_of_mem hq
  rw [List.getElem?_eraseIdx] at hj
  split at hj
  · exact apart_at ha (by omega) hj hk
  · exact apart_at ha (by omega) hj hk

/-- A call that may write the blocks of one known slice: its place falls out; what comes of it is told anew. -/
theorem St.callK {fo : Operand} {xs : List Operand} {ats : Array TypeId} {f : FuncId} {first capt args : Array Value} {vs : List Value} {key : Option Nat} {o : Obj} {R : Value → HF → Prop} (i : Nat) (hk : m[i]? = some (key, o))
    (hf : evalE e fo = some (.func (.func f) first capt)) (hE : enterB P f = true) (hxs : evalsE e xs = some vs) (hargs : first ++ vs.toArray ++ capt = args)
    (hc : ∀ w, Mem m w → Fr mods w0 w → (∀ q ∈ m.eraseIdx i, Apart (key, o) q) → Calls P f args w (Ret w key.toList R)) (hd : d < n)
    (k : ∀ v nm, R v nm → St w0 mods n (nm ++ m.eraseIdx i) ((d, v) :: e) (wpList P ops Q rest)) :
    St w0 mods n m e (wpList P ops Q (⟨some d, .call ⟨.value fo, xs.toArray, ats⟩, t, p, af, none⟩ :: rest)) := fun a w hs => by
  have hap := apart_erase hs.apart hk
  have hcm : ∀ b ∈ key.toList, ∃ o, (some b, o) ∈ m := by
    intro b hb
    cases key with
    | none => simp at hb
    | some c => simp at hb; subst hb; exact ⟨o, List.mem_of_getElem? hk⟩
  have hap2 : ∀ b ∈ key.toList, ∀ o', (some b, o') ∉ m.eraseIdx i := by
    intro b hb o' hm
    cases key with
    | none => simp at hb
    | some c => simp at hb; subst hb; exact hap _ hm b rfl rfl
  exact St.call (m.eraseIdx i) hf hE hxs hargs (fun w hm hfr => hc w hm hfr hap) hcm (List.eraseIdx_sublist _ _) hap2 hd k a w hs

/-- what another block holds stays -/
theorem Fr.keepK {key : Option Nat} {o o' : Obj} {w w' : World} {b : Nat} (hf : Fr key.toList w w') (h : w.heap[b]? = some o') (ha : Apart (key, o) (some b, o')) : w'.heap[b]? = some o' := by
  rw [hf.block b (lt_of_heap h) (fun hb => by
    cases key with
    | none => simp at hb
    | some c => simp at hb; subst hb; exact ha b rfl rfl)]
  exact h

theorem RetL.of {α : Type} {enc : α → Array Value} {s : Nat} {T : TypeId} {l : List α} {v : Value} {nm : HF} (h : RetL enc s T l v nm) : ∃ key cap rs, v = slv key l.length cap ∧ nm = [(key, .cells (catA (l.map enc) ++ rs) T (0, 0))] ∧ OwnS s key l.length cap rs := h
theorem Mem.at {m : HF} {w : World} (hm : Mem m w) (i : Nat) {b : Nat} {o : Obj} (h : m[i]? = some (some b, o)) : w.heap[b]? = some o := hm b o (List.mem_of_getElem? h)
theorem Mem.atK {m : HF} {w : World} (hm : Mem m w) (i : Nat) {key : Option Nat} {o : Obj} (h : m[i]? = some (key, o)) : ∀ b, key = some b → w.heap[b]? = some o := by
  rintro b rfl; exact hm.at i h
/-- a list of one's own, to be appended -/
theorem Src.own {α : Type} {enc : α → Array Value} {s i cap : Nat} {key : Option Nat} {T : TypeId} {l : List α} {rs : Array Value} (hs : ∀ x, (enc x).size = s) (hk : m[i]? = some (key, .cells (catA (l.map enc) ++ rs) T (0, 0))) (ho : OwnS s key l.length cap rs) :
    Src w0 mods m s (slv key l.length cap) l.length (catA (l.map enc)) := by
  cases key with
  | none =>
    have h1 := ho.nil rfl
    have h2 := ho.le
    have : l = [] := List.length_eq_zero_iff.1 (by omega)
    subst this
    subst h1
    exact .nil
  | some b => exact .at_ (.i i hk) (Sel.app ⟨by rw [catA_list_size hs]; omega, by rw [← catA_list_size hs l, Nat.zero_add]; simp⟩)
theorem Rd.ownM {α : Type} {enc : α → Array Value} {s i cap : Nat} {key : Option Nat} {T : TypeId} {l : List α} {rs : Array Value} {w : World} (hm : Mem m w) (hs : ∀ x, (enc x).size = s) (hk : m[i]? = some (key, .cells (catA (l.map enc) ++ rs) T (0, 0))) (ho : OwnS s key l.length cap rs) :
    Rd enc s w (key.map fun b => ⟨b, 0, none⟩) l := Rd.slv hs ho (hm.atK i hk)
end
end Go.Fx
