/- What the functions of package ident answer. -/
import Derived.Test.YtpkdekhmjjcljaaGreatFxNm15z
import Derived.Test.YtpkdekhmjjcljaaGreatFxG
import Derived.Test.YtpkdekhmjjcljaaGreatFxH
import Derived.Lib.Bytealg
namespace Go.Fx

def Idn.sub (x y : Idn) : Idn := ⟨(x.n + (M128 - y.n)) % M128, Nat.mod_lt _ M128_pos⟩

theorem mod_pow_succ (x j : Nat) : x % 256 ^ (j + 1) = (x / 256 ^ j % 256) * 256 ^ j + x % 256 ^ j := by
  rw [Nat.pow_succ, Nat.mod_mul, Nat.mul_comm (x / 256 ^ j % 256)]; omega

structure SubG where
  j : Nat
  br : Nat
  t : List Nat

def SubI (x y : Idn) (g : SubG) : Prop := g.j ≤ 16 ∧ g.br ≤ 1 ∧ g.t.length = g.j ∧ (∀ b ∈ g.t, b < 256) ∧ numOf g.t + y.n % 256 ^ g.j = x.n % 256 ^ g.j + g.br * 256 ^ g.j

theorem sub_step {x y : Idn} {j br : Nat} {t : List Nat} (h : SubI x y ⟨j, br, t⟩) (hj : j < 16) (d br' : Nat) (hd : d < 256) (hbr : br' ≤ 1)
    (he : d + y.n / 256 ^ j % 256 + br = x.n / 256 ^ j % 256 + br' * 256) : SubI x y ⟨j + 1, br', d :: t⟩ := by
  obtain ⟨h1, h2, h3, h4, h5⟩ := h
  refine ⟨hj, hbr, by simp at h3 ⊢; exact h3, ?_, ?_⟩
  · intro b hb
    rcases List.mem_cons.1 hb with rfl | hb
    · exact hd
    · exact h4 b hb
  · simp only at *
    rw [numOf_cons, h3, mod_pow_succ x.n, mod_pow_succ y.n, Nat.pow_succ]
    have e1 : (d + y.n / 256 ^ j % 256 + br) * 256 ^ j = (x.n / 256 ^ j % 256 + br' * 256) * 256 ^ j := by rw [he]
    rw [Nat.add_mul, Nat.add_mul, Nat.add_mul, Nat.mul_assoc br', Nat.mul_comm 256] at e1
    rw [← Nat.mul_assoc br'] at *
    omega

theorem sub_end {x y : Idn} {br : Nat} {t : List Nat} (h : SubI x y ⟨16, br, t⟩) : bytesA t = (x.sub y).enc := by
  obtain ⟨h1, h2, h3, h4, h5⟩ := h
  simp only at *
  obtain ⟨z, hz, hn⟩ := Idn.of_bytes t h3 h4
  have hz' : bytesA t = z.enc := hz.symm
  rw [hz']
  congr 1
  have e : (256 : Nat) ^ 16 = M128 := by decide
  rw [e, Nat.mod_eq_of_lt x.lt, Nat.mod_eq_of_lt y.lt, ← hn] at h5
  have : z.n = (x.n + (M128 - y.n)) % M128 := by
    have hy := y.lt
    have hz := z.lt
    have hx := x.lt
    have : br = 0 ∨ br = 1 := by omega
    rcases this with rfl | rfl
    · rw [show x.n + (M128 - y.n) = z.n + M128 by omega, Nat.add_mod_right, Nat.mod_eq_of_lt hz]
    · rw [show x.n + (M128 - y.n) = z.n by omega, Nat.mod_eq_of_lt hz]
  cases z; simp only [Idn.sub, Idn.mk.injEq]; exact this

/-- the bytes in the middle of the way -/
def subL (j : Nat) (t : List Nat) : List Nat := List.replicate (16 - j) 0 ++ t
theorem subL_set {j : Nat} {t : List Nat} (hj : j < 16) (d : Nat) : (subL j t).set (15 - j) d = subL (j + 1) (d :: t) := by
  unfold subL
  rw [show 16 - j = (15 - j) + 1 by omega, List.replicate_succ', List.append_assoc, List.set_append_right _ _ (by simp)]
  simp

set_option maxRecDepth 10000
theorem ident_Sub (x y : Idn) (w : World) : Calls PG f_ident_Sub #[.agg x.enc, .agg y.enc] w (Ret w [] fun v nm => v = .agg (x.sub y).enc ∧ nm = []) := by
  refine enter0 (n := 36) (args := [.agg x.enc, .agg y.enc]) B_ident_Sub rfl rfl (by simp) ?_
  refine .seq (.region (?_))
  refine .box rfl rfl (by decide) fun b2 hb2 => ?_
  refine .box rfl rfl (by decide) fun b3 hb3 => ?_
  refine .alloc N_api_ID rfl (by decide) fun b4 hb4 => ?_
  refine .nil (.then_n (.seq (.region (?_))))
  refine .alloc N_api_ID rfl (by decide) fun b5 hb5 => ?_
  refine .nil (.then_n (.seq (.region (?_))))
  refine .step (.as rfl) (by decide) ?_
  refine .nil (.then_n (.seq (.seq (.region (?_)))))
  refine .step (.mv rfl) (by decide) ?_
  refine .nil (.then_n (.block (.loop (G := SubG) (SubI x y)
    (fun g => [(some b5, .cells (bytesA (subL g.j g.t)) T_api_ID (0, 0)), (some b4, .cells Idn.zero.enc T_api_ID (0, 0)), (some b3, .cells y.enc T_api_ID (0, 0)), (some b2, .cells x.enc T_api_ID (0, 0))])
    (fun g => [(6, .int .i64 (g.br : Nat)), (10, .int .i64 (g.j : Nat)), (2, .pointer (some ⟨b2, 0, none⟩)), (3, .pointer (some ⟨b3, 0, none⟩)), (4, .pointer (some ⟨b4, 0, none⟩)), (5, .pointer (some ⟨b5, 0, none⟩))])
    (fun g => 16 - g.j) ⟨0, 0, []⟩ ?hI ?hm (.cons rfl (.cons rfl (.cons rfl (.cons rfl (.cons rfl (.cons rfl .nil)))))) ?_)))
  case hI => exact ⟨by decide, by decide, rfl, by simp, by simp [numOf, Nat.mod_one]⟩
  case hm => rw [show bytesA (subL 0 []) = Idn.zero.enc from Idn.zero_enc.symm]; exact .refl _
  rintro ⟨j, br, t⟩ hg
  dsimp only
  have hj16 : j ≤ 16 := hg.1
  have hbr1 : br ≤ 1 := hg.2.1
  have htl : t.length = j := hg.2.2.1
  refine .seq (.region (?_))
  refine .step (.lss rfl rfl) (by decide) ?_
  refine .nil (.then_n (.seq (.cond rfl (fun hc => ?_) (fun hc => ?_))))
  · have hlt : j < 16 := by simp at hc; omega
    have hx : x.enc[0 + (((15 - j : Nat) : Int)).toNat * 1]? = some (.int .u8 (x.n / 256 ^ j % 256 : Nat)) := by
      have := Idn.get x (i := 15 - j) (by omega)
      simp only [byteAt, show 15 - (15 - j) = j by omega] at this
      simpa using this
    have hy : y.enc[0 + (((15 - j : Nat) : Int)).toNat * 1]? = some (.int .u8 (y.n / 256 ^ j % 256 : Nat)) := by
      have := Idn.get y (i := 15 - j) (by omega)
      simp only [byteAt, show 15 - (15 - j) = j by omega] at this
      simpa using this
    generalize hA : x.n / 256 ^ j % 256 = A at *
    generalize hB : y.n / 256 ^ j % 256 = B at *
    have hA2 : A < 256 := by rw [← hA]; exact Nat.mod_lt _ (by decide)
    have hB2 : B < 256 := by rw [← hB]; exact Nat.mod_lt _ (by decide)
    have wA : IntKind.i64.wrap (A : Int) = A := w64 (by omega) (by omega)
    have wB : IntKind.i64.wrap (B : Int) = B := w64 (by omega) (by omega)
    refine .skip (.then_n (.seq (.block (.seq (.region (?_))))))
    refine .step (.mv rfl) (by decide) ?_
    refine .step (.as rfl) (by decide) ?_
    refine .nil (.then_n (.seq (.region (?_))))
    refine .step (.mv rfl) (by decide) ?_
    refine .step (.sub' (c := ((15 - j : Nat) : Int)) rfl rfl (by rw [w64] <;> omega)) (by decide) ?_
    refine .step (.as rfl) (by decide) ?_
    refine .nil (.then_n (.seq (.draws [(some b3, .cells y.enc T_api_ID (0, 0)), (some b2, .cells x.enc T_api_ID (0, 0))] rfl ?_)))
    refine .first [0, 1, 2, 3, 4, 5, 6, 7, 8, 9, 10, 11] 0 rfl (by kernel_rfl) (by kernel_rfl) ?_
    refine .s_step rfl rfl rfl (.mv rfl) (by decide) ?_
    refine .s_step rfl rfl rfl (.ixa rfl rfl R_api_ID Z_uint8 (by omega) (by omega)) (by decide) ?_
    refine .s_step rfl rfl rfl (.ld1 rfl (.i 1 rfl) A_uint8 hx) (by decide) ?_
    refine .s_step rfl rfl rfl (.cv U_uint8 I_int rfl) (by decide) ?_
    refine .s_step rfl rfl rfl (.mv rfl) (by decide) ?_
    refine .s_step rfl rfl rfl (.ixa rfl rfl R_api_ID Z_uint8 (by omega) (by omega)) (by decide) ?_
    refine .s_step rfl rfl rfl (.ld1 rfl (.i 0 rfl) A_uint8 hy) (by decide) ?_
    refine .s_step rfl rfl rfl (.cv U_uint8 I_int rfl) (by decide) ?_
    refine .s_step rfl rfl rfl (.sub' (c := (A : Int) - B) rfl rfl (by rw [wA, wB, w64] <;> omega)) (by decide) ?_
    refine .s_step rfl rfl rfl (.mv rfl) (by decide) ?_
    refine .s_step rfl rfl rfl (.sub' (c := (A : Int) - B - br) rfl rfl (by rw [w64] <;> omega)) (by decide) ?_
    refine .s_step rfl rfl rfl (.as rfl) (by decide) ?_
    refine .s_nil ?_
    refine .done (.cons _ (.cons _ (.refl _))) (by kernel_rfl) ?_
    refine .then_n (.seq (.region (?_)))
    refine .step (.as rfl) (by decide) ?_
    refine .nil (.then_n (.seq (.seq (.region (?_)))))
    refine .step (.mv rfl) (by decide) ?_
    refine .step (.lss rfl rfl) (by decide) ?_
    have hk : ∀ (d br' : Nat), d < 256 → br' ≤ 1 → d + B + br = A + br' * 256 → SubI x y ⟨j + 1, br', d :: t⟩ := fun d br' h1 h2 h3 => sub_step hg hlt d br' h1 h2 (by rw [hA, hB]; exact h3)
    have hset : ∀ d : Nat, putAt (bytesA (subL j t)) (0 + (((15 - j : Nat) : Int)).toNat * 1) #[.int .u8 (d : Nat)] = bytesA (subL (j + 1) (d :: t)) := fun d => by
      rw [putAt_one _ (by rw [bytesA_size]; simp [subL]; omega), bytesA_set, ← subL_set hlt]; simp
    refine .nil (.then_n (.cond rfl (fun hc => ?_) (fun hc => ?_)))
    · refine .region (?_)
      refine .step (.mv rfl) (by decide) ?_
      refine .step (.add' (c := ((A + 256 - B - br : Nat) : Int)) rfl rfl (by simp at hc; rw [w64] <;> omega)) (by decide) ?_
      refine .step (.as rfl) (by decide) ?_
      refine .step (.as rfl) (by decide) ?_
      refine .nil (.then_n (.region (?_)))
      refine .step (.mv rfl) (by decide) ?_
      refine .step (.mv rfl) (by decide) ?_
      refine .step (.cv U_int I_uint8 rfl) (by decide) ?_
      refine .step (.ixa rfl rfl R_api_ID Z_uint8 (by omega) (by omega)) (by decide) ?_
      refine .store (c' := bytesA (subL (j + 1) ((A + 256 - B - br) :: t))) 0 rfl rfl rfl rfl Z_uint8 rfl (Ones.single rfl) (by rw [bytesA_size]; simp [subL]; omega) (by rw [wu8 (by omega) (by simp at hc; omega)]; exact hset _) ?_
      refine .nil (.blk_n (.then_n (.region (?_))))
      refine .step (.add' (c := ((j + 1 : Nat) : Int)) rfl rfl (by rw [w64] <;> omega)) (by decide) ?_
      refine .step (.mv rfl) (by decide) ?_
      refine .nil (.then_n (?_))
      refine .again ⟨j + 1, 1, (A + 256 - B - br) :: t⟩ (hk _ 1 (by simp at hc; omega) (by omega) (by simp at hc; omega)) (by simp; omega) (.refl _) (.cons rfl (.cons rfl (.cons rfl (.cons rfl (.cons rfl (.cons rfl .nil))))))
    · refine .skip (.then_n (.region (?_)))
      have hge : (0 : Int) ≤ (A : Int) - B - br := by simp at hc; omega
      have hdd : ((A - B - br : Nat) : Int) = (A : Int) - B - br := by omega
      refine .step (.mv rfl) (by decide) ?_
      refine .step (.mv rfl) (by decide) ?_
      refine .step (.cv U_int I_uint8 rfl) (by decide) ?_
      refine .step (.ixa rfl rfl R_api_ID Z_uint8 (by omega) (by omega)) (by decide) ?_
      refine .store (c' := bytesA (subL (j + 1) ((A - B - br) :: t))) 0 rfl rfl rfl rfl Z_uint8 rfl (Ones.single rfl) (by rw [bytesA_size]; simp [subL]; omega) (by rw [wu8 (by omega) (by omega), ← hdd]; exact hset _) ?_
      refine .nil (.blk_n (.then_n (.region (?_))))
      refine .step (.add' (c := ((j + 1 : Nat) : Int)) rfl rfl (by rw [w64] <;> omega)) (by decide) ?_
      refine .step (.mv rfl) (by decide) ?_
      refine .nil (.then_n (?_))
      refine .again ⟨j + 1, 0, (A - B - br) :: t⟩ (hk _ 0 (by omega) (by omega) (by omega)) (by simp; omega) (.refl _) (.cons rfl (.cons rfl (.cons rfl (.cons rfl (.cons rfl (.cons rfl .nil))))))
  · have : j = 16 := by simp at hc; omega
    subst this
    have he : bytesA (subL 16 t) = (x.sub y).enc := by rw [show subL 16 t = t by simp [subL]]; exact sub_end hg
    rw [he]
    refine .exit (.then_x (.then_x (.blk_x (.then_n (.seq (.region (?_)))))))
    refine .step (.ldA rfl (.i 0 rfl) A_api_ID Z_api_ID (Idn.size _)) (by decide) ?_
    refine .storeA 1 rfl rfl rfl rfl Z_api_ID (Idn.size _) (Idn.one _) (Idn.size _) ?_
    exact .nil (.then_n (.ret (.retR1 [] (by simp) rfl (.ce rfl (.i 1 rfl) A_api_ID Z_api_ID (Idn.size _)) ⟨rfl, rfl⟩)))

def Idn.cmp (x y : Idn) : Int := if x.n < y.n then -1 else if y.n < x.n then 1 else 0

theorem run_loadBytes {P : Program} {w : World} {b : Nat} {c : Array Value} {T : TypeId} {fr : Nat × Nat} (h : w.heap[b]? = some (.cells c T fr)) : ∀ (l : List Nat) (o : Nat) (acc : ByteArray), (∀ i, i < l.length → c[o + i]? = some (.int .u8 (l.getD i 0 : Nat))) → (∀ x ∈ l, x < 256) →
    (Extern.Bytes.loadBytes ⟨b, o, none⟩ l.length acc).run P w = .ok ⟨acc.data ++ (l.map UInt8.ofNat).toArray⟩ w
  | [], o, acc, _, _ => by simp [Extern.Bytes.loadBytes]
  | x :: l, o, acc, hc, hl => by
    have h0 := hc 0 (by simp)
    simp only [Nat.add_zero, List.getD_cons_zero] at h0
    have ih := run_loadBytes (P := P) h l (o + 1) (acc.push x.toUInt8) (fun i hi => by
      have := hc (i + 1) (by simpa using hi)
      rw [show o + 1 + i = o + (i + 1) by omega, this]; simp) (fun y hy => hl y (by simp [hy]))
    simp only [List.length_cons, Extern.Bytes.loadBytes, Sem.run_bind, run_load, cell_of_heap h, h0, Result.andThen, add_plain, Int.toNat_natCast]
    rw [ih]
    congr 1
    simp [ByteArray.push]

theorem run_bytesOf (P : Program) {w : World} {b cap : Nat} {T : TypeId} {fr : Nat × Nat} {x : Idn} (h : w.heap[b]? = some (.cells x.enc T fr)) : (Extern.Bytes.bytesOf (.slice (some ⟨b, 0, none⟩) 16 cap)).run P w = .ok ⟨(x.bytes.map UInt8.ofNat).toArray⟩ w := by
  have := run_loadBytes (P := P) h x.bytes 0 .empty (fun i hi => by
    rw [Nat.zero_add, Idn.enc_bytes, bytesA_get _ hi]; simp [List.getD_eq_getElem?_getD, List.getElem?_eq_getElem hi]) x.bytes_lt
  rw [Idn.bytes_len] at this
  simp only [Extern.Bytes.bytesOf, this]
  simp

theorem compareBytes_num : ∀ (a b : List Nat), a.length = b.length → (∀ x ∈ a, x < 256) → (∀ x ∈ b, x < 256) → Lib.compareBytes (a.map UInt8.ofNat) (b.map UInt8.ofNat) = if numOf a < numOf b then -1 else if numOf b < numOf a then 1 else 0
  | [], [], _, _, _ => by simp [Lib.compareBytes]
  | x :: a, y :: b, hl, ha, hb => by
    have hx : x < 256 := ha x (by simp)
    have hy : y < 256 := hb y (by simp)
    have hl' : a.length = b.length := by simpa using hl
    have ih := compareBytes_num a b hl' (fun z hz => ha z (by simp [hz])) (fun z hz => hb z (by simp [hz]))
    have la := numOf_lt a (fun z hz => ha z (by simp [hz]))
    have lb := numOf_lt b (fun z hz => hb z (by simp [hz]))
    have e1 : (UInt8.ofNat x < UInt8.ofNat y) ↔ x < y := by
      rw [UInt8.lt_iff_toNat_lt, UInt8.toNat_ofNat', UInt8.toNat_ofNat', Nat.mod_eq_of_lt hx, Nat.mod_eq_of_lt hy]
    have e2 : (UInt8.ofNat y < UInt8.ofNat x) ↔ y < x := by
      rw [UInt8.lt_iff_toNat_lt, UInt8.toNat_ofNat', UInt8.toNat_ofNat', Nat.mod_eq_of_lt hx, Nat.mod_eq_of_lt hy]
    simp only [List.map_cons, Lib.compareBytes, numOf_cons, e1, e2, ih]
    rw [← hl'] at *
    by_cases h1 : x < y
    · have : (x + 1) * 256 ^ a.length ≤ y * 256 ^ a.length := Nat.mul_le_mul_right _ h1
      rw [Nat.add_mul] at this
      rw [if_pos h1, if_pos (by omega)]
    · rw [if_neg h1]
      by_cases h2 : y < x
      · have : (y + 1) * 256 ^ a.length ≤ x * 256 ^ a.length := Nat.mul_le_mul_right _ h2
        rw [Nat.add_mul] at this
        rw [if_pos h2, if_neg (by omega), if_pos (by omega)]
      · rw [if_neg h2]
        have : x = y := by omega
        subst this
        by_cases h3 : numOf a < numOf b
        · rw [if_pos h3, if_pos (show x * 256 ^ a.length + numOf a < x * 256 ^ a.length + numOf b by omega)]
        · rw [if_neg h3, if_neg (show ¬ (x * 256 ^ a.length + numOf a < x * 256 ^ a.length + numOf b) by omega)]
          by_cases h4 : numOf b < numOf a
          · rw [if_pos h4, if_pos (show x * 256 ^ a.length + numOf b < x * 256 ^ a.length + numOf a by omega)]
          · rw [if_neg h4, if_neg (show ¬ (x * 256 ^ a.length + numOf b < x * 256 ^ a.length + numOf a) by omega)]
  | [], _ :: _, h, _, _ => by simp at h
  | _ :: _, [], h, _, _ => by simp at h

theorem run_compare (P : Program) {w : World} {b1 b2 c1 c2 : Nat} {T1 T2 : TypeId} {f1 f2 : Nat × Nat} {x y : Idn} (h1 : w.heap[b1]? = some (.cells x.enc T1 f1)) (h2 : w.heap[b2]? = some (.cells y.enc T2 f2)) :
    (Extern.BytealgCompare.compare #[.slice (some ⟨b1, 0, none⟩) 16 c1, .slice (some ⟨b2, 0, none⟩) 16 c2]).run P w = .ok (.int .i64 (x.cmp y)) w := by
  show Sem.run P (do pure (goInt (Extern.BytealgCompare.cmp (← Extern.Bytes.bytesOf (.slice (some ⟨b1, 0, none⟩) 16 c1)) (← Extern.Bytes.bytesOf (.slice (some ⟨b2, 0, none⟩) 16 c2))))) w = _
  rw [Sem.run_bind, run_bytesOf P h1]
  simp only [Result.andThen]
  rw [Sem.run_bind, run_bytesOf P h2]
  simp only [Result.andThen, Sem.run_pure, goInt]
  rw [Lib.cmp_eq]
  have := compareBytes_num x.bytes y.bytes (by rw [Idn.bytes_len, Idn.bytes_len]) x.bytes_lt y.bytes_lt
  simp only [Idn.bytes_num] at this
  rw [show (⟨(x.bytes.map UInt8.ofNat).toArray⟩ : ByteArray).data.toList = x.bytes.map UInt8.ofNat from rfl, show (⟨(y.bytes.map UInt8.ofNat).toArray⟩ : ByteArray).data.toList = y.bytes.map UInt8.ofNat from rfl, this]
  rfl

theorem X_bytealg_find : Extern.find D_bytealg_Compare = some Extern.BytealgCompare.compare := by kernel_rfl
theorem X_bytealg_next : Extern.findNext D_bytealg_Compare = none := by kernel_rfl

theorem bytes_Compare (x y : Idn) (b1 b2 : Nat) {T1 T2 : TypeId} {f1 f2 : Nat × Nat} (w : World) (h1 : w.heap[b1]? = some (.cells x.enc T1 f1)) (h2 : w.heap[b2]? = some (.cells y.enc T2 f2)) :
    Calls PG f_bytes_Compare #[.slice (some ⟨b1, 0, none⟩) 16 16, .slice (some ⟨b2, 0, none⟩) 16 16] w (Ret w [] fun v nm => v = .int .i64 (x.cmp y) ∧ nm = []) := by
  refine enter0 (n := 8) (args := [.slice (some ⟨b1, 0, none⟩) 16 16, .slice (some ⟨b2, 0, none⟩) 16 16]) B_bytes_Compare rfl rfl (by simp) ?_
  refine .seq (.region (?_))
  refine .step (.as rfl) (by decide) ?_
  refine .nil (.then_n (.seq (.region (?_))))
  refine .step (.mv rfl) (by decide) ?_
  refine .step (.mv rfl) (by decide) ?_
  refine .step (.ext rfl B_bytealg_Compare rfl rfl X_bytealg_next X_bytealg_find rfl rfl (fun w' _ hf => run_compare PG (Kn.o (m := []) h1 (by simp) w' (by intro b o h; simp at h) hf) (Kn.o (m := []) h2 (by simp) w' (by intro b o h; simp at h) hf))) (by decide) ?_
  refine .step (.as rfl) (by decide) ?_
  exact .nil (.then_n (.ret (.ret1 [] (by simp) rfl rfl ⟨rfl, rfl⟩)))

theorem ident_Compare (x y : Idn) (w : World) : Calls PG f_ident_Compare #[.agg x.enc, .agg y.enc] w (Ret w [] fun v nm => v = .int .i64 (x.cmp y) ∧ nm = []) := by
  refine enter0 (n := 8) (args := [.agg x.enc, .agg y.enc]) B_ident_Compare rfl rfl (by simp) ?_
  refine .seq (.region (?_))
  refine .box rfl rfl (by decide) fun b2 hb2 => ?_
  refine .box rfl rfl (by decide) fun b3 hb3 => ?_
  refine .step (.as rfl) (by decide) ?_
  refine .nil (.then_n (.seq (.drawsI [0, 1] rfl rfl ?_)))
  refine .first [0, 1] 2 rfl (by kernel_rfl) (by kernel_rfl) ?_
  refine .s_step rfl rfl rfl (.sla rfl R_api_ID Z_uint8) (by decide) ?_
  refine .s_step rfl rfl rfl (.sla rfl R_api_ID Z_uint8) (by decide) ?_
  refine .s_nil ?_
  refine .only (i := 2) (.refl _) (by kernel_rfl) rfl ?_  -- op 2
  refine .callQ rfl E_bytes_Compare rfl rfl (fun w hm hf => bytes_Compare x y b2 b3 w (Kn.i 1 rfl w hm hf) (Kn.i 0 rfl w hm hf)) (by decide) ?_
  refine .nil (.then_n ?_)
  refine .first [3] 0 rfl (by kernel_rfl) (by kernel_rfl) ?_
  refine .s_step rfl rfl rfl (.as rfl) (by decide) ?_
  refine .s_nil ?_
  refine .done (.refl _) (by kernel_rfl) ?_
  refine .then_n (.ret (.ret1 [] (by simp) rfl rfl ⟨rfl, rfl⟩))

theorem Idn.cmp_lt (x y : Idn) : x.cmp y < 0 ↔ x.n < y.n := by
  unfold Idn.cmp; split
  · simp [*]
  · split <;> simp [*]
theorem Idn.cmp_eq (x y : Idn) : x.cmp y = 0 ↔ x.n = y.n := by
  unfold Idn.cmp; split
  · simp; omega
  · split
    · simp; omega
    · simp; omega
def Idn.far (x y : Idn) : Idn := if (x.sub y).n < (y.sub x).n then x.sub y else y.sub x


def Idn.nearer (d a b : Idn) : Bool := if (a.far d).n = (b.far d).n then decide ((a.sub d).n < (b.sub d).n) else decide ((a.far d).n < (b.far d).n)


end Go.Fx
