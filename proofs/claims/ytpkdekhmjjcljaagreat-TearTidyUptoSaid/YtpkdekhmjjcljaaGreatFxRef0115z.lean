/- What the functions of package annuletref01 answer. -/
import Derived.Test.YtpkdekhmjjcljaaGreatFxIdent15z
import Derived.Test.YtpkdekhmjjcljaaGreatFxL
namespace Go.Fx
set_option maxRecDepth 10000

theorem wide_hi {n i : Nat} (hi : i < 8) : n / 256 ^ (16 - i) * 256 + n / 256 ^ (15 - i) % 256 = n / 256 ^ (16 - (i + 1)) := by
  rw [show 16 - i = (15 - i) + 1 by omega, Nat.pow_succ, ← Nat.div_div_eq_div_mul, show 16 - (i + 1) = 15 - i by omega]
  omega
theorem wide_lo {n i : Nat} (hi : i < 8) : n / 256 ^ (8 - i) % 256 ^ i * 256 + n / 256 ^ (7 - i) % 256 = n / 256 ^ (8 - (i + 1)) % 256 ^ (i + 1) := by
  rw [show 8 - i = (7 - i) + 1 by omega, Nat.pow_succ, ← Nat.div_div_eq_div_mul, show 8 - (i + 1) = 7 - i by omega, Nat.pow_succ, Nat.mul_comm (256 ^ i), Nat.mod_mul]
  omega
theorem wide_hi_lt {n i : Nat} (hn : n < M128) (hi : i ≤ 8) : n / 256 ^ (16 - i) < 256 ^ 8 := by
  rw [Nat.div_lt_iff_lt_mul (Nat.pow_pos (by decide))]
  refine Nat.lt_of_lt_of_le hn ?_
  have : (256 : Nat) ^ 8 * 256 ^ 8 ≤ 256 ^ 8 * 256 ^ (16 - i) := Nat.mul_le_mul_left _ (Nat.pow_le_pow_right (by decide) (by omega))
  exact this
theorem wide_lo_lt {n i : Nat} (hi : i ≤ 8) : n / 256 ^ (8 - i) % 256 ^ i < 256 ^ 8 := 
  Nat.lt_of_lt_of_le (Nat.mod_lt _ (Nat.pow_pos (by decide))) (Nat.pow_le_pow_right (by decide) hi)

theorem Idn.at (x : Idn) {z : Int} {i : Nat} (hz : z = i) (h : i < 16) : x.enc[0 + z.toNat * 1]? = some (.int .u8 (x.n / 256 ^ (15 - i) % 256 : Nat)) := by
  subst hz
  have := Idn.get x h
  simp only [byteAt] at this
  simpa using this

theorem putB {L : List Nat} {o i d : Nat} (ho : o = i) (hi : i < L.length) : putAt (bytesA L) o (Value.int .u8 (d : Nat)).cells = bytesA (L.set i d) := by
  subst ho
  show putAt _ _ #[_] = _
  rw [putAt_one _ (by rw [bytesA_size]; exact hi), bytesA_set]

theorem ref01_Wide (x : Idn) (w : World) : Calls PG f_annuletref01_Wide #[.agg x.enc] w (Ret w [] fun v nm => v = .tuple #[.int .u64 (x.n / 2 ^ 64 : Nat), .int .u64 (x.n % 2 ^ 64 : Nat)] ∧ nm = []) := by
  refine enter0 (n := 28) (args := [.agg x.enc]) B_annuletref01_Wide rfl rfl (by simp) ?_
  refine .seq (.region (?_))
  refine .box rfl rfl (by decide) fun b1 hb1 => ?_
  refine .step (.as rfl) (by decide) ?_
  refine .step (.as rfl) (by decide) ?_
  refine .nil (.then_n (.seq (.region (?_))))
  refine .step (.as rfl) (by decide) ?_
  refine .step (.as rfl) (by decide) ?_
  refine .nil (.then_n (.seq (.seq (.region (?_)))))
  refine .step (.as rfl) (by decide) ?_
  refine .nil (.then_n (.block (.loop (G := Nat) (fun g => g ≤ 8) (fun g => [(some b1, .cells x.enc T_api_ID (0, 0))]) (fun g => [(1, .pointer (some ⟨b1, 0, none⟩)), (4, .int .u64 (x.n / 256 ^ (16 - g) : Nat)), (5, .int .u64 (x.n / 256 ^ (8 - g) % 256 ^ g : Nat)), (6, .int .i64 (g : Nat))]) (fun g => 8 - g) 0 (by omega) (.refl _) ?hE ?_)))
  case hE => exact .cons rfl (.cons (by rw [show x.n / 256 ^ (16 - 0) = 0 from Nat.div_eq_of_lt x.lt]; rfl) (.cons (by rw [Nat.pow_zero, Nat.mod_one]; rfl) (.cons rfl .nil)))
  intro g hg
  refine .seq (.seq (.region (?_)))
  refine .step (.mv rfl) (by decide) ?_
  refine .step (.lss rfl rfl) (by decide) ?_
  refine .nil (.then_n (.cond rfl (fun hc => ?_) (fun hc => ?_)))
  · have hlt : g < 8 := by simp at hc; omega
    have hx := x.at (z := ((g : Nat) : Int)) (i := g) rfl (by omega)
    have hy := x.at (z := ((8 + g : Nat) : Int)) (i := 8 + g) rfl (by omega)
    rw [show 15 - (8 + g) = 7 - g by omega] at hy
    have e1 := wide_hi (n := x.n) hlt
    have e2 := wide_lo (n := x.n) hlt
    have l1 := wide_hi_lt (i := g + 1) x.lt (by omega)
    have l2 := wide_lo_lt (n := x.n) (i := g + 1) (by omega)
    have l3 := wide_hi_lt (i := g) x.lt (by omega)
    generalize x.n / 256 ^ (16 - g) = A at *
    generalize x.n / 256 ^ (15 - g) % 256 = B at *
    generalize x.n / 256 ^ (8 - g) % 256 ^ g = C at *
    generalize x.n / 256 ^ (7 - g) % 256 = D at *
    refine .skip (.then_n (.seq (.block (.seq (.region (?_))))))
    refine .step (.mv rfl) (by decide) ?_
    refine .step (.mul' (c := ((A * 256 : Nat) : Int)) rfl rfl (by rw [wu64] <;> omega)) (by decide) ?_
    refine .step (.mv rfl) (by decide) ?_
    refine .step (.ixa rfl rfl R_api_ID Z_uint8 (by omega) (by omega)) (by decide) ?_
    refine .step (.ld1 rfl (.i 0 rfl) A_uint8 hx) (by decide) ?_
    refine .step (.cv U_uint8 I_uint64 rfl) (by decide) ?_
    refine .step (.add' (c := ((x.n / 256 ^ (16 - (g + 1)) : Nat) : Int)) rfl rfl (by rw [wu64 (z := ((B : Nat) : Int)) (by omega) (by omega), wu64] <;> omega)) (by decide) ?_
    refine .step (.as rfl) (by decide) ?_
    refine .nil (.then_n (.region (?_)))
    refine .step (.mv rfl) (by decide) ?_
    refine .step (.mul' (c := ((C * 256 : Nat) : Int)) rfl rfl (by rw [wu64] <;> omega)) (by decide) ?_
    refine .step (.mv rfl) (by decide) ?_
    refine .step (.add' (c := ((8 + g : Nat) : Int)) rfl rfl (by rw [w64] <;> omega)) (by decide) ?_
    refine .step (.ixa rfl rfl R_api_ID Z_uint8 (by omega) (by omega)) (by decide) ?_
    refine .step (.ld1 rfl (.i 0 rfl) A_uint8 hy) (by decide) ?_
    refine .step (.cv U_uint8 I_uint64 rfl) (by decide) ?_
    refine .step (.add' (c := ((x.n / 256 ^ (8 - (g + 1)) % 256 ^ (g + 1) : Nat) : Int)) rfl rfl (by rw [wu64 (z := ((D : Nat) : Int)) (by omega) (by omega), wu64] <;> omega)) (by decide) ?_
    refine .step (.as rfl) (by decide) ?_
    refine .nil (.blk_n (.then_n (.region (?_))))
    refine .step (.mv rfl) (by decide) ?_
    refine .step (.add' (c := ((g + 1 : Nat) : Int)) rfl rfl (by rw [w64] <;> omega)) (by decide) ?_
    refine .step (.as rfl) (by decide) ?_
    refine .nil (.then_n (?_))
    refine .again (g + 1) (by omega) (by omega) (.refl _) (.cons rfl (.cons rfl (.cons rfl (.cons rfl .nil))))
  · have h8 : g = 8 := by simp at hc; omega
    subst h8
    refine .exit (.then_x (.then_x (.blk_x (.then_n (.seq (.region (?_)))))))
    refine .step (.mv rfl) (by decide) ?_
    refine .step (.mv rfl) (by decide) ?_
    refine .step (.as rfl) (by decide) ?_
    refine .step (.as rfl) (by decide) ?_
    refine .nil (.then_n (.ret (.retR2 [] (by simp) rfl (.tm rfl) (.tm rfl) ⟨by rw [show (256:Nat) ^ (16 - 8) = 2 ^ 64 by decide, show (256:Nat) ^ (8 - 8) = 1 by decide, Nat.div_one, show (256:Nat) ^ 8 = 2 ^ 64 by decide], rfl⟩)))

/-- two words as an identity -/
def Idn.of2 (h l : Nat) : Idn := ⟨(h * 2 ^ 64 + l) % M128, Nat.mod_lt _ M128_pos⟩

structure IdG where
  k : Nat
  t : List Nat
  u : List Nat
def IdI (h l : Nat) (g : IdG) : Prop := g.k ≤ 8 ∧ g.t.length = g.k ∧ (∀ b ∈ g.t, b < 256) ∧ numOf g.t = h % 256 ^ g.k ∧ g.u.length = g.k ∧ (∀ b ∈ g.u, b < 256) ∧ numOf g.u = l % 256 ^ g.k
def idL (k : Nat) (t u : List Nat) : List Nat := List.replicate (8 - k) 0 ++ t ++ (List.replicate (8 - k) 0 ++ u)
theorem idL_len {k : Nat} {t u : List Nat} (hk : k ≤ 8) (ht : t.length = k) (hu : u.length = k) : (idL k t u).length = 16 := by simp only [idL, List.length_append, List.length_replicate, ht, hu]; omega
theorem idL_set {k : Nat} {t u : List Nat} (hk : k < 8) (ht : t.length = k) (a b : Nat) : ((idL k t u).set (7 - k) a).set (15 - k) b = idL (k + 1) (a :: t) (b :: u) := by
  unfold idL
  have e : List.replicate (8 - k) 0 = List.replicate (8 - (k + 1)) 0 ++ [0] := by rw [← List.replicate_succ']; congr 1; omega
  have e1 : List.replicate (8 - k) 0 ++ t ++ (List.replicate (8 - k) 0 ++ u) = List.replicate (8 - (k + 1)) 0 ++ (0 :: (t ++ (List.replicate (8 - (k + 1)) 0 ++ (0 :: u)))) := by rw [e]; simp
  rw [e1, List.set_append_right _ _ (by simp only [List.length_replicate]; omega)]
  simp only [List.length_replicate, show 7 - k - (8 - (k + 1)) = 0 by omega, List.set_cons_zero]
  rw [List.set_append_right _ _ (by simp only [List.length_replicate]; omega)]
  simp only [List.length_replicate, show 15 - k - (8 - (k + 1)) = (7 + (1 : Nat)) by omega, List.set_cons_succ]
  rw [List.set_append_right _ _ (by omega), List.set_append_right _ _ (by simp only [List.length_replicate]; omega)]
  simp only [List.length_replicate, ht, show 7 - k - (8 - (k + 1)) = 0 by omega, List.set_cons_zero]
  simp
theorem id_step {h l : Nat} {k : Nat} {t u : List Nat} (hI : IdI h l ⟨k, t, u⟩) (hk : k < 8) : IdI h l ⟨k + 1, h / 256 ^ k % 256 :: t, l / 256 ^ k % 256 :: u⟩ := by
  obtain ⟨h1, h2, h3, h4, h5, h6, h7⟩ := hI
  simp only at *
  refine ⟨hk, by simp [h2], ?_, ?_, by simp [h5], ?_, ?_⟩
  · intro b hb
    rcases List.mem_cons.1 hb with rfl | hb
    · exact Nat.mod_lt _ (by decide)
    · exact h3 b hb
  · rw [numOf_cons, h2, mod_pow_succ h, h4]
  · intro b hb
    rcases List.mem_cons.1 hb with rfl | hb
    · exact Nat.mod_lt _ (by decide)
    · exact h6 b hb
  · rw [numOf_cons, h5, mod_pow_succ l, h7]
theorem numOf_append (a b : List Nat) : numOf (a ++ b) = numOf a * 256 ^ b.length + numOf b := by
  unfold numOf
  rw [List.foldl_append, foldl_num]
  rfl
theorem id_end {h l : Nat} {t u : List Nat} (hI : IdI h l ⟨8, t, u⟩) (hh : h < 2 ^ 64) (hl : l < 2 ^ 64) : bytesA (idL 8 t u) = (Idn.of2 h l).enc := by
  obtain ⟨h1, h2, h3, h4, h5, h6, h7⟩ := hI
  simp only at *
  have e : idL 8 t u = t ++ u := by simp [idL]
  rw [e]
  obtain ⟨z, hz, hn⟩ := Idn.of_bytes (t ++ u) (by simp [h2, h5]) (by intro b hb; exact (List.mem_append.1 hb).elim (h3 b) (h6 b))
  have hz' : bytesA (t ++ u) = z.enc := hz.symm
  rw [hz']
  congr 1
  rw [numOf_append, h5, h4, h7, Nat.mod_eq_of_lt (show h < 256 ^ 8 from hh), Nat.mod_eq_of_lt (show l < 256 ^ 8 from hl)] at hn
  have hlt := z.lt
  cases z
  simp only [Idn.of2, Idn.mk.injEq] at *
  rw [show (256 : Nat) ^ 8 = 2 ^ 64 by decide] at hn
  rw [← hn, Nat.mod_eq_of_lt hlt]

theorem ref01_ID (h l : Nat) (hh : h < 2 ^ 64) (hl : l < 2 ^ 64) (w : World) : Calls PG f_annuletref01_ID #[.int .u64 (h : Nat), .int .u64 (l : Nat)] w (Ret w [] fun v nm => v = .agg (Idn.of2 h l).enc ∧ nm = []) := by
  refine enter0 (n := 27) (args := [.int .u64 (h : Nat), .int .u64 (l : Nat)]) B_annuletref01_ID rfl rfl (by simp) ?_
  refine .seq (.region (?_))
  refine .alloc N_api_ID rfl (by decide) fun b4 hb4 => ?_
  refine .nil (.then_n (.seq (.region (?_))))
  refine .alloc N_api_ID rfl (by decide) fun b5 hb5 => ?_
  refine .nil (.then_n (.seq (.seq (.region (?_)))))
  refine .step (.as rfl) (by decide) ?_
  refine .nil (.then_n (.block (.loop (G := IdG) (IdI h l) (fun g => [(some b5, .cells (bytesA (idL g.k g.t g.u)) T_api_ID (0, 0)), (some b4, .cells Idn.zero.enc T_api_ID (0, 0))]) (fun g => [(0, .int .u64 (h / 256 ^ g.k : Nat)), (1, .int .u64 (l / 256 ^ g.k : Nat)), (4, .pointer (some ⟨b4, 0, none⟩)), (5, .pointer (some ⟨b5, 0, none⟩)), (6, .int .i64 (7 - (g.k : Nat)))]) (fun g => 8 - g.k) ⟨0, [], []⟩ ?hI ?hm ?hE ?_)))
  case hI => exact ⟨by decide, rfl, by simp, by simp [numOf, Nat.mod_one], rfl, by simp, by simp [numOf, Nat.mod_one]⟩
  case hm => rw [show bytesA (idL 0 [] []) = Idn.zero.enc from Idn.zero_enc.symm]; exact .refl _
  case hE => exact .cons (by simp; rfl) (.cons (by simp; rfl) (.cons rfl (.cons rfl (.cons rfl .nil))))
  rintro ⟨k, t, u⟩ hg
  dsimp only
  have hk8 : k ≤ 8 := hg.1
  have ht : t.length = k := hg.2.1
  have hu : u.length = k := hg.2.2.2.2.1
  refine .seq (.seq (.region (?_)))
  refine .step (.mv rfl) (by decide) ?_
  refine .step (.geq rfl rfl) (by decide) ?_
  refine .nil (.then_n (.cond rfl (fun hc => ?_) (fun hc => ?_)))
  · have hlt : k < 8 := by simp at hc; omega
    have hs1 : h / 256 ^ k < 2 ^ 64 := Nat.lt_of_le_of_lt (Nat.div_le_self _ _) hh
    have hs2 : l / 256 ^ k < 2 ^ 64 := Nat.lt_of_le_of_lt (Nat.div_le_self _ _) hl
    have hst := id_step hg hlt
    have hset := idL_set (u := u) hlt ht (h / 256 ^ k % 256) (l / 256 ^ k % 256)
    have hlen := idL_len hk8 ht hu
    have q1 : h / 256 ^ k / 256 = h / 256 ^ (k + 1) := by rw [Nat.div_div_eq_div_mul, ← Nat.pow_succ]
    have q2 : l / 256 ^ k / 256 = l / 256 ^ (k + 1) := by rw [Nat.div_div_eq_div_mul, ← Nat.pow_succ]
    generalize h / 256 ^ k = A at *
    generalize l / 256 ^ k = B at *
    refine .skip (.then_n (.seq (.block (.seq (.region (?_))))))
    refine .step (.mv rfl) (by decide) ?_
    refine .step (.mv rfl) (by decide) ?_
    refine .step (.add' (c := ((15 - k : Nat) : Int)) rfl rfl (by rw [w64] <;> omega)) (by decide) ?_
    refine .step (.mv rfl) (by decide) ?_
    refine .step (.rem' (c := ((A % 256 : Nat) : Int)) rfl rfl (by decide) rfl) (by decide) ?_
    refine .step (.cv' (c := ((A % 256 : Nat) : Int)) U_uint64 I_uint8 rfl (by rw [wu8] <;> omega)) (by decide) ?_
    refine .step (.mv rfl) (by decide) ?_
    refine .step (.rem' (c := ((B % 256 : Nat) : Int)) rfl rfl (by decide) rfl) (by decide) ?_
    refine .step (.cv' (c := ((B % 256 : Nat) : Int)) U_uint64 I_uint8 rfl (by rw [wu8] <;> omega)) (by decide) ?_
    refine .step (.ixa rfl rfl R_api_ID Z_uint8 (by omega) (by omega)) (by decide) ?_
    refine .store (c' := bytesA ((idL k t u).set (7 - k) (A % 256))) 0 rfl rfl rfl rfl Z_uint8 (rfl) (Ones.single rfl) (by rw [bytesA_size, hlen]; omega) (putB (by omega) (by rw [hlen]; omega)) ?_
    refine .step (.ixa rfl rfl R_api_ID Z_uint8 (by omega) (by omega)) (by decide) ?_
    refine .store (c' := bytesA (idL (k + 1) (A % 256 :: t) (B % 256 :: u))) 0 rfl rfl rfl rfl Z_uint8 (rfl) (Ones.single rfl) (by rw [bytesA_size, List.length_set, hlen]; omega) (by rw [← hset]; exact putB (by omega) (by rw [List.length_set, hlen]; omega)) ?_
    refine .nil (.then_n (.region (?_)))
    refine .step (.mv rfl) (by decide) ?_
    refine .step (.quo' (c := ((h / 256 ^ (k + 1) : Nat) : Int)) rfl rfl (by decide) (by rw [show ((A : Nat) : Int).tdiv 256 = ((A / 256 : Nat) : Int) from rfl, q1, wu64] <;> omega)) (by decide) ?_
    refine .step (.mv rfl) (by decide) ?_
    refine .step (.quo' (c := ((l / 256 ^ (k + 1) : Nat) : Int)) rfl rfl (by decide) (by rw [show ((B : Nat) : Int).tdiv 256 = ((B / 256 : Nat) : Int) from rfl, q2, wu64] <;> omega)) (by decide) ?_
    refine .step (.as rfl) (by decide) ?_
    refine .step (.as rfl) (by decide) ?_
    refine .nil (.blk_n (.then_n (.region (?_))))
    refine .step (.mv rfl) (by decide) ?_
    refine .step (.sub' (c := 7 - ((k + 1 : Nat) : Int)) rfl rfl (by rw [w64] <;> omega)) (by decide) ?_
    refine .step (.as rfl) (by decide) ?_
    refine .nil (.then_n (?_))
    refine .again ⟨k + 1, A % 256 :: t, B % 256 :: u⟩ hst (by simp; omega) (.refl _) ?hE2
    exact .cons rfl (.cons rfl (.cons rfl (.cons rfl (.cons rfl .nil))))
  · have h8 : k = 8 := by simp at hc; omega
    subst h8
    have he := id_end hg hh hl
    rw [he]
    refine .exit (.then_x (.then_x (.blk_x (.then_n (.seq (.region (?_)))))))
    refine .step (.ldA rfl (.i 0 rfl) A_api_ID Z_api_ID (Idn.size _)) (by decide) ?_
    refine .storeA 1 rfl rfl rfl rfl Z_api_ID (Idn.size _) (Idn.one _) (Idn.size _) ?_
    refine .nil (.then_n (.ret (.retR1 [] (by simp) rfl (.ce rfl (.i 1 rfl) A_api_ID Z_api_ID (Idn.size _)) ⟨rfl, rfl⟩)))

theorem wrapU (z : Int) : IntKind.u64.wrap z = z % 18446744073709551616 := by
  simp [IntKind.wrap, IntKind.signed, IntKind.bits]

theorem ref01_Less (x y : Idn) (w : World) : Calls PG f_annuletref01_Less #[.agg x.enc, .agg y.enc] w (Ret w [] fun v nm => v = .bool (decide (x.n < y.n)) ∧ nm = []) := by
  refine enter0 (n := 32) (args := [.agg x.enc, .agg y.enc]) B_annuletref01_Less rfl rfl (by simp) ?_
  refine .seq (.region (?_))
  refine .box rfl rfl (by decide) fun b2 hb2 => ?_
  refine .box rfl rfl (by decide) fun b3 hb3 => ?_
  refine .step (.as rfl) (by decide) ?_
  refine .nil (.then_n (.seq (.region (?_))))
  refine .step (.ldA rfl (.i 1 rfl) A_api_ID Z_api_ID (Idn.size _)) (by decide) ?_
  refine .callQ rfl E_annuletref01_Wide rfl rfl (fun w _ _ => ref01_Wide _ w) (by decide) ?_
  refine .step (.mv rfl) (by decide) ?_
  refine .step (.xt rfl rfl) (by decide) ?_
  refine .step (.xt rfl rfl) (by decide) ?_
  refine .step (.as rfl) (by decide) ?_
  refine .step (.as rfl) (by decide) ?_
  refine .nil (.then_n (.seq (.region (?_))))
  refine .step (.ldA rfl (.i 0 rfl) A_api_ID Z_api_ID (Idn.size _)) (by decide) ?_
  refine .callQ rfl E_annuletref01_Wide rfl rfl (fun w _ _ => ref01_Wide _ w) (by decide) ?_
  refine .step (.mv rfl) (by decide) ?_
  refine .step (.xt rfl rfl) (by decide) ?_
  refine .step (.xt rfl rfl) (by decide) ?_
  refine .step (.as rfl) (by decide) ?_
  refine .step (.as rfl) (by decide) ?_
  refine .nil (.then_n (.seq (.region (?_))))
  refine .step (.mv rfl) (by decide) ?_
  refine .step (.mv rfl) (by decide) ?_
  refine .step (.lss rfl rfl) (by decide) ?_
  refine .step (.mv rfl) (by decide) ?_
  refine .splitb 22 rfl (fun h1 => ?_) (fun h1 => ?_)
  · refine .pass rfl rfl (by decide) ?_
    refine .pass rfl rfl (by decide) ?_
    refine .pass rfl rfl (by decide) ?_
    refine .pass rfl rfl (by decide) ?_
    refine .passu rfl rfl (by decide) ?_
    refine .passu rfl rfl (by decide) ?_
    refine .passu rfl rfl (by decide) ?_
    refine .pass rfl rfl (by decide) ?_
    refine .step (.pk_t rfl rfl) (by decide) ?_
    refine .step (.as rfl) (by decide) ?_
    refine .nil (.then_n (.ret (.ret1 [] (by simp) rfl rfl ⟨by have : x.n < y.n := (by have := of_decide_eq_true h1; omega); rw [decide_eq_true this], rfl⟩)))
  · refine .stepg rfl (.mv rfl) (by decide) ?_
    refine .stepg rfl (.mv rfl) (by decide) ?_
    refine .stepg rfl (.eql rfl rfl) (by decide) ?_
    refine .stepg rfl (.mv rfl) (by decide) ?_
    refine .splitb 26 rfl (fun h2 => ?_) (fun h2 => ?_)
    · refine .stepg rfl (.mv rfl) (by decide) ?_
      refine .stepg rfl (.mv rfl) (by decide) ?_
      refine .stepg rfl (.lss rfl rfl) (by decide) ?_
      refine .stepg rfl (.pk_t rfl rfl) (by decide) ?_
      refine .step (.pk_f rfl rfl) (by decide) ?_
      refine .step (.as rfl) (by decide) ?_
      refine .nil (.then_n (.ret (.ret1 [] (by simp) rfl rfl ⟨by congr 1; have := of_decide_eq_true h2; apply decide_eq_decide.2; omega, rfl⟩)))
    · refine .pass rfl rfl (by decide) ?_
      refine .pass rfl rfl (by decide) ?_
      refine .pass rfl rfl (by decide) ?_
      refine .stepg rfl (.pk_f rfl rfl) (by decide) ?_
      refine .step (.pk_f rfl rfl) (by decide) ?_
      refine .step (.as rfl) (by decide) ?_
      refine .nil (.then_n (.ret (.ret1 [] (by simp) rfl rfl ⟨by have : ¬ x.n < y.n := (by have := of_decide_eq_false h1; have := of_decide_eq_false h2; omega); rw [decide_eq_false this], rfl⟩)))

theorem sub_words (x y : Idn) : Idn.of2 (if x.n % 2 ^ 64 < y.n % 2 ^ 64 then (x.n / 2 ^ 64 + (2 ^ 64 - 1 - y.n / 2 ^ 64)) % 2 ^ 64 else (x.n / 2 ^ 64 + (2 ^ 64 - y.n / 2 ^ 64)) % 2 ^ 64) ((x.n % 2 ^ 64 + (2 ^ 64 - y.n % 2 ^ 64)) % 2 ^ 64) = x.sub y := by
  have hx := x.lt
  have hy := y.lt
  unfold Idn.of2 Idn.sub
  simp only [Idn.mk.injEq]
  unfold M128 at *
  split <;> omega

theorem ref01_Sub (x y : Idn) (w : World) : Calls PG f_annuletref01_Sub #[.agg x.enc, .agg y.enc] w (Ret w [] fun v nm => v = .agg (x.sub y).enc ∧ nm = []) := by
  have hx := x.lt
  have hy := y.lt
  have hw := sub_words x y
  unfold M128 at hx hy
  refine enter0 (n := 33) (args := [.agg x.enc, .agg y.enc]) B_annuletref01_Sub rfl rfl (by simp) ?_
  refine .seq (.region (?_))
  refine .box rfl rfl (by decide) fun b2 hb2 => ?_
  refine .box rfl rfl (by decide) fun b3 hb3 => ?_
  refine .alloc N_api_ID rfl (by decide) fun b4 hb4 => ?_
  refine .nil (.then_n (.seq (.region (?_))))
  refine .step (.ldA rfl (.i 2 rfl) A_api_ID Z_api_ID (Idn.size _)) (by decide) ?_
  refine .callQ rfl E_annuletref01_Wide rfl rfl (fun w _ _ => ref01_Wide _ w) (by decide) ?_
  refine .step (.mv rfl) (by decide) ?_
  refine .step (.xt rfl rfl) (by decide) ?_
  refine .step (.xt rfl rfl) (by decide) ?_
  refine .step (.as rfl) (by decide) ?_
  refine .step (.as rfl) (by decide) ?_
  refine .nil (.then_n (.seq (.region (?_))))
  refine .step (.ldA rfl (.i 1 rfl) A_api_ID Z_api_ID (Idn.size _)) (by decide) ?_
  refine .callQ rfl E_annuletref01_Wide rfl rfl (fun w _ _ => ref01_Wide _ w) (by decide) ?_
  refine .step (.mv rfl) (by decide) ?_
  refine .step (.xt rfl rfl) (by decide) ?_
  refine .step (.xt rfl rfl) (by decide) ?_
  refine .step (.as rfl) (by decide) ?_
  refine .step (.as rfl) (by decide) ?_
  refine .nil (.then_n (.seq (.region (?_))))
  refine .step (.mv rfl) (by decide) ?_
  refine .step (.mv rfl) (by decide) ?_
  refine .step (.sub' (c := ((x.n / 2 ^ 64 + (2 ^ 64 - y.n / 2 ^ 64)) % 2 ^ 64 : Nat)) rfl rfl (by rw [wrapU]; omega)) (by decide) ?_
  refine .step (.as rfl) (by decide) ?_
  refine .nil (.then_n (.seq (.seq (.region (?_)))))
  refine .step (.mv rfl) (by decide) ?_
  refine .step (.mv rfl) (by decide) ?_
  refine .step (.lss rfl rfl) (by decide) ?_
  refine .nil (.then_n (.cond rfl (fun hc => ?_) (fun hc => ?_)))
  · have hif : (if x.n % 2 ^ 64 < y.n % 2 ^ 64 then (x.n / 2 ^ 64 + (2 ^ 64 - 1 - y.n / 2 ^ 64)) % 2 ^ 64 else (x.n / 2 ^ 64 + (2 ^ 64 - y.n / 2 ^ 64)) % 2 ^ 64) = (x.n / 2 ^ 64 + (2 ^ 64 - 1 - y.n / 2 ^ 64)) % 2 ^ 64 := if_pos (by have := of_decide_eq_true hc; omega)
    refine .region (?_)
    refine .step (.mv rfl) (by decide) ?_
    refine .step (.sub' (c := (((x.n / 2 ^ 64 + (2 ^ 64 - 1 - y.n / 2 ^ 64)) % 2 ^ 64 : Nat) : Int)) rfl rfl (by rw [wrapU]; omega)) (by decide) ?_
    refine .step (.as rfl) (by decide) ?_
    refine .nil (.then_n (.seq (.region (?_))))
    refine .step (.mv rfl) (by decide) ?_
    refine .step (.mv rfl) (by decide) ?_
    refine .step (.mv rfl) (by decide) ?_
    refine .step (.sub' (c := (((x.n % 2 ^ 64 + (2 ^ 64 - y.n % 2 ^ 64)) % 2 ^ 64 : Nat) : Int)) rfl rfl (by rw [wrapU]; omega)) (by decide) ?_
    refine .callQ (v := .agg (x.sub y).enc) rfl E_annuletref01_ID rfl rfl (fun w hm hf => by have h := ref01_ID ((x.n / 2 ^ 64 + (2 ^ 64 - 1 - y.n / 2 ^ 64)) % 2 ^ 64) ((x.n % 2 ^ 64 + (2 ^ 64 - y.n % 2 ^ 64)) % 2 ^ 64) (Nat.mod_lt _ (by decide)) (Nat.mod_lt _ (by decide)) w; rw [hif] at hw; rw [hw] at h; exact h) (by decide) ?_
    refine .storeA 0 rfl rfl rfl rfl Z_api_ID (Idn.size _) (Idn.one _) (Idn.size _) ?_
    refine .nil (.then_n (.ret (.retR1 [] (by simp) rfl (.ce rfl (.i 0 rfl) A_api_ID Z_api_ID (Idn.size _)) ⟨rfl, rfl⟩)))
  · have hif : (if x.n % 2 ^ 64 < y.n % 2 ^ 64 then (x.n / 2 ^ 64 + (2 ^ 64 - 1 - y.n / 2 ^ 64)) % 2 ^ 64 else (x.n / 2 ^ 64 + (2 ^ 64 - y.n / 2 ^ 64)) % 2 ^ 64) = (x.n / 2 ^ 64 + (2 ^ 64 - y.n / 2 ^ 64)) % 2 ^ 64 := if_neg (by have := of_decide_eq_false hc; omega)
    refine .skip (.then_n (.seq (.region (?_))))
    refine .step (.mv rfl) (by decide) ?_
    refine .step (.mv rfl) (by decide) ?_
    refine .step (.mv rfl) (by decide) ?_
    refine .step (.sub' (c := (((x.n % 2 ^ 64 + (2 ^ 64 - y.n % 2 ^ 64)) % 2 ^ 64 : Nat) : Int)) rfl rfl (by rw [wrapU]; omega)) (by decide) ?_
    refine .callQ (v := .agg (x.sub y).enc) rfl E_annuletref01_ID rfl rfl (fun w hm hf => by have h := ref01_ID ((x.n / 2 ^ 64 + (2 ^ 64 - y.n / 2 ^ 64)) % 2 ^ 64) ((x.n % 2 ^ 64 + (2 ^ 64 - y.n % 2 ^ 64)) % 2 ^ 64) (Nat.mod_lt _ (by decide)) (Nat.mod_lt _ (by decide)) w; rw [hif] at hw; rw [hw] at h; exact h) (by decide) ?_
    refine .storeA 0 rfl rfl rfl rfl Z_api_ID (Idn.size _) (Idn.one _) (Idn.size _) ?_
    refine .nil (.then_n (.ret (.retR1 [] (by simp) rfl (.ce rfl (.i 0 rfl) A_api_ID Z_api_ID (Idn.size _)) ⟨rfl, rfl⟩)))

theorem Idn.ext_n {x y : Idn} (h : x.n = y.n) : x = y := by cases x; cases y; simp only at h; subst h; rfl
theorem far_or {x y : Idn} (h : ¬ (y.sub x).n < (x.sub y).n) : x.far y = x.sub y := by
  unfold Idn.far
  split
  · rfl
  · have : (x.sub y).n = (y.sub x).n := by omega
    cases hh : x.sub y; cases hk : y.sub x
    rw [hh, hk] at this
    simp only at this
    subst this; rfl



end Go.Fx
