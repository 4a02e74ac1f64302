/- Identities as numbers below 2^128, and their sixteen cells. -/
import Derived.Test.YtpkdekhmjjcljaaGreatFxD
import Derived.KernelRfl
namespace Go.Fx

def M128 : Nat := 2 ^ 128
theorem M128_pos : 0 < M128 := by decide

structure Idn where
  n : Nat
  lt : n < M128
deriving DecidableEq

def byteAt (x : Nat) (i : Nat) : Nat := x / 256 ^ (15 - i) % 256
/-- the cells, the highest byte first -/
def Idn.enc (x : Idn) : Array Value := ((List.range 16).map fun i => Value.int .u8 (byteAt x.n i)).toArray
theorem Idn.size (x : Idn) : x.enc.size = 16 := by simp [Idn.enc]
theorem Idn.one (x : Idn) : ∀ u ∈ x.enc.toList, u.oneCell' = true := by
  intro u hu
  simp only [Idn.enc, List.mem_map] at hu
  obtain ⟨i, _, rfl⟩ := hu; rfl
theorem Idn.get (x : Idn) {i : Nat} (h : i < 16) : x.enc[i]? = some (.int .u8 (byteAt x.n i)) := by
  simp [Idn.enc, h]

/-- the number of sixteen bytes, the highest first -/
def numOf (l : List Nat) : Nat := l.foldl (fun a b => a * 256 + b) 0

theorem foldl_num (l : List Nat) (a : Nat) : l.foldl (fun a b => a * 256 + b) a = a * 256 ^ l.length + numOf l := by
  induction l generalizing a with
  | nil => simp [numOf]
  | cons b l ih =>
    simp only [List.foldl_cons, numOf, List.length_cons, Nat.zero_mul, Nat.zero_add]
    rw [ih, ih b]
    simp only [numOf, Nat.add_mul, Nat.pow_succ]
    rw [Nat.mul_assoc a 256, Nat.mul_comm 256 (256 ^ l.length)]; omega
theorem numOf_cons (b : Nat) (l : List Nat) : numOf (b :: l) = b * 256 ^ l.length + numOf l := by
  have := foldl_num l b
  simp only [numOf, List.foldl_cons, Nat.zero_mul, Nat.zero_add] at *
  exact this
theorem numOf_lt (l : List Nat) (h : ∀ b ∈ l, b < 256) : numOf l < 256 ^ l.length := by
  induction l with
  | nil => simp [numOf]
  | cons b l ih =>
    rw [numOf_cons, List.length_cons, Nat.pow_succ]
    have h1 := ih (fun c hc => h c (by simp [hc]))
    have h2 : b < 256 := h b (by simp)
    have : b * 256 ^ l.length ≤ 255 * 256 ^ l.length := Nat.mul_le_mul_right _ (by omega)
    omega

/-- the bytes of a number give the number -/
theorem numOf_bytes (x : Nat) : ∀ k, numOf ((List.range k).map fun i => x / 256 ^ (k - 1 - i) % 256) = x % 256 ^ k
  | 0 => by simp [numOf, Nat.mod_one]
  | k + 1 => by
    rw [List.range_succ_eq_map, List.map_cons, numOf_cons, List.map_map]
    have : ((fun i => x / 256 ^ (k + 1 - 1 - i) % 256) ∘ Nat.succ) = fun i => x / 256 ^ (k - 1 - i) % 256 := by
      funext i; simp only [Function.comp]; rw [show k + 1 - 1 - Nat.succ i = k - 1 - i from by omega]
    rw [this, numOf_bytes x k]
    simp only [List.length_map, List.length_range, Nat.add_sub_cancel, Nat.sub_zero]
    rw [Nat.pow_succ, Nat.mod_mul, Nat.mul_comm (x / 256 ^ k % 256)]; omega

theorem Idn.num (x : Idn) : numOf ((List.range 16).map (byteAt x.n)) = x.n := by
  have := numOf_bytes x.n 16
  have h2 : (fun i => x.n / 256 ^ (16 - 1 - i) % 256) = byteAt x.n := rfl
  rw [h2] at this
  rw [this]
  exact Nat.mod_eq_of_lt (by have := x.lt; unfold M128 at this; exact Nat.lt_of_lt_of_le this (by decide))

theorem Idn.enc_inj {x y : Idn} (h : x.enc = y.enc) : x = y := by
  have h1 : (List.range 16).map (byteAt x.n) = (List.range 16).map (byteAt y.n) := by
    have h2 := congrArg Array.toList h
    simp only [Idn.enc] at h2
    rw [List.map_inj_left] at h2 ⊢
    intro i hi
    have := h2 i hi
    simp only [Value.int.injEq, true_and] at this
    omega
  have h3 : x.n = y.n := by rw [← x.num, ← y.num, h1]
  cases x; cases y; simp only at h3; subst h3; rfl

/-- sixteen bytes are an identity's -/
theorem Idn.of_bytes (l : List Nat) (hl : l.length = 16) (hb : ∀ b ∈ l, b < 256) : ∃ x : Idn, x.enc = (l.map fun b => Value.int .u8 (b : Nat)).toArray ∧ x.n = numOf l := by
  have hlt : numOf l < M128 := by have := numOf_lt l hb; rw [hl] at this; exact Nat.lt_of_lt_of_le this (by decide)
  have key : ∀ (l : List Nat) (q : Nat), (∀ b ∈ l, b < 256) → ∀ i, i < l.length → (q * 256 ^ l.length + numOf l) / 256 ^ (l.length - 1 - i) % 256 = l.getD i 0 := by
    intro l
    induction l with
    | nil => intro q _ i hi; simp at hi
    | cons b l ih =>
      intro q hb i hi
      rw [numOf_cons]
      cases i with
      | zero =>
        simp only [List.length_cons, Nat.add_sub_cancel, Nat.sub_zero, List.getD_cons_zero]
        have h1 := numOf_lt l (fun c hc => hb c (by simp [hc]))
        have h2 : b < 256 := hb b (by simp)
        rw [Nat.pow_succ, show q * (256 ^ l.length * 256) + (b * 256 ^ l.length + numOf l) = numOf l + 256 ^ l.length * (q * 256 + b) from by
          rw [Nat.mul_add, Nat.mul_comm (256 ^ l.length) b, ← Nat.mul_assoc, Nat.mul_comm (256 ^ l.length) (q * 256), Nat.mul_assoc, Nat.mul_assoc, Nat.mul_comm 256]; omega]
        rw [Nat.add_mul_div_left _ _ (Nat.pow_pos (by decide)), Nat.div_eq_of_lt h1]
        omega
      | succ i =>
        have h3 := ih (q * 256 + b) (fun c hc => hb c (by simp [hc])) i (by simpa using hi)
        simp only [List.length_cons, List.getD_cons_succ]
        rw [show l.length + 1 - 1 - (i + 1) = l.length - 1 - i from by omega]
        rw [← h3, Nat.pow_succ, Nat.add_mul]
        congr 2
        rw [Nat.mul_comm (256 ^ l.length) 256, ← Nat.mul_assoc]; omega
  refine ⟨⟨numOf l, hlt⟩, ?_, rfl⟩
  apply Array.ext'
  simp only [Idn.enc]
  apply List.ext_getElem
  · simp [hl]
  · intro i h1 h2
    simp only [List.length_map, List.length_range] at h1
    have := key l 0 hb i (by omega)
    rw [hl] at this
    simp only [Nat.zero_mul, Nat.zero_add] at this
    simp only [List.getElem_map, List.getElem_range, byteAt]
    rw [show (16 - 1 - i : Nat) = 15 - i from rfl] at this
    rw [this]
    simp [List.getD_eq_getElem?_getD, List.getElem?_eq_getElem (show i < l.length by omega)]

/-- bytes as cells -/
def bytesA (l : List Nat) : Array Value := (l.map fun b => Value.int .u8 (b : Nat)).toArray
theorem bytesA_size (l : List Nat) : (bytesA l).size = l.length := by simp [bytesA]
theorem bytesA_get (l : List Nat) {i : Nat} (h : i < l.length) : (bytesA l)[i]? = some (.int .u8 (l[i] : Nat)) := by simp [bytesA, h]
theorem bytesA_set (l : List Nat) (i b : Nat) : (bytesA l).setIfInBounds i (.int .u8 (b : Nat)) = bytesA (l.set i b) := by
  apply Array.ext'; simp [bytesA, List.map_set]
def Idn.bytes (x : Idn) : List Nat := (List.range 16).map (byteAt x.n)
theorem Idn.enc_bytes (x : Idn) : x.enc = bytesA x.bytes := by apply Array.ext'; simp [Idn.enc, bytesA, Idn.bytes]
theorem Idn.bytes_len (x : Idn) : x.bytes.length = 16 := by simp [Idn.bytes]
theorem Idn.bytes_lt (x : Idn) : ∀ b ∈ x.bytes, b < 256 := by
  intro b hb
  simp only [Idn.bytes, List.mem_map] at hb
  obtain ⟨i, _, rfl⟩ := hb
  exact Nat.mod_lt _ (by decide)
theorem Idn.bytes_num (x : Idn) : numOf x.bytes = x.n := x.num

def Idn.zero : Idn := ⟨0, M128_pos⟩
theorem Idn.zero_enc : Idn.zero.enc = bytesA (List.replicate 16 0) := by kernel_rfl
end Go.Fx
