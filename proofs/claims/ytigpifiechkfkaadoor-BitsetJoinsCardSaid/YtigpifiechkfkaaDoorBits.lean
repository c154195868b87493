/-
  Words of 64 bits as numbers; sets of bits. No program in sight.
-/
import Derived.Test.YtigpifiechkfkaaDoorLibA
import Derived.Lib.TrailingZeros
set_option linter.unusedSimpArgs false
set_option linter.unusedVariables false

namespace Go.AM
open Go

theorem wrap_u64' (n : Int) : IntKind.u64.wrap n = n % 18446744073709551616 := by simp [IntKind.wrap, IntKind.signed, IntKind.bits]
theorem ofInt64 {a : Nat} (ha : a < 18446744073709551616) : (BitVec.ofInt 64 (a : Int)).toNat = a := by
  rw [BitVec.ofInt_natCast, BitVec.toNat_ofNat]; exact Nat.mod_eq_of_lt (by omega)

section
variable {a b : Nat}
theorem bits_and (ha : a < 18446744073709551616) (hb : b < 18446744073709551616) : bitsV .and .u64 (a : Int) (b : Int) = ((a &&& b : Nat) : Int) := by
  have hx : a &&& b < 2 ^ 64 := Nat.and_lt_two_pow _ (by omega)
  show IntKind.u64.wrap ((BitVec.ofInt 64 (a : Int) &&& BitVec.ofInt 64 (b : Int)).toNat : Int) = _
  rw [BitVec.toNat_and, ofInt64 ha, ofInt64 hb, wrap_u64']
  omega
theorem bits_or (ha : a < 18446744073709551616) (hb : b < 18446744073709551616) : bitsV .or .u64 (a : Int) (b : Int) = ((a ||| b : Nat) : Int) := by
  have hx : a ||| b < 2 ^ 64 := Nat.or_lt_two_pow (by omega) (by omega)
  show IntKind.u64.wrap ((BitVec.ofInt 64 (a : Int) ||| BitVec.ofInt 64 (b : Int)).toNat : Int) = _
  rw [BitVec.toNat_or, ofInt64 ha, ofInt64 hb, wrap_u64']
  omega
theorem bits_xor (ha : a < 18446744073709551616) (hb : b < 18446744073709551616) : bitsV .xor .u64 (a : Int) (b : Int) = ((a ^^^ b : Nat) : Int) := by
  have hx : a ^^^ b < 2 ^ 64 := Nat.xor_lt_two_pow (by omega) (by omega)
  show IntKind.u64.wrap ((BitVec.ofInt 64 (a : Int) ^^^ BitVec.ofInt 64 (b : Int)).toNat : Int) = _
  rw [BitVec.toNat_xor, ofInt64 ha, ofInt64 hb, wrap_u64']
  omega
/-- a without the bits of b. -/
def andN (a b : Nat) : Nat := a &&& (2 ^ 64 - (b + 1))
theorem andN_lt (ha : a < 18446744073709551616) : andN a b < 18446744073709551616 := Nat.lt_of_le_of_lt Nat.and_le_left ha
theorem bits_andNot (ha : a < 18446744073709551616) (hb : b < 18446744073709551616) : bitsV .andNot .u64 (a : Int) (b : Int) = ((andN a b : Nat) : Int) := by
  have hx : andN a b < 18446744073709551616 := andN_lt ha
  show IntKind.u64.wrap ((BitVec.ofInt 64 (a : Int) &&& ~~~ BitVec.ofInt 64 (b : Int)).toNat : Int) = _
  rw [BitVec.toNat_and, BitVec.toNat_not, ofInt64 ha, ofInt64 hb, wrap_u64']
  have : 2 ^ 64 - 1 - b = 2 ^ 64 - (b + 1) := by omega
  rw [this]
  unfold andN at hx ⊢
  omega
theorem andN_bit (ha : a < 18446744073709551616) (hb : b < 18446744073709551616) (i : Nat) : (andN a b).testBit i = (a.testBit i && !b.testBit i) := by
  unfold andN
  rw [Nat.testBit_and, Nat.testBit_two_pow_sub_succ (by omega)]
  by_cases hi : i < 64
  · simp [hi]
  · have : a.testBit i = false := Nat.testBit_lt_two_pow (Nat.lt_of_lt_of_le (by omega : a < 2 ^ 64) (Nat.pow_le_pow_right (by decide) (by omega)))
    simp [this]
theorem shl_nat (s : Nat) (ha : a < 18446744073709551616) : shlV .u64 (a : Int) (s : Int) = ((a * 2 ^ (min s 64) % 18446744073709551616 : Nat) : Int) := by
  unfold shlV
  rw [wrap_u64']
  simp [IntKind.bits]
theorem shr_nat (s : Nat) (ha : a < 18446744073709551616) : shrV .u64 (a : Int) (s : Int) = ((a >>> s : Nat) : Int) := by
  unfold shrV
  have e : (2 ^ (min (s : Int).toNat IntKind.u64.bits) : Int) = ((2 ^ (min s 64) : Nat) : Int) := by simp [IntKind.bits]
  rw [e, Int.fdiv_eq_ediv_of_nonneg _ (Int.natCast_nonneg _), Nat.shiftRight_eq_div_pow]
  by_cases hs : s ≤ 64
  · rw [Nat.min_eq_left hs]; rfl
  · rw [Nat.min_eq_right (by omega)]
    have h1 : a / 2 ^ s = 0 := Nat.div_eq_of_lt (Nat.lt_of_lt_of_le (by omega : a < 2 ^ 64) (Nat.pow_le_pow_right (by decide) (by omega)))
    have h2 : a / 2 ^ 64 = 0 := Nat.div_eq_of_lt (by omega)
    rw [h1]
    have : ((a : Int) / ((2 ^ 64 : Nat) : Int)) = ((a / 2 ^ 64 : Nat) : Int) := rfl
    rw [this, h2]
theorem shr_lt (s : Nat) (ha : a < 18446744073709551616) : a >>> s < 18446744073709551616 := by
  rw [Nat.shiftRight_eq_div_pow]; exact Nat.lt_of_le_of_lt (Nat.div_le_self _ _) ha
theorem inR_un (ha : a < 18446744073709551616) : inR .u64 (a : Int) := inR_u64.2 (by omega)
theorem inR_in (ha : a < 9223372036854775808) : inR .i64 (a : Int) := inR_i64.2 (by omega)
theorem not_nat (ha : a < 18446744073709551616) : bitsV .xor .u64 (IntKind.u64.max) (a : Int) = ((2 ^ 64 - (a + 1) : Nat) : Int) := by
  have e : IntKind.u64.max = ((18446744073709551615 : Nat) : Int) := by simp [IntKind.max, IntKind.signed, IntKind.bits]
  rw [e, bits_xor (by omega) ha]
  congr 1
  apply Nat.eq_of_testBit_eq
  intro i
  have e2 : (18446744073709551615 : Nat) = 2 ^ 64 - (0 + 1) := by omega
  rw [Nat.testBit_xor, e2, Nat.testBit_two_pow_sub_succ (by omega), Nat.testBit_two_pow_sub_succ (by omega)]
  by_cases hi : i < 64
  · simp [hi]
  · have : a.testBit i = false := Nat.testBit_lt_two_pow (Nat.lt_of_lt_of_le (by omega : a < 2 ^ 64) (Nat.pow_le_pow_right (by decide) (by omega)))
    simp [hi, this]
theorem not_bit (ha : a < 18446744073709551616) (i : Nat) : (2 ^ 64 - (a + 1)).testBit i = (decide (i < 64) && !a.testBit i) := Nat.testBit_two_pow_sub_succ (by omega) i
theorem bit_out (ha : a < 18446744073709551616) {i : Nat} (hi : 64 ≤ i) : a.testBit i = false :=
  Nat.testBit_lt_two_pow (Nat.lt_of_lt_of_le (by omega : a < 2 ^ 64) (Nat.pow_le_pow_right (by decide) hi))
theorem bit_ext (ha : a < 18446744073709551616) (hb : b < 18446744073709551616) (h : ∀ i, i < 64 → a.testBit i = b.testBit i) : a = b := by
  apply Nat.eq_of_testBit_eq
  intro i
  by_cases hi : i < 64
  · exact h i hi
  · rw [bit_out ha (by omega), bit_out hb (by omega)]
/-- One bit, as the code asks for it. -/
theorem one_bit (j : Nat) (ha : a < 18446744073709551616) : decide (bitsV .and .u64 (shrV .u64 (a : Int) (j : Int)) 1 = 1) = a.testBit j := by
  rw [shr_nat j ha, show (1 : Int) = ((1 : Nat) : Int) from rfl, bits_and (shr_lt j ha) (by decide), Nat.and_one_is_mod]
  have h1 : a.testBit j = decide (a >>> j % 2 = 1) := by rw [← Nat.testBit_zero, Nat.testBit_shiftRight]; rfl
  rw [h1]
  by_cases h : a >>> j % 2 = 1
  · simp [h]
  · have : a >>> j % 2 = 0 := by omega
    simp [this]
theorem one_bit_mod {t : Int} (j : Nat) (ht : t = (j : Int)) (ha : a < 18446744073709551616) : decide (bitsV .and .u64 (shrV .u64 (a : Int) t) 1 = 1) = a.testBit j := by rw [ht]; exact one_bit j ha
end

/-- A word out of its bits. -/
def mkW : Nat → (Nat → Bool) → Nat
  | 0, _ => 0
  | n + 1, g => (if g n then 2 ^ n else 0) + mkW n g
theorem mkW_lt : ∀ (n : Nat) (g : Nat → Bool), mkW n g < 2 ^ n
  | 0, g => by simp [mkW]
  | n + 1, g => by
    have := mkW_lt n g
    simp only [mkW, Nat.pow_succ]
    split <;> omega
theorem mkW_bit : ∀ (n : Nat) (g : Nat → Bool) (j : Nat), (mkW n g).testBit j = (decide (j < n) && g j)
  | 0, g, j => by simp [mkW]
  | n + 1, g, j => by
    have hlt := mkW_lt n g
    have ih := mkW_bit n g j
    simp only [mkW]
    by_cases hg : g n = true
    · simp only [hg, if_true]
      rcases Nat.lt_trichotomy j n with h | h | h
      · rw [Nat.testBit_two_pow_add_gt h, ih]
        simp [h, Nat.lt_succ_of_lt h]
      · subst h
        rw [Nat.testBit_two_pow_add_eq, ih]
        simp [hg]
      · have : 2 ^ n + mkW n g < 2 ^ j := Nat.lt_of_lt_of_le (by rw [Nat.pow_succ]; omega : _ < 2 ^ (n + 1)) (Nat.pow_le_pow_right (by decide) h)
        rw [Nat.testBit_lt_two_pow this]
        have : ¬ j < n + 1 := by omega
        simp [this]
    · simp only [hg, if_false, Nat.zero_add, ih, Bool.false_eq_true]
      by_cases hj : j = n
      · subst hj; simp [hg]
      · have : (j < n + 1) = (j < n) := by simp; omega
        simp only [this]

/-- Bit i of a row of words. -/
def bitAt (ws : List Nat) (i : Nat) : Bool := (ws.getD (i / 64) 0).testBit (i % 64)
def Ok64 (ws : List Nat) : Prop := ∀ w ∈ ws, w < 18446744073709551616
theorem Ok64.get {ws : List Nat} (h : Ok64 ws) (k : Nat) : ws.getD k 0 < 18446744073709551616 := by
  rw [List.getD_eq_getElem?_getD]
  cases hk : ws[k]? with
  | none => simp
  | some x => simpa using h x (List.mem_of_getElem? hk)
/-- The words with given bits. -/
def mk (m : Nat) (f : Nat → Bool) : List Nat := (List.range m).map fun k => mkW 64 fun j => f (64 * k + j)
theorem mk_len (m : Nat) (f : Nat → Bool) : (mk m f).length = m := by simp [mk]
theorem mk_ok (m : Nat) (f : Nat → Bool) : Ok64 (mk m f) := by
  intro w hw
  simp only [mk, List.mem_map] at hw
  obtain ⟨k, _, rfl⟩ := hw
  exact mkW_lt 64 _
theorem mk_get {m : Nat} {f : Nat → Bool} {k : Nat} (hk : k < m) : (mk m f).getD k 0 = mkW 64 fun j => f (64 * k + j) := by
  simp [mk, List.getD_eq_getElem?_getD, List.getElem?_map, List.getElem?_range hk]
theorem mk_bit (m : Nat) (f : Nat → Bool) (i : Nat) : bitAt (mk m f) i = (decide (i < 64 * m) && f i) := by
  unfold bitAt
  by_cases h : i < 64 * m
  · rw [mk_get (by omega), mkW_bit]
    have : 64 * (i / 64) + i % 64 = i := by omega
    have h2 : i % 64 < 64 := by omega
    simp [h, this, h2]
  · have : (mk m f).getD (i / 64) 0 = 0 := by
      rw [List.getD_eq_getElem?_getD, List.getElem?_eq_none (by rw [mk_len]; omega)]; rfl
    rw [this]
    simp [h]
theorem bit_word (ws : List Nat) (k j : Nat) (hj : j < 64) : (ws.getD k 0).testBit j = bitAt ws (64 * k + j) := by
  unfold bitAt
  have h1 : (64 * k + j) / 64 = k := by omega
  have h2 : (64 * k + j) % 64 = j := by omega
  rw [h1, h2]
/-- The words are what their bits are. -/
theorem eq_mk {m : Nat} {f : Nat → Bool} {ws : List Nat} (hl : ws.length = m) (ho : Ok64 ws) (h : ∀ i, i < 64 * m → bitAt ws i = f i) : ws = mk m f := by
  apply List.ext_getElem?
  intro k
  by_cases hk : k < m
  · have e : ws.getD k 0 = (mk m f).getD k 0 := by
      apply bit_ext (ho.get k) ((mk_ok m f).get k)
      intro j hj
      rw [bit_word ws k j hj, bit_word _ k j hj, mk_bit, h _ (by omega)]
      have : 64 * k + j < 64 * m := by omega
      simp [this]
    rw [List.getD_eq_getElem?_getD, List.getD_eq_getElem?_getD] at e
    rw [List.getElem?_eq_getElem (by omega), List.getElem?_eq_getElem (by rw [mk_len]; omega)] at e ⊢
    simpa using e
  · rw [List.getElem?_eq_none (by omega), List.getElem?_eq_none (by rw [mk_len]; omega)]
theorem mk_congr {m : Nat} {f g : Nat → Bool} (h : ∀ i, i < 64 * m → f i = g i) : mk m f = mk m g :=
  eq_mk (mk_len m f) (mk_ok m f) fun i hi => by rw [mk_bit, h i hi]; simp [hi]
theorem mk_self {ws : List Nat} (ho : Ok64 ws) : ws = mk ws.length (bitAt ws) := eq_mk rfl ho fun _ _ => rfl
/-- One word more is laid. -/
theorem mk_set {m : Nat} {f g : Nat → Bool} {k x : Nat} (hx : x < 18446744073709551616) (h1 : ∀ j, j < 64 → x.testBit j = g (64 * k + j)) (h2 : ∀ i, i < 64 * m → i / 64 ≠ k → f i = g i) : (mk m f).set k x = mk m g := by
  apply eq_mk (by simp [mk_len])
  · intro w hw
    rcases List.mem_or_eq_of_mem_set hw with hw | rfl
    · exact mk_ok m f w hw
    · exact hx
  · intro i hi
    unfold bitAt
    rw [List.getD_eq_getElem?_getD, List.getElem?_set]
    by_cases hk : k = i / 64
    · subst hk
      have : i / 64 < (mk m f).length := by rw [mk_len]; omega
      simp only [if_true, this, Option.getD_some]
      rw [h1 _ (by omega)]
      congr 1; omega
    · simp only [hk, if_false]
      rw [← List.getD_eq_getElem?_getD]
      have := mk_bit m f i
      unfold bitAt at this
      rw [this, h2 i hi (fun e => hk e.symm)]
      simp [hi]

/-- How many of n bits from i on are 1. -/
def cntR (p : Nat → Bool) (i : Nat) : Nat → Nat
  | 0 => 0
  | n + 1 => cntR p i n + (p (i + n)).toNat
theorem cntR_add (p : Nat → Bool) (i a : Nat) : ∀ b, cntR p i (a + b) = cntR p i a + cntR p (i + a) b
  | 0 => rfl
  | b + 1 => by
    have := cntR_add p i a b
    rw [show a + (b + 1) = (a + b) + 1 by omega]
    simp only [cntR, this, Nat.add_assoc]
theorem cntR_congr {p q : Nat → Bool} {i k : Nat} : ∀ n, (∀ j, j < n → p (i + j) = q (k + j)) → cntR p i n = cntR q k n
  | 0, _ => rfl
  | n + 1, h => by
    simp only [cntR]
    rw [cntR_congr n (fun j hj => h j (by omega)), h n (by omega)]
theorem cntR_none {p : Nat → Bool} {i : Nat} : ∀ n, (∀ j, j < n → p (i + j) = false) → cntR p i n = 0
  | 0, _ => rfl
  | n + 1, h => by
    simp only [cntR]
    rw [cntR_none n (fun j hj => h j (by omega)), h n (by omega)]
    rfl
theorem cntR_le (p : Nat → Bool) (i : Nat) : ∀ n, cntR p i n ≤ n
  | 0 => Nat.le_refl _
  | n + 1 => by
    have := cntR_le p i n
    have h : (p (i + n)).toNat ≤ 1 := Bool.toNat_le _
    simp only [cntR]; omega

/-- The bits from lo to hi. -/
def maskV (lo hi : Nat) : Nat := mkW 64 fun j => decide (lo ≤ j) && decide (j < hi)
theorem maskV_lt (lo hi : Nat) : maskV lo hi < 18446744073709551616 := mkW_lt 64 _
theorem maskV_bit (lo hi : Nat) {j : Nat} (hj : j < 64) : (maskV lo hi).testBit j = (decide (lo ≤ j) && decide (j < hi)) := by unfold maskV; rw [mkW_bit]; simp [hj]

/-- All ones, shifted. -/
theorem mask_high (lo : Nat) (hlo : lo ≤ 64) : 18446744073709551615 * 2 ^ (min lo 64) % 18446744073709551616 = maskV lo 64 := by
  apply bit_ext (by omega) (maskV_lt _ _)
  intro j hj
  rw [maskV_bit _ _ hj, Nat.min_eq_left hlo, show (18446744073709551616 : Nat) = 2 ^ 64 from rfl, Nat.testBit_mod_two_pow, Nat.testBit_mul_two_pow]
  have e2 : (18446744073709551615 : Nat) = 2 ^ 64 - (0 + 1) := by omega
  rw [e2, Nat.testBit_two_pow_sub_succ (by omega)]
  by_cases h : lo ≤ j
  · have : j - lo < 64 := by omega
    simp [hj, h, this]
  · simp [h]
theorem mask_low (hi : Nat) (h : hi < 64) : 2 ^ hi - 1 = maskV 0 hi := by
  have h2 : 2 ^ hi ≤ 2 ^ 63 := Nat.pow_le_pow_right (by decide) (by omega)
  apply bit_ext (by omega) (maskV_lt _ _)
  intro j hj
  rw [maskV_bit _ _ hj, Nat.testBit_two_pow_sub_one]
  simp
theorem mask_both (lo hi : Nat) : maskV lo 64 &&& maskV 0 hi = maskV lo hi := by
  apply bit_ext (Nat.lt_of_le_of_lt Nat.and_le_left (maskV_lt _ _)) (maskV_lt _ _)
  intro j hj
  rw [Nat.testBit_and, maskV_bit _ _ hj, maskV_bit _ _ hj, maskV_bit _ _ hj]
  simp [hj]
end Go.AM


namespace Go.AM
open Go

/-- A number out of its bytes. -/
def comb : Nat → (Nat → Nat) → Nat
  | 0, _ => 0
  | n + 1, f => f 0 + 256 * comb n (fun k => f (k + 1))
theorem comb_add : ∀ (n : Nat) (f g : Nat → Nat), comb n f + comb n g = comb n (fun k => f k + g k)
  | 0, _, _ => rfl
  | n + 1, f, g => by
    have := comb_add n (fun k => f (k + 1)) (fun k => g (k + 1))
    simp only [comb]
    omega
theorem comb_congr : ∀ (n : Nat) {f g : Nat → Nat}, (∀ k, k < n → f k = g k) → comb n f = comb n g
  | 0, _, _, _ => rfl
  | n + 1, f, g, h => by
    simp only [comb]
    rw [h 0 (by omega), comb_congr n (fun k hk => h (k + 1) (by omega))]
theorem comb_bit : ∀ (n : Nat) (f : Nat → Nat) (i : Nat), (∀ k, f k < 256) → (comb n f).testBit i = (decide (i < 8 * n) && (f (i / 8)).testBit (i % 8))
  | 0, f, i, h => by simp [comb]
  | n + 1, f, i, h => by
    have ih := comb_bit n (fun k => f (k + 1)) (i - 8) (fun k => h (k + 1))
    simp only [comb]
    rw [Nat.add_comm, show (256 : Nat) = 2 ^ 8 from rfl, Nat.testBit_two_pow_mul_add _ (h 0)]
    by_cases hi : i < 8
    · have e1 : i / 8 = 0 := by omega
      have e2 : i % 8 = i := by omega
      have e3 : i < 8 * (n + 1) := by omega
      simp [hi, e1, e2, e3]
    · rw [if_neg hi, ih]
      have e1 : (i - 8) / 8 + 1 = i / 8 := by omega
      have e2 : (i - 8) % 8 = i % 8 := by omega
      have e3 : (i - 8 < 8 * n) = (i < 8 * (n + 1)) := by simp; omega
      simp only [e1, e2, e3]
theorem comb_lt : ∀ (n : Nat) (f : Nat → Nat), (∀ k, f k < 256) → comb n f < 256 ^ n
  | 0, f, _ => by simp [comb]
  | n + 1, f, h => by
    have ih := comb_lt n (fun k => f (k + 1)) (fun k => h (k + 1))
    have h0 := h 0
    simp only [comb, Nat.pow_succ]
    omega
theorem comb8_lt {f : Nat → Nat} (h : ∀ k, f k < 256) : comb 8 f < 18446744073709551616 := comb_lt 8 f h

/-- Byte k of x. -/
def byte (x k : Nat) : Nat := x >>> (8 * k) % 256
theorem byte_lt (x k : Nat) : byte x k < 256 := Nat.mod_lt _ (by decide)
theorem byte_bit (x k j : Nat) (hj : j < 8) : (byte x k).testBit j = x.testBit (8 * k + j) := by
  unfold byte
  rw [show (256 : Nat) = 2 ^ 8 from rfl, Nat.testBit_mod_two_pow, Nat.testBit_shiftRight]
  simp [hj]
theorem eq_comb {x : Nat} (hx : x < 18446744073709551616) : x = comb 8 (byte x) := by
  apply bit_ext hx (comb8_lt (byte_lt x))
  intro i hi
  rw [comb_bit 8 _ i (byte_lt x), byte_bit _ _ _ (by omega)]
  have : 8 * (i / 8) + i % 8 = i := by omega
  simp [hi, this]

/-- Shifted and masked byte by byte. -/
theorem comb_mask {f : Nat → Nat} {s M m : Nat} (hf : ∀ k, f k < 256) (hM : ∀ i, i < 64 → M.testBit i = m.testBit (i % 8)) (hM2 : M < 18446744073709551616) (hm : ∀ j, j < 8 → m.testBit j = true → j + s < 8) :
    (comb 8 f >>> s) &&& M = comb 8 (fun k => (f k >>> s) &&& m) := by
  have hg : ∀ k, (f k >>> s) &&& m < 256 := fun k => Nat.lt_of_le_of_lt Nat.and_le_left (by
    rw [Nat.shiftRight_eq_div_pow]; exact Nat.lt_of_le_of_lt (Nat.div_le_self _ _) (hf k))
  apply bit_ext (Nat.lt_of_le_of_lt Nat.and_le_right hM2) (comb8_lt hg)
  intro i hi
  rw [Nat.testBit_and, Nat.testBit_shiftRight, comb_bit 8 _ _ hf, comb_bit 8 _ _ hg, hM i hi, Nat.testBit_and, Nat.testBit_shiftRight]
  by_cases hb : m.testBit (i % 8) = true
  · have h1 := hm (i % 8) (by omega) hb
    have e1 : (s + i) / 8 = i / 8 := by omega
    have e2 : (s + i) % 8 = s + i % 8 := by omega
    have e3 : s + i < 8 * 8 := by omega
    have e4 : i < 8 * 8 := by omega
    simp only [hb, Bool.and_true, e1, e2, e3, e4, decide_true, Bool.true_and]
  · simp only [Bool.not_eq_true] at hb
    simp [hb]

theorem comb_div16 : ∀ (n : Nat) (f : Nat → Nat), comb n f / 16 = comb n (fun k => f k / 16 + 16 * (if k + 1 < n then f (k + 1) % 16 else 0))
  | 0, f => by simp [comb]
  | 1, f => by simp [comb]
  | n + 2, f => by
    have ih := comb_div16 (n + 1) (fun k => f (k + 1))
    have h1 : comb (n + 1) (fun k => f (k + 1)) % 16 = f 1 % 16 := by simp only [comb, Nat.zero_add]; omega
    have e : comb (n + 2) f = f 0 + 256 * comb (n + 1) (fun k => f (k + 1)) := rfl
    have e2 : comb (n + 2) (fun k => f k / 16 + 16 * (if k + 1 < n + 2 then f (k + 1) % 16 else 0)) =
        (f 0 / 16 + 16 * (f 1 % 16)) + 256 * comb (n + 1) (fun k => f (k + 1) / 16 + 16 * (if k + 1 < n + 1 then f (k + 1 + 1) % 16 else 0)) := by
      have e3 : comb (n + 1) (fun k => f (k + 1) / 16 + 16 * (if k + 1 + 1 < n + 2 then f (k + 1 + 1) % 16 else 0)) = comb (n + 1) (fun k => f (k + 1) / 16 + 16 * (if k + 1 < n + 1 then f (k + 1 + 1) % 16 else 0)) := by
        apply comb_congr
        intro k _
        have : (k + 1 + 1 < n + 2) = (k + 1 < n + 1) := by simp
        simp only [this]
      rw [← e3]
      show (f 0 / 16 + 16 * (if 0 + 1 < n + 2 then f (0 + 1) % 16 else 0)) + 256 * _ = _
      rw [if_pos (by omega)]
    rw [e, e2, ← ih]
    omega

def g1 (a : Nat) : Nat := (a >>> 1 &&& 85) + (a >>> 0 &&& 85)
def g2 (b : Nat) : Nat := (b >>> 2 &&& 51) + (b >>> 0 &&& 51)
theorem g1_lt (a : Nat) : g1 a < 256 := by
  have h1 : a >>> 1 &&& 85 ≤ 85 := Nat.and_le_right
  have h2 : a >>> 0 &&& 85 ≤ 85 := Nat.and_le_right
  unfold g1; omega
theorem g2_lt (a : Nat) : g2 a ≤ 102 := by
  have h1 : a >>> 2 &&& 51 ≤ 51 := Nat.and_le_right
  have h2 : a >>> 0 &&& 51 ≤ 51 := Nat.and_le_right
  unfold g2; omega
set_option maxRecDepth 100000 in
theorem byte_fact : ∀ a, a < 256 → (g2 (g1 a) + g2 (g1 a) / 16) % 16 = cntR (a.testBit) 0 8 ∧ g2 (g1 a) % 16 ≤ 4 ∧ g2 (g1 a) / 16 ≤ 4 := by decide +kernel

def m0 : Nat := 6148914691236517205
def m1 : Nat := 3689348814741910323
def m2 : Nat := 1085102592571150095
def y1 (x : Nat) : Nat := ((x >>> 1) &&& m0) + (x &&& m0)
def y2 (x : Nat) : Nat := ((x >>> 2) &&& m1) + (x &&& m1)
def y3 (x : Nat) : Nat := ((x >>> 4) + x) &&& m2

theorem y1_comb {f : Nat → Nat} (hf : ∀ k, f k < 256) : y1 (comb 8 f) = comb 8 (fun k => g1 (f k)) := by
  unfold y1 g1
  rw [comb_mask hf (m := 85) (s := 1) (M := m0) (by decide +kernel) (by decide) (by decide)]
  have := comb_mask hf (m := 85) (s := 0) (M := m0) (by decide +kernel) (by decide) (by decide)
  rw [Nat.shiftRight_zero] at this
  rw [this, comb_add]
theorem y2_comb {f : Nat → Nat} (hf : ∀ k, f k < 256) : y2 (comb 8 f) = comb 8 (fun k => g2 (f k)) := by
  unfold y2 g2
  rw [comb_mask hf (m := 51) (s := 2) (M := m1) (by decide +kernel) (by decide) (by decide)]
  have := comb_mask hf (m := 51) (s := 0) (M := m1) (by decide +kernel) (by decide) (by decide)
  rw [Nat.shiftRight_zero] at this
  rw [this, comb_add]
theorem y3_comb {f : Nat → Nat} (hf : ∀ k, f k % 16 ≤ 4 ∧ f k / 16 ≤ 4) : y3 (comb 8 f) = comb 8 (fun k => (f k + f k / 16) % 16) ∧ comb 8 f >>> 4 + comb 8 f < 18446744073709551616 := by
  have e : comb 8 f >>> 4 + comb 8 f = comb 8 (fun k => f k / 16 + 16 * (if k + 1 < 8 then f (k + 1) % 16 else 0) + f k) := by
    rw [Nat.shiftRight_eq_div_pow, show (2 ^ 4 : Nat) = 16 from rfl, comb_div16, comb_add]
  have hb : ∀ k, f k / 16 + 16 * (if k + 1 < 8 then f (k + 1) % 16 else 0) + f k < 256 := fun k => by
    have h1 := hf k
    have h2 := (hf (k + 1)).1
    split <;> omega
  refine ⟨?_, by rw [e]; exact comb8_lt hb⟩
  unfold y3
  rw [e]
  have := comb_mask hb (m := 15) (s := 0) (M := m2) (by decide +kernel) (by decide) (by decide)
  rw [Nat.shiftRight_zero] at this
  rw [this]
  apply comb_congr
  intro k _
  simp only [Nat.shiftRight_zero]
  rw [show (15 : Nat) = 2 ^ 4 - 1 from rfl, Nat.and_two_pow_sub_one_eq_mod]
  omega

/-- The digits one place lower. -/
def shf (f : Nat → Nat) : Nat → Nat := fun k => if k + 1 < 8 then f (k + 1) else 0
theorem comb_pad : ∀ (n : Nat) (g : Nat → Nat), g n = 0 → comb (n + 1) g = comb n g
  | 0, g, h => by simp [comb, h]
  | n + 1, g, h => by
    have := comb_pad n (fun k => g (k + 1)) h
    rw [show comb (n + 1 + 1) g = g 0 + 256 * comb (n + 1) (fun k => g (k + 1)) from rfl, this]
    rfl
theorem comb_shf {f : Nat → Nat} (h : ∀ k, f k ≤ 64) : comb 8 f / 256 = comb 8 (shf f) := by
  rw [comb_pad 7 (shf f) (by simp [shf])]
  have e : comb 8 f = f 0 + 256 * comb 7 (fun k => f (k + 1)) := rfl
  rw [e]
  have h0 := h 0
  have e2 : comb 7 (shf f) = comb 7 (fun k => f (k + 1)) := comb_congr 7 (fun k hk => by simp only [shf]; rw [if_pos (by omega)])
  rw [e2]
  generalize comb 7 (fun k => f (k + 1)) = r
  omega
theorem shf_le {f : Nat → Nat} {b : Nat} (h : ∀ k, f k ≤ b) (k : Nat) : shf f k ≤ b := by
  unfold shf; split
  · exact h _
  · exact Nat.zero_le _
theorem comb_top : ∀ (n : Nat) (f : Nat → Nat), (∀ k, f k ≤ 127) → comb (n + 1) f < 128 * 256 ^ n
  | 0, f, h => by have := h 0; simp [comb]; omega
  | n + 1, f, h => by
    have ih := comb_top n (fun k => f (k + 1)) (fun k => h (k + 1))
    have h0 := h 0
    rw [show comb (n + 1 + 1) f = f 0 + 256 * comb (n + 1) (fun k => f (k + 1)) from rfl, Nat.pow_succ]
    omega
theorem comb8_top {f : Nat → Nat} (h : ∀ k, f k ≤ 64) : comb 8 f < 9223372036854775808 := comb_top 7 f (fun k => Nat.le_trans (h k) (by decide))

theorem last_sum {f : Nat → Nat} (hf : ∀ k, f k ≤ 8) {y a b c : Nat} (hy : y = comb 8 f) (ha : a = y + y / 256) (hb : b = a + a / 65536) (hc : c = b + b / 4294967296) :
    c % 128 = f 0 + f 1 + f 2 + f 3 + f 4 + f 5 + f 6 + f 7 ∧ y < 9223372036854775808 ∧ a < 9223372036854775808 ∧ b < 9223372036854775808 ∧ c < 9223372036854775808 := by
  let F1 : Nat → Nat := fun k => f k + shf f k
  have b1 : ∀ k, F1 k ≤ 16 := fun k => by have h1 := hf k; have h2 := shf_le hf k; show f k + shf f k ≤ 16; omega
  let F2 : Nat → Nat := fun k => F1 k + shf (shf F1) k
  have b2 : ∀ k, F2 k ≤ 32 := fun k => by have h1 := b1 k; have h2 := shf_le (shf_le b1) k; show F1 k + shf (shf F1) k ≤ 32; omega
  let F3 : Nat → Nat := fun k => F2 k + shf (shf (shf (shf F2))) k
  have b3 : ∀ k, F3 k ≤ 64 := fun k => by have h1 := b2 k; have h2 := shf_le (shf_le (shf_le (shf_le b2))) k; show F2 k + shf (shf (shf (shf F2))) k ≤ 64; omega
  have up : ∀ {g : Nat → Nat} {n : Nat}, n ≤ 64 → (∀ k, g k ≤ n) → ∀ k, g k ≤ 64 := fun hn h k => Nat.le_trans (h k) hn
  have e1 : a = comb 8 F1 := by rw [ha, hy, comb_shf (up (by decide) hf), comb_add]
  have e2 : b = comb 8 F2 := by
    rw [hb, e1, show (65536 : Nat) = 256 * 256 from rfl, ← Nat.div_div_eq_div_mul, comb_shf (up (by decide) b1), comb_shf (up (by decide) (shf_le b1)), comb_add]
  have e3 : c = comb 8 F3 := by
    rw [hc, e2, show (4294967296 : Nat) = 256 * 256 * 256 * 256 from rfl, ← Nat.div_div_eq_div_mul, ← Nat.div_div_eq_div_mul, ← Nat.div_div_eq_div_mul, comb_shf (up (by decide) b2), comb_shf (up (by decide) (shf_le b2)), comb_shf (up (by decide) (shf_le (shf_le b2))), comb_shf (up (by decide) (shf_le (shf_le (shf_le b2)))), comb_add]
  refine ⟨?_, ?_, ?_, ?_, ?_⟩
  · have e4 : c = F3 0 + 256 * comb 7 (fun k => F3 (k + 1)) := e3
    have h0 := b3 0
    have e5 : F3 0 = (f 0 + f 1) + (f 2 + f 3) + ((f 4 + f 5) + (f 6 + f 7)) := by simp [F3, F2, F1, shf]
    have h1 : F3 0 < 128 := by omega
    rw [e4]
    have e6 : (F3 0 + 256 * comb 7 (fun k => F3 (k + 1))) % 128 = F3 0 := by
      generalize comb 7 (fun k => F3 (k + 1)) = r
      omega
    rw [e6, e5]
    omega
  · rw [hy]; exact comb8_top (up (by decide) hf)
  · rw [e1]; exact comb8_top (up (by decide) b1)
  · rw [e2]; exact comb8_top (up (by decide) b2)
  · rw [e3]; exact comb8_top b3

/-- The ones of a word. -/
def onesV (x : Nat) : Nat := cntR x.testBit 0 64
theorem onesV_sum {x : Nat} : onesV x = cntR x.testBit 0 8 + cntR x.testBit 8 8 + cntR x.testBit 16 8 + cntR x.testBit 24 8 + cntR x.testBit 32 8 + cntR x.testBit 40 8 + cntR x.testBit 48 8 + cntR x.testBit 56 8 := by
  have h1 : onesV x = cntR x.testBit 0 8 + cntR x.testBit 8 56 := cntR_add x.testBit 0 8 56
  have h2 : cntR x.testBit 8 56 = cntR x.testBit 8 8 + cntR x.testBit 16 48 := cntR_add x.testBit 8 8 48
  have h3 : cntR x.testBit 16 48 = cntR x.testBit 16 8 + cntR x.testBit 24 40 := cntR_add x.testBit 16 8 40
  have h4 : cntR x.testBit 24 40 = cntR x.testBit 24 8 + cntR x.testBit 32 32 := cntR_add x.testBit 24 8 32
  have h5 : cntR x.testBit 32 32 = cntR x.testBit 32 8 + cntR x.testBit 40 24 := cntR_add x.testBit 32 8 24
  have h6 : cntR x.testBit 40 24 = cntR x.testBit 40 8 + cntR x.testBit 48 16 := cntR_add x.testBit 40 8 16
  have h7 : cntR x.testBit 48 16 = cntR x.testBit 48 8 + cntR x.testBit 56 8 := cntR_add x.testBit 48 8 8
  omega
theorem ones_fact {x : Nat} (hx : x < 18446744073709551616) :
    y3 (y2 (y1 x)) < 9223372036854775808 ∧ y1 x < 18446744073709551616 ∧ y2 (y1 x) < 18446744073709551616 ∧ y2 (y1 x) >>> 4 + y2 (y1 x) < 18446744073709551616 ∧
    ∀ a b c, a = y3 (y2 (y1 x)) + y3 (y2 (y1 x)) / 256 → b = a + a / 65536 → c = b + b / 4294967296 → c % 128 = onesV x ∧ a < 9223372036854775808 ∧ b < 9223372036854775808 ∧ c < 9223372036854775808 := by
  have hl := byte_lt x
  have e1 : y1 x = comb 8 (fun k => g1 (byte x k)) := by
    have := y1_comb hl
    rwa [← eq_comb hx] at this
  have e2 : y2 (y1 x) = comb 8 (fun k => g2 (g1 (byte x k))) := by rw [e1]; exact y2_comb (fun k => g1_lt _)
  have hf := fun k => byte_fact (byte x k) (hl k)
  obtain ⟨e3, e4⟩ := y3_comb (f := fun k => g2 (g1 (byte x k))) (fun k => (hf k).2)
  rw [← e2] at e3 e4
  have part : ∀ k, cntR ((byte x k).testBit) 0 8 = cntR x.testBit (8 * k) 8 := fun k => cntR_congr 8 (fun j hj => by rw [Nat.zero_add, byte_bit x k j hj])
  have e5 : y3 (y2 (y1 x)) = comb 8 (fun k => cntR x.testBit (8 * k) 8) := by
    rw [e3]
    exact comb_congr 8 (fun k _ => ((hf k).1).trans (part k))
  have hz : ∀ k, cntR x.testBit (8 * k) 8 ≤ 8 := fun k => cntR_le _ _ _
  refine ⟨?_, ?_, ?_, e4, fun a b c ha hb hc => ?_⟩
  · exact (last_sum hz e5 rfl rfl rfl).2.1
  · rw [e1]; exact comb8_lt (fun k => g1_lt _)
  · rw [e2]; exact comb8_lt (fun k => Nat.lt_of_le_of_lt (g2_lt _) (by decide))
  · obtain ⟨r1, _, r2, r3, r4⟩ := last_sum hz e5 ha hb hc
    exact ⟨r1.trans onesV_sum.symm, r2, r3, r4⟩

/-- The lowest one. -/
theorem ctz_spec {x : Nat} (hx : x < 18446744073709551616) (h0 : x ≠ 0) : Lib.ctz 64 x < 64 ∧ x.testBit (Lib.ctz 64 x) = true ∧ ∀ j, j < Lib.ctz 64 x → x.testBit j = false := by
  unfold Lib.ctz
  rw [if_neg h0]
  obtain ⟨m, hm, hk⟩ := Lib.ctzFrom_spec 64 x (by omega) (by omega)
  generalize Lib.ctzFrom 64 x = c at hm hk
  subst hm
  refine ⟨hk, ?_, fun j hj => ?_⟩
  · rw [Nat.mul_comm, Nat.testBit_mul_two_pow]
    simp [Nat.testBit_zero]
  · rw [Nat.mul_comm, Nat.testBit_mul_two_pow]
    simp; omega
end Go.AM

