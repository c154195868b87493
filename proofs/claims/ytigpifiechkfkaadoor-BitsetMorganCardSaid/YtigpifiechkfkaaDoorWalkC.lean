/- Own work over the model of the kit. -/
import Derived.Test.YtigpifiechkfkaaDoorWalkA
import Derived.Test.YtigpifiechkfkaaDoorLibH
set_option linter.unusedSimpArgs false
set_option linter.unusedVariables false
namespace Go.AM
open Go Go.Proofs

/-! math/bits. -/
def onesR (ds : List D) (v : AV) : Prop := ∃ x : Nat, x < 18446744073709551616 ∧ ds = [.int .u64 x] ∧ v = .dat (.int .i64 (onesV x : Nat))
theorem wrap_nat {n : Nat} (h : n < 18446744073709551616) : IntKind.u64.wrap (n : Int) = (n : Int) := by rw [wrap_u64']; omega
theorem shr8 {n : Nat} (s : Nat) (h : n < 18446744073709551616) : shrV .u64 (n : Int) (s : Int) = ((n >>> s : Nat) : Int) := shr_nat s h

theorem ones_ok : OkF Tryd.prog 42 (dataC onesR) := by
  refine okF_data Tryd.func42 rfl (by decide) ?_
  rintro ds v ⟨x, hx, rfl, rfl⟩
  refine sem_of_awp (Γ := tbl []) okG_nil _ _ _ ?_
  obtain ⟨f1, f2, f3, f4, f5⟩ := ones_fact hx
  obtain ⟨g1, g2, g3, g4⟩ := f5 _ _ _ rfl rfl rfl
  generalize hy3 : y3 (y2 (y1 x)) = z at *
  generalize ha : z + z / 256 = a at *
  generalize hb : a + a / 65536 = b at *
  generalize hc : b + b / 4294967296 = c at *
  have m0lt : (6148914691236517205 : Nat) < 18446744073709551616 := by decide
  have e1 : bitsV .and .u64 (shrV .u64 (x : Int) 1) 6148914691236517205 = (((x >>> 1) &&& m0 : Nat) : Int) := by
    rw [show (1 : Int) = ((1 : Nat) : Int) from rfl, shr8 1 hx]; exact bits_and (shr_lt 1 hx) m0lt
  have e2 : bitsV .and .u64 (x : Int) 6148914691236517205 = ((x &&& m0 : Nat) : Int) := bits_and hx m0lt
  have e3 : IntKind.u64.wrap ((((x >>> 1) &&& m0 : Nat) : Int) + ((x &&& m0 : Nat) : Int)) = ((y1 x : Nat) : Int) := by
    have := wrap_nat f2
    unfold y1 at this ⊢
    rw [← Int.natCast_add]; exact this
  generalize hy1 : y1 x = p at *
  have e4 : bitsV .and .u64 (shrV .u64 (p : Int) 2) 3689348814741910323 = (((p >>> 2) &&& m1 : Nat) : Int) := by
    rw [show (2 : Int) = ((2 : Nat) : Int) from rfl, shr8 2 f2]; exact bits_and (shr_lt 2 f2) (by decide)
  have e5 : bitsV .and .u64 (p : Int) 3689348814741910323 = ((p &&& m1 : Nat) : Int) := bits_and f2 (by decide)
  have e6 : IntKind.u64.wrap ((((p >>> 2) &&& m1 : Nat) : Int) + ((p &&& m1 : Nat) : Int)) = ((y2 p : Nat) : Int) := by
    have := wrap_nat f3
    unfold y2 at this ⊢
    rw [← Int.natCast_add]; exact this
  generalize hy2 : y2 p = q at *
  have e7 : IntKind.u64.wrap (shrV .u64 (q : Int) 4 + (q : Int)) = ((q >>> 4 + q : Nat) : Int) := by
    rw [show (4 : Int) = ((4 : Nat) : Int) from rfl, shr8 4 f3, ← Int.natCast_add]; exact wrap_nat f4
  have e8 : bitsV .and .u64 ((q >>> 4 + q : Nat) : Int) 1085102592571150095 = (z : Int) := by
    rw [← hy3]; exact bits_and f4 (by decide)
  have dv : ∀ (n s : Nat), n >>> s = n / 2 ^ s := fun n s => Nat.shiftRight_eq_div_pow n s
  have e9 : IntKind.u64.wrap ((z : Int) + shrV .u64 (z : Int) 8) = (a : Int) := by
    rw [show (8 : Int) = ((8 : Nat) : Int) from rfl, shr8 8 (by omega), ← Int.natCast_add, dv, ← ha]; exact wrap_nat (by omega)
  have e10 : IntKind.u64.wrap ((a : Int) + shrV .u64 (a : Int) 16) = (b : Int) := by
    rw [show (16 : Int) = ((16 : Nat) : Int) from rfl, shr8 16 (by omega), ← Int.natCast_add, dv, ← hb]; exact wrap_nat (by omega)
  have e11 : IntKind.u64.wrap ((b : Int) + shrV .u64 (b : Int) 32) = (c : Int) := by
    rw [show (32 : Int) = ((32 : Nat) : Int) from rfl, shr8 32 (by omega), ← Int.natCast_add, dv, ← hc]; exact wrap_nat (by omega)
  have e12 : bitsV .and .i64 (c : Int) 127 = ((onesV x : Nat) : Int) := by
    have h1 : bitsV .and .i64 (c : Int) 127 = IntKind.i64.wrap ((c &&& 127 : Nat) : Int) := by
      show IntKind.i64.wrap ((BitVec.ofInt 64 (c : Int) &&& BitVec.ofInt 64 127).toNat : Int) = _
      rw [BitVec.toNat_and, ofInt64 (by omega), show (127 : Int) = ((127 : Nat) : Int) from rfl, ofInt64 (by decide)]
    rw [h1, show (127 : Nat) = 2 ^ 7 - 1 from rfl, Nat.and_two_pow_sub_one_eq_mod, ← g1]
    exact wrap_of_inR (inR_in (by omega))
  have r1 : inR .u64 (shrV .u64 (x : Int) 1) := by rw [show (1 : Int) = ((1 : Nat) : Int) from rfl, shr8 1 hx]; exact inR_un (shr_lt 1 hx)
  have r2 : inR .u64 (shrV .u64 (p : Int) 2) := by rw [show (2 : Int) = ((2 : Nat) : Int) from rfl, shr8 2 f2]; exact inR_un (shr_lt 2 f2)
  have r3 : inR .u64 (shrV .u64 (q : Int) 4) := by rw [show (4 : Int) = ((4 : Nat) : Int) from rfl, shr8 4 f3]; exact inR_un (shr_lt 4 f3)
  have r4 : inR .u64 (shrV .u64 (z : Int) 8) := by rw [show (8 : Int) = ((8 : Nat) : Int) from rfl, shr8 8 (by omega)]; exact inR_un (shr_lt 8 (by omega))
  have r5 : inR .u64 (shrV .u64 (a : Int) 16) := by rw [show (16 : Int) = ((16 : Nat) : Int) from rfl, shr8 16 (by omega)]; exact inR_un (shr_lt 16 (by omega))
  have r6 : inR .u64 (shrV .u64 (b : Int) 32) := by rw [show (32 : Int) = ((32 : Nat) : Int) from rfl, shr8 32 (by omega)]; exact inR_un (shr_lt 32 (by omega))
  simp only [go_sem, Tryd.ntmps42, e1, e2, e3, e4, e5, e6, e7, e8, e9, e10, e11, e12, r1, r2, r3, r4, r5, r6, true_and]
  refine ⟨inR_in g4, ?_⟩
  exact post_data (.inl rfl) [2] rfl trivial (by simp [tmpsOf, resV])

/-- Where the lowest one stands. -/
def tzR (ds : List D) (v : AV) : Prop := ∃ x : Nat, x < 18446744073709551616 ∧ ds = [.int .u64 x] ∧ v = .dat (.int .i64 (Lib.ctz 64 x : Nat))
theorem nth_tab {tab : List Nat} {j c : Nat} (h2 : j < tab.length) (h : tab.getD j 0 = c) : (tab.map fun n : Nat => D.int .u8 (n : Int)).getD j default = .int .u8 (c : Int) := by
  subst h
  rw [List.getD_eq_getElem?_getD, List.getElem?_map, List.getD_eq_getElem?_getD, List.getElem?_eq_getElem h2]
  rfl
theorem tz_rest (x c p : Nat) (hx : x < 18446744073709551616) (h0 : x ≠ 0) (hi : p * 285870213051353865 % 18446744073709551616 / 288230376151711744 < 64)
    (htab : Lib.deBruijn64tab.getD (p * 285870213051353865 % 18446744073709551616 / 288230376151711744) 0 = c) :
    ∃ (r j : Nat) (tab : List D), j < 64 ∧ (∀ s : List AV, ev s (.global 0) = .rptr (some 64) (.agg tab)) ∧ tab.getD j default = .int .u8 (c : Int) ∧ IntKind.u64.wrap (0 - (x : Int)) = ((18446744073709551616 - x : Nat) : Int) ∧
      IntKind.u64.wrap ((p : Int) * 285870213051353865) = (r : Int) ∧ shrV .u64 (r : Int) 58 = (j : Int) := by
  have hev : ∀ s : List AV, ev s (.global 0) = .rptr (some 64) (.agg (Lib.deBruijn64tab.map fun n : Nat => D.int .u8 (n : Int))) := fun _ => rfl
  have k1 : IntKind.u64.wrap (0 - (x : Int)) = ((18446744073709551616 - x : Nat) : Int) := by rw [wrap_u64']; omega
  have k3 : IntKind.u64.wrap ((p : Int) * 285870213051353865) = ((p * 285870213051353865 % 18446744073709551616 : Nat) : Int) := by
    rw [wrap_u64']; omega
  have k4 : shrV .u64 ((p * 285870213051353865 % 18446744073709551616 : Nat) : Int) 58 = ((p * 285870213051353865 % 18446744073709551616 / 288230376151711744 : Nat) : Int) := by
    have := shr_nat (a := p * 285870213051353865 % 18446744073709551616) 58 (Nat.mod_lt _ (by decide))
    rw [Nat.shiftRight_eq_div_pow, show (2 : Nat) ^ 58 = 288230376151711744 from by decide] at this
    exact this
  revert hi htab k3 k4
  generalize p * 285870213051353865 % 18446744073709551616 = r
  generalize r / 288230376151711744 = j
  intro hi htab k3 k4
  have hj : (j : Int) < 64 := by omega
  have hj0 : (0 : Int) ≤ j := by omega
  have hlen : Lib.deBruijn64tab.length = 64 := by decide
  have hnth := nth_tab (by omega : j < Lib.deBruijn64tab.length) htab
  have hr : inR .u64 (j : Int) := inR_un (by omega)
  exact ⟨r, j, _, hi, hev, hnth, k1, k3, k4⟩

theorem tz_ok : OkF Tryd.prog 40 (dataC tzR) := by
  refine okF_data Tryd.func40 rfl (by decide) ?_
  rintro ds v ⟨x, hx, rfl, rfl⟩
  refine sem_of_awp (Γ := tbl []) okG_nil _ _ _ ?_
  by_cases h0 : x = 0
  · subst h0
    simp only [go_sem, Tryd.ntmps40, Int.natCast_zero, decide_true]
    exact post_data (.inl rfl) [2] rfl trivial (by simp [tmpsOf, resV, Lib.ctz])
  · have h1 : ¬ (x : Int) = 0 := by omega
    obtain ⟨hlow, hk⟩ := Lib.lowest_bit 64 x h0 hx
    obtain ⟨hi, htab⟩ := Lib.deBruijn64_at _ hk
    have k2 : bitsV .and .u64 (x : Int) ((18446744073709551616 - x : Nat) : Int) = ((2 ^ Lib.ctz 64 x : Nat) : Int) := by rw [bits_and hx (by omega), ← hlow]
    clear hlow
    revert hk hi htab k2
    generalize Lib.ctz 64 x = c
    generalize 2 ^ c = p
    intro hk hi htab k2
    obtain ⟨r, j, tab, hj', hev, hnth, k1, k3, k4⟩ := tz_rest x c p hx h0 hi htab
    clear hi htab
    have hj : (j : Int) < 64 := by omega
    simp only [go_sem, Tryd.ntmps40, h1, decide_false, hev, k1, k2, k3, k4, inR_un (show j < 18446744073709551616 by omega), Int.natCast_nonneg, hj, Int.toNat_natCast, true_and, Nat.mul_one]
    refine ⟨hj', ?_⟩
    simp only [go_sem, hnth]
    exact ⟨inR_in (by omega), post_data (.inl rfl) [2] rfl trivial (by simp [tmpsOf, resV])⟩
end Go.AM

namespace Go.AM
open Go Go.Proofs

/-! Count. -/
noncomputable def countV (sz : Int) (ws : List Nat) (i k : Int) : Int := if checkV sz ws ≠ 0 ∨ i < 0 ∨ k < i ∨ sz < k then 0 else (cntR (bitAt ws) i.toNat (k.toNat - i.toNat) : Nat)
def countR (ds : List D) (v : AV) : Prop := ∃ sz ws i k, ds = [bitsD sz ws, .int .i64 i, .int .i64 k] ∧ Ok64 ws ∧ v = .dat (.int .i64 (countV sz ws i k))

theorem ones_mask {ws : List Nat} (q lo d : Nat) (h1 : lo ≤ d) (h2 : d ≤ 64) : onesV (ws.getD q 0 &&& maskV lo d) = cntR (bitAt ws) (64 * q + lo) (d - lo) := by
  unfold onesV
  have e : (64 : Nat) = lo + ((d - lo) + (64 - d)) := by omega
  have hb : ∀ j, j < 64 → (ws.getD q 0 &&& maskV lo d).testBit j = (bitAt ws (64 * q + j) && (decide (lo ≤ j) && decide (j < d))) := fun j hj => by
    rw [Nat.testBit_and, maskV_bit _ _ hj, bit_word _ _ _ hj]
  rw [congrArg (cntR (ws.getD q 0 &&& maskV lo d).testBit 0) e, cntR_add, cntR_add]
  rw [cntR_none (p := (ws.getD q 0 &&& maskV lo d).testBit) (i := 0) lo (fun j hj => by rw [Nat.zero_add, hb j (by omega)]; simp; omega)]
  rw [cntR_none (p := (ws.getD q 0 &&& maskV lo d).testBit) (i := 0 + lo + (d - lo)) (64 - d) (fun j hj => by rw [hb _ (by omega)]; simp; omega)]
  rw [Nat.zero_add, Nat.add_zero, Nat.zero_add]
  refine cntR_congr _ (fun j hj => ?_)
  rw [hb _ (by omega)]
  have h3 : lo ≤ lo + j := by omega
  have h4 : lo + j < d := by omega
  simp [h3, h4, Nat.add_assoc]

abbrev tabC : List (Nat × Contract) := [(14, dataC chkR), (39, dataC maskR), (42, dataC onesR)]
theorem tabC_ok : OkG Tryd.prog (tbl tabC) := okG_cons check_ok (okG_cons mask_ok (okG_cons ones_ok okG_nil))
theorem pureC : PureFns (tbl tabC) [39, 42] := by
  rintro g args own v own' mv hg ⟨C, hm, hC⟩
  simp at hg
  rcases hg with rfl | rfl
  · simp at hm
    subst hm
    obtain ⟨_, _, _, h1, h2, _⟩ := hC
    exact ⟨h1, h2⟩
  · simp at hm
    subst hm
    obtain ⟨_, _, _, h1, h2, _⟩ := hC
    exact ⟨h1, h2⟩

theorem count_ok : OkF Tryd.prog 26 (dataC countR) := by
  refine okF_data Tryd.func26 rfl (by decide) ?_
  rintro ds v ⟨sz, ws, f, t, rfl, ho, rfl⟩
  refine sem_of_awp (Γ := tbl tabC) tabC_ok _ _ _ ?_
  have bail : ∀ s own, s.getD 6 .top = .dat (.int .i64 (countV sz ws f t)) → post Tryd.prog Tryd.f26 (.dat (.int .i64 (countV sz ws f t))) [] [] .ret ⟨s, own, 0, []⟩ := fun s own h => post_data (.inl rfl) [6] rfl trivial (by simp only [tmpsOf, resV, h])
  simp only [go_sem, Tryd.ntmps26]
  refine call_data chkR (by simp) _ _ rfl ⟨sz, ws, rfl, ho, rfl⟩ (.inl rfl) ?_
  by_cases h0 : checkV sz ws = 0
  · obtain ⟨n, rfl, hf⟩ := checkV_zero ho h0
    have hn := hf.le; have hl := hf.len
    by_cases h1 : f < 0 ∨ t < f ∨ (n : Int) < t
    · have hv : countV n ws f t = 0 := by unfold countV; rw [if_pos (.inr h1)]
      rw [hv] at bail ⊢
      by_cases h2 : f < 0
      · simp only [go_sem, h0, h2, decide_true, Bool.not_true]
        exact bail _ _ (by rfl)
      · by_cases h3 : t < f
        · simp only [go_sem, h0, h2, h3, decide_true, decide_false, Bool.not_true]
          exact bail _ _ (by rfl)
        · have h4 : (n : Int) < t := by omega
          simp only [go_sem, h0, h2, h3, h4, decide_true, decide_false, Bool.not_true]
          exact bail _ _ (by rfl)
    · have h2 : ¬ f < 0 := by omega
      have h3 : ¬ t < f := by omega
      have h4 : ¬ (n : Int) < t := by omega
      obtain ⟨a, rfl⟩ : ∃ a : Nat, f = a := ⟨f.toNat, by omega⟩
      obtain ⟨b, rfl⟩ : ∃ b : Nat, t = b := ⟨t.toNat, by omega⟩
      have hv : countV n ws a b = (cntR (bitAt ws) a (b - a) : Nat) := by unfold countV; rw [if_neg (by simp only [h0]; omega)]; rfl
      rw [hv] at bail ⊢
      simp only [go_sem, h0, h2, h3, h4, decide_true, decide_false, Bool.not_true]
      refine sem_loop (fun k : Nat => ⟨slotsOf 58 [(1, .dat (.int .i64 a)), (2, .dat (.int .i64 b)), (3, .ptr 0 0 0), (6, .dat (.int .i64 0)), (7, .dat (.int .i64 (cntR (bitAt ws) a (k - a) : Nat))), (8, .dat (.int .i64 k))],
          [.box [.dat (.int .i64 n), .dat (.sl none (us ws))]], 0, []⟩)
        (fun k => a ≤ k ∧ k ≤ b) (fun k => b - k) a ⟨Nat.le_refl _, by omega⟩ ?_ ?_
      · rw [Nat.sub_self]
        exact le_slots' (by simp only [go_sem, cntR, Int.natCast_zero])
      · rintro k ⟨hk1, hk2⟩
        refine sem_of_awp (Γ := tbl tabC) tabC_ok _ _ _ ?_
        have hcl := cntR_le (bitAt ws) a (k - a)
        by_cases hk : (k : Int) < b
        · have hk' : k < b := by omega
          simp only [go_sem, hk, decide_true, tdiv64, tmod64]
          obtain ⟨e, he⟩ : ∃ e, e = min b ((k / 64 + 1) * 64) := ⟨_, rfl⟩
          have emin : min (b : Int) ((((k / 64 : Nat) : Int) + 1) * 64) = (e : Int) := by omega
          have ed : (e : Int) - ((k / 64 : Nat) : Int) * 64 = ((e - k / 64 * 64 : Nat) : Int) := by omega
          have hq : k / 64 < ws.length := by omega
          have hq2 : ((k / 64 : Nat) : Int) < ws.length := by omega
          have hwo := ho.get (k / 64)
          have hand : (ws.getD (k / 64) 0 &&& maskV (k % 64) (e - k / 64 * 64)) < 18446744073709551616 := Nat.lt_of_le_of_lt Nat.and_le_left hwo
          rw [emin]
          refine ⟨inR_in (by omega), inR_i64.2 (by omega), inR_i64.2 (by omega), ?_⟩
          refine sem_draw (pf := [39, 42]) (Γ := tbl tabC) mixed tabC_ok pureC [0, 1, 2, 3, 4, 5, 6, 7, 8, 9, 10, 11, 12, 13, 14, 15, 16] (by kernel_rfl) ?_
          simp only [go_sem, chainI, tmod64, ed, nth_us hq, hq2, Int.natCast_nonneg, Int.toNat_natCast, List.length_map, true_and]
          refine ⟨inR_in (by omega), inR_i64.2 (by omega), inR_in (by omega), ?_⟩
          refine call_data maskR (by simp) _ _ rfl ⟨k % 64, e - k / 64 * 64, rfl, by omega, by omega, rfl⟩ (.inl rfl) ?_
          simp only [go_sem, bits_and hwo (maskV_lt _ _)]
          refine call_data onesR (by simp) _ _ rfl ⟨_, hand, rfl, rfl⟩ (.inl rfl) ?_
          have hone := ones_mask (ws := ws) (k / 64) (k % 64) (e - k / 64 * 64) (by omega) (by omega)
          have hsum : (cntR (bitAt ws) a (k - a) : Int) + (onesV (ws.getD (k / 64) 0 &&& maskV (k % 64) (e - k / 64 * 64)) : Nat) = (cntR (bitAt ws) a (e - a) : Nat) := by
            rw [hone, ← Int.natCast_add]
            have e1 := cntR_add (bitAt ws) a (k - a) (e - k)
            rw [show k - a + (e - k) = e - a by omega, show a + (k - a) = k by omega] at e1
            rw [e1, show 64 * (k / 64) + k % 64 = k by omega, show e - k / 64 * 64 - k % 64 = e - k by omega]
          have hcl2 := cntR_le (bitAt ws) a (e - a)
          simp only [go_sem, hsum]
          exact ⟨inR_in (by omega), e, ⟨by omega, by omega⟩, by omega, le_slots' (by simp only [go_sem])⟩
        · have hk' : k = b := by omega
          subst hk'
          simp only [go_sem, hk, decide_false]
          exact bail _ _ (by rfl)
  · have hv : countV sz ws f t = 0 := by unfold countV; rw [if_pos (.inl h0)]
    rw [hv] at bail ⊢
    simp only [go_sem, h0, decide_false, Bool.not_false]
    exact bail _ _ (by rfl)
end Go.AM

namespace Go.AM
open Go Go.Proofs

/-! Find. -/
/-- The first of m places from i on at which p holds; else -1. -/
def findFrom (p : Nat → Bool) (i : Nat) : Nat → Int
  | 0 => -1
  | m + 1 => if p i then (i : Int) else findFrom p (i + 1) m
theorem findFrom_none {p : Nat → Bool} : ∀ {m i : Nat}, (∀ j, i ≤ j → j < i + m → p j = false) → findFrom p i m = -1
  | 0, _, _ => rfl
  | m + 1, i, h => by
    simp only [findFrom]
    rw [if_neg (by rw [h i (Nat.le_refl _) (by omega)]; decide)]
    exact findFrom_none fun j h1 h2 => h j (by omega) (by omega)
theorem findFrom_hit {p : Nat → Bool} : ∀ {m i q : Nat}, i ≤ q → q < i + m → p q = true → (∀ j, i ≤ j → j < q → p j = false) → findFrom p i m = (q : Int)
  | 0, i, q, h1, h2, _, _ => by omega
  | m + 1, i, q, h1, h2, hq, h => by
    simp only [findFrom]
    by_cases e : i = q
    · subst e; rw [if_pos hq]
    · rw [if_neg (by rw [h i (Nat.le_refl _) (by omega)]; decide)]
      exact findFrom_hit (by omega) (by omega) hq fun j h3 h4 => h j (by omega) h4

noncomputable def findV (sz : Int) (ws : List Nat) (f : Int) (on : Bool) : Int := if checkV sz ws ≠ 0 ∨ f < 0 ∨ sz ≤ f then -1 else findFrom (fun i => bitAt ws i == on) f.toNat (sz.toNat - f.toNat)
def findR (ds : List D) (v : AV) : Prop := ∃ sz ws f on, ds = [bitsD sz ws, .int .i64 f, .bool on] ∧ Ok64 ws ∧ v = .dat (.int .i64 (findV sz ws f on))

abbrev tabN : List (Nat × Contract) := [(14, dataC chkR), (39, dataC maskR), (40, dataC tzR)]
theorem tabN_ok : OkG Tryd.prog (tbl tabN) := okG_cons check_ok (okG_cons mask_ok (okG_cons tz_ok okG_nil))

theorem find_ok : OkF Tryd.prog 23 (dataC findR) := by
  refine okF_data Tryd.func23 rfl (by decide) ?_
  rintro ds v ⟨sz, ws, f, on, rfl, ho, rfl⟩
  refine sem_of_awp (Γ := tbl tabN) tabN_ok _ _ _ ?_
  have bail : ∀ s own, s.getD 6 .top = .dat (.int .i64 (findV sz ws f on)) → post Tryd.prog Tryd.f23 (.dat (.int .i64 (findV sz ws f on))) [] [] .ret ⟨s, own, 0, []⟩ := fun s own h => post_data (.inl rfl) [6] rfl trivial (by simp only [tmpsOf, resV, h])
  simp only [go_sem, Tryd.ntmps23]
  refine call_data chkR (by simp) _ _ rfl ⟨sz, ws, rfl, ho, rfl⟩ (.inl rfl) ?_
  by_cases h0 : checkV sz ws = 0
  · obtain ⟨n, rfl, hf⟩ := checkV_zero ho h0
    have hn := hf.le; have hl := hf.len
    by_cases h1 : f < 0 ∨ (n : Int) ≤ f
    · have hv : findV n ws f on = -1 := by unfold findV; rw [if_pos (.inr h1)]
      rw [hv] at bail ⊢
      by_cases h2 : f < 0
      · simp only [go_sem, h0, h2, decide_true, Bool.not_true]
        exact bail _ _ (by rfl)
      · have h3 : (n : Int) ≤ f := by omega
        simp only [go_sem, h0, h2, h3, decide_true, decide_false, Bool.not_true]
        exact bail _ _ (by rfl)
    · have h2 : ¬ f < 0 := by omega
      have h3 : ¬ (n : Int) ≤ f := by omega
      obtain ⟨a, rfl⟩ : ∃ a : Nat, f = a := ⟨f.toNat, by omega⟩
      have hv : findV n ws a on = findFrom (fun i => bitAt ws i == on) a (n - a) := by unfold findV; rw [if_neg (by simp only [h0]; omega)]; rfl
      rw [hv] at bail ⊢
      simp only [go_sem, h0, h2, h3, decide_true, decide_false, Bool.not_true, tdiv64]
      refine ⟨inR_in (by omega), ?_⟩
      refine sem_loop (fun w : Nat => ⟨slotsOf 62 [(1, .dat (.int .i64 a)), (2, .dat (.bool on)), (3, .ptr 0 0 0), (6, .dat (.int .i64 0)), (7, .dat (.int .i64 w))], [.box [.dat (.int .i64 n), .dat (.sl none (us ws))]], 0, []⟩)
        (fun w => a / 64 ≤ w ∧ w ≤ ws.length ∧ ∀ j, a ≤ j → j < 64 * w → (bitAt ws j == on) = false) (fun w => ws.length - w) (a / 64) ⟨Nat.le_refl _, by omega, fun j h1 h2 => by omega⟩ ?_ ?_
      · exact le_slots' (by simp only [go_sem])
      · rintro w ⟨hw1, hw2, hw3⟩
        refine sem_of_awp (Γ := tbl tabN) tabN_ok _ _ _ ?_
        by_cases hw : (w : Int) < ws.length
        · have hw' : w < ws.length := by omega
          have hwo := ho.get w
          -- the word that is looked at
          have rest : ∀ x : Nat, x < 18446744073709551616 → (∀ j, j < 64 → x.testBit j = ((bitAt ws (64 * w + j) == on) && (decide (a / 64 < w) || decide (a % 64 ≤ j)))) →
              (x = 0 → ∀ j, a ≤ j → j < 64 * (w + 1) → (bitAt ws j == on) = false) ∧ (x ≠ 0 → ((64 * w + Lib.ctz 64 x < n → findFrom (fun i => bitAt ws i == on) a (n - a) = ((64 * w + Lib.ctz 64 x : Nat) : Int)) ∧ (¬ 64 * w + Lib.ctz 64 x < n → findFrom (fun i => bitAt ws i == on) a (n - a) = -1))) := by
            intro x hx hb
            have hbit : ∀ j, a ≤ j → 64 * w ≤ j → j < 64 * (w + 1) → x.testBit (j - 64 * w) = (bitAt ws j == on) := fun j q1 q2 q3 => by
              rw [hb _ (by omega), show 64 * w + (j - 64 * w) = j by omega]
              have : (decide (a / 64 < w) || decide (a % 64 ≤ j - 64 * w)) = true := by
                rcases Nat.lt_or_ge (a / 64) w with h | h
                · simp [h]
                · have : a % 64 ≤ j - 64 * w := by omega
                  simp [this]
              rw [this, Bool.and_true]
            refine ⟨fun e j q1 q2 => ?_, fun e => ?_⟩
            · by_cases q3 : j < 64 * w
              · exact hw3 j q1 q3
              · rw [← hbit j q1 (by omega) q2, e, Nat.zero_testBit]
            · obtain ⟨c1, c2, c3⟩ := ctz_spec hx e
              generalize Lib.ctz 64 x = c at *
              have hc := hb c c1
              rw [c2] at hc
              have hc1 : (bitAt ws (64 * w + c) == on) = true := by
                cases h : (bitAt ws (64 * w + c) == on)
                · rw [h] at hc; simp at hc
                · rfl
              have hc2 : a / 64 < w ∨ a % 64 ≤ c := by
                rw [hc1] at hc
                simpa using hc.symm
              have hlow : ∀ j, a ≤ j → j < 64 * w + c → (bitAt ws j == on) = false := fun j q1 q2 => by
                by_cases q3 : j < 64 * w
                · exact hw3 j q1 q3
                · rw [← hbit j q1 (by omega) (by omega)]
                  exact c3 _ (by omega)
              refine ⟨fun q => findFrom_hit (by omega) (by omega) hc1 hlow, fun q => findFrom_none fun j q1 q2 => hlow j q1 (by omega)⟩
          by_cases hfst : w = a / 64
          · cases on
            · subst hfst
              have hx0 : (2 ^ 64 - (ws.getD (a / 64) 0 + 1)) < 18446744073709551616 := by omega
              have hx : ((2 ^ 64 - (ws.getD (a / 64) 0 + 1)) &&& maskV (a % 64) 64) < 18446744073709551616 := Nat.lt_of_le_of_lt Nat.and_le_left hx0
              have hb0 : ∀ j, j < 64 → ((2 ^ 64 - (ws.getD (a / 64) 0 + 1))).testBit j = (bitAt ws (64 * (a / 64) + j) == false) := fun j hj => by rw [not_bit hwo, bit_word _ _ _ hj]; simp [hj]
              obtain ⟨r1, r2⟩ := rest _ hx (fun j hj => by rw [Nat.testBit_and, hb0 j hj, maskV_bit _ _ hj]; simp [hj])
              simp only [go_sem, List.length_map, hw, decide_true, nth_us hw', Int.natCast_nonneg, Int.toNat_natCast, Bool.not_false, Bool.not_true, true_and, tdiv64, tmod64, not_nat hwo]
              refine ⟨inR_in (by omega), inR_in (by omega), ?_⟩
              refine call_data maskR (by simp) _ _ rfl ⟨a % 64, 64, rfl, by omega, Nat.le_refl _, rfl⟩ (.inl rfl) ?_
              simp only [go_sem, bits_and hx0 (maskV_lt _ _)]
              generalize ((2 ^ 64 - (ws.getD (a / 64) 0 + 1)) &&& maskV (a % 64) 64) = x at hx r1 r2 ⊢
              have hc : Lib.ctz 64 x ≤ 64 := by
                by_cases e : x = 0
                · simp [Lib.ctz, e]
                · exact Nat.le_of_lt (ctz_spec hx e).1
              have hadd : ((a / 64 : Nat) : Int) * 64 + ((Lib.ctz 64 x : Nat) : Int) = ((64 * (a / 64) + Lib.ctz 64 x : Nat) : Int) := by omega
              refine ⟨inR_i64.2 (by omega), call_data tzR (by simp) _ _ rfl ⟨x, hx, rfl, rfl⟩ (.inl rfl) ?_⟩
              simp only [go_sem, hadd]
              refine ⟨inR_in (by omega), ?_⟩
              by_cases e : x = 0
              · have e' : (x : Int) = 0 := by omega
                simp only [go_sem, e', decide_true, Bool.not_true]
                exact ⟨inR_i64.2 (by omega), a / 64 + 1, ⟨by omega, by omega, fun j q1 q2 => r1 e j q1 q2⟩, by omega, le_slots' (by simp only [go_sem, Int.natCast_add, Int.cast_ofNat_Int])⟩
              · have e' : ¬ (x : Int) = 0 := by omega
                obtain ⟨g1, g2⟩ := r2 e
                by_cases q : 64 * (a / 64) + Lib.ctz 64 x < n
                · have q' : ((64 * (a / 64) + Lib.ctz 64 x : Nat) : Int) < (n : Int) := by omega
                  rw [g1 q] at bail ⊢
                  simp only [go_sem, e', q', decide_true, decide_false, Bool.not_false]
                  exact bail _ _ (by rfl)
                · have q' : ¬ ((64 * (a / 64) + Lib.ctz 64 x : Nat) : Int) < (n : Int) := by omega
                  rw [g2 q] at bail ⊢
                  simp only [go_sem, e', q', decide_true, decide_false, Bool.not_false]
                  exact bail _ _ (by rfl)
            · subst hfst
              have hx0 : ws.getD (a / 64) 0 < 18446744073709551616 := hwo
              have hx : (ws.getD (a / 64) 0 &&& maskV (a % 64) 64) < 18446744073709551616 := Nat.lt_of_le_of_lt Nat.and_le_left hx0
              have hb0 : ∀ j, j < 64 → (ws.getD (a / 64) 0).testBit j = (bitAt ws (64 * (a / 64) + j) == true) := fun j hj => by rw [bit_word _ _ _ hj]; simp
              obtain ⟨r1, r2⟩ := rest _ hx (fun j hj => by rw [Nat.testBit_and, hb0 j hj, maskV_bit _ _ hj]; simp [hj])
              simp only [go_sem, List.length_map, hw, decide_true, nth_us hw', Int.natCast_nonneg, Int.toNat_natCast, Bool.not_false, Bool.not_true, true_and, tdiv64, tmod64]
              refine ⟨inR_in (by omega), inR_in (by omega), ?_⟩
              refine call_data maskR (by simp) _ _ rfl ⟨a % 64, 64, rfl, by omega, Nat.le_refl _, rfl⟩ (.inl rfl) ?_
              simp only [go_sem, bits_and hx0 (maskV_lt _ _)]
              generalize (ws.getD (a / 64) 0 &&& maskV (a % 64) 64) = x at hx r1 r2 ⊢
              have hc : Lib.ctz 64 x ≤ 64 := by
                by_cases e : x = 0
                · simp [Lib.ctz, e]
                · exact Nat.le_of_lt (ctz_spec hx e).1
              have hadd : ((a / 64 : Nat) : Int) * 64 + ((Lib.ctz 64 x : Nat) : Int) = ((64 * (a / 64) + Lib.ctz 64 x : Nat) : Int) := by omega
              refine ⟨inR_i64.2 (by omega), call_data tzR (by simp) _ _ rfl ⟨x, hx, rfl, rfl⟩ (.inl rfl) ?_⟩
              simp only [go_sem, hadd]
              refine ⟨inR_in (by omega), ?_⟩
              by_cases e : x = 0
              · have e' : (x : Int) = 0 := by omega
                simp only [go_sem, e', decide_true, Bool.not_true]
                exact ⟨inR_i64.2 (by omega), a / 64 + 1, ⟨by omega, by omega, fun j q1 q2 => r1 e j q1 q2⟩, by omega, le_slots' (by simp only [go_sem, Int.natCast_add, Int.cast_ofNat_Int])⟩
              · have e' : ¬ (x : Int) = 0 := by omega
                obtain ⟨g1, g2⟩ := r2 e
                by_cases q : 64 * (a / 64) + Lib.ctz 64 x < n
                · have q' : ((64 * (a / 64) + Lib.ctz 64 x : Nat) : Int) < (n : Int) := by omega
                  rw [g1 q] at bail ⊢
                  simp only [go_sem, e', q', decide_true, decide_false, Bool.not_false]
                  exact bail _ _ (by rfl)
                · have q' : ¬ ((64 * (a / 64) + Lib.ctz 64 x : Nat) : Int) < (n : Int) := by omega
                  rw [g2 q] at bail ⊢
                  simp only [go_sem, e', q', decide_true, decide_false, Bool.not_false]
                  exact bail _ _ (by rfl)
          · cases on
            · have hfst' : ¬ (w : Int) = ((a / 64 : Nat) : Int) := by omega
              have hx0 : (2 ^ 64 - (ws.getD w 0 + 1)) < 18446744073709551616 := by omega
              have hx := hx0
              have hb0 : ∀ j, j < 64 → ((2 ^ 64 - (ws.getD w 0 + 1))).testBit j = (bitAt ws (64 * (w) + j) == false) := fun j hj => by rw [not_bit hwo, bit_word _ _ _ hj]; simp [hj]
              have hgt : a / 64 < w := by omega
              obtain ⟨r1, r2⟩ := rest _ hx (fun j hj => by rw [hb0 j hj]; simp [hgt])
              simp only [go_sem, List.length_map, hw, decide_true, nth_us hw', Int.natCast_nonneg, Int.toNat_natCast, Bool.not_false, Bool.not_true, true_and, tdiv64, tmod64, not_nat hwo, hfst', decide_false]
              generalize (2 ^ 64 - (ws.getD w 0 + 1)) = x at hx r1 r2 ⊢
              have hc : Lib.ctz 64 x ≤ 64 := by
                by_cases e : x = 0
                · simp [Lib.ctz, e]
                · exact Nat.le_of_lt (ctz_spec hx e).1
              have hadd : ((w : Nat) : Int) * 64 + ((Lib.ctz 64 x : Nat) : Int) = ((64 * (w) + Lib.ctz 64 x : Nat) : Int) := by omega
              refine ⟨inR_in (by omega), inR_i64.2 (by omega), call_data tzR (by simp) _ _ rfl ⟨x, hx, rfl, rfl⟩ (.inl rfl) ?_⟩
              simp only [go_sem, hadd]
              refine ⟨inR_in (by omega), ?_⟩
              by_cases e : x = 0
              · have e' : (x : Int) = 0 := by omega
                simp only [go_sem, e', decide_true, Bool.not_true]
                exact ⟨inR_i64.2 (by omega), w + 1, ⟨by omega, by omega, fun j q1 q2 => r1 e j q1 q2⟩, by omega, le_slots' (by simp only [go_sem, Int.natCast_add, Int.cast_ofNat_Int])⟩
              · have e' : ¬ (x : Int) = 0 := by omega
                obtain ⟨g1, g2⟩ := r2 e
                by_cases q : 64 * (w) + Lib.ctz 64 x < n
                · have q' : ((64 * (w) + Lib.ctz 64 x : Nat) : Int) < (n : Int) := by omega
                  rw [g1 q] at bail ⊢
                  simp only [go_sem, e', q', decide_true, decide_false, Bool.not_false]
                  exact bail _ _ (by rfl)
                · have q' : ¬ ((64 * (w) + Lib.ctz 64 x : Nat) : Int) < (n : Int) := by omega
                  rw [g2 q] at bail ⊢
                  simp only [go_sem, e', q', decide_true, decide_false, Bool.not_false]
                  exact bail _ _ (by rfl)
            · have hfst' : ¬ (w : Int) = ((a / 64 : Nat) : Int) := by omega
              have hx0 : ws.getD w 0 < 18446744073709551616 := hwo
              have hx := hx0
              have hb0 : ∀ j, j < 64 → (ws.getD w 0).testBit j = (bitAt ws (64 * (w) + j) == true) := fun j hj => by rw [bit_word _ _ _ hj]; simp
              have hgt : a / 64 < w := by omega
              obtain ⟨r1, r2⟩ := rest _ hx (fun j hj => by rw [hb0 j hj]; simp [hgt])
              simp only [go_sem, List.length_map, hw, decide_true, nth_us hw', Int.natCast_nonneg, Int.toNat_natCast, Bool.not_false, Bool.not_true, true_and, tdiv64, tmod64, hfst', decide_false]
              generalize ws.getD w 0 = x at hx r1 r2 ⊢
              have hc : Lib.ctz 64 x ≤ 64 := by
                by_cases e : x = 0
                · simp [Lib.ctz, e]
                · exact Nat.le_of_lt (ctz_spec hx e).1
              have hadd : ((w : Nat) : Int) * 64 + ((Lib.ctz 64 x : Nat) : Int) = ((64 * (w) + Lib.ctz 64 x : Nat) : Int) := by omega
              refine ⟨inR_in (by omega), inR_i64.2 (by omega), call_data tzR (by simp) _ _ rfl ⟨x, hx, rfl, rfl⟩ (.inl rfl) ?_⟩
              simp only [go_sem, hadd]
              refine ⟨inR_in (by omega), ?_⟩
              by_cases e : x = 0
              · have e' : (x : Int) = 0 := by omega
                simp only [go_sem, e', decide_true, Bool.not_true]
                exact ⟨inR_i64.2 (by omega), w + 1, ⟨by omega, by omega, fun j q1 q2 => r1 e j q1 q2⟩, by omega, le_slots' (by simp only [go_sem, Int.natCast_add, Int.cast_ofNat_Int])⟩
              · have e' : ¬ (x : Int) = 0 := by omega
                obtain ⟨g1, g2⟩ := r2 e
                by_cases q : 64 * (w) + Lib.ctz 64 x < n
                · have q' : ((64 * (w) + Lib.ctz 64 x : Nat) : Int) < (n : Int) := by omega
                  rw [g1 q] at bail ⊢
                  simp only [go_sem, e', q', decide_true, decide_false, Bool.not_false]
                  exact bail _ _ (by rfl)
                · have q' : ¬ ((64 * (w) + Lib.ctz 64 x : Nat) : Int) < (n : Int) := by omega
                  rw [g2 q] at bail ⊢
                  simp only [go_sem, e', q', decide_true, decide_false, Bool.not_false]
                  exact bail _ _ (by rfl)
        · have hw' : w = ws.length := by omega
          subst hw'
          simp only [go_sem, List.length_map, hw, decide_false]
          rw [findFrom_none (fun j q1 q2 => hw3 j q1 (by omega))] at bail ⊢
          exact bail _ _ (by rfl)
  · have hv : findV sz ws f on = -1 := by unfold findV; rw [if_pos (.inl h0)]
    rw [hv] at bail ⊢
    simp only [go_sem, h0, decide_false, Bool.not_false]
    exact bail _ _ (by rfl)
end Go.AM

namespace Go.AM
open Go Go.Proofs

/-! FindRun. -/
/-- All of c bits from a on are alike. -/
def allB (ws : List Nat) (on : Bool) (a c : Nat) : Bool := decide (∀ i, i < c → (bitAt ws (a + i) == on) = true)
theorem allB_false {ws : List Nat} {on : Bool} {a c i : Nat} (hi : i < c) (h : (bitAt ws (a + i) == on) = false) : allB ws on a c = false := by
  unfold allB
  rw [decide_eq_false_iff_not]
  intro hall
  rw [hall i hi] at h
  cases h
theorem allB_true {ws : List Nat} {on : Bool} {a c : Nat} (h : ∀ i, i < c → (bitAt ws (a + i) == on) = true) : allB ws on a c = true := by
  unfold allB
  rw [decide_eq_true_iff]; exact h
noncomputable def fRunV (sz : Int) (ws : List Nat) (c al : Int) (on : Bool) : Int :=
  if checkV sz ws ≠ 0 ∨ c < 1 ∨ al < 1 ∨ sz < c then -1 else findFrom (fun p => decide (p % al.toNat = 0) && allB ws on p c.toNat) 0 (sz.toNat - c.toNat + 1)
def fRunR (ds : List D) (v : AV) : Prop := ∃ sz ws c al on, ds = [bitsD sz ws, .int .i64 c, .int .i64 al, .bool on] ∧ Ok64 ws ∧ v = .dat (.int .i64 (fRunV sz ws c al on))

/-! ref.run. -/
def runR (ds : List D) (v : AV) : Prop := ∃ (sz : Int) (ws : List Nat) (a c : Nat) (on : Bool), ds = [bitsD sz ws, .int .i64 a, .int .i64 c, .bool on] ∧ Ok64 ws ∧ ws.length ≤ 64 ∧ a + c ≤ 64 * ws.length ∧ v = .dat (.bool (allB ws on a c))
theorem run_ok : OkF Tryd.prog 41 (dataC runR) := by
  refine okF_data Tryd.func41 rfl (by decide) ?_
  rintro ds v ⟨sz, ws, a, c, on, rfl, ho, hl, hac, rfl⟩
  refine sem_of_awp (Γ := tbl tabB) tabB_ok _ _ _ ?_
  generalize hr : allB ws on a c = r
  have bail : ∀ s own, s.getD 8 .top = .dat (.bool r) → post Tryd.prog Tryd.f41 (.dat (.bool r)) [] [] .ret ⟨s, own, 0, []⟩ := fun s own h => post_data (.inl rfl) [8] rfl trivial (by simp only [tmpsOf, resV, h])
  simp only [go_sem, Tryd.ntmps41]
  refine sem_loop (fun k : Nat => ⟨slotsOf 23 [(1, .dat (.int .i64 a)), (2, .dat (.int .i64 c)), (3, .dat (.bool on)), (4, .ptr 0 0 0), (8, .dat (.bool false)), (9, .dat (.int .i64 k))], [.box [.dat (.int .i64 sz), .dat (.sl none (us ws))]], 0, []⟩)
    (fun k => a ≤ k ∧ k ≤ a + c ∧ ∀ j, j < k - a → (bitAt ws (a + j) == on) = true) (fun k => a + c - k) a ⟨Nat.le_refl _, by omega, fun j h => by omega⟩ ?_ ?_
  · exact le_slots' (by simp only [go_sem])
  · rintro k ⟨hk1, hk2, hk3⟩
    refine sem_of_awp (Γ := tbl tabB) tabB_ok _ _ _ ?_
    by_cases hk : (k : Int) < (a : Int) + c
    · simp only [go_sem, hk, decide_true]
      refine ⟨inR_i64.2 (by omega), ?_⟩
      refine call_data bitR (by simp) _ _ rfl ⟨sz, ws, k, rfl, ho, by omega, by omega, rfl⟩ (.inl rfl) ?_
      cases hb : (bitAt ws k == on)
      · simp only [go_sem, hb, Bool.not_false]
        have : r = false := by rw [← hr]; exact allB_false (i := k - a) (by omega) (by rw [show a + (k - a) = k by omega]; exact hb)
        subst this
        exact bail _ _ (by rfl)
      · simp only [go_sem, hb, Bool.not_true]
        refine ⟨inR_i64.2 (by omega), k + 1, ⟨by omega, by omega, fun j h => ?_⟩, by omega, le_slots' (by simp only [go_sem, Int.natCast_add, Int.cast_ofNat_Int])⟩
        by_cases e : j = k - a
        · subst e; rw [show a + (k - a) = k by omega]; exact hb
        · exact hk3 j (by omega)
    · have : k = a + c := by omega
      subst this
      simp only [go_sem, hk, decide_false]
      refine ⟨inR_i64.2 (by omega), ?_⟩
      have : r = true := by rw [← hr]; exact allB_true fun i hi => hk3 i (by omega)
      subst this
      exact bail _ _ (by rfl)

abbrev tabR : List (Nat × Contract) := [(15, dataC chkR), (41, dataC runR)]
theorem tabR_ok : OkG Tryd.prog (tbl tabR) := okG_cons rcheck_ok (okG_cons run_ok okG_nil)
theorem tmod_nat (a b : Nat) : (a : Int).tmod (b : Int) = ((a % b : Nat) : Int) := rfl

theorem rfindRun_ok : OkF Tryd.prog 25 (dataC fRunR) := by
  refine okF_data Tryd.func25 rfl (by decide) ?_
  rintro ds v ⟨sz, ws, c, al, on, rfl, ho, rfl⟩
  refine sem_of_awp (Γ := tbl tabR) tabR_ok _ _ _ ?_
  have bail : ∀ s own, s.getD 8 .top = .dat (.int .i64 (fRunV sz ws c al on)) → post Tryd.prog Tryd.f25 (.dat (.int .i64 (fRunV sz ws c al on))) [] [] .ret ⟨s, own, 0, []⟩ := fun s own h => post_data (.inl rfl) [8] rfl trivial (by simp only [tmpsOf, resV, h])
  simp only [go_sem, Tryd.ntmps25]
  refine call_data chkR (by simp) _ _ rfl ⟨sz, ws, rfl, ho, rfl⟩ (.inl rfl) ?_
  by_cases h0 : checkV sz ws = 0
  · obtain ⟨n, rfl, hf⟩ := checkV_zero ho h0
    have hn := hf.le; have hl := hf.len
    by_cases h1 : c < 1 ∨ al < 1 ∨ (n : Int) < c
    · have hv : fRunV n ws c al on = -1 := by unfold fRunV; rw [if_pos (.inr h1)]
      rw [hv] at bail ⊢
      by_cases h2 : c < 1
      · simp only [go_sem, h0, h2, decide_true, Bool.not_true]
        exact bail _ _ (by rfl)
      · by_cases h3 : al < 1
        · simp only [go_sem, h0, h2, h3, decide_true, decide_false, Bool.not_true]
          exact bail _ _ (by rfl)
        · have h4 : (n : Int) < c := by omega
          simp only [go_sem, h0, h2, h3, h4, decide_true, decide_false, Bool.not_true]
          exact bail _ _ (by rfl)
    · have h2 : ¬ c < 1 := by omega
      have h3 : ¬ al < 1 := by omega
      have h4 : ¬ (n : Int) < c := by omega
      obtain ⟨m, rfl⟩ : ∃ m : Nat, c = m := ⟨c.toNat, by omega⟩
      obtain ⟨q, rfl⟩ : ∃ q : Nat, al = q := ⟨al.toNat, by omega⟩
      have hv : fRunV n ws m q on = findFrom (fun p => decide (p % q = 0) && allB ws on p m) 0 (n - m + 1) := by unfold fRunV; rw [if_neg (by simp only [h0]; omega)]; rfl
      rw [hv] at bail ⊢
      simp only [go_sem, h0, h2, h3, h4, decide_true, decide_false, Bool.not_true]
      refine sem_loop (fun k : Nat => ⟨slotsOf 47 [(1, .dat (.int .i64 m)), (2, .dat (.int .i64 q)), (3, .dat (.bool on)), (4, .ptr 0 0 0), (8, .dat (.int .i64 0)), (9, .dat (.int .i64 k))], [.box [.dat (.int .i64 n), .dat (.sl none (us ws))]], 0, []⟩)
        (fun k => k ≤ n - m + 1 ∧ ∀ j, j < k → (decide (j % q = 0) && allB ws on j m) = false) (fun k => n - m + 1 - k) 0 ⟨Nat.zero_le _, fun j h => by omega⟩ ?_ ?_
      · exact le_slots' (by simp only [go_sem, Int.natCast_zero])
      · rintro k ⟨hk1, hk2⟩
        refine sem_of_awp (Γ := tbl tabR) tabR_ok _ _ _ ?_
        by_cases hk : (k : Int) ≤ (n : Int) - m
        · have hq : (q : Int) ≠ 0 := by omega
          simp only [go_sem, hk, decide_true, tmod_nat]
          refine ⟨inR_i64.2 (by omega), hq, inR_in (by have := Nat.mod_lt k (show 0 < q by omega); have := Nat.mod_le k q; omega), ?_⟩
          by_cases hm : k % q = 0
          · have hm' : ((k % q : Nat) : Int) = 0 := by omega
            simp only [go_sem, hm', decide_true]
            refine call_data runR (by simp) _ _ rfl ⟨n, ws, k, m, on, rfl, ho, by omega, by omega, rfl⟩ (.inl rfl) ?_
            cases hb : allB ws on k m
            · simp only [go_sem]
              refine ⟨inR_i64.2 (by omega), k + 1, ⟨by omega, fun j h => ?_⟩, by omega, le_slots' (by simp only [go_sem, Int.natCast_add, Int.cast_ofNat_Int])⟩
              by_cases e : j = k
              · subst e; simp [hb]
              · exact hk2 j (by omega)
            · simp only [go_sem]
              rw [findFrom_hit (Nat.zero_le k) (by omega) (by simp [hm, hb]) (fun j _ h => hk2 j h)] at bail ⊢
              exact bail _ _ (by rfl)
          · have hm' : ¬ ((k % q : Nat) : Int) = 0 := by omega
            simp only [go_sem, hm', decide_false]
            refine ⟨inR_i64.2 (by omega), k + 1, ⟨by omega, fun j h => ?_⟩, by omega, le_slots' (by simp only [go_sem, Int.natCast_add, Int.cast_ofNat_Int])⟩
            by_cases e : j = k
            · subst e; simp [hm]
            · exact hk2 j (by omega)
        · have : k = n - m + 1 := by omega
          subst this
          simp only [go_sem, hk, decide_false]
          refine ⟨inR_i64.2 (by omega), ?_⟩
          rw [findFrom_none (fun j _ h => hk2 j (by omega))] at bail ⊢
          exact bail _ _ (by rfl)
  · have hv : fRunV sz ws c al on = -1 := by unfold fRunV; rw [if_pos (.inl h0)]
    rw [hv] at bail ⊢
    simp only [go_sem, h0, decide_false, Bool.not_false]
    exact bail _ _ (by rfl)
end Go.AM

namespace Go.AM
open Go Go.Proofs

theorem gap {j k q : Nat} (h1 : k % q = 0) (h2 : j % q = 0) (h3 : k < j) : k + q ≤ j := by
  have e1 := Nat.div_add_mod k q
  have e2 := Nat.div_add_mod j q
  rw [h1] at e1
  rw [h2] at e2
  have : k / q < j / q := by
    rcases Nat.lt_or_ge (k / q) (j / q) with h | h
    · exact h
    · have := Nat.mul_le_mul_left q h
      omega
  have h4 := Nat.mul_le_mul_left q this
  rw [Nat.mul_succ] at h4
  omega
theorem findRun_ok : OkF Tryd.prog 24 (dataC fRunR) := by
  refine okF_data Tryd.func24 rfl (by decide) ?_
  rintro ds v ⟨sz, ws, c, al, on, rfl, ho, rfl⟩
  refine sem_of_awp (Γ := tbl tabG) tabG_ok _ _ _ ?_
  have bail : ∀ s own, s.getD 8 .top = .dat (.int .i64 (fRunV sz ws c al on)) → post Tryd.prog Tryd.f24 (.dat (.int .i64 (fRunV sz ws c al on))) [] [] .ret ⟨s, own, 0, []⟩ := fun s own h => post_data (.inl rfl) [8] rfl trivial (by simp only [tmpsOf, resV, h])
  simp only [go_sem, Tryd.ntmps24]
  refine sem_scope ?_
  refine sem_of_awp (Γ := tbl tabG) tabG_ok _ _ _ ?_
  simp only [go_sem]
  refine call_data chkR (by simp) _ _ rfl ⟨sz, ws, rfl, ho, rfl⟩ (.inl rfl) ?_
  by_cases h0 : checkV sz ws = 0
  · obtain ⟨n, rfl, hf⟩ := checkV_zero ho h0
    have hn := hf.le; have hl := hf.len
    by_cases h1 : c < 1 ∨ al < 1 ∨ (n : Int) < c
    · have hv : fRunV n ws c al on = -1 := by unfold fRunV; rw [if_pos (.inr h1)]
      rw [hv] at bail ⊢
      by_cases h2 : c < 1
      · simp only [go_sem, h0, h2, decide_true, Bool.not_true]
        exact bail _ _ (by rfl)
      · by_cases h3 : al < 1
        · simp only [go_sem, h0, h2, h3, decide_true, decide_false, Bool.not_true]
          exact bail _ _ (by rfl)
        · have h4 : (n : Int) < c := by omega
          simp only [go_sem, h0, h2, h3, h4, decide_true, decide_false, Bool.not_true]
          exact bail _ _ (by rfl)
    · have h2 : ¬ c < 1 := by omega
      have h3 : ¬ al < 1 := by omega
      have h4 : ¬ (n : Int) < c := by omega
      obtain ⟨m, rfl⟩ : ∃ m : Nat, c = m := ⟨c.toNat, by omega⟩
      obtain ⟨q, rfl⟩ : ∃ q : Nat, al = q := ⟨al.toNat, by omega⟩
      have hv : fRunV n ws m q on = findFrom (fun p => decide (p % q = 0) && allB ws on p m) 0 (n - m + 1) := by unfold fRunV; rw [if_neg (by simp only [h0]; omega)]; rfl
      rw [hv] at bail ⊢
      simp only [go_sem, h0, h2, h3, h4, decide_true, decide_false, Bool.not_true]
      refine sem_loop (fun k : Nat => ⟨slotsOf 57 [(1, .dat (.int .i64 m)), (2, .dat (.int .i64 q)), (3, .dat (.bool on)), (4, .ptr 0 0 0), (8, .dat (.int .i64 0)), (9, .dat (.int .i64 k))], [.box [.dat (.int .i64 n), .dat (.sl none (us ws))]], 0, []⟩)
        (fun k => k ≤ n ∧ k % q = 0 ∧ ∀ j, j < k → (decide (j % q = 0) && allB ws on j m) = false) (fun k => n - k) 0 ⟨Nat.zero_le _, Nat.zero_mod _, fun j h => by omega⟩ ?_ ?_
      · exact le_slots' (by simp only [go_sem, Int.natCast_zero])
      · rintro k ⟨hk1, hk0, hk2⟩
        refine sem_of_awp (Γ := tbl tabG) tabG_ok _ _ _ ?_
        by_cases hk : (k : Int) ≤ (n : Int) - m
        · simp only [go_sem, hk, decide_true]
          refine ⟨inR_i64.2 (by omega), ?_⟩
          refine sem_loop (fun i : Nat => ⟨slotsOf 57 [(1, .dat (.int .i64 m)), (2, .dat (.int .i64 q)), (3, .dat (.bool on)), (4, .ptr 0 0 0), (8, .dat (.int .i64 0)), (9, .dat (.int .i64 k)), (10, .dat (.int .i64 i))], [.box [.dat (.int .i64 n), .dat (.sl none (us ws))]], 0, []⟩)
            (fun i => k ≤ i ∧ i ≤ k + m ∧ ∀ j, j < i - k → (bitAt ws (k + j) == on) = true) (fun i => k + m - i) k ⟨Nat.le_refl _, by omega, fun j h => by omega⟩ ?_ ?_
          · exact le_slots' (by simp only [go_sem])
          · rintro i ⟨hi1, hi2, hi3⟩
            refine sem_of_awp (Γ := tbl tabG) tabG_ok _ _ _ ?_
            by_cases hi : (i : Int) < (k : Int) + m
            · simp only [go_sem, hi, decide_true]
              refine ⟨inR_i64.2 (by omega), ?_⟩
              refine call_data bitR (by simp) _ _ rfl ⟨n, ws, i, rfl, ho, by omega, by omega, rfl⟩ (.inl rfl) ?_
              cases hb : (bitAt ws i == on)
              · have hP : allB ws on k m = false := allB_false (i := i - k) (by omega) (by rw [show k + (i - k) = i by omega]; exact hb)
                simp only [go_sem, hb]
                refine ⟨inR_i64.2 (by omega), ?_⟩
                by_cases ha : (n : Int) - k < q
                · simp only [go_sem, ha, decide_true]
                  rw [findFrom_none (fun j _ h => by
                    rcases Nat.lt_trichotomy j k with h' | h' | h'
                    · exact hk2 j h'
                    · subst h'; simp [hP]
                    · have : ¬ j % q = 0 := fun e => by have := gap hk0 e h'; omega
                      simp [this])] at bail ⊢
                  exact bail _ _ (by rfl)
                · simp only [go_sem, ha, decide_false]
                  refine ⟨inR_i64.2 (by omega), k + q, ⟨by omega, by rw [Nat.add_mod_right]; exact hk0, fun j h => ?_⟩, by omega, le_slots' (by simp only [go_sem, Int.natCast_add])⟩
                  rcases Nat.lt_trichotomy j k with h' | h' | h'
                  · exact hk2 j h'
                  · subst h'; simp [hP]
                  · have : ¬ j % q = 0 := fun e => by have := gap hk0 e h'; omega
                    simp [this]
              · simp only [go_sem, hb]
                refine ⟨inR_i64.2 (by omega), i + 1, ⟨by omega, by omega, fun j h => ?_⟩, by omega, le_slots' (by simp only [go_sem, Int.natCast_add, Int.cast_ofNat_Int])⟩
                by_cases e : j = i - k
                · subst e; rw [show k + (i - k) = i by omega]; exact hb
                · exact hi3 j (by omega)
            · have : i = k + m := by omega
              subst this
              simp only [go_sem, hi, decide_false]
              refine ⟨inR_i64.2 (by omega), ?_⟩
              have hb := allB_true (on := on) (ws := ws) (a := k) (c := m) (fun i hi => hi3 i (by omega))
              rw [findFrom_hit (Nat.zero_le k) (by omega) (by simp [hk0, hb]) (fun j _ h => hk2 j h)] at bail ⊢
              exact bail _ _ (by rfl)
        · simp only [go_sem, hk, decide_false]
          refine ⟨inR_i64.2 (by omega), ?_⟩
          rw [findFrom_none (fun j _ h => hk2 j (by omega))] at bail ⊢
          exact bail _ _ (by rfl)
  · have hv : fRunV sz ws c al on = -1 := by unfold fRunV; rw [if_pos (.inl h0)]
    rw [hv] at bail ⊢
    simp only [go_sem, h0, decide_false, Bool.not_false]
    exact bail _ _ (by rfl)
end Go.AM

