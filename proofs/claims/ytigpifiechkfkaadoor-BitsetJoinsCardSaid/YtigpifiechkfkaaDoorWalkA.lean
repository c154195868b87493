/- Own work over the model of the kit. -/
import Derived.Test.YtigpifiechkfkaaDoorTypes
import Derived.Test.YtigpifiechkfkaaDoorLibH
import Derived.Test.YtigpifiechkfkaaDoorBits
set_option linter.unusedSimpArgs false
set_option linter.unusedVariables false
namespace Go.AM
open Go Go.Proofs

abbrev us (ws : List Nat) : List D := ws.map fun w : Nat => D.int .u64 (w : Int)
abbrev bitsD (sz : Int) (ws : List Nat) : D := .agg [.int .i64 sz, .sl none (us ws)]

theorem nth_us {ws : List Nat} {k : Nat} (h : k < ws.length) : D.nth (us ws) k = .int .u64 ((ws.getD k 0 : Nat) : Int) := D.nth_map h

def wordsR (ds : List D) (v : AV) : Prop := ∃ n : Nat, ds = [.int .i64 n] ∧ n ≤ 4096 ∧ v = .dat (.int .i64 (((n + 63) / 64 : Nat) : Int))
theorem tdiv64 (n : Nat) : (n : Int).tdiv 64 = ((n / 64 : Nat) : Int) := rfl
theorem tmod64 (n : Nat) : (n : Int).tmod 64 = ((n % 64 : Nat) : Int) := rfl

theorem words_ok : OkF Tryd.prog 33 (dataC wordsR) := by
  refine okF_data Tryd.func33 rfl (by decide) ?_
  rintro ds v ⟨n, rfl, hn, rfl⟩
  refine sem_of_awp (Γ := tbl []) okG_nil _ _ _ ?_
  simp (contextual := true) only [go_sem, Tryd.ntmps33]
  have e : ((n : Int) + 63).tdiv 64 = (((n + 63) / 64 : Nat) : Int) := by
    rw [← tdiv64]; rfl
  rw [e]
  refine ⟨inR_i64.2 (by omega), inR_i64.2 (by omega), ?_⟩
  exact post_data (.inl rfl) [2] rfl trivial (by simp [tmpsOf, resV])

def bitR (ds : List D) (v : AV) : Prop := ∃ (sz : Int) (ws : List Nat) (i : Nat), ds = [bitsD sz ws, .int .i64 i] ∧ Ok64 ws ∧ i < 64 * ws.length ∧ i < 9223372036854775808 ∧ v = .dat (.bool (bitAt ws i))


theorem get_ok : OkF Tryd.prog 37 (dataC bitR) := by
  refine okF_data Tryd.func37 rfl (by decide) ?_
  rintro ds v ⟨sz, ws, i, rfl, ho, hi, hi2, rfl⟩
  refine sem_of_awp (Γ := tbl []) okG_nil _ _ _ ?_
  have hk : i / 64 < ws.length := by omega
  have hk' : ((i / 64 : Nat) : Int) < ws.length := by omega
  have hw := ho.get (i / 64)
  have hr := inR_un (shr_lt (i % 64) hw)
  have hone := one_bit (i % 64) hw
  rw [shr_nat _ hw] at hone
  simp only [go_sem, Tryd.ntmps37, tdiv64, tmod64, nth_us hk, hk', Int.natCast_nonneg, List.length_map, true_and, Int.toNat_natCast, shr_nat _ hw, hr, hone]
  refine ⟨inR_in (by omega), inR_in (by omega), ?_⟩
  exact post_data (.inl rfl) [4] rfl trivial (by simp [tmpsOf, resV, bitAt])

theorem bit_ok : OkF Tryd.prog 34 (dataC bitR) := by
  refine okF_data Tryd.func34 rfl (by decide) ?_
  rintro ds v ⟨sz, ws, i, rfl, ho, hi, hi2, rfl⟩
  refine sem_of_awp (Γ := tbl []) okG_nil _ _ _ ?_
  have hk : i / 64 < ws.length := by omega
  have hk' : ((i / 64 : Nat) : Int) < ws.length := by omega
  have hw := ho.get (i / 64)
  have hr := inR_un (shr_lt (i % 64) hw)
  have hone := one_bit (i % 64) hw
  rw [shr_nat _ hw] at hone
  have hc : IntKind.u64.wrap ((i % 64 : Nat) : Int) = ((i % 64 : Nat) : Int) := by rw [wrap_u64']; omega
  simp only [go_sem, Tryd.ntmps34, tdiv64, tmod64, nth_us hk, hk', Int.natCast_nonneg, List.length_map, true_and, Int.toNat_natCast, shr_nat _ hw, hr, hone, hc]
  refine ⟨inR_in (by omega), inR_in (by omega), ?_⟩
  exact post_data (.inl rfl) [4] rfl trivial (by simp [tmpsOf, resV, bitAt])

def maskR (ds : List D) (v : AV) : Prop := ∃ lo hi : Nat, ds = [.int .i64 lo, .int .i64 hi] ∧ lo ≤ 64 ∧ hi ≤ 64 ∧ v = .dat (.int .u64 (maskV lo hi : Nat))
theorem mask_ok : OkF Tryd.prog 39 (dataC maskR) := by
  refine okF_data Tryd.func39 rfl (by decide) ?_
  rintro ds v ⟨lo, hi, rfl, hlo, hhi, rfl⟩
  refine sem_of_awp (Γ := tbl []) okG_nil _ _ _ ?_
  have e1 : shlV .u64 18446744073709551615 (lo : Int) = ((maskV lo 64 : Nat) : Int) := by
    have := shl_nat (a := 18446744073709551615) lo (by decide)
    rw [mask_high lo hlo] at this
    exact this
  simp (contextual := true) only [go_sem, Tryd.ntmps39, Int.natCast_nonneg, e1, true_and]
  refine ⟨fun h => ?_, fun h => ?_⟩
  · have h' : hi < 64 := by omega
    have e2 : IntKind.u64.wrap (shlV .u64 1 (hi : Int) - 1) = ((maskV 0 hi : Nat) : Int) := by
      have := shl_nat (a := 1) hi (by decide)
      rw [show (1 : Int) = ((1 : Nat) : Int) from rfl, this, ← mask_low hi h', wrap_u64', Nat.min_eq_left hhi, Nat.one_mul]
      have h2 : 2 ^ hi ≤ 2 ^ 63 := Nat.pow_le_pow_right (by decide) (by omega)
      have h3 : 0 < 2 ^ hi := Nat.two_pow_pos hi
      omega
    simp only [e2, bits_and (maskV_lt _ _) (maskV_lt _ _), mask_both]
    exact post_data (.inl rfl) [4] rfl trivial (by simp [tmpsOf, resV])
  · have h' : hi = 64 := by omega
    subst h'
    exact post_data (.inl rfl) [4] rfl trivial (by simp [tmpsOf, resV])
end Go.AM

namespace Go.AM
open Go Go.Proofs

theorem mixed : Tryd.prog.follows .mixedOrders = true := by kernel_rfl
theorem noMk {Γ : Nat → Contract} : MakeFns Γ [] := fun g _ _ _ _ _ h => by rcases h with h | h <;> cases h

/-- The bits that are not used, of which one is 1. -/
def Bad (n : Nat) (ws : List Nat) : Prop := ∃ i, n ≤ i ∧ i < 64 * ws.length ∧ bitAt ws i = true
open Classical in
noncomputable def checkV (sz : Int) (ws : List Nat) : Int :=
  if sz < 0 ∨ 4096 < sz then 2 else if (ws.length : Int) ≠ (((sz.toNat + 63) / 64 : Nat) : Int) then 3 else if Bad sz.toNat ws then 3 else 0
def chkR (ds : List D) (v : AV) : Prop := ∃ sz ws, ds = [bitsD sz ws] ∧ Ok64 ws ∧ v = .dat (.int .i64 (checkV sz ws))

theorem checkV_out {sz : Int} {ws : List Nat} (h : sz < 0 ∨ 4096 < sz) : checkV sz ws = 2 := by unfold checkV; rw [if_pos h]
theorem checkV_len {sz : Int} {ws : List Nat} (h : ¬ (sz < 0 ∨ 4096 < sz)) (h2 : (ws.length : Int) ≠ (((sz.toNat + 63) / 64 : Nat) : Int)) : checkV sz ws = 3 := by unfold checkV; rw [if_neg h, if_pos h2]
theorem checkV_bad {sz : Int} {ws : List Nat} (h : ¬ (sz < 0 ∨ 4096 < sz)) (h3 : Bad sz.toNat ws) : checkV sz ws = 3 := by unfold checkV; rw [if_neg h]; split <;> first | rfl | rw [if_pos h3]
theorem checkV_ok {sz : Int} {ws : List Nat} (h : ¬ (sz < 0 ∨ 4096 < sz)) (h2 : ¬ (ws.length : Int) ≠ (((sz.toNat + 63) / 64 : Nat) : Int)) (h3 : ¬ Bad sz.toNat ws) : checkV sz ws = 0 := by unfold checkV; rw [if_neg h, if_neg h2, if_neg h3]
/-- A valid set. -/
structure Fine (n : Nat) (ws : List Nat) : Prop where
  le : n ≤ 4096
  len : ws.length = (n + 63) / 64
  ok : Ok64 ws
  bits : ∀ i, n ≤ i → bitAt ws i = false
theorem checkV_zero {sz : Int} {ws : List Nat} (ho : Ok64 ws) (h : checkV sz ws = 0) : ∃ n : Nat, sz = n ∧ Fine n ws := by
  unfold checkV at h
  split at h
  · cases h
  · split at h
    · cases h
    · split at h
      · cases h
      · rename_i h1 h2 h3
        refine ⟨sz.toNat, by omega, by omega, by omega, ho, fun i hi => ?_⟩
        by_cases hl : i < 64 * ws.length
        · cases hb : bitAt ws i
          · rfl
          · exact (h3 ⟨i, hi, hl, hb⟩).elim
        · unfold bitAt
          rw [List.getD_eq_getElem?_getD, List.getElem?_eq_none (by omega)]
          simp
theorem Fine.zero {n : Nat} {ws : List Nat} (h : Fine n ws) : checkV (n : Int) ws = 0 := by
  have h1 := h.le; have h2 := h.len
  refine checkV_ok (by omega) (by rw [Int.toNat_natCast]; omega) ?_
  rintro ⟨i, hi, _, hb⟩
  rw [h.bits i (by omega)] at hb
  cases hb

/-- The last word, shifted. -/
theorem last_bad {n : Nat} {ws : List Nat} (ho : Ok64 ws) (hl : ws.length = (n + 63) / 64) : Bad n ws ↔ 0 < n % 64 ∧ (ws.getD (ws.length - 1) 0) >>> (n % 64) ≠ 0 := by
  constructor
  · rintro ⟨i, h1, h2, h3⟩
    refine ⟨by omega, fun e => ?_⟩
    have hk : i / 64 = ws.length - 1 := by omega
    unfold bitAt at h3
    rw [hk] at h3
    have : ((ws.getD (ws.length - 1) 0) >>> (n % 64)).testBit (i % 64 - n % 64) = true := by
      rw [Nat.testBit_shiftRight, show n % 64 + (i % 64 - n % 64) = i % 64 by omega]
      exact h3
    rw [e] at this
    simp at this
  · rintro ⟨h1, h2⟩
    have : ∃ j, ((ws.getD (ws.length - 1) 0) >>> (n % 64)).testBit j = true := by
      apply Classical.byContradiction
      intro hne
      apply h2
      apply Nat.eq_of_testBit_eq
      intro j
      cases hj : ((ws.getD (ws.length - 1) 0) >>> (n % 64)).testBit j
      · simp
      · exact (hne ⟨j, hj⟩).elim
    obtain ⟨j, hj⟩ := this
    rw [Nat.testBit_shiftRight] at hj
    have hlt : n % 64 + j < 64 := by
      rcases Nat.lt_or_ge (n % 64 + j) 64 with h | h
      · exact h
      · rw [bit_out (ho.get _) h] at hj; cases hj
    refine ⟨64 * (ws.length - 1) + (n % 64 + j), by omega, by omega, ?_⟩
    rw [← bit_word ws _ _ hlt]
    exact hj

abbrev tabW : List (Nat × Contract) := [(33, dataC wordsR)]
theorem tabW_ok : OkG Tryd.prog (tbl tabW) := okG_cons words_ok okG_nil
theorem pureW : PureFns (tbl tabW) [33] := by
  rintro g args own v own' mv hg ⟨C, hm, hC⟩
  simp at hg
  subst hg
  simp at hm
  subst hm
  obtain ⟨_, _, _, h1, h2, _⟩ := hC
  exact ⟨h1, h2⟩

theorem check_ok : OkF Tryd.prog 14 (dataC chkR) := by
  refine okF_data Tryd.func14 rfl (by decide) ?_
  rintro ds v ⟨sz, ws, rfl, ho, rfl⟩
  refine sem_of_awp (Γ := tbl tabW) tabW_ok _ _ _ ?_
  have bail : ∀ s own, s.getD 2 .top = .dat (.int .i64 (checkV sz ws)) → post Tryd.prog Tryd.f14 (.dat (.int .i64 (checkV sz ws))) [] [] .ret ⟨s, own, 0, []⟩ := fun s own h => post_data (.inl rfl) [2] rfl trivial (by simp only [tmpsOf, resV, h])
  by_cases h0 : sz < 0 ∨ 4096 < sz
  · rw [checkV_out h0] at bail ⊢
    rcases h0 with h0 | h0
    · simp (contextual := true) only [go_sem, Tryd.ntmps14, h0, decide_true]
      exact bail _ _ (by simp)
    · have h1 : ¬ sz < 0 := by omega
      simp (contextual := true) only [go_sem, Tryd.ntmps14, h0, h1, decide_true, decide_false]
      exact bail _ _ (by simp)
  · have h1 : ¬ sz < 0 := by omega
    have h2 : ¬ 4096 < sz := by omega
    obtain ⟨n, rfl⟩ : ∃ n : Nat, sz = n := ⟨sz.toNat, by omega⟩
    simp (contextual := true) only [go_sem, Tryd.ntmps14, h1, h2, decide_false]
    refine sem_draw (pf := [33]) (Γ := tbl tabW) mixed tabW_ok pureW [0, 1, 2, 3, 4, 5, 6] (by kernel_rfl) ?_
    simp only [go_sem, chainI]
    refine call_data wordsR (by simp) _ _ rfl ⟨n, rfl, by omega, rfl⟩ (.inl rfl) ?_
    by_cases h3 : (ws.length : Int) ≠ (((n + 63) / 64 : Nat) : Int)
    · rw [checkV_len h0 (by simpa using h3)] at bail ⊢
      simp only [go_sem, List.length_map, h3, decide_false, decide_true, Bool.not_false]
      exact bail _ _ (by simp)
    · have hl : ws.length = (n + 63) / 64 := by omega
      have h4 : ¬ (ws.length : Int) ≠ ((((n : Int).toNat + 63) / 64 : Nat) : Int) := by simpa using h3
      have hbad := last_bad ho hl
      have h3' : ((ws.length : Int) = (((n + 63) / 64 : Nat) : Int)) := by omega
      simp only [go_sem, List.length_map, h3', decide_false, decide_true, Bool.not_true, tmod64]
      refine ⟨inR_in (by omega), ?_⟩
      by_cases h5 : 0 < n % 64
      · have hw := ho.get (ws.length - 1)
        have h6 : (0 : Int) < ((n % 64 : Nat) : Int) := by omega
        have hk : ws.length - 1 < ws.length := by omega
        have e1 : (((n + 63) / 64 : Nat) : Int) - 1 = ((ws.length - 1 : Nat) : Int) := by omega
        have e2 : ((ws.length - 1 : Nat) : Int) < (((n + 63) / 64 : Nat) : Int) := by omega
        simp only [go_sem, h6, decide_true, e1, e2, Int.natCast_nonneg, Int.toNat_natCast, nth_us hk, shr_nat _ hw, true_and, inR_un (shr_lt _ hw), List.length_map, h3']
        refine ⟨inR_in (by omega), ?_⟩
        by_cases h7 : (ws.getD (ws.length - 1) 0) >>> (n % 64) = 0
        · have h8 : ¬ Bad (n : Int).toNat ws := by rw [Int.toNat_natCast, hbad]; exact fun h => h.2 h7
          rw [checkV_ok h0 h4 h8] at bail ⊢
          simp only [go_sem, h7, Int.natCast_zero, decide_true, Bool.not_true]
          exact bail _ _ (by simp)
        · have h8 : Bad (n : Int).toNat ws := by rw [Int.toNat_natCast, hbad]; exact ⟨h5, h7⟩
          have h9 : ¬ (((ws.getD (ws.length - 1) 0) >>> (n % 64) : Nat) : Int) = 0 := by omega
          rw [checkV_bad h0 h8] at bail ⊢
          simp only [go_sem, h9, decide_false, Bool.not_false]
          exact bail _ _ (by simp)
      · have h6 : ¬ (0 : Int) < ((n % 64 : Nat) : Int) := by omega
        have h8 : ¬ Bad (n : Int).toNat ws := by rw [Int.toNat_natCast, hbad]; simp [h5]
        rw [checkV_ok h0 h4 h8] at bail ⊢
        simp only [go_sem, h6, decide_false]
        exact bail _ _ (by simp)

/-! ref.Check: bit by bit. -/
abbrev tabB : List (Nat × Contract) := [(34, dataC bitR)]
theorem tabB_ok : OkG Tryd.prog (tbl tabB) := okG_cons bit_ok okG_nil

theorem rcheck_ok : OkF Tryd.prog 15 (dataC chkR) := by
  refine okF_data Tryd.func15 rfl (by decide) ?_
  rintro ds v ⟨sz, ws, rfl, ho, rfl⟩
  refine sem_of_awp (Γ := tbl tabB) tabB_ok _ _ _ ?_
  have bail : ∀ s own, s.getD 2 .top = .dat (.int .i64 (checkV sz ws)) → post Tryd.prog Tryd.f15 (.dat (.int .i64 (checkV sz ws))) [] [] .ret ⟨s, own, 0, []⟩ := fun s own h => post_data (.inl rfl) [2] rfl trivial (by simp only [tmpsOf, resV, h])
  by_cases h0 : sz < 0 ∨ 4096 < sz
  · rw [checkV_out h0] at bail ⊢
    rcases h0 with h0 | h0
    · simp (contextual := true) only [go_sem, Tryd.ntmps15, h0, decide_true]
      exact bail _ _ (by simp)
    · have h1 : ¬ sz < 0 := by omega
      simp (contextual := true) only [go_sem, Tryd.ntmps15, h0, h1, decide_true, decide_false]
      exact bail _ _ (by simp)
  · have h1 : ¬ sz < 0 := by omega
    have h2 : ¬ 4096 < sz := by omega
    obtain ⟨n, rfl⟩ : ∃ n : Nat, sz = n := ⟨sz.toNat, by omega⟩
    have e0 : ((n : Int) + 63).tdiv 64 = (((n + 63) / 64 : Nat) : Int) := by rw [← tdiv64]; rfl
    simp (contextual := true) only [go_sem, Tryd.ntmps15, h1, h2, decide_false, e0, List.length_map]
    refine ⟨inR_i64.2 (by omega), inR_in (by omega), ?_⟩
    by_cases h3 : (ws.length : Int) ≠ (((n + 63) / 64 : Nat) : Int)
    · rw [checkV_len h0 (by simpa using h3)] at bail ⊢
      simp only [h3, decide_false, Bool.not_false, go_sem]
      exact bail _ _ (by simp)
    · have h4 : ¬ (ws.length : Int) ≠ ((((n : Int).toNat + 63) / 64 : Nat) : Int) := by simpa using h3
      have h3' : ((ws.length : Int) = (((n + 63) / 64 : Nat) : Int)) := by omega
      have hl : ws.length = (n + 63) / 64 := by omega
      simp only [h3', decide_true, Bool.not_true, go_sem]
      refine sem_loop (fun k : Nat => ⟨slotsOf 33 [(1, .ptr 0 0 0), (2, .dat (.int .i64 0)), (3, .dat (.int .i64 k))], [.box [.dat (.int .i64 n), .dat (.sl none (us ws))]], 0, []⟩)
        (fun k => n ≤ k ∧ k ≤ 64 * ws.length ∧ ∀ i, n ≤ i → i < k → bitAt ws i = false) (fun k => 64 * ws.length - k) n ⟨Nat.le_refl _, by omega, fun i h h' => by omega⟩ ?_ ?_
      · exact le_slots' (by simp only [go_sem])
      · rintro k ⟨hk1, hk2, hk3⟩
        refine sem_of_awp (Γ := tbl tabB) tabB_ok _ _ _ ?_
        have e3 : (64 : Int) * (ws.length : Int) = ((64 * ws.length : Nat) : Int) := by omega
        simp (contextual := true) only [go_sem, List.length_map, e3]
        refine ⟨inR_in (by omega), fun h5 => ?_, fun h5 => ?_⟩
        · have h5' : k < 64 * ws.length := by omega
          refine call_data bitR (by simp) _ _ rfl ⟨n, ws, k, rfl, ho, h5', by omega, rfl⟩ (.inl rfl) ?_
          cases hb : bitAt ws k
          · simp only [go_sem]
            refine ⟨inR_i64.2 (by omega), k + 1, ⟨by omega, by omega, fun i h h' => ?_⟩, by omega, ?_⟩
            · by_cases e : i = k
              · subst e; exact hb
              · exact hk3 i h (by omega)
            · exact le_slots' (by simp only [go_sem, Int.natCast_add, Int.cast_ofNat_Int])
          · simp only [go_sem]
            have h8 : Bad (n : Int).toNat ws := ⟨k, by omega, h5', hb⟩
            rw [checkV_bad h0 h8] at bail ⊢
            exact bail _ _ (by simp)
        · have h8 : ¬ Bad (n : Int).toNat ws := by
            rintro ⟨i, g1, g2, g3⟩
            rw [hk3 i (by omega) (by omega)] at g3
            cases g3
          rw [checkV_ok h0 h4 h8] at bail ⊢
          exact bail _ _ (by simp)
end Go.AM

namespace Go.AM
open Go Go.Proofs

noncomputable def getV (sz : Int) (ws : List Nat) (i : Int) : Bool := decide (checkV sz ws = 0) && (decide (0 ≤ i) && (decide (i < sz) && bitAt ws i.toNat))
def getR (ds : List D) (v : AV) : Prop := ∃ sz ws i, ds = [bitsD sz ws, .int .i64 i] ∧ Ok64 ws ∧ inR .i64 i ∧ v = .dat (.bool (getV sz ws i))

abbrev tabG : List (Nat × Contract) := [(14, dataC chkR), (37, dataC bitR)]
theorem tabG_ok : OkG Tryd.prog (tbl tabG) := okG_cons check_ok (okG_cons get_ok okG_nil)
theorem Get_ok : OkF Tryd.prog 19 (dataC getR) := by
  refine okF_data Tryd.func19 rfl (by decide) ?_
  rintro ds v ⟨sz, ws, i, rfl, ho, hi, rfl⟩
  refine sem_of_awp (Γ := tbl tabG) tabG_ok _ _ _ ?_
  have bail : ∀ s own, s.getD 4 .top = .dat (.bool (getV sz ws i)) → post Tryd.prog Tryd.f19 (.dat (.bool (getV sz ws i))) [] [] .ret ⟨s, own, 0, []⟩ := fun s own h => post_data (.inl rfl) [4] rfl trivial (by simp only [tmpsOf, resV, h])
  simp only [go_sem, Tryd.ntmps19]
  refine call_data chkR (by simp) _ _ rfl ⟨sz, ws, rfl, ho, rfl⟩ (.inl rfl) ?_
  by_cases h1 : checkV sz ws = 0
  · obtain ⟨n, rfl, hf⟩ := checkV_zero ho h1
    by_cases h2 : 0 ≤ i
    · by_cases h3 : i < n
      · obtain ⟨j, rfl⟩ : ∃ j : Nat, i = j := ⟨i.toNat, by omega⟩
        simp only [go_sem, h1, h2, h3, decide_true]
        have hl := hf.len; have hn := hf.le
        refine call_data bitR (by simp) _ _ rfl ⟨n, ws, j, rfl, ho, by omega, by omega, rfl⟩ (.inl rfl) ?_
        have e : getV n ws j = bitAt ws j := by simp [getV, h1, h2, h3, -Int.natCast_nonneg]
        rw [e] at bail ⊢
        simp only [go_sem]
        exact bail _ _ (by simp)
      · have e : getV n ws i = false := by simp [getV, h3]
        rw [e] at bail ⊢
        simp only [go_sem, h1, h2, h3, decide_true, decide_false]
        exact bail _ _ (by simp)
    · have e : getV n ws i = false := by simp [getV, h2]
      rw [e] at bail ⊢
      simp only [go_sem, h1, h2, decide_true, decide_false]
      exact bail _ _ (by simp)
  · have e : getV sz ws i = false := by simp [getV, h1]
    rw [e] at bail ⊢
    simp only [go_sem, h1, decide_false]
    exact bail _ _ (by simp)

abbrev tabRG : List (Nat × Contract) := [(15, dataC chkR), (34, dataC bitR)]
theorem tabRG_ok : OkG Tryd.prog (tbl tabRG) := okG_cons rcheck_ok (okG_cons bit_ok okG_nil)
theorem rGet_ok : OkF Tryd.prog 20 (dataC getR) := by
  refine okF_data Tryd.func20 rfl (by decide) ?_
  rintro ds v ⟨sz, ws, i, rfl, ho, hi, rfl⟩
  refine sem_of_awp (Γ := tbl tabRG) tabRG_ok _ _ _ ?_
  have bail : ∀ s own, s.getD 4 .top = .dat (.bool (getV sz ws i)) → post Tryd.prog Tryd.f20 (.dat (.bool (getV sz ws i))) [] [] .ret ⟨s, own, 0, []⟩ := fun s own h => post_data (.inl rfl) [4] rfl trivial (by simp only [tmpsOf, resV, h])
  simp only [go_sem, Tryd.ntmps20]
  refine call_data chkR (by simp) _ _ rfl ⟨sz, ws, rfl, ho, rfl⟩ (.inl rfl) ?_
  by_cases h1 : checkV sz ws = 0
  · obtain ⟨n, rfl, hf⟩ := checkV_zero ho h1
    by_cases h2 : 0 ≤ i
    · by_cases h3 : i < n
      · obtain ⟨j, rfl⟩ : ∃ j : Nat, i = j := ⟨i.toNat, by omega⟩
        simp only [go_sem, h1, h2, h3, decide_true]
        have hl := hf.len; have hn := hf.le
        refine call_data bitR (by simp) _ _ rfl ⟨n, ws, j, rfl, ho, by omega, by omega, rfl⟩ (.inl rfl) ?_
        have e : getV n ws j = bitAt ws j := by simp [getV, h1, h2, h3, -Int.natCast_nonneg]
        rw [e] at bail ⊢
        simp only [go_sem]
        exact bail _ _ (by simp)
      · have e : getV n ws i = false := by simp [getV, h3]
        rw [e] at bail ⊢
        simp only [go_sem, h1, h2, h3, decide_true, decide_false]
        exact bail _ _ (by simp)
    · have e : getV n ws i = false := by simp [getV, h2]
      rw [e] at bail ⊢
      simp only [go_sem, h1, h2, decide_true, decide_false]
      exact bail _ _ (by simp)
  · have e : getV sz ws i = false := by simp [getV, h1]
    rw [e] at bail ⊢
    simp only [go_sem, h1, decide_false]
    exact bail _ _ (by simp)

abbrev pairV (sz : Int) (ws : List Nat) (e : Int) : AV := .tup [.dat (bitsD sz ws), .dat (.int .i64 e)]
def newV (n : Int) : AV := if n < 0 ∨ 4096 < n then pairV 0 [] 2 else pairV n (mk ((n.toNat + 63) / 64) fun _ => false) 0
def newR (ds : List D) (v : AV) : Prop := ∃ n, ds = [.int .i64 n] ∧ v = newV n
theorem zeros (m : Nat) : List.replicate m (D.int .u64 0) = us (mk m fun _ => false) := by
  have : mk m (fun _ => false) = List.replicate m 0 := by
    symm
    apply eq_mk (by simp)
    · intro w hw; rw [List.eq_of_mem_replicate hw]; decide
    · intro i hi
      unfold bitAt
      rw [List.getD_eq_getElem?_getD, List.getElem?_replicate, if_pos (by omega)]
      simp
  rw [this]; simp [us]

theorem New_ok : OkF Tryd.prog 12 (dataC newR) := by
  refine okF_data Tryd.func12 rfl (by decide) ?_
  rintro ds v ⟨n, rfl, rfl⟩
  refine sem_of_awp (Γ := tbl tabW) tabW_ok _ _ _ ?_
  by_cases h0 : n < 0 ∨ 4096 < n
  · have e : newV n = pairV 0 [] 2 := by unfold newV; rw [if_pos h0]
    rw [e]
    rcases h0 with h0 | h0
    · simp only [go_sem, Tryd.ntmps12, h0, decide_true]
      refine post_res (.inl rfl) [.cell 2 24, .tmp 3] rfl ?_
      simp only [go_sem]
      exact le_fin (by simp only [go_sem, pairV, bitsD, us, List.map_nil]) (by simp only [go_sem])
    · have h1 : ¬ n < 0 := by omega
      simp only [go_sem, Tryd.ntmps12, h0, h1, decide_true, decide_false]
      refine post_res (.inl rfl) [.cell 2 24, .tmp 3] rfl ?_
      simp only [go_sem]
      exact le_fin (by simp only [go_sem, pairV, bitsD, us, List.map_nil]) (by simp only [go_sem])
  · have h1 : ¬ n < 0 := by omega
    have h2 : ¬ 4096 < n := by omega
    have e : newV n = pairV n (mk ((n.toNat + 63) / 64) fun _ => false) 0 := by unfold newV; rw [if_neg h0]
    rw [e]
    obtain ⟨m, rfl⟩ : ∃ m : Nat, n = m := ⟨n.toNat, by omega⟩
    simp only [go_sem, Tryd.ntmps12, h1, h2, decide_false]
    refine call_data wordsR (by simp) _ _ rfl ⟨m, rfl, by omega, rfl⟩ (.inl rfl) ?_
    simp only [go_sem, Int.toNat_natCast]
    refine ⟨by omega, by omega, by omega, ?_⟩
    refine post_res (.inl rfl) [.cell 2 24, .tmp 3] rfl ?_
    simp only [go_sem]
    refine Le.trans (le_freeze 1 (ag := none) (xs := List.replicate ((m + 63) / 64) (D.int .u64 0)) rfl (Nat.zero_le _)) ?_
    simp only [go_sem, List.length_replicate, List.drop_zero, List.take_replicate, Nat.min_self, Nat.le_refl, if_true]
    exact le_fin (by simp only [go_sem, pairV, zeros]) (by simp only [go_sem])
theorem rNew_ok : OkF Tryd.prog 13 (dataC newR) := by
  refine okF_data Tryd.func13 rfl (by decide) ?_
  rintro ds v ⟨n, rfl, rfl⟩
  refine sem_of_awp (Γ := tbl []) okG_nil _ _ _ ?_
  by_cases h0 : n < 0 ∨ 4096 < n
  · have e : newV n = pairV 0 [] 2 := by unfold newV; rw [if_pos h0]
    rw [e]
    rcases h0 with h0 | h0
    · simp only [go_sem, Tryd.ntmps13, h0, decide_true]
      refine post_res (.inl rfl) [.cell 2 24, .tmp 3] rfl ?_
      simp only [go_sem]
      exact le_fin (by simp only [go_sem, pairV, bitsD, us, List.map_nil]) (by simp only [go_sem])
    · have h1 : ¬ n < 0 := by omega
      simp only [go_sem, Tryd.ntmps13, h0, h1, decide_true, decide_false]
      refine post_res (.inl rfl) [.cell 2 24, .tmp 3] rfl ?_
      simp only [go_sem]
      exact le_fin (by simp only [go_sem, pairV, bitsD, us, List.map_nil]) (by simp only [go_sem])
  · have h1 : ¬ n < 0 := by omega
    have h2 : ¬ 4096 < n := by omega
    have e : newV n = pairV n (mk ((n.toNat + 63) / 64) fun _ => false) 0 := by unfold newV; rw [if_neg h0]
    rw [e]
    obtain ⟨m, rfl⟩ : ∃ m : Nat, n = m := ⟨n.toNat, by omega⟩
    have e0 : ((m : Int) + 63).tdiv 64 = (((m + 63) / 64 : Nat) : Int) := by rw [← tdiv64]; rfl
    simp only [go_sem, Tryd.ntmps13, h1, h2, decide_false, e0, Int.toNat_natCast]
    refine ⟨inR_i64.2 (by omega), inR_in (by omega), by omega, by omega, by omega, ?_⟩
    refine post_res (.inl rfl) [.cell 2 24, .tmp 3] rfl ?_
    simp only [go_sem]
    refine Le.trans (le_freeze 1 (ag := none) (xs := List.replicate ((m + 63) / 64) (D.int .u64 0)) rfl (Nat.zero_le _)) ?_
    simp only [go_sem, List.length_replicate, List.drop_zero, List.take_replicate, Nat.min_self, Nat.le_refl, if_true]
    exact le_fin (by simp only [go_sem, pairV, zeros]) (by simp only [go_sem])

/-! Same. -/
def sameR (ds : List D) (v : AV) : Prop := ∃ sz ws sz' ws', ds = [bitsD sz ws, bitsD sz' ws'] ∧ ws.length ≤ 64 ∧ v = .dat (.bool (decide (sz = sz' ∧ ws = ws')))
theorem pure0 {Γ : Nat → Contract} : PureFns Γ [] := fun g _ _ _ _ _ h => by cases h
theorem getD_eq {ws : List Nat} {k : Nat} (hk : k < ws.length) : ws.getD k 0 = ws[k] := by simp [List.getD_eq_getElem?_getD, List.getElem?_eq_getElem hk]
theorem same_ok : OkF Tryd.prog 16 (dataC sameR) := by
  refine okF_data Tryd.func16 rfl (by decide) ?_
  rintro ds v ⟨sz, ws, sz', ws', rfl, h64, rfl⟩
  refine sem_of_awp (Γ := tbl []) okG_nil _ _ _ ?_
  have same0 : ∀ b : Bool, (b = true ↔ (sz = sz' ∧ ws = ws')) → b = decide (sz = sz' ∧ ws = ws') := fun b h => by cases b <;> simp_all
  generalize decide (sz = sz' ∧ ws = ws') = r at same0 ⊢
  have bail : ∀ (b : Bool) s own, (b = true ↔ (sz = sz' ∧ ws = ws')) → s.getD 4 .top = .dat (.bool b) → post Tryd.prog Tryd.f16 (.dat (.bool r)) [] [] .ret ⟨s, own, 0, []⟩ := fun b s own e h => post_data (.inl rfl) [4] rfl trivial (by simp only [tmpsOf, resV, h, same0 b e])
  by_cases h1 : sz = sz'
  · subst h1
    have h1 : True := trivial
    by_cases h2 : (ws.length : Int) = ws'.length
    · simp only [go_sem, Tryd.ntmps16, h2, List.length_map, decide_true, Bool.not_true]
      have h2' : ws.length = ws'.length := by omega
      refine sem_loop (fun k : Nat => ⟨slotsOf 38 [(2, .ptr 0 0 0), (3, .ptr 1 0 0), (4, .dat (.bool false)), (5, .dat (.int .i64 k))], [.box [.dat (.int .i64 sz), .dat (.sl none (us ws))], .box [.dat (.int .i64 sz), .dat (.sl none (us ws'))]], 0, []⟩)
        (fun k => k ≤ ws.length ∧ ws.take k = ws'.take k) (fun k => ws.length - k) 0 ⟨by omega, by simp⟩ ?_ ?_
      · exact le_slots' (by simp only [go_sem, Int.natCast_zero])
      · rintro k ⟨hk1, hk2⟩
        refine sem_of_awp (Γ := tbl []) okG_nil _ _ _ ?_
        simp (contextual := true) only [go_sem, List.length_map]
        refine ⟨fun h3 => ?_, fun h3 => ?_⟩
        · have k1 : k < ws.length := by omega
          have k2 : k < ws'.length := by omega
          have k1' : (k : Int) < ws.length := by omega
          have k2' : (k : Int) < ws'.length := by omega
          refine sem_draw (pf := []) (Γ := tbl []) mixed okG_nil pure0 [0, 1, 2, 3, 4, 5, 6, 7, 8, 9, 10] (by kernel_rfl) ?_
          simp only [go_sem, chainI, nth_us k1, nth_us k2, Int.natCast_nonneg, Int.toNat_natCast, List.length_map, k1', k2', true_and]
          by_cases h4 : ws.getD k 0 = ws'.getD k 0
          · have h4' : ((ws.getD k 0 : Nat) : Int) = ((ws'.getD k 0 : Nat) : Int) := by omega
            simp only [go_sem, h4', decide_true, Bool.not_true]
            refine ⟨inR_i64.2 (by omega), k + 1, ⟨by omega, ?_⟩, by omega, le_slots' (by simp only [go_sem, Int.natCast_add, Int.cast_ofNat_Int])⟩
            rw [getD_eq k1, getD_eq k2] at h4
            rw [List.take_succ_eq_append_getElem k1, List.take_succ_eq_append_getElem k2, hk2, h4]
          · have h4' : ¬ ((ws.getD k 0 : Nat) : Int) = ((ws'.getD k 0 : Nat) : Int) := by omega
            simp only [go_sem, h4', decide_false, Bool.not_false]
            refine bail false _ _ ?_ (by rfl)
            simp only [Bool.false_eq_true, false_iff]
            rintro ⟨_, e⟩
            exact h4 (by rw [e])
        · have : k = ws.length := by omega
          subst this
          refine bail true _ _ ?_ (by rfl)
          simp only [true_iff]
          refine ⟨trivial, ?_⟩
          rw [List.take_length, h2', List.take_length] at hk2
          exact hk2
    · simp only [go_sem, Tryd.ntmps16, h2, List.length_map, decide_true, Bool.not_true, decide_false, Bool.not_false]
      refine bail false _ _ ?_ (by rfl)
      simp only [Bool.false_eq_true, false_iff]
      rintro ⟨_, e⟩
      exact h2 (by rw [e])
  · simp only [go_sem, Tryd.ntmps16, h1, decide_false, Bool.not_false]
    exact bail false _ _ (by simp [h1]) (by rfl)
end Go.AM

namespace Go.AM
open Go Go.Proofs

/-! slices.Clone at words. -/
def cloneR (ds : List D) (v : AV) (ob : List Obj) : Prop := ∃ ws, ws.length ≤ 64 ∧ ds = [.sl none (us ws)] ∧ v = .sl 0 0 ws.length ∧ ob = [.row none (us ws)]

theorem clone_ok : OkF Tryd.prog 38 (madeC cloneR) := by
  refine okF_made Tryd.func38 rfl (by decide) ?_
  rintro ds v ob ⟨ws, hl, rfl, rfl, rfl⟩
  refine sem_of_awpK [1] (Γ := tbl []) okG_nil _ _ _ ?_
  simp only [go_sem, Tryd.ntmps38]
  refine sem_regionF (Γ := tbl []) okG_nil ?_
  by_cases h : ws = []
  · subst h
    refine .inr ?_
    simp only [go_sem, List.map_nil]
    refine .inl ⟨rfl, .inl rfl, ⟨_, by simp [ev]; rfl⟩, ⟨42, by kernel_rfl⟩, ?_⟩
    intro b
    cases b
    · simp only [go_sem, awpOpsF]
      refine ⟨fun d hd => (by cases hd), ?_⟩
      refine post_resO (.inl rfl) [.tmp 2] rfl (fun _ h => h) ?_
      simp only [go_sem]
      exact Le.refl _
    · simp only [go_sem, awpOpsF]
      refine post_resO (.inl rfl) [.tmp 2] rfl (fun _ h => h) ?_
      simp only [go_sem]
      exact le_addnil 0 none rfl (Nat.zero_le _)
  · have hn : us ws ≠ [] := by simpa [us] using h
    simp only [awpOpsF]
    refine .inr ?_
    simp only [go_sem]
    refine .inr ⟨hn, ?_⟩
    refine ⟨fun d hd => (by cases hd), by omega, by omega, ?_⟩
    refine post_resO (.inl rfl) [.tmp 2] rfl (fun _ h => h) ?_
    simp only [go_sem]
    exact Le.refl _

/-! ref.Copy. -/
def copyR (ds : List D) (v : AV) (ob : List Obj) : Prop := ∃ (sz : Int) (ws : List Nat), ws.length ≤ 64 ∧ ds = [bitsD sz ws] ∧ v = .agg [.dat (.int .i64 sz), .sl 3 0 ws.length] ∧ ob = [.dead, .dead, .dead, .row none (us ws)]
theorem copy_ok : OkF Tryd.prog 35 (madeC copyR) := by
  refine okF_made Tryd.func35 rfl (by decide) ?_
  rintro ds v ob ⟨sz, ws, hl, rfl, rfl, rfl⟩
  refine sem_of_awp (Γ := tbl []) okG_nil _ _ _ ?_
  simp only [go_sem, Tryd.ntmps35]
  refine sem_le (le_addnilR 2 1 none rfl rfl (Nat.zero_le _)) ?_
  refine sem_loop (fun k : Nat => ⟨slotsOf 26 [(1, .ptr 0 0 0), (2, .ptr 1 0 0), (3, .ptr 2 0 0), (4, .dat (.int .i64 k))],
      [.box [.dat (.int .i64 sz), .dat (.sl none (us ws))], .box [.dat (.int .i64 0), .nils], .box [.dat (.int .i64 sz), .sl 3 0 k], .row none (us (ws.take k))], 0, []⟩)
    (fun k => k ≤ ws.length) (fun k => ws.length - k) 0 (Nat.zero_le _) ?_ ?_
  · simp only [List.take_zero, List.map_nil]
    exact le_slots' (by simp only [go_sem, Int.natCast_zero])
  · intro k hk
    refine sem_of_awp (Γ := tbl []) okG_nil _ _ _ ?_
    rcases Nat.lt_or_ge k ws.length with hk1 | hge
    · have hk1' : (k : Int) < (ws.length : Int) := by omega
      simp only [go_sem, List.length_map, hk1', decide_true]
      refine sem_drawK (ko := 3) (pf := []) (mf := []) (ms := [0, 1, 9, 8]) mixed okG_nil pure0 noMk [0, 1, 9, 2, 3, 4, 5, 6, 7, 8, 10] (by kernel_rfl) ?_
      have hlt : (List.take k ws).length = k := by simp; omega
      simp only [go_sem, nth_us hk1, hk1', Int.natCast_nonneg, Int.toNat_natCast, List.length_map, hlt, true_and]
      have e1 : List.take k (us (List.take k ws)) ++ [D.int .u64 ((ws.getD k 0 : Nat) : Int)] = us (List.take (k + 1) ws) := by
        rw [List.take_of_length_le (by rw [List.length_map, hlt]; exact Nat.le_refl _), List.take_succ_eq_append_getElem hk1, getD_eq hk1, us, us, List.map_append]
        rfl
      refine ⟨fun d hd => (by simp only [List.mem_singleton] at hd; subst hd; exact ⟨rfl, rfl⟩), by omega, by omega, inR_i64.2 (by omega), k + 1, hk1, by omega, ?_⟩
      rw [e1]
      exact le_end (own := [_, _, _, _]) (ex := [_]) (Nat.zero_le _) (by simp only [go_sem, Int.natCast_add, Int.cast_ofNat_Int]) (by simp only [go_sem]) (by simp only [go_sem])
    · have hk1' : ¬ (k : Int) < (ws.length : Int) := by omega
      have : k = ws.length := by omega
      subst this
      simp only [go_sem, List.length_map, hk1', decide_false, List.take_length]
      refine post_resO (.inl rfl) [.cell 2 24] rfl (fun _ h => h) ?_
      simp only [go_sem]
      exact Le.trans (le_dead 0) (Le.trans (le_dead 1) (le_dead 2))
end Go.AM

