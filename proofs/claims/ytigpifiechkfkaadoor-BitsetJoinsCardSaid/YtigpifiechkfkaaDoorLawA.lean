/- Own work over the model of the kit. -/
import Derived.Test.YtigpifiechkfkaaDoorWalkB
import Derived.Test.YtigpifiechkfkaaDoorWalkC
set_option linter.unusedSimpArgs false
set_option linter.unusedVariables false
namespace Go.AM
open Go Go.Proofs

theorem Fine.fill {n : Nat} {ws : List Nat} (h : Fine n ws) {a b : Nat} (hb : b ≤ n) (on : Bool) : Fine n (fillW ws a b on) := by
  refine ⟨h.le, by rw [fillW, mk_len]; exact h.len, mk_ok _ _, fun i hi => ?_⟩
  rw [fillW, mk_bit]
  unfold fillB
  rw [if_neg (by omega), h.bits i hi, Bool.and_false]
theorem fine_zeros {n : Nat} (h : n ≤ 4096) : Fine n (mk ((n + 63) / 64) fun _ => false) :=
  ⟨h, mk_len _ _, mk_ok _ _, fun i _ => by rw [mk_bit, Bool.and_false]⟩

def b0 : List Nat := mk 2 fun _ => false
def c0 : List Nat := fillW b0 65 66 true
theorem fine_b0 : Fine 70 b0 := fine_zeros (n := 70) (by decide)
theorem fine_c0 : Fine 70 c0 := fine_b0.fill (by decide) true
theorem c0_find : findV 70 c0 0 true = 65 := by
  have h : checkV 70 c0 = 0 := fine_c0.zero
  unfold findV
  rw [if_neg (by rw [h]; decide)]
  decide +kernel
theorem c0_count : countV 70 c0 0 70 = 1 := by
  have h : checkV 70 c0 = 0 := fine_c0.zero
  unfold countV
  rw [if_neg (by rw [h]; decide)]
  decide +kernel
theorem c0_get : getV 70 c0 65 = true := by
  have h : checkV 70 c0 = 0 := fine_c0.zero
  unfold getV
  rw [h]
  decide +kernel
theorem b0_run : fRunV 70 b0 5 3 false = 0 := by
  have h : checkV 70 b0 = 0 := fine_b0.zero
  unfold fRunV
  rw [if_neg (by rw [h]; decide)]
  decide +kernel
theorem b0_new : newV 70 = pairV 70 b0 0 := by
  unfold newV
  rw [if_neg (by decide)]
  rfl
theorem b0_set : setV 70 b0 65 true = pairV 70 c0 0 := by
  have h : checkV 70 b0 = 0 := fine_b0.zero
  unfold setV
  rw [if_neg (by rw [h]; decide), if_neg (by decide)]
  rfl
theorem c0_one : c0.getD 1 0 = 2 := by decide +kernel
theorem c0_len : c0.length = 2 := mk_len _ _
theorem b0_len : b0.length = 2 := mk_len _ _

def awakeR (ds : List D) (v : AV) : Prop := ds = [] ∧ v = .dat (.bool true)
abbrev tabA : List (Nat × Contract) := [(12, dataC newR), (14, dataC chkR), (17, dataC setR), (23, dataC findR), (26, dataC countR), (19, dataC getR), (24, dataC fRunR)]
theorem tabA_ok : OkG Tryd.prog (tbl tabA) := okG_cons New_ok (okG_cons check_ok (okG_cons set_ok (okG_cons find_ok (okG_cons count_ok (okG_cons Get_ok (okG_cons findRun_ok okG_nil))))))

set_option maxRecDepth 8000 in
theorem awake_ok : OkF Tryd.prog 11 (dataC awakeR) := by
  refine okF_data Tryd.func11 rfl (by decide) ?_
  rintro ds v ⟨rfl, rfl⟩
  refine sem_of_awp (Γ := tbl tabA) tabA_ok _ _ _ ?_
  simp only [go_sem, Tryd.ntmps11]
  refine call_data newR (by simp) _ _ rfl ⟨70, rfl, b0_new.symm⟩ (.inl rfl) ?_
  have hb : checkV 70 b0 = 0 := fine_b0.zero
  have hb2 : ((2 : Nat) : Int) = 2 := rfl
  simp only [go_sem, pairV, bitsD, decide_true, Bool.not_true, List.length_map, b0_len, hb2]
  refine call_data chkR (by simp) _ _ rfl ⟨70, b0, rfl, fine_b0.ok, rfl⟩ (.inl rfl) ?_
  simp only [go_sem, hb, decide_true, Bool.not_true]
  refine call_data setR (by simp) _ _ rfl ⟨70, b0, 65, true, rfl, fine_b0.ok, b0_set.symm⟩ (.inl rfl) ?_
  have h1 : 1 < c0.length := by rw [c0_len]; decide
  simp only [go_sem, pairV, bitsD, decide_true, List.length_map, c0_len, hb2, nth_us h1, c0_one]
  refine call_data findR (by simp) _ _ rfl ⟨70, c0, 0, true, rfl, fine_c0.ok, rfl⟩ (.inl rfl) ?_
  simp only [go_sem, c0_find, decide_true]
  refine call_data countR (by simp) _ _ rfl ⟨70, c0, 0, 70, rfl, fine_c0.ok, rfl⟩ (.inl rfl) ?_
  simp only [go_sem, c0_count, decide_true]
  refine call_data getR (by simp) _ _ rfl ⟨70, c0, 65, rfl, fine_c0.ok, inR_i64.2 (by decide), rfl⟩ (.inl rfl) ?_
  simp only [go_sem, c0_get]
  refine call_data fRunR (by simp) _ _ rfl ⟨70, b0, 5, 3, false, rfl, fine_b0.ok, rfl⟩ (.inl rfl) ?_
  simp only [go_sem, b0_run, decide_true]
  exact post_data (.inl rfl) [0] rfl trivial rfl
end Go.AM

namespace Go.AM
open Go Go.Proofs

theorem newV_pair (n : Int) : ∃ z w e, newV n = pairV z w e ∧ w.length ≤ 64 := by
  unfold newV
  split
  · exact ⟨_, _, _, rfl, Nat.zero_le _⟩
  · exact ⟨_, _, _, rfl, by rw [mk_len]; omega⟩
theorem same_self (sz : Int) (ws : List Nat) : decide (sz = sz ∧ ws = ws) = true := by simp

abbrev tabL1 : List (Nat × Contract) := [(11, dataC awakeR), (12, dataC newR), (13, dataC newR), (14, dataC chkR), (15, dataC chkR), (16, dataC sameR)]
theorem tabL1_ok : OkG Tryd.prog (tbl tabL1) := okG_cons awake_ok (okG_cons New_ok (okG_cons rNew_ok (okG_cons check_ok (okG_cons rcheck_ok (okG_cons same_ok okG_nil)))))
theorem pure_of {l : List (Nat × Contract)} {pf : List Nat} (h : ∀ g C, (g, C) ∈ l → g ∈ pf → ∃ R, C = dataC R) : PureFns (tbl l) pf := by
  rintro g args own v own' mv hg ⟨C, hm, hC⟩
  obtain ⟨R, rfl⟩ := h g C hm hg
  obtain ⟨_, _, _, h1, h2, _⟩ := hC
  exact ⟨h1, h2⟩
theorem pureL1 : PureFns (tbl tabL1) [14, 15, 16] := pure_of fun g C hm hg => by
  simp only [List.mem_cons, List.not_mem_nil, or_false, Prod.mk.injEq] at hm
  rcases hm with ⟨_, rfl⟩ | ⟨_, rfl⟩ | ⟨_, rfl⟩ | ⟨_, rfl⟩ | ⟨_, rfl⟩ | ⟨_, rfl⟩ <;> exact ⟨_, rfl⟩

def checksR (ds : List D) (v : AV) : Prop := ∃ sz ws n, ds = [bitsD sz ws, .int .i64 n] ∧ Ok64 ws ∧ v = .dat (.bool true)
set_option maxRecDepth 8000 in
theorem checks_ok : OkF Tryd.prog 3 (dataC checksR) := by
  refine okF_data Tryd.func3 rfl (by decide) ?_
  rintro ds v ⟨sz, ws, n, rfl, ho, rfl⟩
  refine sem_of_awp (Γ := tbl tabL1) tabL1_ok _ _ _ ?_
  simp only [go_sem, Tryd.ntmps3]
  refine call_data awakeR (by simp) _ _ rfl ⟨rfl, rfl⟩ (.inl rfl) ?_
  simp only [go_sem]
  obtain ⟨z, w, e, hn, hw⟩ := newV_pair n
  refine call_data newR (by simp) _ _ rfl ⟨n, rfl, hn.symm⟩ (.inl rfl) ?_
  simp only [go_sem, pairV, bitsD]
  refine call_data newR (by simp) _ _ rfl ⟨n, rfl, hn.symm⟩ (.inl rfl) ?_
  simp only [go_sem, pairV, bitsD]
  refine sem_draw (pf := [14, 15, 16]) (Γ := tbl tabL1) mixed tabL1_ok pureL1 [0, 1, 2, 3, 4, 5, 6, 7, 8, 9, 10, 11, 12, 13, 14, 15] (by kernel_rfl) ?_
  simp only [go_sem, chainI]
  refine call_data chkR (by simp) _ _ rfl ⟨sz, ws, rfl, ho, rfl⟩ (.inl rfl) ?_
  simp only [go_sem]
  refine call_data chkR (by simp) _ _ rfl ⟨sz, ws, rfl, ho, rfl⟩ (.inl rfl) ?_
  simp only [go_sem, decide_true]
  refine call_data sameR (by simp) _ _ rfl ⟨z, w, z, w, rfl, hw, rfl⟩ (.inl rfl) ?_
  simp only [go_sem, same_self]
  exact post_data (.inl rfl) [4] rfl trivial rfl
end Go.AM

namespace Go.AM
open Go Go.Proofs

/-! The law BitsetSets. -/
theorem fillW_bit {n : Nat} {ws : List Nat} (hf : Fine n ws) {a b i : Nat} (on : Bool) (hi : i < n) : bitAt (fillW ws a b on) i = fillB ws a b on i := by
  have := hf.len; have := hf.le
  rw [fillW, mk_bit]
  have h : i < 64 * ws.length := by omega
  simp [h]
theorem setV_pair {sz : Int} {ws : List Nat} {i : Int} {on : Bool} (ho : Ok64 ws) : ∃ z w e, setV sz ws i on = pairV z w e ∧ w.length ≤ 64 ∧ Ok64 w ∧ (e = 0 → getV z w i = on) := by
  unfold setV
  split
  · rename_i h; exact ⟨_, _, _, rfl, Nat.zero_le _, (fun w hw => by cases hw), fun e => (h e).elim⟩
  · rename_i h0
    simp only [ne_eq, Decidable.not_not] at h0
    obtain ⟨n, rfl, hf⟩ := checkV_zero ho h0
    have hn := hf.le; have hl := hf.len
    split
    · exact ⟨_, _, _, rfl, Nat.zero_le _, (fun w hw => by cases hw), fun e => by cases e⟩
    · rename_i h1
      refine ⟨_, _, _, rfl, by rw [fillW, mk_len]; omega, mk_ok _ _, fun _ => ?_⟩
      obtain ⟨a, rfl⟩ : ∃ a : Nat, i = a := ⟨i.toNat, by omega⟩
      have hf2 : Fine n (fillW ws a (a + 1) on) := hf.fill (by omega) on
      have hz := hf2.zero
      unfold getV
      rw [Int.toNat_natCast, hz, fillW_bit hf on (by omega)]
      have h2 : (a : Int) < n := by omega
      have h3 : (0 : Int) ≤ a := by omega
      simp [h2, h3, fillB]

abbrev tabL2 : List (Nat × Contract) := [(11, dataC awakeR), (16, dataC sameR), (17, dataC setR), (18, dataC setR), (19, dataC getR), (20, dataC getR), (21, dataC fillR), (22, dataC fillR)]
theorem tabL2_ok : OkG Tryd.prog (tbl tabL2) := okG_cons awake_ok (okG_cons same_ok (okG_cons set_ok (okG_cons rset_ok (okG_cons Get_ok (okG_cons rGet_ok (okG_cons fill_ok (okG_cons rfill_ok okG_nil)))))))
theorem pureL2 : PureFns (tbl tabL2) [16, 19, 20] := pure_of fun g C hm hg => by
  simp only [List.mem_cons, List.not_mem_nil, or_false, Prod.mk.injEq] at hm
  rcases hm with ⟨_, rfl⟩ | ⟨_, rfl⟩ | ⟨_, rfl⟩ | ⟨_, rfl⟩ | ⟨_, rfl⟩ | ⟨_, rfl⟩ | ⟨_, rfl⟩ | ⟨_, rfl⟩ <;> exact ⟨_, rfl⟩

def setsR (ds : List D) (v : AV) : Prop := ∃ sz ws i on, ds = [bitsD sz ws, .int .i64 i, .bool on] ∧ Ok64 ws ∧ inR .i64 i ∧ v = .dat (.bool true)
set_option maxRecDepth 8000 in
theorem sets_ok : OkF Tryd.prog 4 (dataC setsR) := by
  refine okF_data Tryd.func4 rfl (by decide) ?_
  rintro ds v ⟨sz, ws, i, on, rfl, ho, hi, rfl⟩
  refine sem_of_awp (Γ := tbl tabL2) tabL2_ok _ _ _ ?_
  simp only [go_sem, Tryd.ntmps4]
  refine call_data awakeR (by simp) _ _ rfl ⟨rfl, rfl⟩ (.inl rfl) ?_
  simp only [go_sem]
  obtain ⟨z, w, e, hn, hw, hwo, hg⟩ := setV_pair (sz := sz) (i := i) (on := on) ho
  refine call_data setR (by simp) _ _ rfl ⟨sz, ws, i, on, rfl, ho, hn.symm⟩ (.inl rfl) ?_
  simp only [go_sem, pairV, bitsD]
  refine call_data setR (by simp) _ _ rfl ⟨sz, ws, i, on, rfl, ho, hn.symm⟩ (.inl rfl) ?_
  simp only [go_sem, pairV, bitsD]
  refine sem_draw (pf := [16, 19, 20]) (Γ := tbl tabL2) mixed tabL2_ok pureL2 [0, 1, 2, 3, 4, 5, 6, 7, 8, 9, 10, 11, 12, 13, 14, 15, 16, 17] (by kernel_rfl) ?_
  simp only [go_sem, chainI, decide_true, Bool.not_true]
  refine call_data sameR (by simp) _ _ rfl ⟨z, w, z, w, rfl, hw, rfl⟩ (.inl rfl) ?_
  simp only [go_sem, same_self, Bool.not_true]
  refine call_data getR (by simp) _ _ rfl ⟨sz, ws, i, rfl, ho, hi, rfl⟩ (.inl rfl) ?_
  simp only [go_sem]
  refine call_data getR (by simp) _ _ rfl ⟨sz, ws, i, rfl, ho, hi, rfl⟩ (.inl rfl) ?_
  have hb : (getV sz ws i == getV sz ws i) = true := by simp
  simp only [go_sem, hb, Bool.not_true]
  by_cases he : e = 0
  · simp only [go_sem, he, decide_true, Bool.not_true]
    refine call_data getR (by simp) _ _ rfl ⟨z, w, i, rfl, hwo, hi, rfl⟩ (.inl rfl) ?_
    have hb2 : (getV z w i == on) = true := by rw [hg he]; simp
    simp only [go_sem, hb2]
    exact post_data (.inl rfl) [6] rfl trivial rfl
  · simp only [go_sem, he, decide_false, Bool.not_false]
    exact post_data (.inl rfl) [6] rfl trivial rfl

/-! The law BitsetFills. -/
theorem fillV_pair {sz : Int} {ws : List Nat} {f t : Int} {on : Bool} (ho : Ok64 ws) : ∃ z w e, fillV sz ws f t on = pairV z w e ∧ w.length ≤ 64 := by
  unfold fillV
  split
  · exact ⟨_, _, _, rfl, Nat.zero_le _⟩
  · rename_i h0
    simp only [ne_eq, Decidable.not_not] at h0
    obtain ⟨n, rfl, hf⟩ := checkV_zero ho h0
    have hn := hf.le; have hl := hf.len
    split
    · exact ⟨_, _, _, rfl, Nat.zero_le _⟩
    · exact ⟨_, _, _, rfl, by rw [fillW, mk_len]; omega⟩
abbrev two (a b : Int) : D := .agg [.int .i64 a, .int .i64 b]
def fillsR (ds : List D) (v : AV) : Prop := ∃ sz ws a b on, ds = [bitsD sz ws, two a b, .bool on] ∧ Ok64 ws ∧ v = .dat (.bool true)
set_option maxRecDepth 8000 in
theorem fills_ok : OkF Tryd.prog 5 (dataC fillsR) := by
  refine okF_data Tryd.func5 rfl (by decide) ?_
  rintro ds v ⟨sz, ws, a, b, on, rfl, ho, rfl⟩
  refine sem_of_awp (Γ := tbl tabL2) tabL2_ok _ _ _ ?_
  simp only [go_sem, Tryd.ntmps5]
  refine call_data awakeR (by simp) _ _ rfl ⟨rfl, rfl⟩ (.inl rfl) ?_
  simp only [go_sem]
  obtain ⟨z, w, e, hn, hw⟩ := fillV_pair (sz := sz) (f := a) (t := b) (on := on) ho
  refine call_data fillR (by simp) _ _ rfl ⟨sz, ws, a, b, on, rfl, ho, hn.symm⟩ (.inl rfl) ?_
  simp only [go_sem, pairV, bitsD]
  refine call_data fillR (by simp) _ _ rfl ⟨sz, ws, a, b, on, rfl, ho, hn.symm⟩ (.inl rfl) ?_
  simp only [go_sem, pairV, bitsD, decide_true]
  refine call_data sameR (by simp) _ _ rfl ⟨z, w, z, w, rfl, hw, rfl⟩ (.inl rfl) ?_
  simp only [go_sem, same_self]
  exact post_data (.inl rfl) [6] rfl trivial rfl

/-! The law BitsetRuns. -/
abbrev tabL3 : List (Nat × Contract) := [(11, dataC awakeR), (14, dataC chkR), (19, dataC getR), (23, dataC findR), (24, dataC fRunR), (25, dataC fRunR), (26, dataC countR)]
theorem tabL3_ok : OkG Tryd.prog (tbl tabL3) := okG_cons awake_ok (okG_cons check_ok (okG_cons Get_ok (okG_cons find_ok (okG_cons findRun_ok (okG_cons rfindRun_ok (okG_cons count_ok okG_nil))))))
theorem pureL3 {pf : List Nat} : PureFns (tbl tabL3) pf := pure_of fun g C hm hg => by
  simp only [List.mem_cons, List.not_mem_nil, or_false, Prod.mk.injEq] at hm
  rcases hm with ⟨_, rfl⟩ | ⟨_, rfl⟩ | ⟨_, rfl⟩ | ⟨_, rfl⟩ | ⟨_, rfl⟩ | ⟨_, rfl⟩ | ⟨_, rfl⟩ <;> exact ⟨_, rfl⟩
def runsR (ds : List D) (v : AV) : Prop := ∃ sz ws a b on, ds = [bitsD sz ws, two a b, .bool on] ∧ Ok64 ws ∧ v = .dat (.bool true)
set_option maxRecDepth 8000 in
theorem runs_ok : OkF Tryd.prog 7 (dataC runsR) := by
  refine okF_data Tryd.func7 rfl (by decide) ?_
  rintro ds v ⟨sz, ws, a, b, on, rfl, ho, rfl⟩
  refine sem_of_awp (Γ := tbl tabL3) tabL3_ok _ _ _ ?_
  simp only [go_sem, Tryd.ntmps7]
  refine call_data awakeR (by simp) _ _ rfl ⟨rfl, rfl⟩ (.inl rfl) ?_
  simp only [go_sem]
  refine sem_draw (pf := [24, 25]) (Γ := tbl tabL3) mixed tabL3_ok pureL3 [0, 1, 2, 3, 4, 5, 6, 7, 8, 9, 10, 11, 12, 13, 14, 15] (by kernel_rfl) ?_
  simp only [go_sem, chainI]
  refine call_data fRunR (by simp) _ _ rfl ⟨sz, ws, a, b, on, rfl, ho, rfl⟩ (.inl rfl) ?_
  simp only [go_sem]
  refine call_data fRunR (by simp) _ _ rfl ⟨sz, ws, a, b, on, rfl, ho, rfl⟩ (.inl rfl) ?_
  simp only [go_sem, decide_true]
  exact post_data (.inl rfl) [6] rfl trivial rfl

/-! The law BitsetCounts. -/
theorem getV_bit {n : Nat} {ws : List Nat} (hf : Fine n ws) {i : Nat} (hi : i < n) : getV n ws i = bitAt ws i := by
  unfold getV
  rw [hf.zero, Int.toNat_natCast]
  have h1 : (i : Int) < n := by omega
  have h2 : (0 : Int) ≤ i := by omega
  simp only [h1, h2, decide_true, Bool.true_and]
theorem countV_nat {n : Nat} {ws : List Nat} (hf : Fine n ws) {a b : Nat} (h1 : a ≤ b) (h2 : b ≤ n) : countV n ws a b = (cntR (bitAt ws) a (b - a) : Nat) := by
  unfold countV
  rw [if_neg (by rw [hf.zero]; omega)]
  rfl
theorem countV_bad {sz : Int} {ws : List Nat} {a b : Int} (h : checkV sz ws ≠ 0 ∨ a < 0 ∨ b < a ∨ sz < b) : countV sz ws a b = 0 := by
  unfold countV
  rw [if_pos h]
def countsR (ds : List D) (v : AV) : Prop := ∃ sz ws a b, ds = [bitsD sz ws, .int .i64 a, .int .i64 b] ∧ Ok64 ws ∧ v = .dat (.bool true)
set_option maxRecDepth 8000 in
theorem counts_ok : OkF Tryd.prog 8 (dataC countsR) := by
  refine okF_data Tryd.func8 rfl (by decide) ?_
  rintro ds v ⟨sz, ws, f, t, rfl, ho, rfl⟩
  refine sem_of_awp (Γ := tbl tabL3) tabL3_ok _ _ _ ?_
  simp only [go_sem, Tryd.ntmps8]
  refine call_data awakeR (by simp) _ _ rfl ⟨rfl, rfl⟩ (.inl rfl) ?_
  simp only [go_sem]
  refine call_data chkR (by simp) _ _ rfl ⟨sz, ws, rfl, ho, rfl⟩ (.inl rfl) ?_
  by_cases hbad : checkV sz ws ≠ 0 ∨ f < 0 ∨ t < f ∨ sz < t
  · have hc := countV_bad hbad
    have fin : ∀ (s : List AV), s.getD 3 .top = .ptr 0 0 0 → True := fun _ _ => trivial
    by_cases h0 : checkV sz ws = 0
    · by_cases h2 : f < 0
      · simp only [go_sem, h0, h2, decide_true, Bool.not_true]
        refine call_data countR (by simp) _ _ rfl ⟨sz, ws, f, t, rfl, ho, rfl⟩ (.inl rfl) ?_
        simp only [go_sem, hc, decide_true]
        exact post_data (.inl rfl) [6] rfl trivial rfl
      · by_cases h3 : t < f
        · simp only [go_sem, h0, h2, h3, decide_true, decide_false, Bool.not_true]
          refine call_data countR (by simp) _ _ rfl ⟨sz, ws, f, t, rfl, ho, rfl⟩ (.inl rfl) ?_
          simp only [go_sem, hc, decide_true]
          exact post_data (.inl rfl) [6] rfl trivial rfl
        · have h4 : sz < t := by omega
          simp only [go_sem, h0, h2, h3, h4, decide_true, decide_false, Bool.not_true]
          refine call_data countR (by simp) _ _ rfl ⟨sz, ws, f, t, rfl, ho, rfl⟩ (.inl rfl) ?_
          simp only [go_sem, hc, decide_true]
          exact post_data (.inl rfl) [6] rfl trivial rfl
    · simp only [go_sem, h0, decide_false, Bool.not_false]
      refine call_data countR (by simp) _ _ rfl ⟨sz, ws, f, t, rfl, ho, rfl⟩ (.inl rfl) ?_
      simp only [go_sem, hc, decide_true]
      exact post_data (.inl rfl) [6] rfl trivial rfl
  · have h0 : checkV sz ws = 0 := by omega
    obtain ⟨n, rfl, hf⟩ := checkV_zero ho h0
    have hn := hf.le
    have h2 : ¬ f < 0 := by omega
    have h3 : ¬ t < f := by omega
    have h4 : ¬ (n : Int) < t := by omega
    obtain ⟨a, rfl⟩ : ∃ a : Nat, f = a := ⟨f.toNat, by omega⟩
    obtain ⟨b, rfl⟩ : ∃ b : Nat, t = b := ⟨t.toNat, by omega⟩
    simp only [go_sem, h0, h2, h3, h4, decide_true, decide_false, Bool.not_true]
    refine sem_draw (pf := [26]) (Γ := tbl tabL3) mixed tabL3_ok pureL3 [0, 1, 2, 3, 4, 5, 6, 7, 8, 9, 10, 11] (by kernel_rfl) ?_
    simp only [go_sem, chainI]
    have c1 : countV n ws 0 a = (cntR (bitAt ws) 0 (a - 0) : Nat) := countV_nat hf (Nat.zero_le _) (by omega)
    have c2 : countV n ws a b = (cntR (bitAt ws) a (b - a) : Nat) := countV_nat hf (by omega) (by omega)
    have c3 : countV n ws 0 b = (cntR (bitAt ws) 0 (b - 0) : Nat) := countV_nat hf (Nat.zero_le _) (by omega)
    have hsum : (cntR (bitAt ws) 0 (a - 0) : Int) + (cntR (bitAt ws) a (b - a) : Nat) = (cntR (bitAt ws) 0 (b - 0) : Nat) := by
      have := cntR_add (bitAt ws) 0 a (b - a)
      rw [show a + (b - a) = b by omega, Nat.zero_add] at this
      rw [Nat.sub_zero, Nat.sub_zero, this, Int.natCast_add]
    have hle := cntR_le (bitAt ws) 0 (b - 0)
    refine call_data countR (by simp) _ _ rfl ⟨n, ws, 0, a, rfl, ho, rfl⟩ (.inl rfl) ?_
    simp only [go_sem, c1]
    refine call_data countR (by simp) _ _ rfl ⟨n, ws, a, b, rfl, ho, rfl⟩ (.inl rfl) ?_
    simp only [go_sem, c2, hsum]
    refine ⟨inR_in (by omega), ?_⟩
    refine call_data countR (by simp) _ _ rfl ⟨n, ws, 0, b, rfl, ho, rfl⟩ (.inl rfl) ?_
    simp only [go_sem, c3, decide_true, Bool.not_true]
    refine sem_draw (pf := [26, 19]) (Γ := tbl tabL3) mixed tabL3_ok pureL3 [0, 1, 2, 3, 4, 5, 6, 7, 8, 9, 10, 11, 12, 13, 14, 15, 16] (by kernel_rfl) ?_
    by_cases he : (a : Int) = n
    · simp only [go_sem, chainI, he, decide_true]
      exact post_data (.inl rfl) [6] rfl trivial rfl
    · have hl : a < n := by omega
      have e1 : ((a : Int) + 1) = ((a + 1 : Nat) : Int) := by omega
      have c4 : countV n ws a ((a : Int) + 1) = (cntR (bitAt ws) a (a + 1 - a) : Nat) := by rw [e1]; exact countV_nat hf (by omega) (by omega)
      have c5 : cntR (bitAt ws) a (a + 1 - a) = (bitAt ws a).toNat := by
        rw [show a + 1 - a = 1 by omega]
        simp [cntR]
      have hg := getV_bit hf hl
      simp only [go_sem, chainI, he, decide_false]
      refine ⟨inR_i64.2 (by omega), ?_⟩
      refine call_data countR (by simp) _ _ rfl ⟨n, ws, a, (a : Int) + 1, rfl, ho, rfl⟩ (.inl rfl) ?_
      simp only [go_sem, c4, c5]
      refine call_data getR (by simp) _ _ rfl ⟨n, ws, a, rfl, ho, inR_in (by omega), rfl⟩ (.inl rfl) ?_
      have hq : (decide (((bitAt ws a).toNat : Int) = 1) == bitAt ws a) = true := by cases bitAt ws a <;> rfl
      simp only [go_sem, hg, hq]
      exact post_data (.inl rfl) [6] rfl trivial rfl
end Go.AM

namespace Go.AM
open Go Go.Proofs

/-! The law BitsetFinds. -/
theorem findFrom_spec {p : Nat → Bool} : ∀ (m i : Nat), (findFrom p i m = -1 ∧ ∀ j, i ≤ j → j < i + m → p j = false) ∨ ∃ q : Nat, findFrom p i m = (q : Int) ∧ i ≤ q ∧ q < i + m ∧ p q = true ∧ ∀ j, i ≤ j → j < q → p j = false
  | 0, i => .inl ⟨rfl, fun j h1 h2 => by omega⟩
  | m + 1, i => by
    by_cases h : p i = true
    · exact .inr ⟨i, by simp only [findFrom]; rw [if_pos h], Nat.le_refl _, by omega, h, fun j h1 h2 => by omega⟩
    · have hf : p i = false := by simpa using h
      have e : findFrom p i (m + 1) = findFrom p (i + 1) m := by simp only [findFrom]; rw [if_neg h]
      rw [e]
      rcases findFrom_spec (p := p) m (i + 1) with ⟨h1, h2⟩ | ⟨q, h1, h2, h3, h4, h5⟩
      · exact .inl ⟨h1, fun j g1 g2 => by
          by_cases ej : j = i
          · subst ej; exact hf
          · exact h2 j (by omega) (by omega)⟩
      · exact .inr ⟨q, h1, by omega, by omega, h4, fun j g1 g2 => by
          by_cases ej : j = i
          · subst ej; exact hf
          · exact h5 j (by omega) g2⟩

def findsR (ds : List D) (v : AV) : Prop := ∃ sz ws f on, ds = [bitsD sz ws, .int .i64 f, .bool on] ∧ Ok64 ws ∧ v = .dat (.bool true)
set_option maxRecDepth 8000 in
theorem finds_ok : OkF Tryd.prog 6 (dataC findsR) := by
  refine okF_data Tryd.func6 rfl (by decide) ?_
  rintro ds v ⟨sz, ws, f, on, rfl, ho, rfl⟩
  refine sem_of_awp (Γ := tbl tabL3) tabL3_ok _ _ _ ?_
  simp only [go_sem, Tryd.ntmps6]
  refine call_data awakeR (by simp) _ _ rfl ⟨rfl, rfl⟩ (.inl rfl) ?_
  simp only [go_sem]
  refine call_data findR (by simp) _ _ rfl ⟨sz, ws, f, on, rfl, ho, rfl⟩ (.inl rfl) ?_
  simp only [go_sem]
  refine call_data chkR (by simp) _ _ rfl ⟨sz, ws, rfl, ho, rfl⟩ (.inl rfl) ?_
  by_cases hbad : checkV sz ws ≠ 0 ∨ f < 0 ∨ sz ≤ f
  · have hc : findV sz ws f on = -1 := by unfold findV; rw [if_pos hbad]
    by_cases h0 : checkV sz ws = 0
    · obtain ⟨n, rfl, hf⟩ := checkV_zero ho h0
      have hn := hf.le
      have h1 : ¬ 4096 < (n : Int) := by omega
      by_cases h2 : f < 0
      · simp only [go_sem, h0, h1, h2, hc, decide_true, decide_false, Bool.not_true]
        exact post_data (.inl rfl) [6] rfl trivial rfl
      · have h3 : (n : Int) ≤ f := by omega
        simp only [go_sem, h0, h1, h2, h3, hc, decide_true, decide_false, Bool.not_true]
        exact post_data (.inl rfl) [6] rfl trivial rfl
    · simp only [go_sem, h0, hc, decide_true, decide_false, Bool.not_false]
      exact post_data (.inl rfl) [6] rfl trivial rfl
  · have h0 : checkV sz ws = 0 := by omega
    obtain ⟨n, rfl, hf⟩ := checkV_zero ho h0
    have hn := hf.le
    have h1 : ¬ 4096 < (n : Int) := by omega
    have h2 : ¬ f < 0 := by omega
    have h3 : ¬ (n : Int) ≤ f := by omega
    obtain ⟨a, rfl⟩ : ∃ a : Nat, f = a := ⟨f.toNat, by omega⟩
    have hv : findV n ws a on = findFrom (fun i => bitAt ws i == on) a (n - a) := by unfold findV; rw [if_neg (by simp only [h0]; omega)]; rfl
    -- what is left: the loop
    have loop : ∀ (p : Int), (p = -1 ∧ ∀ j, a ≤ j → j < n → (bitAt ws j == on) = false) ∨ (∃ q : Nat, p = q ∧ a ≤ q ∧ q < n ∧ ∀ j, a ≤ j → j < q → (bitAt ws j == on) = false) →
        ∀ k : Nat, a ≤ k → k ≤ n → (∀ q : Nat, p = q → k ≤ q) → ((k : Int) < n → (k : Int) ≠ p → (bitAt ws k == on) = false ∧ ∀ q : Nat, p = q → k + 1 ≤ q) := by
      intro p hp k g1 g2 g3 g4 g5
      rcases hp with ⟨rfl, h⟩ | ⟨q, rfl, h5, h6, h7⟩
      · exact ⟨h k g1 (by omega), fun q e => by omega⟩
      · have := g3 q rfl
        exact ⟨h7 k g1 (by omega), fun q' e => by omega⟩
    have core := findFrom_spec (p := fun i => bitAt ws i == on) (n - a) a
    rw [← hv] at core
    generalize findV n ws a on = p at *
    have hp : (p = -1 ∧ ∀ j, a ≤ j → j < n → (bitAt ws j == on) = false) ∨ (∃ q : Nat, p = q ∧ a ≤ q ∧ q < n ∧ ∀ j, a ≤ j → j < q → (bitAt ws j == on) = false) := by
      rcases core with ⟨e1, e2⟩ | ⟨q, e1, e2, e3, e4, e5⟩
      · exact .inl ⟨e1, fun j g1 g2 => e2 j g1 (by omega)⟩
      · exact .inr ⟨q, e1, e2, by omega, e5⟩
    have h5 : ¬ p < -1 := by omega
    have h6 : ¬ (n : Int) ≤ p := by
      rcases hp with ⟨rfl, _⟩ | ⟨q, rfl, _, g, _⟩ <;> omega
    have hloop := loop p hp
    have hq : (0 ≤ p ∧ ¬ p < (a : Int) ∧ getV n ws p = on) ∨ ¬ 0 ≤ p := by
      rcases core with ⟨e1, e2⟩ | ⟨q, e1, e2, e3, e4, e5⟩
      · right; omega
      · left
        subst e1
        refine ⟨by omega, by omega, ?_⟩
        rw [getV_bit hf (by omega)]
        simpa using e4
    have hpR : inR .i64 p := by
      rcases hp with ⟨rfl, _⟩ | ⟨q, rfl, _, g, _⟩
      · exact inR_i64.2 (by decide)
      · exact inR_in (by omega)
    have hstart : ∀ q : Nat, p = q → a ≤ q := fun q e => by
      rcases hp with ⟨rfl, _⟩ | ⟨q', e2, g, _, _⟩
      · omega
      · omega
    rcases hq with ⟨q1, q2, q3⟩ | q1
    · simp only [go_sem, h0, h1, h2, h3, h5, h6, q1, q2, decide_true, decide_false, Bool.not_true]
      refine call_data getR (by simp) _ _ rfl ⟨n, ws, p, rfl, ho, hpR, rfl⟩ (.inl rfl) ?_
      have hb : (on == on) = true := by cases on <;> rfl
      simp only [go_sem, q3, hb, Bool.not_true]
      refine sem_loop (fun k : Nat => ⟨slotsOf 76 [(1, .dat (.int .i64 a)), (2, .dat (.bool on)), (3, .ptr 0 0 0), (6, .dat (.bool false)), (7, .dat (.int .i64 p)), (8, .dat (.int .i64 k))], [.box [.dat (.int .i64 n), .dat (.sl none (us ws))]], 0, []⟩)
        (fun k => a ≤ k ∧ k ≤ n ∧ ∀ q : Nat, p = q → k ≤ q) (fun k => n - k) a ⟨Nat.le_refl _, by omega, hstart⟩ ?_ ?_
      · exact le_slots' (by simp only [go_sem])
      · rintro k ⟨g1, g2, g3⟩
        refine sem_of_awp (Γ := tbl tabL3) tabL3_ok _ _ _ ?_
        by_cases hk : (k : Int) < n
        · by_cases hkp : (k : Int) = p
          · have hpn : p < (n : Int) := by omega
            simp only [go_sem, hkp, hpn, eq_self, decide_true, Bool.not_true]
            exact post_data (.inl rfl) [6] rfl trivial rfl
          · obtain ⟨r1, r2⟩ := hloop k g1 g2 g3 hk hkp
            simp only [go_sem, hk, hkp, decide_true, decide_false, Bool.not_false]
            refine call_data getR (by simp) _ _ rfl ⟨n, ws, k, rfl, ho, inR_in (by omega), rfl⟩ (.inl rfl) ?_
            have hgk := getV_bit hf (show k < n by omega)
            simp only [go_sem, hgk, r1]
            exact ⟨inR_i64.2 (by omega), k + 1, ⟨by omega, by omega, r2⟩, by omega, le_slots' (by simp only [go_sem, Int.natCast_add, Int.cast_ofNat_Int])⟩
        · simp only [go_sem, hk, decide_false]
          exact post_data (.inl rfl) [6] rfl trivial rfl
    · simp only [go_sem, h0, h1, h2, h3, h5, h6, q1, decide_true, decide_false, Bool.not_true]
      refine sem_loop (fun k : Nat => ⟨slotsOf 76 [(1, .dat (.int .i64 a)), (2, .dat (.bool on)), (3, .ptr 0 0 0), (6, .dat (.bool false)), (7, .dat (.int .i64 p)), (8, .dat (.int .i64 k))], [.box [.dat (.int .i64 n), .dat (.sl none (us ws))]], 0, []⟩)
        (fun k => a ≤ k ∧ k ≤ n ∧ ∀ q : Nat, p = q → k ≤ q) (fun k => n - k) a ⟨Nat.le_refl _, by omega, hstart⟩ ?_ ?_
      · exact le_slots' (by simp only [go_sem])
      · rintro k ⟨g1, g2, g3⟩
        refine sem_of_awp (Γ := tbl tabL3) tabL3_ok _ _ _ ?_
        by_cases hk : (k : Int) < n
        · by_cases hkp : (k : Int) = p
          · have hpn : p < (n : Int) := by omega
            simp only [go_sem, hkp, hpn, eq_self, decide_true, Bool.not_true]
            exact post_data (.inl rfl) [6] rfl trivial rfl
          · obtain ⟨r1, r2⟩ := hloop k g1 g2 g3 hk hkp
            simp only [go_sem, hk, hkp, decide_true, decide_false, Bool.not_false]
            refine call_data getR (by simp) _ _ rfl ⟨n, ws, k, rfl, ho, inR_in (by omega), rfl⟩ (.inl rfl) ?_
            have hgk := getV_bit hf (show k < n by omega)
            simp only [go_sem, hgk, r1]
            exact ⟨inR_i64.2 (by omega), k + 1, ⟨by omega, by omega, r2⟩, by omega, le_slots' (by simp only [go_sem, Int.natCast_add, Int.cast_ofNat_Int])⟩
        · simp only [go_sem, hk, decide_false]
          exact post_data (.inl rfl) [6] rfl trivial rfl
end Go.AM

