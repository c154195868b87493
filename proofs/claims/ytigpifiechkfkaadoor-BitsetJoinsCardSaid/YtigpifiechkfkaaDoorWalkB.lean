/- Own work over the model of the kit. -/
import Derived.Test.YtigpifiechkfkaaDoorWalkA
import Derived.Test.YtigpifiechkfkaaDoorLibH
set_option linter.unusedSimpArgs false
set_option linter.unusedVariables false
namespace Go.AM
open Go Go.Proofs

/-! Fill. -/
/-- The bits of a filled range. -/
def fillB (ws : List Nat) (f t : Nat) (on : Bool) (i : Nat) : Bool := if f ≤ i ∧ i < t then on else bitAt ws i
def fillW (ws : List Nat) (f t : Nat) (on : Bool) : List Nat := mk ws.length (fillB ws f t on)
noncomputable def fillV (sz : Int) (ws : List Nat) (f t : Int) (on : Bool) : AV :=
  if checkV sz ws ≠ 0 then pairV 0 [] (checkV sz ws) else if f < 0 ∨ t < f ∨ sz < t then pairV 0 [] 2 else pairV sz (fillW ws f.toNat t.toNat on) 0
def fillR (ds : List D) (v : AV) : Prop := ∃ sz ws f t on, ds = [bitsD sz ws, .int .i64 f, .int .i64 t, .bool on] ∧ Ok64 ws ∧ v = fillV sz ws f t on

theorem fill_step {ws : List Nat} {a k e : Nat} {on : Bool} {x : Nat} (h1 : a ≤ k) (h2 : k < e) (h3 : e ≤ (k / 64 + 1) * 64) (h4 : k / 64 < ws.length) (hx : x < 18446744073709551616)
    (hb : ∀ j, j < 64 → x.testBit j = if k % 64 ≤ j ∧ j < e - k / 64 * 64 then on else ((fillW ws a k on).getD (k / 64) 0).testBit j) : (fillW ws a k on).set (k / 64) x = fillW ws a e on := by
  refine mk_set hx (fun j hj => ?_) (fun i hi hne => ?_)
  · rw [hb j hj]
    have e1 : ((fillW ws a k on).getD (k / 64) 0).testBit j = fillB ws a k on (64 * (k / 64) + j) := by
      rw [bit_word _ _ _ hj, fillW, mk_bit]
      have : 64 * (k / 64) + j < 64 * ws.length := by omega
      simp [this]
    rw [e1]
    unfold fillB
    by_cases h : k % 64 ≤ j ∧ j < e - k / 64 * 64
    · rw [if_pos h, if_pos (by omega)]
    · rw [if_neg h]
      by_cases h5 : a ≤ 64 * (k / 64) + j ∧ 64 * (k / 64) + j < k
      · rw [if_pos h5, if_pos (by omega)]
      · rw [if_neg h5, if_neg (by omega)]
  · unfold fillB
    by_cases h5 : a ≤ i ∧ i < k
    · rw [if_pos h5, if_pos (by omega)]
    · rw [if_neg h5, if_neg (by omega)]

abbrev tabF : List (Nat × Contract) := [(14, dataC chkR), (38, madeC cloneR), (39, dataC maskR)]
theorem tabF_ok : OkG Tryd.prog (tbl tabF) := okG_cons check_ok (okG_cons clone_ok (okG_cons mask_ok okG_nil))
theorem makeF : MakeFns (tbl tabF) [38] := by
  rintro g args own v own' mv hg ⟨C, hm, hC⟩
  simp [dynF] at hg
  subst hg
  simp at hm
  subst hm
  obtain ⟨_, _, ob, _, _, _, _, h1, h2⟩ := hC
  exact ⟨⟨_, h1⟩, h2⟩

theorem fill_ok : OkF Tryd.prog 21 (dataC fillR) := by
  refine okF_data Tryd.func21 rfl (by decide) ?_
  rintro ds v ⟨sz, ws, f, t, on, rfl, ho, rfl⟩
  refine sem_of_awpK [7] (Γ := tbl tabF) tabF_ok _ _ _ ?_
  simp only [go_sem, Tryd.ntmps21]
  refine call_data chkR (by simp) _ _ rfl ⟨sz, ws, rfl, ho, rfl⟩ (.inl rfl) ?_
  by_cases h0 : checkV sz ws = 0
  · obtain ⟨n, rfl, hf⟩ := checkV_zero ho h0
    have hn := hf.le; have hl := hf.len
    by_cases h1 : f < 0 ∨ t < f ∨ (n : Int) < t
    · have hv : fillV n ws f t on = pairV 0 [] 2 := by unfold fillV; rw [if_neg (by simp [h0]), if_pos h1]
      rw [hv]
      have fin : ∀ s own, s.getD 8 .top = .ptr 1 0 0 → own.getD 1 .dead = .box [.dat (.int .i64 0), .nils] → s.getD 9 .top = .dat (.int .i64 2) → post Tryd.prog Tryd.f21 (pairV 0 [] 2) [] [] .ret ⟨s, own, 0, []⟩ := fun s own e1 e2 e3 => by
        refine post_res (.inl rfl) [.cell 8 24, .tmp 9] rfl ?_
        simp only [go_sem, e1, e2, e3]
        exact le_fin (by simp only [go_sem, pairV, bitsD, us, List.map_nil]) (by simp only [go_sem, pairV])
      by_cases h2 : f < 0
      · simp only [go_sem, h0, h2, decide_true, Bool.not_true]
        exact fin _ _ (by rfl) (by rfl) (by rfl)
      · by_cases h3 : t < f
        · simp only [go_sem, h0, h2, h3, decide_true, decide_false, Bool.not_true]
          exact fin _ _ (by rfl) (by rfl) (by rfl)
        · have h4 : (n : Int) < t := by omega
          simp only [go_sem, h0, h2, h3, h4, decide_true, decide_false, Bool.not_true]
          exact fin _ _ (by rfl) (by rfl) (by rfl)
    · have h2 : ¬ f < 0 := by omega
      have h3 : ¬ t < f := by omega
      have h4 : ¬ (n : Int) < t := by omega
      obtain ⟨a, rfl⟩ : ∃ a : Nat, f = a := ⟨f.toNat, by omega⟩
      obtain ⟨b, rfl⟩ : ∃ b : Nat, t = b := ⟨t.toNat, by omega⟩
      have hv : fillV n ws a b on = pairV n (fillW ws a b on) 0 := by unfold fillV; rw [if_neg (by simp [h0]), if_neg h1]; rfl
      rw [hv]
      simp only [go_sem, h0, h2, h3, h4, decide_true, decide_false, Bool.not_true]
      refine sem_drawB (ob := 0) (pf := []) (mf := [38]) (ms := []) mixed tabF_ok pure0 makeF [0, 1, 2, 3] 4 6 [5, 6, 7] [4, 5, 7] (by kernel_rfl) ?_
      simp only [go_sem, chainM, opm]
      have h64 : ws.length ≤ 64 := by omega
      apply both_of
      · intro h
        refine call_made cloneR (by simp) _ _ _ rfl rfl ⟨ws, h64, rfl, rfl, rfl⟩ ?_
        simp only [go_sem, AV.shift, Obj.shift, AV.shifts]
        exact h
      · intro h
        refine call_made cloneR (by simp) _ _ _ rfl rfl ⟨ws, h64, rfl, rfl, rfl⟩ ?_
        simp only [go_sem, AV.shift, Obj.shift, AV.shifts]
        exact sem_le (le_swp 2 3 (by decide : (2 : Nat) < 4) (by decide : (3 : Nat) < 4) rfl rfl) h
      · refine sem_of_awp (Γ := tbl tabF) tabF_ok _ _ _ ?_
        simp only [go_sem]
        refine sem_loop (fun k : Nat => ⟨slotsOf 79 [(1, .dat (.int .i64 a)), (2, .dat (.int .i64 b)), (3, .dat (.bool on)), (4, .ptr 0 0 0), (8, .ptr 1 0 0), (9, .dat (.int .i64 0)), (11, .ptr 3 0 0), (12, .dat (.int .i64 k))],
            [.box [.dat (.int .i64 n), .dat (.sl none (us ws))], .box [.dat (.int .i64 0), .nils], .row none (us (fillW ws a k on)), .box [.dat (.int .i64 n), .sl 2 0 ws.length]], 0, []⟩)
          (fun k => a ≤ k ∧ k ≤ b) (fun k => b - k) a ⟨Nat.le_refl _, by omega⟩ ?_ ?_
        · have e : fillW ws a a on = ws := by
            conv => rhs; rw [mk_self ho]
            refine mk_congr fun i _ => ?_
            unfold fillB
            rw [if_neg (by omega)]
          rw [e]
          exact le_slots' (by simp only [go_sem])
        · rintro k ⟨hk1, hk2⟩
          refine sem_of_awp (Γ := tbl tabF) tabF_ok _ _ _ ?_
          by_cases hk : (k : Int) < b
          · have hk' : k < b := by omega
            simp only [go_sem, hk, decide_true, tdiv64, tmod64]
            obtain ⟨e, he⟩ : ∃ e, e = min b ((k / 64 + 1) * 64) := ⟨_, rfl⟩
            have emin : min (b : Int) ((((k / 64 : Nat) : Int) + 1) * 64) = (e : Int) := by omega
            have ed : (e : Int) - ((k / 64 : Nat) : Int) * 64 = ((e - k / 64 * 64 : Nat) : Int) := by omega
            have hlen : (fillW ws a k on).length = ws.length := mk_len _ _
            have hq : k / 64 < ws.length := by omega
            have hq1 : k / 64 < (fillW ws a k on).length := by omega
            have hq2 : ((k / 64 : Nat) : Int) < ws.length := by omega
            have hwo : (fillW ws a k on).getD (k / 64) 0 < 18446744073709551616 := (mk_ok _ _).get _
            rw [emin, ed]
            refine ⟨inR_in (by omega), inR_i64.2 (by omega), inR_i64.2 (by omega), inR_in (by omega), inR_i64.2 (by omega), inR_in (by omega), ?_⟩
            refine call_data maskR (by simp) _ _ rfl ⟨k % 64, e - k / 64 * 64, rfl, by omega, by omega, rfl⟩ (.inl rfl) ?_
            have hmb : ∀ j, j < 64 → (maskV (k % 64) (e - k / 64 * 64)).testBit j = decide (k % 64 ≤ j ∧ j < e - k / 64 * 64) := fun j hj => by rw [maskV_bit _ _ hj]; simp
            cases on
            · have hst := fill_step (on := false) hk1 (by omega : k < e) (by omega) hq (x := andN ((fillW ws a k false).getD (k / 64) 0) (maskV (k % 64) (e - k / 64 * 64))) (andN_lt hwo) (fun j hj => by
                rw [andN_bit hwo (maskV_lt _ _), hmb j hj]
                split <;> rename_i h <;> simp [h])
              have hset : (us (fillW ws a k false)).set (k / 64) (.int .u64 ((andN ((fillW ws a k false).getD (k / 64) 0) (maskV (k % 64) (e - k / 64 * 64)) : Nat) : Int)) = us (fillW ws a e false) := by rw [← hst]; simp [us, List.map_set]
              simp only [go_sem, nth_us hq1, hq2, Int.natCast_nonneg, Int.toNat_natCast, List.length_map, hlen, bits_andNot hwo (maskV_lt _ _), hset]
              exact ⟨hq, hq, e, ⟨by omega, by omega⟩, by omega, le_slots' (by simp only [go_sem])⟩
            · have hst := fill_step (on := true) hk1 (by omega : k < e) (by omega) hq (x := (fillW ws a k true).getD (k / 64) 0 ||| maskV (k % 64) (e - k / 64 * 64)) (Nat.or_lt_two_pow (n := 64) hwo (maskV_lt _ _)) (fun j hj => by
                rw [Nat.testBit_or, hmb j hj]
                split <;> rename_i h <;> simp [h])
              have hset : (us (fillW ws a k true)).set (k / 64) (.int .u64 (((fillW ws a k true).getD (k / 64) 0 ||| maskV (k % 64) (e - k / 64 * 64) : Nat) : Int)) = us (fillW ws a e true) := by rw [← hst]; simp [us, List.map_set]
              simp only [go_sem, nth_us hq1, hq2, Int.natCast_nonneg, Int.toNat_natCast, List.length_map, hlen, bits_or hwo (maskV_lt _ _), hset]
              exact ⟨hq, hq, e, ⟨by omega, by omega⟩, by omega, le_slots' (by simp only [go_sem])⟩
          · have hk' : k = b := by omega
            subst hk'
            simp only [go_sem, hk, decide_false]
            refine post_res (.inl rfl) [.cell 8 24, .tmp 9] rfl ?_
            simp only [go_sem]
            have hlen : (fillW ws a k on).length = ws.length := mk_len _ _
            refine Le.trans (le_freeze 2 (ag := none) (xs := us (fillW ws a k on)) rfl (Nat.zero_le _)) ?_
            simp only [go_sem, List.length_map, hlen, List.drop_zero, Nat.le_refl, if_true]
            have e1 : List.take ws.length (us (fillW ws a k on)) = us (fillW ws a k on) := List.take_of_length_le (by rw [List.length_map, hlen]; exact Nat.le_refl _)
            exact le_fin (by simp only [go_sem, pairV, bitsD, e1]) (by simp only [go_sem, pairV])
  · have hv : fillV sz ws f t on = pairV 0 [] (checkV sz ws) := by unfold fillV; rw [if_pos h0]
    rw [hv]
    simp only [go_sem, h0, decide_false, Bool.not_false]
    refine post_res (.inl rfl) [.cell 8 24, .tmp 9] rfl ?_
    simp only [go_sem]
    exact le_fin (by simp only [go_sem, pairV, bitsD, us, List.map_nil]) (by simp only [go_sem, pairV])

end Go.AM

namespace Go.AM
open Go Go.Proofs

/-! Set. -/
noncomputable def setV (sz : Int) (ws : List Nat) (i : Int) (on : Bool) : AV :=
  if checkV sz ws ≠ 0 then pairV 0 [] (checkV sz ws) else if i < 0 ∨ sz ≤ i then pairV 0 [] 2 else pairV sz (fillW ws i.toNat (i.toNat + 1) on) 0
def setR (ds : List D) (v : AV) : Prop := ∃ sz ws i on, ds = [bitsD sz ws, .int .i64 i, .bool on] ∧ Ok64 ws ∧ v = setV sz ws i on
abbrev tabS : List (Nat × Contract) := [(14, dataC chkR), (21, dataC fillR)]
theorem tabS_ok : OkG Tryd.prog (tbl tabS) := okG_cons check_ok (okG_cons fill_ok okG_nil)
theorem set_ok : OkF Tryd.prog 17 (dataC setR) := by
  refine okF_data Tryd.func17 rfl (by decide) ?_
  rintro ds v ⟨sz, ws, i, on, rfl, ho, rfl⟩
  refine sem_of_awp (Γ := tbl tabS) tabS_ok _ _ _ ?_
  simp only [go_sem, Tryd.ntmps17]
  refine call_data chkR (by simp) _ _ rfl ⟨sz, ws, rfl, ho, rfl⟩ (.inl rfl) ?_
  by_cases h0 : checkV sz ws = 0
  · obtain ⟨n, rfl, hf⟩ := checkV_zero ho h0
    have hn := hf.le; have hl := hf.len
    by_cases h1 : i < 0 ∨ (n : Int) ≤ i
    · have hv : setV n ws i on = pairV 0 [] 2 := by unfold setV; rw [if_neg (by simp [h0]), if_pos h1]
      rw [hv]
      have fin : ∀ s own, s.getD 6 .top = .ptr 1 0 0 → own.getD 1 .dead = .box [.dat (.int .i64 0), .nils] → s.getD 7 .top = .dat (.int .i64 2) → post Tryd.prog Tryd.f17 (pairV 0 [] 2) [] [] .ret ⟨s, own, 0, []⟩ := fun s own e1 e2 e3 => by
        refine post_res (.inl rfl) [.cell 6 24, .tmp 7] rfl ?_
        simp only [go_sem, e1, e2, e3]
        exact le_fin (by simp only [go_sem, pairV, bitsD, us, List.map_nil]) (by simp only [go_sem, pairV])
      by_cases h2 : i < 0
      · simp only [go_sem, h0, h2, decide_true, Bool.not_true]
        exact fin _ _ (by rfl) (by rfl) (by rfl)
      · have h3 : (n : Int) ≤ i := by omega
        simp only [go_sem, h0, h2, h3, decide_true, decide_false, Bool.not_true]
        exact fin _ _ (by rfl) (by rfl) (by rfl)
    · have h2 : ¬ i < 0 := by omega
      have h3 : ¬ (n : Int) ≤ i := by omega
      obtain ⟨a, rfl⟩ : ∃ a : Nat, i = a := ⟨i.toNat, by omega⟩
      have hv : setV n ws a on = pairV n (fillW ws a (a + 1) on) 0 := by unfold setV; rw [if_neg (by simp [h0]), if_neg h1]; rfl
      have hv2 : pairV n (fillW ws a (a + 1) on) 0 = fillV n ws a ((a : Int) + 1) on := by unfold fillV; rw [if_neg (by simp [h0]), if_neg (by omega)]; rfl
      rw [hv]
      simp only [go_sem, h0, h2, h3, decide_true, decide_false, Bool.not_true]
      refine ⟨inR_i64.2 (by omega), call_data fillR (by simp) _ _ rfl ⟨n, ws, a, (a : Int) + 1, on, rfl, ho, hv2⟩ (.inl rfl) ?_⟩
      simp only [go_sem, pairV, bitsD]
      refine post_res (.inl rfl) [.cell 6 24, .tmp 7] rfl ?_
      simp only [go_sem]
      exact le_fin (by simp only [go_sem, pairV, bitsD]) (by simp only [go_sem, pairV])
  · have hv : setV sz ws i on = pairV 0 [] (checkV sz ws) := by unfold setV; rw [if_pos h0]
    rw [hv]
    simp only [go_sem, h0, decide_false, Bool.not_false]
    refine post_res (.inl rfl) [.cell 6 24, .tmp 7] rfl ?_
    simp only [go_sem]
    exact le_fin (by simp only [go_sem, pairV, bitsD, us, List.map_nil]) (by simp only [go_sem, pairV])
end Go.AM

namespace Go.AM
open Go Go.Proofs

/-! ref.put: one bit, in place. -/
def putR (xs : List AV) (obs : List Obj) (v0 : AV) (obs' ex : List Obj) (mv0 : List Nat) : Prop := ∃ (sz : Int) (ws : List Nat) (i : Nat) (on : Bool), Ok64 ws ∧ ws.length ≤ 64 ∧ i < 64 * ws.length ∧
  xs = [.agg [.dat (.int .i64 sz), .sl 0 0 ws.length], .dat (.int .i64 i), .dat (.bool on)] ∧ obs = [.row none (us ws)] ∧ v0 = .tup [] ∧ obs' = [.row none (us (fillW ws i (i + 1) on))] ∧ ex = [] ∧ mv0 = []

theorem pow_lt64 {m : Nat} (hm : m < 64) : 2 ^ m < 18446744073709551616 := by
  have h2 : 2 ^ m ≤ 2 ^ 63 := Nat.pow_le_pow_right (by decide) (by omega)
  omega
theorem shl_one {m : Nat} (hm : m < 64) : shlV .u64 1 (m : Int) = ((2 ^ m : Nat) : Int) := by
  have := shl_nat (a := 1) m (by decide)
  rw [Nat.min_eq_left (by omega), Nat.one_mul, Nat.mod_eq_of_lt (pow_lt64 hm)] at this
  exact this
theorem fillW_none (ws : List Nat) (ho : Ok64 ws) (a : Nat) (on : Bool) : fillW ws a a on = ws := by
  conv => rhs; rw [mk_self ho]
  refine mk_congr fun i _ => ?_
  unfold fillB
  rw [if_neg (by omega)]

theorem put_ok : OkF Tryd.prog 36 (lentC putR) := by
  refine okF_lent Tryd.func36 rfl (by decide) ?_
  rintro xs obs v0 obs' ex mv0 ⟨sz, ws, i, on, ho, hl, hi, rfl, rfl, rfl, rfl, rfl, rfl⟩
  refine sem_of_awp (Γ := tbl []) okG_nil _ _ _ ?_
  have hc : IntKind.u64.wrap ((i % 64 : Nat) : Int) = ((i % 64 : Nat) : Int) := by rw [wrap_u64']; omega
  have hsh := shl_one (m := i % 64) (by omega)
  have hp := pow_lt64 (m := i % 64) (by omega)
  have hq : i / 64 < ws.length := by omega
  have hq2 : ((i / 64 : Nat) : Int) < ws.length := by omega
  have hwo := ho.get (i / 64)
  have hbit : ∀ j, (2 ^ (i % 64)).testBit j = decide (i % 64 ≤ j ∧ j < i + 1 - i / 64 * 64) := fun j => by
    rw [Nat.testBit_two_pow]
    by_cases h : i % 64 = j
    · simp [h]; omega
    · simp only [h, decide_false]
      symm
      rw [decide_eq_false_iff_not]
      omega
  have hst := fun x h1 h2 => fill_step (ws := ws) (a := i) (k := i) (e := i + 1) (on := on) (x := x) (Nat.le_refl _) (Nat.lt_succ_self _) (by omega) hq h1 h2
  rw [fillW_none ws ho] at hst
  simp only [go_sem, Tryd.ntmps36, tmod64, tdiv64, hc, hsh, Int.natCast_nonneg, true_and]
  refine ⟨inR_in (by omega), fun h => ?_, fun h => ?_⟩
  · subst h
    refine sem_drawM (ob := 0) (pf := []) (mf := []) (ms := []) mixed okG_nil pure0 noMk [0, 1, 2, 3, 4, 5, 6, 7, 8, 9, 10, 11, 12, 13] (by kernel_rfl) ?_
    have e := hst (ws.getD (i / 64) 0 ||| 2 ^ (i % 64)) (Nat.or_lt_two_pow (n := 64) hwo hp) (fun j hj => by
      rw [Nat.testBit_or, hbit j]
      split <;> rename_i h <;> simp [h])
    have hset : (us ws).set (i / 64) (.int .u64 ((ws.getD (i / 64) 0 ||| 2 ^ (i % 64) : Nat) : Int)) = us (fillW ws i (i + 1) true) := by rw [← e]; simp [us, List.map_set]
    simp only [go_sem, chainM, opm, tmod64, tdiv64, nth_us hq, hq2, Int.natCast_nonneg, Int.toNat_natCast, List.length_map, true_and, bits_or hwo hp, hset]
    refine ⟨inR_in (by omega), inR_in (by omega), hq, hq, ?_⟩
    refine post_resO (.inr rfl) [] rfl (fun _ h => h) ?_
    simp only [go_sem]
    exact le_end (own := [_]) (ex := [_]) (Nat.le_refl _) (by simp only [go_sem]) (by simp only [go_sem]) (by simp only [go_sem])
  · subst h
    refine sem_drawM (ob := 0) (pf := []) (mf := []) (ms := []) mixed okG_nil pure0 noMk [0, 1, 2, 3, 4, 5, 6, 7, 8, 9, 10, 11, 12, 13] (by kernel_rfl) ?_
    have e := hst (andN (ws.getD (i / 64) 0) (2 ^ (i % 64))) (andN_lt hwo) (fun j hj => by
      rw [andN_bit hwo hp, hbit j]
      split <;> rename_i h <;> simp [h])
    have hset : (us ws).set (i / 64) (.int .u64 ((andN (ws.getD (i / 64) 0) (2 ^ (i % 64)) : Nat) : Int)) = us (fillW ws i (i + 1) false) := by rw [← e]; simp [us, List.map_set]
    simp only [go_sem, chainM, opm, tmod64, tdiv64, nth_us hq, hq2, Int.natCast_nonneg, Int.toNat_natCast, List.length_map, true_and, bits_andNot hwo hp, hset]
    refine ⟨inR_in (by omega), inR_in (by omega), hq, hq, ?_⟩
    refine post_resO (.inr rfl) [] rfl (fun _ h => h) ?_
    simp only [go_sem]
    exact le_end (own := [_]) (ex := [_]) (Nat.le_refl _) (by simp only [go_sem]) (by simp only [go_sem]) (by simp only [go_sem])

abbrev tabRS : List (Nat × Contract) := [(15, dataC chkR), (35, madeC copyR), (36, lentC putR)]
theorem tabRS_ok : OkG Tryd.prog (tbl tabRS) := okG_cons rcheck_ok (okG_cons copy_ok (okG_cons put_ok okG_nil))
theorem rset_ok : OkF Tryd.prog 18 (dataC setR) := by
  refine okF_data Tryd.func18 rfl (by decide) ?_
  rintro ds v ⟨sz, ws, i, on, rfl, ho, rfl⟩
  refine sem_of_awp (Γ := tbl tabRS) tabRS_ok _ _ _ ?_
  simp only [go_sem, Tryd.ntmps18]
  refine call_data chkR (by simp) _ _ rfl ⟨sz, ws, rfl, ho, rfl⟩ (.inl rfl) ?_
  by_cases h0 : checkV sz ws = 0
  · obtain ⟨n, rfl, hf⟩ := checkV_zero ho h0
    have hn := hf.le; have hl := hf.len
    by_cases h1 : i < 0 ∨ (n : Int) ≤ i
    · have hv : setV n ws i on = pairV 0 [] 2 := by unfold setV; rw [if_neg (by simp [h0]), if_pos h1]
      rw [hv]
      have fin : ∀ s own, s.getD 6 .top = .ptr 1 0 0 → own.getD 1 .dead = .box [.dat (.int .i64 0), .nils] → s.getD 7 .top = .dat (.int .i64 2) → post Tryd.prog Tryd.f18 (pairV 0 [] 2) [] [] .ret ⟨s, own, 0, []⟩ := fun s own e1 e2 e3 => by
        refine post_res (.inl rfl) [.cell 6 24, .tmp 7] rfl ?_
        simp only [go_sem, e1, e2, e3]
        exact le_fin (by simp only [go_sem, pairV, bitsD, us, List.map_nil]) (by simp only [go_sem, pairV])
      by_cases h2 : i < 0
      · simp only [go_sem, h0, h2, decide_true, Bool.not_true]
        exact fin _ _ (by rfl) (by rfl) (by rfl)
      · have h3 : (n : Int) ≤ i := by omega
        simp only [go_sem, h0, h2, h3, decide_true, decide_false, Bool.not_true]
        exact fin _ _ (by rfl) (by rfl) (by rfl)
    · have h2 : ¬ i < 0 := by omega
      have h3 : ¬ (n : Int) ≤ i := by omega
      obtain ⟨a, rfl⟩ : ∃ a : Nat, i = a := ⟨i.toNat, by omega⟩
      have hv : setV n ws a on = pairV n (fillW ws a (a + 1) on) 0 := by unfold setV; rw [if_neg (by simp [h0]), if_neg h1]; rfl
      rw [hv]
      simp only [go_sem, h0, h2, h3, decide_true, decide_false, Bool.not_true]
      have h64 : ws.length ≤ 64 := by omega
      refine call_made copyR (by simp) _ _ _ rfl rfl ⟨n, ws, h64, rfl, rfl, rfl⟩ ?_
      simp only [go_sem, AV.shift, Obj.shift, AV.shifts]
      refine call_lent putR (by simp) [5] ⟨n, ws, a, on, ho, h64, by omega, rfl, rfl, rfl, rfl, rfl, rfl⟩ (by decide) (by simp) rfl rfl rfl (by simp only [go_sem]) (by simp only [List.mem_singleton, forall_eq]; trivial) (fun j hj => by
        obtain rfl : j = 0 := by simp at hj; exact hj
        rfl) ?_
      have hlen : (fillW ws a (a + 1) on).length = ws.length := mk_len _ _
      simp only [go_sem, List.map_cons, List.map_nil, List.getD_cons_zero, List.append_nil]
      refine post_res (.inl rfl) [.cell 6 24, .tmp 7] rfl ?_
      simp only [go_sem]
      refine Le.trans (le_freeze 5 (ag := none) (xs := us (fillW ws a (a + 1) on)) rfl (Nat.zero_le _)) ?_
      have e1 : List.take ws.length (us (fillW ws a (a + 1) on)) = us (fillW ws a (a + 1) on) := List.take_of_length_le (by rw [List.length_map, hlen]; exact Nat.le_refl _)
      simp only [go_sem, List.length_map, hlen, List.drop_zero, Nat.le_refl, if_true]
      exact le_fin (by simp only [go_sem, pairV, bitsD, e1]) (by simp only [go_sem, pairV])
  · have hv : setV sz ws i on = pairV 0 [] (checkV sz ws) := by unfold setV; rw [if_pos h0]
    rw [hv]
    simp only [go_sem, h0, decide_false, Bool.not_false]
    refine post_res (.inl rfl) [.cell 6 24, .tmp 7] rfl ?_
    simp only [go_sem]
    exact le_fin (by simp only [go_sem, pairV, bitsD, us, List.map_nil]) (by simp only [go_sem, pairV])
end Go.AM

namespace Go.AM
open Go Go.Proofs

/-! ref.Fill. -/
theorem fill_more {ws : List Nat} (ho : Ok64 ws) {a k : Nat} {on : Bool} (h1 : a ≤ k) (h2 : k / 64 < ws.length) : fillW (fillW ws a k on) k (k + 1) on = fillW ws a (k + 1) on := by
  have hl : (fillW ws a k on).length = ws.length := mk_len _ _
  refine eq_mk (by rw [fillW, mk_len, hl]) (mk_ok _ _) fun i hi => ?_
  rw [fillW, mk_bit, hl]
  have : i < 64 * ws.length := hi
  simp only [this, decide_true, Bool.true_and]
  unfold fillB
  by_cases h3 : k ≤ i ∧ i < k + 1
  · rw [if_pos h3, if_pos (by omega)]
  · rw [if_neg h3, fillW, mk_bit]
    simp only [this, decide_true, Bool.true_and]
    unfold fillB
    by_cases h4 : a ≤ i ∧ i < k
    · rw [if_pos h4, if_pos (by omega)]
    · rw [if_neg h4, if_neg (by omega)]

theorem rfill_ok : OkF Tryd.prog 22 (dataC fillR) := by
  refine okF_data Tryd.func22 rfl (by decide) ?_
  rintro ds v ⟨sz, ws, f, t, on, rfl, ho, rfl⟩
  refine sem_of_awp (Γ := tbl tabRS) tabRS_ok _ _ _ ?_
  simp only [go_sem, Tryd.ntmps22]
  refine call_data chkR (by simp) _ _ rfl ⟨sz, ws, rfl, ho, rfl⟩ (.inl rfl) ?_
  by_cases h0 : checkV sz ws = 0
  · obtain ⟨n, rfl, hf⟩ := checkV_zero ho h0
    have hn := hf.le; have hl := hf.len
    by_cases h1 : f < 0 ∨ t < f ∨ (n : Int) < t
    · have hv : fillV n ws f t on = pairV 0 [] 2 := by unfold fillV; rw [if_neg (by simp [h0]), if_pos h1]
      rw [hv]
      have fin : ∀ s own, s.getD 8 .top = .ptr 1 0 0 → own.getD 1 .dead = .box [.dat (.int .i64 0), .nils] → s.getD 9 .top = .dat (.int .i64 2) → post Tryd.prog Tryd.f22 (pairV 0 [] 2) [] [] .ret ⟨s, own, 0, []⟩ := fun s own e1 e2 e3 => by
        refine post_res (.inl rfl) [.cell 8 24, .tmp 9] rfl ?_
        simp only [go_sem, e1, e2, e3]
        exact le_fin (by simp only [go_sem, pairV, bitsD, us, List.map_nil]) (by simp only [go_sem, pairV])
      by_cases h2 : f < 0
      · simp only [go_sem, h0, h2, decide_true, Bool.not_true]
        exact fin _ _ (by rfl) (by rfl) (by rfl)
      · by_cases h3 : t < f
        · simp only [go_sem, h0, h2, h3, decide_true, decide_false, Bool.not_true]
          exact fin _ _ (by rfl) (by rfl) (by rfl)
        · have h4 : (n : Int) < t := by omega
          simp only [go_sem, h0, h2, h3, h4, decide_true, decide_false, Bool.not_true]
          exact fin _ _ (by rfl) (by rfl) (by rfl)
    · have h2 : ¬ f < 0 := by omega
      have h3 : ¬ t < f := by omega
      have h4 : ¬ (n : Int) < t := by omega
      obtain ⟨a, rfl⟩ : ∃ a : Nat, f = a := ⟨f.toNat, by omega⟩
      obtain ⟨b, rfl⟩ : ∃ b : Nat, t = b := ⟨t.toNat, by omega⟩
      have hv : fillV n ws a b on = pairV n (fillW ws a b on) 0 := by unfold fillV; rw [if_neg (by simp [h0]), if_neg h1]; rfl
      rw [hv]
      simp only [go_sem, h0, h2, h3, h4, decide_true, decide_false, Bool.not_true]
      have h64 : ws.length ≤ 64 := by omega
      refine call_made copyR (by simp) _ _ _ rfl rfl ⟨n, ws, h64, rfl, rfl, rfl⟩ ?_
      simp only [go_sem, AV.shift, Obj.shift, AV.shifts]
      refine sem_loop (fun k : Nat => ⟨slotsOf 46 [(1, .dat (.int .i64 a)), (2, .dat (.int .i64 b)), (3, .dat (.bool on)), (4, .ptr 0 0 0), (8, .ptr 1 0 0), (9, .dat (.int .i64 0)), (11, .ptr 6 0 0), (12, .dat (.int .i64 k))],
          [.box [.dat (.int .i64 n), .dat (.sl none (us ws))], .box [.dat (.int .i64 0), .nils], .dead, .dead, .dead, .row none (us (fillW ws a k on)), .box [.dat (.int .i64 n), .sl 5 0 ws.length]], 0, []⟩)
        (fun k => a ≤ k ∧ k ≤ b) (fun k => b - k) a ⟨Nat.le_refl _, by omega⟩ ?_ ?_
      · rw [fillW_none ws ho]
        exact le_slots' (by simp only [go_sem])
      · rintro k ⟨hk1, hk2⟩
        refine sem_of_awp (Γ := tbl tabRS) tabRS_ok _ _ _ ?_
        have hlen : (fillW ws a k on).length = ws.length := mk_len _ _
        by_cases hk : (k : Int) < b
        · have hk' : k < b := by omega
          simp only [go_sem, hk, decide_true]
          have e := fill_more ho (on := on) hk1 (by omega : k / 64 < ws.length)
          have hb : AV.agg [.dat (.int .i64 n), .sl 5 0 ws.length] = AV.agg [.dat (.int .i64 n), .sl 5 0 (fillW ws a k on).length] := by rw [hlen]
          rw [hb]
          refine call_lent putR (by simp) [5] ⟨n, fillW ws a k on, k, on, mk_ok _ _, by rw [hlen]; exact h64, by rw [hlen]; omega, rfl, rfl, rfl, rfl, rfl, rfl⟩ (by decide) (by simp) rfl rfl rfl (by simp only [go_sem]) (by simp only [List.mem_singleton, forall_eq]; trivial) (fun j hj => by
            obtain rfl : j = 0 := by simp at hj; exact hj
            rfl) ?_
          simp only [go_sem, List.map_cons, List.map_nil, List.getD_cons_zero, List.append_nil, e]
          exact ⟨inR_i64.2 (by omega), k + 1, ⟨by omega, by omega⟩, by omega, le_slots' (by simp only [go_sem, Int.natCast_add, Int.cast_ofNat_Int])⟩
        · have hk' : k = b := by omega
          subst hk'
          simp only [go_sem, hk, decide_false]
          refine post_res (.inl rfl) [.cell 8 24, .tmp 9] rfl ?_
          simp only [go_sem]
          refine Le.trans (le_freeze 5 (ag := none) (xs := us (fillW ws a k on)) rfl (Nat.zero_le _)) ?_
          have e1 : List.take ws.length (us (fillW ws a k on)) = us (fillW ws a k on) := List.take_of_length_le (by rw [List.length_map, hlen]; exact Nat.le_refl _)
          simp only [go_sem, List.length_map, hlen, List.drop_zero, Nat.le_refl, if_true]
          exact le_fin (by simp only [go_sem, pairV, bitsD, e1]) (by simp only [go_sem, pairV])
  · have hv : fillV sz ws f t on = pairV 0 [] (checkV sz ws) := by unfold fillV; rw [if_pos h0]
    rw [hv]
    simp only [go_sem, h0, decide_false, Bool.not_false]
    refine post_res (.inl rfl) [.cell 8 24, .tmp 9] rfl ?_
    simp only [go_sem]
    exact le_fin (by simp only [go_sem, pairV, bitsD, us, List.map_nil]) (by simp only [go_sem, pairV])
end Go.AM

