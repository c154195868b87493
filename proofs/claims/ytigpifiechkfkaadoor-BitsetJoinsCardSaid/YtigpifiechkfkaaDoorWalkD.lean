/- Own work over the model of the kit. -/
import Derived.Test.YtigpifiechkfkaaDoorWalkB
import Derived.Test.YtigpifiechkfkaaDoorLibH
set_option linter.unusedSimpArgs false
set_option linter.unusedVariables false
namespace Go.AM
open Go Go.Proofs

/-! Two words joined. -/
def wopR (op : Nat → Nat → Nat) (ds : List D) (v : AV) : Prop := ∃ x y : Nat, x < 18446744073709551616 ∧ y < 18446744073709551616 ∧ ds = [.int .u64 x, .int .u64 y] ∧ v = .dat (.int .u64 (op x y : Nat))
theorem wand_ok : OkF Tryd.prog 44 (dataC (wopR (· &&& ·))) := by
  refine okF_data Tryd.func44 rfl (by decide) ?_
  rintro ds v ⟨x, y, hx, hy, rfl, rfl⟩
  refine sem_of_awp (Γ := tbl []) okG_nil _ _ _ ?_
  simp only [go_sem, Tryd.ntmps44, bits_and hx hy]
  exact post_data (.inl rfl) [4] rfl trivial (by simp [tmpsOf, resV])
theorem wor_ok : OkF Tryd.prog 46 (dataC (wopR (· ||| ·))) := by
  refine okF_data Tryd.func46 rfl (by decide) ?_
  rintro ds v ⟨x, y, hx, hy, rfl, rfl⟩
  refine sem_of_awp (Γ := tbl []) okG_nil _ _ _ ?_
  simp only [go_sem, Tryd.ntmps46, bits_or hx hy]
  exact post_data (.inl rfl) [4] rfl trivial (by simp [tmpsOf, resV])

/-- Two sets joined bit by bit. -/
def joinW (f : Bool → Bool → Bool) (wa wb : List Nat) : List Nat := mk wa.length fun i => f (bitAt wa i) (bitAt wb i)
noncomputable def joinV (f : Bool → Bool → Bool) (sa : Int) (wa : List Nat) (sb : Int) (wb : List Nat) : AV :=
  if checkV sa wa ≠ 0 then pairV 0 [] (checkV sa wa) else if checkV sb wb ≠ 0 then pairV 0 [] (checkV sb wb) else if sa ≠ sb then pairV 0 [] 1 else pairV sa (joinW f wa wb) 0

abbrev tabJ : List (Nat × Contract) := [(14, dataC chkR), (38, madeC cloneR), (44, dataC (wopR (· &&& ·))), (46, dataC (wopR (· ||| ·)))]
theorem tabJ_ok : OkG Tryd.prog (tbl tabJ) := okG_cons check_ok (okG_cons clone_ok (okG_cons wand_ok (okG_cons wor_ok okG_nil)))
theorem made_of {l : List (Nat × Contract)} {mf : List Nat} (h : ∀ g C, (g, C) ∈ l → (∃ R, C = dataC R) ∨ ∃ R, C = madeC R) : MakeFns (tbl l) mf := by
  rintro g args own v own' mv hg ⟨C, hm, hC⟩
  rcases h g C hm with ⟨R, rfl⟩ | ⟨R, rfl⟩
  · obtain ⟨_, _, _, h1, h2, _⟩ := hC
    exact ⟨⟨[], by rw [h1, List.append_nil]⟩, h2⟩
  · obtain ⟨_, _, ob, _, _, _, _, h1, h2⟩ := hC
    exact ⟨⟨_, h1⟩, h2⟩
theorem makeJ {mf : List Nat} : MakeFns (tbl tabJ) mf := made_of fun g C hm => by
  simp only [List.mem_cons, List.not_mem_nil, or_false, Prod.mk.injEq] at hm
  rcases hm with ⟨_, rfl⟩ | ⟨_, rfl⟩ | ⟨_, rfl⟩ | ⟨_, rfl⟩
  · exact .inl ⟨_, rfl⟩
  · exact .inr ⟨_, rfl⟩
  · exact .inl ⟨_, rfl⟩
  · exact .inl ⟨_, rfl⟩

/-- How far the words are joined. -/
def joinB (f : Bool → Bool → Bool) (wa wb : List Nat) (k : Nat) (i : Nat) : Bool := if i / 64 < k then f (bitAt wa i) (bitAt wb i) else bitAt wa i
def joinK (f : Bool → Bool → Bool) (wa wb : List Nat) (k : Nat) : List Nat := mk wa.length (joinB f wa wb k)
theorem joinK_zero {f : Bool → Bool → Bool} {wa wb : List Nat} (ho : Ok64 wa) : joinK f wa wb 0 = wa := by
  conv => rhs; rw [mk_self ho]
  exact mk_congr fun i _ => by unfold joinB; rw [if_neg (by omega)]
theorem joinK_all {f : Bool → Bool → Bool} {wa wb : List Nat} : joinK f wa wb wa.length = joinW f wa wb :=
  mk_congr fun i hi => by unfold joinB; rw [if_pos (by omega)]
theorem joinK_step {f : Bool → Bool → Bool} {wa wb : List Nat} {k x : Nat} (hk : k < wa.length) (hx : x < 18446744073709551616) (hb : ∀ j, j < 64 → x.testBit j = f (((joinK f wa wb k).getD k 0).testBit j) ((wb.getD k 0).testBit j)) :
    (joinK f wa wb k).set k x = joinK f wa wb (k + 1) := by
  refine mk_set hx (fun j hj => ?_) (fun i hi hne => ?_)
  · rw [hb j hj, bit_word _ _ _ hj, bit_word _ _ _ hj, joinK, mk_bit]
    have h1 : 64 * k + j < 64 * wa.length := by omega
    simp only [h1, decide_true, Bool.true_and]
    unfold joinB
    rw [if_neg (by omega), if_pos (by omega)]
  · unfold joinB
    by_cases h : i / 64 < k
    · rw [if_pos h, if_pos (by omega)]
    · rw [if_neg h, if_neg (by omega)]

def combR (xs : List AV) (obs : List Obj) (v0 : AV) (obs' ex : List Obj) (mv0 : List Nat) : Prop := ∃ (sa : Int) (wa : List Nat) (sb : Int) (wb : List Nat) (g : Nat) (op : Nat → Nat → Nat) (f : Bool → Bool → Bool), Ok64 wa ∧ Ok64 wb ∧ (g, dataC (wopR op)) ∈ tabJ ∧
  (∀ x y, x < 18446744073709551616 → y < 18446744073709551616 → op x y < 18446744073709551616 ∧ ∀ j, (op x y).testBit j = f (x.testBit j) (y.testBit j)) ∧
  xs = [.agg [.dat (.int .i64 sa), .dat (.sl none (us wa))], .agg [.dat (.int .i64 sb), .dat (.sl none (us wb))], .fn g []] ∧ obs = [] ∧ v0 = joinV f sa wa sb wb ∧ obs' = [] ∧ ex = [] ∧ mv0 = []

theorem comb_ok : OkF Tryd.prog 43 (lentC combR) := by
  refine okF_lent Tryd.func43 rfl (by decide) ?_
  rintro xs obs v0 obs' ex mv0 ⟨sa, wa, sb, wb, g, op, f, hoa, hob, hg, hop, rfl, rfl, rfl, rfl, rfl, rfl⟩
  refine sem_of_awpK [10] (Γ := tbl tabJ) tabJ_ok _ _ _ ?_
  simp only [go_sem, Tryd.ntmps43]
  refine call_data chkR (by simp) _ _ rfl ⟨sa, wa, rfl, hoa, rfl⟩ (.inl rfl) ?_
  have fin : ∀ (e : Int) (o3 : List Obj) (s : List AV), s.getD 6 .top = .ptr 2 0 0 → s.getD 7 .top = .dat (.int .i64 e) → post Tryd.prog Tryd.f43 (pairV 0 [] e) ([] ++ []) [] .ret ⟨s, .box [.dat (.int .i64 sa), .dat (.sl none (us wa))] :: .box [.dat (.int .i64 sb), .dat (.sl none (us wb))] :: .box [.dat (.int .i64 0), .nils] :: o3, 0, []⟩ := fun e o3 s e1 e3 => by
    refine post_res (.inl rfl) [.cell 6 24, .tmp 7] rfl ?_
    simp only [go_sem, e1, e3]
    exact le_fin (by simp only [go_sem, pairV, bitsD, us, List.map_nil]) (by simp only [go_sem, pairV])
  by_cases h0 : checkV sa wa = 0
  · obtain ⟨n, rfl, hf⟩ := checkV_zero hoa h0
    have hn := hf.le; have hl := hf.len
    simp only [go_sem, h0, decide_true, Bool.not_true]
    refine call_data chkR (by simp) _ _ rfl ⟨sb, wb, rfl, hob, rfl⟩ (.inl rfl) ?_
    by_cases h1 : checkV sb wb = 0
    · obtain ⟨m, rfl, hfb⟩ := checkV_zero hob h1
      have hlb := hfb.len
      by_cases h2 : (n : Int) = m
      · have h2' : n = m := by omega
        subst h2'
        have hv : joinV f n wa n wb = pairV n (joinW f wa wb) 0 := by unfold joinV; rw [if_neg (by simp [h0]), if_neg (by simp [h1]), if_neg (by simp)]
        rw [hv]
        simp only [go_sem, h1, decide_true, Bool.not_true]
        refine sem_drawB (ob := 0) (pf := []) (mf := [38]) (ms := []) mixed tabJ_ok pure0 makeJ [0, 1, 2, 3] 4 6 [5, 6, 7] [4, 5, 7] (by kernel_rfl) ?_
        simp only [go_sem, chainM, opm]
        have h64 : wa.length ≤ 64 := by omega
        apply both_of
        · intro h
          refine call_made cloneR (by simp) _ _ _ rfl rfl ⟨wa, h64, rfl, rfl, rfl⟩ ?_
          simp only [go_sem, AV.shift, Obj.shift, AV.shifts]
          exact h
        · intro h
          refine call_made cloneR (by simp) _ _ _ rfl rfl ⟨wa, h64, rfl, rfl, rfl⟩ ?_
          simp only [go_sem, AV.shift, Obj.shift, AV.shifts]
          exact sem_le (le_swp 3 4 (by decide : (3 : Nat) < 5) (by decide : (4 : Nat) < 5) rfl rfl) h
        · refine sem_of_awp (Γ := tbl tabJ) tabJ_ok _ _ _ ?_
          simp only [go_sem]
          refine sem_loop (fun k : Nat => ⟨slotsOf 59 [(2, .fn g []), (3, .ptr 0 0 0), (4, .ptr 1 0 0), (6, .ptr 2 0 0), (7, .dat (.int .i64 0)), (10, .ptr 4 0 0), (38, .dat (.sl none (us wb))), (39, .dat (.int .i64 wb.length)), (40, .dat (.int .i64 k))],
              [.box [.dat (.int .i64 n), .dat (.sl none (us wa))], .box [.dat (.int .i64 n), .dat (.sl none (us wb))], .box [.dat (.int .i64 0), .nils], .row none (us (joinK f wa wb k)), .box [.dat (.int .i64 n), .sl 3 0 wa.length]], 0, []⟩)
            (fun k => k ≤ wa.length) (fun k => wa.length - k) 0 (Nat.zero_le _) ?_ ?_
          · rw [joinK_zero hoa]
            exact le_slots' (by simp only [go_sem, List.length_map, Int.natCast_zero])
          · intro k hk
            refine sem_of_awp (Γ := tbl tabJ) tabJ_ok _ _ _ ?_
            have hlen : (joinK f wa wb k).length = wa.length := mk_len _ _
            by_cases hk1 : (k : Int) < wb.length
            · have k1 : k < wb.length := by omega
              have k2 : k < wa.length := by omega
              have k2' : (k : Int) < wa.length := by omega
              have k3 : k < (joinK f wa wb k).length := by omega
              simp only [go_sem, hk1, decide_true, nth_us k1, Int.natCast_nonneg, Int.toNat_natCast, List.length_map, true_and]
              refine sem_drawM (ob := 3) (pf := []) (mf := [dynF]) (ms := []) mixed tabJ_ok pure0 makeJ [0, 1, 2, 3, 4, 5, 6, 7, 8, 9, 10, 11, 12] (by kernel_rfl) ?_
              simp only [go_sem, chainM, opm, nth_us k3, k2', Int.natCast_nonneg, Int.toNat_natCast, List.length_map, true_and]
              have hwx : (joinK f wa wb k).getD k 0 < 18446744073709551616 := (mk_ok wa.length (joinB f wa wb k)).get k
              have hwy := hob.get k
              obtain ⟨o1, o2⟩ := hop _ _ hwx hwy
              have hst := joinK_step (f := f) (wb := wb) k2 o1 (fun j _ => o2 j)
              have hset : (us (joinK f wa wb k)).set k (.int .u64 ((op ((joinK f wa wb k).getD k 0) (wb.getD k 0) : Nat) : Int)) = us (joinK f wa wb (k + 1)) := by rw [← hst]; simp [us, List.map_set, joinK]
              refine ⟨k3, call_data (wopR op) hg _ _ rfl ⟨_, _, hwx, hwy, rfl, rfl⟩ (.inl rfl) ?_⟩
              simp only [go_sem, k2', Int.natCast_nonneg, Int.toNat_natCast, List.length_map, hlen, hset, true_and]
              refine ⟨k2, inR_i64.2 (by omega), k + 1, by omega, by omega, ?_⟩
              exact le_slots' (by simp only [go_sem, Int.natCast_add, Int.cast_ofNat_Int])
            · have : k = wa.length := by omega
              subst this
              rw [joinK_all]
              have hlen2 : (joinW f wa wb).length = wa.length := mk_len _ _
              simp only [go_sem, hk1, decide_false]
              refine post_res (.inl rfl) [.cell 6 24, .tmp 7] rfl ?_
              simp only [go_sem]
              refine Le.trans (le_freeze 3 (ag := none) (xs := us (joinW f wa wb)) rfl (Nat.zero_le _)) ?_
              have e1 : List.take wa.length (us (joinW f wa wb)) = us (joinW f wa wb) := List.take_of_length_le (by rw [List.length_map, hlen2]; exact Nat.le_refl _)
              simp only [go_sem, List.length_map, hlen2, List.drop_zero, Nat.le_refl, if_true]
              exact le_fin (by simp only [go_sem, pairV, bitsD, e1]) (by simp only [go_sem, pairV])
      · have hv : joinV f n wa m wb = pairV 0 [] 1 := by unfold joinV; rw [if_neg (by simp [h0]), if_neg (by simp [h1]), if_pos h2]
        rw [hv]
        simp only [go_sem, h1, h2, decide_true, decide_false, Bool.not_true, Bool.not_false]
        exact fin _ _ _ (by rfl) (by rfl)
    · have hv : joinV f n wa sb wb = pairV 0 [] (checkV sb wb) := by unfold joinV; rw [if_neg (by simp [h0]), if_pos h1]
      rw [hv]
      simp only [go_sem, h1, decide_true, decide_false, Bool.not_true, Bool.not_false]
      exact fin _ _ _ (by rfl) (by rfl)
  · have hv : joinV f sa wa sb wb = pairV 0 [] (checkV sa wa) := by unfold joinV; rw [if_pos h0]
    rw [hv]
    simp only [go_sem, h0, decide_false, Bool.not_false]
    exact fin _ _ _ (by rfl) (by rfl)

/-! And, Or. -/
def joinR (f : Bool → Bool → Bool) (ds : List D) (v : AV) : Prop := ∃ sa wa sb wb, ds = [bitsD sa wa, bitsD sb wb] ∧ Ok64 wa ∧ Ok64 wb ∧ v = joinV f sa wa sb wb
abbrev tabK : List (Nat × Contract) := [(43, lentC combR)]
theorem tabK_ok : OkG Tryd.prog (tbl tabK) := okG_cons comb_ok okG_nil
theorem joinV_pair {f : Bool → Bool → Bool} {sa : Int} {wa : List Nat} {sb : Int} {wb : List Nat} : ∃ z w e, joinV f sa wa sb wb = pairV z w e := by
  unfold joinV
  split
  · exact ⟨_, _, _, rfl⟩
  · split
    · exact ⟨_, _, _, rfl⟩
    · split <;> exact ⟨_, _, _, rfl⟩
theorem and_ok : OkF Tryd.prog 27 (dataC (joinR (· && ·))) := by
  refine okF_data Tryd.func27 rfl (by decide) ?_
  rintro ds v ⟨sa, wa, sb, wb, rfl, hoa, hob, rfl⟩
  refine sem_of_awp (Γ := tbl tabK) tabK_ok _ _ _ ?_
  obtain ⟨z, w, e, hv⟩ := joinV_pair (f := (· && ·)) (sa := sa) (wa := wa) (sb := sb) (wb := wb)
  rw [hv]
  simp only [go_sem, Tryd.ntmps27]
  refine call_lent combR (by simp) [] ⟨sa, wa, sb, wb, 44, (· &&& ·), (· && ·), hoa, hob, by simp, fun x y hx hy => ⟨Nat.lt_of_le_of_lt Nat.and_le_left hx, fun j => Nat.testBit_and x y j⟩, rfl, rfl, hv.symm, rfl, rfl, rfl⟩ (by simp) (by simp) rfl rfl rfl (by simp only [go_sem]) (by simp) (by simp) ?_
  simp only [go_sem, pairV, bitsD, List.map_nil, List.append_nil]
  refine post_res (.inl rfl) [.cell 4 24, .tmp 5] rfl ?_
  simp only [go_sem]
  exact le_fin (by simp only [go_sem]) (by simp only [go_sem])
theorem or_ok : OkF Tryd.prog 29 (dataC (joinR (· || ·))) := by
  refine okF_data Tryd.func29 rfl (by decide) ?_
  rintro ds v ⟨sa, wa, sb, wb, rfl, hoa, hob, rfl⟩
  refine sem_of_awp (Γ := tbl tabK) tabK_ok _ _ _ ?_
  obtain ⟨z, w, e, hv⟩ := joinV_pair (f := (· || ·)) (sa := sa) (wa := wa) (sb := sb) (wb := wb)
  rw [hv]
  simp only [go_sem, Tryd.ntmps29]
  refine call_lent combR (by simp) [] ⟨sa, wa, sb, wb, 46, (· ||| ·), (· || ·), hoa, hob, by simp, fun x y hx hy => ⟨Nat.or_lt_two_pow (n := 64) hx hy, fun j => Nat.testBit_or x y j⟩, rfl, rfl, hv.symm, rfl, rfl, rfl⟩ (by simp) (by simp) rfl rfl rfl (by simp only [go_sem]) (by simp) (by simp) ?_
  simp only [go_sem, pairV, bitsD, List.map_nil, List.append_nil]
  refine post_res (.inl rfl) [.cell 4 24, .tmp 5] rfl ?_
  simp only [go_sem]
  exact le_fin (by simp only [go_sem]) (by simp only [go_sem])
end Go.AM

namespace Go.AM
open Go Go.Proofs

/-! ref.both, ref.And, ref.Or. -/
noncomputable def bothV (sa : Int) (wa : List Nat) (sb : Int) (wb : List Nat) : Int := if checkV sa wa ≠ 0 then checkV sa wa else if checkV sb wb ≠ 0 then checkV sb wb else if sa ≠ sb then 1 else 0
def bothR (ds : List D) (v : AV) : Prop := ∃ sa wa sb wb, ds = [bitsD sa wa, bitsD sb wb] ∧ Ok64 wa ∧ Ok64 wb ∧ v = .dat (.int .i64 (bothV sa wa sb wb))
abbrev tabRC : List (Nat × Contract) := [(15, dataC chkR)]
theorem tabRC_ok : OkG Tryd.prog (tbl tabRC) := okG_cons rcheck_ok okG_nil
theorem both_ok : OkF Tryd.prog 45 (dataC bothR) := by
  refine okF_data Tryd.func45 rfl (by decide) ?_
  rintro ds v ⟨sa, wa, sb, wb, rfl, hoa, hob, rfl⟩
  refine sem_of_awp (Γ := tbl tabRC) tabRC_ok _ _ _ ?_
  simp only [go_sem, Tryd.ntmps45]
  refine call_data chkR (by simp) _ _ rfl ⟨sa, wa, rfl, hoa, rfl⟩ (.inl rfl) ?_
  by_cases h0 : checkV sa wa = 0
  · simp only [go_sem, h0, decide_true, Bool.not_true]
    refine call_data chkR (by simp) _ _ rfl ⟨sb, wb, rfl, hob, rfl⟩ (.inl rfl) ?_
    by_cases h1 : checkV sb wb = 0
    · by_cases h2 : sa = sb
      · have hv : bothV sa wa sb wb = 0 := by unfold bothV; rw [if_neg (by simp [h0]), if_neg (by simp [h1]), if_neg (by simp [h2])]
        rw [hv]
        simp only [go_sem, h1, h2, decide_true, Bool.not_true]
        exact post_data (.inl rfl) [4] rfl trivial rfl
      · have hv : bothV sa wa sb wb = 1 := by unfold bothV; rw [if_neg (by simp [h0]), if_neg (by simp [h1]), if_pos h2]
        rw [hv]
        simp only [go_sem, h1, h2, decide_true, decide_false, Bool.not_true, Bool.not_false]
        exact post_data (.inl rfl) [4] rfl trivial rfl
    · have hv : bothV sa wa sb wb = checkV sb wb := by unfold bothV; rw [if_neg (by simp [h0]), if_pos h1]
      rw [hv]
      simp only [go_sem, h1, decide_false, Bool.not_false]
      refine call_data chkR (by simp) _ _ rfl ⟨sb, wb, rfl, hob, rfl⟩ (.inl rfl) ?_
      simp only [go_sem]
      exact post_data (.inl rfl) [4] rfl trivial rfl
  · have hv : bothV sa wa sb wb = checkV sa wa := by unfold bothV; rw [if_pos h0]
    rw [hv]
    simp only [go_sem, h0, decide_false, Bool.not_false]
    refine call_data chkR (by simp) _ _ rfl ⟨sa, wa, rfl, hoa, rfl⟩ (.inl rfl) ?_
    simp only [go_sem]
    exact post_data (.inl rfl) [4] rfl trivial rfl
theorem joinV_both {f : Bool → Bool → Bool} {sa : Int} {wa : List Nat} {sb : Int} {wb : List Nat} (h : bothV sa wa sb wb ≠ 0) : joinV f sa wa sb wb = pairV 0 [] (bothV sa wa sb wb) := by
  unfold bothV at h ⊢
  unfold joinV
  split
  · rfl
  · split
    · rfl
    · split
      · rfl
      · rename_i h1 h2 h3; simp [h1, h2, h3] at h
theorem both_zero {sa : Int} {wa : List Nat} {sb : Int} {wb : List Nat} (h : bothV sa wa sb wb = 0) : checkV sa wa = 0 ∧ checkV sb wb = 0 ∧ sa = sb := by
  unfold bothV at h
  split at h
  · rename_i h1; exact (h1 h).elim
  · split at h
    · rename_i h1; exact (h1 h).elim
    · split at h
      · cases h
      · rename_i h1 h2 h3
        exact ⟨by simpa using h1, by simpa using h2, by simpa using h3⟩

/-- Joined up to bit k. -/
def rB (p : Nat → Bool) (ws : List Nat) (k : Nat) (i : Nat) : Bool := if i < k then p i else bitAt ws i
def rK (p : Nat → Bool) (ws : List Nat) (k : Nat) : List Nat := mk ws.length (rB p ws k)
theorem rK_zero {p : Nat → Bool} {ws : List Nat} (ho : Ok64 ws) : rK p ws 0 = ws := by
  conv => rhs; rw [mk_self ho]
  exact mk_congr fun i _ => by unfold rB; rw [if_neg (by omega)]
theorem rK_step {p : Nat → Bool} {ws : List Nat} {k : Nat} {x : Bool} (hx : x = p k) : fillW (rK p ws k) k (k + 1) x = rK p ws (k + 1) := by
  have hl : (rK p ws k).length = ws.length := mk_len _ _
  refine eq_mk (by rw [fillW, mk_len, hl]) (mk_ok _ _) fun i hi => ?_
  rw [fillW, mk_bit, hl]
  simp only [hi, decide_true, Bool.true_and]
  unfold fillB rB
  by_cases h : k ≤ i ∧ i < k + 1
  · have : i = k := by omega
    subst this
    rw [if_pos h, if_pos (by omega), hx]
  · rw [if_neg h, rK, mk_bit]
    simp only [hi, decide_true, Bool.true_and]
    unfold rB
    by_cases h2 : i < k
    · rw [if_pos h2, if_pos (by omega)]
    · rw [if_neg h2, if_neg (by omega)]

abbrev tabRJ : List (Nat × Contract) := [(45, dataC bothR), (35, madeC copyR), (34, dataC bitR), (36, lentC putR)]
theorem tabRJ_ok : OkG Tryd.prog (tbl tabRJ) := okG_cons both_ok (okG_cons copy_ok (okG_cons bit_ok (okG_cons put_ok okG_nil)))
theorem pureRJ : PureFns (tbl tabRJ) [34] := by
  rintro g args own v own' mv hg ⟨C, hm, hC⟩
  simp at hg
  subst hg
  simp at hm
  subst hm
  obtain ⟨_, _, _, h1, h2, _⟩ := hC
  exact ⟨h1, h2⟩

set_option maxRecDepth 4000 in
theorem rand_ok : OkF Tryd.prog 28 (dataC (joinR (· && ·))) := by
  refine okF_data Tryd.func28 rfl (by decide) ?_
  rintro ds v ⟨sa, wa, sb, wb, rfl, hoa, hob, rfl⟩
  refine sem_of_awp (Γ := tbl tabRJ) tabRJ_ok _ _ _ ?_
  simp only [go_sem, Tryd.ntmps28]
  refine call_data bothR (by simp) _ _ rfl ⟨sa, wa, sb, wb, rfl, hoa, hob, rfl⟩ (.inl rfl) ?_
  by_cases h0 : bothV sa wa sb wb = 0
  · obtain ⟨g1, g2, g3⟩ := both_zero h0
    obtain ⟨n, rfl, hf⟩ := checkV_zero hoa g1
    subst g3
    obtain ⟨n', hn', hfb⟩ := checkV_zero hob g2
    have : n' = n := by omega
    subst this
    have hn := hf.le; have hl := hf.len; have hlb := hfb.len
    have hv : joinV (· && ·) n' wa n' wb = pairV n' (joinW (· && ·) wa wb) 0 := by unfold joinV; rw [if_neg (by simp [g1]), if_neg (by simp [g2]), if_neg (by simp)]
    rw [hv]
    simp only [go_sem, h0, decide_true, Bool.not_true]
    have h64 : wa.length ≤ 64 := by omega
    obtain ⟨p, hp⟩ : ∃ p : Nat → Bool, ∀ i, p i = (bitAt wa i && bitAt wb i) := ⟨_, fun _ => rfl⟩
    refine call_made copyR (by simp) _ _ _ rfl rfl ⟨n', wa, h64, rfl, rfl, rfl⟩ ?_
    simp only [go_sem, AV.shift, Obj.shift, AV.shifts]
    refine sem_loop (fun k : Nat => ⟨slotsOf 36 [(2, .ptr 0 0 0), (3, .ptr 1 0 0), (4, .ptr 2 0 0), (5, .dat (.int .i64 0)), (7, .ptr 7 0 0), (8, .dat (.int .i64 k))],
        [.box [.dat (.int .i64 n'), .dat (.sl none (us wa))], .box [.dat (.int .i64 n'), .dat (.sl none (us wb))], .box [.dat (.int .i64 0), .nils], .dead, .dead, .dead, .row none (us (rK p wa k)), .box [.dat (.int .i64 n'), .sl 6 0 wa.length]], 0, []⟩)
      (fun k => k ≤ n') (fun k => n' - k) 0 (Nat.zero_le _) ?_ ?_
    · rw [rK_zero hoa]
      exact le_slots' (by simp only [go_sem, Int.natCast_zero])
    · intro k hk
      refine sem_of_awp (Γ := tbl tabRJ) tabRJ_ok _ _ _ ?_
      have hlen : (rK p wa k).length = wa.length := mk_len _ _
      by_cases hk1 : (k : Int) < n'
      · have k1 : k < n' := by omega
        simp only [go_sem, hk1, decide_true]
        refine sem_drawK (ko := 0) (pf := [34]) (mf := []) (ms := []) mixed tabRJ_ok pureRJ noMk [0, 1, 2, 3, 4, 5, 6, 7, 8, 9, 10] (by kernel_rfl) ?_
        simp only [go_sem]
        refine call_data bitR (by simp) _ _ rfl ⟨n', wa, k, rfl, hoa, by omega, by omega, rfl⟩ (.inl rfl) ?_
        have put : ∀ (x : Bool) (s : List AV) (K : AV → List Obj → List Nat → Prop), x = p k →
            K (.tup []) [.box [.dat (.int .i64 n'), .dat (.sl none (us wa))], .box [.dat (.int .i64 n'), .dat (.sl none (us wb))], .box [.dat (.int .i64 0), .nils], .dead, .dead, .dead, .row none (us (rK p wa (k + 1))), .box [.dat (.int .i64 n'), .sl 6 0 wa.length]] [] →
            callw (tbl tabRJ) (.fn 36 []) [.agg [.dat (.int .i64 n'), .sl 6 0 wa.length], .dat (.int .i64 k), .dat (.bool x)] [.box [.dat (.int .i64 n'), .dat (.sl none (us wa))], .box [.dat (.int .i64 n'), .dat (.sl none (us wb))], .box [.dat (.int .i64 0), .nils], .dead, .dead, .dead, .row none (us (rK p wa k)), .box [.dat (.int .i64 n'), .sl 6 0 wa.length]] K := by
          intro x s K hx hK
          have hb : AV.agg [.dat (.int .i64 n'), .sl 6 0 wa.length] = AV.agg [.dat (.int .i64 n'), .sl 6 0 (rK p wa k).length] := by rw [hlen]
          rw [hb]
          refine call_lent putR (by simp) [6] ⟨n', rK p wa k, k, x, mk_ok _ _, by rw [hlen]; exact h64, by rw [hlen]; omega, rfl, rfl, rfl, rfl, rfl, rfl⟩ (by decide) (by simp) rfl rfl rfl (by simp only [go_sem]) (by simp only [List.mem_singleton, forall_eq]; trivial) (fun j hj => by
            obtain rfl : j = 0 := by simp at hj; exact hj
            rfl) ?_
          simp only [go_sem, List.map_cons, List.map_nil, List.getD_cons_zero, List.append_nil, rK_step (p := p) (ws := wa) (k := k) (x := x) hx]
          exact hK
        cases ha : bitAt wa k
        · simp only [go_sem]
          refine put _ [] _ (by rw [hp]; simp [ha]) ?_
          simp only [go_sem]
          exact ⟨inR_i64.2 (by omega), k + 1, by omega, by omega, le_slots' (by simp only [go_sem, Int.natCast_add, Int.cast_ofNat_Int])⟩
        · simp only [go_sem]
          refine call_data bitR (by simp) _ _ rfl ⟨n', wb, k, rfl, hob, by omega, by omega, rfl⟩ (.inl rfl) ?_
          simp only [go_sem]
          refine put _ [] _ (by rw [hp]; simp [ha]) ?_
          simp only [go_sem]
          exact ⟨inR_i64.2 (by omega), k + 1, by omega, by omega, le_slots' (by simp only [go_sem, Int.natCast_add, Int.cast_ofNat_Int])⟩
      · have : k = n' := by omega
        subst this
        have hend : rK p wa k = joinW (· && ·) wa wb := mk_congr fun i _ => by
          unfold rB
          split
          · exact hp i
          · rw [hf.bits i (by omega), hfb.bits i (by omega)]; rfl
        rw [hend]
        have hlen2 : (joinW (· && ·) wa wb).length = wa.length := mk_len _ _
        simp only [go_sem, hk1, decide_false]
        refine post_res (.inl rfl) [.cell 4 24, .tmp 5] rfl ?_
        simp only [go_sem]
        refine Le.trans (le_freeze 6 (ag := none) (xs := us (joinW (· && ·) wa wb)) rfl (Nat.zero_le _)) ?_
        have e1 : List.take wa.length (us (joinW (· && ·) wa wb)) = us (joinW (· && ·) wa wb) := List.take_of_length_le (by rw [List.length_map, hlen2]; exact Nat.le_refl _)
        simp only [go_sem, List.length_map, hlen2, List.drop_zero, Nat.le_refl, if_true]
        exact le_fin (by simp only [go_sem, pairV, bitsD, e1]) (by simp only [go_sem, pairV])
  · rw [joinV_both h0]
    simp only [go_sem, h0, decide_false, Bool.not_false]
    refine post_res (.inl rfl) [.cell 4 24, .tmp 5] rfl ?_
    simp only [go_sem]
    exact le_fin (by simp only [go_sem, pairV, bitsD, us, List.map_nil]) (by simp only [go_sem, pairV])

set_option maxRecDepth 4000 in
theorem ror_ok : OkF Tryd.prog 30 (dataC (joinR (· || ·))) := by
  refine okF_data Tryd.func30 rfl (by decide) ?_
  rintro ds v ⟨sa, wa, sb, wb, rfl, hoa, hob, rfl⟩
  refine sem_of_awp (Γ := tbl tabRJ) tabRJ_ok _ _ _ ?_
  simp only [go_sem, Tryd.ntmps30]
  refine call_data bothR (by simp) _ _ rfl ⟨sa, wa, sb, wb, rfl, hoa, hob, rfl⟩ (.inl rfl) ?_
  by_cases h0 : bothV sa wa sb wb = 0
  · obtain ⟨g1, g2, g3⟩ := both_zero h0
    obtain ⟨n, rfl, hf⟩ := checkV_zero hoa g1
    subst g3
    obtain ⟨n', hn', hfb⟩ := checkV_zero hob g2
    have : n' = n := by omega
    subst this
    have hn := hf.le; have hl := hf.len; have hlb := hfb.len
    have hv : joinV (· || ·) n' wa n' wb = pairV n' (joinW (· || ·) wa wb) 0 := by unfold joinV; rw [if_neg (by simp [g1]), if_neg (by simp [g2]), if_neg (by simp)]
    rw [hv]
    simp only [go_sem, h0, decide_true, Bool.not_true]
    have h64 : wa.length ≤ 64 := by omega
    obtain ⟨p, hp⟩ : ∃ p : Nat → Bool, ∀ i, p i = (bitAt wa i || bitAt wb i) := ⟨_, fun _ => rfl⟩
    refine call_made copyR (by simp) _ _ _ rfl rfl ⟨n', wa, h64, rfl, rfl, rfl⟩ ?_
    simp only [go_sem, AV.shift, Obj.shift, AV.shifts]
    refine sem_loop (fun k : Nat => ⟨slotsOf 36 [(2, .ptr 0 0 0), (3, .ptr 1 0 0), (4, .ptr 2 0 0), (5, .dat (.int .i64 0)), (7, .ptr 7 0 0), (8, .dat (.int .i64 k))],
        [.box [.dat (.int .i64 n'), .dat (.sl none (us wa))], .box [.dat (.int .i64 n'), .dat (.sl none (us wb))], .box [.dat (.int .i64 0), .nils], .dead, .dead, .dead, .row none (us (rK p wa k)), .box [.dat (.int .i64 n'), .sl 6 0 wa.length]], 0, []⟩)
      (fun k => k ≤ n') (fun k => n' - k) 0 (Nat.zero_le _) ?_ ?_
    · rw [rK_zero hoa]
      exact le_slots' (by simp only [go_sem, Int.natCast_zero])
    · intro k hk
      refine sem_of_awp (Γ := tbl tabRJ) tabRJ_ok _ _ _ ?_
      have hlen : (rK p wa k).length = wa.length := mk_len _ _
      by_cases hk1 : (k : Int) < n'
      · have k1 : k < n' := by omega
        simp only [go_sem, hk1, decide_true]
        refine sem_drawK (ko := 0) (pf := [34]) (mf := []) (ms := []) mixed tabRJ_ok pureRJ noMk [0, 1, 2, 3, 4, 5, 6, 7, 8, 9, 10] (by kernel_rfl) ?_
        simp only [go_sem]
        refine call_data bitR (by simp) _ _ rfl ⟨n', wa, k, rfl, hoa, by omega, by omega, rfl⟩ (.inl rfl) ?_
        have put : ∀ (x : Bool) (s : List AV) (K : AV → List Obj → List Nat → Prop), x = p k →
            K (.tup []) [.box [.dat (.int .i64 n'), .dat (.sl none (us wa))], .box [.dat (.int .i64 n'), .dat (.sl none (us wb))], .box [.dat (.int .i64 0), .nils], .dead, .dead, .dead, .row none (us (rK p wa (k + 1))), .box [.dat (.int .i64 n'), .sl 6 0 wa.length]] [] →
            callw (tbl tabRJ) (.fn 36 []) [.agg [.dat (.int .i64 n'), .sl 6 0 wa.length], .dat (.int .i64 k), .dat (.bool x)] [.box [.dat (.int .i64 n'), .dat (.sl none (us wa))], .box [.dat (.int .i64 n'), .dat (.sl none (us wb))], .box [.dat (.int .i64 0), .nils], .dead, .dead, .dead, .row none (us (rK p wa k)), .box [.dat (.int .i64 n'), .sl 6 0 wa.length]] K := by
          intro x s K hx hK
          have hb : AV.agg [.dat (.int .i64 n'), .sl 6 0 wa.length] = AV.agg [.dat (.int .i64 n'), .sl 6 0 (rK p wa k).length] := by rw [hlen]
          rw [hb]
          refine call_lent putR (by simp) [6] ⟨n', rK p wa k, k, x, mk_ok _ _, by rw [hlen]; exact h64, by rw [hlen]; omega, rfl, rfl, rfl, rfl, rfl, rfl⟩ (by decide) (by simp) rfl rfl rfl (by simp only [go_sem]) (by simp only [List.mem_singleton, forall_eq]; trivial) (fun j hj => by
            obtain rfl : j = 0 := by simp at hj; exact hj
            rfl) ?_
          simp only [go_sem, List.map_cons, List.map_nil, List.getD_cons_zero, List.append_nil, rK_step (p := p) (ws := wa) (k := k) (x := x) hx]
          exact hK
        cases ha : bitAt wa k
        · simp only [go_sem]
          refine call_data bitR (by simp) _ _ rfl ⟨n', wb, k, rfl, hob, by omega, by omega, rfl⟩ (.inl rfl) ?_
          simp only [go_sem]
          refine put _ [] _ (by rw [hp]; simp [ha]) ?_
          simp only [go_sem]
          exact ⟨inR_i64.2 (by omega), k + 1, by omega, by omega, le_slots' (by simp only [go_sem, Int.natCast_add, Int.cast_ofNat_Int])⟩
        · simp only [go_sem]
          refine put _ [] _ (by rw [hp]; simp [ha]) ?_
          simp only [go_sem]
          exact ⟨inR_i64.2 (by omega), k + 1, by omega, by omega, le_slots' (by simp only [go_sem, Int.natCast_add, Int.cast_ofNat_Int])⟩
      · have : k = n' := by omega
        subst this
        have hend : rK p wa k = joinW (· || ·) wa wb := mk_congr fun i _ => by
          unfold rB
          split
          · exact hp i
          · rw [hf.bits i (by omega), hfb.bits i (by omega)]; rfl
        rw [hend]
        have hlen2 : (joinW (· || ·) wa wb).length = wa.length := mk_len _ _
        simp only [go_sem, hk1, decide_false]
        refine post_res (.inl rfl) [.cell 4 24, .tmp 5] rfl ?_
        simp only [go_sem]
        refine Le.trans (le_freeze 6 (ag := none) (xs := us (joinW (· || ·) wa wb)) rfl (Nat.zero_le _)) ?_
        have e1 : List.take wa.length (us (joinW (· || ·) wa wb)) = us (joinW (· || ·) wa wb) := List.take_of_length_le (by rw [List.length_map, hlen2]; exact Nat.le_refl _)
        simp only [go_sem, List.length_map, hlen2, List.drop_zero, Nat.le_refl, if_true]
        exact le_fin (by simp only [go_sem, pairV, bitsD, e1]) (by simp only [go_sem, pairV])
  · rw [joinV_both h0]
    simp only [go_sem, h0, decide_false, Bool.not_false]
    refine post_res (.inl rfl) [.cell 4 24, .tmp 5] rfl ?_
    simp only [go_sem]
    exact le_fin (by simp only [go_sem, pairV, bitsD, us, List.map_nil]) (by simp only [go_sem, pairV])
end Go.AM

namespace Go.AM
open Go Go.Proofs

/-! Not. -/
def notW (n : Nat) (ws : List Nat) : List Nat := mk ws.length fun i => decide (i < n) && !bitAt ws i
noncomputable def notV (sz : Int) (ws : List Nat) : AV := if checkV sz ws ≠ 0 then pairV 0 [] (checkV sz ws) else pairV sz (notW sz.toNat ws) 0
def notR (ds : List D) (v : AV) : Prop := ∃ sz ws, ds = [bitsD sz ws] ∧ Ok64 ws ∧ v = notV sz ws

abbrev tabRN : List (Nat × Contract) := [(15, dataC chkR), (35, madeC copyR), (34, dataC bitR), (36, lentC putR)]
theorem tabRN_ok : OkG Tryd.prog (tbl tabRN) := okG_cons rcheck_ok (okG_cons copy_ok (okG_cons bit_ok (okG_cons put_ok okG_nil)))
theorem pureRN : PureFns (tbl tabRN) [34] := by
  rintro g args own v own' mv hg ⟨C, hm, hC⟩
  simp at hg
  subst hg
  simp at hm
  subst hm
  obtain ⟨_, _, _, h1, h2, _⟩ := hC
  exact ⟨h1, h2⟩

set_option maxRecDepth 4000 in
theorem rnot_ok : OkF Tryd.prog 32 (dataC notR) := by
  refine okF_data Tryd.func32 rfl (by decide) ?_
  rintro ds v ⟨sz, ws, rfl, ho, rfl⟩
  refine sem_of_awp (Γ := tbl tabRN) tabRN_ok _ _ _ ?_
  simp only [go_sem, Tryd.ntmps32]
  refine call_data chkR (by simp) _ _ rfl ⟨sz, ws, rfl, ho, rfl⟩ (.inl rfl) ?_
  by_cases h0 : checkV sz ws = 0
  · obtain ⟨n, rfl, hf⟩ := checkV_zero ho h0
    have hn := hf.le; have hl := hf.len
    have hv : notV n ws = pairV n (notW n ws) 0 := by unfold notV; rw [if_neg (by simp [h0])]; rfl
    rw [hv]
    simp only [go_sem, h0, decide_true, Bool.not_true]
    have h64 : ws.length ≤ 64 := by omega
    obtain ⟨p, hp⟩ : ∃ p : Nat → Bool, ∀ i, p i = !bitAt ws i := ⟨_, fun _ => rfl⟩
    refine call_made copyR (by simp) _ _ _ rfl rfl ⟨n, ws, h64, rfl, rfl, rfl⟩ ?_
    simp only [go_sem, AV.shift, Obj.shift, AV.shifts]
    refine sem_loop (fun k : Nat => ⟨slotsOf 29 [(1, .ptr 0 0 0), (2, .ptr 1 0 0), (3, .dat (.int .i64 0)), (5, .ptr 6 0 0), (6, .dat (.int .i64 k))],
        [.box [.dat (.int .i64 n), .dat (.sl none (us ws))], .box [.dat (.int .i64 0), .nils], .dead, .dead, .dead, .row none (us (rK p ws k)), .box [.dat (.int .i64 n), .sl 5 0 ws.length]], 0, []⟩)
      (fun k => k ≤ n) (fun k => n - k) 0 (Nat.zero_le _) ?_ ?_
    · rw [rK_zero ho]
      exact le_slots' (by simp only [go_sem, Int.natCast_zero])
    · intro k hk
      refine sem_of_awp (Γ := tbl tabRN) tabRN_ok _ _ _ ?_
      have hlen : (rK p ws k).length = ws.length := mk_len _ _
      by_cases hk1 : (k : Int) < n
      · have k1 : k < n := by omega
        simp only [go_sem, hk1, decide_true]
        refine sem_drawK (ko := 0) (pf := [34]) (mf := []) (ms := []) mixed tabRN_ok pureRN noMk [0, 1, 2, 3, 4, 5, 6] (by kernel_rfl) ?_
        simp only [go_sem]
        refine call_data bitR (by simp) _ _ rfl ⟨n, ws, k, rfl, ho, by omega, by omega, rfl⟩ (.inl rfl) ?_
        simp only [go_sem]
        have hb : AV.agg [.dat (.int .i64 n), .sl 5 0 ws.length] = AV.agg [.dat (.int .i64 n), .sl 5 0 (rK p ws k).length] := by rw [hlen]
        rw [hb]
        refine call_lent putR (by simp) [5] ⟨n, rK p ws k, k, !bitAt ws k, mk_ok _ _, by rw [hlen]; exact h64, by rw [hlen]; omega, rfl, rfl, rfl, rfl, rfl, rfl⟩ (by decide) (by simp) rfl rfl rfl (by simp only [go_sem]) (by simp only [List.mem_singleton, forall_eq]; trivial) (fun j hj => by
          obtain rfl : j = 0 := by simp at hj; exact hj
          rfl) ?_
        simp only [go_sem, List.map_cons, List.map_nil, List.getD_cons_zero, List.append_nil, rK_step (p := p) (ws := ws) (k := k) (hp k).symm]
        exact ⟨inR_i64.2 (by omega), k + 1, by omega, by omega, le_slots' (by simp only [go_sem, Int.natCast_add, Int.cast_ofNat_Int])⟩
      · have : k = n := by omega
        subst this
        have hend : rK p ws k = notW k ws := mk_congr fun i _ => by
          unfold rB
          by_cases h : i < k
          · rw [if_pos h, hp]; simp [h]
          · rw [if_neg h, hf.bits i (by omega)]; simp [h]
        rw [hend]
        have hlen2 : (notW k ws).length = ws.length := mk_len _ _
        simp only [go_sem, hk1, decide_false]
        refine post_res (.inl rfl) [.cell 2 24, .tmp 3] rfl ?_
        simp only [go_sem]
        refine Le.trans (le_freeze 5 (ag := none) (xs := us (notW k ws)) rfl (Nat.zero_le _)) ?_
        have e1 : List.take ws.length (us (notW k ws)) = us (notW k ws) := List.take_of_length_le (by rw [List.length_map, hlen2]; exact Nat.le_refl _)
        simp only [go_sem, List.length_map, hlen2, List.drop_zero, Nat.le_refl, if_true]
        exact le_fin (by simp only [go_sem, pairV, bitsD, e1]) (by simp only [go_sem, pairV])
  · have hv : notV sz ws = pairV 0 [] (checkV sz ws) := by unfold notV; rw [if_pos h0]
    rw [hv]
    simp only [go_sem, h0, decide_false, Bool.not_false]
    refine post_res (.inl rfl) [.cell 2 24, .tmp 3] rfl ?_
    simp only [go_sem]
    exact le_fin (by simp only [go_sem, pairV, bitsD, us, List.map_nil]) (by simp only [go_sem, pairV])

/-! bitset.Not. -/
theorem mask_sub {m : Nat} (hm : m < 64) : IntKind.u64.wrap (shlV .u64 1 (m : Int) - 1) = ((maskV 0 m : Nat) : Int) := by
  rw [shl_one hm, ← mask_low m hm, wrap_u64']
  have h2 := pow_lt64 hm
  have h3 : 0 < 2 ^ m := Nat.two_pow_pos m
  omega
def flip1 : Bool → Bool → Bool := fun x _ => !x
theorem not_full {n : Nat} {ws : List Nat} (hl : ws.length = (n + 63) / 64) (h : n % 64 = 0) : joinW flip1 ws ws = notW n ws := mk_congr fun i hi => by
  have : i < n := by omega
  simp [flip1, this]
theorem not_last {n x : Nat} {ws : List Nat} (hl : ws.length = (n + 63) / 64) (h : 0 < n % 64) (hx : x < 18446744073709551616)
    (hb : ∀ j, j < 64 → x.testBit j = (((joinW flip1 ws ws).getD (ws.length - 1) 0).testBit j && decide (j < n % 64))) : (joinW flip1 ws ws).set (ws.length - 1) x = notW n ws := by
  refine mk_set hx (fun j hj => ?_) (fun i hi hne => ?_)
  · rw [hb j hj, bit_word _ _ _ hj, joinW, mk_bit]
    have h1 : 64 * (ws.length - 1) + j < 64 * ws.length := by omega
    have h2 : decide (64 * (ws.length - 1) + j < n) = decide (j < n % 64) := by
      have : (64 * (ws.length - 1) + j < n) = (j < n % 64) := by simp; omega
      simp only [this]
    rw [h2]
    simp only [h1, decide_true, Bool.true_and, flip1]
    exact Bool.and_comm _ _
  · have : i < n := by omega
    simp [flip1, this]

abbrev tabN2 : List (Nat × Contract) := [(14, dataC chkR), (38, madeC cloneR)]
theorem tabN2_ok : OkG Tryd.prog (tbl tabN2) := okG_cons check_ok (okG_cons clone_ok okG_nil)
theorem makeN2 {mf : List Nat} : MakeFns (tbl tabN2) mf := made_of fun g C hm => by
  simp only [List.mem_cons, List.not_mem_nil, or_false, Prod.mk.injEq] at hm
  rcases hm with ⟨_, rfl⟩ | ⟨_, rfl⟩
  · exact .inl ⟨_, rfl⟩
  · exact .inr ⟨_, rfl⟩

set_option maxRecDepth 4000 in
theorem not_ok : OkF Tryd.prog 31 (dataC notR) := by
  refine okF_data Tryd.func31 rfl (by decide) ?_
  rintro ds v ⟨sz, ws, rfl, ho, rfl⟩
  refine sem_of_awpK [5] (Γ := tbl tabN2) tabN2_ok _ _ _ ?_
  simp only [go_sem, Tryd.ntmps31]
  refine call_data chkR (by simp) _ _ rfl ⟨sz, ws, rfl, ho, rfl⟩ (.inl rfl) ?_
  by_cases h0 : checkV sz ws = 0
  · obtain ⟨n, rfl, hf⟩ := checkV_zero ho h0
    have hn := hf.le; have hl := hf.len
    have hv : notV n ws = pairV n (notW n ws) 0 := by unfold notV; rw [if_neg (by simp [h0])]; rfl
    rw [hv]
    simp only [go_sem, h0, decide_true, Bool.not_true]
    have h64 : ws.length ≤ 64 := by omega
    refine sem_drawB (ob := 0) (pf := []) (mf := [38]) (ms := []) mixed tabN2_ok pure0 makeN2 [0, 1, 2, 3] 4 6 [5, 6, 7] [4, 5, 7] (by kernel_rfl) ?_
    simp only [go_sem, chainM, opm]
    apply both_of
    · intro h
      refine call_made cloneR (by simp) _ _ _ rfl rfl ⟨ws, h64, rfl, rfl, rfl⟩ ?_
      simp only [go_sem, AV.shift, Obj.shift, AV.shifts]
      exact h
    · intro h
      refine call_made cloneR (by simp) _ _ _ rfl rfl ⟨ws, h64, rfl, rfl, rfl⟩ ?_
      simp only [go_sem, AV.shift, Obj.shift, AV.shifts]
      exact sem_le (le_swp 2 3 (by decide : (2 : Nat) < 4) (by decide : (3 : Nat) < 4) rfl rfl) h
    · refine sem_of_awp (Γ := tbl tabN2) tabN2_ok _ _ _ ?_
      simp only [go_sem]
      refine sem_loop (fun k : Nat => ⟨slotsOf 56 [(1, .ptr 0 0 0), (2, .ptr 1 0 0), (3, .dat (.int .i64 0)), (5, .ptr 3 0 0), (21, .sl 2 0 ws.length), (22, .dat (.int .i64 ws.length)), (23, .dat (.int .i64 k))],
          [.box [.dat (.int .i64 n), .dat (.sl none (us ws))], .box [.dat (.int .i64 0), .nils], .row none (us (joinK flip1 ws ws k)), .box [.dat (.int .i64 n), .sl 2 0 ws.length]], 0, []⟩)
        (fun k => k ≤ ws.length) (fun k => ws.length - k) 0 (Nat.zero_le _) ?_ ?_
      · rw [joinK_zero ho]
        exact le_slots' (by simp only [go_sem, Int.natCast_zero])
      · intro k hk
        refine sem_of_awp (Γ := tbl tabN2) tabN2_ok _ _ _ ?_
        have hlen : (joinK flip1 ws ws k).length = ws.length := mk_len _ _
        by_cases hk1 : (k : Int) < ws.length
        · have k1 : k < ws.length := by omega
          have k3 : k < (joinK flip1 ws ws k).length := by omega
          have hwx : (joinK flip1 ws ws k).getD k 0 < 18446744073709551616 := (mk_ok ws.length (joinB flip1 ws ws k)).get k
          have hlt : 2 ^ 64 - ((joinK flip1 ws ws k).getD k 0 + 1) < 18446744073709551616 := by omega
          have hst := joinK_step (f := flip1) (wb := ws) k1 hlt (fun j hj => by rw [not_bit hwx]; simp [hj, flip1])
          have hset : (us (joinK flip1 ws ws k)).set k (.int .u64 ((2 ^ 64 - ((joinK flip1 ws ws k).getD k 0 + 1) : Nat) : Int)) = us (joinK flip1 ws ws (k + 1)) := by rw [← hst]; simp [us, List.map_set]
          simp only [go_sem, hk1, decide_true]
          refine sem_drawM (ob := 2) (pf := []) (mf := []) (ms := []) mixed tabN2_ok pure0 noMk [0, 1, 2, 3, 4, 5, 6, 7, 8, 9, 10] (by kernel_rfl) ?_
          simp only [go_sem, chainM, opm, nth_us k3, hk1, Int.natCast_nonneg, Int.toNat_natCast, List.length_map, hlen, not_nat hwx, hset, true_and]
          exact ⟨k1, k1, inR_i64.2 (by omega), k + 1, by omega, by omega, le_slots' (by simp only [go_sem, Int.natCast_add, Int.cast_ofNat_Int])⟩
        · have : k = ws.length := by omega
          subst this
          rw [joinK_all]
          have hlen2 : (joinW flip1 ws ws).length = ws.length := mk_len _ _
          simp only [go_sem, hk1, decide_false, tmod64]
          refine ⟨inR_in (by omega), ?_⟩
          by_cases hr : (0 : Int) < ((n % 64 : Nat) : Int)
          · have hr' : 0 < n % 64 := by omega
            have q1 : ws.length - 1 < (joinW flip1 ws ws).length := by omega
            have q2 : ((ws.length : Int) - 1) = ((ws.length - 1 : Nat) : Int) := by omega
            have q3 : ((ws.length - 1 : Nat) : Int) < ws.length := by omega
            have hwx : (joinW flip1 ws ws).getD (ws.length - 1) 0 < 18446744073709551616 := (mk_ok ws.length _).get _
            have hms := mask_sub (m := n % 64) (by omega)
            have hst := not_last hl hr' (x := (joinW flip1 ws ws).getD (ws.length - 1) 0 &&& maskV 0 (n % 64)) (Nat.lt_of_le_of_lt Nat.and_le_left hwx) (fun j hj => by
              rw [Nat.testBit_and, maskV_bit _ _ hj]; simp)
            have hset : (us (joinW flip1 ws ws)).set (ws.length - 1) (.int .u64 (((joinW flip1 ws ws).getD (ws.length - 1) 0 &&& maskV 0 (n % 64) : Nat) : Int)) = us (notW n ws) := by rw [← hst]; simp [us, List.map_set]
            simp only [go_sem, hr, decide_true]
            refine sem_drawM (ob := 2) (pf := []) (mf := []) (ms := []) mixed tabN2_ok pure0 noMk [0, 1, 2, 3, 4, 5, 6, 7, 8, 9, 10, 11, 12, 13] (by kernel_rfl) ?_
            simp only [go_sem, chainM, opm, q2, nth_us q1, q3, Int.natCast_nonneg, Int.toNat_natCast, List.length_map, hlen2, hms, bits_and hwx (maskV_lt _ _), hset, true_and]
            have hlen3 : (notW n ws).length = ws.length := mk_len _ _
            have q4 : ws.length - 1 < ws.length := by omega
            refine ⟨inR_in (by omega), q4, q4, ?_⟩
            refine post_res (.inl rfl) [.cell 2 24, .tmp 3] rfl ?_
            simp only [go_sem]
            refine Le.trans (le_freeze 2 (ag := none) (xs := us (notW n ws)) rfl (Nat.zero_le _)) ?_
            have e1 : List.take ws.length (us (notW n ws)) = us (notW n ws) := List.take_of_length_le (by rw [List.length_map, hlen3]; exact Nat.le_refl _)
            simp only [go_sem, List.length_map, hlen3, List.drop_zero, Nat.le_refl, if_true]
            exact le_fin (by simp only [go_sem, pairV, bitsD, e1]) (by simp only [go_sem, pairV])
          · have hr' : n % 64 = 0 := by omega
            rw [not_full hl hr']
            have hlen3 : (notW n ws).length = ws.length := mk_len _ _
            simp only [go_sem, hr, decide_false]
            refine post_res (.inl rfl) [.cell 2 24, .tmp 3] rfl ?_
            simp only [go_sem]
            refine Le.trans (le_freeze 2 (ag := none) (xs := us (notW n ws)) rfl (Nat.zero_le _)) ?_
            have e1 : List.take ws.length (us (notW n ws)) = us (notW n ws) := List.take_of_length_le (by rw [List.length_map, hlen3]; exact Nat.le_refl _)
            simp only [go_sem, List.length_map, hlen3, List.drop_zero, Nat.le_refl, if_true]
            exact le_fin (by simp only [go_sem, pairV, bitsD, e1]) (by simp only [go_sem, pairV])
  · have hv : notV sz ws = pairV 0 [] (checkV sz ws) := by unfold notV; rw [if_pos h0]
    rw [hv]
    simp only [go_sem, h0, decide_false, Bool.not_false]
    refine post_res (.inl rfl) [.cell 2 24, .tmp 3] rfl ?_
    simp only [go_sem]
    exact le_fin (by simp only [go_sem, pairV, bitsD, us, List.map_nil]) (by simp only [go_sem, pairV])
end Go.AM

