/- Own work over the model of the kit. -/
import Derived.Test.YtigpifiechkfkaaDoorLawA
import Derived.Test.YtigpifiechkfkaaDoorWalkD
set_option linter.unusedSimpArgs false
set_option linter.unusedVariables false
namespace Go.AM
open Go Go.Proofs

theorem joinV_small {f : Bool → Bool → Bool} {sa : Int} {wa : List Nat} {sb : Int} {wb : List Nat} (ho : Ok64 wa) : ∃ z w e, joinV f sa wa sb wb = pairV z w e ∧ w.length ≤ 64 := by
  unfold joinV
  split
  · exact ⟨_, _, _, rfl, Nat.zero_le _⟩
  · rename_i h0
    simp only [ne_eq, Decidable.not_not] at h0
    obtain ⟨n, rfl, hf⟩ := checkV_zero ho h0
    have hn := hf.le; have hl := hf.len
    split
    · exact ⟨_, _, _, rfl, Nat.zero_le _⟩
    · split
      · exact ⟨_, _, _, rfl, Nat.zero_le _⟩
      · exact ⟨_, _, _, rfl, by rw [joinW, mk_len]; omega⟩
theorem notV_small {sz : Int} {ws : List Nat} (ho : Ok64 ws) : ∃ z w e, notV sz ws = pairV z w e ∧ w.length ≤ 64 := by
  unfold notV
  split
  · exact ⟨_, _, _, rfl, Nat.zero_le _⟩
  · rename_i h0
    simp only [ne_eq, Decidable.not_not] at h0
    obtain ⟨n, rfl, hf⟩ := checkV_zero ho h0
    have hn := hf.le; have hl := hf.len
    exact ⟨_, _, _, rfl, by rw [notW, mk_len]; omega⟩

abbrev tabL4 : List (Nat × Contract) := [(11, dataC awakeR), (14, dataC chkR), (16, dataC sameR), (27, dataC (joinR (· && ·))), (28, dataC (joinR (· && ·))), (29, dataC (joinR (· || ·))), (30, dataC (joinR (· || ·))), (31, dataC notR), (32, dataC notR)]
theorem tabL4_ok : OkG Tryd.prog (tbl tabL4) := okG_cons awake_ok (okG_cons check_ok (okG_cons same_ok (okG_cons and_ok (okG_cons rand_ok (okG_cons or_ok (okG_cons ror_ok (okG_cons not_ok (okG_cons rnot_ok okG_nil))))))))

def joinsR (ds : List D) (v : AV) : Prop := ∃ sa wa sb wb, ds = [bitsD sa wa, bitsD sb wb] ∧ Ok64 wa ∧ Ok64 wb ∧ v = .dat (.bool true)
set_option maxRecDepth 8000 in
theorem joins_ok : OkF Tryd.prog 9 (dataC joinsR) := by
  refine okF_data Tryd.func9 rfl (by decide) ?_
  rintro ds v ⟨sa, wa, sb, wb, rfl, hoa, hob, rfl⟩
  refine sem_of_awp (Γ := tbl tabL4) tabL4_ok _ _ _ ?_
  simp only [go_sem, Tryd.ntmps9]
  refine call_data awakeR (by simp) _ _ rfl ⟨rfl, rfl⟩ (.inl rfl) ?_
  simp only [go_sem]
  obtain ⟨z1, w1, e1, hv1, hw1⟩ := joinV_small (f := (· && ·)) (sa := sa) (sb := sb) (wb := wb) hoa
  obtain ⟨z2, w2, e2, hv2, hw2⟩ := joinV_small (f := (· || ·)) (sa := sa) (sb := sb) (wb := wb) hoa
  obtain ⟨z3, w3, e3, hv3, hw3⟩ := notV_small (sz := sa) hoa
  refine call_data (joinR (· && ·)) (by simp) _ _ rfl ⟨sa, wa, sb, wb, rfl, hoa, hob, hv1.symm⟩ (.inl rfl) ?_
  simp only [go_sem, pairV, bitsD]
  refine call_data (joinR (· && ·)) (by simp) _ _ rfl ⟨sa, wa, sb, wb, rfl, hoa, hob, hv1.symm⟩ (.inl rfl) ?_
  simp only [go_sem, pairV, bitsD, decide_true, Bool.not_true]
  refine call_data sameR (by simp) _ _ rfl ⟨z1, w1, z1, w1, rfl, hw1, rfl⟩ (.inl rfl) ?_
  simp only [go_sem, same_self, Bool.not_true]
  refine call_data (joinR (· || ·)) (by simp) _ _ rfl ⟨sa, wa, sb, wb, rfl, hoa, hob, hv2.symm⟩ (.inl rfl) ?_
  simp only [go_sem, pairV, bitsD]
  refine call_data (joinR (· || ·)) (by simp) _ _ rfl ⟨sa, wa, sb, wb, rfl, hoa, hob, hv2.symm⟩ (.inl rfl) ?_
  simp only [go_sem, pairV, bitsD, decide_true, Bool.not_true]
  refine call_data sameR (by simp) _ _ rfl ⟨z2, w2, z2, w2, rfl, hw2, rfl⟩ (.inl rfl) ?_
  simp only [go_sem, same_self, Bool.not_true]
  refine call_data notR (by simp) _ _ rfl ⟨sa, wa, rfl, hoa, hv3.symm⟩ (.inl rfl) ?_
  simp only [go_sem, pairV, bitsD]
  refine call_data notR (by simp) _ _ rfl ⟨sa, wa, rfl, hoa, hv3.symm⟩ (.inl rfl) ?_
  simp only [go_sem, pairV, bitsD, decide_true]
  refine call_data sameR (by simp) _ _ rfl ⟨z3, w3, z3, w3, rfl, hw3, rfl⟩ (.inl rfl) ?_
  simp only [go_sem, same_self]
  exact post_data (.inl rfl) [4] rfl trivial rfl

/-! The law BitsetMorgan. -/
theorem fine_join {n : Nat} {wa wb : List Nat} {f : Bool → Bool → Bool} (ha : Fine n wa) (hb : Fine n wb) (h : f false false = false) : Fine n (joinW f wa wb) :=
  ⟨ha.le, by rw [joinW, mk_len]; exact ha.len, mk_ok _ _, fun i hi => by rw [joinW, mk_bit, ha.bits i hi, hb.bits i hi, h, Bool.and_false]⟩
theorem fine_not {n : Nat} {ws : List Nat} (h : Fine n ws) : Fine n (notW n ws) :=
  ⟨h.le, by rw [notW, mk_len]; exact h.len, mk_ok _ _, fun i hi => by
    rw [notW, mk_bit]
    have : ¬ i < n := by omega
    simp [this]⟩
theorem notW_bit {n : Nat} {ws : List Nat} (h : Fine n ws) {i : Nat} (hi : i < 64 * ws.length) : bitAt (notW n ws) i = (decide (i < n) && !bitAt ws i) := by rw [notW, mk_bit]; simp [hi]
theorem joinW_bit {f : Bool → Bool → Bool} {wa wb : List Nat} {i : Nat} (hi : i < 64 * wa.length) : bitAt (joinW f wa wb) i = f (bitAt wa i) (bitAt wb i) := by rw [joinW, mk_bit]; simp [hi]
theorem not_and {n : Nat} {wa wb : List Nat} (ha : Fine n wa) (hb : Fine n wb) : notW n (joinW (· && ·) wa wb) = joinW (· || ·) (notW n wa) (notW n wb) := by
  have l1 : (joinW (· && ·) wa wb).length = wa.length := mk_len _ _
  have l2 : (notW n wa).length = wa.length := mk_len _ _
  have l3 : wa.length = wb.length := by rw [ha.len, hb.len]
  refine eq_mk (by rw [notW, mk_len, l1, l2]) (mk_ok _ _) fun i hi => ?_
  rw [l2] at hi
  rw [notW_bit (fine_join ha hb rfl) (by rw [l1]; exact hi), joinW_bit hi, notW_bit ha hi, notW_bit hb (by omega)]
  cases decide (i < n) <;> cases bitAt wa i <;> cases bitAt wb i <;> rfl
theorem not_not {n : Nat} {ws : List Nat} (h : Fine n ws) : notW n (notW n ws) = ws := by
  have l2 : (notW n ws).length = ws.length := mk_len _ _
  symm
  refine eq_mk l2.symm h.ok fun i hi => ?_
  rw [l2] at hi
  rw [notW_bit h hi]
  by_cases hn : i < n
  · simp [hn]
  · rw [h.bits i (by omega)]; simp [hn]
theorem notV_fine {n : Nat} {ws : List Nat} (h : Fine n ws) : notV n ws = pairV n (notW n ws) 0 := by unfold notV; rw [if_neg (by rw [h.zero]; decide)]; rfl
theorem joinV_fine {n : Nat} {wa wb : List Nat} {f : Bool → Bool → Bool} (ha : Fine n wa) (hb : Fine n wb) : joinV f n wa n wb = pairV n (joinW f wa wb) 0 := by
  unfold joinV
  rw [if_neg (by rw [ha.zero]; decide), if_neg (by rw [hb.zero]; decide), if_neg (by simp)]

def morganR (ds : List D) (v : AV) : Prop := ∃ sa wa sb wb, ds = [bitsD sa wa, bitsD sb wb] ∧ Ok64 wa ∧ Ok64 wb ∧ v = .dat (.bool true)
set_option maxRecDepth 8000 in
theorem morgan_ok : OkF Tryd.prog 10 (dataC morganR) := by
  refine okF_data Tryd.func10 rfl (by decide) ?_
  rintro ds v ⟨sa, wa, sb, wb, rfl, hoa, hob, rfl⟩
  refine sem_of_awp (Γ := tbl tabL4) tabL4_ok _ _ _ ?_
  simp only [go_sem, Tryd.ntmps10]
  refine call_data awakeR (by simp) _ _ rfl ⟨rfl, rfl⟩ (.inl rfl) ?_
  simp only [go_sem]
  by_cases h0 : bothV sa wa sb wb = 0
  · obtain ⟨g1, g2, g3⟩ := both_zero h0
    obtain ⟨n, rfl, ha⟩ := checkV_zero hoa g1
    subst g3
    obtain ⟨n', hn', hb⟩ := checkV_zero hob g2
    have : n' = n := by omega
    subst this
    have hn := ha.le; have hl := ha.len
    have hA := fine_join ha hb (f := (· && ·)) rfl
    have hNA := fine_not hA
    have hna := fine_not ha
    have hnb := fine_not hb
    have eq1 := not_and ha hb
    have eq2 := not_not ha
    have ll : (notW n' (joinW (· && ·) wa wb)).length ≤ 64 := by rw [hNA.len]; omega
    have l0 : wa.length ≤ 64 := by omega
    refine call_data (joinR (· && ·)) (by simp) _ _ rfl ⟨n', wa, n', wb, rfl, hoa, hob, (joinV_fine ha hb).symm⟩ (.inl rfl) ?_
    generalize joinW (· && ·) wa wb = A at *
    simp only [go_sem, pairV, bitsD, decide_true, Bool.not_true]
    refine call_data notR (by simp) _ _ rfl ⟨n', A, rfl, hA.ok, (notV_fine hA).symm⟩ (.inl rfl) ?_
    simp only [go_sem, pairV, bitsD]
    refine call_data notR (by simp) _ _ rfl ⟨n', wa, rfl, hoa, (notV_fine ha).symm⟩ (.inl rfl) ?_
    simp only [go_sem, pairV, bitsD]
    refine call_data notR (by simp) _ _ rfl ⟨n', wb, rfl, hob, (notV_fine hb).symm⟩ (.inl rfl) ?_
    simp only [go_sem, pairV, bitsD]
    refine call_data (joinR (· || ·)) (by simp) _ _ rfl ⟨n', notW n' wa, n', notW n' wb, rfl, hna.ok, hnb.ok, (joinV_fine hna hnb).symm⟩ (.inl rfl) ?_
    have hz := hNA.zero
    rw [← eq1]
    simp only [go_sem, pairV, bitsD, decide_true, Bool.not_true]
    refine call_data sameR (by simp) _ _ rfl ⟨n', _, n', _, rfl, ll, rfl⟩ (.inl rfl) ?_
    simp only [go_sem, same_self, Bool.not_true]
    refine call_data chkR (by simp) _ _ rfl ⟨n', _, rfl, hNA.ok, rfl⟩ (.inl rfl) ?_
    simp only [go_sem, hz, decide_true, Bool.not_true]
    refine call_data notR (by simp) _ _ rfl ⟨n', _, rfl, hna.ok, (notV_fine hna).symm⟩ (.inl rfl) ?_
    rw [eq2]
    simp only [go_sem, pairV, bitsD, decide_true]
    refine call_data sameR (by simp) _ _ rfl ⟨n', wa, n', wa, rfl, l0, rfl⟩ (.inl rfl) ?_
    simp only [go_sem, same_self]
    exact post_data (.inl rfl) [4] rfl trivial rfl
  · refine call_data (joinR (· && ·)) (by simp) _ _ rfl ⟨sa, wa, sb, wb, rfl, hoa, hob, (joinV_both h0).symm⟩ (.inl rfl) ?_
    simp only [go_sem, pairV, bitsD, h0, decide_false, Bool.not_false]
    exact post_data (.inl rfl) [4] rfl trivial rfl
end Go.AM

