/- Own work over the model of the kit. -/
import Derived.Test.YtcigeonmhefdhaaLawG
import Derived.Test.YtcigeonmhefdhaaGraphS
set_option linter.unusedSimpArgs false
set_option linter.unusedVariables false
set_option maxRecDepth 8000
set_option maxHeartbeats 2000000
namespace Go.AM
open Go Go.Proofs

/-! The law WaitgraphComponents. -/
theorem Rr_Rch {E : List (Nat × Nat)} {a b : Nat} : Rr E a b ↔ a = b ∨ Rch E a b := by
  constructor
  · rintro ⟨k, h⟩
    cases k with
    | zero => exact .inl h
    | succ k => exact .inr ⟨k, h⟩
  · rintro (rfl | ⟨k, h⟩)
    · exact Rr.refl
    · exact ⟨k + 1, h⟩
theorem lowC_same {n : Nat} {l : List PEdge} {a b : Nat} (ha : a < n) (hb : b < n) : lowC (eF l) a = lowC (eF l) b ↔ a = b ∨ (get2 (reachB n l) a b = true ∧ get2 (reachB n l) b a = true) := by
  have k1 := isLow_ex (eF l) a
  have k2 := isLow_ex (eF l) b
  have r1 := reachB_get (l := l) ha hb
  have r2 := reachB_get (l := l) hb ha
  rw [r1, r2]
  constructor
  · intro e
    rw [e] at k1
    have q1 := Rr_Rch.1 (k1.to.trans k2.from_)
    have q2 := Rr_Rch.1 (k2.to.trans k1.from_)
    rcases q1 with q1 | q1
    · exact .inl q1
    · rcases q2 with q2 | q2
      · exact .inl q2.symm
      · exact .inr ⟨q1, q2⟩
  · rintro (rfl | ⟨q1, q2⟩)
    · rfl
    · have q1 := Rr_Rch.2 (.inr q1)
      have q2 := Rr_Rch.2 (.inr q2)
      exact Nat.le_antisymm (k1.le _ (q1.trans k2.to) (k2.from_.trans q2)) (k2.le _ (q2.trans k1.to) (k1.from_.trans q1))
theorem lowC_low {E : List (Nat × Nat)} {a : Nat} : lowC E (lowC E a) = lowC E a := by
  have k := isLow_ex E a
  have k2 := isLow_ex E (lowC E a)
  exact Nat.le_antisymm (k2.le _ Rr.refl Rr.refl) (k.le _ (k.to.trans k2.to) (k2.from_.trans k.from_))
theorem lowC_le' {E : List (Nat × Nat)} {u : Nat} : lowC E u ≤ u := (isLow_ex E u).le u Rr.refl Rr.refl
theorem compL_len {n : Nat} {l : List PEdge} : (compL n l).length = n := by simp [compL]
theorem compL_nth {n u : Nat} {l : List PEdge} (h : u < n) : D.nth (natsD (compL n l)) u = .int .i64 (lowC (eF l) u : Nat) := by
  rw [nats_at 0 (by rw [compL_len]; exact h)]
  simp [compL, List.getD_eq_getElem?_getD, h]
/-- The lowest node below b that shares a's component, or a. -/
noncomputable def loB (E : List (Nat × Nat)) (a b : Nat) : Nat := if lowC E a < b then lowC E a else a
abbrev tabLP : List (Nat × Contract) := [(10, dataC awakeR), (29, dataC nodesR), (22, dataC compR), (30, dataC reachesR)]
theorem tabLP_ok : OkG Try.prog (tbl tabLP) := okG_cons awake_ok (okG_cons nodes_ok (okG_cons components_ok (okG_cons reaches_ok okG_nil)))
theorem lawComponents_ok : OkF Try.prog 8 (dataC lawGR) := by
  refine okF_data Try.func8 rfl (by decide) ?_
  rintro ds v ⟨a, L, rfl, ha, hL, rfl⟩
  refine sem_of_awp (Γ := tbl tabLP) tabLP_ok _ _ _ ?_
  simp only [go_sem, Int.reduceEq, Int.reduceLT, Int.reduceLE, eq_self, Int.natCast_nonneg, Int.toNat_natCast, Try.ntmps8]
  refine call_data awakeR (by simp) [] _ rfl awakeR_true (.inl rfl) ?_
  by_cases hl : (40 : Int) < L.length
  · simp only [go_sem, Int.reduceEq, Int.reduceLT, Int.reduceLE, eq_self, Int.natCast_nonneg, Int.toNat_natCast, hl, List.length_map]
    refine call_data awakeR (by simp) [] _ rfl awakeR_true (.inl rfl) ?_
    simp only [go_sem, Int.reduceEq, Int.reduceLT, Int.reduceLE, eq_self, Int.natCast_nonneg, Int.toNat_natCast]
    exact post_data (.inl rfl) [4] rfl trivial rfl
  simp only [go_sem, Int.reduceEq, Int.reduceLT, Int.reduceLE, eq_self, Int.natCast_nonneg, Int.toNat_natCast, hl, List.length_map]
  refine call_data nodesR (by simp) [u8D a, .sl (some 2) (L.map pairD)] _ rfl ⟨a, L, rfl, ha, hL, by omega, rfl⟩ (.inl rfl) ?_
  have hg := edgesN_ok (a := a) (L := L) (by omega)
  have hl2 : (edgesN a L).length ≤ 40 := by simp [edgesN]; omega
  have hk := nN_le (a := a)
  generalize edgesN a L = l at *
  generalize nN a = n at *
  have hge := gE_ok hg
  have hcv : compVv n l = .tup [.dat (.sl none (natsD (compL n l))), .dat (.int .i64 0)] := by unfold compVv; rw [if_neg (by rw [hge]; decide), Int.toNat_natCast]
  simp only [go_sem, Int.reduceEq, Int.reduceLT, Int.reduceLE, eq_self, Int.natCast_nonneg, Int.toNat_natCast]
  refine call_data compR (by simp) [.int .i64 n, .sl (some 4) (edgesD l)] _ rfl ⟨n, l, rfl, by omega, rfl⟩ (.inl rfl) ?_
  rw [hcv]
  have hclen := compL_len (n := n) (l := l)
  have hne0 : ¬ ((compL n l).length : Int) ≠ n := by rw [hclen]; simp
  simp only [go_sem, Int.reduceEq, Int.reduceLT, Int.reduceLE, eq_self, Int.natCast_nonneg, Int.toNat_natCast, nats_len, hclen]
  refine call_data reachesR (by simp) [.int .i64 n, .sl (some 4) (edgesD l)] _ rfl ⟨n, l, rfl, hg, rfl⟩ (.inl rfl) ?_
  simp only [go_sem, Int.reduceEq, Int.reduceLT, Int.reduceLE, eq_self, Int.natCast_nonneg, Int.toNat_natCast]
  have hsq := reachB_sq (n := n) (l := l)
  have hrl : ((reachB n l).map boolR).length = n := by rw [List.length_map, hsq.len]
  have hrow : ∀ i, i < n → D.nth ((reachB n l).map boolR) i = boolR ((reachB n l).getD i []) := fun i hi => by
    rw [D.nth_map (by rw [hsq.len]; exact hi), List.getD_eq_getElem?_getD, List.getD_eq_getElem?_getD, List.getElem?_eq_getElem (by rw [hsq.len]; exact hi)]; rfl
  have hget : ∀ i j, i < n → j < n → D.nth (boolsD ((reachB n l).getD i [])) j = .bool (get2 (reachB n l) i j) := fun i j hi hj => boolsD_nth (by rw [hsq.row i hi]; exact hj)
  refine sem_loop (fun i : Nat => ⟨slotsOf 101 [(5, .dat (.int .i64 n)), (7, .dat (.sl none (natsD (compL n l)))), (9, .dat (.sl none ((reachB n l).map boolR))), (45, .dat (.int .i64 n)), (46, .dat (.int .i64 i))], [], 0, []⟩)
    (fun i => i ≤ n) (fun i => n - i) 0 (Nat.zero_le _) ?_ ?_
  · exact le_slots' (by simp only [go_sem, Int.natCast_zero])
  rintro i hi
  refine sem_of_awp (Γ := tbl tabLP) tabLP_ok _ _ _ ?_
  by_cases hin : i = n
  case pos =>
    subst hin
    have hi2 : ¬ (i : Int) < i := by omega
    simp only [go_sem, Int.reduceEq, Int.reduceLT, Int.reduceLE, eq_self, Int.natCast_nonneg, Int.toNat_natCast, hi2]
    exact post_data (.inl rfl) [4] rfl trivial rfl
  have hi2 : (i : Int) < n := by omega
  have hi3 : i < n := by omega
  have hci := compL_nth (l := l) hi3
  have hri := hrow i hi3
  have hrli := hsq.row i hi3
  simp only [go_sem, Int.reduceEq, Int.reduceLT, Int.reduceLE, eq_self, Int.natCast_nonneg, Int.toNat_natCast, hi2]
  have hle := lowC_le' (E := eF l) (u := i)
  refine sem_loop (fun j : Nat => ⟨slotsOf 101 [(5, .dat (.int .i64 n)), (7, .dat (.sl none (natsD (compL n l)))), (9, .dat (.sl none ((reachB n l).map boolR))), (45, .dat (.int .i64 n)), (46, .dat (.int .i64 i)), (10, .dat (.int .i64 i)), (11, .dat (.int .i64 (loB (eF l) i j : Nat))), (50, .dat (.int .i64 n)), (51, .dat (.int .i64 j))], [], 0, []⟩)
    (fun j => j ≤ n) (fun j => n - j) 0 (Nat.zero_le _) ?_ ?_
  · exact le_slots' (by simp only [go_sem, Int.natCast_zero, loB, Nat.not_lt_zero, if_false])
  rintro j hj
  refine sem_of_awp (Γ := tbl tabLP) tabLP_ok _ _ _ ?_
  by_cases hjn : j = n
  case pos =>
    subst hjn
    have hj2 : ¬ (j : Int) < j := by omega
    have hlo : loB (eF l) i j = lowC (eF l) i := by unfold loB; rw [if_pos (by omega)]
    simp only [go_sem, Int.reduceEq, Int.reduceLT, Int.reduceLE, eq_self, Int.natCast_nonneg, Int.toNat_natCast, hj2, hi2, hi3, nats_len, hclen, hci, hlo]
    refine ⟨inR_i64.2 (by omega), i + 1, by omega, by omega, ?_⟩
    exact le_slots' (by simp only [go_sem, Int.natCast_add, Int.cast_ofNat_Int])
  have hj2 : (j : Int) < n := by omega
  have hj3 : j < n := by omega
  have hcj := compL_nth (l := l) hj3
  have hrj := hrow j hj3
  have hrlj := hsq.row j hj3
  have hgij := hget i j hi3 hj3
  have hgji := hget j i hj3 hi3
  have hsame := lowC_same (l := l) hi3 hj3
  have hstep : lowC (eF l) i = lowC (eF l) j → loB (eF l) i (j + 1) = if j < loB (eF l) i j then j else loB (eF l) i j := by
    intro e
    have hle2 := lowC_le' (E := eF l) (u := j)
    unfold loB
    by_cases h1 : lowC (eF l) i < j
    · rw [if_pos h1, if_pos (by omega), if_neg (by omega)]
    · rw [if_neg h1]
      have e2 : lowC (eF l) i = j := by omega
      rw [if_pos (by omega), e2]
      split <;> omega
  have hstep2 : lowC (eF l) i ≠ lowC (eF l) j → loB (eF l) i (j + 1) = loB (eF l) i j := by
    intro e
    unfold loB
    by_cases h1 : lowC (eF l) i < j
    · rw [if_pos h1, if_pos (by omega)]
    · rw [if_neg h1]
      by_cases h2 : lowC (eF l) i = j
      · exact absurd (by rw [← h2, lowC_low]) e
      · rw [if_neg (by omega)]
  by_cases hij : i = j
  · subst hij
    have hs := hstep rfl
    by_cases hlt : i < loB (eF l) i i
    · have hlt2 : (i : Int) < (loB (eF l) i i : Nat) := by omega
      rw [if_pos hlt] at hs
      simp only [go_sem, Int.reduceEq, Int.reduceLT, Int.reduceLE, eq_self, Int.natCast_nonneg, Int.toNat_natCast, hj2]
      refine sem_draw (pf := []) (Γ := tbl tabLP) mixed tabLP_ok (fun g _ _ _ _ _ h => by cases h) [0, 1, 2, 3, 4, 5, 6, 7, 8, 9, 10] (by kernel_rfl) ?_
      simp only [go_sem, Int.reduceEq, Int.reduceLT, Int.reduceLE, eq_self, Int.natCast_nonneg, Int.toNat_natCast, chainI, hj2, hj3, nats_len, hclen, hcj, hlt2, decide_true, Bool.not_true]
      refine ⟨inR_i64.2 (by omega), i + 1, by omega, by omega, ?_⟩
      rw [hs]
      exact le_slots' (by simp only [go_sem, Int.natCast_add, Int.cast_ofNat_Int])
    · have hlt2 : ¬ (i : Int) < (loB (eF l) i i : Nat) := by omega
      rw [if_neg hlt] at hs
      simp only [go_sem, Int.reduceEq, Int.reduceLT, Int.reduceLE, eq_self, Int.natCast_nonneg, Int.toNat_natCast, hj2]
      refine sem_draw (pf := []) (Γ := tbl tabLP) mixed tabLP_ok (fun g _ _ _ _ _ h => by cases h) [0, 1, 2, 3, 4, 5, 6, 7, 8, 9, 10] (by kernel_rfl) ?_
      simp only [go_sem, Int.reduceEq, Int.reduceLT, Int.reduceLE, eq_self, Int.natCast_nonneg, Int.toNat_natCast, chainI, hj2, hj3, nats_len, hclen, hcj, hlt2, decide_true, Bool.not_true]
      refine ⟨inR_i64.2 (by omega), i + 1, by omega, by omega, ?_⟩
      rw [hs]
      exact le_slots' (by simp only [go_sem, Int.natCast_add, Int.cast_ofNat_Int])
  have hij2 : ¬ (i : Int) = j := by omega
  by_cases hm : lowC (eF l) i = lowC (eF l) j
  · obtain ⟨g1, g2⟩ : get2 (reachB n l) i j = true ∧ get2 (reachB n l) j i = true := (hsame.1 hm).resolve_left hij
    rw [g1] at hgij
    rw [g2] at hgji
    have hs := hstep hm
    have hm2 : ((lowC (eF l) i : Nat) : Int) = (lowC (eF l) j : Nat) := by omega
    by_cases hlt : j < loB (eF l) i j
    · have hlt2 : (j : Int) < (loB (eF l) i j : Nat) := by omega
      rw [if_pos hlt] at hs
      simp only [go_sem, Int.reduceEq, Int.reduceLT, Int.reduceLE, eq_self, Int.natCast_nonneg, Int.toNat_natCast, hj2, hij2, hrl, hi2, hi3, hj3, hri, hrj, boolsD_len, hrli, hrlj, hgij, hgji]
      refine sem_draw (pf := []) (Γ := tbl tabLP) mixed tabLP_ok (fun g _ _ _ _ _ h => by cases h) [0, 1, 2, 3, 4, 5, 6, 7, 8, 9, 10] (by kernel_rfl) ?_
      simp only [go_sem, Int.reduceEq, Int.reduceLT, Int.reduceLE, eq_self, Int.natCast_nonneg, Int.toNat_natCast, chainI, hi2, hi3, hj2, hj3, nats_len, hclen, hci, hcj, hm2, hlt2, decide_true, Bool.not_true]
      refine ⟨inR_i64.2 (by omega), j + 1, by omega, by omega, ?_⟩
      rw [hs]
      exact le_slots' (by simp only [go_sem, Int.natCast_add, Int.cast_ofNat_Int])
    · have hlt2 : ¬ (j : Int) < (loB (eF l) i j : Nat) := by omega
      rw [if_neg hlt] at hs
      simp only [go_sem, Int.reduceEq, Int.reduceLT, Int.reduceLE, eq_self, Int.natCast_nonneg, Int.toNat_natCast, hj2, hij2, hrl, hi2, hi3, hj3, hri, hrj, boolsD_len, hrli, hrlj, hgij, hgji]
      refine sem_draw (pf := []) (Γ := tbl tabLP) mixed tabLP_ok (fun g _ _ _ _ _ h => by cases h) [0, 1, 2, 3, 4, 5, 6, 7, 8, 9, 10] (by kernel_rfl) ?_
      simp only [go_sem, Int.reduceEq, Int.reduceLT, Int.reduceLE, eq_self, Int.natCast_nonneg, Int.toNat_natCast, chainI, hi2, hi3, hj2, hj3, nats_len, hclen, hci, hcj, hm2, hlt2, decide_true, Bool.not_true]
      refine ⟨inR_i64.2 (by omega), j + 1, by omega, by omega, ?_⟩
      rw [hs]
      exact le_slots' (by simp only [go_sem, Int.natCast_add, Int.cast_ofNat_Int])
  · have hs := hstep2 hm
    have hm2 : ¬ ((lowC (eF l) i : Nat) : Int) = (lowC (eF l) j : Nat) := by omega
    cases g1 : get2 (reachB n l) i j with
    | false =>
      rw [g1] at hgij
      simp only [go_sem, Int.reduceEq, Int.reduceLT, Int.reduceLE, eq_self, Int.natCast_nonneg, Int.toNat_natCast, hj2, hij2, hrl, hi2, hi3, hj3, hri, hrj, boolsD_len, hrli, hrlj, hgij]
      refine sem_draw (pf := []) (Γ := tbl tabLP) mixed tabLP_ok (fun g _ _ _ _ _ h => by cases h) [0, 1, 2, 3, 4, 5, 6, 7, 8, 9, 10] (by kernel_rfl) ?_
      simp only [go_sem, Int.reduceEq, Int.reduceLT, Int.reduceLE, eq_self, Int.natCast_nonneg, Int.toNat_natCast, chainI, hi2, hi3, hj2, hj3, nats_len, hclen, hci, hcj, hm2, decide_false, Bool.not_false]
      refine ⟨inR_i64.2 (by omega), j + 1, by omega, by omega, ?_⟩
      rw [hs]
      exact le_slots' (by simp only [go_sem, Int.natCast_add, Int.cast_ofNat_Int])
    | true =>
      rw [g1] at hgij
      have g2 : get2 (reachB n l) j i = false := by
        cases e : get2 (reachB n l) j i with
        | false => rfl
        | true => exact absurd (hsame.2 (.inr ⟨g1, e⟩)) hm
      rw [g2] at hgji
      simp only [go_sem, Int.reduceEq, Int.reduceLT, Int.reduceLE, eq_self, Int.natCast_nonneg, Int.toNat_natCast, hj2, hij2, hrl, hi2, hi3, hj3, hri, hrj, boolsD_len, hrli, hrlj, hgij, hgji]
      refine sem_draw (pf := []) (Γ := tbl tabLP) mixed tabLP_ok (fun g _ _ _ _ _ h => by cases h) [0, 1, 2, 3, 4, 5, 6, 7, 8, 9, 10] (by kernel_rfl) ?_
      simp only [go_sem, Int.reduceEq, Int.reduceLT, Int.reduceLE, eq_self, Int.natCast_nonneg, Int.toNat_natCast, chainI, hi2, hi3, hj2, hj3, nats_len, hclen, hci, hcj, hm2, decide_false, Bool.not_false]
      refine ⟨inR_i64.2 (by omega), j + 1, by omega, by omega, ?_⟩
      rw [hs]
      exact le_slots' (by simp only [go_sem, Int.natCast_add, Int.cast_ofNat_Int])
end Go.AM

