/- Own work over the model of the kit. -/
import Derived.Test.YtholibdhogbobaaC8
import Derived.Test.YtholibdhogbobaaC6
set_option linter.unusedSimpArgs false
set_option linter.unusedVariables false
set_option maxRecDepth 8000
set_option maxHeartbeats 2000000
namespace Go.AM
open Go Go.Proofs

abbrev tabRI : List (Nat × Contract) := [(32, dataC checkR)]
theorem tabRI_ok : OkG Try.prog (tbl tabRI) := okG_cons rcheck_ok okG_nil
theorem rImpossible_ok : OkF Try.prog 15 (dataC impVR) := by
  refine okF_data Try.func15 rfl (by decide) ?_
  rintro ds v ⟨s, rfl, hf, rfl⟩
  refine sem_of_awp (Γ := tbl tabRI) tabRI_ok _ _ _ ?_
  simp only [go_sem, Int.reduceEq, Int.reduceLT, Int.reduceLE, eq_self, Int.natCast_nonneg, Int.toNat_natCast, Try.ntmps15, sysD]
  refine call_data checkR (by simp) [sysD s] _ rfl ⟨s, rfl, hf, rfl⟩ (.inl rfl) ?_
  unfold impO
  by_cases h : checkE s = 0
  case neg =>
    rw [if_pos h]
    simp only [go_sem, Int.reduceEq, Int.reduceLT, Int.reduceLE, eq_self, Int.natCast_nonneg, Int.toNat_natCast, h]
    refine post_res (.inl rfl) [.tmp 2, .tmp 3, .tmp 4] rfl ?_
    simp only [go_sem, fstV]
    exact le_fin (by simp only [go_sem]) (by simp only [go_sem])
  rw [if_neg (by rw [h]; decide)]
  have hg := good_of h
  have hnc := hg.nc
  generalize hV : fstC s 0 s.classes = V
  simp only [go_sem, Int.reduceEq, Int.reduceLT, Int.reduceLE, eq_self, Int.natCast_nonneg, Int.toNat_natCast, h]
  refine sem_loop (fun k : Nat => ⟨slotsOf 83 [(1, .ptr 0 0 0), (5, .dat (.int .i64 k))], [sysO s], 0, []⟩)
    (fun k => k ≤ s.classes.length ∧ fstC s k (s.classes.drop k) = V) (fun k => s.classes.length - k) 0 ⟨Nat.zero_le _, hV⟩ ?_ ?_
  · exact le_slots' (by simp only [go_sem, Int.natCast_zero])
  rintro k ⟨hk, hV⟩
  refine sem_of_awp (Γ := tbl tabRI) tabRI_ok _ _ _ ?_
  cases hd : s.classes.drop k with
  | nil =>
    have := end_of_drop hd hk
    have hk2 : ¬ (k : Int) < s.classes.length := by omega
    rw [hd, fstC] at hV
    rw [← hV]
    simp only [go_sem, Int.reduceEq, Int.reduceLT, Int.reduceLE, eq_self, Int.natCast_nonneg, Int.toNat_natCast, hk2, List.length_map]
    refine post_res (.inl rfl) [.tmp 2, .tmp 3, .tmp 4] rfl ?_
    simp only [go_sem, fstV]
    exact le_fin (by simp only [go_sem]) (by simp only [go_sem])
  | cons c r =>
  have hlt := lt_of_drop hd
  have hk2 : (k : Int) < s.classes.length := by omega
  have hk0 : (0 : Int) ≤ k := Int.natCast_nonneg k
  have hn := nth_of_drop (f := clsD) hd
  have hc := hg.cls c (mem_of_drop hd)
  have h12 := hc.l12
  rw [hd, fstC, ← drop_cons hd] at hV
  simp only [go_sem, Int.reduceEq, Int.reduceLT, Int.reduceLE, eq_self, Int.natCast_nonneg, Int.toNat_natCast, hk2, List.length_map]
  refine sem_loop (fun j : Nat => ⟨slotsOf 83 [(1, .ptr 0 0 0), (5, .dat (.int .i64 k)), (6, .dat (.int .i64 j))], [sysO s], 0, []⟩)
    (fun j => j ≤ c.steps.length ∧ (match fstL (impB s) j (c.steps.drop j) with | some q => some (k, q) | none => fstC s (k + 1) (s.classes.drop (k + 1))) = V) (fun j => c.steps.length - j) 0 ⟨Nat.zero_le _, hV⟩ ?_ ?_
  · exact le_slots' (by simp only [go_sem, Int.natCast_zero])
  rintro j ⟨hj, hV⟩
  refine sem_of_awp (Γ := tbl tabRI) tabRI_ok _ _ _ ?_
  cases hd2 : c.steps.drop j with
  | nil =>
    have := end_of_drop hd2 hj
    have hj2 : ¬ (j : Int) < c.steps.length := by omega
    rw [hd2, fstL] at hV
    simp only [go_sem, Int.reduceEq, Int.reduceLT, Int.reduceLE, eq_self, Int.natCast_nonneg, Int.toNat_natCast, hk2, hk0, hn, hlt, clsD, stepsD, hj2, List.length_map]
    refine ⟨inR_i64.2 (by omega), k + 1, ⟨by omega, hV⟩, by omega, ?_⟩
    exact le_slots' (by simp only [go_sem, Int.natCast_add, Int.cast_ofNat_Int])
  | cons x q =>
  have hlt2 := lt_of_drop hd2
  have hj2 : (j : Int) < c.steps.length := by omega
  have hj0 : (0 : Int) ≤ j := Int.natCast_nonneg j
  have hn2 := nth_of_drop (f := stepD) hd2
  have hp := hc.pre x (mem_of_drop hd2)
  rw [hd2, fstL, ← drop_cons hd2] at hV
  have hpa := pool_at hg hp
  have hca := cls_at hg hp
  have hdrop : ∀ {sl : List AV} {b : Obj}, slotsLe sl (slotsOf 83 [(1, .ptr 0 0 0), (5, .dat (.int .i64 k)), (6, .dat (.int .i64 (j + 1 : Nat)))]) → Le ⟨sl, [sysO s, b], 0, []⟩ ⟨slotsOf 83 [(1, .ptr 0 0 0), (5, .dat (.int .i64 k)), (6, .dat (.int .i64 (j + 1 : Nat)))], [sysO s], 0, []⟩ := by
    intro sl b h
    refine le_end (own := [_]) (ex := [_]) (Nat.zero_le _) h ?_ ?_
    · simp only [go_sem]
    · simp only [go_sem, Obj.under, AV.unders, AV.under]
  by_cases k1 : x.kind = 1
  · obtain ⟨i, hi, hi1⟩ := hpa k1
    have hi2 : (i : Int) < s.pools.length := by omega
    have hnp : D.nth (s.pools.map poolD) i = poolD (s.pools.getD i default) := D.nth_map hi1
    have himp : impB s x = (!x.deep && decide ((s.pools.getD i default).size - (s.pools.getD i default).res < x.cnt)) := by unfold impB; rw [if_pos k1, hi, Int.toNat_natCast]
    have hpb := hg.pool (s.pools.getD i default) (by rw [List.getD_eq_getElem?_getD, List.getElem?_eq_getElem hi1]; exact List.getElem_mem hi1)
    generalize s.pools.getD i default = p at *
    unfold PPool.bad at hpb
    cases hdp : x.deep with
    | true =>
      rw [himp, hdp] at hV
      simp only [Bool.not_true, Bool.false_and, Bool.false_eq_true, if_false] at hV
      simp only [go_sem, Int.reduceEq, Int.reduceLT, Int.reduceLE, eq_self, Int.natCast_nonneg, Int.toNat_natCast, hk2, hk0, hn, hlt, clsD, stepsD, hj2, hj0, hn2, hlt2, stepD, k1, hi, hdp, List.length_map]
      refine sem_draw (pf := []) (Γ := tbl tabRI) mixed tabRI_ok (fun g _ _ _ _ _ h => by cases h) [0, 1, 2, 3, 4, 5, 6, 7, 8, 9, 10, 11, 12, 13, 14, 15, 16, 17, 18, 19, 20, 21, 22, 23, 24, 25, 26, 27] (by kernel_rfl) ?_
      simp only [go_sem, Int.reduceEq, Int.reduceLT, Int.reduceLE, eq_self, Int.natCast_nonneg, Int.toNat_natCast, chainI]
      refine ⟨inR_i64.2 (by omega), j + 1, ⟨by omega, hV⟩, by omega, ?_⟩
      exact hdrop (by simp only [go_sem, Int.natCast_add, Int.cast_ofNat_Int])
    | false =>
      rw [himp, hdp] at hV
      by_cases hA : p.size - p.res < x.cnt
      · simp only [hA, decide_true, Bool.not_false, Bool.and_self, if_true] at hV
        simp only [go_sem, Int.reduceEq, Int.reduceLT, Int.reduceLE, eq_self, Int.natCast_nonneg, Int.toNat_natCast, hk2, hk0, hn, hlt, clsD, stepsD, hj2, hj0, hn2, hlt2, stepD, k1, hi, hdp, List.length_map]
        refine sem_draw (pf := []) (Γ := tbl tabRI) mixed tabRI_ok (fun g _ _ _ _ _ h => by cases h) [0, 1, 2, 3, 4, 5, 6, 7, 8, 9, 10, 11, 12, 13, 14, 15, 16, 17, 18, 19, 20, 21, 22, 23, 24, 25, 26, 27] (by kernel_rfl) ?_
        simp only [go_sem, Int.reduceEq, Int.reduceLT, Int.reduceLE, eq_self, Int.natCast_nonneg, Int.toNat_natCast, chainI, hi1, hi2, hnp, poolD, hA]
        refine ⟨inR_i64.2 (by omega), ?_⟩
        refine post_res (.inl rfl) [.tmp 2, .tmp 3, .tmp 4] rfl ?_
        rw [← hV]
        simp only [go_sem, fstV]
        exact le_fin (by simp only [go_sem]) (by simp only [go_sem])
      · simp only [hA, decide_false, Bool.and_false, Bool.false_eq_true, if_false] at hV
        simp only [go_sem, Int.reduceEq, Int.reduceLT, Int.reduceLE, eq_self, Int.natCast_nonneg, Int.toNat_natCast, hk2, hk0, hn, hlt, clsD, stepsD, hj2, hj0, hn2, hlt2, stepD, k1, hi, hdp, List.length_map]
        refine sem_draw (pf := []) (Γ := tbl tabRI) mixed tabRI_ok (fun g _ _ _ _ _ h => by cases h) [0, 1, 2, 3, 4, 5, 6, 7, 8, 9, 10, 11, 12, 13, 14, 15, 16, 17, 18, 19, 20, 21, 22, 23, 24, 25, 26, 27] (by kernel_rfl) ?_
        simp only [go_sem, Int.reduceEq, Int.reduceLT, Int.reduceLE, eq_self, Int.natCast_nonneg, Int.toNat_natCast, chainI, hi1, hi2, hnp, poolD, hA]
        refine ⟨inR_i64.2 (by omega), inR_i64.2 (by omega), j + 1, ⟨by omega, hV⟩, by omega, ?_⟩
        exact hdrop (by simp only [go_sem, Int.natCast_add, Int.cast_ofNat_Int])
  · by_cases k5 : x.kind = 5
    · obtain ⟨i, hi, hi1⟩ := hca k5
      have hi2 : (i : Int) < s.classes.length := by omega
      have hnp : D.nth (s.classes.map clsD) i = clsD (s.classes.getD i default) := D.nth_map hi1
      have himp : impB s x = decide ((s.classes.getD i default).workers = 0) := by unfold impB; rw [if_neg k1, if_pos k5, hi, Int.toNat_natCast]
      simp only [go_sem, Int.reduceEq, Int.reduceLT, Int.reduceLE, eq_self, Int.natCast_nonneg, Int.toNat_natCast, hk2, hk0, hn, hlt, clsD, stepsD, hj2, hj0, hn2, hlt2, stepD, k5, hi, List.length_map]
      refine sem_draw (pf := []) (Γ := tbl tabRI) mixed tabRI_ok (fun g _ _ _ _ _ h => by cases h) [0, 1, 2, 3, 4, 5, 6, 7, 8, 9, 10, 11, 12, 13, 14, 15, 16, 17, 18, 19, 20, 21, 22, 23, 24, 25, 26, 27] (by kernel_rfl) ?_
      by_cases hA : (s.classes.getD i default).workers = 0
      · rw [himp] at hV
        simp only [hA, decide_true, if_true] at hV
        simp only [go_sem, Int.reduceEq, Int.reduceLT, Int.reduceLE, eq_self, Int.natCast_nonneg, Int.toNat_natCast, chainI, hi1, hi2, hnp, clsD, hA]
        refine post_res (.inl rfl) [.tmp 2, .tmp 3, .tmp 4] rfl ?_
        rw [← hV]
        simp only [go_sem, fstV]
        exact le_fin (by simp only [go_sem]) (by simp only [go_sem])
      · rw [himp] at hV
        simp only [hA, decide_false, Bool.false_eq_true, if_false] at hV
        simp only [go_sem, Int.reduceEq, Int.reduceLT, Int.reduceLE, eq_self, Int.natCast_nonneg, Int.toNat_natCast, chainI, hi1, hi2, hnp, clsD, hA]
        refine ⟨inR_i64.2 (by omega), j + 1, ⟨by omega, hV⟩, by omega, ?_⟩
        exact hdrop (by simp only [go_sem, Int.natCast_add, Int.cast_ofNat_Int])
    · have himp : impB s x = false := by unfold impB; rw [if_neg k1, if_neg k5]
      rw [himp, if_neg (by decide)] at hV
      simp only [go_sem, Int.reduceEq, Int.reduceLT, Int.reduceLE, eq_self, Int.natCast_nonneg, Int.toNat_natCast, hk2, hk0, hn, hlt, clsD, stepsD, hj2, hj0, hn2, hlt2, stepD, List.length_map]
      refine sem_draw (pf := []) (Γ := tbl tabRI) mixed tabRI_ok (fun g _ _ _ _ _ h => by cases h) [0, 1, 2, 3, 4, 5, 6, 7, 8, 9, 10, 11, 12, 13, 14, 15, 16, 17, 18, 19, 20, 21, 22, 23, 24, 25, 26, 27] (by kernel_rfl) ?_
      simp only [go_sem, Int.reduceEq, Int.reduceLT, Int.reduceLE, eq_self, Int.natCast_nonneg, Int.toNat_natCast, chainI, k1, k5]
      refine ⟨inR_i64.2 (by omega), j + 1, ⟨by omega, hV⟩, by omega, ?_⟩
      exact hdrop (by simp only [go_sem, Int.natCast_add, Int.cast_ofNat_Int])
end Go.AM

namespace Go.AM

def Wk (E : List (Nat × Nat)) : Nat → Nat → Nat → Prop
  | 0, a, v => a = v
  | k + 1, a, v => ∃ u, (u, v) ∈ E ∧ Wk E k a u
theorem Wk_cons {E : List (Nat × Nat)} {a b : Nat} (h : (a, b) ∈ E) : ∀ {k v : Nat}, Wk E k b v → Wk E (k + 1) a v
  | 0, v, hw => ⟨a, by cases hw; exact h, rfl⟩
  | k + 1, v, ⟨u, hu, hw⟩ => ⟨u, hu, Wk_cons h hw⟩
theorem Wk_first {E : List (Nat × Nat)} {a : Nat} : ∀ {k v : Nat}, Wk E (k + 1) a v → ∃ b, (a, b) ∈ E ∧ Wk E k b v
  | 0, v, ⟨u, hu, hw⟩ => by cases hw; exact ⟨v, hu, rfl⟩
  | k + 1, v, ⟨u, hu, hw⟩ => by
    obtain ⟨b, hb, hw⟩ := Wk_first hw
    exact ⟨b, hb, u, hu, hw⟩
theorem Wk_app {E : List (Nat × Nat)} {a b : Nat} {j : Nat} (h : Wk E j a b) : ∀ {k v : Nat}, Wk E k b v → Wk E (j + k) a v
  | 0, v, hw => by cases hw; exact h
  | k + 1, v, ⟨u, hu, hw⟩ => ⟨u, hu, Wk_app h hw⟩
abbrev flip (E : List (Nat × Nat)) : List (Nat × Nat) := E.map fun p => (p.2, p.1)
theorem mem_flip {E : List (Nat × Nat)} {a b : Nat} : (a, b) ∈ flip E ↔ (b, a) ∈ E := by
  simp only [flip, List.mem_map, Prod.mk.injEq, Prod.exists]
  constructor
  · rintro ⟨x, y, h, rfl, rfl⟩; exact h
  · intro h; exact ⟨b, a, h, rfl, rfl⟩
theorem Wk_flip {E : List (Nat × Nat)} : ∀ {k a v : Nat}, Wk (flip E) k a v ↔ Wk E k v a
  | 0, a, v => ⟨fun h => h.symm, fun h => h.symm⟩
  | k + 1, a, v => by
    constructor
    · rintro ⟨u, hu, hw⟩; exact Wk_cons (mem_flip.1 hu) (Wk_flip.1 hw)
    · intro h
      obtain ⟨b, hb, hw⟩ := Wk_first h
      exact ⟨b, mem_flip.2 hb, Wk_flip.2 hw⟩

def isSd (E : List (Nat × Nat)) (a v : Nat) (r : Int) : Prop := (r = -1 ∧ ∀ k, ¬ Wk E k a v) ∨ ∃ k : Nat, r = k ∧ Wk E k a v ∧ ∀ j, Wk E j a v → k ≤ j
theorem isSd_ex (E : List (Nat × Nat)) (a v : Nat) : ∃ r, isSd E a v r := by
  have key : ∀ n k, k ≤ n → Wk E k a v → ∃ k : Nat, Wk E k a v ∧ ∀ j, Wk E j a v → k ≤ j := by
    intro n
    induction n with
    | zero => intro k hk h; exact ⟨k, h, fun j _ => by omega⟩
    | succ n ih =>
      intro k hk h
      by_cases hh : ∃ j, j < k ∧ Wk E j a v
      · obtain ⟨j, hj, hw⟩ := hh
        exact ih j (by omega) hw
      · exact ⟨k, h, fun j hj => Nat.le_of_not_lt fun hlt => hh ⟨j, hlt, hj⟩⟩
  by_cases h : ∃ k, Wk E k a v
  · obtain ⟨k, hk⟩ := h
    obtain ⟨k, h1, h2⟩ := key k k (Nat.le_refl _) hk
    exact ⟨k, .inr ⟨k, rfl, h1, h2⟩⟩
  · exact ⟨-1, .inl ⟨rfl, fun k hk => h ⟨k, hk⟩⟩⟩
noncomputable def sd (E : List (Nat × Nat)) (a v : Nat) : Int := Classical.choose (isSd_ex E a v)
theorem sd_is (E : List (Nat × Nat)) (a v : Nat) : isSd E a v (sd E a v) := Classical.choose_spec (isSd_ex E a v)
theorem isSd_one {E : List (Nat × Nat)} {a v : Nat} {r r' : Int} (h : isSd E a v r) (h' : isSd E a v r') : r = r' := by
  rcases h with ⟨h1, h2⟩ | ⟨k, h1, h2, h3⟩ <;> rcases h' with ⟨g1, g2⟩ | ⟨j, g1, g2, g3⟩
  · rw [h1, g1]
  · exact absurd g2 (h2 j)
  · exact absurd h2 (g2 k)
  · have := h3 j g2; have := g3 k h2; omega
theorem sd_eq {E : List (Nat × Nat)} {a v : Nat} {r : Int} (h : isSd E a v r) : r = sd E a v := isSd_one h (sd_is E a v)
theorem sd_flip {E : List (Nat × Nat)} {a v : Nat} : sd (flip E) a v = sd E v a := by
  refine (sd_eq ?_)
  rcases sd_is (flip E) a v with ⟨h1, h2⟩ | ⟨k, h1, h2, h3⟩
  · exact .inl ⟨h1, fun k hk => h2 k (Wk_flip.2 hk)⟩
  · exact .inr ⟨k, h1, Wk_flip.1 h2, fun j hj => h3 j (Wk_flip.2 hj)⟩
theorem sd_self {E : List (Nat × Nat)} {a : Nat} : sd E a a = 0 := (sd_eq (.inr ⟨0, rfl, rfl, fun j _ => Nat.zero_le _⟩)).symm
theorem sd_zero {E : List (Nat × Nat)} {a v : Nat} (h : sd E a v = 0) : a = v := by
  rcases sd_is E a v with ⟨h1, _⟩ | ⟨k, h1, h2, _⟩
  · omega
  · obtain rfl : k = 0 := by omega
    exact h2
theorem sd_le {E : List (Nat × Nat)} {a v k : Nat} (h : Wk E k a v) : 0 ≤ sd E a v ∧ sd E a v ≤ k := by
  rcases sd_is E a v with ⟨h1, h2⟩ | ⟨j, h1, h2, h3⟩
  · exact absurd h (h2 k)
  · have := h3 k h; omega
theorem sd_wk {E : List (Nat × Nat)} {a v : Nat} (h : 0 ≤ sd E a v) : Wk E (sd E a v).toNat a v := by
  rcases sd_is E a v with ⟨h1, h2⟩ | ⟨j, h1, h2, h3⟩
  · omega
  · rw [h1]; exact h2
theorem sd_neg {E : List (Nat × Nat)} {a v : Nat} (h : sd E a v < 0) : sd E a v = -1 ∧ ∀ k, ¬ Wk E k a v := by
  rcases sd_is E a v with ⟨h1, h2⟩ | ⟨j, h1, h2, h3⟩
  · exact ⟨h1, h2⟩
  · omega
theorem sd_ge {E : List (Nat × Nat)} {a v : Nat} : -1 ≤ sd E a v := by
  rcases sd_is E a v with ⟨h1, _⟩ | ⟨j, h1, _⟩ <;> omega
theorem sd_step {E : List (Nat × Nat)} {a v : Nat} (h : 0 < sd E a v) : ∃ b, (a, b) ∈ E ∧ sd E b v = sd E a v - 1 := by
  rcases sd_is E a v with ⟨h1, _⟩ | ⟨k, h1, h2, h3⟩
  · omega
  · obtain ⟨j, rfl⟩ : ∃ j, k = j + 1 := ⟨k - 1, by omega⟩
    obtain ⟨b, hb, hw⟩ := Wk_first h2
    refine ⟨b, hb, ?_⟩
    have h4 := sd_le hw
    have h5 := h3 _ (Wk_cons hb (sd_wk h4.1))
    omega
theorem nodup_le {q : List Nat} {n : Nat} (h : q.Nodup) (hn : ∀ v ∈ q, v < n) : q.length ≤ n := by
  have := List.Nodup.length_le_of_subset h (l₂ := List.range n) (fun v hv => List.mem_range.2 (hn v hv))
  simpa using this
theorem sd_lt {E : List (Nat × Nat)} {n to : Nat} (hE : ∀ p ∈ E, p.2 < n) : ∀ {v : Nat}, v < n → sd E v to < n := by
  have key : ∀ (k v : Nat), v < n → sd E v to = k → ∃ L : List Nat, L.length = k + 1 ∧ L.Nodup ∧ ∀ x ∈ L, x < n ∧ sd E x to ≤ k := by
    intro k
    induction k with
    | zero => intro v hv h; exact ⟨[v], rfl, by simp, fun x hx => by simp at hx; subst hx; exact ⟨hv, by omega⟩⟩
    | succ k ih =>
      intro v hv h
      obtain ⟨b, hb, h2⟩ := sd_step (E := E) (a := v) (v := to) (by omega)
      obtain ⟨L, h3, h4, h5⟩ := ih b (hE _ hb) (by omega)
      refine ⟨v :: L, by simp [h3], List.nodup_cons.2 ⟨fun hm => by have := (h5 v hm).2; omega, h4⟩, fun x hx => ?_⟩
      rcases List.mem_cons.1 hx with rfl | hx
      · exact ⟨hv, by omega⟩
      · have := h5 x hx; exact ⟨this.1, by omega⟩
  intro v hv
  by_cases h : 0 ≤ sd E v to
  · obtain ⟨L, h1, h2, h3⟩ := key (sd E v to).toNat v hv (by omega)
    have := nodup_le h2 (fun x hx => (h3 x hx).1)
    omega
  · omega

theorem getD_set' {α : Type} {l : List α} {i j : Nat} {a d : α} : (l.set i a).getD j d = if i = j ∧ i < l.length then a else l.getD j d := by
  simp only [List.getD_eq_getElem?_getD, List.getElem?_set]
  by_cases h : i = j
  · subst h
    by_cases h2 : i < l.length
    · simp [h2]
    · simp [h2, List.getElem?_eq_none (Nat.le_of_not_lt h2)]
  · simp [h]

structure BInv (E : List (Nat × Nat)) (n a : Nat) (d : List Int) (q : List Nat) (at' : Nat) : Prop where
  ln : d.length = n
  qn : ∀ v ∈ q, v < n
  nd : q.Nodup
  le : at' ≤ q.length
  vis : ∀ v, v < n → (v ∈ q ↔ 0 ≤ d.getD v (-1))
  neg : ∀ v, v < n → -1 ≤ d.getD v (-1)
  one : ∀ v, v < n → ¬ v ∈ q → d.getD v (-1) = -1
  src : a ∈ q ∧ d.getD a (-1) = 0
  walk : ∀ v ∈ q, Wk E (d.getD v (-1)).toNat a v
  ub : ∀ v ∈ q, d.getD v (-1) < q.length
  mono : ∀ (i j u v : Nat), i ≤ j → q[i]? = some u → q[j]? = some v → d.getD u (-1) ≤ d.getD v (-1)
  bnd : ∀ v ∈ q, ∀ (x : Nat), q[at']? = some x → d.getD v (-1) ≤ d.getD x (-1) + 1
  don : ∀ (i u w : Nat), i < at' → q[i]? = some u → (u, w) ∈ E → w ∈ q ∧ d.getD w (-1) ≤ d.getD u (-1) + 1
structure BMid (E : List (Nat × Nat)) (n a : Nat) (d : List Int) (q : List Nat) (at' x : Nat) (T : List Nat) : Prop where
  inv : BInv E n a d q at'
  atx : q[at']? = some x
  mid : ∀ w ∈ T, w ∈ q ∧ d.getD w (-1) ≤ d.getD x (-1) + 1

section
variable {E : List (Nat × Nat)} {n a : Nat} {d : List Int} {q : List Nat} {at' x : Nat} {T : List Nat}

theorem BInv.qle (h : BInv E n a d q at') : q.length ≤ n := nodup_le h.nd h.qn
theorem BInv.init (ha : a < n) : BInv E n a ((List.replicate n (-1)).set a 0) [a] 0 where
  ln := by simp
  qn v hv := by simp at hv; subst hv; exact ha
  nd := by simp
  le := Nat.zero_le _
  vis v hv := by
    rw [getD_set']
    by_cases h : a = v
    · subst h; simp [ha]
    · rw [if_neg (fun hh => h hh.1)]
      simp [List.getD_eq_getElem?_getD, List.getElem?_replicate, hv, Ne.symm h]
  neg v hv := by
    rw [getD_set']
    split
    · omega
    · simp [List.getD_eq_getElem?_getD, List.getElem?_replicate, hv]
  one v hv h := by
    rw [getD_set', if_neg (by simp at h; omega)]
    simp [List.getD_eq_getElem?_getD, List.getElem?_replicate, hv]
  src := by rw [getD_set']; simp [ha]
  walk v hv := by
    simp at hv; subst hv
    rw [getD_set', if_pos ⟨rfl, by simpa using ha⟩]
    rfl
  ub v hv := by
    simp at hv; subst hv
    rw [getD_set', if_pos ⟨rfl, by simpa using ha⟩]
    simp
  mono i j u v hij hu hv := by
    have h1 : i = 0 := by
      have := (List.getElem?_eq_some_iff.1 hu).1
      simpa using this
    have h2 : j = 0 := by
      have := (List.getElem?_eq_some_iff.1 hv).1
      simpa using this
    subst h1; subst h2
    rw [hu] at hv; cases hv
    exact Int.le_refl _
  bnd v hv x hx := by
    simp at hv hx; subst hv; subst hx
    omega
  don i u w hi := by omega
theorem BInv.start (h : BInv E n a d q at') (hx : q[at']? = some x) : BMid E n a d q at' x [] := ⟨h, hx, fun w hw => by cases hw⟩
theorem BMid.skip (h : BMid E n a d q at' x T) {w : Nat} (hw : w < n) (hd : 0 ≤ d.getD w (-1)) : BMid E n a d q at' x (T ++ [w]) := by
  refine ⟨h.inv, h.atx, fun u hu => ?_⟩
  rcases List.mem_append.1 hu with hu | hu
  · exact h.mid u hu
  · simp at hu; subst hu
    have hm := (h.inv.vis u hw).2 hd
    exact ⟨hm, h.inv.bnd u hm x h.atx⟩
theorem BMid.add (h : BMid E n a d q at' x T) {w : Nat} (hw : w < n) (he : (x, w) ∈ E) (hd : d.getD w (-1) < 0) : BMid E n a (d.set w (d.getD x (-1) + 1)) (q ++ [w]) at' x (T ++ [w]) := by
  have hv := h.inv
  have hwq : ¬ w ∈ q := fun hm => by have := (hv.vis w hw).1 hm; omega
  have hxq : x ∈ q := List.mem_of_getElem? h.atx
  have hx0 := (hv.vis x (hv.qn x hxq)).1 hxq
  have hxw : w ≠ x := fun e => hwq (e ▸ hxq)
  have hat := (List.getElem?_eq_some_iff.1 h.atx).1
  have hnew : (d.set w (d.getD x (-1) + 1)).getD w (-1) = d.getD x (-1) + 1 := by rw [getD_set', if_pos ⟨rfl, by rw [hv.ln]; exact hw⟩]
  have hold : ∀ v, v ≠ w → (d.set w (d.getD x (-1) + 1)).getD v (-1) = d.getD v (-1) := fun v hv => by rw [getD_set', if_neg (fun hh => hv hh.1.symm)]
  have hold2 : ∀ v, v ∈ q → (d.set w (d.getD x (-1) + 1)).getD v (-1) = d.getD v (-1) := fun v hv => hold v (fun e => hwq (e ▸ hv))
  have get : ∀ i u, (q ++ [w])[i]? = some u → (i < q.length ∧ q[i]? = some u) ∨ (i = q.length ∧ u = w) := fun i u hu => by
    rcases Nat.lt_or_ge i q.length with hi | hi
    · rw [List.getElem?_append_left hi] at hu; exact .inl ⟨hi, hu⟩
    · rw [List.getElem?_append_right hi] at hu
      have : i - q.length = 0 := by
        have := (List.getElem?_eq_some_iff.1 hu).1; simpa using this
      rw [this] at hu; simp at hu
      exact .inr ⟨by omega, hu.symm⟩
  refine ⟨?_, by rw [List.getElem?_append_left hat]; exact h.atx, ?_⟩
  · constructor
    · simp [hv.ln]
    · intro v hm
      rcases List.mem_append.1 hm with hm | hm
      · exact hv.qn v hm
      · simp at hm; subst hm; exact hw
    · rw [List.nodup_append]
      exact ⟨hv.nd, by simp, fun u hu v hm => by simp at hm; subst hm; exact fun e => hwq (e ▸ hu)⟩
    · simp; have := hv.le; omega
    · intro v hvn
      by_cases e : v = w
      · subst e; rw [hnew]; exact ⟨fun _ => by omega, fun _ => by simp⟩
      · rw [hold v e, ← hv.vis v hvn]; simp [e]
    · intro v hvn
      by_cases e : v = w
      · subst e; rw [hnew]; omega
      · rw [hold v e]; exact hv.neg v hvn
    · intro v hvn hm
      simp at hm
      rw [hold v hm.2]; exact hv.one v hvn hm.1
    · exact ⟨by simp [hv.src.1], by rw [hold2 a hv.src.1]; exact hv.src.2⟩
    · intro v hm
      rcases List.mem_append.1 hm with hm | hm
      · rw [hold2 v hm]; exact hv.walk v hm
      · simp at hm; subst hm
        rw [hnew, show (d.getD x (-1) + 1).toNat = (d.getD x (-1)).toNat + 1 by omega]
        exact ⟨x, he, hv.walk x hxq⟩
    · intro v hm
      rcases List.mem_append.1 hm with hm | hm
      · rw [hold2 v hm]; have := hv.ub v hm; simp only [List.length_append, List.length_singleton, Int.natCast_add]; omega
      · simp at hm; subst hm
        rw [hnew]; have := hv.ub x hxq; simp only [List.length_append, List.length_singleton, Int.natCast_add]; omega
    · intro i j u v hij hu hv'
      rcases get i u hu with ⟨h1, h2⟩ | ⟨h1, h2⟩ <;> rcases get j v hv' with ⟨h3, h4⟩ | ⟨h3, h4⟩
      · rw [hold2 u (List.mem_of_getElem? h2), hold2 v (List.mem_of_getElem? h4)]
        exact hv.mono i j u v hij h2 h4
      · subst h4
        rw [hold2 u (List.mem_of_getElem? h2), hnew]
        exact hv.bnd u (List.mem_of_getElem? h2) x h.atx
      · omega
      · subst h2; subst h4; exact Int.le_refl _
    · intro v hm x' hx'
      rw [List.getElem?_append_left hat, h.atx] at hx'
      cases hx'
      rw [hold2 x hxq]
      rcases List.mem_append.1 hm with hm | hm
      · rw [hold2 v hm]; exact hv.bnd v hm x h.atx
      · simp at hm; subst hm
        rw [hnew]; exact Int.le_refl _
    · intro i u w' hi hu he'
      rw [List.getElem?_append_left (by omega)] at hu
      obtain ⟨g1, g2⟩ := hv.don i u w' hi hu he'
      rw [hold2 u (List.mem_of_getElem? hu), hold2 w' g1]
      exact ⟨by simp [g1], g2⟩
  · intro u hu
    rcases List.mem_append.1 hu with hu | hu
    · obtain ⟨g1, g2⟩ := h.mid u hu
      rw [hold2 u g1, hold2 x hxq]
      exact ⟨by simp [g1], g2⟩
    · simp at hu; subst hu
      rw [hnew, hold2 x hxq]
      exact ⟨by simp, Int.le_refl _⟩
theorem BMid.next (h : BMid E n a d q at' x T) (hT : ∀ w, (x, w) ∈ E → w ∈ T) : BInv E n a d q (at' + 1) := by
  have hv := h.inv
  have hat := (List.getElem?_eq_some_iff.1 h.atx).1
  refine { hv with le := hat, bnd := fun v hm x' hx' => ?_, don := fun i u w hi hu he => ?_ }
  · have h1 := hv.bnd v hm x h.atx
    have h2 := hv.mono at' (at' + 1) x x' (by omega) h.atx hx'
    omega
  · by_cases e : i = at'
    · subst e
      rw [h.atx] at hu; cases hu
      exact h.mid w (hT w he)
    · exact hv.don i u w (by omega) hu he
theorem BInv.done (h : BInv E n a d q q.length) (hE : ∀ p ∈ E, p.2 < n) : d = (List.range n).map (sd E a) := by
  have hcl : ∀ u ∈ q, ∀ w, (u, w) ∈ E → w ∈ q ∧ d.getD w (-1) ≤ d.getD u (-1) + 1 := fun u hu w he => by
    obtain ⟨i, hi⟩ := List.mem_iff_getElem?.1 hu
    exact h.don i u w (List.getElem?_eq_some_iff.1 hi).1 hi he
  have hall : ∀ k v, Wk E k a v → v ∈ q ∧ d.getD v (-1) ≤ k := by
    intro k
    induction k with
    | zero => intro v hw; cases hw; exact ⟨h.src.1, by rw [h.src.2]; simp⟩
    | succ k ih =>
      rintro v ⟨u, hu, hw⟩
      obtain ⟨g1, g2⟩ := ih u hw
      obtain ⟨g3, g4⟩ := hcl u g1 v hu
      exact ⟨g3, by omega⟩
  refine List.ext_getElem (by simp [h.ln]) fun v h1 h2 => ?_
  have hvn : v < n := by rw [← h.ln]; exact h1
  have hg : d[v] = d.getD v (-1) := by simp [List.getD_eq_getElem?_getD, List.getElem?_eq_getElem h1]
  rw [List.getElem_map, List.getElem_range, hg]
  refine sd_eq ?_
  by_cases hm : v ∈ q
  · have h0 := (h.vis v hvn).1 hm
    exact .inr ⟨(d.getD v (-1)).toNat, by omega, h.walk v hm, fun j hj => by have := (hall j v hj).2; omega⟩
  · exact .inl ⟨h.one v hvn hm, fun k hk => hm (hall k v hk).1⟩
end
end Go.AM

set_option maxRecDepth 8000
set_option maxHeartbeats 1000000
namespace Go.AM
open Go Go.Proofs

def badE (n : Int) (e : PEdge) : Bool := decide (e.src < 0) || decide (n ≤ e.src) || decide (e.dst < 0) || decide (n ≤ e.dst)
theorem gE_any {n : Int} {l : List PEdge} (h : ¬ (n < 0 ∨ 4096 < n)) : gE n l = if l.any (badE n) = true then 1 else 0 := by
  unfold gE; rw [if_neg h]; rfl
def gchkR (ds : List D) (v : AV) : Prop := ∃ (n : Int) (l : List PEdge), ds = [.int .i64 n, .sl (some 4) (edgesD l)] ∧ l.length ≤ 10000 ∧ v = .dat (.int .i64 (gE n l))
theorem gcheck_ok : OkF Try.prog 52 (dataC gchkR) := by
  refine okF_data Try.func52 rfl (by decide) ?_
  rintro ds v ⟨n, l, rfl, hl, rfl⟩
  generalize hv : gE n l = V
  refine sem_of_awp (Γ := tbl []) okG_nil _ _ _ ?_
  have fin : ∀ s own (b c : Int), b = c → s.getD 4 .top = .dat (.int .i64 b) → post Try.prog Try.f52 (.dat (.int .i64 c)) [] [] .ret ⟨s, own, 0, []⟩ := fun s own b c e h => by
    subst e
    exact post_data (.inl rfl) [4] rfl trivial (by simp only [tmpsOf, h]; rfl)
  by_cases h1 : n < 0
  · simp only [go_sem, Int.reduceEq, Int.reduceLT, Int.reduceLE, eq_self, Int.natCast_nonneg, Int.toNat_natCast, Try.ntmps52, h1]
    refine fin _ _ _ _ ?_ rfl
    rw [← hv]; unfold gE; rw [if_pos (.inl h1)]
  by_cases h2 : 4096 < n
  · simp only [go_sem, Int.reduceEq, Int.reduceLT, Int.reduceLE, eq_self, Int.natCast_nonneg, Int.toNat_natCast, Try.ntmps52, h1, h2]
    refine fin _ _ _ _ ?_ rfl
    rw [← hv]; unfold gE; rw [if_pos (.inr h2)]
  rw [gE_any (by omega)] at hv
  simp only [go_sem, Int.reduceEq, Int.reduceLT, Int.reduceLE, eq_self, Int.natCast_nonneg, Int.toNat_natCast, Try.ntmps52, h1, h2, edges_len]
  refine sem_loop (fun k : Nat => ⟨slotsOf 40 [(0, .dat (.int .i64 n)), (13, .dat (.sl (some 4) (edgesD l))), (14, .dat (.int .i64 l.length)), (15, .dat (.int .i64 k))], [], 0, []⟩)
    (fun k => k ≤ l.length ∧ (if (l.drop k).any (badE n) = true then 1 else 0) = V) (fun k => l.length - k) 0 ⟨Nat.zero_le _, hv⟩ ?_ ?_
  · exact le_slots' (by simp only [go_sem, Int.natCast_zero])
  rintro k ⟨hk, hI⟩
  refine sem_of_awp (Γ := tbl []) okG_nil _ _ _ ?_
  cases hd : l.drop k with
  | nil =>
    have := end_of_drop hd hk
    have hk2 : ¬ (k : Int) < l.length := by omega
    simp only [go_sem, Int.reduceEq, Int.reduceLT, Int.reduceLE, eq_self, Int.natCast_nonneg, Int.toNat_natCast, hk2]
    refine fin _ _ _ _ ?_ rfl
    rw [← hI, hd]; simp
  | cons e q =>
    have hlt := lt_of_drop hd
    have hk2 : (k : Int) < l.length := by omega
    have hk0 : (0 : Int) ≤ k := Int.natCast_nonneg k
    have hn := nth_of_drop (f := edgeD) hd
    rw [hd, List.any_cons] at hI
    obtain ⟨src, dst, cls, stp⟩ := e

    by_cases g1 : src < 0
    · simp only [go_sem, Int.reduceEq, Int.reduceLT, Int.reduceLE, eq_self, Int.natCast_nonneg, Int.toNat_natCast, hk2, hk0, hn, hlt, edges_len, edgeD, g1]
      refine fin _ _ _ _ ?_ rfl
      rw [← hI]; simp [badE, g1]
    by_cases g2 : n ≤ src
    · simp only [go_sem, Int.reduceEq, Int.reduceLT, Int.reduceLE, eq_self, Int.natCast_nonneg, Int.toNat_natCast, hk2, hk0, hn, hlt, edges_len, edgeD, g1, g2]
      refine fin _ _ _ _ ?_ rfl
      rw [← hI]; simp [badE, g2]
    by_cases g3 : dst < 0
    · simp only [go_sem, Int.reduceEq, Int.reduceLT, Int.reduceLE, eq_self, Int.natCast_nonneg, Int.toNat_natCast, hk2, hk0, hn, hlt, edges_len, edgeD, g1, g2, g3]
      refine fin _ _ _ _ ?_ rfl
      rw [← hI]; simp [badE, g3]
    by_cases g4 : n ≤ dst
    · simp only [go_sem, Int.reduceEq, Int.reduceLT, Int.reduceLE, eq_self, Int.natCast_nonneg, Int.toNat_natCast, hk2, hk0, hn, hlt, edges_len, edgeD, g1, g2, g3, g4]
      refine fin _ _ _ _ ?_ rfl
      rw [← hI]; simp [badE, g4]
    have hb : badE n ⟨src, dst, cls, stp⟩ = false := by simp [badE]; omega
    rw [hb, Bool.false_or] at hI
    simp only [go_sem, Int.reduceEq, Int.reduceLT, Int.reduceLE, eq_self, Int.natCast_nonneg, Int.toNat_natCast, hk2, hk0, hn, hlt, edges_len, edgeD, g1, g2, g3, g4]
    refine ⟨inR_i64.2 (by omega), k + 1, ⟨by omega, by rw [drop_cons hd]; exact hI⟩, by omega, ?_⟩
    refine le_end (own := []) (ex := [_]) (Nat.zero_le _) ?_ ?_ ?_
    · simp only [go_sem, Int.natCast_add, Int.cast_ofNat_Int]
    · simp only [go_sem]
    · simp only [go_sem, Obj.under, AV.unders, AV.under, Obj.allUnder]
theorem rgcheck_ok : OkF Try.prog 58 (dataC gchkR) := by
  refine okF_data Try.func58 rfl (by decide) ?_
  rintro ds v ⟨n, l, rfl, hl, rfl⟩
  generalize hv : gE n l = V
  refine sem_of_awp (Γ := tbl []) okG_nil _ _ _ ?_
  have fin : ∀ s own (b c : Int), b = c → s.getD 4 .top = .dat (.int .i64 b) → post Try.prog Try.f58 (.dat (.int .i64 c)) [] [] .ret ⟨s, own, 0, []⟩ := fun s own b c e h => by
    subst e
    exact post_data (.inl rfl) [4] rfl trivial (by simp only [tmpsOf, h]; rfl)
  by_cases h1 : n < 0
  · simp only [go_sem, Int.reduceEq, Int.reduceLT, Int.reduceLE, eq_self, Int.natCast_nonneg, Int.toNat_natCast, Try.ntmps58, h1]
    refine fin _ _ _ _ ?_ rfl
    rw [← hv]; unfold gE; rw [if_pos (.inl h1)]
  by_cases h2 : 4096 < n
  · simp only [go_sem, Int.reduceEq, Int.reduceLT, Int.reduceLE, eq_self, Int.natCast_nonneg, Int.toNat_natCast, Try.ntmps58, h1, h2]
    refine fin _ _ _ _ ?_ rfl
    rw [← hv]; unfold gE; rw [if_pos (.inr h2)]
  rw [gE_any (by omega)] at hv
  simp only [go_sem, Int.reduceEq, Int.reduceLT, Int.reduceLE, eq_self, Int.natCast_nonneg, Int.toNat_natCast, Try.ntmps58, h1, h2, edges_len]
  refine sem_loop (fun k : Nat => ⟨slotsOf 50 [(0, .dat (.int .i64 n)), (1, .dat (.sl (some 4) (edgesD l))), (5, .dat (.int .i64 k))], [], 0, []⟩)
    (fun k => k ≤ l.length ∧ (if (l.drop k).any (badE n) = true then 1 else 0) = V) (fun k => l.length - k) 0 ⟨Nat.zero_le _, hv⟩ ?_ ?_
  · exact le_slots' (by simp only [go_sem, Int.natCast_zero])
  rintro k ⟨hk, hI⟩
  refine sem_of_awp (Γ := tbl []) okG_nil _ _ _ ?_
  cases hd : l.drop k with
  | nil =>
    have := end_of_drop hd hk
    have hk2 : ¬ (k : Int) < l.length := by omega
    simp only [go_sem, Int.reduceEq, Int.reduceLT, Int.reduceLE, eq_self, Int.natCast_nonneg, Int.toNat_natCast, hk2, edges_len]
    refine fin _ _ _ _ ?_ rfl
    rw [← hI, hd]; simp
  | cons e q =>
    have hlt := lt_of_drop hd
    have hk2 : (k : Int) < l.length := by omega
    have hk0 : (0 : Int) ≤ k := Int.natCast_nonneg k
    have hn := nth_of_drop (f := edgeD) hd
    rw [hd, List.any_cons] at hI
    obtain ⟨src, dst, cls, stp⟩ := e

    by_cases g1 : src < 0
    · simp only [go_sem, Int.reduceEq, Int.reduceLT, Int.reduceLE, eq_self, Int.natCast_nonneg, Int.toNat_natCast, hk2, hk0, hn, hlt, edges_len, edgeD, g1]
      refine fin _ _ _ _ ?_ rfl
      rw [← hI]; simp [badE, g1]
    by_cases g2 : n ≤ src
    · simp only [go_sem, Int.reduceEq, Int.reduceLT, Int.reduceLE, eq_self, Int.natCast_nonneg, Int.toNat_natCast, hk2, hk0, hn, hlt, edges_len, edgeD, g1, g2]
      refine fin _ _ _ _ ?_ rfl
      rw [← hI]; simp [badE, g2]
    by_cases g3 : dst < 0
    · simp only [go_sem, Int.reduceEq, Int.reduceLT, Int.reduceLE, eq_self, Int.natCast_nonneg, Int.toNat_natCast, hk2, hk0, hn, hlt, edges_len, edgeD, g1, g2, g3]
      refine fin _ _ _ _ ?_ rfl
      rw [← hI]; simp [badE, g3]
    by_cases g4 : n ≤ dst
    · simp only [go_sem, Int.reduceEq, Int.reduceLT, Int.reduceLE, eq_self, Int.natCast_nonneg, Int.toNat_natCast, hk2, hk0, hn, hlt, edges_len, edgeD, g1, g2, g3, g4]
      refine fin _ _ _ _ ?_ rfl
      rw [← hI]; simp [badE, g4]
    have hb : badE n ⟨src, dst, cls, stp⟩ = false := by simp [badE]; omega
    rw [hb, Bool.false_or] at hI
    simp only [go_sem, Int.reduceEq, Int.reduceLT, Int.reduceLE, eq_self, Int.natCast_nonneg, Int.toNat_natCast, hk2, hk0, hn, hlt, edges_len, edgeD, g1, g2, g3, g4]
    refine ⟨inR_i64.2 (by omega), k + 1, ⟨by omega, by rw [drop_cons hd]; exact hI⟩, by omega, ?_⟩
    exact le_slots' (by simp only [go_sem, Int.natCast_add, Int.cast_ofNat_Int])
end Go.AM

set_option maxRecDepth 8000
set_option maxHeartbeats 1000000
namespace Go.AM
open Go Go.Proofs

theorem ints_nth {l : List Int} {i : Nat} (z : Int) (h : i < l.length) : D.nth (intsD l) i = .int .i64 (l.getD i z) := by
  rw [D.nth_map h]; simp [List.getD_eq_getElem?_getD, List.getElem?_eq_getElem h]
theorem nats_nth {l : List Nat} {i x : Nat} (h : l[i]? = some x) : D.nth (natsD l) i = .int .i64 (x : Int) := by
  simp [D.nth, h]
theorem ints_upd {l : List Int} {i : Nat} {n : Int} : (intsD l).set i (.int .i64 n) = intsD (l.set i n) := by simp [List.map_set]
theorem ints_rep {n : Nat} {z : Int} : intsD (List.replicate n z) = List.replicate n (.int .i64 z) := by simp
def outs (l : List PEdge) (x : Nat) : List Nat := l.filterMap fun e => if e.s = x then some e.t else none
theorem outs_snoc {l : List PEdge} {e : PEdge} {x : Nat} : outs (l ++ [e]) x = if e.s = x then outs l x ++ [e.t] else outs l x := by
  unfold outs; rw [List.filterMap_append]; by_cases h : e.s = x <;> simp [h]
theorem mem_outs {l : List PEdge} {x w : Nat} : w ∈ outs l x ↔ (x, w) ∈ eF l := by
  simp only [outs, List.mem_filterMap, eF, List.mem_map, Prod.mk.injEq]
  constructor
  · rintro ⟨e, he, h⟩
    split at h
    · rename_i hx; cases h; exact ⟨e, he, hx, rfl⟩
    · cases h
  · rintro ⟨e, he, rfl, rfl⟩; exact ⟨e, he, by simp⟩
theorem GOk.eFlt {n : Nat} {l : List PEdge} (h : GOk n l) : ∀ p ∈ eF l, p.2 < n := by
  intro p hp
  obtain ⟨e, he, rfl⟩ := List.mem_map.1 hp
  exact (h.dst e he).2

noncomputable def distL (n : Nat) (l : List PEdge) (a : Nat) : List Int := (List.range n).map (sd (eF l) a)
def reachR (ds : List D) (v : AV) : Prop := ∃ (n : Nat) (l : List PEdge) (a : Nat), ds = [.int .i64 n, .sl (some 4) (edgesD l), .int .i64 a] ∧ GOk n l ∧ a < n ∧ v = .dat (.sl none (intsD (distL n l a)))
theorem reach_ok : OkF Try.prog 68 (dataC reachR) := by
  refine okF_data Try.func68 rfl (by decide) ?_
  rintro ds v ⟨n, l, a, rfl, hg, ha, rfl⟩
  have hn4 := hg.n4
  have hll := hg.len
  refine sem_of_awp (Γ := tbl []) okG_nil _ _ _ ?_
  simp only [go_sem, Int.reduceEq, Int.reduceLT, Int.reduceLE, eq_self, Int.natCast_nonneg, Int.toNat_natCast, Try.ntmps68]
  refine sem_le (le_addnil 7 none rfl (Nat.zero_le _)) ?_
  simp only [go_sem, Int.reduceEq, Int.reduceLT, Int.reduceLE, eq_self, Int.natCast_nonneg, Int.toNat_natCast]
  refine sem_loop (fun k : Nat => ⟨slotsOf 81 [(0, .dat (.int .i64 n)), (1, .dat (.sl (some 4) (edgesD l))), (2, .dat (.int .i64 a)), (7, .sl 0 0 k), (8, .dat (.int .i64 k))], [.row none (List.replicate k (.int .i64 (-1)))], 0, []⟩)
    (fun k => k ≤ n) (fun k => n - k) 0 (Nat.zero_le _) ?_ ?_
  · exact le_slots' (by simp only [go_sem, Int.natCast_zero])
  rintro k hk
  refine sem_of_awp (Γ := tbl []) okG_nil _ _ _ ?_
  by_cases hkn : k = n
  case neg =>
    have hk2 : (k : Int) < n := by omega
    have e : List.replicate k (D.int .i64 (-1)) ++ [D.int .i64 (-1)] = List.replicate (k + 1) (D.int .i64 (-1)) := List.replicate_succ'.symm
    simp only [go_sem, Int.reduceEq, Int.reduceLT, Int.reduceLE, eq_self, Int.natCast_nonneg, Int.toNat_natCast, hk2, List.length_replicate, List.take_replicate, Nat.min_self, e]
    refine ⟨by omega, by omega, inR_i64.2 (by omega), k + 1, by omega, by omega, ?_⟩
    refine le_end (own := [_]) (ex := [_]) (Nat.zero_le _) ?_ ?_ ?_
    · simp only [go_sem, Int.natCast_add, Int.cast_ofNat_Int]
    · simp only [go_sem]
    · simp only [go_sem, Obj.under, AV.unders, AV.under]
  subst hkn
  have hk2 : ¬ (k : Int) < k := by omega
  have ha2 : (a : Int) < k := by omega
  have e0 : (List.replicate k (D.int .i64 (-1))).set a (.int .i64 0) = intsD ((List.replicate k (-1)).set a 0) := by rw [← ints_upd, ints_rep]
  simp only [go_sem, Int.reduceEq, Int.reduceLT, Int.reduceLE, eq_self, Int.natCast_nonneg, Int.toNat_natCast, hk2, ha, ha2, List.length_replicate, e0]
  refine sem_loop (fun p : List Int × List Nat × Nat => ⟨slotsOf 81 [(0, .dat (.int .i64 k)), (1, .dat (.sl (some 4) (edgesD l))), (2, .dat (.int .i64 a)), (7, .sl 0 0 k), (9, .sl 1 0 p.2.1.length), (10, .dat (.int .i64 p.2.2))], [.row none (intsD p.1), .row none (natsD p.2.1)], 0, []⟩)
    (fun p => BInv (eF l) k a p.1 p.2.1 p.2.2) (fun p => k - p.2.2) ((List.replicate k (-1)).set a 0, [a], 0) (BInv.init ha) ?_ ?_
  · exact le_slots' (by simp only [go_sem, Int.natCast_zero])
  rintro ⟨d, q, i⟩ hI
  simp only at hI
  have hql := hI.qle
  have hil := hI.le
  have hln := hI.ln
  refine sem_of_awp (Γ := tbl []) okG_nil _ _ _ ?_
  by_cases hiq : i = q.length
  case pos =>
    subst hiq
    have hk2 : ¬ (q.length : Int) < q.length := by omega
    have hd := hI.done hg.eFlt
    simp only [go_sem, Int.reduceEq, Int.reduceLT, Int.reduceLE, eq_self, Int.natCast_nonneg, Int.toNat_natCast, hk2, ints_len, hln]
    refine post_res (.inl rfl) [.tmp 6] rfl ?_
    simp only [go_sem]
    refine Le.trans (le_freeze 0 (ag := none) rfl (Nat.zero_le _)) ?_
    have e1 : List.take k (intsD d) = intsD d := List.take_of_length_le (by simp [hln])
    have e2 : distL k l a = d := hd.symm
    simp only [go_sem, e2, e1, ints_len, hln, Nat.le_refl]
    exact le_fin (by simp only [go_sem]) (by simp only [go_sem])
  obtain ⟨x, hx⟩ : ∃ x, q[i]? = some x := ⟨_, List.getElem?_eq_getElem (show i < q.length by omega)⟩
  have hlt : i < q.length := by omega
  have hk2 : (i : Int) < q.length := by omega
  have hk0 : (0 : Int) ≤ i := Int.natCast_nonneg i
  have hnx := nats_nth hx
  simp only [go_sem, Int.reduceEq, Int.reduceLT, Int.reduceLE, eq_self, Int.natCast_nonneg, Int.toNat_natCast, hk2, hk0, hlt, nats_len, hnx]
  refine sem_loop (fun p : List Int × List Nat × Nat => ⟨slotsOf 81 [(0, .dat (.int .i64 k)), (1, .dat (.sl (some 4) (edgesD l))), (2, .dat (.int .i64 a)), (7, .sl 0 0 k), (9, .sl 1 0 p.2.1.length), (10, .dat (.int .i64 i)), (11, .dat (.int .i64 x)), (12, .dat (.int .i64 p.2.2))], [.row none (intsD p.1), .row none (natsD p.2.1)], 0, []⟩)
    (fun p => p.2.2 ≤ l.length ∧ BMid (eF l) k a p.1 p.2.1 i x (outs (l.take p.2.2) x)) (fun p => l.length - p.2.2) (d, q, 0) ⟨Nat.zero_le _, hI.start hx⟩ ?_ ?_
  · exact le_slots' (by simp only [go_sem, Int.natCast_zero])
  clear hI hql hil hln hiq hlt hk2 hnx hx d q
  rintro ⟨d, q, j⟩ ⟨hj, hM⟩
  simp only at hj hM
  have hI := hM.inv
  have hql := hI.qle
  have hil := hI.le
  have hln := hI.ln
  refine sem_of_awp (Γ := tbl []) okG_nil _ _ _ ?_
  cases hd : l.drop j with
  | nil =>
    have := end_of_drop hd hj
    have hk2 : ¬ (j : Int) < l.length := by omega
    subst this
    rw [List.take_length] at hM
    have hlt := (List.getElem?_eq_some_iff.1 hM.atx).1
    simp only [go_sem, Int.reduceEq, Int.reduceLT, Int.reduceLE, eq_self, Int.natCast_nonneg, Int.toNat_natCast, hk2, edges_len]
    refine ⟨inR_i64.2 (by omega), (d, q, i + 1), hM.next (fun w hw => mem_outs.2 hw), by simp only; omega, ?_⟩
    exact le_slots' (by simp only [go_sem, Int.natCast_add, Int.cast_ofNat_Int])
  | cons e r =>
    have hlt := lt_of_drop hd
    have hk2 : (j : Int) < l.length := by omega
    have hk0 : (0 : Int) ≤ j := Int.natCast_nonneg j
    have hn := nth_of_drop (f := edgeD) hd
    have hem := mem_of_drop hd
    obtain ⟨hs1, hs2⟩ := hg.src e hem
    obtain ⟨ht1, ht2⟩ := hg.dst e hem
    have htk : (e.t : Int) < k := by omega
    have htl : e.t < d.length := by omega
    have hsn : outs (l.take (j + 1)) x = if e.s = x then outs (l.take j) x ++ [e.t] else outs (l.take j) x := by rw [take_of_drop hd, outs_snoc]
    have hxq : x ∈ q := List.mem_of_getElem? hM.atx
    have hxk := hI.qn x hxq
    have hxk2 : (x : Int) < k := by omega
    have hxl : x < d.length := by omega
    have hxub := hI.ub x hxq
    have hxlo := hI.neg x hxk
    by_cases hx : e.s = x
    · rw [if_pos hx] at hsn
      have hx2 : (e.s : Int) = x := by omega
      have hget := ints_nth (-1) htl
      have hgx := ints_nth (-1) hxl
      by_cases hneg : d.getD e.t (-1) < 0
      · have hA := hM.add ht2 (hx ▸ List.mem_map.2 ⟨e, hem, rfl⟩) hneg
        rw [← hsn] at hA
        simp only [go_sem, Int.reduceEq, Int.reduceLT, Int.reduceLE, eq_self, Int.natCast_nonneg, Int.toNat_natCast, hk2, hk0, hn, hlt, edges_len, edgeD, hs1, ht1, hx2, htk, htl, ht2, ints_len, hln, hget, hneg]
        refine sem_drawM (ob := 0) (pf := []) (mf := []) (ms := []) mixed okG_nil pureNo noMk [0, 1, 2, 3, 4, 5, 6, 7, 8, 9, 10, 11, 12] (by kernel_rfl) ?_
        simp only [go_sem, Int.reduceEq, Int.reduceLT, Int.reduceLE, eq_self, Int.natCast_nonneg, Int.toNat_natCast, chainM, opm, hk2, hk0, hn, hlt, edges_len, edgeD, hs1, ht1, htk, htl, ht2, ints_len, hln, hgx, hxk, hxk2, hxl, ints_upd, nats_take, nats_len, nats_snoc]
        refine ⟨inR_i64.2 (by omega), by omega, by omega, inR_i64.2 (by omega), (_, _, j + 1), ⟨by simp only; omega, hA⟩, by simp only; omega, ?_⟩
        refine le_end (own := [_, _]) (ex := [_]) (Nat.zero_le _) ?_ ?_ ?_
        · simp only [go_sem, Int.natCast_add, Int.cast_ofNat_Int, List.length_append, List.length_cons, List.length_nil, Nat.zero_add]
        · simp only [go_sem]
        · simp only [go_sem, Obj.under, AV.unders, AV.under]
      · have hS := hM.skip ht2 (by omega)
        rw [← hsn] at hS
        simp only [go_sem, Int.reduceEq, Int.reduceLT, Int.reduceLE, eq_self, Int.natCast_nonneg, Int.toNat_natCast, hk2, hk0, hn, hlt, edges_len, edgeD, hs1, ht1, hx2, htk, htl, ht2, ints_len, hln, hget, hneg]
        refine ⟨inR_i64.2 (by omega), (d, q, j + 1), ⟨by simp only; omega, hS⟩, by simp only; omega, ?_⟩
        exact le_slots' (by simp only [go_sem, Int.natCast_add, Int.cast_ofNat_Int])
    · rw [if_neg hx] at hsn
      rw [← hsn] at hM
      have hx2 : ¬ (e.s : Int) = x := by omega
      simp only [go_sem, Int.reduceEq, Int.reduceLT, Int.reduceLE, eq_self, Int.natCast_nonneg, Int.toNat_natCast, hk2, hk0, hn, hlt, edges_len, edgeD, hs1, hx2]
      refine ⟨inR_i64.2 (by omega), (d, q, j + 1), ⟨by simp only; omega, hM⟩, by simp only; omega, ?_⟩
      exact le_slots' (by simp only [go_sem, Int.natCast_add, Int.cast_ofNat_Int])
end Go.AM

set_option maxRecDepth 8000
set_option maxHeartbeats 1000000
namespace Go.AM
open Go Go.Proofs

theorem wrapu (n : Int) (h : 0 ≤ n ∧ n < 18446744073709551616) : IntKind.u64.wrap n = n := by
  have : IntKind.u64.wrap n = n % 18446744073709551616 := by simp [IntKind.wrap, IntKind.signed, IntKind.bits]
  rw [this]; omega
theorem and_mask {a : Nat} (h : a < 4294967296) : bitsV .and .u64 (a : Int) 4294967295 = a := by
  show IntKind.u64.wrap ((BitVec.ofInt 64 (a : Int) &&& BitVec.ofInt 64 ((4294967295 : Nat) : Int)).toNat : Int) = _
  have e : ∀ b : Nat, b < 4294967296 → (BitVec.ofInt 64 (b : Int)).toNat = b := fun b hb => by
    rw [BitVec.ofInt_natCast, BitVec.toNat_ofNat]; exact Nat.mod_eq_of_lt (by omega)
  rw [BitVec.toNat_and, e a h, e 4294967295 (by omega), show (4294967295 : Nat) = 2 ^ 32 - 1 from rfl, Nat.and_two_pow_sub_one_eq_mod, Nat.mod_eq_of_lt (by omega)]
  exact wrapu _ (by omega)
theorem shr_32 {a : Nat} (h : a < 4294967296) : shrV .u64 (a : Int) 32 = 0 := by
  unfold shrV
  rw [show (min (32 : Int).toNat IntKind.u64.bits) = 32 from rfl, Int.fdiv_eq_ediv_of_nonneg _ (by decide)]
  exact Int.ediv_eq_zero_of_lt (by omega) (by rw [show (2 : Int) ^ 32 = 4294967296 from rfl]; omega)
def mulR (ds : List D) (v : AV) : Prop := ∃ n : Nat, ds = [.int .u64 1, .int .u64 n] ∧ n < 65536 ∧ v = .tup [.dat (.int .u64 0), .dat (.int .u64 n)]
theorem mul64_ok : OkF Try.prog 86 (dataC mulR) := by
  refine okF_data Try.func86 rfl (by decide) ?_
  rintro ds v ⟨n, rfl, hn, rfl⟩
  refine sem_of_awp (Γ := tbl []) okG_nil _ _ _ ?_
  have a1 : bitsV .and .u64 1 4294967295 = 1 := and_mask (a := 1) (by omega)
  have a2 := and_mask (a := n) (by omega)
  have s1 : shrV .u64 1 32 = 0 := shr_32 (a := 1) (by omega)
  have s2 := shr_32 (a := n) (by omega)
  have s0 : shrV .u64 0 32 = 0 := shr_32 (a := 0) (by omega)
  have a0 : bitsV .and .u64 0 4294967295 = 0 := and_mask (a := 0) (by omega)
  have w0 : IntKind.u64.wrap 0 = 0 := wrapu 0 (by omega)
  have wn : IntKind.u64.wrap (n : Int) = n := wrapu n (by omega)
  simp only [go_sem, Int.reduceEq, Int.reduceLT, Int.reduceLE, eq_self, Int.natCast_nonneg, Int.toNat_natCast, Try.ntmps86, a1, a2, s1, s2, s0, a0, w0, wn, Int.one_mul, Int.zero_mul, Int.mul_zero, Int.add_zero, Int.zero_add]
  refine ⟨inR_u64.2 (by omega), inR_u64.2 (by omega), inR_u64.2 (by omega), inR_u64.2 (by omega), inR_u64.2 (by omega), ?_⟩
  exact post_data (.inl rfl) [4, 5] rfl ⟨trivial, trivial, trivial⟩ rfl
theorem mul_ok : OkF Try.prog 84 (dataC mulR) := by
  refine okF_data Try.func84 rfl (by decide) ?_
  rintro ds v ⟨n, rfl, hn, rfl⟩
  refine sem_of_awp (Γ := tbl [(86, dataC mulR)]) (okG_cons mul64_ok okG_nil) _ _ _ ?_
  simp only [go_sem, Int.reduceEq, Int.reduceLT, Int.reduceLE, eq_self, Int.natCast_nonneg, Int.toNat_natCast, Try.ntmps84]
  refine call_data mulR (by simp) [.int .u64 1, .int .u64 n] _ rfl ⟨n, rfl, hn, rfl⟩ (.inl rfl) ?_
  simp only [go_sem, Int.reduceEq, Int.reduceLT, Int.reduceLE, eq_self, Int.natCast_nonneg, Int.toNat_natCast]
  exact post_data (.inl rfl) [4, 5] rfl ⟨trivial, trivial, trivial⟩ rfl
def repR (ds : List D) (v : AV) (ob : List Obj) : Prop := ∃ (z : Int) (n : Nat), ds = [.sl none [.int .i64 z], .int .i64 n] ∧ 0 < n ∧ n ≤ 4096 ∧ v = .sl 0 0 n ∧ ob = [.row none (intsD (List.replicate n z))]
theorem repeat_ok : OkF Try.prog 82 (madeC repR) := by
  refine okF_made Try.func82 rfl (by decide) ?_
  rintro ds v ob ⟨z, n, rfl, hn0, hn, rfl, rfl⟩
  have hn1 : ¬ (n : Int) < 0 := by omega
  have hn2 : ¬ (9223372036854775807 : Int) < n := by omega
  have w1 : IntKind.u64.wrap 1 = 1 := wrapu 1 (by omega)
  have wn : IntKind.u64.wrap (n : Int) = n := wrapu n (by omega)
  refine sem_of_awp (Γ := tbl [(84, dataC mulR)]) (okG_cons mul_ok okG_nil) _ _ _ ?_
  simp only [go_sem, Int.reduceEq, Int.reduceLT, Int.reduceLE, eq_self, Int.natCast_nonneg, Int.toNat_natCast, Try.ntmps82, hn1, w1, wn, List.length_singleton]
  refine call_data mulR (by simp) [.int .u64 1, .int .u64 n] _ rfl ⟨n, rfl, by omega, rfl⟩ (.inl rfl) ?_
  simp only [go_sem, Int.reduceEq, Int.reduceLT, Int.reduceLE, eq_self, Int.natCast_nonneg, Int.toNat_natCast, hn2, Int.lt_irrefl]
  have e0 : List.take n [D.int .i64 z] ++ List.drop (min 1 n) (List.replicate n (D.int .i64 0)) = intsD (List.replicate 1 z ++ List.replicate (n - 1) 0) := by
    have h1 : min 1 n = 1 := by omega
    have h2 : List.take n [D.int .i64 z] = [D.int .i64 z] := List.take_of_length_le (by simp; omega)
    rw [h1, h2, List.drop_replicate]; simp
  rw [e0]
  refine ⟨inR_i64.2 (by omega), Int.le_refl _, by omega, ?_⟩
  refine sem_loop (fun k : Nat => ⟨slotsOf 48 [(7, .sl 0 0 n), (8, .dat (.int .i64 k))], [.row none (intsD (List.replicate k z ++ List.replicate (n - k) 0))], 0, []⟩)
    (fun k => 0 < k ∧ k ≤ n) (fun k => n - k) 1 (by omega) ?_ ?_
  · have : min 1 n = 1 := by omega
    rw [this]
    exact le_slots' (by simp only [go_sem])
  rintro k ⟨hk0, hk⟩
  refine sem_of_awp (Γ := tbl [(84, dataC mulR)]) (okG_cons mul_ok okG_nil) _ _ _ ?_
  by_cases hkn : k = n
  · subst hkn
    have hk2 : ¬ (k : Int) < k := by omega
    simp only [go_sem, Int.reduceEq, Int.reduceLT, Int.reduceLE, eq_self, Int.natCast_nonneg, Int.toNat_natCast, hk2]
    rw [Nat.sub_self, List.replicate_zero, List.append_nil]
    exact post_own (.inl rfl) [4] rfl rfl (fun _ h => h)
  have hk2 : (k : Int) < n := by omega
  simp only [go_sem, Int.reduceEq, Int.reduceLT, Int.reduceLE, eq_self, Int.natCast_nonneg, Int.toNat_natCast, hk2]
  refine sem_drawT (ob := 0) (ko := 0) (pf := []) (mf := []) (ms := []) (ks := []) mixed (okG_cons mul_ok okG_nil) pureNo noMk (ones [0, 1, 2, 3, 4, 5, 6, 7, 8, 9]) (by kernel_rfl) ?_
  have h1 : ((k : Int) - 0).toNat = k := by omega
  have h2 : ((n : Int) - k).toNat = n - k := by omega
  have h3 : k ≤ k + (n - k) := by omega
  have h4 : List.take k (intsD (List.replicate k z ++ List.replicate (n - k) 0)) = intsD (List.replicate k z) := by
    rw [← List.map_take, List.take_left' (by simp)]
  have hx : (k : Int) + (min k (n - k) : Nat) = ((k + min k (n - k) : Nat) : Int) := by omega
  have h5 : intsD (List.replicate k z) ++ List.take (n - k) (intsD (List.replicate k z)) ++ List.drop (k + min k (n - k)) (intsD (List.replicate k z ++ List.replicate (n - k) 0)) = intsD (List.replicate (k + min k (n - k)) z ++ List.replicate (n - (k + min k (n - k))) 0) := by
    rw [← List.map_take, ← List.map_drop, ← List.map_append, ← List.map_append, List.take_replicate, List.drop_append, List.drop_replicate, List.drop_replicate, List.length_replicate]
    have a1 : k - (k + min k (n - k)) = 0 := by omega
    have a2 : n - k - (k + min k (n - k) - k) = n - (k + min k (n - k)) := by omega
    have a3 : List.replicate k z ++ List.replicate (min (n - k) k) z = List.replicate (k + min k (n - k)) z := by rw [List.replicate_append_replicate, Nat.min_comm]
    rw [a1, a2, a3]; simp
  simp only [go_sem, Int.reduceEq, Int.reduceLT, Int.reduceLE, eq_self, Int.natCast_nonneg, Int.toNat_natCast, h1, h2, h3, h4, ints_len, List.length_replicate, hx, h5, if_true, reduceCtorEq, Option.some.injEq, true_and, false_or, true_or, and_true]
  refine ⟨by omega, by omega, by omega, inR_i64.2 (by omega), k + min k (n - k), by omega, by omega, ?_⟩
  exact le_slots' (by simp only [go_sem])
end Go.AM

set_option maxRecDepth 8000
set_option maxHeartbeats 1000000
namespace Go.AM
open Go Go.Proofs

def idxs (f : PEdge → Nat) : Nat → List PEdge → Nat → List Nat
  | _, [], _ => []
  | k, e :: r, v => if f e = v then k :: idxs f (k + 1) r v else idxs f (k + 1) r v
theorem idxs_snoc (f : PEdge → Nat) : ∀ (k : Nat) (l : List PEdge) (e : PEdge) (v : Nat), idxs f k (l ++ [e]) v = if f e = v then idxs f k l v ++ [k + l.length] else idxs f k l v
  | k, [], e, v => by simp [idxs]
  | k, y :: r, e, v => by
    have := idxs_snoc f (k + 1) r e v
    simp only [List.cons_append, idxs, this, List.length_cons]
    rw [show k + 1 + r.length = k + (r.length + 1) by omega]
    by_cases h : f y = v <;> by_cases h2 : f e = v <;> simp [h, h2]
theorem mem_idxs {f : PEdge → Nat} {v i : Nat} : ∀ {k : Nat} {l : List PEdge}, i ∈ idxs f k l v ↔ ∃ j e, l[j]? = some e ∧ f e = v ∧ i = k + j
  | k, [] => by simp [idxs]
  | k, y :: r => by
    have ih := mem_idxs (f := f) (v := v) (i := i) (k := k + 1) (l := r)
    have hs : (∃ j e, (y :: r)[j]? = some e ∧ f e = v ∧ i = k + j) ↔ (f y = v ∧ i = k) ∨ ∃ j e, r[j]? = some e ∧ f e = v ∧ i = k + 1 + j := by
      constructor
      · rintro ⟨j, e, h1, h2, h3⟩
        cases j with
        | zero => simp at h1; subst h1; exact .inl ⟨h2, h3⟩
        | succ j => exact .inr ⟨j, e, by simpa using h1, h2, by omega⟩
      · rintro (⟨h1, h2⟩ | ⟨j, e, h1, h2, h3⟩)
        · exact ⟨0, y, rfl, h1, h2⟩
        · exact ⟨j + 1, e, by simpa using h1, h2, by omega⟩
    rw [hs, ← ih, idxs]
    split
    · rename_i h; simp [h]
    · rename_i h; simp [h]
theorem idxs_len (f : PEdge → Nat) : ∀ (k : Nat) (l : List PEdge) (v : Nat), (idxs f k l v).length ≤ l.length
  | _, [], _ => by simp [idxs]
  | k, y :: r, v => by
    have := idxs_len f (k + 1) r v
    simp only [idxs]; split <;> simp only [List.length_cons] <;> omega
def idxL (f : PEdge → Nat) (n : Nat) (l : List PEdge) : List (List Nat) := (List.range n).map fun v => idxs f 0 l v
theorem idxL_len {f : PEdge → Nat} {n : Nat} {l : List PEdge} : (idxL f n l).length = n := by simp [idxL]
theorem idxL_nil {f : PEdge → Nat} {n : Nat} : idxL f n [] = List.replicate n [] := by
  refine List.ext_getElem (by simp [idxL]) fun i h1 h2 => by simp [idxL, idxs]
theorem idxL_getD {f : PEdge → Nat} {n : Nat} {l : List PEdge} {v : Nat} (h : v < n) : (idxL f n l).getD v [] = idxs f 0 l v := by
  simp [idxL, List.getD_eq_getElem?_getD, h]
theorem idxL_get {f : PEdge → Nat} {n : Nat} {l : List PEdge} {v : Nat} (h : v < n) : (idxL f n l)[v]? = some (idxs f 0 l v) := by
  simp [idxL, h]
theorem idxL_snoc {f : PEdge → Nat} {n : Nat} {l : List PEdge} {e : PEdge} : idxL f n (l ++ [e]) = (idxL f n l).set (f e) (idxs f 0 l (f e) ++ [l.length]) := by
  refine List.ext_getElem (by simp [idxL]) fun i h1 h2 => ?_
  rw [List.getElem_set]
  simp only [idxL, List.getElem_map, List.getElem_range, idxs_snoc, Nat.zero_add]
  by_cases h : f e = i
  · subst h; simp
  · simp [h]
abbrev natsR (r : List Nat) : D := .sl none (natsD r)
abbrev rowsN (M : List (List Nat)) : List (List D) := M.map natsD
theorem rowsN_sl {M : List (List Nat)} : (rowsN M).map (D.sl none) = M.map natsR := by simp [List.map_map, Function.comp_def]
theorem rowsN_len {M : List (List Nat)} : (rowsN M).length = M.length := by simp
theorem rowsN_getD {M : List (List Nat)} {i : Nat} : (rowsN M).getD i [] = natsD (M.getD i []) := by
  simp only [List.getD_eq_getElem?_getD, List.getElem?_map]; cases M[i]? <;> rfl
theorem rowsN_set {M : List (List Nat)} {i : Nat} {r : List Nat} : (rowsN M).set i (natsD r) = rowsN (M.set i r) := by simp [List.map_set]
theorem rows_nth {M : List (List Nat)} {v : Nat} {r : List Nat} (h : M[v]? = some r) : D.nth (M.map natsR) v = .sl none (natsD r) := by
  simp [D.nth, h]

def leavR (ds : List D) (v : AV) : Prop := ∃ (n : Nat) (l : List PEdge), ds = [.int .i64 n, .sl (some 4) (edgesD l)] ∧ GOk n l ∧ v = .dat (.sl none ((idxL PEdge.s n l).map natsR))
theorem leaving_ok : OkF Try.prog 63 (dataC leavR) := by
  refine okF_data Try.func63 rfl (by decide) ?_
  rintro ds v ⟨n, l, rfl, hg, rfl⟩
  have hn4 := hg.n4
  have hll := hg.len
  refine sem_of_awpK [2] (Γ := tbl []) okG_nil _ _ _ ?_
  simp only [go_sem, Int.reduceEq, Int.reduceLT, Int.reduceLE, eq_self, Int.natCast_nonneg, Int.toNat_natCast, Try.ntmps63]
  refine ⟨Int.le_refl _, by omega, ?_⟩
  refine sem_le (le_nilsF 0 none n rfl (Nat.zero_le _)) ?_
  have hpre : ∀ M, (List.set [Obj.vec (List.replicate n AV.nils)] 0 (Obj.vec M)) ++ famO none (List.replicate n []) = .vec M :: famO none (List.replicate n []) := fun M => rfl
  rw [hpre]
  refine sem_of_awp (Γ := tbl []) okG_nil _ _ _ ?_
  simp only [go_sem, Int.reduceEq, Int.reduceLT, Int.reduceLE, eq_self, Int.natCast_nonneg, Int.toNat_natCast, edges_len]
  refine sem_loop (fun k : Nat => ⟨slotsOf 31 [(0, .dat (.int .i64 n)), (1, .dat (.sl (some 4) (edgesD l))), (5, .sl 0 0 n), (10, .dat (.sl (some 4) (edgesD l))), (11, .dat (.int .i64 l.length)), (12, .dat (.int .i64 k))],
      .vec (famR 1 (rowsN (idxL PEdge.s n (l.take k)))) :: famO none (rowsN (idxL PEdge.s n (l.take k))), 0, []⟩)
    (fun k => k ≤ l.length) (fun k => l.length - k) 0 (Nat.zero_le _) ?_ ?_
  · rw [List.take_zero, idxL_nil]
    simp only [rowsN, List.map_replicate, natsD, List.map_nil, List.length_singleton]
    exact le_slots' (by simp only [go_sem, Int.natCast_zero])
  rintro k hk
  cases hd : l.drop k with
  | nil =>
    have := end_of_drop hd hk
    have hk2 : ¬ (k : Int) < l.length := by omega
    subst this
    rw [List.take_length]
    have hrl : ((idxL PEdge.s n l).map natsR).length = n := by simp [idxL_len]
    have hrt : List.take n ((idxL PEdge.s n l).map natsR) = (idxL PEdge.s n l).map natsR := List.take_of_length_le (by rw [hrl]; exact Nat.le_refl _)
    refine sem_le (le_famEnd (pre := [.vec (famR 1 (rowsN (idxL PEdge.s n l)))]) (s' := slotsOf 31 [(5, .dat (.sl none ((idxL PEdge.s n l).map natsR))), (11, .dat (.int .i64 l.length)), (12, .dat (.int .i64 l.length))]) 0 rfl (Nat.zero_le _) rfl ?_ ?_ ?_) ?_
    · rw [rowsN_sl]
      simp only [go_sem, frzFs, frzF_dat, frzF_top, frzF_nils, frzF_sl, AV.frzs, AV.frz, Nat.lt_irrefl, Nat.zero_lt_one, true_or, List.drop_zero, hrl, hrt, Nat.zero_add, Nat.le_refl, if_true]
    · simp only [go_sem]
    · simp only [go_sem, frzFo, frzFs_famR, Obj.frz, Obj.under, List.set_cons_zero]
    refine sem_of_awp (Γ := tbl []) okG_nil _ _ _ ?_
    simp only [go_sem, Int.reduceEq, Int.reduceLT, Int.reduceLE, eq_self, Int.natCast_nonneg, Int.toNat_natCast, hk2]
    exact post_data (.inl rfl) [4] rfl trivial rfl
  | cons e r =>
    have hlt := lt_of_drop hd
    have hk2 : (k : Int) < l.length := by omega
    have hk0 : (0 : Int) ≤ k := Int.natCast_nonneg k
    have hn := nth_of_drop (f := edgeD) hd
    have hem := mem_of_drop hd
    obtain ⟨hs1, hs2⟩ := hg.src e hem
    have hsk : (e.s : Int) < n := by omega
    have hsn := idxL_snoc (f := PEdge.s) (n := n) (l := l.take k) (e := e)
    rw [← take_of_drop hd, List.length_take, Nat.min_eq_left (by omega)] at hsn
    have hrow := rowsN_getD (M := idxL PEdge.s n (l.take k)) (i := e.s)
    rw [idxL_getD hs2] at hrow
    have hlen := idxs_len PEdge.s 0 (l.take k) e.s
    rw [List.length_take] at hlen
    have hM : (rowsN (idxL PEdge.s n (l.take k))).length = n := by rw [rowsN_len, idxL_len]
    have hMl : e.s < (rowsN (idxL PEdge.s n (l.take k))).length := by rw [hM]; exact hs2
    have hR := famR_at (b := 1) hMl
    rw [hrow] at hR
    have hO := famO_get0 (ag := none) hMl
    rw [hrow] at hO
    have hK := famR_killA (b := 1) hMl
    have hS := fun l' => famO_setA (ag := none) (l := l') hMl
    have hFl := famR_length 1 (rowsN (idxL PEdge.s n (l.take k)))
    rw [hM] at hFl
    refine sem_of_awp (Γ := tbl []) okG_nil _ _ _ ?_
    have hne : ¬ (famO none (rowsN (idxL PEdge.s n (l.take k)))).length = e.s := by rw [famO_length, hM]; omega
    have hne0 : ¬ 0 = e.s + 1 := by omega
    simp only [go_sem, Int.reduceEq, Int.reduceLT, Int.reduceLE, eq_self, Int.natCast_nonneg, Int.toNat_natCast, hk2, hk0, hn, hlt, edges_len, edgeD, hs1, getA0, setA0]
    refine sem_drawK (ko := e.s + 1) (pf := []) (mf := []) (ms := [0, 1, 2, 11, 10]) mixed okG_nil pureNo noMk [0, 1, 2, 11, 3, 4, 5, 6, 7, 8, 9, 10, 12] (by kernel_rfl) ?_
    simp only [go_sem, Int.reduceEq, Int.reduceLT, Int.reduceLE, eq_self, Int.natCast_nonneg, Int.toNat_natCast, hR, hFl, hO, hK, hS, hne, hne0, getA0, getA1, setA0, lenA1, hsk, hs2, famO_getP hMl, famO_setP hMl, hrow, famO_kill, famO_killP, List.append_assoc, List.cons_append, List.nil_append, List.set_set, nats_take, nats_len, nats_snoc, if_false]
    refine ⟨by omega, by omega, inR_i64.2 (by omega), k + 1, by omega, by omega, ?_⟩
    rw [famR_setA (l := natsD (idxs PEdge.s 0 (l.take k) e.s ++ [k])) (by simp), rowsN_set, ← hsn]
    refine le_endF (pre := [_]) (Nat.zero_le _) ?_ ?_ ?_
    · simp only [go_sem, Int.natCast_add, Int.cast_ofNat_Int]
    · simp only [go_sem]
    · exact ⟨famR_under _ _ _ (Nat.le_refl _), trivial⟩
end Go.AM

set_option maxRecDepth 8000
set_option maxHeartbeats 1000000
namespace Go.AM
open Go Go.Proofs

noncomputable def distT (n : Nat) (l : List PEdge) (to : Nat) : List Int := (List.range n).map fun v => sd (eF l) v to
theorem distT_len {n : Nat} {l : List PEdge} {to : Nat} : (distT n l to).length = n := by simp [distT]
theorem distT_getD {n : Nat} {l : List PEdge} {to v : Nat} {z : Int} (h : v < n) : (distT n l to).getD v z = sd (eF l) v to := by
  simp [distT, List.getD_eq_getElem?_getD, h]
def srcs (l : List PEdge) (I : List Nat) : List Nat := I.map fun i => (l.getD i default).s
theorem srcs_all {l : List PEdge} {x w : Nat} (h : (x, w) ∈ flip (eF l)) : w ∈ srcs l (idxs PEdge.t 0 l x) := by
  obtain ⟨e, he, h2⟩ := List.mem_map.1 (mem_flip.1 h)
  obtain ⟨i, hi⟩ := List.mem_iff_getElem?.1 he
  cases h2
  refine List.mem_map.2 ⟨i, mem_idxs.2 ⟨i, e, hi, rfl, by simp⟩, ?_⟩
  simp [List.getD_eq_getElem?_getD, hi]
def distR (ds : List D) (v : AV) : Prop := ∃ (n : Nat) (l : List PEdge) (to : Nat), ds = [.int .i64 n, .sl (some 4) (edgesD l), .sl none ((idxL PEdge.t n l).map natsR), .int .i64 to] ∧ GOk n l ∧ to < n ∧ v = .dat (.sl none (intsD (distT n l to)))
abbrev tabDI : List (Nat × Contract) := [(82, frzC (madeC repR))]
theorem tabDI_ok : OkG Try.prog (tbl tabDI) := okG_cons (okF_frz repeat_ok) okG_nil
theorem distances_ok : OkF Try.prog 64 (dataC distR) := by
  refine okF_data Try.func64 rfl (by decide) ?_
  rintro ds v ⟨n, l, to, rfl, hg, ha, rfl⟩
  have hn4 := hg.n4
  have hll := hg.len
  have hEf : ∀ p ∈ flip (eF l), p.2 < n := by
    rintro ⟨a, b⟩ hp
    obtain ⟨e, he, h2⟩ := List.mem_map.1 (mem_flip.1 hp)
    cases h2; exact (hg.src e he).2
  have hML : ((idxL PEdge.t n l).map natsR).length = n := by simp [idxL_len]
  have ha2 : (to : Int) < n := by omega
  refine sem_of_awp (Γ := tbl tabDI) tabDI_ok _ _ _ ?_
  simp only [go_sem, Int.reduceEq, Int.reduceLT, Int.reduceLE, eq_self, Int.natCast_nonneg, Int.toNat_natCast, Try.ntmps64]
  refine call_frzmade repR (by simp) 0 rfl [.sl none [.int .i64 (-1)], .int .i64 n] (.sl 0 0 n) _ rfl rfl ⟨-1, n, rfl, by omega, hn4, rfl, rfl⟩ ?_
  simp only [AV.shift, Obj.shift, List.map_cons, List.map_nil]
  simp only [go_sem, Int.reduceEq, Int.reduceLT, Int.reduceLE, eq_self, Int.natCast_nonneg, Int.toNat_natCast, ha, ha2, ints_len, List.length_replicate, ints_upd]
  refine sem_loop (fun p : List Int × List Nat × Nat × List Nat × Nat => ⟨slotsOf 64 [(0, .dat (.int .i64 n)), (1, .dat (.sl (some 4) (edgesD l))), (2, .dat (.sl none ((idxL PEdge.t n l).map natsR))), (3, .dat (.int .i64 to)), (9, .sl 1 0 n), (10, .sl 2 p.2.2.2.2 (p.2.1.length - p.2.2.1))], [.dead, .row none (intsD p.1), .row none (natsD p.2.2.2.1)], 0, []⟩)
    (fun p => BInv (flip (eF l)) n to p.1 p.2.1 p.2.2.1 ∧ p.2.2.2.1.drop p.2.2.2.2 = p.2.1.drop p.2.2.1 ∧ p.2.2.2.2 ≤ p.2.2.2.1.length) (fun p => n - p.2.2.1) ((List.replicate n (-1)).set to 0, [to], 0, [to], 0) ⟨BInv.init ha, rfl, Nat.zero_le _⟩ ?_ ?_
  · exact le_slots' (by simp only [go_sem, Int.natCast_zero])
  rintro ⟨d, q, i, R, off⟩ ⟨hI, hR, ho⟩
  simp only at hI hR ho
  have hql := hI.qle
  have hil := hI.le
  have hln := hI.ln
  have hRl : off + (q.length - i) = R.length := by
    have := congrArg List.length hR
    simp only [List.length_drop] at this; omega
  refine sem_of_awp (Γ := tbl tabDI) tabDI_ok _ _ _ ?_
  by_cases hiq : i = q.length
  case pos =>
    subst hiq
    have hk2 : ¬ (0 : Int) < ((q.length - q.length : Nat) : Int) := by omega
    have hd := hI.done hEf
    simp only [go_sem, Int.reduceEq, Int.reduceLT, Int.reduceLE, eq_self, Int.natCast_nonneg, Int.toNat_natCast, hk2, ints_len, hln]
    refine post_res (.inl rfl) [.tmp 8] rfl ?_
    simp only [go_sem]
    refine Le.trans (le_freeze 1 (ag := none) rfl (Nat.zero_le _)) ?_
    have e1 : List.take n (intsD d) = intsD d := List.take_of_length_le (by simp [hln])
    have e2 : distT n l to = d := by rw [hd]; exact List.map_congr_left fun v _ => sd_flip.symm
    simp only [go_sem, e2, e1, ints_len, hln, Nat.le_refl]
    exact le_fin (by simp only [go_sem]) (by simp only [go_sem])
  obtain ⟨x, hx⟩ : ∃ x, q[i]? = some x := ⟨_, List.getElem?_eq_getElem (show i < q.length by omega)⟩
  have hxR : R[off]? = some x := by
    have := congrArg (fun t => t[0]?) hR
    simpa [hx] using this
  have hxq : x ∈ q := List.mem_of_getElem? hx
  have hxn := hI.qn x hxq
  have hxn2 : (x : Int) < n := by omega
  have hk2 : (0 : Int) < ((q.length - i : Nat) : Int) := by omega
  have hk3 : 0 < q.length - i := by omega
  have hnx := nats_nth hxR
  have hoR : off < R.length := by omega
  have hent := rows_nth (idxL_get (f := PEdge.t) (l := l) hxn)
  simp only [go_sem, Int.reduceEq, Int.reduceLT, Int.reduceLE, eq_self, Int.natCast_nonneg, Int.toNat_natCast, hk2, hk3, hoR, nats_len, hnx, hxn2, hxn, hML, hent, hRl]
  refine sem_loop (fun p : List Int × List Nat × Nat × List Nat × Nat => ⟨slotsOf 64 [(0, .dat (.int .i64 n)), (1, .dat (.sl (some 4) (edgesD l))), (2, .dat (.sl none ((idxL PEdge.t n l).map natsR))), (3, .dat (.int .i64 to)), (9, .sl 1 0 n), (10, .sl 2 p.2.2.2.2 (p.2.1.length - i)),
      (32, .dat (.sl none (natsD (idxs PEdge.t 0 l x)))), (33, .dat (.int .i64 (idxs PEdge.t 0 l x).length)), (34, .dat (.int .i64 p.2.2.1))], [.dead, .row none (intsD p.1), .row none (natsD p.2.2.2.1)], 0, []⟩)
    (fun p => p.2.2.1 ≤ (idxs PEdge.t 0 l x).length ∧ BMid (flip (eF l)) n to p.1 p.2.1 i x (srcs l ((idxs PEdge.t 0 l x).take p.2.2.1)) ∧ p.2.2.2.1.drop p.2.2.2.2 = p.2.1.drop i ∧ p.2.2.2.2 ≤ p.2.2.2.1.length) (fun p => (idxs PEdge.t 0 l x).length - p.2.2.1) (d, q, 0, R, off) ⟨Nat.zero_le _, hI.start hx, hR, ho⟩ ?_ ?_
  · exact le_slots' (by simp only [go_sem, Int.natCast_zero])
  clear hI hql hil hln hiq hk2 hk3 hnx hx hxq hR ho hRl hxR hoR d q R off
  rintro ⟨d, q, j, R, off⟩ ⟨hj, hM, hR, ho⟩
  simp only at hj hM hR ho
  have hI := hM.inv
  have hql := hI.qle
  have hil := (List.getElem?_eq_some_iff.1 hM.atx).1
  have hln := hI.ln
  have hRl : off + (q.length - i) = R.length := by
    have := congrArg List.length hR
    simp only [List.length_drop] at this; omega
  have hxR : R[off]? = some x := by
    have := congrArg (fun t => t[0]?) hR
    simpa [hM.atx] using this
  have hk3 : 0 < q.length - i := by omega
  refine sem_of_awp (Γ := tbl tabDI) tabDI_ok _ _ _ ?_
  cases hd : (idxs PEdge.t 0 l x).drop j with
  | nil =>
    have := end_of_drop hd hj
    have hk2 : ¬ (j : Int) < (idxs PEdge.t 0 l x).length := by omega
    have h1 : (1 : Int) ≤ ((q.length - i : Nat) : Int) := by omega
    rw [this, List.take_length] at hM
    simp only [go_sem, Int.reduceEq, Int.reduceLT, Int.reduceLE, eq_self, Int.natCast_nonneg, Int.toNat_natCast, hk2, h1, hk3, hRl, nats_len]
    have h2 : (((q.length - i : Nat) : Int) - 1).toNat = q.length - (i + 1) := by omega
    refine ⟨Int.le_refl _, (d, q, i + 1, R, off + 1), ⟨hM.next (fun w hw => srcs_all hw), ?_, by simp only; omega⟩, by simp only; omega, ?_⟩
    · have := congrArg (List.drop 1) hR
      simpa [List.drop_drop, Nat.add_comm 1] using this
    · rw [h2]
      exact le_slots' (by simp only [go_sem])
  | cons m r =>
    have hIl := idxs_len PEdge.t 0 l x
    have hlt := lt_of_drop hd
    have hk2 : (j : Int) < (idxs PEdge.t 0 l x).length := by omega
    have hk0 : (0 : Int) ≤ j := Int.natCast_nonneg j
    have hn := nth_of_drop (f := natD) hd
    obtain ⟨m', e, he, hex, hm⟩ := mem_idxs.1 (mem_of_drop hd)
    obtain rfl : m' = m := by omega
    have hml := (List.getElem?_eq_some_iff.1 he).1
    have hml2 : (m' : Int) < l.length := by omega
    have hne : D.nth (edgesD l) m' = edgeD e := by simp [D.nth, he]
    obtain ⟨hs1, hs2⟩ := hg.src e (List.mem_of_getElem? he)
    have hsn : (e.s : Int) < n := by omega
    have hsl : e.s < d.length := by omega
    have hget := ints_nth (-1) hsl
    have hsr : srcs l ((idxs PEdge.t 0 l x).take (j + 1)) = srcs l ((idxs PEdge.t 0 l x).take j) ++ [e.s] := by
      rw [take_of_drop hd]; simp [srcs, List.getD_eq_getElem?_getD, he]
    have hxl : x < d.length := by omega
    have hgx := ints_nth (-1) hxl
    have hxq : x ∈ q := List.mem_of_getElem? hM.atx
    have hxub := hI.ub x hxq
    have hxlo := hI.neg x hxn
    have hnx := nats_nth hxR
    have hoR : off < R.length := by omega
    by_cases hneg : d.getD e.s (-1) < 0
    · have hA := hM.add hs2 (mem_flip.2 (List.mem_map.2 ⟨e, List.mem_of_getElem? he, by rw [hex]⟩)) hneg
      rw [← hsr] at hA
      simp only [go_sem, Int.reduceEq, Int.reduceLT, Int.reduceLE, eq_self, Int.natCast_nonneg, Int.toNat_natCast, hk2, hk0, hn, hlt, nats_len, hml, hml2, hne, edges_len, edgeD, hs1, hsn, hs2, hsl, ints_len, hln, hget, hneg, hk3, hoR, hnx, hxn2, hxn, hgx, ints_upd, hRl]
      have hA2 : List.take (q.length - i) (List.drop off (natsD R)) ++ [D.int .i64 (e.s : Int)] = natsD (q.drop i ++ [e.s]) := by
        rw [← List.map_drop, hR, List.take_of_length_le (by simp)]; simp
      have hA3 : (q ++ [e.s]).length - i = q.length - i + 1 := by rw [List.length_append, List.length_singleton]; omega
      refine ⟨by omega, inR_i64.2 (by omega), by omega, by omega, inR_i64.2 (by omega), (d.set e.s (d.getD x (-1) + 1), q ++ [e.s], j + 1, q.drop i ++ [e.s], 0), ⟨by simp only; omega, hA, ?_, Nat.zero_le _⟩, by simp only; omega, ?_⟩
      · simp only [List.drop_zero]
        rw [List.drop_append_of_le_length (by omega)]
      · simp only [hA2, hA3]
        refine le_end (own := [_, _, _]) (ex := [_]) (Nat.zero_le _) ?_ ?_ ?_
        · simp only [go_sem, Int.natCast_add, Int.cast_ofNat_Int]
        · simp only [go_sem]
        · simp only [go_sem, Obj.under, AV.unders, AV.under]
    · have hS := hM.skip hs2 (by omega)
      rw [← hsr] at hS
      simp only [go_sem, Int.reduceEq, Int.reduceLT, Int.reduceLE, eq_self, Int.natCast_nonneg, Int.toNat_natCast, hk2, hk0, hn, hlt, nats_len, hml, hml2, hne, edges_len, edgeD, hs1, hsn, hs2, hsl, ints_len, hln, hget, hneg]
      refine ⟨inR_i64.2 (by omega), (d, q, j + 1, R, off), ⟨by simp only; omega, hS, hR, ho⟩, by simp only; omega, ?_⟩
      exact le_slots' (by simp only [go_sem, Int.natCast_add, Int.cast_ofNat_Int])
end Go.AM

namespace Go.AM
open Go Go.Proofs

def sOf (l : List PEdge) (i : Nat) : Nat := (l.getD i default).s
def tOf (l : List PEdge) (i : Nat) : Nat := (l.getD i default).t
theorem sOf_get {l : List PEdge} {i : Nat} {e : PEdge} (h : l[i]? = some e) : sOf l i = e.s := by simp [sOf, List.getD_eq_getElem?_getD, h]
theorem tOf_get {l : List PEdge} {i : Nat} {e : PEdge} (h : l[i]? = some e) : tOf l i = e.t := by simp [tOf, List.getD_eq_getElem?_getD, h]
theorem eF_get {l : List PEdge} {i : Nat} (h : i < l.length) : (sOf l i, tOf l i) ∈ eF l := by
  have hg := List.getElem?_eq_getElem h
  rw [sOf_get hg, tOf_get hg]
  exact List.mem_map.2 ⟨_, List.getElem_mem h, rfl⟩
theorem eF_ex {l : List PEdge} {a b : Nat} (h : (a, b) ∈ eF l) : ∃ i, i < l.length ∧ sOf l i = a ∧ tOf l i = b := by
  obtain ⟨e, he, h2⟩ := List.mem_map.1 h
  obtain ⟨i, hi⟩ := List.mem_iff_getElem?.1 he
  cases h2
  exact ⟨i, (List.getElem?_eq_some_iff.1 hi).1, sOf_get hi, tOf_get hi⟩
noncomputable def near (l : List PEdge) (to v : Nat) (i : Nat) : Bool := decide (sd (eF l) (tOf l i) to = sd (eF l) v to - 1)
noncomputable def nxt (l : List PEdge) (to v : Nat) : Option Nat := (idxs PEdge.s 0 l v).find? (near l to v)
theorem nxt_is {l : List PEdge} {to v i : Nat} (h : nxt l to v = some i) : i < l.length ∧ sOf l i = v ∧ sd (eF l) (tOf l i) to = sd (eF l) v to - 1 := by
  have h1 := List.mem_of_find?_eq_some h
  have h2 := List.find?_some h
  obtain ⟨j, e, g1, g2, g3⟩ := mem_idxs.1 h1
  obtain rfl : i = j := by omega
  refine ⟨(List.getElem?_eq_some_iff.1 g1).1, by rw [sOf_get g1, g2], ?_⟩
  simpa [near] using h2
theorem nxt_some {l : List PEdge} {to v : Nat} (h : 0 < sd (eF l) v to) : ∃ i, nxt l to v = some i := by
  obtain ⟨b, hb, h2⟩ := sd_step h
  obtain ⟨i, hi, hs, ht⟩ := eF_ex hb
  have hg := List.getElem?_eq_getElem hi
  cases hn : nxt l to v with
  | some i => exact ⟨i, rfl⟩
  | none =>
    have := List.find?_eq_none.1 hn i (mem_idxs.2 ⟨i, _, hg, by rw [← sOf_get hg]; exact hs, by simp⟩)
    simp only [near, ht, h2, decide_true, not_true] at this
noncomputable def pathL (l : List PEdge) (to : Nat) : Nat → Nat → List Nat
  | 0, _ => []
  | k + 1, v => match nxt l to v with
    | some i => i :: pathL l to k (tOf l i)
    | none => []
theorem pathL_cons {l : List PEdge} {to v i k : Nat} (h : nxt l to v = some i) : pathL l to (k + 1) v = i :: pathL l to k (tOf l i) := by simp [pathL, h]
theorem pathL_len {l : List PEdge} {to : Nat} : ∀ {k v : Nat}, sd (eF l) v to = k → (pathL l to k v).length = k
  | 0, _, _ => rfl
  | k + 1, v, h => by
    obtain ⟨i, hi⟩ := nxt_some (l := l) (to := to) (v := v) (by omega)
    rw [pathL_cons hi, List.length_cons, pathL_len (by have := (nxt_is hi).2.2; omega)]
noncomputable def back (l : List PEdge) (i : Nat) : Int := sd (eF l) (tOf l i) (sOf l i)
noncomputable def cycOf (l : List PEdge) (i : Nat) : List Nat := i :: pathL l (sOf l i) (back l i).toNat (tOf l i)
theorem cycOf_len {l : List PEdge} {i : Nat} (h : 0 ≤ back l i) : ((cycOf l i).length : Int) = back l i + 1 := by
  unfold cycOf
  rw [List.length_cons, pathL_len (by unfold back at h ⊢; omega)]
  omega
noncomputable def cycStep (l : List PEdge) (b : Option (List Nat)) (i : Nat) : Option (List Nat) :=
  if back l i < 0 then b else match b with
  | none => some (cycOf l i)
  | some c => if (c.length : Int) ≤ back l i + 1 then some c else some (cycOf l i)
noncomputable def cycL (l : List PEdge) : Nat → Option (List Nat)
  | 0 => none
  | k + 1 => cycStep l (cycL l k) k
theorem cycL_is {l : List PEdge} : ∀ (k : Nat), match cycL l k with
    | none => ∀ i, i < k → back l i < 0
    | some c => ∃ i, i < k ∧ 0 ≤ back l i ∧ c = cycOf l i ∧ ∀ j, j < k → back l j < 0 ∨ back l i ≤ back l j
  | 0 => by simp [cycL]
  | k + 1 => by
    have ih := cycL_is (l := l) k
    simp only [cycL, cycStep]
    by_cases h : back l k < 0
    · rw [if_pos h]
      cases hc : cycL l k with
      | none =>
        rw [hc] at ih
        simp only at ih ⊢
        intro i hi
        by_cases e : i = k
        · subst e; exact h
        · exact ih i (by omega)
      | some c =>
        rw [hc] at ih
        simp only at ih ⊢
        obtain ⟨i, h1, h2, h3, h4⟩ := ih
        refine ⟨i, by omega, h2, h3, fun j hj => ?_⟩
        by_cases e : j = k
        · subst e; exact .inl h
        · exact h4 j (by omega)
    · rw [if_neg h]
      cases hc : cycL l k with
      | none =>
        rw [hc] at ih
        simp only at ih ⊢
        refine ⟨k, by omega, by omega, rfl, fun j hj => ?_⟩
        by_cases e : j = k
        · subst e; exact .inr (Int.le_refl _)
        · exact .inl (ih j (by omega))
      | some c =>
        rw [hc] at ih
        simp only at ih ⊢
        obtain ⟨i, h1, h2, h3, h4⟩ := ih
        have hl := cycOf_len h2
        rw [← h3] at hl
        by_cases g : (c.length : Int) ≤ back l k + 1
        · rw [if_pos g]
          refine ⟨i, by omega, h2, h3, fun j hj => ?_⟩
          by_cases e : j = k
          · subst e; exact .inr (by omega)
          · exact h4 j (by omega)
        · rw [if_neg g]
          refine ⟨k, by omega, by omega, rfl, fun j hj => ?_⟩
          by_cases e : j = k
          · subst e; exact .inr (Int.le_refl _)
          · rcases h4 j (by omega) with g1 | g1
            · exact .inl g1
            · exact .inr (by omega)
noncomputable def cycV (l : List PEdge) : List Nat := (cycL l l.length).getD []
def idxQ (p : Nat → Bool) : Nat → List Nat → Int
  | _, [] => -1
  | k, y :: r => if p y = true then k else idxQ p (k + 1) r
theorem idxP_find {p : Nat → Bool} {i : Nat} : ∀ {k : Nat} {I : List Nat}, I.find? p = some i → ∃ j, idxQ p k I = ((k + j : Nat) : Int) ∧ I[j]? = some i
  | k, [], h => by simp at h
  | k, y :: r, h => by
    rw [List.find?_cons] at h
    by_cases hp : p y = true
    · rw [hp] at h; cases h
      exact ⟨0, by simp [idxQ, hp], rfl⟩
    · have hp2 : p y = false := by simpa using hp
      rw [hp2] at h
      obtain ⟨j, h1, h2⟩ := idxP_find (k := k + 1) h
      exact ⟨j + 1, by simp only [idxQ, hp2, Bool.false_eq_true, if_false, h1]; congr 1; omega, by simpa using h2⟩
end Go.AM

set_option maxRecDepth 8000
set_option maxHeartbeats 1000000
namespace Go.AM
open Go Go.Proofs

theorem GOk.sdlt {n : Nat} {l : List PEdge} (h : GOk n l) {v to : Nat} (hv : v < n) : sd (eF l) v to < n := sd_lt h.eFlt hv
noncomputable abbrev cycO (n : Nat) (l : List PEdge) (to v : Nat) : List Obj := [.box [.dat (.sl none (intsD (distT n l to)))], .box [.dat (.sl (some 4) (edgesD l))], .box [.dat (.int .i64 v)]]
def clR (xs : List AV) (obs : List Obj) (v0 : AV) (obs' ex : List Obj) (mv0 : List Nat) : Prop := ∃ (n : Nat) (l : List PEdge) (to v i : Nat), GOk n l ∧ to < n ∧ v < n ∧ i < l.length ∧
  xs = [.dat (.int .i64 i), .ptr 0 0 0, .ptr 1 0 0, .ptr 2 0 0] ∧ obs = cycO n l to v ∧ v0 = .dat (.bool (near l to v i)) ∧ obs' = obs ∧ ex = [] ∧ mv0 = []
theorem cycle1_ok : OkF Try.prog 66 (lentC clR) := by
  refine okF_lent Try.func66 rfl (by decide) ?_
  rintro xs obs v0 obs' ex mv0 ⟨n, l, to, v, i, hg, hto, hv, hi, rfl, rfl, rfl, rfl, rfl, rfl⟩
  have hn4 := hg.n4
  have hge := List.getElem?_eq_getElem hi
  generalize he : l[i] = e at *
  have hem := List.mem_of_getElem? hge
  obtain ⟨ht1, ht2⟩ := hg.dst e hem
  have hne : D.nth (edgesD l) i = edgeD e := by simp [D.nth, hge]
  have hi2 : (i : Int) < l.length := by omega
  have htn : (e.t : Int) < n := by omega
  have hvn : (v : Int) < n := by omega
  have hdl := distT_len (n := n) (l := l) (to := to)
  have htl : e.t < (distT n l to).length := by omega
  have hvl : v < (distT n l to).length := by omega
  have g1 := ints_nth (l := distT n l to) (-1) htl
  have g2 := ints_nth (l := distT n l to) (-1) hvl
  rw [distT_getD ht2] at g1
  rw [distT_getD hv] at g2
  have b1 := hg.sdlt (to := to) hv
  have b2 := sd_ge (E := eF l) (a := v) (v := to)
  have hnear : near l to v i = decide (sd (eF l) e.t to = sd (eF l) v to - 1) := by unfold near; rw [tOf_get hge]
  refine sem_of_awp (Γ := tbl []) okG_nil _ _ _ ?_
  simp only [go_sem, Int.reduceEq, Int.reduceLT, Int.reduceLE, eq_self, Int.natCast_nonneg, Int.toNat_natCast, Try.ntmps66]
  refine sem_draw (pf := []) (Γ := tbl []) mixed okG_nil pureNo [0, 1, 2, 3, 4, 5, 6, 7, 8, 9, 10, 11, 12, 13, 14] (by kernel_rfl) ?_
  simp only [go_sem, Int.reduceEq, Int.reduceLT, Int.reduceLE, eq_self, Int.natCast_nonneg, Int.toNat_natCast, chainI, hi, hi2, edges_len, hne, edgeD, ht1, htn, ht2, hvn, hv, ints_len, hdl, g1, g2, ← hnear]
  refine ⟨inR_i64.2 (by omega), ?_⟩
  exact post_own (.inl rfl) [5] rfl (by simp only [tmpsOf]; rfl) (fun _ h => h)
def ixR (xs : List AV) (obs : List Obj) (v0 : AV) (obs' ex : List Obj) (mv0 : List Nat) : Prop := ∃ (n : Nat) (l : List PEdge) (to v : Nat) (I : List Nat), GOk n l ∧ to < n ∧ v < n ∧ (∀ i ∈ I, i < l.length) ∧ I.length ≤ 10000 ∧
  xs = [.dat (.sl none (natsD I)), .fn 66 [.ptr 0 0 0, .ptr 1 0 0, .ptr 2 0 0]] ∧ obs = cycO n l to v ∧ v0 = .dat (.int .i64 (idxQ (near l to v) 0 I)) ∧ obs' = obs ∧ ex = [] ∧ mv0 = []
abbrev tabIX : List (Nat × Contract) := [(66, pureOf (lentC clR))]
theorem tabIX_ok : OkG Try.prog (tbl tabIX) := okG_cons (okF_pureOf cycle1_ok) okG_nil
theorem indexFunc_ok : OkF Try.prog 65 (lentC ixR) := by
  refine okF_lent Try.func65 rfl (by decide) ?_
  rintro xs obs v0 obs' ex mv0 ⟨n, l, to, v, I, hg, hto, hv, hI, hIl, rfl, rfl, rfl, rfl, rfl, rfl⟩
  generalize hV : idxQ (near l to v) 0 I = V
  refine sem_of_awp (Γ := tbl tabIX) tabIX_ok _ _ _ ?_
  have fin : ∀ s (b c : Int), b = c → s.getD 4 .top = .dat (.int .i64 b) → post Try.prog Try.f65 (.dat (.int .i64 c)) (cycO n l to v ++ []) [] .ret ⟨s, cycO n l to v, 3, []⟩ := fun s b c e h => by
    subst e
    exact post_own (.inl rfl) [4] rfl (by simp only [tmpsOf, h]; rfl) (fun _ h => h)
  simp only [go_sem, Int.reduceEq, Int.reduceLT, Int.reduceLE, eq_self, Int.natCast_nonneg, Int.toNat_natCast, Try.ntmps65, nats_len]
  refine sem_loop (fun k : Nat => ⟨slotsOf 19 [(0, .dat (.sl none (natsD I))), (1, .fn 66 [.ptr 0 0 0, .ptr 1 0 0, .ptr 2 0 0]), (7, .dat (.int .i64 I.length)), (8, .dat (.int .i64 k))], cycO n l to v, 3, []⟩)
    (fun k => k ≤ I.length ∧ idxQ (near l to v) k (I.drop k) = V) (fun k => I.length - k) 0 ⟨Nat.zero_le _, hV⟩ ?_ ?_
  · exact le_slots' (by simp only [go_sem, Int.natCast_zero])
  rintro k ⟨hk, hV⟩
  refine sem_of_awp (Γ := tbl tabIX) tabIX_ok _ _ _ ?_
  cases hd : I.drop k with
  | nil =>
    have := end_of_drop hd hk
    have hk2 : ¬ (k : Int) < I.length := by omega
    rw [hd, idxQ] at hV
    simp only [go_sem, Int.reduceEq, Int.reduceLT, Int.reduceLE, eq_self, Int.natCast_nonneg, Int.toNat_natCast, hk2]
    exact fin _ _ _ hV rfl
  | cons m r =>
    have hlt := lt_of_drop hd
    have hk2 : (k : Int) < I.length := by omega
    have hk0 : (0 : Int) ≤ k := Int.natCast_nonneg k
    have hn := nth_of_drop (f := natD) hd
    rw [hd, idxQ] at hV
    simp only [go_sem, Int.reduceEq, Int.reduceLT, Int.reduceLE, eq_self, Int.natCast_nonneg, Int.toNat_natCast, hk2, hk0, hn, hlt, nats_len]
    have hm := hI m (mem_of_drop hd)
    refine callw_caps (call_lentP clR (by simp) [0, 1, 2] ⟨n, l, to, v, m, hg, hto, hv, hm, rfl, rfl, rfl, rfl, rfl, rfl⟩ (by decide) (by simp) rfl rfl (by simp only [go_sem]) (by simp only [go_sem, List.mem_cons, List.not_mem_nil, or_false, forall_eq_or_imp, forall_eq, Obj.under, AV.unders, AV.under]) (fun j hj => by
      match j, hj with
      | 0, _ => rfl
      | 1, _ => rfl
      | 2, _ => rfl) ?_)
    cases hp : near l to v m with
    | true =>
      rw [hp, if_pos rfl] at hV
      simp only [go_sem, Int.reduceEq, Int.reduceLT, Int.reduceLE, eq_self, Int.natCast_nonneg, Int.toNat_natCast, hp]
      exact fin _ _ _ hV rfl
    | false =>
      rw [hp, if_neg (by decide)] at hV
      simp only [go_sem, Int.reduceEq, Int.reduceLT, Int.reduceLE, eq_self, Int.natCast_nonneg, Int.toNat_natCast, hp]
      refine ⟨inR_i64.2 (by omega), k + 1, ⟨by omega, by rw [drop_cons hd]; exact hV⟩, by omega, ?_⟩
      exact le_slots' (by simp only [go_sem, Int.natCast_add, Int.cast_ofNat_Int])
end Go.AM

set_option maxRecDepth 8000
set_option maxHeartbeats 2000000
namespace Go.AM
open Go Go.Proofs

noncomputable def cycleVv (n : Int) (l : List PEdge) : AV := if gE n l ≠ 0 then .tup [.dat (.sl none []), .dat (.int .i64 (gE n l))] else .tup [.dat (.sl none (natsD (cycV l))), .dat (.int .i64 0)]
def cycleR (ds : List D) (v : AV) : Prop := ∃ (n : Int) (l : List PEdge), ds = [.int .i64 n, .sl (some 4) (edgesD l)] ∧ l.length ≤ 10000 ∧ v = cycleVv n l
abbrev tabCY : List (Nat × Contract) := [(52, dataC gchkR), (63, dataC leavR), (64, dataC distR), (65, pureOf (lentC ixR))]
theorem tabCY_ok : OkG Try.prog (tbl tabCY) := okG_cons gcheck_ok (okG_cons leaving_ok (okG_cons distances_ok (okG_cons (okF_pureOf indexFunc_ok) okG_nil)))
theorem pureCY : PureFns (tbl tabCY) [52, 63, 64, 65] := by
  refine pure_of2 fun g C hm hg => ?_
  simp only [List.mem_cons, List.not_mem_nil, or_false, Prod.mk.injEq] at hm
  rcases hm with ⟨_, rfl⟩ | ⟨_, rfl⟩ | ⟨_, rfl⟩ | ⟨_, rfl⟩
  · exact .inl ⟨_, rfl⟩
  · exact .inl ⟨_, rfl⟩
  · exact .inl ⟨_, rfl⟩
  · exact .inr ⟨_, rfl⟩
abbrev edgO (l : List PEdge) : Obj := .box [.dat (.sl (some 4) (edgesD l))]
abbrev edge1O (e : PEdge) : Obj := .box [.dat (.int .i64 (e.s : Int)), .dat (.int .i64 (e.t : Int)), .dat (.int .i64 e.cls), .dat (.int .i64 e.step)]
noncomputable def cyHead (n : Nat) (l : List PEdge) (k : Nat) : Option (List Nat) → S
  | none => ⟨slotsOf 114 [(0, .dat (.int .i64 n)), (3, .ptr 0 0 0), (7, .dat (.sl none ((idxL PEdge.s n l).map natsR))), (8, .dat (.sl none ((idxL PEdge.t n l).map natsR))), (11, .nils), (48, .dat (.sl (some 4) (edgesD l))), (49, .dat (.int .i64 l.length)), (50, .dat (.int .i64 k))], [edgO l, .dead], 0, []⟩
  | some c => ⟨slotsOf 114 [(0, .dat (.int .i64 n)), (3, .ptr 0 0 0), (7, .dat (.sl none ((idxL PEdge.s n l).map natsR))), (8, .dat (.sl none ((idxL PEdge.t n l).map natsR))), (11, .sl 1 0 c.length), (48, .dat (.sl (some 4) (edgesD l))), (49, .dat (.int .i64 l.length)), (50, .dat (.int .i64 k))], [edgO l, .row none (natsD c)], 0, []⟩
theorem cycle_ok : OkF Try.prog 40 (dataC cycleR) := by
  refine okF_data Try.func40 rfl (by decide) ?_
  rintro ds v ⟨n, l, rfl, hll, rfl⟩
  refine sem_of_awpK [5] (Γ := tbl tabCY) tabCY_ok _ _ _ ?_
  simp only [go_sem, Int.reduceEq, Int.reduceLT, Int.reduceLE, eq_self, Int.natCast_nonneg, Int.toNat_natCast, Try.ntmps40]
  refine call_data gchkR (by simp) [.int .i64 n, .sl (some 4) (edgesD l)] _ rfl ⟨n, l, rfl, hll, rfl⟩ (.inl rfl) ?_
  by_cases h : gE n l = 0
  case neg =>
    unfold cycleVv
    rw [if_pos h]
    simp only [go_sem, Int.reduceEq, Int.reduceLT, Int.reduceLE, eq_self, Int.natCast_nonneg, Int.toNat_natCast, h]
    refine post_res (.inl rfl) [.tmp 4, .tmp 5] rfl ?_
    simp only [go_sem]
    exact le_fin (by simp only [go_sem]) (by simp only [go_sem])
  unfold cycleVv
  rw [if_neg (by rw [h]; decide)]
  obtain ⟨n, rfl, hg⟩ := gOk_of h hll
  have hn4 := hg.n4
  generalize hV : cycV l = V
  simp only [go_sem, Int.reduceEq, Int.reduceLT, Int.reduceLE, eq_self, Int.natCast_nonneg, Int.toNat_natCast, h]
  refine sem_drawT (ob := 0) (ko := 0) (pf := [63]) (mf := []) (ms := []) (ks := []) mixed tabCY_ok (fun g args own v own' mv hg => pureCY g args own v own' mv (by simp at hg; simp [hg])) noMk
    (.one 0 (.one 1 (.one 3 (.alt 2 (.one 5 (.one 4 (.one 6 .fin))) (.alt 4 (.one 2 (.one 5 (.one 6 .fin))) .stop))))) (by kernel_rfl) ?_
  simp only [go_sem, Int.reduceEq, Int.reduceLT, Int.reduceLE, eq_self, Int.natCast_nonneg, Int.toNat_natCast, and_true]
  apply both_of
  · intro hQ
    refine call_data leavR (by simp) [.int .i64 n, .sl (some 4) (edgesD l)] _ rfl ⟨n, l, rfl, hg, rfl⟩ (.inl rfl) ?_
    simp only [go_sem, Int.reduceEq, Int.reduceLT, Int.reduceLE, eq_self, Int.natCast_nonneg, Int.toNat_natCast]
    exact ⟨Int.le_refl _, by omega, hQ⟩
  · intro hQ
    refine ⟨Int.le_refl _, by omega, ?_⟩
    refine call_data leavR (by simp) [.int .i64 n, .sl (some 4) (edgesD l)] _ rfl ⟨n, l, rfl, hg, rfl⟩ (.inl rfl) ?_
    simp only [go_sem, Int.reduceEq, Int.reduceLT, Int.reduceLE, eq_self, Int.natCast_nonneg, Int.toNat_natCast]
    exact hQ
  refine sem_le (le_nilsF 1 none n rfl (Nat.zero_le _)) ?_
  have hpre : ∀ M, (List.set [edgO l, Obj.vec (List.replicate n AV.nils)] 1 (Obj.vec M)) ++ famO none (List.replicate n []) = edgO l :: .vec M :: famO none (List.replicate n []) := fun M => rfl
  rw [hpre]
  refine sem_of_awp (Γ := tbl tabCY) tabCY_ok _ _ _ ?_
  simp only [go_sem, Int.reduceEq, Int.reduceLT, Int.reduceLE, eq_self, Int.natCast_nonneg, Int.toNat_natCast, edges_len]
  refine sem_loop (fun k : Nat => ⟨slotsOf 114 [(0, .dat (.int .i64 n)), (3, .ptr 0 0 0), (7, .dat (.sl none ((idxL PEdge.s n l).map natsR))), (8, .sl 1 0 n), (28, .dat (.sl (some 4) (edgesD l))), (29, .dat (.int .i64 l.length)), (30, .dat (.int .i64 k))],
      edgO l :: .vec (famR 2 (rowsN (idxL PEdge.t n (l.take k)))) :: famO none (rowsN (idxL PEdge.t n (l.take k))), 0, []⟩)
    (fun k => k ≤ l.length) (fun k => l.length - k) 0 (Nat.zero_le _) ?_ ?_
  · rw [List.take_zero, idxL_nil]
    simp only [rowsN, List.map_replicate, natsD, List.map_nil, List.length_cons, List.length_nil]
    exact le_slots' (by simp only [go_sem, Int.natCast_zero])
  rintro k hk
  cases hd : l.drop k with
  | cons e r =>
    have hlt := lt_of_drop hd
    have hk2 : (k : Int) < l.length := by omega
    have hk0 : (0 : Int) ≤ k := Int.natCast_nonneg k
    have hn := nth_of_drop (f := edgeD) hd
    have hem := mem_of_drop hd
    obtain ⟨hs1, hs2⟩ := hg.dst e hem
    have hsk : (e.t : Int) < n := by omega
    have hsn := idxL_snoc (f := PEdge.t) (n := n) (l := l.take k) (e := e)
    rw [← take_of_drop hd, List.length_take, Nat.min_eq_left (by omega)] at hsn
    have hrow := rowsN_getD (M := idxL PEdge.t n (l.take k)) (i := e.t)
    rw [idxL_getD hs2] at hrow
    have hlen := idxs_len PEdge.t 0 (l.take k) e.t
    rw [List.length_take] at hlen
    have hM : (rowsN (idxL PEdge.t n (l.take k))).length = n := by rw [rowsN_len, idxL_len]
    have hMl : e.t < (rowsN (idxL PEdge.t n (l.take k))).length := by rw [hM]; exact hs2
    have hR := famR_at (b := 2) hMl
    rw [hrow] at hR
    have hO := famO_get0 (ag := none) hMl
    rw [hrow] at hO
    have hK := famR_killA (b := 2) hMl
    have hS := fun l' => famO_setA (ag := none) (l := l') hMl
    have hFl := famR_length 2 (rowsN (idxL PEdge.t n (l.take k)))
    rw [hM] at hFl
    refine sem_of_awp (Γ := tbl tabCY) tabCY_ok _ _ _ ?_
    have hne : ¬ (famO none (rowsN (idxL PEdge.t n (l.take k)))).length = e.t := by rw [famO_length, hM]; omega
    have hne0 : ¬ 0 = e.t + 2 := by omega
    have hne1 : ¬ 1 = e.t + 2 := by omega
    simp only [go_sem, Int.reduceEq, Int.reduceLT, Int.reduceLE, eq_self, Int.natCast_nonneg, Int.toNat_natCast, hk2, hk0, hn, hlt, edges_len, edgeD, hs1, getA0, setA0]
    refine sem_drawK (ko := e.t + 2) (pf := []) (mf := []) (ms := [0, 1, 2, 11, 10]) mixed tabCY_ok (fun g _ _ _ _ _ h => by cases h) noMk [0, 1, 2, 11, 3, 4, 5, 6, 7, 8, 9, 10, 12] (by kernel_rfl) ?_
    simp only [go_sem, Int.reduceEq, Int.reduceLT, Int.reduceLE, eq_self, Int.natCast_nonneg, Int.toNat_natCast, hR, hFl, hO, hK, hS, hne, hne0, hne1, getA0, getA1, setA0, lenA1, hsk, hs2, famO_getP hMl, famO_setP hMl, hrow, famO_kill, famO_killP, List.append_assoc, List.cons_append, List.nil_append, List.set_set, nats_take, nats_len, nats_snoc, if_false]
    refine ⟨by omega, by omega, inR_i64.2 (by omega), k + 1, by omega, by omega, ?_⟩
    rw [famR_setA (l := natsD (idxs PEdge.t 0 (l.take k) e.t ++ [k])) (by simp), rowsN_set, ← hsn]
    refine le_endF (pre := [_, _]) (Nat.zero_le _) ?_ ?_ ?_
    · simp only [go_sem, Int.natCast_add, Int.cast_ofNat_Int]
    · simp only [go_sem]
    · exact ⟨⟨trivial, trivial⟩, famR_under _ _ _ (Nat.le_refl _), trivial⟩
  | nil =>
  have := end_of_drop hd hk
  have hk2 : ¬ (k : Int) < l.length := by omega
  subst this
  rw [List.take_length]
  have hrl : ((idxL PEdge.t n l).map natsR).length = n := by simp [idxL_len]
  have hrt : List.take n ((idxL PEdge.t n l).map natsR) = (idxL PEdge.t n l).map natsR := List.take_of_length_le (by rw [hrl]; exact Nat.le_refl _)
  refine sem_le (le_famEnd (pre := [edgO l, .vec (famR 2 (rowsN (idxL PEdge.t n l)))]) (s' := slotsOf 114 [(0, .dat (.int .i64 n)), (3, .ptr 0 0 0), (7, .dat (.sl none ((idxL PEdge.s n l).map natsR))), (8, .dat (.sl none ((idxL PEdge.t n l).map natsR))), (29, .dat (.int .i64 l.length)), (30, .dat (.int .i64 l.length))]) (pre' := [edgO l, .dead]) 1 rfl (Nat.zero_le _) ?_ ?_ ?_ ?_) ?_
  · simp only [List.map_cons, List.map_nil, frzFo, frzFs, frzF_dat, AV.frzs, AV.frz, Obj.frz]; rfl
  · rw [rowsN_sl]
    simp only [go_sem, frzFs, frzF_dat, frzF_top, frzF_nils, frzF_sl, frzF_ptr, AV.frzs, AV.frz, Nat.lt_irrefl, Nat.reduceLT, Nat.zero_lt_one, true_or, List.drop_zero, hrl, hrt, Nat.zero_add, Nat.le_refl, if_true]
  · simp only [go_sem]
  · simp only [go_sem, Obj.under, AV.unders, AV.under]
  refine sem_of_awp (Γ := tbl tabCY) tabCY_ok _ _ _ ?_
  simp only [go_sem, Int.reduceEq, Int.reduceLT, Int.reduceLE, eq_self, Int.natCast_nonneg, Int.toNat_natCast, hk2, edges_len]
  refine sem_loop (fun k : Nat => cyHead n l k (cycL l k)) (fun k => k ≤ l.length) (fun k => l.length - k) 0 (Nat.zero_le _) ?_ ?_
  · exact le_slots' (by simp only [go_sem, Int.natCast_zero])
  rintro k hk
  have hcyc := cycL_is (l := l) k
  cases hd : l.drop k with
  | nil =>
    have := end_of_drop hd hk
    subst this
    have hk2 : ¬ (l.length : Int) < l.length := by omega
    unfold cycV at hV
    cases hc : cycL l l.length with
    | none =>
      rw [hc] at hV
      simp only [Option.getD_none] at hV
      subst hV
      simp only [cyHead]
      refine sem_of_awp (Γ := tbl tabCY) tabCY_ok _ _ _ ?_
      simp only [go_sem, Int.reduceEq, Int.reduceLT, Int.reduceLE, eq_self, Int.natCast_nonneg, Int.toNat_natCast, hk2]
      refine post_res (.inl rfl) [.tmp 4, .tmp 5] rfl ?_
      simp only [go_sem]
      exact le_fin (by simp only [go_sem]) (by simp only [go_sem])
    | some c =>
      rw [hc] at hV
      simp only [Option.getD_some] at hV
      subst hV
      simp only [cyHead]
      refine sem_of_awp (Γ := tbl tabCY) tabCY_ok _ _ _ ?_
      simp only [go_sem, Int.reduceEq, Int.reduceLT, Int.reduceLE, eq_self, Int.natCast_nonneg, Int.toNat_natCast, hk2]
      refine post_res (.inl rfl) [.tmp 4, .tmp 5] rfl ?_
      simp only [go_sem]
      refine Le.trans (le_freeze 1 (ag := none) rfl (Nat.zero_le _)) ?_
      simp only [go_sem, nats_take, nats_len, Nat.le_refl]
      exact le_fin (by simp only [go_sem]) (by simp only [go_sem])
  | cons e r =>
  have hlt := lt_of_drop hd
  have hk2 : (k : Int) < l.length := by omega
  have hk0 : (0 : Int) ≤ k := Int.natCast_nonneg k
  have hn := nth_of_drop (f := edgeD) hd
  have hem := mem_of_drop hd
  have hget := get_of_drop hd
  obtain ⟨hs1, hs2⟩ := hg.src e hem
  obtain ⟨ht1, ht2⟩ := hg.dst e hem
  have hsn : (e.s : Int) < n := by omega
  have htn : (e.t : Int) < n := by omega
  have hdl := distT_len (n := n) (l := l) (to := e.s)
  have htl : e.t < (distT n l e.s).length := by omega
  have hB : back l k = sd (eF l) e.t e.s := by unfold back; rw [sOf_get hget, tOf_get hget]
  have gB := ints_nth (l := distT n l e.s) (-1) htl
  rw [distT_getD ht2, ← hB] at gB
  have hBlt : back l k < n := by rw [hB]; exact hg.sdlt ht2
  have hBge : -1 ≤ back l k := by rw [hB]; exact sd_ge
  have hstep : cycL l (k + 1) = cycStep l (cycL l k) k := rfl
  unfold cycStep at hstep
  have callD : ∀ own K, K (.dat (.sl none (intsD (distT n l e.s)))) own [] → callw (tbl tabCY) (.fn 64 []) [.dat (.int .i64 n), .dat (.sl (some 4) (edgesD l)), .dat (.sl none ((idxL PEdge.t n l).map natsR)), .dat (.int .i64 (e.s : Int))] own K :=
    fun own K hK => call_data distR (by simp) [.int .i64 n, .sl (some 4) (edgesD l), .sl none ((idxL PEdge.t n l).map natsR), .int .i64 (e.s : Int)] _ rfl ⟨n, l, e.s, rfl, hg, hs2, rfl⟩ (.inl rfl) hK
  have close : ∀ σ, Le σ (cyHead n l (k + 1) (cycL l (k + 1))) → ∃ x, x ≤ l.length ∧ l.length - x < l.length - k ∧ Le σ (cyHead n l x (cycL l x)) := fun σ hσ => ⟨k + 1, by omega, by omega, hσ⟩
  refine sem_of_awpK [16] (Γ := tbl tabCY) tabCY_ok _ _ _ ?_
  apply join_reg (P := Try.prog) (M := fun σ => 0 ≤ back l k ∧ cycL l (k + 1) = some (cycOf l k) ∧ Le σ ⟨slotsOf 114 [(0, .dat (.int .i64 n)), (3, .ptr 0 0 0), (7, .dat (.sl none ((idxL PEdge.s n l).map natsR))), (8, .dat (.sl none ((idxL PEdge.t n l).map natsR))), (48, .dat (.sl (some 4) (edgesD l))), (49, .dat (.int .i64 l.length)), (50, .dat (.int .i64 k)), (12, .dat (.int .i64 k)), (13, .ptr 2 0 0), (14, .ptr 3 0 0)],
    [edgO l, .dead, edge1O e, .box [.dat (.sl none (intsD (distT n l e.s)))]], 0, []⟩)
  case front =>
    intro tail
    cases hc : cycL l k with
    | none =>
      rw [hc] at hstep
      simp only [cyHead]
      simp only [go_sem, Int.reduceEq, Int.reduceLT, Int.reduceLE, eq_self, Int.natCast_nonneg, Int.toNat_natCast, hk2, hk0, hn, hlt, edges_len, edgeD, hs1, ht1]
      refine callD _ _ ?_
      by_cases hneg : back l k < 0
      · rw [if_pos hneg] at hstep
        simp only [go_sem, Int.reduceEq, Int.reduceLT, Int.reduceLE, eq_self, Int.natCast_nonneg, Int.toNat_natCast, hs1, ht1, hneg, htn, ht2, ints_len, hdl, gB]
        refine ⟨inR_i64.2 (by omega), close _ ?_⟩
        rw [hstep]
        refine le_end (own := [_, _]) (ex := [_, _]) (Nat.zero_le _) ?_ ?_ ?_
        · simp only [go_sem, Int.natCast_add, Int.cast_ofNat_Int]
        · simp only [go_sem]
        · simp only [go_sem, Obj.under, AV.unders, AV.under]
      · rw [if_neg hneg] at hstep
        simp only [go_sem, Int.reduceEq, Int.reduceLT, Int.reduceLE, eq_self, Int.natCast_nonneg, Int.toNat_natCast, hs1, ht1, hneg, htn, ht2, ints_len, hdl, gB]
        refine tail _ ⟨by omega, hstep, ?_⟩
        exact le_slots' (by simp only [go_sem])
    | some c =>
      rw [hc] at hcyc hstep
      simp only at hcyc hstep
      obtain ⟨c0, _, c1, c2, _⟩ := hcyc
      have hcl := cycOf_len c1
      rw [← c2] at hcl
      have hc0 : 0 < c.length := by omega
      simp only [cyHead]
      simp only [go_sem, Int.reduceEq, Int.reduceLT, Int.reduceLE, eq_self, Int.natCast_nonneg, Int.toNat_natCast, hk2, hk0, hn, hlt, edges_len, edgeD, hs1, ht1]
      refine callD _ _ ?_
      by_cases hneg : back l k < 0
      · rw [if_pos hneg] at hstep
        simp only [go_sem, Int.reduceEq, Int.reduceLT, Int.reduceLE, eq_self, Int.natCast_nonneg, Int.toNat_natCast, hs1, ht1, hneg, htn, ht2, ints_len, hdl, gB]
        refine ⟨inR_i64.2 (by omega), close _ ?_⟩
        rw [hstep]
        refine le_end (own := [_, _]) (ex := [_, _]) (Nat.zero_le _) ?_ ?_ ?_
        · simp only [go_sem, Int.natCast_add, Int.cast_ofNat_Int]
        · simp only [go_sem]
        · simp only [go_sem, Obj.under, AV.unders, AV.under]
      rw [if_neg hneg] at hstep
      by_cases hle : (c.length : Int) ≤ back l k + 1
      · rw [if_pos hle] at hstep
        simp only [go_sem, Int.reduceEq, Int.reduceLT, Int.reduceLE, eq_self, Int.natCast_nonneg, Int.toNat_natCast, hs1, ht1, hneg, htn, ht2, ints_len, hdl, gB, hc0, hle]
        refine ⟨inR_i64.2 (by omega), inR_i64.2 (by omega), close _ ?_⟩
        rw [hstep]
        refine le_end (own := [_, _]) (ex := [_, _]) (Nat.zero_le _) ?_ ?_ ?_
        · simp only [go_sem, Int.natCast_add, Int.cast_ofNat_Int]
        · simp only [go_sem]
        · simp only [go_sem, Obj.under, AV.unders, AV.under]
      · rw [if_neg hle] at hstep
        simp only [go_sem, Int.reduceEq, Int.reduceLT, Int.reduceLE, eq_self, Int.natCast_nonneg, Int.toNat_natCast, hs1, ht1, hneg, htn, ht2, ints_len, hdl, gB, hc0, hle]
        refine ⟨inR_i64.2 (by omega), ?_⟩
        refine tail _ ⟨by omega, hstep, Le.trans (le_dead 1) ?_⟩
        exact le_slots' (by simp only [go_sem])
  case tail =>
    rintro σ ⟨hB0, hnext, hσ⟩
    refine sem_le hσ ?_
    clear hσ σ
    refine sem_of_awp (Γ := tbl tabCY) tabCY_ok _ _ _ ?_
    simp only [go_sem, Int.reduceEq, Int.reduceLT, Int.reduceLE, eq_self, Int.natCast_nonneg, Int.toNat_natCast]
    have hcl := cycOf_len hB0
    refine sem_loop (fun p : Nat × List Nat => ⟨slotsOf 114 [(0, .dat (.int .i64 n)), (3, .ptr 0 0 0), (7, .dat (.sl none ((idxL PEdge.s n l).map natsR))), (8, .dat (.sl none ((idxL PEdge.t n l).map natsR))), (48, .dat (.sl (some 4) (edgesD l))), (49, .dat (.int .i64 l.length)), (50, .dat (.int .i64 k)), (12, .dat (.int .i64 k)), (13, .ptr 2 0 0), (14, .ptr 3 0 0), (11, .sl 4 0 p.2.length), (15, .ptr 5 0 0)],
        [edgO l, .dead, edge1O e, .box [.dat (.sl none (intsD (distT n l e.s)))], .row none (natsD p.2), .box [.dat (.int .i64 p.1)]], 0, []⟩)
      (fun p => p.1 < n ∧ 0 ≤ sd (eF l) p.1 e.s ∧ p.2 ++ pathL l e.s (sd (eF l) p.1 e.s).toNat p.1 = cycOf l k) (fun p => (sd (eF l) p.1 e.s).toNat) (e.t, [k]) ⟨ht2, by rw [← hB]; exact hB0, ?_⟩ ?_ ?_
    · unfold cycOf; rw [hB, sOf_get hget, tOf_get hget]; rfl
    · exact le_slots' (by simp only [go_sem])
    rintro ⟨v, acc⟩ ⟨hv, hv0, hacc⟩
    simp only at hv hv0 hacc
    refine sem_of_awp (Γ := tbl tabCY) tabCY_ok _ _ _ ?_
    have hal : acc.length ≤ (cycOf l k).length := by rw [← hacc]; simp
    by_cases hvs : v = e.s
    · subst hvs
      rw [sd_self] at hacc
      have hacc2 : acc = cycOf l k := by rw [← hacc]; simp [pathL]
      subst hacc2
      simp only [go_sem, Int.reduceEq, Int.reduceLT, Int.reduceLE, eq_self, Int.natCast_nonneg, Int.toNat_natCast]
      refine ⟨inR_i64.2 (by omega), close _ ?_⟩
      rw [hnext]
      refine Le.trans (le_swp 1 4 (by decide : (1 : Nat) < 6) (by decide : (4 : Nat) < 6) rfl rfl) ?_
      refine le_end (own := [edgO l, .row none (natsD (cycOf l k))]) (ex := [edge1O e, .box [.dat (.sl none (intsD (distT n l e.s)))], .dead, .box [.dat (.int .i64 (e.s : Int))]]) (Nat.zero_le _) ?_ ?_ ?_
      · simp only [go_sem, swp, ↓reduceIte, Nat.reduceEqDiff, Int.natCast_add, Int.cast_ofNat_Int]
      · simp only [go_sem]
      · simp only [go_sem, Obj.under, AV.unders, AV.under]
    have hvs2 : ¬ (v : Int) = e.s := by omega
    have hpos : 0 < sd (eF l) v e.s := by
      rcases Int.lt_or_eq_of_le hv0 with h | h
      · exact h
      · exact absurd (sd_zero h.symm) hvs
    obtain ⟨i, hi⟩ := nxt_some hpos
    obtain ⟨j, hj1, hj2⟩ := idxP_find (k := 0) hi
    obtain ⟨i1, i2, i3⟩ := nxt_is hi
    have hig := List.getElem?_eq_getElem i1
    have hout := rows_nth (idxL_get (f := PEdge.s) (l := l) hv)
    have hol : ((idxL PEdge.s n l).map natsR).length = n := by simp [idxL_len]
    have hIl := idxs_len PEdge.s 0 l v
    have hv2 : (v : Int) < n := by omega
    have hjl := (List.getElem?_eq_some_iff.1 hj2).1
    have hji := nats_nth hj2
    have hjl2 : (j : Int) < (idxs PEdge.s 0 l v).length := by omega
    rw [Nat.zero_add] at hj1
    simp only [go_sem, Int.reduceEq, Int.reduceLT, Int.reduceLE, eq_self, Int.natCast_nonneg, Int.toNat_natCast, hvs2]
    refine sem_draw (pf := [65]) (Γ := tbl tabCY) mixed tabCY_ok (fun g args own v own' mv hg => pureCY g args own v own' mv (by simp at hg; simp [hg])) [0, 1, 2, 3, 4, 5, 6, 7, 8, 9, 10, 11, 12] (by kernel_rfl) ?_
    simp only [go_sem, Int.reduceEq, Int.reduceLT, Int.reduceLE, eq_self, Int.natCast_nonneg, Int.toNat_natCast, chainI, hv, hv2, hol, hout]
    refine call_lentP ixR (by simp) [3, 0, 5] ⟨n, l, e.s, v, idxs PEdge.s 0 l v, hg, hs2, hv, fun m hm => ?_, by omega, rfl, rfl, rfl, rfl, rfl, rfl⟩ (by decide) (by simp) rfl rfl (by simp only [go_sem]) (by simp only [go_sem, List.mem_cons, List.not_mem_nil, or_false, forall_eq_or_imp, forall_eq, Obj.under, AV.unders, AV.under]) (fun j hj => by
      match j, hj with
      | 0, _ => rfl
      | 1, _ => rfl
      | 2, _ => rfl) ?_
    · obtain ⟨j', e', g1, g2, g3⟩ := mem_idxs.1 hm
      have := (List.getElem?_eq_some_iff.1 g1).1
      omega
    have hii : D.nth (edgesD l) i = edgeD l[i] := by simp [D.nth, hig]
    have hil2 : (i : Int) < l.length := by omega
    have hit := tOf_get hig
    obtain ⟨t1, t2⟩ := hg.dst l[i] (List.getElem_mem i1)
    rw [hj1]
    simp only [go_sem, Int.reduceEq, Int.reduceLT, Int.reduceLE, eq_self, Int.natCast_nonneg, Int.toNat_natCast, chainI, hjl, hjl2, nats_len, hji, nats_take, nats_snoc, i1, hil2, hii, edges_len, edgeD, t1]
    rw [hit] at i3
    refine ⟨by omega, by omega, (l[i].t, acc ++ [i]), ⟨t2, by simp only; omega, ?_⟩, by simp only; omega, ?_⟩
    · rw [← hacc]
      obtain ⟨m, hm⟩ : ∃ m : Nat, (sd (eF l) v e.s).toNat = m + 1 := ⟨(sd (eF l) v e.s).toNat - 1, by omega⟩
      have hm2 : (sd (eF l) l[i].t e.s).toNat = m := by omega
      rw [hm, pathL_cons hi, hit]
      simp only [hm2, List.append_assoc, List.cons_append, List.nil_append]
    · refine Le.trans (le_swp 5 7 (by decide : (5 : Nat) < 8) (by decide : (7 : Nat) < 8) rfl rfl) ?_
      refine le_end (own := [edgO l, .dead, edge1O e, .box [.dat (.sl none (intsD (distT n l e.s)))], .row none (natsD (acc ++ [i])), .box [.dat (.int .i64 (l[i].t : Int))]]) (ex := [.row none [.int .i64 (i : Int)], .box [.dat (.int .i64 (l[i].t : Int))]]) (Nat.zero_le _) ?_ ?_ ?_
      · simp only [go_sem, swp, ↓reduceIte, Nat.reduceEqDiff, Int.natCast_add, Int.cast_ofNat_Int, List.length_append, List.length_cons, List.length_nil, Nat.zero_add]
      · simp only [go_sem]
      · simp only [go_sem, Obj.under, AV.unders, AV.under]
end Go.AM

namespace Go.AM
open Go Go.Proofs

structure IsLev (n : Nat) (l : List PEdge) (f : Nat → Nat) : Prop where
  down : ∀ e ∈ l, f e.t < f e.s
  next : ∀ v, v < n → f v = 0 ∨ ∃ e ∈ l, e.s = v ∧ f v = f e.t + 1
theorem IsLev.le {n : Nat} {l : List PEdge} {f g : Nat → Nat} (hE : ∀ e ∈ l, e.t < n) (hf : IsLev n l f) (hg : ∀ e ∈ l, g e.t < g e.s) : ∀ (k v : Nat), v < n → f v = k → f v ≤ g v := by
  intro k
  induction k with
  | zero => intro v _ h; omega
  | succ k ih =>
    intro v hv h
    rcases hf.next v hv with h0 | ⟨e, he, h1, h2⟩
    · omega
    · have := ih e.t (hE e he) (by omega)
      have := hg e he
      rw [h1] at this
      omega
theorem IsLev.one {n : Nat} {l : List PEdge} {f g : Nat → Nat} (hE : ∀ e ∈ l, e.t < n) (hf : IsLev n l f) (hg : IsLev n l g) {v : Nat} (hv : v < n) : f v = g v :=
  Nat.le_antisymm (hf.le hE hg.down _ v hv rfl) (hg.le hE hf.down _ v hv rfl)
open Classical in
noncomputable def levV (n : Nat) (l : List PEdge) : Option (List Nat) := if h : ∃ f, IsLev n l f then some ((List.range n).map (Classical.choose h)) else none
theorem levV_some {n : Nat} {l : List PEdge} {f : Nat → Nat} (hE : ∀ e ∈ l, e.t < n) (hf : IsLev n l f) : levV n l = some ((List.range n).map f) := by
  have h : ∃ f, IsLev n l f := ⟨f, hf⟩
  unfold levV
  rw [dif_pos h]
  congr 1
  exact List.map_congr_left fun v hv => (Classical.choose_spec h).one hE hf (List.mem_range.1 hv)
theorem levV_none {n : Nat} {l : List PEdge} (h : ¬ ∃ f : Nat → Nat, ∀ e ∈ l, f e.t < f e.s) : levV n l = none := by
  unfold levV
  rw [dif_neg]
  rintro ⟨f, hf⟩
  exact h ⟨f, hf.down⟩
theorem levV_is {n : Nat} {l : List PEdge} {L : List Nat} (h : levV n l = some L) : ∃ f, IsLev n l f ∧ L = (List.range n).map f := by
  unfold levV at h
  split at h
  · rename_i hf
    cases h
    exact ⟨_, Classical.choose_spec hf, rfl⟩
  · cases h

def ins (l : List PEdge) (w : Nat) : List Nat := l.filterMap fun e => if e.t = w then some e.s else none
theorem ins_snoc {l : List PEdge} {e : PEdge} {x : Nat} : ins (l ++ [e]) x = if e.t = x then ins l x ++ [e.s] else ins l x := by
  unfold ins; rw [List.filterMap_append]; by_cases h : e.t = x <;> simp [h]
theorem mem_ins {l : List PEdge} {v w : Nat} : v ∈ ins l w ↔ ∃ e ∈ l, e.s = v ∧ e.t = w := by
  simp only [ins, List.mem_filterMap]
  constructor
  · rintro ⟨e, he, h⟩
    split at h
    · rename_i hx; cases h; exact ⟨e, he, rfl, hx⟩
    · cases h
  · rintro ⟨e, he, rfl, rfl⟩; exact ⟨e, he, by simp⟩
def rest (l : List PEdge) (P : List Nat) (v : Nat) : Nat := l.countP fun e => decide (e.s = v) && !P.contains e.t
theorem rest_add {P : List Nat} {w : Nat} (hw : ¬ w ∈ P) (v : Nat) : ∀ (l : List PEdge), rest l P v = rest l (P ++ [w]) v + (ins l w).count v
  | [] => rfl
  | e :: r => by
    have ih := rest_add hw v r
    unfold rest ins at ih ⊢
    simp only [List.countP_cons, List.filterMap_cons]
    by_cases h1 : e.s = v <;> by_cases h2 : e.t = w
    · have h3 : ¬ e.t ∈ P := by rw [h2]; exact hw
      have h4 : e.t ∈ P ++ [w] := by simp [h2]
      simp only [h1, h2, decide_true, Bool.true_and, List.contains_eq_mem] at ih ⊢
      simp only [h2] at h3 h4
      simp [h3, h4, List.count_cons] at ih ⊢
      omega
    · have h4 : (P ++ [w]).contains e.t = P.contains e.t := by simp [h2]
      simp only [h1, decide_true, Bool.true_and, h4, if_neg h2] at ih ⊢
      omega
    · simp only [h1, decide_false, Bool.false_and, h2, if_true, Bool.false_eq_true, if_false, List.count_cons] at ih ⊢
      simp [h1] at ih ⊢
      omega
    · have h4 : (P ++ [w]).contains e.t = P.contains e.t := by simp [h2]
      simp only [h1, decide_false, Bool.false_and, if_neg h2, Bool.false_eq_true, if_false] at ih ⊢
      omega
theorem rest_pos {l : List PEdge} {P : List Nat} {v : Nat} (h : 0 < rest l P v) : ∃ e ∈ l, e.s = v ∧ ¬ e.t ∈ P := by
  obtain ⟨e, he, h2⟩ := List.countP_pos_iff.1 h
  simp only [Bool.and_eq_true, decide_eq_true_eq, Bool.not_eq_true', List.contains_eq_mem, decide_eq_false_iff_not] at h2
  exact ⟨e, he, h2.1, h2.2⟩
structure KI (n : Nat) (l : List PEdge) (left lev q : List Nat) (P : List Nat) (w : Option Nat) (T : List Nat) : Prop where
  ll : left.length = n
  lv : lev.length = n
  qn : ∀ v ∈ q, v < n
  nd : q.Nodup
  sub : ∀ v ∈ P, v ∈ q
  cnt : ∀ v, v < n → left.getD v 0 = rest l P v + T.count v
  free : ∀ v, v < n → (v ∈ q ↔ left.getD v 0 = 0)
  down : ∀ e ∈ l, e.t ∈ P → (w = some e.t → e.s ∈ T ∨ lev.getD e.t 0 < lev.getD e.s 0) ∧ (w ≠ some e.t → lev.getD e.t 0 < lev.getD e.s 0)
  next : ∀ v, v < n → lev.getD v 0 = 0 ∨ ∃ e ∈ l, e.s = v ∧ e.t ∈ P ∧ lev.getD v 0 = lev.getD e.t 0 + 1
  ub : ∀ v, v < n → lev.getD v 0 ≤ P.length
  uw : ∀ x, w = some x → lev.getD x 0 < P.length

section
variable {n : Nat} {l : List PEdge} {left lev q P T : List Nat} {w : Nat}
theorem KI.qle (h : KI n l left lev q P none []) : q.length ≤ n := nodup_le h.nd h.qn
theorem KI.start (h : KI n l left lev q P none []) (hw : w ∈ q) (hwP : ¬ w ∈ P) : KI n l left lev q (P ++ [w]) (some w) (ins l w) := by
  refine { h with sub := fun v hv => ?_, cnt := fun v hv => ?_, down := fun e he ht => ?_, next := fun v hv => ?_, ub := fun v hv => ?_, uw := fun x hx => ?_ }
  · rcases List.mem_append.1 hv with hv | hv
    · exact h.sub v hv
    · simp at hv; rw [hv]; exact hw
  · rw [h.cnt v hv, rest_add hwP v l]; simp
  · by_cases e1 : e.t = w
    · exact ⟨fun _ => .inl (mem_ins.2 ⟨e, he, rfl, e1⟩), fun hn => absurd (by rw [e1]) hn⟩
    · have hp : e.t ∈ P := by simpa [e1] using ht
      exact ⟨fun hn => absurd (Option.some.inj hn).symm e1, fun _ => ((h.down e he hp).2 (by simp))⟩
  · rcases h.next v hv with h0 | ⟨e, he, h1, h2, h3⟩
    · exact .inl h0
    · exact .inr ⟨e, he, h1, by simp [h2], h3⟩
  · have := h.ub v hv; rw [List.length_append]; omega
  · cases hx; have := h.ub w (h.qn w hw); rw [List.length_append, List.length_singleton]; omega
theorem KI.stop (h : KI n l left lev q P (some w) []) : KI n l left lev q P none [] := by
  refine { h with down := fun e he ht => ⟨fun hn => (by cases hn), fun _ => ?_⟩, uw := fun x hx => by cases hx }
  obtain ⟨h1, h2⟩ := h.down e he ht
  by_cases e1 : w = e.t
  · rcases h1 (by rw [e1]) with h | h
    · cases h
    · exact h
  · exact h2 (by simpa using e1)
theorem KI.step {v : Nat} (h : KI n l left lev q P (some w) (v :: T)) (hv : v < n) (hw : w ∈ P) (hE : ∃ e ∈ l, e.s = v ∧ e.t = w) :
    KI n l (left.set v (left.getD v 0 - 1)) (lev.set v (max (lev.getD v 0) (lev.getD w 0 + 1))) (if left.getD v 0 - 1 = 0 then q ++ [v] else q) P (some w) T := by
  have hcnt := h.cnt v hv
  rw [List.count_cons_self] at hcnt
  have hvq : ¬ v ∈ q := fun hm => by have := (h.free v hv).1 hm; omega
  have hwq : w ∈ q := h.sub w hw
  have hwv : w ≠ v := fun e => hvq (e ▸ hwq)
  have gl : ∀ u, (left.set v (left.getD v 0 - 1)).getD u 0 = if v = u then left.getD v 0 - 1 else left.getD u 0 := fun u => by
    rw [getD_set']
    by_cases e : v = u
    · rw [if_pos ⟨e, by rw [h.ll]; exact hv⟩, if_pos e]
    · rw [if_neg (fun hh => e hh.1), if_neg e]
  have gv : ∀ u, (lev.set v (max (lev.getD v 0) (lev.getD w 0 + 1))).getD u 0 = if v = u then max (lev.getD v 0) (lev.getD w 0 + 1) else lev.getD u 0 := fun u => by
    rw [getD_set']
    by_cases e : v = u
    · rw [if_pos ⟨e, by rw [h.lv]; exact hv⟩, if_pos e]
    · rw [if_neg (fun hh => e hh.1), if_neg e]
  have hP : ∀ u ∈ P, v ≠ u := fun u hu e => hvq (e ▸ h.sub u hu)
  have memq : ∀ u, u ∈ (if left.getD v 0 - 1 = 0 then q ++ [v] else q) ↔ u ∈ q ∨ (u = v ∧ left.getD v 0 - 1 = 0) := fun u => by
    split
    · rename_i h0; simp only [List.mem_append, List.mem_singleton, h0, and_true]
    · rename_i h0
      constructor
      · exact fun hm => .inl hm
      · rintro (hm | ⟨_, hm⟩)
        · exact hm
        · exact absurd hm h0
  constructor
  · simp [h.ll]
  · simp [h.lv]
  · intro u hu
    rcases (memq u).1 hu with hu | ⟨rfl, _⟩
    · exact h.qn u hu
    · exact hv
  · split
    · rw [List.nodup_append]
      exact ⟨h.nd, by simp, fun u hu x hx => by simp at hx; subst hx; exact fun e => hvq (e ▸ hu)⟩
    · exact h.nd
  · intro u hu
    exact (memq u).2 (.inl (h.sub u hu))
  · intro u hu
    rw [gl]
    by_cases e : v = u
    · subst e; rw [if_pos rfl]; omega
    · rw [if_neg e, h.cnt u hu, List.count_cons_of_ne e]
  · intro u hu
    rw [memq, gl]
    by_cases e : v = u
    · subst e; rw [if_pos rfl]; simp [hvq]
    · rw [if_neg e, ← h.free u hu]
      constructor
      · rintro (hm | ⟨hm, _⟩)
        · exact hm
        · exact absurd hm.symm e
      · exact fun hm => .inl hm
  · intro e he ht
    rw [gv, gv, if_neg (hP _ ht)]
    obtain ⟨h1, h2⟩ := h.down e he ht
    refine ⟨fun hw' => ?_, fun hw' => ?_⟩
    · have hw2 : w = e.t := Option.some.inj hw'
      by_cases e1 : v = e.s
      · rw [if_pos e1, ← hw2]; exact .inr (by omega)
      · rw [if_neg e1]
        rcases h1 hw' with hm | hm
        · rcases List.mem_cons.1 hm with hm | hm
          · exact absurd hm.symm e1
          · exact .inl hm
        · exact .inr hm
    · have h3 := h2 hw'
      by_cases e1 : v = e.s
      · rw [if_pos e1]; rw [← e1] at h3; omega
      · rw [if_neg e1]; exact h3
  · intro u hu
    rw [gv]
    by_cases e : v = u
    · subst e
      rw [if_pos rfl]
      by_cases hmx : lev.getD v 0 ≤ lev.getD w 0 + 1
      · obtain ⟨e, he, h1, h2⟩ := hE
        refine .inr ⟨e, he, h1, by rw [h2]; exact hw, ?_⟩
        rw [gv, h2, if_neg (fun hh => hwv hh.symm)]; omega
      · rcases h.next v hv with h0 | ⟨e, he, h1, h2, h3⟩
        · omega
        · refine .inr ⟨e, he, h1, h2, ?_⟩
          rw [gv, if_neg (hP _ h2)]; omega
    · rw [if_neg e]
      rcases h.next u hu with h0 | ⟨e', he, h1, h2, h3⟩
      · exact .inl h0
      · refine .inr ⟨e', he, h1, h2, ?_⟩
        rw [gv, if_neg (hP _ h2)]; exact h3
  · intro u hu
    rw [gv]
    have h1 := h.uw w rfl
    by_cases e : v = u
    · rw [if_pos e]; have := h.ub v hv; omega
    · rw [if_neg e]; exact h.ub u hu
  · intro x hx
    cases hx
    rw [gv, if_neg (fun hh => hwv hh.symm)]; exact h.uw w rfl
theorem KI.all (h : KI n l left lev q q none []) (hq : n ≤ q.length) (hE : ∀ e ∈ l, e.t < n) : levV n l = some lev := by
  have hall : ∀ v, v < n → v ∈ q := fun v hv => by
    by_cases hm : v ∈ q
    · exact hm
    · have := nodup_le (q := v :: q) (n := n) (List.nodup_cons.2 ⟨hm, h.nd⟩) (fun u hu => by rcases List.mem_cons.1 hu with rfl | hu; exact hv; exact h.qn u hu)
      simp at this; omega
  have hl : IsLev n l fun v => lev.getD v 0 := ⟨fun e he => (h.down e he (hall _ (hE e he))).2 (by simp), fun v hv => by
    rcases h.next v hv with h0 | ⟨e, he, h1, _, h3⟩
    · exact .inl h0
    · exact .inr ⟨e, he, h1, h3⟩⟩
  rw [levV_some hE hl]
  congr 1
  refine List.ext_getElem (by simp [h.lv]) fun i h1 h2 => ?_
  simp [List.getD_eq_getElem?_getD, List.getElem?_eq_getElem h2]
theorem KI.stuck (h : KI n l left lev q q none []) (hq : q.length < n) (hE : ∀ e ∈ l, e.t < n) : levV n l = none := by
  refine levV_none ?_
  rintro ⟨f, hf⟩
  have hex : ∃ v, v < n ∧ ¬ v ∈ q := by
    refine Classical.byContradiction fun hne => ?_
    have hsub : List.range n ⊆ q := fun v hv => Classical.byContradiction fun hm => hne ⟨v, List.mem_range.1 hv, hm⟩
    have := List.Nodup.length_le_of_subset List.nodup_range hsub
    simp at this; omega
  have key : ∀ k v, f v = k → v < n → v ∈ q := by
    intro k
    induction k using Nat.strongRecOn with
    | _ k ih =>
      intro v hk hv
      refine Classical.byContradiction fun hm => ?_
      have hpos : 0 < rest l q v := by
        have h1 := h.cnt v hv
        simp only [List.count_nil, Nat.add_zero] at h1
        have h2 : ¬ left.getD v 0 = 0 := fun hh => hm ((h.free v hv).2 hh)
        omega
      obtain ⟨e, he, h1, h2⟩ := rest_pos hpos
      have := hf e he
      rw [h1] at this
      exact h2 (ih (f e.t) (by omega) e.t rfl (hE e he))
  obtain ⟨v, hv, hm⟩ := hex
  exact hm (key _ v rfl hv)
end
end Go.AM

set_option maxRecDepth 8000
set_option maxHeartbeats 2000000
namespace Go.AM
open Go Go.Proofs

noncomputable def levelsVv (n : Int) (l : List PEdge) : AV := if gE n l ≠ 0 then .tup [.dat (.sl none []), .dat (.int .i64 (gE n l))] else match levV n.toNat l with
  | some L => .tup [.dat (.sl none (natsD L)), .dat (.int .i64 0)]
  | none => .tup [.dat (.sl none []), .dat (.int .i64 10)]
def levelsR (ds : List D) (v : AV) : Prop := ∃ (n : Int) (l : List PEdge), ds = [.int .i64 n, .sl (some 4) (edgesD l)] ∧ l.length ≤ 10000 ∧ v = levelsVv n l
def insL (n : Nat) (l : List PEdge) : List (List Nat) := (List.range n).map (ins l)
theorem insL_len {n : Nat} {l : List PEdge} : (insL n l).length = n := by simp [insL]
theorem insL_nil {n : Nat} : insL n [] = List.replicate n [] := List.ext_getElem (by simp [insL]) fun i h1 h2 => by simp [insL, ins]
theorem insL_getD {n : Nat} {l : List PEdge} {v : Nat} (h : v < n) : (insL n l).getD v [] = ins l v := by simp [insL, List.getD_eq_getElem?_getD, h]
theorem insL_get {n : Nat} {l : List PEdge} {v : Nat} (h : v < n) : (insL n l)[v]? = some (ins l v) := by simp [insL, h]
theorem insL_snoc {n : Nat} {l : List PEdge} {e : PEdge} : insL n (l ++ [e]) = (insL n l).set e.t (ins l e.t ++ [e.s]) := by
  refine List.ext_getElem (by simp [insL]) fun i h1 h2 => ?_
  rw [List.getElem_set]
  simp only [insL, List.getElem_map, List.getElem_range, ins_snoc]
  by_cases h : e.t = i
  · subst h; simp
  · simp [h]
theorem ins_len (l : List PEdge) (v : Nat) : (ins l v).length ≤ l.length := List.length_filterMap_le _ _
def outN (n : Nat) (l : List PEdge) : List Nat := (List.range n).map (rest l [])
theorem outN_len {n : Nat} {l : List PEdge} : (outN n l).length = n := by simp [outN]
theorem rest_snoc {l : List PEdge} {e : PEdge} {v : Nat} : rest (l ++ [e]) [] v = if e.s = v then rest l [] v + 1 else rest l [] v := by
  unfold rest; rw [List.countP_append]; by_cases h : e.s = v <;> simp [h]
theorem rest_le (l : List PEdge) (v : Nat) : rest l [] v ≤ l.length := List.countP_le_length
theorem outN_nil {n : Nat} : outN n [] = List.replicate n 0 := List.ext_getElem (by simp [outN]) fun i h1 h2 => by simp [outN, rest]
theorem outN_getD {n : Nat} {l : List PEdge} {v : Nat} (h : v < n) : (outN n l).getD v 0 = rest l [] v := by simp [outN, List.getD_eq_getElem?_getD, h]
theorem outN_snoc {n : Nat} {l : List PEdge} {e : PEdge} : outN n (l ++ [e]) = (outN n l).set e.s (rest l [] e.s + 1) := by
  refine List.ext_getElem (by simp [outN]) fun i h1 h2 => ?_
  rw [List.getElem_set]
  simp only [outN, List.getElem_map, List.getElem_range, rest_snoc]
  by_cases h : e.s = i
  · subst h; simp
  · simp [h]
theorem nats_at {l : List Nat} {i : Nat} (z : Nat) (h : i < l.length) : D.nth (natsD l) i = .int .i64 (l.getD i z : Nat) := by
  rw [D.nth_map h]; simp [List.getD_eq_getElem?_getD, List.getElem?_eq_getElem h]
theorem nats_upd {l : List Nat} {i n : Nat} : (natsD l).set i (.int .i64 (n : Int)) = natsD (l.set i n) := by simp [List.map_set]
theorem nats_rep {n z : Nat} : natsD (List.replicate n z) = List.replicate n (.int .i64 (z : Int)) := by simp
def freeL (left : List Nat) (k : Nat) : List Nat := (List.range k).filter fun v => left.getD v 0 == 0
theorem freeL_succ {left : List Nat} {k : Nat} : freeL left (k + 1) = if left.getD k 0 = 0 then freeL left k ++ [k] else freeL left k := by
  unfold freeL
  rw [List.range_succ, List.filter_append]
  by_cases h : left.getD k 0 = 0
  · rw [if_pos h]; simp only [List.filter_cons, h, beq_self_eq_true, if_true, List.filter_nil]
  · have : (left.getD k 0 == 0) = false := by simpa using h
    rw [if_neg h]; simp only [List.filter_cons, this, Bool.false_eq_true, if_false, List.filter_nil, List.append_nil]
theorem freeL_len {left : List Nat} {k : Nat} : (freeL left k).length ≤ k := by
  have := List.length_filter_le (fun v => left.getD v 0 == 0) (List.range k); simpa [freeL] using this
theorem ki_init {n : Nat} {l : List PEdge} : KI n l (outN n l) (List.replicate n 0) (freeL (outN n l) n) [] none [] where
  ll := outN_len
  lv := by simp
  qn v hv := by simp [freeL] at hv; exact hv.1
  nd := List.Nodup.sublist List.filter_sublist List.nodup_range
  sub v hv := by cases hv
  cnt v hv := by rw [outN_getD hv]; simp
  free v hv := by simp [freeL, hv]
  down e he ht := by cases ht
  next v hv := .inl (by simp [List.getD_eq_getElem?_getD, List.getElem?_replicate, hv])
  ub v hv := by simp [List.getD_eq_getElem?_getD, List.getElem?_replicate, hv]
  uw x hx := by cases hx

abbrev tabLV : List (Nat × Contract) := [(52, dataC gchkR)]
theorem tabLV_ok : OkG Try.prog (tbl tabLV) := okG_cons gcheck_ok okG_nil
theorem levels_ok : OkF Try.prog 31 (dataC levelsR) := by
  refine okF_data Try.func31 rfl (by decide) ?_
  rintro ds v ⟨n, l, rfl, hll, rfl⟩
  refine sem_of_awpK [5] (Γ := tbl tabLV) tabLV_ok _ _ _ ?_
  simp only [go_sem, Int.reduceEq, Int.reduceLT, Int.reduceLE, eq_self, Int.natCast_nonneg, Int.toNat_natCast, Try.ntmps31]
  refine call_data gchkR (by simp) [.int .i64 n, .sl (some 4) (edgesD l)] _ rfl ⟨n, l, rfl, hll, rfl⟩ (.inl rfl) ?_
  by_cases h : gE n l = 0
  case neg =>
    unfold levelsVv
    rw [if_pos h]
    simp only [go_sem, Int.reduceEq, Int.reduceLT, Int.reduceLE, eq_self, Int.natCast_nonneg, Int.toNat_natCast, h]
    refine post_res (.inl rfl) [.tmp 4, .tmp 5] rfl ?_
    simp only [go_sem]
    exact le_fin (by simp only [go_sem]) (by simp only [go_sem])
  unfold levelsVv
  rw [if_neg (by rw [h]; decide)]
  obtain ⟨n, rfl, hg⟩ := gOk_of h hll
  have hn4 := hg.n4
  have hEt : ∀ e ∈ l, e.t < n := fun e he => (hg.dst e he).2
  rw [Int.toNat_natCast]
  simp only [go_sem, Int.reduceEq, Int.reduceLT, Int.reduceLE, eq_self, Int.natCast_nonneg, Int.toNat_natCast, h]
  refine sem_drawT (ob := 0) (ko := 0) (pf := []) (mf := []) (ms := []) (ks := []) mixed tabLV_ok (fun g _ _ _ _ _ h => by cases h) noMk
    (.one 0 (.one 2 (.alt 1 (.one 4 (.one 3 (.one 5 .fin))) (.alt 3 (.one 1 (.one 4 (.one 5 .fin))) .stop)))) (by kernel_rfl) ?_
  simp only [go_sem, Int.reduceEq, Int.reduceLT, Int.reduceLE, eq_self, Int.natCast_nonneg, Int.toNat_natCast, and_true]
  apply both_of
  · intro hQ
    exact ⟨Int.le_refl _, by omega, Int.le_refl _, by omega, hQ⟩
  · intro hQ
    refine ⟨Int.le_refl _, by omega, Int.le_refl _, by omega, ?_⟩
    refine sem_le (le_swp (own' := [.row none (List.replicate n (.int .i64 0)), .vec (List.replicate n .nils)]) 0 1 (by decide : (0 : Nat) < 2) (by decide : (1 : Nat) < 2) rfl ?_) hQ
    show _ = [Obj.ren (swp 0 1) (.row none (List.replicate n (.int .i64 0))), Obj.ren (swp 0 1) (.vec (List.replicate n .nils))]
    simp only [Obj.ren, rens_nils]
  refine sem_le (le_nilsF 1 none n rfl (Nat.zero_le _)) ?_
  have hpre : ∀ x M, (List.set [x, Obj.vec (List.replicate n AV.nils)] 1 (Obj.vec M)) ++ famO none (List.replicate n []) = x :: .vec M :: famO none (List.replicate n []) := fun x M => rfl
  rw [hpre]
  refine sem_of_awp (Γ := tbl tabLV) tabLV_ok _ _ _ ?_
  simp only [go_sem, Int.reduceEq, Int.reduceLT, Int.reduceLE, eq_self, Int.natCast_nonneg, Int.toNat_natCast, edges_len]
  refine sem_loop (fun k : Nat => ⟨slotsOf 125 [(0, .dat (.int .i64 n)), (7, .sl 0 0 n), (8, .sl 1 0 n), (28, .dat (.sl (some 4) (edgesD l))), (29, .dat (.int .i64 l.length)), (30, .dat (.int .i64 k))],
      .row none (natsD (outN n (l.take k))) :: .vec (famR 2 (rowsN (insL n (l.take k)))) :: famO none (rowsN (insL n (l.take k))), 0, []⟩)
    (fun k => k ≤ l.length) (fun k => l.length - k) 0 (Nat.zero_le _) ?_ ?_
  · rw [List.take_zero, insL_nil, outN_nil, nats_rep]
    simp only [rowsN, List.map_replicate, natsD, List.map_nil, List.length_cons, List.length_nil]
    exact le_slots' (by simp only [go_sem, Int.natCast_zero])
  rintro k hk
  cases hd : l.drop k with
  | cons e r =>
    have hlt := lt_of_drop hd
    have hk2 : (k : Int) < l.length := by omega
    have hk0 : (0 : Int) ≤ k := Int.natCast_nonneg k
    have hn := nth_of_drop (f := edgeD) hd
    have hem := mem_of_drop hd
    obtain ⟨hs1, hs2⟩ := hg.src e hem
    obtain ⟨ht1, ht2⟩ := hg.dst e hem
    have hsn : (e.s : Int) < n := by omega
    have htn : (e.t : Int) < n := by omega
    have hsnoc := insL_snoc (n := n) (l := l.take k) (e := e)
    have hosn := outN_snoc (n := n) (l := l.take k) (e := e)
    rw [← take_of_drop hd] at hsnoc hosn
    have hrow := rowsN_getD (M := insL n (l.take k)) (i := e.t)
    rw [insL_getD ht2] at hrow
    have hlen := ins_len (l.take k) e.t
    have hrl := rest_le (l.take k) e.s
    rw [List.length_take] at hlen hrl
    have hol := outN_len (n := n) (l := l.take k)
    have hol2 : e.s < (outN n (l.take k)).length := by omega
    have hog := nats_at 0 hol2
    rw [outN_getD hs2] at hog
    have hadd : ((rest (l.take k) [] e.s : Nat) : Int) + 1 = ((rest (l.take k) [] e.s + 1 : Nat) : Int) := by omega
    have hM : (rowsN (insL n (l.take k))).length = n := by rw [rowsN_len, insL_len]
    have hMl : e.t < (rowsN (insL n (l.take k))).length := by rw [hM]; exact ht2
    have hR := famR_at (b := 2) hMl
    rw [hrow] at hR
    have hO := famO_get0 (ag := none) hMl
    rw [hrow] at hO
    have hK := famR_killA (b := 2) hMl
    have hS := fun l' => famO_setA (ag := none) (l := l') hMl
    have hFl := famR_length 2 (rowsN (insL n (l.take k)))
    rw [hM] at hFl
    refine sem_of_awp (Γ := tbl tabLV) tabLV_ok _ _ _ ?_
    have hne : ¬ (famO none (rowsN (insL n (l.take k)))).length = e.t := by rw [famO_length, hM]; omega
    have hne0 : ¬ 0 = e.t + 2 := by omega
    have hne1 : ¬ 1 = e.t + 2 := by omega
    simp only [go_sem, Int.reduceEq, Int.reduceLT, Int.reduceLE, eq_self, Int.natCast_nonneg, Int.toNat_natCast, hk2, hk0, hn, hlt, edges_len, edgeD, hs1, ht1, getA0, setA0, hsn, hs2, nats_len, hol, hog, hadd, nats_upd]
    refine ⟨inR_i64.2 (by omega), ?_⟩
    refine sem_drawK (ko := e.t + 2) (pf := []) (mf := []) (ms := [0, 1, 2, 12, 11]) mixed tabLV_ok (fun g _ _ _ _ _ h => by cases h) noMk [0, 1, 2, 12, 3, 4, 5, 6, 7, 8, 9, 10, 11, 13] (by kernel_rfl) ?_
    simp only [go_sem, Int.reduceEq, Int.reduceLT, Int.reduceLE, eq_self, Int.natCast_nonneg, Int.toNat_natCast, hR, hFl, hO, hK, hS, hne, hne0, hne1, getA0, getA1, setA0, lenA1, htn, ht2, famO_getP hMl, famO_setP hMl, hrow, famO_kill, famO_killP, List.append_assoc, List.cons_append, List.nil_append, List.set_set, nats_take, nats_len, nats_snoc, if_false]
    refine ⟨by omega, by omega, inR_i64.2 (by omega), k + 1, by omega, by omega, ?_⟩
    rw [famR_setA (l := natsD (ins (l.take k) e.t ++ [e.s])) (by simp), rowsN_set, ← hsnoc, ← hosn]
    refine le_endF (pre := [_, _]) (Nat.zero_le _) ?_ ?_ ?_
    · simp only [go_sem, Int.natCast_add, Int.cast_ofNat_Int]
    · simp only [go_sem]
    · exact ⟨trivial, famR_under _ _ _ (Nat.le_refl _), trivial⟩
  | nil =>
  have := end_of_drop hd hk
  have hk2 : ¬ (k : Int) < l.length := by omega
  subst this
  rw [List.take_length]
  have hrl : ((insL n l).map natsR).length = n := by simp [insL_len]
  have hrt : List.take n ((insL n l).map natsR) = (insL n l).map natsR := List.take_of_length_le (by rw [hrl]; exact Nat.le_refl _)
  refine sem_le (le_famEnd (pre := [.row none (natsD (outN n l)), .vec (famR 2 (rowsN (insL n l)))]) (s' := slotsOf 125 [(0, .dat (.int .i64 n)), (7, .sl 0 0 n), (8, .dat (.sl none ((insL n l).map natsR))), (29, .dat (.int .i64 l.length)), (30, .dat (.int .i64 l.length))]) (pre' := [.row none (natsD (outN n l)), .dead]) 1 rfl (Nat.zero_le _) ?_ ?_ ?_ ?_) ?_
  · simp only [List.map_cons, List.map_nil, frzFo, frzFs, frzF_dat, AV.frzs, AV.frz, Obj.frz]; rfl
  · rw [rowsN_sl]
    simp only [go_sem, frzFs, frzF_dat, frzF_top, frzF_nils, frzF_sl, frzF_ptr, AV.frzs, AV.frz, Nat.lt_irrefl, Nat.reduceLT, Nat.zero_lt_one, true_or, List.drop_zero, hrl, hrt, Nat.zero_add, Nat.le_refl, if_true, Nat.reduceEqDiff, ↓reduceIte, Nat.zero_ne_one]
  · simp only [go_sem]
  · simp only [go_sem, Obj.under, AV.unders, AV.under]
  refine sem_of_awp (Γ := tbl tabLV) tabLV_ok _ _ _ ?_
  simp only [go_sem, Int.reduceEq, Int.reduceLT, Int.reduceLE, eq_self, Int.natCast_nonneg, Int.toNat_natCast, hk2, edges_len]
  refine ⟨Int.le_refl _, by omega, ?_⟩
  refine sem_le (le_addnil 12 none rfl (Nat.zero_le _)) ?_
  simp only [go_sem, Int.reduceEq, Int.reduceLT, Int.reduceLE, eq_self, Int.natCast_nonneg, Int.toNat_natCast]
  have hol := outN_len (n := n) (l := l)
  have e0 : List.replicate n (D.int .i64 0) = natsD (List.replicate n 0) := by rw [nats_rep]; rfl
  rw [e0]
  refine sem_loop (fun k : Nat => ⟨slotsOf 125 [(0, .dat (.int .i64 n)), (7, .sl 0 0 n), (8, .dat (.sl none ((insL n l).map natsR))), (11, .sl 2 0 n), (12, .sl 3 0 (freeL (outN n l) k).length), (57, .sl 0 0 n), (58, .dat (.int .i64 n)), (59, .dat (.int .i64 k))],
      [.row none (natsD (outN n l)), .dead, .row none (natsD (List.replicate n 0)), .row none (natsD (freeL (outN n l) k))], 0, []⟩)
    (fun k => k ≤ n) (fun k => n - k) 0 (Nat.zero_le _) ?_ ?_
  · exact le_slots' (by simp only [go_sem, Int.natCast_zero, freeL, List.range_zero, List.filter_nil])
  rintro k hk
  by_cases hkn : k = n
  case neg =>
    have hk2' : (k : Int) < n := by omega
    have hk3 : k < n := by omega
    have hk4 : k < (outN n l).length := by omega
    have hog := nats_at 0 hk4
    have hfs := freeL_succ (left := outN n l) (k := k)
    have hfl := freeL_len (left := outN n l) (k := k)
    refine sem_of_awp (Γ := tbl tabLV) tabLV_ok _ _ _ ?_
    by_cases hz : (outN n l).getD k 0 = 0
    · rw [if_pos hz] at hfs
      have hz2 : (((outN n l).getD k 0 : Nat) : Int) = 0 := by omega
      simp only [go_sem, Int.reduceEq, Int.reduceLT, Int.reduceLE, eq_self, Int.natCast_nonneg, Int.toNat_natCast, hk2', hk3, nats_len, hol, hog, hz2, nats_take, nats_snoc]
      refine ⟨by omega, by omega, inR_i64.2 (by omega), k + 1, by omega, by omega, ?_⟩
      rw [hfs]
      refine le_end (own := [_, _, _, _]) (ex := [_]) (Nat.zero_le _) ?_ ?_ ?_
      · simp only [go_sem, Int.natCast_add, Int.cast_ofNat_Int, List.length_append, List.length_cons, List.length_nil, Nat.zero_add]
      · simp only [go_sem]
      · simp only [go_sem, Obj.under, AV.unders, AV.under]
    · rw [if_neg hz] at hfs
      have hz2 : ¬ (((outN n l).getD k 0 : Nat) : Int) = 0 := by omega
      simp only [go_sem, Int.reduceEq, Int.reduceLT, Int.reduceLE, eq_self, Int.natCast_nonneg, Int.toNat_natCast, hk2', hk3, nats_len, hol, hog, hz2]
      refine ⟨inR_i64.2 (by omega), k + 1, by omega, by omega, ?_⟩
      rw [hfs]
      exact le_slots' (by simp only [go_sem, Int.natCast_add, Int.cast_ofNat_Int])
  subst hkn
  have hk2' : ¬ (k : Int) < k := by omega
  refine sem_of_awp (Γ := tbl tabLV) tabLV_ok _ _ _ ?_
  simp only [go_sem, Int.reduceEq, Int.reduceLT, Int.reduceLE, eq_self, Int.natCast_nonneg, Int.toNat_natCast, hk2']
  refine sem_loop (fun p : List Nat × List Nat × List Nat × Nat => ⟨slotsOf 125 [(0, .dat (.int .i64 k)), (7, .sl 0 0 k), (8, .dat (.sl none ((insL k l).map natsR))), (11, .sl 2 0 k), (12, .sl 3 0 p.2.2.1.length), (15, .dat (.int .i64 p.2.2.2))],
      [.row none (natsD p.1), .dead, .row none (natsD p.2.1), .row none (natsD p.2.2.1)], 0, []⟩)
    (fun p => p.2.2.2 ≤ p.2.2.1.length ∧ KI k l p.1 p.2.1 p.2.2.1 (p.2.2.1.take p.2.2.2) none []) (fun p => k - p.2.2.2) (outN k l, List.replicate k 0, freeL (outN k l) k, 0) ⟨Nat.zero_le _, by simpa using ki_init⟩ ?_ ?_
  · exact le_slots' (by simp only [go_sem, Int.natCast_zero])
  rintro ⟨left, lev, q, d⟩ ⟨hdq, hI⟩
  simp only at hdq hI
  have hql := hI.qle
  refine sem_of_awp (Γ := tbl tabLV) tabLV_ok _ _ _ ?_
  by_cases hde : d = q.length
  case pos =>
    subst hde
    rw [List.take_length] at hI
    have hd2 : ¬ (q.length : Int) < q.length := by omega
    have hlv := hI.lv
    by_cases hqn : q.length < k
    · have hqn2 : (q.length : Int) < k := by omega
      rw [hI.stuck hqn hEt]
      simp only [go_sem, Int.reduceEq, Int.reduceLT, Int.reduceLE, eq_self, Int.natCast_nonneg, Int.toNat_natCast, hd2, hqn2]
      refine post_res (.inl rfl) [.tmp 4, .tmp 5] rfl ?_
      simp only [go_sem]
      exact le_fin (by simp only [go_sem]) (by simp only [go_sem])
    · have hqn2 : ¬ (q.length : Int) < k := by omega
      rw [hI.all (by omega) hEt]
      simp only [go_sem, Int.reduceEq, Int.reduceLT, Int.reduceLE, eq_self, Int.natCast_nonneg, Int.toNat_natCast, hd2, hqn2]
      refine post_res (.inl rfl) [.tmp 4, .tmp 5] rfl ?_
      simp only [go_sem]
      refine Le.trans (le_freeze 2 (ag := none) rfl (Nat.zero_le _)) ?_
      have e1 : List.take k (natsD lev) = natsD lev := List.take_of_length_le (by simp [hlv])
      simp only [go_sem, e1, nats_len, hlv, Nat.le_refl]
      exact le_fin (by simp only [go_sem]) (by simp only [go_sem])
  have hdl : d < q.length := by omega
  obtain ⟨w, hw⟩ : ∃ w, q[d]? = some w := ⟨_, List.getElem?_eq_getElem hdl⟩
  have hwq := List.mem_of_getElem? hw
  have hwn := hI.qn w hwq
  have hwn2 : (w : Int) < k := by omega
  have hd2 : (d : Int) < q.length := by omega
  have hd0 : (0 : Int) ≤ d := Int.natCast_nonneg d
  have hnw := nats_nth hw
  have hent := rows_nth (insL_get (l := l) hwn)
  have hML : ((insL k l).map natsR).length = k := by simp [insL_len]
  have htk : q.take (d + 1) = q.take d ++ [w] := by rw [List.take_add_one, hw]; rfl
  have hwT : ¬ w ∈ q.take d := fun hm => by
    have hnd := hI.nd
    rw [← List.take_append_drop (d + 1) q, htk, List.append_assoc, List.nodup_append] at hnd
    exact hnd.2.2 w hm w (by simp) rfl
  have hS := hI.start hwq hwT
  rw [← htk] at hS
  simp only [go_sem, Int.reduceEq, Int.reduceLT, Int.reduceLE, eq_self, Int.natCast_nonneg, Int.toNat_natCast, hd2, hd0, hdl, nats_len, hnw, hwn, hwn2, hML, hent]
  refine sem_loop (fun p : List Nat × List Nat × List Nat × Nat => ⟨slotsOf 125 [(0, .dat (.int .i64 k)), (7, .sl 0 0 k), (8, .dat (.sl none ((insL k l).map natsR))), (11, .sl 2 0 k), (12, .sl 3 0 p.2.2.1.length), (15, .dat (.int .i64 d)),
      (83, .dat (.sl none (natsD (ins l w)))), (84, .dat (.int .i64 (ins l w).length)), (85, .dat (.int .i64 p.2.2.2))],
      [.row none (natsD p.1), .dead, .row none (natsD p.2.1), .row none (natsD p.2.2.1)], 0, []⟩)
    (fun p => p.2.2.2 ≤ (ins l w).length ∧ d < p.2.2.1.length ∧ p.2.2.1[d]? = some w ∧ p.2.2.1.length ≤ k ∧ KI k l p.1 p.2.1 p.2.2.1 (p.2.2.1.take (d + 1)) (some w) ((ins l w).drop p.2.2.2)) (fun p => (ins l w).length - p.2.2.2) (left, lev, q, 0) ⟨Nat.zero_le _, hdl, hw, hql, hS⟩ ?_ ?_
  · exact le_slots' (by simp only [go_sem, Int.natCast_zero])
  clear hS hwT htk hnw hd2 hw hwq hdl hde hql hI hdq left lev q
  rintro ⟨left, lev, q, j⟩ ⟨hj, hdl, hw, hql, hI⟩
  simp only at hj hdl hw hql hI
  refine sem_of_awp (Γ := tbl tabLV) tabLV_ok _ _ _ ?_
  cases hd3 : (ins l w).drop j with
  | nil =>
    have := end_of_drop hd3 hj
    have hj2 : ¬ (j : Int) < (ins l w).length := by omega
    rw [hd3] at hI
    simp only [go_sem, Int.reduceEq, Int.reduceLT, Int.reduceLE, eq_self, Int.natCast_nonneg, Int.toNat_natCast, hj2]
    refine ⟨inR_i64.2 (by omega), (left, lev, q, d + 1), ⟨by simp only; omega, hI.stop⟩, by simp only; omega, ?_⟩
    exact le_slots' (by simp only [go_sem, Int.natCast_add, Int.cast_ofNat_Int])
  | cons v r =>
    have hlt := lt_of_drop hd3
    have hil := ins_len l w
    have hj2 : (j : Int) < (ins l w).length := by omega
    have hj0 : (0 : Int) ≤ j := Int.natCast_nonneg j
    have hn := nth_of_drop (f := natD) hd3
    have hvm := mem_of_drop hd3
    obtain ⟨e, he, hes, het⟩ := mem_ins.1 hvm
    have hvn : v < k := by rw [← hes]; exact (hg.src e he).2
    have hvn2 : (v : Int) < k := by omega
    rw [hd3] at hI
    have hcnt := hI.cnt v hvn
    rw [List.count_cons_self] at hcnt
    have hnew := hI.step hvn (by rw [List.take_add_one, hw]; simp) ⟨e, he, hes, het⟩
    have hll2 := hI.ll
    have hlv2 := hI.lv
    have gl := nats_at (l := left) 0 (show v < left.length by omega)
    have gv := nats_at (l := lev) 0 (show v < lev.length by omega)
    have gw := nats_at (l := lev) 0 (show w < lev.length by omega)
    have hnw := nats_nth hw
    have hd2 : (d : Int) < q.length := by omega
    have hmx : max ((lev.getD v 0 : Nat) : Int) (((lev.getD w 0 : Nat) : Int) + 1) = ((max (lev.getD v 0) (lev.getD w 0 + 1) : Nat) : Int) := by omega
    have hsb : ((left.getD v 0 : Nat) : Int) - 1 = ((left.getD v 0 - 1 : Nat) : Int) := by omega
    have gl2 := nats_at (l := left.set v (left.getD v 0 - 1)) 0 (i := v) (by rw [List.length_set]; omega)
    rw [getD_set', if_pos ⟨rfl, by omega⟩] at gl2
    simp only [go_sem, Int.reduceEq, Int.reduceLT, Int.reduceLE, eq_self, Int.natCast_nonneg, Int.toNat_natCast, hj2, hj0, hn, hlt, nats_len]
    refine sem_drawM (ob := 2) (pf := []) (mf := []) (ms := []) mixed tabLV_ok (fun g _ _ _ _ _ h => by cases h) noMk [0, 1, 2, 3, 4, 5, 6, 7, 8, 9, 10, 11, 12, 13, 14, 15, 16] (by kernel_rfl) ?_
    simp only [go_sem, Int.reduceEq, Int.reduceLT, Int.reduceLE, eq_self, Int.natCast_nonneg, Int.toNat_natCast, chainM, opm, hvn, hvn2, hwn, hwn2, nats_len, hlv2, hll2, gv, gw, gl, hnw, hd2, hdl, hmx, hsb, nats_upd, List.length_set, gl2]
    have huw := hI.uw w rfl
    rw [List.length_take] at huw
    have hrl := rest_le l v
    have hlb : left.getD v 0 ≤ 30000 := by
      have h1 : rest l (q.take (d + 1)) v ≤ l.length := List.countP_le_length
      have h2 : r.length ≤ (ins l w).length := by have := congrArg List.length hd3; simp at this; omega
      have h3 := List.count_le_length (a := v) (l := r)
      omega
    refine ⟨inR_i64.2 (by omega), inR_i64.2 (by omega), ?_⟩
    have hdr := drop_cons hd3
    by_cases hz : left.getD v 0 - 1 = 0
    · have hz2 : ((left.getD v 0 - 1 : Nat) : Int) = 0 := by omega
      rw [if_pos hz] at hnew
      have hql2 : (q ++ [v]).length ≤ k := nodup_le hnew.nd hnew.qn
      rw [List.length_append, List.length_singleton] at hql2
      simp only [go_sem, Int.reduceEq, Int.reduceLT, Int.reduceLE, eq_self, Int.natCast_nonneg, Int.toNat_natCast, hz2, nats_take, nats_len, nats_snoc]
      refine ⟨by omega, by omega, inR_i64.2 (by omega), (left.set v (left.getD v 0 - 1), lev.set v (max (lev.getD v 0) (lev.getD w 0 + 1)), q ++ [v], j + 1), ⟨by simp only; omega, by simp; omega, by simp only; rw [List.getElem?_append_left hdl]; exact hw, by simp; omega, ?_⟩, by simp only; omega, ?_⟩
      · simp only [hdr]
        rw [List.take_append_of_le_length (by omega)]
        exact hnew
      · refine le_end (own := [_, _, _, _]) (ex := [_]) (Nat.zero_le _) ?_ ?_ ?_
        · simp only [go_sem, Int.natCast_add, Int.cast_ofNat_Int, List.length_append, List.length_cons, List.length_nil, Nat.zero_add]
        · simp only [go_sem]
        · simp only [go_sem, Obj.under, AV.unders, AV.under]
    · have hz2 : ¬ ((left.getD v 0 - 1 : Nat) : Int) = 0 := by omega
      rw [if_neg hz] at hnew
      simp only [go_sem, Int.reduceEq, Int.reduceLT, Int.reduceLE, eq_self, Int.natCast_nonneg, Int.toNat_natCast, hz2]
      refine ⟨inR_i64.2 (by omega), (left.set v (left.getD v 0 - 1), lev.set v (max (lev.getD v 0) (lev.getD w 0 + 1)), q, j + 1), ⟨by simp only; omega, hdl, hw, hql, by simp only [hdr]; exact hnew⟩, by simp only; omega, ?_⟩
      exact le_slots' (by simp only [go_sem, Int.natCast_add, Int.cast_ofNat_Int])
end Go.AM

namespace Go.AM
open Go Go.Proofs

def acyc (E : List (Nat × Nat)) : Prop := ∀ k v, ¬ Wk E (k + 1) v v
theorem wk_short {E : List (Nat × Nat)} {n : Nat} (hE : ∀ p ∈ E, p.2 < n) (hA : acyc E) : ∀ {k a v : Nat}, a < n → Wk E k a v → k < n := by
  have key : ∀ (k a v : Nat), a < n → Wk E k a v → ∃ L : List Nat, L.length = k + 1 ∧ L.Nodup ∧ v < n ∧ ∀ x ∈ L, x < n ∧ ∃ m, Wk E m x v := by
    intro k
    induction k with
    | zero => intro a v ha h; cases h; exact ⟨[a], rfl, by simp, ha, fun x hx => by simp at hx; subst hx; exact ⟨ha, 0, rfl⟩⟩
    | succ k ih =>
      rintro a v ha ⟨u, hu, hw⟩
      obtain ⟨L, h1, h2, h3, h4⟩ := ih a u ha hw
      refine ⟨v :: L, by simp [h1], List.nodup_cons.2 ⟨fun hm => ?_, h2⟩, hE _ hu, fun x hx => ?_⟩
      · obtain ⟨_, m, hm⟩ := h4 v hm
        exact hA m v ⟨u, hu, hm⟩
      · rcases List.mem_cons.1 hx with rfl | hx
        · exact ⟨hE _ hu, 0, rfl⟩
        · obtain ⟨g1, m, g2⟩ := h4 x hx
          exact ⟨g1, m + 1, u, hu, g2⟩
  intro k a v ha h
  obtain ⟨L, h1, h2, _, h4⟩ := key k a v ha h
  have := nodup_le h2 (fun x hx => (h4 x hx).1)
  omega
theorem top_ex (P : Nat → Prop) : ∀ (n : Nat), P 0 → ∃ m, P m ∧ (m = 0 ∨ m < n) ∧ ∀ k, k < n → P k → k ≤ m
  | 0, h => ⟨0, h, .inl rfl, fun k hk => by omega⟩
  | n + 1, h => by
    by_cases hn : P n
    · exact ⟨n, hn, .inr (by omega), fun k hk _ => by omega⟩
    · obtain ⟨m, h1, h2, h3⟩ := top_ex P n h
      refine ⟨m, h1, by omega, fun k hk hp => ?_⟩
      by_cases e : k = n
      · subst e; exact absurd hp hn
      · exact h3 k (by omega) hp
theorem isLev_of_acyc {n : Nat} {l : List PEdge} (hg : GOk n l) (hA : acyc (eF l)) : ∃ f, IsLev n l f := by
  let f : Nat → Nat := fun v => Classical.choose (top_ex (fun k => ∃ u, Wk (eF l) k v u) n ⟨v, rfl⟩)
  have hf : ∀ v, (∃ u, Wk (eF l) (f v) v u) ∧ ∀ k, k < n → (∃ u, Wk (eF l) k v u) → k ≤ f v := fun v => by
    have := Classical.choose_spec (top_ex (fun k => ∃ u, Wk (eF l) k v u) n ⟨v, rfl⟩)
    exact ⟨this.1, this.2.2⟩
  have hdown : ∀ e ∈ l, f e.t < f e.s := fun e he => by
    obtain ⟨u, hu⟩ := (hf e.t).1
    have hw := Wk_cons (List.mem_map.2 ⟨e, he, rfl⟩ : (e.s, e.t) ∈ eF l) hu
    have := (hf e.s).2 _ (wk_short hg.eFlt hA (hg.src e he).2 hw) ⟨u, hw⟩
    omega
  refine ⟨f, hdown, fun v hv => ?_⟩
  by_cases h0 : f v = 0
  · exact .inl h0
  · obtain ⟨u, hu⟩ := (hf v).1
    obtain ⟨m, hm⟩ : ∃ m, f v = m + 1 := ⟨f v - 1, by omega⟩
    rw [hm] at hu
    obtain ⟨b, hb, hw⟩ := Wk_first hu
    obtain ⟨e, he, h2⟩ := List.mem_map.1 hb
    cases h2
    refine .inr ⟨e, he, rfl, ?_⟩
    have h1 := hdown e he
    have h3 := (hf e.t).2 m (by have := wk_short hg.eFlt hA (hg.dst e he).2 hw; omega) ⟨u, hw⟩
    omega
theorem pot_acyc {l : List PEdge} {f : Nat → Nat} (hf : ∀ e ∈ l, f e.t < f e.s) : acyc (eF l) := by
  have key : ∀ k a v, Wk (eF l) k a v → f v + k ≤ f a := by
    intro k
    induction k with
    | zero => intro a v h; cases h; omega
    | succ k ih =>
      rintro a v ⟨u, hu, hw⟩
      obtain ⟨e, he, h2⟩ := List.mem_map.1 hu
      cases h2
      have := ih a e.s hw
      have := hf e he
      omega
  intro k v h
  have := key _ _ _ h
  omega
theorem acyc_cyc {l : List PEdge} : acyc (eF l) ↔ cycL l l.length = none := by
  have hc := cycL_is (l := l) l.length
  constructor
  · intro hA
    cases h : cycL l l.length with
    | none => rfl
    | some c =>
      rw [h] at hc
      obtain ⟨i, h1, h2, _⟩ := hc
      exact absurd (Wk_cons (eF_get h1) (sd_wk h2)) (hA _ _)
  · intro h k v hw
    rw [h] at hc
    simp only at hc
    obtain ⟨b, hb, hw⟩ := Wk_first hw
    obtain ⟨i, h1, h2, h3⟩ := eF_ex hb
    have := hc i h1
    unfold back at this
    rw [h2, h3] at this
    exact (sd_neg this).2 k hw
theorem lev_iff {n : Nat} {l : List PEdge} (hg : GOk n l) : (levV n l).isSome = (cycL l l.length).isNone := by
  have hEt : ∀ e ∈ l, e.t < n := fun e he => (hg.dst e he).2
  by_cases hA : acyc (eF l)
  · obtain ⟨f, hf⟩ := isLev_of_acyc hg hA
    rw [levV_some hEt hf, acyc_cyc.1 hA]; rfl
  · have h1 : levV n l = none := levV_none fun ⟨f, hf⟩ => hA (pot_acyc hf)
    have h2 : cycL l l.length ≠ none := fun h => hA (acyc_cyc.2 h)
    rw [h1]
    cases h : cycL l l.length with
    | none => exact absurd h h2
    | some c => rfl
theorem cycV_len {l : List PEdge} : (cycV l).length = 0 ↔ cycL l l.length = none := by
  unfold cycV
  have hc := cycL_is (l := l) l.length
  cases h : cycL l l.length with
  | none => simp
  | some c =>
    rw [h] at hc
    obtain ⟨i, h1, h2, h3, _⟩ := hc
    have := cycOf_len h2
    simp only [Option.getD_some, reduceCtorEq, iff_false]
    rw [h3]; omega
end Go.AM

namespace Go.AM
open Go Go.Proofs

structure LR (n : Nat) (l : List PEdge) (out : List Nat) (r : Nat) (P : List PEdge) (more : Bool) : Prop where
  len : out.length = n
  walk : ∀ v, v < n → ∃ u, Wk (eF l) (out.getD v 0) v u
  comp : ∀ v j u, v < n → j ≤ r → Wk (eF l) j v u → j ≤ out.getD v 0
  done : ∀ e ∈ P, ∀ j u, j ≤ r → Wk (eF l) j e.t u → j + 1 ≤ out.getD e.s 0
  flat : more = false → ∀ e ∈ P, out.getD e.t 0 < out.getD e.s 0
  cyc : more = true → n ≤ r → ¬ acyc (eF l)
  ub : ∀ v, v < n → out.getD v 0 ≤ r * l.length + P.length
theorem LR.init {n : Nat} {l : List PEdge} : LR n l (List.replicate n 0) 0 [] false where
  len := by simp
  walk v hv := ⟨v, by simp [List.getD_eq_getElem?_getD, List.getElem?_replicate, hv]; rfl⟩
  comp v j u hv hj h := by omega
  done e he := by cases he
  flat _ e he := by cases he
  cyc h := by cases h
  ub v hv := by simp [List.getD_eq_getElem?_getD, List.getElem?_replicate, hv]
section
variable {n r : Nat} {l P : List PEdge} {out : List Nat} {more : Bool} {e : PEdge}
theorem LR.keep (h : LR n l out r P more) (hg : GOk n l) (he : e ∈ l) (hlt : ¬ out.getD e.s 0 < out.getD e.t 0 + 1) : LR n l out r (P ++ [e]) more := by
  refine { h with done := fun x hx j u hj hw => ?_, flat := fun hm x hx => ?_, ub := fun v hv => ?_ }
  · rcases List.mem_append.1 hx with hx | hx
    · exact h.done x hx j u hj hw
    · simp at hx; subst hx
      have := h.comp x.t j u (hg.dst x he).2 hj hw
      omega
  · rcases List.mem_append.1 hx with hx | hx
    · exact h.flat hm x hx
    · simp at hx; subst hx; omega
  · have := h.ub v hv; rw [List.length_append]; omega
theorem LR.lift (h : LR n l out r P more) (hg : GOk n l) (he : e ∈ l) (hlt : out.getD e.s 0 < out.getD e.t 0 + 1) : LR n l (out.set e.s (out.getD e.t 0 + 1)) r (P ++ [e]) true := by
  have hs := (hg.src e he).2
  have ht := (hg.dst e he).2
  have hgv : ∀ v, (out.set e.s (out.getD e.t 0 + 1)).getD v 0 = if e.s = v then out.getD e.t 0 + 1 else out.getD v 0 := fun v => by
    rw [getD_set']
    by_cases h2 : e.s = v
    · rw [if_pos ⟨h2, by rw [h.len]; exact hs⟩, if_pos h2]
    · rw [if_neg (fun hh => h2 hh.1), if_neg h2]
  have hup : ∀ v, out.getD v 0 ≤ (out.set e.s (out.getD e.t 0 + 1)).getD v 0 := fun v => by
    rw [hgv]; split
    · rename_i h2; subst h2; omega
    · omega
  have hmem : (e.s, e.t) ∈ eF l := List.mem_map.2 ⟨e, he, rfl⟩
  refine ⟨by simp [h.len], fun v hv => ?_, fun v j u hv hj hw => Nat.le_trans (h.comp v j u hv hj hw) (hup v), fun x hx j u hj hw => ?_, fun hm => (by cases hm), fun _ hr hA => ?_, fun v hv => ?_⟩
  · rw [hgv]
    split
    · rename_i h2; subst h2
      obtain ⟨u, hu⟩ := h.walk e.t ht
      exact ⟨u, Wk_cons hmem hu⟩
    · exact h.walk v hv
  · rcases List.mem_append.1 hx with hx | hx
    · exact Nat.le_trans (h.done x hx j u hj hw) (hup x.s)
    · simp at hx; subst hx
      rw [hgv, if_pos rfl]
      have := h.comp x.t j u ht hj hw
      omega
  · obtain ⟨u, hu⟩ := h.walk e.t ht
    have hw := Wk_cons hmem hu
    have h1 := wk_short hg.eFlt hA hs hw
    have := h.comp e.s _ u hs (by omega) hw
    omega
  · rw [hgv]
    have h1 := h.ub e.t ht
    have h2 := h.ub v hv
    rw [List.length_append, List.length_singleton]
    split <;> omega
theorem LR.next (h : LR n l out r l more) (hE : ∀ e ∈ l, e.s < n) : LR n l out (r + 1) [] false where
  len := h.len
  walk := h.walk
  comp v j u hv hj hw := by
    cases j with
    | zero => omega
    | succ j =>
      obtain ⟨b, hb, hw⟩ := Wk_first hw
      obtain ⟨e, he, h2⟩ := List.mem_map.1 hb
      cases h2
      exact h.done e he j u (by omega) hw
  done e he := by cases he
  flat _ e he := by cases he
  cyc h := by cases h
  ub v hv := by have := h.ub v hv; rw [Nat.succ_mul, List.length_nil]; omega
theorem LR.stop (h : LR n l out r l false) (hg : GOk n l) : levV n l = some out := by
  have hd := h.flat rfl
  have hA := pot_acyc (f := fun v => out.getD v 0) hd
  have pot : ∀ k a v, Wk (eF l) k a v → k ≤ out.getD a 0 := by
    have key : ∀ k a v, Wk (eF l) k a v → out.getD v 0 + k ≤ out.getD a 0 := by
      intro k
      induction k with
      | zero => intro a v h; cases h; omega
      | succ k ih =>
        rintro a v ⟨u, hu, hw⟩
        obtain ⟨e, he, h2⟩ := List.mem_map.1 hu
        cases h2
        have := ih a e.s hw
        have := hd e he
        omega
    intro k a v hw
    have := key k a v hw
    omega
  have hl : IsLev n l fun v => out.getD v 0 := ⟨hd, fun v hv => by
    by_cases h0 : out.getD v 0 = 0
    · exact .inl h0
    · obtain ⟨u, hu⟩ := h.walk v hv
      obtain ⟨m, hm⟩ : ∃ m, out.getD v 0 = m + 1 := ⟨out.getD v 0 - 1, by omega⟩
      rw [hm] at hu
      obtain ⟨b, hb, hw⟩ := Wk_first hu
      obtain ⟨e, he, h2⟩ := List.mem_map.1 hb
      cases h2
      have h3 := pot m e.t u hw
      have h4 := hd e he
      exact .inr ⟨e, he, rfl, by omega⟩⟩
  rw [levV_some (fun e he => (hg.dst e he).2) hl]
  congr 1
  refine List.ext_getElem (by simp [h.len]) fun i h1 h2 => ?_
  simp [List.getD_eq_getElem?_getD, List.getElem?_eq_getElem h2]
theorem levV_cyc {n : Nat} {l : List PEdge} (h : ¬ acyc (eF l)) : levV n l = none := levV_none fun ⟨f, hf⟩ => h (pot_acyc hf)
end
end Go.AM

set_option maxRecDepth 8000
set_option maxHeartbeats 2000000
namespace Go.AM
open Go Go.Proofs

abbrev tabRV : List (Nat × Contract) := [(58, dataC gchkR)]
theorem tabRV_ok : OkG Try.prog (tbl tabRV) := okG_cons rgcheck_ok okG_nil
theorem rlevels_ok : OkF Try.prog 34 (dataC levelsR) := by
  refine okF_data Try.func34 rfl (by decide) ?_
  rintro ds v ⟨n, l, rfl, hll, rfl⟩
  refine sem_of_awp (Γ := tbl tabRV) tabRV_ok _ _ _ ?_
  simp only [go_sem, Int.reduceEq, Int.reduceLT, Int.reduceLE, eq_self, Int.natCast_nonneg, Int.toNat_natCast, Try.ntmps34]
  refine call_data gchkR (by simp) [.int .i64 n, .sl (some 4) (edgesD l)] _ rfl ⟨n, l, rfl, hll, rfl⟩ (.inl rfl) ?_
  by_cases h : gE n l = 0
  case neg =>
    unfold levelsVv
    rw [if_pos h]
    simp only [go_sem, Int.reduceEq, Int.reduceLT, Int.reduceLE, eq_self, Int.natCast_nonneg, Int.toNat_natCast, h]
    refine post_res (.inl rfl) [.tmp 4, .tmp 5] rfl ?_
    simp only [go_sem]
    exact le_fin (by simp only [go_sem]) (by simp only [go_sem])
  unfold levelsVv
  rw [if_neg (by rw [h]; decide)]
  obtain ⟨n, rfl, hg⟩ := gOk_of h hll
  have hn4 := hg.n4
  have hEs : ∀ e ∈ l, e.s < n := fun e he => (hg.src e he).2
  rw [Int.toNat_natCast]
  simp only [go_sem, Int.reduceEq, Int.reduceLT, Int.reduceLE, eq_self, Int.natCast_nonneg, Int.toNat_natCast, h]
  refine sem_le (le_addnil 7 none rfl (Nat.zero_le _)) ?_
  simp only [go_sem, Int.reduceEq, Int.reduceLT, Int.reduceLE, eq_self, Int.natCast_nonneg, Int.toNat_natCast]
  refine sem_loop (fun k : Nat => ⟨slotsOf 74 [(0, .dat (.int .i64 n)), (1, .dat (.sl (some 4) (edgesD l))), (7, .sl 0 0 k), (8, .dat (.int .i64 k))], [.row none (List.replicate k (.int .i64 0))], 0, []⟩)
    (fun k => k ≤ n) (fun k => n - k) 0 (Nat.zero_le _) ?_ ?_
  · exact le_slots' (by simp only [go_sem, Int.natCast_zero])
  rintro k hk
  refine sem_of_awp (Γ := tbl tabRV) tabRV_ok _ _ _ ?_
  by_cases hkn : k = n
  case neg =>
    have hk2 : (k : Int) < n := by omega
    have e : List.replicate k (D.int .i64 0) ++ [D.int .i64 0] = List.replicate (k + 1) (D.int .i64 0) := List.replicate_succ'.symm
    simp only [go_sem, Int.reduceEq, Int.reduceLT, Int.reduceLE, eq_self, Int.natCast_nonneg, Int.toNat_natCast, hk2, List.length_replicate, List.take_replicate, Nat.min_self, e]
    refine ⟨by omega, by omega, inR_i64.2 (by omega), k + 1, by omega, by omega, ?_⟩
    refine le_end (own := [_]) (ex := [_]) (Nat.zero_le _) ?_ ?_ ?_
    · simp only [go_sem, Int.natCast_add, Int.cast_ofNat_Int]
    · simp only [go_sem]
    · simp only [go_sem, Obj.under, AV.unders, AV.under]
  subst hkn
  have hk2 : ¬ (k : Int) < k := by omega
  have e0 : List.replicate k (D.int .i64 0) = natsD (List.replicate k 0) := by rw [nats_rep]; rfl
  rw [e0]
  simp only [go_sem, Int.reduceEq, Int.reduceLT, Int.reduceLE, eq_self, Int.natCast_nonneg, Int.toNat_natCast, hk2]
  refine sem_loop (fun p : Nat × List Nat => ⟨slotsOf 74 [(0, .dat (.int .i64 k)), (1, .dat (.sl (some 4) (edgesD l))), (7, .sl 0 0 k), (9, .dat (.int .i64 p.1))], [.row none (natsD p.2)], 0, []⟩)
    (fun p => (p.1 ≤ k ∧ LR k l p.2 p.1 [] false) ∨ (p.1 = k + 1 ∧ ¬ acyc (eF l))) (fun p => k + 1 - p.1) (0, List.replicate k 0) (.inl ⟨Nat.zero_le _, LR.init⟩) ?_ ?_
  · exact le_slots' (by simp only [go_sem, Int.natCast_zero])
  rintro ⟨r, out⟩ hor
  simp only at hor
  refine sem_of_awp (Γ := tbl tabRV) tabRV_ok _ _ _ ?_
  rcases hor with ⟨hr, hI⟩ | ⟨hr, hA⟩
  case inr =>
    have hr2 : ¬ (r : Int) ≤ k := by omega
    rw [levV_cyc hA]
    simp only [go_sem, Int.reduceEq, Int.reduceLT, Int.reduceLE, eq_self, Int.natCast_nonneg, Int.toNat_natCast, hr2]
    refine post_res (.inl rfl) [.tmp 4, .tmp 5] rfl ?_
    simp only [go_sem]
    exact le_fin (by simp only [go_sem]) (by simp only [go_sem])
  have hr2 : (r : Int) ≤ k := by omega
  simp only [go_sem, Int.reduceEq, Int.reduceLT, Int.reduceLE, eq_self, Int.natCast_nonneg, Int.toNat_natCast, hr2]
  refine sem_loop (fun p : Nat × List Nat × Bool => ⟨slotsOf 74 [(0, .dat (.int .i64 k)), (1, .dat (.sl (some 4) (edgesD l))), (7, .sl 0 0 k), (9, .dat (.int .i64 r)), (10, .dat (.bool p.2.2)), (11, .dat (.int .i64 p.1))], [.row none (natsD p.2.1)], 0, []⟩)
    (fun p => p.1 ≤ l.length ∧ LR k l p.2.1 r (l.take p.1) p.2.2) (fun p => l.length - p.1) (0, out, false) ⟨Nat.zero_le _, hI⟩ ?_ ?_
  · exact le_slots' (by simp only [go_sem, Int.natCast_zero])
  clear hI out
  rintro ⟨i, out, more⟩ ⟨hi, hI⟩
  simp only at hi hI
  refine sem_of_awp (Γ := tbl tabRV) tabRV_ok _ _ _ ?_
  cases hd : l.drop i with
  | nil =>
    have := end_of_drop hd hi
    have hi2 : ¬ (i : Int) < l.length := by omega
    rw [this, List.take_length] at hI
    have hol := hI.len
    cases more with
    | false =>
      rw [hI.stop hg]
      simp only [go_sem, Int.reduceEq, Int.reduceLT, Int.reduceLE, eq_self, Int.natCast_nonneg, Int.toNat_natCast, hi2, edges_len]
      refine post_res (.inl rfl) [.tmp 4, .tmp 5] rfl ?_
      simp only [go_sem]
      refine Le.trans (le_freeze 0 (ag := none) rfl (Nat.zero_le _)) ?_
      have e1 : List.take k (natsD out) = natsD out := List.take_of_length_le (by simp [hol])
      simp only [go_sem, e1, nats_len, hol, Nat.le_refl]
      exact le_fin (by simp only [go_sem]) (by simp only [go_sem])
    | true =>
      simp only [go_sem, Int.reduceEq, Int.reduceLT, Int.reduceLE, eq_self, Int.natCast_nonneg, Int.toNat_natCast, hi2, edges_len]
      refine ⟨inR_i64.2 (by omega), (r + 1, out), ?_, by simp only; omega, ?_⟩
      · by_cases hrk : r = k
        · exact .inr ⟨by simp only; omega, hI.cyc rfl (by omega)⟩
        · exact .inl ⟨by simp only; omega, hI.next hEs⟩
      · exact le_slots' (by simp only [go_sem, Int.natCast_add, Int.cast_ofNat_Int])
  | cons e q =>
    have hlt := lt_of_drop hd
    have hi2 : (i : Int) < l.length := by omega
    have hi0 : (0 : Int) ≤ i := Int.natCast_nonneg i
    have hn := nth_of_drop (f := edgeD) hd
    have hem := mem_of_drop hd
    obtain ⟨hs1, hs2⟩ := hg.src e hem
    obtain ⟨ht1, ht2⟩ := hg.dst e hem
    have hsn : (e.s : Int) < k := by omega
    have htn : (e.t : Int) < k := by omega
    have hol := hI.len
    have gs := nats_at (l := out) 0 (show e.s < out.length by omega)
    have gt := nats_at (l := out) 0 (show e.t < out.length by omega)
    have hub := hI.ub e.t ht2
    have hmul : r * l.length ≤ 4096 * 10000 := Nat.mul_le_mul (by omega) hll
    have htl : (l.take i).length ≤ 10000 := by rw [List.length_take]; omega
    have hadd : ((out.getD e.t 0 : Nat) : Int) + 1 = ((out.getD e.t 0 + 1 : Nat) : Int) := by omega
    simp only [go_sem, Int.reduceEq, Int.reduceLT, Int.reduceLE, eq_self, Int.natCast_nonneg, Int.toNat_natCast, hi2, edges_len]
    refine sem_draw (pf := []) (Γ := tbl tabRV) mixed tabRV_ok (fun g _ _ _ _ _ h => by cases h) [0, 1, 2, 3, 4, 5, 6, 7, 8, 9, 10, 11, 12, 13, 14, 15, 16, 17] (by kernel_rfl) ?_
    by_cases hlt2 : out.getD e.s 0 < out.getD e.t 0 + 1
    · have hlt3 : ((out.getD e.s 0 : Nat) : Int) < ((out.getD e.t 0 + 1 : Nat) : Int) := by omega
      have hL := hI.lift hg hem hlt2
      rw [← take_of_drop hd] at hL
      simp only [go_sem, Int.reduceEq, Int.reduceLT, Int.reduceLE, eq_self, Int.natCast_nonneg, Int.toNat_natCast, chainI, hi2, hi0, edges_len, hn, hlt, edgeD, hs1, ht1, hsn, hs2, htn, ht2, nats_len, hol, gs, gt, hadd, hlt3]
      refine ⟨inR_i64.2 (by omega), ?_⟩
      refine sem_drawM (ob := 0) (pf := []) (mf := []) (ms := []) mixed tabRV_ok (fun g _ _ _ _ _ h => by cases h) noMk [0, 1, 2, 3, 4, 5, 6, 7, 8, 9, 10, 11, 12, 13, 14, 15, 16] (by kernel_rfl) ?_
      simp only [go_sem, Int.reduceEq, Int.reduceLT, Int.reduceLE, eq_self, Int.natCast_nonneg, Int.toNat_natCast, chainM, opm, hi2, hi0, edges_len, hn, hlt, edgeD, hs1, ht1, hsn, hs2, htn, ht2, nats_len, hol, gs, gt, hadd, nats_upd]
      refine ⟨inR_i64.2 (by omega), inR_i64.2 (by omega), (i + 1, _, true), ⟨by simp only; omega, hL⟩, by simp only; omega, ?_⟩
      exact le_slots' (by simp only [go_sem, Int.natCast_add, Int.cast_ofNat_Int])
    · have hlt3 : ¬ ((out.getD e.s 0 : Nat) : Int) < ((out.getD e.t 0 + 1 : Nat) : Int) := by omega
      have hL := hI.keep hg hem hlt2
      rw [← take_of_drop hd] at hL
      simp only [go_sem, Int.reduceEq, Int.reduceLT, Int.reduceLE, eq_self, Int.natCast_nonneg, Int.toNat_natCast, chainI, hi2, hi0, edges_len, hn, hlt, edgeD, hs1, ht1, hsn, hs2, htn, ht2, nats_len, hol, gs, gt, hadd, hlt3]
      refine ⟨inR_i64.2 (by omega), inR_i64.2 (by omega), (i + 1, out, more), ⟨by simp only; omega, hL⟩, by simp only; omega, ?_⟩
      exact le_slots' (by simp only [go_sem, Int.natCast_add, Int.cast_ofNat_Int])
end Go.AM

set_option maxRecDepth 8000
set_option maxHeartbeats 2000000
namespace Go.AM
open Go Go.Proofs

abbrev sysE (s : PSys) : List PEdge := edC s 0 s.classes []
def nRes (s : PSys) : Nat := s.pools.length + s.locks.length + s.classes.length
theorem sysE_ok {s : PSys} (h : checkE s = 0) : GOk (nRes s) (sysE s) := by
  have hg := good_of h
  have hlen := edC_len s 12 0 s.classes [] (fun c hc => (hg.cls c hc).l12)
  have h1 := hg.np
  have h2 := hg.nl
  have h3 := hg.nc
  have hl2 : s.classes.length * (12 * (s.pools.length + s.locks.length + 1)) ≤ 6 * (12 * 11) := Nat.mul_le_mul h3 (by omega)
  have key : ∀ e ∈ sysE s, (∃ r : Nat, e.src = r ∧ r < nRes s) ∧ ∃ r : Nat, e.dst = r ∧ r < nRes s := by
    intro e he
    obtain ⟨i, k, c, x, h1, h2, h3, h4, h5, h6, h7⟩ := (eFacts s).mem e he
    have hi := (List.getElem?_eq_some_iff.1 h1).1
    obtain ⟨r, hr, hr2, _⟩ := holdL_range hi h7
    refine ⟨⟨r, hr, hr2⟩, ?_⟩
    have hp := (hg.cls c (List.mem_of_getElem? h1)).pre x (List.mem_of_getElem? h2)
    obtain ⟨_, ⟨o1, o2⟩, _⟩ := preE_0 hp
    rw [h6]
    unfold mostE at o2
    unfold nRes targetN
    by_cases k3 : x.kind = 3
    · rw [if_pos (.inl k3)] at o2
      rw [if_pos k3]
      exact ⟨s.pools.length + x.on.toNat, by omega, by omega⟩
    · rw [if_neg k3]
      by_cases k5 : x.kind = 5
      · rw [if_neg (by omega), if_pos k5] at o2
        rw [if_pos k5]
        exact ⟨s.pools.length + s.locks.length + x.on.toNat, by omega, by omega⟩
      · rw [if_neg k5]
        have k1 : x.kind = 1 := Classical.byContradiction fun hk => by
          unfold waitB at h3
          rw [if_neg (by omega), if_neg hk] at h3
          cases h3
        rw [if_neg (by omega), if_neg k5] at o2
        exact ⟨x.on.toNat, by omega, by omega⟩
  refine ⟨by unfold nRes; omega, by simp only [List.length_nil] at hlen; show (edC s 0 s.classes []).length ≤ 10000; omega, fun e he => ?_, fun e he => ?_⟩
  · obtain ⟨⟨r, hr, hr2⟩, _⟩ := key e he
    unfold PEdge.s; rw [hr, Int.toNat_natCast]; exact ⟨rfl, hr2⟩
  · obtain ⟨_, r, hr, hr2⟩ := key e he
    unfold PEdge.t; rw [hr, Int.toNat_natCast]; exact ⟨rfl, hr2⟩
theorem resN_ok {s : PSys} (h : checkE s = 0) : resN s = (nRes s : Nat) := by unfold resN nRes; rw [if_neg (by rw [h]; decide)]; omega
theorem edgesV_ok {s : PSys} (h : checkE s = 0) : edgesV s = .tup [.dat (.sl (some 4) (edgesD (sysE s))), .dat (.int .i64 0)] := by unfold edgesV; rw [if_neg (by rw [h]; decide)]
theorem edgesV_err {s : PSys} (h : checkE s ≠ 0) : edgesV s = .tup [.dat (.sl none []), .dat (.int .i64 (checkE s))] := by unfold edgesV; rw [if_pos h]

def certD (L : List Nat) : D := .agg [.sl none (natsD L)]
noncomputable def makeO (s : PSys) : List Nat × Int := if checkE s ≠ 0 then ([], checkE s) else if (impO s).isSome = true then ([], 9) else match levV (nRes s) (sysE s) with
  | some L => (L, 0)
  | none => ([], 20)
noncomputable def makeV (s : PSys) : AV := .tup [.dat (certD (makeO s).1), .dat (.int .i64 (makeO s).2)]
def makeR (ds : List D) (v : AV) : Prop := ∃ s : PSys, ds = [sysD s] ∧ s.fit ∧ v = makeV s
abbrev tabMA : List (Nat × Contract) := [(24, dataC edgesR), (14, dataC impVR), (26, dataC resR), (31, dataC levelsR)]
theorem tabMA_ok : OkG Try.prog (tbl tabMA) := okG_cons edges_ok (okG_cons Impossible_ok (okG_cons resources_ok (okG_cons levels_ok okG_nil)))
theorem levelsVv_ok {s : PSys} (h : checkE s = 0) : levelsVv (nRes s : Nat) (sysE s) = match levV (nRes s) (sysE s) with
  | some L => .tup [.dat (.sl none (natsD L)), .dat (.int .i64 0)]
  | none => .tup [.dat (.sl none []), .dat (.int .i64 10)] := by
  unfold levelsVv; rw [if_neg (by rw [gE_ok (sysE_ok h)]; decide), Int.toNat_natCast]
  cases levV (nRes s) (sysE s) <;> rfl
theorem make_ok : OkF Try.prog 12 (dataC makeR) := by
  refine okF_data Try.func12 rfl (by decide) ?_
  rintro ds v ⟨s, rfl, hf, rfl⟩
  refine sem_of_awp (Γ := tbl tabMA) tabMA_ok _ _ _ ?_
  simp only [go_sem, Int.reduceEq, Int.reduceLT, Int.reduceLE, eq_self, Int.natCast_nonneg, Int.toNat_natCast, Try.ntmps12, sysD]
  refine call_data edgesR (by simp) [sysD s] _ rfl ⟨s, rfl, hf, rfl⟩ (.inl rfl) ?_
  unfold makeV makeO
  by_cases h : checkE s = 0
  case neg =>
    rw [edgesV_err h, if_pos h]
    simp only [go_sem, Int.reduceEq, Int.reduceLT, Int.reduceLE, eq_self, Int.natCast_nonneg, Int.toNat_natCast, h]
    refine post_res (.inl rfl) [.cell 2 31, .tmp 3] rfl ?_
    simp only [go_sem, certD]
    exact le_fin (by simp only [go_sem]) (by simp only [go_sem])
  rw [edgesV_ok h, if_neg (by rw [h]; decide)]
  have hgk := sysE_ok h
  have hgl := hgk.len
  simp only [go_sem, Int.reduceEq, Int.reduceLT, Int.reduceLE, eq_self, Int.natCast_nonneg, Int.toNat_natCast, h]
  refine call_data impVR (by simp) [sysD s] _ rfl ⟨s, rfl, hf, rfl⟩ (.inl rfl) ?_
  cases hi : impO s with
  | some q =>
    obtain ⟨i, k⟩ := q
    simp only [go_sem, Int.reduceEq, Int.reduceLT, Int.reduceLE, eq_self, Int.natCast_nonneg, Int.toNat_natCast, fstV]
    refine post_res (.inl rfl) [.cell 2 31, .tmp 3] rfl ?_
    simp only [go_sem, certD]
    exact le_fin (by simp only [go_sem]) (by simp only [go_sem])
  | none =>
  simp only [go_sem, Int.reduceEq, Int.reduceLT, Int.reduceLE, eq_self, Int.natCast_nonneg, Int.toNat_natCast, fstV]
  refine call_data resR (by simp) [sysD s] _ rfl ⟨s, rfl, hf, rfl⟩ (.inl rfl) ?_
  rw [resN_ok h]
  simp only [go_sem, Int.reduceEq, Int.reduceLT, Int.reduceLE, eq_self, Int.natCast_nonneg, Int.toNat_natCast]
  refine call_data levelsR (by simp) [.int .i64 (nRes s : Nat), .sl (some 4) (edgesD (sysE s))] _ rfl ⟨_, _, rfl, by omega, rfl⟩ (.inl rfl) ?_
  rw [levelsVv_ok h]
  cases hl : levV (nRes s) (sysE s) with
  | none =>
    simp only [go_sem, Int.reduceEq, Int.reduceLT, Int.reduceLE, eq_self, Int.natCast_nonneg, Int.toNat_natCast]
    refine post_res (.inl rfl) [.cell 2 31, .tmp 3] rfl ?_
    simp only [go_sem, certD]
    exact le_fin (by simp only [go_sem]) (by simp only [go_sem])
  | some L =>
    simp only [go_sem, Int.reduceEq, Int.reduceLT, Int.reduceLE, eq_self, Int.natCast_nonneg, Int.toNat_natCast]
    refine post_res (.inl rfl) [.cell 2 31, .tmp 3] rfl ?_
    simp only [go_sem, certD]
    exact le_fin (by simp only [go_sem]) (by simp only [go_sem])
abbrev tabMR : List (Nat × Contract) := [(32, dataC checkR), (33, dataC edgesR), (15, dataC impVR), (35, dataC resR), (34, dataC levelsR)]
theorem tabMR_ok : OkG Try.prog (tbl tabMR) := okG_cons rcheck_ok (okG_cons redges_ok (okG_cons rImpossible_ok (okG_cons rresources_ok (okG_cons rlevels_ok okG_nil))))
theorem rmake_ok : OkF Try.prog 13 (dataC makeR) := by
  refine okF_data Try.func13 rfl (by decide) ?_
  rintro ds v ⟨s, rfl, hf, rfl⟩
  refine sem_of_awp (Γ := tbl tabMR) tabMR_ok _ _ _ ?_
  simp only [go_sem, Int.reduceEq, Int.reduceLT, Int.reduceLE, eq_self, Int.natCast_nonneg, Int.toNat_natCast, Try.ntmps13, sysD]
  refine call_data checkR (by simp) [sysD s] _ rfl ⟨s, rfl, hf, rfl⟩ (.inl rfl) ?_
  unfold makeV makeO
  by_cases h : checkE s = 0
  case neg =>
    rw [if_pos h]
    simp only [go_sem, Int.reduceEq, Int.reduceLT, Int.reduceLE, eq_self, Int.natCast_nonneg, Int.toNat_natCast, h]
    refine post_res (.inl rfl) [.cell 2 31, .tmp 3] rfl ?_
    simp only [go_sem, certD]
    exact le_fin (by simp only [go_sem]) (by simp only [go_sem])
  rw [if_neg (by rw [h]; decide)]
  have hgk := sysE_ok h
  have hgl := hgk.len
  simp only [go_sem, Int.reduceEq, Int.reduceLT, Int.reduceLE, eq_self, Int.natCast_nonneg, Int.toNat_natCast, h]
  refine call_data impVR (by simp) [sysD s] _ rfl ⟨s, rfl, hf, rfl⟩ (.inl rfl) ?_
  cases hi : impO s with
  | some q =>
    obtain ⟨i, k⟩ := q
    simp only [go_sem, Int.reduceEq, Int.reduceLT, Int.reduceLE, eq_self, Int.natCast_nonneg, Int.toNat_natCast, fstV]
    refine post_res (.inl rfl) [.cell 2 31, .tmp 3] rfl ?_
    simp only [go_sem, certD]
    exact le_fin (by simp only [go_sem]) (by simp only [go_sem])
  | none =>
  simp only [go_sem, Int.reduceEq, Int.reduceLT, Int.reduceLE, eq_self, Int.natCast_nonneg, Int.toNat_natCast, fstV]
  refine call_data edgesR (by simp) [sysD s] _ rfl ⟨s, rfl, hf, rfl⟩ (.inl rfl) ?_
  rw [edgesV_ok h]
  simp only [go_sem, Int.reduceEq, Int.reduceLT, Int.reduceLE, eq_self, Int.natCast_nonneg, Int.toNat_natCast]
  refine call_data resR (by simp) [sysD s] _ rfl ⟨s, rfl, hf, rfl⟩ (.inl rfl) ?_
  rw [resN_ok h]
  simp only [go_sem, Int.reduceEq, Int.reduceLT, Int.reduceLE, eq_self, Int.natCast_nonneg, Int.toNat_natCast]
  refine call_data levelsR (by simp) [.int .i64 (nRes s : Nat), .sl (some 4) (edgesD (sysE s))] _ rfl ⟨_, _, rfl, by omega, rfl⟩ (.inl rfl) ?_
  rw [levelsVv_ok h]
  cases hl : levV (nRes s) (sysE s) with
  | none =>
    simp only [go_sem, Int.reduceEq, Int.reduceLT, Int.reduceLE, eq_self, Int.natCast_nonneg, Int.toNat_natCast]
    refine post_res (.inl rfl) [.cell 2 31, .tmp 3] rfl ?_
    simp only [go_sem, certD]
    exact le_fin (by simp only [go_sem]) (by simp only [go_sem])
  | some L =>
    simp only [go_sem, Int.reduceEq, Int.reduceLT, Int.reduceLE, eq_self, Int.natCast_nonneg, Int.toNat_natCast]
    refine post_res (.inl rfl) [.cell 2 31, .tmp 3] rfl ?_
    simp only [go_sem, certD]
    exact le_fin (by simp only [go_sem]) (by simp only [go_sem])
end Go.AM

