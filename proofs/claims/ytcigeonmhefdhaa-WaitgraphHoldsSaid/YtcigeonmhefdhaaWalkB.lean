/- Own work over the model of the kit. -/
import Derived.Test.YtcigeonmhefdhaaWalkA
import Derived.Test.YtcigeonmhefdhaaLibK
set_option linter.unusedSimpArgs false
set_option linter.unusedVariables false
set_option maxRecDepth 8000
set_option maxHeartbeats 1000000
namespace Go.AM
open Go Go.Proofs

/- ### what a class holds before a step -/
def balU (s : PSys) (l : List PStep) : List Int := (List.range s.pools.length).map fun i => bal l (i : Nat) 0
def balB (s : PSys) (l : List PStep) : List Bool := (List.range s.locks.length).map fun i => decide (0 < bal l (i : Nat) 1)
theorem tr_hold {s : PSys} {l : List PStep} {h : Hold} (t : Tr s l h) : h.units = balU s l ∧ h.locks = balB s l := by
  obtain ⟨ul, ll, un, lo⟩ := t
  constructor
  · refine List.ext_getElem (by simp [balU, ul]) fun i h1 h2 => ?_
    have := un i (by omega)
    rw [List.getD_eq_getElem?_getD, List.getElem?_eq_getElem h1] at this
    simpa [balU] using this
  · refine List.ext_getElem (by simp [balB, ll]) fun i h1 h2 => ?_
    have := lo i (by omega)
    rw [List.getD_eq_getElem?_getD, List.getElem?_eq_getElem h1] at this
    simp only [Option.getD_some] at this
    simp only [balB, List.getElem_map, List.getElem_range]
    cases hb : h.locks[i] with
    | true => have := this.1.1 hb; rw [this]; rfl
    | false =>
      rcases this.2 with h0 | h0
      · rw [h0]; rfl
      · rw [this.1.2 h0] at hb; cases hb
def heldV (s : PSys) (c k : Int) : AV :=
  if checkE s ≠ 0 then .tup [.dat (.sl none []), .dat (.sl none []), .dat (.int .i64 (checkE s))] else
  if c < 0 ∨ (s.classes.length : Int) ≤ c ∨ k < 0 ∨ ((s.classes.getD c.toNat default).steps.length : Int) < k then .tup [.dat (.sl none []), .dat (.sl none []), .dat (.int .i64 2)] else
  .tup [.dat (.sl none (intsD (balU s ((s.classes.getD c.toNat default).steps.take k.toNat)))), .dat (.sl none (boolsD (balB s ((s.classes.getD c.toNat default).steps.take k.toNat)))), .dat (.int .i64 0)]
theorem heldV_1 {s : PSys} {c k : Int} (h : checkE s ≠ 0) : heldV s c k = .tup [.dat (.sl none []), .dat (.sl none []), .dat (.int .i64 (checkE s))] := by unfold heldV; rw [if_pos h]
theorem heldV_2 {s : PSys} {c k : Int} (h : checkE s = 0) (h2 : c < 0 ∨ (s.classes.length : Int) ≤ c ∨ k < 0 ∨ ((s.classes.getD c.toNat default).steps.length : Int) < k) : heldV s c k = .tup [.dat (.sl none []), .dat (.sl none []), .dat (.int .i64 2)] := by
  unfold heldV; rw [if_neg (by rw [h]; decide), if_pos h2]
theorem heldV_3 {s : PSys} {c k : Nat} (h : checkE s = 0) (hc : c < s.classes.length) (hk : k ≤ (s.classes.getD c default).steps.length) :
    heldV s c k = .tup [.dat (.sl none (intsD (balU s ((s.classes.getD c default).steps.take k)))), .dat (.sl none (boolsD (balB s ((s.classes.getD c default).steps.take k)))), .dat (.int .i64 0)] := by
  unfold heldV; rw [if_neg (by rw [h]; decide), if_neg (by rw [Int.toNat_natCast]; omega), Int.toNat_natCast, Int.toNat_natCast]
def heldR (ds : List D) (v : AV) : Prop := ∃ (s : PSys) (c k : Int), ds = [sysD s, .int .i64 c, .int .i64 k] ∧ s.fit ∧ v = heldV s c k

abbrev tabPH : List (Nat × Contract) := [(31, dataC checkR), (58, madeC startR), (59, normC (lentC hstepR))]
theorem tabPH_ok : OkG Try.prog (tbl tabPH) := okG_cons check_ok (okG_cons start_ok (okG_cons (okF_norm hstep_ok) okG_nil))
theorem held_ok : OkF Try.prog 32 (dataC heldR) := by
  refine okF_data Try.func32 rfl (by decide) ?_
  rintro ds v ⟨s, c, k, rfl, hf, rfl⟩
  refine sem_of_awp (Γ := tbl tabPH) tabPH_ok _ _ _ ?_
  generalize hv : heldV s c k = V
  have nilE : ∀ s own e, s.getD 6 .top = .nils → s.getD 7 .top = .nils → s.getD 8 .top = .dat (.int .i64 e) → post Try.prog Try.f32 (.tup [.dat (.sl none []), .dat (.sl none []), .dat (.int .i64 e)]) [] [] .ret ⟨s, own, 0, []⟩ := fun s own e h6 h7 h8 => by
    refine post_res (.inl rfl) [.tmp 6, .tmp 7, .tmp 8] rfl ?_
    simp only [go_sem, h6, h7, h8]
    exact le_fin (by simp only [go_sem]) (by simp only [go_sem])
  simp only [go_sem, Try.ntmps32, sysD]
  refine call_data checkR (by simp) [sysD s] _ rfl ⟨s, rfl, hf, rfl⟩ (.inl rfl) ?_
  by_cases h : checkE s = 0
  case neg =>
    simp only [go_sem, h]
    rw [← hv, heldV_1 h]
    exact nilE _ _ _ (by rfl) (by rfl) (by rfl)
  simp only [go_sem, h]
  by_cases h1 : c < 0
  · rw [← hv, heldV_2 h (.inl h1)]
    simp only [go_sem, h1]
    exact nilE _ _ _ (by rfl) (by rfl) (by rfl)
  by_cases h2 : (s.classes.length : Int) ≤ c
  · rw [← hv, heldV_2 h (.inr (.inl h2))]
    simp only [go_sem, h1, h2]
    exact nilE _ _ _ (by rfl) (by rfl) (by rfl)
  by_cases h3 : k < 0
  · rw [← hv, heldV_2 h (.inr (.inr (.inl h3)))]
    simp only [go_sem, h1, h2, h3]
    exact nilE _ _ _ (by rfl) (by rfl) (by rfl)
  obtain ⟨i, rfl⟩ : ∃ i : Nat, c = i := ⟨c.toNat, by omega⟩
  obtain ⟨j, rfl⟩ : ∃ j : Nat, k = j := ⟨k.toNat, by omega⟩
  have hi : i < s.classes.length := by omega
  have hi2 : (i : Int) < s.classes.length := by omega
  have hnc : D.nth (s.classes.map clsD) i = clsD (s.classes.getD i default) := D.nth_map hi
  have hcm : s.classes.getD i default ∈ s.classes := by rw [List.getD_eq_getElem?_getD, List.getElem?_eq_getElem hi]; exact List.getElem_mem hi
  have hcg := (good_of h).cls _ hcm
  have hv2 := fun h4 => heldV_2 (s := s) (c := i) (k := j) h (.inr (.inr (.inr h4)))
  have hv3 := heldV_3 (k := j) h hi
  rw [Int.toNat_natCast] at hv2
  generalize s.classes.getD i default = c at *
  simp only [go_sem, Int.reduceEq, Int.reduceLT, Int.reduceLE, eq_self, Int.natCast_nonneg, Int.toNat_natCast, h1, h2, h3, hi2, hi, hnc, clsD, stepsD]
  by_cases h4 : (c.steps.length : Int) < j
  · rw [← hv, hv2 h4]
    simp only [go_sem, Int.reduceEq, Int.reduceLT, Int.reduceLE, eq_self, Int.natCast_nonneg, Int.toNat_natCast, h4]
    exact nilE _ _ _ (by rfl) (by rfl) (by rfl)
  have hj : j ≤ c.steps.length := by omega
  have hj2 : (j : Int) ≤ c.steps.length := by omega
  have hV := hv3 hj
  rw [hV] at hv
  subst hv
  simp only [go_sem, Int.reduceEq, Int.reduceLT, Int.reduceLE, eq_self, Int.natCast_nonneg, Int.toNat_natCast, h4]
  refine call_made startR (by simp) _ _ _ rfl rfl ⟨s, rfl, hf.small, rfl, rfl⟩ ?_
  have htk : List.take j (c.steps.map stepD) = (c.steps.take j).map stepD := by simp [List.map_take]
  have hlt : (c.steps.take j).length = j := by simp; omega
  simp only [go_sem, Int.reduceEq, Int.reduceLT, Int.reduceLE, eq_self, Int.natCast_nonneg, Int.toNat_natCast, AV.shift, Obj.shift, AV.shifts, hi, hi2, hnc, clsD, stepsD, hj2, Int.sub_zero, List.length_map, htk, hlt]
  have hnp : (hold0 s).units.length = s.pools.length := by simp [hold0, zerosI]
  have hnl : (hold0 s).locks.length = s.locks.length := by simp [hold0, zerosB]
  have hsm := hf.small
  have hl12 := hcg.l12
  refine sem_loop (fun p : Nat × Hold => ⟨slotsOf 65 [(3, .ptr 0 0 0), (10, .ptr 3 0 0), (51, .dat (.sl (some 4) ((c.steps.take j).map stepD))), (52, .dat (.int .i64 j)), (53, .dat (.int .i64 p.1))],
      [sysO s, .row none (intsD p.2.units), .row none (boolsD p.2.locks), .box [.sl 1 0 p.2.units.length, .sl 2 0 p.2.locks.length]], 0, []⟩)
    (fun p => p.1 ≤ j ∧ Tr s (c.steps.take p.1) p.2 ∧ verd (runE s (c.steps.drop p.1) p.2) = 0 ∧ (∀ n ∈ p.2.units, -(1000 * (p.1 : Int)) ≤ n ∧ n ≤ 1000 * (p.1 : Int))) (fun p => j - p.1) (0, hold0 s) ⟨Nat.zero_le _, tr_nil _, hcg.run, by simp [hold0, zerosI]⟩ ?_ ?_
  · simp only [hnp, hnl]
    exact le_slots' (by simp only [go_sem, Int.natCast_zero])
  · rintro ⟨m, h⟩ ⟨hm, hT, hI, hbd⟩
    simp only at hm hT hI hbd
    refine sem_of_awp (Γ := tbl tabPH) tabPH_ok _ _ _ ?_
    have hu := hT.ul
    have hb := hT.ll
    by_cases hmj : m < j
    · have hmc : m < c.steps.length := by omega
      have hd : c.steps.drop m = c.steps[m] :: c.steps.drop (m + 1) := List.drop_eq_getElem_cons hmc
      have hk2 : (m : Int) < j := by omega
      have hk0 : (0 : Int) ≤ m := Int.natCast_nonneg m
      have hn : D.nth ((c.steps.take j).map stepD) m = stepD c.steps[m] := by
        have : (c.steps.take j).drop m = c.steps[m] :: (c.steps.take j).drop (m + 1) := by
          rw [List.drop_eq_getElem_cons (by rw [hlt]; exact hmj)]; simp
        exact nth_of_drop (f := stepD) this
      have hx0 : stepE s h.units h.locks c.steps[m] = 0 := by
        rw [hd] at hI
        apply Classical.byContradiction; intro he
        rw [verd_err he] at hI; exact he hI
      have hI2 := hI
      rw [hd, verd_go hx0] at hI2
      have htr := tr_step hT hx0
      rw [← take_of_drop hd] at htr
      generalize c.steps[m] = x at *
      obtain ⟨u, b⟩ := h
      simp only at hu hb hbd hx0 hI2 htr
      simp only [go_sem, Int.reduceEq, Int.reduceLT, Int.reduceLE, eq_self, Int.natCast_nonneg, Int.toNat_natCast, hk2, hk0, hn, hmj, hlt, stepD]
      refine call_lentN hstepR (by simp) [3, 1, 2] ⟨s, x, u, b, hu, hb, (good_of ‹_›).tame, fun n hn => by have := hbd n hn; omega, rfl, rfl, rfl, rfl, rfl, rfl⟩ (by decide) (by simp) rfl rfl rfl (by simp only [go_sem, AV.unders, AV.under]) ?_ ?_ ?_
      · simp only [holdO, List.mem_cons, List.mem_nil_iff, or_false, forall_eq_or_imp, forall_eq]; exact ⟨by simp only [Obj.under, AV.unders, AV.under]; decide, trivial, trivial⟩
      · intro j hj
        rcases j with _ | _ | _ | j
        · rfl
        · rfl
        · rfl
        · simp at hj; omega
      simp only [go_sem, Int.reduceEq, Int.reduceLT, Int.reduceLE, eq_self, Int.natCast_nonneg, Int.toNat_natCast, hx0]
      refine ⟨inR_i64.2 (by omega), (m + 1, ⟨stepU s u x, stepL s b x⟩), ⟨by simp only; omega, htr, hI2, fun n hn => ?_⟩, by simp only; omega, ?_⟩
      · have := stepU_small (good_of ‹_›).tame (b := 1000 * (m : Int)) hbd (by omega) n hn
        simp only
        omega
      · simp only [holdO, setAll, emb, AV.ren, AV.rens, Obj.ren]
        refine le_end (own := [_, _, _, _]) (ex := [_]) (Nat.zero_le _) ?_ ?_ ?_
        · simp only [go_sem, Int.natCast_add, Int.cast_ofNat_Int]
        · simp only [go_sem, stepU_len, stepL_len]
        · simp only [go_sem, Obj.under, AV.unders, AV.under]
          decide
    · obtain rfl : m = j := by omega
      have hk2 : ¬ (m : Int) < m := by omega
      obtain ⟨e1, e2⟩ := tr_hold hT
      rw [← e1, ← e2]
      simp only [go_sem, Int.reduceEq, Int.reduceLT, Int.reduceLE, eq_self, Int.natCast_nonneg, Int.toNat_natCast, hk2]
      refine sem_draw (pf := []) mixed tabPH_ok pureNo [0, 1, 2, 3, 4, 5, 6] (by kernel_rfl) ?_
      simp only [go_sem, Int.reduceEq, Int.reduceLT, Int.reduceLE, eq_self, Int.natCast_nonneg, Int.toNat_natCast, chainI]
      refine post_res (.inl rfl) [.tmp 6, .tmp 7, .tmp 8] rfl ?_
      simp only [go_sem]
      refine Le.trans (le_freeze 1 (ag := none) rfl (Nat.zero_le _)) ?_
      refine Le.trans (le_freeze 2 (ag := none) rfl (Nat.zero_le _)) ?_
      have t1 : List.take h.units.length (intsD h.units) = intsD h.units := List.take_of_length_le (by simp)
      have t2 : List.take h.locks.length (boolsD h.locks) = boolsD h.locks := List.take_of_length_le (by simp)
      simp only [go_sem, t1, t2]
      exact le_fin (by simp only [go_sem]) (by simp only [go_sem])
end Go.AM

set_option maxRecDepth 8000
set_option maxHeartbeats 1000000
namespace Go.AM
open Go Go.Proofs

theorem balU_len (s : PSys) (l : List PStep) : (balU s l).length = s.pools.length := by simp [balU]
theorem balB_len (s : PSys) (l : List PStep) : (balB s l).length = s.locks.length := by simp [balB]
theorem balU_drop {s : PSys} {l : List PStep} {k : Nat} (h : k < s.pools.length) : (balU s l).drop k = bal l k 0 :: (balU s l).drop (k + 1) := by
  rw [List.drop_eq_getElem_cons (by rw [balU_len]; exact h)]; simp [balU]
theorem balB_drop {s : PSys} {l : List PStep} {k : Nat} (h : k < s.locks.length) : (balB s l).drop k = decide (0 < bal l k 1) :: (balB s l).drop (k + 1) := by
  rw [List.drop_eq_getElem_cons (by rw [balB_len]; exact h)]; simp [balB]

/- ### the specification's Held -/
abbrev tabRH : List (Nat × Contract) := [(34, dataC checkR), (74, dataC balR)]
theorem tabRH_ok : OkG Try.prog (tbl tabRH) := okG_cons rcheck_ok (okG_cons balance_ok okG_nil)
theorem rheld_ok : OkF Try.prog 65 (dataC heldR) := by
  refine okF_data Try.func65 rfl (by decide) ?_
  rintro ds v ⟨s, c, k, rfl, hf, rfl⟩
  refine sem_of_awp (Γ := tbl tabRH) tabRH_ok _ _ _ ?_
  generalize hv : heldV s c k = V
  have nilE : ∀ s own e, s.getD 6 .top = .nils → s.getD 7 .top = .nils → s.getD 8 .top = .dat (.int .i64 e) → post Try.prog Try.f65 (.tup [.dat (.sl none []), .dat (.sl none []), .dat (.int .i64 e)]) [] [] .ret ⟨s, own, 0, []⟩ := fun s own e h6 h7 h8 => by
    refine post_res (.inl rfl) [.tmp 6, .tmp 7, .tmp 8] rfl ?_
    simp only [go_sem, h6, h7, h8]
    exact le_fin (by simp only [go_sem]) (by simp only [go_sem])
  simp only [go_sem, Try.ntmps65, sysD]
  refine call_data checkR (by simp) [sysD s] _ rfl ⟨s, rfl, hf, rfl⟩ (.inl rfl) ?_
  by_cases h : checkE s = 0
  case neg =>
    simp only [go_sem, h]
    rw [← hv, heldV_1 h]
    exact nilE _ _ _ (by rfl) (by rfl) (by rfl)
  simp only [go_sem, h]
  by_cases h1 : c < 0
  · rw [← hv, heldV_2 h (.inl h1)]
    simp only [go_sem, h1]
    exact nilE _ _ _ (by rfl) (by rfl) (by rfl)
  by_cases h2 : (s.classes.length : Int) ≤ c
  · rw [← hv, heldV_2 h (.inr (.inl h2))]
    simp only [go_sem, h1, h2]
    exact nilE _ _ _ (by rfl) (by rfl) (by rfl)
  by_cases h3 : k < 0
  · rw [← hv, heldV_2 h (.inr (.inr (.inl h3)))]
    simp only [go_sem, h1, h2, h3]
    exact nilE _ _ _ (by rfl) (by rfl) (by rfl)
  obtain ⟨i, rfl⟩ : ∃ i : Nat, c = i := ⟨c.toNat, by omega⟩
  obtain ⟨j, rfl⟩ : ∃ j : Nat, k = j := ⟨k.toNat, by omega⟩
  have hi : i < s.classes.length := by omega
  have hi2 : (i : Int) < s.classes.length := by omega
  have hnc : D.nth (s.classes.map clsD) i = clsD (s.classes.getD i default) := D.nth_map hi
  have hcm : s.classes.getD i default ∈ s.classes := by rw [List.getD_eq_getElem?_getD, List.getElem?_eq_getElem hi]; exact List.getElem_mem hi
  have hg := good_of h
  have hcg := hg.cls _ hcm
  have hv2 := fun h4 => heldV_2 (s := s) (c := i) (k := j) h (.inr (.inr (.inr h4)))
  have hv3 := heldV_3 (k := j) h hi
  rw [Int.toNat_natCast] at hv2
  generalize s.classes.getD i default = c at *
  simp only [go_sem, Int.reduceEq, Int.reduceLT, Int.reduceLE, eq_self, Int.natCast_nonneg, Int.toNat_natCast, h1, h2, h3, hi2, hi, hnc, clsD, stepsD]
  by_cases h4 : (c.steps.length : Int) < j
  · rw [← hv, hv2 h4]
    simp only [go_sem, Int.reduceEq, Int.reduceLT, Int.reduceLE, eq_self, Int.natCast_nonneg, Int.toNat_natCast, h4]
    exact nilE _ _ _ (by rfl) (by rfl) (by rfl)
  have hj : j ≤ c.steps.length := by omega
  have hV := hv3 hj
  rw [hV] at hv
  subst hv
  simp only [go_sem, Int.reduceEq, Int.reduceLT, Int.reduceLE, eq_self, Int.natCast_nonneg, Int.toNat_natCast, h4, hi2, hi, hnc, clsD, stepsD]
  have hT : Tame (c.steps.take j) := fun x hx => hcg.steps hg x (List.mem_of_mem_take hx)
  have hl12 := hcg.l12
  have hnp := hg.np
  have hnl := hg.nl
  generalize hL : c.steps.take j = L at *
  refine sem_le (le_addnil 11 none rfl (Nat.zero_le _)) ?_
  simp only [go_sem, Int.reduceEq, Int.reduceLT, Int.reduceLE, eq_self, Int.natCast_nonneg, Int.toNat_natCast]
  refine sem_le (le_addnil 12 none rfl (Nat.zero_le _)) ?_
  simp only [go_sem, Int.reduceEq, Int.reduceLT, Int.reduceLE, eq_self, Int.natCast_nonneg, Int.toNat_natCast]
  refine sem_loop (fun k : Nat => ⟨slotsOf 81 [(1, .dat (.int .i64 i)), (2, .dat (.int .i64 j)), (3, .ptr 0 0 0), (6, .nils), (7, .nils), (8, .dat (.int .i64 0)), (10, .dat (.sl (some 4) (c.steps.map stepD))), (11, .sl 1 0 k), (12, .sl 2 0 0), (13, .dat (.int .i64 k))],
      [sysO s, .row none (intsD ((balU s L).take k)), .row none []], 0, []⟩)
    (fun k => k ≤ s.pools.length) (fun k => s.pools.length - k) 0 (Nat.zero_le _) ?_ ?_
  · exact le_slots' (by simp only [go_sem, Int.natCast_zero])
  · rintro k hk
    refine sem_of_awp (Γ := tbl tabRH) tabRH_ok _ _ _ ?_
    by_cases hkp : k < s.pools.length
    · have hk2 : (k : Int) < s.pools.length := by omega
      have hrl : (intsD ((balU s L).take k)).length = k := by simp [balU_len]; omega
      have htk : (intsD ((balU s L).take k)).take k = intsD ((balU s L).take k) := List.take_of_length_le (by omega)
      have hsn : intsD ((balU s L).take (k + 1)) = intsD ((balU s L).take k) ++ [.int .i64 (bal L k 0)] := by rw [take_of_drop (balU_drop hkp)]; simp
      generalize intsD ((balU s L).take k) = row at *
      simp only [go_sem, Int.reduceEq, Int.reduceLT, Int.reduceLE, eq_self, Int.natCast_nonneg, Int.toNat_natCast, hk2]
      refine call_data balR (by simp) [stepsD c.steps, .int .i64 j, .int .i64 k, .int .i64 0] _ rfl ⟨c.steps, j, k, 0, rfl, .inl rfl, hj, by omega, by rw [hL]; exact hT, rfl⟩ (.inl rfl) ?_
      simp only [go_sem, Int.reduceEq, Int.reduceLT, Int.reduceLE, eq_self, Int.natCast_nonneg, Int.toNat_natCast, hL, hrl, htk]
      refine ⟨by omega, by omega, inR_i64.2 (by omega), k + 1, by omega, by omega, ?_⟩
      rw [hsn]
      refine le_end (own := [_, _, _]) (ex := [_]) (Nat.zero_le _) ?_ ?_ ?_
      · simp only [go_sem, Int.natCast_add, Int.cast_ofNat_Int]
      · simp only [go_sem]
      · simp only [go_sem, Obj.under, AV.unders, AV.under]
    · obtain rfl : k = s.pools.length := by omega
      have hk2 : ¬ (s.pools.length : Int) < s.pools.length := by omega
      have hfull : (balU s L).take s.pools.length = balU s L := List.take_of_length_le (by rw [balU_len]; exact Nat.le_refl _)
      rw [hfull]
      simp only [go_sem, Int.reduceEq, Int.reduceLT, Int.reduceLE, eq_self, Int.natCast_nonneg, Int.toNat_natCast, hk2]
      refine sem_loop (fun k : Nat => ⟨slotsOf 81 [(1, .dat (.int .i64 i)), (2, .dat (.int .i64 j)), (3, .ptr 0 0 0), (6, .nils), (7, .nils), (8, .dat (.int .i64 0)), (10, .dat (.sl (some 4) (c.steps.map stepD))), (11, .sl 1 0 s.pools.length), (12, .sl 2 0 k), (14, .dat (.int .i64 k))],
          [sysO s, .row none (intsD (balU s L)), .row none (boolsD ((balB s L).take k))], 0, []⟩)
        (fun k => k ≤ s.locks.length) (fun k => s.locks.length - k) 0 (Nat.zero_le _) ?_ ?_
      · exact le_slots' (by simp only [go_sem, Int.natCast_zero])
      · rintro k hk
        refine sem_of_awp (Γ := tbl tabRH) tabRH_ok _ _ _ ?_
        by_cases hkp : k < s.locks.length
        · have hk2 : (k : Int) < s.locks.length := by omega
          have hrl : (boolsD ((balB s L).take k)).length = k := by simp [balB_len]; omega
          have htk : (boolsD ((balB s L).take k)).take k = boolsD ((balB s L).take k) := List.take_of_length_le (by omega)
          have hsn : boolsD ((balB s L).take (k + 1)) = boolsD ((balB s L).take k) ++ [.bool (decide (0 < bal L k 1))] := by rw [take_of_drop (balB_drop hkp)]; simp
          generalize boolsD ((balB s L).take k) = row at *
          simp only [go_sem, Int.reduceEq, Int.reduceLT, Int.reduceLE, eq_self, Int.natCast_nonneg, Int.toNat_natCast, hk2]
          refine call_data balR (by simp) [stepsD c.steps, .int .i64 j, .int .i64 k, .int .i64 1] _ rfl ⟨c.steps, j, k, 1, rfl, .inr rfl, hj, by omega, by rw [hL]; exact hT, rfl⟩ (.inl rfl) ?_
          simp only [go_sem, Int.reduceEq, Int.reduceLT, Int.reduceLE, eq_self, Int.natCast_nonneg, Int.toNat_natCast, hL, hrl, htk]
          refine ⟨by omega, by omega, inR_i64.2 (by omega), k + 1, by omega, by omega, ?_⟩
          rw [hsn]
          refine le_end (own := [_, _, _]) (ex := [_]) (Nat.zero_le _) ?_ ?_ ?_
          · simp only [go_sem, Int.natCast_add, Int.cast_ofNat_Int]
          · simp only [go_sem]
          · simp only [go_sem, Obj.under, AV.unders, AV.under]
        · obtain rfl : k = s.locks.length := by omega
          have hk2 : ¬ (s.locks.length : Int) < s.locks.length := by omega
          have hfull : (balB s L).take s.locks.length = balB s L := List.take_of_length_le (by rw [balB_len]; exact Nat.le_refl _)
          rw [hfull]
          simp only [go_sem, Int.reduceEq, Int.reduceLT, Int.reduceLE, eq_self, Int.natCast_nonneg, Int.toNat_natCast, hk2]
          refine post_res (.inl rfl) [.tmp 6, .tmp 7, .tmp 8] rfl ?_
          simp only [go_sem]
          refine Le.trans (le_freeze 1 (ag := none) rfl (Nat.zero_le _)) ?_
          refine Le.trans (le_freeze 2 (ag := none) rfl (Nat.zero_le _)) ?_
          have t1 : List.take s.pools.length (intsD (balU s L)) = intsD (balU s L) := List.take_of_length_le (by simp [balU_len])
          have t2 : List.take s.locks.length (boolsD (balB s L)) = boolsD (balB s L) := List.take_of_length_le (by simp [balB_len])
          simp only [go_sem, t1, t2, balU_len, balB_len, Nat.le_refl]
          exact le_fin (by simp only [go_sem]) (by simp only [go_sem])

/- ### what a step waits for -/
def targetN (s : PSys) (x : PStep) : Int := if x.kind = 3 then s.pools.length + x.on else if x.kind = 5 then (s.pools.length : Int) + s.locks.length + x.on else x.on
def targetR (ds : List D) (v : AV) : Prop := ∃ (s : PSys) (x : PStep), ds = [sysD s, stepD x] ∧ s.good ∧ preE s x = 0 ∧ v = .dat (.int .i64 (targetN s x))
theorem resource_ok : OkF Try.prog 40 (dataC targetR) := by
  refine okF_data Try.func40 rfl (by decide) ?_
  rintro ds v ⟨s, x, rfl, hg, hp, rfl⟩
  refine sem_of_awp (Γ := tbl []) okG_nil _ _ _ ?_
  generalize hv : targetN s x = V
  have fin : ∀ s own (b c : Int), b = c → s.getD 4 .top = .dat (.int .i64 b) → post Try.prog Try.f40 (.dat (.int .i64 c)) [] [] .ret ⟨s, own, 0, []⟩ := fun s own b c e h => by
    subst e
    exact post_data (.inl rfl) [4] rfl trivial (by simp only [tmpsOf, h]; rfl)
  obtain ⟨⟨k1, k2⟩, ⟨o1, o2⟩, hc, hc0⟩ := preE_0 hp
  obtain ⟨kind, on, cnt, deep⟩ := x
  have hnp := hg.np
  have hnl := hg.nl
  have hnc := hg.nc
  unfold mostE at o2
  simp only at *
  unfold targetN at hv
  simp only at hv
  by_cases h3 : kind = 3
  · subst h3
    rw [if_pos rfl] at hv
    rw [if_pos (.inl rfl)] at o2
    simp only [go_sem, Int.reduceEq, Int.reduceLT, Int.reduceLE, eq_self, Int.natCast_nonneg, Int.toNat_natCast, Try.ntmps40, sysD, stepD]
    refine ⟨inR_i64.2 (by omega), ?_⟩
    exact fin _ _ _ _ hv (by rfl)
  by_cases h5 : kind = 5
  · subst h5
    rw [if_neg h3, if_pos rfl] at hv
    rw [if_neg (by omega), if_pos rfl] at o2
    simp only [go_sem, Int.reduceEq, Int.reduceLT, Int.reduceLE, eq_self, Int.natCast_nonneg, Int.toNat_natCast, Try.ntmps40, sysD, stepD, h3]
    refine ⟨inR_i64.2 (by omega), inR_i64.2 (by omega), ?_⟩
    exact fin _ _ _ _ hv (by rfl)
  rw [if_neg h3, if_neg h5] at hv
  simp only [go_sem, Int.reduceEq, Int.reduceLT, Int.reduceLE, eq_self, Int.natCast_nonneg, Int.toNat_natCast, Try.ntmps40, sysD, stepD, h3, h5]
  exact fin _ _ _ _ hv (by rfl)
theorem target_ok : OkF Try.prog 43 (dataC targetR) := by
  refine okF_data Try.func43 rfl (by decide) ?_
  rintro ds v ⟨s, x, rfl, hg, hp, rfl⟩
  refine sem_of_awp (Γ := tbl []) okG_nil _ _ _ ?_
  generalize hv : targetN s x = V
  have fin : ∀ s own (b c : Int), b = c → s.getD 4 .top = .dat (.int .i64 b) → post Try.prog Try.f43 (.dat (.int .i64 c)) [] [] .ret ⟨s, own, 0, []⟩ := fun s own b c e h => by
    subst e
    exact post_data (.inl rfl) [4] rfl trivial (by simp only [tmpsOf, h]; rfl)
  obtain ⟨⟨k1, k2⟩, ⟨o1, o2⟩, hc, hc0⟩ := preE_0 hp
  obtain ⟨kind, on, cnt, deep⟩ := x
  have hnp := hg.np
  have hnl := hg.nl
  have hnc := hg.nc
  unfold mostE at o2
  simp only at *
  unfold targetN at hv
  simp only at hv
  by_cases h3 : kind = 3
  · subst h3
    rw [if_pos rfl] at hv
    rw [if_pos (.inl rfl)] at o2
    simp only [go_sem, Int.reduceEq, Int.reduceLT, Int.reduceLE, eq_self, Int.natCast_nonneg, Int.toNat_natCast, Try.ntmps43, sysD, stepD]
    refine ⟨inR_i64.2 (by omega), ?_⟩
    exact fin _ _ _ _ hv (by rfl)
  by_cases h5 : kind = 5
  · subst h5
    rw [if_neg h3, if_pos rfl] at hv
    rw [if_neg (by omega), if_pos rfl] at o2
    simp only [go_sem, Int.reduceEq, Int.reduceLT, Int.reduceLE, eq_self, Int.natCast_nonneg, Int.toNat_natCast, Try.ntmps43, sysD, stepD, h3]
    refine ⟨inR_i64.2 (by omega), inR_i64.2 (by omega), ?_⟩
    exact fin _ _ _ _ hv (by rfl)
  rw [if_neg h3, if_neg h5] at hv
  simp only [go_sem, Int.reduceEq, Int.reduceLT, Int.reduceLE, eq_self, Int.natCast_nonneg, Int.toNat_natCast, Try.ntmps43, sysD, stepD, h3, h5]
  exact fin _ _ _ _ hv (by rfl)
end Go.AM

set_option maxRecDepth 8000
set_option maxHeartbeats 1000000
namespace Go.AM
open Go Go.Proofs

/- ### the holdings of a class -/
def hU : Nat → List Int → List Int
  | _, [] => []
  | i, n :: r => if 0 < n then (i : Int) :: hU (i + 1) r else hU (i + 1) r
def hB (off : Int) : Nat → List Bool → List Int
  | _, [] => []
  | i, b :: r => if b = true then (off + i) :: hB off (i + 1) r else hB off (i + 1) r
def hC (s : PSys) (c : PCls) (i : Int) : List Int := if c.server = true then [(s.pools.length : Int) + s.locks.length + i] else []
def holdL (s : PSys) (c : PCls) (i : Int) (L : List PStep) : List Int := hU 0 (balU s L) ++ hB s.pools.length 0 (balB s L) ++ hC s c i
theorem hU_len : ∀ (i : Nat) (l : List Int), (hU i l).length ≤ l.length
  | _, [] => by simp [hU]
  | i, n :: r => by
    have := hU_len (i + 1) r
    simp only [hU]; split <;> simp only [List.length_cons] <;> omega
theorem hB_len (off : Int) : ∀ (i : Nat) (l : List Bool), (hB off i l).length ≤ l.length
  | _, [] => by simp [hB]
  | i, n :: r => by
    have := hB_len off (i + 1) r
    simp only [hB]; split <;> simp only [List.length_cons] <;> omega
theorem ownU_bal (i : Int) (l : List PStep) : (ownU i l).1 = bal l i 0 := by
  have : ∀ (l : List PStep) (p : Int × Int), (l.foldl (ustep i) p).1 = l.foldl (bstep i 0) p.1 := by
    intro l
    induction l with
    | nil => intro p; rfl
    | cons x r ih =>
      intro p
      simp only [List.foldl_cons]
      rw [ih]
      congr 1
      unfold ustep bstep
      (repeat' split) <;> first | rfl | omega
  exact this l (0, 0)
def holdR (ds : List D) (v : AV) : Prop := ∃ (s : PSys) (i j : Nat), ds = [sysD s, .int .i64 i, .int .i64 j] ∧ s.fit ∧ checkE s = 0 ∧ i < s.classes.length ∧ j ≤ (s.classes.getD i default).steps.length ∧
  v = .dat (.sl none (intsD (holdL s (s.classes.getD i default) i ((s.classes.getD i default).steps.take j))))
abbrev tabHO : List (Nat × Contract) := [(32, dataC heldR)]
theorem tabHO_ok : OkG Try.prog (tbl tabHO) := okG_cons held_ok okG_nil
theorem ints_take {l : List Int} : List.take l.length (intsD l) = intsD l := List.take_of_length_le (by simp)
theorem ints_len {l : List Int} : (intsD l).length = l.length := by simp
theorem ints_snoc {l : List Int} {n : Int} : intsD l ++ [.int .i64 n] = intsD (l ++ [n]) := by simp
theorem holdings_ok : OkF Try.prog 41 (dataC holdR) := by
  refine okF_data Try.func41 rfl (by decide) ?_
  rintro ds v ⟨s, i, j, rfl, hf, h, hi, hj, rfl⟩
  refine sem_of_awp (Γ := tbl tabHO) tabHO_ok _ _ _ ?_
  have hi2 : (i : Int) < s.classes.length := by omega
  have hi0 : (0 : Int) ≤ i := Int.natCast_nonneg i
  have hnc : D.nth (s.classes.map clsD) i = clsD (s.classes.getD i default) := D.nth_map hi
  have hV := heldV_3 h hi hj
  have hg := good_of h
  have hnp := hg.np
  have hnl := hg.nl
  have hncl := hg.nc
  generalize s.classes.getD i default = c at *
  generalize hL : c.steps.take j = L at *
  simp only [go_sem, Try.ntmps41, sysD]
  refine call_data heldR (by simp) [sysD s, .int .i64 i, .int .i64 j] _ rfl ⟨s, i, j, rfl, hf, hV.symm⟩ (.inl rfl) ?_
  have hUl := balU_len s L
  have hBl := balB_len s L
  have hv : holdL s c i L = hU 0 (balU s L) ++ hB s.pools.length 0 (balB s L) ++ hC s c i := rfl
  generalize holdL s c i L = V at *
  generalize balU s L = U at *
  generalize balB s L = B at *
  simp only [go_sem, Int.reduceEq, Int.reduceLT, Int.reduceLE, eq_self, Int.natCast_nonneg, Int.toNat_natCast, ints_len, List.length_map, hUl, hBl]
  refine sem_le (le_addnil 10 none rfl (Nat.zero_le _)) ?_
  simp only [go_sem, Int.reduceEq, Int.reduceLT, Int.reduceLE, eq_self, Int.natCast_nonneg, Int.toNat_natCast]
  refine sem_loop (fun p : Nat × List Int => ⟨slotsOf 73 [(1, .dat (.int .i64 i)), (3, .ptr 0 0 0), (8, .dat (.sl none (boolsD B))), (10, .sl 1 0 p.2.length), (23, .dat (.sl none (intsD U))), (24, .dat (.int .i64 s.pools.length)), (25, .dat (.int .i64 p.1))],
      [sysO s, .row none (intsD p.2)], 0, []⟩)
    (fun p => p.1 ≤ s.pools.length ∧ p.2.length ≤ p.1 ∧ p.2 ++ hU p.1 (U.drop p.1) = hU 0 U) (fun p => s.pools.length - p.1) (0, []) ⟨Nat.zero_le _, Nat.zero_le _, rfl⟩ ?_ ?_
  · exact le_slots' (by simp only [go_sem, Int.natCast_zero])
  · rintro ⟨k, acc⟩ ⟨hk, ha, hI⟩
    simp only at hk ha hI
    refine sem_of_awp (Γ := tbl tabHO) tabHO_ok _ _ _ ?_
    cases hd : U.drop k with
    | nil =>
      have := end_of_drop hd (by omega)
      have hk2 : ¬ (k : Int) < s.pools.length := by omega
      rw [hd, hU, List.append_nil] at hI
      subst hI
      simp only [go_sem, Int.reduceEq, Int.reduceLT, Int.reduceLE, eq_self, Int.natCast_nonneg, Int.toNat_natCast, hk2, List.length_map, hBl]
      refine sem_loop (fun p : Nat × List Int => ⟨slotsOf 73 [(1, .dat (.int .i64 i)), (3, .ptr 0 0 0), (10, .sl 1 0 p.2.length), (37, .dat (.sl none (boolsD B))), (38, .dat (.int .i64 s.locks.length)), (39, .dat (.int .i64 p.1))],
          [sysO s, .row none (intsD p.2)], 0, []⟩)
        (fun p => p.1 ≤ s.locks.length ∧ p.2.length ≤ s.pools.length + p.1 ∧ p.2 ++ hB s.pools.length p.1 (B.drop p.1) = hU 0 U ++ hB s.pools.length 0 B) (fun p => s.locks.length - p.1) (0, hU 0 U) ⟨Nat.zero_le _, by simp only; omega, rfl⟩ ?_ ?_
      · exact le_slots' (by simp only [go_sem, Int.natCast_zero])
      · rintro ⟨k, acc⟩ ⟨hk, ha, hI⟩
        simp only at hk ha hI
        refine sem_of_awp (Γ := tbl tabHO) tabHO_ok _ _ _ ?_
        cases hd : B.drop k with
        | nil =>
          have := end_of_drop hd (by omega)
          have hk2 : ¬ (k : Int) < s.locks.length := by omega
          rw [hd, hB, List.append_nil] at hI
          rw [← hI] at hv
          unfold hC at hv
          simp only [go_sem, Int.reduceEq, Int.reduceLT, Int.reduceLE, eq_self, Int.natCast_nonneg, Int.toNat_natCast, hk2, hi2, hi0, hi, hnc, clsD]
          cases hs : c.server with
          | true =>
            rw [hs, if_pos rfl] at hv
            simp only [go_sem, Int.reduceEq, Int.reduceLT, Int.reduceLE, eq_self, Int.natCast_nonneg, Int.toNat_natCast, hs, ints_take, ints_len, ints_snoc]
            refine ⟨inR_i64.2 (by omega), inR_i64.2 (by omega), by omega, by omega, ?_⟩
            refine post_res (.inl rfl) [.tmp 6] rfl ?_
            simp only [go_sem]
            refine Le.trans (le_freeze 1 (ag := none) rfl (Nat.zero_le _)) ?_
            have hl : acc.length + 1 = V.length := by rw [hv]; simp
            simp only [go_sem, ← hv, hl, ints_take, ints_len, Nat.le_refl]
            exact le_fin (by simp only [go_sem]) (by simp only [go_sem])
          | false =>
            rw [hs, if_neg (by simp), List.append_nil] at hv
            subst hv
            simp only [go_sem, Int.reduceEq, Int.reduceLT, Int.reduceLE, eq_self, Int.natCast_nonneg, Int.toNat_natCast, hs]
            refine post_res (.inl rfl) [.tmp 6] rfl ?_
            simp only [go_sem]
            refine Le.trans (le_freeze 1 (ag := none) rfl (Nat.zero_le _)) ?_
            simp only [go_sem, ints_take, ints_len, Nat.le_refl]
            exact le_fin (by simp only [go_sem]) (by simp only [go_sem])
        | cons b q =>
          have hlt := lt_of_drop hd
          have hk2 : (k : Int) < s.locks.length := by omega
          have hk3 : k < s.locks.length := by omega
          have hk0 : (0 : Int) ≤ k := Int.natCast_nonneg k
          have hn := nth_of_drop (f := D.bool) hd
          rw [hd, hB] at hI
          simp only [go_sem, Int.reduceEq, Int.reduceLT, Int.reduceLE, eq_self, Int.natCast_nonneg, Int.toNat_natCast, hk2, hk3, hk0, hn, hBl, hlt]
          cases b with
          | true =>
            rw [if_pos rfl] at hI
            simp only [go_sem, Int.reduceEq, Int.reduceLT, Int.reduceLE, eq_self, Int.natCast_nonneg, Int.toNat_natCast, ints_take, ints_len, ints_snoc]
            refine ⟨inR_i64.2 (by omega), by omega, by omega, inR_i64.2 (by omega), (k + 1, acc ++ [(s.pools.length : Int) + k]), ⟨by simp only; omega, by simp; omega, ?_⟩, by simp only; omega, ?_⟩
            · simp only; rw [drop_cons hd, List.append_assoc]; exact hI
            · refine le_end (own := [_, _]) (ex := [_]) (Nat.zero_le _) ?_ ?_ ?_
              · simp only [go_sem, Int.natCast_add, Int.cast_ofNat_Int, List.length_append, List.length_cons, List.length_nil, Nat.zero_add]
              · simp only [go_sem]
              · simp only [go_sem, Obj.under, AV.unders, AV.under]
          | false =>
            rw [if_neg (by simp)] at hI
            simp only [go_sem, Int.reduceEq, Int.reduceLT, Int.reduceLE, eq_self, Int.natCast_nonneg, Int.toNat_natCast]
            refine ⟨inR_i64.2 (by omega), (k + 1, acc), ⟨by simp only; omega, by simp only; omega, ?_⟩, by simp only; omega, ?_⟩
            · simp only; rw [drop_cons hd]; exact hI
            · exact le_slots' (by simp only [go_sem, Int.natCast_add, Int.cast_ofNat_Int])
    | cons n q =>
      have hlt := lt_of_drop hd
      have hk2 : (k : Int) < s.pools.length := by omega
      have hk3 : k < s.pools.length := by omega
      have hk0 : (0 : Int) ≤ k := Int.natCast_nonneg k
      have hn := nth_of_drop (f := D.int .i64) hd
      rw [hd, hU] at hI
      simp only [go_sem, Int.reduceEq, Int.reduceLT, Int.reduceLE, eq_self, Int.natCast_nonneg, Int.toNat_natCast, hk2, hk3, hk0, hn, hUl, hlt]
      by_cases hn0 : 0 < n
      · rw [if_pos hn0] at hI
        simp only [go_sem, Int.reduceEq, Int.reduceLT, Int.reduceLE, eq_self, Int.natCast_nonneg, Int.toNat_natCast, hn0, ints_take, ints_len, ints_snoc]
        refine ⟨by omega, by omega, inR_i64.2 (by omega), (k + 1, acc ++ [(k : Int)]), ⟨by simp only; omega, by simp; omega, ?_⟩, by simp only; omega, ?_⟩
        · simp only; rw [drop_cons hd, List.append_assoc]; exact hI
        · refine le_end (own := [_, _]) (ex := [_]) (Nat.zero_le _) ?_ ?_ ?_
          · simp only [go_sem, Int.natCast_add, Int.cast_ofNat_Int, List.length_append, List.length_cons, List.length_nil, Nat.zero_add]
          · simp only [go_sem]
          · simp only [go_sem, Obj.under, AV.unders, AV.under]
      · rw [if_neg hn0] at hI
        simp only [go_sem, Int.reduceEq, Int.reduceLT, Int.reduceLE, eq_self, Int.natCast_nonneg, Int.toNat_natCast, hn0]
        refine ⟨inR_i64.2 (by omega), (k + 1, acc), ⟨by simp only; omega, by simp only; omega, ?_⟩, by simp only; omega, ?_⟩
        · simp only; rw [drop_cons hd]; exact hI
        · exact le_slots' (by simp only [go_sem, Int.natCast_add, Int.cast_ofNat_Int])
end Go.AM

set_option maxRecDepth 8000
set_option maxHeartbeats 1000000
namespace Go.AM
open Go Go.Proofs

/- ### the specification's holdings -/
abbrev tabRG : List (Nat × Contract) := [(65, dataC heldR), (36, dataC unitsR)]
theorem tabRG_ok : OkG Try.prog (tbl tabRG) := okG_cons rheld_ok (okG_cons units_ok okG_nil)
theorem rholdings_ok : OkF Try.prog 42 (dataC holdR) := by
  refine okF_data Try.func42 rfl (by decide) ?_
  rintro ds v ⟨s, i, j, rfl, hf, h, hi, hj, rfl⟩
  refine sem_of_awp (Γ := tbl tabRG) tabRG_ok _ _ _ ?_
  have hi2 : (i : Int) < s.classes.length := by omega
  have hi0 : (0 : Int) ≤ i := Int.natCast_nonneg i
  have hnc : D.nth (s.classes.map clsD) i = clsD (s.classes.getD i default) := D.nth_map hi
  have hcm : s.classes.getD i default ∈ s.classes := by rw [List.getD_eq_getElem?_getD, List.getElem?_eq_getElem hi]; exact List.getElem_mem hi
  have hV := heldV_3 h hi hj
  have hg := good_of h
  have hnp := hg.np
  have hnl := hg.nl
  have hncl := hg.nc
  have hcg := hg.cls _ hcm
  generalize s.classes.getD i default = c at *
  have hst := hcg.steps hg
  have hl12 := hcg.l12
  have hun : ∀ k : Nat, selU false (ownU k (c.steps.take j)) = bal (c.steps.take j) k 0 := fun k => ownU_bal k _
  simp only [go_sem, Int.reduceEq, Int.reduceLT, Int.reduceLE, eq_self, Int.natCast_nonneg, Int.toNat_natCast, Try.ntmps42, sysD, hi, hi2, hi0, hnc, clsD, stepsD]
  have hUl := balU_len s (c.steps.take j)
  have hBl := balB_len s (c.steps.take j)
  have hUd : ∀ {k : Nat}, k < s.pools.length → (balU s (c.steps.take j)).drop k = bal (c.steps.take j) k 0 :: (balU s (c.steps.take j)).drop (k + 1) := balU_drop
  have hv : holdL s c i (c.steps.take j) = hU 0 (balU s (c.steps.take j)) ++ hB s.pools.length 0 (balB s (c.steps.take j)) ++ hC s c i := rfl
  generalize holdL s c i (c.steps.take j) = V at *
  generalize balU s (c.steps.take j) = U at *
  generalize balB s (c.steps.take j) = B at *
  refine sem_le (le_addnil 7 none rfl (Nat.zero_le _)) ?_
  simp only [go_sem, Int.reduceEq, Int.reduceLT, Int.reduceLE, eq_self, Int.natCast_nonneg, Int.toNat_natCast]
  refine sem_loop (fun p : Nat × List Int => ⟨slotsOf 76 [(1, .dat (.int .i64 i)), (2, .dat (.int .i64 j)), (3, .ptr 0 0 0), (7, .sl 2 0 p.2.length), (8, .ptr 1 0 0), (9, .dat (.int .i64 p.1))],
      [sysO s, clsO c, .row none (intsD p.2)], 0, []⟩)
    (fun p => p.1 ≤ s.pools.length ∧ p.2.length ≤ p.1 ∧ p.2 ++ hU p.1 (U.drop p.1) = hU 0 U) (fun p => s.pools.length - p.1) (0, []) ⟨Nat.zero_le _, Nat.zero_le _, rfl⟩ ?_ ?_
  · exact le_slots' (by simp only [go_sem, Int.natCast_zero])
  · rintro ⟨k, acc⟩ ⟨hk, ha, hI⟩
    simp only at hk ha hI
    refine sem_of_awp (Γ := tbl tabRG) tabRG_ok _ _ _ ?_
    by_cases hk3 : k < s.pools.length
    case neg =>
      have hk2 : ¬ (k : Int) < s.pools.length := by omega
      rw [List.drop_of_length_le (by omega), hU, List.append_nil] at hI
      subst hI
      simp only [go_sem, Int.reduceEq, Int.reduceLT, Int.reduceLE, eq_self, Int.natCast_nonneg, Int.toNat_natCast, hk2]
      refine call_data heldR (by simp) [sysD s, .int .i64 i, .int .i64 j] _ rfl ⟨s, i, j, rfl, hf, hV.symm⟩ (.inl rfl) ?_
      simp only [go_sem, Int.reduceEq, Int.reduceLT, Int.reduceLE, eq_self, Int.natCast_nonneg, Int.toNat_natCast]
      refine sem_loop (fun p : Nat × List Int => ⟨slotsOf 76 [(1, .dat (.int .i64 i)), (3, .ptr 0 0 0), (7, .sl 2 0 p.2.length), (8, .ptr 1 0 0), (11, .dat (.sl none (boolsD B))), (13, .dat (.int .i64 p.1))],
          [sysO s, clsO c, .row none (intsD p.2)], 0, []⟩)
        (fun p => p.1 ≤ s.locks.length ∧ p.2.length ≤ s.pools.length + p.1 ∧ p.2 ++ hB s.pools.length p.1 (B.drop p.1) = hU 0 U ++ hB s.pools.length 0 B) (fun p => s.locks.length - p.1) (0, hU 0 U) ⟨Nat.zero_le _, by simp only; omega, rfl⟩ ?_ ?_
      · exact le_slots' (by simp only [go_sem, Int.natCast_zero])
      · rintro ⟨k, acc⟩ ⟨hk, ha, hI⟩
        simp only at hk ha hI
        refine sem_of_awp (Γ := tbl tabRG) tabRG_ok _ _ _ ?_
        cases hd : B.drop k with
        | nil =>
          have := end_of_drop hd (by omega)
          have hk2 : ¬ (k : Int) < s.locks.length := by omega
          rw [hd, hB, List.append_nil] at hI
          rw [← hI] at hv
          unfold hC at hv
          simp only [go_sem, Int.reduceEq, Int.reduceLT, Int.reduceLE, eq_self, Int.natCast_nonneg, Int.toNat_natCast, List.length_map, hBl, hk2, hi2, hi0, hi, hnc, clsD]
          cases hs : c.server with
          | true =>
            rw [hs, if_pos rfl] at hv
            simp only [go_sem, Int.reduceEq, Int.reduceLT, Int.reduceLE, eq_self, Int.natCast_nonneg, Int.toNat_natCast, hs, ints_take, ints_len, ints_snoc]
            refine ⟨inR_i64.2 (by omega), inR_i64.2 (by omega), by omega, by omega, ?_⟩
            refine post_res (.inl rfl) [.tmp 6] rfl ?_
            simp only [go_sem]
            refine Le.trans (le_freeze 2 (ag := none) rfl (Nat.zero_le _)) ?_
            have hl : acc.length + 1 = V.length := by rw [hv]; simp
            simp only [go_sem, ← hv, hl, ints_take, ints_len, Nat.le_refl]
            exact le_fin (by simp only [go_sem]) (by simp only [go_sem])
          | false =>
            rw [hs, if_neg (by simp), List.append_nil] at hv
            subst hv
            simp only [go_sem, Int.reduceEq, Int.reduceLT, Int.reduceLE, eq_self, Int.natCast_nonneg, Int.toNat_natCast, hs]
            refine post_res (.inl rfl) [.tmp 6] rfl ?_
            simp only [go_sem]
            refine Le.trans (le_freeze 2 (ag := none) rfl (Nat.zero_le _)) ?_
            simp only [go_sem, ints_take, ints_len, Nat.le_refl]
            exact le_fin (by simp only [go_sem]) (by simp only [go_sem])
        | cons b q =>
          have hlt := lt_of_drop hd
          have hk2 : (k : Int) < s.locks.length := by omega
          have hk3 : k < s.locks.length := by omega
          have hk0 : (0 : Int) ≤ k := Int.natCast_nonneg k
          have hn := nth_of_drop (f := D.bool) hd
          rw [hd, hB] at hI
          simp only [go_sem, Int.reduceEq, Int.reduceLT, Int.reduceLE, eq_self, Int.natCast_nonneg, Int.toNat_natCast, List.length_map, hk2, hk3, hk0, hn, hBl, hlt]
          cases b with
          | true =>
            rw [if_pos rfl] at hI
            simp only [go_sem, Int.reduceEq, Int.reduceLT, Int.reduceLE, eq_self, Int.natCast_nonneg, Int.toNat_natCast, ints_take, ints_len, ints_snoc]
            refine ⟨inR_i64.2 (by omega), by omega, by omega, inR_i64.2 (by omega), (k + 1, acc ++ [(s.pools.length : Int) + k]), ⟨by simp only; omega, by simp; omega, ?_⟩, by simp only; omega, ?_⟩
            · simp only; rw [drop_cons hd, List.append_assoc]; exact hI
            · refine le_end (own := [_, _, _]) (ex := [_]) (Nat.zero_le _) ?_ ?_ ?_
              · simp only [go_sem, Int.natCast_add, Int.cast_ofNat_Int, List.length_append, List.length_cons, List.length_nil, Nat.zero_add]
              · simp only [go_sem]
              · simp only [go_sem, Obj.under, AV.unders, AV.under]
          | false =>
            rw [if_neg (by simp)] at hI
            simp only [go_sem, Int.reduceEq, Int.reduceLT, Int.reduceLE, eq_self, Int.natCast_nonneg, Int.toNat_natCast]
            refine ⟨inR_i64.2 (by omega), (k + 1, acc), ⟨by simp only; omega, by simp only; omega, ?_⟩, by simp only; omega, ?_⟩
            · simp only; rw [drop_cons hd]; exact hI
            · exact le_slots' (by simp only [go_sem, Int.natCast_add, Int.cast_ofNat_Int])
    · have hd := hUd hk3
      have hk2 : (k : Int) < s.pools.length := by omega
      rw [hd, hU] at hI
      simp only [go_sem, Int.reduceEq, Int.reduceLT, Int.reduceLE, eq_self, Int.natCast_nonneg, Int.toNat_natCast, hk2]
      refine call_data unitsR (by simp) [clsD c, .int .i64 k, .int .i64 j, .bool false] _ rfl ⟨c, k, j, false, rfl, hst, by omega, hj, rfl⟩ (.inl rfl) ?_
      rw [hun]
      generalize bal (c.steps.take j) k 0 = n at *
      by_cases hn0 : 0 < n
      · rw [if_pos hn0] at hI
        simp only [go_sem, Int.reduceEq, Int.reduceLT, Int.reduceLE, eq_self, Int.natCast_nonneg, Int.toNat_natCast, hn0, ints_take, ints_len, ints_snoc]
        refine ⟨by omega, by omega, inR_i64.2 (by omega), (k + 1, acc ++ [(k : Int)]), ⟨by simp only; omega, by simp; omega, ?_⟩, by simp only; omega, ?_⟩
        · simp only; rw [List.append_assoc]; exact hI
        · refine le_end (own := [_, _, _]) (ex := [_]) (Nat.zero_le _) ?_ ?_ ?_
          · simp only [go_sem, Int.natCast_add, Int.cast_ofNat_Int, List.length_append, List.length_cons, List.length_nil, Nat.zero_add]
          · simp only [go_sem]
          · simp only [go_sem, Obj.under, AV.unders, AV.under]
      · rw [if_neg hn0] at hI
        simp only [go_sem, Int.reduceEq, Int.reduceLT, Int.reduceLE, eq_self, Int.natCast_nonneg, Int.toNat_natCast, hn0]
        refine ⟨inR_i64.2 (by omega), (k + 1, acc), ⟨by simp only; omega, by simp only; omega, ?_⟩, by simp only; omega, ?_⟩
        · exact hI
        · exact le_slots' (by simp only [go_sem, Int.natCast_add, Int.cast_ofNat_Int])
end Go.AM

set_option maxRecDepth 8000
set_option maxHeartbeats 1000000
namespace Go.AM
open Go Go.Proofs

/- ### edges -/
structure PEdge where
  src : Int
  dst : Int
  cls : Int
  step : Int
deriving Inhabited, DecidableEq
def edgeD (e : PEdge) : D := .agg [.int .i64 e.src, .int .i64 e.dst, .int .i64 e.cls, .int .i64 e.step]
abbrev edgesD (l : List PEdge) : List D := l.map edgeD
def hasE (l : List PEdge) (a b : Int) : Bool := l.any fun y => decide (y.src = a) && decide (y.dst = b)
def addE (l : List PEdge) (x : PEdge) : List PEdge := if hasE l x.src x.dst = true then l else l ++ [x]
theorem edges_take {l : List PEdge} : List.take l.length (edgesD l) = edgesD l := List.take_of_length_le (by simp)
theorem edges_len {l : List PEdge} : (edgesD l).length = l.length := by simp
theorem edges_snoc {l : List PEdge} {n : PEdge} : edgesD l ++ [edgeD n] = edgesD (l ++ [n]) := by simp

def addR (xs : List AV) (obs : List Obj) (v0 : AV) (obs' ex : List Obj) (mv0 : List Nat) : Prop := ∃ (l : List PEdge) (x : PEdge), l.length ≤ 10000 ∧ xs = [.sl 0 0 l.length, .dat (edgeD x)] ∧ obs = [.row (some 4) (edgesD l)] ∧
  v0 = .sl 0 0 (addE l x).length ∧ obs' = [.row (some 4) (edgesD (addE l x))] ∧ ex = [] ∧ mv0 = [0]
theorem add_ok : OkF Try.prog 44 (lentC addR) := by
  refine okF_lent Try.func44 rfl (by decide) ?_
  rintro xs obs v0 obs' ex mv0 ⟨l, x, hl, rfl, rfl, rfl, rfl, rfl, rfl⟩
  refine sem_of_awp (Γ := tbl []) okG_nil _ _ _ ?_
  generalize hv : addE l x = V
  unfold addE at hv
  simp only [go_sem, Int.reduceEq, Int.reduceLT, Int.reduceLE, eq_self, Int.natCast_nonneg, Int.toNat_natCast, Try.ntmps44, edgeD]
  refine sem_loop (fun k : Nat => ⟨slotsOf 35 [(0, .sl 0 0 l.length), (3, .ptr 1 0 0), (5, .dat (.int .i64 k))], [.row (some 4) (edgesD l), .box [.dat (.int .i64 x.src), .dat (.int .i64 x.dst), .dat (.int .i64 x.cls), .dat (.int .i64 x.step)]], 1, []⟩)
    (fun k => k ≤ l.length ∧ hasE (l.drop k) x.src x.dst = hasE l x.src x.dst) (fun k => l.length - k) 0 ⟨Nat.zero_le _, rfl⟩ ?_ ?_
  · exact le_slots' (by simp only [go_sem, Int.natCast_zero])
  · rintro k ⟨hk, hI⟩
    refine sem_of_awp (Γ := tbl []) okG_nil _ _ _ ?_
    cases hd : l.drop k with
    | nil =>
      have := end_of_drop hd hk
      have hk2 : ¬ (k : Int) < l.length := by omega
      rw [hd] at hI
      rw [← hI, if_neg (by simp [hasE])] at hv
      subst hv
      simp only [go_sem, Int.reduceEq, Int.reduceLT, Int.reduceLE, eq_self, Int.natCast_nonneg, Int.toNat_natCast, hk2, edges_take, edges_len]
      refine ⟨by omega, by omega, ?_⟩
      refine post_resO (.inl rfl) [.tmp 4] rfl (fun _ h => h) ?_
      have e : edgesD (l ++ [x]) = edgesD l ++ [.agg [.int .i64 x.src, .int .i64 x.dst, .int .i64 x.cls, .int .i64 x.step]] := by rw [← edges_snoc]; rfl
      rw [e]
      simp only [go_sem, Int.reduceEq, Int.reduceLT, Int.reduceLE, eq_self, Int.natCast_nonneg, Int.toNat_natCast, List.length_append, List.length_cons, List.length_nil, Nat.zero_add]
      refine le_end (own := [_]) (ex := [_, _]) (Nat.le_refl _) ?_ ?_ ?_
      · exact ⟨.inr rfl, trivial⟩
      · simp only [go_sem]
      · simp only [go_sem, Obj.under, AV.unders, AV.under]
    | cons y q =>
      have hlt := lt_of_drop hd
      have hk2 : (k : Int) < l.length := by omega
      have hk0 : (0 : Int) ≤ k := Int.natCast_nonneg k
      have hn := nth_of_drop (f := edgeD) hd
      rw [hd] at hI
      simp only [hasE, List.any_cons] at hI
      simp only [go_sem, Int.reduceEq, Int.reduceLT, Int.reduceLE, eq_self, Int.natCast_nonneg, Int.toNat_natCast, hk2]
      refine sem_draw (pf := []) (Γ := tbl []) mixed okG_nil pureNo [0, 1, 2, 3, 4, 5, 6, 7, 8, 9, 10, 11, 12, 13, 14, 15, 16, 17] (by kernel_rfl) ?_
      by_cases ha : y.src = x.src
      · have ha' : decide (y.src = x.src) = true := decide_eq_true ha
        by_cases hb : y.dst = x.dst
        · have hb' : decide (y.dst = x.dst) = true := decide_eq_true hb
          simp only [go_sem, Int.reduceEq, Int.reduceLT, Int.reduceLE, eq_self, Int.natCast_nonneg, Int.toNat_natCast, chainI, hk2, hk0, hlt, hn, edgeD, ha', hb', edges_len]
          have hh : hasE l x.src x.dst = true := by rw [hasE, ← hI, ha', hb']; rfl
          rw [if_pos hh] at hv
          subst hv
          refine post_resO (mv' := []) (.inl rfl) [.tmp 4] rfl (fun _ h => by cases h) ?_
          simp only [go_sem, Int.reduceEq, Int.reduceLT, Int.reduceLE, eq_self, Int.natCast_nonneg, Int.toNat_natCast]
          refine le_end (own := [_]) (ex := [_]) (Nat.le_refl _) ?_ ?_ ?_
          · exact ⟨.inr rfl, trivial⟩
          · simp only [go_sem]
          · simp only [go_sem, Obj.under, AV.unders, AV.under]
        · have hb' : decide (y.dst = x.dst) = false := decide_eq_false hb
          simp only [go_sem, Int.reduceEq, Int.reduceLT, Int.reduceLE, eq_self, Int.natCast_nonneg, Int.toNat_natCast, chainI, hk2, hk0, hlt, hn, edgeD, ha', hb', edges_len]
          refine ⟨inR_i64.2 (by omega), k + 1, ⟨by omega, ?_⟩, by omega, ?_⟩
          · rw [drop_cons hd]; unfold hasE; rw [← hI, ha', hb']; rfl
          · exact le_slots' (by simp only [go_sem, Int.natCast_add, Int.cast_ofNat_Int])
      · have ha' : decide (y.src = x.src) = false := decide_eq_false ha
        simp only [go_sem, Int.reduceEq, Int.reduceLT, Int.reduceLE, eq_self, Int.natCast_nonneg, Int.toNat_natCast, chainI, hk2, hk0, hlt, hn, edgeD, ha', edges_len]
        refine ⟨inR_i64.2 (by omega), k + 1, ⟨by omega, ?_⟩, by omega, ?_⟩
        · rw [drop_cons hd]; unfold hasE; rw [← hI, ha']; rfl
        · exact le_slots' (by simp only [go_sem, Int.natCast_add, Int.cast_ofNat_Int])

/- ### all edges -/
def addAll (t i k : Int) : List Int → List PEdge → List PEdge
  | [], acc => acc
  | f :: r, acc => addAll t i k r (addE acc ⟨f, t, i, k⟩)
def edS (s : PSys) (c : PCls) (i : Nat) : Nat → List PStep → List PEdge → List PEdge
  | _, [], acc => acc
  | k, x :: r, acc => edS s c i (k + 1) r (if waitB s x = true then addAll (targetN s x) i k (holdL s c i (c.steps.take k)) acc else acc)
def edC (s : PSys) : Nat → List PCls → List PEdge → List PEdge
  | _, [], acc => acc
  | i, c :: r, acc => edC s (i + 1) r (edS s c i 0 c.steps acc)
theorem addE_len (l : List PEdge) (x : PEdge) : (addE l x).length ≤ l.length + 1 := by unfold addE; split <;> simp
theorem holdL_len (s : PSys) (c : PCls) (i : Int) (L : List PStep) : (holdL s c i L).length ≤ s.pools.length + s.locks.length + 1 := by
  have h1 := hU_len 0 (balU s L)
  have h2 := hB_len s.pools.length 0 (balB s L)
  rw [balU_len] at h1
  rw [balB_len] at h2
  have h3 : (hC s c i).length ≤ 1 := by unfold hC; split <;> simp
  simp only [holdL, List.length_append]; omega
def edgesV (s : PSys) : AV := if checkE s ≠ 0 then .tup [.dat (.sl none []), .dat (.int .i64 (checkE s))] else .tup [.dat (.sl (some 4) (edgesD (edC s 0 s.classes []))), .dat (.int .i64 0)]
def edgesR (ds : List D) (v : AV) : Prop := ∃ s : PSys, ds = [sysD s] ∧ s.fit ∧ v = edgesV s

abbrev tabRE : List (Nat × Contract) := [(34, dataC checkR), (17, dataC waitNR), (42, dataC holdR), (43, dataC targetR), (44, normC (lentC addR))]
theorem tabRE_ok : OkG Try.prog (tbl tabRE) := okG_cons rcheck_ok (okG_cons rWaits_ok (okG_cons rholdings_ok (okG_cons target_ok (okG_cons (okF_norm add_ok) okG_nil))))
theorem pureRE : PureFns (tbl tabRE) [43] := pure_of (by
  intro g C h hg
  simp only [List.mem_singleton] at hg
  subst hg
  simp only [tabRE, List.mem_cons, Prod.mk.injEq, List.mem_nil_iff, or_false] at h
  rcases h with ⟨h, _⟩ | ⟨h, _⟩ | ⟨h, _⟩ | ⟨_, h⟩ | ⟨h, _⟩
  · simp at h
  · simp at h
  · simp at h
  · exact ⟨_, h⟩
  · simp at h)
theorem redges_ok : OkF Try.prog 19 (dataC edgesR) := by
  refine okF_data Try.func19 rfl (by decide) ?_
  rintro ds v ⟨s, rfl, hf, rfl⟩
  refine sem_of_awp (Γ := tbl tabRE) tabRE_ok _ _ _ ?_
  simp only [go_sem, Int.reduceEq, Int.reduceLT, Int.reduceLE, eq_self, Int.natCast_nonneg, Int.toNat_natCast, Try.ntmps19, sysD]
  refine call_data checkR (by simp) [sysD s] _ rfl ⟨s, rfl, hf, rfl⟩ (.inl rfl) ?_
  by_cases h : checkE s = 0
  case neg =>
    unfold edgesV
    rw [if_pos h]
    simp only [go_sem, Int.reduceEq, Int.reduceLT, Int.reduceLE, eq_self, Int.natCast_nonneg, Int.toNat_natCast, h]
    refine post_res (.inl rfl) [.tmp 2, .tmp 3] rfl ?_
    simp only [go_sem]
    exact le_fin (by simp only [go_sem]) (by simp only [go_sem])
  unfold edgesV
  rw [if_neg (by rw [h]; decide)]
  generalize hv : edC s 0 s.classes [] = V
  have hg := good_of h
  have hnp := hg.np
  have hnl := hg.nl
  have hnc := hg.nc
  simp only [go_sem, Int.reduceEq, Int.reduceLT, Int.reduceLE, eq_self, Int.natCast_nonneg, Int.toNat_natCast, h]
  refine sem_le (le_addnil 5 (some 4) rfl (Nat.zero_le _)) ?_
  simp only [go_sem, Int.reduceEq, Int.reduceLT, Int.reduceLE, eq_self, Int.natCast_nonneg, Int.toNat_natCast]
  refine sem_loop (fun p : Nat × List PEdge => ⟨slotsOf 71 [(1, .ptr 0 0 0), (5, .sl 1 0 p.2.length), (6, .dat (.int .i64 p.1))], [sysO s, .row (some 4) (edgesD p.2)], 0, []⟩)
    (fun p => p.1 ≤ s.classes.length ∧ p.2.length ≤ 144 * p.1 ∧ edC s p.1 (s.classes.drop p.1) p.2 = V) (fun p => s.classes.length - p.1) (0, []) ⟨Nat.zero_le _, Nat.zero_le _, hv⟩ ?_ ?_
  · exact le_slots' (by simp only [go_sem, Int.natCast_zero])
  · rintro ⟨i, acc⟩ ⟨hi, ha, hI⟩
    simp only at hi ha hI
    refine sem_of_awp (Γ := tbl tabRE) tabRE_ok _ _ _ ?_
    cases hd : s.classes.drop i with
    | nil =>
      have := end_of_drop hd hi
      have hk2 : ¬ (i : Int) < s.classes.length := by omega
      rw [hd, edC] at hI
      subst hI
      simp only [go_sem, Int.reduceEq, Int.reduceLT, Int.reduceLE, eq_self, Int.natCast_nonneg, Int.toNat_natCast, hk2]
      refine post_res (.inl rfl) [.tmp 2, .tmp 3] rfl ?_
      simp only [go_sem]
      refine Le.trans (le_freeze 1 (ag := some 4) rfl (Nat.zero_le _)) ?_
      simp only [go_sem, edges_take, edges_len, Nat.le_refl]
      exact le_fin (by simp only [go_sem]) (by simp only [go_sem])
    | cons c q =>
      have hlt := lt_of_drop hd
      have hk2 : (i : Int) < s.classes.length := by omega
      have hk0 : (0 : Int) ≤ i := Int.natCast_nonneg i
      have hn := nth_of_drop (f := clsD) hd
      have hcg := hg.cls c (mem_of_drop hd)
      have hl12 := hcg.l12
      have hget : s.classes.getD i default = c := by rw [List.getD_eq_getElem?_getD, get_of_drop hd]; rfl
      rw [hd, edC] at hI
      simp only [go_sem, Int.reduceEq, Int.reduceLT, Int.reduceLE, eq_self, Int.natCast_nonneg, Int.toNat_natCast, hk2]
      refine sem_loop (fun p : Nat × List PEdge => ⟨slotsOf 71 [(1, .ptr 0 0 0), (5, .sl 1 0 p.2.length), (6, .dat (.int .i64 i)), (7, .dat (.int .i64 p.1))], [sysO s, .row (some 4) (edgesD p.2)], 0, []⟩)
        (fun p => p.1 ≤ c.steps.length ∧ p.2.length ≤ 144 * i + 12 * p.1 ∧ edC s (i + 1) q (edS s c i p.1 (c.steps.drop p.1) p.2) = V) (fun p => c.steps.length - p.1) (0, acc) ⟨Nat.zero_le _, by simp only; omega, hI⟩ ?_ ?_
      · exact le_slots' (by simp only [go_sem, Int.natCast_zero])
      · rintro ⟨k, acc⟩ ⟨hk, ha, hI⟩
        simp only at hk ha hI
        refine sem_of_awp (Γ := tbl tabRE) tabRE_ok _ _ _ ?_
        cases hd2 : c.steps.drop k with
        | nil =>
          have := end_of_drop hd2 hk
          have hj2 : ¬ (k : Int) < c.steps.length := by omega
          rw [hd2, edS] at hI
          simp only [go_sem, Int.reduceEq, Int.reduceLT, Int.reduceLE, eq_self, Int.natCast_nonneg, Int.toNat_natCast, hk2, hk0, hn, hlt, clsD, stepsD, hj2]
          refine ⟨inR_i64.2 (by omega), (i + 1, acc), ⟨by simp only; omega, by simp only; omega, by simp only; rw [drop_cons hd]; exact hI⟩, by simp only; omega, ?_⟩
          exact le_slots' (by simp only [go_sem, Int.natCast_add, Int.cast_ofNat_Int])
        | cons x q2 =>
          have hlt2 := lt_of_drop hd2
          have hj2 : (k : Int) < c.steps.length := by omega
          have hj0 : (0 : Int) ≤ k := Int.natCast_nonneg k
          have hn2 := nth_of_drop (f := stepD) hd2
          have hxp := hcg.pre x (mem_of_drop hd2)
          have hat : stepAt s i k = x := by rw [stepAt_nat, hget, List.getD_eq_getElem?_getD, get_of_drop hd2]; rfl
          have hW : waitN s i k = waitB s x := by
            unfold waitN
            rw [if_neg (by rw [h, noStep_nat hlt, hget]; omega), hat]
          rw [hd2, edS] at hI
          simp only [go_sem, Int.reduceEq, Int.reduceLT, Int.reduceLE, eq_self, Int.natCast_nonneg, Int.toNat_natCast, hk2, hk0, hn, hlt, clsD, stepsD, hj2]
          refine call_data waitNR (by simp) [sysD s, .int .i64 i, .int .i64 k] _ rfl ⟨s, i, k, rfl, hf, rfl⟩ (.inl rfl) ?_
          rw [hW]
          cases hw : waitB s x with
          | false =>
            rw [hw, if_neg (by decide)] at hI
            simp only [go_sem, Int.reduceEq, Int.reduceLT, Int.reduceLE, eq_self, Int.natCast_nonneg, Int.toNat_natCast, hw]
            refine ⟨inR_i64.2 (by omega), (k + 1, acc), ⟨by simp only; omega, by simp only; omega, by simp only; rw [drop_cons hd2]; exact hI⟩, by simp only; omega, ?_⟩
            exact le_slots' (by simp only [go_sem, Int.natCast_add, Int.cast_ofNat_Int])
          | true =>
            rw [hw, if_pos rfl] at hI
            simp only [go_sem, Int.reduceEq, Int.reduceLT, Int.reduceLE, eq_self, Int.natCast_nonneg, Int.toNat_natCast, hw]
            refine call_data holdR (by simp) [sysD s, .int .i64 i, .int .i64 k] _ rfl ⟨s, i, k, rfl, hf, h, hlt, by rw [hget]; omega, rfl⟩ (.inl rfl) ?_
            rw [hget]
            have hHl := holdL_len s c i (c.steps.take k)
            generalize holdL s c i (c.steps.take k) = H at *
            simp only [go_sem, Int.reduceEq, Int.reduceLT, Int.reduceLE, eq_self, Int.natCast_nonneg, Int.toNat_natCast]
            refine sem_draw (pf := [43]) mixed tabRE_ok pureRE [0, 1, 2, 3, 4, 5, 6, 7, 8, 9, 10, 11] (by kernel_rfl) ?_
            simp only [go_sem, Int.reduceEq, Int.reduceLT, Int.reduceLE, eq_self, Int.natCast_nonneg, Int.toNat_natCast, chainI, hk2, hk0, hn, hlt, clsD, stepsD, hj2, hj0, hlt2, hn2, stepD]
            refine call_data targetR (by simp) [sysD s, stepD x] _ rfl ⟨s, x, rfl, hg, hxp, rfl⟩ (.inl rfl) ?_
            generalize targetN s x = T at *
            simp only [go_sem, Int.reduceEq, Int.reduceLT, Int.reduceLE, eq_self, Int.natCast_nonneg, Int.toNat_natCast, chainI]
            refine sem_loop (fun p : Nat × List PEdge => ⟨slotsOf 71 [(1, .ptr 0 0 0), (5, .sl 1 0 p.2.length), (6, .dat (.int .i64 i)), (7, .dat (.int .i64 k)), (8, .dat (.sl none (intsD H))), (9, .dat (.int .i64 T)), (10, .dat (.int .i64 p.1))], [sysO s, .row (some 4) (edgesD p.2)], 0, []⟩)
              (fun p => p.1 ≤ H.length ∧ p.2.length ≤ 144 * i + 12 * k + p.1 ∧ edC s (i + 1) q (edS s c i (k + 1) q2 (addAll T i k (H.drop p.1) p.2)) = V) (fun p => H.length - p.1) (0, acc) ⟨Nat.zero_le _, by simp only; omega, hI⟩ ?_ ?_
            · exact le_slots' (by simp only [go_sem, Int.natCast_zero])
            · rintro ⟨m, acc⟩ ⟨hm, ha, hI⟩
              simp only at hm ha hI
              refine sem_of_awp (Γ := tbl tabRE) tabRE_ok _ _ _ ?_
              cases hd3 : H.drop m with
              | nil =>
                have := end_of_drop hd3 hm
                have hm2 : ¬ (m : Int) < H.length := by omega
                rw [hd3, addAll] at hI
                simp only [go_sem, Int.reduceEq, Int.reduceLT, Int.reduceLE, eq_self, Int.natCast_nonneg, Int.toNat_natCast, ints_len, List.length_map, hm2]
                refine ⟨inR_i64.2 (by omega), (k + 1, acc), ⟨by simp only; omega, by simp only; omega, by simp only; rw [drop_cons hd2]; exact hI⟩, by simp only; omega, ?_⟩
                exact le_slots' (by simp only [go_sem, Int.natCast_add, Int.cast_ofNat_Int])
              | cons f q3 =>
                have hlt3 := lt_of_drop hd3
                have hm2 : (m : Int) < H.length := by omega
                have hm0 : (0 : Int) ≤ m := Int.natCast_nonneg m
                have hn3 := nth_of_drop (f := D.int .i64) hd3
                rw [hd3, addAll] at hI
                simp only [go_sem, Int.reduceEq, Int.reduceLT, Int.reduceLE, eq_self, Int.natCast_nonneg, Int.toNat_natCast, ints_len, List.length_map, hm2, hm0, hn3, hlt3]
                refine call_lentN addR (by simp) [1] ⟨acc, ⟨f, T, i, k⟩, by omega, rfl, rfl, rfl, rfl, rfl, rfl⟩ (by decide) (by simp) rfl rfl rfl (by simp only [go_sem, AV.unders, AV.under]) (by simp only [List.mem_singleton, forall_eq]; trivial) (fun j hj => by
                  obtain rfl : j = 0 := by simp at hj; exact hj
                  rfl) ?_
                have hal := addE_len acc ⟨f, T, i, k⟩
                generalize addE acc ⟨f, T, i, k⟩ = acc' at *
                have em : emb [1] 2 0 = 1 := rfl
                have ne : ¬ (0 : Nat) = 1 := by decide
                simp only [go_sem, Int.reduceEq, Int.reduceLT, Int.reduceLE, eq_self, Int.natCast_nonneg, Int.toNat_natCast, em, ne]
                refine ⟨inR_i64.2 (by omega), (m + 1, acc'), ⟨by simp only; omega, by simp only; omega, by simp only; rw [drop_cons hd3]; exact hI⟩, by simp only; omega, ?_⟩
                exact le_slots' (by simp only [go_sem, Int.natCast_add, Int.cast_ofNat_Int])
end Go.AM

set_option maxRecDepth 8000
set_option maxHeartbeats 1000000
namespace Go.AM
open Go Go.Proofs

/- ### what the edges are (plain) -/
theorem hasE_iff {l : List PEdge} {a b : Int} : hasE l a b = true ↔ ∃ e ∈ l, e.src = a ∧ e.dst = b := by
  simp [hasE, List.any_eq_true]
theorem addE_sub {l : List PEdge} {x e : PEdge} (h : e ∈ l) : e ∈ addE l x := by unfold addE; split <;> simp [h]
theorem addE_mem {l : List PEdge} {x e : PEdge} (h : e ∈ addE l x) : e ∈ l ∨ e = x := by
  unfold addE at h; split at h
  · exact .inl h
  · simpa using h
theorem addE_has (l : List PEdge) (x : PEdge) : hasE (addE l x) x.src x.dst = true := by
  unfold addE; split
  · assumption
  · exact hasE_iff.2 ⟨x, by simp, rfl, rfl⟩
theorem addAll_sub {t i k : Int} : ∀ {H : List Int} {acc : List PEdge} {e : PEdge}, e ∈ acc → e ∈ addAll t i k H acc
  | [], _, _, h => h
  | _ :: r, _, _, h => addAll_sub (H := r) (addE_sub h)
theorem addAll_mem {t i k : Int} : ∀ {H : List Int} {acc : List PEdge} {e : PEdge}, e ∈ addAll t i k H acc → e ∈ acc ∨ ∃ f ∈ H, e = ⟨f, t, i, k⟩
  | [], _, _, h => .inl h
  | f :: r, acc, e, h => by
    rcases addAll_mem (H := r) h with h | ⟨g, hg, h⟩
    · rcases addE_mem h with h | h
      · exact .inl h
      · exact .inr ⟨f, by simp, h⟩
    · exact .inr ⟨g, by simp [hg], h⟩
theorem hasE_sub {l l' : List PEdge} (h : ∀ e ∈ l, e ∈ l') {a b : Int} (hh : hasE l a b = true) : hasE l' a b = true := by
  obtain ⟨e, he, h1⟩ := hasE_iff.1 hh
  exact hasE_iff.2 ⟨e, h e he, h1⟩
theorem addAll_has {t i k : Int} : ∀ {H : List Int} {acc : List PEdge} {f : Int}, f ∈ H → hasE (addAll t i k H acc) f t = true
  | g :: r, acc, f, h => by
    rcases List.mem_cons.1 h with rfl | h
    · exact hasE_sub (l := addE acc ⟨f, t, i, k⟩) (fun e he => addAll_sub (H := r) he) (addE_has acc ⟨f, t, i, k⟩)
    · exact addAll_has (H := r) h
/-- The edges that step k of class i has. -/
def isEdge (s : PSys) (c : PCls) (i : Nat) (k : Nat) (x : PStep) (e : PEdge) : Prop := waitB s x = true ∧ e.cls = i ∧ e.step = k ∧ e.dst = targetN s x ∧ e.src ∈ holdL s c i (c.steps.take k)
theorem edS_sub (s : PSys) (c : PCls) (i : Nat) : ∀ {k : Nat} {L : List PStep} {acc : List PEdge} {e : PEdge}, e ∈ acc → e ∈ edS s c i k L acc
  | _, [], _, _, h => h
  | k, x :: r, acc, e, h => by
    rw [edS]; refine edS_sub s c i ?_
    split
    · exact addAll_sub h
    · exact h
theorem edC_sub (s : PSys) : ∀ {i : Nat} {L : List PCls} {acc : List PEdge} {e : PEdge}, e ∈ acc → e ∈ edC s i L acc
  | _, [], _, _, h => h
  | i, c :: r, acc, e, h => by rw [edC]; exact edC_sub s (edS_sub s c i h)
theorem edS_mem (s : PSys) (c : PCls) (i : Nat) : ∀ {k : Nat} {L : List PStep} {acc : List PEdge} {e : PEdge}, e ∈ edS s c i k L acc → e ∈ acc ∨ ∃ j x, L[j]? = some x ∧ isEdge s c i (k + j) x e
  | _, [], _, _, h => .inl h
  | k, x :: r, acc, e, h => by
    rw [edS] at h
    rcases edS_mem s c i h with h | ⟨j, y, hy, h⟩
    · split at h
      · rename_i hw
        rcases addAll_mem h with h | ⟨f, hf, rfl⟩
        · exact .inl h
        · exact .inr ⟨0, x, rfl, hw, rfl, by simp, rfl, by simpa using hf⟩
      · exact .inl h
    · refine .inr ⟨j + 1, y, by simpa using hy, ?_⟩
      rwa [Nat.add_right_comm, Nat.add_assoc] at h
theorem edC_mem (s : PSys) : ∀ {i : Nat} {L : List PCls} {acc : List PEdge} {e : PEdge}, e ∈ edC s i L acc → e ∈ acc ∨ ∃ j c k x, L[j]? = some c ∧ c.steps[k]? = some x ∧ isEdge s c (i + j) k x e
  | _, [], _, _, h => .inl h
  | i, c :: r, acc, e, h => by
    rw [edC] at h
    rcases edC_mem s h with h | ⟨j, d, k, x, hd, hx, h⟩
    · rcases edS_mem s c i h with h | ⟨j, x, hx, h⟩
      · exact .inl h
      · exact .inr ⟨0, c, j, x, rfl, hx, by simpa using h⟩
    · refine .inr ⟨j + 1, d, k, x, by simpa using hd, hx, ?_⟩
      rwa [Nat.add_right_comm, Nat.add_assoc] at h
theorem edS_has (s : PSys) (c : PCls) (i : Nat) : ∀ {k : Nat} {L : List PStep} {acc : List PEdge} {j : Nat} {x : PStep} {f : Int}, L[j]? = some x → waitB s x = true → f ∈ holdL s c i (c.steps.take (k + j)) → hasE (edS s c i k L acc) f (targetN s x) = true
  | _, [], _, _, _, _, h, _, _ => by simp at h
  | k, y :: r, acc, 0, x, f, h, hw, hf => by
    simp only [List.getElem?_cons_zero, Option.some.injEq] at h
    subst h
    rw [edS, if_pos hw]
    exact hasE_sub (fun e he => edS_sub s c i he) (addAll_has hf)
  | k, y :: r, acc, j + 1, x, f, h, hw, hf => by
    rw [edS]
    refine edS_has s c i (j := j) (by simpa using h) hw ?_
    rwa [Nat.add_right_comm, Nat.add_assoc]
theorem edC_has (s : PSys) : ∀ {i : Nat} {L : List PCls} {acc : List PEdge} {j k : Nat} {c : PCls} {x : PStep} {f : Int}, L[j]? = some c → c.steps[k]? = some x → waitB s x = true → f ∈ holdL s c ((i + j : Nat) : Int) (c.steps.take k) → hasE (edC s i L acc) f (targetN s x) = true
  | _, [], _, _, _, _, _, _, h, _, _, _ => by simp at h
  | i, d :: r, acc, 0, k, c, x, f, h, hx, hw, hf => by
    simp only [List.getElem?_cons_zero, Option.some.injEq] at h
    subst h
    rw [edC]
    exact hasE_sub (fun e he => edC_sub s he) (edS_has s d i hx hw (by simpa using hf))
  | i, d :: r, acc, j + 1, k, c, x, f, h, hx, hw, hf => by
    rw [edC]
    refine edC_has s (j := j) (by simpa using h) hx hw ?_
    rwa [Nat.add_right_comm, Nat.add_assoc]

/- what a class holds, as the law looks it up -/
def holdB (s : PSys) (c : PCls) (i : Nat) (L : List PStep) (r : Nat) : Bool :=
  if r < s.pools.length then decide (0 < (balU s L).getD r 0) else
  if r < s.pools.length + s.locks.length then (balB s L).getD (r - s.pools.length) false else
  c.server && decide (r = s.pools.length + s.locks.length + i)
theorem hU_mem {f : Int} : ∀ {i : Nat} {l : List Int}, f ∈ hU i l ↔ ∃ j n, l[j]? = some n ∧ 0 < n ∧ f = ((i + j : Nat) : Int)
  | _, [] => by simp [hU]
  | i, n :: r => by
    have ih := hU_mem (f := f) (i := i + 1) (l := r)
    have hs : (∃ j m, (n :: r)[j]? = some m ∧ 0 < m ∧ f = ((i + j : Nat) : Int)) ↔ (0 < n ∧ f = (i : Int)) ∨ (∃ j m, r[j]? = some m ∧ 0 < m ∧ f = ((i + 1 + j : Nat) : Int)) := by
      constructor
      · rintro ⟨j, m, h1, h2, h3⟩
        cases j with
        | zero => simp only [List.getElem?_cons_zero, Option.some.injEq] at h1; subst h1; exact .inl ⟨h2, by simpa using h3⟩
        | succ j => exact .inr ⟨j, m, by simpa using h1, h2, by rw [h3]; congr 1; omega⟩
      · rintro (⟨h2, h3⟩ | ⟨j, m, h1, h2, h3⟩)
        · exact ⟨0, n, rfl, h2, by simpa using h3⟩
        · exact ⟨j + 1, m, by simpa using h1, h2, by rw [h3]; congr 1; omega⟩
    rw [hs, ← ih, hU]
    split
    · rename_i h; simp [h]
    · rename_i h; simp [h]
theorem hB_mem {f off : Int} : ∀ {i : Nat} {l : List Bool}, f ∈ hB off i l ↔ ∃ j : Nat, l[j]? = some true ∧ f = off + ((i + j : Nat) : Int)
  | _, [] => by simp [hB]
  | i, b :: r => by
    have ih := hB_mem (f := f) (off := off) (i := i + 1) (l := r)
    have hs : (∃ j : Nat, (b :: r)[j]? = some true ∧ f = off + ((i + j : Nat) : Int)) ↔ (b = true ∧ f = off + (i : Int)) ∨ (∃ j : Nat, r[j]? = some true ∧ f = off + ((i + 1 + j : Nat) : Int)) := by
      constructor
      · rintro ⟨j, h1, h3⟩
        cases j with
        | zero => simp only [List.getElem?_cons_zero, Option.some.injEq] at h1; exact .inl ⟨h1, by simpa using h3⟩
        | succ j => exact .inr ⟨j, by simpa using h1, by rw [h3]; congr 2; omega⟩
      · rintro (⟨h2, h3⟩ | ⟨j, h1, h3⟩)
        · exact ⟨0, by simpa using h2, by simpa using h3⟩
        · exact ⟨j + 1, by simpa using h1, by rw [h3]; congr 2; omega⟩
    rw [hs, ← ih, hB]
    split
    · rename_i h; simp [h]
    · rename_i h; simp [h]
theorem holdL_range {s : PSys} {c : PCls} {i : Nat} {L : List PStep} {f : Int} (hi : i < s.classes.length) (h : f ∈ holdL s c i L) : ∃ r : Nat, f = r ∧ r < s.pools.length + s.locks.length + s.classes.length ∧ holdB s c i L r = true := by
  simp only [holdL, List.mem_append] at h
  rcases h with (h | h) | h
  · obtain ⟨j, n, h1, h2, h3⟩ := hU_mem.1 h
    have hj := (List.getElem?_eq_some_iff.1 h1).1
    rw [balU_len] at hj
    refine ⟨j, by simpa using h3, by omega, ?_⟩
    unfold holdB
    rw [if_pos hj, List.getD_eq_getElem?_getD, h1]
    simpa using h2
  · obtain ⟨j, h1, h3⟩ := hB_mem.1 h
    have hj := (List.getElem?_eq_some_iff.1 h1).1
    rw [balB_len] at hj
    refine ⟨s.pools.length + j, by rw [h3]; omega, by omega, ?_⟩
    unfold holdB
    rw [if_neg (by omega), if_pos (by omega), Nat.add_sub_cancel_left, List.getD_eq_getElem?_getD, h1]
    rfl
  · unfold hC at h
    split at h
    · rename_i hs
      refine ⟨s.pools.length + s.locks.length + i, by simp at h; omega, by omega, ?_⟩
      unfold holdB
      rw [if_neg (by omega), if_neg (by omega), hs]
      simp
    · cases h
theorem holdB_mem {s : PSys} {c : PCls} {i : Nat} {L : List PStep} {r : Nat} (h : holdB s c i L r = true) : (r : Int) ∈ holdL s c i L := by
  unfold holdB at h
  simp only [holdL, List.mem_append]
  split at h
  · rename_i hr
    have hj : r < (balU s L).length := by rw [balU_len]; exact hr
    refine .inl (.inl (hU_mem.2 ⟨r, (balU s L)[r], List.getElem?_eq_getElem hj, ?_, by simp⟩))
    rw [List.getD_eq_getElem?_getD, List.getElem?_eq_getElem hj] at h
    simpa using h
  · split at h
    · rename_i h1 hr
      have hj : r - s.pools.length < (balB s L).length := by rw [balB_len]; omega
      refine .inl (.inr (hB_mem.2 ⟨r - s.pools.length, ?_, by omega⟩))
      rw [List.getD_eq_getElem?_getD, List.getElem?_eq_getElem hj] at h
      rw [List.getElem?_eq_getElem hj]
      simpa using h
    · rename_i h1 h2
      simp only [Bool.and_eq_true, decide_eq_true_eq] at h
      refine .inr ?_
      unfold hC
      rw [if_pos h.1, h.2]
      simp
theorem targetN_range {s : PSys} {x : PStep} (hg : s.good) (h : preE s x = 0) : 0 ≤ targetN s x ∧ targetN s x ≤ 100 := by
  have h1 := hg.np
  have h2 := hg.nl
  have h3 := hg.nc
  obtain ⟨_, ⟨o1, o2⟩, _⟩ := preE_0 h
  have : x.on ≤ 10 := by unfold mostE at o2; (repeat' split at o2) <;> omega
  unfold targetN; (repeat' split) <;> omega
structure PEdge.fit (e : PEdge) : Prop where
  s : 0 ≤ e.src ∧ e.src ≤ 100
  d : 0 ≤ e.dst ∧ e.dst ≤ 100
  c : 0 ≤ e.cls ∧ e.cls ≤ 100
  k : 0 ≤ e.step ∧ e.step ≤ 100
/-- An edge that the law's loops have met ahead of (i, k, r, j). -/
def metE (i k r j : Nat) (m : Nat) (e : PEdge) : Prop := e.cls < i ∨ (e.cls = i ∧ (e.step < k ∨ (e.step = k ∧ (e.src < r ∨ (e.src = r ∧ m < j)))))
def usedI (E : List PEdge) (used : List Bool) (i k r j : Nat) : Prop := used.length = E.length ∧ ∀ m e, E[m]? = some e → metE i k r j m e → used.getD m false = true
/-- What is known of the edges of a system. -/
structure EFacts (s : PSys) (E : List PEdge) : Prop where
  mem : ∀ e ∈ E, ∃ (i k : Nat) (c : PCls) (x : PStep), s.classes[i]? = some c ∧ c.steps[k]? = some x ∧ isEdge s c i k x e
  has : ∀ (i k : Nat) (c : PCls) (x : PStep) (f : Int), s.classes[i]? = some c → c.steps[k]? = some x → waitB s x = true → f ∈ holdL s c i (c.steps.take k) → hasE E f (targetN s x) = true
theorem eFacts (s : PSys) : EFacts s (edC s 0 s.classes []) where
  mem e he := by
    rcases edC_mem s he with h | ⟨j, c, k, x, h1, h2, h3⟩
    · cases h
    · exact ⟨j, k, c, x, h1, h2, by simpa using h3⟩
  has i k c x f h1 h2 h3 h4 := edC_has s (j := i) h1 h2 h3 (by simpa using h4)
theorem eFit {s : PSys} (hg : s.good) : ∀ e ∈ edC s 0 s.classes [], e.fit := by
  intro e he
  obtain ⟨i, k, c, x, h1, h2, h3, h4, h5, h6, h7⟩ := (eFacts s).mem e he
  have hi := (List.getElem?_eq_some_iff.1 h1).1
  have hk := (List.getElem?_eq_some_iff.1 h2).1
  have hcg := hg.cls c (List.mem_of_getElem? h1)
  have hx := targetN_range hg (hcg.pre x (List.mem_of_getElem? h2))
  have h12 := hcg.l12
  have hnp := hg.np
  have hnl := hg.nl
  have hnc := hg.nc
  obtain ⟨r, hr, hr2, _⟩ := holdL_range hi h7
  exact ⟨by omega, by omega, by omega, by omega⟩
theorem met_zero {s : PSys} {E : List PEdge} (h : EFacts s E) {e : PEdge} (he : e ∈ E) {m : Nat} : ¬ metE 0 0 0 0 m e := by
  obtain ⟨i, k, c, x, h1, h2, h3, h4, h5, h6, h7⟩ := h.mem e he
  have hi := (List.getElem?_eq_some_iff.1 h1).1
  obtain ⟨r, hr, _⟩ := holdL_range hi h7
  unfold metE; omega
theorem used_init {s : PSys} {E : List PEdge} (h : EFacts s E) : usedI E (List.replicate E.length false) 0 0 0 0 :=
  ⟨by simp, fun m e hm hme => absurd hme (met_zero h (List.mem_of_getElem? hm))⟩
/-- All edges of class i are met when its steps have been gone through. -/
theorem used_class {s : PSys} {E : List PEdge} (h : EFacts s E) {used : List Bool} {i : Nat} {c : PCls} (hc : s.classes[i]? = some c) (hu : usedI E used i c.steps.length 0 0) : usedI E used (i + 1) 0 0 0 := by
  refine ⟨hu.1, fun m e hm hme => hu.2 m e hm ?_⟩
  obtain ⟨i', k, d, x, h1, h2, h3, h4, h5, h6, h7⟩ := h.mem e (List.mem_of_getElem? hm)
  have hi := (List.getElem?_eq_some_iff.1 h1).1
  obtain ⟨r, hr, _⟩ := holdL_range hi h7
  by_cases hii : i' = i
  · subst hii
    rw [hc] at h1; cases h1
    have hk := (List.getElem?_eq_some_iff.1 h2).1
    unfold metE; omega
  · unfold metE at hme ⊢; omega
/-- A step that does not wait has no edge. -/
theorem used_skip {s : PSys} {E : List PEdge} (h : EFacts s E) {used : List Bool} {i k : Nat} {c : PCls} {x : PStep} (hc : s.classes[i]? = some c) (hx : c.steps[k]? = some x) (hw : waitB s x = false)
    (hu : usedI E used i k 0 0) : usedI E used i (k + 1) 0 0 := by
  refine ⟨hu.1, fun m e hm hme => hu.2 m e hm ?_⟩
  obtain ⟨i', k', d, y, h1, h2, h3, h4, h5, h6, h7⟩ := h.mem e (List.mem_of_getElem? hm)
  have hi := (List.getElem?_eq_some_iff.1 h1).1
  obtain ⟨r, hr, _⟩ := holdL_range hi h7
  by_cases hii : i' = i ∧ k' = k
  · obtain ⟨rfl, rfl⟩ := hii
    rw [hc] at h1; cases h1
    rw [hx] at h2; cases h2
    rw [hw] at h3; cases h3
  · unfold metE at hme ⊢; omega
/-- All edges of a step are met when all resources have been gone through. -/
theorem used_step {s : PSys} {E : List PEdge} (h : EFacts s E) {used : List Bool} {i k : Nat} (hu : usedI E used i k (s.pools.length + s.locks.length + s.classes.length) 0) : usedI E used i (k + 1) 0 0 := by
  refine ⟨hu.1, fun m e hm hme => hu.2 m e hm ?_⟩
  obtain ⟨i', k', d, y, h1, h2, h3, h4, h5, h6, h7⟩ := h.mem e (List.mem_of_getElem? hm)
  have hi := (List.getElem?_eq_some_iff.1 h1).1
  obtain ⟨r, hr, hr2, _⟩ := holdL_range hi h7
  unfold metE at hme ⊢; omega
theorem used_res {E : List PEdge} {used : List Bool} {i k r : Nat} (hu : usedI E used i k r E.length) : usedI E used i k (r + 1) 0 := by
  refine ⟨hu.1, fun m e hm hme => hu.2 m e hm ?_⟩
  have hm := (List.getElem?_eq_some_iff.1 hm).1
  unfold metE at hme ⊢; omega
/-- An edge with other ends is none of this step's edges from r, or one that is not held. -/
theorem used_other {E : List PEdge} {used : List Bool} {i k r m : Nat} {e : PEdge} (hm : E[m]? = some e) (hn : e.cls = i → e.step = k → e.src = r → False)
    (hu : usedI E used i k r m) : usedI E used i k r (m + 1) := by
  refine ⟨hu.1, fun m' e' hm' hme => ?_⟩
  by_cases hmm : m' = m
  · subst hmm
    rw [hm] at hm'; cases hm'
    refine hu.2 _ _ hm ?_
    have hn : ¬ (e.cls = i ∧ e.step = k ∧ e.src = r) := fun h => hn h.1 h.2.1 h.2.2
    unfold metE at hme ⊢; omega
  · refine hu.2 _ _ hm' ?_
    unfold metE at hme ⊢; omega
theorem used_this {E : List PEdge} {used : List Bool} {i k r m : Nat} {e : PEdge} (b : Bool) (hm : E[m]? = some e) (hb : e.cls = i → e.step = k → e.src = r → b = true)
    (hu : usedI E used i k r m) : usedI E (used.set m (used.getD m false || b)) i k r (m + 1) := by
  have hml := (List.getElem?_eq_some_iff.1 hm).1
  refine ⟨by simp [hu.1], fun m' e' hm' hme => ?_⟩
  by_cases hmm : m' = m
  · subst hmm
    rw [hm] at hm'; cases hm'
    rw [getD_set, if_pos ⟨rfl, by rw [hu.1]; exact hml⟩]
    by_cases h3 : e.cls = i ∧ e.step = k ∧ e.src = r
    · rw [hb h3.1 h3.2.1 h3.2.2, Bool.or_true]
    · rw [hu.2 _ _ hm (by unfold metE at hme ⊢; omega), Bool.true_or]
  · have := hu.2 m' e' hm' (by unfold metE at hme ⊢; omega)
    rw [getD_set, if_neg (fun hh => hmm hh.1.symm)]
    exact this
/-- The step's own edge: it is held. -/
theorem edge_held {s : PSys} {E : List PEdge} (h : EFacts s E) {i k r : Nat} {c : PCls} {x : PStep} (hc : s.classes[i]? = some c) (hx : c.steps[k]? = some x) {e : PEdge} (he : e ∈ E) (h1 : e.cls = i) (h2 : e.step = k) (h3 : e.src = r) :
    e.dst = targetN s x ∧ holdB s c i (c.steps.take k) r = true := by
  obtain ⟨i', k', d, y, g1, g2, g3, g4, g5, g6, g7⟩ := h.mem e he
  have hi := (List.getElem?_eq_some_iff.1 g1).1
  obtain ⟨r', hr, hr2, hr3⟩ := holdL_range hi g7
  obtain rfl : i' = i := by omega
  obtain rfl : k' = k := by omega
  obtain rfl : r' = r := by omega
  rw [hc] at g1; cases g1
  rw [hx] at g2; cases g2
  exact ⟨g6, hr3⟩
theorem used_end {s : PSys} {E : List PEdge} (h : EFacts s E) {used : List Bool} (hu : usedI E used s.classes.length 0 0 0) {m : Nat} (hm : m < E.length) : used.getD m false = true := by
  refine hu.2 m _ (List.getElem?_eq_getElem hm) ?_
  obtain ⟨i, k, c, x, g1, g2, g3, g4, g5, g6, g7⟩ := h.mem _ (List.getElem_mem hm)
  have hi := (List.getElem?_eq_some_iff.1 g1).1
  unfold metE; omega
end Go.AM

set_option maxRecDepth 8000
set_option maxHeartbeats 1000000
namespace Go.AM
open Go Go.Proofs

/- ### the edges, with a map of those seen -/
abbrev endD (a b : Int) : D := .agg [.int .i64 a, .int .i64 b]
def keyE (e : PEdge) : D × D := (endD e.src e.dst, .bool true)
abbrev seenM (l : List PEdge) : List (D × D) := l.map keyE
theorem keyEq_end (a b c d : Int) : D.keyEq (endD a b) (endD c d) = (decide (a = c) && decide (b = d)) := by
  simp [D.keyEq, endD, D.flatEqs, D.flatEq]
theorem seen_find : ∀ (l : List PEdge) (a b : Int) (i : Nat), (mapFindI (endD a b) (seenM l) i).map (·.2) = if hasE l a b = true then some (D.bool true) else none
  | [], _, _, _ => rfl
  | e :: r, a, b, i => by
    have hL : mapFindI (endD a b) (seenM (e :: r)) i = if (decide (a = e.src) && decide (b = e.dst)) = true then some (i, D.bool true) else mapFindI (endD a b) (seenM r) (i + 1) := by
      simp only [seenM, List.map_cons, mapFindI, keyE, keyEq_end]
    have hR : hasE (e :: r) a b = ((decide (e.src = a) && decide (e.dst = b)) || hasE r a b) := by simp [hasE]
    rw [hL]
    by_cases h : a = e.src ∧ b = e.dst
    · have h1 : (decide (a = e.src) && decide (b = e.dst)) = true := by simp [h.1, h.2]
      have h2 : hasE (e :: r) a b = true := by rw [hR]; simp [h.1, h.2]
      rw [if_pos h1, if_pos h2]; rfl
    · have h1 : ¬ (decide (a = e.src) && decide (b = e.dst)) = true := by simpa using h
      have h2 : hasE (e :: r) a b = hasE r a b := by
        rw [hR]
        have : (decide (e.src = a) && decide (e.dst = b)) = false := by
          rw [Bool.and_eq_false_iff, decide_eq_false_iff_not, decide_eq_false_iff_not]
          by_cases ha : a = e.src
          · exact .inr (fun hb => h ⟨ha, hb.symm⟩)
          · exact .inl (fun e => ha e.symm)
        rw [this, Bool.false_or]
      rw [if_neg h1, h2]
      exact seen_find r a b (i + 1)
theorem seen_get (l : List PEdge) (a b : Int) : (mapFind (endD a b) (seenM l)).getD (.bool false) = .bool (hasE l a b) := by
  unfold mapFind; rw [seen_find]; cases hasE l a b <;> rfl
theorem seen_set {l : List PEdge} {a b : Int} (h : hasE l a b = false) (x : PEdge) (hx : x.src = a) (hx2 : x.dst = b) : mapSet (endD a b) (.bool true) (seenM l) = seenM (l ++ [x]) := by
  have h0 : mapFindI (endD a b) (seenM l) 0 = none := by
    have := seen_find l a b 0
    rw [h] at this
    cases e : mapFindI (endD a b) (seenM l) 0 with
    | none => rfl
    | some p => rw [e] at this; cases this
  rw [mapSet_none h0]
  simp [keyE, hx, hx2]
theorem wideKey_0 : wideKey Try.prog 68 (.agg [.int .i64 0, .int .i64 0]) = true := by kernel_rfl
theorem isKey_end (t : TypeDesc) {a b : Int} (ha : 0 ≤ a ∧ a ≤ 100) (hb : 0 ≤ b ∧ b ≤ 100) : D.isKeyP Try.prog 68 t (endD a b) = true :=
  isKeyP_of wideKey_0 ⟨rfl, inR_i64.2 (by omega), rfl, inR_i64.2 (by omega), trivial⟩
theorem seen_keys (t : TypeDesc) {l : List PEdge} (h : ∀ e ∈ l, e.fit) : ((seenM l).all fun x => D.isKeyP Try.prog 68 t x.1) = true := by
  rw [List.all_eq_true]
  intro x hx
  obtain ⟨e, he, rfl⟩ := List.mem_map.1 hx
  exact isKey_end t (h e he).s (h e he).d
theorem repl2 : (some (Value.agg #[Value.int IntKind.i64 0, Value.int IntKind.i64 0]) = some (Value.agg (Array.replicate 2 (Value.int IntKind.i64 0)))) = True := eq_true rfl
theorem lookupw_end {P : Program} {τ : Option Ty} {own : List Obj} {x : AV} {a b : Int} {c : Bool} {K : AV → Prop} : lookupw P τ own x (.agg [.dat (.int .i64 a), .dat (.int .i64 b)]) c K = lookupw P τ own x (.dat (endD a b)) c K := rfl
theorem mapUpdatew_end {P : Program} {τ : Option Ty} {own : List Obj} {x v : AV} {a b : Int} {K : AV → List Obj → List Nat → Prop} : mapUpdatew P τ own x (.agg [.dat (.int .i64 a), .dat (.int .i64 b)]) v K = mapUpdatew P τ own x (.dat (endD a b)) v K := rfl

abbrev tabWE : List (Nat × Contract) := [(31, dataC checkR), (37, dataC waitsR), (40, dataC targetR), (41, dataC holdR)]
theorem tabWE_ok : OkG Try.prog (tbl tabWE) := okG_cons check_ok (okG_cons waits_ok (okG_cons resource_ok (okG_cons holdings_ok okG_nil)))
theorem edges_ok : OkF Try.prog 18 (dataC edgesR) := by
  refine okF_data Try.func18 rfl (by decide) ?_
  rintro ds v ⟨s, rfl, hf, rfl⟩
  refine sem_of_awp (Γ := tbl tabWE) tabWE_ok _ _ _ ?_
  simp only [go_sem, Int.reduceEq, Int.reduceLT, Int.reduceLE, eq_self, Int.natCast_nonneg, Int.toNat_natCast, Try.ntmps18, sysD]
  refine call_data checkR (by simp) [sysD s] _ rfl ⟨s, rfl, hf, rfl⟩ (.inl rfl) ?_
  by_cases h : checkE s = 0
  case neg =>
    unfold edgesV
    rw [if_pos h]
    simp only [go_sem, Int.reduceEq, Int.reduceLT, Int.reduceLE, eq_self, Int.natCast_nonneg, Int.toNat_natCast, h]
    refine post_res (.inl rfl) [.tmp 2, .tmp 3] rfl ?_
    simp only [go_sem]
    exact le_fin (by simp only [go_sem]) (by simp only [go_sem])
  unfold edgesV
  rw [if_neg (by rw [h]; decide)]
  have hg := good_of h
  have hfit := eFit hg
  generalize hv : edC s 0 s.classes [] = V at *
  have hnp := hg.np
  have hnl := hg.nl
  have hnc := hg.nc
  simp only [go_sem, Int.reduceEq, Int.reduceLT, Int.reduceLE, eq_self, Int.natCast_nonneg, Int.toNat_natCast, h]
  refine sem_le (le_addnil 5 (some 4) rfl (Nat.zero_le _)) ?_
  simp only [go_sem, Int.reduceEq, Int.reduceLT, Int.reduceLE, eq_self, Int.natCast_nonneg, Int.toNat_natCast]
  refine sem_loop (fun p : Nat × List PEdge => ⟨slotsOf 75 [(1, .ptr 0 0 0), (5, .sl 2 0 p.2.length), (6, .map 1), (21, .dat (.sl (some 4) (s.classes.map clsD))), (22, .dat (.int .i64 s.classes.length)), (23, .dat (.int .i64 p.1))], [sysO s, .map (seenM p.2), .row (some 4) (edgesD p.2)], 0, []⟩)
    (fun p => p.1 ≤ s.classes.length ∧ p.2.length ≤ 144 * p.1 ∧ edC s p.1 (s.classes.drop p.1) p.2 = V) (fun p => s.classes.length - p.1) (0, []) ⟨Nat.zero_le _, Nat.zero_le _, hv⟩ ?_ ?_
  · exact le_slots' (by simp only [go_sem, Int.natCast_zero])
  · rintro ⟨i, acc⟩ ⟨hi, ha, hI⟩
    simp only at hi ha hI
    refine sem_of_awp (Γ := tbl tabWE) tabWE_ok _ _ _ ?_
    cases hd : s.classes.drop i with
    | nil =>
      have := end_of_drop hd hi
      have hk2 : ¬ (i : Int) < s.classes.length := by omega
      rw [hd, edC] at hI
      subst hI
      simp only [go_sem, Int.reduceEq, Int.reduceLT, Int.reduceLE, eq_self, Int.natCast_nonneg, Int.toNat_natCast, hk2]
      refine post_res (.inl rfl) [.tmp 2, .tmp 3] rfl ?_
      simp only [go_sem]
      refine Le.trans (le_freeze 2 (ag := some 4) rfl (Nat.zero_le _)) ?_
      simp only [go_sem, edges_take, edges_len, Nat.le_refl]
      exact le_fin (by simp only [go_sem]) (by simp only [go_sem])
    | cons c q =>
      have hlt := lt_of_drop hd
      have hk2 : (i : Int) < s.classes.length := by omega
      have hk0 : (0 : Int) ≤ i := Int.natCast_nonneg i
      have hn := nth_of_drop (f := clsD) hd
      have hcg := hg.cls c (mem_of_drop hd)
      have hl12 := hcg.l12
      have hget : s.classes.getD i default = c := by rw [List.getD_eq_getElem?_getD, get_of_drop hd]; rfl
      rw [hd, edC] at hI
      simp only [go_sem, Int.reduceEq, Int.reduceLT, Int.reduceLE, eq_self, Int.natCast_nonneg, Int.toNat_natCast, hk2, hk0, hn, hlt, clsD, stepsD]
      refine sem_loop (fun p : Nat × List PEdge => ⟨slotsOf 75 [(1, .ptr 0 0 0), (5, .sl 2 0 p.2.length), (6, .map 1), (21, .dat (.sl (some 4) (s.classes.map clsD))), (22, .dat (.int .i64 s.classes.length)), (23, .dat (.int .i64 i)),
          (7, .dat (.int .i64 i)), (31, .dat (.sl (some 4) (c.steps.map stepD))), (32, .dat (.int .i64 c.steps.length)), (33, .dat (.int .i64 p.1))], [sysO s, .map (seenM p.2), .row (some 4) (edgesD p.2)], 0, []⟩)
        (fun p => p.1 ≤ c.steps.length ∧ p.2.length ≤ 144 * i + 12 * p.1 ∧ edC s (i + 1) q (edS s c i p.1 (c.steps.drop p.1) p.2) = V) (fun p => c.steps.length - p.1) (0, acc) ⟨Nat.zero_le _, by simp only; omega, hI⟩ ?_ ?_
      · exact le_slots' (by simp only [go_sem, Int.natCast_zero])
      · rintro ⟨k, acc⟩ ⟨hk, ha, hI⟩
        simp only at hk ha hI
        refine sem_of_awp (Γ := tbl tabWE) tabWE_ok _ _ _ ?_
        cases hd2 : c.steps.drop k with
        | nil =>
          have := end_of_drop hd2 hk
          have hj2 : ¬ (k : Int) < c.steps.length := by omega
          rw [hd2, edS] at hI
          simp only [go_sem, Int.reduceEq, Int.reduceLT, Int.reduceLE, eq_self, Int.natCast_nonneg, Int.toNat_natCast, hj2]
          refine ⟨inR_i64.2 (by omega), (i + 1, acc), ⟨by simp only; omega, by simp only; omega, by simp only; rw [drop_cons hd]; exact hI⟩, by simp only; omega, ?_⟩
          exact le_slots' (by simp only [go_sem, Int.natCast_add, Int.cast_ofNat_Int])
        | cons x q2 =>
          have hlt2 := lt_of_drop hd2
          have hj2 : (k : Int) < c.steps.length := by omega
          have hj0 : (0 : Int) ≤ k := Int.natCast_nonneg k
          have hn2 := nth_of_drop (f := stepD) hd2
          have hxp := hcg.pre x (mem_of_drop hd2)
          rw [hd2, edS] at hI
          simp only [go_sem, Int.reduceEq, Int.reduceLT, Int.reduceLE, eq_self, Int.natCast_nonneg, Int.toNat_natCast, hj2, hj0, hlt2, hn2, stepD]
          refine call_data waitsR (by simp) [sysD s, stepD x] _ rfl ⟨s, x, rfl, hg, hxp, rfl⟩ (.inl rfl) ?_
          cases hw : waitB s x with
          | false =>
            rw [hw, if_neg (by decide)] at hI
            simp only [go_sem, Int.reduceEq, Int.reduceLT, Int.reduceLE, eq_self, Int.natCast_nonneg, Int.toNat_natCast, hw]
            refine ⟨inR_i64.2 (by omega), (k + 1, acc), ⟨by simp only; omega, by simp only; omega, by simp only; rw [drop_cons hd2]; exact hI⟩, by simp only; omega, ?_⟩
            refine le_end (own := [_, _, _]) (ex := [_]) (Nat.zero_le _) ?_ ?_ ?_
            · simp only [go_sem, Int.natCast_add, Int.cast_ofNat_Int]
            · simp only [go_sem]
            · simp only [go_sem, Obj.under, AV.unders, AV.under]
          | true =>
            rw [hw, if_pos rfl] at hI
            simp only [go_sem, Int.reduceEq, Int.reduceLT, Int.reduceLE, eq_self, Int.natCast_nonneg, Int.toNat_natCast, hw]
            refine call_data targetR (by simp) [sysD s, stepD x] _ rfl ⟨s, x, rfl, hg, hxp, rfl⟩ (.inl rfl) ?_
            have hT := targetN_range hg hxp
            generalize targetN s x = T at *
            simp only [go_sem, Int.reduceEq, Int.reduceLT, Int.reduceLE, eq_self, Int.natCast_nonneg, Int.toNat_natCast]
            refine call_data holdR (by simp) [sysD s, .int .i64 i, .int .i64 k] _ rfl ⟨s, i, k, rfl, hf, h, hlt, by rw [hget]; omega, rfl⟩ (.inl rfl) ?_
            rw [hget]
            have hHl := holdL_len s c i (c.steps.take k)
            have hHr := fun f => holdL_range (s := s) (c := c) (i := i) (L := c.steps.take k) (f := f) hlt
            generalize holdL s c i (c.steps.take k) = H at *
            simp only [go_sem, Int.reduceEq, Int.reduceLT, Int.reduceLE, eq_self, Int.natCast_nonneg, Int.toNat_natCast, ints_len, List.length_map]
            refine sem_loop (fun p : Nat × List PEdge => ⟨slotsOf 75 [(1, .ptr 0 0 0), (5, .sl 2 0 p.2.length), (6, .map 1), (21, .dat (.sl (some 4) (s.classes.map clsD))), (22, .dat (.int .i64 s.classes.length)), (23, .dat (.int .i64 i)),
                (7, .dat (.int .i64 i)), (31, .dat (.sl (some 4) (c.steps.map stepD))), (32, .dat (.int .i64 c.steps.length)), (33, .dat (.int .i64 k)), (8, .dat (.int .i64 k)), (10, .dat (.int .i64 T)),
                (48, .dat (.sl none (intsD H))), (49, .dat (.int .i64 H.length)), (50, .dat (.int .i64 p.1))], [sysO s, .map (seenM p.2), .row (some 4) (edgesD p.2)], 0, []⟩)
              (fun p => p.1 ≤ H.length ∧ p.2.length ≤ 144 * i + 12 * k + p.1 ∧ edC s (i + 1) q (edS s c i (k + 1) q2 (addAll T i k (H.drop p.1) p.2)) = V) (fun p => H.length - p.1) (0, acc) ⟨Nat.zero_le _, by simp only; omega, hI⟩ ?_ ?_
            · refine le_end (own := [_, _, _]) (ex := [_]) (Nat.zero_le _) ?_ ?_ ?_
              · simp only [go_sem, Int.natCast_zero]
              · simp only [go_sem]
              · simp only [go_sem, Obj.under, AV.unders, AV.under]
            · rintro ⟨m, acc⟩ ⟨hm, ha, hI⟩
              simp only at hm ha hI
              refine sem_of_awp (Γ := tbl tabWE) tabWE_ok _ _ _ ?_
              cases hd3 : H.drop m with
              | nil =>
                have := end_of_drop hd3 hm
                have hm2 : ¬ (m : Int) < H.length := by omega
                rw [hd3, addAll] at hI
                simp only [go_sem, Int.reduceEq, Int.reduceLT, Int.reduceLE, eq_self, Int.natCast_nonneg, Int.toNat_natCast, hm2]
                refine ⟨inR_i64.2 (by omega), (k + 1, acc), ⟨by simp only; omega, by simp only; omega, by simp only; rw [drop_cons hd2]; exact hI⟩, by simp only; omega, ?_⟩
                exact le_slots' (by simp only [go_sem, Int.natCast_add, Int.cast_ofNat_Int])
              | cons f q3 =>
                have hlt3 := lt_of_drop hd3
                have hm2 : (m : Int) < H.length := by omega
                have hm0 : (0 : Int) ≤ m := Int.natCast_nonneg m
                have hn3 := nth_of_drop (f := D.int .i64) hd3
                have hF : 0 ≤ f ∧ f ≤ 100 := by
                  obtain ⟨r, hr, hr2, _⟩ := hHr f (mem_of_drop hd3)
                  omega
                have hkeys := fun t => seen_keys t (l := acc) fun e he => hfit e (by rw [← hI]; exact edC_sub s (edS_sub s c i (addAll_sub he)))
                have hkey := fun t => isKey_end t hF hT
                have hget2 := seen_get acc f T
                have hset := fun hh => seen_set (l := acc) (a := f) (b := T) hh ⟨f, T, i, k⟩ rfl rfl
                rw [hd3, addAll, addE] at hI
                simp only at hI
                simp only [go_sem, Int.reduceEq, Int.reduceLT, Int.reduceLE, eq_self, Int.natCast_nonneg, Int.toNat_natCast, hm2, hm0, hn3, hlt3, lookupw_end, hkey, hkeys, hget2, repl2]
                cases hh : hasE acc f T with
                | true =>
                  rw [hh, if_pos rfl] at hI
                  simp only [go_sem, Int.reduceEq, Int.reduceLT, Int.reduceLE, eq_self, Int.natCast_nonneg, Int.toNat_natCast, hh]
                  refine ⟨inR_i64.2 (by omega), (m + 1, acc), ⟨by simp only; omega, by simp only; omega, by simp only; rw [drop_cons hd3]; exact hI⟩, by simp only; omega, ?_⟩
                  refine le_end (own := [_, _, _]) (ex := [_]) (Nat.zero_le _) ?_ ?_ ?_
                  · simp only [go_sem, Int.natCast_add, Int.cast_ofNat_Int]
                  · simp only [go_sem]
                  · simp only [go_sem, Obj.under, AV.unders, AV.under]
                | false =>
                  rw [hh, if_neg (by decide)] at hI
                  have hset := hset hh
                  simp only [go_sem, Int.reduceEq, Int.reduceLT, Int.reduceLE, eq_self, Int.natCast_nonneg, Int.toNat_natCast, hh, mapUpdatew_end, hkey, hkeys, hset, edges_take, edges_len]
                  have e : edgesD (acc ++ [(⟨f, T, i, k⟩ : PEdge)]) = edgesD acc ++ [.agg [.int .i64 f, .int .i64 T, .int .i64 i, .int .i64 k]] := by rw [← edges_snoc]; rfl
                  refine ⟨by omega, by omega, inR_i64.2 (by omega), (m + 1, acc ++ [⟨f, T, i, k⟩]), ⟨by simp only; omega, by simp; omega, by simp only; rw [drop_cons hd3]; exact hI⟩, by simp only; omega, ?_⟩
                  simp only [e]
                  refine le_end (own := [_, _, _]) (ex := [_, _]) (Nat.zero_le _) ?_ ?_ ?_
                  · simp only [go_sem, Int.natCast_add, Int.cast_ofNat_Int, List.length_append, List.length_cons, List.length_nil, Nat.zero_add]
                  · simp only [go_sem]
                  · simp only [go_sem, Obj.under, AV.unders, AV.under]
end Go.AM

set_option maxRecDepth 8000
set_option maxHeartbeats 1000000
namespace Go.AM
open Go Go.Proofs

/- ### the same edges -/
theorem eqOk_0 : eqOk Try.prog 50 (.dat (.agg [.int .i64 0, .int .i64 0, .int .i64 0, .int .i64 0])) (.dat (.agg [.int .i64 0, .int .i64 0, .int .i64 0, .int .i64 0])) = true := by kernel_rfl
theorem nums_edge {e : PEdge} (h : e.fit) : numsD [.int .i64 e.src, .int .i64 e.dst, .int .i64 e.cls, .int .i64 e.step] [.int .i64 0, .int .i64 0, .int .i64 0, .int .i64 0] := by
  obtain ⟨h1, h2, h3, h4⟩ := h
  exact ⟨rfl, inR_i64.2 (by omega), rfl, inR_i64.2 (by omega), rfl, inR_i64.2 (by omega), rfl, inR_i64.2 (by omega), trivial⟩
theorem bin_neqE {e : PEdge} (h : e.fit) {K : AV → Prop} : binTop Try.prog .neq 50 (.dat (edgeD e)) (.dat (edgeD e)) K = K (.dat (.bool false)) := by
  unfold edgeD
  rw [bin_neq_agg eqOk_0 (nums_edge h) (nums_edge h), flatEqs_refl (nums_edge h)]
  rfl
def sameER (ds : List D) (v : AV) : Prop := ∃ (ag : Option Nat) (l : List PEdge), (ag = some 4 ∨ l = []) ∧ l.length ≤ 10000 ∧ (∀ e ∈ l, e.fit) ∧ ds = [.sl ag (edgesD l), .sl ag (edgesD l)] ∧ v = .dat (.bool true)
theorem sameEdges_ok : OkF Try.prog 20 (dataC sameER) := by
  refine okF_data Try.func20 rfl (by decide) ?_
  rintro ds v ⟨ag, l, hag, hl, hfit, rfl, rfl⟩
  refine sem_of_awp (Γ := tbl []) okG_nil _ _ _ ?_
  simp only [go_sem, Int.reduceEq, Int.reduceLT, Int.reduceLE, eq_self, Int.natCast_nonneg, Int.toNat_natCast, Try.ntmps20, edges_len, decide_true, Bool.not_true]
  refine sem_loop (fun k : Nat => ⟨slotsOf 26 [(0, .dat (.sl ag (edgesD l))), (1, .dat (.sl ag (edgesD l))), (5, .dat (.int .i64 k))], [], 0, []⟩)
    (fun k => k ≤ l.length) (fun k => l.length - k) 0 (Nat.zero_le _) ?_ ?_
  · exact le_slots' (by simp only [go_sem, Int.natCast_zero])
  · rintro k hk
    refine sem_of_awp (Γ := tbl []) okG_nil _ _ _ ?_
    cases hd : l.drop k with
    | nil =>
      have := end_of_drop hd hk
      have hk2 : ¬ (k : Int) < l.length := by omega
      simp only [go_sem, Int.reduceEq, Int.reduceLT, Int.reduceLE, eq_self, Int.natCast_nonneg, Int.toNat_natCast, hk2, edges_len]
      exact post_data (.inl rfl) [4] rfl trivial rfl
    | cons e q =>
      have hlt := lt_of_drop hd
      have hk2 : (k : Int) < l.length := by omega
      have hk0 : (0 : Int) ≤ k := Int.natCast_nonneg k
      have hn := nth_of_drop (f := edgeD) hd
      have hag : ag = some 4 := hag.resolve_right (fun h => by rw [h] at hlt; simp at hlt)
      subst hag
      have hne := fun K => bin_neqE (K := K) (hfit e (mem_of_drop hd))
      simp only [go_sem, Int.reduceEq, Int.reduceLT, Int.reduceLE, eq_self, Int.natCast_nonneg, Int.toNat_natCast, hk2, edges_len]
      refine sem_draw (pf := []) (Γ := tbl []) mixed okG_nil pureNo [0, 1, 2, 3, 4, 5, 6, 7, 8] (by kernel_rfl) ?_
      simp only [go_sem, Int.reduceEq, Int.reduceLT, Int.reduceLE, eq_self, Int.natCast_nonneg, Int.toNat_natCast, chainI, hk2, hk0, hlt, hn, edges_len, hne]
      refine ⟨inR_i64.2 (by omega), k + 1, by omega, by omega, ?_⟩
      exact le_slots' (by simp only [go_sem, Int.natCast_add, Int.cast_ofNat_Int])
theorem edS_len (s : PSys) (c : PCls) (i : Nat) : ∀ (k : Nat) (L : List PStep) (acc : List PEdge), (edS s c i k L acc).length ≤ acc.length + L.length * (s.pools.length + s.locks.length + 1)
  | _, [], acc => by simp [edS]
  | k, x :: r, acc => by
    have hA : ∀ (t i k : Int) (H : List Int) (acc : List PEdge), (addAll t i k H acc).length ≤ acc.length + H.length := by
      intro t i k H
      induction H with
      | nil => intro acc; exact Nat.le_refl _
      | cons f r ih => intro acc; have := ih (addE acc ⟨f, t, i, k⟩); have := addE_len acc ⟨f, t, i, k⟩; simp only [addAll, List.length_cons]; omega
    rw [edS]
    refine Nat.le_trans (edS_len s c i (k + 1) r _) ?_
    have : (if waitB s x = true then addAll (targetN s x) i k (holdL s c i (c.steps.take k)) acc else acc).length ≤ acc.length + (s.pools.length + s.locks.length + 1) := by
      split
      · exact Nat.le_trans (hA _ _ _ _ _) (Nat.add_le_add_left (holdL_len s c i _) _)
      · omega
    rw [List.length_cons, Nat.succ_mul]; omega
theorem edC_len (s : PSys) (n : Nat) : ∀ (i : Nat) (L : List PCls) (acc : List PEdge), (∀ c ∈ L, c.steps.length ≤ n) → (edC s i L acc).length ≤ acc.length + L.length * (n * (s.pools.length + s.locks.length + 1))
  | _, [], acc, _ => by simp [edC]
  | i, c :: r, acc, h => by
    rw [edC]
    refine Nat.le_trans (edC_len s n (i + 1) r _ (fun c hc => h c (List.mem_cons_of_mem _ hc))) ?_
    have h1 := edS_len s c i 0 c.steps acc
    have h2 := Nat.mul_le_mul_right (s.pools.length + s.locks.length + 1) (h c (List.mem_cons_self ..))
    rw [List.length_cons, Nat.succ_mul]; omega
end Go.AM

