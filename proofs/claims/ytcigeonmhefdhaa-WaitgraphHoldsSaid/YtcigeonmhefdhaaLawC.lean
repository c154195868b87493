/- Own work over the model of the kit. -/
import Derived.Test.YtcigeonmhefdhaaWalkB
import Derived.Test.YtcigeonmhefdhaaLawB
set_option linter.unusedSimpArgs false
set_option linter.unusedVariables false
set_option maxRecDepth 8000
set_option maxHeartbeats 1000000
namespace Go.AM
open Go Go.Proofs

/-- A join ahead of a region: what follows is walked once, from every state that M lets in. -/
theorem join_reg {P : Program} {id : Nat} {ops : Array Oper} {Q : Exit → S → Prop} {G : Prop} (M : S → Prop) (front : (∀ σ, M σ → sem P (.region id ops false) Q σ) → G) (tail : ∀ σ, M σ → sem P (.region id ops false) Q σ) : G := front tail

abbrev tabLH : List (Nat × Contract) := [(10, dataC awakeR), (11, dataC fewR), (31, dataC checkR), (18, dataC edgesR), (16, dataC waitNR), (32, dataC heldR)]
theorem tabLH_ok : OkG Try.prog (tbl tabLH) := okG_cons awake_ok (okG_cons few_ok (okG_cons check_ok (okG_cons edges_ok (okG_cons Waits_ok (okG_cons held_ok okG_nil)))))
theorem wait_kind {s : PSys} {x : PStep} (h : waitB s x = true) : (x.kind = 1 ∧ targetN s x = x.on) ∨ (x.kind = 3 ∧ targetN s x = x.on + s.pools.length) ∨ (x.kind = 5 ∧ targetN s x = x.on + ((s.pools.length : Int) + s.locks.length)) := by
  unfold waitB at h
  by_cases h3 : x.kind = 3
  · exact .inr (.inl ⟨h3, by simp [targetN, h3]; omega⟩)
  by_cases h5 : x.kind = 5
  · exact .inr (.inr ⟨h5, by simp [targetN, h5]; omega⟩)
  by_cases h1 : x.kind = 1
  · exact .inl ⟨h1, by simp [targetN, h1]⟩
  rw [if_neg (by omega), if_neg h1] at h
  cases h
theorem bools_upd {l : List Bool} {m : Nat} {b : Bool} : (boolsD l).set m (.bool b) = boolsD (l.set m b) := by simp [boolsD, List.map_set]
theorem bools_len {l : List Bool} : (boolsD l).length = l.length := by simp
theorem bools_rep {n : Nat} : List.replicate n (D.bool false) = boolsD (List.replicate n false) := by simp [boolsD]

theorem lawHolds_ok : OkF Try.prog 9 (dataC lawER) := by
  refine okF_data Try.func9 rfl (by decide) ?_
  rintro ds v ⟨s, rfl, rfl⟩
  refine sem_of_awp (Γ := tbl tabLH) tabLH_ok _ _ _ ?_
  simp only [go_sem, Int.reduceEq, Int.reduceLT, Int.reduceLE, eq_self, Int.natCast_nonneg, Int.toNat_natCast, Try.ntmps9, sysD]
  refine call_data awakeR (by simp) [] _ rfl awakeR_true (.inl rfl) ?_
  simp only [go_sem, Int.reduceEq, Int.reduceLT, Int.reduceLE, eq_self, Int.natCast_nonneg, Int.toNat_natCast]
  refine call_data fewR (by simp) [sysD s] _ rfl ⟨s, rfl, rfl⟩ (.inl rfl) ?_
  cases hf : fewB s with
  | false =>
    simp only [go_sem, Int.reduceEq, Int.reduceLT, Int.reduceLE, eq_self, Int.natCast_nonneg, Int.toNat_natCast, hf]
    refine call_data awakeR (by simp) [] _ rfl awakeR_true (.inl rfl) ?_
    simp only [go_sem, Int.reduceEq, Int.reduceLT, Int.reduceLE, eq_self, Int.natCast_nonneg, Int.toNat_natCast]
    exact post_data (.inl rfl) [2] rfl trivial rfl
  | true =>
  have hs := fewB_small hf
  simp only [go_sem, Int.reduceEq, Int.reduceLT, Int.reduceLE, eq_self, Int.natCast_nonneg, Int.toNat_natCast, hf]
  refine call_data checkR (by simp) [sysD s] _ rfl ⟨s, rfl, hs, rfl⟩ (.inl rfl) ?_
  by_cases h : checkE s = 0
  case neg =>
    simp only [go_sem, Int.reduceEq, Int.reduceLT, Int.reduceLE, eq_self, Int.natCast_nonneg, Int.toNat_natCast, h]
    refine call_data awakeR (by simp) [] _ rfl awakeR_true (.inl rfl) ?_
    simp only [go_sem, Int.reduceEq, Int.reduceLT, Int.reduceLE, eq_self, Int.natCast_nonneg, Int.toNat_natCast]
    exact post_data (.inl rfl) [2] rfl trivial rfl
  have hg := good_of h
  have hnp := hg.np
  have hnl := hg.nl
  have hnc := hg.nc
  simp only [go_sem, Int.reduceEq, Int.reduceLT, Int.reduceLE, eq_self, Int.natCast_nonneg, Int.toNat_natCast, h]
  refine call_data edgesR (by simp) [sysD s] _ rfl ⟨s, rfl, hs, rfl⟩ (.inl rfl) ?_
  have hlen := edC_len s 12 0 s.classes [] (fun c hc => (hg.cls c hc).l12)
  have hl2 : s.classes.length * (12 * (s.pools.length + s.locks.length + 1)) ≤ 6 * (12 * 11) := Nat.mul_le_mul hnc (by omega)
  have hv : edgesV s = .tup [.dat (.sl (some 4) (edgesD (edC s 0 s.classes []))), .dat (.int .i64 0)] := by unfold edgesV; rw [if_neg (by rw [h]; decide)]
  have hE := eFacts s
  rw [hv]
  clear hv
  generalize edC s 0 s.classes [] = E at *
  have hEl : E.length ≤ 792 := by simp at hlen; omega
  simp only [go_sem, Int.reduceEq, Int.reduceLT, Int.reduceLE, eq_self, Int.natCast_nonneg, Int.toNat_natCast, edges_len]
  refine ⟨Int.le_refl _, by omega, ?_⟩
  refine sem_draw (pf := []) (Γ := tbl tabLH) mixed tabLH_ok pureNo [0, 1, 2, 3, 4, 5, 6, 7, 8, 9, 10, 11] (by kernel_rfl) ?_
  simp only [go_sem, Int.reduceEq, Int.reduceLT, Int.reduceLE, eq_self, Int.natCast_nonneg, Int.toNat_natCast, chainI, List.length_map, bools_rep]
  refine ⟨inR_i64.2 (by omega), ?_⟩
  refine sem_loop (fun p : Nat × List Bool => ⟨slotsOf 244 [(1, .ptr 0 0 0), (3, .dat (.sl (some 4) (edgesD E))), (5, .sl 1 0 E.length), (6, .dat (.int .i64 s.pools.length)), (7, .dat (.int .i64 ((s.pools.length : Int) + s.locks.length))),
      (57, .dat (.sl (some 4) (s.classes.map clsD))), (58, .dat (.int .i64 s.classes.length)), (59, .dat (.int .i64 p.1))], [sysO s, .row none (boolsD p.2)], 0, []⟩)
    (fun p => p.1 ≤ s.classes.length ∧ usedI E p.2 p.1 0 0 0) (fun p => s.classes.length - p.1) (0, List.replicate E.length false) ⟨Nat.zero_le _, used_init hE⟩ ?_ ?_
  · exact le_slots' (by simp only [go_sem, Int.natCast_zero])
  rintro ⟨i, used⟩ ⟨hi, hU⟩
  simp only at hi hU
  refine sem_of_awp (Γ := tbl tabLH) tabLH_ok _ _ _ ?_
  cases hd : s.classes.drop i with
  | nil =>
    have := end_of_drop hd hi
    obtain rfl : i = s.classes.length := by omega
    have hk2 : ¬ (s.classes.length : Int) < s.classes.length := by omega
    have hUl := hU.1
    simp only [go_sem, Int.reduceEq, Int.reduceLT, Int.reduceLE, eq_self, Int.natCast_nonneg, Int.toNat_natCast, hk2, edges_len]
    refine sem_loop (fun m : Nat => ⟨slotsOf 244 [(1, .ptr 0 0 0), (5, .sl 1 0 E.length), (200, .dat (.sl (some 4) (edgesD E))), (201, .dat (.int .i64 E.length)), (202, .dat (.int .i64 m))], [sysO s, .row none (boolsD used)], 0, []⟩)
      (fun m => m ≤ E.length) (fun m => E.length - m) 0 (Nat.zero_le _) ?_ ?_
    · exact le_slots' (by simp only [go_sem, Int.natCast_zero])
    rintro m hm
    refine sem_of_awp (Γ := tbl tabLH) tabLH_ok _ _ _ ?_
    cases hd3 : E.drop m with
    | nil =>
      have := end_of_drop hd3 hm
      have hm2 : ¬ (m : Int) < E.length := by omega
      simp only [go_sem, Int.reduceEq, Int.reduceLT, Int.reduceLE, eq_self, Int.natCast_nonneg, Int.toNat_natCast, hm2]
      exact post_data (.inl rfl) [2] rfl trivial rfl
    | cons e q3 =>
      have hlt3 := lt_of_drop hd3
      have hm2 : (m : Int) < E.length := by omega
      have hm0 : (0 : Int) ≤ m := Int.natCast_nonneg m
      have hn3 := nth_of_drop (f := edgeD) hd3
      have hub : D.nth (boolsD used) m = .bool true := by
        rw [← used_end hE hU hlt3]; exact D.nth_map (by rw [hUl]; exact hlt3)
      obtain ⟨i, k, c, x, g1, g2, g3, g4, g5, g6, g7⟩ := hE.mem e (mem_of_drop hd3)
      have gi := (List.getElem?_eq_some_iff.1 g1).1
      have gk := (List.getElem?_eq_some_iff.1 g2).1
      have gi2 : (i : Int) < s.classes.length := by omega
      have gk2 : (k : Int) < c.steps.length := by omega
      have gk3 : ¬ (c.steps.length : Int) ≤ k := by omega
      have gi3 : ¬ (s.classes.length : Int) ≤ i := by omega
      have gi0 : ¬ (i : Int) < 0 := by omega
      have gk0 : ¬ (k : Int) < 0 := by omega
      have gn : D.nth (s.classes.map clsD) i = clsD c := by
        rw [D.nth_map gi, List.getD_eq_getElem?_getD, g1]; rfl
      obtain ⟨src, dst, cls, step⟩ := e
      simp only at g4 g5
      subst g4 g5
      simp only [go_sem, Int.reduceEq, Int.reduceLT, Int.reduceLE, eq_self, Int.natCast_nonneg, Int.toNat_natCast, hm2, hm0, hn3, hlt3, edgeD]
      refine sem_draw (pf := []) (Γ := tbl tabLH) mixed tabLH_ok pureNo [0, 1, 2, 3, 4, 5, 6, 7, 8, 9, 10, 11, 12, 13, 14, 15, 16, 17, 18, 19, 20, 21, 22, 23, 24, 25, 26, 27, 28, 29, 30, 31, 32, 33, 34, 35] (by kernel_rfl) ?_
      simp only [go_sem, Int.reduceEq, Int.reduceLT, Int.reduceLE, eq_self, Int.natCast_nonneg, Int.toNat_natCast, chainI, hm2, hm0, hlt3, bools_len, hUl, hub, List.length_map, gi2, gk2, gk3, gi3, gi0, gk0, gn, gi, clsD, stepsD]
      refine ⟨inR_i64.2 (by omega), m + 1, by omega, by omega, ?_⟩
      refine le_end (own := [_, _]) (ex := [_]) (Nat.zero_le _) ?_ ?_ ?_
      · simp only [go_sem, Int.natCast_add, Int.cast_ofNat_Int]
      · simp only [go_sem]
      · simp only [go_sem, Obj.under, AV.unders, AV.under]
  | cons c q =>
  have hlt := lt_of_drop hd
  have hk2 : (i : Int) < s.classes.length := by omega
  have hk0 : (0 : Int) ≤ i := Int.natCast_nonneg i
  have hn := nth_of_drop (f := clsD) hd
  have hcg := hg.cls c (mem_of_drop hd)
  have hl12 := hcg.l12
  have hci : s.classes[i]? = some c := get_of_drop hd
  have hget : s.classes.getD i default = c := by rw [List.getD_eq_getElem?_getD, hci]; rfl
  simp only [go_sem, Int.reduceEq, Int.reduceLT, Int.reduceLE, eq_self, Int.natCast_nonneg, Int.toNat_natCast, hk2, hk0, hn, hlt, clsD, stepsD]
  refine sem_loop (fun p : Nat × List Bool => ⟨slotsOf 244 [(1, .ptr 0 0 0), (3, .dat (.sl (some 4) (edgesD E))), (5, .sl 1 0 E.length), (6, .dat (.int .i64 s.pools.length)), (7, .dat (.int .i64 ((s.pools.length : Int) + s.locks.length))),
      (57, .dat (.sl (some 4) (s.classes.map clsD))), (58, .dat (.int .i64 s.classes.length)), (59, .dat (.int .i64 i)), (8, .dat (.int .i64 i)), (9, .ptr 2 0 0),
      (65, .dat (.sl (some 4) (c.steps.map stepD))), (66, .dat (.int .i64 c.steps.length)), (67, .dat (.int .i64 p.1))], [sysO s, .row none (boolsD p.2), clsO c], 0, []⟩)
    (fun p => p.1 ≤ c.steps.length ∧ usedI E p.2 i p.1 0 0) (fun p => c.steps.length - p.1) (0, used) ⟨Nat.zero_le _, hU⟩ ?_ ?_
  · exact le_slots' (by simp only [go_sem, Int.natCast_zero])
  clear hU used
  rintro ⟨k, used⟩ ⟨hk, hU⟩
  simp only at hk hU
  refine sem_of_awpK [23] (Γ := tbl tabLH) tabLH_ok _ _ _ ?_
  cases hd2 : c.steps.drop k with
  | nil =>
    have := end_of_drop hd2 hk
    obtain rfl : k = c.steps.length := by omega
    have hj2 : ¬ (c.steps.length : Int) < c.steps.length := by omega
    simp only [go_sem, Int.reduceEq, Int.reduceLT, Int.reduceLE, eq_self, Int.natCast_nonneg, Int.toNat_natCast, hj2]
    refine ⟨inR_i64.2 (by omega), (i + 1, used), ⟨by simp only; omega, used_class hE hci hU⟩, by simp only; omega, ?_⟩
    refine le_end (own := [_, _]) (ex := [_]) (Nat.zero_le _) ?_ ?_ ?_
    · simp only [go_sem, Int.natCast_add, Int.cast_ofNat_Int]
    · simp only [go_sem]
    · simp only [go_sem, Obj.under, AV.unders, AV.under]
  | cons x q2 =>
  have hlt2 := lt_of_drop hd2
  have hj2 : (k : Int) < c.steps.length := by omega
  have hj0 : (0 : Int) ≤ k := Int.natCast_nonneg k
  have hn2 := nth_of_drop (f := stepD) hd2
  have hxp := hcg.pre x (mem_of_drop hd2)
  have hcx : c.steps[k]? = some x := get_of_drop hd2
  have hat : stepAt s i k = x := by rw [stepAt_nat, hget, List.getD_eq_getElem?_getD, hcx]; rfl
  have hW : waitN s i k = waitB s x := by
    unfold waitN
    rw [if_neg (by rw [h, noStep_nat hlt, hget]; omega), hat]
  have hHV := heldV_3 (k := k) h hlt (by rw [hget]; omega)
  rw [hget] at hHV
  have hHold := fun r e he h1 h2 h3 => edge_held (r := r) (e := e) hE hci hcx he h1 h2 h3
  have hHas := fun f => hE.has i k c x f hci hcx
  have hRange := fun f => holdL_range (s := s) (c := c) (i := i) (L := c.steps.take k) (f := f) hlt
  obtain ⟨⟨k1, k2⟩, ⟨o1, o2⟩, hc, hc0⟩ := preE_0 hxp
  have hon : x.on ≤ 10 := by unfold mostE at o2; (repeat' split at o2) <;> omega
  simp only [go_sem, Int.reduceEq, Int.reduceLT, Int.reduceLE, eq_self, Int.natCast_nonneg, Int.toNat_natCast, hj2, hj0, hlt2, hn2, stepD]
  refine call_data waitNR (by simp) [sysD s, .int .i64 i, .int .i64 k] _ rfl ⟨s, i, k, rfl, hs, rfl⟩ (.inl rfl) ?_
  rw [hW]
  cases hw : waitB s x with
  | false =>
    simp only [go_sem, Int.reduceEq, Int.reduceLT, Int.reduceLE, eq_self, Int.natCast_nonneg, Int.toNat_natCast, hw]
    refine ⟨inR_i64.2 (by omega), (k + 1, used), ⟨by simp only; omega, used_skip hE hci hcx hw hU⟩, by simp only; omega, ?_⟩
    refine le_end (own := [_, _, _]) (ex := [_]) (Nat.zero_le _) ?_ ?_ ?_
    · simp only [go_sem, Int.natCast_add, Int.cast_ofNat_Int]
    · simp only [go_sem]
    · simp only [go_sem, Obj.under, AV.unders, AV.under]
  | true =>
  simp only [go_sem, Int.reduceEq, Int.reduceLT, Int.reduceLE, eq_self, Int.natCast_nonneg, Int.toNat_natCast, hw]
  apply join_reg (P := Try.prog) (M := fun σ => Le σ ⟨slotsOf 244 [(1, .ptr 0 0 0), (3, .dat (.sl (some 4) (edgesD E))), (5, .sl 1 0 E.length), (6, .dat (.int .i64 s.pools.length)), (7, .dat (.int .i64 ((s.pools.length : Int) + s.locks.length))),
      (57, .dat (.sl (some 4) (s.classes.map clsD))), (58, .dat (.int .i64 s.classes.length)), (59, .dat (.int .i64 i)), (8, .dat (.int .i64 i)), (9, .ptr 2 0 0),
      (65, .dat (.sl (some 4) (c.steps.map stepD))), (66, .dat (.int .i64 c.steps.length)), (67, .dat (.int .i64 k)), (10, .dat (.int .i64 k)), (12, .dat (.int .i64 (targetN s x)))], [sysO s, .row none (boolsD used), clsO c], 0, []⟩)
  case front =>
    intro tail
    rcases wait_kind hw with ⟨hk, ht⟩ | ⟨hk, ht⟩ | ⟨hk, ht⟩
    · simp only [go_sem, Int.reduceEq, Int.reduceLT, Int.reduceLE, eq_self, Int.natCast_nonneg, Int.toNat_natCast, hk]
      refine tail _ ?_
      rw [ht]
      refine le_end (own := [_, _, _]) (ex := [_]) (Nat.zero_le _) ?_ ?_ ?_
      · simp only [go_sem]
      · simp only [go_sem]
      · simp only [go_sem, Obj.under, AV.unders, AV.under]
    · simp only [go_sem, Int.reduceEq, Int.reduceLT, Int.reduceLE, eq_self, Int.natCast_nonneg, Int.toNat_natCast, hk]
      refine ⟨inR_i64.2 (by omega), ?_⟩
      refine tail _ ?_
      rw [ht]
      refine le_end (own := [_, _, _]) (ex := [_]) (Nat.zero_le _) ?_ ?_ ?_
      · simp only [go_sem]
      · simp only [go_sem]
      · simp only [go_sem, Obj.under, AV.unders, AV.under]
    · simp only [go_sem, Int.reduceEq, Int.reduceLT, Int.reduceLE, eq_self, Int.natCast_nonneg, Int.toNat_natCast, hk]
      refine ⟨inR_i64.2 (by omega), ?_⟩
      refine tail _ ?_
      rw [ht]
      refine le_end (own := [_, _, _]) (ex := [_]) (Nat.zero_le _) ?_ ?_ ?_
      · simp only [go_sem]
      · simp only [go_sem]
      · simp only [go_sem, Obj.under, AV.unders, AV.under]
  case tail =>
    intro σ hσ
    refine sem_le hσ ?_
    refine sem_of_awp (Γ := tbl tabLH) tabLH_ok _ _ _ ?_
    have hUl' := balU_len s (c.steps.take k)
    have hBl := balB_len s (c.steps.take k)
    have hb1 : ∀ r, r < s.pools.length → holdB s c i (c.steps.take k) r = decide (0 < (balU s (c.steps.take k)).getD r 0) := fun r hr => by
      unfold holdB; rw [if_pos hr]
    have hb2 : ∀ r, s.pools.length ≤ r → r < s.pools.length + s.locks.length → holdB s c i (c.steps.take k) r = (balB s (c.steps.take k)).getD (r - s.pools.length) false := fun r h1 h2 => by
      unfold holdB; rw [if_neg (by omega), if_pos h2]
    have hb3 : ∀ r, s.pools.length + s.locks.length ≤ r → holdB s c i (c.steps.take k) r = (c.server && decide (r = s.pools.length + s.locks.length + i)) := fun r h1 => by
      unfold holdB; rw [if_neg (by omega), if_neg (by omega)]
    have hbE : ∀ r, holdB s c i (c.steps.take k) r = true → hasE E r (targetN s x) = true := fun r hr => hHas r hw (holdB_mem hr)
    have hDst : ∀ (r : Nat) e, e ∈ E → e.cls = i → e.step = k → e.src = r → e.dst = targetN s x ∧ holdB s c i (c.steps.take k) r = true := fun r e he h1 h2 h3 => hHold r e he h1 h2 h3
    clear hHold hHas hRange
    generalize holdB s c i (c.steps.take k) = Hb at *
    generalize balU s (c.steps.take k) = U at *
    generalize balB s (c.steps.take k) = B at *
    generalize targetN s x = T at *
    simp only [go_sem, Int.reduceEq, Int.reduceLT, Int.reduceLE, eq_self, Int.natCast_nonneg, Int.toNat_natCast]
    refine call_data heldR (by simp) [sysD s, .int .i64 i, .int .i64 k] _ rfl ⟨s, i, k, rfl, hs, hHV.symm⟩ (.inl rfl) ?_
    simp only [go_sem, Int.reduceEq, Int.reduceLT, Int.reduceLE, eq_self, Int.natCast_nonneg, Int.toNat_natCast, ints_len, List.length_map, hUl', hBl, decide_true, Bool.not_true]
    refine ⟨inR_i64.2 (by omega), ?_⟩
    refine sem_loop (fun p : Nat × List Bool => ⟨slotsOf 244 [(1, .ptr 0 0 0), (3, .dat (.sl (some 4) (edgesD E))), (5, .sl 1 0 E.length), (6, .dat (.int .i64 s.pools.length)), (7, .dat (.int .i64 ((s.pools.length : Int) + s.locks.length))),
        (57, .dat (.sl (some 4) (s.classes.map clsD))), (58, .dat (.int .i64 s.classes.length)), (59, .dat (.int .i64 i)), (8, .dat (.int .i64 i)), (9, .ptr 2 0 0),
        (65, .dat (.sl (some 4) (c.steps.map stepD))), (66, .dat (.int .i64 c.steps.length)), (67, .dat (.int .i64 k)), (10, .dat (.int .i64 k)), (12, .dat (.int .i64 T)),
        (13, .dat (.sl none (intsD U))), (14, .dat (.sl none (boolsD B))), (121, .dat (.int .i64 (((s.pools.length : Int) + s.locks.length) + s.classes.length))), (122, .dat (.int .i64 p.1))], [sysO s, .row none (boolsD p.2), clsO c], 0, []⟩)
      (fun p => p.1 ≤ s.pools.length + s.locks.length + s.classes.length ∧ usedI E p.2 i k p.1 0) (fun p => s.pools.length + s.locks.length + s.classes.length - p.1) (0, used) ⟨Nat.zero_le _, hU⟩ ?_ ?_
    · exact le_slots' (by simp only [go_sem, Int.natCast_zero])
    clear hσ hU used σ
    rintro ⟨r, used⟩ ⟨hr, hU⟩
    simp only at hr hU
    refine sem_of_awpK [34] (Γ := tbl tabLH) tabLH_ok _ _ _ ?_
    by_cases hrN : r = s.pools.length + s.locks.length + s.classes.length
    case pos =>
      subst hrN
      have hr2 : ¬ (((s.pools.length + s.locks.length + s.classes.length : Nat)) : Int) < ((s.pools.length : Int) + s.locks.length) + s.classes.length := by omega
      simp only [go_sem, Int.reduceEq, Int.reduceLT, Int.reduceLE, eq_self, Int.natCast_nonneg, Int.toNat_natCast, hr2]
      refine ⟨inR_i64.2 (by omega), (k + 1, used), ⟨by simp only; omega, used_step hE hU⟩, by simp only; omega, ?_⟩
      exact le_slots' (by simp only [go_sem, Int.natCast_add, Int.cast_ofNat_Int])
    have hr2 : (r : Int) < ((s.pools.length : Int) + s.locks.length) + s.classes.length := by omega
    have hr0 : (0 : Int) ≤ r := Int.natCast_nonneg r
    apply join_reg (P := Try.prog) (M := fun σ => Le σ ⟨slotsOf 244 [(1, .ptr 0 0 0), (3, .dat (.sl (some 4) (edgesD E))), (5, .sl 1 0 E.length), (6, .dat (.int .i64 s.pools.length)), (7, .dat (.int .i64 ((s.pools.length : Int) + s.locks.length))),
        (57, .dat (.sl (some 4) (s.classes.map clsD))), (58, .dat (.int .i64 s.classes.length)), (59, .dat (.int .i64 i)), (8, .dat (.int .i64 i)), (9, .ptr 2 0 0),
        (65, .dat (.sl (some 4) (c.steps.map stepD))), (66, .dat (.int .i64 c.steps.length)), (67, .dat (.int .i64 k)), (10, .dat (.int .i64 k)), (12, .dat (.int .i64 T)),
        (13, .dat (.sl none (intsD U))), (14, .dat (.sl none (boolsD B))), (121, .dat (.int .i64 (((s.pools.length : Int) + s.locks.length) + s.classes.length))), (122, .dat (.int .i64 r)), (16, .dat (.int .i64 r)), (17, .dat (.bool (Hb r)))], [sysO s, .row none (boolsD used), clsO c], 0, []⟩)
    case front =>
      intro tail
      by_cases g1 : r < s.pools.length
      · have g1a : (r : Int) < s.pools.length := by omega
        have g1b : ¬ (s.pools.length : Int) ≤ r := by omega
        have g1c : min (r : Int) ((s.pools.length : Int) - 1) = r := by omega
        have g1d : ¬ ((s.pools.length : Int) + s.locks.length) ≤ r := by omega
        have g1e : D.nth (intsD U) r = .int .i64 (U.getD r 0) := D.nth_map (by omega)
        simp only [go_sem, Int.reduceEq, Int.reduceLT, Int.reduceLE, eq_self, Int.natCast_nonneg, Int.toNat_natCast, hr2, g1a, g1b, g1c, g1d, g1e, hr0, ints_len, hUl', g1]
        refine ⟨inR_i64.2 (by omega), ?_⟩
        refine tail _ ?_
        rw [hb1 r g1]
        exact le_slots' (by simp only [go_sem])
      by_cases g2 : r < s.pools.length + s.locks.length
      · have g1a : ¬ (r : Int) < s.pools.length := by omega
        have g1b : (s.pools.length : Int) ≤ r := by omega
        have g1c : (r : Int) < (s.pools.length : Int) + s.locks.length := by omega
        have g1d : ¬ ((s.pools.length : Int) + s.locks.length) ≤ r := by omega
        obtain ⟨q, rfl⟩ := Nat.exists_eq_add_of_le (show s.pools.length ≤ r by omega)
        have g1f : ((s.pools.length + q : Nat) : Int) - s.pools.length = (q : Int) := by omega
        have g1e : D.nth (boolsD B) q = .bool (B.getD q false) := D.nth_map (by omega)
        have g1g : q < s.locks.length := by omega
        have g1h : (q : Int) < s.locks.length := by omega
        simp only [go_sem, Int.reduceEq, Int.reduceLT, Int.reduceLE, eq_self, Int.natCast_nonneg, Int.toNat_natCast, hr2, g1a, g1b, g1c, g1d, g1e, hr0, bools_len, hBl, g1f, g1g, g1h]
        refine ⟨inR_i64.2 (by omega), ?_⟩
        refine tail _ ?_
        rw [hb2 _ (by omega) g2, Nat.add_sub_cancel_left]
        exact le_slots' (by simp only [go_sem])
      · have g1a : ¬ (r : Int) < s.pools.length := by omega
        have g1b : (s.pools.length : Int) ≤ r := by omega
        have g1c : ¬ (r : Int) < (s.pools.length : Int) + s.locks.length := by omega
        have g1d : ((s.pools.length : Int) + s.locks.length) ≤ r := by omega
        cases hsv : c.server with
        | false =>
          simp only [go_sem, Int.reduceEq, Int.reduceLT, Int.reduceLE, eq_self, Int.natCast_nonneg, Int.toNat_natCast, hr2, g1a, g1b, g1c, g1d, hr0, hsv]
          refine tail _ ?_
          rw [hb3 r (by omega), hsv, Bool.false_and]
          exact le_slots' (by simp only [go_sem])
        | true =>
          simp only [go_sem, Int.reduceEq, Int.reduceLT, Int.reduceLE, eq_self, Int.natCast_nonneg, Int.toNat_natCast, hr2, g1a, g1b, g1c, g1d, hr0, hsv]
          refine ⟨inR_i64.2 (by omega), ?_⟩
          refine tail _ ?_
          rw [hb3 r (by omega), hsv, Bool.true_and]
          have e : decide ((r : Int) - ((s.pools.length : Int) + s.locks.length) = i) = decide (r = s.pools.length + s.locks.length + i) := by
            rw [decide_eq_decide]; omega
          rw [← e]
          exact le_slots' (by simp only [go_sem])
    case tail =>
      intro σ hσ
      refine sem_le hσ ?_
      refine sem_of_awp (Γ := tbl tabLH) tabLH_ok _ _ _ ?_
      simp only [go_sem, Int.reduceEq, Int.reduceLT, Int.reduceLE, eq_self, Int.natCast_nonneg, Int.toNat_natCast, edges_len]
      refine sem_loop (fun p : Nat × List Bool => ⟨slotsOf 244 [(1, .ptr 0 0 0), (3, .dat (.sl (some 4) (edgesD E))), (5, .sl 1 0 E.length), (6, .dat (.int .i64 s.pools.length)), (7, .dat (.int .i64 ((s.pools.length : Int) + s.locks.length))),
        (57, .dat (.sl (some 4) (s.classes.map clsD))), (58, .dat (.int .i64 s.classes.length)), (59, .dat (.int .i64 i)), (8, .dat (.int .i64 i)), (9, .ptr 2 0 0),
        (65, .dat (.sl (some 4) (c.steps.map stepD))), (66, .dat (.int .i64 c.steps.length)), (67, .dat (.int .i64 k)), (10, .dat (.int .i64 k)), (12, .dat (.int .i64 T)),
        (13, .dat (.sl none (intsD U))), (14, .dat (.sl none (boolsD B))), (121, .dat (.int .i64 (((s.pools.length : Int) + s.locks.length) + s.classes.length))), (122, .dat (.int .i64 r)), (16, .dat (.int .i64 r)), (17, .dat (.bool (Hb r))), (18, .dat (.bool (hasE (E.take p.1) r T))),
          (164, .dat (.sl (some 4) (edgesD E))), (165, .dat (.int .i64 E.length)), (166, .dat (.int .i64 p.1))], [sysO s, .row none (boolsD p.2), clsO c], 0, []⟩)
        (fun p => p.1 ≤ E.length ∧ usedI E p.2 i k r p.1) (fun p => E.length - p.1) (0, used) ⟨Nat.zero_le _, hU⟩ ?_ ?_
      · exact le_slots' (by simp only [go_sem, Int.natCast_zero, hasE, List.take_zero, List.any_nil])
      clear hU used hσ σ
      rintro ⟨m, used⟩ ⟨hm, hU⟩
      simp only at hm hU
      refine sem_of_awp (Γ := tbl tabLH) tabLH_ok _ _ _ ?_
      cases hd3 : E.drop m with
      | nil =>
        have := end_of_drop hd3 hm
        obtain rfl : m = E.length := by omega
        have hm2 : ¬ (E.length : Int) < E.length := by omega
        have hne : (Hb r && !hasE E r T) = false := by
          cases hh : Hb r with
          | false => rfl
          | true => rw [hbE r hh]; rfl
        rw [List.take_length]
        have next : ∃ x, (x.1 ≤ s.pools.length + s.locks.length + s.classes.length ∧ usedI E x.2 i k x.1 0) ∧ s.pools.length + s.locks.length + s.classes.length - x.1 < s.pools.length + s.locks.length + s.classes.length - r ∧ x = (r + 1, used) :=
          ⟨(r + 1, used), ⟨by simp only; omega, used_res hU⟩, by simp only; omega, rfl⟩
        obtain ⟨x', n1, n2, rfl⟩ := next
        cases hh : Hb r with
        | false =>
          simp only [go_sem, Int.reduceEq, Int.reduceLT, Int.reduceLE, eq_self, Int.natCast_nonneg, Int.toNat_natCast, hm2, hh]
          refine ⟨inR_i64.2 (by omega), _, n1, n2, ?_⟩
          exact le_slots' (by simp only [go_sem, Int.natCast_add, Int.cast_ofNat_Int])
        | true =>
          have hh2 := hbE r hh
          simp only [go_sem, Int.reduceEq, Int.reduceLT, Int.reduceLE, eq_self, Int.natCast_nonneg, Int.toNat_natCast, hm2, hh, hh2]
          refine ⟨inR_i64.2 (by omega), _, n1, n2, ?_⟩
          exact le_slots' (by simp only [go_sem, Int.natCast_add, Int.cast_ofNat_Int])
      | cons e q3 =>
        have hlt3 := lt_of_drop hd3
        have hm2 : (m : Int) < E.length := by omega
        have hm0 : (0 : Int) ≤ m := Int.natCast_nonneg m
        have hn3 := nth_of_drop (f := edgeD) hd3
        have hem : E[m]? = some e := get_of_drop hd3
        have heE := mem_of_drop hd3
        have hUl := hU.1
        have hub : D.nth (boolsD used) m = .bool (used.getD m false) := D.nth_map (by rw [hUl]; exact hlt3)
        have hsnoc : hasE (E.take (m + 1)) r T = (hasE (E.take m) r T || (decide (e.src = r) && decide (e.dst = T))) := by
          rw [List.take_add_one, hem]; simp [hasE]
        have hD := hDst r e heE
        by_cases he : e.src = r ∧ e.dst = T
        · have hnew := used_this (Hb r) hem (fun h1 h2 h3 => (hD h1 h2 h3).2) hU
          rw [he.1, he.2] at hsnoc
          simp only [decide_true, Bool.and_true, Bool.or_true] at hsnoc
          generalize hu : used.getD m false = u at *
          cases u with
          | true =>
            rw [Bool.true_or] at hnew
            simp only [go_sem, Int.reduceEq, Int.reduceLT, Int.reduceLE, eq_self, Int.natCast_nonneg, Int.toNat_natCast, hm2, hm0, hn3, hlt3, edgeD, he.1, he.2, decide_true, bools_len, hUl, hub, bools_upd]
            refine ⟨inR_i64.2 (by omega), (m + 1, used.set m true), ⟨by simp only; omega, hnew⟩, by simp only; omega, ?_⟩
            simp only [hsnoc]
            refine le_end (own := [_, _, _]) (ex := [_]) (Nat.zero_le _) ?_ ?_ ?_
            · simp only [go_sem, Int.natCast_add, Int.cast_ofNat_Int]
            · simp only [go_sem]
            · simp only [go_sem, Obj.under, AV.unders, AV.under]
          | false =>
            rw [Bool.false_or] at hnew
            simp only [go_sem, Int.reduceEq, Int.reduceLT, Int.reduceLE, eq_self, Int.natCast_nonneg, Int.toNat_natCast, hm2, hm0, hn3, hlt3, edgeD, he.1, he.2, decide_true, bools_len, hUl, hub, bools_upd]
            refine ⟨inR_i64.2 (by omega), (m + 1, used.set m (Hb r)), ⟨by simp only; omega, hnew⟩, by simp only; omega, ?_⟩
            simp only [hsnoc]
            refine le_end (own := [_, _, _]) (ex := [_]) (Nat.zero_le _) ?_ ?_ ?_
            · simp only [go_sem, Int.natCast_add, Int.cast_ofNat_Int]
            · simp only [go_sem]
            · simp only [go_sem, Obj.under, AV.unders, AV.under]
        · have hnew := used_other hem (fun h1 h2 h3 => he ⟨h3, (hD h1 h2 h3).1⟩) hU
          have hz : (decide (e.src = r) && decide (e.dst = T)) = false := by
            rw [Bool.and_eq_false_iff, decide_eq_false_iff_not, decide_eq_false_iff_not]
            by_cases h1 : e.src = r
            · exact .inr fun h2 => he ⟨h1, h2⟩
            · exact .inl h1
          rw [hz, Bool.or_false] at hsnoc
          by_cases h1 : e.src = r
          · have h2 : ¬ e.dst = T := fun h2 => he ⟨h1, h2⟩
            simp only [go_sem, Int.reduceEq, Int.reduceLT, Int.reduceLE, eq_self, Int.natCast_nonneg, Int.toNat_natCast, hm2, hm0, hn3, hlt3, edgeD, h1, h2, decide_true, decide_false]
            refine ⟨inR_i64.2 (by omega), (m + 1, used), ⟨by simp only; omega, hnew⟩, by simp only; omega, ?_⟩
            simp only [hsnoc]
            refine le_end (own := [_, _, _]) (ex := [_]) (Nat.zero_le _) ?_ ?_ ?_
            · simp only [go_sem, Int.natCast_add, Int.cast_ofNat_Int]
            · simp only [go_sem]
            · simp only [go_sem, Obj.under, AV.unders, AV.under]
          · simp only [go_sem, Int.reduceEq, Int.reduceLT, Int.reduceLE, eq_self, Int.natCast_nonneg, Int.toNat_natCast, hm2, hm0, hn3, hlt3, edgeD, h1, decide_false]
            refine ⟨inR_i64.2 (by omega), (m + 1, used), ⟨by simp only; omega, hnew⟩, by simp only; omega, ?_⟩
            simp only [hsnoc]
            refine le_end (own := [_, _, _]) (ex := [_]) (Nat.zero_le _) ?_ ?_ ?_
            · simp only [go_sem, Int.natCast_add, Int.cast_ofNat_Int]
            · simp only [go_sem]
            · simp only [go_sem, Obj.under, AV.unders, AV.under]
end Go.AM

