/- Own work over the model of the kit. -/
import Derived.Test.YtholibdhogbobaaB18
set_option linter.unusedSimpArgs false
set_option linter.unusedVariables false
set_option maxRecDepth 8000
set_option maxHeartbeats 4000000
namespace Go.AM
open Go Go.Proofs

abbrev tabRv : List (Nat × Contract) := [(10, dataC awakeR), (11, dataC fewR), (26, dataC resR), (20, dataC enoR), (27, dataC demNR), (28, dataC waitNR), (25, madeC copyR)]
theorem tabRv_ok : OkG Try.prog (tbl tabRv) := okG_cons awake_ok (okG_cons few_ok (okG_cons resources_ok (okG_cons enough_ok (okG_cons Demand_ok (okG_cons Waits_ok (okG_cons copy_ok okG_nil))))))
theorem lawReserves_ok : OkF Try.prog 9 (dataC lawAR) := by
  refine okF_data Try.func9 rfl (by decide) ?_
  rintro ds v ⟨s, a, rfl, ha, rfl⟩
  refine sem_of_awp (Γ := tbl tabRv) tabRv_ok _ _ _ ?_
  simp only [go_sem, Int.reduceEq, Int.reduceLT, Int.reduceLE, eq_self, Int.natCast_nonneg, Int.toNat_natCast, Try.ntmps9, sysD]
  refine call_data awakeR (by simp) [] _ rfl awakeR_true (.inl rfl) ?_
  simp only [go_sem, Int.reduceEq, Int.reduceLT, Int.reduceLE, eq_self, Int.natCast_nonneg, Int.toNat_natCast]
  refine call_data fewR (by simp) [sysD s] _ rfl ⟨s, rfl, rfl⟩ (.inl rfl) ?_
  cases hf : fewB s with
  | false =>
    simp only [go_sem, Int.reduceEq, Int.reduceLT, Int.reduceLE, eq_self, Int.natCast_nonneg, Int.toNat_natCast, hf]
    refine call_data awakeR (by simp) [] _ rfl awakeR_true (.inl rfl) ?_
    simp only [go_sem, Int.reduceEq, Int.reduceLT, Int.reduceLE, eq_self, Int.natCast_nonneg, Int.toNat_natCast]
    exact post_data (.inl rfl) [4] rfl trivial rfl
  | true =>
  have hs := fewB_fit hf
  by_cases hz : s.pools.length = 0
  · have hz2 : (s.pools.length : Int) = 0 := by omega
    simp only [go_sem, Int.reduceEq, Int.reduceLT, Int.reduceLE, eq_self, Int.natCast_nonneg, Int.toNat_natCast, hf, hz2, List.length_map]
    refine call_data awakeR (by simp) [] _ rfl awakeR_true (.inl rfl) ?_
    simp only [go_sem, Int.reduceEq, Int.reduceLT, Int.reduceLE, eq_self, Int.natCast_nonneg, Int.toNat_natCast]
    exact post_data (.inl rfl) [4] rfl trivial rfl
  have hz2 : ¬ (s.pools.length : Int) = 0 := by omega
  simp only [go_sem, Int.reduceEq, Int.reduceLT, Int.reduceLE, eq_self, Int.natCast_nonneg, Int.toNat_natCast, hf, hz2, List.length_map]
  refine call_data resR (by simp) [sysD s] _ rfl ⟨s, rfl, hs, rfl⟩ (.inl rfl) ?_
  by_cases hc : checkE s = 0
  case neg =>
    have hr : resN s = 0 := by unfold resN; rw [if_pos hc]
    simp only [go_sem, Int.reduceEq, Int.reduceLT, Int.reduceLE, eq_self, Int.natCast_nonneg, Int.toNat_natCast, hr]
    refine call_data awakeR (by simp) [] _ rfl awakeR_true (.inl rfl) ?_
    simp only [go_sem, Int.reduceEq, Int.reduceLT, Int.reduceLE, eq_self, Int.natCast_nonneg, Int.toNat_natCast]
    exact post_data (.inl rfl) [4] rfl trivial rfl
  have hr : ¬ resN s = 0 := by rw [resN_ok hc]; unfold nRes; omega
  have hg := good_of hc
  have hst := few_steps hf
  have hi : a % s.pools.length < s.pools.length := Nat.mod_lt _ (by omega)
  have hmod : (a : Int).tmod s.pools.length = ((a % s.pools.length : Nat) : Int) := (Int.ofNat_tmod _ _).symm
  generalize hie : a % s.pools.length = i at *
  have hi2 : (i : Int) < s.pools.length := by omega
  have hi0 : (0 : Int) ≤ i := Int.natCast_nonneg i
  have hnp := hg.np
  have hnc := hg.nc
  have hn : D.nth (s.pools.map poolD) i = poolD (s.pools.getD i default) := D.nth_map hi
  have hpb := hg.pool (s.pools.getD i default) (by rw [List.getD_eq_getElem?_getD, List.getElem?_eq_getElem hi]; exact List.getElem_mem hi)
  have hno : ¬ (checkE s ≠ 0 ∨ (i : Int) < 0 ∨ (s.pools.length : Int) ≤ i) := by omega
  have hen : enoN s i = if (s.pools.getD i default).size < demL i true s.classes then -1 else demL i true s.classes := by unfold enoN; rw [if_neg hno, Int.toNat_natCast]
  have hde : ∀ d, demN s i d = demL i d s.classes := fun d => by unfold demN; rw [if_neg hno]
  have hd0 := fun d => (demL_le hg i d s.classes.length (Nat.le_refl _))
  have hW := fun (n : Int) (h0 : 0 ≤ n) (h1 : n ≤ (s.pools.getD i default).size) => res_wid hc i h0 h1
  simp only [go_sem, Int.reduceEq, Int.reduceLT, Int.reduceLE, eq_self, Int.natCast_nonneg, Int.toNat_natCast, hr]
  refine ⟨inR_i64.2 (by omega), ?_⟩
  simp only [go_sem, Int.reduceEq, Int.reduceLT, Int.reduceLE, eq_self, Int.natCast_nonneg, Int.toNat_natCast, hmod, hz2, List.length_map]
  refine ⟨inR_i64.2 (by omega), ?_⟩
  refine call_data enoR (by simp) [sysD s, .int .i64 i] _ rfl ⟨s, i, rfl, hs, rfl⟩ (.inl rfl) ?_
  rw [hen]
  have hres : ∀ n : Int, (s.pools.map poolD).set i (.agg [.str (s.pools.getD i default).name, .int .i64 (s.pools.getD i default).size, .int .i64 n]) = (resS s i n).pools.map poolD := fun n => by
    have : (resS s i n).pools = s.pools.set i { s.pools.getD i default with res := n } := rfl
    rw [this, List.map_set]; rfl
  have hat : ∀ n : Int, (resS s i n).pools.getD i default = { s.pools.getD i default with res := n } := fun n => by
    have : (resS s i n).pools = s.pools.set i { s.pools.getD i default with res := n } := rfl
    rw [this, getD_set, if_pos ⟨rfl, hi⟩]
  have hcl : ∀ n : Int, (resS s i n).classes = s.classes := fun _ => rfl
  have hlk : ∀ n : Int, (resS s i n).locks = s.locks := fun _ => rfl
  have hpl : ∀ n : Int, (resS s i n).pools.length = s.pools.length := fun n => by simp [resS]
  generalize hp : s.pools.getD i default = p at *
  have hdF := hd0 false
  have hdT := hd0 true
  rw [List.take_length] at hdF hdT
  unfold PPool.bad at hpb
  by_cases h1 : p.size < demL i true s.classes
  · have h0 : (-1 : Int) < 0 := by decide
    simp only [go_sem, Int.reduceEq, Int.reduceLT, Int.reduceLE, eq_self, Int.natCast_nonneg, Int.toNat_natCast, h1, hi, hi2, hi0, hn, poolD, List.length_map]
    refine call_data demNR (by simp) [sysD s, .int .i64 i, .bool true] _ rfl ⟨s, i, true, rfl, hs, rfl⟩ (.inl rfl) ?_
    rw [hde]
    simp only [go_sem, Int.reduceEq, Int.reduceLT, Int.reduceLE, eq_self, Int.natCast_nonneg, Int.toNat_natCast, h1, decide_true]
    exact post_data (.inl rfl) [4] rfl trivial rfl
  rw [if_neg h1]
  generalize hDT : demL i true s.classes = dT at *
  have h2 : ¬ dT < 0 := by omega
  obtain ⟨z, hz3⟩ : ∃ z : Nat, p.size = z := ⟨p.size.toNat, by omega⟩
  have hzz : p.size + 1 = ((z + 1 : Nat) : Int) := by omega
  simp only [go_sem, Int.reduceEq, Int.reduceLT, Int.reduceLE, eq_self, Int.natCast_nonneg, Int.toNat_natCast, h1, h2, hi, hi2, hi0, hn, poolD, List.length_map, hzz]
  refine ⟨inR_i64.2 (by omega), ?_⟩
  refine sem_loop (fun r : Nat => ⟨slotsOf 124 [(2, .ptr 0 0 0), (5, .dat (.int .i64 i)), (6, .dat (.int .i64 dT)), (7, .dat (.int .i64 p.size)), (60, .dat (.int .i64 (z + 1 : Nat))), (61, .dat (.int .i64 r))], [sysO s], 0, []⟩)
    (fun r => r ≤ z + 1) (fun r => z + 1 - r) 0 (Nat.zero_le _) ?_ ?_
  · exact le_slots' (by simp only [go_sem, Int.natCast_zero])
  rintro r hrz
  by_cases hre : r = z + 1
  · have hr2 : ¬ (r : Int) < (z + 1 : Nat) := by omega
    refine sem_of_awp (Γ := tbl tabRv) tabRv_ok _ _ _ ?_
    simp only [go_sem, Int.reduceEq, Int.reduceLT, Int.reduceLE, eq_self, Int.natCast_nonneg, Int.toNat_natCast, hr2]
    exact post_data (.inl rfl) [4] rfl trivial rfl
  have hr2 : (r : Int) < (z + 1 : Nat) := by omega
  have hWr := hW r (by omega) (by omega)
  have hcr := hWr.check hc
  have hgr := good_of hcr
  have hfr : (resS s i r).fit := ⟨hgr.small⟩
  refine sem_of_awpK [15] (Γ := tbl tabRv) tabRv_ok _ _ _ ?_
  simp only [go_sem, Int.reduceEq, Int.reduceLT, Int.reduceLE, eq_self, Int.natCast_nonneg, Int.toNat_natCast, hr2]
  refine call_made copyR (by simp) [sysD s] _ _ rfl rfl ⟨s, rfl, hs.small, hst, rfl, rfl⟩ ?_
  have hrow := hres r
  simp only [go_sem, Int.reduceEq, Int.reduceLT, Int.reduceLE, eq_self, Int.natCast_nonneg, Int.toNat_natCast, AV.shift, Obj.shift, AV.shifts, List.length_map, hi, hi2, hi0, hn, poolD, hrow]
  refine sem_le (le_slots' (s' := slotsOf 124 [(2, .ptr 0 0 0), (5, .dat (.int .i64 i)), (6, .dat (.int .i64 dT)), (7, .dat (.int .i64 p.size)), (8, .dat (.int .i64 r)), (9, .ptr 4 0 0), (60, .dat (.int .i64 (z + 1 : Nat))), (61, .dat (.int .i64 r))]) (by simp only [go_sem])) ?_
  have t1 : List.take s.pools.length ((resS s i r).pools.map poolD) = (resS s i r).pools.map poolD := List.take_of_length_le (by simp [hpl])
  have u1 : ((resS s i r).pools.map poolD).length = s.pools.length := by simp [hpl]
  have t2 : List.take s.locks.length (s.locks.map D.str) = s.locks.map .str := List.take_of_length_le (by simp)
  have u2 : (s.locks.map D.str).length = s.locks.length := by simp
  have t3 : List.take s.classes.length (s.classes.map clsD) = s.classes.map clsD := List.take_of_length_le (by simp)
  have u3 : (s.classes.map clsD).length = s.classes.length := by simp
  refine sem_le (le_freeze 3 (ag := some 4) rfl (Nat.zero_le _)) ?_
  refine sem_le (le_freeze 2 (ag := none) rfl (Nat.zero_le _)) ?_
  refine sem_le (le_freeze 1 (ag := some 3) rfl (Nat.zero_le _)) ?_
  refine sem_of_awp (Γ := tbl tabRv) tabRv_ok _ _ _ ?_
  have hq1 := hcl r
  have hq2 := hlk r
  have hq3 := hpl r
  have hq4 := hat r
  simp only [go_sem, Int.reduceEq, Int.reduceLT, Int.reduceLE, eq_self, Int.natCast_nonneg, Int.toNat_natCast, t1, u1, t2, u2, t3, u3, List.drop_zero, Nat.le_refl]
  generalize hqe : resS s i r = q at *
  refine call_data demNR (by simp) [sysD q, .int .i64 i, .bool false] _ (by rw [sysD, hq1, hq2]; rfl) ⟨q, i, false, rfl, hfr, rfl⟩ (.inl rfl) ?_
  have hdq : demN q i false = demL i false s.classes := by unfold demN; rw [if_neg (by rw [hcr, hq3]; omega), hq1]
  rw [hdq]
  generalize hDF : demL i false s.classes = dF at *
  generalize hA : decide (dF ≤ p.size - (r : Int)) = A
  simp only [go_sem, Int.reduceEq, Int.reduceLT, Int.reduceLE, eq_self, Int.natCast_nonneg, Int.toNat_natCast, hA, List.length_map]
  refine ⟨inR_i64.2 (by omega), ?_⟩
  refine sem_loop (fun c : Nat => ⟨slotsOf 124 [(2, .ptr 0 0 0), (5, .dat (.int .i64 i)), (6, .dat (.int .i64 dT)), (7, .dat (.int .i64 p.size)), (8, .dat (.int .i64 r)), (9, .ptr 4 0 0), (10, .dat (.bool A)), (60, .dat (.int .i64 (z + 1 : Nat))), (61, .dat (.int .i64 r)), (80, .dat (.sl (some 4) (s.classes.map clsD))), (81, .dat (.int .i64 s.classes.length)), (82, .dat (.int .i64 c))],
      [sysO s, .dead, .dead, .dead, .box [.dat (.sl (some 3) (q.pools.map poolD)), .dat (.sl none (s.locks.map .str)), .dat (.sl (some 4) (s.classes.map clsD))]], 0, []⟩)
    (fun c => c ≤ s.classes.length) (fun c => s.classes.length - c) 0 (Nat.zero_le _) ?_ ?_
  · exact le_slots' (by simp only [go_sem, Int.natCast_zero])
  rintro c hcz
  refine sem_of_awp (Γ := tbl tabRv) tabRv_ok _ _ _ ?_
  cases hd : s.classes.drop c with
  | nil =>
    have := end_of_drop hd hcz
    have hk2 : ¬ (c : Int) < s.classes.length := by omega
    simp only [go_sem, Int.reduceEq, Int.reduceLT, Int.reduceLE, eq_self, Int.natCast_nonneg, Int.toNat_natCast, hk2]
    refine ⟨inR_i64.2 (by omega), r + 1, by omega, by omega, ?_⟩
    refine le_end (own := [_]) (ex := [_, _, _, _]) (Nat.zero_le _) ?_ ?_ ?_
    · simp only [go_sem, Int.natCast_add, Int.cast_ofNat_Int]
    · simp only [go_sem]
    · simp only [go_sem, Obj.under, AV.unders, AV.under]
  | cons cl rest =>
  have hlt := lt_of_drop hd
  have hk2 : (c : Int) < s.classes.length := by omega
  have hk0 : (0 : Int) ≤ c := Int.natCast_nonneg c
  have hnc2 := nth_of_drop (f := clsD) hd
  have hgc := get_of_drop hd
  have hcg := hg.cls cl (mem_of_drop hd)
  have h12 := hcg.l12
  simp only [go_sem, Int.reduceEq, Int.reduceLT, Int.reduceLE, eq_self, Int.natCast_nonneg, Int.toNat_natCast, hk2, hk0, hlt, hnc2, clsD, stepsD, List.length_map]
  refine sem_loop (fun k : Nat => ⟨slotsOf 124 [(2, .ptr 0 0 0), (5, .dat (.int .i64 i)), (6, .dat (.int .i64 dT)), (7, .dat (.int .i64 p.size)), (8, .dat (.int .i64 r)), (9, .ptr 4 0 0), (10, .dat (.bool A)), (11, .dat (.int .i64 c)), (60, .dat (.int .i64 (z + 1 : Nat))), (61, .dat (.int .i64 r)), (80, .dat (.sl (some 4) (s.classes.map clsD))), (81, .dat (.int .i64 s.classes.length)), (82, .dat (.int .i64 c)),
      (88, .dat (.sl (some 4) (cl.steps.map stepD))), (89, .dat (.int .i64 cl.steps.length)), (90, .dat (.int .i64 k))],
      [sysO s, .dead, .dead, .dead, .box [.dat (.sl (some 3) (q.pools.map poolD)), .dat (.sl none (s.locks.map .str)), .dat (.sl (some 4) (s.classes.map clsD))]], 0, []⟩)
    (fun k => k ≤ cl.steps.length) (fun k => cl.steps.length - k) 0 (Nat.zero_le _) ?_ ?_
  · refine le_end (own := [_, _, _, _, _]) (ex := [_]) (Nat.zero_le _) ?_ ?_ ?_
    · simp only [go_sem, Int.natCast_zero]
    · simp only [go_sem]
    · simp only [go_sem, Obj.under, AV.unders, AV.under]
  rintro k hkz
  refine sem_of_awp (Γ := tbl tabRv) tabRv_ok _ _ _ ?_
  cases hd2 : cl.steps.drop k with
  | nil =>
    have := end_of_drop hd2 hkz
    have hj2 : ¬ (k : Int) < cl.steps.length := by omega
    simp only [go_sem, Int.reduceEq, Int.reduceLT, Int.reduceLE, eq_self, Int.natCast_nonneg, Int.toNat_natCast, hj2]
    refine ⟨inR_i64.2 (by omega), c + 1, by omega, by omega, ?_⟩
    exact le_slots' (by simp only [go_sem, Int.natCast_add, Int.cast_ofNat_Int])
  | cons x rest2 =>
  have hlt2 := lt_of_drop hd2
  have hj2 : (k : Int) < cl.steps.length := by omega
  have hj0 : (0 : Int) ≤ k := Int.natCast_nonneg k
  have hn2 := nth_of_drop (f := stepD) hd2
  have hgx := get_of_drop hd2
  have hend : ∀ {sl : List AV} {b : Obj}, slotsLe sl (slotsOf 124 [(2, .ptr 0 0 0), (5, .dat (.int .i64 i)), (6, .dat (.int .i64 dT)), (7, .dat (.int .i64 p.size)), (8, .dat (.int .i64 r)), (9, .ptr 4 0 0), (10, .dat (.bool A)), (11, .dat (.int .i64 c)), (60, .dat (.int .i64 (z + 1 : Nat))), (61, .dat (.int .i64 r)), (80, .dat (.sl (some 4) (s.classes.map clsD))), (81, .dat (.int .i64 s.classes.length)), (82, .dat (.int .i64 c)),
      (88, .dat (.sl (some 4) (cl.steps.map stepD))), (89, .dat (.int .i64 cl.steps.length)), (90, .dat (.int .i64 (k + 1 : Nat)))]) → Le ⟨sl, [sysO s, .dead, .dead, .dead, .box [.dat (.sl (some 3) (q.pools.map poolD)), .dat (.sl none (s.locks.map .str)), .dat (.sl (some 4) (s.classes.map clsD))], b], 0, []⟩
      ⟨slotsOf 124 [(2, .ptr 0 0 0), (5, .dat (.int .i64 i)), (6, .dat (.int .i64 dT)), (7, .dat (.int .i64 p.size)), (8, .dat (.int .i64 r)), (9, .ptr 4 0 0), (10, .dat (.bool A)), (11, .dat (.int .i64 c)), (60, .dat (.int .i64 (z + 1 : Nat))), (61, .dat (.int .i64 r)), (80, .dat (.sl (some 4) (s.classes.map clsD))), (81, .dat (.int .i64 s.classes.length)), (82, .dat (.int .i64 c)),
      (88, .dat (.sl (some 4) (cl.steps.map stepD))), (89, .dat (.int .i64 cl.steps.length)), (90, .dat (.int .i64 (k + 1 : Nat)))], [sysO s, .dead, .dead, .dead, .box [.dat (.sl (some 3) (q.pools.map poolD)), .dat (.sl none (s.locks.map .str)), .dat (.sl (some 4) (s.classes.map clsD))]], 0, []⟩ := by
    intro sl b h
    refine le_end (own := [_, _, _, _, _]) (ex := [_]) (Nat.zero_le _) h ?_ ?_
    · simp only [go_sem]
    · simp only [go_sem, Obj.under, AV.unders, AV.under]
  by_cases k1 : x.kind = 1
  case neg =>
    simp only [go_sem, Int.reduceEq, Int.reduceLT, Int.reduceLE, eq_self, Int.natCast_nonneg, Int.toNat_natCast, hj2, hj0, hlt2, hn2, stepD, k1, List.length_map]
    refine ⟨inR_i64.2 (by omega), k + 1, by omega, by omega, ?_⟩
    exact hend (by simp only [go_sem, Int.natCast_add, Int.cast_ofNat_Int])
  by_cases k2 : x.on = i
  case neg =>
    simp only [go_sem, Int.reduceEq, Int.reduceLT, Int.reduceLE, eq_self, Int.natCast_nonneg, Int.toNat_natCast, hj2, hj0, hlt2, hn2, stepD, k1, k2, List.length_map]
    refine ⟨inR_i64.2 (by omega), k + 1, by omega, by omega, ?_⟩
    exact hend (by simp only [go_sem, Int.natCast_add, Int.cast_ofNat_Int])
  cases k3 : x.deep with
  | false =>
    simp only [go_sem, Int.reduceEq, Int.reduceLT, Int.reduceLE, eq_self, Int.natCast_nonneg, Int.toNat_natCast, hj2, hj0, hlt2, hn2, stepD, k1, k2, k3, List.length_map, Bool.not_false]
    refine ⟨inR_i64.2 (by omega), k + 1, by omega, by omega, ?_⟩
    exact hend (by simp only [go_sem, Int.natCast_add, Int.cast_ofNat_Int])
  | true =>
  have hwt : waitN q c k = (decide ((r : Int) < dT) && !A) := by
    rw [waitN_at hcr (by rw [hq1]; exact hgc) hgx]
    unfold waitB
    rw [if_neg (by omega), if_pos k1, k2, k3, Int.toNat_natCast, hq4, hq1, hDF, hDT, ← hA]
    simp only [Bool.true_and]
    rw [Bool.eq_iff_iff]
    simp only [Bool.and_eq_true, decide_eq_true_eq, Bool.not_eq_true', decide_eq_false_iff_not]
    omega
  simp only [go_sem, Int.reduceEq, Int.reduceLT, Int.reduceLE, eq_self, Int.natCast_nonneg, Int.toNat_natCast, hj2, hj0, hlt2, hn2, stepD, k1, k2, k3, List.length_map, Bool.not_true]
  refine call_data waitNR (by simp) [sysD q, .int .i64 c, .int .i64 k] _ (by rw [sysD, hq1, hq2]; rfl) ⟨q, c, k, rfl, hfr, rfl⟩ (.inl rfl) ?_
  rw [hwt]
  by_cases hrd : (r : Int) < dT
  · cases A with
    | true =>
      simp only [go_sem, Int.reduceEq, Int.reduceLT, Int.reduceLE, eq_self, Int.natCast_nonneg, Int.toNat_natCast, hrd, Bool.not_true, Bool.and_false, decide_true, beq_self_eq_true]
      refine ⟨inR_i64.2 (by omega), k + 1, by omega, by omega, ?_⟩
      exact hend (by simp only [go_sem, Int.natCast_add, Int.cast_ofNat_Int])
    | false =>
      simp only [go_sem, Int.reduceEq, Int.reduceLT, Int.reduceLE, eq_self, Int.natCast_nonneg, Int.toNat_natCast, hrd, Bool.not_true, Bool.not_false, Bool.and_true, decide_true, beq_self_eq_true]
      refine ⟨inR_i64.2 (by omega), k + 1, by omega, by omega, ?_⟩
      exact hend (by simp only [go_sem, Int.natCast_add, Int.cast_ofNat_Int])
  · simp only [go_sem, Int.reduceEq, Int.reduceLT, Int.reduceLE, eq_self, Int.natCast_nonneg, Int.toNat_natCast, hrd, Bool.not_true, Bool.false_and, decide_false, beq_self_eq_true]
    refine ⟨inR_i64.2 (by omega), k + 1, by omega, by omega, ?_⟩
    exact hend (by simp only [go_sem, Int.natCast_add, Int.cast_ofNat_Int])
end Go.AM

