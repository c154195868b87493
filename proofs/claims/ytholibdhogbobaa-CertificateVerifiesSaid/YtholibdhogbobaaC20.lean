/- Own work over the model of the kit. -/
import Derived.Test.YtholibdhogbobaaC19
import Derived.Test.YtholibdhogbobaaC18
import Derived.Test.YtholibdhogbobaaC8
import Derived.Test.YtholibdhogbobaaProg
import Derived.KernelRfl
set_option linter.unusedSimpArgs false
set_option linter.unusedVariables false
set_option maxRecDepth 8000
set_option maxHeartbeats 2000000
namespace Go.AM
open Go Go.Proofs

noncomputable def expL (s : PSys) : List PEdge := (cycV (sysE s)).map fun i => (sysE s).getD i default
noncomputable def expV (s : PSys) : AV := if checkE s ≠ 0 then .tup [.dat (.sl none []), .dat (.int .i64 (checkE s))] else .tup [.dat (.sl (some 4) (edgesD (expL s))), .dat (.int .i64 0)]
def expR (ds : List D) (v : AV) : Prop := ∃ s : PSys, ds = [sysD s] ∧ s.fit ∧ v = expV s
theorem cyc_bound {n : Nat} {l : List PEdge} (hg : GOk n l) : (cycV l).length ≤ 10000 ∧ ∀ m ∈ cycV l, m < l.length := by
  have hn4 := hg.n4
  refine ⟨?_, fun m hm => ?_⟩
  · have hc := cycL_is (l := l) l.length
    unfold cycV
    cases h : cycL l l.length with
    | none => simp
    | some c =>
      rw [h] at hc
      obtain ⟨i, h1, h2, h3, _⟩ := hc
      have := cycOf_len h2
      rw [← h3] at this
      have hb : back l i < n := by unfold back; rw [tOf_get (List.getElem?_eq_getElem h1)]; exact hg.sdlt (hg.dst _ (List.getElem_mem h1)).2
      simp only [Option.getD_some]; omega
  · obtain ⟨j, hj⟩ := List.getElem?_of_mem hm
    exact (cycV_ok l).at_ _ _ hj
theorem cycleVv_ok {s : PSys} (h : checkE s = 0) : cycleVv (nRes s : Nat) (sysE s) = .tup [.dat (.sl none (natsD (cycV (sysE s)))), .dat (.int .i64 0)] := by
  unfold cycleVv; rw [if_neg (by rw [gE_ok (sysE_ok h)]; decide)]
abbrev tabEX : List (Nat × Contract) := [(24, dataC edgesR), (26, dataC resR), (40, dataC cycleR)]
theorem tabEX_ok : OkG Try.prog (tbl tabEX) := okG_cons edges_ok (okG_cons resources_ok (okG_cons cycle_ok okG_nil))
theorem explain_ok : OkF Try.prog 16 (dataC expR) := by
  refine okF_data Try.func16 rfl (by decide) ?_
  rintro ds v ⟨s, rfl, hf, rfl⟩
  refine sem_of_awpK [6] (Γ := tbl tabEX) tabEX_ok _ _ _ ?_
  simp only [go_sem, Int.reduceEq, Int.reduceLT, Int.reduceLE, eq_self, Int.natCast_nonneg, Int.toNat_natCast, Try.ntmps16, sysD]
  refine call_data edgesR (by simp) [sysD s] _ rfl ⟨s, rfl, hf, rfl⟩ (.inl rfl) ?_
  unfold expV
  by_cases h : checkE s = 0
  case neg =>
    rw [edgesV_err h, if_pos h]
    simp only [go_sem, Int.reduceEq, Int.reduceLT, Int.reduceLE, eq_self, Int.natCast_nonneg, Int.toNat_natCast, h]
    refine post_res (.inl rfl) [.tmp 2, .tmp 3] rfl ?_
    simp only [go_sem]
    exact le_fin (by simp only [go_sem]) (by simp only [go_sem])
  rw [edgesV_ok h, if_neg (by rw [h]; decide)]
  have hgk := sysE_ok h
  have hgl := hgk.len
  obtain ⟨hcl, hcm⟩ := cyc_bound hgk
  simp only [go_sem, Int.reduceEq, Int.reduceLT, Int.reduceLE, eq_self, Int.natCast_nonneg, Int.toNat_natCast, h]
  refine call_data resR (by simp) [sysD s] _ rfl ⟨s, rfl, hf, rfl⟩ (.inl rfl) ?_
  rw [resN_ok h]
  simp only [go_sem, Int.reduceEq, Int.reduceLT, Int.reduceLE, eq_self, Int.natCast_nonneg, Int.toNat_natCast]
  refine call_data cycleR (by simp) [.int .i64 (nRes s : Nat), .sl (some 4) (edgesD (sysE s))] _ rfl ⟨_, _, rfl, by omega, rfl⟩ (.inl rfl) ?_
  rw [cycleVv_ok h]
  unfold expL
  generalize cycV (sysE s) = C at *
  generalize sysE s = E at *
  simp only [go_sem, Int.reduceEq, Int.reduceLT, Int.reduceLE, eq_self, Int.natCast_nonneg, Int.toNat_natCast]
  refine sem_le (le_addnil 8 (some 4) rfl (Nat.zero_le _)) ?_
  refine sem_of_awp (Γ := tbl tabEX) tabEX_ok _ _ _ ?_
  simp only [go_sem, Int.reduceEq, Int.reduceLT, Int.reduceLE, eq_self, Int.natCast_nonneg, Int.toNat_natCast, nats_len]
  refine sem_loop (fun k : Nat => ⟨slotsOf 41 [(4, .dat (.sl (some 4) (edgesD E))), (8, .sl 1 0 k), (26, .dat (.sl none (natsD C))), (27, .dat (.int .i64 C.length)), (28, .dat (.int .i64 k))], [sysO s, .row (some 4) (edgesD ((C.take k).map fun i => E.getD i default))], 0, []⟩)
    (fun k => k ≤ C.length) (fun k => C.length - k) 0 (Nat.zero_le _) ?_ ?_
  · exact le_slots' (by simp only [go_sem, Int.natCast_zero])
  rintro k hk
  refine sem_of_awp (Γ := tbl tabEX) tabEX_ok _ _ _ ?_
  have hlen : ((C.take k).map fun i => E.getD i default).length = k := by rw [List.length_map, List.length_take]; omega
  cases hd : C.drop k with
  | nil =>
    obtain rfl : k = C.length := end_of_drop hd hk
    have hk2 : ¬ (C.length : Int) < C.length := by omega
    rw [List.take_length] at hlen
    rw [List.take_length]
    simp only [go_sem, Int.reduceEq, Int.reduceLT, Int.reduceLE, eq_self, Int.natCast_nonneg, Int.toNat_natCast, hk2]
    refine post_res (.inl rfl) [.tmp 2, .tmp 3] rfl ?_
    simp only [go_sem]
    refine Le.trans (le_freeze 1 (ag := some 4) rfl (Nat.zero_le _)) ?_
    generalize (C.map fun i => E.getD i default) = X at *
    rw [← hlen]
    simp only [go_sem, edges_take, edges_len, Nat.le_refl]
    exact le_fin (by simp only [go_sem]) (by simp only [go_sem])
  | cons m r =>
    have hlt := lt_of_drop hd
    have hk2 : (k : Int) < C.length := by omega
    have hk0 : (0 : Int) ≤ k := Int.natCast_nonneg k
    have hn := nth_of_drop (f := natD) hd
    have hm := hcm m (mem_of_drop hd)
    have hm2 : (m : Int) < E.length := by omega
    have hne : D.nth (edgesD E) m = edgeD (E.getD m default) := D.nth_map hm
    have hsn : edgesD ((C.take k).map fun i => E.getD i default) ++ [edgeD (E.getD m default)] = edgesD ((C.take (k + 1)).map fun i => E.getD i default) := by
      rw [edges_snoc, take_of_drop hd, List.map_append]; rfl
    have htk : List.take k (edgesD ((C.take k).map fun i => E.getD i default)) = edgesD ((C.take k).map fun i => E.getD i default) := List.take_of_length_le (by simp; omega)
    simp only [go_sem, Int.reduceEq, Int.reduceLT, Int.reduceLE, eq_self, Int.natCast_nonneg, Int.toNat_natCast, hk2, hk0, hlt, hn, nats_len, hm, hm2, hne, edges_len, hlen, htk, hsn]
    refine ⟨⟨rfl, rfl⟩, by omega, by omega, inR_i64.2 (by omega), k + 1, by omega, by omega, ?_⟩
    refine le_end (own := [_, _]) (ex := [_]) (Nat.zero_le _) ?_ ?_ ?_
    · simp only [go_sem, Int.natCast_add, Int.cast_ofNat_Int]
    · simp only [go_sem]
    · simp only [go_sem, Obj.under, AV.unders, AV.under]
abbrev tabXR : List (Nat × Contract) := [(32, dataC checkR), (33, dataC edgesR), (35, dataC resR), (41, dataC cycleR)]
theorem tabXR_ok : OkG Try.prog (tbl tabXR) := okG_cons rcheck_ok (okG_cons redges_ok (okG_cons rresources_ok (okG_cons rcycle_ok okG_nil)))
theorem rexplain_ok : OkF Try.prog 17 (dataC expR) := by
  refine okF_data Try.func17 rfl (by decide) ?_
  rintro ds v ⟨s, rfl, hf, rfl⟩
  refine sem_of_awpK [7] (Γ := tbl tabXR) tabXR_ok _ _ _ ?_
  simp only [go_sem, Int.reduceEq, Int.reduceLT, Int.reduceLE, eq_self, Int.natCast_nonneg, Int.toNat_natCast, Try.ntmps17, sysD]
  refine call_data checkR (by simp) [sysD s] _ rfl ⟨s, rfl, hf, rfl⟩ (.inl rfl) ?_
  unfold expV
  by_cases h : checkE s = 0
  case neg =>
    rw [if_pos h]
    simp only [go_sem, Int.reduceEq, Int.reduceLT, Int.reduceLE, eq_self, Int.natCast_nonneg, Int.toNat_natCast, h]
    refine post_res (.inl rfl) [.tmp 2, .tmp 3] rfl ?_
    simp only [go_sem]
    exact le_fin (by simp only [go_sem]) (by simp only [go_sem])
  rw [if_neg (by rw [h]; decide)]
  have hgk := sysE_ok h
  have hgl := hgk.len
  obtain ⟨hcl, hcm⟩ := cyc_bound hgk
  simp only [go_sem, Int.reduceEq, Int.reduceLT, Int.reduceLE, eq_self, Int.natCast_nonneg, Int.toNat_natCast, h]
  refine call_data edgesR (by simp) [sysD s] _ rfl ⟨s, rfl, hf, rfl⟩ (.inl rfl) ?_
  rw [edgesV_ok h]
  simp only [go_sem, Int.reduceEq, Int.reduceLT, Int.reduceLE, eq_self, Int.natCast_nonneg, Int.toNat_natCast]
  refine call_data resR (by simp) [sysD s] _ rfl ⟨s, rfl, hf, rfl⟩ (.inl rfl) ?_
  rw [resN_ok h]
  simp only [go_sem, Int.reduceEq, Int.reduceLT, Int.reduceLE, eq_self, Int.natCast_nonneg, Int.toNat_natCast]
  refine call_data cycleR (by simp) [.int .i64 (nRes s : Nat), .sl (some 4) (edgesD (sysE s))] _ rfl ⟨_, _, rfl, by omega, rfl⟩ (.inl rfl) ?_
  rw [cycleVv_ok h]
  unfold expL
  generalize cycV (sysE s) = C at *
  generalize sysE s = E at *
  simp only [go_sem, Int.reduceEq, Int.reduceLT, Int.reduceLE, eq_self, Int.natCast_nonneg, Int.toNat_natCast]
  refine sem_le (le_addnil 9 (some 4) rfl (Nat.zero_le _)) ?_
  refine sem_of_awp (Γ := tbl tabXR) tabXR_ok _ _ _ ?_
  simp only [go_sem, Int.reduceEq, Int.reduceLT, Int.reduceLE, eq_self, Int.natCast_nonneg, Int.toNat_natCast, nats_len]
  refine sem_loop (fun k : Nat => ⟨slotsOf 45 [(5, .dat (.sl (some 4) (edgesD E))), (7, .dat (.sl none (natsD C))), (9, .sl 1 0 k), (10, .dat (.int .i64 k))], [sysO s, .row (some 4) (edgesD ((C.take k).map fun i => E.getD i default))], 0, []⟩)
    (fun k => k ≤ C.length) (fun k => C.length - k) 0 (Nat.zero_le _) ?_ ?_
  · exact le_slots' (by simp only [go_sem, Int.natCast_zero])
  rintro k hk
  refine sem_of_awp (Γ := tbl tabXR) tabXR_ok _ _ _ ?_
  have hlen : ((C.take k).map fun i => E.getD i default).length = k := by rw [List.length_map, List.length_take]; omega
  cases hd : C.drop k with
  | nil =>
    obtain rfl : k = C.length := end_of_drop hd hk
    have hk2 : ¬ (C.length : Int) < C.length := by omega
    rw [List.take_length] at hlen
    rw [List.take_length]
    simp only [go_sem, Int.reduceEq, Int.reduceLT, Int.reduceLE, eq_self, Int.natCast_nonneg, Int.toNat_natCast, hk2, nats_len]
    refine post_res (.inl rfl) [.tmp 2, .tmp 3] rfl ?_
    simp only [go_sem]
    refine Le.trans (le_freeze 1 (ag := some 4) rfl (Nat.zero_le _)) ?_
    generalize (C.map fun i => E.getD i default) = X at *
    rw [← hlen]
    simp only [go_sem, edges_take, edges_len, Nat.le_refl]
    exact le_fin (by simp only [go_sem]) (by simp only [go_sem])
  | cons m r =>
    have hlt := lt_of_drop hd
    have hk2 : (k : Int) < C.length := by omega
    have hk0 : (0 : Int) ≤ k := Int.natCast_nonneg k
    have hn := nth_of_drop (f := natD) hd
    have hm := hcm m (mem_of_drop hd)
    have hm2 : (m : Int) < E.length := by omega
    have hne : D.nth (edgesD E) m = edgeD (E.getD m default) := D.nth_map hm
    have hsn : edgesD ((C.take k).map fun i => E.getD i default) ++ [edgeD (E.getD m default)] = edgesD ((C.take (k + 1)).map fun i => E.getD i default) := by
      rw [edges_snoc, take_of_drop hd, List.map_append]; rfl
    have htk : List.take k (edgesD ((C.take k).map fun i => E.getD i default)) = edgesD ((C.take k).map fun i => E.getD i default) := List.take_of_length_le (by simp; omega)
    simp only [go_sem, Int.reduceEq, Int.reduceLT, Int.reduceLE, eq_self, Int.natCast_nonneg, Int.toNat_natCast, hk2, hk0, hlt, hn, nats_len, hm, hm2, hne, edges_len, hlen, htk, hsn]
    refine ⟨⟨rfl, rfl⟩, by omega, by omega, inR_i64.2 (by omega), k + 1, by omega, by omega, ?_⟩
    refine le_end (own := [_, _]) (ex := [_]) (Nat.zero_le _) ?_ ?_ ?_
    · simp only [go_sem, Int.natCast_add, Int.cast_ofNat_Int]
    · simp only [go_sem]
    · simp only [go_sem, Obj.under, AV.unders, AV.under]

def enoN (s : PSys) (pool : Int) : Int := if checkE s ≠ 0 ∨ pool < 0 ∨ (s.pools.length : Int) ≤ pool then -1 else if (s.pools.getD pool.toNat default).size < demL pool true s.classes then -1 else demL pool true s.classes
def enoR (ds : List D) (v : AV) : Prop := ∃ (s : PSys) (pool : Int), ds = [sysD s, .int .i64 pool] ∧ s.fit ∧ v = .dat (.int .i64 (enoN s pool))
theorem enough_ok : OkF Try.prog 20 (dataC enoR) := by
  refine okF_data Try.func20 rfl (by decide) ?_
  rintro ds v ⟨s, pool, rfl, hf, rfl⟩
  refine sem_of_awp (Γ := tbl [(27, dataC demNR)]) (okG_cons Demand_ok okG_nil) _ _ _ ?_
  simp only [go_sem, Int.reduceEq, Int.reduceLT, Int.reduceLE, eq_self, Int.natCast_nonneg, Int.toNat_natCast, Try.ntmps20, sysD]
  refine call_data demNR (by simp) [sysD s, .int .i64 pool, .bool true] _ rfl ⟨s, pool, true, rfl, hf, rfl⟩ (.inl rfl) ?_
  unfold demN enoN
  by_cases h : checkE s ≠ 0 ∨ pool < 0 ∨ (s.pools.length : Int) ≤ pool
  · rw [if_pos h, if_pos h]
    simp only [go_sem, Int.reduceEq, Int.reduceLT, Int.reduceLE, eq_self, Int.natCast_nonneg, Int.toNat_natCast]
    exact post_data (.inl rfl) [4] rfl trivial rfl
  rw [if_neg h, if_neg h]
  have hg := good_of (Classical.byContradiction fun hh => h (.inl hh))
  obtain ⟨i, rfl⟩ : ∃ i : Nat, pool = i := ⟨pool.toNat, by omega⟩
  have hi : i < s.pools.length := by omega
  have hi2 : (i : Int) < s.pools.length := by omega
  have hnp : D.nth (s.pools.map poolD) i = poolD (s.pools.getD i default) := D.nth_map hi
  have hpb := hg.pool (s.pools.getD i default) (by rw [List.getD_eq_getElem?_getD, List.getElem?_eq_getElem hi]; exact List.getElem_mem hi)
  have hd0 := (demL_le hg i true s.classes.length (Nat.le_refl _)).1
  rw [List.take_length] at hd0
  rw [Int.toNat_natCast]
  generalize s.pools.getD i default = p at *
  generalize demL i true s.classes = d at *
  unfold PPool.bad at hpb
  by_cases h1 : 0 < d
  · by_cases h2 : p.size < d
    · rw [if_pos h2]
      simp only [go_sem, Int.reduceEq, Int.reduceLT, Int.reduceLE, eq_self, Int.natCast_nonneg, Int.toNat_natCast, h1, h2, hi, hi2, hnp, poolD]
      exact post_data (.inl rfl) [4] rfl trivial rfl
    · rw [if_neg h2]
      simp only [go_sem, Int.reduceEq, Int.reduceLT, Int.reduceLE, eq_self, Int.natCast_nonneg, Int.toNat_natCast, h1, h2, hi, hi2, hnp, poolD]
      exact post_data (.inl rfl) [4] rfl trivial rfl
  · rw [if_neg (by omega)]
    simp only [go_sem, Int.reduceEq, Int.reduceLT, Int.reduceLE, eq_self, Int.natCast_nonneg, Int.toNat_natCast, h1]
    exact post_data (.inl rfl) [4] rfl trivial rfl
theorem renough_ok : OkF Try.prog 21 (dataC enoR) := by
  refine okF_data Try.func21 rfl (by decide) ?_
  rintro ds v ⟨s, pool, rfl, hf, rfl⟩
  refine sem_of_awp (Γ := tbl [(42, dataC demNR)]) (okG_cons rDemand_ok okG_nil) _ _ _ ?_
  simp only [go_sem, Int.reduceEq, Int.reduceLT, Int.reduceLE, eq_self, Int.natCast_nonneg, Int.toNat_natCast, Try.ntmps21, sysD]
  refine call_data demNR (by simp) [sysD s, .int .i64 pool, .bool true] _ rfl ⟨s, pool, true, rfl, hf, rfl⟩ (.inl rfl) ?_
  unfold demN enoN
  by_cases h : checkE s ≠ 0 ∨ pool < 0 ∨ (s.pools.length : Int) ≤ pool
  · rw [if_pos h, if_pos h]
    simp only [go_sem, Int.reduceEq, Int.reduceLT, Int.reduceLE, eq_self, Int.natCast_nonneg, Int.toNat_natCast]
    exact post_data (.inl rfl) [4] rfl trivial rfl
  rw [if_neg h, if_neg h]
  have hg := good_of (Classical.byContradiction fun hh => h (.inl hh))
  obtain ⟨i, rfl⟩ : ∃ i : Nat, pool = i := ⟨pool.toNat, by omega⟩
  have hi : i < s.pools.length := by omega
  have hi2 : (i : Int) < s.pools.length := by omega
  have hnp : D.nth (s.pools.map poolD) i = poolD (s.pools.getD i default) := D.nth_map hi
  have hd0 := (demL_le hg i true s.classes.length (Nat.le_refl _)).1
  rw [List.take_length] at hd0
  rw [Int.toNat_natCast]
  generalize s.pools.getD i default = p at *
  generalize demL i true s.classes = d at *
  have h1 : ¬ d < 0 := by omega
  by_cases h2 : p.size < d
  · rw [if_pos h2]
    simp only [go_sem, Int.reduceEq, Int.reduceLT, Int.reduceLE, eq_self, Int.natCast_nonneg, Int.toNat_natCast, h1, h2, hi, hi2, hnp, poolD]
    exact post_data (.inl rfl) [4] rfl trivial rfl
  · rw [if_neg h2]
    simp only [go_sem, Int.reduceEq, Int.reduceLT, Int.reduceLE, eq_self, Int.natCast_nonneg, Int.toNat_natCast, h1, h2, hi, hi2, hnp, poolD]
    exact post_data (.inl rfl) [4] rfl trivial rfl

def sameCR (ds : List D) (v : AV) : Prop := ∃ (L : List Nat), ds = [certD L, certD L] ∧ L.length ≤ 10000 ∧ v = .dat (.bool true)
theorem sameC_ok : OkF Try.prog 18 (dataC sameCR) := by
  refine okF_data Try.func18 rfl (by decide) ?_
  rintro ds v ⟨L, rfl, hL, rfl⟩
  refine sem_of_awp (Γ := tbl [(30, dataC sameR)]) (okG_cons same_ok okG_nil) _ _ _ ?_
  simp only [go_sem, Int.reduceEq, Int.reduceLT, Int.reduceLE, eq_self, Int.natCast_nonneg, Int.toNat_natCast, Try.ntmps18, certD]
  refine call_data sameR (by simp) [.sl none (natsD L), .sl none (natsD L)] _ rfl ⟨L, rfl, hL, rfl⟩ (.inl rfl) ?_
  simp only [go_sem, Int.reduceEq, Int.reduceLT, Int.reduceLE, eq_self, Int.natCast_nonneg, Int.toNat_natCast]
  exact post_data (.inl rfl) [4] rfl trivial rfl
end Go.AM

set_option maxRecDepth 8000
set_option maxHeartbeats 2000000
namespace Go.AM
open Go Go.Proofs

def outI (n : Int) : Bool := decide (n < 0) || decide (4096 < n)
def outR (ds : List D) (v : AV) : Prop := ∃ n : Int, ds = [.int .i64 n] ∧ v = .dat (.bool (outI n))
theorem out_ok : OkF Try.prog 43 (dataC outR) := by
  refine okF_data Try.func43 rfl (by decide) ?_
  rintro ds v ⟨n, rfl, rfl⟩
  refine sem_of_awp (Γ := tbl []) okG_nil _ _ _ ?_
  unfold outI
  by_cases h1 : n < 0
  · simp only [go_sem, Int.reduceEq, Int.reduceLT, Int.reduceLE, eq_self, Int.natCast_nonneg, Int.toNat_natCast, Try.ntmps43, h1, decide_true, Bool.true_or]
    exact post_data (.inl rfl) [2] rfl trivial rfl
  · simp only [go_sem, Int.reduceEq, Int.reduceLT, Int.reduceLE, eq_self, Int.natCast_nonneg, Int.toNat_natCast, Try.ntmps43, h1, decide_false, Bool.false_or]
    exact post_data (.inl rfl) [2] rfl trivial rfl
def ixVR (xs : List AV) (obs : List Obj) (v0 : AV) (obs' ex : List Obj) (mv0 : List Nat) : Prop := ∃ (L : List Int), L.length ≤ 10000 ∧
  xs = [.dat (.sl none (intsD L)), .fn 43 []] ∧ obs = [] ∧ v0 = .dat (.int .i64 (fstI (fstL outI 0 L))) ∧ obs' = obs ∧ ex = [] ∧ mv0 = []
abbrev tabIV : List (Nat × Contract) := [(43, dataC outR)]
theorem tabIV_ok : OkG Try.prog (tbl tabIV) := okG_cons out_ok okG_nil
theorem indexOut_ok : OkF Try.prog 65 (lentC ixVR) := by
  refine okF_lent Try.func65 rfl (by decide) ?_
  rintro xs obs v0 obs' ex mv0 ⟨L, hl, rfl, rfl, rfl, rfl, rfl, rfl⟩
  generalize hV : fstL outI 0 L = V
  refine sem_of_awp (Γ := tbl tabIV) tabIV_ok _ _ _ ?_
  simp only [go_sem, Int.reduceEq, Int.reduceLT, Int.reduceLE, eq_self, Int.natCast_nonneg, Int.toNat_natCast, Try.ntmps65, ints_len]
  refine sem_loop (fun k : Nat => ⟨slotsOf 19 [(0, .dat (.sl none (intsD L))), (1, .fn 43 []), (7, .dat (.int .i64 L.length)), (8, .dat (.int .i64 k))], [], 0, []⟩)
    (fun k => k ≤ L.length ∧ fstL outI k (L.drop k) = V) (fun k => L.length - k) 0 ⟨Nat.zero_le _, hV⟩ ?_ ?_
  · exact le_slots' (by simp only [go_sem, Int.natCast_zero])
  rintro k ⟨hk, hV⟩
  refine sem_of_awp (Γ := tbl tabIV) tabIV_ok _ _ _ ?_
  cases hd : L.drop k with
  | nil =>
    have := end_of_drop hd hk
    have hk2 : ¬ (k : Int) < L.length := by omega
    rw [hd, fstL] at hV
    simp only [go_sem, Int.reduceEq, Int.reduceLT, Int.reduceLE, eq_self, Int.natCast_nonneg, Int.toNat_natCast, hk2]
    exact post_own (.inl rfl) [4] rfl (by rw [← hV]; simp only [tmpsOf]; rfl) (fun _ h => h)
  | cons x r =>
    have hlt := lt_of_drop hd
    have hk2 : (k : Int) < L.length := by omega
    have hk0 : (0 : Int) ≤ k := Int.natCast_nonneg k
    have hn := nth_of_drop (f := .int .i64) hd
    rw [hd, fstL] at hV
    simp only [go_sem, Int.reduceEq, Int.reduceLT, Int.reduceLE, eq_self, Int.natCast_nonneg, Int.toNat_natCast, hk2, hk0, hn, hlt, ints_len]
    refine call_data outR (by simp) _ _ rfl ⟨x, rfl, rfl⟩ (.inl rfl) ?_
    cases hp : outI x with
    | true =>
      rw [hp, if_pos rfl] at hV
      simp only [go_sem, Int.reduceEq, Int.reduceLT, Int.reduceLE, eq_self, Int.natCast_nonneg, Int.toNat_natCast, hp]
      exact post_own (.inl rfl) [4] rfl (by rw [← hV]; simp only [tmpsOf]; rfl) (fun _ h => h)
    | false =>
      rw [hp, if_neg (by decide)] at hV
      simp only [go_sem, Int.reduceEq, Int.reduceLT, Int.reduceLE, eq_self, Int.natCast_nonneg, Int.toNat_natCast, hp]
      refine ⟨inR_i64.2 (by omega), k + 1, ⟨by omega, by rw [drop_cons hd]; exact hV⟩, by omega, ?_⟩
      exact le_slots' (by simp only [go_sem, Int.natCast_add, Int.cast_ofNat_Int])
def hasVR (xs : List AV) (obs : List Obj) (v0 : AV) (obs' ex : List Obj) (mv0 : List Nat) : Prop := ∃ (L : List Int), L.length ≤ 10000 ∧
  xs = [.dat (.sl none (intsD L)), .fn 43 []] ∧ obs = [] ∧ v0 = .dat (.bool (L.any outI)) ∧ obs' = obs ∧ ex = [] ∧ mv0 = []
theorem fst_any {L : List Int} : decide (0 ≤ fstI (fstL outI 0 L)) = L.any outI := by
  cases h : fstL outI 0 L with
  | none =>
    have := fstL_none.1 h
    rw [Bool.eq_iff_iff, List.any_eq_true, decide_eq_true_eq]
    constructor
    · intro hh; simp [fstI] at hh
    · rintro ⟨x, hx, hx2⟩; rw [this x hx] at hx2; cases hx2
  | some j =>
    obtain ⟨i, x, _, h2, h3⟩ := fstL_some h
    rw [Bool.eq_iff_iff, List.any_eq_true, decide_eq_true_eq]
    exact ⟨fun _ => ⟨x, List.mem_of_getElem? h2, h3⟩, fun _ => by simp [fstI]⟩
theorem hasOut_ok : OkF Try.prog 44 (lentC hasVR) := by
  refine okF_lent Try.func44 rfl (by decide) ?_
  rintro xs obs v0 obs' ex mv0 ⟨L, hl, rfl, rfl, rfl, rfl, rfl, rfl⟩
  refine sem_of_awp (Γ := tbl [(65, pureOf (lentC ixVR))]) (okG_cons (okF_pureOf indexOut_ok) okG_nil) _ _ _ ?_
  simp only [go_sem, Int.reduceEq, Int.reduceLT, Int.reduceLE, eq_self, Int.natCast_nonneg, Int.toNat_natCast, Try.ntmps44]
  refine call_lentP ixVR (by simp) [] ⟨L, hl, rfl, rfl, rfl, rfl, rfl, rfl⟩ (by decide) (by simp) rfl rfl (by simp only [go_sem]) (by simp) (fun j hj => by simp at hj) ?_
  simp only [go_sem, Int.reduceEq, Int.reduceLT, Int.reduceLE, eq_self, Int.natCast_nonneg, Int.toNat_natCast, fst_any]
  exact post_own (.inl rfl) [4] rfl (by simp only [tmpsOf]; rfl) (fun _ h => h)
def badV (L : List Int) (e : PEdge) : Bool := decide (L.getD e.s 0 ≤ L.getD e.t 0)
def verN (s : PSys) (L : List Int) : Int :=
  if checkE s ≠ 0 then checkE s else if L.length ≠ nRes s ∨ L.any outI = true then 3 else if (impO s).isSome = true then 9 else if (sysE s).any (badV L) = true then 19 else 0
def verR (ds : List D) (v : AV) : Prop := ∃ (s : PSys) (L : List Int), ds = [sysD s, .agg [.sl none (intsD L)]] ∧ s.fit ∧ L.length ≤ 10000 ∧ v = .dat (.int .i64 (verN s L))
abbrev tabVE : List (Nat × Contract) := [(24, dataC edgesR), (14, dataC impVR), (26, dataC resR), (44, pureOf (lentC hasVR))]
theorem tabVE_ok : OkG Try.prog (tbl tabVE) := okG_cons edges_ok (okG_cons Impossible_ok (okG_cons resources_ok (okG_cons (okF_pureOf hasOut_ok) okG_nil)))
theorem pureVE : PureFns (tbl tabVE) [26, 44] := by
  refine pure_of2 fun g C hm hg => ?_
  simp only [List.mem_cons, List.not_mem_nil, or_false, Prod.mk.injEq] at hm
  rcases hm with ⟨_, rfl⟩ | ⟨_, rfl⟩ | ⟨_, rfl⟩ | ⟨_, rfl⟩
  · exact .inl ⟨_, rfl⟩
  · exact .inl ⟨_, rfl⟩
  · exact .inl ⟨_, rfl⟩
  · exact .inr ⟨_, rfl⟩
theorem verify_ok : OkF Try.prog 22 (dataC verR) := by
  refine okF_data Try.func22 rfl (by decide) ?_
  rintro ds v ⟨s, L, rfl, hf, hl, rfl⟩
  refine sem_of_awp (Γ := tbl tabVE) tabVE_ok _ _ _ ?_
  simp only [go_sem, Int.reduceEq, Int.reduceLT, Int.reduceLE, eq_self, Int.natCast_nonneg, Int.toNat_natCast, Try.ntmps22, sysD]
  refine call_data edgesR (by simp) [sysD s] _ rfl ⟨s, rfl, hf, rfl⟩ (.inl rfl) ?_
  generalize hv : verN s L = V
  unfold verN at hv
  by_cases h : checkE s = 0
  case neg =>
    rw [if_pos h] at hv
    subst hv
    rw [edgesV_err h]
    simp only [go_sem, Int.reduceEq, Int.reduceLT, Int.reduceLE, eq_self, Int.natCast_nonneg, Int.toNat_natCast, h]
    exact post_data (.inl rfl) [4] rfl trivial rfl
  rw [edgesV_ok h]
  rw [if_neg (by rw [h]; decide)] at hv
  have hgk := sysE_ok h
  have hgl := hgk.len
  have hn4 := hgk.n4
  simp only [go_sem, Int.reduceEq, Int.reduceLT, Int.reduceLE, eq_self, Int.natCast_nonneg, Int.toNat_natCast, h]
  refine sem_draw (pf := [26, 44]) (Γ := tbl tabVE) mixed tabVE_ok pureVE [0, 1, 2, 3, 4, 5, 6, 7, 8, 9, 10, 11] (by kernel_rfl) ?_
  simp only [go_sem, Int.reduceEq, Int.reduceLT, Int.reduceLE, eq_self, Int.natCast_nonneg, Int.toNat_natCast, chainI, ints_len]
  refine call_data resR (by simp) [sysD s] _ rfl ⟨s, rfl, hf, rfl⟩ (.inl rfl) ?_
  rw [resN_ok h]
  by_cases hne : L.length = nRes s
  case neg =>
    have hne2 : ¬ (L.length : Int) = (nRes s : Nat) := by omega
    rw [if_pos (.inl hne)] at hv
    subst hv
    simp only [go_sem, Int.reduceEq, Int.reduceLT, Int.reduceLE, eq_self, Int.natCast_nonneg, Int.toNat_natCast, chainI, hne2]
    exact post_data (.inl rfl) [4] rfl trivial rfl
  have hne2 : (L.length : Int) = (nRes s : Nat) := by omega
  simp only [go_sem, Int.reduceEq, Int.reduceLT, Int.reduceLE, eq_self, Int.natCast_nonneg, Int.toNat_natCast, chainI, hne2]
  refine call_lentP hasVR (by simp) [] ⟨L, hl, rfl, rfl, rfl, rfl, rfl, rfl⟩ (by decide) (by simp) rfl rfl (by simp only [go_sem]) (by simp) (fun j hj => by simp at hj) ?_
  cases ho : L.any outI with
  | true =>
    rw [if_pos (.inr ho)] at hv
    subst hv
    simp only [go_sem, Int.reduceEq, Int.reduceLT, Int.reduceLE, eq_self, Int.natCast_nonneg, Int.toNat_natCast, chainI]
    exact post_data (.inl rfl) [4] rfl trivial rfl
  | false =>
  rw [if_neg (by rw [ho]; simp [hne])] at hv
  simp only [go_sem, Int.reduceEq, Int.reduceLT, Int.reduceLE, eq_self, Int.natCast_nonneg, Int.toNat_natCast, chainI]
  refine call_data impVR (by simp) [sysD s] _ rfl ⟨s, rfl, hf, rfl⟩ (.inl rfl) ?_
  cases hi : impO s with
  | some q =>
    obtain ⟨i, k⟩ := q
    rw [hi, if_pos (by rfl)] at hv
    subst hv
    simp only [go_sem, Int.reduceEq, Int.reduceLT, Int.reduceLE, eq_self, Int.natCast_nonneg, Int.toNat_natCast, fstV]
    exact post_data (.inl rfl) [4] rfl trivial rfl
  | none =>
  rw [hi, if_neg (by decide)] at hv
  simp only [go_sem, Int.reduceEq, Int.reduceLT, Int.reduceLE, eq_self, Int.natCast_nonneg, Int.toNat_natCast, fstV, edges_len]
  generalize sysE s = E at *
  refine sem_loop (fun k : Nat => ⟨slotsOf 60 [(3, .ptr 1 0 0), (40, .dat (.sl (some 4) (edgesD E))), (41, .dat (.int .i64 E.length)), (42, .dat (.int .i64 k))], [sysO s, .box [.dat (.sl none (intsD L))]], 0, []⟩)
    (fun k => k ≤ E.length ∧ (if (E.drop k).any (badV L) = true then (19 : Int) else 0) = V) (fun k => E.length - k) 0 ⟨Nat.zero_le _, hv⟩ ?_ ?_
  · exact le_slots' (by simp only [go_sem, Int.natCast_zero])
  rintro k ⟨hk, hV⟩
  refine sem_of_awp (Γ := tbl tabVE) tabVE_ok _ _ _ ?_
  cases hd : E.drop k with
  | nil =>
    have := end_of_drop hd hk
    have hk2 : ¬ (k : Int) < E.length := by omega
    rw [hd] at hV
    subst hV
    simp only [go_sem, Int.reduceEq, Int.reduceLT, Int.reduceLE, eq_self, Int.natCast_nonneg, Int.toNat_natCast, hk2]
    exact post_data (.inl rfl) [4] rfl trivial rfl
  | cons e r =>
    have hlt := lt_of_drop hd
    have hk2 : (k : Int) < E.length := by omega
    have hk0 : (0 : Int) ≤ k := Int.natCast_nonneg k
    have hn := nth_of_drop (f := edgeD) hd
    obtain ⟨s1, s2⟩ := hgk.src e (mem_of_drop hd)
    obtain ⟨t1, t2⟩ := hgk.dst e (mem_of_drop hd)
    have g1 := ints_nth (l := L) 0 (i := e.s) (by omega)
    have g2 := ints_nth (l := L) 0 (i := e.t) (by omega)
    have b1 : e.s < L.length := by omega
    have b2 : e.t < L.length := by omega
    have b3 : (e.s : Int) < L.length := by omega
    have b4 : (e.t : Int) < L.length := by omega
    rw [hd, List.any_cons] at hV
    simp only [go_sem, Int.reduceEq, Int.reduceLT, Int.reduceLE, eq_self, Int.natCast_nonneg, Int.toNat_natCast, hk2, hk0, hlt, hn, edges_len, edgeD, s1, t1]
    refine sem_draw (pf := []) (Γ := tbl tabVE) mixed tabVE_ok (fun g _ _ _ _ _ h => by cases h) [0, 1, 2, 3, 4, 5, 6, 7, 8, 9, 10, 11, 12] (by kernel_rfl) ?_
    by_cases hb : L.getD e.s 0 ≤ L.getD e.t 0
    · rw [show badV L e = true from decide_eq_true hb, Bool.true_or, if_pos rfl] at hV
      subst hV
      simp only [go_sem, Int.reduceEq, Int.reduceLT, Int.reduceLE, eq_self, Int.natCast_nonneg, Int.toNat_natCast, chainI, g1, g2, b1, b2, b3, b4, ints_len, hb]
      exact post_data (.inl rfl) [4] rfl trivial rfl
    · rw [show badV L e = false from decide_eq_false hb, Bool.false_or] at hV
      simp only [go_sem, Int.reduceEq, Int.reduceLT, Int.reduceLE, eq_self, Int.natCast_nonneg, Int.toNat_natCast, chainI, g1, g2, b1, b2, b3, b4, ints_len, hb]
      refine ⟨inR_i64.2 (by omega), k + 1, ⟨by omega, by rw [drop_cons hd]; exact hV⟩, by omega, ?_⟩
      refine le_end (own := [_, _]) (ex := [_]) (Nat.zero_le _) ?_ ?_ ?_
      · simp only [go_sem, Int.natCast_add, Int.cast_ofNat_Int]
      · simp only [go_sem]
      · simp only [go_sem, Obj.under, AV.unders, AV.under]
end Go.AM

set_option maxRecDepth 8000
namespace Go.AM
open Go Go.Proofs

theorem fewB_fit {s : PSys} (h : fewB s = true) : s.fit := by
  simp only [fewB, Bool.and_eq_true, Bool.not_eq_true', decide_eq_false_iff_not] at h
  exact ⟨⟨by omega, by omega, by omega⟩⟩
section
variable {s : PSys} {L : List Nat}
theorem makeO_err (h : checkE s ≠ 0) : makeO s = ([], checkE s) := by unfold makeO; rw [if_pos h]
theorem makeO_imp (h : checkE s = 0) (hi : (impO s).isSome = true) : makeO s = ([], 9) := by unfold makeO; rw [if_neg (by simp [h]), if_pos hi]
theorem makeO_ok (h : checkE s = 0) (hi : impO s = none) (hl : levV (nRes s) (sysE s) = some L) : makeO s = (L, 0) := by unfold makeO; rw [if_neg (by simp [h]), if_neg (by simp [hi]), hl]
theorem makeO_dead (h : checkE s = 0) (hi : impO s = none) (hl : levV (nRes s) (sysE s) = none) : makeO s = ([], 20) := by unfold makeO; rw [if_neg (by simp [h]), if_neg (by simp [hi]), hl]
end
theorem lev_lt {n : Nat} {l : List PEdge} {f : Nat → Nat} (hg : GOk n l) (h : IsLev n l f) : ∀ v, v < n → f v < n := by
  have hA := pot_acyc h.down
  have key : ∀ k v, v < n → f v = k → ∃ w, Wk (eF l) k v w := by
    intro k
    induction k with
    | zero => exact fun v _ _ => ⟨v, rfl⟩
    | succ k ih =>
      intro v hv hk
      rcases h.next v hv with h0 | ⟨e, he, hs, ht⟩
      · omega
      · obtain ⟨w, hw⟩ := ih e.t (hg.dst e he).2 (by omega)
        exact ⟨w, Wk_cons (List.mem_map.2 ⟨e, he, by rw [hs]⟩) hw⟩
  intro v hv
  obtain ⟨w, hw⟩ := key _ v hv rfl
  exact wk_short hg.eFlt hA hv hw
abbrev castL (L : List Nat) : List Int := L.map fun n : Nat => (n : Int)
theorem nats_ints (L : List Nat) : natsD L = intsD (castL L) := by simp
theorem ver_of {s : PSys} (h : checkE s = 0) (hi : impO s = none) {L : List Int} (hl : L.length = nRes s) (h0 : ∀ x ∈ L, 0 ≤ x ∧ x ≤ 4096) (hb : ∀ e ∈ sysE s, L.getD e.t 0 < L.getD e.s 0) : verN s L = 0 := by
  unfold verN
  have h1 : L.any outI = false := by
    rw [Bool.eq_false_iff]; intro hh
    obtain ⟨x, hx, hx2⟩ := List.any_eq_true.1 hh
    have := h0 x hx
    unfold outI at hx2
    simp only [Bool.or_eq_true, decide_eq_true_eq] at hx2
    omega
  have h2 : (sysE s).any (badV L) = false := by
    rw [Bool.eq_false_iff]; intro hh
    obtain ⟨e, he, hx2⟩ := List.any_eq_true.1 hh
    have := hb e he
    unfold badV at hx2
    rw [decide_eq_true_eq] at hx2
    omega
  rw [if_neg (by simp [h]), if_neg (by simp [hl, h1]), if_neg (by simp [hi]), if_neg (by rw [h2]; decide)]
theorem lev_facts {s : PSys} (h : checkE s = 0) {L : List Nat} (hl : levV (nRes s) (sysE s) = some L) : L.length = nRes s ∧ (∀ x ∈ L, x < nRes s) ∧ ∀ e ∈ sysE s, L.getD e.t 0 < L.getD e.s 0 := by
  have hg := sysE_ok h
  obtain ⟨f, hf, rfl⟩ := levV_is hl
  have hlt := lev_lt hg hf
  have hat : ∀ i, i < nRes s → ((List.range (nRes s)).map f).getD i 0 = f i := fun i hi => by simp [List.getD_eq_getElem?_getD, hi]
  refine ⟨by simp, fun x hx => ?_, fun e he => ?_⟩
  · obtain ⟨i, hi, rfl⟩ := List.mem_map.1 hx
    exact hlt i (List.mem_range.1 hi)
  · rw [hat _ (hg.dst e he).2, hat _ (hg.src e he).2]
    exact hf.down e he
theorem nRes_le {s : PSys} (h : checkE s = 0) : nRes s ≤ 16 := by
  have hg := good_of h
  have h1 := hg.np
  have h2 := hg.nl
  have h3 := hg.nc
  unfold nRes; omega
theorem cast_getD {L : List Nat} {i : Nat} : (castL L).getD i 0 = (L.getD i 0 : Nat) := by
  simp only [List.getD_eq_getElem?_getD, List.getElem?_map]
  cases L[i]? <;> rfl
theorem ver_make {s : PSys} (h : checkE s = 0) (hi : impO s = none) {L : List Nat} (hl : levV (nRes s) (sysE s) = some L) : verN s (castL L) = 0 := by
  obtain ⟨h1, h2, h3⟩ := lev_facts h hl
  have hr := nRes_le h
  refine ver_of h hi (by simp [h1]) (fun x hx => ?_) (fun e he => ?_)
  · obtain ⟨n, hn, rfl⟩ := List.mem_map.1 hx
    have := h2 n hn
    omega
  · rw [cast_getD, cast_getD]
    have := h3 e he
    omega
theorem ver_scale {s : PSys} (h : checkE s = 0) (hi : impO s = none) {L : List Nat} (hl : levV (nRes s) (sysE s) = some L) {f : Nat → Int} (hf : ∀ a b, a < b → b < 16 → f a < f b) (h0 : ∀ a, a < 16 → 0 ≤ f a ∧ f a ≤ 4096) : verN s (L.map f) = 0 := by
  obtain ⟨h1, h2, h3⟩ := lev_facts h hl
  have hr := nRes_le h
  have hg := sysE_ok h
  have hat : ∀ i, i < nRes s → (L.map f).getD i 0 = f (L.getD i 0) ∧ L.getD i 0 < 16 := fun i hi => by
    have hil : i < L.length := by omega
    simp only [List.getD_eq_getElem?_getD, List.getElem?_map, List.getElem?_eq_getElem hil]
    have := h2 _ (List.getElem_mem hil)
    exact ⟨rfl, by simp only [Option.getD_some]; omega⟩
  refine ver_of h hi (by simp [h1]) (fun x hx => ?_) (fun e he => ?_)
  · obtain ⟨n, hn, rfl⟩ := List.mem_map.1 hx
    have := h2 n hn
    exact h0 n (by omega)
  · obtain ⟨a1, a2⟩ := hat _ (hg.dst e he).2
    obtain ⟨b1, b2⟩ := hat _ (hg.src e he).2
    rw [a1, b1]
    exact hf _ _ (h3 e he) b2
theorem lev_ex {s : PSys} (h : checkE s = 0) (hA : acyc (eF (sysE s))) : ∃ L, levV (nRes s) (sysE s) = some L := by
  have := lev_iff (sysE_ok h)
  rw [acyc_cyc.1 hA] at this
  exact Option.isSome_iff_exists.1 this
theorem ver_only {s : PSys} {L : List Int} (hv : verN s L = 0) : checkE s = 0 ∧ impO s = none ∧ ∃ L', levV (nRes s) (sysE s) = some L' := by
  unfold verN at hv
  split at hv
  · rename_i h; exact absurd hv h
  rename_i h
  split at hv
  · cases hv
  rename_i h1
  split at hv
  · cases hv
  rename_i h2
  split at hv
  · cases hv
  rename_i h3
  have hc : checkE s = 0 := Classical.byContradiction h
  have hi : impO s = none := by cases hi : impO s with | none => rfl | some x => rw [hi] at h2; simp at h2
  have hg := sysE_ok hc
  simp only [not_or, Decidable.not_not] at h1
  have h0 : ∀ x ∈ L, 0 ≤ x := fun x hx => by
    have : outI x = false := by
      cases ho : outI x with
      | false => rfl
      | true => exact absurd (List.any_eq_true.2 ⟨x, hx, ho⟩) h1.2
    unfold outI at this
    simp only [Bool.or_eq_false_iff, decide_eq_false_iff_not] at this
    omega
  refine ⟨hc, hi, lev_ex hc ?_⟩
  refine pot_acyc (f := fun v => (L.getD v 0).toNat) fun e he => ?_
  have hb : badV L e = false := by
    cases hb : badV L e with
    | false => rfl
    | true => exact absurd (List.any_eq_true.2 ⟨e, he, hb⟩) h3
  unfold badV at hb
  rw [decide_eq_false_iff_not] at hb
  have hn : ∀ i, 0 ≤ L.getD i 0 := fun i => by
    rw [List.getD_eq_getElem?_getD]
    cases e : L[i]? with
    | none => simp
    | some n => exact h0 n (List.mem_of_getElem? e)
  have := hn e.s
  have := hn e.t
  show (L.getD e.t 0).toNat < (L.getD e.s 0).toNat
  omega
theorem expL_len (s : PSys) : (expL s).length = 0 ↔ cycL (sysE s) (sysE s).length = none := by
  unfold expL; rw [List.length_map]; exact cycV_len
theorem lev_exp {s : PSys} (h : checkE s = 0) : (levV (nRes s) (sysE s)).isSome = decide ((expL s).length = 0) := by
  rw [lev_iff (sysE_ok h)]
  cases hc : cycL (sysE s) (sysE s).length with
  | none => rw [decide_eq_true ((expL_len s).2 hc)]; rfl
  | some c => rw [decide_eq_false (fun hh => by rw [(expL_len s).1 hh] at hc; cases hc)]; rfl
theorem exp_next {s : PSys} (h : checkE s = 0) {i : Nat} (hi : i < (expL s).length) : (expL s).getD i default ∈ sysE s ∧ ((expL s).getD i default).dst = ((expL s).getD ((i + 1) % (expL s).length) default).src := by
  have hg := sysE_ok h
  have hC := cycV_ok (sysE s)
  have hlen : (expL s).length = (cycV (sysE s)).length := by simp [expL]
  have hj : (i + 1) % (expL s).length < (expL s).length := Nat.mod_lt _ (by omega)
  have hat : ∀ k, k < (expL s).length → ∃ m, (cycV (sysE s))[k]? = some m ∧ m < (sysE s).length ∧ (expL s).getD k default = (sysE s).getD m default := fun k hk => by
    have hk2 : k < (cycV (sysE s)).length := by omega
    have e := List.getElem?_eq_getElem hk2
    refine ⟨_, e, hC.at_ k _ e, ?_⟩
    unfold expL
    rw [List.getD_eq_getElem?_getD, List.getElem?_map, e]
    rfl
  obtain ⟨m, m1, m2, m3⟩ := hat i hi
  obtain ⟨q, q1, q2, q3⟩ := hat _ hj
  rw [hlen] at q1
  have hn := hC.next i m q m1 q1
  have mm : (sysE s).getD m default ∈ sysE s := by rw [List.getD_eq_getElem?_getD, List.getElem?_eq_getElem m2]; exact List.getElem_mem m2
  have qm : (sysE s).getD q default ∈ sysE s := by rw [List.getD_eq_getElem?_getD, List.getElem?_eq_getElem q2]; exact List.getElem_mem q2
  rw [m3, q3]
  refine ⟨mm, ?_⟩
  rw [(hg.dst _ mm).1, (hg.src _ qm).1]
  unfold tOf sOf at hn
  rw [hn]
end Go.AM

set_option maxRecDepth 8000
set_option maxHeartbeats 2000000
namespace Go.AM
open Go Go.Proofs

theorem target_nat {s : PSys} (hg : s.good) {x : PStep} (hp : preE s x = 0) (hw : waitB s x = true) : ∃ r : Nat, targetN s x = r ∧ r < nRes s := by
  obtain ⟨_, ⟨o1, o2⟩, _⟩ := preE_0 hp
  unfold mostE at o2
  unfold nRes targetN
  by_cases k3 : x.kind = 3
  · rw [if_pos (.inl k3)] at o2
    rw [if_pos k3]
    exact ⟨s.pools.length + x.on.toNat, by omega, by omega⟩
  · rw [if_neg k3]
    by_cases k5 : x.kind = 5
    · rw [if_neg (by omega), if_pos k5] at o2
      rw [if_pos k5]
      exact ⟨s.pools.length + s.locks.length + x.on.toNat, by omega, by omega⟩
    · rw [if_neg k5]
      have k1 : x.kind = 1 := Classical.byContradiction fun hk => by
        unfold waitB at hw
        rw [if_neg (by omega), if_neg hk] at hw
        cases hw
      rw [if_neg (by omega), if_neg k5] at o2
      exact ⟨x.on.toNat, by omega, by omega⟩
def noBad (E : List PEdge) (L : List Int) (i k : Nat) (H : List Int) : Prop := ∀ e ∈ E, (e.cls < i ∨ (e.cls = i ∧ (e.step < k ∨ (e.step = k ∧ e.src ∈ H)))) → badV L e = false
section
variable {s : PSys} {E : List PEdge} {L : List Int} {i k : Nat} {c : PCls} {x : PStep}
theorem noBad_zero (h : EFacts s E) : noBad E L 0 0 [] := by
  intro e he hh
  obtain ⟨i, k, c, x, h1, h2, h3, h4, h5, h6, h7⟩ := h.mem e he
  rcases hh with hh | ⟨_, hh | ⟨_, hh⟩⟩
  · omega
  · omega
  · cases hh
theorem noBad_step (h : EFacts s E) (hc : s.classes[i]? = some c) (hx : c.steps[k]? = some x) (hb : noBad E L i k (holdL s c i (c.steps.take k))) : noBad E L i (k + 1) [] := by
  intro e he hh
  refine hb e he ?_
  rcases hh with hh | ⟨h1, hh | ⟨_, hh⟩⟩
  · exact .inl hh
  · by_cases hk : e.step < k
    · exact .inr ⟨h1, .inl hk⟩
    · refine .inr ⟨h1, .inr ⟨by omega, ?_⟩⟩
      obtain ⟨i', k', c', x', g1, g2, g3, g4, g5, g6, g7⟩ := h.mem e he
      obtain rfl : i' = i := by omega
      obtain rfl : k' = k := by omega
      rw [hc] at g1; cases g1
      exact g7
  · cases hh
theorem noBad_skip (h : EFacts s E) (hc : s.classes[i]? = some c) (hx : c.steps[k]? = some x) (hw : waitB s x = false) (hb : noBad E L i k []) : noBad E L i (k + 1) [] := by
  refine noBad_step h hc hx fun e he hh => hb e he ?_
  rcases hh with hh | ⟨h1, hh | ⟨h2, hh⟩⟩
  · exact .inl hh
  · exact .inr ⟨h1, .inl hh⟩
  · obtain ⟨i', k', c', x', g1, g2, g3, g4, g5, g6, g7⟩ := h.mem e he
    obtain rfl : i' = i := by omega
    obtain rfl : k' = k := by omega
    rw [hc] at g1; cases g1
    rw [hx] at g2; cases g2
    rw [hw] at g3; cases g3
theorem noBad_class (h : EFacts s E) (hc : s.classes[i]? = some c) (hb : noBad E L i c.steps.length []) : noBad E L (i + 1) 0 [] := by
  intro e he hh
  refine hb e he ?_
  rcases hh with hh | ⟨_, hh | ⟨_, hh⟩⟩
  · by_cases hi : e.cls < i
    · exact .inl hi
    · refine .inr ⟨by omega, .inl ?_⟩
      obtain ⟨i', k', c', x', g1, g2, g3, g4, g5, g6, g7⟩ := h.mem e he
      obtain rfl : i' = i := by omega
      rw [hc] at g1; cases g1
      have := (List.getElem?_eq_some_iff.1 g2).1
      omega
  · obtain ⟨i', k', c', x', g1, g2, g3, g4, g5, g6, g7⟩ := h.mem e he
    omega
  · cases hh
theorem noBad_end (h : EFacts s E) (hb : noBad E L s.classes.length 0 []) : E.any (badV L) = false := by
  rw [Bool.eq_false_iff]
  intro hh
  obtain ⟨e, he, hh⟩ := List.any_eq_true.1 hh
  obtain ⟨i', k', c', x', g1, g2, g3, g4, g5, g6, g7⟩ := h.mem e he
  have := (List.getElem?_eq_some_iff.1 g1).1
  rw [hb e he (.inl (by omega))] at hh
  cases hh
theorem noBad_snoc {H : List Int} {f : Int} (h : EFacts s E) (hc : s.classes[i]? = some c) (hx : c.steps[k]? = some x) (hb : noBad E L i k H) (hf : ∀ e ∈ E, e.src = f → e.dst = targetN s x → badV L e = false) : noBad E L i k (H ++ [f]) := by
  intro e he hh
  rcases hh with hh | ⟨h1, hh | ⟨h2, hh⟩⟩
  · exact hb e he (.inl hh)
  · exact hb e he (.inr ⟨h1, .inl hh⟩)
  · rcases List.mem_append.1 hh with hh | hh
    · exact hb e he (.inr ⟨h1, .inr ⟨h2, hh⟩⟩)
    · obtain rfl : e.src = f := by simpa using hh
      obtain ⟨i', k', c', x', g1, g2, g3, g4, g5, g6, g7⟩ := h.mem e he
      obtain rfl : i' = i := by omega
      obtain rfl : k' = k := by omega
      rw [hc] at g1; cases g1
      rw [hx] at g2; cases g2
      exact hf e he rfl g6
end
theorem waitN_at {s : PSys} {i k : Nat} {c : PCls} {x : PStep} (h : checkE s = 0) (hc : s.classes[i]? = some c) (hx : c.steps[k]? = some x) : waitN s i k = waitB s x := by
  have hi := (List.getElem?_eq_some_iff.1 hc).1
  have hk := (List.getElem?_eq_some_iff.1 hx).1
  have e : s.classes.getD i default = c := by rw [List.getD_eq_getElem?_getD, hc]; rfl
  have hn : ¬ noStep s i k := by rw [noStep_nat hi, e]; omega
  unfold waitN
  rw [if_neg (fun hh => hh.elim (fun h2 => h2 h) hn), stepAt_nat, e, List.getD_eq_getElem?_getD, hx]; rfl
abbrev tabVR : List (Nat × Contract) := [(32, dataC checkR), (35, dataC resR), (15, dataC impVR), (45, dataC waitNR), (46, dataC holdR), (47, dataC targetR)]
theorem tabVR_ok : OkG Try.prog (tbl tabVR) := okG_cons rcheck_ok (okG_cons rresources_ok (okG_cons rImpossible_ok (okG_cons rWaits_ok (okG_cons rholdings_ok (okG_cons target_ok okG_nil)))))
theorem pureVR : PureFns (tbl tabVR) [35, 47] := by
  refine pure_of2 fun g C hm hg => ?_
  simp only [List.mem_cons, List.not_mem_nil, or_false, Prod.mk.injEq] at hm
  rcases hm with ⟨_, rfl⟩ | ⟨_, rfl⟩ | ⟨_, rfl⟩ | ⟨_, rfl⟩ | ⟨_, rfl⟩ | ⟨_, rfl⟩ <;> exact .inl ⟨_, rfl⟩
theorem rverify_ok : OkF Try.prog 23 (dataC verR) := by
  refine okF_data Try.func23 rfl (by decide) ?_
  rintro ds v ⟨s, L, rfl, hf, hl, rfl⟩
  refine sem_of_awp (Γ := tbl tabVR) tabVR_ok _ _ _ ?_
  simp only [go_sem, Int.reduceEq, Int.reduceLT, Int.reduceLE, eq_self, Int.natCast_nonneg, Int.toNat_natCast, Try.ntmps23, sysD]
  refine call_data checkR (by simp) [sysD s] _ rfl ⟨s, rfl, hf, rfl⟩ (.inl rfl) ?_
  generalize hv : verN s L = V
  unfold verN at hv
  by_cases h : checkE s = 0
  case neg =>
    rw [if_pos h] at hv
    subst hv
    simp only [go_sem, Int.reduceEq, Int.reduceLT, Int.reduceLE, eq_self, Int.natCast_nonneg, Int.toNat_natCast, h]
    exact post_data (.inl rfl) [4] rfl trivial rfl
  rw [if_neg (by rw [h]; decide)] at hv
  have hg := good_of h
  have hgk := sysE_ok h
  have hn4 := hgk.n4
  have hnc := hg.nc
  simp only [go_sem, Int.reduceEq, Int.reduceLT, Int.reduceLE, eq_self, Int.natCast_nonneg, Int.toNat_natCast, h]
  refine sem_draw (pf := [35, 47]) (Γ := tbl tabVR) mixed tabVR_ok pureVR [0, 1, 2, 3, 4, 5] (by kernel_rfl) ?_
  simp only [go_sem, Int.reduceEq, Int.reduceLT, Int.reduceLE, eq_self, Int.natCast_nonneg, Int.toNat_natCast, chainI, ints_len]
  refine call_data resR (by simp) [sysD s] _ rfl ⟨s, rfl, hf, rfl⟩ (.inl rfl) ?_
  rw [resN_ok h]
  by_cases hne : L.length = nRes s
  case neg =>
    have hne2 : ¬ (L.length : Int) = (nRes s : Nat) := by omega
    rw [if_pos (.inl hne)] at hv
    subst hv
    simp only [go_sem, Int.reduceEq, Int.reduceLT, Int.reduceLE, eq_self, Int.natCast_nonneg, Int.toNat_natCast, chainI, hne2]
    exact post_data (.inl rfl) [4] rfl trivial rfl
  have hne2 : (L.length : Int) = (nRes s : Nat) := by omega
  have hv1 : (if L.any outI = true then (3 : Int) else if (impO s).isSome = true then 9 else if (sysE s).any (badV L) = true then 19 else 0) = V := by
    rw [← hv]
    cases L.any outI with
    | true => simp
    | false => simp [hne]
  clear hv
  simp only [go_sem, Int.reduceEq, Int.reduceLT, Int.reduceLE, eq_self, Int.natCast_nonneg, Int.toNat_natCast, chainI, hne2]
  refine sem_loop (fun k : Nat => ⟨slotsOf 112 [(2, .ptr 0 0 0), (3, .ptr 1 0 0), (6, .dat (.int .i64 k))], [sysO s, .box [.dat (.sl none (intsD L))]], 0, []⟩)
    (fun k => k ≤ L.length ∧ (if (L.drop k).any outI = true then (3 : Int) else if (impO s).isSome = true then 9 else if (sysE s).any (badV L) = true then 19 else 0) = V) (fun k => L.length - k) 0 ⟨Nat.zero_le _, hv1⟩ ?_ ?_
  · exact le_slots' (by simp only [go_sem, Int.natCast_zero])
  rintro k ⟨hk, hv1⟩
  refine sem_of_awp (Γ := tbl tabVR) tabVR_ok _ _ _ ?_
  cases hd : L.drop k with
  | cons y r =>
    have hlt := lt_of_drop hd
    have hk2 : (k : Int) < L.length := by omega
    have hk0 : (0 : Int) ≤ k := Int.natCast_nonneg k
    have hn := nth_of_drop (f := .int .i64) hd
    rw [hd, List.any_cons] at hv1
    by_cases h1 : y < 0
    · rw [show outI y = true from by simp [outI, h1], Bool.true_or, if_pos rfl] at hv1
      subst hv1
      simp only [go_sem, Int.reduceEq, Int.reduceLT, Int.reduceLE, eq_self, Int.natCast_nonneg, Int.toNat_natCast, hk2, hk0, hlt, hn, ints_len, h1]
      exact post_data (.inl rfl) [4] rfl trivial rfl
    · by_cases h2 : 4096 < y
      · rw [show outI y = true from by simp [outI, h2], Bool.true_or, if_pos rfl] at hv1
        subst hv1
        simp only [go_sem, Int.reduceEq, Int.reduceLT, Int.reduceLE, eq_self, Int.natCast_nonneg, Int.toNat_natCast, hk2, hk0, hlt, hn, ints_len, h1, h2]
        exact post_data (.inl rfl) [4] rfl trivial rfl
      · rw [show outI y = false from by simp [outI]; omega, Bool.false_or] at hv1
        simp only [go_sem, Int.reduceEq, Int.reduceLT, Int.reduceLE, eq_self, Int.natCast_nonneg, Int.toNat_natCast, hk2, hk0, hlt, hn, ints_len, h1, h2]
        refine ⟨inR_i64.2 (by omega), k + 1, ⟨by omega, by rw [drop_cons hd]; exact hv1⟩, by omega, ?_⟩
        exact le_slots' (by simp only [go_sem, Int.natCast_add, Int.cast_ofNat_Int])
  | nil =>
  have := end_of_drop hd hk
  have hk2 : ¬ (k : Int) < L.length := by omega
  rw [hd, List.any_nil, if_neg (by decide)] at hv1
  simp only [go_sem, Int.reduceEq, Int.reduceLT, Int.reduceLE, eq_self, Int.natCast_nonneg, Int.toNat_natCast, hk2, ints_len]
  clear hd hk hk2 this
  refine call_data impVR (by simp) [sysD s] _ rfl ⟨s, rfl, hf, rfl⟩ (.inl rfl) ?_
  cases hi : impO s with
  | some q =>
    obtain ⟨i, k⟩ := q
    rw [hi, if_pos (by rfl)] at hv1
    subst hv1
    simp only [go_sem, Int.reduceEq, Int.reduceLT, Int.reduceLE, eq_self, Int.natCast_nonneg, Int.toNat_natCast, fstV]
    exact post_data (.inl rfl) [4] rfl trivial rfl
  | none =>
  rw [hi, if_neg (by decide)] at hv1
  simp only [go_sem, Int.reduceEq, Int.reduceLT, Int.reduceLE, eq_self, Int.natCast_nonneg, Int.toNat_natCast, fstV]
  have hE : EFacts s (sysE s) := eFacts s
  generalize sysE s = E at *
  refine sem_loop (fun i : Nat => ⟨slotsOf 112 [(2, .ptr 0 0 0), (3, .ptr 1 0 0), (10, .dat (.int .i64 i))], [sysO s, .box [.dat (.sl none (intsD L))]], 0, []⟩)
    (fun i => i ≤ s.classes.length ∧ noBad E L i 0 []) (fun i => s.classes.length - i) 0 ⟨Nat.zero_le _, noBad_zero hE⟩ ?_ ?_
  · exact le_slots' (by simp only [go_sem, Int.natCast_zero])
  rintro i ⟨hi, hI⟩
  refine sem_of_awp (Γ := tbl tabVR) tabVR_ok _ _ _ ?_
  cases hd : s.classes.drop i with
  | nil =>
    have := end_of_drop hd hi
    have hk2 : ¬ (i : Int) < s.classes.length := by omega
    rw [this] at hI
    rw [noBad_end hE hI, if_neg (by decide)] at hv1
    subst hv1
    simp only [go_sem, Int.reduceEq, Int.reduceLT, Int.reduceLE, eq_self, Int.natCast_nonneg, Int.toNat_natCast, hk2, List.length_map]
    exact post_data (.inl rfl) [4] rfl trivial rfl
  | cons c r =>
  have hlt := lt_of_drop hd
  have hi2 : (i : Int) < s.classes.length := by omega
  have hi0 : (0 : Int) ≤ i := Int.natCast_nonneg i
  have hn := nth_of_drop (f := clsD) hd
  have hgc := get_of_drop hd
  have hc := hg.cls c (mem_of_drop hd)
  have h12 := hc.l12
  have hcd : s.classes.getD i default = c := by rw [List.getD_eq_getElem?_getD, hgc]; rfl
  simp only [go_sem, Int.reduceEq, Int.reduceLT, Int.reduceLE, eq_self, Int.natCast_nonneg, Int.toNat_natCast, hi2, List.length_map]
  refine sem_loop (fun k : Nat => ⟨slotsOf 112 [(2, .ptr 0 0 0), (3, .ptr 1 0 0), (10, .dat (.int .i64 i)), (11, .dat (.int .i64 k))], [sysO s, .box [.dat (.sl none (intsD L))]], 0, []⟩)
    (fun k => k ≤ c.steps.length ∧ noBad E L i k []) (fun k => c.steps.length - k) 0 ⟨Nat.zero_le _, hI⟩ ?_ ?_
  · exact le_slots' (by simp only [go_sem, Int.natCast_zero])
  rintro k ⟨hk, hK⟩
  refine sem_of_awp (Γ := tbl tabVR) tabVR_ok _ _ _ ?_
  cases hd2 : c.steps.drop k with
  | nil =>
    have := end_of_drop hd2 hk
    have hk2 : ¬ (k : Int) < c.steps.length := by omega
    rw [this] at hK
    simp only [go_sem, Int.reduceEq, Int.reduceLT, Int.reduceLE, eq_self, Int.natCast_nonneg, Int.toNat_natCast, hi2, hi0, hn, hlt, clsD, stepsD, hk2, List.length_map]
    refine ⟨inR_i64.2 (by omega), i + 1, ⟨by omega, noBad_class hE hgc hK⟩, by omega, ?_⟩
    exact le_slots' (by simp only [go_sem, Int.natCast_add, Int.cast_ofNat_Int])
  | cons x q =>
  have hlt2 := lt_of_drop hd2
  have hk2 : (k : Int) < c.steps.length := by omega
  have hk0 : (0 : Int) ≤ k := Int.natCast_nonneg k
  have hn2 := nth_of_drop (f := stepD) hd2
  have hgx := get_of_drop hd2
  have hp := hc.pre x (mem_of_drop hd2)
  have hw := waitN_at h hgc hgx
  simp only [go_sem, Int.reduceEq, Int.reduceLT, Int.reduceLE, eq_self, Int.natCast_nonneg, Int.toNat_natCast, hi2, hi0, hn, hlt, clsD, stepsD, hk2, List.length_map]
  refine call_data waitNR (by simp) [sysD s, .int .i64 i, .int .i64 k] _ rfl ⟨s, i, k, rfl, hf, rfl⟩ (.inl rfl) ?_
  rw [hw]
  cases hb : waitB s x with
  | false =>
    simp only [go_sem, Int.reduceEq, Int.reduceLT, Int.reduceLE, eq_self, Int.natCast_nonneg, Int.toNat_natCast]
    refine ⟨inR_i64.2 (by omega), k + 1, ⟨by omega, noBad_skip hE hgc hgx hb hK⟩, by omega, ?_⟩
    exact le_slots' (by simp only [go_sem, Int.natCast_add, Int.cast_ofNat_Int])
  | true =>
  simp only [go_sem, Int.reduceEq, Int.reduceLT, Int.reduceLE, eq_self, Int.natCast_nonneg, Int.toNat_natCast]
  refine call_data holdR (by simp) [sysD s, .int .i64 i, .int .i64 k] _ rfl ⟨s, i, k, rfl, hf, h, hlt, by rw [hcd]; omega, rfl⟩ (.inl rfl) ?_
  rw [hcd]
  have hhl := holdL_len s c i (c.steps.take k)
  have hrange := fun f (hh : f ∈ holdL s c i (c.steps.take k)) => holdL_range (i := i) hlt hh
  have hhas := fun f => hE.has i k c x f hgc hgx hb
  have hend := noBad_step (L := L) hE hgc hgx
  obtain ⟨t, ht, htn⟩ := target_nat hg hp hb
  simp only [go_sem, Int.reduceEq, Int.reduceLT, Int.reduceLE, eq_self, Int.natCast_nonneg, Int.toNat_natCast]
  refine sem_draw (pf := [35, 47]) (Γ := tbl tabVR) mixed tabVR_ok pureVR [0, 1, 2, 3, 4, 5, 6, 7, 8, 9, 10, 11] (by kernel_rfl) ?_
  simp only [go_sem, Int.reduceEq, Int.reduceLT, Int.reduceLE, eq_self, Int.natCast_nonneg, Int.toNat_natCast, chainI, hi2, hi0, hn, hlt, clsD, stepsD, hk2, hk0, hn2, hlt2, List.length_map]
  refine call_data targetR (by simp) [sysD s, stepD x] _ rfl ⟨s, x, rfl, hg, hp, rfl⟩ (.inl rfl) ?_
  simp only [go_sem, Int.reduceEq, Int.reduceLT, Int.reduceLE, eq_self, Int.natCast_nonneg, Int.toNat_natCast, chainI]
  generalize holdL s c i (c.steps.take k) = H at *
  have hnp := hg.np
  have hnl := hg.nl
  refine sem_loop (fun j : Nat => ⟨slotsOf 112 [(2, .ptr 0 0 0), (3, .ptr 1 0 0), (10, .dat (.int .i64 i)), (11, .dat (.int .i64 k)), (12, .dat (.sl none (intsD H))), (13, .dat (.int .i64 (targetN s x))), (14, .dat (.int .i64 j))], [sysO s, .box [.dat (.sl none (intsD L))]], 0, []⟩)
    (fun j => j ≤ H.length ∧ noBad E L i k (H.take j)) (fun j => H.length - j) 0 ⟨Nat.zero_le _, hK⟩ ?_ ?_
  · exact le_slots' (by simp only [go_sem, Int.natCast_zero])
  rintro j ⟨hj, hJ⟩
  refine sem_of_awp (Γ := tbl tabVR) tabVR_ok _ _ _ ?_
  cases hd3 : H.drop j with
  | nil =>
    have := end_of_drop hd3 hj
    have hj2 : ¬ (j : Int) < H.length := by omega
    rw [this, List.take_length] at hJ
    simp only [go_sem, Int.reduceEq, Int.reduceLT, Int.reduceLE, eq_self, Int.natCast_nonneg, Int.toNat_natCast, hj2, ints_len]
    refine ⟨inR_i64.2 (by omega), k + 1, ⟨by omega, hend hJ⟩, by omega, ?_⟩
    exact le_slots' (by simp only [go_sem, Int.natCast_add, Int.cast_ofNat_Int])
  | cons f r3 =>
  have hlt3 := lt_of_drop hd3
  have hj2 : (j : Int) < H.length := by omega
  have hj0 : (0 : Int) ≤ j := Int.natCast_nonneg j
  have hn3 := nth_of_drop (f := .int .i64) hd3
  have hfm := mem_of_drop hd3
  obtain ⟨fr, rfl, hfr, _⟩ := hrange f hfm
  have hfr : fr < nRes s := hfr
  have g1 := ints_nth (l := L) 0 (i := fr) (by omega)
  have g2 := ints_nth (l := L) 0 (i := t) (by omega)
  have b1 : fr < L.length := by omega
  have b2 : t < L.length := by omega
  have b3 : (fr : Int) < L.length := by omega
  have b4 : (t : Int) < L.length := by omega
  simp only [go_sem, Int.reduceEq, Int.reduceLT, Int.reduceLE, eq_self, Int.natCast_nonneg, Int.toNat_natCast, hj2, ints_len]
  refine sem_draw (pf := []) (Γ := tbl tabVR) mixed tabVR_ok (fun g _ _ _ _ _ h => by cases h) [0, 1, 2, 3, 4, 5, 6, 7, 8, 9, 10, 11, 12, 13] (by kernel_rfl) ?_
  by_cases hbad : L.getD fr 0 ≤ L.getD t 0
  · obtain ⟨e, he, he1, he2⟩ := hasE_iff.1 (hhas _ hfm)
    have hany : E.any (badV L) = true := by
      refine List.any_eq_true.2 ⟨e, he, ?_⟩
      unfold badV PEdge.s PEdge.t
      rw [he1, he2, ht, Int.toNat_natCast, Int.toNat_natCast]
      exact decide_eq_true hbad
    rw [hany, if_pos rfl] at hv1
    subst hv1
    simp only [go_sem, Int.reduceEq, Int.reduceLT, Int.reduceLE, eq_self, Int.natCast_nonneg, Int.toNat_natCast, chainI, hj2, hj0, hlt3, hn3, ht, g1, g2, b1, b2, b3, b4, ints_len, hbad]
    exact post_data (.inl rfl) [4] rfl trivial rfl
  · simp only [go_sem, Int.reduceEq, Int.reduceLT, Int.reduceLE, eq_self, Int.natCast_nonneg, Int.toNat_natCast, chainI, hj2, hj0, hlt3, hn3, ht, g1, g2, b1, b2, b3, b4, ints_len, hbad]
    refine ⟨inR_i64.2 (by omega), j + 1, ⟨by omega, ?_⟩, by omega, ?_⟩
    · rw [take_of_drop hd3]
      refine noBad_snoc hE hgc hgx hJ fun e he h1 h2 => ?_
      unfold badV PEdge.s PEdge.t
      rw [h1, h2, ht, Int.toNat_natCast, Int.toNat_natCast]
      exact decide_eq_false hbad
    · exact le_slots' (by simp only [go_sem, Int.natCast_add, Int.cast_ofNat_Int])
end Go.AM

set_option maxRecDepth 100000
namespace Go.AM
open Go Go.Proofs
theorem cev1 : evalM Try.prog [] 1000 24 [(.agg [(.sl (some 3) [(.agg [(.str [102, 114, 97, 109, 101, 115]), (.int .i64 4), (.int .i64 1)])]), (.sl none [(.str [109, 97, 112])]), (.sl (some 4) [(.agg [(.str [102, 97, 117, 108, 116]), (.int .i64 2), (.bool false), (.sl (some 4) [(.agg [(.int .i64 3), (.int .i64 0), (.int .i64 0), (.bool false)]), (.agg [(.int .i64 1), (.int .i64 0), (.int .i64 1), (.bool false)]), (.agg [(.int .i64 1), (.int .i64 0), (.int .i64 1), (.bool false)]), (.agg [(.int .i64 5), (.int .i64 1), (.int .i64 0), (.bool false)]), (.agg [(.int .i64 2), (.int .i64 0), (.int .i64 2), (.bool false)]), (.agg [(.int .i64 4), (.int .i64 0), (.int .i64 0), (.bool false)])])]), (.agg [(.str [101, 118, 105, 99, 116]), (.int .i64 1), (.bool true), (.sl (some 4) [(.agg [(.int .i64 1), (.int .i64 0), (.int .i64 1), (.bool true)]), (.agg [(.int .i64 2), (.int .i64 0), (.int .i64 1), (.bool false)])])])])])] = some ((.tup [(.sl 0 0 4), (.dat (.int .i64 0))]), [(.row (some 4) [(.agg [(.int .i64 1), (.int .i64 0), (.int .i64 0), (.int .i64 1)]), (.agg [(.int .i64 0), (.int .i64 0), (.int .i64 0), (.int .i64 2)]), (.agg [(.int .i64 0), (.int .i64 3), (.int .i64 0), (.int .i64 3)]), (.agg [(.int .i64 1), (.int .i64 3), (.int .i64 0), (.int .i64 3)])])]) := by kernel_rfl
end Go.AM

set_option maxRecDepth 100000
namespace Go.AM
open Go Go.Proofs
theorem cev2 : evalM Try.prog [] 1000 24 [(.agg [(.sl (some 3) [(.agg [(.str [102, 114, 97, 109, 101, 115]), (.int .i64 4), (.int .i64 1)])]), (.sl none [(.str [109, 97, 112])]), (.sl (some 4) [(.agg [(.str [102, 97, 117, 108, 116]), (.int .i64 2), (.bool false), (.sl (some 4) [(.agg [(.int .i64 3), (.int .i64 0), (.int .i64 0), (.bool false)]), (.agg [(.int .i64 1), (.int .i64 0), (.int .i64 1), (.bool false)]), (.agg [(.int .i64 5), (.int .i64 1), (.int .i64 0), (.bool false)]), (.agg [(.int .i64 2), (.int .i64 0), (.int .i64 1), (.bool false)]), (.agg [(.int .i64 4), (.int .i64 0), (.int .i64 0), (.bool false)])])]), (.agg [(.str [101, 118, 105, 99, 116]), (.int .i64 1), (.bool true), (.sl (some 4) [(.agg [(.int .i64 1), (.int .i64 0), (.int .i64 1), (.bool true)]), (.agg [(.int .i64 2), (.int .i64 0), (.int .i64 1), (.bool false)])])])])])] = some ((.tup [(.sl 0 0 2), (.dat (.int .i64 0))]), [(.row (some 4) [(.agg [(.int .i64 0), (.int .i64 3), (.int .i64 0), (.int .i64 2)]), (.agg [(.int .i64 1), (.int .i64 3), (.int .i64 0), (.int .i64 2)])])]) := by kernel_rfl
end Go.AM

set_option maxRecDepth 100000
namespace Go.AM
open Go Go.Proofs
theorem cev3 : evalM Try.prog [] 1000 24 [(.agg [(.sl (some 3) [(.agg [(.str [102, 114, 97, 109, 101, 115]), (.int .i64 4), (.int .i64 1)])]), (.sl none [(.str [109, 97, 112])]), (.sl (some 4) [(.agg [(.str [102, 97, 117, 108, 116]), (.int .i64 2), (.bool false), (.sl (some 4) [(.agg [(.int .i64 3), (.int .i64 0), (.int .i64 0), (.bool false)]), (.agg [(.int .i64 1), (.int .i64 0), (.int .i64 1), (.bool false)]), (.agg [(.int .i64 5), (.int .i64 1), (.int .i64 0), (.bool false)]), (.agg [(.int .i64 2), (.int .i64 0), (.int .i64 1), (.bool false)]), (.agg [(.int .i64 4), (.int .i64 0), (.int .i64 0), (.bool false)])])]), (.agg [(.str [101, 118, 105, 99, 116]), (.int .i64 0), (.bool true), (.sl (some 4) [(.agg [(.int .i64 1), (.int .i64 0), (.int .i64 1), (.bool true)]), (.agg [(.int .i64 2), (.int .i64 0), (.int .i64 1), (.bool false)])])])])])] = some ((.tup [(.sl 0 0 2), (.dat (.int .i64 0))]), [(.row (some 4) [(.agg [(.int .i64 0), (.int .i64 3), (.int .i64 0), (.int .i64 2)]), (.agg [(.int .i64 1), (.int .i64 3), (.int .i64 0), (.int .i64 2)])])]) := by kernel_rfl
end Go.AM

set_option maxRecDepth 100000
namespace Go.AM
open Go Go.Proofs
theorem cev4 : evalM Try.prog [] 1000 31 [(.int .i64 4), (.sl (some 4) [(.agg [(.int .i64 1), (.int .i64 0), (.int .i64 0), (.int .i64 1)]), (.agg [(.int .i64 0), (.int .i64 0), (.int .i64 0), (.int .i64 2)]), (.agg [(.int .i64 0), (.int .i64 3), (.int .i64 0), (.int .i64 3)]), (.agg [(.int .i64 1), (.int .i64 3), (.int .i64 0), (.int .i64 3)])])] = some ((.tup [.nils, (.dat (.int .i64 10))]), []) := by kernel_rfl
theorem cev5 : evalM Try.prog [] 1000 31 [(.int .i64 4), (.sl (some 4) [(.agg [(.int .i64 0), (.int .i64 3), (.int .i64 0), (.int .i64 2)]), (.agg [(.int .i64 1), (.int .i64 3), (.int .i64 0), (.int .i64 2)])])] = some ((.tup [(.sl 0 0 4), (.dat (.int .i64 0))]), [(.row none [(.int .i64 1), (.int .i64 1), (.int .i64 0), (.int .i64 0)])]) := by kernel_rfl
theorem cev6 : evalM Try.prog [] 1000 40 [(.int .i64 4), (.sl (some 4) [(.agg [(.int .i64 1), (.int .i64 0), (.int .i64 0), (.int .i64 1)]), (.agg [(.int .i64 0), (.int .i64 0), (.int .i64 0), (.int .i64 2)]), (.agg [(.int .i64 0), (.int .i64 3), (.int .i64 0), (.int .i64 3)]), (.agg [(.int .i64 1), (.int .i64 3), (.int .i64 0), (.int .i64 3)])])] = some ((.tup [(.sl 0 0 1), (.dat (.int .i64 0))]), [(.row none [(.int .i64 1)])]) := by kernel_rfl
end Go.AM

set_option maxRecDepth 100000
namespace Go.AM
open Go Go.Proofs

theorem mixedP : Try.prog.follows .mixedOrders = true := by kernel_rfl
theorem names : Names Try.prog := by
  have h : (Try.prog.funcs.toList.all fun f => decide (f.name ≠ "runtime.NumGoroutine")) = true := by kernel_rfl
  intro g fn hf
  have := List.all_eq_true.1 h fn (List.mem_of_getElem? (by simpa using hf))
  simpa using this
end Go.AM

set_option maxRecDepth 100000
namespace Go.AM
open Go Go.Proofs
def tabC1 : Tab := (24, [(.agg [(.sl (some 3) [(.agg [(.str [102, 114, 97, 109, 101, 115]), (.int .i64 4), (.int .i64 1)])]), (.sl none [(.str [109, 97, 112])]), (.sl (some 4) [(.agg [(.str [102, 97, 117, 108, 116]), (.int .i64 2), (.bool false), (.sl (some 4) [(.agg [(.int .i64 3), (.int .i64 0), (.int .i64 0), (.bool false)]), (.agg [(.int .i64 1), (.int .i64 0), (.int .i64 1), (.bool false)]), (.agg [(.int .i64 1), (.int .i64 0), (.int .i64 1), (.bool false)]), (.agg [(.int .i64 5), (.int .i64 1), (.int .i64 0), (.bool false)]), (.agg [(.int .i64 2), (.int .i64 0), (.int .i64 2), (.bool false)]), (.agg [(.int .i64 4), (.int .i64 0), (.int .i64 0), (.bool false)])])]), (.agg [(.str [101, 118, 105, 99, 116]), (.int .i64 1), (.bool true), (.sl (some 4) [(.agg [(.int .i64 1), (.int .i64 0), (.int .i64 1), (.bool true)]), (.agg [(.int .i64 2), (.int .i64 0), (.int .i64 1), (.bool false)])])])])])], (.tup [(.sl 0 0 4), (.dat (.int .i64 0))]), [(.row (some 4) [(.agg [(.int .i64 1), (.int .i64 0), (.int .i64 0), (.int .i64 1)]), (.agg [(.int .i64 0), (.int .i64 0), (.int .i64 0), (.int .i64 2)]), (.agg [(.int .i64 0), (.int .i64 3), (.int .i64 0), (.int .i64 3)]), (.agg [(.int .i64 1), (.int .i64 3), (.int .i64 0), (.int .i64 3)])])]) :: []
theorem tabC1_ok : Base Try.prog tabC1 := base_cons base_nil base_nil mixedP names 1000 cev1
def tabC2 : Tab := (24, [(.agg [(.sl (some 3) [(.agg [(.str [102, 114, 97, 109, 101, 115]), (.int .i64 4), (.int .i64 1)])]), (.sl none [(.str [109, 97, 112])]), (.sl (some 4) [(.agg [(.str [102, 97, 117, 108, 116]), (.int .i64 2), (.bool false), (.sl (some 4) [(.agg [(.int .i64 3), (.int .i64 0), (.int .i64 0), (.bool false)]), (.agg [(.int .i64 1), (.int .i64 0), (.int .i64 1), (.bool false)]), (.agg [(.int .i64 5), (.int .i64 1), (.int .i64 0), (.bool false)]), (.agg [(.int .i64 2), (.int .i64 0), (.int .i64 1), (.bool false)]), (.agg [(.int .i64 4), (.int .i64 0), (.int .i64 0), (.bool false)])])]), (.agg [(.str [101, 118, 105, 99, 116]), (.int .i64 1), (.bool true), (.sl (some 4) [(.agg [(.int .i64 1), (.int .i64 0), (.int .i64 1), (.bool true)]), (.agg [(.int .i64 2), (.int .i64 0), (.int .i64 1), (.bool false)])])])])])], (.tup [(.sl 0 0 2), (.dat (.int .i64 0))]), [(.row (some 4) [(.agg [(.int .i64 0), (.int .i64 3), (.int .i64 0), (.int .i64 2)]), (.agg [(.int .i64 1), (.int .i64 3), (.int .i64 0), (.int .i64 2)])])]) :: tabC1
theorem tabC2_ok : Base Try.prog tabC2 := base_cons tabC1_ok base_nil mixedP names 1000 cev2
def tabC3 : Tab := (24, [(.agg [(.sl (some 3) [(.agg [(.str [102, 114, 97, 109, 101, 115]), (.int .i64 4), (.int .i64 1)])]), (.sl none [(.str [109, 97, 112])]), (.sl (some 4) [(.agg [(.str [102, 97, 117, 108, 116]), (.int .i64 2), (.bool false), (.sl (some 4) [(.agg [(.int .i64 3), (.int .i64 0), (.int .i64 0), (.bool false)]), (.agg [(.int .i64 1), (.int .i64 0), (.int .i64 1), (.bool false)]), (.agg [(.int .i64 5), (.int .i64 1), (.int .i64 0), (.bool false)]), (.agg [(.int .i64 2), (.int .i64 0), (.int .i64 1), (.bool false)]), (.agg [(.int .i64 4), (.int .i64 0), (.int .i64 0), (.bool false)])])]), (.agg [(.str [101, 118, 105, 99, 116]), (.int .i64 0), (.bool true), (.sl (some 4) [(.agg [(.int .i64 1), (.int .i64 0), (.int .i64 1), (.bool true)]), (.agg [(.int .i64 2), (.int .i64 0), (.int .i64 1), (.bool false)])])])])])], (.tup [(.sl 0 0 2), (.dat (.int .i64 0))]), [(.row (some 4) [(.agg [(.int .i64 0), (.int .i64 3), (.int .i64 0), (.int .i64 2)]), (.agg [(.int .i64 1), (.int .i64 3), (.int .i64 0), (.int .i64 2)])])]) :: tabC2
theorem tabC3_ok : Base Try.prog tabC3 := base_cons tabC2_ok base_nil mixedP names 1000 cev3
def tabC4 : Tab := (31, [(.int .i64 4), (.sl (some 4) [(.agg [(.int .i64 1), (.int .i64 0), (.int .i64 0), (.int .i64 1)]), (.agg [(.int .i64 0), (.int .i64 0), (.int .i64 0), (.int .i64 2)]), (.agg [(.int .i64 0), (.int .i64 3), (.int .i64 0), (.int .i64 3)]), (.agg [(.int .i64 1), (.int .i64 3), (.int .i64 0), (.int .i64 3)])])], (.tup [.nils, (.dat (.int .i64 10))]), []) :: tabC3
theorem tabC4_ok : Base Try.prog tabC4 := base_cons tabC3_ok base_nil mixedP names 1000 cev4
def tabC5 : Tab := (31, [(.int .i64 4), (.sl (some 4) [(.agg [(.int .i64 0), (.int .i64 3), (.int .i64 0), (.int .i64 2)]), (.agg [(.int .i64 1), (.int .i64 3), (.int .i64 0), (.int .i64 2)])])], (.tup [(.sl 0 0 4), (.dat (.int .i64 0))]), [(.row none [(.int .i64 1), (.int .i64 1), (.int .i64 0), (.int .i64 0)])]) :: tabC4
theorem tabC5_ok : Base Try.prog tabC5 := base_cons tabC4_ok base_nil mixedP names 1000 cev5
def tabC6 : Tab := (40, [(.int .i64 4), (.sl (some 4) [(.agg [(.int .i64 1), (.int .i64 0), (.int .i64 0), (.int .i64 1)]), (.agg [(.int .i64 0), (.int .i64 0), (.int .i64 0), (.int .i64 2)]), (.agg [(.int .i64 0), (.int .i64 3), (.int .i64 0), (.int .i64 3)]), (.agg [(.int .i64 1), (.int .i64 3), (.int .i64 0), (.int .i64 3)])])], (.tup [(.sl 0 0 1), (.dat (.int .i64 0))]), [(.row none [(.int .i64 1)])]) :: tabC5
theorem tabC6_ok : Base Try.prog tabC6 := base_cons tabC5_ok base_nil mixedP names 1000 cev6
end Go.AM

