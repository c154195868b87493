/- Own work over the model of the kit. -/
import Derived.Test.YtcigeonmhefdhaaLawG
import Derived.Test.YtcigeonmhefdhaaGraphR
set_option linter.unusedSimpArgs false
set_option linter.unusedVariables false
set_option maxRecDepth 8000
set_option maxHeartbeats 2000000
namespace Go.AM
open Go Go.Proofs

/- ### rows that are made one after the other -/
/-- The references to i rows of n. -/
def sqP (b n i : Nat) : List AV := famR b (List.replicate i (List.replicate n (D.bool false)))
theorem famR_sqP {n b : Nat} {B : List (List Bool)} (h : ∀ r ∈ B, r.length = n) : famR b (rowsB B) = sqP b n B.length := by
  refine famR_same ?_
  refine List.ext_getElem (by simp) fun i h1 h2 => ?_
  have := h (B[i]'(by simpa using h1)) (List.getElem_mem _)
  simpa using this
theorem sqP_len {b n i : Nat} : (sqP b n i).length = i := by simp [sqP, famR_length]
theorem sqP_fill {b n m i : Nat} (hi : i < m) : (sqP b n i ++ List.replicate (m - i) AV.nils).set i (.sl (i + b) 0 n) = sqP b n (i + 1) ++ List.replicate (m - (i + 1)) AV.nils := famR_fill hi (by simp)
theorem sqP_get {b n m i : Nat} (hi : i < m) (N : List AV) : (sqP b n m ++ N).getD i .top = .sl (i + b) 0 n := by
  have h1 : (sqP b n m).getD i .top = .sl (i + b) 0 n := by
    unfold sqP
    rw [famR_at (by simpa using hi)]
    congr 1
    simp [List.getD_eq_getElem?_getD, List.getElem?_replicate, hi]
  rw [← h1, List.getD_eq_getElem?_getD, List.getElem?_append_left (by rw [sqP_len]; exact hi), ← List.getD_eq_getElem?_getD]
theorem sqP_under {b n i m : Nat} (h : b + i ≤ m) (k : Nat) : AV.unders m (sqP b n i ++ List.replicate k AV.nils) := by
  refine unders_app (famR_under _ _ _ (by simpa using h)) ?_
  induction k with
  | zero => trivial
  | succ k ih => exact ⟨trivial, ih⟩
theorem famO_last {ag : Option Nat} {M : List (List D)} {x : Obj} {t : List Obj} {i : Nat} (h : M.length = i) : (famO ag M ++ x :: t).getD i .dead = x := by
  have := getA0 (A := famO ag M) (x := x) (t := t) (d := .dead)
  rwa [famO_length, h] at this
theorem famO_lastS {ag : Option Nat} {M : List (List D)} {x y : Obj} {t : List Obj} {i : Nat} (h : M.length = i) : (famO ag M ++ x :: t).set i y = famO ag M ++ y :: t := by
  have := setA0 (A := famO ag M) (x := x) (t := t) (d := y)
  rwa [famO_length, h] at this

theorem rows_nthB {B : List (List Bool)} {i : Nat} {r : List Bool} (h : B[i]? = some r) : D.nth (B.map boolR) i = .sl none (boolsD r) := by
  simp [D.nth, h]

/-! The law WaitgraphCycles. -/
abbrev tabLC : List (Nat × Contract) := [(10, dataC awakeR), (29, dataC nodesR), (23, dataC cycleR), (30, dataC reachesR)]
theorem tabLC_ok : OkG Try.prog (tbl tabLC) := okG_cons awake_ok (okG_cons nodes_ok (okG_cons cycle_ok (okG_cons reaches_ok okG_nil)))
theorem lawCycles_ok : OkF Try.prog 6 (dataC lawGR) := by
  refine okF_data Try.func6 rfl (by decide) ?_
  rintro ds v ⟨a, L, rfl, ha, hL, rfl⟩
  refine sem_of_awp (Γ := tbl tabLC) tabLC_ok _ _ _ ?_
  simp only [go_sem, Int.reduceEq, Int.reduceLT, Int.reduceLE, eq_self, Int.natCast_nonneg, Int.toNat_natCast, Try.ntmps6]
  refine call_data awakeR (by simp) [] _ rfl awakeR_true (.inl rfl) ?_
  by_cases hl : (40 : Int) < L.length
  · simp only [go_sem, Int.reduceEq, Int.reduceLT, Int.reduceLE, eq_self, Int.natCast_nonneg, Int.toNat_natCast, hl, List.length_map]
    refine call_data awakeR (by simp) [] _ rfl awakeR_true (.inl rfl) ?_
    simp only [go_sem, Int.reduceEq, Int.reduceLT, Int.reduceLE, eq_self, Int.natCast_nonneg, Int.toNat_natCast]
    exact post_data (.inl rfl) [4] rfl trivial rfl
  simp only [go_sem, Int.reduceEq, Int.reduceLT, Int.reduceLE, eq_self, Int.natCast_nonneg, Int.toNat_natCast, hl, List.length_map]
  refine call_data nodesR (by simp) [u8D a, .sl (some 2) (L.map pairD)] _ rfl ⟨a, L, rfl, ha, hL, by omega, rfl⟩ (.inl rfl) ?_
  have hg := edgesN_ok (a := a) (L := L) (by omega)
  have hl2 : (edgesN a L).length ≤ 40 := by simp [edgesN]; omega
  have hk := nN_le (a := a)
  generalize edgesN a L = l at *
  generalize nN a = n at *
  have hge := gE_ok hg
  have hcv : cycleVv n l = .tup [.dat (.sl none (natsD (cycV l))), .dat (.int .i64 0)] := by unfold cycleVv; rw [if_neg (by rw [hge]; decide)]
  simp only [go_sem, Int.reduceEq, Int.reduceLT, Int.reduceLE, eq_self, Int.natCast_nonneg, Int.toNat_natCast]
  refine call_data cycleR (by simp) [.int .i64 n, .sl (some 4) (edgesD l)] _ rfl ⟨n, l, rfl, by omega, rfl⟩ (.inl rfl) ?_
  rw [hcv]
  have hC := cycV_ok l
  have hdiag := diag_all hg
  have hclen : (cycV l).length ≤ 20 := by
    have hc := cycL_is (l := l) l.length
    unfold cycV
    cases h : cycL l l.length with
    | none => simp
    | some c =>
      rw [h] at hc
      obtain ⟨i, h1, h2, h3, _⟩ := hc
      have := cycOf_len h2
      rw [← h3] at this
      have hb : back l i < n := by unfold back; rw [tOf_get (List.getElem?_eq_getElem h1)]; exact hg.sdlt (hg.dst _ (List.getElem_mem h1)).2
      simp only [Option.getD_some]; omega
  generalize cycV l = c at *
  simp only [go_sem, Int.reduceEq, Int.reduceLT, Int.reduceLE, eq_self, Int.natCast_nonneg, Int.toNat_natCast]
  refine call_data reachesR (by simp) [.int .i64 n, .sl (some 4) (edgesD l)] _ rfl ⟨n, l, rfl, hg, rfl⟩ (.inl rfl) ?_
  simp only [go_sem, Int.reduceEq, Int.reduceLT, Int.reduceLE, eq_self, Int.natCast_nonneg, Int.toNat_natCast]
  have hsq := reachB_sq (n := n) (l := l)
  refine sem_loop (fun i : Nat => ⟨slotsOf 192 [(5, .dat (.int .i64 n)), (6, .dat (.sl (some 4) (edgesD l))), (7, .dat (.sl none (natsD c))), (9, .dat (.sl none ((reachB n l).map boolR))), (10, .dat (.bool (diag n l i))), (46, .dat (.int .i64 n)), (47, .dat (.int .i64 i))], [], 0, []⟩)
    (fun i => i ≤ n) (fun i => n - i) 0 (Nat.zero_le _) ?_ ?_
  · exact le_slots' (by simp only [go_sem, Int.natCast_zero, diag, List.range_zero, List.any_nil])
  rintro i hi
  refine sem_of_awp (Γ := tbl tabLC) tabLC_ok _ _ _ ?_
  by_cases hin : i = n
  case neg =>
    have hi2 : (i : Int) < n := by omega
    have hi3 : i < n := by omega
    have hds := diag_succ (n := n) (l := l) (k := i)
    have hri := hsq.row i hi3
    have hrn : D.nth ((reachB n l).map boolR) i = boolR ((reachB n l).getD i []) := by
      rw [D.nth_map (by rw [hsq.len]; exact hi3), List.getD_eq_getElem?_getD, List.getD_eq_getElem?_getD, List.getElem?_eq_getElem (by rw [hsq.len]; exact hi3)]; rfl
    have hrl : ((reachB n l).map boolR).length = n := by rw [List.length_map, hsq.len]
    have hrg : D.nth (boolsD ((reachB n l).getD i [])) i = .bool (get2 (reachB n l) i i) := boolsD_nth (by rw [hri]; exact hi3)
    cases hb : diag n l i with
    | true =>
      rw [hb, Bool.true_or] at hds
      simp only [go_sem, Int.reduceEq, Int.reduceLT, Int.reduceLE, eq_self, Int.natCast_nonneg, Int.toNat_natCast, hi2]
      refine ⟨inR_i64.2 (by omega), i + 1, by omega, by omega, ?_⟩
      rw [hds]
      exact le_slots' (by simp only [go_sem, Int.natCast_add, Int.cast_ofNat_Int])
    | false =>
      rw [hb, Bool.false_or] at hds
      simp only [go_sem, Int.reduceEq, Int.reduceLT, Int.reduceLE, eq_self, Int.natCast_nonneg, Int.toNat_natCast, hi2, hi3, hrl, hrn, boolsD_len, hri, hrg]
      refine ⟨inR_i64.2 (by omega), i + 1, by omega, by omega, ?_⟩
      rw [hds]
      exact le_slots' (by simp only [go_sem, Int.natCast_add, Int.cast_ofNat_Int])
  obtain rfl : n = i := hin.symm
  have hi2 : ¬ (n : Int) < n := by omega
  have hdc : diag n l n = decide ((0 : Int) < c.length) := by
    rw [Bool.eq_iff_iff, hdiag, decide_eq_true_eq]; omega
  simp only [go_sem, Int.reduceEq, Int.reduceLT, Int.reduceLE, eq_self, Int.natCast_nonneg, Int.toNat_natCast, hi2, nats_len, hdc, beq_self_eq_true, Bool.not_true]
  clear hdc hdiag hi hi2 hin
  refine sem_loop (fun j : Nat => ⟨slotsOf 192 [(5, .dat (.int .i64 n)), (6, .dat (.sl (some 4) (edgesD l))), (7, .dat (.sl none (natsD c))), (66, .dat (.sl none (natsD c))), (67, .dat (.int .i64 c.length)), (68, .dat (.int .i64 j))], [], 0, []⟩)
    (fun j => j ≤ c.length) (fun j => c.length - j) 0 (Nat.zero_le _) ?_ ?_
  · exact le_slots' (by simp only [go_sem, Int.natCast_zero])
  rintro j hj
  refine sem_of_awp (Γ := tbl tabLC) tabLC_ok _ _ _ ?_
  cases hd : c.drop j with
  | cons m r =>
    have hlt := lt_of_drop hd
    have hj2 : (j : Int) < c.length := by omega
    have hj0 : (0 : Int) ≤ j := Int.natCast_nonneg j
    have hn := nth_of_drop (f := natD) hd
    have hcm := get_of_drop hd
    have hq : (j + 1) % c.length < c.length := Nat.mod_lt _ (by omega)
    have hq2 : (((j + 1) % c.length : Nat) : Int) < c.length := by omega
    have hcm2 := List.getElem?_eq_getElem hq
    generalize hm2 : c[(j + 1) % c.length] = m2 at *
    have hnq := nats_nth hcm2
    have hmod : ((j : Int) + 1).tmod c.length = (((j + 1) % c.length : Nat) : Int) := by rw [Int.ofNat_tmod]; rfl
    have hm := hC.at_ _ _ hcm
    have hmb := hC.at_ _ _ hcm2
    have hnx := hC.next _ _ _ hcm hcm2
    generalize (j + 1) % c.length = q at *
    have e1 := List.getElem?_eq_getElem hm
    have e2 := List.getElem?_eq_getElem hmb
    rw [tOf_get e1, sOf_get e2] at hnx
    have n1 : D.nth (edgesD l) m = edgeD l[m] := by simp [D.nth, e1]
    have n2 : D.nth (edgesD l) m2 = edgeD l[m2] := by simp [D.nth, e2]
    have s1 := (hg.dst _ (List.getElem_mem hm)).1
    have s2 := (hg.src _ (List.getElem_mem hmb)).1
    have f1 : ¬ (m : Int) < 0 := by omega
    have f2 : ¬ (l.length : Int) ≤ m := by omega
    have f3 : ¬ (m2 : Int) < 0 := by omega
    have f4 : ¬ (l.length : Int) ≤ m2 := by omega
    have f5 : (m : Int) < l.length := by omega
    have f6 : (m2 : Int) < l.length := by omega
    simp only [go_sem, Int.reduceEq, Int.reduceLT, Int.reduceLE, eq_self, Int.natCast_nonneg, Int.toNat_natCast, hj2, hj0, hn, hlt, nats_len, hmod, hq, hq2, hnq]
    refine ⟨inR_i64.2 (by omega), by omega, inR_i64.2 (by omega), ?_⟩
    refine sem_draw (pf := []) (Γ := tbl tabLC) mixed tabLC_ok (fun g _ _ _ _ _ h => by cases h) [0, 1, 2, 3, 4, 5, 6, 7, 8, 9, 10, 11, 12, 13, 14, 15, 16, 17, 18, 19, 20, 21, 22, 23, 24, 25, 26, 27, 28, 29, 30] (by kernel_rfl) ?_
    simp only [go_sem, Int.reduceEq, Int.reduceLT, Int.reduceLE, eq_self, Int.natCast_nonneg, Int.toNat_natCast, chainI, f1, f2, f3, f4, f5, f6, hm, hmb, edges_len, n1, n2, edgeD, s1, s2, hnx, decide_true, Bool.not_true]
    refine ⟨inR_i64.2 (by omega), j + 1, by omega, by omega, ?_⟩
    exact le_slots' (by simp only [go_sem, Int.natCast_add, Int.cast_ofNat_Int])
  | nil =>
  have := end_of_drop hd hj
  have hj2 : ¬ (j : Int) < c.length := by omega
  simp only [go_sem, Int.reduceEq, Int.reduceLT, Int.reduceLE, eq_self, Int.natCast_nonneg, Int.toNat_natCast, hj2, List.length_replicate]
  refine ⟨Int.le_refl _, by omega, ?_⟩
  have rows0 : ∀ r k, (rowsB ((walkB n l r).take k)).length = min k n := fun r k => by rw [rowsB_len, List.length_take, walkB_len]
  refine sem_loop (fun i : Nat => ⟨slotsOf 192 [(5, .dat (.int .i64 n)), (6, .dat (.sl (some 4) (edgesD l))), (7, .dat (.sl none (natsD c))), (15, .sl 0 0 n), (115, .sl 0 0 n), (116, .dat (.int .i64 n)), (117, .dat (.int .i64 i))], .vec (sqP 1 n i ++ List.replicate (n - i) AV.nils) :: famO none (rowsB ((walkB n l 0).take i)), 0, []⟩)
    (fun i => i ≤ n) (fun i => n - i) 0 (Nat.zero_le _) ?_ ?_
  · simp only [sqP, List.replicate_zero, famR, List.nil_append, Nat.sub_zero, List.take_zero, rowsB, famO, List.map_nil]
    exact le_slots' (by simp only [go_sem, Int.natCast_zero])
  clear hd hj hj2 this j
  rintro i hi
  by_cases hin : i = n
  case neg =>
    have hi2 : (i : Int) < n := by omega
    have hi3 : i < n := by omega
    have hi0 : (0 : Int) ≤ i := Int.natCast_nonneg i
    have hTl : (rowsB ((walkB n l 0).take i)).length = i := by rw [rows0]; omega
    have hT := walkB_take (n := n) (l := l) (r := 0) hi3
    have hl1 : (sqP 1 n i ++ List.replicate (n - i) AV.nils).length = n := by simp [sqP_len]; omega
    have hl2 : (sqP 1 n (i + 1) ++ List.replicate (n - (i + 1)) AV.nils).length = n := by simp [sqP_len]; omega
    have hf := sqP_fill (b := 1) (n := n) hi3
    have hAg := sqP_get (b := 1) (n := n) (m := i + 1) (i := i) (by omega) (List.replicate (n - (i + 1)) AV.nils)
    have hlast := fun x t => famO_last (ag := none) (x := x) (t := t) hTl
    have hlastS := fun x y t => famO_lastS (ag := none) (x := x) (y := y) (t := t) hTl
    have hfl : (famO none (rowsB ((walkB n l 0).take i))).length = i := by rw [famO_length, hTl]
    have hrow : (List.replicate n (D.bool false)).set i (.bool true) = boolsD (rowW n l 0 i) := by rw [boolsD_rep, boolsD_upd, rowW_zero hi3]
    refine sem_of_awp (Γ := tbl tabLC) tabLC_ok _ _ _ ?_
    simp only [go_sem, Int.reduceEq, Int.reduceLT, Int.reduceLE, eq_self, Int.natCast_nonneg, Int.toNat_natCast, hi2, hi3, hl1, hl2, hfl, hf, hAg, hlast, hlastS, List.length_replicate, hrow]
    refine ⟨Int.le_refl _, by omega, inR_i64.2 (by omega), i + 1, by omega, by omega, ?_⟩
    have e : famO none (rowsB ((walkB n l 0).take i)) ++ [.row none (boolsD (rowW n l 0 i))] = famO none (rowsB ((walkB n l 0).take (i + 1))) := by
      rw [hT, ← famO_snoc]; simp only [rowsB, List.map_append, List.map_cons, List.map_nil]
    rw [e]
    exact le_slots' (by simp only [go_sem, Int.natCast_add, Int.cast_ofNat_Int])
  obtain rfl : n = i := hin.symm
  have hi2 : ¬ (n : Int) < n := by omega
  have hwl : ∀ r, ∀ x ∈ walkB n l r, x.length = n := fun r x hx => by
    obtain ⟨i, _, rfl⟩ := List.mem_map.1 hx; exact rowW_len
  have hsqF : ∀ r, sqP 1 n n = famR 1 (rowsB (walkB n l r)) := fun r => by rw [famR_sqP (hwl r), walkB_len]
  have htk : ∀ r, (walkB n l r).take n = walkB n l r := fun r => List.take_of_length_le (by rw [walkB_len]; exact Nat.le_refl _)
  have hrl : ∀ r, ((walkB n l r).map boolR).length = n := fun r => by rw [List.length_map, walkB_len]
  have hrt : ∀ r, List.take n ((walkB n l r).map boolR) = (walkB n l r).map boolR := fun r => List.take_of_length_le (by rw [hrl]; exact Nat.le_refl _)
  rw [Nat.sub_self, List.replicate_zero, List.append_nil, hsqF 0, htk]
  refine sem_le (Le.trans (le_famEnd (pre := [.vec (famR 1 (rowsB (walkB n l 0)))]) (s' := slotsOf 192 [(5, .dat (.int .i64 n)), (6, .dat (.sl (some 4) (edgesD l))), (7, .dat (.sl none (natsD c))), (15, .dat (.sl none ((walkB n l 0).map boolR))), (116, .dat (.int .i64 n)), (117, .dat (.int .i64 n))]) (pre' := [.dead]) 0 rfl (Nat.zero_le _) rfl ?_ ?_ ?_) (le_end (own := []) (ex := [.dead]) (s' := slotsOf 192 [(5, .dat (.int .i64 n)), (6, .dat (.sl (some 4) (edgesD l))), (7, .dat (.sl none (natsD c))), (15, .dat (.sl none ((walkB n l 0).map boolR))), (116, .dat (.int .i64 n)), (117, .dat (.int .i64 n))]) (Nat.zero_le _) ?_ ?_ ?_)) ?_
  · rw [rowsB_sl]
    simp only [go_sem, frzFs, frzF_dat, frzF_top, frzF_nils, frzF_sl, AV.frzs, AV.frz, Nat.lt_irrefl, Nat.zero_lt_one, true_or, List.drop_zero, hrl, hrt, Nat.zero_add, Nat.le_refl, if_true]
  · simp only [go_sem]
  · simp only [go_sem, Obj.under]
  · simp only [go_sem]
  · simp only [go_sem]
  · simp only [go_sem]
  refine sem_of_awp (Γ := tbl tabLC) tabLC_ok _ _ _ ?_
  have hN : max (0 : Int) ((c.length : Int) - 1) = ((c.length - 1 : Nat) : Int) := by omega
  simp only [go_sem, Int.reduceEq, Int.reduceLT, Int.reduceLE, eq_self, Int.natCast_nonneg, Int.toNat_natCast, hi2, nats_len, hN]
  refine ⟨inR_i64.2 (by omega), ?_⟩
  refine sem_loop (fun r : Nat => ⟨slotsOf 192 [(5, .dat (.int .i64 n)), (6, .dat (.sl (some 4) (edgesD l))), (7, .dat (.sl none (natsD c))), (15, .dat (.sl none ((walkB n l r).map boolR))), (135, .dat (.int .i64 (c.length - 1 : Nat))), (136, .dat (.int .i64 r))], [], 0, []⟩)
    (fun r => r ≤ c.length - 1) (fun r => c.length - 1 - r) 0 (Nat.zero_le _) ?_ ?_
  · exact le_slots' (by simp only [go_sem, Int.natCast_zero])
  clear hin hi2
  rintro r hr
  refine sem_of_awp (Γ := tbl tabLC) tabLC_ok _ _ _ ?_
  by_cases hre : r = c.length - 1
  · have hr2 : ¬ (r : Int) < (c.length - 1 : Nat) := by omega
    simp only [go_sem, Int.reduceEq, Int.reduceLT, Int.reduceLE, eq_self, Int.natCast_nonneg, Int.toNat_natCast, hr2]
    exact post_data (.inl rfl) [4] rfl trivial rfl
  have hr2 : (r : Int) < (c.length - 1 : Nat) := by omega
  simp only [go_sem, Int.reduceEq, Int.reduceLT, Int.reduceLE, eq_self, Int.natCast_nonneg, Int.toNat_natCast, hr2, List.length_replicate]
  refine ⟨Int.le_refl _, by omega, ?_⟩
  refine sem_loop (fun i : Nat => ⟨slotsOf 192 [(5, .dat (.int .i64 n)), (6, .dat (.sl (some 4) (edgesD l))), (7, .dat (.sl none (natsD c))), (15, .dat (.sl none ((walkB n l r).map boolR))), (135, .dat (.int .i64 (c.length - 1 : Nat))), (136, .dat (.int .i64 r)), (17, .sl 0 0 n), (140, .sl 0 0 n), (141, .dat (.int .i64 n)), (142, .dat (.int .i64 i))],
      .vec (sqP 1 n i ++ List.replicate (n - i) AV.nils) :: famO none (rowsB ((walkB n l (r + 1)).take i)), 0, []⟩)
    (fun i => i ≤ n) (fun i => n - i) 0 (Nat.zero_le _) ?_ ?_
  · simp only [sqP, List.replicate_zero, famR, List.nil_append, Nat.sub_zero, List.take_zero, rowsB, famO, List.map_nil]
    exact le_slots' (by simp only [go_sem, Int.natCast_zero])
  rintro i hi
  by_cases hin : i = n
  case pos =>
    obtain rfl : n = i := hin.symm
    have hi2 : ¬ (n : Int) < n := by omega
    rw [Nat.sub_self, List.replicate_zero, List.append_nil, hsqF (r + 1), htk]
    refine sem_le (Le.trans (le_famEnd (pre := [.vec (famR 1 (rowsB (walkB n l (r + 1))))]) (s' := slotsOf 192 [(5, .dat (.int .i64 n)), (6, .dat (.sl (some 4) (edgesD l))), (7, .dat (.sl none (natsD c))), (17, .dat (.sl none ((walkB n l (r + 1)).map boolR))), (135, .dat (.int .i64 (c.length - 1 : Nat))), (136, .dat (.int .i64 r)), (141, .dat (.int .i64 n)), (142, .dat (.int .i64 n))]) (pre' := [.dead]) 0 rfl (Nat.zero_le _) rfl ?_ ?_ ?_)
      (le_end (own := []) (ex := [.dead]) (s' := slotsOf 192 [(5, .dat (.int .i64 n)), (6, .dat (.sl (some 4) (edgesD l))), (7, .dat (.sl none (natsD c))), (17, .dat (.sl none ((walkB n l (r + 1)).map boolR))), (135, .dat (.int .i64 (c.length - 1 : Nat))), (136, .dat (.int .i64 r)), (141, .dat (.int .i64 n)), (142, .dat (.int .i64 n))]) (Nat.zero_le _) ?_ ?_ ?_)) ?_
    · rw [rowsB_sl]
      simp only [go_sem, frzFs, frzF_dat, frzF_top, frzF_nils, frzF_sl, AV.frzs, AV.frz, Nat.lt_irrefl, Nat.zero_lt_one, true_or, List.drop_zero, hrl, hrt, Nat.zero_add, Nat.le_refl, if_true]
    · simp only [go_sem]
    · simp only [go_sem, Obj.under]
    · simp only [go_sem]
    · simp only [go_sem]
    · simp only [go_sem]
    refine sem_of_awp (Γ := tbl tabLC) tabLC_ok _ _ _ ?_
    simp only [go_sem, Int.reduceEq, Int.reduceLT, Int.reduceLE, eq_self, Int.natCast_nonneg, Int.toNat_natCast, hi2]
    refine ⟨inR_i64.2 (by omega), r + 1, by omega, by omega, ?_⟩
    exact le_slots' (by simp only [go_sem, Int.natCast_add, Int.cast_ofNat_Int])
  have hi2 : (i : Int) < n := by omega
  have hi3 : i < n := by omega
  have hi0 : (0 : Int) ≤ i := Int.natCast_nonneg i
  have hTl : (rowsB ((walkB n l (r + 1)).take i)).length = i := by rw [rows0]; omega
  have hT := walkB_take (n := n) (l := l) (r := r + 1) hi3
  have hl1 : (sqP 1 n i ++ List.replicate (n - i) AV.nils).length = n := by simp [sqP_len]; omega
  have hl2 : (sqP 1 n (i + 1) ++ List.replicate (n - (i + 1)) AV.nils).length = n := by simp [sqP_len]; omega
  have hf := sqP_fill (b := 1) (n := n) hi3
  have hAg := sqP_get (b := 1) (n := n) (m := i + 1) (i := i) (by omega) (List.replicate (n - (i + 1)) AV.nils)
  have hlast := fun x t => famO_last (ag := none) (x := x) (t := t) hTl
  have hlastS := fun x y t => famO_lastS (ag := none) (x := x) (y := y) (t := t) hTl
  have hfl : (famO none (rowsB ((walkB n l (r + 1)).take i))).length = i := by rw [famO_length, hTl]
  have hun := sqP_under (b := 1) (n := n) (i := i + 1) (m := i + 2) (by omega) (n - (i + 1))
  refine sem_of_awp (Γ := tbl tabLC) tabLC_ok _ _ _ ?_
  simp only [go_sem, Int.reduceEq, Int.reduceLT, Int.reduceLE, eq_self, Int.natCast_nonneg, Int.toNat_natCast, hi2, hi3, hl1, hfl, hf, edges_len, boolsD_rep]
  refine ⟨Int.le_refl _, by omega, ?_⟩
  have hwr := rows_nthB (walkB_get (n := n) (l := l) (r := r) hi3)
  generalize hFam : famO none (rowsB ((walkB n l (r + 1)).take i)) = Fm at *
  refine sem_loop (fun k : Nat => ⟨slotsOf 192 [(5, .dat (.int .i64 n)), (6, .dat (.sl (some 4) (edgesD l))), (7, .dat (.sl none (natsD c))), (15, .dat (.sl none ((walkB n l r).map boolR))), (135, .dat (.int .i64 (c.length - 1 : Nat))), (136, .dat (.int .i64 r)), (17, .sl 0 0 n), (140, .sl 0 0 n), (141, .dat (.int .i64 n)), (142, .dat (.int .i64 i)),
      (18, .dat (.int .i64 i)), (150, .dat (.sl (some 4) (edgesD l))), (151, .dat (.int .i64 l.length)), (152, .dat (.int .i64 k))],
      .vec (sqP 1 n (i + 1) ++ List.replicate (n - (i + 1)) AV.nils) :: (Fm ++ [.row none (boolsD (rowP n l r i k))]), 0, []⟩)
    (fun k => k ≤ l.length) (fun k => l.length - k) 0 (Nat.zero_le _) ?_ ?_
  · rw [rowP_zero]
    exact le_slots' (by simp only [go_sem, Int.natCast_zero])
  rintro k hk
  refine sem_of_awp (Γ := tbl tabLC) tabLC_ok _ _ _ ?_
  cases hd : l.drop k with
  | nil =>
    have := end_of_drop hd hk
    have hk2 : ¬ (k : Int) < l.length := by omega
    rw [this, rowP_all]
    rw [this] at hk2
    have hff : D.nth (boolsD (rowW n l (r + 1) i)) i = .bool false := by
      rw [boolsD_nth (by rw [rowW_len]; exact hi3)]
      congr 1
      refine Bool.eq_false_iff.2 fun h => ?_
      exact hC.min r i (by omega) (by omega) ((rowW_get hi3).1 h)
    simp only [go_sem, Int.reduceEq, Int.reduceLT, Int.reduceLE, eq_self, Int.natCast_nonneg, Int.toNat_natCast, hk2, hi2, hi3, hl2, hAg, hlast, boolsD_len, rowW_len, hff]
    refine ⟨inR_i64.2 (by omega), i + 1, by omega, by omega, ?_⟩
    have e : Fm ++ [.row none (boolsD (rowW n l (r + 1) i))] = famO none (rowsB ((walkB n l (r + 1)).take (i + 1))) := by
      rw [hT, ← hFam, ← famO_snoc]; simp only [rowsB, List.map_append, List.map_cons, List.map_nil]
    rw [e]
    exact le_slots' (by simp only [go_sem, Int.natCast_add, Int.cast_ofNat_Int])
  | cons e q =>
    have hlt := lt_of_drop hd
    have hk2 : (k : Int) < l.length := by omega
    have hk0 : (0 : Int) ≤ k := Int.natCast_nonneg k
    have hn := nth_of_drop (f := edgeD) hd
    have hem := mem_of_drop hd
    obtain ⟨hs1, hs2⟩ := hg.src e hem
    obtain ⟨ht1, ht2⟩ := hg.dst e hem
    have hsn : (e.s : Int) < n := by omega
    have htn : (e.t : Int) < n := by omega
    have hsucc := rowP_succ (r := r) (i := i) hg (get_of_drop hd)
    have ng := boolsD_nth (l := rowP n l r i k) (i := e.t) (by rw [rowP_len]; exact ht2)
    have nw := boolsD_nth (l := rowW n l r i) (i := e.s) (by rw [rowW_len]; exact hs2)
    have hb1 : Fm.length + 1 ≠ i := by omega
    have hga : ∀ x y : Obj, (Fm ++ [x, y]).getD (i + 1) .dead = y := fun x y => by rw [← hfl]; exact getA1
    have hgs : ∀ x y z : Obj, (Fm ++ [x, y]).set (i + 1) z = Fm ++ [x, z] := fun x y z => by rw [← hfl]; exact setA1
    have hlen1 : ∀ x : Obj, (Fm ++ [x]).length = i + 1 := fun x => by rw [List.length_append, hfl]; rfl
    have cl : ∀ v, (rowP n l r i k).set e.t v = rowP n l r i (k + 1) → ∃ x, x ≤ l.length ∧ l.length - x < l.length - k ∧ x = k + 1 := fun v hv => ⟨k + 1, by omega, by omega, rfl⟩
    have happ : ∀ x y z : Obj, x :: (Fm ++ [y, z]) = (x :: (Fm ++ [y])) ++ [z] := fun x y z => by simp
    have hown : ∀ x : Obj, (Obj.vec (sqP 1 n (i + 1) ++ List.replicate (n - (i + 1)) AV.nils) :: (Fm ++ [x])).length = i + 2 := fun x => by rw [List.length_cons, hlen1]
    simp only [go_sem, Int.reduceEq, Int.reduceLT, Int.reduceLE, eq_self, Int.natCast_nonneg, Int.toNat_natCast, hk2, hk0, hn, hlt, edges_len, edgeD, hs1, ht1, hlen1, List.append_assoc, List.cons_append, List.nil_append, hga, hgs]
    refine sem_drawM (ob := i + 1) (pf := []) (mf := []) (ms := []) mixed tabLC_ok (fun g _ _ _ _ _ h => by cases h) noMk [0, 1, 2, 3, 4, 5, 6, 7, 8, 9, 10, 11, 12, 13, 14, 15, 16, 17, 18, 19, 20, 21, 22, 23, 24, 25] (by kernel_rfl) ?_
    cases hv : (rowP n l r i k).getD e.t false with
    | true =>
      rw [hv] at ng hsucc
      rw [Bool.true_or] at hsucc
      simp only [go_sem, Int.reduceEq, Int.reduceLT, Int.reduceLE, eq_self, Int.natCast_nonneg, Int.toNat_natCast, chainM, opm, hi2, hi3, htn, ht2, hsn, hs2, hl2, hAg, hga, hlast, hlastS, boolsD_len, rowP_len, ng, boolsD_upd, ← hsucc]
      refine ⟨inR_i64.2 (by omega), k + 1, by omega, by omega, ?_⟩
      rw [happ]
      refine le_end (own := .vec (sqP 1 n (i + 1) ++ List.replicate (n - (i + 1)) AV.nils) :: (Fm ++ [.row none (boolsD (rowP n l r i (k + 1)))])) (ex := [_]) (Nat.zero_le _) ?_ ?_ ?_
      · simp only [go_sem, Int.natCast_add, Int.cast_ofNat_Int]
      · rw [hown]; simp only [go_sem]; omega
      · rw [hown, ← hFam]; exact ⟨hun, allUnder_app (famO_under _ _ _) ⟨trivial, trivial⟩⟩
    | false =>
      rw [hv] at ng hsucc
      rw [Bool.false_or] at hsucc
      simp only [go_sem, Int.reduceEq, Int.reduceLT, Int.reduceLE, eq_self, Int.natCast_nonneg, Int.toNat_natCast, chainM, opm, hi2, hi3, htn, ht2, hsn, hs2, hl2, hAg, hga, hlast, hlastS, boolsD_len, rowP_len, ng, hwr, hrl, rowW_len, nw, boolsD_upd, ← hsucc]
      refine ⟨inR_i64.2 (by omega), k + 1, by omega, by omega, ?_⟩
      rw [happ]
      refine le_end (own := .vec (sqP 1 n (i + 1) ++ List.replicate (n - (i + 1)) AV.nils) :: (Fm ++ [.row none (boolsD (rowP n l r i (k + 1)))])) (ex := [_]) (Nat.zero_le _) ?_ ?_ ?_
      · simp only [go_sem, Int.natCast_add, Int.cast_ofNat_Int]
      · rw [hown]; simp only [go_sem]; omega
      · rw [hown, ← hFam]; exact ⟨hun, allUnder_app (famO_under _ _ _) ⟨trivial, trivial⟩⟩
end Go.AM

