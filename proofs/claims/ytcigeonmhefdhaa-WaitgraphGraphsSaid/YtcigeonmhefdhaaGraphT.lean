/- Own work over the model of the kit. -/
import Derived.Test.YtcigeonmhefdhaaGraphB
import Derived.Test.YtcigeonmhefdhaaGraphC
import Derived.Test.YtcigeonmhefdhaaGraphS
set_option linter.unusedSimpArgs false
set_option linter.unusedVariables false
set_option maxRecDepth 8000
set_option maxHeartbeats 2000000
namespace Go.AM
open Go Go.Proofs

/- ### the reference's cycle -/
theorem distL_len {n : Nat} {l : List PEdge} {a : Nat} : (distL n l a).length = n := by simp [distL]
theorem distL_nth {n : Nat} {l : List PEdge} {a v : Nat} (h : v < n) : D.nth (intsD (distL n l a)) v = .int .i64 (sd (eF l) a v) := by
  rw [ints_nth (-1) (by rw [distL_len]; exact h)]; simp [distL, List.getD_eq_getElem?_getD, h]
noncomputable def lenV (l : List PEdge) (i : Nat) : Int := if back l i < 0 then -1 else back l i + 1
def lenR (ds : List D) (v : AV) : Prop := ∃ (n : Nat) (l : List PEdge) (i : Nat), ds = [.int .i64 n, .sl (some 4) (edgesD l), .int .i64 i] ∧ GOk n l ∧ i < l.length ∧ v = .dat (.int .i64 (lenV l i))
abbrev tabRL : List (Nat × Contract) := [(52, dataC reachR)]
theorem tabRL_ok : OkG Try.prog (tbl tabRL) := okG_cons reach_ok okG_nil
theorem pureRL : PureFns (tbl tabRL) [52] := by
  refine pure_of2 fun g C hm hg => ?_
  simp only [List.mem_cons, List.not_mem_nil, or_false, Prod.mk.injEq] at hm
  exact .inl ⟨_, hm.2⟩
theorem rlength_ok : OkF Try.prog 53 (dataC lenR) := by
  refine okF_data Try.func53 rfl (by decide) ?_
  rintro ds v ⟨n, l, i, rfl, hg, hi, rfl⟩
  have hn4 := hg.n4
  have hge := List.getElem?_eq_getElem hi
  generalize he : l[i] = e at *
  have hem := List.mem_of_getElem? hge
  obtain ⟨hs1, hs2⟩ := hg.src e hem
  obtain ⟨ht1, ht2⟩ := hg.dst e hem
  have hne : D.nth (edgesD l) i = edgeD e := by simp [D.nth, hge]
  have hi2 : (i : Int) < l.length := by omega
  have hsn : (e.s : Int) < n := by omega
  have hB : back l i = sd (eF l) e.t e.s := by unfold back; rw [sOf_get hge, tOf_get hge]
  have hB1 : back l i < n := by rw [hB]; exact hg.sdlt ht2
  have hB2 : -1 ≤ back l i := by rw [hB]; exact sd_ge
  have hnd := distL_nth (l := l) (a := e.t) hs2
  rw [← hB] at hnd
  have hdl := distL_len (n := n) (l := l) (a := e.t)
  unfold lenV
  refine sem_of_awp (Γ := tbl tabRL) tabRL_ok _ _ _ ?_
  simp only [go_sem, Int.reduceEq, Int.reduceLT, Int.reduceLE, eq_self, Int.natCast_nonneg, Int.toNat_natCast, Try.ntmps53]
  refine sem_draw (pf := [52]) (Γ := tbl tabRL) mixed tabRL_ok pureRL [0, 1, 2, 3, 4, 5, 6, 7, 8, 9, 10, 11, 12, 13, 14, 15] (by kernel_rfl) ?_
  simp only [go_sem, Int.reduceEq, Int.reduceLT, Int.reduceLE, eq_self, Int.natCast_nonneg, Int.toNat_natCast, chainI, hi, hi2, edges_len, hne, edgeD, hs1, ht1]
  refine call_data reachR (by simp) [.int .i64 n, .sl (some 4) (edgesD l), .int .i64 (e.t : Int)] _ rfl ⟨n, l, e.t, rfl, hg, ht2, rfl⟩ (.inl rfl) ?_
  by_cases hneg : back l i < 0
  · rw [if_pos hneg]
    simp only [go_sem, Int.reduceEq, Int.reduceLT, Int.reduceLE, eq_self, Int.natCast_nonneg, Int.toNat_natCast, chainI, hi, hi2, edges_len, hne, edgeD, hs1, ht1, hsn, hs2, ints_len, hdl, hnd, hneg]
    exact post_data (.inl rfl) [6] rfl trivial rfl
  · rw [if_neg hneg]
    simp only [go_sem, Int.reduceEq, Int.reduceLT, Int.reduceLE, eq_self, Int.natCast_nonneg, Int.toNat_natCast, chainI, hi, hi2, edges_len, hne, edgeD, hs1, ht1, hsn, hs2, ints_len, hdl, hnd, hneg]
    refine ⟨inR_i64.2 (by omega), ?_⟩
    exact post_data (.inl rfl) [6] rfl trivial rfl
/-- The first edge's number and the length, or -1. -/
def fstOf : Option (List Nat) → Int
  | none => -1
  | some c => (c.headD 0 : Nat)
def lenOf : Option (List Nat) → Int
  | none => -1
  | some c => c.length
def nxI : Option Nat → Int
  | none => -1
  | some i => i
/-- The first edge from v that p takes. -/
def scan (p : Nat → Bool) (v : Nat) : Nat → List PEdge → Option Nat
  | _, [] => none
  | k, e :: r => if e.s = v ∧ p k = true then some k else scan p v (k + 1) r
theorem scan_find {p : Nat → Bool} {v : Nat} : ∀ {k : Nat} {l : List PEdge}, scan p v k l = (idxs PEdge.s k l v).find? p
  | _, [] => rfl
  | k, e :: r => by
    have ih := scan_find (p := p) (v := v) (k := k + 1) (l := r)
    simp only [scan, idxs]
    by_cases h : e.s = v
    · rw [if_pos h, List.find?_cons]
      cases hp : p k with
      | true => rw [if_pos ⟨h, rfl⟩]
      | false => rw [if_neg (fun hh => by cases hh.2)]; exact ih
    · rw [if_neg h, if_neg (fun hh => h hh.1)]; exact ih
abbrev tabRC : List (Nat × Contract) := [(51, dataC gchkR), (53, dataC lenR), (52, dataC reachR)]
theorem tabRC_ok : OkG Try.prog (tbl tabRC) := okG_cons rgcheck_ok (okG_cons rlength_ok (okG_cons reach_ok okG_nil))
theorem pureRC : PureFns (tbl tabRC) [52] := by
  refine pure_of2 fun g C hm hg => ?_
  simp only [List.mem_cons, List.not_mem_nil, or_false, Prod.mk.injEq] at hm
  rcases hm with ⟨_, rfl⟩ | ⟨_, rfl⟩ | ⟨_, rfl⟩ <;> exact .inl ⟨_, rfl⟩
theorem rcycle_ok : OkF Try.prog 26 (dataC cycleR) := by
  refine okF_data Try.func26 rfl (by decide) ?_
  rintro ds v ⟨n, l, rfl, hll, rfl⟩
  refine sem_of_awp (Γ := tbl tabRC) tabRC_ok _ _ _ ?_
  simp only [go_sem, Int.reduceEq, Int.reduceLT, Int.reduceLE, eq_self, Int.natCast_nonneg, Int.toNat_natCast, Try.ntmps26]
  refine call_data gchkR (by simp) [.int .i64 n, .sl (some 4) (edgesD l)] _ rfl ⟨n, l, rfl, hll, rfl⟩ (.inl rfl) ?_
  by_cases h : gE n l = 0
  case neg =>
    unfold cycleVv
    rw [if_pos h]
    simp only [go_sem, Int.reduceEq, Int.reduceLT, Int.reduceLE, eq_self, Int.natCast_nonneg, Int.toNat_natCast, h]
    refine post_res (.inl rfl) [.tmp 4, .tmp 5] rfl ?_
    simp only [go_sem]
    exact le_fin (by simp only [go_sem]) (by simp only [go_sem])
  unfold cycleVv
  rw [if_neg (by rw [h]; decide)]
  obtain ⟨n, rfl, hg⟩ := gOk_of h hll
  have hn4 := hg.n4
  generalize hV : cycV l = V
  simp only [go_sem, Int.reduceEq, Int.reduceLT, Int.reduceLE, eq_self, Int.natCast_nonneg, Int.toNat_natCast, h]
  have hF1 : fstOf none = -1 := rfl
  have hF2 : lenOf none = -1 := rfl
  have hF3 : ∀ c, lenOf (some c) = (c.length : Int) := fun _ => rfl
  refine sem_loop (fun k : Nat => ⟨slotsOf 111 [(0, .dat (.int .i64 n)), (1, .dat (.sl (some 4) (edgesD l))), (7, .dat (.int .i64 (fstOf (cycL l k)))), (8, .dat (.int .i64 (lenOf (cycL l k)))), (9, .dat (.int .i64 k))], [], 0, []⟩)
    (fun k => k ≤ l.length) (fun k => l.length - k) 0 (Nat.zero_le _) ?_ ?_
  · exact le_slots' (by simp only [go_sem, Int.natCast_zero, cycL, fstOf, lenOf])
  rintro k hk
  have hcyc := cycL_is (l := l) k
  refine sem_of_awp (Γ := tbl tabRC) tabRC_ok _ _ _ ?_
  cases hd : l.drop k with
  | cons e r =>
    have hlt := lt_of_drop hd
    have hk2 : (k : Int) < l.length := by omega
    have hB1 : back l k < n := by unfold back; rw [tOf_get (get_of_drop hd)]; exact hg.sdlt (hg.dst e (mem_of_drop hd)).2
    have hB2 : -1 ≤ back l k := sd_ge
    have hstep : cycL l (k + 1) = cycStep l (cycL l k) k := rfl
    unfold cycStep at hstep
    simp only [go_sem, Int.reduceEq, Int.reduceLT, Int.reduceLE, eq_self, Int.natCast_nonneg, Int.toNat_natCast, hk2, edges_len]
    refine call_data lenR (by simp) [.int .i64 n, .sl (some 4) (edgesD l), .int .i64 k] _ rfl ⟨n, l, k, rfl, hg, hlt, rfl⟩ (.inl rfl) ?_
    unfold lenV
    by_cases hneg : back l k < 0
    · rw [if_pos hneg] at hstep ⊢
      simp only [go_sem, Int.reduceEq, Int.reduceLT, Int.reduceLE, eq_self, Int.natCast_nonneg, Int.toNat_natCast]
      refine ⟨inR_i64.2 (by omega), k + 1, by omega, by omega, ?_⟩
      rw [hstep]
      exact le_slots' (by simp only [go_sem, Int.natCast_add, Int.cast_ofNat_Int])
    rw [if_neg hneg] at hstep ⊢
    have hpos : 0 < back l k + 1 := by omega
    have hcl := cycOf_len (l := l) (i := k) (by omega)
    cases hc : cycL l k with
    | none =>
      rw [hc] at hstep
      simp only at hstep
      simp only [go_sem, Int.reduceEq, Int.reduceLT, Int.reduceLE, eq_self, Int.natCast_nonneg, Int.toNat_natCast, hpos, hF1, hF2]
      refine ⟨inR_i64.2 (by omega), k + 1, by omega, by omega, ?_⟩
      rw [hstep, show fstOf (some (cycOf l k)) = (k : Int) from rfl, show lenOf (some (cycOf l k)) = back l k + 1 from hcl]
      exact le_slots' (by simp only [go_sem, Int.natCast_add, Int.cast_ofNat_Int])
    | some c =>
      rw [hc] at hstep
      simp only at hstep
      have hc0 : ¬ ((c.length : Nat) : Int) < 0 := by omega
      by_cases hle : (c.length : Int) ≤ back l k + 1
      · rw [if_pos hle] at hstep
        have hle2 : ¬ back l k + 1 < (c.length : Int) := by omega
        simp only [go_sem, Int.reduceEq, Int.reduceLT, Int.reduceLE, eq_self, Int.natCast_nonneg, Int.toNat_natCast, hpos, hF3, hc0, hle2]
        refine ⟨inR_i64.2 (by omega), k + 1, by omega, by omega, ?_⟩
        rw [hstep]
        try rw [hF3]
        exact le_slots' (by simp only [go_sem, Int.natCast_add, Int.cast_ofNat_Int])
      · rw [if_neg hle] at hstep
        have hle2 : back l k + 1 < (c.length : Int) := by omega
        simp only [go_sem, Int.reduceEq, Int.reduceLT, Int.reduceLE, eq_self, Int.natCast_nonneg, Int.toNat_natCast, hpos, hF3, hc0, hle2]
        refine ⟨inR_i64.2 (by omega), k + 1, by omega, by omega, ?_⟩
        rw [hstep, show fstOf (some (cycOf l k)) = (k : Int) from rfl, show lenOf (some (cycOf l k)) = back l k + 1 from hcl]
        exact le_slots' (by simp only [go_sem, Int.natCast_add, Int.cast_ofNat_Int])
  | nil =>
  have := end_of_drop hd hk
  have hk2 : ¬ (k : Int) < l.length := by omega
  rw [this] at hcyc hk2 ⊢
  clear hd hk this k
  unfold cycV at hV
  cases hc : cycL l l.length with
  | none =>
    rw [hc] at hV
    simp only [Option.getD_none] at hV
    subst hV
    simp only [go_sem, Int.reduceEq, Int.reduceLT, Int.reduceLE, eq_self, Int.natCast_nonneg, Int.toNat_natCast, hk2, edges_len, hF1, hF2]
    refine post_res (.inl rfl) [.tmp 4, .tmp 5] rfl ?_
    simp only [go_sem]
    exact le_fin (by simp only [go_sem]) (by simp only [go_sem])
  | some c =>
  rw [hc] at hV hcyc
  simp only [Option.getD_some] at hV hcyc
  obtain ⟨i, hi, hb0, rfl, _⟩ := hcyc
  have hcl := cycOf_len hb0
  have hge := List.getElem?_eq_getElem hi
  generalize he : l[i] = e at *
  have hem := List.mem_of_getElem? hge
  obtain ⟨hs1, hs2⟩ := hg.src e hem
  obtain ⟨ht1, ht2⟩ := hg.dst e hem
  have hne : D.nth (edgesD l) i = edgeD e := by simp [D.nth, hge]
  have hi2 : (i : Int) < l.length := by omega
  have hi0 : ¬ (i : Int) < 0 := by omega
  have hB : back l i = sd (eF l) e.t e.s := by unfold back; rw [sOf_get hge, tOf_get hge]
  have hB1 : back l i < n := by rw [hB]; exact hg.sdlt ht2
  have hf : fstOf (some (cycOf l i)) = (i : Int) := rfl
  have hlo : lenOf (some (cycOf l i)) = back l i + 1 := hcl
  have hsub : back l i + 1 - 1 = back l i := by omega
  rw [hf, hlo]
  simp only [go_sem, Int.reduceEq, Int.reduceLT, Int.reduceLE, eq_self, Int.natCast_nonneg, Int.toNat_natCast, hk2, edges_len, hi0, hi, hi2, hne, edgeD, ht1, hsub]
  refine ⟨inR_i64.2 (by omega), ?_⟩
  refine sem_loop (fun p : Nat × List Nat => ⟨slotsOf 111 [(0, .dat (.int .i64 n)), (1, .dat (.sl (some 4) (edgesD l))), (7, .dat (.int .i64 i)), (11, .sl 0 0 p.2.length), (12, .dat (.int .i64 p.1)), (13, .dat (.int .i64 (sd (eF l) p.1 e.s)))], [.row none (natsD p.2)], 0, []⟩)
    (fun p => p.1 < n ∧ 0 ≤ sd (eF l) p.1 e.s ∧ p.2 ++ pathL l e.s (sd (eF l) p.1 e.s).toNat p.1 = V) (fun p => (sd (eF l) p.1 e.s).toNat) (e.t, [i]) ⟨ht2, by rw [← hB]; exact hb0, ?_⟩ ?_ ?_
  · rw [← hV]; unfold cycOf; rw [hB, sOf_get hge, tOf_get hge]; rfl
  · simp only [← hB]
    exact le_slots' (by simp only [go_sem])
  rintro ⟨v, acc⟩ ⟨hv, hv0, hacc⟩
  simp only at hv hv0 hacc
  have hal : acc.length ≤ V.length := by rw [← hacc]; simp
  have hVl : V.length ≤ 5000 := by rw [← hV]; omega
  have hsb := hg.sdlt (to := e.s) hv
  refine sem_of_awp (Γ := tbl tabRC) tabRC_ok _ _ _ ?_
  by_cases hpos : 0 < sd (eF l) v e.s
  case neg =>
    have h0 : sd (eF l) v e.s = 0 := by omega
    rw [h0] at hacc
    have hacc2 : acc = V := by rw [← hacc]; simp [pathL]
    subst hacc2
    simp only [go_sem, Int.reduceEq, Int.reduceLT, Int.reduceLE, eq_self, Int.natCast_nonneg, Int.toNat_natCast, hpos]
    refine post_res (.inl rfl) [.tmp 4, .tmp 5] rfl ?_
    simp only [go_sem]
    refine Le.trans (le_freeze 0 (ag := none) rfl (Nat.zero_le _)) ?_
    simp only [go_sem, nats_take, nats_len, Nat.le_refl]
    exact le_fin (by simp only [go_sem]) (by simp only [go_sem])
  obtain ⟨m, hm⟩ := nxt_some hpos
  obtain ⟨m1, m2, m3⟩ := nxt_is hm
  have hscan : scan (near l e.s v) v 0 l = some m := by rw [scan_find]; exact hm
  simp only [go_sem, Int.reduceEq, Int.reduceLT, Int.reduceLE, eq_self, Int.natCast_nonneg, Int.toNat_natCast, hpos]
  refine sem_loop (fun p : Nat × Option Nat => ⟨slotsOf 111 [(0, .dat (.int .i64 n)), (1, .dat (.sl (some 4) (edgesD l))), (7, .dat (.int .i64 i)), (11, .sl 0 0 acc.length), (12, .dat (.int .i64 v)), (13, .dat (.int .i64 (sd (eF l) v e.s))), (14, .dat (.int .i64 (nxI p.2))), (15, .dat (.int .i64 p.1))], [.row none (natsD acc)], 0, []⟩)
    (fun p => p.1 ≤ l.length ∧ ((p.2 = none ∧ scan (near l e.s v) v p.1 (l.drop p.1) = some m) ∨ p.2 = some m)) (fun p => l.length - p.1) (0, none) ⟨Nat.zero_le _, .inl ⟨rfl, hscan⟩⟩ ?_ ?_
  · exact le_slots' (by simp only [go_sem, Int.natCast_zero, nxI])
  rintro ⟨k, nx⟩ ⟨hk, hor⟩
  simp only at hk hor
  refine sem_of_awp (Γ := tbl tabRC) tabRC_ok _ _ _ ?_
  rcases hor with ⟨rfl, hsc⟩ | rfl
  · cases hd : l.drop k with
    | nil => rw [hd] at hsc; cases hsc
    | cons x r =>
      have hlt := lt_of_drop hd
      have hk2 : (k : Int) < l.length := by omega
      have hk0 : (0 : Int) ≤ k := Int.natCast_nonneg k
      have hn := nth_of_drop (f := edgeD) hd
      have hxm := mem_of_drop hd
      obtain ⟨xs1, xs2⟩ := hg.src x hxm
      obtain ⟨xt1, xt2⟩ := hg.dst x hxm
      have hnear : near l e.s v k = decide (sd (eF l) x.t e.s = sd (eF l) v e.s - 1) := by unfold near; rw [tOf_get (get_of_drop hd)]
      rw [hd, scan] at hsc
      have hsn : (e.s : Int) < n := by omega
      have hdl := distL_len (n := n) (l := l) (a := x.t)
      have hnd := distL_nth (l := l) (a := x.t) hs2
      by_cases hxv : x.s = v
      · have hxv2 : (x.s : Int) = v := by omega
        simp only [go_sem, Int.reduceEq, Int.reduceLT, Int.reduceLE, eq_self, Int.natCast_nonneg, Int.toNat_natCast, hk2, edges_len, nxI, hk0, hn, hlt, edgeD, xs1, hxv2]
        refine sem_draw (pf := [52]) (Γ := tbl tabRC) mixed tabRC_ok pureRC [0, 1, 2, 3, 4, 5, 6, 7, 8, 9, 10, 11, 12, 13, 14, 15, 16, 17, 18, 19, 20, 21, 22, 23, 24, 25, 26] (by kernel_rfl) ?_
        simp only [go_sem, Int.reduceEq, Int.reduceLT, Int.reduceLE, eq_self, Int.natCast_nonneg, Int.toNat_natCast, chainI, hk2, edges_len, nxI, hk0, hn, hlt, edgeD, xs1, hxv2, xt1]
        refine call_data reachR (by simp) [.int .i64 n, .sl (some 4) (edgesD l), .int .i64 (x.t : Int)] _ rfl ⟨n, l, x.t, rfl, hg, xt2, rfl⟩ (.inl rfl) ?_
        cases hp : near l e.s v k with
        | true =>
          rw [if_pos ⟨hxv, hp⟩] at hsc
          cases hsc
          rw [hp] at hnear
          simp only [go_sem, Int.reduceEq, Int.reduceLT, Int.reduceLE, eq_self, Int.natCast_nonneg, Int.toNat_natCast, chainI, hi, hi2, edges_len, hne, edgeD, hs1, hsn, hs2, ints_len, hdl, hnd, ← hnear]
          refine ⟨inR_i64.2 (by omega), inR_i64.2 (by omega), (m + 1, some m), ⟨by simp only; omega, .inr rfl⟩, by simp only; omega, ?_⟩
          exact le_slots' (by simp only [go_sem, Int.natCast_add, Int.cast_ofNat_Int, nxI])
        | false =>
          rw [if_neg (fun hh => by rw [hp] at hh; cases hh.2)] at hsc
          rw [hp] at hnear
          simp only [go_sem, Int.reduceEq, Int.reduceLT, Int.reduceLE, eq_self, Int.natCast_nonneg, Int.toNat_natCast, chainI, hi, hi2, edges_len, hne, edgeD, hs1, hsn, hs2, ints_len, hdl, hnd, ← hnear]
          refine ⟨inR_i64.2 (by omega), inR_i64.2 (by omega), (k + 1, none), ⟨by simp only; omega, .inl ⟨rfl, by rw [drop_cons hd]; exact hsc⟩⟩, by simp only; omega, ?_⟩
          exact le_slots' (by simp only [go_sem, Int.natCast_add, Int.cast_ofNat_Int, nxI])
      · have hxv2 : ¬ (x.s : Int) = v := by omega
        rw [if_neg (fun hh => hxv hh.1)] at hsc
        simp only [go_sem, Int.reduceEq, Int.reduceLT, Int.reduceLE, eq_self, Int.natCast_nonneg, Int.toNat_natCast, hk2, edges_len, nxI]
        refine sem_draw (pf := [52]) (Γ := tbl tabRC) mixed tabRC_ok pureRC [0, 1, 2, 3, 4, 5, 6, 7, 8, 9, 10, 11, 12, 13, 14, 15, 16, 17, 18, 19, 20, 21, 22, 23, 24, 25, 26] (by kernel_rfl) ?_
        simp only [go_sem, Int.reduceEq, Int.reduceLT, Int.reduceLE, eq_self, Int.natCast_nonneg, Int.toNat_natCast, chainI, hk2, edges_len, nxI, hk0, hn, hlt, edgeD, xs1, hxv2]
        refine ⟨inR_i64.2 (by omega), (k + 1, none), ⟨by simp only; omega, .inl ⟨rfl, by rw [drop_cons hd]; exact hsc⟩⟩, by simp only; omega, ?_⟩
        exact le_slots' (by simp only [go_sem, Int.natCast_add, Int.cast_ofNat_Int, nxI])
  · have hm0 : ¬ (m : Int) < 0 := by omega
    have hge2 := List.getElem?_eq_getElem m1
    have hmt := tOf_get hge2
    have hnm : D.nth (edgesD l) m = edgeD l[m] := by simp [D.nth, hge2]
    have hm2 : (m : Int) < l.length := by omega
    obtain ⟨t1, t2⟩ := hg.dst l[m] (List.getElem_mem m1)
    rw [hmt] at m3
    have hdone : ∃ x : Nat × List Nat, (x.1 < n ∧ 0 ≤ sd (eF l) x.1 e.s ∧ x.2 ++ pathL l e.s (sd (eF l) x.1 e.s).toNat x.1 = V) ∧ (sd (eF l) x.1 e.s).toNat < (sd (eF l) v e.s).toNat ∧ x = (l[m].t, acc ++ [m]) := by
      refine ⟨(l[m].t, acc ++ [m]), ⟨t2, by simp only; omega, ?_⟩, by simp only; omega, rfl⟩
      rw [← hacc]
      obtain ⟨q, hq⟩ : ∃ q : Nat, (sd (eF l) v e.s).toNat = q + 1 := ⟨(sd (eF l) v e.s).toNat - 1, by omega⟩
      have hq2 : (sd (eF l) l[m].t e.s).toNat = q := by omega
      rw [hq, pathL_cons hm, hmt]
      simp only [hq2, List.append_assoc, List.cons_append, List.nil_append]
    obtain ⟨x, x1, x2, rfl⟩ := hdone
    by_cases hkl : k < l.length
    · have hk2 : (k : Int) < l.length := by omega
      simp only [go_sem, Int.reduceEq, Int.reduceLT, Int.reduceLE, eq_self, Int.natCast_nonneg, Int.toNat_natCast, hk2, edges_len, nxI, hm0, nats_take, nats_len, nats_snoc, m1, hm2, hnm, edgeD, t1]
      refine ⟨by omega, by omega, inR_i64.2 (by omega), _, x1, x2, ?_⟩
      simp only [m3]
      refine le_end (own := [_]) (ex := [_]) (Nat.zero_le _) ?_ ?_ ?_
      · simp only [go_sem, List.length_append, List.length_cons, List.length_nil, Nat.zero_add]
      · simp only [go_sem]
      · simp only [go_sem, Obj.under, AV.unders, AV.under]
    · have hk2 : ¬ (k : Int) < l.length := by omega
      simp only [go_sem, Int.reduceEq, Int.reduceLT, Int.reduceLE, eq_self, Int.natCast_nonneg, Int.toNat_natCast, hk2, edges_len, nxI, hm0, nats_take, nats_len, nats_snoc, m1, hm2, hnm, edgeD, t1]
      refine ⟨by omega, by omega, inR_i64.2 (by omega), _, x1, x2, ?_⟩
      simp only [m3]
      refine le_end (own := [_]) (ex := [_]) (Nat.zero_le _) ?_ ?_ ?_
      · simp only [go_sem, List.length_append, List.length_cons, List.length_nil, Nat.zero_add]
      · simp only [go_sem]
      · simp only [go_sem, Obj.under, AV.unders, AV.under]
end Go.AM

namespace Go.AM
open Go Go.Proofs

/- ### levels in rounds (plain) -/
/-- In round r, the first edges P have been looked at. -/
structure LR (n : Nat) (l : List PEdge) (out : List Nat) (r : Nat) (P : List PEdge) (more : Bool) : Prop where
  len : out.length = n
  walk : ∀ v, v < n → ∃ u, Wk (eF l) (out.getD v 0) v u
  comp : ∀ v j u, v < n → j ≤ r → Wk (eF l) j v u → j ≤ out.getD v 0
  done : ∀ e ∈ P, ∀ j u, j ≤ r → Wk (eF l) j e.t u → j + 1 ≤ out.getD e.s 0
  flat : more = false → ∀ e ∈ P, out.getD e.t 0 < out.getD e.s 0
  cyc : more = true → n ≤ r → ¬ acyc (eF l)
  ub : ∀ v, v < n → out.getD v 0 ≤ r * l.length + P.length
theorem LR.init {n : Nat} {l : List PEdge} : LR n l (List.replicate n 0) 0 [] false where
  len := by simp
  walk v hv := ⟨v, by simp [List.getD_eq_getElem?_getD, List.getElem?_replicate, hv]; rfl⟩
  comp v j u hv hj h := by omega
  done e he := by cases he
  flat _ e he := by cases he
  cyc h := by cases h
  ub v hv := by simp [List.getD_eq_getElem?_getD, List.getElem?_replicate, hv]
section
variable {n r : Nat} {l P : List PEdge} {out : List Nat} {more : Bool} {e : PEdge}
theorem LR.keep (h : LR n l out r P more) (hg : GOk n l) (he : e ∈ l) (hlt : ¬ out.getD e.s 0 < out.getD e.t 0 + 1) : LR n l out r (P ++ [e]) more := by
  refine { h with done := fun x hx j u hj hw => ?_, flat := fun hm x hx => ?_, ub := fun v hv => ?_ }
  · rcases List.mem_append.1 hx with hx | hx
    · exact h.done x hx j u hj hw
    · simp at hx; subst hx
      have := h.comp x.t j u (hg.dst x he).2 hj hw
      omega
  · rcases List.mem_append.1 hx with hx | hx
    · exact h.flat hm x hx
    · simp at hx; subst hx; omega
  · have := h.ub v hv; rw [List.length_append]; omega
theorem LR.lift (h : LR n l out r P more) (hg : GOk n l) (he : e ∈ l) (hlt : out.getD e.s 0 < out.getD e.t 0 + 1) : LR n l (out.set e.s (out.getD e.t 0 + 1)) r (P ++ [e]) true := by
  have hs := (hg.src e he).2
  have ht := (hg.dst e he).2
  have hgv : ∀ v, (out.set e.s (out.getD e.t 0 + 1)).getD v 0 = if e.s = v then out.getD e.t 0 + 1 else out.getD v 0 := fun v => by
    rw [getD_set']
    by_cases h2 : e.s = v
    · rw [if_pos ⟨h2, by rw [h.len]; exact hs⟩, if_pos h2]
    · rw [if_neg (fun hh => h2 hh.1), if_neg h2]
  have hup : ∀ v, out.getD v 0 ≤ (out.set e.s (out.getD e.t 0 + 1)).getD v 0 := fun v => by
    rw [hgv]; split
    · rename_i h2; subst h2; omega
    · omega
  have hmem : (e.s, e.t) ∈ eF l := List.mem_map.2 ⟨e, he, rfl⟩
  refine ⟨by simp [h.len], fun v hv => ?_, fun v j u hv hj hw => Nat.le_trans (h.comp v j u hv hj hw) (hup v), fun x hx j u hj hw => ?_, fun hm => (by cases hm), fun _ hr hA => ?_, fun v hv => ?_⟩
  · rw [hgv]
    split
    · rename_i h2; subst h2
      obtain ⟨u, hu⟩ := h.walk e.t ht
      exact ⟨u, Wk_cons hmem hu⟩
    · exact h.walk v hv
  · rcases List.mem_append.1 hx with hx | hx
    · exact Nat.le_trans (h.done x hx j u hj hw) (hup x.s)
    · simp at hx; subst hx
      rw [hgv, if_pos rfl]
      have := h.comp x.t j u ht hj hw
      omega
  · obtain ⟨u, hu⟩ := h.walk e.t ht
    have hw := Wk_cons hmem hu
    have h1 := wk_short hg.eFlt hA hs hw
    have := h.comp e.s _ u hs (by omega) hw
    omega
  · rw [hgv]
    have h1 := h.ub e.t ht
    have h2 := h.ub v hv
    rw [List.length_append, List.length_singleton]
    split <;> omega
theorem LR.next (h : LR n l out r l more) (hE : ∀ e ∈ l, e.s < n) : LR n l out (r + 1) [] false where
  len := h.len
  walk := h.walk
  comp v j u hv hj hw := by
    cases j with
    | zero => omega
    | succ j =>
      obtain ⟨b, hb, hw⟩ := Wk_first hw
      obtain ⟨e, he, h2⟩ := List.mem_map.1 hb
      cases h2
      exact h.done e he j u (by omega) hw
  done e he := by cases he
  flat _ e he := by cases he
  cyc h := by cases h
  ub v hv := by have := h.ub v hv; rw [Nat.succ_mul, List.length_nil]; omega
theorem LR.stop (h : LR n l out r l false) (hg : GOk n l) : levV n l = some out := by
  have hd := h.flat rfl
  have hA := pot_acyc (f := fun v => out.getD v 0) hd
  have pot : ∀ k a v, Wk (eF l) k a v → k ≤ out.getD a 0 := by
    have key : ∀ k a v, Wk (eF l) k a v → out.getD v 0 + k ≤ out.getD a 0 := by
      intro k
      induction k with
      | zero => intro a v h; cases h; omega
      | succ k ih =>
        rintro a v ⟨u, hu, hw⟩
        obtain ⟨e, he, h2⟩ := List.mem_map.1 hu
        cases h2
        have := ih a e.s hw
        have := hd e he
        omega
    intro k a v hw
    have := key k a v hw
    omega
  have hl : IsLev n l fun v => out.getD v 0 := ⟨hd, fun v hv => by
    by_cases h0 : out.getD v 0 = 0
    · exact .inl h0
    · obtain ⟨u, hu⟩ := h.walk v hv
      obtain ⟨m, hm⟩ : ∃ m, out.getD v 0 = m + 1 := ⟨out.getD v 0 - 1, by omega⟩
      rw [hm] at hu
      obtain ⟨b, hb, hw⟩ := Wk_first hu
      obtain ⟨e, he, h2⟩ := List.mem_map.1 hb
      cases h2
      have h3 := pot m e.t u hw
      have h4 := hd e he
      exact .inr ⟨e, he, rfl, by omega⟩⟩
  rw [levV_some (fun e he => (hg.dst e he).2) hl]
  congr 1
  refine List.ext_getElem (by simp [h.len]) fun i h1 h2 => ?_
  simp [List.getD_eq_getElem?_getD, List.getElem?_eq_getElem h2]
theorem levV_cyc {n : Nat} {l : List PEdge} (h : ¬ acyc (eF l)) : levV n l = none := levV_none fun ⟨f, hf⟩ => h (pot_acyc hf)
end
end Go.AM

set_option maxRecDepth 8000
set_option maxHeartbeats 2000000
namespace Go.AM
open Go Go.Proofs

/- ### the reference's levels -/
abbrev tabRV : List (Nat × Contract) := [(51, dataC gchkR)]
theorem tabRV_ok : OkG Try.prog (tbl tabRV) := okG_cons rgcheck_ok okG_nil
theorem rlevels_ok : OkF Try.prog 27 (dataC levelsR) := by
  refine okF_data Try.func27 rfl (by decide) ?_
  rintro ds v ⟨n, l, rfl, hll, rfl⟩
  refine sem_of_awp (Γ := tbl tabRV) tabRV_ok _ _ _ ?_
  simp only [go_sem, Int.reduceEq, Int.reduceLT, Int.reduceLE, eq_self, Int.natCast_nonneg, Int.toNat_natCast, Try.ntmps27]
  refine call_data gchkR (by simp) [.int .i64 n, .sl (some 4) (edgesD l)] _ rfl ⟨n, l, rfl, hll, rfl⟩ (.inl rfl) ?_
  by_cases h : gE n l = 0
  case neg =>
    unfold levelsVv
    rw [if_pos h]
    simp only [go_sem, Int.reduceEq, Int.reduceLT, Int.reduceLE, eq_self, Int.natCast_nonneg, Int.toNat_natCast, h]
    refine post_res (.inl rfl) [.tmp 4, .tmp 5] rfl ?_
    simp only [go_sem]
    exact le_fin (by simp only [go_sem]) (by simp only [go_sem])
  unfold levelsVv
  rw [if_neg (by rw [h]; decide)]
  obtain ⟨n, rfl, hg⟩ := gOk_of h hll
  have hn4 := hg.n4
  have hEs : ∀ e ∈ l, e.s < n := fun e he => (hg.src e he).2
  rw [Int.toNat_natCast]
  simp only [go_sem, Int.reduceEq, Int.reduceLT, Int.reduceLE, eq_self, Int.natCast_nonneg, Int.toNat_natCast, h]
  refine sem_le (le_addnil 7 none rfl (Nat.zero_le _)) ?_
  simp only [go_sem, Int.reduceEq, Int.reduceLT, Int.reduceLE, eq_self, Int.natCast_nonneg, Int.toNat_natCast]
  refine sem_loop (fun k : Nat => ⟨slotsOf 74 [(0, .dat (.int .i64 n)), (1, .dat (.sl (some 4) (edgesD l))), (7, .sl 0 0 k), (8, .dat (.int .i64 k))], [.row none (List.replicate k (.int .i64 0))], 0, []⟩)
    (fun k => k ≤ n) (fun k => n - k) 0 (Nat.zero_le _) ?_ ?_
  · exact le_slots' (by simp only [go_sem, Int.natCast_zero])
  rintro k hk
  refine sem_of_awp (Γ := tbl tabRV) tabRV_ok _ _ _ ?_
  by_cases hkn : k = n
  case neg =>
    have hk2 : (k : Int) < n := by omega
    have e : List.replicate k (D.int .i64 0) ++ [D.int .i64 0] = List.replicate (k + 1) (D.int .i64 0) := List.replicate_succ'.symm
    simp only [go_sem, Int.reduceEq, Int.reduceLT, Int.reduceLE, eq_self, Int.natCast_nonneg, Int.toNat_natCast, hk2, List.length_replicate, List.take_replicate, Nat.min_self, e]
    refine ⟨by omega, by omega, inR_i64.2 (by omega), k + 1, by omega, by omega, ?_⟩
    refine le_end (own := [_]) (ex := [_]) (Nat.zero_le _) ?_ ?_ ?_
    · simp only [go_sem, Int.natCast_add, Int.cast_ofNat_Int]
    · simp only [go_sem]
    · simp only [go_sem, Obj.under, AV.unders, AV.under]
  subst hkn
  have hk2 : ¬ (k : Int) < k := by omega
  have e0 : List.replicate k (D.int .i64 0) = natsD (List.replicate k 0) := by rw [nats_rep]; rfl
  rw [e0]
  simp only [go_sem, Int.reduceEq, Int.reduceLT, Int.reduceLE, eq_self, Int.natCast_nonneg, Int.toNat_natCast, hk2]
  refine sem_loop (fun p : Nat × List Nat => ⟨slotsOf 74 [(0, .dat (.int .i64 k)), (1, .dat (.sl (some 4) (edgesD l))), (7, .sl 0 0 k), (9, .dat (.int .i64 p.1))], [.row none (natsD p.2)], 0, []⟩)
    (fun p => (p.1 ≤ k ∧ LR k l p.2 p.1 [] false) ∨ (p.1 = k + 1 ∧ ¬ acyc (eF l))) (fun p => k + 1 - p.1) (0, List.replicate k 0) (.inl ⟨Nat.zero_le _, LR.init⟩) ?_ ?_
  · exact le_slots' (by simp only [go_sem, Int.natCast_zero])
  rintro ⟨r, out⟩ hor
  simp only at hor
  refine sem_of_awp (Γ := tbl tabRV) tabRV_ok _ _ _ ?_
  rcases hor with ⟨hr, hI⟩ | ⟨hr, hA⟩
  case inr =>
    have hr2 : ¬ (r : Int) ≤ k := by omega
    rw [levV_cyc hA]
    simp only [go_sem, Int.reduceEq, Int.reduceLT, Int.reduceLE, eq_self, Int.natCast_nonneg, Int.toNat_natCast, hr2]
    refine post_res (.inl rfl) [.tmp 4, .tmp 5] rfl ?_
    simp only [go_sem]
    exact le_fin (by simp only [go_sem]) (by simp only [go_sem])
  have hr2 : (r : Int) ≤ k := by omega
  simp only [go_sem, Int.reduceEq, Int.reduceLT, Int.reduceLE, eq_self, Int.natCast_nonneg, Int.toNat_natCast, hr2]
  refine sem_loop (fun p : Nat × List Nat × Bool => ⟨slotsOf 74 [(0, .dat (.int .i64 k)), (1, .dat (.sl (some 4) (edgesD l))), (7, .sl 0 0 k), (9, .dat (.int .i64 r)), (10, .dat (.bool p.2.2)), (11, .dat (.int .i64 p.1))], [.row none (natsD p.2.1)], 0, []⟩)
    (fun p => p.1 ≤ l.length ∧ LR k l p.2.1 r (l.take p.1) p.2.2) (fun p => l.length - p.1) (0, out, false) ⟨Nat.zero_le _, hI⟩ ?_ ?_
  · exact le_slots' (by simp only [go_sem, Int.natCast_zero])
  clear hI out
  rintro ⟨i, out, more⟩ ⟨hi, hI⟩
  simp only at hi hI
  refine sem_of_awp (Γ := tbl tabRV) tabRV_ok _ _ _ ?_
  cases hd : l.drop i with
  | nil =>
    have := end_of_drop hd hi
    have hi2 : ¬ (i : Int) < l.length := by omega
    rw [this, List.take_length] at hI
    have hol := hI.len
    cases more with
    | false =>
      rw [hI.stop hg]
      simp only [go_sem, Int.reduceEq, Int.reduceLT, Int.reduceLE, eq_self, Int.natCast_nonneg, Int.toNat_natCast, hi2, edges_len]
      refine post_res (.inl rfl) [.tmp 4, .tmp 5] rfl ?_
      simp only [go_sem]
      refine Le.trans (le_freeze 0 (ag := none) rfl (Nat.zero_le _)) ?_
      have e1 : List.take k (natsD out) = natsD out := List.take_of_length_le (by simp [hol])
      simp only [go_sem, e1, nats_len, hol, Nat.le_refl]
      exact le_fin (by simp only [go_sem]) (by simp only [go_sem])
    | true =>
      simp only [go_sem, Int.reduceEq, Int.reduceLT, Int.reduceLE, eq_self, Int.natCast_nonneg, Int.toNat_natCast, hi2, edges_len]
      refine ⟨inR_i64.2 (by omega), (r + 1, out), ?_, by simp only; omega, ?_⟩
      · by_cases hrk : r = k
        · exact .inr ⟨by simp only; omega, hI.cyc rfl (by omega)⟩
        · exact .inl ⟨by simp only; omega, hI.next hEs⟩
      · exact le_slots' (by simp only [go_sem, Int.natCast_add, Int.cast_ofNat_Int])
  | cons e q =>
    have hlt := lt_of_drop hd
    have hi2 : (i : Int) < l.length := by omega
    have hi0 : (0 : Int) ≤ i := Int.natCast_nonneg i
    have hn := nth_of_drop (f := edgeD) hd
    have hem := mem_of_drop hd
    obtain ⟨hs1, hs2⟩ := hg.src e hem
    obtain ⟨ht1, ht2⟩ := hg.dst e hem
    have hsn : (e.s : Int) < k := by omega
    have htn : (e.t : Int) < k := by omega
    have hol := hI.len
    have gs := nats_at (l := out) 0 (show e.s < out.length by omega)
    have gt := nats_at (l := out) 0 (show e.t < out.length by omega)
    have hub := hI.ub e.t ht2
    have hmul : r * l.length ≤ 4096 * 10000 := Nat.mul_le_mul (by omega) hll
    have htl : (l.take i).length ≤ 10000 := by rw [List.length_take]; omega
    have hadd : ((out.getD e.t 0 : Nat) : Int) + 1 = ((out.getD e.t 0 + 1 : Nat) : Int) := by omega
    simp only [go_sem, Int.reduceEq, Int.reduceLT, Int.reduceLE, eq_self, Int.natCast_nonneg, Int.toNat_natCast, hi2, edges_len]
    refine sem_draw (pf := []) (Γ := tbl tabRV) mixed tabRV_ok (fun g _ _ _ _ _ h => by cases h) [0, 1, 2, 3, 4, 5, 6, 7, 8, 9, 10, 11, 12, 13, 14, 15, 16, 17] (by kernel_rfl) ?_
    by_cases hlt2 : out.getD e.s 0 < out.getD e.t 0 + 1
    · have hlt3 : ((out.getD e.s 0 : Nat) : Int) < ((out.getD e.t 0 + 1 : Nat) : Int) := by omega
      have hL := hI.lift hg hem hlt2
      rw [← take_of_drop hd] at hL
      simp only [go_sem, Int.reduceEq, Int.reduceLT, Int.reduceLE, eq_self, Int.natCast_nonneg, Int.toNat_natCast, chainI, hi2, hi0, edges_len, hn, hlt, edgeD, hs1, ht1, hsn, hs2, htn, ht2, nats_len, hol, gs, gt, hadd, hlt3]
      refine ⟨inR_i64.2 (by omega), ?_⟩
      refine sem_drawM (ob := 0) (pf := []) (mf := []) (ms := []) mixed tabRV_ok (fun g _ _ _ _ _ h => by cases h) noMk [0, 1, 2, 3, 4, 5, 6, 7, 8, 9, 10, 11, 12, 13, 14, 15, 16] (by kernel_rfl) ?_
      simp only [go_sem, Int.reduceEq, Int.reduceLT, Int.reduceLE, eq_self, Int.natCast_nonneg, Int.toNat_natCast, chainM, opm, hi2, hi0, edges_len, hn, hlt, edgeD, hs1, ht1, hsn, hs2, htn, ht2, nats_len, hol, gs, gt, hadd, nats_upd]
      refine ⟨inR_i64.2 (by omega), inR_i64.2 (by omega), (i + 1, _, true), ⟨by simp only; omega, hL⟩, by simp only; omega, ?_⟩
      exact le_slots' (by simp only [go_sem, Int.natCast_add, Int.cast_ofNat_Int])
    · have hlt3 : ¬ ((out.getD e.s 0 : Nat) : Int) < ((out.getD e.t 0 + 1 : Nat) : Int) := by omega
      have hL := hI.keep hg hem hlt2
      rw [← take_of_drop hd] at hL
      simp only [go_sem, Int.reduceEq, Int.reduceLT, Int.reduceLE, eq_self, Int.natCast_nonneg, Int.toNat_natCast, chainI, hi2, hi0, edges_len, hn, hlt, edgeD, hs1, ht1, hsn, hs2, htn, ht2, nats_len, hol, gs, gt, hadd, hlt3]
      refine ⟨inR_i64.2 (by omega), inR_i64.2 (by omega), (i + 1, out, more), ⟨by simp only; omega, hL⟩, by simp only; omega, ?_⟩
      exact le_slots' (by simp only [go_sem, Int.natCast_add, Int.cast_ofNat_Int])
end Go.AM

set_option maxRecDepth 8000
set_option maxHeartbeats 2000000
namespace Go.AM
open Go Go.Proofs

/- ### the reference's components -/
theorem sd_Rr {E : List (Nat × Nat)} {a b : Nat} : 0 ≤ sd E a b ↔ Rr E a b := ⟨fun h => ⟨_, sd_wk h⟩, fun ⟨k, h⟩ => (sd_le h).1⟩
noncomputable def cpA (n : Nat) (l : List PEdge) (a b : Nat) : List Int := (List.range n).map fun u => if lowC (eF l) u < a ∨ (lowC (eF l) u = a ∧ u < b) then (lowC (eF l) u : Int) else -1
theorem cpA_len {n a b : Nat} {l : List PEdge} : (cpA n l a b).length = n := by simp [cpA]
theorem cpA_get {n a b u : Nat} {l : List PEdge} (h : u < n) : (cpA n l a b).getD u (-1) = if lowC (eF l) u < a ∨ (lowC (eF l) u = a ∧ u < b) then (lowC (eF l) u : Int) else -1 := by
  simp [cpA, List.getD_eq_getElem?_getD, h]
theorem lowC_le {E : List (Nat × Nat)} {u : Nat} : lowC E u ≤ u := (isLow_ex E u).le u Rr.refl Rr.refl
theorem cpA_zero {n : Nat} {l : List PEdge} : cpA n l 0 0 = List.replicate n (-1) := by
  simp only [cpA]
  refine List.ext_getElem (by simp) fun i h1 h2 => ?_
  simp
theorem cpA_start {n a : Nat} {l : List PEdge} : cpA n l a 0 = cpA n l a a := by
  unfold cpA
  refine List.map_congr_left fun u hu => ?_
  have := lowC_le (E := eF l) (u := u)
  by_cases h : lowC (eF l) u < a
  · simp [h]
  · have h1 : ¬ (lowC (eF l) u < a ∨ lowC (eF l) u = a ∧ u < 0) := by omega
    have h2 : ¬ (lowC (eF l) u < a ∨ lowC (eF l) u = a ∧ u < a) := by omega
    rw [if_neg h1, if_neg h2]
theorem cpA_end {n a : Nat} {l : List PEdge} : cpA n l a n = cpA n l (a + 1) 0 := by
  unfold cpA
  refine List.map_congr_left fun u hu => ?_
  have hu : u < n := by simpa using hu
  by_cases h : lowC (eF l) u < a + 1
  · rw [if_pos (by omega), if_pos (by omega)]
  · rw [if_neg (by omega), if_neg (by omega)]
theorem cpA_skip {n a : Nat} {l : List PEdge} (h : lowC (eF l) a < a) : cpA n l a 0 = cpA n l (a + 1) 0 := by
  unfold cpA
  refine List.map_congr_left fun u hu => ?_
  by_cases h2 : lowC (eF l) u < a
  · rw [if_pos (by omega), if_pos (by omega)]
  · by_cases h3 : lowC (eF l) u = a
    · have k1 := isLow_ex (eF l) u
      have k2 := isLow_ex (eF l) a
      rw [h3] at k1
      have := k1.le _ (k1.to.trans k2.to) (k2.from_.trans k1.from_)
      omega
    · rw [if_neg (by omega), if_neg (by omega)]
theorem cpA_all {n : Nat} {l : List PEdge} : cpA n l n 0 = (compL n l).map fun x : Nat => (x : Int) := by
  unfold cpA compL
  rw [List.map_map]
  refine List.map_congr_left fun u hu => ?_
  have hu : u < n := by simpa using hu
  have := lowC_le (E := eF l) (u := u)
  rw [if_pos (by omega)]; rfl
theorem cpA_step {n a b : Nat} {l : List PEdge} (hb : b < n) : cpA n l a (b + 1) = if lowC (eF l) b = a then (cpA n l a b).set b (a : Int) else cpA n l a b := by
  split
  · rename_i h
    refine List.ext_getElem (by simp [cpA]) fun u h1 h2 => ?_
    have hu : u < n := by simpa [cpA] using h1
    rw [List.getElem_set]
    simp only [cpA, List.getElem_map, List.getElem_range]
    by_cases e : b = u
    · subst e; rw [if_pos rfl, if_pos (.inr ⟨h, by omega⟩), h]
    · rw [if_neg e]
      by_cases h3 : lowC (eF l) u < a ∨ lowC (eF l) u = a ∧ u < b
      · rw [if_pos h3, if_pos (by omega)]
      · rw [if_neg h3, if_neg (by omega)]
  · rename_i h
    unfold cpA
    refine List.map_congr_left fun u hu => ?_
    by_cases h3 : lowC (eF l) u < a ∨ lowC (eF l) u = a ∧ u < b
    · rw [if_pos h3, if_pos (by omega)]
    · rw [if_neg h3, if_neg (by by_cases e : u = b; subst e; omega; omega)]
theorem lowC_mut {E : List (Nat × Nat)} {a b : Nat} (h : ¬ lowC E b < a) : lowC E b = a ↔ 0 ≤ sd E a b ∧ 0 ≤ sd E b a := by
  have k := isLow_ex E b
  rw [sd_Rr, sd_Rr]
  constructor
  · intro e; rw [e] at k; exact ⟨k.from_, k.to⟩
  · rintro ⟨h1, h2⟩
    have := k.le a h2 h1
    omega
theorem nats_ints {L : List Nat} : natsD L = intsD (L.map fun x : Nat => (x : Int)) := by simp
abbrev tabRK : List (Nat × Contract) := [(51, dataC gchkR), (52, dataC reachR)]
theorem tabRK_ok : OkG Try.prog (tbl tabRK) := okG_cons rgcheck_ok (okG_cons reach_ok okG_nil)
theorem rcomponents_ok : OkF Try.prog 25 (dataC compR) := by
  refine okF_data Try.func25 rfl (by decide) ?_
  rintro ds v ⟨n, l, rfl, hll, rfl⟩
  refine sem_of_awp (Γ := tbl tabRK) tabRK_ok _ _ _ ?_
  simp only [go_sem, Int.reduceEq, Int.reduceLT, Int.reduceLE, eq_self, Int.natCast_nonneg, Int.toNat_natCast, Try.ntmps25]
  refine call_data gchkR (by simp) [.int .i64 n, .sl (some 4) (edgesD l)] _ rfl ⟨n, l, rfl, hll, rfl⟩ (.inl rfl) ?_
  by_cases h : gE n l = 0
  case neg =>
    unfold compVv
    rw [if_pos h]
    simp only [go_sem, Int.reduceEq, Int.reduceLT, Int.reduceLE, eq_self, Int.natCast_nonneg, Int.toNat_natCast, h]
    refine post_res (.inl rfl) [.tmp 4, .tmp 5] rfl ?_
    simp only [go_sem]
    exact le_fin (by simp only [go_sem]) (by simp only [go_sem])
  unfold compVv
  rw [if_neg (by rw [h]; decide)]
  obtain ⟨n, rfl, hg⟩ := gOk_of h hll
  have hn4 := hg.n4
  rw [Int.toNat_natCast]
  simp only [go_sem, Int.reduceEq, Int.reduceLT, Int.reduceLE, eq_self, Int.natCast_nonneg, Int.toNat_natCast, h]
  refine sem_le (le_addnil 7 none rfl (Nat.zero_le _)) ?_
  simp only [go_sem, Int.reduceEq, Int.reduceLT, Int.reduceLE, eq_self, Int.natCast_nonneg, Int.toNat_natCast]
  refine sem_loop (fun k : Nat => ⟨slotsOf 73 [(0, .dat (.int .i64 n)), (1, .dat (.sl (some 4) (edgesD l))), (7, .sl 0 0 k), (8, .dat (.int .i64 k))], [.row none (List.replicate k (.int .i64 (-1)))], 0, []⟩)
    (fun k => k ≤ n) (fun k => n - k) 0 (Nat.zero_le _) ?_ ?_
  · exact le_slots' (by simp only [go_sem, Int.natCast_zero])
  rintro k hk
  refine sem_of_awp (Γ := tbl tabRK) tabRK_ok _ _ _ ?_
  by_cases hkn : k = n
  case neg =>
    have hk2 : (k : Int) < n := by omega
    have e : List.replicate k (D.int .i64 (-1)) ++ [D.int .i64 (-1)] = List.replicate (k + 1) (D.int .i64 (-1)) := List.replicate_succ'.symm
    simp only [go_sem, Int.reduceEq, Int.reduceLT, Int.reduceLE, eq_self, Int.natCast_nonneg, Int.toNat_natCast, hk2, List.length_replicate, List.take_replicate, Nat.min_self, e]
    refine ⟨by omega, by omega, inR_i64.2 (by omega), k + 1, by omega, by omega, ?_⟩
    refine le_end (own := [_]) (ex := [_]) (Nat.zero_le _) ?_ ?_ ?_
    · simp only [go_sem, Int.natCast_add, Int.cast_ofNat_Int]
    · simp only [go_sem]
    · simp only [go_sem, Obj.under, AV.unders, AV.under]
  subst hkn
  have hk2 : ¬ (k : Int) < k := by omega
  have e0 : List.replicate k (D.int .i64 (-1)) = intsD (cpA k l 0 0) := by rw [cpA_zero, ← ints_rep]
  rw [e0]
  simp only [go_sem, Int.reduceEq, Int.reduceLT, Int.reduceLE, eq_self, Int.natCast_nonneg, Int.toNat_natCast, hk2]
  refine sem_loop (fun a : Nat => ⟨slotsOf 73 [(0, .dat (.int .i64 k)), (1, .dat (.sl (some 4) (edgesD l))), (7, .sl 0 0 k), (9, .dat (.int .i64 a))], [.row none (intsD (cpA k l a 0))], 0, []⟩)
    (fun a => a ≤ k) (fun a => k - a) 0 (Nat.zero_le _) ?_ ?_
  · exact le_slots' (by simp only [go_sem, Int.natCast_zero])
  rintro a ha
  refine sem_of_awp (Γ := tbl tabRK) tabRK_ok _ _ _ ?_
  have hcl := cpA_len (n := k) (l := l) (a := a) (b := 0)
  by_cases hak : a = k
  case pos =>
    subst hak
    have hk2 : ¬ (a : Int) < a := by omega
    simp only [go_sem, Int.reduceEq, Int.reduceLT, Int.reduceLE, eq_self, Int.natCast_nonneg, Int.toNat_natCast, hk2]
    refine post_res (.inl rfl) [.tmp 4, .tmp 5] rfl ?_
    simp only [go_sem]
    refine Le.trans (le_freeze 0 (ag := none) rfl (Nat.zero_le _)) ?_
    have e1 : List.take a (intsD (cpA a l a 0)) = natsD (compL a l) := by rw [List.take_of_length_le (by simp [hcl]), cpA_all, nats_ints]
    have e2 : (intsD (cpA a l a 0)).length = a := by rw [ints_len, hcl]
    simp only [go_sem, e1, e2, Nat.le_refl]
    exact le_fin (by simp only [go_sem]) (by simp only [go_sem])
  have hal : a < k := by omega
  have hal2 : (a : Int) < k := by omega
  have hget := ints_nth (l := cpA k l a 0) (-1) (i := a) (by rw [hcl]; exact hal)
  rw [cpA_get hal] at hget
  by_cases hlow : lowC (eF l) a < a
  · rw [if_pos (.inl hlow)] at hget
    have hge : (0 : Int) ≤ (lowC (eF l) a : Nat) := Int.natCast_nonneg _
    have hsk := cpA_skip (n := k) hlow
    simp only [go_sem, Int.reduceEq, Int.reduceLT, Int.reduceLE, eq_self, Int.natCast_nonneg, Int.toNat_natCast, hal2, hal, ints_len, hcl, hget, hge]
    refine ⟨inR_i64.2 (by omega), a + 1, by omega, by omega, ?_⟩
    rw [hsk]
    exact le_slots' (by simp only [go_sem, Int.natCast_add, Int.cast_ofNat_Int])
  rw [if_neg (by omega)] at hget
  simp only [go_sem, Int.reduceEq, Int.reduceLT, Int.reduceLE, eq_self, Int.natCast_nonneg, Int.toNat_natCast, hal2, hal, ints_len, hcl, hget]
  refine call_data reachR (by simp) [.int .i64 k, .sl (some 4) (edgesD l), .int .i64 (a : Int)] _ rfl ⟨k, l, a, rfl, hg, hal, rfl⟩ (.inl rfl) ?_
  simp only [go_sem, Int.reduceEq, Int.reduceLT, Int.reduceLE, eq_self, Int.natCast_nonneg, Int.toNat_natCast]
  rw [cpA_start]
  refine sem_loop (fun b : Nat => ⟨slotsOf 73 [(0, .dat (.int .i64 k)), (1, .dat (.sl (some 4) (edgesD l))), (7, .sl 0 0 k), (9, .dat (.int .i64 a)), (10, .dat (.sl none (intsD (distL k l a)))), (11, .dat (.int .i64 b))], [.row none (intsD (cpA k l a b))], 0, []⟩)
    (fun b => a ≤ b ∧ b ≤ k) (fun b => k - b) a ⟨Nat.le_refl _, ha⟩ ?_ ?_
  · exact le_slots' (by simp only [go_sem])
  rintro b ⟨hab, hb⟩
  refine sem_of_awp (Γ := tbl tabRK) tabRK_ok _ _ _ ?_
  have hbl := cpA_len (n := k) (l := l) (a := a) (b := b)
  by_cases hbk : b = k
  case pos =>
    subst hbk
    have hk2 : ¬ (b : Int) < b := by omega
    rw [cpA_end]
    simp only [go_sem, Int.reduceEq, Int.reduceLT, Int.reduceLE, eq_self, Int.natCast_nonneg, Int.toNat_natCast, hk2]
    refine ⟨inR_i64.2 (by omega), a + 1, by omega, by omega, ?_⟩
    exact le_slots' (by simp only [go_sem, Int.natCast_add, Int.cast_ofNat_Int])
  have hbl2 : b < k := by omega
  have hbl3 : (b : Int) < k := by omega
  have hgb := ints_nth (l := cpA k l a b) (-1) (i := b) (by rw [hbl]; exact hbl2)
  rw [cpA_get hbl2] at hgb
  have hstep := cpA_step (n := k) (l := l) (a := a) hbl2
  have hdl := distL_len (n := k) (l := l) (a := a)
  have hdb := distL_nth (l := l) (a := a) hbl2
  have hdl2 := distL_len (n := k) (l := l) (a := b)
  have hda := distL_nth (l := l) (a := b) hal
  by_cases hlb : lowC (eF l) b < a
  · rw [if_pos (.inl hlb)] at hgb
    rw [if_neg (by omega)] at hstep
    have hge : ¬ ((lowC (eF l) b : Nat) : Int) < 0 := by omega
    simp only [go_sem, Int.reduceEq, Int.reduceLT, Int.reduceLE, eq_self, Int.natCast_nonneg, Int.toNat_natCast, hbl3, hbl2, ints_len, hbl, hgb, hge]
    refine ⟨inR_i64.2 (by omega), b + 1, ⟨by omega, by omega⟩, by omega, ?_⟩
    rw [hstep]
    exact le_slots' (by simp only [go_sem, Int.natCast_add, Int.cast_ofNat_Int])
  · rw [if_neg (by omega)] at hgb
    have hmut := lowC_mut hlb
    by_cases h1 : 0 ≤ sd (eF l) a b
    · simp only [go_sem, Int.reduceEq, Int.reduceLT, Int.reduceLE, eq_self, Int.natCast_nonneg, Int.toNat_natCast, hbl3, hbl2, ints_len, hbl, hgb, hdl, hdb, h1]
      refine call_data reachR (by simp) [.int .i64 k, .sl (some 4) (edgesD l), .int .i64 (b : Int)] _ rfl ⟨k, l, b, rfl, hg, hbl2, rfl⟩ (.inl rfl) ?_
      by_cases h2 : 0 ≤ sd (eF l) b a
      · rw [if_pos (hmut.2 ⟨h1, h2⟩)] at hstep
        simp only [go_sem, Int.reduceEq, Int.reduceLT, Int.reduceLE, eq_self, Int.natCast_nonneg, Int.toNat_natCast, hbl3, hbl2, ints_len, hbl, hdl2, hda, hal, hal2, h2, ints_upd]
        refine ⟨inR_i64.2 (by omega), b + 1, ⟨by omega, by omega⟩, by omega, ?_⟩
        rw [hstep]
        exact le_slots' (by simp only [go_sem, Int.natCast_add, Int.cast_ofNat_Int])
      · rw [if_neg (fun hh => h2 (hmut.1 hh).2)] at hstep
        simp only [go_sem, Int.reduceEq, Int.reduceLT, Int.reduceLE, eq_self, Int.natCast_nonneg, Int.toNat_natCast, hbl3, hbl2, ints_len, hbl, hdl2, hda, hal, hal2, h2, ints_upd]
        refine ⟨inR_i64.2 (by omega), b + 1, ⟨by omega, by omega⟩, by omega, ?_⟩
        rw [hstep]
        exact le_slots' (by simp only [go_sem, Int.natCast_add, Int.cast_ofNat_Int])
    · rw [if_neg (fun hh => h1 (hmut.1 hh).1)] at hstep
      simp only [go_sem, Int.reduceEq, Int.reduceLT, Int.reduceLE, eq_self, Int.natCast_nonneg, Int.toNat_natCast, hbl3, hbl2, ints_len, hbl, hgb, hdl, hdb, h1]
      refine ⟨inR_i64.2 (by omega), b + 1, ⟨by omega, by omega⟩, by omega, ?_⟩
      rw [hstep]
      exact le_slots' (by simp only [go_sem, Int.natCast_add, Int.cast_ofNat_Int])
end Go.AM

