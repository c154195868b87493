/- Own work over the model of the kit. -/
import Derived.Test.YtholibdhogbobaaC9
import Derived.Test.YtholibdhogbobaaC5
import Derived.Test.YtholibdhogbobaaProg
import Derived.KernelRfl
import Derived.Test.YtholibdhogbobaaC6
import Derived.Test.YtholibdhogbobaaC7
import Derived.Test.YtholibdhogbobaaC8
import Derived.Test.YtholibdhogbobaaC4
set_option linter.constructorNameAsVariable false
set_option linter.unusedSimpArgs false
set_option linter.unusedVariables false
set_option maxRecDepth 8000
set_option maxHeartbeats 2000000
namespace Go.AM
open Go Go.Proofs

theorem distL_len {n : Nat} {l : List PEdge} {a : Nat} : (distL n l a).length = n := by simp [distL]
theorem distL_nth {n : Nat} {l : List PEdge} {a v : Nat} (h : v < n) : D.nth (intsD (distL n l a)) v = .int .i64 (sd (eF l) a v) := by
  rw [ints_nth (-1) (by rw [distL_len]; exact h)]; simp [distL, List.getD_eq_getElem?_getD, h]
noncomputable def lenV (l : List PEdge) (i : Nat) : Int := if back l i < 0 then -1 else back l i + 1
def lenR (ds : List D) (v : AV) : Prop := ∃ (n : Nat) (l : List PEdge) (i : Nat), ds = [.int .i64 n, .sl (some 4) (edgesD l), .int .i64 i] ∧ GOk n l ∧ i < l.length ∧ v = .dat (.int .i64 (lenV l i))
abbrev tabRL : List (Nat × Contract) := [(68, dataC reachR)]
theorem tabRL_ok : OkG Try.prog (tbl tabRL) := okG_cons reach_ok okG_nil
theorem pureRL : PureFns (tbl tabRL) [68] := by
  refine pure_of2 fun g C hm hg => ?_
  simp only [List.mem_cons, List.not_mem_nil, or_false, Prod.mk.injEq] at hm
  exact .inl ⟨_, hm.2⟩
theorem rlength_ok : OkF Try.prog 67 (dataC lenR) := by
  refine okF_data Try.func67 rfl (by decide) ?_
  rintro ds v ⟨n, l, i, rfl, hg, hi, rfl⟩
  have hn4 := hg.n4
  have hge := List.getElem?_eq_getElem hi
  generalize he : l[i] = e at *
  have hem := List.mem_of_getElem? hge
  obtain ⟨hs1, hs2⟩ := hg.src e hem
  obtain ⟨ht1, ht2⟩ := hg.dst e hem
  have hne : D.nth (edgesD l) i = edgeD e := by simp [D.nth, hge]
  have hi2 : (i : Int) < l.length := by omega
  have hsn : (e.s : Int) < n := by omega
  have hB : back l i = sd (eF l) e.t e.s := by unfold back; rw [sOf_get hge, tOf_get hge]
  have hB1 : back l i < n := by rw [hB]; exact hg.sdlt ht2
  have hB2 : -1 ≤ back l i := by rw [hB]; exact sd_ge
  have hnd := distL_nth (l := l) (a := e.t) hs2
  rw [← hB] at hnd
  have hdl := distL_len (n := n) (l := l) (a := e.t)
  unfold lenV
  refine sem_of_awp (Γ := tbl tabRL) tabRL_ok _ _ _ ?_
  simp only [go_sem, Int.reduceEq, Int.reduceLT, Int.reduceLE, eq_self, Int.natCast_nonneg, Int.toNat_natCast, Try.ntmps67]
  refine sem_draw (pf := [68]) (Γ := tbl tabRL) mixed tabRL_ok pureRL [0, 1, 2, 3, 4, 5, 6, 7, 8, 9, 10, 11, 12, 13, 14, 15] (by kernel_rfl) ?_
  simp only [go_sem, Int.reduceEq, Int.reduceLT, Int.reduceLE, eq_self, Int.natCast_nonneg, Int.toNat_natCast, chainI, hi, hi2, edges_len, hne, edgeD, hs1, ht1]
  refine call_data reachR (by simp) [.int .i64 n, .sl (some 4) (edgesD l), .int .i64 (e.t : Int)] _ rfl ⟨n, l, e.t, rfl, hg, ht2, rfl⟩ (.inl rfl) ?_
  by_cases hneg : back l i < 0
  · rw [if_pos hneg]
    simp only [go_sem, Int.reduceEq, Int.reduceLT, Int.reduceLE, eq_self, Int.natCast_nonneg, Int.toNat_natCast, chainI, hi, hi2, edges_len, hne, edgeD, hs1, ht1, hsn, hs2, ints_len, hdl, hnd, hneg]
    exact post_data (.inl rfl) [6] rfl trivial rfl
  · rw [if_neg hneg]
    simp only [go_sem, Int.reduceEq, Int.reduceLT, Int.reduceLE, eq_self, Int.natCast_nonneg, Int.toNat_natCast, chainI, hi, hi2, edges_len, hne, edgeD, hs1, ht1, hsn, hs2, ints_len, hdl, hnd, hneg]
    refine ⟨inR_i64.2 (by omega), ?_⟩
    exact post_data (.inl rfl) [6] rfl trivial rfl
def fstOf : Option (List Nat) → Int
  | none => -1
  | some c => (c.headD 0 : Nat)
def lenOf : Option (List Nat) → Int
  | none => -1
  | some c => c.length
def nxI : Option Nat → Int
  | none => -1
  | some i => i
def scan (p : Nat → Bool) (v : Nat) : Nat → List PEdge → Option Nat
  | _, [] => none
  | k, e :: r => if e.s = v ∧ p k = true then some k else scan p v (k + 1) r
theorem scan_find {p : Nat → Bool} {v : Nat} : ∀ {k : Nat} {l : List PEdge}, scan p v k l = (idxs PEdge.s k l v).find? p
  | _, [] => rfl
  | k, e :: r => by
    have ih := scan_find (p := p) (v := v) (k := k + 1) (l := r)
    simp only [scan, idxs]
    by_cases h : e.s = v
    · rw [if_pos h, List.find?_cons]
      cases hp : p k with
      | true => rw [if_pos ⟨h, rfl⟩]
      | false => rw [if_neg (fun hh => by cases hh.2)]; exact ih
    · rw [if_neg h, if_neg (fun hh => h hh.1)]; exact ih
abbrev tabQC : List (Nat × Contract) := [(58, dataC gchkR), (67, dataC lenR), (68, dataC reachR)]
theorem tabQC_ok : OkG Try.prog (tbl tabQC) := okG_cons rgcheck_ok (okG_cons rlength_ok (okG_cons reach_ok okG_nil))
theorem pureQC : PureFns (tbl tabQC) [68] := by
  refine pure_of2 fun g C hm hg => ?_
  simp only [List.mem_cons, List.not_mem_nil, or_false, Prod.mk.injEq] at hm
  rcases hm with ⟨_, rfl⟩ | ⟨_, rfl⟩ | ⟨_, rfl⟩ <;> exact .inl ⟨_, rfl⟩
theorem rcycle_ok : OkF Try.prog 41 (dataC cycleR) := by
  refine okF_data Try.func41 rfl (by decide) ?_
  rintro ds v ⟨n, l, rfl, hll, rfl⟩
  refine sem_of_awp (Γ := tbl tabQC) tabQC_ok _ _ _ ?_
  simp only [go_sem, Int.reduceEq, Int.reduceLT, Int.reduceLE, eq_self, Int.natCast_nonneg, Int.toNat_natCast, Try.ntmps41]
  refine call_data gchkR (by simp) [.int .i64 n, .sl (some 4) (edgesD l)] _ rfl ⟨n, l, rfl, hll, rfl⟩ (.inl rfl) ?_
  by_cases h : gE n l = 0
  case neg =>
    unfold cycleVv
    rw [if_pos h]
    simp only [go_sem, Int.reduceEq, Int.reduceLT, Int.reduceLE, eq_self, Int.natCast_nonneg, Int.toNat_natCast, h]
    refine post_res (.inl rfl) [.tmp 4, .tmp 5] rfl ?_
    simp only [go_sem]
    exact le_fin (by simp only [go_sem]) (by simp only [go_sem])
  unfold cycleVv
  rw [if_neg (by rw [h]; decide)]
  obtain ⟨n, rfl, hg⟩ := gOk_of h hll
  have hn4 := hg.n4
  generalize hV : cycV l = V
  simp only [go_sem, Int.reduceEq, Int.reduceLT, Int.reduceLE, eq_self, Int.natCast_nonneg, Int.toNat_natCast, h]
  have hF1 : fstOf none = -1 := rfl
  have hF2 : lenOf none = -1 := rfl
  have hF3 : ∀ c, lenOf (some c) = (c.length : Int) := fun _ => rfl
  refine sem_loop (fun k : Nat => ⟨slotsOf 111 [(0, .dat (.int .i64 n)), (1, .dat (.sl (some 4) (edgesD l))), (7, .dat (.int .i64 (fstOf (cycL l k)))), (8, .dat (.int .i64 (lenOf (cycL l k)))), (9, .dat (.int .i64 k))], [], 0, []⟩)
    (fun k => k ≤ l.length) (fun k => l.length - k) 0 (Nat.zero_le _) ?_ ?_
  · exact le_slots' (by simp only [go_sem, Int.natCast_zero, cycL, fstOf, lenOf])
  rintro k hk
  have hcyc := cycL_is (l := l) k
  refine sem_of_awp (Γ := tbl tabQC) tabQC_ok _ _ _ ?_
  cases hd : l.drop k with
  | cons e r =>
    have hlt := lt_of_drop hd
    have hk2 : (k : Int) < l.length := by omega
    have hB1 : back l k < n := by unfold back; rw [tOf_get (get_of_drop hd)]; exact hg.sdlt (hg.dst e (mem_of_drop hd)).2
    have hB2 : -1 ≤ back l k := sd_ge
    have hstep : cycL l (k + 1) = cycStep l (cycL l k) k := rfl
    unfold cycStep at hstep
    simp only [go_sem, Int.reduceEq, Int.reduceLT, Int.reduceLE, eq_self, Int.natCast_nonneg, Int.toNat_natCast, hk2, edges_len]
    refine call_data lenR (by simp) [.int .i64 n, .sl (some 4) (edgesD l), .int .i64 k] _ rfl ⟨n, l, k, rfl, hg, hlt, rfl⟩ (.inl rfl) ?_
    unfold lenV
    by_cases hneg : back l k < 0
    · rw [if_pos hneg] at hstep ⊢
      simp only [go_sem, Int.reduceEq, Int.reduceLT, Int.reduceLE, eq_self, Int.natCast_nonneg, Int.toNat_natCast]
      refine ⟨inR_i64.2 (by omega), k + 1, by omega, by omega, ?_⟩
      rw [hstep]
      exact le_slots' (by simp only [go_sem, Int.natCast_add, Int.cast_ofNat_Int])
    rw [if_neg hneg] at hstep ⊢
    have hpos : 0 < back l k + 1 := by omega
    have hcl := cycOf_len (l := l) (i := k) (by omega)
    cases hc : cycL l k with
    | none =>
      rw [hc] at hstep
      simp only at hstep
      simp only [go_sem, Int.reduceEq, Int.reduceLT, Int.reduceLE, eq_self, Int.natCast_nonneg, Int.toNat_natCast, hpos, hF1, hF2]
      refine ⟨inR_i64.2 (by omega), k + 1, by omega, by omega, ?_⟩
      rw [hstep, show fstOf (some (cycOf l k)) = (k : Int) from rfl, show lenOf (some (cycOf l k)) = back l k + 1 from hcl]
      exact le_slots' (by simp only [go_sem, Int.natCast_add, Int.cast_ofNat_Int])
    | some c =>
      rw [hc] at hstep
      simp only at hstep
      have hc0 : ¬ ((c.length : Nat) : Int) < 0 := by omega
      by_cases hle : (c.length : Int) ≤ back l k + 1
      · rw [if_pos hle] at hstep
        have hle2 : ¬ back l k + 1 < (c.length : Int) := by omega
        simp only [go_sem, Int.reduceEq, Int.reduceLT, Int.reduceLE, eq_self, Int.natCast_nonneg, Int.toNat_natCast, hpos, hF3, hc0, hle2]
        refine ⟨inR_i64.2 (by omega), k + 1, by omega, by omega, ?_⟩
        rw [hstep]
        try rw [hF3]
        exact le_slots' (by simp only [go_sem, Int.natCast_add, Int.cast_ofNat_Int])
      · rw [if_neg hle] at hstep
        have hle2 : back l k + 1 < (c.length : Int) := by omega
        simp only [go_sem, Int.reduceEq, Int.reduceLT, Int.reduceLE, eq_self, Int.natCast_nonneg, Int.toNat_natCast, hpos, hF3, hc0, hle2]
        refine ⟨inR_i64.2 (by omega), k + 1, by omega, by omega, ?_⟩
        rw [hstep, show fstOf (some (cycOf l k)) = (k : Int) from rfl, show lenOf (some (cycOf l k)) = back l k + 1 from hcl]
        exact le_slots' (by simp only [go_sem, Int.natCast_add, Int.cast_ofNat_Int])
  | nil =>
  have := end_of_drop hd hk
  have hk2 : ¬ (k : Int) < l.length := by omega
  rw [this] at hcyc hk2 ⊢
  clear hd hk this k
  unfold cycV at hV
  cases hc : cycL l l.length with
  | none =>
    rw [hc] at hV
    simp only [Option.getD_none] at hV
    subst hV
    simp only [go_sem, Int.reduceEq, Int.reduceLT, Int.reduceLE, eq_self, Int.natCast_nonneg, Int.toNat_natCast, hk2, edges_len, hF1, hF2]
    refine post_res (.inl rfl) [.tmp 4, .tmp 5] rfl ?_
    simp only [go_sem]
    exact le_fin (by simp only [go_sem]) (by simp only [go_sem])
  | some c =>
  rw [hc] at hV hcyc
  simp only [Option.getD_some] at hV hcyc
  obtain ⟨i, hi, hb0, rfl, _⟩ := hcyc
  have hcl := cycOf_len hb0
  have hge := List.getElem?_eq_getElem hi
  generalize he : l[i] = e at *
  have hem := List.mem_of_getElem? hge
  obtain ⟨hs1, hs2⟩ := hg.src e hem
  obtain ⟨ht1, ht2⟩ := hg.dst e hem
  have hne : D.nth (edgesD l) i = edgeD e := by simp [D.nth, hge]
  have hi2 : (i : Int) < l.length := by omega
  have hi0 : ¬ (i : Int) < 0 := by omega
  have hB : back l i = sd (eF l) e.t e.s := by unfold back; rw [sOf_get hge, tOf_get hge]
  have hB1 : back l i < n := by rw [hB]; exact hg.sdlt ht2
  have hf : fstOf (some (cycOf l i)) = (i : Int) := rfl
  have hlo : lenOf (some (cycOf l i)) = back l i + 1 := hcl
  have hsub : back l i + 1 - 1 = back l i := by omega
  rw [hf, hlo]
  simp only [go_sem, Int.reduceEq, Int.reduceLT, Int.reduceLE, eq_self, Int.natCast_nonneg, Int.toNat_natCast, hk2, edges_len, hi0, hi, hi2, hne, edgeD, ht1, hsub]
  refine ⟨inR_i64.2 (by omega), ?_⟩
  refine sem_loop (fun p : Nat × List Nat => ⟨slotsOf 111 [(0, .dat (.int .i64 n)), (1, .dat (.sl (some 4) (edgesD l))), (7, .dat (.int .i64 i)), (11, .sl 0 0 p.2.length), (12, .dat (.int .i64 p.1)), (13, .dat (.int .i64 (sd (eF l) p.1 e.s)))], [.row none (natsD p.2)], 0, []⟩)
    (fun p => p.1 < n ∧ 0 ≤ sd (eF l) p.1 e.s ∧ p.2 ++ pathL l e.s (sd (eF l) p.1 e.s).toNat p.1 = V) (fun p => (sd (eF l) p.1 e.s).toNat) (e.t, [i]) ⟨ht2, by rw [← hB]; exact hb0, ?_⟩ ?_ ?_
  · rw [← hV]; unfold cycOf; rw [hB, sOf_get hge, tOf_get hge]; rfl
  · simp only [← hB]
    exact le_slots' (by simp only [go_sem])
  rintro ⟨v, acc⟩ ⟨hv, hv0, hacc⟩
  simp only at hv hv0 hacc
  have hal : acc.length ≤ V.length := by rw [← hacc]; simp
  have hVl : V.length ≤ 5000 := by rw [← hV]; omega
  have hsb := hg.sdlt (to := e.s) hv
  refine sem_of_awp (Γ := tbl tabQC) tabQC_ok _ _ _ ?_
  by_cases hpos : 0 < sd (eF l) v e.s
  case neg =>
    have h0 : sd (eF l) v e.s = 0 := by omega
    rw [h0] at hacc
    have hacc2 : acc = V := by rw [← hacc]; simp [pathL]
    subst hacc2
    simp only [go_sem, Int.reduceEq, Int.reduceLT, Int.reduceLE, eq_self, Int.natCast_nonneg, Int.toNat_natCast, hpos]
    refine post_res (.inl rfl) [.tmp 4, .tmp 5] rfl ?_
    simp only [go_sem]
    refine Le.trans (le_freeze 0 (ag := none) rfl (Nat.zero_le _)) ?_
    simp only [go_sem, nats_take, nats_len, Nat.le_refl]
    exact le_fin (by simp only [go_sem]) (by simp only [go_sem])
  obtain ⟨m, hm⟩ := nxt_some hpos
  obtain ⟨m1, m2, m3⟩ := nxt_is hm
  have hscan : scan (near l e.s v) v 0 l = some m := by rw [scan_find]; exact hm
  simp only [go_sem, Int.reduceEq, Int.reduceLT, Int.reduceLE, eq_self, Int.natCast_nonneg, Int.toNat_natCast, hpos]
  refine sem_loop (fun p : Nat × Option Nat => ⟨slotsOf 111 [(0, .dat (.int .i64 n)), (1, .dat (.sl (some 4) (edgesD l))), (7, .dat (.int .i64 i)), (11, .sl 0 0 acc.length), (12, .dat (.int .i64 v)), (13, .dat (.int .i64 (sd (eF l) v e.s))), (14, .dat (.int .i64 (nxI p.2))), (15, .dat (.int .i64 p.1))], [.row none (natsD acc)], 0, []⟩)
    (fun p => p.1 ≤ l.length ∧ ((p.2 = none ∧ scan (near l e.s v) v p.1 (l.drop p.1) = some m) ∨ p.2 = some m)) (fun p => l.length - p.1) (0, none) ⟨Nat.zero_le _, .inl ⟨rfl, hscan⟩⟩ ?_ ?_
  · exact le_slots' (by simp only [go_sem, Int.natCast_zero, nxI])
  rintro ⟨k, nx⟩ ⟨hk, hor⟩
  simp only at hk hor
  refine sem_of_awp (Γ := tbl tabQC) tabQC_ok _ _ _ ?_
  rcases hor with ⟨rfl, hsc⟩ | rfl
  · cases hd : l.drop k with
    | nil => rw [hd] at hsc; cases hsc
    | cons x r =>
      have hlt := lt_of_drop hd
      have hk2 : (k : Int) < l.length := by omega
      have hk0 : (0 : Int) ≤ k := Int.natCast_nonneg k
      have hn := nth_of_drop (f := edgeD) hd
      have hxm := mem_of_drop hd
      obtain ⟨xs1, xs2⟩ := hg.src x hxm
      obtain ⟨xt1, xt2⟩ := hg.dst x hxm
      have hnear : near l e.s v k = decide (sd (eF l) x.t e.s = sd (eF l) v e.s - 1) := by unfold near; rw [tOf_get (get_of_drop hd)]
      rw [hd, scan] at hsc
      have hsn : (e.s : Int) < n := by omega
      have hdl := distL_len (n := n) (l := l) (a := x.t)
      have hnd := distL_nth (l := l) (a := x.t) hs2
      by_cases hxv : x.s = v
      · have hxv2 : (x.s : Int) = v := by omega
        simp only [go_sem, Int.reduceEq, Int.reduceLT, Int.reduceLE, eq_self, Int.natCast_nonneg, Int.toNat_natCast, hk2, edges_len, nxI, hk0, hn, hlt, edgeD, xs1, hxv2]
        refine sem_draw (pf := [68]) (Γ := tbl tabQC) mixed tabQC_ok pureQC [0, 1, 2, 3, 4, 5, 6, 7, 8, 9, 10, 11, 12, 13, 14, 15, 16, 17, 18, 19, 20, 21, 22, 23, 24, 25, 26] (by kernel_rfl) ?_
        simp only [go_sem, Int.reduceEq, Int.reduceLT, Int.reduceLE, eq_self, Int.natCast_nonneg, Int.toNat_natCast, chainI, hk2, edges_len, nxI, hk0, hn, hlt, edgeD, xs1, hxv2, xt1]
        refine call_data reachR (by simp) [.int .i64 n, .sl (some 4) (edgesD l), .int .i64 (x.t : Int)] _ rfl ⟨n, l, x.t, rfl, hg, xt2, rfl⟩ (.inl rfl) ?_
        cases hp : near l e.s v k with
        | true =>
          rw [if_pos ⟨hxv, hp⟩] at hsc
          cases hsc
          rw [hp] at hnear
          simp only [go_sem, Int.reduceEq, Int.reduceLT, Int.reduceLE, eq_self, Int.natCast_nonneg, Int.toNat_natCast, chainI, hi, hi2, edges_len, hne, edgeD, hs1, hsn, hs2, ints_len, hdl, hnd, ← hnear]
          refine ⟨inR_i64.2 (by omega), inR_i64.2 (by omega), (m + 1, some m), ⟨by simp only; omega, .inr rfl⟩, by simp only; omega, ?_⟩
          exact le_slots' (by simp only [go_sem, Int.natCast_add, Int.cast_ofNat_Int, nxI])
        | false =>
          rw [if_neg (fun hh => by rw [hp] at hh; cases hh.2)] at hsc
          rw [hp] at hnear
          simp only [go_sem, Int.reduceEq, Int.reduceLT, Int.reduceLE, eq_self, Int.natCast_nonneg, Int.toNat_natCast, chainI, hi, hi2, edges_len, hne, edgeD, hs1, hsn, hs2, ints_len, hdl, hnd, ← hnear]
          refine ⟨inR_i64.2 (by omega), inR_i64.2 (by omega), (k + 1, none), ⟨by simp only; omega, .inl ⟨rfl, by rw [drop_cons hd]; exact hsc⟩⟩, by simp only; omega, ?_⟩
          exact le_slots' (by simp only [go_sem, Int.natCast_add, Int.cast_ofNat_Int, nxI])
      · have hxv2 : ¬ (x.s : Int) = v := by omega
        rw [if_neg (fun hh => hxv hh.1)] at hsc
        simp only [go_sem, Int.reduceEq, Int.reduceLT, Int.reduceLE, eq_self, Int.natCast_nonneg, Int.toNat_natCast, hk2, edges_len, nxI]
        refine sem_draw (pf := [68]) (Γ := tbl tabQC) mixed tabQC_ok pureQC [0, 1, 2, 3, 4, 5, 6, 7, 8, 9, 10, 11, 12, 13, 14, 15, 16, 17, 18, 19, 20, 21, 22, 23, 24, 25, 26] (by kernel_rfl) ?_
        simp only [go_sem, Int.reduceEq, Int.reduceLT, Int.reduceLE, eq_self, Int.natCast_nonneg, Int.toNat_natCast, chainI, hk2, edges_len, nxI, hk0, hn, hlt, edgeD, xs1, hxv2]
        refine ⟨inR_i64.2 (by omega), (k + 1, none), ⟨by simp only; omega, .inl ⟨rfl, by rw [drop_cons hd]; exact hsc⟩⟩, by simp only; omega, ?_⟩
        exact le_slots' (by simp only [go_sem, Int.natCast_add, Int.cast_ofNat_Int, nxI])
  · have hm0 : ¬ (m : Int) < 0 := by omega
    have hge2 := List.getElem?_eq_getElem m1
    have hmt := tOf_get hge2
    have hnm : D.nth (edgesD l) m = edgeD l[m] := by simp [D.nth, hge2]
    have hm2 : (m : Int) < l.length := by omega
    obtain ⟨t1, t2⟩ := hg.dst l[m] (List.getElem_mem m1)
    rw [hmt] at m3
    have hdone : ∃ x : Nat × List Nat, (x.1 < n ∧ 0 ≤ sd (eF l) x.1 e.s ∧ x.2 ++ pathL l e.s (sd (eF l) x.1 e.s).toNat x.1 = V) ∧ (sd (eF l) x.1 e.s).toNat < (sd (eF l) v e.s).toNat ∧ x = (l[m].t, acc ++ [m]) := by
      refine ⟨(l[m].t, acc ++ [m]), ⟨t2, by simp only; omega, ?_⟩, by simp only; omega, rfl⟩
      rw [← hacc]
      obtain ⟨q, hq⟩ : ∃ q : Nat, (sd (eF l) v e.s).toNat = q + 1 := ⟨(sd (eF l) v e.s).toNat - 1, by omega⟩
      have hq2 : (sd (eF l) l[m].t e.s).toNat = q := by omega
      rw [hq, pathL_cons hm, hmt]
      simp only [hq2, List.append_assoc, List.cons_append, List.nil_append]
    obtain ⟨x, x1, x2, rfl⟩ := hdone
    by_cases hkl : k < l.length
    · have hk2 : (k : Int) < l.length := by omega
      simp only [go_sem, Int.reduceEq, Int.reduceLT, Int.reduceLE, eq_self, Int.natCast_nonneg, Int.toNat_natCast, hk2, edges_len, nxI, hm0, nats_take, nats_len, nats_snoc, m1, hm2, hnm, edgeD, t1]
      refine ⟨by omega, by omega, inR_i64.2 (by omega), _, x1, x2, ?_⟩
      simp only [m3]
      refine le_end (own := [_]) (ex := [_]) (Nat.zero_le _) ?_ ?_ ?_
      · simp only [go_sem, List.length_append, List.length_cons, List.length_nil, Nat.zero_add]
      · simp only [go_sem]
      · simp only [go_sem, Obj.under, AV.unders, AV.under]
    · have hk2 : ¬ (k : Int) < l.length := by omega
      simp only [go_sem, Int.reduceEq, Int.reduceLT, Int.reduceLE, eq_self, Int.natCast_nonneg, Int.toNat_natCast, hk2, edges_len, nxI, hm0, nats_take, nats_len, nats_snoc, m1, hm2, hnm, edgeD, t1]
      refine ⟨by omega, by omega, inR_i64.2 (by omega), _, x1, x2, ?_⟩
      simp only [m3]
      refine le_end (own := [_]) (ex := [_]) (Nat.zero_le _) ?_ ?_ ?_
      · simp only [go_sem, List.length_append, List.length_cons, List.length_nil, Nat.zero_add]
      · simp only [go_sem]
      · simp only [go_sem, Obj.under, AV.unders, AV.under]
end Go.AM

namespace Go.AM
open Go Go.Proofs

def Via (E : List (Nat × Nat)) : Nat → Nat → Nat → Prop
  | 0, i, j => (i, j) ∈ E
  | k + 1, i, j => Via E k i j ∨ (Via E k i k ∧ Via E k k j)
theorem Via_trans {E : List (Nat × Nat)} : ∀ {k i m j : Nat}, m < k → Via E k i m → Via E k m j → Via E k i j
  | 0, _, _, _, h, _, _ => by omega
  | k + 1, i, m, j, h, h1, h2 => by
    by_cases e : m = k
    · subst e
      have g1 : Via E m i m := by rcases h1 with h1 | ⟨h1, _⟩ <;> exact h1
      have g2 : Via E m m j := by rcases h2 with h2 | ⟨_, h2⟩ <;> exact h2
      exact .inr ⟨g1, g2⟩
    · have hm : m < k := by omega
      rcases h1 with h1 | ⟨h1, h1'⟩ <;> rcases h2 with h2 | ⟨h2, h2'⟩
      · exact .inl (Via_trans hm h1 h2)
      · exact .inr ⟨Via_trans hm h1 h2, h2'⟩
      · exact .inr ⟨h1, Via_trans hm h1' h2⟩
      · exact .inr ⟨h1, h2'⟩
theorem Via_mono {E : List (Nat × Nat)} {i j : Nat} : ∀ {n : Nat}, (i, j) ∈ E → Via E n i j
  | 0, h => h
  | n + 1, h => .inl (Via_mono h)
theorem Via_of {E : List (Nat × Nat)} {n : Nat} (hE : ∀ p ∈ E, p.2 < n) : ∀ {k i j : Nat}, Wk E (k + 1) i j → Via E n i j
  | 0, i, j, ⟨u, hu, hw⟩ => by cases hw; exact Via_mono hu
  | k + 1, i, j, ⟨u, hu, hw⟩ => by
    have hun : u < n := by obtain ⟨x, hx, _⟩ := hw; exact hE _ hx
    exact Via_trans hun (Via_of hE hw) (Via_mono hu)
def Rch (E : List (Nat × Nat)) (i j : Nat) : Prop := ∃ k, Wk E (k + 1) i j
theorem Rch_trans {E : List (Nat × Nat)} {i m j : Nat} (h1 : Rch E i m) (h2 : Rch E m j) : Rch E i j := by
  obtain ⟨a, ha⟩ := h1
  obtain ⟨b, hb⟩ := h2
  exact ⟨a + 1 + b, by have := Wk_app ha hb; rwa [show a + 1 + (b + 1) = a + 1 + b + 1 by omega] at this⟩

def get2 (B : List (List Bool)) (i j : Nat) : Bool := (B.getD i []).getD j false
def set2 (B : List (List Bool)) (i j : Nat) (v : Bool) : List (List Bool) := B.set i ((B.getD i []).set j v)
structure Sq (n : Nat) (B : List (List Bool)) : Prop where
  len : B.length = n
  row : ∀ i, i < n → (B.getD i []).length = n
theorem get2_set2 {n : Nat} {B : List (List Bool)} (h : Sq n B) {i j a b : Nat} {v : Bool} (hi : i < n) (hj : j < n) : get2 (set2 B i j v) a b = if i = a ∧ j = b then v else get2 B a b := by
  unfold get2 set2
  rw [getD_set']
  by_cases e : i = a
  · subst e
    rw [if_pos ⟨rfl, by rw [h.len]; exact hi⟩, getD_set']
    by_cases e2 : j = b
    · subst e2; rw [if_pos ⟨rfl, by rw [h.row i hi]; exact hj⟩, if_pos ⟨rfl, rfl⟩]
    · rw [if_neg (fun hh => e2 hh.1), if_neg (fun hh => e2 hh.2)]
  · rw [if_neg (fun hh => e hh.1), if_neg (fun hh => e hh.1)]
theorem Sq.set {n : Nat} {B : List (List Bool)} (h : Sq n B) {i j : Nat} {v : Bool} (hi : i < n) : Sq n (set2 B i j v) where
  len := by simp [set2, h.len]
  row a ha := by
    unfold set2
    rw [getD_set']
    split
    · rw [List.length_set]; exact h.row i hi
    · exact h.row a ha
theorem Sq.rep {n : Nat} : Sq n (List.replicate n (List.replicate n false)) where
  len := by simp
  row i hi := by simp [List.getD_eq_getElem?_getD, List.getElem?_replicate, hi]
theorem get2_rep {n i j : Nat} : get2 (List.replicate n (List.replicate n false)) i j = false := by
  unfold get2
  by_cases hi : i < n
  · by_cases hj : j < n <;> simp [List.getD_eq_getElem?_getD, List.getElem?_replicate, hi, hj]
  · simp [List.getD_eq_getElem?_getD, List.getElem?_replicate, hi]
theorem Sq.ext {n : Nat} {B C : List (List Bool)} (hB : Sq n B) (hC : Sq n C) (h : ∀ i j, i < n → j < n → get2 B i j = get2 C i j) : B = C := by
  refine List.ext_getElem (by rw [hB.len, hC.len]) fun i h1 h2 => ?_
  have hi : i < n := by rw [← hB.len]; exact h1
  have e1 : B.getD i [] = B[i] := by simp [List.getD_eq_getElem?_getD, List.getElem?_eq_getElem h1]
  have e2 : C.getD i [] = C[i] := by simp [List.getD_eq_getElem?_getD, List.getElem?_eq_getElem h2]
  have r1 := hB.row i hi
  have r2 := hC.row i hi
  rw [e1] at r1; rw [e2] at r2
  refine List.ext_getElem (by rw [r1, r2]) fun j g1 g2 => ?_
  have := h i j hi (by omega)
  unfold get2 at this
  rw [e1, e2] at this
  simpa [List.getD_eq_getElem?_getD, List.getElem?_eq_getElem g1, List.getElem?_eq_getElem g2] using this
open Classical in
noncomputable def reachB (n : Nat) (l : List PEdge) : List (List Bool) := (List.range n).map fun i => (List.range n).map fun j => decide (Rch (eF l) i j)
theorem reachB_sq {n : Nat} {l : List PEdge} : Sq n (reachB n l) where
  len := by simp [reachB]
  row i hi := by simp [reachB, List.getD_eq_getElem?_getD, hi]
theorem reachB_get {n : Nat} {l : List PEdge} {i j : Nat} (hi : i < n) (hj : j < n) : get2 (reachB n l) i j = true ↔ Rch (eF l) i j := by
  simp [get2, reachB, List.getD_eq_getElem?_getD, hi, hj]

structure FW (n : Nat) (l : List PEdge) (B : List (List Bool)) (k i j : Nat) : Prop where
  sq : Sq n B
  sound : ∀ a b, get2 B a b = true → Rch (eF l) a b
  comp : ∀ a b, a < n → b < n → Via (eF l) k a b → get2 B a b = true
  done : ∀ a b, a < n → b < n → (a < i ∨ (a = i ∧ b < j)) → Via (eF l) (k + 1) a b → get2 B a b = true
theorem FW.set {n : Nat} {l : List PEdge} {B : List (List Bool)} {k i j : Nat} (h : FW n l B k i j) (hk : k < n) (hi : i < n) (hj : j < n) :
    FW n l (set2 B i j (get2 B i j || (get2 B i k && get2 B k j))) k i (j + 1) := by
  have up : ∀ a b, get2 B a b = true → get2 (set2 B i j (get2 B i j || (get2 B i k && get2 B k j))) a b = true := fun a b hab => by
    rw [get2_set2 h.sq hi hj]
    split
    · rename_i e; rw [e.1, e.2, hab]; rfl
    · exact hab
  refine ⟨h.sq.set hi, fun a b hab => ?_, fun a b ha hb hv => up a b (h.comp a b ha hb hv), fun a b ha hb ho hv => ?_⟩
  · rw [get2_set2 h.sq hi hj] at hab
    split at hab
    · rename_i e
      rw [← e.1, ← e.2]
      simp only [Bool.or_eq_true, Bool.and_eq_true] at hab
      rcases hab with hab | ⟨h1, h2⟩
      · exact h.sound _ _ hab
      · exact Rch_trans (h.sound _ _ h1) (h.sound _ _ h2)
    · exact h.sound a b hab
  · by_cases e : i = a ∧ j = b
    · rw [get2_set2 h.sq hi hj, if_pos e]
      simp only [Bool.or_eq_true, Bool.and_eq_true]
      rw [e.1, e.2]
      rcases hv with hv | ⟨h1, h2⟩
      · exact .inl (h.comp a b ha hb hv)
      · exact .inr ⟨h.comp a k ha hk h1, h.comp k b hk hb h2⟩
    · exact up a b (h.done a b ha hb (by omega) hv)
theorem FW.row {n : Nat} {l : List PEdge} {B : List (List Bool)} {k i : Nat} (h : FW n l B k i n) : FW n l B k (i + 1) 0 :=
  ⟨h.sq, h.sound, h.comp, fun a b ha hb ho hv => h.done a b ha hb (by omega) hv⟩
theorem FW.all {n : Nat} {l : List PEdge} {B : List (List Bool)} (hg : GOk n l) (h : FW n l B n 0 0) : B = reachB n l := by
  refine h.sq.ext reachB_sq fun i j hi hj => ?_
  rw [Bool.eq_iff_iff, reachB_get hi hj]
  exact ⟨h.sound i j, fun ⟨k, hk⟩ => h.comp i j hi hj (Via_of hg.eFlt hk)⟩
structure FW0 (n : Nat) (l : List PEdge) (P : List PEdge) (B : List (List Bool)) : Prop where
  sq : Sq n B
  sound : ∀ a b, get2 B a b = true → (a, b) ∈ eF l
  comp : ∀ e ∈ P, get2 B e.s e.t = true
theorem FW0.init {n : Nat} {l : List PEdge} : FW0 n l [] (List.replicate n (List.replicate n false)) :=
  ⟨Sq.rep, fun a b h => (by rw [get2_rep] at h; cases h), fun e he => (by cases he)⟩
theorem FW0.step {n : Nat} {l P : List PEdge} {B : List (List Bool)} {e : PEdge} (h : FW0 n l P B) (hg : GOk n l) (he : e ∈ l) : FW0 n l (P ++ [e]) (set2 B e.s e.t true) := by
  have hs := (hg.src e he).2
  have ht := (hg.dst e he).2
  refine ⟨h.sq.set hs, fun a b hab => ?_, fun x hx => ?_⟩
  · rw [get2_set2 h.sq hs ht] at hab
    split at hab
    · rename_i e'; exact List.mem_map.2 ⟨e, he, by rw [e'.1, e'.2]⟩
    · exact h.sound a b hab
  · rw [get2_set2 h.sq hs ht]
    split
    · rfl
    · rcases List.mem_append.1 hx with hx | hx
      · exact h.comp x hx
      · simp at hx; subst hx
        rename_i e'; exact absurd ⟨rfl, rfl⟩ e'
end Go.AM

namespace Go.AM
open Go Go.Proofs

def Chain (l : List PEdge) : Nat → Nat → List Nat → Prop
  | v, w, [] => v = w
  | v, w, i :: r => i < l.length ∧ sOf l i = v ∧ Chain l (tOf l i) w r
theorem Chain_path {l : List PEdge} {to : Nat} : ∀ {k v : Nat}, sd (eF l) v to = k → Chain l v to (pathL l to k v)
  | 0, v, h => sd_zero h
  | k + 1, v, h => by
    obtain ⟨i, hi⟩ := nxt_some (l := l) (to := to) (v := v) (by omega)
    obtain ⟨h1, h2, h3⟩ := nxt_is hi
    rw [pathL_cons hi]
    exact ⟨h1, h2, Chain_path (by omega)⟩
theorem Chain_at {l : List PEdge} : ∀ {v w : Nat} {L : List Nat} {j i : Nat}, Chain l v w L → L[j]? = some i → i < l.length ∧ (L.length = j + 1 → tOf l i = w) ∧ (∀ m, L[j + 1]? = some m → tOf l i = sOf l m)
  | v, w, [], j, i, _, h => by simp at h
  | v, w, x :: r, 0, i, ⟨h1, h2, h3⟩, h => by
    simp at h; subst h
    refine ⟨h1, fun hl => ?_, fun m hm => ?_⟩
    · have : r = [] := List.eq_nil_of_length_eq_zero (by simpa using hl)
      subst this; exact h3
    · cases r with
      | nil => simp at hm
      | cons y r => simp at hm; subst hm; exact h3.2.1.symm
  | v, w, x :: r, j + 1, i, ⟨h1, h2, h3⟩, h => by
    obtain ⟨g1, g2, g3⟩ := Chain_at (j := j) h3 (by simpa using h)
    exact ⟨g1, fun hl => g2 (by simpa using hl), fun m hm => g3 m (by simpa using hm)⟩
structure CycOk (l : List PEdge) (c : List Nat) : Prop where
  at_ : ∀ (j i : Nat), c[j]? = some i → i < l.length
  next : ∀ (j i m : Nat), c[j]? = some i → c[(j + 1) % c.length]? = some m → tOf l i = sOf l m
  min : ∀ (r i : Nat), 0 < c.length → r + 1 < c.length → ¬ Wk (eF l) (r + 1) i i
  none : c.length = 0 ↔ acyc (eF l)
theorem cycV_ok (l : List PEdge) : CycOk l (cycV l) := by
  have hc := cycL_is (l := l) l.length
  have hA := acyc_cyc (l := l)
  cases h : cycL l l.length with
  | none =>
    have e : cycV l = [] := by unfold cycV; rw [h]; rfl
    rw [e]
    exact ⟨fun j i hj => by simp at hj, fun j i m hj => by simp at hj, fun r i h0 => by simp at h0, by simp; exact hA.2 h⟩
  | some c =>
    have e : cycV l = c := by unfold cycV; rw [h]; rfl
    rw [h] at hc
    rw [e]
    obtain ⟨i, h1, h2, h3, h4⟩ := hc
    have hlen := cycOf_len h2
    have hch : Chain l (sOf l i) (sOf l i) (cycOf l i) := ⟨h1, rfl, Chain_path (by unfold back at h2 ⊢; omega)⟩
    subst h3
    refine ⟨fun j m hj => (Chain_at hch hj).1, fun j a m hj hm => ?_, fun r v h0 hr hw => ?_, ⟨fun h0 => by omega, fun hac => by rw [hA.1 hac] at h; cases h⟩⟩
    · obtain ⟨_, g2, g3⟩ := Chain_at hch hj
      have hjl := (List.getElem?_eq_some_iff.1 hj).1
      by_cases hlast : j + 1 = (cycOf l i).length
      · rw [hlast, Nat.mod_self] at hm
        rw [g2 hlast.symm]
        have : (cycOf l i)[0]? = some i := rfl
        rw [this] at hm; cases hm; rfl
      · rw [Nat.mod_eq_of_lt (by omega)] at hm
        exact g3 m hm
    · obtain ⟨b, hb, hw⟩ := Wk_first hw
      obtain ⟨m, m1, m2, m3⟩ := eF_ex hb
      have hbk : 0 ≤ back l m ∧ back l m ≤ r := by unfold back; rw [m2, m3]; exact sd_le hw
      rcases h4 m m1 with g | g <;> omega
noncomputable def diag (n : Nat) (l : List PEdge) (k : Nat) : Bool := (List.range k).any fun i => get2 (reachB n l) i i
open Classical in
noncomputable def rowW (n : Nat) (l : List PEdge) (r i : Nat) : List Bool := (List.range n).map fun j => decide (Wk (eF l) r i j)
noncomputable def walkB (n : Nat) (l : List PEdge) (r : Nat) : List (List Bool) := (List.range n).map (rowW n l r)
open Classical in
noncomputable def rowP (n : Nat) (l : List PEdge) (r i k : Nat) : List Bool := (List.range n).map fun j => decide (∃ e ∈ l.take k, e.t = j ∧ Wk (eF l) r i e.s)
end Go.AM

set_option maxRecDepth 8000
set_option maxHeartbeats 2000000
namespace Go.AM
open Go Go.Proofs

def sameR (ds : List D) (v : AV) : Prop := ∃ (L : List Nat), ds = [.sl none (natsD L), .sl none (natsD L)] ∧ L.length ≤ 10000 ∧ v = .dat (.bool true)
theorem same_ok : OkF Try.prog 30 (dataC sameR) := by
  refine okF_data Try.func30 rfl (by decide) ?_
  rintro ds v ⟨L, rfl, hL, rfl⟩
  refine sem_of_awp (Γ := tbl []) okG_nil _ _ _ ?_
  simp only [go_sem, Int.reduceEq, Int.reduceLT, Int.reduceLE, eq_self, Int.natCast_nonneg, Int.toNat_natCast, Try.ntmps30, nats_len]
  refine sem_loop (fun k : Nat => ⟨slotsOf 26 [(0, .dat (.sl none (natsD L))), (1, .dat (.sl none (natsD L))), (5, .dat (.int .i64 k))], [], 0, []⟩)
    (fun k => k ≤ L.length) (fun k => L.length - k) 0 (Nat.zero_le _) ?_ ?_
  · exact le_slots' (by simp only [go_sem, Int.natCast_zero])
  rintro k hk
  refine sem_of_awp (Γ := tbl []) okG_nil _ _ _ ?_
  cases hd : L.drop k with
  | nil =>
    have := end_of_drop hd hk
    have hk2 : ¬ (k : Int) < L.length := by omega
    simp only [go_sem, Int.reduceEq, Int.reduceLT, Int.reduceLE, eq_self, Int.natCast_nonneg, Int.toNat_natCast, hk2, nats_len]
    exact post_data (.inl rfl) [4] rfl trivial rfl
  | cons x r =>
    have hlt := lt_of_drop hd
    have hk2 : (k : Int) < L.length := by omega
    have hk0 : (0 : Int) ≤ k := Int.natCast_nonneg k
    have hn := nth_of_drop (f := natD) hd
    simp only [go_sem, Int.reduceEq, Int.reduceLT, Int.reduceLE, eq_self, Int.natCast_nonneg, Int.toNat_natCast, hk2, nats_len]
    refine sem_draw (pf := []) (Γ := tbl []) mixed okG_nil pureNo [0, 1, 2, 3, 4, 5, 6, 7, 8] (by kernel_rfl) ?_
    simp only [go_sem, Int.reduceEq, Int.reduceLT, Int.reduceLE, eq_self, Int.natCast_nonneg, Int.toNat_natCast, chainI, hk2, hlt, hk0, hn, nats_len]
    refine ⟨inR_i64.2 (by omega), k + 1, by omega, by omega, ?_⟩
    exact le_slots' (by simp only [go_sem, Int.natCast_add, Int.cast_ofNat_Int])
end Go.AM

set_option maxRecDepth 8000
set_option maxHeartbeats 2000000
namespace Go.AM
open Go Go.Proofs

noncomputable def expL (s : PSys) : List PEdge := (cycV (sysE s)).map fun i => (sysE s).getD i default
noncomputable def expV (s : PSys) : AV := if checkE s ≠ 0 then .tup [.dat (.sl none []), .dat (.int .i64 (checkE s))] else .tup [.dat (.sl (some 4) (edgesD (expL s))), .dat (.int .i64 0)]
def expR (ds : List D) (v : AV) : Prop := ∃ s : PSys, ds = [sysD s] ∧ s.fit ∧ v = expV s
theorem cyc_bound {n : Nat} {l : List PEdge} (hg : GOk n l) : (cycV l).length ≤ 10000 ∧ ∀ m ∈ cycV l, m < l.length := by
  have hn4 := hg.n4
  refine ⟨?_, fun m hm => ?_⟩
  · have hc := cycL_is (l := l) l.length
    unfold cycV
    cases h : cycL l l.length with
    | none => simp
    | some c =>
      rw [h] at hc
      obtain ⟨i, h1, h2, h3, _⟩ := hc
      have := cycOf_len h2
      rw [← h3] at this
      have hb : back l i < n := by unfold back; rw [tOf_get (List.getElem?_eq_getElem h1)]; exact hg.sdlt (hg.dst _ (List.getElem_mem h1)).2
      simp only [Option.getD_some]; omega
  · obtain ⟨j, hj⟩ := List.getElem?_of_mem hm
    exact (cycV_ok l).at_ _ _ hj
theorem cycleVv_ok {s : PSys} (h : checkE s = 0) : cycleVv (nRes s : Nat) (sysE s) = .tup [.dat (.sl none (natsD (cycV (sysE s)))), .dat (.int .i64 0)] := by
  unfold cycleVv; rw [if_neg (by rw [gE_ok (sysE_ok h)]; decide)]
abbrev tabEX : List (Nat × Contract) := [(24, dataC edgesR), (26, dataC resR), (40, dataC cycleR)]
theorem tabEX_ok : OkG Try.prog (tbl tabEX) := okG_cons edges_ok (okG_cons resources_ok (okG_cons cycle_ok okG_nil))
theorem explain_ok : OkF Try.prog 16 (dataC expR) := by
  refine okF_data Try.func16 rfl (by decide) ?_
  rintro ds v ⟨s, rfl, hf, rfl⟩
  refine sem_of_awpK [6] (Γ := tbl tabEX) tabEX_ok _ _ _ ?_
  simp only [go_sem, Int.reduceEq, Int.reduceLT, Int.reduceLE, eq_self, Int.natCast_nonneg, Int.toNat_natCast, Try.ntmps16, sysD]
  refine call_data edgesR (by simp) [sysD s] _ rfl ⟨s, rfl, hf, rfl⟩ (.inl rfl) ?_
  unfold expV
  by_cases h : checkE s = 0
  case neg =>
    rw [edgesV_err h, if_pos h]
    simp only [go_sem, Int.reduceEq, Int.reduceLT, Int.reduceLE, eq_self, Int.natCast_nonneg, Int.toNat_natCast, h]
    refine post_res (.inl rfl) [.tmp 2, .tmp 3] rfl ?_
    simp only [go_sem]
    exact le_fin (by simp only [go_sem]) (by simp only [go_sem])
  rw [edgesV_ok h, if_neg (by rw [h]; decide)]
  have hgk := sysE_ok h
  have hgl := hgk.len
  obtain ⟨hcl, hcm⟩ := cyc_bound hgk
  simp only [go_sem, Int.reduceEq, Int.reduceLT, Int.reduceLE, eq_self, Int.natCast_nonneg, Int.toNat_natCast, h]
  refine call_data resR (by simp) [sysD s] _ rfl ⟨s, rfl, hf, rfl⟩ (.inl rfl) ?_
  rw [resN_ok h]
  simp only [go_sem, Int.reduceEq, Int.reduceLT, Int.reduceLE, eq_self, Int.natCast_nonneg, Int.toNat_natCast]
  refine call_data cycleR (by simp) [.int .i64 (nRes s : Nat), .sl (some 4) (edgesD (sysE s))] _ rfl ⟨_, _, rfl, by omega, rfl⟩ (.inl rfl) ?_
  rw [cycleVv_ok h]
  unfold expL
  generalize cycV (sysE s) = C at *
  generalize sysE s = E at *
  simp only [go_sem, Int.reduceEq, Int.reduceLT, Int.reduceLE, eq_self, Int.natCast_nonneg, Int.toNat_natCast]
  refine sem_le (le_addnil 8 (some 4) rfl (Nat.zero_le _)) ?_
  refine sem_of_awp (Γ := tbl tabEX) tabEX_ok _ _ _ ?_
  simp only [go_sem, Int.reduceEq, Int.reduceLT, Int.reduceLE, eq_self, Int.natCast_nonneg, Int.toNat_natCast, nats_len]
  refine sem_loop (fun k : Nat => ⟨slotsOf 41 [(4, .dat (.sl (some 4) (edgesD E))), (8, .sl 1 0 k), (26, .dat (.sl none (natsD C))), (27, .dat (.int .i64 C.length)), (28, .dat (.int .i64 k))], [sysO s, .row (some 4) (edgesD ((C.take k).map fun i => E.getD i default))], 0, []⟩)
    (fun k => k ≤ C.length) (fun k => C.length - k) 0 (Nat.zero_le _) ?_ ?_
  · exact le_slots' (by simp only [go_sem, Int.natCast_zero])
  rintro k hk
  refine sem_of_awp (Γ := tbl tabEX) tabEX_ok _ _ _ ?_
  have hlen : ((C.take k).map fun i => E.getD i default).length = k := by rw [List.length_map, List.length_take]; omega
  cases hd : C.drop k with
  | nil =>
    obtain rfl : k = C.length := end_of_drop hd hk
    have hk2 : ¬ (C.length : Int) < C.length := by omega
    rw [List.take_length] at hlen
    rw [List.take_length]
    simp only [go_sem, Int.reduceEq, Int.reduceLT, Int.reduceLE, eq_self, Int.natCast_nonneg, Int.toNat_natCast, hk2]
    refine post_res (.inl rfl) [.tmp 2, .tmp 3] rfl ?_
    simp only [go_sem]
    refine Le.trans (le_freeze 1 (ag := some 4) rfl (Nat.zero_le _)) ?_
    generalize (C.map fun i => E.getD i default) = X at *
    rw [← hlen]
    simp only [go_sem, edges_take, edges_len, Nat.le_refl]
    exact le_fin (by simp only [go_sem]) (by simp only [go_sem])
  | cons m r =>
    have hlt := lt_of_drop hd
    have hk2 : (k : Int) < C.length := by omega
    have hk0 : (0 : Int) ≤ k := Int.natCast_nonneg k
    have hn := nth_of_drop (f := natD) hd
    have hm := hcm m (mem_of_drop hd)
    have hm2 : (m : Int) < E.length := by omega
    have hne : D.nth (edgesD E) m = edgeD (E.getD m default) := D.nth_map hm
    have hsn : edgesD ((C.take k).map fun i => E.getD i default) ++ [edgeD (E.getD m default)] = edgesD ((C.take (k + 1)).map fun i => E.getD i default) := by
      rw [edges_snoc, take_of_drop hd, List.map_append]; rfl
    have htk : List.take k (edgesD ((C.take k).map fun i => E.getD i default)) = edgesD ((C.take k).map fun i => E.getD i default) := List.take_of_length_le (by simp; omega)
    simp only [go_sem, Int.reduceEq, Int.reduceLT, Int.reduceLE, eq_self, Int.natCast_nonneg, Int.toNat_natCast, hk2, hk0, hlt, hn, nats_len, hm, hm2, hne, edges_len, hlen, htk, hsn]
    refine ⟨⟨rfl, rfl⟩, by omega, by omega, inR_i64.2 (by omega), k + 1, by omega, by omega, ?_⟩
    refine le_end (own := [_, _]) (ex := [_]) (Nat.zero_le _) ?_ ?_ ?_
    · simp only [go_sem, Int.natCast_add, Int.cast_ofNat_Int]
    · simp only [go_sem]
    · simp only [go_sem, Obj.under, AV.unders, AV.under]
abbrev tabXR : List (Nat × Contract) := [(32, dataC checkR), (33, dataC edgesR), (35, dataC resR), (41, dataC cycleR)]
theorem tabXR_ok : OkG Try.prog (tbl tabXR) := okG_cons rcheck_ok (okG_cons redges_ok (okG_cons rresources_ok (okG_cons rcycle_ok okG_nil)))
theorem rexplain_ok : OkF Try.prog 17 (dataC expR) := by
  refine okF_data Try.func17 rfl (by decide) ?_
  rintro ds v ⟨s, rfl, hf, rfl⟩
  refine sem_of_awpK [7] (Γ := tbl tabXR) tabXR_ok _ _ _ ?_
  simp only [go_sem, Int.reduceEq, Int.reduceLT, Int.reduceLE, eq_self, Int.natCast_nonneg, Int.toNat_natCast, Try.ntmps17, sysD]
  refine call_data checkR (by simp) [sysD s] _ rfl ⟨s, rfl, hf, rfl⟩ (.inl rfl) ?_
  unfold expV
  by_cases h : checkE s = 0
  case neg =>
    rw [if_pos h]
    simp only [go_sem, Int.reduceEq, Int.reduceLT, Int.reduceLE, eq_self, Int.natCast_nonneg, Int.toNat_natCast, h]
    refine post_res (.inl rfl) [.tmp 2, .tmp 3] rfl ?_
    simp only [go_sem]
    exact le_fin (by simp only [go_sem]) (by simp only [go_sem])
  rw [if_neg (by rw [h]; decide)]
  have hgk := sysE_ok h
  have hgl := hgk.len
  obtain ⟨hcl, hcm⟩ := cyc_bound hgk
  simp only [go_sem, Int.reduceEq, Int.reduceLT, Int.reduceLE, eq_self, Int.natCast_nonneg, Int.toNat_natCast, h]
  refine call_data edgesR (by simp) [sysD s] _ rfl ⟨s, rfl, hf, rfl⟩ (.inl rfl) ?_
  rw [edgesV_ok h]
  simp only [go_sem, Int.reduceEq, Int.reduceLT, Int.reduceLE, eq_self, Int.natCast_nonneg, Int.toNat_natCast]
  refine call_data resR (by simp) [sysD s] _ rfl ⟨s, rfl, hf, rfl⟩ (.inl rfl) ?_
  rw [resN_ok h]
  simp only [go_sem, Int.reduceEq, Int.reduceLT, Int.reduceLE, eq_self, Int.natCast_nonneg, Int.toNat_natCast]
  refine call_data cycleR (by simp) [.int .i64 (nRes s : Nat), .sl (some 4) (edgesD (sysE s))] _ rfl ⟨_, _, rfl, by omega, rfl⟩ (.inl rfl) ?_
  rw [cycleVv_ok h]
  unfold expL
  generalize cycV (sysE s) = C at *
  generalize sysE s = E at *
  simp only [go_sem, Int.reduceEq, Int.reduceLT, Int.reduceLE, eq_self, Int.natCast_nonneg, Int.toNat_natCast]
  refine sem_le (le_addnil 9 (some 4) rfl (Nat.zero_le _)) ?_
  refine sem_of_awp (Γ := tbl tabXR) tabXR_ok _ _ _ ?_
  simp only [go_sem, Int.reduceEq, Int.reduceLT, Int.reduceLE, eq_self, Int.natCast_nonneg, Int.toNat_natCast, nats_len]
  refine sem_loop (fun k : Nat => ⟨slotsOf 45 [(5, .dat (.sl (some 4) (edgesD E))), (7, .dat (.sl none (natsD C))), (9, .sl 1 0 k), (10, .dat (.int .i64 k))], [sysO s, .row (some 4) (edgesD ((C.take k).map fun i => E.getD i default))], 0, []⟩)
    (fun k => k ≤ C.length) (fun k => C.length - k) 0 (Nat.zero_le _) ?_ ?_
  · exact le_slots' (by simp only [go_sem, Int.natCast_zero])
  rintro k hk
  refine sem_of_awp (Γ := tbl tabXR) tabXR_ok _ _ _ ?_
  have hlen : ((C.take k).map fun i => E.getD i default).length = k := by rw [List.length_map, List.length_take]; omega
  cases hd : C.drop k with
  | nil =>
    obtain rfl : k = C.length := end_of_drop hd hk
    have hk2 : ¬ (C.length : Int) < C.length := by omega
    rw [List.take_length] at hlen
    rw [List.take_length]
    simp only [go_sem, Int.reduceEq, Int.reduceLT, Int.reduceLE, eq_self, Int.natCast_nonneg, Int.toNat_natCast, hk2, nats_len]
    refine post_res (.inl rfl) [.tmp 2, .tmp 3] rfl ?_
    simp only [go_sem]
    refine Le.trans (le_freeze 1 (ag := some 4) rfl (Nat.zero_le _)) ?_
    generalize (C.map fun i => E.getD i default) = X at *
    rw [← hlen]
    simp only [go_sem, edges_take, edges_len, Nat.le_refl]
    exact le_fin (by simp only [go_sem]) (by simp only [go_sem])
  | cons m r =>
    have hlt := lt_of_drop hd
    have hk2 : (k : Int) < C.length := by omega
    have hk0 : (0 : Int) ≤ k := Int.natCast_nonneg k
    have hn := nth_of_drop (f := natD) hd
    have hm := hcm m (mem_of_drop hd)
    have hm2 : (m : Int) < E.length := by omega
    have hne : D.nth (edgesD E) m = edgeD (E.getD m default) := D.nth_map hm
    have hsn : edgesD ((C.take k).map fun i => E.getD i default) ++ [edgeD (E.getD m default)] = edgesD ((C.take (k + 1)).map fun i => E.getD i default) := by
      rw [edges_snoc, take_of_drop hd, List.map_append]; rfl
    have htk : List.take k (edgesD ((C.take k).map fun i => E.getD i default)) = edgesD ((C.take k).map fun i => E.getD i default) := List.take_of_length_le (by simp; omega)
    simp only [go_sem, Int.reduceEq, Int.reduceLT, Int.reduceLE, eq_self, Int.natCast_nonneg, Int.toNat_natCast, hk2, hk0, hlt, hn, nats_len, hm, hm2, hne, edges_len, hlen, htk, hsn]
    refine ⟨⟨rfl, rfl⟩, by omega, by omega, inR_i64.2 (by omega), k + 1, by omega, by omega, ?_⟩
    refine le_end (own := [_, _]) (ex := [_]) (Nat.zero_le _) ?_ ?_ ?_
    · simp only [go_sem, Int.natCast_add, Int.cast_ofNat_Int]
    · simp only [go_sem]
    · simp only [go_sem, Obj.under, AV.unders, AV.under]

def enoN (s : PSys) (pool : Int) : Int := if checkE s ≠ 0 ∨ pool < 0 ∨ (s.pools.length : Int) ≤ pool then -1 else if (s.pools.getD pool.toNat default).size < demL pool true s.classes then -1 else demL pool true s.classes
def enoR (ds : List D) (v : AV) : Prop := ∃ (s : PSys) (pool : Int), ds = [sysD s, .int .i64 pool] ∧ s.fit ∧ v = .dat (.int .i64 (enoN s pool))
theorem enough_ok : OkF Try.prog 20 (dataC enoR) := by
  refine okF_data Try.func20 rfl (by decide) ?_
  rintro ds v ⟨s, pool, rfl, hf, rfl⟩
  refine sem_of_awp (Γ := tbl [(27, dataC demNR)]) (okG_cons Demand_ok okG_nil) _ _ _ ?_
  simp only [go_sem, Int.reduceEq, Int.reduceLT, Int.reduceLE, eq_self, Int.natCast_nonneg, Int.toNat_natCast, Try.ntmps20, sysD]
  refine call_data demNR (by simp) [sysD s, .int .i64 pool, .bool true] _ rfl ⟨s, pool, true, rfl, hf, rfl⟩ (.inl rfl) ?_
  unfold demN enoN
  by_cases h : checkE s ≠ 0 ∨ pool < 0 ∨ (s.pools.length : Int) ≤ pool
  · rw [if_pos h, if_pos h]
    simp only [go_sem, Int.reduceEq, Int.reduceLT, Int.reduceLE, eq_self, Int.natCast_nonneg, Int.toNat_natCast]
    exact post_data (.inl rfl) [4] rfl trivial rfl
  rw [if_neg h, if_neg h]
  have hg := good_of (Classical.byContradiction fun hh => h (.inl hh))
  obtain ⟨i, rfl⟩ : ∃ i : Nat, pool = i := ⟨pool.toNat, by omega⟩
  have hi : i < s.pools.length := by omega
  have hi2 : (i : Int) < s.pools.length := by omega
  have hnp : D.nth (s.pools.map poolD) i = poolD (s.pools.getD i default) := D.nth_map hi
  have hpb := hg.pool (s.pools.getD i default) (by rw [List.getD_eq_getElem?_getD, List.getElem?_eq_getElem hi]; exact List.getElem_mem hi)
  have hd0 := (demL_le hg i true s.classes.length (Nat.le_refl _)).1
  rw [List.take_length] at hd0
  rw [Int.toNat_natCast]
  generalize s.pools.getD i default = p at *
  generalize demL i true s.classes = d at *
  unfold PPool.bad at hpb
  by_cases h1 : 0 < d
  · by_cases h2 : p.size < d
    · rw [if_pos h2]
      simp only [go_sem, Int.reduceEq, Int.reduceLT, Int.reduceLE, eq_self, Int.natCast_nonneg, Int.toNat_natCast, h1, h2, hi, hi2, hnp, poolD]
      exact post_data (.inl rfl) [4] rfl trivial rfl
    · rw [if_neg h2]
      simp only [go_sem, Int.reduceEq, Int.reduceLT, Int.reduceLE, eq_self, Int.natCast_nonneg, Int.toNat_natCast, h1, h2, hi, hi2, hnp, poolD]
      exact post_data (.inl rfl) [4] rfl trivial rfl
  · rw [if_neg (by omega)]
    simp only [go_sem, Int.reduceEq, Int.reduceLT, Int.reduceLE, eq_self, Int.natCast_nonneg, Int.toNat_natCast, h1]
    exact post_data (.inl rfl) [4] rfl trivial rfl
theorem renough_ok : OkF Try.prog 21 (dataC enoR) := by
  refine okF_data Try.func21 rfl (by decide) ?_
  rintro ds v ⟨s, pool, rfl, hf, rfl⟩
  refine sem_of_awp (Γ := tbl [(42, dataC demNR)]) (okG_cons rDemand_ok okG_nil) _ _ _ ?_
  simp only [go_sem, Int.reduceEq, Int.reduceLT, Int.reduceLE, eq_self, Int.natCast_nonneg, Int.toNat_natCast, Try.ntmps21, sysD]
  refine call_data demNR (by simp) [sysD s, .int .i64 pool, .bool true] _ rfl ⟨s, pool, true, rfl, hf, rfl⟩ (.inl rfl) ?_
  unfold demN enoN
  by_cases h : checkE s ≠ 0 ∨ pool < 0 ∨ (s.pools.length : Int) ≤ pool
  · rw [if_pos h, if_pos h]
    simp only [go_sem, Int.reduceEq, Int.reduceLT, Int.reduceLE, eq_self, Int.natCast_nonneg, Int.toNat_natCast]
    exact post_data (.inl rfl) [4] rfl trivial rfl
  rw [if_neg h, if_neg h]
  have hg := good_of (Classical.byContradiction fun hh => h (.inl hh))
  obtain ⟨i, rfl⟩ : ∃ i : Nat, pool = i := ⟨pool.toNat, by omega⟩
  have hi : i < s.pools.length := by omega
  have hi2 : (i : Int) < s.pools.length := by omega
  have hnp : D.nth (s.pools.map poolD) i = poolD (s.pools.getD i default) := D.nth_map hi
  have hd0 := (demL_le hg i true s.classes.length (Nat.le_refl _)).1
  rw [List.take_length] at hd0
  rw [Int.toNat_natCast]
  generalize s.pools.getD i default = p at *
  generalize demL i true s.classes = d at *
  have h1 : ¬ d < 0 := by omega
  by_cases h2 : p.size < d
  · rw [if_pos h2]
    simp only [go_sem, Int.reduceEq, Int.reduceLT, Int.reduceLE, eq_self, Int.natCast_nonneg, Int.toNat_natCast, h1, h2, hi, hi2, hnp, poolD]
    exact post_data (.inl rfl) [4] rfl trivial rfl
  · rw [if_neg h2]
    simp only [go_sem, Int.reduceEq, Int.reduceLT, Int.reduceLE, eq_self, Int.natCast_nonneg, Int.toNat_natCast, h1, h2, hi, hi2, hnp, poolD]
    exact post_data (.inl rfl) [4] rfl trivial rfl

def sameCR (ds : List D) (v : AV) : Prop := ∃ (L : List Nat), ds = [certD L, certD L] ∧ L.length ≤ 10000 ∧ v = .dat (.bool true)
theorem sameC_ok : OkF Try.prog 18 (dataC sameCR) := by
  refine okF_data Try.func18 rfl (by decide) ?_
  rintro ds v ⟨L, rfl, hL, rfl⟩
  refine sem_of_awp (Γ := tbl [(30, dataC sameR)]) (okG_cons same_ok okG_nil) _ _ _ ?_
  simp only [go_sem, Int.reduceEq, Int.reduceLT, Int.reduceLE, eq_self, Int.natCast_nonneg, Int.toNat_natCast, Try.ntmps18, certD]
  refine call_data sameR (by simp) [.sl none (natsD L), .sl none (natsD L)] _ rfl ⟨L, rfl, hL, rfl⟩ (.inl rfl) ?_
  simp only [go_sem, Int.reduceEq, Int.reduceLT, Int.reduceLE, eq_self, Int.natCast_nonneg, Int.toNat_natCast]
  exact post_data (.inl rfl) [4] rfl trivial rfl
end Go.AM

set_option maxRecDepth 8000
set_option maxHeartbeats 2000000
namespace Go.AM
open Go Go.Proofs

def outI (n : Int) : Bool := decide (n < 0) || decide (4096 < n)
def outR (ds : List D) (v : AV) : Prop := ∃ n : Int, ds = [.int .i64 n] ∧ v = .dat (.bool (outI n))
theorem out_ok : OkF Try.prog 43 (dataC outR) := by
  refine okF_data Try.func43 rfl (by decide) ?_
  rintro ds v ⟨n, rfl, rfl⟩
  refine sem_of_awp (Γ := tbl []) okG_nil _ _ _ ?_
  unfold outI
  by_cases h1 : n < 0
  · simp only [go_sem, Int.reduceEq, Int.reduceLT, Int.reduceLE, eq_self, Int.natCast_nonneg, Int.toNat_natCast, Try.ntmps43, h1, decide_true, Bool.true_or]
    exact post_data (.inl rfl) [2] rfl trivial rfl
  · simp only [go_sem, Int.reduceEq, Int.reduceLT, Int.reduceLE, eq_self, Int.natCast_nonneg, Int.toNat_natCast, Try.ntmps43, h1, decide_false, Bool.false_or]
    exact post_data (.inl rfl) [2] rfl trivial rfl
def ixVR (xs : List AV) (obs : List Obj) (v0 : AV) (obs' ex : List Obj) (mv0 : List Nat) : Prop := ∃ (L : List Int), L.length ≤ 10000 ∧
  xs = [.dat (.sl none (intsD L)), .fn 43 []] ∧ obs = [] ∧ v0 = .dat (.int .i64 (fstI (fstL outI 0 L))) ∧ obs' = obs ∧ ex = [] ∧ mv0 = []
abbrev tabIV : List (Nat × Contract) := [(43, dataC outR)]
theorem tabIV_ok : OkG Try.prog (tbl tabIV) := okG_cons out_ok okG_nil
theorem indexOut_ok : OkF Try.prog 65 (lentC ixVR) := by
  refine okF_lent Try.func65 rfl (by decide) ?_
  rintro xs obs v0 obs' ex mv0 ⟨L, hl, rfl, rfl, rfl, rfl, rfl, rfl⟩
  generalize hV : fstL outI 0 L = V
  refine sem_of_awp (Γ := tbl tabIV) tabIV_ok _ _ _ ?_
  simp only [go_sem, Int.reduceEq, Int.reduceLT, Int.reduceLE, eq_self, Int.natCast_nonneg, Int.toNat_natCast, Try.ntmps65, ints_len]
  refine sem_loop (fun k : Nat => ⟨slotsOf 19 [(0, .dat (.sl none (intsD L))), (1, .fn 43 []), (7, .dat (.int .i64 L.length)), (8, .dat (.int .i64 k))], [], 0, []⟩)
    (fun k => k ≤ L.length ∧ fstL outI k (L.drop k) = V) (fun k => L.length - k) 0 ⟨Nat.zero_le _, hV⟩ ?_ ?_
  · exact le_slots' (by simp only [go_sem, Int.natCast_zero])
  rintro k ⟨hk, hV⟩
  refine sem_of_awp (Γ := tbl tabIV) tabIV_ok _ _ _ ?_
  cases hd : L.drop k with
  | nil =>
    have := end_of_drop hd hk
    have hk2 : ¬ (k : Int) < L.length := by omega
    rw [hd, fstL] at hV
    simp only [go_sem, Int.reduceEq, Int.reduceLT, Int.reduceLE, eq_self, Int.natCast_nonneg, Int.toNat_natCast, hk2]
    exact post_own (.inl rfl) [4] rfl (by rw [← hV]; simp only [tmpsOf]; rfl) (fun _ h => h)
  | cons x r =>
    have hlt := lt_of_drop hd
    have hk2 : (k : Int) < L.length := by omega
    have hk0 : (0 : Int) ≤ k := Int.natCast_nonneg k
    have hn := nth_of_drop (f := .int .i64) hd
    rw [hd, fstL] at hV
    simp only [go_sem, Int.reduceEq, Int.reduceLT, Int.reduceLE, eq_self, Int.natCast_nonneg, Int.toNat_natCast, hk2, hk0, hn, hlt, ints_len]
    refine call_data outR (by simp) _ _ rfl ⟨x, rfl, rfl⟩ (.inl rfl) ?_
    cases hp : outI x with
    | true =>
      rw [hp, if_pos rfl] at hV
      simp only [go_sem, Int.reduceEq, Int.reduceLT, Int.reduceLE, eq_self, Int.natCast_nonneg, Int.toNat_natCast, hp]
      exact post_own (.inl rfl) [4] rfl (by rw [← hV]; simp only [tmpsOf]; rfl) (fun _ h => h)
    | false =>
      rw [hp, if_neg (by decide)] at hV
      simp only [go_sem, Int.reduceEq, Int.reduceLT, Int.reduceLE, eq_self, Int.natCast_nonneg, Int.toNat_natCast, hp]
      refine ⟨inR_i64.2 (by omega), k + 1, ⟨by omega, by rw [drop_cons hd]; exact hV⟩, by omega, ?_⟩
      exact le_slots' (by simp only [go_sem, Int.natCast_add, Int.cast_ofNat_Int])
def hasVR (xs : List AV) (obs : List Obj) (v0 : AV) (obs' ex : List Obj) (mv0 : List Nat) : Prop := ∃ (L : List Int), L.length ≤ 10000 ∧
  xs = [.dat (.sl none (intsD L)), .fn 43 []] ∧ obs = [] ∧ v0 = .dat (.bool (L.any outI)) ∧ obs' = obs ∧ ex = [] ∧ mv0 = []
theorem fst_any {L : List Int} : decide (0 ≤ fstI (fstL outI 0 L)) = L.any outI := by
  cases h : fstL outI 0 L with
  | none =>
    have := fstL_none.1 h
    rw [Bool.eq_iff_iff, List.any_eq_true, decide_eq_true_eq]
    constructor
    · intro hh; simp [fstI] at hh
    · rintro ⟨x, hx, hx2⟩; rw [this x hx] at hx2; cases hx2
  | some j =>
    obtain ⟨i, x, _, h2, h3⟩ := fstL_some h
    rw [Bool.eq_iff_iff, List.any_eq_true, decide_eq_true_eq]
    exact ⟨fun _ => ⟨x, List.mem_of_getElem? h2, h3⟩, fun _ => by simp [fstI]⟩
theorem hasOut_ok : OkF Try.prog 44 (lentC hasVR) := by
  refine okF_lent Try.func44 rfl (by decide) ?_
  rintro xs obs v0 obs' ex mv0 ⟨L, hl, rfl, rfl, rfl, rfl, rfl, rfl⟩
  refine sem_of_awp (Γ := tbl [(65, pureOf (lentC ixVR))]) (okG_cons (okF_pureOf indexOut_ok) okG_nil) _ _ _ ?_
  simp only [go_sem, Int.reduceEq, Int.reduceLT, Int.reduceLE, eq_self, Int.natCast_nonneg, Int.toNat_natCast, Try.ntmps44]
  refine call_lentP ixVR (by simp) [] ⟨L, hl, rfl, rfl, rfl, rfl, rfl, rfl⟩ (by decide) (by simp) rfl rfl (by simp only [go_sem]) (by simp) (fun j hj => by simp at hj) ?_
  simp only [go_sem, Int.reduceEq, Int.reduceLT, Int.reduceLE, eq_self, Int.natCast_nonneg, Int.toNat_natCast, fst_any]
  exact post_own (.inl rfl) [4] rfl (by simp only [tmpsOf]; rfl) (fun _ h => h)
def badV (L : List Int) (e : PEdge) : Bool := decide (L.getD e.s 0 ≤ L.getD e.t 0)
def verN (s : PSys) (L : List Int) : Int :=
  if checkE s ≠ 0 then checkE s else if L.length ≠ nRes s ∨ L.any outI = true then 3 else if (impO s).isSome = true then 9 else if (sysE s).any (badV L) = true then 19 else 0
def verR (ds : List D) (v : AV) : Prop := ∃ (s : PSys) (L : List Int), ds = [sysD s, .agg [.sl none (intsD L)]] ∧ s.fit ∧ L.length ≤ 10000 ∧ v = .dat (.int .i64 (verN s L))
abbrev tabVE : List (Nat × Contract) := [(24, dataC edgesR), (14, dataC impVR), (26, dataC resR), (44, pureOf (lentC hasVR))]
theorem tabVE_ok : OkG Try.prog (tbl tabVE) := okG_cons edges_ok (okG_cons Impossible_ok (okG_cons resources_ok (okG_cons (okF_pureOf hasOut_ok) okG_nil)))
theorem pureVE : PureFns (tbl tabVE) [26, 44] := by
  refine pure_of2 fun g C hm hg => ?_
  simp only [List.mem_cons, List.not_mem_nil, or_false, Prod.mk.injEq] at hm
  rcases hm with ⟨_, rfl⟩ | ⟨_, rfl⟩ | ⟨_, rfl⟩ | ⟨_, rfl⟩
  · exact .inl ⟨_, rfl⟩
  · exact .inl ⟨_, rfl⟩
  · exact .inl ⟨_, rfl⟩
  · exact .inr ⟨_, rfl⟩
theorem verify_ok : OkF Try.prog 22 (dataC verR) := by
  refine okF_data Try.func22 rfl (by decide) ?_
  rintro ds v ⟨s, L, rfl, hf, hl, rfl⟩
  refine sem_of_awp (Γ := tbl tabVE) tabVE_ok _ _ _ ?_
  simp only [go_sem, Int.reduceEq, Int.reduceLT, Int.reduceLE, eq_self, Int.natCast_nonneg, Int.toNat_natCast, Try.ntmps22, sysD]
  refine call_data edgesR (by simp) [sysD s] _ rfl ⟨s, rfl, hf, rfl⟩ (.inl rfl) ?_
  generalize hv : verN s L = V
  unfold verN at hv
  by_cases h : checkE s = 0
  case neg =>
    rw [if_pos h] at hv
    subst hv
    rw [edgesV_err h]
    simp only [go_sem, Int.reduceEq, Int.reduceLT, Int.reduceLE, eq_self, Int.natCast_nonneg, Int.toNat_natCast, h]
    exact post_data (.inl rfl) [4] rfl trivial rfl
  rw [edgesV_ok h]
  rw [if_neg (by rw [h]; decide)] at hv
  have hgk := sysE_ok h
  have hgl := hgk.len
  have hn4 := hgk.n4
  simp only [go_sem, Int.reduceEq, Int.reduceLT, Int.reduceLE, eq_self, Int.natCast_nonneg, Int.toNat_natCast, h]
  refine sem_draw (pf := [26, 44]) (Γ := tbl tabVE) mixed tabVE_ok pureVE [0, 1, 2, 3, 4, 5, 6, 7, 8, 9, 10, 11] (by kernel_rfl) ?_
  simp only [go_sem, Int.reduceEq, Int.reduceLT, Int.reduceLE, eq_self, Int.natCast_nonneg, Int.toNat_natCast, chainI, ints_len]
  refine call_data resR (by simp) [sysD s] _ rfl ⟨s, rfl, hf, rfl⟩ (.inl rfl) ?_
  rw [resN_ok h]
  by_cases hne : L.length = nRes s
  case neg =>
    have hne2 : ¬ (L.length : Int) = (nRes s : Nat) := by omega
    rw [if_pos (.inl hne)] at hv
    subst hv
    simp only [go_sem, Int.reduceEq, Int.reduceLT, Int.reduceLE, eq_self, Int.natCast_nonneg, Int.toNat_natCast, chainI, hne2]
    exact post_data (.inl rfl) [4] rfl trivial rfl
  have hne2 : (L.length : Int) = (nRes s : Nat) := by omega
  simp only [go_sem, Int.reduceEq, Int.reduceLT, Int.reduceLE, eq_self, Int.natCast_nonneg, Int.toNat_natCast, chainI, hne2]
  refine call_lentP hasVR (by simp) [] ⟨L, hl, rfl, rfl, rfl, rfl, rfl, rfl⟩ (by decide) (by simp) rfl rfl (by simp only [go_sem]) (by simp) (fun j hj => by simp at hj) ?_
  cases ho : L.any outI with
  | true =>
    rw [if_pos (.inr ho)] at hv
    subst hv
    simp only [go_sem, Int.reduceEq, Int.reduceLT, Int.reduceLE, eq_self, Int.natCast_nonneg, Int.toNat_natCast, chainI]
    exact post_data (.inl rfl) [4] rfl trivial rfl
  | false =>
  rw [if_neg (by rw [ho]; simp [hne])] at hv
  simp only [go_sem, Int.reduceEq, Int.reduceLT, Int.reduceLE, eq_self, Int.natCast_nonneg, Int.toNat_natCast, chainI]
  refine call_data impVR (by simp) [sysD s] _ rfl ⟨s, rfl, hf, rfl⟩ (.inl rfl) ?_
  cases hi : impO s with
  | some q =>
    obtain ⟨i, k⟩ := q
    rw [hi, if_pos (by rfl)] at hv
    subst hv
    simp only [go_sem, Int.reduceEq, Int.reduceLT, Int.reduceLE, eq_self, Int.natCast_nonneg, Int.toNat_natCast, fstV]
    exact post_data (.inl rfl) [4] rfl trivial rfl
  | none =>
  rw [hi, if_neg (by decide)] at hv
  simp only [go_sem, Int.reduceEq, Int.reduceLT, Int.reduceLE, eq_self, Int.natCast_nonneg, Int.toNat_natCast, fstV, edges_len]
  generalize sysE s = E at *
  refine sem_loop (fun k : Nat => ⟨slotsOf 60 [(3, .ptr 1 0 0), (40, .dat (.sl (some 4) (edgesD E))), (41, .dat (.int .i64 E.length)), (42, .dat (.int .i64 k))], [sysO s, .box [.dat (.sl none (intsD L))]], 0, []⟩)
    (fun k => k ≤ E.length ∧ (if (E.drop k).any (badV L) = true then (19 : Int) else 0) = V) (fun k => E.length - k) 0 ⟨Nat.zero_le _, hv⟩ ?_ ?_
  · exact le_slots' (by simp only [go_sem, Int.natCast_zero])
  rintro k ⟨hk, hV⟩
  refine sem_of_awp (Γ := tbl tabVE) tabVE_ok _ _ _ ?_
  cases hd : E.drop k with
  | nil =>
    have := end_of_drop hd hk
    have hk2 : ¬ (k : Int) < E.length := by omega
    rw [hd] at hV
    subst hV
    simp only [go_sem, Int.reduceEq, Int.reduceLT, Int.reduceLE, eq_self, Int.natCast_nonneg, Int.toNat_natCast, hk2]
    exact post_data (.inl rfl) [4] rfl trivial rfl
  | cons e r =>
    have hlt := lt_of_drop hd
    have hk2 : (k : Int) < E.length := by omega
    have hk0 : (0 : Int) ≤ k := Int.natCast_nonneg k
    have hn := nth_of_drop (f := edgeD) hd
    obtain ⟨s1, s2⟩ := hgk.src e (mem_of_drop hd)
    obtain ⟨t1, t2⟩ := hgk.dst e (mem_of_drop hd)
    have g1 := ints_nth (l := L) 0 (i := e.s) (by omega)
    have g2 := ints_nth (l := L) 0 (i := e.t) (by omega)
    have b1 : e.s < L.length := by omega
    have b2 : e.t < L.length := by omega
    have b3 : (e.s : Int) < L.length := by omega
    have b4 : (e.t : Int) < L.length := by omega
    rw [hd, List.any_cons] at hV
    simp only [go_sem, Int.reduceEq, Int.reduceLT, Int.reduceLE, eq_self, Int.natCast_nonneg, Int.toNat_natCast, hk2, hk0, hlt, hn, edges_len, edgeD, s1, t1]
    refine sem_draw (pf := []) (Γ := tbl tabVE) mixed tabVE_ok (fun g _ _ _ _ _ h => by cases h) [0, 1, 2, 3, 4, 5, 6, 7, 8, 9, 10, 11, 12] (by kernel_rfl) ?_
    by_cases hb : L.getD e.s 0 ≤ L.getD e.t 0
    · rw [show badV L e = true from decide_eq_true hb, Bool.true_or, if_pos rfl] at hV
      subst hV
      simp only [go_sem, Int.reduceEq, Int.reduceLT, Int.reduceLE, eq_self, Int.natCast_nonneg, Int.toNat_natCast, chainI, g1, g2, b1, b2, b3, b4, ints_len, hb]
      exact post_data (.inl rfl) [4] rfl trivial rfl
    · rw [show badV L e = false from decide_eq_false hb, Bool.false_or] at hV
      simp only [go_sem, Int.reduceEq, Int.reduceLT, Int.reduceLE, eq_self, Int.natCast_nonneg, Int.toNat_natCast, chainI, g1, g2, b1, b2, b3, b4, ints_len, hb]
      refine ⟨inR_i64.2 (by omega), k + 1, ⟨by omega, by rw [drop_cons hd]; exact hV⟩, by omega, ?_⟩
      refine le_end (own := [_, _]) (ex := [_]) (Nat.zero_le _) ?_ ?_ ?_
      · simp only [go_sem, Int.natCast_add, Int.cast_ofNat_Int]
      · simp only [go_sem]
      · simp only [go_sem, Obj.under, AV.unders, AV.under]
end Go.AM

set_option maxRecDepth 8000
namespace Go.AM
open Go Go.Proofs

theorem fewB_fit {s : PSys} (h : fewB s = true) : s.fit := by
  simp only [fewB, Bool.and_eq_true, Bool.not_eq_true', decide_eq_false_iff_not] at h
  exact ⟨⟨by omega, by omega, by omega⟩⟩
section
variable {s : PSys} {L : List Nat}
theorem makeO_err (h : checkE s ≠ 0) : makeO s = ([], checkE s) := by unfold makeO; rw [if_pos h]
theorem makeO_imp (h : checkE s = 0) (hi : (impO s).isSome = true) : makeO s = ([], 9) := by unfold makeO; rw [if_neg (by simp [h]), if_pos hi]
theorem makeO_ok (h : checkE s = 0) (hi : impO s = none) (hl : levV (nRes s) (sysE s) = some L) : makeO s = (L, 0) := by unfold makeO; rw [if_neg (by simp [h]), if_neg (by simp [hi]), hl]
theorem makeO_dead (h : checkE s = 0) (hi : impO s = none) (hl : levV (nRes s) (sysE s) = none) : makeO s = ([], 20) := by unfold makeO; rw [if_neg (by simp [h]), if_neg (by simp [hi]), hl]
end
theorem lev_lt {n : Nat} {l : List PEdge} {f : Nat → Nat} (hg : GOk n l) (h : IsLev n l f) : ∀ v, v < n → f v < n := by
  have hA := pot_acyc h.down
  have key : ∀ k v, v < n → f v = k → ∃ w, Wk (eF l) k v w := by
    intro k
    induction k with
    | zero => exact fun v _ _ => ⟨v, rfl⟩
    | succ k ih =>
      intro v hv hk
      rcases h.next v hv with h0 | ⟨e, he, hs, ht⟩
      · omega
      · obtain ⟨w, hw⟩ := ih e.t (hg.dst e he).2 (by omega)
        exact ⟨w, Wk_cons (List.mem_map.2 ⟨e, he, by rw [hs]⟩) hw⟩
  intro v hv
  obtain ⟨w, hw⟩ := key _ v hv rfl
  exact wk_short hg.eFlt hA hv hw
abbrev castL (L : List Nat) : List Int := L.map fun n : Nat => (n : Int)
theorem nats_ints (L : List Nat) : natsD L = intsD (castL L) := by simp
theorem ver_of {s : PSys} (h : checkE s = 0) (hi : impO s = none) {L : List Int} (hl : L.length = nRes s) (h0 : ∀ x ∈ L, 0 ≤ x ∧ x ≤ 4096) (hb : ∀ e ∈ sysE s, L.getD e.t 0 < L.getD e.s 0) : verN s L = 0 := by
  unfold verN
  have h1 : L.any outI = false := by
    rw [Bool.eq_false_iff]; intro hh
    obtain ⟨x, hx, hx2⟩ := List.any_eq_true.1 hh
    have := h0 x hx
    unfold outI at hx2
    simp only [Bool.or_eq_true, decide_eq_true_eq] at hx2
    omega
  have h2 : (sysE s).any (badV L) = false := by
    rw [Bool.eq_false_iff]; intro hh
    obtain ⟨e, he, hx2⟩ := List.any_eq_true.1 hh
    have := hb e he
    unfold badV at hx2
    rw [decide_eq_true_eq] at hx2
    omega
  rw [if_neg (by simp [h]), if_neg (by simp [hl, h1]), if_neg (by simp [hi]), if_neg (by rw [h2]; decide)]
theorem lev_facts {s : PSys} (h : checkE s = 0) {L : List Nat} (hl : levV (nRes s) (sysE s) = some L) : L.length = nRes s ∧ (∀ x ∈ L, x < nRes s) ∧ ∀ e ∈ sysE s, L.getD e.t 0 < L.getD e.s 0 := by
  have hg := sysE_ok h
  obtain ⟨f, hf, rfl⟩ := levV_is hl
  have hlt := lev_lt hg hf
  have hat : ∀ i, i < nRes s → ((List.range (nRes s)).map f).getD i 0 = f i := fun i hi => by simp [List.getD_eq_getElem?_getD, hi]
  refine ⟨by simp, fun x hx => ?_, fun e he => ?_⟩
  · obtain ⟨i, hi, rfl⟩ := List.mem_map.1 hx
    exact hlt i (List.mem_range.1 hi)
  · rw [hat _ (hg.dst e he).2, hat _ (hg.src e he).2]
    exact hf.down e he
theorem nRes_le {s : PSys} (h : checkE s = 0) : nRes s ≤ 16 := by
  have hg := good_of h
  have h1 := hg.np
  have h2 := hg.nl
  have h3 := hg.nc
  unfold nRes; omega
theorem cast_getD {L : List Nat} {i : Nat} : (castL L).getD i 0 = (L.getD i 0 : Nat) := by
  simp only [List.getD_eq_getElem?_getD, List.getElem?_map]
  cases L[i]? <;> rfl
theorem ver_make {s : PSys} (h : checkE s = 0) (hi : impO s = none) {L : List Nat} (hl : levV (nRes s) (sysE s) = some L) : verN s (castL L) = 0 := by
  obtain ⟨h1, h2, h3⟩ := lev_facts h hl
  have hr := nRes_le h
  refine ver_of h hi (by simp [h1]) (fun x hx => ?_) (fun e he => ?_)
  · obtain ⟨n, hn, rfl⟩ := List.mem_map.1 hx
    have := h2 n hn
    omega
  · rw [cast_getD, cast_getD]
    have := h3 e he
    omega
theorem ver_scale {s : PSys} (h : checkE s = 0) (hi : impO s = none) {L : List Nat} (hl : levV (nRes s) (sysE s) = some L) {f : Nat → Int} (hf : ∀ a b, a < b → b < 16 → f a < f b) (h0 : ∀ a, a < 16 → 0 ≤ f a ∧ f a ≤ 4096) : verN s (L.map f) = 0 := by
  obtain ⟨h1, h2, h3⟩ := lev_facts h hl
  have hr := nRes_le h
  have hg := sysE_ok h
  have hat : ∀ i, i < nRes s → (L.map f).getD i 0 = f (L.getD i 0) ∧ L.getD i 0 < 16 := fun i hi => by
    have hil : i < L.length := by omega
    simp only [List.getD_eq_getElem?_getD, List.getElem?_map, List.getElem?_eq_getElem hil]
    have := h2 _ (List.getElem_mem hil)
    exact ⟨rfl, by simp only [Option.getD_some]; omega⟩
  refine ver_of h hi (by simp [h1]) (fun x hx => ?_) (fun e he => ?_)
  · obtain ⟨n, hn, rfl⟩ := List.mem_map.1 hx
    have := h2 n hn
    exact h0 n (by omega)
  · obtain ⟨a1, a2⟩ := hat _ (hg.dst e he).2
    obtain ⟨b1, b2⟩ := hat _ (hg.src e he).2
    rw [a1, b1]
    exact hf _ _ (h3 e he) b2
theorem lev_ex {s : PSys} (h : checkE s = 0) (hA : acyc (eF (sysE s))) : ∃ L, levV (nRes s) (sysE s) = some L := by
  have := lev_iff (sysE_ok h)
  rw [acyc_cyc.1 hA] at this
  exact Option.isSome_iff_exists.1 this
theorem ver_only {s : PSys} {L : List Int} (hv : verN s L = 0) : checkE s = 0 ∧ impO s = none ∧ ∃ L', levV (nRes s) (sysE s) = some L' := by
  unfold verN at hv
  split at hv
  · rename_i h; exact absurd hv h
  rename_i h
  split at hv
  · cases hv
  rename_i h1
  split at hv
  · cases hv
  rename_i h2
  split at hv
  · cases hv
  rename_i h3
  have hc : checkE s = 0 := Classical.byContradiction h
  have hi : impO s = none := by cases hi : impO s with | none => rfl | some x => rw [hi] at h2; simp at h2
  have hg := sysE_ok hc
  simp only [not_or, Decidable.not_not] at h1
  have h0 : ∀ x ∈ L, 0 ≤ x := fun x hx => by
    have : outI x = false := by
      cases ho : outI x with
      | false => rfl
      | true => exact absurd (List.any_eq_true.2 ⟨x, hx, ho⟩) h1.2
    unfold outI at this
    simp only [Bool.or_eq_false_iff, decide_eq_false_iff_not] at this
    omega
  refine ⟨hc, hi, lev_ex hc ?_⟩
  refine pot_acyc (f := fun v => (L.getD v 0).toNat) fun e he => ?_
  have hb : badV L e = false := by
    cases hb : badV L e with
    | false => rfl
    | true => exact absurd (List.any_eq_true.2 ⟨e, he, hb⟩) h3
  unfold badV at hb
  rw [decide_eq_false_iff_not] at hb
  have hn : ∀ i, 0 ≤ L.getD i 0 := fun i => by
    rw [List.getD_eq_getElem?_getD]
    cases e : L[i]? with
    | none => simp
    | some n => exact h0 n (List.mem_of_getElem? e)
  have := hn e.s
  have := hn e.t
  show (L.getD e.t 0).toNat < (L.getD e.s 0).toNat
  omega
theorem expL_len (s : PSys) : (expL s).length = 0 ↔ cycL (sysE s) (sysE s).length = none := by
  unfold expL; rw [List.length_map]; exact cycV_len
theorem lev_exp {s : PSys} (h : checkE s = 0) : (levV (nRes s) (sysE s)).isSome = decide ((expL s).length = 0) := by
  rw [lev_iff (sysE_ok h)]
  cases hc : cycL (sysE s) (sysE s).length with
  | none => rw [decide_eq_true ((expL_len s).2 hc)]; rfl
  | some c => rw [decide_eq_false (fun hh => by rw [(expL_len s).1 hh] at hc; cases hc)]; rfl
theorem exp_next {s : PSys} (h : checkE s = 0) {i : Nat} (hi : i < (expL s).length) : (expL s).getD i default ∈ sysE s ∧ ((expL s).getD i default).dst = ((expL s).getD ((i + 1) % (expL s).length) default).src := by
  have hg := sysE_ok h
  have hC := cycV_ok (sysE s)
  have hlen : (expL s).length = (cycV (sysE s)).length := by simp [expL]
  have hj : (i + 1) % (expL s).length < (expL s).length := Nat.mod_lt _ (by omega)
  have hat : ∀ k, k < (expL s).length → ∃ m, (cycV (sysE s))[k]? = some m ∧ m < (sysE s).length ∧ (expL s).getD k default = (sysE s).getD m default := fun k hk => by
    have hk2 : k < (cycV (sysE s)).length := by omega
    have e := List.getElem?_eq_getElem hk2
    refine ⟨_, e, hC.at_ k _ e, ?_⟩
    unfold expL
    rw [List.getD_eq_getElem?_getD, List.getElem?_map, e]
    rfl
  obtain ⟨m, m1, m2, m3⟩ := hat i hi
  obtain ⟨q, q1, q2, q3⟩ := hat _ hj
  rw [hlen] at q1
  have hn := hC.next i m q m1 q1
  have mm : (sysE s).getD m default ∈ sysE s := by rw [List.getD_eq_getElem?_getD, List.getElem?_eq_getElem m2]; exact List.getElem_mem m2
  have qm : (sysE s).getD q default ∈ sysE s := by rw [List.getD_eq_getElem?_getD, List.getElem?_eq_getElem q2]; exact List.getElem_mem q2
  rw [m3, q3]
  refine ⟨mm, ?_⟩
  rw [(hg.dst _ mm).1, (hg.src _ qm).1]
  unfold tOf sOf at hn
  rw [hn]
end Go.AM

set_option maxRecDepth 8000
set_option maxHeartbeats 2000000
namespace Go.AM
open Go Go.Proofs

theorem target_nat {s : PSys} (hg : s.good) {x : PStep} (hp : preE s x = 0) (hw : waitB s x = true) : ∃ r : Nat, targetN s x = r ∧ r < nRes s := by
  obtain ⟨_, ⟨o1, o2⟩, _⟩ := preE_0 hp
  unfold mostE at o2
  unfold nRes targetN
  by_cases k3 : x.kind = 3
  · rw [if_pos (.inl k3)] at o2
    rw [if_pos k3]
    exact ⟨s.pools.length + x.on.toNat, by omega, by omega⟩
  · rw [if_neg k3]
    by_cases k5 : x.kind = 5
    · rw [if_neg (by omega), if_pos k5] at o2
      rw [if_pos k5]
      exact ⟨s.pools.length + s.locks.length + x.on.toNat, by omega, by omega⟩
    · rw [if_neg k5]
      have k1 : x.kind = 1 := Classical.byContradiction fun hk => by
        unfold waitB at hw
        rw [if_neg (by omega), if_neg hk] at hw
        cases hw
      rw [if_neg (by omega), if_neg k5] at o2
      exact ⟨x.on.toNat, by omega, by omega⟩
def noBad (E : List PEdge) (L : List Int) (i k : Nat) (H : List Int) : Prop := ∀ e ∈ E, (e.cls < i ∨ (e.cls = i ∧ (e.step < k ∨ (e.step = k ∧ e.src ∈ H)))) → badV L e = false
section
variable {s : PSys} {E : List PEdge} {L : List Int} {i k : Nat} {c : PCls} {x : PStep}
theorem noBad_zero (h : EFacts s E) : noBad E L 0 0 [] := by
  intro e he hh
  obtain ⟨i, k, c, x, h1, h2, h3, h4, h5, h6, h7⟩ := h.mem e he
  rcases hh with hh | ⟨_, hh | ⟨_, hh⟩⟩
  · omega
  · omega
  · cases hh
theorem noBad_step (h : EFacts s E) (hc : s.classes[i]? = some c) (hx : c.steps[k]? = some x) (hb : noBad E L i k (holdL s c i (c.steps.take k))) : noBad E L i (k + 1) [] := by
  intro e he hh
  refine hb e he ?_
  rcases hh with hh | ⟨h1, hh | ⟨_, hh⟩⟩
  · exact .inl hh
  · by_cases hk : e.step < k
    · exact .inr ⟨h1, .inl hk⟩
    · refine .inr ⟨h1, .inr ⟨by omega, ?_⟩⟩
      obtain ⟨i', k', c', x', g1, g2, g3, g4, g5, g6, g7⟩ := h.mem e he
      obtain rfl : i' = i := by omega
      obtain rfl : k' = k := by omega
      rw [hc] at g1; cases g1
      exact g7
  · cases hh
theorem noBad_skip (h : EFacts s E) (hc : s.classes[i]? = some c) (hx : c.steps[k]? = some x) (hw : waitB s x = false) (hb : noBad E L i k []) : noBad E L i (k + 1) [] := by
  refine noBad_step h hc hx fun e he hh => hb e he ?_
  rcases hh with hh | ⟨h1, hh | ⟨h2, hh⟩⟩
  · exact .inl hh
  · exact .inr ⟨h1, .inl hh⟩
  · obtain ⟨i', k', c', x', g1, g2, g3, g4, g5, g6, g7⟩ := h.mem e he
    obtain rfl : i' = i := by omega
    obtain rfl : k' = k := by omega
    rw [hc] at g1; cases g1
    rw [hx] at g2; cases g2
    rw [hw] at g3; cases g3
theorem noBad_class (h : EFacts s E) (hc : s.classes[i]? = some c) (hb : noBad E L i c.steps.length []) : noBad E L (i + 1) 0 [] := by
  intro e he hh
  refine hb e he ?_
  rcases hh with hh | ⟨_, hh | ⟨_, hh⟩⟩
  · by_cases hi : e.cls < i
    · exact .inl hi
    · refine .inr ⟨by omega, .inl ?_⟩
      obtain ⟨i', k', c', x', g1, g2, g3, g4, g5, g6, g7⟩ := h.mem e he
      obtain rfl : i' = i := by omega
      rw [hc] at g1; cases g1
      have := (List.getElem?_eq_some_iff.1 g2).1
      omega
  · obtain ⟨i', k', c', x', g1, g2, g3, g4, g5, g6, g7⟩ := h.mem e he
    omega
  · cases hh
theorem noBad_end (h : EFacts s E) (hb : noBad E L s.classes.length 0 []) : E.any (badV L) = false := by
  rw [Bool.eq_false_iff]
  intro hh
  obtain ⟨e, he, hh⟩ := List.any_eq_true.1 hh
  obtain ⟨i', k', c', x', g1, g2, g3, g4, g5, g6, g7⟩ := h.mem e he
  have := (List.getElem?_eq_some_iff.1 g1).1
  rw [hb e he (.inl (by omega))] at hh
  cases hh
theorem noBad_snoc {H : List Int} {f : Int} (h : EFacts s E) (hc : s.classes[i]? = some c) (hx : c.steps[k]? = some x) (hb : noBad E L i k H) (hf : ∀ e ∈ E, e.src = f → e.dst = targetN s x → badV L e = false) : noBad E L i k (H ++ [f]) := by
  intro e he hh
  rcases hh with hh | ⟨h1, hh | ⟨h2, hh⟩⟩
  · exact hb e he (.inl hh)
  · exact hb e he (.inr ⟨h1, .inl hh⟩)
  · rcases List.mem_append.1 hh with hh | hh
    · exact hb e he (.inr ⟨h1, .inr ⟨h2, hh⟩⟩)
    · obtain rfl : e.src = f := by simpa using hh
      obtain ⟨i', k', c', x', g1, g2, g3, g4, g5, g6, g7⟩ := h.mem e he
      obtain rfl : i' = i := by omega
      obtain rfl : k' = k := by omega
      rw [hc] at g1; cases g1
      rw [hx] at g2; cases g2
      exact hf e he rfl g6
end
theorem waitN_at {s : PSys} {i k : Nat} {c : PCls} {x : PStep} (h : checkE s = 0) (hc : s.classes[i]? = some c) (hx : c.steps[k]? = some x) : waitN s i k = waitB s x := by
  have hi := (List.getElem?_eq_some_iff.1 hc).1
  have hk := (List.getElem?_eq_some_iff.1 hx).1
  have e : s.classes.getD i default = c := by rw [List.getD_eq_getElem?_getD, hc]; rfl
  have hn : ¬ noStep s i k := by rw [noStep_nat hi, e]; omega
  unfold waitN
  rw [if_neg (fun hh => hh.elim (fun h2 => h2 h) hn), stepAt_nat, e, List.getD_eq_getElem?_getD, hx]; rfl
abbrev tabVR : List (Nat × Contract) := [(32, dataC checkR), (35, dataC resR), (15, dataC impVR), (45, dataC waitNR), (46, dataC holdR), (47, dataC targetR)]
theorem tabVR_ok : OkG Try.prog (tbl tabVR) := okG_cons rcheck_ok (okG_cons rresources_ok (okG_cons rImpossible_ok (okG_cons rWaits_ok (okG_cons rholdings_ok (okG_cons target_ok okG_nil)))))
theorem pureVR : PureFns (tbl tabVR) [35, 47] := by
  refine pure_of2 fun g C hm hg => ?_
  simp only [List.mem_cons, List.not_mem_nil, or_false, Prod.mk.injEq] at hm
  rcases hm with ⟨_, rfl⟩ | ⟨_, rfl⟩ | ⟨_, rfl⟩ | ⟨_, rfl⟩ | ⟨_, rfl⟩ | ⟨_, rfl⟩ <;> exact .inl ⟨_, rfl⟩
theorem rverify_ok : OkF Try.prog 23 (dataC verR) := by
  refine okF_data Try.func23 rfl (by decide) ?_
  rintro ds v ⟨s, L, rfl, hf, hl, rfl⟩
  refine sem_of_awp (Γ := tbl tabVR) tabVR_ok _ _ _ ?_
  simp only [go_sem, Int.reduceEq, Int.reduceLT, Int.reduceLE, eq_self, Int.natCast_nonneg, Int.toNat_natCast, Try.ntmps23, sysD]
  refine call_data checkR (by simp) [sysD s] _ rfl ⟨s, rfl, hf, rfl⟩ (.inl rfl) ?_
  generalize hv : verN s L = V
  unfold verN at hv
  by_cases h : checkE s = 0
  case neg =>
    rw [if_pos h] at hv
    subst hv
    simp only [go_sem, Int.reduceEq, Int.reduceLT, Int.reduceLE, eq_self, Int.natCast_nonneg, Int.toNat_natCast, h]
    exact post_data (.inl rfl) [4] rfl trivial rfl
  rw [if_neg (by rw [h]; decide)] at hv
  have hg := good_of h
  have hgk := sysE_ok h
  have hn4 := hgk.n4
  have hnc := hg.nc
  simp only [go_sem, Int.reduceEq, Int.reduceLT, Int.reduceLE, eq_self, Int.natCast_nonneg, Int.toNat_natCast, h]
  refine sem_draw (pf := [35, 47]) (Γ := tbl tabVR) mixed tabVR_ok pureVR [0, 1, 2, 3, 4, 5] (by kernel_rfl) ?_
  simp only [go_sem, Int.reduceEq, Int.reduceLT, Int.reduceLE, eq_self, Int.natCast_nonneg, Int.toNat_natCast, chainI, ints_len]
  refine call_data resR (by simp) [sysD s] _ rfl ⟨s, rfl, hf, rfl⟩ (.inl rfl) ?_
  rw [resN_ok h]
  by_cases hne : L.length = nRes s
  case neg =>
    have hne2 : ¬ (L.length : Int) = (nRes s : Nat) := by omega
    rw [if_pos (.inl hne)] at hv
    subst hv
    simp only [go_sem, Int.reduceEq, Int.reduceLT, Int.reduceLE, eq_self, Int.natCast_nonneg, Int.toNat_natCast, chainI, hne2]
    exact post_data (.inl rfl) [4] rfl trivial rfl
  have hne2 : (L.length : Int) = (nRes s : Nat) := by omega
  have hv1 : (if L.any outI = true then (3 : Int) else if (impO s).isSome = true then 9 else if (sysE s).any (badV L) = true then 19 else 0) = V := by
    rw [← hv]
    cases L.any outI with
    | true => simp
    | false => simp [hne]
  clear hv
  simp only [go_sem, Int.reduceEq, Int.reduceLT, Int.reduceLE, eq_self, Int.natCast_nonneg, Int.toNat_natCast, chainI, hne2]
  refine sem_loop (fun k : Nat => ⟨slotsOf 112 [(2, .ptr 0 0 0), (3, .ptr 1 0 0), (6, .dat (.int .i64 k))], [sysO s, .box [.dat (.sl none (intsD L))]], 0, []⟩)
    (fun k => k ≤ L.length ∧ (if (L.drop k).any outI = true then (3 : Int) else if (impO s).isSome = true then 9 else if (sysE s).any (badV L) = true then 19 else 0) = V) (fun k => L.length - k) 0 ⟨Nat.zero_le _, hv1⟩ ?_ ?_
  · exact le_slots' (by simp only [go_sem, Int.natCast_zero])
  rintro k ⟨hk, hv1⟩
  refine sem_of_awp (Γ := tbl tabVR) tabVR_ok _ _ _ ?_
  cases hd : L.drop k with
  | cons y r =>
    have hlt := lt_of_drop hd
    have hk2 : (k : Int) < L.length := by omega
    have hk0 : (0 : Int) ≤ k := Int.natCast_nonneg k
    have hn := nth_of_drop (f := .int .i64) hd
    rw [hd, List.any_cons] at hv1
    by_cases h1 : y < 0
    · rw [show outI y = true from by simp [outI, h1], Bool.true_or, if_pos rfl] at hv1
      subst hv1
      simp only [go_sem, Int.reduceEq, Int.reduceLT, Int.reduceLE, eq_self, Int.natCast_nonneg, Int.toNat_natCast, hk2, hk0, hlt, hn, ints_len, h1]
      exact post_data (.inl rfl) [4] rfl trivial rfl
    · by_cases h2 : 4096 < y
      · rw [show outI y = true from by simp [outI, h2], Bool.true_or, if_pos rfl] at hv1
        subst hv1
        simp only [go_sem, Int.reduceEq, Int.reduceLT, Int.reduceLE, eq_self, Int.natCast_nonneg, Int.toNat_natCast, hk2, hk0, hlt, hn, ints_len, h1, h2]
        exact post_data (.inl rfl) [4] rfl trivial rfl
      · rw [show outI y = false from by simp [outI]; omega, Bool.false_or] at hv1
        simp only [go_sem, Int.reduceEq, Int.reduceLT, Int.reduceLE, eq_self, Int.natCast_nonneg, Int.toNat_natCast, hk2, hk0, hlt, hn, ints_len, h1, h2]
        refine ⟨inR_i64.2 (by omega), k + 1, ⟨by omega, by rw [drop_cons hd]; exact hv1⟩, by omega, ?_⟩
        exact le_slots' (by simp only [go_sem, Int.natCast_add, Int.cast_ofNat_Int])
  | nil =>
  have := end_of_drop hd hk
  have hk2 : ¬ (k : Int) < L.length := by omega
  rw [hd, List.any_nil, if_neg (by decide)] at hv1
  simp only [go_sem, Int.reduceEq, Int.reduceLT, Int.reduceLE, eq_self, Int.natCast_nonneg, Int.toNat_natCast, hk2, ints_len]
  clear hd hk hk2 this
  refine call_data impVR (by simp) [sysD s] _ rfl ⟨s, rfl, hf, rfl⟩ (.inl rfl) ?_
  cases hi : impO s with
  | some q =>
    obtain ⟨i, k⟩ := q
    rw [hi, if_pos (by rfl)] at hv1
    subst hv1
    simp only [go_sem, Int.reduceEq, Int.reduceLT, Int.reduceLE, eq_self, Int.natCast_nonneg, Int.toNat_natCast, fstV]
    exact post_data (.inl rfl) [4] rfl trivial rfl
  | none =>
  rw [hi, if_neg (by decide)] at hv1
  simp only [go_sem, Int.reduceEq, Int.reduceLT, Int.reduceLE, eq_self, Int.natCast_nonneg, Int.toNat_natCast, fstV]
  have hE : EFacts s (sysE s) := eFacts s
  generalize sysE s = E at *
  refine sem_loop (fun i : Nat => ⟨slotsOf 112 [(2, .ptr 0 0 0), (3, .ptr 1 0 0), (10, .dat (.int .i64 i))], [sysO s, .box [.dat (.sl none (intsD L))]], 0, []⟩)
    (fun i => i ≤ s.classes.length ∧ noBad E L i 0 []) (fun i => s.classes.length - i) 0 ⟨Nat.zero_le _, noBad_zero hE⟩ ?_ ?_
  · exact le_slots' (by simp only [go_sem, Int.natCast_zero])
  rintro i ⟨hi, hI⟩
  refine sem_of_awp (Γ := tbl tabVR) tabVR_ok _ _ _ ?_
  cases hd : s.classes.drop i with
  | nil =>
    have := end_of_drop hd hi
    have hk2 : ¬ (i : Int) < s.classes.length := by omega
    rw [this] at hI
    rw [noBad_end hE hI, if_neg (by decide)] at hv1
    subst hv1
    simp only [go_sem, Int.reduceEq, Int.reduceLT, Int.reduceLE, eq_self, Int.natCast_nonneg, Int.toNat_natCast, hk2, List.length_map]
    exact post_data (.inl rfl) [4] rfl trivial rfl
  | cons c r =>
  have hlt := lt_of_drop hd
  have hi2 : (i : Int) < s.classes.length := by omega
  have hi0 : (0 : Int) ≤ i := Int.natCast_nonneg i
  have hn := nth_of_drop (f := clsD) hd
  have hgc := get_of_drop hd
  have hc := hg.cls c (mem_of_drop hd)
  have h12 := hc.l12
  have hcd : s.classes.getD i default = c := by rw [List.getD_eq_getElem?_getD, hgc]; rfl
  simp only [go_sem, Int.reduceEq, Int.reduceLT, Int.reduceLE, eq_self, Int.natCast_nonneg, Int.toNat_natCast, hi2, List.length_map]
  refine sem_loop (fun k : Nat => ⟨slotsOf 112 [(2, .ptr 0 0 0), (3, .ptr 1 0 0), (10, .dat (.int .i64 i)), (11, .dat (.int .i64 k))], [sysO s, .box [.dat (.sl none (intsD L))]], 0, []⟩)
    (fun k => k ≤ c.steps.length ∧ noBad E L i k []) (fun k => c.steps.length - k) 0 ⟨Nat.zero_le _, hI⟩ ?_ ?_
  · exact le_slots' (by simp only [go_sem, Int.natCast_zero])
  rintro k ⟨hk, hK⟩
  refine sem_of_awp (Γ := tbl tabVR) tabVR_ok _ _ _ ?_
  cases hd2 : c.steps.drop k with
  | nil =>
    have := end_of_drop hd2 hk
    have hk2 : ¬ (k : Int) < c.steps.length := by omega
    rw [this] at hK
    simp only [go_sem, Int.reduceEq, Int.reduceLT, Int.reduceLE, eq_self, Int.natCast_nonneg, Int.toNat_natCast, hi2, hi0, hn, hlt, clsD, stepsD, hk2, List.length_map]
    refine ⟨inR_i64.2 (by omega), i + 1, ⟨by omega, noBad_class hE hgc hK⟩, by omega, ?_⟩
    exact le_slots' (by simp only [go_sem, Int.natCast_add, Int.cast_ofNat_Int])
  | cons x q =>
  have hlt2 := lt_of_drop hd2
  have hk2 : (k : Int) < c.steps.length := by omega
  have hk0 : (0 : Int) ≤ k := Int.natCast_nonneg k
  have hn2 := nth_of_drop (f := stepD) hd2
  have hgx := get_of_drop hd2
  have hp := hc.pre x (mem_of_drop hd2)
  have hw := waitN_at h hgc hgx
  simp only [go_sem, Int.reduceEq, Int.reduceLT, Int.reduceLE, eq_self, Int.natCast_nonneg, Int.toNat_natCast, hi2, hi0, hn, hlt, clsD, stepsD, hk2, List.length_map]
  refine call_data waitNR (by simp) [sysD s, .int .i64 i, .int .i64 k] _ rfl ⟨s, i, k, rfl, hf, rfl⟩ (.inl rfl) ?_
  rw [hw]
  cases hb : waitB s x with
  | false =>
    simp only [go_sem, Int.reduceEq, Int.reduceLT, Int.reduceLE, eq_self, Int.natCast_nonneg, Int.toNat_natCast]
    refine ⟨inR_i64.2 (by omega), k + 1, ⟨by omega, noBad_skip hE hgc hgx hb hK⟩, by omega, ?_⟩
    exact le_slots' (by simp only [go_sem, Int.natCast_add, Int.cast_ofNat_Int])
  | true =>
  simp only [go_sem, Int.reduceEq, Int.reduceLT, Int.reduceLE, eq_self, Int.natCast_nonneg, Int.toNat_natCast]
  refine call_data holdR (by simp) [sysD s, .int .i64 i, .int .i64 k] _ rfl ⟨s, i, k, rfl, hf, h, hlt, by rw [hcd]; omega, rfl⟩ (.inl rfl) ?_
  rw [hcd]
  have hhl := holdL_len s c i (c.steps.take k)
  have hrange := fun f (hh : f ∈ holdL s c i (c.steps.take k)) => holdL_range (i := i) hlt hh
  have hhas := fun f => hE.has i k c x f hgc hgx hb
  have hend := noBad_step (L := L) hE hgc hgx
  obtain ⟨t, ht, htn⟩ := target_nat hg hp hb
  simp only [go_sem, Int.reduceEq, Int.reduceLT, Int.reduceLE, eq_self, Int.natCast_nonneg, Int.toNat_natCast]
  refine sem_draw (pf := [35, 47]) (Γ := tbl tabVR) mixed tabVR_ok pureVR [0, 1, 2, 3, 4, 5, 6, 7, 8, 9, 10, 11] (by kernel_rfl) ?_
  simp only [go_sem, Int.reduceEq, Int.reduceLT, Int.reduceLE, eq_self, Int.natCast_nonneg, Int.toNat_natCast, chainI, hi2, hi0, hn, hlt, clsD, stepsD, hk2, hk0, hn2, hlt2, List.length_map]
  refine call_data targetR (by simp) [sysD s, stepD x] _ rfl ⟨s, x, rfl, hg, hp, rfl⟩ (.inl rfl) ?_
  simp only [go_sem, Int.reduceEq, Int.reduceLT, Int.reduceLE, eq_self, Int.natCast_nonneg, Int.toNat_natCast, chainI]
  generalize holdL s c i (c.steps.take k) = H at *
  have hnp := hg.np
  have hnl := hg.nl
  refine sem_loop (fun j : Nat => ⟨slotsOf 112 [(2, .ptr 0 0 0), (3, .ptr 1 0 0), (10, .dat (.int .i64 i)), (11, .dat (.int .i64 k)), (12, .dat (.sl none (intsD H))), (13, .dat (.int .i64 (targetN s x))), (14, .dat (.int .i64 j))], [sysO s, .box [.dat (.sl none (intsD L))]], 0, []⟩)
    (fun j => j ≤ H.length ∧ noBad E L i k (H.take j)) (fun j => H.length - j) 0 ⟨Nat.zero_le _, hK⟩ ?_ ?_
  · exact le_slots' (by simp only [go_sem, Int.natCast_zero])
  rintro j ⟨hj, hJ⟩
  refine sem_of_awp (Γ := tbl tabVR) tabVR_ok _ _ _ ?_
  cases hd3 : H.drop j with
  | nil =>
    have := end_of_drop hd3 hj
    have hj2 : ¬ (j : Int) < H.length := by omega
    rw [this, List.take_length] at hJ
    simp only [go_sem, Int.reduceEq, Int.reduceLT, Int.reduceLE, eq_self, Int.natCast_nonneg, Int.toNat_natCast, hj2, ints_len]
    refine ⟨inR_i64.2 (by omega), k + 1, ⟨by omega, hend hJ⟩, by omega, ?_⟩
    exact le_slots' (by simp only [go_sem, Int.natCast_add, Int.cast_ofNat_Int])
  | cons f r3 =>
  have hlt3 := lt_of_drop hd3
  have hj2 : (j : Int) < H.length := by omega
  have hj0 : (0 : Int) ≤ j := Int.natCast_nonneg j
  have hn3 := nth_of_drop (f := .int .i64) hd3
  have hfm := mem_of_drop hd3
  obtain ⟨fr, rfl, hfr, _⟩ := hrange f hfm
  have hfr : fr < nRes s := hfr
  have g1 := ints_nth (l := L) 0 (i := fr) (by omega)
  have g2 := ints_nth (l := L) 0 (i := t) (by omega)
  have b1 : fr < L.length := by omega
  have b2 : t < L.length := by omega
  have b3 : (fr : Int) < L.length := by omega
  have b4 : (t : Int) < L.length := by omega
  simp only [go_sem, Int.reduceEq, Int.reduceLT, Int.reduceLE, eq_self, Int.natCast_nonneg, Int.toNat_natCast, hj2, ints_len]
  refine sem_draw (pf := []) (Γ := tbl tabVR) mixed tabVR_ok (fun g _ _ _ _ _ h => by cases h) [0, 1, 2, 3, 4, 5, 6, 7, 8, 9, 10, 11, 12, 13] (by kernel_rfl) ?_
  by_cases hbad : L.getD fr 0 ≤ L.getD t 0
  · obtain ⟨e, he, he1, he2⟩ := hasE_iff.1 (hhas _ hfm)
    have hany : E.any (badV L) = true := by
      refine List.any_eq_true.2 ⟨e, he, ?_⟩
      unfold badV PEdge.s PEdge.t
      rw [he1, he2, ht, Int.toNat_natCast, Int.toNat_natCast]
      exact decide_eq_true hbad
    rw [hany, if_pos rfl] at hv1
    subst hv1
    simp only [go_sem, Int.reduceEq, Int.reduceLT, Int.reduceLE, eq_self, Int.natCast_nonneg, Int.toNat_natCast, chainI, hj2, hj0, hlt3, hn3, ht, g1, g2, b1, b2, b3, b4, ints_len, hbad]
    exact post_data (.inl rfl) [4] rfl trivial rfl
  · simp only [go_sem, Int.reduceEq, Int.reduceLT, Int.reduceLE, eq_self, Int.natCast_nonneg, Int.toNat_natCast, chainI, hj2, hj0, hlt3, hn3, ht, g1, g2, b1, b2, b3, b4, ints_len, hbad]
    refine ⟨inR_i64.2 (by omega), j + 1, ⟨by omega, ?_⟩, by omega, ?_⟩
    · rw [take_of_drop hd3]
      refine noBad_snoc hE hgc hgx hJ fun e he h1 h2 => ?_
      unfold badV PEdge.s PEdge.t
      rw [h1, h2, ht, Int.toNat_natCast, Int.toNat_natCast]
      exact decide_eq_false hbad
    · exact le_slots' (by simp only [go_sem, Int.natCast_add, Int.cast_ofNat_Int])
end Go.AM

set_option maxRecDepth 100000
namespace Go.AM
open Go Go.Proofs
theorem cev1 : evalM Try.prog [] 1000 24 [(.agg [(.sl (some 3) [(.agg [(.str [102, 114, 97, 109, 101, 115]), (.int .i64 4), (.int .i64 1)])]), (.sl none [(.str [109, 97, 112])]), (.sl (some 4) [(.agg [(.str [102, 97, 117, 108, 116]), (.int .i64 2), (.bool false), (.sl (some 4) [(.agg [(.int .i64 3), (.int .i64 0), (.int .i64 0), (.bool false)]), (.agg [(.int .i64 1), (.int .i64 0), (.int .i64 1), (.bool false)]), (.agg [(.int .i64 1), (.int .i64 0), (.int .i64 1), (.bool false)]), (.agg [(.int .i64 5), (.int .i64 1), (.int .i64 0), (.bool false)]), (.agg [(.int .i64 2), (.int .i64 0), (.int .i64 2), (.bool false)]), (.agg [(.int .i64 4), (.int .i64 0), (.int .i64 0), (.bool false)])])]), (.agg [(.str [101, 118, 105, 99, 116]), (.int .i64 1), (.bool true), (.sl (some 4) [(.agg [(.int .i64 1), (.int .i64 0), (.int .i64 1), (.bool true)]), (.agg [(.int .i64 2), (.int .i64 0), (.int .i64 1), (.bool false)])])])])])] = some ((.tup [(.sl 0 0 4), (.dat (.int .i64 0))]), [(.row (some 4) [(.agg [(.int .i64 1), (.int .i64 0), (.int .i64 0), (.int .i64 1)]), (.agg [(.int .i64 0), (.int .i64 0), (.int .i64 0), (.int .i64 2)]), (.agg [(.int .i64 0), (.int .i64 3), (.int .i64 0), (.int .i64 3)]), (.agg [(.int .i64 1), (.int .i64 3), (.int .i64 0), (.int .i64 3)])])]) := by kernel_rfl
end Go.AM

set_option maxRecDepth 100000
namespace Go.AM
open Go Go.Proofs
theorem cev2 : evalM Try.prog [] 1000 24 [(.agg [(.sl (some 3) [(.agg [(.str [102, 114, 97, 109, 101, 115]), (.int .i64 4), (.int .i64 1)])]), (.sl none [(.str [109, 97, 112])]), (.sl (some 4) [(.agg [(.str [102, 97, 117, 108, 116]), (.int .i64 2), (.bool false), (.sl (some 4) [(.agg [(.int .i64 3), (.int .i64 0), (.int .i64 0), (.bool false)]), (.agg [(.int .i64 1), (.int .i64 0), (.int .i64 1), (.bool false)]), (.agg [(.int .i64 5), (.int .i64 1), (.int .i64 0), (.bool false)]), (.agg [(.int .i64 2), (.int .i64 0), (.int .i64 1), (.bool false)]), (.agg [(.int .i64 4), (.int .i64 0), (.int .i64 0), (.bool false)])])]), (.agg [(.str [101, 118, 105, 99, 116]), (.int .i64 1), (.bool true), (.sl (some 4) [(.agg [(.int .i64 1), (.int .i64 0), (.int .i64 1), (.bool true)]), (.agg [(.int .i64 2), (.int .i64 0), (.int .i64 1), (.bool false)])])])])])] = some ((.tup [(.sl 0 0 2), (.dat (.int .i64 0))]), [(.row (some 4) [(.agg [(.int .i64 0), (.int .i64 3), (.int .i64 0), (.int .i64 2)]), (.agg [(.int .i64 1), (.int .i64 3), (.int .i64 0), (.int .i64 2)])])]) := by kernel_rfl
end Go.AM

set_option maxRecDepth 100000
namespace Go.AM
open Go Go.Proofs
theorem cev3 : evalM Try.prog [] 1000 24 [(.agg [(.sl (some 3) [(.agg [(.str [102, 114, 97, 109, 101, 115]), (.int .i64 4), (.int .i64 1)])]), (.sl none [(.str [109, 97, 112])]), (.sl (some 4) [(.agg [(.str [102, 97, 117, 108, 116]), (.int .i64 2), (.bool false), (.sl (some 4) [(.agg [(.int .i64 3), (.int .i64 0), (.int .i64 0), (.bool false)]), (.agg [(.int .i64 1), (.int .i64 0), (.int .i64 1), (.bool false)]), (.agg [(.int .i64 5), (.int .i64 1), (.int .i64 0), (.bool false)]), (.agg [(.int .i64 2), (.int .i64 0), (.int .i64 1), (.bool false)]), (.agg [(.int .i64 4), (.int .i64 0), (.int .i64 0), (.bool false)])])]), (.agg [(.str [101, 118, 105, 99, 116]), (.int .i64 0), (.bool true), (.sl (some 4) [(.agg [(.int .i64 1), (.int .i64 0), (.int .i64 1), (.bool true)]), (.agg [(.int .i64 2), (.int .i64 0), (.int .i64 1), (.bool false)])])])])])] = some ((.tup [(.sl 0 0 2), (.dat (.int .i64 0))]), [(.row (some 4) [(.agg [(.int .i64 0), (.int .i64 3), (.int .i64 0), (.int .i64 2)]), (.agg [(.int .i64 1), (.int .i64 3), (.int .i64 0), (.int .i64 2)])])]) := by kernel_rfl
end Go.AM

set_option maxRecDepth 100000
namespace Go.AM
open Go Go.Proofs
theorem cev4 : evalM Try.prog [] 1000 31 [(.int .i64 4), (.sl (some 4) [(.agg [(.int .i64 1), (.int .i64 0), (.int .i64 0), (.int .i64 1)]), (.agg [(.int .i64 0), (.int .i64 0), (.int .i64 0), (.int .i64 2)]), (.agg [(.int .i64 0), (.int .i64 3), (.int .i64 0), (.int .i64 3)]), (.agg [(.int .i64 1), (.int .i64 3), (.int .i64 0), (.int .i64 3)])])] = some ((.tup [.nils, (.dat (.int .i64 10))]), []) := by kernel_rfl
theorem cev5 : evalM Try.prog [] 1000 31 [(.int .i64 4), (.sl (some 4) [(.agg [(.int .i64 0), (.int .i64 3), (.int .i64 0), (.int .i64 2)]), (.agg [(.int .i64 1), (.int .i64 3), (.int .i64 0), (.int .i64 2)])])] = some ((.tup [(.sl 0 0 4), (.dat (.int .i64 0))]), [(.row none [(.int .i64 1), (.int .i64 1), (.int .i64 0), (.int .i64 0)])]) := by kernel_rfl
theorem cev6 : evalM Try.prog [] 1000 40 [(.int .i64 4), (.sl (some 4) [(.agg [(.int .i64 1), (.int .i64 0), (.int .i64 0), (.int .i64 1)]), (.agg [(.int .i64 0), (.int .i64 0), (.int .i64 0), (.int .i64 2)]), (.agg [(.int .i64 0), (.int .i64 3), (.int .i64 0), (.int .i64 3)]), (.agg [(.int .i64 1), (.int .i64 3), (.int .i64 0), (.int .i64 3)])])] = some ((.tup [(.sl 0 0 1), (.dat (.int .i64 0))]), [(.row none [(.int .i64 1)])]) := by kernel_rfl
end Go.AM

set_option maxRecDepth 100000
namespace Go.AM
open Go Go.Proofs

theorem mixedP : Try.prog.follows .mixedOrders = true := by kernel_rfl
theorem names : Names Try.prog := by
  have h : (Try.prog.funcs.toList.all fun f => decide (f.name ≠ "runtime.NumGoroutine")) = true := by kernel_rfl
  intro g fn hf
  have := List.all_eq_true.1 h fn (List.mem_of_getElem? (by simpa using hf))
  simpa using this
end Go.AM

set_option maxRecDepth 100000
namespace Go.AM
open Go Go.Proofs
def tabC1 : Tab := (24, [(.agg [(.sl (some 3) [(.agg [(.str [102, 114, 97, 109, 101, 115]), (.int .i64 4), (.int .i64 1)])]), (.sl none [(.str [109, 97, 112])]), (.sl (some 4) [(.agg [(.str [102, 97, 117, 108, 116]), (.int .i64 2), (.bool false), (.sl (some 4) [(.agg [(.int .i64 3), (.int .i64 0), (.int .i64 0), (.bool false)]), (.agg [(.int .i64 1), (.int .i64 0), (.int .i64 1), (.bool false)]), (.agg [(.int .i64 1), (.int .i64 0), (.int .i64 1), (.bool false)]), (.agg [(.int .i64 5), (.int .i64 1), (.int .i64 0), (.bool false)]), (.agg [(.int .i64 2), (.int .i64 0), (.int .i64 2), (.bool false)]), (.agg [(.int .i64 4), (.int .i64 0), (.int .i64 0), (.bool false)])])]), (.agg [(.str [101, 118, 105, 99, 116]), (.int .i64 1), (.bool true), (.sl (some 4) [(.agg [(.int .i64 1), (.int .i64 0), (.int .i64 1), (.bool true)]), (.agg [(.int .i64 2), (.int .i64 0), (.int .i64 1), (.bool false)])])])])])], (.tup [(.sl 0 0 4), (.dat (.int .i64 0))]), [(.row (some 4) [(.agg [(.int .i64 1), (.int .i64 0), (.int .i64 0), (.int .i64 1)]), (.agg [(.int .i64 0), (.int .i64 0), (.int .i64 0), (.int .i64 2)]), (.agg [(.int .i64 0), (.int .i64 3), (.int .i64 0), (.int .i64 3)]), (.agg [(.int .i64 1), (.int .i64 3), (.int .i64 0), (.int .i64 3)])])]) :: []
theorem tabC1_ok : Base Try.prog tabC1 := base_cons base_nil base_nil mixedP names 1000 cev1
def tabC2 : Tab := (24, [(.agg [(.sl (some 3) [(.agg [(.str [102, 114, 97, 109, 101, 115]), (.int .i64 4), (.int .i64 1)])]), (.sl none [(.str [109, 97, 112])]), (.sl (some 4) [(.agg [(.str [102, 97, 117, 108, 116]), (.int .i64 2), (.bool false), (.sl (some 4) [(.agg [(.int .i64 3), (.int .i64 0), (.int .i64 0), (.bool false)]), (.agg [(.int .i64 1), (.int .i64 0), (.int .i64 1), (.bool false)]), (.agg [(.int .i64 5), (.int .i64 1), (.int .i64 0), (.bool false)]), (.agg [(.int .i64 2), (.int .i64 0), (.int .i64 1), (.bool false)]), (.agg [(.int .i64 4), (.int .i64 0), (.int .i64 0), (.bool false)])])]), (.agg [(.str [101, 118, 105, 99, 116]), (.int .i64 1), (.bool true), (.sl (some 4) [(.agg [(.int .i64 1), (.int .i64 0), (.int .i64 1), (.bool true)]), (.agg [(.int .i64 2), (.int .i64 0), (.int .i64 1), (.bool false)])])])])])], (.tup [(.sl 0 0 2), (.dat (.int .i64 0))]), [(.row (some 4) [(.agg [(.int .i64 0), (.int .i64 3), (.int .i64 0), (.int .i64 2)]), (.agg [(.int .i64 1), (.int .i64 3), (.int .i64 0), (.int .i64 2)])])]) :: tabC1
theorem tabC2_ok : Base Try.prog tabC2 := base_cons tabC1_ok base_nil mixedP names 1000 cev2
def tabC3 : Tab := (24, [(.agg [(.sl (some 3) [(.agg [(.str [102, 114, 97, 109, 101, 115]), (.int .i64 4), (.int .i64 1)])]), (.sl none [(.str [109, 97, 112])]), (.sl (some 4) [(.agg [(.str [102, 97, 117, 108, 116]), (.int .i64 2), (.bool false), (.sl (some 4) [(.agg [(.int .i64 3), (.int .i64 0), (.int .i64 0), (.bool false)]), (.agg [(.int .i64 1), (.int .i64 0), (.int .i64 1), (.bool false)]), (.agg [(.int .i64 5), (.int .i64 1), (.int .i64 0), (.bool false)]), (.agg [(.int .i64 2), (.int .i64 0), (.int .i64 1), (.bool false)]), (.agg [(.int .i64 4), (.int .i64 0), (.int .i64 0), (.bool false)])])]), (.agg [(.str [101, 118, 105, 99, 116]), (.int .i64 0), (.bool true), (.sl (some 4) [(.agg [(.int .i64 1), (.int .i64 0), (.int .i64 1), (.bool true)]), (.agg [(.int .i64 2), (.int .i64 0), (.int .i64 1), (.bool false)])])])])])], (.tup [(.sl 0 0 2), (.dat (.int .i64 0))]), [(.row (some 4) [(.agg [(.int .i64 0), (.int .i64 3), (.int .i64 0), (.int .i64 2)]), (.agg [(.int .i64 1), (.int .i64 3), (.int .i64 0), (.int .i64 2)])])]) :: tabC2
theorem tabC3_ok : Base Try.prog tabC3 := base_cons tabC2_ok base_nil mixedP names 1000 cev3
def tabC4 : Tab := (31, [(.int .i64 4), (.sl (some 4) [(.agg [(.int .i64 1), (.int .i64 0), (.int .i64 0), (.int .i64 1)]), (.agg [(.int .i64 0), (.int .i64 0), (.int .i64 0), (.int .i64 2)]), (.agg [(.int .i64 0), (.int .i64 3), (.int .i64 0), (.int .i64 3)]), (.agg [(.int .i64 1), (.int .i64 3), (.int .i64 0), (.int .i64 3)])])], (.tup [.nils, (.dat (.int .i64 10))]), []) :: tabC3
theorem tabC4_ok : Base Try.prog tabC4 := base_cons tabC3_ok base_nil mixedP names 1000 cev4
def tabC5 : Tab := (31, [(.int .i64 4), (.sl (some 4) [(.agg [(.int .i64 0), (.int .i64 3), (.int .i64 0), (.int .i64 2)]), (.agg [(.int .i64 1), (.int .i64 3), (.int .i64 0), (.int .i64 2)])])], (.tup [(.sl 0 0 4), (.dat (.int .i64 0))]), [(.row none [(.int .i64 1), (.int .i64 1), (.int .i64 0), (.int .i64 0)])]) :: tabC4
theorem tabC5_ok : Base Try.prog tabC5 := base_cons tabC4_ok base_nil mixedP names 1000 cev5
def tabC6 : Tab := (40, [(.int .i64 4), (.sl (some 4) [(.agg [(.int .i64 1), (.int .i64 0), (.int .i64 0), (.int .i64 1)]), (.agg [(.int .i64 0), (.int .i64 0), (.int .i64 0), (.int .i64 2)]), (.agg [(.int .i64 0), (.int .i64 3), (.int .i64 0), (.int .i64 3)]), (.agg [(.int .i64 1), (.int .i64 3), (.int .i64 0), (.int .i64 3)])])], (.tup [(.sl 0 0 1), (.dat (.int .i64 0))]), [(.row none [(.int .i64 1)])]) :: tabC5
theorem tabC6_ok : Base Try.prog tabC6 := base_cons tabC5_ok base_nil mixedP names 1000 cev6
end Go.AM

set_option maxRecDepth 100000
namespace Go.AM
open Go Go.Proofs
theorem cev7 : evalM Try.prog tabC6 1000 12 [(.agg [(.sl (some 3) [(.agg [(.str [102, 114, 97, 109, 101, 115]), (.int .i64 4), (.int .i64 1)])]), (.sl none [(.str [109, 97, 112])]), (.sl (some 4) [(.agg [(.str [102, 97, 117, 108, 116]), (.int .i64 2), (.bool false), (.sl (some 4) [(.agg [(.int .i64 3), (.int .i64 0), (.int .i64 0), (.bool false)]), (.agg [(.int .i64 1), (.int .i64 0), (.int .i64 1), (.bool false)]), (.agg [(.int .i64 1), (.int .i64 0), (.int .i64 1), (.bool false)]), (.agg [(.int .i64 5), (.int .i64 1), (.int .i64 0), (.bool false)]), (.agg [(.int .i64 2), (.int .i64 0), (.int .i64 2), (.bool false)]), (.agg [(.int .i64 4), (.int .i64 0), (.int .i64 0), (.bool false)])])]), (.agg [(.str [101, 118, 105, 99, 116]), (.int .i64 1), (.bool true), (.sl (some 4) [(.agg [(.int .i64 1), (.int .i64 0), (.int .i64 1), (.bool true)]), (.agg [(.int .i64 2), (.int .i64 0), (.int .i64 1), (.bool false)])])])])])] = some ((.tup [(.agg [.nils]), (.dat (.int .i64 20))]), []) := by kernel_rfl
theorem cev8 : evalM Try.prog tabC6 1000 12 [(.agg [(.sl (some 3) [(.agg [(.str [102, 114, 97, 109, 101, 115]), (.int .i64 4), (.int .i64 1)])]), (.sl none [(.str [109, 97, 112])]), (.sl (some 4) [(.agg [(.str [102, 97, 117, 108, 116]), (.int .i64 2), (.bool false), (.sl (some 4) [(.agg [(.int .i64 3), (.int .i64 0), (.int .i64 0), (.bool false)]), (.agg [(.int .i64 1), (.int .i64 0), (.int .i64 1), (.bool false)]), (.agg [(.int .i64 5), (.int .i64 1), (.int .i64 0), (.bool false)]), (.agg [(.int .i64 2), (.int .i64 0), (.int .i64 1), (.bool false)]), (.agg [(.int .i64 4), (.int .i64 0), (.int .i64 0), (.bool false)])])]), (.agg [(.str [101, 118, 105, 99, 116]), (.int .i64 1), (.bool true), (.sl (some 4) [(.agg [(.int .i64 1), (.int .i64 0), (.int .i64 1), (.bool true)]), (.agg [(.int .i64 2), (.int .i64 0), (.int .i64 1), (.bool false)])])])])])] = some ((.tup [(.agg [(.sl 0 0 4)]), (.dat (.int .i64 0))]), [(.row none [(.int .i64 1), (.int .i64 1), (.int .i64 0), (.int .i64 0)])]) := by kernel_rfl
theorem cev9 : evalM Try.prog tabC6 1000 12 [(.agg [(.sl (some 3) [(.agg [(.str [102, 114, 97, 109, 101, 115]), (.int .i64 4), (.int .i64 1)])]), (.sl none [(.str [109, 97, 112])]), (.sl (some 4) [(.agg [(.str [102, 97, 117, 108, 116]), (.int .i64 2), (.bool false), (.sl (some 4) [(.agg [(.int .i64 3), (.int .i64 0), (.int .i64 0), (.bool false)]), (.agg [(.int .i64 1), (.int .i64 0), (.int .i64 1), (.bool false)]), (.agg [(.int .i64 5), (.int .i64 1), (.int .i64 0), (.bool false)]), (.agg [(.int .i64 2), (.int .i64 0), (.int .i64 1), (.bool false)]), (.agg [(.int .i64 4), (.int .i64 0), (.int .i64 0), (.bool false)])])]), (.agg [(.str [101, 118, 105, 99, 116]), (.int .i64 0), (.bool true), (.sl (some 4) [(.agg [(.int .i64 1), (.int .i64 0), (.int .i64 1), (.bool true)]), (.agg [(.int .i64 2), (.int .i64 0), (.int .i64 1), (.bool false)])])])])])] = some ((.tup [(.agg [.nils]), (.dat (.int .i64 9))]), []) := by kernel_rfl
theorem cev10 : evalM Try.prog tabC6 1000 16 [(.agg [(.sl (some 3) [(.agg [(.str [102, 114, 97, 109, 101, 115]), (.int .i64 4), (.int .i64 1)])]), (.sl none [(.str [109, 97, 112])]), (.sl (some 4) [(.agg [(.str [102, 97, 117, 108, 116]), (.int .i64 2), (.bool false), (.sl (some 4) [(.agg [(.int .i64 3), (.int .i64 0), (.int .i64 0), (.bool false)]), (.agg [(.int .i64 1), (.int .i64 0), (.int .i64 1), (.bool false)]), (.agg [(.int .i64 1), (.int .i64 0), (.int .i64 1), (.bool false)]), (.agg [(.int .i64 5), (.int .i64 1), (.int .i64 0), (.bool false)]), (.agg [(.int .i64 2), (.int .i64 0), (.int .i64 2), (.bool false)]), (.agg [(.int .i64 4), (.int .i64 0), (.int .i64 0), (.bool false)])])]), (.agg [(.str [101, 118, 105, 99, 116]), (.int .i64 1), (.bool true), (.sl (some 4) [(.agg [(.int .i64 1), (.int .i64 0), (.int .i64 1), (.bool true)]), (.agg [(.int .i64 2), (.int .i64 0), (.int .i64 1), (.bool false)])])])])])] = some ((.tup [(.sl 0 0 1), (.dat (.int .i64 0))]), [(.row (some 4) [(.agg [(.int .i64 0), (.int .i64 0), (.int .i64 0), (.int .i64 2)])])]) := by kernel_rfl
theorem cef1 : evalF2 Try.prog tabC6 1000 14 [(.agg [(.sl (some 3) [(.agg [(.str [102, 114, 97, 109, 101, 115]), (.int .i64 4), (.int .i64 1)])]), (.sl none [(.str [109, 97, 112])]), (.sl (some 4) [(.agg [(.str [102, 97, 117, 108, 116]), (.int .i64 2), (.bool false), (.sl (some 4) [(.agg [(.int .i64 3), (.int .i64 0), (.int .i64 0), (.bool false)]), (.agg [(.int .i64 1), (.int .i64 0), (.int .i64 1), (.bool false)]), (.agg [(.int .i64 5), (.int .i64 1), (.int .i64 0), (.bool false)]), (.agg [(.int .i64 2), (.int .i64 0), (.int .i64 1), (.bool false)]), (.agg [(.int .i64 4), (.int .i64 0), (.int .i64 0), (.bool false)])])]), (.agg [(.str [101, 118, 105, 99, 116]), (.int .i64 0), (.bool true), (.sl (some 4) [(.agg [(.int .i64 1), (.int .i64 0), (.int .i64 1), (.bool true)]), (.agg [(.int .i64 2), (.int .i64 0), (.int .i64 1), (.bool false)])])])])])] = some (.tup [(.dat (.int .i64 0)), (.dat (.int .i64 2)), (.dat (.bool true))]) := by kernel_rfl
theorem cef2 : evalF2 Try.prog tabC6 1000 22 [(.agg [(.sl (some 3) [(.agg [(.str [102, 114, 97, 109, 101, 115]), (.int .i64 4), (.int .i64 1)])]), (.sl none [(.str [109, 97, 112])]), (.sl (some 4) [(.agg [(.str [102, 97, 117, 108, 116]), (.int .i64 2), (.bool false), (.sl (some 4) [(.agg [(.int .i64 3), (.int .i64 0), (.int .i64 0), (.bool false)]), (.agg [(.int .i64 1), (.int .i64 0), (.int .i64 1), (.bool false)]), (.agg [(.int .i64 5), (.int .i64 1), (.int .i64 0), (.bool false)]), (.agg [(.int .i64 2), (.int .i64 0), (.int .i64 1), (.bool false)]), (.agg [(.int .i64 4), (.int .i64 0), (.int .i64 0), (.bool false)])])]), (.agg [(.str [101, 118, 105, 99, 116]), (.int .i64 1), (.bool true), (.sl (some 4) [(.agg [(.int .i64 1), (.int .i64 0), (.int .i64 1), (.bool true)]), (.agg [(.int .i64 2), (.int .i64 0), (.int .i64 1), (.bool false)])])])])]), (.agg [(.sl none [(.int .i64 5), (.int .i64 9), (.int .i64 0), (.int .i64 3)])])] = some (.dat (.int .i64 0)) := by kernel_rfl
theorem cef3 : evalF2 Try.prog tabC6 1000 22 [(.agg [(.sl (some 3) [(.agg [(.str [102, 114, 97, 109, 101, 115]), (.int .i64 4), (.int .i64 1)])]), (.sl none [(.str [109, 97, 112])]), (.sl (some 4) [(.agg [(.str [102, 97, 117, 108, 116]), (.int .i64 2), (.bool false), (.sl (some 4) [(.agg [(.int .i64 3), (.int .i64 0), (.int .i64 0), (.bool false)]), (.agg [(.int .i64 1), (.int .i64 0), (.int .i64 1), (.bool false)]), (.agg [(.int .i64 5), (.int .i64 1), (.int .i64 0), (.bool false)]), (.agg [(.int .i64 2), (.int .i64 0), (.int .i64 1), (.bool false)]), (.agg [(.int .i64 4), (.int .i64 0), (.int .i64 0), (.bool false)])])]), (.agg [(.str [101, 118, 105, 99, 116]), (.int .i64 1), (.bool true), (.sl (some 4) [(.agg [(.int .i64 1), (.int .i64 0), (.int .i64 1), (.bool true)]), (.agg [(.int .i64 2), (.int .i64 0), (.int .i64 1), (.bool false)])])])])]), (.agg [(.sl none [(.int .i64 1), (.int .i64 1), (.int .i64 0), (.int .i64 1)])])] = some (.dat (.int .i64 19)) := by kernel_rfl
theorem cef4 : evalF2 Try.prog tabC6 1000 20 [(.agg [(.sl (some 3) [(.agg [(.str [102, 114, 97, 109, 101, 115]), (.int .i64 4), (.int .i64 1)])]), (.sl none [(.str [109, 97, 112])]), (.sl (some 4) [(.agg [(.str [102, 97, 117, 108, 116]), (.int .i64 2), (.bool false), (.sl (some 4) [(.agg [(.int .i64 3), (.int .i64 0), (.int .i64 0), (.bool false)]), (.agg [(.int .i64 1), (.int .i64 0), (.int .i64 1), (.bool false)]), (.agg [(.int .i64 1), (.int .i64 0), (.int .i64 1), (.bool false)]), (.agg [(.int .i64 5), (.int .i64 1), (.int .i64 0), (.bool false)]), (.agg [(.int .i64 2), (.int .i64 0), (.int .i64 2), (.bool false)]), (.agg [(.int .i64 4), (.int .i64 0), (.int .i64 0), (.bool false)])])]), (.agg [(.str [101, 118, 105, 99, 116]), (.int .i64 1), (.bool true), (.sl (some 4) [(.agg [(.int .i64 1), (.int .i64 0), (.int .i64 1), (.bool true)]), (.agg [(.int .i64 2), (.int .i64 0), (.int .i64 1), (.bool false)])])])])]), (.int .i64 0)] = some (.dat (.int .i64 1)) := by kernel_rfl
def tabD1 : Tab := (12, [(.agg [(.sl (some 3) [(.agg [(.str [102, 114, 97, 109, 101, 115]), (.int .i64 4), (.int .i64 1)])]), (.sl none [(.str [109, 97, 112])]), (.sl (some 4) [(.agg [(.str [102, 97, 117, 108, 116]), (.int .i64 2), (.bool false), (.sl (some 4) [(.agg [(.int .i64 3), (.int .i64 0), (.int .i64 0), (.bool false)]), (.agg [(.int .i64 1), (.int .i64 0), (.int .i64 1), (.bool false)]), (.agg [(.int .i64 1), (.int .i64 0), (.int .i64 1), (.bool false)]), (.agg [(.int .i64 5), (.int .i64 1), (.int .i64 0), (.bool false)]), (.agg [(.int .i64 2), (.int .i64 0), (.int .i64 2), (.bool false)]), (.agg [(.int .i64 4), (.int .i64 0), (.int .i64 0), (.bool false)])])]), (.agg [(.str [101, 118, 105, 99, 116]), (.int .i64 1), (.bool true), (.sl (some 4) [(.agg [(.int .i64 1), (.int .i64 0), (.int .i64 1), (.bool true)]), (.agg [(.int .i64 2), (.int .i64 0), (.int .i64 1), (.bool false)])])])])])], (.tup [(.agg [.nils]), (.dat (.int .i64 20))]), []) :: []
theorem tabD1_ok : Base Try.prog tabD1 := base_cons base_nil tabC6_ok mixedP names 1000 cev7
def tabD2 : Tab := (12, [(.agg [(.sl (some 3) [(.agg [(.str [102, 114, 97, 109, 101, 115]), (.int .i64 4), (.int .i64 1)])]), (.sl none [(.str [109, 97, 112])]), (.sl (some 4) [(.agg [(.str [102, 97, 117, 108, 116]), (.int .i64 2), (.bool false), (.sl (some 4) [(.agg [(.int .i64 3), (.int .i64 0), (.int .i64 0), (.bool false)]), (.agg [(.int .i64 1), (.int .i64 0), (.int .i64 1), (.bool false)]), (.agg [(.int .i64 5), (.int .i64 1), (.int .i64 0), (.bool false)]), (.agg [(.int .i64 2), (.int .i64 0), (.int .i64 1), (.bool false)]), (.agg [(.int .i64 4), (.int .i64 0), (.int .i64 0), (.bool false)])])]), (.agg [(.str [101, 118, 105, 99, 116]), (.int .i64 1), (.bool true), (.sl (some 4) [(.agg [(.int .i64 1), (.int .i64 0), (.int .i64 1), (.bool true)]), (.agg [(.int .i64 2), (.int .i64 0), (.int .i64 1), (.bool false)])])])])])], (.tup [(.agg [(.sl 0 0 4)]), (.dat (.int .i64 0))]), [(.row none [(.int .i64 1), (.int .i64 1), (.int .i64 0), (.int .i64 0)])]) :: tabD1
theorem tabD2_ok : Base Try.prog tabD2 := base_cons tabD1_ok tabC6_ok mixedP names 1000 cev8
def tabD3 : Tab := (12, [(.agg [(.sl (some 3) [(.agg [(.str [102, 114, 97, 109, 101, 115]), (.int .i64 4), (.int .i64 1)])]), (.sl none [(.str [109, 97, 112])]), (.sl (some 4) [(.agg [(.str [102, 97, 117, 108, 116]), (.int .i64 2), (.bool false), (.sl (some 4) [(.agg [(.int .i64 3), (.int .i64 0), (.int .i64 0), (.bool false)]), (.agg [(.int .i64 1), (.int .i64 0), (.int .i64 1), (.bool false)]), (.agg [(.int .i64 5), (.int .i64 1), (.int .i64 0), (.bool false)]), (.agg [(.int .i64 2), (.int .i64 0), (.int .i64 1), (.bool false)]), (.agg [(.int .i64 4), (.int .i64 0), (.int .i64 0), (.bool false)])])]), (.agg [(.str [101, 118, 105, 99, 116]), (.int .i64 0), (.bool true), (.sl (some 4) [(.agg [(.int .i64 1), (.int .i64 0), (.int .i64 1), (.bool true)]), (.agg [(.int .i64 2), (.int .i64 0), (.int .i64 1), (.bool false)])])])])])], (.tup [(.agg [.nils]), (.dat (.int .i64 9))]), []) :: tabD2
theorem tabD3_ok : Base Try.prog tabD3 := base_cons tabD2_ok tabC6_ok mixedP names 1000 cev9
def tabD4 : Tab := (16, [(.agg [(.sl (some 3) [(.agg [(.str [102, 114, 97, 109, 101, 115]), (.int .i64 4), (.int .i64 1)])]), (.sl none [(.str [109, 97, 112])]), (.sl (some 4) [(.agg [(.str [102, 97, 117, 108, 116]), (.int .i64 2), (.bool false), (.sl (some 4) [(.agg [(.int .i64 3), (.int .i64 0), (.int .i64 0), (.bool false)]), (.agg [(.int .i64 1), (.int .i64 0), (.int .i64 1), (.bool false)]), (.agg [(.int .i64 1), (.int .i64 0), (.int .i64 1), (.bool false)]), (.agg [(.int .i64 5), (.int .i64 1), (.int .i64 0), (.bool false)]), (.agg [(.int .i64 2), (.int .i64 0), (.int .i64 2), (.bool false)]), (.agg [(.int .i64 4), (.int .i64 0), (.int .i64 0), (.bool false)])])]), (.agg [(.str [101, 118, 105, 99, 116]), (.int .i64 1), (.bool true), (.sl (some 4) [(.agg [(.int .i64 1), (.int .i64 0), (.int .i64 1), (.bool true)]), (.agg [(.int .i64 2), (.int .i64 0), (.int .i64 1), (.bool false)])])])])])], (.tup [(.sl 0 0 1), (.dat (.int .i64 0))]), [(.row (some 4) [(.agg [(.int .i64 0), (.int .i64 0), (.int .i64 0), (.int .i64 2)])])]) :: tabD3
theorem tabD4_ok : Base Try.prog tabD4 := base_cons tabD3_ok tabC6_ok mixedP names 1000 cev10
end Go.AM

set_option maxRecDepth 8000
set_option maxHeartbeats 4000000
namespace Go.AM
open Go

theorem le_renP {s : List AV} {own own' : List Obj} {mv : List Nat} (π ρ : Nat → Nat) (h1 : ∀ o, ρ (π o) = o) (h2 : ∀ o, π (ρ o) = o) (hlt : ∀ o, o < own.length → ρ o < own.length) (hlt' : ∀ o, o < own.length → π o < own.length)
    (ho : own' = (List.range own.length).map fun o => (own.getD (ρ o) .dead).ren π) : Le ⟨s, own, 0, mv⟩ ⟨AV.rens π s, own', 0, mv⟩ := by
  rintro c a w ⟨hd, hn, F, φ, q2, q3, q4⟩
  have hφ : ∀ o L, φ o = some L → (fun i => φ (ρ i)) (π o) = some L := fun o L h => by simp only [h1]; exact h
  have hl : own'.length = own.length := by rw [ho]; simp
  have hn0 : c.n0 = 0 := hn.symm
  refine ⟨hd, hn, F, fun i => φ (ρ i), ⟨q2.sub, q2.ext, fun o L hlt' hm h => ?_, q2.rest, fun o L' ho' hn' => q2.orig (ρ o) L' ho' hn', q2.frsh⟩, ?_, AV.Rs_ren (π := π) (φ := φ) (φ' := fun i => φ (ρ i)) hφ s _ q4⟩
  · omega
  · refine ⟨q3.fb, fun o L h => q3.live (ρ o) L h, fun o o' L L' h h' n n' hne => q3.inj (ρ o) (ρ o') L L' h h' n n' (fun e => hne (by rw [← h2 o, ← h2 o', e])), fun o obj hob => ?_, fun o hge => ?_, q3.glob⟩
    · have hlt3 : o < own.length := by
        have := (List.getElem?_eq_some_iff.1 hob).1
        simp only [hl] at this
        exact this
      simp only [ho, List.getElem?_map, List.getElem?_range hlt3, Option.map_some, Option.some.injEq] at hob
      subst hob
      have hp := hlt o hlt3
      have := q3.rep (ρ o) (own.getD (ρ o) .dead) (by simp only; rw [List.getD_eq_getElem?_getD, List.getElem?_eq_getElem hp]; rfl)
      exact ObjR_ren (π := π) (φ := φ) (φ' := fun i => φ (ρ i)) hφ this
    · simp only [hl] at hge
      refine q3.out (ρ o) ?_
      simp only
      rcases Nat.lt_or_ge (ρ o) own.length with h | h
      · have := hlt' _ h
        rw [h2] at this
        omega
      · exact h
def pm (l : List Nat) (o : Nat) : Nat := l.getD o o
def pmOk (l m : List Nat) : Bool := decide (m.length = l.length) && (List.range l.length).all fun o => decide (pm m (pm l o) = o) && decide (pm l (pm m o) = o) && decide (pm m o < l.length) && decide (pm l o < l.length)
theorem le_pm {s s' : List AV} {own own' : List Obj} {mv : List Nat} (l m : List Nat) (h : pmOk l m = true) (hl : own.length = l.length) (hs : s' = AV.rens (pm l) s) (ho : own' = (List.range own.length).map fun o => (own.getD (pm m o) .dead).ren (pm l)) :
    Le ⟨s, own, 0, mv⟩ ⟨s', own', 0, mv⟩ := by
  subst hs
  simp only [pmOk, Bool.and_eq_true, decide_eq_true_eq, List.all_eq_true, List.mem_range] at h
  obtain ⟨hml, h⟩ := h
  have hb : ∀ o, l.length ≤ o → pm l o = o ∧ pm m o = o := fun o ho => by
    unfold pm
    rw [List.getD_eq_getElem?_getD, List.getD_eq_getElem?_getD, List.getElem?_eq_none (by omega), List.getElem?_eq_none (by omega)]
    exact ⟨rfl, rfl⟩
  have hc : ∀ o, pm m (pm l o) = o ∧ pm l (pm m o) = o := fun o => by
    rcases Nat.lt_or_ge o l.length with hh | hh
    · exact (h o hh).1.1
    · obtain ⟨e1, e2⟩ := hb o hh; rw [e1, e2, e1]; exact ⟨rfl, rfl⟩
  exact le_renP (pm l) (pm m) (fun o => (hc o).1) (fun o => (hc o).2) (fun o ho => by rw [hl] at ho ⊢; exact (h o ho).1.2) (fun o ho => by rw [hl] at ho ⊢; exact (h o ho).2) ho

def permT : Nat → List Nat → DT → DT
  | 0, _, t => t
  | f + 1, rest, t => rest.foldr (fun x u => .alt x (permT f (rest.erase x) t) u) .stop

end Go.AM

set_option maxRecDepth 8000
set_option maxHeartbeats 2000000
namespace Go.AM
open Go Go.Proofs

def fauS (n : Nat) : List PStep := [⟨3, 0, 0, false⟩] ++ List.replicate n ⟨1, 0, 1, false⟩ ++ [⟨5, 1, 0, false⟩, ⟨2, 0, n, false⟩, ⟨4, 0, 0, false⟩]
def fauE : List PStep := [⟨1, 0, 1, true⟩, ⟨2, 0, 1, false⟩]
def fau (n : Nat) (w : Int) : PSys := ⟨[⟨[102, 114, 97, 109, 101, 115], 4, 1⟩], [[109, 97, 112]], [⟨[102, 97, 117, 108, 116], 2, false, fauS n⟩, ⟨[101, 118, 105, 99, 116], w, true, fauE⟩]⟩
def fauR (ds : List D) (v : AV) (ob : List Obj) : Prop := ∃ n : Nat, n ≤ 10 ∧ ds = [.int .i64 n] ∧ v = .agg [.sl 0 0 1, .sl 1 0 1, .sl 2 0 2] ∧
  ob = [.row (some 3) ((fau n 1).pools.map poolD), .row none ((fau n 1).locks.map .str), .row (some 4) ((fau n 1).classes.map clsD)]
theorem faults_ok : OkF Try.prog 29 (madeC fauR) := by
  refine okF_made Try.func29 rfl (by decide) ?_
  rintro ds v ob ⟨n, hn, rfl, rfl, rfl⟩
  refine sem_of_awpK [8] (Γ := tbl []) okG_nil _ _ _ ?_
  simp only [go_sem, Int.reduceEq, Int.reduceLT, Int.reduceLE, eq_self, Int.natCast_nonneg, Int.toNat_natCast, Try.ntmps29]
  have hS : ∀ k, [stepD ⟨3, 0, 0, false⟩] ++ List.replicate k (stepD ⟨1, 0, 1, false⟩) ++ [stepD ⟨1, 0, 1, false⟩] = [stepD ⟨3, 0, 0, false⟩] ++ List.replicate (k + 1) (stepD ⟨1, 0, 1, false⟩) := fun k => by rw [List.append_assoc, List.replicate_succ']
  refine sem_loop (fun k : Nat => ⟨slotsOf 34 [(0, .dat (.int .i64 n)), (2, .ptr 0 0 0), (3, .sl 1 0 (k + 1)), (7, .dat (.int .i64 n)), (8, .dat (.int .i64 k))], [.box [.nils, .nils, .nils], .row (some 4) ([stepD ⟨3, 0, 0, false⟩] ++ List.replicate k (stepD ⟨1, 0, 1, false⟩))], 0, []⟩)
    (fun k => k ≤ n) (fun k => n - k) 0 (Nat.zero_le _) ?_ ?_
  · exact le_slots' (by simp only [go_sem, Int.natCast_zero])
  rintro k hk
  have hlen : ([stepD ⟨3, 0, 0, false⟩] ++ List.replicate k (stepD ⟨1, 0, 1, false⟩)).length = k + 1 := by simp
  have htk : List.take (k + 1) ([stepD ⟨3, 0, 0, false⟩] ++ List.replicate k (stepD ⟨1, 0, 1, false⟩)) = [stepD ⟨3, 0, 0, false⟩] ++ List.replicate k (stepD ⟨1, 0, 1, false⟩) := List.take_of_length_le (by omega)
  by_cases hkn : k = n
  case neg =>
    refine sem_of_awp (Γ := tbl []) okG_nil _ _ _ ?_
    have hk2 : (k : Int) < n := by omega
    have hs := hS k
    have hag : (stepD ⟨1, 0, 1, false⟩) = .agg [.int .i64 1, .int .i64 0, .int .i64 1, .bool false] := rfl
    rw [hag] at hs hlen htk ⊢
    generalize ([stepD ⟨3, 0, 0, false⟩] ++ List.replicate k (D.agg [.int .i64 1, .int .i64 0, .int .i64 1, .bool false])) = X at *
    simp only [go_sem, Int.reduceEq, Int.reduceLT, Int.reduceLE, eq_self, Int.natCast_nonneg, Int.toNat_natCast, hk2, hlen, htk, hs]
    refine ⟨by omega, by omega, inR_i64.2 (by omega), k + 1, by omega, by omega, ?_⟩
    refine le_end (own := [_, _]) (ex := [_]) (Nat.zero_le _) ?_ ?_ ?_
    · simp only [go_sem, Int.natCast_add, Int.cast_ofNat_Int]
    · simp only [go_sem]
    · simp only [go_sem, Obj.under, AV.unders, AV.under]
  subst hkn
  have hk2 : ¬ (k : Int) < k := by omega
  refine sem_of_awp (Γ := tbl []) okG_nil _ _ _ ?_
  generalize hX : ([stepD ⟨3, 0, 0, false⟩] ++ List.replicate k (stepD ⟨1, 0, 1, false⟩)) = X at *
  simp only [go_sem, Int.reduceEq, Int.reduceLT, Int.reduceLE, eq_self, Int.natCast_nonneg, Int.toNat_natCast, hk2, hlen, htk]
  refine ⟨by omega, by omega, ?_⟩
  refine sem_le (le_freeze 3 (ag := some 4) rfl (Nat.zero_le _)) ?_
  refine sem_le (le_freeze 1 (ag := some 4) rfl (Nat.zero_le _)) ?_
  have hE : List.take (k + 1 + 3) (X ++ [D.agg [.int .i64 5, .int .i64 1, .int .i64 0, .bool false], .agg [.int .i64 2, .int .i64 0, .int .i64 k, .bool false], .agg [.int .i64 4, .int .i64 0, .int .i64 0, .bool false]]) = (fauS k).map stepD := by
    rw [List.take_of_length_le (by simp [hlen]), ← hX]
    simp only [fauS, List.map_append, List.map_replicate, List.map_cons, List.map_nil]
    rfl
  have hEl : ((X ++ [D.agg [.int .i64 5, .int .i64 1, .int .i64 0, .bool false], .agg [.int .i64 2, .int .i64 0, .int .i64 k, .bool false], .agg [.int .i64 4, .int .i64 0, .int .i64 0, .bool false]])).length = k + 1 + 3 := by simp [hlen]
  refine sem_of_awp (Γ := tbl []) okG_nil _ _ _ ?_
  simp only [go_sem, Int.reduceEq, Int.reduceLT, Int.reduceLE, eq_self, Int.natCast_nonneg, Int.toNat_natCast, hE, hEl]
  refine post_resO (.inl rfl) [.cell 2 26] rfl (fun _ h => h) ?_
  simp only [go_sem]
  refine Le.trans (le_pm (s' := [.agg [.sl 0 0 1, .sl 1 0 1, .sl 2 0 2]]) (own' := _) [4, 5, 6, 3, 0, 1, 2] [4, 5, 6, 3, 0, 1, 2] (by decide) rfl rfl rfl) ?_
  refine le_end (own := [_, _, _]) (ex := [_, _, _, _]) (Nat.zero_le _) ?_ ?_ ?_
  · simp only [go_sem]
  · simp only [go_sem]
  · exact ⟨trivial, trivial, trivial, trivial⟩
end Go.AM

set_option maxRecDepth 100000
set_option maxHeartbeats 2000000
namespace Go.AM
open Go Go.Proofs

def knownR (g : Nat) (ds : List D) (v : AV) (ob : List Obj) : Prop := (g, ds, v, ob) ∈ tabD4
theorem known_ok {g : Nat} {fn : Func} {body : Code} (hf : Try.prog.funcs[g]? = some fn) (hb : fn.body = some body) (hname : fn.name ≠ "runtime.NumGoroutine") : OkF Try.prog g (madeC (knownR g)) :=
  okF_made hf hb hname fun ds v ob h => tabD4_ok g ds v ob h fn body hf hb
def impK : List (List D × AV) := [([(.agg [(.sl (some 3) [(.agg [(.str [102, 114, 97, 109, 101, 115]), (.int .i64 4), (.int .i64 1)])]), (.sl none [(.str [109, 97, 112])]), (.sl (some 4) [(.agg [(.str [102, 97, 117, 108, 116]), (.int .i64 2), (.bool false), (.sl (some 4) [(.agg [(.int .i64 3), (.int .i64 0), (.int .i64 0), (.bool false)]), (.agg [(.int .i64 1), (.int .i64 0), (.int .i64 1), (.bool false)]), (.agg [(.int .i64 5), (.int .i64 1), (.int .i64 0), (.bool false)]), (.agg [(.int .i64 2), (.int .i64 0), (.int .i64 1), (.bool false)]), (.agg [(.int .i64 4), (.int .i64 0), (.int .i64 0), (.bool false)])])]), (.agg [(.str [101, 118, 105, 99, 116]), (.int .i64 0), (.bool true), (.sl (some 4) [(.agg [(.int .i64 1), (.int .i64 0), (.int .i64 1), (.bool true)]), (.agg [(.int .i64 2), (.int .i64 0), (.int .i64 1), (.bool false)])])])])])], (.tup [(.dat (.int .i64 0)), (.dat (.int .i64 2)), (.dat (.bool true))]))]
def verK : List (List D × AV) := [([(.agg [(.sl (some 3) [(.agg [(.str [102, 114, 97, 109, 101, 115]), (.int .i64 4), (.int .i64 1)])]), (.sl none [(.str [109, 97, 112])]), (.sl (some 4) [(.agg [(.str [102, 97, 117, 108, 116]), (.int .i64 2), (.bool false), (.sl (some 4) [(.agg [(.int .i64 3), (.int .i64 0), (.int .i64 0), (.bool false)]), (.agg [(.int .i64 1), (.int .i64 0), (.int .i64 1), (.bool false)]), (.agg [(.int .i64 5), (.int .i64 1), (.int .i64 0), (.bool false)]), (.agg [(.int .i64 2), (.int .i64 0), (.int .i64 1), (.bool false)]), (.agg [(.int .i64 4), (.int .i64 0), (.int .i64 0), (.bool false)])])]), (.agg [(.str [101, 118, 105, 99, 116]), (.int .i64 1), (.bool true), (.sl (some 4) [(.agg [(.int .i64 1), (.int .i64 0), (.int .i64 1), (.bool true)]), (.agg [(.int .i64 2), (.int .i64 0), (.int .i64 1), (.bool false)])])])])]), (.agg [(.sl none [(.int .i64 5), (.int .i64 9), (.int .i64 0), (.int .i64 3)])])], (.dat (.int .i64 0))), ([(.agg [(.sl (some 3) [(.agg [(.str [102, 114, 97, 109, 101, 115]), (.int .i64 4), (.int .i64 1)])]), (.sl none [(.str [109, 97, 112])]), (.sl (some 4) [(.agg [(.str [102, 97, 117, 108, 116]), (.int .i64 2), (.bool false), (.sl (some 4) [(.agg [(.int .i64 3), (.int .i64 0), (.int .i64 0), (.bool false)]), (.agg [(.int .i64 1), (.int .i64 0), (.int .i64 1), (.bool false)]), (.agg [(.int .i64 5), (.int .i64 1), (.int .i64 0), (.bool false)]), (.agg [(.int .i64 2), (.int .i64 0), (.int .i64 1), (.bool false)]), (.agg [(.int .i64 4), (.int .i64 0), (.int .i64 0), (.bool false)])])]), (.agg [(.str [101, 118, 105, 99, 116]), (.int .i64 1), (.bool true), (.sl (some 4) [(.agg [(.int .i64 1), (.int .i64 0), (.int .i64 1), (.bool true)]), (.agg [(.int .i64 2), (.int .i64 0), (.int .i64 1), (.bool false)])])])])]), (.agg [(.sl none [(.int .i64 1), (.int .i64 1), (.int .i64 0), (.int .i64 1)])])], (.dat (.int .i64 19)))]
def enoK : List (List D × AV) := [([(.agg [(.sl (some 3) [(.agg [(.str [102, 114, 97, 109, 101, 115]), (.int .i64 4), (.int .i64 1)])]), (.sl none [(.str [109, 97, 112])]), (.sl (some 4) [(.agg [(.str [102, 97, 117, 108, 116]), (.int .i64 2), (.bool false), (.sl (some 4) [(.agg [(.int .i64 3), (.int .i64 0), (.int .i64 0), (.bool false)]), (.agg [(.int .i64 1), (.int .i64 0), (.int .i64 1), (.bool false)]), (.agg [(.int .i64 1), (.int .i64 0), (.int .i64 1), (.bool false)]), (.agg [(.int .i64 5), (.int .i64 1), (.int .i64 0), (.bool false)]), (.agg [(.int .i64 2), (.int .i64 0), (.int .i64 2), (.bool false)]), (.agg [(.int .i64 4), (.int .i64 0), (.int .i64 0), (.bool false)])])]), (.agg [(.str [101, 118, 105, 99, 116]), (.int .i64 1), (.bool true), (.sl (some 4) [(.agg [(.int .i64 1), (.int .i64 0), (.int .i64 1), (.bool true)]), (.agg [(.int .i64 2), (.int .i64 0), (.int .i64 1), (.bool false)])])])])]), (.int .i64 0)], (.dat (.int .i64 1)))]
theorem impK_ok : OkF Try.prog 14 (dataC fun ds v => (ds, v) ∈ impK) := okF_eval2 tabC6_ok mixedP names 1000 _ (fun x hx => by
  simp only [impK, List.mem_singleton] at hx
  subst hx
  exact cef1)
theorem verK_ok : OkF Try.prog 22 (dataC fun ds v => (ds, v) ∈ verK) := okF_eval2 tabC6_ok mixedP names 1000 _ (fun x hx => by
  simp only [verK, List.mem_cons, List.not_mem_nil, or_false] at hx
  rcases hx with rfl | rfl
  · exact cef2
  · exact cef3)
theorem enoK_ok : OkF Try.prog 20 (dataC fun ds v => (ds, v) ∈ enoK) := okF_eval2 tabC6_ok mixedP names 1000 _ (fun x hx => by
  simp only [enoK, List.mem_singleton] at hx
  subst hx
  exact cef4)
abbrev tabAK : List (Nat × Contract) := [(29, madeC fauR), (12, madeC (knownR 12)), (16, madeC (knownR 16)), (14, dataC fun ds v => (ds, v) ∈ impK), (22, dataC fun ds v => (ds, v) ∈ verK), (20, dataC fun ds v => (ds, v) ∈ enoK), (30, dataC sameR)]
theorem tabAK_ok : OkG Try.prog (tbl tabAK) := okG_cons faults_ok (okG_cons (known_ok Try.func12 rfl (by decide)) (okG_cons (known_ok Try.func16 rfl (by decide)) (okG_cons impK_ok (okG_cons verK_ok (okG_cons enoK_ok (okG_cons same_ok okG_nil))))))
theorem bin_eqlW {K : AV → Prop} : binTop Try.prog .eql 46 (.dat (.agg [.int .i64 0, .int .i64 0, .int .i64 0, .int .i64 2])) (.dat (.agg [.int .i64 0, .int .i64 0, .int .i64 0, .int .i64 2])) K = K (.dat (.bool true)) := by
  have h : PEdge.fit ⟨0, 0, 0, 2⟩ := ⟨by decide, by decide, by decide, by decide⟩
  rw [bin_eql_agg eqOk_0 (nums_edge h) (nums_edge h)]
  rfl
abbrev awakeR : List D → AV → Prop := fun ds v => ds = [] ∧ v = .dat (.bool true)
theorem awakeR_true : awakeR [] (.dat (.bool true)) := ⟨rfl, rfl⟩
theorem awake_ok : OkF Try.prog 10 (dataC awakeR) := by
  refine okF_data Try.func10 rfl (by decide) ?_
  rintro ds v ⟨rfl, rfl⟩
  refine sem_of_awpK [2, 4, 9] (Γ := tbl tabAK) tabAK_ok _ _ _ ?_
  simp only [go_sem, Int.reduceEq, Int.reduceLT, Int.reduceLE, eq_self, Int.natCast_nonneg, Int.toNat_natCast, Try.ntmps10]
  refine call_made fauR (by simp) [.int .i64 (2 : Nat)] _ _ rfl rfl ⟨2, by decide, rfl, rfl, rfl⟩ ?_
  simp only [go_sem, Int.reduceEq, Int.reduceLT, Int.reduceLE, eq_self, Int.natCast_nonneg, Int.toNat_natCast, AV.shift, Obj.shift, AV.shifts]
  refine call_made fauR (by simp) [.int .i64 (1 : Nat)] _ _ rfl rfl ⟨1, by decide, rfl, rfl, rfl⟩ ?_
  simp only [go_sem, Int.reduceEq, Int.reduceLT, Int.reduceLE, eq_self, Int.natCast_nonneg, Int.toNat_natCast, AV.shift, Obj.shift, AV.shifts]
  have t1 : ∀ n w, List.take 1 (List.map poolD (fau n w).pools) = List.map poolD (fau n w).pools := fun _ _ => rfl
  have t2 : ∀ n w, List.take 1 (List.map D.str (fau n w).locks) = List.map D.str (fau n w).locks := fun _ _ => rfl
  have t3 : ∀ n w, List.take 2 (List.map clsD (fau n w).classes) = List.map clsD (fau n w).classes := fun _ _ => rfl
  have l1 : ∀ n w, (fau n w).pools.length = 1 := fun _ _ => rfl
  have l2 : ∀ n w, (fau n w).locks.length = 1 := fun _ _ => rfl
  have l3 : ∀ n w, (fau n w).classes.length = 2 := fun _ _ => rfl
  refine sem_le (le_freeze 5 (ag := some 4) rfl (Nat.zero_le _)) ?_
  refine sem_le (le_freeze 4 (ag := none) rfl (Nat.zero_le _)) ?_
  refine sem_le (le_freeze 3 (ag := some 3) rfl (Nat.zero_le _)) ?_
  refine sem_le (le_freeze 2 (ag := some 4) rfl (Nat.zero_le _)) ?_
  refine sem_le (le_freeze 1 (ag := none) rfl (Nat.zero_le _)) ?_
  refine sem_le (le_freeze 0 (ag := some 3) rfl (Nat.zero_le _)) ?_
  refine sem_of_awpK [4] (Γ := tbl tabAK) tabAK_ok _ _ _ ?_
  simp only [go_sem, Int.reduceEq, Int.reduceLT, Int.reduceLE, eq_self, Int.natCast_nonneg, Int.toNat_natCast, t1, t2, t3, l1, l2, l3, List.length_map]
  refine call_made fauR (by simp) [.int .i64 (1 : Nat)] _ _ rfl rfl ⟨1, by decide, rfl, rfl, rfl⟩ ?_
  have hc : List.map clsD (fau 1 1).classes = [clsD ⟨[102, 97, 117, 108, 116], 2, false, fauS 1⟩, clsD ⟨[101, 118, 105, 99, 116], 1, true, fauE⟩] := rfl
  have hn : ∀ a b : D, D.nth [a, b] 1 = b := fun _ _ => rfl
  have hs : D.setPart (clsD ⟨[101, 118, 105, 99, 116], 1, true, fauE⟩) 1 (.int .i64 0) = clsD ⟨[101, 118, 105, 99, 116], 0, true, fauE⟩ := rfl
  have hc2 : [clsD ⟨[102, 97, 117, 108, 116], 2, false, fauS 1⟩, clsD ⟨[101, 118, 105, 99, 116], 0, true, fauE⟩] = List.map clsD (fau 1 0).classes := rfl
  simp only [go_sem, Int.reduceEq, Int.reduceLT, Int.reduceLE, eq_self, Int.natCast_nonneg, Int.toNat_natCast, AV.shift, Obj.shift, AV.shifts, t1, t2, t3, l1, l2, l3, List.length_map, hc, hn, hs, hc2]
  refine sem_le (le_freeze 10 (ag := some 4) rfl (Nat.zero_le _)) ?_
  refine sem_le (le_freeze 9 (ag := none) rfl (Nat.zero_le _)) ?_
  refine sem_le (le_freeze 8 (ag := some 3) rfl (Nat.zero_le _)) ?_
  refine sem_le (σ' := ⟨slotsOf 110 [(1, .ptr 6 0 0), (2, .ptr 7 0 0), (3, .ptr 11 0 0)], [.dead, .dead, .dead, .dead, .dead, .dead, sysO (fau 2 1), sysO (fau 1 1), .dead, .dead, .dead, sysO (fau 1 0)], 0, []⟩) ?_ ?_
  · refine le_slots' ?_
    simp only [go_sem]
  refine sem_of_awp (Γ := tbl tabAK) tabAK_ok _ _ _ ?_
  simp only [go_sem, Int.reduceEq, Int.reduceLT, Int.reduceLE, eq_self, Int.natCast_nonneg, Int.toNat_natCast, sysO]
  refine call_made (knownR 12) (by simp) [sysD (fau 2 1)] _ _ rfl rfl (.tail _ (.tail _ (.tail _ (.head _)))) ?_
  simp only [go_sem, Int.reduceEq, Int.reduceLT, Int.reduceLE, eq_self, Int.natCast_nonneg, Int.toNat_natCast, AV.shift, Obj.shift, AV.shifts]
  refine call_made (knownR 16) (by simp) [sysD (fau 2 1)] _ _ rfl rfl (.head _) ?_
  simp only [go_sem, Int.reduceEq, Int.reduceLT, Int.reduceLE, eq_self, Int.natCast_nonneg, Int.toNat_natCast, AV.shift, Obj.shift, AV.shifts]
  refine call_made (knownR 12) (by simp) [sysD (fau 1 1)] _ _ rfl rfl (.tail _ (.tail _ (.head _))) ?_
  simp only [go_sem, Int.reduceEq, Int.reduceLT, Int.reduceLE, eq_self, Int.natCast_nonneg, Int.toNat_natCast, AV.shift, Obj.shift, AV.shifts]
  refine call_made (knownR 12) (by simp) [sysD (fau 1 0)] _ _ rfl rfl (.tail _ (.head _)) ?_
  simp only [go_sem, Int.reduceEq, Int.reduceLT, Int.reduceLE, eq_self, Int.natCast_nonneg, Int.toNat_natCast, AV.shift, Obj.shift, AV.shifts]
  refine call_data (fun ds v => (ds, v) ∈ impK) (by simp) [sysD (fau 1 0)] _ rfl (.head _) (.inl rfl) ?_
  simp only [go_sem, Int.reduceEq, Int.reduceLT, Int.reduceLE, eq_self, Int.natCast_nonneg, Int.toNat_natCast, decide_true]
  refine sem_cut 24 tabAK_ok ?_
  simp only [go_sem, Int.reduceEq, Int.reduceLT, Int.reduceLE, eq_self, Int.natCast_nonneg, Int.toNat_natCast]
  refine ⟨_, le_normAt 71 (v := .dat (.agg [.int .i64 0, .int .i64 0, .int .i64 0, .int .i64 2])) rfl, ?_⟩
  have hz : D.nth [D.agg [.int .i64 0, .int .i64 0, .int .i64 0, .int .i64 2]] 0 = D.agg [.int .i64 0, .int .i64 0, .int .i64 0, .int .i64 2] := rfl
  simp only [go_sem, Int.reduceEq, Int.reduceLT, Int.reduceLE, eq_self, Int.natCast_nonneg, Int.toNat_natCast, hz, bin_eqlW]
  refine call_data sameR (by simp) [.sl none (natsD [1, 1, 0, 0]), .sl none (natsD [1, 1, 0, 0])] _ rfl ⟨[1, 1, 0, 0], rfl, by decide, rfl⟩ (.inr rfl) ?_
  simp only [go_sem, Int.reduceEq, Int.reduceLT, Int.reduceLE, eq_self, Int.natCast_nonneg, Int.toNat_natCast]
  refine call_data (fun ds v => (ds, v) ∈ verK) (by simp) [sysD (fau 1 1), .agg [.sl none (intsD [5, 9, 0, 3])]] _ rfl (.head _) (.inr rfl) ?_
  simp only [go_sem, Int.reduceEq, Int.reduceLT, Int.reduceLE, eq_self, Int.natCast_nonneg, Int.toNat_natCast, decide_true]
  refine call_data (fun ds v => (ds, v) ∈ verK) (by simp) [sysD (fau 1 1), .agg [.sl none (intsD [1, 1, 0, 1])]] _ rfl (.tail _ (.head _)) (.inr rfl) ?_
  simp only [go_sem, Int.reduceEq, Int.reduceLT, Int.reduceLE, eq_self, Int.natCast_nonneg, Int.toNat_natCast, decide_true]
  refine call_data (fun ds v => (ds, v) ∈ enoK) (by simp) [sysD (fau 2 1), .int .i64 0] _ rfl (.head _) (.inr rfl) ?_
  simp only [go_sem, Int.reduceEq, Int.reduceLT, Int.reduceLE, eq_self, Int.natCast_nonneg, Int.toNat_natCast, decide_true]
  exact post_data (.inl rfl) [0] rfl trivial rfl
end Go.AM

set_option maxRecDepth 8000
set_option maxHeartbeats 2000000
namespace Go.AM
open Go Go.Proofs

abbrev tabK1 : List (Nat × Contract) := [(10, dataC awakeR), (11, dataC fewR), (12, dataC makeR), (13, dataC makeR), (14, dataC impVR), (15, dataC impVR), (16, dataC expR), (17, dataC expR), (18, dataC sameCR), (19, dataC sameER), (20, dataC enoR), (21, dataC enoR), (22, dataC verR), (23, dataC verR)]
theorem tabK1_ok : OkG Try.prog (tbl tabK1) := okG_cons awake_ok (okG_cons few_ok (okG_cons make_ok (okG_cons rmake_ok (okG_cons Impossible_ok (okG_cons rImpossible_ok (okG_cons explain_ok (okG_cons rexplain_ok (okG_cons sameC_ok (okG_cons sameEdges_ok (okG_cons enough_ok (okG_cons renough_ok (okG_cons verify_ok (okG_cons rverify_ok okG_nil)))))))))))))
theorem pureK1 {pf : List Nat} : PureFns (tbl tabK1) pf := pure_of (by
  intro g C h hg
  simp only [tabK1, List.mem_cons, Prod.mk.injEq, List.not_mem_nil, or_false] at h
  rcases h with ⟨_, h⟩ | ⟨_, h⟩ | ⟨_, h⟩ | ⟨_, h⟩ | ⟨_, h⟩ | ⟨_, h⟩ | ⟨_, h⟩ | ⟨_, h⟩ | ⟨_, h⟩ | ⟨_, h⟩ | ⟨_, h⟩ | ⟨_, h⟩ | ⟨_, h⟩ | ⟨_, h⟩ <;> exact ⟨_, h⟩)
abbrev pfK1 : List Nat := [18, 19, 20, 21, 22, 23]
def lawPR (ds : List D) (v : AV) : Prop := ∃ (s : PSys) (pool : Int), ds = [sysD s, .int .i64 pool] ∧ v = .dat (.bool true)
def lawLR (ds : List D) (v : AV) : Prop := ∃ (s : PSys) (L : List Int), ds = [sysD s, .sl none (intsD L)] ∧ v = .dat (.bool true)
theorem makeO_len (s : PSys) : (makeO s).1.length ≤ 10000 := by
  by_cases h : checkE s = 0
  · cases hi : impO s with
    | some x => rw [makeO_imp h (by rw [hi]; rfl)]; simp
    | none =>
      cases hl : levV (nRes s) (sysE s) with
      | none => rw [makeO_dead h hi hl]; simp
      | some L =>
        rw [makeO_ok h hi hl]
        have := (lev_facts h hl).1
        have := nRes_le h
        show L.length ≤ 10000
        omega
  · rw [makeO_err h]; simp
theorem exp_fit {s : PSys} (h : checkE s = 0) : (expL s).length ≤ 10000 ∧ ∀ e ∈ expL s, e.fit := by
  have hfit := eFit (good_of h)
  obtain ⟨h1, h2⟩ := cyc_bound (sysE_ok h)
  refine ⟨by simpa [expL] using h1, fun e he => ?_⟩
  obtain ⟨m, hm, rfl⟩ := List.mem_map.1 he
  refine hfit _ ?_
  have := h2 m hm
  rw [List.getD_eq_getElem?_getD, List.getElem?_eq_getElem this]
  exact List.getElem_mem this
theorem expV_form (s : PSys) : ∃ (ag : Option Nat) (X : List PEdge) (e : Int), expV s = .tup [.dat (.sl ag (edgesD X)), .dat (.int .i64 e)] ∧ (ag = some 4 ∨ X = []) ∧ X.length ≤ 10000 ∧ ∀ e ∈ X, e.fit := by
  unfold expV
  by_cases h : checkE s = 0
  · rw [if_neg (by simp [h])]
    exact ⟨_, _, _, rfl, .inl rfl, exp_fit h⟩
  · rw [if_pos h]
    exact ⟨none, [], _, rfl, .inr rfl, by simp, by simp⟩
theorem lawMakes_ok : OkF Try.prog 3 (dataC lawPR) := by
  refine okF_data Try.func3 rfl (by decide) ?_
  rintro ds v ⟨s, pool, rfl, rfl⟩
  refine sem_of_awp (Γ := tbl tabK1) tabK1_ok _ _ _ ?_
  simp only [go_sem, Int.reduceEq, Int.reduceLT, Int.reduceLE, eq_self, Int.natCast_nonneg, Int.toNat_natCast, Try.ntmps3, sysD]
  refine call_data awakeR (by simp) [] _ rfl awakeR_true (.inl rfl) ?_
  simp only [go_sem, Int.reduceEq, Int.reduceLT, Int.reduceLE, eq_self, Int.natCast_nonneg, Int.toNat_natCast]
  refine call_data fewR (by simp) [sysD s] _ rfl ⟨s, rfl, rfl⟩ (.inl rfl) ?_
  cases hf : fewB s with
  | false =>
    simp only [go_sem, Int.reduceEq, Int.reduceLT, Int.reduceLE, eq_self, Int.natCast_nonneg, Int.toNat_natCast, hf]
    refine call_data awakeR (by simp) [] _ rfl awakeR_true (.inl rfl) ?_
    simp only [go_sem, Int.reduceEq, Int.reduceLT, Int.reduceLE, eq_self, Int.natCast_nonneg, Int.toNat_natCast]
    exact post_data (.inl rfl) [4] rfl trivial rfl
  | true =>
  have hs := fewB_fit hf
  have hml := makeO_len s
  obtain ⟨ag, X, xe, hX, hag, hXl, hXf⟩ := expV_form s
  obtain ⟨vi, vk, vb, hI⟩ : ∃ (i k : Int) (b : Bool), fstV (impO s) = .tup [.dat (.int .i64 i), .dat (.int .i64 k), .dat (.bool b)] := by
    cases impO s with
    | none => exact ⟨_, _, _, rfl⟩
    | some q => obtain ⟨i, k⟩ := q; exact ⟨_, _, _, rfl⟩
  simp only [go_sem, Int.reduceEq, Int.reduceLT, Int.reduceLE, eq_self, Int.natCast_nonneg, Int.toNat_natCast, hf]
  refine call_data makeR (by simp) [sysD s] _ rfl ⟨s, rfl, hs, rfl⟩ (.inl rfl) ?_
  simp only [go_sem, Int.reduceEq, Int.reduceLT, Int.reduceLE, eq_self, Int.natCast_nonneg, Int.toNat_natCast, makeV, certD]
  refine call_data makeR (by simp) [sysD s] _ rfl ⟨s, rfl, hs, rfl⟩ (.inl rfl) ?_
  simp only [go_sem, Int.reduceEq, Int.reduceLT, Int.reduceLE, eq_self, Int.natCast_nonneg, Int.toNat_natCast, makeV, certD]
  refine call_data impVR (by simp) [sysD s] _ rfl ⟨s, rfl, hs, rfl⟩ (.inl rfl) ?_
  rw [hI]
  simp only [go_sem, Int.reduceEq, Int.reduceLT, Int.reduceLE, eq_self, Int.natCast_nonneg, Int.toNat_natCast]
  refine call_data impVR (by simp) [sysD s] _ rfl ⟨s, rfl, hs, rfl⟩ (.inl rfl) ?_
  rw [hI]
  simp only [go_sem, Int.reduceEq, Int.reduceLT, Int.reduceLE, eq_self, Int.natCast_nonneg, Int.toNat_natCast]
  refine call_data expR (by simp) [sysD s] _ rfl ⟨s, rfl, hs, rfl⟩ (.inl rfl) ?_
  rw [hX]
  simp only [go_sem, Int.reduceEq, Int.reduceLT, Int.reduceLE, eq_self, Int.natCast_nonneg, Int.toNat_natCast]
  refine call_data expR (by simp) [sysD s] _ rfl ⟨s, rfl, hs, rfl⟩ (.inl rfl) ?_
  rw [hX]
  simp only [go_sem, Int.reduceEq, Int.reduceLT, Int.reduceLE, eq_self, Int.natCast_nonneg, Int.toNat_natCast]
  refine sem_draw (pf := pfK1) mixed tabK1_ok pureK1 [0, 1, 2, 3, 4, 5, 6, 7, 8, 9, 10, 11, 12, 13, 14, 15, 16, 17, 18, 19, 20, 21, 22, 23, 24, 25, 26, 27, 28, 29, 30, 31, 32, 33, 34, 35, 36, 37, 38, 39, 40, 41, 42] (by kernel_rfl) ?_
  simp only [go_sem, Int.reduceEq, Int.reduceLT, Int.reduceLE, eq_self, Int.natCast_nonneg, Int.toNat_natCast, chainI, decide_true]
  refine call_data sameCR (by simp) [certD (makeO s).1, certD (makeO s).1] _ rfl ⟨_, rfl, hml, rfl⟩ (.inl rfl) ?_
  simp only [go_sem, Int.reduceEq, Int.reduceLT, Int.reduceLE, eq_self, Int.natCast_nonneg, Int.toNat_natCast, chainI, decide_true, beq_self_eq_true]
  refine call_data sameER (by simp) [.sl ag (edgesD X), .sl ag (edgesD X)] _ rfl ⟨ag, X, hag, hXl, hXf, rfl, rfl⟩ (.inl rfl) ?_
  simp only [go_sem, Int.reduceEq, Int.reduceLT, Int.reduceLE, eq_self, Int.natCast_nonneg, Int.toNat_natCast, chainI]
  refine call_data enoR (by simp) [sysD s, .int .i64 pool] _ rfl ⟨s, pool, rfl, hs, rfl⟩ (.inl rfl) ?_
  simp only [go_sem, Int.reduceEq, Int.reduceLT, Int.reduceLE, eq_self, Int.natCast_nonneg, Int.toNat_natCast, chainI]
  refine call_data enoR (by simp) [sysD s, .int .i64 pool] _ rfl ⟨s, pool, rfl, hs, rfl⟩ (.inl rfl) ?_
  simp only [go_sem, Int.reduceEq, Int.reduceLT, Int.reduceLE, eq_self, Int.natCast_nonneg, Int.toNat_natCast, chainI, decide_true]
  exact post_data (.inl rfl) [4] rfl trivial rfl
theorem lawVerifies_ok : OkF Try.prog 4 (dataC lawLR) := by
  refine okF_data Try.func4 rfl (by decide) ?_
  rintro ds v ⟨s, L, rfl, rfl⟩
  refine sem_of_awp (Γ := tbl tabK1) tabK1_ok _ _ _ ?_
  simp only [go_sem, Int.reduceEq, Int.reduceLT, Int.reduceLE, eq_self, Int.natCast_nonneg, Int.toNat_natCast, Try.ntmps4, sysD]
  refine call_data awakeR (by simp) [] _ rfl awakeR_true (.inl rfl) ?_
  simp only [go_sem, Int.reduceEq, Int.reduceLT, Int.reduceLE, eq_self, Int.natCast_nonneg, Int.toNat_natCast]
  refine call_data fewR (by simp) [sysD s] _ rfl ⟨s, rfl, rfl⟩ (.inl rfl) ?_
  cases hf : fewB s with
  | false =>
    simp only [go_sem, Int.reduceEq, Int.reduceLT, Int.reduceLE, eq_self, Int.natCast_nonneg, Int.toNat_natCast, hf]
    refine call_data awakeR (by simp) [] _ rfl awakeR_true (.inl rfl) ?_
    simp only [go_sem, Int.reduceEq, Int.reduceLT, Int.reduceLE, eq_self, Int.natCast_nonneg, Int.toNat_natCast]
    exact post_data (.inl rfl) [4] rfl trivial rfl
  | true =>
  have hs := fewB_fit hf
  by_cases hl : (40 : Int) < L.length
  · simp only [go_sem, Int.reduceEq, Int.reduceLT, Int.reduceLE, eq_self, Int.natCast_nonneg, Int.toNat_natCast, hf, ints_len, hl]
    refine call_data awakeR (by simp) [] _ rfl awakeR_true (.inl rfl) ?_
    simp only [go_sem, Int.reduceEq, Int.reduceLT, Int.reduceLE, eq_self, Int.natCast_nonneg, Int.toNat_natCast]
    exact post_data (.inl rfl) [4] rfl trivial rfl
  simp only [go_sem, Int.reduceEq, Int.reduceLT, Int.reduceLE, eq_self, Int.natCast_nonneg, Int.toNat_natCast, hf, ints_len, hl]
  refine sem_draw (pf := pfK1) mixed tabK1_ok pureK1 [0, 1, 2, 3, 4, 5, 6, 7] (by kernel_rfl) ?_
  simp only [go_sem, Int.reduceEq, Int.reduceLT, Int.reduceLE, eq_self, Int.natCast_nonneg, Int.toNat_natCast, chainI]
  refine call_data verR (by simp) [sysD s, .agg [.sl none (intsD L)]] _ rfl ⟨s, L, rfl, hs, by omega, rfl⟩ (.inl rfl) ?_
  simp only [go_sem, Int.reduceEq, Int.reduceLT, Int.reduceLE, eq_self, Int.natCast_nonneg, Int.toNat_natCast, chainI]
  refine call_data verR (by simp) [sysD s, .agg [.sl none (intsD L)]] _ rfl ⟨s, L, rfl, hs, by omega, rfl⟩ (.inl rfl) ?_
  simp only [go_sem, Int.reduceEq, Int.reduceLT, Int.reduceLE, eq_self, Int.natCast_nonneg, Int.toNat_natCast, chainI, decide_true]
  exact post_data (.inl rfl) [4] rfl trivial rfl
end Go.AM

set_option maxRecDepth 100000
namespace Go.AM
open Go Go.Proofs

theorem want87 : wantT Try.prog 55 = some 3 := by kernel_rfl
theorem want9 : wantT Try.prog 9 = none := by kernel_rfl
theorem want54 : wantT Try.prog 52 = some 4 := by kernel_rfl
theorem want56 : wantT Try.prog 60 = some 4 := by kernel_rfl
theorem int_arg {m : Nat} {d : D} (h : argT Try.prog (m + 1) 3 d) : ∃ n : Int, d = .int .i64 n ∧ inR .i64 n := arg_int (by kernel_rfl) h
theorem pool_arg {m : Nat} {d : D} (h : argT Try.prog (m + 3) 55 d) : ∃ p : PPool, d = poolD p ∧ True := by
  obtain ⟨ds, rfl, hf⟩ := arg_fields (ts := [9, 3, 3]) (by kernel_rfl) h
  obtain ⟨a, r, rfl, ha, hf⟩ := hf
  obtain ⟨b, r, rfl, hb, hf⟩ := hf
  obtain ⟨c, r, rfl, hc, rfl⟩ := hf
  rw [dataT_str (by kernel_rfl)] at ha
  rw [dataT_int (k := .i64) (by kernel_rfl)] at hb hc
  obtain ⟨a, rfl, _⟩ := ha
  obtain ⟨b, rfl, _⟩ := hb
  obtain ⟨c, rfl, _⟩ := hc
  exact ⟨⟨a, b, c⟩, rfl, trivial⟩
theorem step_arg {m : Nat} {d : D} (h : argT Try.prog (m + 3) 60 d) : ∃ p : PStep, d = stepD p ∧ True := by
  obtain ⟨ds, rfl, hf⟩ := arg_fields (ts := [3, 3, 3, 4]) (by kernel_rfl) h
  obtain ⟨a, r, rfl, ha, hf⟩ := hf
  obtain ⟨b, r, rfl, hb, hf⟩ := hf
  obtain ⟨c, r, rfl, hc, hf⟩ := hf
  obtain ⟨e, r, rfl, he, rfl⟩ := hf
  rw [dataT_int (k := .i64) (by kernel_rfl)] at ha hb hc
  rw [dataT_bool (by kernel_rfl)] at he
  obtain ⟨a, rfl, _⟩ := ha
  obtain ⟨b, rfl, _⟩ := hb
  obtain ⟨c, rfl, _⟩ := hc
  obtain ⟨e, rfl⟩ := he
  exact ⟨⟨a, b, c, e⟩, rfl, trivial⟩
theorem cls_arg {m : Nat} {d : D} (h : argT Try.prog (m + 6) 52 d) : ∃ p : PCls, d = clsD p ∧ True := by
  obtain ⟨ds, rfl, hf⟩ := arg_fields (ts := [9, 3, 4, 50]) (by kernel_rfl) h
  obtain ⟨a, r, rfl, ha, hf⟩ := hf
  obtain ⟨b, r, rfl, hb, hf⟩ := hf
  obtain ⟨c, r, rfl, hc, hf⟩ := hf
  obtain ⟨e, r, rfl, he, rfl⟩ := hf
  rw [dataT_str (by kernel_rfl)] at ha
  rw [dataT_int (k := .i64) (by kernel_rfl)] at hb
  rw [dataT_bool (by kernel_rfl)] at hc
  rw [dataT_slice (e := 60) (by kernel_rfl), want56] at he
  obtain ⟨a, rfl, _⟩ := ha
  obtain ⟨b, rfl, _⟩ := hb
  obtain ⟨c, rfl⟩ := hc
  obtain ⟨e, rfl, _, hx⟩ := he
  obtain ⟨l, rfl, _⟩ := list_of stepD (Q := fun _ => True) (fun x hx' => step_arg (hx x hx'))
  exact ⟨⟨a, b, c, l⟩, rfl, trivial⟩
theorem sys_arg {m : Nat} {d : D} (h : argT Try.prog (m + 9) 26 d) : ∃ s : PSys, d = sysD s := by
  obtain ⟨ds, rfl, hf⟩ := arg_fields (ts := [22, 23, 24]) (by kernel_rfl) h
  obtain ⟨a, r, rfl, ha, hf⟩ := hf
  obtain ⟨b, r, rfl, hb, hf⟩ := hf
  obtain ⟨c, r, rfl, hc, rfl⟩ := hf
  rw [dataT_slice (e := 55) (by kernel_rfl), want87] at ha
  rw [dataT_slice (e := 9) (by kernel_rfl), want9] at hb
  rw [dataT_slice (e := 52) (by kernel_rfl), want54] at hc
  obtain ⟨a, rfl, _, ha⟩ := ha
  obtain ⟨b, rfl, _, hb⟩ := hb
  obtain ⟨c, rfl, _, hc⟩ := hc
  obtain ⟨a, rfl, _⟩ := list_of poolD (Q := fun _ => True) (fun x hx' => pool_arg (ha x hx'))
  obtain ⟨b, rfl, _⟩ := list_of D.str (Q := fun _ => True) (fun x hx' => by
    obtain ⟨s, h, _⟩ := arg_str (by kernel_rfl) (hb x hx')
    exact ⟨s, h, trivial⟩)
  obtain ⟨c, rfl, _⟩ := list_of clsD (Q := fun _ => True) (fun x hx' => cls_arg (hc x hx'))
  exact ⟨⟨a, b, c⟩, rfl⟩
theorem wantI : wantT Try.prog 3 = none := by kernel_rfl
theorem ints_arg {m : Nat} {d : D} (h : argT Try.prog (m + 2) 29 d) : ∃ L : List Int, d = .sl none (intsD L) ∧ ∀ n ∈ L, inR .i64 n := by
  obtain ⟨xs, rfl, _, hx⟩ := arg_slice (e := 3) (by kernel_rfl) h
  rw [wantI]
  obtain ⟨L, rfl, hL⟩ := list_of (D.int .i64) (Q := fun n => inR .i64 n) (fun x hx' => by
    obtain ⟨n, h1, h2⟩ := int_arg (hx x hx')
    exact ⟨n, h1, h2⟩)
  exact ⟨L, rfl, hL⟩
end Go.AM

