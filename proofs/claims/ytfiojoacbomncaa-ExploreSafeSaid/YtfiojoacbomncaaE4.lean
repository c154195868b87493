/- Own work over the model of the kit. -/
import Derived.Test.YtfiojoacbomncaaD21
import Derived.Test.YtfiojoacbomncaaE0
import Derived.Test.YtfiojoacbomncaaE3
set_option linter.unusedSimpArgs false
set_option linter.unusedVariables false
set_option linter.constructorNameAsVariable false
set_option maxRecDepth 8000
set_option maxHeartbeats 4000000
namespace Go.AM
open Go Go.Proofs
section
variable {P : Program} {Γ : Nat → Contract}
theorem callw_caps {Γ : Nat → Contract} {g : Nat} {caps args : List AV} {own : List Obj} {K : AV → List Obj → List Nat → Prop} (h : callw Γ (.fn g []) (args ++ caps) own K) : callw Γ (.fn g caps) args own K := by
 simpa only [callw, List.append_nil] using h

theorem bin_eql_agg {t : TypeId} {aa bs as0 bs0 : List D} {K : AV → Prop} (h0 : eqOk P t (.dat (.agg as0)) (.dat (.agg bs0)) = true) (ha : numsD aa as0) (hb : numsD bs bs0) :
  binTop P .eql t (.dat (.agg aa)) (.dat (.agg bs)) K = K (.dat (.bool (D.flatEqs aa bs))) := by
 unfold binTop
 rw [eqOk_of h0 ha hb]
 simp [binw]
end
end Go.AM
set_option maxRecDepth 8000
namespace Go.AM
open Go Go.Proofs

theorem avail_val {s : PSys} {x : PSt} (hc : checkE s = 0) (hV : Valid s x) {i : Nat} (hi : i < s.pools.length) : availN s x i = (s.pools.getD i default).size - sumI (frU s i) (frames x) := by
 unfold availN
 rw [if_neg (by rw [err_val hc hV]; simp), if_neg (by omega)]
 simp
theorem sumI_nn {G : PFr → Int} : ∀ {L : List PFr}, (∀ f ∈ L, 0 ≤ G f) → 0 ≤ sumI G L
 | [], _ => by simp [sumI]
 | f :: L, h => by
  rw [sumI_cons]
  have h1 := h f (List.mem_cons_self ..)
  have h2 := sumI_nn (L := L) fun g hg => h g (List.mem_cons_of_mem _ hg)
  omega
theorem frU_nn {s : PSys} (hg : s.good) {f : PFr} (h : frOk s f = true) (i : Nat) : 0 ≤ frU s i f := by
 obtain ⟨c1, c2, c3, c4⟩ := frOk_iff.1 h
 have hcm : clsAt s f ∈ s.classes := by
  unfold clsAt; rw [List.getD_eq_getElem?_getD, List.getElem?_eq_getElem (by omega)]; exact List.getElem_mem _
 exact run_unit (hg.cls _ hcm) (by omega) i
theorem avail_bnd {s : PSys} {x : PSt} (hc : checkE s = 0) (hV : Valid s x) {i : Nat} (hi : i < s.pools.length) : 0 ≤ availN s x i ∧ availN s x i ≤ (s.pools.getD i default).size := by
 rw [avail_val hc hV hi]
 have h1 := (over_iff.1 hV.nover).1 i hi
 have h2 := sumI_nn (G := frU s i) (L := frames x) fun f hf => frU_nn hV.good (hV.frames f hf) i
 omega
theorem take_at {s : PSys} {x : PSt} {w k : Nat} (h : k ≠ w) : (takeX s x w).getD k [] = x.getD k [] := by
 unfold takeX
 rw [List.getD_eq_getElem?_getD, List.getElem?_set_ne (by omega), ← List.getD_eq_getElem?_getD]
theorem take_len {s : PSys} {x : PSt} {w : Nat} : (takeX s x w).length = x.length := by unfold takeX; rw [List.length_set]
theorem avail_step {s : PSys} {x : PSt} (hc : checkE s = 0) (hV : Valid s x) {w : Nat} (hw : w < x.length) (ha : ableB s x w = true) {i : Nat} (hi : i < s.pools.length) (hlt : availN s (takeX s x w) i < availN s x i) :
  (takeX s x w).getD w [] ≠ x.getD w [] ∧ (topS s x w).kind = 1 ∧ (topS s x w).on = i ∧ availN s x i - availN s (takeX s x w) i = (topS s x w).cnt ∧ ((topS s x w).deep = true ∨ (s.pools.getD i default).res ≤ availN s (takeX s x w) i) := by
 have hV2 := val_take hV hw ha
 rw [avail_val hc hV hi, avail_val hc hV2 hi, val_sumU hV hw hi] at *
 have hp := preE_0 (step_mem hV.good (hV.top hw))
 have htop : stepAtF s (topF (x.getD w [])) = topS s x w := rfl
 rw [htop] at hp
 have he : 0 < effU i (topS s x w) := by omega
 have hon : (topS s x w).on = i ∧ (topS s x w).kind = 1 ∧ effU i (topS s x w) = (topS s x w).cnt := by
  unfold effU at *
  by_cases h1 : (topS s x w).on = i
  ·rw [if_pos h1] at *
   by_cases h2 : (topS s x w).kind = 1
   ·rw [if_pos h2]; exact ⟨h1, h2, rfl⟩
   ·rw [if_neg h2] at he
    by_cases h3 : (topS s x w).kind = 2
    ·rw [if_pos h3] at he
     have := hp.2.2.1 (.inr h3)
     omega
    ·rw [if_neg h3] at he; omega
  ·rw [if_neg h1] at he; omega
 obtain ⟨h1, h2, h3⟩ := hon
 refine ⟨fun h => ?_, h2, h1, by omega, ?_⟩
 ·have : takeX s x w = x := by
   refine List.ext_getElem take_len fun j h4 h5 => ?_
   by_cases hj : j = w
   ·subst hj
    simpa [List.getD_eq_getElem?_getD, h4, h5] using h
   ·have := take_at (s := s) (x := x) hj
    simpa [List.getD_eq_getElem?_getD, h4, h5] using this
  have h6 := val_sumU hV hw hi
  rw [this] at h6
  omega
 ·unfold ableB posB at ha
  rw [if_pos h2] at ha
  simp only [Bool.or_eq_true, Bool.and_eq_true, decide_eq_true_eq, h1, Int.toNat_natCast] at ha
  rcases ha with ha | ha
  ·exact .inl ha.1
  ·exact .inr (by omega)
def mvI (d : Bool) (w k : Nat) : Int := if d = true ∧ w < k then w else -1
end Go.AM

set_option maxRecDepth 8000
set_option maxHeartbeats 4000000
namespace Go.AM
open Go Go.Proofs

theorem bin_eqlF {f g : PFr} (h : inR .i64 f.c ∧ inR .i64 f.a) (h' : inR .i64 g.c ∧ inR .i64 g.a) {K : AV → Prop} : binTop Try.prog .eql 58 (.dat (.agg [.int .i64 f.c, .int .i64 f.a])) (.dat (.agg [.int .i64 g.c, .int .i64 g.a])) K = K (.dat (.bool (decide (f = g)))) := by
 rw [bin_eql_agg eqOk_F (nums_fr h) (nums_fr h')]
 have : D.flatEqs [D.int .i64 f.c, D.int .i64 f.a] [D.int .i64 g.c, D.int .i64 g.a] = decide (f = g) := by
  obtain ⟨c, a⟩ := f
  obtain ⟨c', a'⟩ := g
  by_cases h1 : c = c' <;> by_cases h2 : a = a' <;> simp [D.flatEqs, D.flatEq, h1, h2]
 rw [this]
def sfeR (xs : List AV) (obs : List Obj) (v0 : AV) (obs' ex : List Obj) (mv0 : List Nat) : Prop := ∃ (s : PSys) (x0 : PSt) (w : Nat), s.fit ∧ checkE s = 0 ∧ Valid s x0 ∧ w < x0.length ∧ ableB s x0 w = true ∧
 xs = [.dat (stD (takeX s x0 w)), .ptr 0 0 0, .ptr 1 0 0] ∧ obs = [sysO s, stO x0] ∧ v0 = .dat (.bool true) ∧ obs' = [sysO s, stO (takeX s x0 w)] ∧ ex = [] ∧ mv0 = []
abbrev tabSf : List (Nat × Contract) := [(15, dataC stErrR), (33, dataC availR)]
theorem tabSf_ok : OkG Try.prog (tbl tabSf) := okG_cons xcheck_ok (okG_cons xAvailable_ok okG_nil)
theorem pureSf {pf : List Nat} : PureFns (tbl tabSf) pf := pure_of (by
 intro g C h hg
 simp only [tabSf, List.mem_cons, Prod.mk.injEq, List.not_mem_nil, or_false] at h
 rcases h with ⟨_, h⟩ | ⟨_, h⟩ <;> exact ⟨_, h⟩)
theorem st_nth {x : PSt} {k : Nat} (h : k < x.length) : D.nth (stacksD x) k = stackD (x.getD k []) := D.nth_map h
theorem sfe_ok : OkF Try.prog 36 (lentC sfeR) := by
 refine okF_lent Try.func36 rfl (by decide) ?_
 rintro xs obs v0 obs' ex mv0 ⟨s, x0, w, hs, hc, hV, hw, ha, rfl, rfl, rfl, rfl, rfl, rfl⟩
 have hV2 := val_take hV hw ha
 have hxl := take_len (s := s) (x := x0) (w := w)
 have hat := fun k (h : k ≠ w) => take_at (s := s) (x := x0) h
 have hstep := fun i (hi : i < s.pools.length) h => avail_step hc hV hw ha (i := i) hi h
 have hbnd := fun i (hi : i < s.pools.length) => avail_bnd hc hV2 (i := i) hi
 generalize takeX s x0 w = x at *
 have hfit : ∀ x, Valid s x → PStFit x := fun x hV => kfit_st (val_kfit hV)
 have hx := hfit x hV2
 have hx0 := hfit x0 hV
 have hxl2 : (stacksD x).length = x0.length := by simp [hxl]
 have hxl3 : (stacksD x0).length = x0.length := by simp
 have he : stErrR [sysD s, stD x] (.dat (.int .i64 0)) := ⟨s, x, rfl, hs, hx, by rw [err_val hc hV2]⟩
 refine sem_of_awp (Γ := tbl tabSf) tabSf_ok _ _ _ ?_
 simp only [go_sem, Int.reduceEq, Int.reduceLT, Int.reduceLE, eq_self, Int.natCast_nonneg, Int.toNat_natCast, Try.ntmps36, stD]
 refine call_data stErrR (by simp) [sysD s, stD x] _ rfl he (.inl rfl) ?_
 simp only [go_sem, Int.reduceEq, Int.reduceLT, Int.reduceLE, eq_self, Int.natCast_nonneg, Int.toNat_natCast, stD, eq_self, not_true, decide_false, hxl2, hxl3]
 obtain ⟨dB, hD⟩ : ∃ dB : Bool, dB = true ↔ x.getD w [] ≠ x0.getD w [] := ⟨decide (x.getD w [] ≠ x0.getD w []), by simp⟩
 refine sem_loop (fun k : Nat => ⟨slotsOf 211 [(1, .ptr 0 0 0), (2, .ptr 1 0 0), (3, .ptr 2 0 0), (5, .dat (.int .i64 (mvI dB w k))), (30, .dat (.int .i64 x0.length)), (31, .dat (.int .i64 k))], [sysO s, stO x0, stO x], 2, []⟩)
  (fun k => k ≤ x0.length) (fun k => x0.length - k) 0 (Nat.zero_le _) ?_ ?_
 ·exact le_slots' (by simp only [go_sem, Int.natCast_zero, mvI, Nat.not_lt_zero, and_false, if_false])
 intro k hk
 refine sem_of_awp (Γ := tbl tabSf) tabSf_ok _ _ _ ?_
 by_cases hlt : k < x0.length
 ·have hk2 : (k : Int) < x0.length := by omega
  have hkz : (0 : Int) ≤ k := Int.natCast_nonneg k
  have hn := st_nth (x := x) (k := k) (by omega)
  have hn0 := st_nth (x := x0) hlt
  generalize hl : x.getD k [] = l at *
  generalize hl0 : x0.getD k [] = l0 at *
  have hfl : (frsD l).length = l.length := by simp
  have hfl0 : (frsD l0).length = l0.length := by simp
  simp only [go_sem, Int.reduceEq, Int.reduceLT, Int.reduceLE, eq_self, Int.natCast_nonneg, Int.toNat_natCast, hk2]
  refine sem_draw (pf := []) mixed tabSf_ok pureNo [0, 1, 2, 3, 4, 5, 6, 7, 8, 9, 10, 11, 12, 13] (by kernel_rfl) ?_
  simp only [go_sem, Int.reduceEq, Int.reduceLT, Int.reduceLE, eq_self, Int.natCast_nonneg, Int.toNat_natCast, chainI, hk2, hkz, hlt, hxl2, hxl3, hn, hn0, stackD, hfl, hfl0]
  have hff : ∀ f ∈ l, inR .i64 f.c ∧ inR .i64 f.a := fun f hf => kfit_fr (val_kfit hV2) f (List.mem_flatten.2 ⟨l, by rw [← hl, List.getD_eq_getElem?_getD, List.getElem?_eq_getElem (by omega)]; exact List.getElem_mem _, hf⟩)
  have hff0 : ∀ f ∈ l0, inR .i64 f.c ∧ inR .i64 f.a := fun f hf => kfit_fr (val_kfit hV) f (List.mem_flatten.2 ⟨l0, by rw [← hl0, List.getD_eq_getElem?_getD, List.getElem?_eq_getElem (by omega)]; exact List.getElem_mem _, hf⟩)
  have hlk : l.length ≤ 1000 := hx.stk l (by rw [← hl, List.getD_eq_getElem?_getD, List.getElem?_eq_getElem (by omega)]; exact List.getElem_mem _)
  have hxb := hx0.len
  refine sem_loop (fun q : Nat × Bool => ⟨slotsOf 211 [(1, .ptr 0 0 0), (2, .ptr 1 0 0), (3, .ptr 2 0 0), (5, .dat (.int .i64 (mvI dB w k))), (6, .dat (.int .i64 k)), (7, .dat (.bool q.2)), (8, .dat (.int .i64 q.1)), (30, .dat (.int .i64 x0.length)), (31, .dat (.int .i64 k))], [sysO s, stO x0, stO x], 2, []⟩)
   (fun q => q.1 ≤ l.length ∧ (q.2 = true → l.length = l0.length ∧ l.take q.1 = l0.take q.1) ∧ (q.2 = false → l ≠ l0)) (fun q => l.length - q.1) (0, decide ((l.length : Int) = l0.length)) ⟨Nat.zero_le _, fun h => ⟨by have := of_decide_eq_true h; omega, by simp⟩, fun h e => by rw [e] at h; simp at h⟩ ?_ ?_
  ·exact le_slots' (by simp only [go_sem, Int.natCast_zero])
  rintro ⟨m, b⟩ ⟨hm, h1, h2⟩
  simp only at hm h1 h2
  refine sem_of_awp (Γ := tbl tabSf) tabSf_ok _ _ _ ?_
  cases b with
  | false =>
   have hne := h2 rfl
   have hkw : k = w := Classical.byContradiction fun h => hne (by rw [← hl, ← hl0]; exact hat k h)
   subst hkw
   have hmv : mvI dB k k = -1 := by unfold mvI; rw [if_neg (by simp)]
   have hmv2 : mvI dB k (k + 1) = k := by unfold mvI; rw [if_pos ⟨hD.2 (by rw [hl, hl0]; exact hne), Nat.lt_succ_self k⟩]
   have hz : ¬ (0 : Int) ≤ -1 := by decide
   simp only [go_sem, Int.reduceEq, Int.reduceLT, Int.reduceLE, eq_self, Int.natCast_nonneg, Int.toNat_natCast, hmv, hz, decide_false]
   refine ⟨inR_i64.2 (by omega), k + 1, by omega, by omega, ?_⟩
   rw [hmv2]
   exact le_slots' (by simp only [go_sem, Int.natCast_add, Int.cast_ofNat_Int])
  | true =>
   obtain ⟨e1, e2⟩ := h1 rfl
   cases hd : l.drop m with
   | nil =>
    obtain rfl : m = l.length := end_of_drop hd hm
    have hm2 : ¬ (l.length : Int) < l.length := by omega
    have hee : l = l0 := by rw [List.take_length, e1, List.take_length] at e2; exact e2
    have hmv2 : mvI dB w (k + 1) = mvI dB w k := by
     unfold mvI
     by_cases hkw : k = w
     ·subst hkw
      rw [if_neg (fun h => hD.1 h.1 (by rw [hl, hl0, hee])), if_neg (by simp)]
     ·by_cases hlt2 : w < k
      ·simp only [hlt2, show w < k + 1 by omega, and_true]
      ·simp only [hlt2, show ¬ w < k + 1 by omega, and_false]
    simp only [go_sem, Int.reduceEq, Int.reduceLT, Int.reduceLE, eq_self, Int.natCast_nonneg, Int.toNat_natCast, hk2, hkz, hlt, hxl2, hn, stackD, hfl, hm2]
    refine ⟨inR_i64.2 (by omega), k + 1, by omega, by omega, ?_⟩
    rw [hmv2]
    exact le_slots' (by simp only [go_sem, Int.natCast_add, Int.cast_ofNat_Int])
   | cons f r =>
    have hmlt := lt_of_drop hd
    have hm2 : (m : Int) < l.length := by omega
    have hm0 : (0 : Int) ≤ m := Int.natCast_nonneg m
    have hmlt0 : m < l0.length := by omega
    have hm3 : (m : Int) < l0.length := by omega
    have hnf := nth_of_drop (f := frD) hd
    have hfm : l[m]? = some f := get_of_drop hd
    generalize hg : l0[m] = g
    have hgm : l0[m]? = some g := by rw [List.getElem?_eq_getElem hmlt0, hg]
    have hd0 : l0.drop m = g :: l0.drop (m + 1) := by rw [← hg]; exact List.drop_eq_getElem_cons hmlt0
    have hng := nth_of_drop (f := frD) hd0
    have heq : ∀ K, binTop Try.prog .eql 58 (.dat (.agg [.int .i64 f.c, .int .i64 f.a])) (.dat (.agg [.int .i64 g.c, .int .i64 g.a])) K = K (.dat (.bool (decide (f = g)))) := fun K => bin_eqlF (hff f (mem_of_drop hd)) (hff0 g (mem_of_drop hd0))
    simp only [go_sem, Int.reduceEq, Int.reduceLT, Int.reduceLE, eq_self, Int.natCast_nonneg, Int.toNat_natCast, hk2, hkz, hlt, hxl2, hn, stackD, hfl, hm2]
    refine sem_draw (pf := []) mixed tabSf_ok pureNo [0, 1, 2, 3, 4, 5, 6, 7, 8, 9, 10, 11, 12, 13, 14, 15, 16, 17] (by kernel_rfl) ?_
    simp only [go_sem, Int.reduceEq, Int.reduceLT, Int.reduceLE, eq_self, Int.natCast_nonneg, Int.toNat_natCast, chainI, hk2, hkz, hlt, hxl2, hxl3, hn, hn0, stackD, hfl, hfl0, hm2, hm0, hm3, hmlt, hmlt0, hnf, hng, frD, heq]
    refine ⟨inR_i64.2 (by omega), (m + 1, decide (f = g)), ⟨by simp only; omega, fun h => ⟨e1, ?_⟩, fun h e => ?_⟩, by simp only; omega, ?_⟩
    ·have hfg : f = g := of_decide_eq_true h
     rw [List.take_add_one, List.take_add_one, e2, hfm, hgm, hfg]
    ·have hfg : ¬ f = g := of_decide_eq_false h
     rw [e, hgm] at hfm
     exact hfg (Option.some.inj hfm).symm
    exact le_slots' (by simp only [go_sem, Int.natCast_add, Int.cast_ofNat_Int])
 obtain rfl : k = x0.length := by omega
 have hk2 : ¬ (x0.length : Int) < x0.length := by omega
 simp only [go_sem, Int.reduceEq, Int.reduceLT, Int.reduceLE, eq_self, Int.natCast_nonneg, Int.toNat_natCast, hk2]
 generalize hM : mvI dB w x0.length = M
 have hM2 : x.getD w [] ≠ x0.getD w [] → M = w := fun h => by rw [← hM]; unfold mvI; rw [if_pos ⟨hD.2 h, hw⟩]
 have hs4 := hV.good.small
 have hsnp := hs4.np
 refine sem_loop (fun i : Nat => ⟨slotsOf 211 [(1, .ptr 0 0 0), (2, .ptr 1 0 0), (3, .ptr 2 0 0), (5, .dat (.int .i64 M)), (88, .dat (.sl (some 3) (s.pools.map poolD))), (89, .dat (.int .i64 s.pools.length)), (90, .dat (.int .i64 i))], [sysO s, stO x0, stO x], 2, []⟩)
  (fun i => i ≤ s.pools.length) (fun i => s.pools.length - i) 0 (Nat.zero_le _) ?_ ?_
 ·exact le_slots' (by simp only [go_sem, Int.natCast_zero, List.length_map])
 intro i hi
 refine sem_of_awp (Γ := tbl tabSf) tabSf_ok _ _ _ ?_
 cases hd : s.pools.drop i with
 | nil =>
  obtain rfl : i = s.pools.length := end_of_drop hd hi
  have hk3 : ¬ (s.pools.length : Int) < s.pools.length := by omega
  simp only [go_sem, Int.reduceEq, Int.reduceLT, Int.reduceLE, eq_self, Int.natCast_nonneg, Int.toNat_natCast, hk3]
  refine post_resO (.inl rfl) [.tmp 4] rfl (fun _ h => h) ?_
  simp only [go_sem]
  refine le_end (own := [_, _]) (ex := [_]) (Nat.le_refl _) ?_ ?_ ?_
  ·simp only [go_sem]
  ·simp only [go_sem]
  ·simp only [go_sem, Obj.under, AV.unders, AV.under]
 | cons p r =>
 have hlt := lt_of_drop hd
 have hk3 : (i : Int) < s.pools.length := by omega
 have hkz : (0 : Int) ≤ i := Int.natCast_nonneg i
 have hn := nth_of_drop (f := poolD) hd
 have hget : s.pools.getD i default = p := by rw [List.getD_eq_getElem?_getD, get_of_drop hd]; rfl
 have av0 : availR [sysD s, stD x0, .int .i64 (i : Int)] (.dat (.int .i64 (availN s x0 i))) := ⟨s, x0, _, rfl, hs, hx0, rfl⟩
 have av1 : availR [sysD s, stD x, .int .i64 (i : Int)] (.dat (.int .i64 (availN s x i))) := ⟨s, x, _, rfl, hs, hx, rfl⟩
 have hb := hbnd i hlt
 have hst := hstep i hlt
 have hb0 := (avail_bnd hc hV hlt).2
 have hpb : p.size ≤ 8 := by
  have h := hV.good.pool p (mem_of_drop hd)
  unfold PPool.bad at h
  omega
 rw [hget] at hb hst hb0
 generalize availN s x0 i = a0 at *
 generalize availN s x i = a1 at *
 have h10 : ¬ a1 < 0 := by omega
 have h11 : ¬ p.size < a1 := by omega
 simp only [go_sem, Int.reduceEq, Int.reduceLT, Int.reduceLE, eq_self, Int.natCast_nonneg, Int.toNat_natCast, hk3, hkz, hlt, hn, poolD, List.length_map]
 refine sem_draw (pf := [33]) mixed tabSf_ok pureSf [0, 1, 2, 3, 4, 5, 6, 7, 8, 9] (by kernel_rfl) ?_
 simp only [go_sem, Int.reduceEq, Int.reduceLT, Int.reduceLE, eq_self, Int.natCast_nonneg, Int.toNat_natCast, chainI, stD]
 refine call_data availR (by simp) [sysD s, stD x0, .int .i64 (i : Int)] _ rfl av0 (.inl rfl) ?_
 simp only [go_sem, Int.reduceEq, Int.reduceLT, Int.reduceLE, eq_self, Int.natCast_nonneg, Int.toNat_natCast, chainI, stD]
 refine call_data availR (by simp) [sysD s, stD x, .int .i64 (i : Int)] _ rfl av1 (.inl rfl) ?_
 by_cases hcmp : a0 ≤ a1
 ·simp only [go_sem, Int.reduceEq, Int.reduceLT, Int.reduceLE, eq_self, Int.natCast_nonneg, Int.toNat_natCast, chainI, stD, hcmp, decide_true, h10, h11, decide_false]
  refine ⟨inR_i64.2 (by omega), i + 1, by omega, by omega, ?_⟩
  refine le_end (own := [_, _, _]) (ex := [_]) (Nat.le_add_left 2 1) ?_ ?_ ?_
  ·simp only [go_sem, Int.natCast_add, Int.cast_ofNat_Int]
  ·simp only [go_sem]
  ·simp only [go_sem, Obj.under, AV.unders, AV.under]
 obtain ⟨q1, q2, q3, q4, q5⟩ := hst (by omega)
 have hMw := hM2 q1
 subst hMw
 obtain ⟨hne, hfo⟩ := hV.stk hw
 have hnw := st_nth (x := x0) hw
 have hlk0 : (x0.getD w []).length ≤ 1000 := hx0.stk _ (by rw [List.getD_eq_getElem?_getD, List.getElem?_eq_getElem hw]; exact List.getElem_mem _)
 have hxb := hx0.len
 have htf := hfo _ (topF_mem hne)
 have hfn : D.nth (frsD (x0.getD w [])) ((x0.getD w []).length - 1) = frD (topF (x0.getD w [])) := D.nth_map (by have := List.length_pos_iff.2 hne; omega)
 have hy : stepAtF s (topF (x0.getD w [])) = topS s x0 w := rfl
 generalize topS s x0 w = y at *
 generalize x0.getD w [] = l0 at *
 generalize topF l0 = f at *
 obtain ⟨c1, c2, c3, c4⟩ := frOk_iff.1 htf
 obtain ⟨fc, fa⟩ := f
 simp only at c1 c2 c3
 obtain ⟨ci, rfl⟩ := Int.eq_ofNat_of_zero_le c1
 obtain ⟨ai, rfl⟩ := Int.eq_ofNat_of_zero_le c3
 have hcn : D.nth (s.classes.map clsD) ci = clsD (s.classes.getD ci default) := D.nth_map (by omega)
 have hlen4 : ai < (s.classes.getD ci default).steps.length := by simpa [clsAt] using c4
 have hsn : D.nth (((s.classes.getD ci default).steps).map stepD) ai = stepD y := by rw [← hy]; exact D.nth_map hlen4
 generalize s.classes.getD ci default = c at *
 have hln : 0 < l0.length := List.length_pos_iff.2 hne
 have hl0' : ¬ (l0.length : Int) = 0 := by omega
 have hidx : (l0.length : Int) - 1 = ((l0.length - 1 : Nat) : Int) := by omega
 have hidx2 : ((l0.length - 1 : Nat) : Int) < l0.length := by omega
 have hidx3 : (0 : Int) ≤ ((l0.length - 1 : Nat) : Int) := by omega
 have hidx4 : l0.length - 1 < l0.length := by omega
 have hin1 : inR .i64 ((l0.length - 1 : Nat) : Int) := inR_i64.2 (by omega)
 have hwz : (0 : Int) ≤ w := by omega
 have hwz2 : ¬ (w : Int) < 0 := by omega
 have hw3 : (w : Int) < x0.length := by omega
 have hfl0 : (frsD l0).length = l0.length := by simp
 have g1 : ¬ (ci : Int) < 0 := by omega
 have g2 : ¬ (s.classes.length : Int) ≤ ci := by omega
 have g3 : ¬ (ai : Int) < 0 := by omega
 have g4 : ¬ (c.steps.length : Int) ≤ ai := by omega
 have g5 : (0 : Int) ≤ ci := by omega
 have g6 : (ci : Int) < s.classes.length := by omega
 have g7 : ci < s.classes.length := by omega
 have g8 : (0 : Int) ≤ ai := by omega
 have g9 : (ai : Int) < c.steps.length := by omega
 simp only [go_sem, Int.reduceEq, Int.reduceLT, Int.reduceLE, eq_self, Int.natCast_nonneg, Int.toNat_natCast, chainI, stD, hcmp, decide_true, h10, h11, decide_false, hwz, hwz2, hw3, hw, hxl3, hnw, stackD, hfl0, hl0']
 refine sem_drawY [] [] (pf := []) (mf := []) mixed tabSf_ok pureNo noMk (ones [0, 1, 2, 3, 4, 5, 6, 7, 8, 9, 10, 11, 12, 13, 14, 15]) (by kernel_rfl) ?_
 simp only [go_sem, Int.reduceEq, Int.reduceLT, Int.reduceLE, eq_self, Int.natCast_nonneg, Int.toNat_natCast, hwz, hw3, hw, hxl3, hnw, stackD, hfl0, hidx, hidx2, hidx3, hidx4, hin1, hfn, frD]
 refine sem_draw (pf := []) mixed tabSf_ok pureNo [0, 1, 2, 3, 4, 5, 6, 7, 8, 9, 10, 11, 12, 13, 14, 15, 16, 17, 18, 19, 20, 21, 22, 23, 24, 25, 26, 27, 28] (by kernel_rfl) ?_
 simp only [go_sem, Int.reduceEq, Int.reduceLT, Int.reduceLE, eq_self, Int.natCast_nonneg, Int.toNat_natCast, chainI, g1, g2, g3, g4, g5, g6, g7, g8, g9, List.length_map, hcn, clsD, stepsD, decide_false]
 refine sem_drawY [] [] (pf := []) (mf := []) mixed tabSf_ok pureNo noMk (ones [0, 1, 2, 3, 4, 5, 6, 7, 8, 9, 10, 11, 12]) (by kernel_rfl) ?_
 simp only [go_sem, Int.reduceEq, Int.reduceLT, Int.reduceLE, eq_self, Int.natCast_nonneg, Int.toNat_natCast, g5, g6, g7, g8, g9, hlen4, List.length_map, hcn, clsD, stepsD, hsn, stepD]
 have z4 : inR .i64 y.cnt := inR_i64.2 (by omega)
 cases hdp : y.deep with
 | true =>
  simp only [go_sem, Int.reduceEq, Int.reduceLT, Int.reduceLE, eq_self, Int.natCast_nonneg, Int.toNat_natCast, q2, q3, q4, hdp, z4]
  refine ⟨inR_i64.2 (by omega), i + 1, by omega, by omega, ?_⟩
  refine le_end (own := [_, _, _]) (ex := [_, _, _]) (Nat.le_add_left 2 1) ?_ ?_ ?_
  ·simp only [go_sem, Int.natCast_add, Int.cast_ofNat_Int]
  ·simp only [go_sem]
  ·simp only [go_sem, Obj.under, AV.unders, AV.under]
 | false =>
  have z5 : ¬ a1 < p.res := by
   rcases q5 with h | h
   ·rw [hdp] at h; cases h
   ·omega
  simp only [go_sem, Int.reduceEq, Int.reduceLT, Int.reduceLE, eq_self, Int.natCast_nonneg, Int.toNat_natCast, q2, q3, q4, hdp, z4, z5]
  refine ⟨inR_i64.2 (by omega), i + 1, by omega, by omega, ?_⟩
  refine le_end (own := [_, _, _]) (ex := [_, _, _]) (Nat.le_add_left 2 1) ?_ ?_ ?_
  ·simp only [go_sem, Int.natCast_add, Int.cast_ofNat_Int]
  ·simp only [go_sem]
  ·simp only [go_sem, Obj.under, AV.unders, AV.under]
end Go.AM

set_option maxRecDepth 8000
set_option maxHeartbeats 4000000
namespace Go.AM
open Go Go.Proofs

def folF (s : PSys) : PSt → List Int → PSt
 | x, [] => x
 | x, w :: ws => folF s (if (stepX s x w).2 = 0 then (stepX s x w).1 else x) ws
theorem able_step {s : PSys} {x : PSt} (hc : checkE s = 0) (hV : Valid s x) (w : Int) : (stepX s x w).2 = 0 ↔ ∃ a ∈ ableL s x, (a : Int) = w := by
 constructor
 ·intro h
  unfold stepX at h
  rw [if_neg (by rw [err_val hc hV]; simp)] at h
  by_cases h2 : w < 0 ∨ (x.length : Int) ≤ w
  ·rw [if_pos h2] at h; simp at h
  rw [if_neg h2] at h
  by_cases h3 : ableB s x w.toNat = false
  ·rw [if_pos h3] at h; simp at h
  exact ⟨w.toNat, mem_able.2 ⟨by omega, by simpa using h3⟩, by omega⟩
 ·rintro ⟨a, ha, rfl⟩
  obtain ⟨h1, h2⟩ := mem_able.1 ha
  rw [step_able hc hV h1 h2]
abbrev hasW (w : Int) (l : List Nat) : Bool := l.any fun a => decide ((a : Int) = w)
def folR (xs : List AV) (obs : List Obj) (v0 : AV) (obs' ex : List Obj) (mv0 : List Nat) : Prop := ∃ (s : PSys) (ws : List Int), s.fit ∧ checkE s = 0 ∧ ws.length ≤ 60 ∧
 xs = [.dat (sysD s), .dat (.sl none (intsD ws)), .fn 36 [.ptr 0 0 0, .ptr 1 0 0]] ∧ obs = [sysO s, stO (iniX s)] ∧ v0 = .dat (.bool true) ∧ obs' = [sysO s, stO (folF s (iniX s) ws)] ∧ ex = [] ∧ mv0 = []
abbrev tabFo : List (Nat × Contract) := [(28, dataC startXR), (19, dataC enabR), (13, dataC stepXR), (36, normC (lentC sfeR))]
theorem tabFo_ok : OkG Try.prog (tbl tabFo) := okG_cons xstart_ok (okG_cons xEnabled_ok (okG_cons xStep_ok (okG_cons (okF_norm sfe_ok) okG_nil)))
theorem follow_ok : OkF Try.prog 35 (lentC folR) := by
 refine okF_lent Try.func35 rfl (by decide) ?_
 rintro xs obs v0 obs' ex mv0 ⟨s, ws, hs, hc, hwl60, rfl, rfl, rfl, rfl, rfl, rfl⟩
 have hfit : ∀ x, Valid s x → PStFit x := fun x hV => kfit_st (val_kfit hV)
 have hwl : (intsD ws).length = ws.length := by simp
 have hst : startXR [sysD s] (.tup [.dat (stD (iniX s)), .dat (.int .i64 0)]) := ⟨s, rfl, hs, by rw [if_pos hc, hc]⟩
 generalize hF : folF s (iniX s) ws = F
 have hV0 := iniX_valid hc
 generalize iniX s = x0 at *
 refine sem_of_awp (Γ := tbl tabFo) tabFo_ok _ _ _ ?_
 simp only [go_sem, Int.reduceEq, Int.reduceLT, Int.reduceLE, eq_self, Int.natCast_nonneg, Int.toNat_natCast, Try.ntmps35, sysD]
 refine call_data startXR (by simp) [sysD s] _ rfl hst (.inl rfl) ?_
 simp only [go_sem, Int.reduceEq, Int.reduceLT, Int.reduceLE, eq_self, Int.natCast_nonneg, Int.toNat_natCast, stD, hwl]
 refine sem_loop (fun q : Nat × PSt => ⟨slotsOf 63 [(2, .fn 36 [.ptr 0 0 0, .ptr 1 0 0]), (3, .ptr 2 0 0), (7, .ptr 3 0 0), (23, .dat (.sl none (intsD ws))), (24, .dat (.int .i64 ws.length)), (25, .dat (.int .i64 q.1))], [sysO s, stO q.2, sysO s, stO q.2], 2, []⟩)
  (fun q => q.1 ≤ ws.length ∧ Valid s q.2 ∧ folF s q.2 (ws.drop q.1) = F) (fun q => ws.length - q.1) (0, x0) ⟨Nat.zero_le _, hV0, hF⟩ ?_ ?_
 ·exact le_slots' (by simp only [go_sem, Int.natCast_zero])
 rintro ⟨k, x⟩ ⟨hk, hV, hF⟩
 simp only at hk hV hF
 refine sem_of_awp (Γ := tbl tabFo) tabFo_ok _ _ _ ?_
 cases hd : ws.drop k with
 | nil =>
  obtain rfl : k = ws.length := end_of_drop hd hk
  have hk2 : ¬ (ws.length : Int) < ws.length := by omega
  rw [hd, folF] at hF
  subst hF
  simp only [go_sem, Int.reduceEq, Int.reduceLT, Int.reduceLE, eq_self, Int.natCast_nonneg, Int.toNat_natCast, hk2]
  refine post_resO (.inl rfl) [.tmp 6] rfl (fun _ h => h) ?_
  simp only [go_sem]
  refine le_end (own := [_, _]) (ex := [_, _]) (Nat.le_refl _) ?_ ?_ ?_
  ·simp only [go_sem]
  ·simp only [go_sem]
  ·simp only [go_sem, Obj.under, AV.unders, AV.under]
 | cons w r =>
 have hlt := lt_of_drop hd
 have hk2 : (k : Int) < ws.length := by omega
 have hkz : (0 : Int) ≤ k := Int.natCast_nonneg k
 have hn := nth_of_drop (f := fun a => D.int .i64 a) hd
 rw [hd, folF] at hF
 have hx := hfit x hV
 have hEl : (ableL s x).length ≤ 1000 := by
  have h1 := able_len s x x.length
  have h2 := hx.len
  unfold ableL; omega
 have hen : enabR [sysD s, stD x] (.dat (.sl none (natsD (ableL s x)))) := ⟨s, x, rfl, hs, hx, by unfold enabL; rw [if_neg (by rw [err_val hc hV]; simp)]⟩
 have hsp : stepXR [sysD s, stD x, .int .i64 w] (.tup [.dat (stD (stepX s x w).1), .dat (.int .i64 (stepX s x w).2)]) := ⟨s, x, w, rfl, hs, hx, rfl⟩
 have hab := able_step hc hV w
 have htk : ∀ a ∈ ableL s x, (a : Int) = w → (stepX s x w).1 = takeX s x a ∧ a < x.length ∧ ableB s x a = true := fun a ha h => by
  obtain ⟨h1, h2⟩ := mem_able.1 ha
  rw [← h, step_able hc hV h1 h2]; exact ⟨rfl, h1, h2⟩
 generalize stepX s x w = y at *
 obtain ⟨y, e⟩ := y
 simp only at hab htk hF
 generalize ableL s x = E at *
 have hEl2 : (natsD E).length = E.length := by simp
 simp only [go_sem, Int.reduceEq, Int.reduceLT, Int.reduceLE, eq_self, Int.natCast_nonneg, Int.toNat_natCast, hk2, hkz, hlt, hwl, hn, stD]
 refine call_data enabR (by simp) [sysD s, stD x] _ rfl hen (.inl rfl) ?_
 simp only [go_sem, Int.reduceEq, Int.reduceLT, Int.reduceLE, eq_self, Int.natCast_nonneg, Int.toNat_natCast, hEl2]
 refine sem_loop (fun m : Nat => ⟨slotsOf 63 [(2, .fn 36 [.ptr 0 0 0, .ptr 1 0 0]), (3, .ptr 2 0 0), (7, .ptr 3 0 0), (10, .dat (.int .i64 w)), (11, .dat (.bool (hasW w (E.take m)))), (23, .dat (.sl none (intsD ws))), (24, .dat (.int .i64 ws.length)), (25, .dat (.int .i64 k)), (31, .dat (.sl none (natsD E))), (32, .dat (.int .i64 E.length)), (33, .dat (.int .i64 m))], [sysO s, stO x, sysO s, stO x], 2, []⟩)
  (fun m => m ≤ E.length) (fun m => E.length - m) 0 (Nat.zero_le _) ?_ ?_
 ·exact le_slots' (by simp only [go_sem, Int.natCast_zero, hasW, List.take_zero, List.any_nil])
 rintro m hm
 refine sem_of_awp (Γ := tbl tabFo) tabFo_ok _ _ _ ?_
 cases hd3 : E.drop m with
 | cons a r3 =>
  have hlt3 := lt_of_drop hd3
  have hk3 : (m : Int) < E.length := by omega
  have hkz3 : (0 : Int) ≤ m := Int.natCast_nonneg m
  have hn3 := nth_of_drop (f := natD) hd3
  have htake : hasW w (E.take (m + 1)) = (hasW w (E.take m) || decide ((a : Int) = w)) := by
   rw [take_of_drop hd3]; simp [hasW, List.any_append]
  cases hb : hasW w (E.take m) with
  | true =>
   rw [hb, Bool.true_or] at htake
   simp only [go_sem, Int.reduceEq, Int.reduceLT, Int.reduceLE, eq_self, Int.natCast_nonneg, Int.toNat_natCast, hk3, hkz3, hlt3, hEl2, hn3]
   refine ⟨inR_i64.2 (by omega), m + 1, by omega, by omega, ?_⟩
   rw [htake]
   exact le_slots' (by simp only [go_sem, Int.natCast_add, Int.cast_ofNat_Int])
  | false =>
   rw [hb, Bool.false_or] at htake
   simp only [go_sem, Int.reduceEq, Int.reduceLT, Int.reduceLE, eq_self, Int.natCast_nonneg, Int.toNat_natCast, hk3, hkz3, hlt3, hEl2, hn3]
   refine ⟨inR_i64.2 (by omega), m + 1, by omega, by omega, ?_⟩
   rw [htake]
   exact le_slots' (by simp only [go_sem, Int.natCast_add, Int.cast_ofNat_Int])
 | nil =>
 obtain rfl : m = E.length := end_of_drop hd3 hm
 have hk3 : ¬ (E.length : Int) < E.length := by omega
 rw [List.take_length]
 by_cases he : e = 0
 ·obtain ⟨a, haE, haw⟩ := hab.1 he
  have hb : hasW w E = true := List.any_eq_true.2 ⟨a, haE, decide_eq_true haw⟩
  obtain ⟨hy, h1, h2⟩ := htk a haE haw
  rw [if_pos he] at hF
  rw [hb]
  simp only [go_sem, Int.reduceEq, Int.reduceLT, Int.reduceLE, eq_self, Int.natCast_nonneg, Int.toNat_natCast, hk3, stD]
  refine call_data stepXR (by simp) [sysD s, stD x, .int .i64 w] _ rfl hsp (.inl rfl) ?_
  simp only [go_sem, Int.reduceEq, Int.reduceLT, Int.reduceLE, eq_self, Int.natCast_nonneg, Int.toNat_natCast, stD, he, decide_true]
  refine callw_caps (call_lentN sfeR (by simp) [0, 1] ⟨s, x, a, hs, hc, hV, h1, h2, rfl, rfl, rfl, rfl, rfl, rfl⟩ (by decide) (by simp) rfl rfl (by rw [← hy]; rfl) (by simp only [go_sem, AV.unders, AV.under, List.length_cons, List.length_nil]) ?_ ?_ ?_)
  ·simp only [List.mem_cons, List.mem_nil_iff, or_false, forall_eq_or_imp, forall_eq, Obj.under, AV.unders, AV.under, List.length_cons, List.length_nil, and_self, and_true]
  ·intro j hj
   rcases j with _ | _ | j
   ·rfl
   ·rfl
   ·simp at hj; omega
  have e1 : ∀ n : Nat, emb [0, 1] n 0 = 0 ∧ emb [0, 1] n 1 = 1 := fun n => ⟨rfl, rfl⟩
  rw [← hy]
  simp only [go_sem, Int.reduceEq, Int.reduceLT, Int.reduceLE, eq_self, Int.natCast_nonneg, Int.toNat_natCast, e1]
  refine ⟨inR_i64.2 (by omega), (k + 1, y), ⟨by simp only; omega, by rw [hy]; exact val_take hV h1 h2, by simp only; rw [drop_cons hd]; exact hF⟩, by simp only; omega, ?_⟩
  refine le_end (own := [_, _, _, _]) (ex := [_]) (by simp) ?_ ?_ ?_
  ·simp only [go_sem, Int.natCast_add, Int.cast_ofNat_Int]
  ·simp only [go_sem]
  ·simp only [go_sem, Obj.under, AV.unders, AV.under]
 ·have hb : hasW w E = false := by
   rw [Bool.eq_false_iff]
   intro h
   obtain ⟨a, h1, h2⟩ := List.any_eq_true.1 h
   exact he (hab.2 ⟨a, h1, of_decide_eq_true h2⟩)
  rw [if_neg he] at hF
  rw [hb]
  simp only [go_sem, Int.reduceEq, Int.reduceLT, Int.reduceLE, eq_self, Int.natCast_nonneg, Int.toNat_natCast, hk3, stD]
  refine call_data stepXR (by simp) [sysD s, stD x, .int .i64 w] _ rfl hsp (.inl rfl) ?_
  simp only [go_sem, Int.reduceEq, Int.reduceLT, Int.reduceLE, eq_self, Int.natCast_nonneg, Int.toNat_natCast, stD, he, decide_false]
  refine ⟨inR_i64.2 (by omega), (k + 1, x), ⟨by simp only; omega, hV, by simp only; rw [drop_cons hd]; exact hF⟩, by simp only; omega, ?_⟩
  refine le_end (own := [_, _, _, _]) (ex := [_]) (by simp) ?_ ?_ ?_
  ·simp only [go_sem, Int.natCast_add, Int.cast_ofNat_Int]
  ·simp only [go_sem]
  ·simp only [go_sem, Obj.under, AV.unders, AV.under]
end Go.AM

set_option maxRecDepth 8000
set_option maxHeartbeats 4000000
namespace Go.AM
open Go Go.Proofs

abbrev tabZ8 : List (Nat × Contract) := [(11, dataC awakeXR), (12, dataC few4R), (28, dataC startXR), (35, normC (lentC folR))]
theorem tabZ8_ok : OkG Try.prog (tbl tabZ8) := okG_cons awakeX_ok (okG_cons few4_ok (okG_cons xstart_ok (okG_cons (okF_norm follow_ok) okG_nil)))
theorem lawSafe_ok : OkF Try.prog 9 (dataC lawRhR) := by
 refine okF_data Try.func9 rfl (by decide) ?_
 rintro ds v ⟨s, ws, rfl, rfl⟩
 have hwl : (intsD ws).length = ws.length := by simp
 refine sem_of_awp (Γ := tbl tabZ8) tabZ8_ok _ _ _ ?_
 simp only [go_sem, Int.reduceEq, Int.reduceLT, Int.reduceLE, eq_self, Int.natCast_nonneg, Int.toNat_natCast, Try.ntmps9, sysD]
 refine call_data awakeXR (by simp) [] _ rfl awakeXR_true (.inl rfl) ?_
 simp only [go_sem, Int.reduceEq, Int.reduceLT, Int.reduceLE, eq_self, Int.natCast_nonneg, Int.toNat_natCast]
 refine call_data few4R (by simp) [sysD s] _ rfl ⟨s, rfl, rfl⟩ (.inl rfl) ?_
 cases hf : few4B s with
 | false =>
  simp only [go_sem, Int.reduceEq, Int.reduceLT, Int.reduceLE, eq_self, Int.natCast_nonneg, Int.toNat_natCast, hf]
  refine call_data awakeXR (by simp) [] _ rfl awakeXR_true (.inl rfl) ?_
  simp only [go_sem, Int.reduceEq, Int.reduceLT, Int.reduceLE, eq_self, Int.natCast_nonneg, Int.toNat_natCast]
  exact post_data (.inl rfl) [4] rfl trivial rfl
 | true =>
 have hs := few4_fit hf
 by_cases hl : (60 : Int) < ws.length
 ·simp only [go_sem, Int.reduceEq, Int.reduceLT, Int.reduceLE, eq_self, Int.natCast_nonneg, Int.toNat_natCast, hf, hwl, hl]
  refine call_data awakeXR (by simp) [] _ rfl awakeXR_true (.inl rfl) ?_
  simp only [go_sem, Int.reduceEq, Int.reduceLT, Int.reduceLE, eq_self, Int.natCast_nonneg, Int.toNat_natCast]
  exact post_data (.inl rfl) [4] rfl trivial rfl
 have hst : startXR [sysD s] (.tup [.dat (stD (if checkE s = 0 then iniX s else [])), .dat (.int .i64 (checkE s))]) := ⟨s, rfl, hs, rfl⟩
 by_cases hc : checkE s = 0
 case neg =>
  rw [if_neg hc] at hst
  simp only [go_sem, Int.reduceEq, Int.reduceLT, Int.reduceLE, eq_self, Int.natCast_nonneg, Int.toNat_natCast, hf, hwl, hl]
  refine call_data startXR (by simp) [sysD s] _ rfl hst (.inl rfl) ?_
  simp only [go_sem, Int.reduceEq, Int.reduceLT, Int.reduceLE, eq_self, Int.natCast_nonneg, Int.toNat_natCast, stD, hc]
  exact post_data (.inl rfl) [4] rfl trivial rfl
 rw [if_pos hc, hc] at hst
 simp only [go_sem, Int.reduceEq, Int.reduceLT, Int.reduceLE, eq_self, Int.natCast_nonneg, Int.toNat_natCast, hf, hwl, hl]
 refine call_data startXR (by simp) [sysD s] _ rfl hst (.inl rfl) ?_
 simp only [go_sem, Int.reduceEq, Int.reduceLT, Int.reduceLE, eq_self, Int.natCast_nonneg, Int.toNat_natCast, stD, eq_self, not_true, decide_false]
 refine call_lentN folR (by simp) [0, 1] ⟨s, ws, hs, hc, by omega, rfl, rfl, rfl, rfl, rfl, rfl⟩ (by decide) (by simp) rfl rfl rfl (by simp only [go_sem, AV.unders, AV.under, List.length_cons, List.length_nil]) ?_ ?_ ?_
 ·simp only [List.mem_cons, List.mem_nil_iff, or_false, forall_eq_or_imp, forall_eq, Obj.under, AV.unders, AV.under, List.length_cons, List.length_nil, and_self, and_true]
 ·intro j hj
  rcases j with _ | _ | j
  ·rfl
  ·rfl
  ·simp at hj; omega
 have e1 : ∀ n : Nat, emb [0, 1] n 0 = 0 ∧ emb [0, 1] n 1 = 1 := fun n => ⟨rfl, rfl⟩
 simp only [go_sem, Int.reduceEq, Int.reduceLT, Int.reduceLE, eq_self, Int.natCast_nonneg, Int.toNat_natCast, e1]
 exact post_data (.inl rfl) [4] rfl trivial rfl
end Go.AM

