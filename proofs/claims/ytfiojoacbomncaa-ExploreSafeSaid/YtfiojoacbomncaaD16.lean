/- Own work over the model of the kit. -/
import Derived.Test.YtfiojoacbomncaaD15
import Derived.Test.YtfiojoacbomncaaD13
set_option linter.unusedSimpArgs false
set_option linter.unusedVariables false
set_option maxRecDepth 8000
set_option maxHeartbeats 4000000
namespace Go.AM
open Go Go.Proofs

def lotI (n : Int) : Bool := decide (1 < n)
def lotR (ds : List D) (v : AV) : Prop := ∃ n : Int, ds = [.int .i64 n] ∧ v = .dat (.bool (lotI n))
theorem lot_ok : OkF Try.prog 50 (dataC lotR) := by
 refine okF_data Try.func50 rfl (by decide) ?_
 rintro ds v ⟨n, rfl, rfl⟩
 refine sem_of_awp (Γ := tbl []) okG_nil _ _ _ ?_
 unfold lotI
 simp only [go_sem, Int.reduceEq, Int.reduceLT, Int.reduceLE, eq_self, Int.natCast_nonneg, Int.toNat_natCast, Try.ntmps50]
 exact post_data (.inl rfl) [2] rfl trivial rfl
def ixLR (xs : List AV) (obs : List Obj) (v0 : AV) (obs' ex : List Obj) (mv0 : List Nat) : Prop := ∃ (L : List Int), L.length ≤ 10000 ∧
 xs = [.dat (.sl none (intsD L)), .fn 50 []] ∧ obs = [] ∧ v0 = .dat (.int .i64 (fstI (fstL lotI 0 L))) ∧ obs' = obs ∧ ex = [] ∧ mv0 = []
abbrev tabIL : List (Nat × Contract) := [(50, dataC lotR)]
theorem tabIL_ok : OkG Try.prog (tbl tabIL) := okG_cons lot_ok okG_nil
theorem indexLot_ok : OkF Try.prog 77 (lentC ixLR) := by
 refine okF_lent Try.func77 rfl (by decide) ?_
 rintro xs obs v0 obs' ex mv0 ⟨L, hl, rfl, rfl, rfl, rfl, rfl, rfl⟩
 generalize hV : fstL lotI 0 L = V
 refine sem_of_awp (Γ := tbl tabIL) tabIL_ok _ _ _ ?_
 simp only [go_sem, Int.reduceEq, Int.reduceLT, Int.reduceLE, eq_self, Int.natCast_nonneg, Int.toNat_natCast, Try.ntmps77, ints_len]
 refine sem_loop (fun k : Nat => ⟨slotsOf 19 [(0, .dat (.sl none (intsD L))), (1, .fn 50 []), (7, .dat (.int .i64 L.length)), (8, .dat (.int .i64 k))], [], 0, []⟩)
  (fun k => k ≤ L.length ∧ fstL lotI k (L.drop k) = V) (fun k => L.length - k) 0 ⟨Nat.zero_le _, hV⟩ ?_ ?_
 ·exact le_slots' (by simp only [go_sem, Int.natCast_zero])
 rintro k ⟨hk, hV⟩
 refine sem_of_awp (Γ := tbl tabIL) tabIL_ok _ _ _ ?_
 cases hd : L.drop k with
 | nil =>
  have := end_of_drop hd hk
  have hk2 : ¬ (k : Int) < L.length := by omega
  rw [hd, fstL] at hV
  simp only [go_sem, Int.reduceEq, Int.reduceLT, Int.reduceLE, eq_self, Int.natCast_nonneg, Int.toNat_natCast, hk2]
  exact post_own (.inl rfl) [4] rfl (by rw [← hV]; simp only [tmpsOf]; rfl) (fun _ h => h)
 | cons x r =>
  have hlt := lt_of_drop hd
  have hk2 : (k : Int) < L.length := by omega
  have hk0 : (0 : Int) ≤ k := Int.natCast_nonneg k
  have hn := nth_of_drop (f := .int .i64) hd
  rw [hd, fstL] at hV
  simp only [go_sem, Int.reduceEq, Int.reduceLT, Int.reduceLE, eq_self, Int.natCast_nonneg, Int.toNat_natCast, hk2, hk0, hn, hlt, ints_len]
  refine call_data lotR (by simp) _ _ rfl ⟨x, rfl, rfl⟩ (.inl rfl) ?_
  cases hp : lotI x with
  | true =>
   rw [hp, if_pos rfl] at hV
   simp only [go_sem, Int.reduceEq, Int.reduceLT, Int.reduceLE, eq_self, Int.natCast_nonneg, Int.toNat_natCast, hp]
   exact post_own (.inl rfl) [4] rfl (by rw [← hV]; simp only [tmpsOf]; rfl) (fun _ h => h)
  | false =>
   rw [hp, if_neg (by decide)] at hV
   simp only [go_sem, Int.reduceEq, Int.reduceLT, Int.reduceLE, eq_self, Int.natCast_nonneg, Int.toNat_natCast, hp]
   refine ⟨inR_i64.2 (by omega), k + 1, ⟨by omega, by rw [drop_cons hd]; exact hV⟩, by omega, ?_⟩
   exact le_slots' (by simp only [go_sem, Int.natCast_add, Int.cast_ofNat_Int])
def hasLR (xs : List AV) (obs : List Obj) (v0 : AV) (obs' ex : List Obj) (mv0 : List Nat) : Prop := ∃ (L : List Int), L.length ≤ 10000 ∧
 xs = [.dat (.sl none (intsD L)), .fn 50 []] ∧ obs = [] ∧ v0 = .dat (.bool (L.any lotI)) ∧ obs' = obs ∧ ex = [] ∧ mv0 = []
theorem fst_anyL {L : List Int} : decide (0 ≤ fstI (fstL lotI 0 L)) = L.any lotI := by
 cases h : fstL lotI 0 L with
 | none =>
  have := fstL_none.1 h
  rw [Bool.eq_iff_iff, List.any_eq_true, decide_eq_true_eq]
  constructor
  ·intro hh; simp [fstI] at hh
  ·rintro ⟨x, hx, hx2⟩; rw [this x hx] at hx2; cases hx2
 | some j =>
  obtain ⟨i, x, _, h2, h3⟩ := fstL_some h
  rw [Bool.eq_iff_iff, List.any_eq_true, decide_eq_true_eq]
  exact ⟨fun _ => ⟨x, List.mem_of_getElem? h2, h3⟩, fun _ => by simp [fstI]⟩
theorem hasLot_ok : OkF Try.prog 49 (lentC hasLR) := by
 refine okF_lent Try.func49 rfl (by decide) ?_
 rintro xs obs v0 obs' ex mv0 ⟨L, hl, rfl, rfl, rfl, rfl, rfl, rfl⟩
 refine sem_of_awp (Γ := tbl [(77, pureOf (lentC ixLR))]) (okG_cons (okF_pureOf indexLot_ok) okG_nil) _ _ _ ?_
 simp only [go_sem, Int.reduceEq, Int.reduceLT, Int.reduceLE, eq_self, Int.natCast_nonneg, Int.toNat_natCast, Try.ntmps49]
 refine call_lentP ixLR (by simp) [] ⟨L, hl, rfl, rfl, rfl, rfl, rfl, rfl⟩ (by decide) (by simp) rfl rfl (by simp only [go_sem]) (by simp) (fun j hj => by simp at hj) ?_
 simp only [go_sem, Int.reduceEq, Int.reduceLT, Int.reduceLE, eq_self, Int.natCast_nonneg, Int.toNat_natCast, fst_anyL]
 exact post_own (.inl rfl) [4] rfl (by simp only [tmpsOf]; rfl) (fun _ h => h)

theorem fmd_ok {s : PSys} : ∀ {l : List PFr} {p : Option PFr}, fmd s p l = true → ∀ f ∈ l, frOk s f = true
 | [], _, _, f, hf => by simp at hf
 | g :: l, p, h, f, hf => by
  rw [fmd_cons, Bool.and_eq_true, Bool.and_eq_true] at h
  rcases List.mem_cons.1 hf with rfl | hf
  ·exact h.1.1
  ·exact fmd_ok h.2 f hf
theorem formedB_ok {s : PSys} {l : List PFr} {c : Nat} (h : formedB s l c = true) : l ≠ [] ∧ ∀ f ∈ l, frOk s f = true := by
 cases l with
 | nil => simp [formedB] at h
 | cons f r =>
  unfold formedB at h
  simp only [Bool.and_eq_true] at h
  exact ⟨by simp, fmd_ok h.2⟩
theorem fmdAll_ok {s : PSys} : ∀ {x : PSt} {w : List Nat}, fmdAll s x w = true → x.length = w.length → ∀ l ∈ x, l ≠ [] ∧ ∀ f ∈ l, frOk s f = true
 | [], _, _, _, l, hl => by simp at hl
 | _ :: _, [], _, h, _, _ => by simp at h
 | m :: x, c :: w, h, hlen, l, hl => by
  simp only [fmdAll, Bool.and_eq_true] at h
  rcases List.mem_cons.1 hl with rfl | hl
  ·exact formedB_ok h.1
  ·exact fmdAll_ok h.2 (by simpa using hlen) l hl
theorem frames_ok {s : PSys} {x : PSt} {w : List Nat} (h : fmdAll s x w = true) (hl : x.length = w.length) : ∀ f ∈ frames x, frOk s f = true := fun f hf => by
 obtain ⟨l, hm, hf⟩ := List.mem_flatten.1 hf
 exact (fmdAll_ok h hl l hm).2 f hf
theorem any_lot {s : PSys} {L : List PFr} : (talL s L).any lotI = (List.range s.locks.length).any fun i => decide (1 < sumI (frL s i) L) := by
 unfold talL
 rw [List.any_map]
 rfl
theorem any_at {n k : Nat} {p : Nat → Bool} (hk : k < n) (h : p k = true) : (List.range n).any p = true := List.any_eq_true.2 ⟨k, List.mem_range.2 hk, h⟩
theorem any_no {n : Nat} {p : Nat → Bool} (h : ∀ i, i < n → p i = false) : (List.range n).any p = false := by
 rw [← Bool.not_eq_true, List.any_eq_true]
 rintro ⟨i, hi, hp⟩
 rw [h i (List.mem_range.1 hi)] at hp; cases hp
def stErrR (ds : List D) (v : AV) : Prop := ∃ (s : PSys) (x : PSt), ds = [sysD s, stD x] ∧ s.fit ∧ PStFit x ∧ v = .dat (.int .i64 (stErr s x))
abbrev tabXC : List (Nat × Contract) := [(46, dataC checkR), (47, dataC wkR), (48, dataC fmR), (41, dataC talR), (49, pureOf (lentC hasLR))]
theorem tabXC_ok : OkG Try.prog (tbl tabXC) := okG_cons check_ok (okG_cons workers_ok (okG_cons formed_ok (okG_cons tally_ok (okG_cons (okF_pureOf hasLot_ok) okG_nil))))
theorem pureXC : PureFns (tbl tabXC) [48] := by
 refine pure_of2 fun g C hm hg => ?_
 simp only [List.mem_cons, List.not_mem_nil, or_false, Prod.mk.injEq] at hm
 rcases hm with ⟨_, rfl⟩ | ⟨_, rfl⟩ | ⟨_, rfl⟩ | ⟨_, rfl⟩ | ⟨_, rfl⟩
 ·exact .inl ⟨_, rfl⟩
 ·exact .inl ⟨_, rfl⟩
 ·exact .inl ⟨_, rfl⟩
 ·exact .inl ⟨_, rfl⟩
 ·exact .inr ⟨_, rfl⟩
theorem xcheck_ok : OkF Try.prog 15 (dataC stErrR) := by
 refine okF_data Try.func15 rfl (by decide) ?_
 rintro ds v ⟨s, x, rfl, hf, hx, rfl⟩
 generalize hv : stErr s x = V
 unfold stErr at hv
 refine sem_of_awp (Γ := tbl tabXC) tabXC_ok _ _ _ ?_
 simp only [go_sem, Int.reduceEq, Int.reduceLT, Int.reduceLE, eq_self, Int.natCast_nonneg, Int.toNat_natCast, Try.ntmps15, sysD, stD]
 refine call_data checkR (by simp) [sysD s] _ rfl ⟨s, rfl, hf, rfl⟩ (.inl rfl) ?_
 by_cases he : checkE s = 0
 case neg =>
  rw [if_pos he] at hv
  subst hv
  simp only [go_sem, Int.reduceEq, Int.reduceLT, Int.reduceLE, eq_self, Int.natCast_nonneg, Int.toNat_natCast, he]
  exact post_data (.inl rfl) [4] rfl trivial rfl
 have hg := good_of he
 rw [if_neg (by rw [he]; decide)] at hv
 simp only [go_sem, Int.reduceEq, Int.reduceLT, Int.reduceLE, eq_self, Int.natCast_nonneg, Int.toNat_natCast, he]
 refine call_data wkR (by simp) [sysD s] _ rfl ⟨s, rfl, hg, rfl⟩ (.inl rfl) ?_
 have hlen := wkL_len hg
 have hxl2 : (stacksD x).length = x.length := by simp
 generalize hW : wkL s = W at *
 by_cases hl : W.length = x.length
 case neg =>
  rw [if_pos hl] at hv
  subst hv
  have hl2 : ¬ (W.length : Int) = x.length := by omega
  simp only [go_sem, Int.reduceEq, Int.reduceLT, Int.reduceLE, eq_self, Int.natCast_nonneg, Int.toNat_natCast, nats_len, hxl2, hl2]
  exact post_data (.inl rfl) [4] rfl trivial rfl
 rw [if_neg (by rw [hl]; simp)] at hv
 have hl2 : (W.length : Int) = x.length := by omega
 simp only [go_sem, Int.reduceEq, Int.reduceLT, Int.reduceLE, eq_self, Int.natCast_nonneg, Int.toNat_natCast, nats_len, hxl2, hl2]
 refine sem_loop (fun k : Nat => ⟨slotsOf 92 [(2, .ptr 0 0 0), (3, .ptr 1 0 0), (27, .dat (.sl none (natsD W))), (28, .dat (.int .i64 x.length)), (29, .dat (.int .i64 k))], [sysO s, stO x], 0, []⟩)
  (fun k => k ≤ x.length ∧ fmdAll s x W = fmdAll s (x.drop k) (W.drop k)) (fun k => x.length - k) 0 ⟨Nat.zero_le _, rfl⟩ ?_ ?_
 ·exact le_slots' (by simp only [go_sem, Int.natCast_zero])
 rintro k ⟨hk, hA⟩
 refine sem_of_awp (Γ := tbl tabXC) tabXC_ok _ _ _ ?_
 cases hd : x.drop k with
 | cons l r =>
  have hlt := lt_of_drop hd
  have hk2 : (k : Int) < x.length := by omega
  have hk0 : (0 : Int) ≤ k := Int.natCast_nonneg k
  have hkW : k < W.length := by omega
  have hkW2 : (k : Int) < W.length := by omega
  have hn := nth_of_drop (f := stackD) hd
  have hll := hx.stk l (mem_of_drop hd)
  obtain ⟨c, rW, hdW⟩ : ∃ c rW, W.drop k = c :: rW := by
   cases hdW : W.drop k with
   | nil => have := List.drop_eq_nil_iff.1 hdW; omega
   | cons c rW => exact ⟨c, rW, rfl⟩
  have hnW : D.nth (natsD W) k = .int .i64 c := nth_of_drop hdW
  rw [hd, hdW, fmdAll] at hA
  simp only [go_sem, Int.reduceEq, Int.reduceLT, Int.reduceLE, eq_self, Int.natCast_nonneg, Int.toNat_natCast, hk2, hk0, hkW, hkW2, hnW, nats_len]
  refine sem_draw (pf := [48]) (Γ := tbl tabXC) mixed tabXC_ok pureXC [0, 1, 2, 3, 4, 5, 6, 7, 8] (by kernel_rfl) ?_
  simp only [go_sem, Int.reduceEq, Int.reduceLT, Int.reduceLE, eq_self, Int.natCast_nonneg, Int.toNat_natCast, chainI, hk2, hk0, hlt, hn, hxl2]
  refine call_data fmR (by simp) [sysD s, stackD l, .int .i64 c] _ rfl ⟨s, l, c, rfl, hg, hll, rfl⟩ (.inl rfl) ?_
  cases hfo : formedB s l c with
  | false =>
   rw [hfo, Bool.false_and] at hA
   rw [if_pos hA] at hv
   subst hv
   simp only [go_sem, Int.reduceEq, Int.reduceLT, Int.reduceLE, eq_self, Int.natCast_nonneg, Int.toNat_natCast, chainI]
   exact post_data (.inl rfl) [4] rfl trivial rfl
  | true =>
   rw [hfo, Bool.true_and] at hA
   simp only [go_sem, Int.reduceEq, Int.reduceLT, Int.reduceLE, eq_self, Int.natCast_nonneg, Int.toNat_natCast, chainI]
   refine ⟨inR_i64.2 (by omega), k + 1, ⟨by omega, by rw [drop_cons hd, drop_cons hdW]; exact hA⟩, by omega, ?_⟩
   exact le_slots' (by simp only [go_sem, Int.natCast_add, Int.cast_ofNat_Int])
 | nil =>
 obtain rfl : k = x.length := end_of_drop hd hk
 have hk2 : ¬ (x.length : Int) < x.length := by omega
 rw [hd, ← hl, List.drop_length] at hA
 have hA : fmdAll s x W = true := hA.trans rfl
 rw [if_neg (by rw [hA]; decide)] at hv
 have hfr := frames_ok hA hl.symm
 have hfl := frames_len hx
 simp only [go_sem, Int.reduceEq, Int.reduceLT, Int.reduceLE, eq_self, Int.natCast_nonneg, Int.toNat_natCast, hk2]
 refine call_data talR (by simp) [sysD s, stD x] _ rfl ⟨s, x, rfl, hg, hx, hfr, rfl⟩ (.inl rfl) ?_
 have hU : (talU s (frames x)).length = s.pools.length := by simp [talU]
 have hLk : (talL s (frames x)).length = s.locks.length := by simp [talL]
 have hE : (talE s (frames x)).length = s.classes.length := by simp [talE]
 unfold overB at hv
 generalize frames x = L at *
 have hnp := hg.np
 have hnc := hg.nc
 have hnl := hg.nl
 simp only [go_sem, Int.reduceEq, Int.reduceLT, Int.reduceLE, eq_self, Int.natCast_nonneg, Int.toNat_natCast, useD, ints_len, hU]
 refine sem_loop (fun k : Nat => ⟨slotsOf 92 [(2, .ptr 0 0 0), (3, .ptr 1 0 0), (9, .ptr 2 0 0), (48, .dat (.sl none (intsD (talU s L)))), (49, .dat (.int .i64 s.pools.length)), (50, .dat (.int .i64 k))], [sysO s, stO x, .box [.dat (.sl none (intsD (talU s L))), .dat (.sl none (intsD (talL s L))), .dat (.sl none (intsD (talE s L)))]], 0, []⟩)
  (fun k => k ≤ s.pools.length ∧ ∀ i, i < k → ¬ (s.pools.getD i default).size < sumI (frU s i) L) (fun k => s.pools.length - k) 0 ⟨Nat.zero_le _, fun i hi => absurd hi (Nat.not_lt_zero i)⟩ ?_ ?_
 ·exact le_slots' (by simp only [go_sem, Int.natCast_zero])
 rintro k ⟨hk, hB⟩
 refine sem_of_awp (Γ := tbl tabXC) tabXC_ok _ _ _ ?_
 rcases Nat.lt_or_ge k s.pools.length with hlt | hge
 ·have hk2 : (k : Int) < s.pools.length := by omega
  have hk0 : (0 : Int) ≤ k := Int.natCast_nonneg k
  have hUn : D.nth (intsD (talU s L)) k = .int .i64 (sumI (frU s k) L) := rngM_get hlt
  have hpn : D.nth (s.pools.map poolD) k = poolD (s.pools.getD k default) := D.nth_map hlt
  have hpl : (s.pools.map poolD).length = s.pools.length := by simp
  by_cases hb : (s.pools.getD k default).size < sumI (frU s k) L
  ·rw [any_at hlt (by rw [decide_eq_true hb]), Bool.true_or, Bool.true_or, if_pos rfl] at hv
   subst hv
   simp only [go_sem, Int.reduceEq, Int.reduceLT, Int.reduceLE, eq_self, Int.natCast_nonneg, Int.toNat_natCast, hk2, hk0, hlt, hUn, hpn, hpl, poolD, ints_len, hU, hb]
   exact post_data (.inl rfl) [4] rfl trivial rfl
  ·simp only [go_sem, Int.reduceEq, Int.reduceLT, Int.reduceLE, eq_self, Int.natCast_nonneg, Int.toNat_natCast, hk2, hk0, hlt, hUn, hpn, hpl, poolD, ints_len, hU, hb]
   refine ⟨inR_i64.2 (by omega), k + 1, ⟨by omega, fun i hi => ?_⟩, by omega, ?_⟩
   ·rcases Nat.lt_or_ge i k with h | h
    ·exact hB i h
    ·obtain rfl : i = k := by omega
     exact hb
   ·exact le_slots' (by simp only [go_sem, Int.natCast_add, Int.cast_ofNat_Int])
 obtain rfl : k = s.pools.length := by omega
 have hk2 : ¬ (s.pools.length : Int) < s.pools.length := by omega
 rw [any_no fun i hi => decide_eq_false (hB i hi), Bool.false_or] at hv
 simp only [go_sem, Int.reduceEq, Int.reduceLT, Int.reduceLE, eq_self, Int.natCast_nonneg, Int.toNat_natCast, hk2, ints_len, hE]
 refine sem_loop (fun k : Nat => ⟨slotsOf 92 [(2, .ptr 0 0 0), (3, .ptr 1 0 0), (9, .ptr 2 0 0), (65, .dat (.sl none (intsD (talE s L)))), (66, .dat (.int .i64 s.classes.length)), (67, .dat (.int .i64 k))], [sysO s, stO x, .box [.dat (.sl none (intsD (talU s L))), .dat (.sl none (intsD (talL s L))), .dat (.sl none (intsD (talE s L)))]], 0, []⟩)
  (fun k => k ≤ s.classes.length ∧ ∀ i, i < k → ((s.classes.getD i default).server && decide ((s.classes.getD i default).workers < sumI (frE s i) L)) = false) (fun k => s.classes.length - k) 0 ⟨Nat.zero_le _, fun i hi => absurd hi (Nat.not_lt_zero i)⟩ ?_ ?_
 ·exact le_slots' (by simp only [go_sem, Int.natCast_zero])
 rintro k ⟨hk, hB2⟩
 refine sem_of_awp (Γ := tbl tabXC) tabXC_ok _ _ _ ?_
 rcases Nat.lt_or_ge k s.classes.length with hlt | hge
 ·have hk2 : (k : Int) < s.classes.length := by omega
  have hk0 : (0 : Int) ≤ k := Int.natCast_nonneg k
  have hUn : D.nth (intsD (talE s L)) k = .int .i64 (sumI (frE s k) L) := rngM_get hlt
  have hpn : D.nth (s.classes.map clsD) k = clsD (s.classes.getD k default) := D.nth_map hlt
  have hpl : (s.classes.map clsD).length = s.classes.length := by simp
  cases hsv : (s.classes.getD k default).server with
  | false =>
   simp only [go_sem, Int.reduceEq, Int.reduceLT, Int.reduceLE, eq_self, Int.natCast_nonneg, Int.toNat_natCast, hk2, hk0, hlt, hUn, hpn, hpl, clsD, stepsD, ints_len, hE, hsv]
   refine ⟨inR_i64.2 (by omega), k + 1, ⟨by omega, fun i hi => ?_⟩, by omega, ?_⟩
   ·rcases Nat.lt_or_ge i k with h | h
    ·exact hB2 i h
    ·obtain rfl : i = k := by omega
     rw [hsv, Bool.false_and]
   ·exact le_slots' (by simp only [go_sem, Int.natCast_add, Int.cast_ofNat_Int])
  | true =>
   by_cases hb : (s.classes.getD k default).workers < sumI (frE s k) L
   ·rw [any_at hlt (by rw [hsv, decide_eq_true hb]; rfl), Bool.true_or, if_pos rfl] at hv
    subst hv
    simp only [go_sem, Int.reduceEq, Int.reduceLT, Int.reduceLE, eq_self, Int.natCast_nonneg, Int.toNat_natCast, hk2, hk0, hlt, hUn, hpn, hpl, clsD, stepsD, ints_len, hE, hsv, hb]
    exact post_data (.inl rfl) [4] rfl trivial rfl
   ·simp only [go_sem, Int.reduceEq, Int.reduceLT, Int.reduceLE, eq_self, Int.natCast_nonneg, Int.toNat_natCast, hk2, hk0, hlt, hUn, hpn, hpl, clsD, stepsD, ints_len, hE, hsv, hb]
    refine ⟨inR_i64.2 (by omega), k + 1, ⟨by omega, fun i hi => ?_⟩, by omega, ?_⟩
    ·rcases Nat.lt_or_ge i k with h | h
     ·exact hB2 i h
     ·obtain rfl : i = k := by omega
      rw [hsv, decide_eq_false hb, Bool.and_false]
    ·exact le_slots' (by simp only [go_sem, Int.natCast_add, Int.cast_ofNat_Int])
 obtain rfl : k = s.classes.length := by omega
 have hk2 : ¬ (s.classes.length : Int) < s.classes.length := by omega
 rw [any_no hB2, Bool.false_or, ← any_lot] at hv
 simp only [go_sem, Int.reduceEq, Int.reduceLT, Int.reduceLE, eq_self, Int.natCast_nonneg, Int.toNat_natCast, hk2]
 refine call_lentP hasLR (by simp) [] ⟨talL s L, by rw [hLk]; omega, rfl, rfl, rfl, rfl, rfl, rfl⟩ (by decide) (by simp) rfl rfl (by simp only [go_sem]) (by simp) (fun j hj => by simp at hj) ?_
 cases ho : (talL s L).any lotI with
 | true =>
  rw [ho, if_pos rfl] at hv
  subst hv
  simp only [go_sem, Int.reduceEq, Int.reduceLT, Int.reduceLE, eq_self, Int.natCast_nonneg, Int.toNat_natCast]
  exact post_data (.inl rfl) [4] rfl trivial rfl
 | false =>
  rw [ho, if_neg (by decide)] at hv
  subst hv
  simp only [go_sem, Int.reduceEq, Int.reduceLT, Int.reduceLE, eq_self, Int.natCast_nonneg, Int.toNat_natCast]
  exact post_data (.inl rfl) [4] rfl trivial rfl
end Go.AM

set_option maxRecDepth 8000
set_option maxHeartbeats 4000000
namespace Go.AM
open Go Go.Proofs

structure Valid (s : PSys) (x : PSt) : Prop where
 good : s.good
 len : x.length = (wkL s).length
 fmd : fmdAll s x (wkL s) = true
 nover : overB s x = false
theorem valid_of {s : PSys} {x : PSt} (h : stErr s x = 0) : Valid s x := by
 unfold stErr at h
 split at h
 ·rename_i h1; exact absurd h h1
 ·rename_i h1
  split at h
  ·cases h
  ·rename_i h2
   split at h
   ·cases h
   ·rename_i h3
    split at h
    ·cases h
    ·rename_i h4
     exact ⟨good_of (Classical.byContradiction h1), (Classical.byContradiction h2 : (wkL s).length = x.length).symm, by simpa using h3, by simpa using h4⟩
theorem Valid.l24 {s : PSys} {x : PSt} (h : Valid s x) : x.length ≤ 24 := by have := wkL_len h.good; rw [h.len]; exact this
theorem Valid.stk {s : PSys} {x : PSt} (h : Valid s x) {w : Nat} (hw : w < x.length) : x.getD w [] ≠ [] ∧ ∀ f ∈ x.getD w [], frOk s f = true := by
 refine fmdAll_ok h.fmd h.len _ ?_
 rw [List.getD_eq_getElem?_getD, List.getElem?_eq_getElem hw]; exact List.getElem_mem _
theorem Valid.frames {s : PSys} {x : PSt} (h : Valid s x) : ∀ f ∈ frames x, frOk s f = true := frames_ok h.fmd h.len
theorem topF_mem {l : List PFr} (h : l ≠ []) : topF l ∈ l := by
 have : 0 < l.length := List.length_pos_iff.2 h
 unfold topF
 rw [List.getD_eq_getElem?_getD, List.getElem?_eq_getElem (by omega)]; exact List.getElem_mem _
theorem Valid.top {s : PSys} {x : PSt} (h : Valid s x) {w : Nat} (hw : w < x.length) : frOk s (topF (x.getD w [])) = true := (h.stk hw).2 _ (topF_mem (h.stk hw).1)
theorem step_mem {s : PSys} (hg : s.good) {f : PFr} (hf : frOk s f = true) : preE s (stepAtF s f) = 0 := by
 obtain ⟨c1, c2, c3, c4⟩ := frOk_iff.1 hf
 have hcm : clsAt s f ∈ s.classes := by
  unfold clsAt; rw [List.getD_eq_getElem?_getD, List.getElem?_eq_getElem (by omega)]; exact List.getElem_mem _
 refine (hg.cls _ hcm).pre _ ?_
 unfold stepAtF
 rw [List.getD_eq_getElem?_getD, List.getElem?_eq_getElem (by omega)]; exact List.getElem_mem _
theorem getD_fit {x : PSt} (hx : PStFit x) {w : Nat} (hw : w < x.length) : (x.getD w []).length ≤ 1000 := hx.stk _ (by rw [List.getD_eq_getElem?_getD, List.getElem?_eq_getElem hw]; exact List.getElem_mem _)

def availN (s : PSys) (x : PSt) (p : Int) : Int := if stErr s x ≠ 0 then -1 else if p < 0 ∨ (s.pools.length : Int) ≤ p then -1 else (s.pools.getD p.toNat default).size - sumI (frU s p.toNat) (frames x)
def availR (ds : List D) (v : AV) : Prop := ∃ (s : PSys) (x : PSt) (p : Int), ds = [sysD s, stD x, .int .i64 p] ∧ s.fit ∧ PStFit x ∧ v = .dat (.int .i64 (availN s x p))
abbrev tabXA : List (Nat × Contract) := [(15, dataC stErrR), (41, dataC talR)]
theorem tabXA_ok : OkG Try.prog (tbl tabXA) := okG_cons xcheck_ok (okG_cons tally_ok okG_nil)
theorem pureXA : PureFns (tbl tabXA) [41] := by
 refine pure_of2 fun g C hm hg => ?_
 simp only [List.mem_cons, List.not_mem_nil, or_false, Prod.mk.injEq] at hm
 rcases hm with ⟨_, rfl⟩ | ⟨_, rfl⟩
 ·exact .inl ⟨_, rfl⟩
 ·exact .inl ⟨_, rfl⟩
theorem xAvailable_ok : OkF Try.prog 33 (dataC availR) := by
 refine okF_data Try.func33 rfl (by decide) ?_
 rintro ds v ⟨s, x, p, rfl, hf, hx, rfl⟩
 generalize hv : availN s x p = V
 unfold availN at hv
 have hnp := hf.small.np
 have hpl : (s.pools.map poolD).length = s.pools.length := by simp
 refine sem_of_awp (Γ := tbl tabXA) tabXA_ok _ _ _ ?_
 simp only [go_sem, Int.reduceEq, Int.reduceLT, Int.reduceLE, eq_self, Int.natCast_nonneg, Int.toNat_natCast, Try.ntmps33, sysD, stD]
 refine call_data stErrR (by simp) [sysD s, stD x] _ rfl ⟨s, x, rfl, hf, hx, rfl⟩ (.inl rfl) ?_
 by_cases he : stErr s x = 0
 case neg =>
  rw [if_pos he] at hv
  subst hv
  simp only [go_sem, Int.reduceEq, Int.reduceLT, Int.reduceLE, eq_self, Int.natCast_nonneg, Int.toNat_natCast, he]
  exact post_data (.inl rfl) [6] rfl trivial rfl
 rw [if_neg (by rw [he]; decide)] at hv
 have hV := valid_of he
 by_cases h1 : p < 0
 ·rw [if_pos (.inl h1)] at hv
  subst hv
  simp only [go_sem, Int.reduceEq, Int.reduceLT, Int.reduceLE, eq_self, Int.natCast_nonneg, Int.toNat_natCast, he, h1]
  exact post_data (.inl rfl) [6] rfl trivial rfl
 by_cases h2 : (s.pools.length : Int) ≤ p
 ·rw [if_pos (.inr h2)] at hv
  subst hv
  simp only [go_sem, Int.reduceEq, Int.reduceLT, Int.reduceLE, eq_self, Int.natCast_nonneg, Int.toNat_natCast, he, h1, h2, hpl]
  exact post_data (.inl rfl) [6] rfl trivial rfl
 rw [if_neg (by omega)] at hv
 obtain ⟨q, rfl⟩ : ∃ q : Nat, p = q := ⟨p.toNat, by omega⟩
 rw [Int.toNat_natCast] at hv
 subst hv
 have hq : q < s.pools.length := by omega
 have hq1 : (q : Int) < s.pools.length := by omega
 have hq0 : (0 : Int) ≤ q := by omega
 have hL := hV.frames
 have hLl := frames_len hx
 have ht := (sum_tame hV.good hL hLl q).1
 have hUn : D.nth (intsD (talU s (frames x))) q = .int .i64 (sumI (frU s q) (frames x)) := rngM_get hq
 have hU : (talU s (frames x)).length = s.pools.length := by simp [talU]
 have hpn : D.nth (s.pools.map poolD) q = poolD (s.pools.getD q default) := D.nth_map hq
 have hpk := hV.good.pool (s.pools.getD q default) (by rw [List.getD_eq_getElem?_getD, List.getElem?_eq_getElem hq]; exact List.getElem_mem _)
 unfold PPool.bad at hpk
 simp only [go_sem, Int.reduceEq, Int.reduceLT, Int.reduceLE, eq_self, Int.natCast_nonneg, Int.toNat_natCast, he, h1, h2, hpl]
 refine sem_draw (pf := [41]) (Γ := tbl tabXA) mixed tabXA_ok pureXA [0, 1, 2, 3, 4, 5, 6, 7, 8, 9, 10, 11, 12, 13, 14] (by kernel_rfl) ?_
 simp only [go_sem, Int.reduceEq, Int.reduceLT, Int.reduceLE, eq_self, Int.natCast_nonneg, Int.toNat_natCast, chainI, hq, hq1, hq0, hpl, hpn, poolD]
 refine call_data talR (by simp) [sysD s, stD x] _ rfl ⟨s, x, rfl, hV.good, hx, hL, rfl⟩ (.inl rfl) ?_
 simp only [go_sem, Int.reduceEq, Int.reduceLT, Int.reduceLE, eq_self, Int.natCast_nonneg, Int.toNat_natCast, chainI, useD, ints_len, hU, hUn, hq, hq1, hq0]
 refine ⟨inR_i64.2 (by omega), ?_⟩
 exact post_data (.inl rfl) [6] rfl trivial rfl

def ableR (ds : List D) (v : AV) : Prop := ∃ (s : PSys) (x : PSt), ds = [sysD s, stD x] ∧ Valid s x ∧ PStFit x ∧ v = .dat (.sl none (natsD (ableL s x)))
abbrev tabXE : List (Nat × Contract) := [(41, dataC talR), (42, dataC topR), (40, dataC possR)]
theorem tabXE_ok : OkG Try.prog (tbl tabXE) := okG_cons tally_ok (okG_cons top_ok (okG_cons possible_ok okG_nil))
theorem pureXE : PureFns (tbl tabXE) [41, 42, 40] := by
 refine pure_of2 fun g C hm hg => ?_
 simp only [List.mem_cons, List.not_mem_nil, or_false, Prod.mk.injEq] at hm
 rcases hm with ⟨_, rfl⟩ | ⟨_, rfl⟩ | ⟨_, rfl⟩
 ·exact .inl ⟨_, rfl⟩
 ·exact .inl ⟨_, rfl⟩
 ·exact .inl ⟨_, rfl⟩
theorem able_len (s : PSys) (x : PSt) (k : Nat) : ((List.range k).filter (ableB s x)).length ≤ k := by
 have := List.length_filter_le (ableB s x) (List.range k)
 simpa using this
theorem enabled_ok : OkF Try.prog 57 (dataC ableR) := by
 refine okF_data Try.func57 rfl (by decide) ?_
 rintro ds v ⟨s, x, rfl, hV, hx, rfl⟩
 have hg := hV.good
 have hL := hV.frames
 have hLl := frames_len hx
 have hx24 := hV.l24
 have hxl2 : (stacksD x).length = x.length := by simp
 refine sem_of_awpK [3] (Γ := tbl tabXE) tabXE_ok _ _ _ ?_
 simp only [go_sem, Int.reduceEq, Int.reduceLT, Int.reduceLE, eq_self, Int.natCast_nonneg, Int.toNat_natCast, Try.ntmps57, sysD, stD]
 refine call_data talR (by simp) [sysD s, stD x] _ rfl ⟨s, x, rfl, hg, hx, hL, rfl⟩ (.inl rfl) ?_
 simp only [go_sem, Int.reduceEq, Int.reduceLT, Int.reduceLE, eq_self, Int.natCast_nonneg, Int.toNat_natCast, useD]
 refine sem_le (le_addnil 6 none rfl (Nat.zero_le _)) ?_
 refine sem_of_awp (Γ := tbl tabXE) tabXE_ok _ _ _ ?_
 simp only [go_sem, Int.reduceEq, Int.reduceLT, Int.reduceLE, eq_self, Int.natCast_nonneg, Int.toNat_natCast, hxl2]
 refine sem_loop (fun k : Nat => ⟨slotsOf 30 [(2, .ptr 0 0 0), (3, .ptr 1 0 0), (5, .ptr 2 0 0), (6, .sl 3 0 ((List.range k).filter (ableB s x)).length), (13, .dat (.int .i64 x.length)), (14, .dat (.int .i64 k))], [sysO s, stO x, .box [.dat (.sl none (intsD (talU s (frames x)))), .dat (.sl none (intsD (talL s (frames x)))), .dat (.sl none (intsD (talE s (frames x))))], .row none (natsD ((List.range k).filter (ableB s x)))], 0, []⟩)
  (fun k => k ≤ x.length) (fun k => x.length - k) 0 (Nat.zero_le _) ?_ ?_
 ·exact le_slots' (by simp only [go_sem, Int.natCast_zero, List.range_zero, List.filter_nil, List.length_nil])
 rintro k hk
 rcases Nat.lt_or_ge k x.length with hlt | hge
 ·have hk2 : (k : Int) < x.length := by omega
  have hk0 : (0 : Int) ≤ k := Int.natCast_nonneg k
  have hal := able_len s x k
  have hsx := (hV.stk hlt).1
  refine sem_of_awp (Γ := tbl tabXE) tabXE_ok _ _ _ ?_
  simp only [go_sem, Int.reduceEq, Int.reduceLT, Int.reduceLE, eq_self, Int.natCast_nonneg, Int.toNat_natCast, hk2]
  refine sem_draw (pf := [41, 42, 40]) (Γ := tbl tabXE) mixed tabXE_ok pureXE [0, 1, 2, 3, 4, 5, 6] (by kernel_rfl) ?_
  simp only [go_sem, Int.reduceEq, Int.reduceLT, Int.reduceLE, eq_self, Int.natCast_nonneg, Int.toNat_natCast, chainI]
  refine call_data topR (by simp) [sysD s, stD x, .int .i64 k] _ rfl ⟨s, x, k, rfl, hlt, hx.len, List.length_pos_iff.2 hsx, getD_fit hx hlt, hV.top hlt, rfl⟩ (.inl rfl) ?_
  simp only [go_sem, Int.reduceEq, Int.reduceLT, Int.reduceLE, eq_self, Int.natCast_nonneg, Int.toNat_natCast, chainI]
  refine call_data possR (by simp) [sysD s, useD s (frames x), stepD (topS s x k)] _ rfl ⟨s, frames x, topS s x k, rfl, hg, hL, hLl, step_mem hg (hV.top hlt), rfl⟩ (.inl rfl) ?_
  have hab : posB s (frames x) (topS s x k) = ableB s x k := rfl
  rw [hab]
  cases hb : ableB s x k with
  | false =>
   have hr : (List.range (k + 1)).filter (ableB s x) = (List.range k).filter (ableB s x) := by rw [List.range_succ, List.filter_append]; simp [hb]
   simp only [go_sem, Int.reduceEq, Int.reduceLT, Int.reduceLE, eq_self, Int.natCast_nonneg, Int.toNat_natCast, chainI]
   refine ⟨inR_i64.2 (by omega), k + 1, by omega, by omega, ?_⟩
   rw [hr]
   exact le_slots' (by simp only [go_sem, Int.natCast_add, Int.cast_ofNat_Int])
  | true =>
   have hr : (List.range (k + 1)).filter (ableB s x) = (List.range k).filter (ableB s x) ++ [k] := by rw [List.range_succ, List.filter_append]; simp [hb]
   generalize (List.range k).filter (ableB s x) = A at *
   simp only [go_sem, Int.reduceEq, Int.reduceLT, Int.reduceLE, eq_self, Int.natCast_nonneg, Int.toNat_natCast, chainI, nats_len, nats_take, Nat.le_refl, List.take_length]
   refine ⟨by omega, by omega, inR_i64.2 (by omega), k + 1, by omega, by omega, ?_⟩
   rw [hr, show natsD (A ++ [k]) = natsD A ++ [D.int .i64 k] from by simp, List.length_append]
   refine le_end (own := [_, _, _, _]) (ex := [_]) (Nat.zero_le _) ?_ ?_ ?_
   ·simp only [go_sem, Int.natCast_add, Int.cast_ofNat_Int, List.length_append]
   ·simp only [go_sem, natsD, List.map_append]
   ·simp only [go_sem, Obj.under, AV.unders, AV.under]
 ·obtain rfl : k = x.length := by omega
  have hk2 : ¬ (x.length : Int) < x.length := by omega
  have hA : (List.range x.length).filter (ableB s x) = ableL s x := rfl
  rw [hA]
  refine sem_le (le_freeze 3 (ag := none) rfl (Nat.zero_le _)) ?_
  refine sem_of_awp (Γ := tbl tabXE) tabXE_ok _ _ _ ?_
  simp only [go_sem, Int.reduceEq, Int.reduceLT, Int.reduceLE, eq_self, Int.natCast_nonneg, Int.toNat_natCast, hk2, nats_take, nats_len, List.drop_zero, Nat.le_refl]
  exact post_data (.inl rfl) [4] rfl trivial rfl
abbrev tabXN : List (Nat × Contract) := [(15, dataC stErrR), (57, dataC ableR)]
theorem tabXN_ok : OkG Try.prog (tbl tabXN) := okG_cons xcheck_ok (okG_cons enabled_ok okG_nil)
def enabL (s : PSys) (x : PSt) : List Nat := if stErr s x ≠ 0 then [] else ableL s x
def enabR (ds : List D) (v : AV) : Prop := ∃ (s : PSys) (x : PSt), ds = [sysD s, stD x] ∧ s.fit ∧ PStFit x ∧ v = .dat (.sl none (natsD (enabL s x)))
theorem xEnabled_ok : OkF Try.prog 19 (dataC enabR) := by
 refine okF_data Try.func19 rfl (by decide) ?_
 rintro ds v ⟨s, x, rfl, hf, hx, rfl⟩
 generalize hv : enabL s x = V
 unfold enabL at hv
 refine sem_of_awp (Γ := tbl tabXN) tabXN_ok _ _ _ ?_
 simp only [go_sem, Int.reduceEq, Int.reduceLT, Int.reduceLE, eq_self, Int.natCast_nonneg, Int.toNat_natCast, Try.ntmps19, sysD, stD]
 refine call_data stErrR (by simp) [sysD s, stD x] _ rfl ⟨s, x, rfl, hf, hx, rfl⟩ (.inl rfl) ?_
 by_cases he : stErr s x = 0
 case neg =>
  rw [if_pos he] at hv
  subst hv
  simp only [go_sem, Int.reduceEq, Int.reduceLT, Int.reduceLE, eq_self, Int.natCast_nonneg, Int.toNat_natCast, he]
  refine post_res (.inl rfl) [.tmp 4] rfl ?_
  simp only [go_sem]
  exact le_fin (by simp only [go_sem]) (by simp only [go_sem])
 rw [if_neg (by rw [he]; decide)] at hv
 subst hv
 have hV := valid_of he
 simp only [go_sem, Int.reduceEq, Int.reduceLT, Int.reduceLE, eq_self, Int.natCast_nonneg, Int.toNat_natCast, he]
 refine call_data ableR (by simp) [sysD s, stD x] _ rfl ⟨s, x, rfl, hV, hx, rfl⟩ (.inl rfl) ?_
 simp only [go_sem, Int.reduceEq, Int.reduceLT, Int.reduceLE, eq_self, Int.natCast_nonneg, Int.toNat_natCast]
 exact post_data (.inl rfl) [4] rfl trivial rfl
end Go.AM

set_option maxRecDepth 8000
set_option maxHeartbeats 4000000
namespace Go.AM
open Go Go.Proofs

def clone1R (ds : List D) (v : AV) (ob : List Obj) : Prop := ∃ l : List PFr, ds = [stackD l] ∧ l ≠ [] ∧ l.length ≤ 1000 ∧ v = .sl 0 0 l.length ∧ ob = [.row (some 2) (frsD l)]
theorem clone1_ok : OkF Try.prog 71 (madeC clone1R) := by
 refine okF_made Try.func71 rfl (by decide) ?_
 rintro ds v ob ⟨l, rfl, hl0, hl, rfl, rfl⟩
 cases l with
 | nil => exact absurd rfl hl0
 | cons f r =>
 have hfl : (frsD (f :: r)).length = r.length + 1 := by simp
 have b1 : r.length + 1 ≤ 1000 := hl
 refine sem_of_awp (Γ := tbl []) okG_nil _ _ _ ?_
 simp only [go_sem, Int.reduceEq, Int.reduceLT, Int.reduceLE, eq_self, Int.natCast_nonneg, Int.toNat_natCast, Try.ntmps71, stackD]
 refine ⟨by omega, by omega, ?_⟩
 refine post_resO (.inl rfl) [.tmp 2] rfl (fun _ h => h) ?_
 simp only [go_sem]
 exact le_slots' (by simp only [go_sem])
def clone0R (ds : List D) (v : AV) (ob : List Obj) : Prop := ∃ x : PSt, ds = [.sl none (stacksD x)] ∧ x ≠ [] ∧ x.length ≤ 1000 ∧ v = .sl 0 0 x.length ∧ ob = [.row none (stacksD x)]
theorem clone0_ok : OkF Try.prog 70 (madeC clone0R) := by
 refine okF_made Try.func70 rfl (by decide) ?_
 rintro ds v ob ⟨x, rfl, hl0, hl, rfl, rfl⟩
 cases x with
 | nil => exact absurd rfl hl0
 | cons f r =>
 have b1 : r.length + 1 ≤ 1000 := hl
 refine sem_of_awp (Γ := tbl []) okG_nil _ _ _ ?_
 simp only [go_sem, Int.reduceEq, Int.reduceLT, Int.reduceLE, eq_self, Int.natCast_nonneg, Int.toNat_natCast, Try.ntmps70]
 refine ⟨by omega, by omega, ?_⟩
 refine post_resO (.inl rfl) [.tmp 2] rfl (fun _ h => h) ?_
 simp only [go_sem]
 exact le_slots' (by simp only [go_sem])

theorem dat_get {xs : List D} {k : Nat} (h : k < xs.length) : (xs.map AV.dat).getD k .top = .dat (D.nth xs k) := by
 simp [D.nth, List.getD_eq_getElem?_getD, h]
theorem dat_set {xs : List D} {k : Nat} (h : k < xs.length) : (xs.map AV.dat).set k (.dat (D.nth xs k)) = xs.map .dat := by
 refine List.ext_getElem? fun j => ?_
 rw [List.getElem?_set]
 split
 ·rename_i e; subst e; simp [D.nth, List.getD_eq_getElem?_getD, h]
 ·rfl
theorem unders_set {n : Nat} {v : AV} : ∀ {l : List AV} {i : Nat}, AV.unders n l → AV.under n v → AV.unders n (l.set i v)
 | [], _, h, _ => by simpa using h
 | a :: l, 0, h, hv => by simp only [List.set_cons_zero, AV.unders] at h ⊢; exact ⟨hv, h.2⟩
 | a :: l, i + 1, h, hv => by simp only [List.set_cons_succ, AV.unders] at h ⊢; exact ⟨h.1, unders_set h.2 hv⟩
theorem stacks_set {x : PSt} {w : Nat} {l : List PFr} : ((stacksD x).map AV.dat).set w (.dat (.sl (some 2) (frsD l))) = (stacksD (x.set w l)).map .dat := by
 simp only [stacksD, List.map_set]; rfl
theorem getD_setA {l : List AV} {i j : Nat} {a d : AV} : (l.set i a).getD j d = if i = j ∧ i < l.length then a else l.getD j d := getD_set

theorem upR_go {s : PSys} {f : PFr} {r : List PFr} (h : f.a + 1 < (clsAt s f).steps.length) : upR s (f :: r) = ⟨f.c, f.a + 1⟩ :: r := by
 cases r <;> (simp only [upR]; rw [if_pos h])
theorem upR_1 {s : PSys} {f : PFr} (h : ¬ f.a + 1 < (clsAt s f).steps.length) : upR s [f] = [⟨f.c, 0⟩] := by simp only [upR]; rw [if_neg h]
theorem upR_2 {s : PSys} {f g : PFr} {r : List PFr} (h : ¬ f.a + 1 < (clsAt s f).steps.length) : upR s (f :: g :: r) = upR s (g :: r) := by rw [show upR s (f :: g :: r) = if f.a + 1 < (clsAt s f).steps.length then ⟨f.c, f.a + 1⟩ :: g :: r else upR s (g :: r) from rfl, if_neg h]
theorem rv_nth {r j : List PFr} {f : PFr} : D.nth (frsD ((f :: r).reverse ++ j)) r.length = frD f := by
 have : (f :: r).reverse ++ j = r.reverse ++ f :: j := by simp
 rw [this, D.nth, List.getD_eq_getElem?_getD]
 simp [List.getElem?_append_right]
theorem rv_set {r j : List PFr} {f f' : PFr} : (frsD ((f :: r).reverse ++ j)).set r.length (frD f') = frsD ((f' :: r).reverse ++ j) := by
 have h1 : ∀ g : PFr, (g :: r).reverse ++ j = r.reverse ++ g :: j := fun g => by simp
 rw [h1, h1, frsD, frsD, List.map_append, List.map_append, List.set_append_right _ _ (by simp)]
 simp

def takeR (ds : List D) (v : AV) : Prop := ∃ (s : PSys) (x : PSt) (w : Nat), ds = [sysD s, stD x, .int .i64 w] ∧ Valid s x ∧ PStFit x ∧ w < x.length ∧ v = .dat (stD (takeX s x w))
abbrev tabXK : List (Nat × Contract) := [(70, madeC clone0R), (71, madeC clone1R), (42, dataC topR)]
theorem tabXK_ok : OkG Try.prog (tbl tabXK) := okG_cons clone0_ok (okG_cons clone1_ok (okG_cons top_ok okG_nil))
theorem pureXK : PureFns (tbl tabXK) [42] := by
 intro g args own v own' mv hg hC
 obtain ⟨C, hm, hC⟩ := hC
 simp only [List.mem_cons, List.not_mem_nil, or_false, Prod.mk.injEq] at hm hg
 subst hg
 rcases hm with ⟨h, _⟩ | ⟨h, _⟩ | ⟨_, rfl⟩
 ·exact absurd h (by decide)
 ·exact absurd h (by decide)
 ·obtain ⟨_, _, _, h1, h2, _⟩ := hC
  exact ⟨h1, h2⟩
theorem take_ok : OkF Try.prog 43 (dataC takeR) := by
 refine okF_data Try.func43 rfl (by decide) ?_
 rintro ds v ⟨s, x, w, rfl, hV, hx, hw, rfl⟩
 have hg := hV.good
 have hx24 := hV.l24
 have hxl2 : (stacksD x).length = x.length := by simp
 have hx0 : x ≠ [] := by rintro rfl; simp at hw
 have hsw := hV.stk hw
 have hlw := getD_fit hx hw
 refine sem_of_awpK [2, 8, 10, 17, 18] (Γ := tbl tabXK) tabXK_ok _ _ _ ?_
 simp only [go_sem, Int.reduceEq, Int.reduceLT, Int.reduceLE, eq_self, Int.natCast_nonneg, Int.toNat_natCast, Try.ntmps43, sysD, stD]
 refine call_made clone0R (by simp) [.sl none (stacksD x)] _ _ rfl rfl ⟨x, rfl, hx0, hx.len, rfl, rfl⟩ ?_
 simp only [go_sem, Int.reduceEq, Int.reduceLT, Int.reduceLE, eq_self, Int.natCast_nonneg, Int.toNat_natCast]
 simp only [AV.shift, AV.shifts, Obj.shift, Nat.add_zero, Nat.zero_add]
 refine sem_le (le_vec 3 rfl) ?_
 refine sem_of_awp (Γ := tbl tabXK) tabXK_ok _ _ _ ?_
 simp only [go_sem, Int.reduceEq, Int.reduceLT, Int.reduceLE, eq_self, Int.natCast_nonneg, Int.toNat_natCast]
 generalize hl : x.getD w [] = l at *
 let own := fun k : Nat => if k ≤ w then ([sysO s, stO x, .box [.nils], .vec ((stacksD x).map .dat)] : List Obj) else [sysO s, stO x, .box [.nils], .vec (((stacksD x).map .dat).set w (.sl 4 0 l.length)), .row (some 2) (frsD l)]
 refine sem_loop (fun k : Nat => ⟨slotsOf 95 [(2, .dat (.int .i64 w)), (3, .ptr 0 0 0), (4, .ptr 1 0 0), (6, .ptr 2 0 0), (7, .sl 3 0 x.length), (16, .dat (.int .i64 x.length)), (17, .dat (.int .i64 k))], own k, 0, []⟩)
  (fun k => k ≤ x.length) (fun k => x.length - k) 0 (Nat.zero_le _) ?_ ?_
 ·exact le_slots' (by simp only [go_sem, Int.natCast_zero])
 rintro k hk
 rcases Nat.lt_or_ge k x.length with hlt | hge
 ·have hk2 : (k : Int) < x.length := by omega
  have hk0 : (0 : Int) ≤ k := Int.natCast_nonneg k
  have hn : D.nth (stacksD x) k = stackD (x.getD k []) := D.nth_map hlt
  have hgk : ((stacksD x).map AV.dat).getD k .top = .dat (stackD (x.getD k [])) := by rw [dat_get (by simpa using hlt), hn]
  have htkk : List.take (x.getD k []).length (frsD (x.getD k [])) = frsD (x.getD k []) := List.take_of_length_le (by simp)
  have hsk2 : ((stacksD x).map AV.dat).set k (.dat (.sl (some 2) (frsD (x.getD k [])))) = (stacksD x).map .dat := by
   have : D.sl (some 2) (frsD (x.getD k [])) = D.nth (stacksD x) k := hn.symm
   rw [this]; exact dat_set (by simpa using hlt)
  have hsk := (hV.stk hlt).1
  have hlk := getD_fit hx hlt
  rcases Nat.lt_trichotomy k w with hkw | rfl | hkw
  ·simp only [own, if_pos (show k ≤ w by omega)]
   refine sem_of_awp (Γ := tbl tabXK) tabXK_ok _ _ _ ?_
   simp only [go_sem, Int.reduceEq, Int.reduceLT, Int.reduceLE, eq_self, Int.natCast_nonneg, Int.toNat_natCast, hk2, hk0, hlt, hxl2, hgk]
   refine call_made clone1R (by simp) [stackD (x.getD k [])] _ _ rfl rfl ⟨x.getD k [], rfl, hsk, hlk, rfl, rfl⟩ ?_
   simp only [go_sem, Int.reduceEq, Int.reduceLT, Int.reduceLE, eq_self, Int.natCast_nonneg, Int.toNat_natCast, AV.shift, AV.shifts, Obj.shift, hk2, hk0, hlt, hxl2]
   refine ⟨inR_i64.2 (by omega), k + 1, by omega, by omega, ?_⟩
   simp only [own, if_pos (show k + 1 ≤ w by omega)]
   refine Le.trans (le_freeze 4 (ag := some 2) rfl (Nat.zero_le _)) ?_
   simp only [go_sem, frzs_set, htkk, hsk2]
   refine le_end (own := [_, _, _, _]) (ex := [_]) (Nat.zero_le _) ?_ ?_ ?_
   ·simp only [go_sem, Int.natCast_add, Int.cast_ofNat_Int]
   ·simp only [go_sem]
   ·simp only [go_sem, Obj.under, AV.unders, AV.under]
  ·simp only [own, if_pos (Nat.le_refl k)]
   refine sem_of_awp (Γ := tbl tabXK) tabXK_ok _ _ _ ?_
   simp only [go_sem, Int.reduceEq, Int.reduceLT, Int.reduceLE, eq_self, Int.natCast_nonneg, Int.toNat_natCast, hk2, hk0, hlt, hxl2, hgk]
   refine call_made clone1R (by simp) [stackD (x.getD k [])] _ _ rfl rfl ⟨x.getD k [], rfl, hsk, hlk, rfl, rfl⟩ ?_
   simp only [go_sem, Int.reduceEq, Int.reduceLT, Int.reduceLE, eq_self, Int.natCast_nonneg, Int.toNat_natCast, AV.shift, AV.shifts, Obj.shift, hk2, hk0, hlt, hxl2]
   refine ⟨inR_i64.2 (by omega), k + 1, by omega, by omega, ?_⟩
   simp only [own, if_neg (show ¬ k + 1 ≤ k by omega), hl]
   exact le_slots' (by simp only [go_sem, Int.natCast_add, Int.cast_ofNat_Int])
  ·simp only [own, if_neg (show ¬ k ≤ w by omega)]
   have hgk2 : (((stacksD x).map AV.dat).set w (.sl 4 0 l.length)).getD k .top = .dat (stackD (x.getD k [])) := by
    rw [getD_setA, if_neg (by omega)]; exact hgk
   refine sem_of_awp (Γ := tbl tabXK) tabXK_ok _ _ _ ?_
   simp only [go_sem, Int.reduceEq, Int.reduceLT, Int.reduceLE, eq_self, Int.natCast_nonneg, Int.toNat_natCast, hk2, hk0, hlt, hxl2, hgk2]
   refine call_made clone1R (by simp) [stackD (x.getD k [])] _ _ rfl rfl ⟨x.getD k [], rfl, hsk, hlk, rfl, rfl⟩ ?_
   simp only [go_sem, Int.reduceEq, Int.reduceLT, Int.reduceLE, eq_self, Int.natCast_nonneg, Int.toNat_natCast, AV.shift, AV.shifts, Obj.shift, hk2, hk0, hlt, hxl2]
   refine ⟨inR_i64.2 (by omega), k + 1, by omega, by omega, ?_⟩
   simp only [own, if_neg (show ¬ k + 1 ≤ w by omega)]
   refine Le.trans (le_freeze 5 (ag := some 2) rfl (Nat.zero_le _)) ?_
   have hcm : ∀ v v' : AV, (((stacksD x).map AV.dat).set w v).set k v' = (((stacksD x).map AV.dat).set k v').set w v := fun v v' => List.set_comm _ _ (by omega)
   simp only [go_sem, frzs_set, htkk, hcm, hsk2]
   refine le_end (own := [_, _, _, _, _]) (ex := [_]) (Nat.zero_le _) ?_ ?_ ?_
   ·simp only [go_sem, Int.natCast_add, Int.cast_ofNat_Int]
   ·simp only [go_sem]
   ·simp only [go_sem, Obj.under, AV.unders, AV.under]
    exact unders_set (by rw [unders_dats]; trivial) (by simp only [AV.under]; omega)
 ·obtain rfl : k = x.length := by omega
  have hk2 : ¬ (x.length : Int) < x.length := by omega
  simp only [own, if_neg (show ¬ x.length ≤ w by omega)]
  refine sem_of_awp (Γ := tbl tabXK) tabXK_ok _ _ _ ?_
  simp only [go_sem, Int.reduceEq, Int.reduceLT, Int.reduceLE, eq_self, Int.natCast_nonneg, Int.toNat_natCast, hk2]
  refine sem_drawY [(6, [5]), (7, [5]), (9, [5])] [] (pf := [42]) (mf := []) mixed tabXK_ok pureXK noMk (.one 0 (.one 1 (.one 2 (.one 4 (.one 5 (.one 6 (.one 7 (.alt 3 (.one 8 (.one 9 (.one 10 .fin))) (.alt 8 (.one 3 (.one 9 (.one 10 .fin))) .stop))))))))) (by kernel_rfl) ?_
  have hw1 : (w : Int) < x.length := by omega
  have hw0 : (0 : Int) ≤ w := Int.natCast_nonneg w
  have hgw : (((stacksD x).map AV.dat).set w (.sl 4 0 l.length)).getD w .top = .sl 4 0 l.length := by rw [getD_setA, if_pos ⟨rfl, by simpa using hw⟩]
  have htop := hV.top hw
  have hl1 : 0 < (x.getD w []).length := by rw [hl]; exact List.length_pos_iff.2 hsw.1
  have hl2 := getD_fit hx hw
  generalize hy : topS s x w = y
  obtain ⟨kind, on, cnt, deep⟩ := y
  generalize hK : andThenK [2, 8, 10, 17, 18] Try.prog (tbl tabXK) _ _ = Q
  have hcl : ∀ σ σ', Le σ σ' → Q .normal σ' → Q .normal σ := by
   subst hK
   intro σ σ' h1 h2
   exact sem_le h1 h2
  suffices hQ1 : Q .normal ⟨slotsOf 95 [(2, .dat (.int .i64 w)), (3, .ptr 0 0 0), (4, .ptr 1 0 0), (6, .ptr 2 0 0), (7, .sl 3 0 x.length), (9, .ptr 5 0 0), (10, .sl 4 0 l.length)], [sysO s, stO x, .box [.nils], .vec (((stacksD x).map .dat).set w (.sl 4 0 l.length)), .row (some 2) (frsD l), .box [.dat (.int .i64 kind), .dat (.int .i64 on), .dat (.int .i64 cnt), .dat (.bool deep)]], 0, []⟩ by
   simp only [go_sem, Int.reduceEq, Int.reduceLT, Int.reduceLE, eq_self, Int.natCast_nonneg, Int.toNat_natCast, hw1, hw0, hw, hxl2, hgw]
   refine ⟨?_, ?_⟩
   ·refine call_data topR (by simp) [sysD s, stD x, .int .i64 w] _ rfl ⟨s, x, w, rfl, hw, hx.len, hl1, hl2, htop, rfl⟩ (.inl rfl) ?_
    simp only [go_sem, Int.reduceEq, Int.reduceLT, Int.reduceLE, eq_self, Int.natCast_nonneg, Int.toNat_natCast, hy, stepD]
    exact hcl _ _ (le_slots' (by simp only [go_sem])) hQ1
   ·refine call_data topR (by simp) [sysD s, stD x, .int .i64 w] _ rfl ⟨s, x, w, rfl, hw, hx.len, hl1, hl2, htop, rfl⟩ (.inl rfl) ?_
    simp only [go_sem, Int.reduceEq, Int.reduceLT, Int.reduceLE, eq_self, Int.natCast_nonneg, Int.toNat_natCast, hy, stepD]
    exact hcl _ _ (le_slots' (by simp only [go_sem])) hQ1
  subst hK
  clear hcl
  refine sem_of_awp (Γ := tbl tabXK) tabXK_ok _ _ _ ?_
  by_cases hk : kind = 5
  ·have hkl : AV.kills 4 (((stacksD x).map AV.dat).set w (.sl 4 0 l.length)) = ((stacksD x).map AV.dat).set w .top := by rw [kills_put, kills_dats]; simp only [AV.kill, if_true]
   have hlt : List.take l.length (frsD l) = frsD l := List.take_of_length_le (by simp)
   have hsl : (((stacksD x).map AV.dat).set w AV.top).length = x.length := by simp
   simp only [go_sem, Int.reduceEq, Int.reduceLT, Int.reduceLE, eq_self, Int.natCast_nonneg, Int.toNat_natCast, hk, hkl, hlt, hsl, hw1, hw0, hw, List.set_set]
   refine ⟨by omega, by omega, ?_⟩
   have htx : takeX s x w = x.set w (l ++ [⟨on, 0⟩]) := by
    have hyt : stepAtF s (topF l) = ⟨kind, on, cnt, deep⟩ := by rw [← hl]; exact hy
    unfold takeX takeS
    rw [hl, hyt, if_pos hk]
   rw [htx]
   refine sem_le (le_freeze 4 (ag := some 2) rfl (Nat.zero_le _)) ?_
   have hfa : frsD l ++ [D.agg [D.int .i64 on, D.int .i64 0]] = frsD (l ++ [⟨on, 0⟩]) := by simp [frD]
   have htk : ∀ m, (frsD (l ++ [⟨on, 0⟩])).length ≤ m → List.take m (frsD (l ++ [⟨on, 0⟩])) = frsD (l ++ [⟨on, 0⟩]) := fun m h => List.take_of_length_le h
   have htk2 : List.take (l.length + 1) (frsD (l ++ [⟨on, 0⟩])) = frsD (l ++ [⟨on, 0⟩]) := htk _ (by simp)
   simp only [go_sem, frzs_set, hfa, htk2, stacks_set, List.drop_zero]
   refine sem_le (le_freezeV 3 (ds := stacksD (x.set w (l ++ [⟨on, 0⟩]))) rfl (norm1_dats _) (Nat.zero_le _)) ?_
   refine sem_of_awp (Γ := tbl tabXK) tabXK_ok _ _ _ ?_
   have hW : List.take x.length (stacksD (x.set w (l ++ [⟨on, 0⟩]))) = stacksD (x.set w (l ++ [⟨on, 0⟩])) := List.take_of_length_le (by simp)
   simp only [go_sem, Int.reduceEq, Int.reduceLT, Int.reduceLE, eq_self, Int.natCast_nonneg, Int.toNat_natCast, hW]
   refine post_res (.inl rfl) [.cell 6 29] rfl ?_
   simp only [go_sem, stD, hW]
   exact le_fin (by simp only [go_sem]) (by simp only [go_sem])
  ·simp only [go_sem, Int.reduceEq, Int.reduceLT, Int.reduceLE, eq_self, Int.natCast_nonneg, Int.toNat_natCast, hk]
   have hyt : stepAtF s (topF l) = ⟨kind, on, cnt, deep⟩ := by rw [← hl]; exact hy
   have htx : takeX s x w = x.set w (upR s l.reverse).reverse := by
    unfold takeX takeS
    rw [hl, hyt, if_neg hk]
   rw [htx]
   have hsl0 : (((stacksD x).map AV.dat).set w (.sl 4 0 l.length)).length = x.length := by simp
   generalize hR : upR s l.reverse = R
   refine sem_loop (fun p : List PFr × List PFr => ⟨slotsOf 95 [(2, .dat (.int .i64 w)), (3, .ptr 0 0 0), (4, .ptr 1 0 0), (6, .ptr 2 0 0), (7, .sl 3 0 x.length), (10, .sl 4 0 p.1.length)], [sysO s, stO x, .box [.nils], .vec (((stacksD x).map .dat).set w (.sl 4 0 l.length)), .row (some 2) (frsD (p.1.reverse ++ p.2))], 0, []⟩)
    (fun p => p.1 ≠ [] ∧ (∀ f ∈ p.1, frOk s f = true) ∧ upR s p.1 = R ∧ p.1.length + p.2.length = l.length) (fun p => p.1.length) (l.reverse, []) ⟨by simpa using hsw.1, fun f hf => hsw.2 f (by simpa using hf), hR, by simp⟩ ?_ ?_
   ·simp only [List.reverse_reverse, List.append_nil, List.length_reverse]
    refine le_end (own := [_, _, _, _, _]) (ex := [_]) (Nat.zero_le _) ?_ ?_ ?_
    ·simp only [go_sem]
    ·simp only [go_sem]
    ·simp only [go_sem, Obj.under, AV.unders, AV.under]
     exact unders_set (by rw [unders_dats]; trivial) (by simp only [AV.under]; omega)
   rintro ⟨c, j⟩ ⟨hc0, hcf, hcR, hcl⟩
   cases c with
   | nil => exact absurd rfl hc0
   | cons f r =>
   simp only at hcf hcR hcl ⊢
   have hfo := hcf f (by simp)
   obtain ⟨c1, c2, c3, c4⟩ := frOk_iff.1 hfo
   obtain ⟨i, hi, hil, hin⟩ := cls_nth (s := s) (f := f) c1 c2
   have hi2 : (i : Int) < s.classes.length := by omega
   have hi0 : (0 : Int) ≤ i := Int.natCast_nonneg i
   have hrl : (frsD ((f :: r).reverse ++ j)).length = l.length := by simp only [List.length_map, List.length_append, List.length_reverse]; exact hcl
   have hq1 : ((f :: r).length : Int) - 1 = (r.length : Nat) := by simp
   have hq2 : (r.length : Int) < (f :: r).length := by simp only [List.length_cons]; omega
   have hq3 : r.length < (f :: r).length := by simp
   have hq5 : r.length < l.length := by rw [← hcl]; simp only [List.length_cons]; omega
   have hq4 : (0 : Int) ≤ (r.length : Nat) := Int.natCast_nonneg _
   have hn := rv_nth (r := r) (j := j) (f := f)
   have hs1 : (frsD ((f :: r).reverse ++ j)).set r.length (.agg [.int .i64 f.c, .int .i64 (f.a + 1)]) = frsD ((⟨f.c, f.a + 1⟩ :: r).reverse ++ j) := rv_set (f' := ⟨f.c, f.a + 1⟩)
   have hn2 : D.nth (frsD ((⟨f.c, f.a + 1⟩ :: r).reverse ++ j)) r.length = .agg [.int .i64 f.c, .int .i64 (f.a + 1)] := rv_nth
   have hrl2 : (frsD ((⟨f.c, f.a + 1⟩ :: r).reverse ++ j)).length = l.length := by simp only [List.length_map, List.length_append, List.length_reverse]; exact hcl
   have hcg := hg.cls (clsAt s f) (by unfold clsAt; rw [List.getD_eq_getElem?_getD, List.getElem?_eq_getElem (by omega)]; exact List.getElem_mem _)
   have h12 := hcg.l12
   refine sem_of_awpK [17] (Γ := tbl tabXK) tabXK_ok _ _ _ ?_
   generalize hFR : frsD ((f :: r).reverse ++ j) = FR at *
   generalize hLL : (f :: r).length = LL at *
   simp only [go_sem, Int.reduceEq, Int.reduceLT, Int.reduceLE, eq_self, Int.natCast_nonneg, Int.toNat_natCast, hq1, hq2, hq3, hq4, hq5, hn, frD, hrl, hs1]
   refine ⟨inR_i64.2 (by omega), inR_i64.2 (by omega), ?_⟩
   generalize hFR2 : frsD ((⟨f.c, f.a + 1⟩ :: r).reverse ++ j) = FR2 at *
   refine sem_drawY [] [] (pf := []) (mf := []) mixed tabXK_ok pureNo noMk (ones [0, 1, 2, 3, 4, 5, 6, 7, 8, 9, 10, 11, 12, 13, 14]) (by kernel_rfl) ?_
   by_cases ha : f.a + 1 < (clsAt s f).steps.length
   ·have hRR : R = ⟨f.c, f.a + 1⟩ :: r := by rw [← hcR, upR_go ha]
    simp only [go_sem, Int.reduceEq, Int.reduceLT, Int.reduceLE, eq_self, Int.natCast_nonneg, Int.toNat_natCast, hq4, hq5, hn2, hrl2, hi, hi2, hi0, hil, hin, clsD, stepsD, List.length_map, ha]
    refine sem_of_awpK [18] (Γ := tbl tabXK) tabXK_ok _ _ _ ?_
    simp only [go_sem, Int.reduceEq, Int.reduceLT, Int.reduceLE, eq_self, Int.natCast_nonneg, Int.toNat_natCast, hsl0, hw1, hw0, hw, List.set_set]
    subst hFR2
    have hfs : frsD ((⟨f.c, f.a + 1⟩ :: r).reverse ++ j) = frsD R.reverse ++ frsD j := by rw [hRR]; simp
    rw [hfs]
    refine sem_le (le_cut 4 (ag := some 2) rfl) ?_
    refine sem_le (le_freeze 4 (ag := some 2) rfl (Nat.zero_le _)) ?_
    have htk : List.take LL (frsD R.reverse) = frsD R.reverse := List.take_of_length_le (by rw [hRR, ← hLL]; simp)
    have hLR : LL ≤ R.reverse.length := by rw [hRR, ← hLL]; simp
    simp only [go_sem, frzs_set, htk, hLR, if_true, stacks_set, List.drop_zero]
    refine sem_le (le_freezeV 3 (ds := stacksD (x.set w R.reverse)) rfl (norm1_dats _) (Nat.zero_le _)) ?_
    refine sem_of_awp (Γ := tbl tabXK) tabXK_ok _ _ _ ?_
    have hW : List.take x.length (stacksD (x.set w R.reverse)) = stacksD (x.set w R.reverse) := List.take_of_length_le (by simp)
    simp only [go_sem, Int.reduceEq, Int.reduceLT, Int.reduceLE, eq_self, Int.natCast_nonneg, Int.toNat_natCast, hW]
    refine post_res (.inl rfl) [.cell 6 29] rfl ?_
    simp only [go_sem, stD, hW]
    exact le_fin (by simp only [go_sem]) (by simp only [go_sem])
   simp only [go_sem, Int.reduceEq, Int.reduceLT, Int.reduceLE, eq_self, Int.natCast_nonneg, Int.toNat_natCast, hq4, hq5, hn2, hrl2, hi, hi2, hi0, hil, hin, clsD, stepsD, List.length_map, ha]
   cases r with
   | nil =>
    have hRR : R = [⟨f.c, 0⟩] := by rw [← hcR, upR_1 ha]
    have hL1 : (LL : Int) = 1 := by rw [← hLL]; rfl
    have hs2 : (frsD (([⟨f.c, f.a + 1⟩] : List PFr).reverse ++ j)).set 0 (.agg [.int .i64 f.c, .int .i64 0]) = frsD (([⟨f.c, 0⟩] : List PFr).reverse ++ j) := rv_set (r := []) (f' := ⟨f.c, 0⟩)
    rw [hFR2, hi] at hs2
    have hLz : 0 < l.length := hq5
    have hn3 : D.nth FR2 0 = .agg [.int .i64 f.c, .int .i64 (f.a + 1)] := hn2
    have hz : 0 < FR2.length := by rw [hrl2]; exact hLz
    simp only [go_sem, Int.reduceEq, Int.reduceLT, Int.reduceLE, eq_self, Int.natCast_nonneg, Int.toNat_natCast, hL1, hq4, hq5, hrl2, hn3, hs2, hLz, hz, List.length_nil, hi]
    refine sem_of_awpK [18] (Γ := tbl tabXK) tabXK_ok _ _ _ ?_
    simp only [go_sem, Int.reduceEq, Int.reduceLT, Int.reduceLE, eq_self, Int.natCast_nonneg, Int.toNat_natCast, hsl0, hw1, hw0, hw, List.set_set]
    have hfs : frsD (([⟨(i : Int), 0⟩] : List PFr).reverse ++ j) = frsD R.reverse ++ frsD j := by rw [hRR, hi]; simp
    rw [hfs]
    refine sem_le (le_cut 4 (ag := some 2) rfl) ?_
    refine sem_le (le_freeze 4 (ag := some 2) rfl (Nat.zero_le _)) ?_
    have htk : List.take LL (frsD R.reverse) = frsD R.reverse := List.take_of_length_le (by rw [hRR, ← hLL]; simp)
    have hLR : LL ≤ R.reverse.length := by rw [hRR, ← hLL]; simp
    simp only [go_sem, frzs_set, htk, hLR, if_true, stacks_set, List.drop_zero]
    refine sem_le (le_freezeV 3 (ds := stacksD (x.set w R.reverse)) rfl (norm1_dats _) (Nat.zero_le _)) ?_
    refine sem_of_awp (Γ := tbl tabXK) tabXK_ok _ _ _ ?_
    have hW : List.take x.length (stacksD (x.set w R.reverse)) = stacksD (x.set w R.reverse) := List.take_of_length_le (by simp)
    simp only [go_sem, Int.reduceEq, Int.reduceLT, Int.reduceLE, eq_self, Int.natCast_nonneg, Int.toNat_natCast, hW]
    refine post_res (.inl rfl) [.cell 6 29] rfl ?_
    simp only [go_sem, stD, hW]
    exact le_fin (by simp only [go_sem]) (by simp only [go_sem])
   | cons g r2 =>
    have hRR : upR s (g :: r2) = R := by rw [← hcR, upR_2 ha]
    have hLL1 : ¬ (LL : Int) = 1 := by rw [← hLL]; simp only [List.length_cons]; omega
    have hLL2 : ((g :: r2).length : Int) ≤ LL := by omega
    have hLL3 : (LL : Int) - 1 = ((g :: r2).length : Nat) := hq1
    have hLL4 : (g :: r2).length ≤ LL := by omega
    simp only [go_sem, Int.reduceEq, Int.reduceLT, Int.reduceLE, eq_self, Int.natCast_nonneg, Int.toNat_natCast, hLL1, hLL3, hLL2]
    subst hFR2
    have hq6 : r2.length + 1 < l.length := hq5
    have hq7 : r2.length + 1 < LL := hq3
    refine ⟨inR_i64.2 (by omega), by omega, (g :: r2, ⟨f.c, f.a + 1⟩ :: j), ⟨by simp, fun q hq => hcf q (by simp at hq ⊢; exact .inr hq), hRR, ?_⟩, ?_, ?_⟩
    ·rw [← hcl, ← hLL]; simp only [List.length_cons]; omega
    ·simp only [List.length_cons]; omega
    ·simp only [Int.sub_zero, Int.toNat_natCast, List.reverse_cons, List.append_assoc, List.cons_append, List.nil_append, hi]
     exact le_slots' (by simp only [go_sem])
end Go.AM

set_option maxRecDepth 8000
set_option maxHeartbeats 4000000
namespace Go.AM
open Go Go.Proofs

def stepXR (ds : List D) (v : AV) : Prop := ∃ (s : PSys) (x : PSt) (w : Int), ds = [sysD s, stD x, .int .i64 w] ∧ s.fit ∧ PStFit x ∧ v = .tup [.dat (stD (stepX s x w).1), .dat (.int .i64 (stepX s x w).2)]
abbrev tabXP : List (Nat × Contract) := [(15, dataC stErrR), (41, dataC talR), (42, dataC topR), (40, dataC possR), (43, dataC takeR)]
theorem tabXP_ok : OkG Try.prog (tbl tabXP) := okG_cons xcheck_ok (okG_cons tally_ok (okG_cons top_ok (okG_cons possible_ok (okG_cons take_ok okG_nil))))
theorem pureXP : PureFns (tbl tabXP) [41, 42, 40] := by
 refine pure_of2 fun g C hm hg => ?_
 simp only [List.mem_cons, List.not_mem_nil, or_false, Prod.mk.injEq] at hm
 rcases hm with ⟨_, rfl⟩ | ⟨_, rfl⟩ | ⟨_, rfl⟩ | ⟨_, rfl⟩ | ⟨_, rfl⟩ <;> exact .inl ⟨_, rfl⟩
theorem xStep_ok : OkF Try.prog 13 (dataC stepXR) := by
 refine okF_data Try.func13 rfl (by decide) ?_
 rintro ds v ⟨s, x, w, rfl, hf, hx, rfl⟩
 generalize hv : stepX s x w = V
 unfold stepX at hv
 have hxl2 : (stacksD x).length = x.length := by simp
 refine sem_of_awp (Γ := tbl tabXP) tabXP_ok _ _ _ ?_
 simp only [go_sem, Int.reduceEq, Int.reduceLT, Int.reduceLE, eq_self, Int.natCast_nonneg, Int.toNat_natCast, Try.ntmps13, sysD, stD]
 refine call_data stErrR (by simp) [sysD s, stD x] _ rfl ⟨s, x, rfl, hf, hx, rfl⟩ (.inl rfl) ?_
 by_cases he : stErr s x = 0
 case neg =>
  rw [if_pos he] at hv
  subst hv
  simp only [go_sem, Int.reduceEq, Int.reduceLT, Int.reduceLE, eq_self, Int.natCast_nonneg, Int.toNat_natCast, he]
  refine post_res (.inl rfl) [.cell 6 29, .tmp 7] rfl ?_
  simp only [go_sem, List.map_nil]
  exact le_fin (by simp only [go_sem]) (by simp only [go_sem])
 rw [if_neg (by rw [he]; decide)] at hv
 have hV := valid_of he
 by_cases h1 : w < 0
 ·rw [if_pos (.inl h1)] at hv
  subst hv
  simp only [go_sem, Int.reduceEq, Int.reduceLT, Int.reduceLE, eq_self, Int.natCast_nonneg, Int.toNat_natCast, he, h1]
  refine post_res (.inl rfl) [.cell 6 29, .tmp 7] rfl ?_
  simp only [go_sem, List.map_nil]
  exact le_fin (by simp only [go_sem]) (by simp only [go_sem])
 by_cases h2 : (x.length : Int) ≤ w
 ·rw [if_pos (.inr h2)] at hv
  subst hv
  simp only [go_sem, Int.reduceEq, Int.reduceLT, Int.reduceLE, eq_self, Int.natCast_nonneg, Int.toNat_natCast, he, h1, h2, hxl2]
  refine post_res (.inl rfl) [.cell 6 29, .tmp 7] rfl ?_
  simp only [go_sem, List.map_nil]
  exact le_fin (by simp only [go_sem]) (by simp only [go_sem])
 rw [if_neg (by omega)] at hv
 obtain ⟨q, rfl⟩ : ∃ q : Nat, w = q := ⟨w.toNat, by omega⟩
 rw [Int.toNat_natCast] at hv
 have hq : q < x.length := by omega
 have hsx := (hV.stk hq).1
 have hL := hV.frames
 have hLl := frames_len hx
 simp only [go_sem, Int.reduceEq, Int.reduceLT, Int.reduceLE, eq_self, Int.natCast_nonneg, Int.toNat_natCast, he, h1, h2, hxl2]
 refine sem_draw (pf := [41, 42, 40]) (Γ := tbl tabXP) mixed tabXP_ok pureXP [0, 1, 2, 3, 4, 5, 6, 7, 8, 9] (by kernel_rfl) ?_
 simp only [go_sem, Int.reduceEq, Int.reduceLT, Int.reduceLE, eq_self, Int.natCast_nonneg, Int.toNat_natCast, chainI]
 refine call_data talR (by simp) [sysD s, stD x] _ rfl ⟨s, x, rfl, hV.good, hx, hL, rfl⟩ (.inl rfl) ?_
 simp only [go_sem, Int.reduceEq, Int.reduceLT, Int.reduceLE, eq_self, Int.natCast_nonneg, Int.toNat_natCast, chainI]
 refine call_data topR (by simp) [sysD s, stD x, .int .i64 q] _ rfl ⟨s, x, q, rfl, hq, hx.len, List.length_pos_iff.2 hsx, getD_fit hx hq, hV.top hq, rfl⟩ (.inl rfl) ?_
 simp only [go_sem, Int.reduceEq, Int.reduceLT, Int.reduceLE, eq_self, Int.natCast_nonneg, Int.toNat_natCast, chainI]
 refine call_data possR (by simp) [sysD s, useD s (frames x), stepD (topS s x q)] _ rfl ⟨s, frames x, topS s x q, rfl, hV.good, hL, hLl, step_mem hV.good (hV.top hq), rfl⟩ (.inl rfl) ?_
 have hab : posB s (frames x) (topS s x q) = ableB s x q := rfl
 rw [hab]
 cases hb : ableB s x q with
 | false =>
  rw [if_pos hb] at hv
  subst hv
  simp only [go_sem, Int.reduceEq, Int.reduceLT, Int.reduceLE, eq_self, Int.natCast_nonneg, Int.toNat_natCast, chainI]
  refine post_res (.inl rfl) [.cell 6 29, .tmp 7] rfl ?_
  simp only [go_sem, List.map_nil]
  exact le_fin (by simp only [go_sem]) (by simp only [go_sem])
 | true =>
  rw [if_neg (by rw [hb]; decide)] at hv
  subst hv
  simp only [go_sem, Int.reduceEq, Int.reduceLT, Int.reduceLE, eq_self, Int.natCast_nonneg, Int.toNat_natCast, chainI]
  refine call_data takeR (by simp) [sysD s, stD x, .int .i64 q] _ rfl ⟨s, x, q, rfl, hV, hx, hq, rfl⟩ (.inl rfl) ?_
  simp only [go_sem, Int.reduceEq, Int.reduceLT, Int.reduceLE, eq_self, Int.natCast_nonneg, Int.toNat_natCast, chainI, stD]
  refine post_res (.inl rfl) [.cell 6 29, .tmp 7] rfl ?_
  simp only [go_sem]
  exact le_fin (by simp only [go_sem]) (by simp only [go_sem])

def replayF (s : PSys) : PSt → List Int → PSt × Int
 | x, [] => (x, 0)
 | x, w :: ws => if (stepX s x w).2 ≠ 0 then ([], (stepX s x w).2) else replayF s (stepX s x w).1 ws
def replayX (s : PSys) (ws : List Int) : PSt × Int := if checkE s ≠ 0 then ([], checkE s) else replayF s (iniX s) ws
def replayXR (ds : List D) (v : AV) : Prop := ∃ (s : PSys) (ws : List Int), ds = [sysD s, .sl none (intsD ws)] ∧ s.fit ∧ ws.length ≤ 500 ∧ v = .tup [.dat (stD (replayX s ws).1), .dat (.int .i64 (replayX s ws).2)]
structure Deep (n : Nat) (x : PSt) : Prop where
 len : x.length ≤ 24
 stk : ∀ l ∈ x, l.length ≤ n
theorem Deep.fit {n : Nat} {x : PSt} (h : Deep n x) (hn : n ≤ 1000) : PStFit x := ⟨by have := h.len; omega, fun l hl => by have := h.stk l hl; omega⟩
theorem upR_len (s : PSys) : ∀ l : List PFr, (upR s l).length ≤ l.length
 | [] => by simp [upR]
 | f :: r => by
  by_cases h : f.a + 1 < (clsAt s f).steps.length
  ·rw [upR_go h]; simp
  ·cases r with
   | nil => rw [upR_1 h]; simp
   | cons g r => rw [upR_2 h]; have := upR_len s (g :: r); simp only [List.length_cons] at this ⊢; omega
theorem takeS_len (s : PSys) (l : List PFr) : (takeS s l).length ≤ l.length + 1 := by
 unfold takeS
 split
 ·simp
 ·have := upR_len s l.reverse
  simp only [List.length_reverse] at this ⊢
  omega
theorem takeX_len (s : PSys) (x : PSt) (w : Nat) : (takeX s x w).length = x.length := by simp [takeX]
theorem Deep.take {n : Nat} {x : PSt} (h : Deep n x) (s : PSys) (w : Nat) : Deep (n + 1) (takeX s x w) := by
 refine ⟨by rw [takeX_len]; exact h.len, fun l hl => ?_⟩
 unfold takeX at hl
 rcases List.mem_or_eq_of_mem_set hl with hl | rfl
 ·have := h.stk l hl; omega
 ·have := takeS_len s (x.getD w [])
  by_cases hw : w < x.length
  ·have := h.stk (x.getD w []) (by rw [List.getD_eq_getElem?_getD, List.getElem?_eq_getElem hw]; exact List.getElem_mem _)
   omega
  ·rw [List.set_eq_of_length_le (by omega)] at hl
   have := h.stk _ hl; omega
theorem Deep.step {n : Nat} {x : PSt} (h : Deep n x) (s : PSys) (w : Int) : Deep (n + 1) (stepX s x w).1 := by
 unfold stepX
 (repeat' split) <;> first | exact h.take s _ | exact ⟨by simp, by simp⟩
theorem deep_ini {s : PSys} (hg : s.good) : Deep 1 (iniX s) := by
 refine ⟨by unfold iniX; rw [List.length_map]; exact wkL_len hg, fun l hl => ?_⟩
 unfold iniX at hl
 obtain ⟨c, _, rfl⟩ := List.mem_map.1 hl
 simp
abbrev tabXRp : List (Nat × Contract) := [(28, dataC startXR), (13, dataC stepXR)]
theorem tabXRp_ok : OkG Try.prog (tbl tabXRp) := okG_cons xstart_ok (okG_cons xStep_ok okG_nil)
theorem xReplay_ok : OkF Try.prog 31 (dataC replayXR) := by
 refine okF_data Try.func31 rfl (by decide) ?_
 rintro ds v ⟨s, ws, rfl, hf, hws, rfl⟩
 generalize hv : replayX s ws = V
 unfold replayX at hv
 refine sem_of_awp (Γ := tbl tabXRp) tabXRp_ok _ _ _ ?_
 simp only [go_sem, Int.reduceEq, Int.reduceLT, Int.reduceLE, eq_self, Int.natCast_nonneg, Int.toNat_natCast, Try.ntmps31, sysD]
 refine call_data startXR (by simp) [sysD s] _ rfl ⟨s, rfl, hf, rfl⟩ (.inl rfl) ?_
 by_cases he : checkE s = 0
 case neg =>
  rw [if_pos he] at hv
  subst hv
  rw [if_neg he]
  simp only [go_sem, Int.reduceEq, Int.reduceLT, Int.reduceLE, eq_self, Int.natCast_nonneg, Int.toNat_natCast, he, stD, List.map_nil]
  refine post_res (.inl rfl) [.cell 4 29, .tmp 5] rfl ?_
  simp only [go_sem, List.map_nil]
  exact le_fin (by simp only [go_sem]) (by simp only [go_sem])
 have hg := good_of he
 rw [if_neg (by rw [he]; decide)] at hv
 rw [if_pos he, he]
 have hd0 := deep_ini hg
 generalize iniX s = x0 at *
 simp only [go_sem, Int.reduceEq, Int.reduceLT, Int.reduceLE, eq_self, Int.natCast_nonneg, Int.toNat_natCast, stD, ints_len]
 refine sem_loop (fun p : Nat × PSt => ⟨slotsOf 38 [(2, .ptr 0 0 0), (4, .ptr 1 0 0), (6, .ptr 2 0 0), (19, .dat (.sl none (intsD ws))), (20, .dat (.int .i64 ws.length)), (21, .dat (.int .i64 p.1))], [sysO s, .box [.nils], stO p.2], 0, []⟩)
  (fun p => p.1 ≤ ws.length ∧ Deep (p.1 + 1) p.2 ∧ replayF s p.2 (ws.drop p.1) = V) (fun p => ws.length - p.1) (0, x0) ⟨Nat.zero_le _, hd0, hv⟩ ?_ ?_
 ·exact le_slots' (by simp only [go_sem, Int.natCast_zero])
 rintro ⟨k, x⟩ ⟨hk, hdp, hv⟩
 simp only at hk hdp hv
 refine sem_of_awp (Γ := tbl tabXRp) tabXRp_ok _ _ _ ?_
 cases hd : ws.drop k with
 | nil =>
  have := end_of_drop hd hk
  have hk2 : ¬ (k : Int) < ws.length := by omega
  rw [hd, replayF] at hv
  subst hv
  simp only [go_sem, Int.reduceEq, Int.reduceLT, Int.reduceLE, eq_self, Int.natCast_nonneg, Int.toNat_natCast, hk2]
  refine post_res (.inl rfl) [.cell 4 29, .tmp 5] rfl ?_
  simp only [go_sem]
  exact le_fin (by simp only [go_sem]) (by simp only [go_sem])
 | cons w r =>
 have hlt := lt_of_drop hd
 have hk2 : (k : Int) < ws.length := by omega
 have hk0 : (0 : Int) ≤ k := Int.natCast_nonneg k
 have hn : D.nth (intsD ws) k = .int .i64 w := nth_of_drop hd
 have hds := hdp.step s w
 rw [hd, replayF] at hv
 simp only [go_sem, Int.reduceEq, Int.reduceLT, Int.reduceLE, eq_self, Int.natCast_nonneg, Int.toNat_natCast, hk2, hk0, hlt, hn, ints_len]
 refine call_data stepXR (by simp) [sysD s, stD x, .int .i64 w] _ rfl ⟨s, x, w, rfl, hf, hdp.fit (by omega), rfl⟩ (.inl rfl) ?_
 generalize stepX s x w = q at *
 obtain ⟨y, e⟩ := q
 simp only at hv hds
 by_cases he2 : e = 0
 ·rw [if_neg (by simpa using he2)] at hv
  subst he2
  simp only [go_sem, Int.reduceEq, Int.reduceLT, Int.reduceLE, eq_self, Int.natCast_nonneg, Int.toNat_natCast, stD]
  refine ⟨inR_i64.2 (by omega), (k + 1, y), ⟨by omega, hds, by simp only; rw [drop_cons hd]; exact hv⟩, by simp only; omega, ?_⟩
  exact le_slots' (by simp only [go_sem, Int.natCast_add, Int.cast_ofNat_Int])
 ·rw [if_pos he2] at hv
  subst hv
  simp only [go_sem, Int.reduceEq, Int.reduceLT, Int.reduceLE, eq_self, Int.natCast_nonneg, Int.toNat_natCast, stD, he2]
  refine post_res (.inl rfl) [.cell 4 29, .tmp 5] rfl ?_
  simp only [go_sem, List.map_nil]
  exact le_fin (by simp only [go_sem]) (by simp only [go_sem])
end Go.AM

set_option maxRecDepth 8000
namespace Go.AM
open Go Go.Proofs

theorem stepE_pre {s : PSys} {u : List Int} {b : List Bool} {x : PStep} (h : stepE s u b x = 0) : preE s x = 0 ∧ stepFine s u b x = true := by
 unfold stepE at h
 split at h
 ·rename_i h1; exact absurd h h1
 ·rename_i h1
  split at h
  ·rename_i h2; exact ⟨Classical.byContradiction h1, h2⟩
  ·cases h
theorem run_at {s : PSys} {c : PCls} (hc : c.good s) : ∀ k, k ≤ c.steps.length → ∃ h, Tr s (c.steps.take k) h ∧ verd (runE s (c.steps.drop k) h) = 0
 | 0, _ => ⟨hold0 s, by rw [List.take_zero]; exact tr_nil s, by rw [List.drop_zero]; exact hc.run⟩
 | k + 1, hk => by
  obtain ⟨h, h1, h2⟩ := run_at hc k (by omega)
  have hd : c.steps.drop k = c.steps[k] :: c.steps.drop (k + 1) := List.drop_eq_getElem_cons (by omega)
  rw [hd] at h2
  by_cases he : stepE s h.units h.locks c.steps[k] = 0
  ·rw [verd_go he] at h2
   refine ⟨_, ?_, h2⟩
   rw [List.take_succ_eq_append_getElem (by omega)]
   exact tr_step h1 he
  ·rw [verd_err he] at h2; exact absurd h2 he
theorem run_step {s : PSys} {c : PCls} (hc : c.good s) {k : Nat} (hk : k < c.steps.length) : ∃ h, Tr s (c.steps.take k) h ∧ stepE s h.units h.locks (c.steps[k]'hk) = 0 := by
 obtain ⟨h, h1, h2⟩ := run_at hc k (by omega)
 have hd : c.steps.drop k = c.steps[k] :: c.steps.drop (k + 1) := List.drop_eq_getElem_cons (by omega)
 rw [hd] at h2
 by_cases he : stepE s h.units h.locks c.steps[k] = 0
 ·exact ⟨h, h1, he⟩
 ·rw [verd_err he] at h2; exact absurd h2 he
theorem run_fine {s : PSys} {c : PCls} (hc : c.good s) {k : Nat} (hk : k < c.steps.length) : refBad s (c.steps.take k) (c.steps[k]'hk) = false := by
 obtain ⟨h, h1, h2⟩ := run_step hc hk
 have h3 := tr_E (x := c.steps[k]) h1
 rw [h2] at h3
 obtain ⟨hp, _⟩ := stepE_pre h2
 unfold refE at h3
 rw [if_neg (by rw [hp]; decide)] at h3
 cases hb : refBad s (c.steps.take k) c.steps[k] with
 | false => rfl
 | true => rw [hb] at h3; cases h3
theorem run_lock {s : PSys} {c : PCls} (hc : c.good s) {k : Nat} (hk : k ≤ c.steps.length) {i : Nat} (hi : i < s.locks.length) : bal (c.steps.take k) i 1 = 0 ∨ bal (c.steps.take k) i 1 = 1 := by
 obtain ⟨h, h1, _⟩ := run_at hc k hk
 exact (h1.lo i hi).2
theorem run_unit {s : PSys} {c : PCls} (hc : c.good s) : ∀ {k : Nat}, k ≤ c.steps.length → ∀ i : Nat, 0 ≤ bal (c.steps.take k) i 0
 | 0, _, i => by simp [bal]
 | k + 1, hk, i => by
  have ih := run_unit hc (k := k) (by omega) i
  have hf := run_fine hc (k := k) (by omega)
  have hp := hc.pre c.steps[k] (List.getElem_mem _)
  obtain ⟨⟨k1, k2⟩, ⟨o1, o2⟩, hcn, hc0⟩ := preE_0 hp
  rw [List.take_succ_eq_append_getElem (by omega), bal_snoc]
  generalize c.steps[k] = x at *
  unfold bstep
  by_cases ho : x.on = i
  ·rw [if_pos ho]
   by_cases h1 : x.kind = 1
   ·rw [if_pos h1, if_pos rfl]; have := hcn (.inl h1); omega
   ·rw [if_neg h1]
    by_cases h2 : x.kind = 2
    ·rw [if_pos h2, if_pos rfl]
     unfold refBad at hf
     rw [if_neg h1, if_pos h2, ho] at hf
     have := of_decide_eq_false hf
     omega
    ·rw [if_neg h2]
     (repeat' split) <;> first | exact ih | omega
  ·rw [if_neg ho]; exact ih
theorem run_end {s : PSys} {c : PCls} (hc : c.good s) : (∀ i : Nat, i < s.pools.length → bal c.steps i 0 = 0) ∧ (∀ i : Nat, i < s.locks.length → bal c.steps i 1 = 0) := by
 obtain ⟨h, h1, h2⟩ := run_at hc c.steps.length (Nat.le_refl _)
 rw [List.drop_length, verd_nil] at h2
 rw [List.take_length] at h1
 have h3 := tr_end h1
 rw [h2] at h3
 have h4 : ¬ ((∃ i : Nat, i < s.pools.length ∧ 0 < bal c.steps i 0) ∨ (∃ i : Nat, i < s.locks.length ∧ 0 < bal c.steps i 1)) := by
  intro hh; rw [if_pos hh] at h3; cases h3
 constructor
 ·intro i hi
  have := run_unit hc (k := c.steps.length) (Nat.le_refl _) i
  rw [List.take_length] at this
  have : ¬ 0 < bal c.steps i 0 := fun hh => h4 (.inl ⟨i, hi, hh⟩)
  omega
 ·intro i hi
  have := run_lock hc (k := c.steps.length) (Nat.le_refl _) hi
  rw [List.take_length] at this
  have : ¬ 0 < bal c.steps i 1 := fun hh => h4 (.inr ⟨i, hi, hh⟩)
  omega
def lkstep (i : Int) (b : Bool) (x : PStep) : Bool := if x.on = i ∧ x.kind = 4 then false else if x.on = i ∧ x.kind = 3 then true else b
def lkB (i : Int) (l : List PStep) : Bool := l.foldl (lkstep i) false
theorem lkB_snoc (i : Int) (l : List PStep) (x : PStep) : lkB i (l ++ [x]) = lkstep i (lkB i l) x := by simp [lkB]
theorem lkB_bal {s : PSys} {c : PCls} (hc : c.good s) {i : Nat} (hi : i < s.locks.length) : ∀ {k : Nat}, k ≤ c.steps.length → lkB i (c.steps.take k) = decide (bal (c.steps.take k) i 1 = 1)
 | 0, _ => by simp [lkB, bal]
 | k + 1, hk => by
  have ih := lkB_bal hc hi (k := k) (by omega)
  have hl := run_lock hc (k := k) (by omega) hi
  have hf := run_fine hc (k := k) (by omega)
  rw [List.take_succ_eq_append_getElem (by omega), lkB_snoc, bal_snoc, ih]
  generalize c.steps[k] = x at *
  generalize c.steps.take k = l at *
  unfold lkstep bstep
  by_cases ho : x.on = i
  ·by_cases h3 : x.kind = 3
   ·unfold refBad at hf
    simp only [h3, if_true, if_false, ho, show ¬ (3 : Int) = 1 by decide, show ¬ (3 : Int) = 2 by decide, decide_eq_false_iff_not] at hf
    have e : bal l i 1 = 0 := by omega
    simp [ho, h3, e]
   ·by_cases h4 : x.kind = 4
    ·unfold refBad at hf
     simp only [h4, if_true, if_false, ho, show ¬ (4 : Int) = 1 by decide, show ¬ (4 : Int) = 2 by decide, show ¬ (4 : Int) = 3 by decide, decide_eq_false_iff_not] at hf
     have e : bal l i 1 = 1 := by omega
     simp [ho, h4, e]
    ·by_cases h1 : x.kind = 1
     ·simp [ho, h1]
     ·by_cases h2 : x.kind = 2
      ·simp [ho, h2]
      ·simp [ho, h1, h2, h3, h4]
  ·simp [ho]
end Go.AM

