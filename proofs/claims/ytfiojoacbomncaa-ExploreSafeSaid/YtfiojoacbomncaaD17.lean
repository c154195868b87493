/- Own work over the model of the kit. -/
import Derived.Test.YtfiojoacbomncaaD16
import Derived.Test.YtfiojoacbomncaaD14
import Derived.Test.YtfiojoacbomncaaD15
set_option linter.unusedSimpArgs false
set_option linter.unusedVariables false
set_option maxRecDepth 8000
set_option maxHeartbeats 4000000
namespace Go.AM
open Go Go.Proofs

def lkR (ds : List D) (v : AV) : Prop := ∃ (c : PCls) (i : Int) (k : Nat), ds = [clsD c, .int .i64 i, .int .i64 k] ∧ c.steps.length ≤ 1000 ∧ k ≤ c.steps.length ∧ v = .dat (.bool (lkB i (c.steps.take k)))
theorem locks_ok : OkF Try.prog 83 (dataC lkR) := by
 refine okF_data Try.func83 rfl (by decide) ?_
 rintro ds v ⟨c, i, m, rfl, hl, hm, rfl⟩
 have hsl : (c.steps.map stepD).length = c.steps.length := by simp
 refine sem_of_awp (Γ := tbl []) okG_nil _ _ _ ?_
 simp only [go_sem, Int.reduceEq, Int.reduceLT, Int.reduceLE, eq_self, Int.natCast_nonneg, Int.toNat_natCast, Try.ntmps83, clsD]
 refine sem_loop (fun k : Nat => ⟨slotsOf 49 [(1, .dat (.int .i64 i)), (2, .dat (.int .i64 m)), (3, .ptr 0 0 0), (6, .dat (.bool false)), (7, .dat (.bool (lkB i (c.steps.take k)))), (8, .dat (.int .i64 k))], [.box [.dat (.str c.name), .dat (.int .i64 c.workers), .dat (.bool c.server), .dat (stepsD c.steps)]], 0, []⟩)
  (fun k => k ≤ m) (fun k => m - k) 0 (Nat.zero_le _) ?_ ?_
 ·exact le_slots' (by simp only [go_sem, Int.natCast_zero, List.take_zero, lkB, List.foldl_nil])
 rintro k hk
 refine sem_of_awp (Γ := tbl []) okG_nil _ _ _ ?_
 rcases Nat.lt_or_ge k m with hlt | hge
 ·have hk2 : (k : Int) < m := by omega
  have hk0 : (0 : Int) ≤ k := Int.natCast_nonneg k
  have hkl : k < c.steps.length := by omega
  have hkl2 : (k : Int) < c.steps.length := by omega
  have hn : D.nth (c.steps.map stepD) k = stepD (c.steps[k]'hkl) := by rw [D.nth_map hkl]; simp [List.getD_eq_getElem?_getD, hkl]
  have ht : lkB i (c.steps.take (k + 1)) = lkstep i (lkB i (c.steps.take k)) (c.steps[k]'hkl) := by rw [List.take_succ_eq_append_getElem hkl, lkB_snoc]
  generalize c.steps[k] = x at *
  generalize lkB i (c.steps.take k) = B at *
  have go : ∀ {sl : List AV} {B' : Bool}, lkB i (c.steps.take (k + 1)) = B' → slotsLe sl (slotsOf 49 [(1, .dat (.int .i64 i)), (2, .dat (.int .i64 m)), (3, .ptr 0 0 0), (6, .dat (.bool false)), (7, .dat (.bool B')), (8, .dat (.int .i64 (k + 1 : Nat)))]) →
    ∃ z : Nat, z ≤ m ∧ m - z < m - k ∧ Le ⟨sl, [.box [.dat (.str c.name), .dat (.int .i64 c.workers), .dat (.bool c.server), .dat (stepsD c.steps)]], 0, []⟩ ⟨slotsOf 49 [(1, .dat (.int .i64 i)), (2, .dat (.int .i64 m)), (3, .ptr 0 0 0), (6, .dat (.bool false)), (7, .dat (.bool (lkB i (c.steps.take z)))), (8, .dat (.int .i64 z))], [.box [.dat (.str c.name), .dat (.int .i64 c.workers), .dat (.bool c.server), .dat (stepsD c.steps)]], 0, []⟩ := by
   intro sl B' hB hs
   subst hB
   exact ⟨k + 1, by omega, by omega, le_slots' hs⟩
  rw [ht] at go
  unfold lkstep at go
  by_cases ho : x.on = i
  ·by_cases h3 : x.kind = 3
   ·have h4 : ¬ x.kind = 4 := by omega
    rw [if_neg (fun h => h4 h.2), if_pos ⟨ho, h3⟩] at go
    simp only [go_sem, Int.reduceEq, Int.reduceLT, Int.reduceLE, eq_self, Int.natCast_nonneg, Int.toNat_natCast, hk2, hk0, hkl, hkl2, hn, stepD, stepsD, hsl, ho, h3]
    refine ⟨inR_i64.2 (by omega), ?_⟩
    exact go rfl (by simp only [go_sem, Int.natCast_add, Int.cast_ofNat_Int])
   ·by_cases h4 : x.kind = 4
    ·rw [if_pos ⟨ho, h4⟩] at go
     simp only [go_sem, Int.reduceEq, Int.reduceLT, Int.reduceLE, eq_self, Int.natCast_nonneg, Int.toNat_natCast, hk2, hk0, hkl, hkl2, hn, stepD, stepsD, hsl, ho, h4]
     refine ⟨inR_i64.2 (by omega), ?_⟩
     exact go rfl (by simp only [go_sem, Int.natCast_add, Int.cast_ofNat_Int])
    ·rw [if_neg (fun h => h4 h.2), if_neg (fun h => h3 h.2)] at go
     simp only [go_sem, Int.reduceEq, Int.reduceLT, Int.reduceLE, eq_self, Int.natCast_nonneg, Int.toNat_natCast, hk2, hk0, hkl, hkl2, hn, stepD, stepsD, hsl, ho, h3, h4]
     refine ⟨inR_i64.2 (by omega), ?_⟩
     exact go rfl (by simp only [go_sem, Int.natCast_add, Int.cast_ofNat_Int])
  ·rw [if_neg (fun h => ho h.1), if_neg (fun h => ho h.1)] at go
   simp only [go_sem, Int.reduceEq, Int.reduceLT, Int.reduceLE, eq_self, Int.natCast_nonneg, Int.toNat_natCast, hk2, hk0, hkl, hkl2, hn, stepD, stepsD, hsl, ho]
   refine ⟨inR_i64.2 (by omega), ?_⟩
   exact go rfl (by simp only [go_sem, Int.natCast_add, Int.cast_ofNat_Int])
 ·obtain rfl : k = m := by omega
  have hk2 : ¬ (k : Int) < k := by omega
  simp only [go_sem, Int.reduceEq, Int.reduceLT, Int.reduceLE, eq_self, Int.natCast_nonneg, Int.toNat_natCast, hk2]
  exact post_data (.inl rfl) [6] rfl trivial rfl
theorem fr_part {x : PSt} {k j : Nat} {l : List PFr} {r : PSt} (hd : x.drop k = l :: r) : ∀ q, q ∈ (x.take k).flatten ++ l.take j → q ∈ frames x := fun q hq => by
 rcases List.mem_append.1 hq with h | h
 ·obtain ⟨y, hy, hqy⟩ := List.mem_flatten.1 h
  exact List.mem_flatten.2 ⟨y, List.mem_of_mem_take hy, hqy⟩
 ·exact List.mem_flatten.2 ⟨l, mem_of_drop hd, List.mem_of_mem_take h⟩
theorem fr_len {x : PSt} (hx : PStFit x) {k j : Nat} {l : List PFr} {r : PSt} (hd : x.drop k = l :: r) : ((x.take k).flatten ++ l.take j).length ≤ 1000000 := by
 have h1 : (x.take (k + 1)).flatten = (x.take k).flatten ++ l := by rw [take_of_drop hd, List.flatten_append]; simp
 have h2 := frames_len (x := x.take (k + 1)) ⟨by rw [List.length_take]; have := hx.len; omega, fun y hy => hx.stk y (List.mem_of_mem_take hy)⟩
 unfold frames at h2
 rw [h1, List.length_append] at h2
 rw [List.length_append, List.length_take]
 omega
def hdR (ds : List D) (v : AV) : Prop := ∃ (s : PSys) (x : PSt) (i : Nat), ds = [sysD s, stD x, .int .i64 i] ∧ s.good ∧ PStFit x ∧ (∀ f ∈ frames x, frOk s f = true) ∧ v = .dat (.int .i64 (sumI (frU s i) (frames x)))
abbrev tabHD : List (Nat × Contract) := [(82, dataC unitsR)]
theorem tabHD_ok : OkG Try.prog (tbl tabHD) := okG_cons units_ok okG_nil
theorem pureHD : PureFns (tbl tabHD) [82] := by
 refine pure_of2 fun g C hm hg => ?_
 simp only [List.mem_cons, List.not_mem_nil, or_false, Prod.mk.injEq] at hm
 obtain ⟨_, rfl⟩ := hm
 exact .inl ⟨_, rfl⟩
theorem rheld_ok44 : OkF Try.prog 54 (dataC hdR) := by
 refine okF_data Try.func54 rfl (by decide) ?_
 rintro ds v ⟨s, x, i, rfl, hg, hx, hfr, rfl⟩
 have hxl := hx.len
 have hxl2 : (stacksD x).length = x.length := by simp
 have hcl : (s.classes.map clsD).length = s.classes.length := by simp
 refine sem_of_awp (Γ := tbl tabHD) tabHD_ok _ _ _ ?_
 simp only [go_sem, Int.reduceEq, Int.reduceLT, Int.reduceLE, eq_self, Int.natCast_nonneg, Int.toNat_natCast, Try.ntmps54, sysD, stD]
 refine sem_loop (fun k : Nat => ⟨slotsOf 49 [(2, .dat (.int .i64 i)), (3, .ptr 0 0 0), (4, .ptr 1 0 0), (6, .dat (.int .i64 0)), (7, .dat (.int .i64 (sumI (frU s i) (x.take k).flatten))), (8, .dat (.int .i64 k))], [sysO s, stO x], 0, []⟩)
  (fun k => k ≤ x.length) (fun k => x.length - k) 0 (Nat.zero_le _) ?_ ?_
 ·exact le_slots' (by simp only [go_sem, Int.natCast_zero, List.take_zero, List.flatten_nil, sumI, List.foldl_nil])
 rintro k hk
 refine sem_of_awp (Γ := tbl tabHD) tabHD_ok _ _ _ ?_
 cases hd : x.drop k with
 | nil =>
  obtain rfl : k = x.length := end_of_drop hd hk
  have hk2 : ¬ (x.length : Int) < x.length := by omega
  rw [List.take_length]
  simp only [go_sem, Int.reduceEq, Int.reduceLT, Int.reduceLE, eq_self, Int.natCast_nonneg, Int.toNat_natCast, hk2, hxl2]
  exact post_data (.inl rfl) [6] rfl trivial rfl
 | cons l r =>
 have hlt := lt_of_drop hd
 have hk2 : (k : Int) < x.length := by omega
 have hk0 : (0 : Int) ≤ k := Int.natCast_nonneg k
 have hn := nth_of_drop (f := stackD) hd
 have hll := hx.stk l (mem_of_drop hd)
 have hfl : (frsD l).length = l.length := by simp
 have htk : (x.take (k + 1)).flatten = (x.take k).flatten ++ l := by rw [take_of_drop hd, List.flatten_append]; simp
 have hP : ∀ j q, q ∈ (x.take k).flatten ++ l.take j → q ∈ frames x := fun j => fr_part hd
 have hQ : ∀ j, ((x.take k).flatten ++ l.take j).length ≤ 1000000 := fun j => fr_len hx hd
 simp only [go_sem, Int.reduceEq, Int.reduceLT, Int.reduceLE, eq_self, Int.natCast_nonneg, Int.toNat_natCast, hk2, hxl2]
 generalize (x.take k).flatten = L0 at *
 refine sem_loop (fun j : Nat => ⟨slotsOf 49 [(2, .dat (.int .i64 i)), (3, .ptr 0 0 0), (4, .ptr 1 0 0), (6, .dat (.int .i64 0)), (7, .dat (.int .i64 (sumI (frU s i) (L0 ++ l.take j)))), (8, .dat (.int .i64 k)), (9, .dat (.int .i64 j))], [sysO s, stO x], 0, []⟩)
  (fun j => j ≤ l.length) (fun j => l.length - j) 0 (Nat.zero_le _) ?_ ?_
 ·rw [List.take_zero, List.append_nil]
  exact le_slots' (by simp only [go_sem, Int.natCast_zero])
 rintro j hj
 refine sem_of_awp (Γ := tbl tabHD) tabHD_ok _ _ _ ?_
 cases hd2 : l.drop j with
 | nil =>
  obtain rfl : j = l.length := end_of_drop hd2 hj
  have hj2 : ¬ (l.length : Int) < l.length := by omega
  rw [List.take_length]
  simp only [go_sem, Int.reduceEq, Int.reduceLT, Int.reduceLE, eq_self, Int.natCast_nonneg, Int.toNat_natCast, hk2, hk0, hlt, hn, hxl2, stackD, hfl, hj2]
  refine ⟨inR_i64.2 (by omega), k + 1, by omega, by omega, ?_⟩
  rw [htk]
  exact le_slots' (by simp only [go_sem, Int.natCast_add, Int.cast_ofNat_Int])
 | cons f r2 =>
 have hlt2 := lt_of_drop hd2
 have hj2 : (j : Int) < l.length := by omega
 have hj0 : (0 : Int) ≤ j := Int.natCast_nonneg j
 have hn2 := nth_of_drop (f := frD) hd2
 have hfo := hfr f (List.mem_flatten.2 ⟨l, mem_of_drop hd, mem_of_drop hd2⟩)
 have htk2 : L0 ++ l.take (j + 1) = (L0 ++ l.take j) ++ [f] := by rw [take_of_drop hd2, List.append_assoc]
 have ht1 := (sum_tame hg (fun q hq => hfr q (hP j q hq)) (hQ j) i)
 have ht2 := (sum_tame hg (fun q hq => hfr q (hP (j + 1) q hq)) (hQ (j + 1)) i)
 rw [htk2, sumI_snoc] at ht2
 obtain ⟨c1, c2, c3, c4⟩ := frOk_iff.1 hfo
 obtain ⟨ci, hci, hcil, hcin⟩ := cls_nth (s := s) (f := f) c1 c2
 have hci2 : (ci : Int) < s.classes.length := by omega
 have hci0 : (0 : Int) ≤ ci := Int.natCast_nonneg ci
 obtain ⟨a, ha⟩ : ∃ a : Nat, f.a = a := ⟨f.a.toNat, by omega⟩
 have hcm : clsAt s f ∈ s.classes := by
  unfold clsAt; rw [List.getD_eq_getElem?_getD, List.getElem?_eq_getElem (by omega)]; exact List.getElem_mem _
 have hcg := hg.cls _ hcm
 have h12 := hcg.l12
 have hu : selU false (ownU i ((clsAt s f).steps.take a)) = frU s i f := by
  unfold frU; rw [ha, Int.toNat_natCast, ← ownU_bal]; rfl
 simp only [go_sem, Int.reduceEq, Int.reduceLT, Int.reduceLE, eq_self, Int.natCast_nonneg, Int.toNat_natCast, hk2, hk0, hlt, hn, hxl2, stackD, hfl, hj2, hj0, hlt2, hn2, frD, hci, ha]
 refine sem_draw (pf := [82]) (Γ := tbl tabHD) mixed tabHD_ok pureHD [0, 1, 2, 3, 4, 5, 6, 7, 8, 9, 10, 11, 12] (by kernel_rfl) ?_
 simp only [go_sem, Int.reduceEq, Int.reduceLT, Int.reduceLE, eq_self, Int.natCast_nonneg, Int.toNat_natCast, chainI, hcl, hci2, hci0, hcil, hcin]
 refine call_data unitsR (by simp) [clsD (clsAt s f), .int .i64 i, .int .i64 a, .bool false] _ rfl ⟨clsAt s f, i, a, false, rfl, hcg.steps hg, by omega, by omega, rfl⟩ (.inl rfl) ?_
 simp only [go_sem, Int.reduceEq, Int.reduceLT, Int.reduceLE, eq_self, Int.natCast_nonneg, Int.toNat_natCast, chainI, hu]
 refine ⟨inR_i64.2 (by omega), inR_i64.2 (by omega), j + 1, by omega, by omega, ?_⟩
 rw [htk2, sumI_snoc]
 refine le_end (own := [_, _]) (ex := [_]) (Nat.zero_le _) ?_ ?_ ?_
 ·simp only [go_sem, Int.natCast_add, Int.cast_ofNat_Int]
 ·simp only [go_sem]
 ·simp only [go_sem, Obj.under, AV.unders, AV.under]
def hsR (ds : List D) (v : AV) : Prop := ∃ (s : PSys) (x : PSt) (i : Nat), ds = [sysD s, stD x, .int .i64 i] ∧ i < s.locks.length ∧ s.good ∧ PStFit x ∧ (∀ f ∈ frames x, frOk s f = true) ∧ v = .dat (.int .i64 (sumI (frL s i) (frames x)))
abbrev tabHS : List (Nat × Contract) := [(83, dataC lkR)]
theorem tabHS_ok : OkG Try.prog (tbl tabHS) := okG_cons locks_ok okG_nil
theorem pureHS : PureFns (tbl tabHS) [83] := by
 refine pure_of2 fun g C hm hg => ?_
 simp only [List.mem_cons, List.not_mem_nil, or_false, Prod.mk.injEq] at hm
 obtain ⟨_, rfl⟩ := hm
 exact .inl ⟨_, rfl⟩
theorem rholders_ok : OkF Try.prog 55 (dataC hsR) := by
 refine okF_data Try.func55 rfl (by decide) ?_
 rintro ds v ⟨s, x, i, rfl, hi, hg, hx, hfr, rfl⟩
 have hxl := hx.len
 have hxl2 : (stacksD x).length = x.length := by simp
 have hcl : (s.classes.map clsD).length = s.classes.length := by simp
 refine sem_of_awp (Γ := tbl tabHS) tabHS_ok _ _ _ ?_
 simp only [go_sem, Int.reduceEq, Int.reduceLT, Int.reduceLE, eq_self, Int.natCast_nonneg, Int.toNat_natCast, Try.ntmps55, sysD, stD]
 refine sem_loop (fun k : Nat => ⟨slotsOf 49 [(2, .dat (.int .i64 i)), (3, .ptr 0 0 0), (4, .ptr 1 0 0), (6, .dat (.int .i64 0)), (7, .dat (.int .i64 (sumI (frL s i) (x.take k).flatten))), (8, .dat (.int .i64 k))], [sysO s, stO x], 0, []⟩)
  (fun k => k ≤ x.length) (fun k => x.length - k) 0 (Nat.zero_le _) ?_ ?_
 ·exact le_slots' (by simp only [go_sem, Int.natCast_zero, List.take_zero, List.flatten_nil, sumI, List.foldl_nil])
 rintro k hk
 refine sem_of_awp (Γ := tbl tabHS) tabHS_ok _ _ _ ?_
 cases hd : x.drop k with
 | nil =>
  obtain rfl : k = x.length := end_of_drop hd hk
  have hk2 : ¬ (x.length : Int) < x.length := by omega
  rw [List.take_length]
  simp only [go_sem, Int.reduceEq, Int.reduceLT, Int.reduceLE, eq_self, Int.natCast_nonneg, Int.toNat_natCast, hk2, hxl2]
  exact post_data (.inl rfl) [6] rfl trivial rfl
 | cons l r =>
 have hlt := lt_of_drop hd
 have hk2 : (k : Int) < x.length := by omega
 have hk0 : (0 : Int) ≤ k := Int.natCast_nonneg k
 have hn := nth_of_drop (f := stackD) hd
 have hll := hx.stk l (mem_of_drop hd)
 have hfl : (frsD l).length = l.length := by simp
 have htk : (x.take (k + 1)).flatten = (x.take k).flatten ++ l := by rw [take_of_drop hd, List.flatten_append]; simp
 have hP : ∀ j q, q ∈ (x.take k).flatten ++ l.take j → q ∈ frames x := fun j => fr_part hd
 have hQ : ∀ j, ((x.take k).flatten ++ l.take j).length ≤ 1000000 := fun j => fr_len hx hd
 simp only [go_sem, Int.reduceEq, Int.reduceLT, Int.reduceLE, eq_self, Int.natCast_nonneg, Int.toNat_natCast, hk2, hxl2]
 generalize (x.take k).flatten = L0 at *
 refine sem_loop (fun j : Nat => ⟨slotsOf 49 [(2, .dat (.int .i64 i)), (3, .ptr 0 0 0), (4, .ptr 1 0 0), (6, .dat (.int .i64 0)), (7, .dat (.int .i64 (sumI (frL s i) (L0 ++ l.take j)))), (8, .dat (.int .i64 k)), (9, .dat (.int .i64 j))], [sysO s, stO x], 0, []⟩)
  (fun j => j ≤ l.length) (fun j => l.length - j) 0 (Nat.zero_le _) ?_ ?_
 ·rw [List.take_zero, List.append_nil]
  exact le_slots' (by simp only [go_sem, Int.natCast_zero])
 rintro j hj
 refine sem_of_awp (Γ := tbl tabHS) tabHS_ok _ _ _ ?_
 cases hd2 : l.drop j with
 | nil =>
  obtain rfl : j = l.length := end_of_drop hd2 hj
  have hj2 : ¬ (l.length : Int) < l.length := by omega
  rw [List.take_length]
  simp only [go_sem, Int.reduceEq, Int.reduceLT, Int.reduceLE, eq_self, Int.natCast_nonneg, Int.toNat_natCast, hk2, hk0, hlt, hn, hxl2, stackD, hfl, hj2]
  refine ⟨inR_i64.2 (by omega), k + 1, by omega, by omega, ?_⟩
  rw [htk]
  exact le_slots' (by simp only [go_sem, Int.natCast_add, Int.cast_ofNat_Int])
 | cons f r2 =>
 have hlt2 := lt_of_drop hd2
 have hj2 : (j : Int) < l.length := by omega
 have hj0 : (0 : Int) ≤ j := Int.natCast_nonneg j
 have hn2 := nth_of_drop (f := frD) hd2
 have hfo := hfr f (List.mem_flatten.2 ⟨l, mem_of_drop hd, mem_of_drop hd2⟩)
 have htk2 : L0 ++ l.take (j + 1) = (L0 ++ l.take j) ++ [f] := by rw [take_of_drop hd2, List.append_assoc]
 have ht1 := (sum_tame hg (fun q hq => hfr q (hP j q hq)) (hQ j) i)
 have ht2 := (sum_tame hg (fun q hq => hfr q (hP (j + 1) q hq)) (hQ (j + 1)) i)
 rw [htk2, sumI_snoc] at ht2
 obtain ⟨c1, c2, c3, c4⟩ := frOk_iff.1 hfo
 obtain ⟨ci, hci, hcil, hcin⟩ := cls_nth (s := s) (f := f) c1 c2
 have hci2 : (ci : Int) < s.classes.length := by omega
 have hci0 : (0 : Int) ≤ ci := Int.natCast_nonneg ci
 obtain ⟨a, ha⟩ : ∃ a : Nat, f.a = a := ⟨f.a.toNat, by omega⟩
 have hcm : clsAt s f ∈ s.classes := by
  unfold clsAt; rw [List.getD_eq_getElem?_getD, List.getElem?_eq_getElem (by omega)]; exact List.getElem_mem _
 have hcg := hg.cls _ hcm
 have h12 := hcg.l12
 have hu : frL s i f = if lkB i ((clsAt s f).steps.take a) = true then 1 else 0 := by
  unfold frL; rw [ha, Int.toNat_natCast, lkB_bal hcg hi (by omega)]
  rcases run_lock hcg (k := a) (by omega) hi with h | h <;> rw [h] <;> rfl
 simp only [go_sem, Int.reduceEq, Int.reduceLT, Int.reduceLE, eq_self, Int.natCast_nonneg, Int.toNat_natCast, hk2, hk0, hlt, hn, hxl2, stackD, hfl, hj2, hj0, hlt2, hn2, frD, hci, ha]
 refine sem_draw (pf := [83]) (Γ := tbl tabHS) mixed tabHS_ok pureHS [0, 1, 2, 3, 4, 5, 6, 7, 8, 9] (by kernel_rfl) ?_
 simp only [go_sem, Int.reduceEq, Int.reduceLT, Int.reduceLE, eq_self, Int.natCast_nonneg, Int.toNat_natCast, chainI, hcl, hci2, hci0, hcil, hcin]
 refine call_data lkR (by simp) [clsD (clsAt s f), .int .i64 i, .int .i64 a] _ rfl ⟨clsAt s f, i, a, rfl, by omega, by omega, rfl⟩ (.inl rfl) ?_
 have ht1 := ht1.2.1
 have ht2 := ht2.2.1
 cases hB : lkB i ((clsAt s f).steps.take a) with
 | true =>
  rw [hB, if_pos rfl] at hu
  rw [sumI_snoc, hu] at ht2
  simp only [go_sem, Int.reduceEq, Int.reduceLT, Int.reduceLE, eq_self, Int.natCast_nonneg, Int.toNat_natCast, chainI]
  refine ⟨inR_i64.2 (by omega), inR_i64.2 (by omega), j + 1, by omega, by omega, ?_⟩
  rw [htk2, sumI_snoc, hu]
  refine le_end (own := [_, _]) (ex := [_]) (Nat.zero_le _) ?_ ?_ ?_
  ·simp only [go_sem, Int.natCast_add, Int.cast_ofNat_Int]
  ·simp only [go_sem]
  ·simp only [go_sem, Obj.under, AV.unders, AV.under]
 | false =>
  rw [hB, if_neg (by decide)] at hu
  simp only [go_sem, Int.reduceEq, Int.reduceLT, Int.reduceLE, eq_self, Int.natCast_nonneg, Int.toNat_natCast, chainI]
  refine ⟨inR_i64.2 (by omega), j + 1, by omega, by omega, ?_⟩
  rw [htk2, sumI_snoc, hu, Int.add_zero]
  refine le_end (own := [_, _]) (ex := [_]) (Nat.zero_le _) ?_ ?_ ?_
  ·simp only [go_sem, Int.natCast_add, Int.cast_ofNat_Int]
  ·simp only [go_sem]
  ·simp only [go_sem, Obj.under, AV.unders, AV.under]
def egR (ds : List D) (v : AV) : Prop := ∃ (s : PSys) (x : PSt) (i : Nat), ds = [sysD s, stD x, .int .i64 i] ∧ i < s.classes.length ∧ s.good ∧ PStFit x ∧ (∀ f ∈ frames x, frOk s f = true) ∧ v = .dat (.int .i64 (sumI (frE s i) (frames x)))
theorem rengaged_ok : OkF Try.prog 56 (dataC egR) := by
 refine okF_data Try.func56 rfl (by decide) ?_
 rintro ds v ⟨s, x, i, rfl, hi, hg, hx, hfr, rfl⟩
 have hxl := hx.len
 have hxl2 : (stacksD x).length = x.length := by simp
 have hcl : (s.classes.map clsD).length = s.classes.length := by simp
 refine sem_of_awp (Γ := tbl []) okG_nil _ _ _ ?_
 simp only [go_sem, Int.reduceEq, Int.reduceLT, Int.reduceLE, eq_self, Int.natCast_nonneg, Int.toNat_natCast, Try.ntmps56, sysD, stD]
 refine sem_loop (fun k : Nat => ⟨slotsOf 49 [(2, .dat (.int .i64 i)), (3, .ptr 0 0 0), (4, .ptr 1 0 0), (6, .dat (.int .i64 0)), (7, .dat (.int .i64 (sumI (frE s i) (x.take k).flatten))), (8, .dat (.int .i64 k))], [sysO s, stO x], 0, []⟩)
  (fun k => k ≤ x.length) (fun k => x.length - k) 0 (Nat.zero_le _) ?_ ?_
 ·exact le_slots' (by simp only [go_sem, Int.natCast_zero, List.take_zero, List.flatten_nil, sumI, List.foldl_nil])
 rintro k hk
 refine sem_of_awp (Γ := tbl []) okG_nil _ _ _ ?_
 cases hd : x.drop k with
 | nil =>
  obtain rfl : k = x.length := end_of_drop hd hk
  have hk2 : ¬ (x.length : Int) < x.length := by omega
  rw [List.take_length]
  simp only [go_sem, Int.reduceEq, Int.reduceLT, Int.reduceLE, eq_self, Int.natCast_nonneg, Int.toNat_natCast, hk2, hxl2]
  exact post_data (.inl rfl) [6] rfl trivial rfl
 | cons l r =>
 have hlt := lt_of_drop hd
 have hk2 : (k : Int) < x.length := by omega
 have hk0 : (0 : Int) ≤ k := Int.natCast_nonneg k
 have hn := nth_of_drop (f := stackD) hd
 have hll := hx.stk l (mem_of_drop hd)
 have hfl : (frsD l).length = l.length := by simp
 have htk : (x.take (k + 1)).flatten = (x.take k).flatten ++ l := by rw [take_of_drop hd, List.flatten_append]; simp
 have hP : ∀ j q, q ∈ (x.take k).flatten ++ l.take j → q ∈ frames x := fun j => fr_part hd
 have hQ : ∀ j, ((x.take k).flatten ++ l.take j).length ≤ 1000000 := fun j => fr_len hx hd
 simp only [go_sem, Int.reduceEq, Int.reduceLT, Int.reduceLE, eq_self, Int.natCast_nonneg, Int.toNat_natCast, hk2, hxl2]
 generalize (x.take k).flatten = L0 at *
 refine sem_loop (fun j : Nat => ⟨slotsOf 49 [(2, .dat (.int .i64 i)), (3, .ptr 0 0 0), (4, .ptr 1 0 0), (6, .dat (.int .i64 0)), (7, .dat (.int .i64 (sumI (frE s i) (L0 ++ l.take j)))), (8, .dat (.int .i64 k)), (9, .dat (.int .i64 j))], [sysO s, stO x], 0, []⟩)
  (fun j => j ≤ l.length) (fun j => l.length - j) 0 (Nat.zero_le _) ?_ ?_
 ·rw [List.take_zero, List.append_nil]
  exact le_slots' (by simp only [go_sem, Int.natCast_zero])
 rintro j hj
 refine sem_of_awp (Γ := tbl []) okG_nil _ _ _ ?_
 cases hd2 : l.drop j with
 | nil =>
  obtain rfl : j = l.length := end_of_drop hd2 hj
  have hj2 : ¬ (l.length : Int) < l.length := by omega
  rw [List.take_length]
  simp only [go_sem, Int.reduceEq, Int.reduceLT, Int.reduceLE, eq_self, Int.natCast_nonneg, Int.toNat_natCast, hk2, hk0, hlt, hn, hxl2, stackD, hfl, hj2]
  refine ⟨inR_i64.2 (by omega), k + 1, by omega, by omega, ?_⟩
  rw [htk]
  exact le_slots' (by simp only [go_sem, Int.natCast_add, Int.cast_ofNat_Int])
 | cons f r2 =>
 have hlt2 := lt_of_drop hd2
 have hj2 : (j : Int) < l.length := by omega
 have hj0 : (0 : Int) ≤ j := Int.natCast_nonneg j
 have hn2 := nth_of_drop (f := frD) hd2
 have hfo := hfr f (List.mem_flatten.2 ⟨l, mem_of_drop hd, mem_of_drop hd2⟩)
 have htk2 : L0 ++ l.take (j + 1) = (L0 ++ l.take j) ++ [f] := by rw [take_of_drop hd2, List.append_assoc]
 have ht1 := (sum_tame hg (fun q hq => hfr q (hP j q hq)) (hQ j) i)
 have ht2 := (sum_tame hg (fun q hq => hfr q (hP (j + 1) q hq)) (hQ (j + 1)) i)
 rw [htk2, sumI_snoc] at ht2
 obtain ⟨c1, c2, c3, c4⟩ := frOk_iff.1 hfo
 obtain ⟨ci, hci, hcil, hcin⟩ := cls_nth (s := s) (f := f) c1 c2
 have hci2 : (ci : Int) < s.classes.length := by omega
 have hci0 : (0 : Int) ≤ ci := Int.natCast_nonneg ci
 obtain ⟨a, ha⟩ : ∃ a : Nat, f.a = a := ⟨f.a.toNat, by omega⟩
 have hcm : clsAt s f ∈ s.classes := by
  unfold clsAt; rw [List.getD_eq_getElem?_getD, List.getElem?_eq_getElem (by omega)]; exact List.getElem_mem _
 have hcg := hg.cls _ hcm
 have h12 := hcg.l12
 have hin : D.nth (s.classes.map clsD) i = clsD (s.classes.getD i default) := D.nth_map hi
 have hi1 : (i : Int) < s.classes.length := by omega
 have hi0 : (0 : Int) ≤ i := Int.natCast_nonneg i
 have ht1 := ht1.2.2
 have ht2 := ht2.2.2
 have hu : frE s i f = if (ci : Int) = i ∧ (s.classes.getD i default).server = true then 1 else 0 := by
  unfold frE clsAt
  rw [hci]
  by_cases e : (ci : Int) = i
  ·rw [e, Int.toNat_natCast]
  ·rw [if_neg (fun h => e h.1), if_neg (fun h => e h.1)]
 have no : frE s i f = 0 → L0 ++ l.take (j + 1) = L0 ++ l.take (j + 1) ∧ sumI (frE s i) (L0 ++ l.take (j + 1)) = sumI (frE s i) (L0 ++ l.take j) := fun h => ⟨rfl, by rw [htk2, sumI_snoc, h, Int.add_zero]⟩
 by_cases e : (ci : Int) = i
 case neg =>
  rw [if_neg (fun h => e h.1)] at hu
  simp only [go_sem, Int.reduceEq, Int.reduceLT, Int.reduceLE, eq_self, Int.natCast_nonneg, Int.toNat_natCast, hk2, hk0, hlt, hn, hxl2, stackD, hfl, hj2, hj0, hlt2, hn2, frD, hci, ha, e]
  refine ⟨inR_i64.2 (by omega), j + 1, by omega, by omega, ?_⟩
  rw [(no hu).2]
  exact le_slots' (by simp only [go_sem, Int.natCast_add, Int.cast_ofNat_Int])
 cases hsv : (s.classes.getD i default).server with
 | false =>
  rw [hsv, if_neg (by simp)] at hu
  simp only [go_sem, Int.reduceEq, Int.reduceLT, Int.reduceLE, eq_self, Int.natCast_nonneg, Int.toNat_natCast, hk2, hk0, hlt, hn, hxl2, stackD, hfl, hj2, hj0, hlt2, hn2, frD, hci, ha, e, hcl, hi1, hi0, hi, hin, clsD, hsv]
  refine ⟨inR_i64.2 (by omega), j + 1, by omega, by omega, ?_⟩
  rw [(no hu).2]
  exact le_slots' (by simp only [go_sem, Int.natCast_add, Int.cast_ofNat_Int])
 | true =>
  rw [hsv, if_pos ⟨e, rfl⟩] at hu
  rw [sumI_snoc, hu] at ht2
  simp only [go_sem, Int.reduceEq, Int.reduceLT, Int.reduceLE, eq_self, Int.natCast_nonneg, Int.toNat_natCast, hk2, hk0, hlt, hn, hxl2, stackD, hfl, hj2, hj0, hlt2, hn2, frD, hci, ha, e, hcl, hi1, hi0, hi, hin, clsD, hsv]
  refine ⟨inR_i64.2 (by omega), inR_i64.2 (by omega), j + 1, by omega, by omega, ?_⟩
  rw [htk2, sumI_snoc, hu]
  exact le_slots' (by simp only [go_sem, Int.natCast_add, Int.cast_ofNat_Int])
end Go.AM

set_option maxRecDepth 8000
set_option maxHeartbeats 4000000
namespace Go.AM
open Go Go.Proofs

theorem frE_serv {s : PSys} {i : Nat} (h : (s.classes.getD i default).server = false) : ∀ L : List PFr, sumI (frE s i) L = 0
 | [] => rfl
 | f :: L => by
  rw [sumI_cons, frE_serv h L]
  unfold frE clsAt
  rw [if_neg]; · rfl
  rintro ⟨h1, h2⟩
  rw [h1, Int.toNat_natCast, h] at h2; cases h2
theorem over_E {s : PSys} (hg : s.good) (L : List PFr) : ((List.range s.classes.length).any fun i => (s.classes.getD i default).server && decide ((s.classes.getD i default).workers < sumI (frE s i) L)) = (List.range s.classes.length).any fun i => decide ((s.classes.getD i default).workers < sumI (frE s i) L) := by
 rw [Bool.eq_iff_iff, List.any_eq_true, List.any_eq_true]
 constructor
 ·rintro ⟨i, hi, h⟩
  rw [Bool.and_eq_true] at h
  exact ⟨i, hi, h.2⟩
 ·rintro ⟨i, hi, h⟩
  refine ⟨i, hi, ?_⟩
  rw [Bool.and_eq_true]
  refine ⟨?_, h⟩
  cases hs : (s.classes.getD i default).server with
  | true => rfl
  | false =>
   have hi := List.mem_range.1 hi
   rw [frE_serv hs, decide_eq_true_eq] at h
   have := (hg.cls (s.classes.getD i default) (by rw [List.getD_eq_getElem?_getD, List.getElem?_eq_getElem hi]; exact List.getElem_mem _)).w0
   omega
abbrev tabRC4 : List (Nat × Contract) := [(51, dataC checkR), (52, dataC wkR), (53, dataC fmR), (54, dataC hdR), (55, dataC hsR), (56, dataC egR)]
theorem tabRC4_ok : OkG Try.prog (tbl tabRC4) := okG_cons rcheck_ok (okG_cons rworkers_ok (okG_cons rformed_ok (okG_cons rheld_ok44 (okG_cons rholders_ok (okG_cons rengaged_ok okG_nil)))))
theorem pureRC4 : PureFns (tbl tabRC4) [53, 54, 55, 56] := by
 refine pure_of2 fun g C hm hg => ?_
 simp only [List.mem_cons, List.not_mem_nil, or_false, Prod.mk.injEq] at hm
 rcases hm with ⟨_, rfl⟩ | ⟨_, rfl⟩ | ⟨_, rfl⟩ | ⟨_, rfl⟩ | ⟨_, rfl⟩ | ⟨_, rfl⟩ <;> exact .inl ⟨_, rfl⟩
theorem rCheck44_ok : OkF Try.prog 16 (dataC stErrR) := by
 refine okF_data Try.func16 rfl (by decide) ?_
 rintro ds v ⟨s, x, rfl, hf, hx, rfl⟩
 generalize hv : stErr s x = V
 unfold stErr at hv
 refine sem_of_awp (Γ := tbl tabRC4) tabRC4_ok _ _ _ ?_
 simp only [go_sem, Int.reduceEq, Int.reduceLT, Int.reduceLE, eq_self, Int.natCast_nonneg, Int.toNat_natCast, Try.ntmps16, sysD, stD]
 refine call_data checkR (by simp) [sysD s] _ rfl ⟨s, rfl, hf, rfl⟩ (.inl rfl) ?_
 by_cases he : checkE s = 0
 case neg =>
  rw [if_pos he] at hv
  subst hv
  simp only [go_sem, Int.reduceEq, Int.reduceLT, Int.reduceLE, eq_self, Int.natCast_nonneg, Int.toNat_natCast, he]
  exact post_data (.inl rfl) [4] rfl trivial rfl
 have hg := good_of he
 rw [if_neg (by rw [he]; decide)] at hv
 simp only [go_sem, Int.reduceEq, Int.reduceLT, Int.reduceLE, eq_self, Int.natCast_nonneg, Int.toNat_natCast, he]
 refine call_data wkR (by simp) [sysD s] _ rfl ⟨s, rfl, hg, rfl⟩ (.inl rfl) ?_
 have hlen := wkL_len hg
 have hxl2 : (stacksD x).length = x.length := by simp
 generalize hW : wkL s = W at *
 by_cases hl : W.length = x.length
 case neg =>
  rw [if_pos hl] at hv
  subst hv
  have hl2 : ¬ (x.length : Int) = W.length := by omega
  simp only [go_sem, Int.reduceEq, Int.reduceLT, Int.reduceLE, eq_self, Int.natCast_nonneg, Int.toNat_natCast, nats_len, hxl2, hl2]
  exact post_data (.inl rfl) [4] rfl trivial rfl
 rw [if_neg (by rw [hl]; simp)] at hv
 have hl2 : (x.length : Int) = W.length := by omega
 simp only [go_sem, Int.reduceEq, Int.reduceLT, Int.reduceLE, eq_self, Int.natCast_nonneg, Int.toNat_natCast, nats_len, hxl2, hl2]
 refine sem_loop (fun k : Nat => ⟨slotsOf 90 [(2, .ptr 0 0 0), (3, .ptr 1 0 0), (6, .dat (.sl none (natsD W))), (7, .dat (.int .i64 k))], [sysO s, stO x], 0, []⟩)
  (fun k => k ≤ x.length ∧ fmdAll s x W = fmdAll s (x.drop k) (W.drop k)) (fun k => x.length - k) 0 ⟨Nat.zero_le _, rfl⟩ ?_ ?_
 ·exact le_slots' (by simp only [go_sem, Int.natCast_zero])
 rintro k ⟨hk, hA⟩
 refine sem_of_awp (Γ := tbl tabRC4) tabRC4_ok _ _ _ ?_
 cases hd : x.drop k with
 | cons l r =>
  have hlt := lt_of_drop hd
  have hk2 : (k : Int) < x.length := by omega
  have hk0 : (0 : Int) ≤ k := Int.natCast_nonneg k
  have hkW : k < W.length := by omega
  have hkW2 : (k : Int) < W.length := by omega
  have hn := nth_of_drop (f := stackD) hd
  have hll := hx.stk l (mem_of_drop hd)
  obtain ⟨c, rW, hdW⟩ : ∃ c rW, W.drop k = c :: rW := by
   cases hdW : W.drop k with
   | nil => have := List.drop_eq_nil_iff.1 hdW; omega
   | cons c rW => exact ⟨c, rW, rfl⟩
  have hnW : D.nth (natsD W) k = .int .i64 c := nth_of_drop hdW
  rw [hd, hdW, fmdAll] at hA
  simp only [go_sem, Int.reduceEq, Int.reduceLT, Int.reduceLE, eq_self, Int.natCast_nonneg, Int.toNat_natCast, hk2, hk0, hkW, hkW2, hnW, nats_len]
  refine sem_draw (pf := [53, 54, 55, 56]) (Γ := tbl tabRC4) mixed tabRC4_ok pureRC4 [0, 1, 2, 3, 4, 5, 6, 7, 8, 9, 10, 11] (by kernel_rfl) ?_
  simp only [go_sem, Int.reduceEq, Int.reduceLT, Int.reduceLE, eq_self, Int.natCast_nonneg, Int.toNat_natCast, chainI, hk2, hk0, hlt, hn, hxl2, hkW, hkW2, hnW, nats_len]
  refine call_data fmR (by simp) [sysD s, stackD l, .int .i64 c] _ rfl ⟨s, l, c, rfl, hg, hll, rfl⟩ (.inl rfl) ?_
  cases hfo : formedB s l c with
  | false =>
   rw [hfo, Bool.false_and] at hA
   rw [if_pos hA] at hv
   subst hv
   simp only [go_sem, Int.reduceEq, Int.reduceLT, Int.reduceLE, eq_self, Int.natCast_nonneg, Int.toNat_natCast, chainI]
   exact post_data (.inl rfl) [4] rfl trivial rfl
  | true =>
   rw [hfo, Bool.true_and] at hA
   simp only [go_sem, Int.reduceEq, Int.reduceLT, Int.reduceLE, eq_self, Int.natCast_nonneg, Int.toNat_natCast, chainI]
   refine ⟨inR_i64.2 (by omega), k + 1, ⟨by omega, by rw [drop_cons hd, drop_cons hdW]; exact hA⟩, by omega, ?_⟩
   exact le_slots' (by simp only [go_sem, Int.natCast_add, Int.cast_ofNat_Int])
 | nil =>
 obtain rfl : k = x.length := end_of_drop hd hk
 have hk2 : ¬ (x.length : Int) < W.length := by omega
 rw [hd, ← hl, List.drop_length] at hA
 have hA : fmdAll s x W = true := hA.trans rfl
 rw [if_neg (by rw [hA]; decide)] at hv
 have hfr := frames_ok hA hl.symm
 have hfl := frames_len hx
 simp only [go_sem, Int.reduceEq, Int.reduceLT, Int.reduceLE, eq_self, Int.natCast_nonneg, Int.toNat_natCast, hk2, nats_len]
 unfold overB at hv
 rw [over_E hg] at hv
 have hnp := hg.np
 have hnc := hg.nc
 have hnl := hg.nl
 refine sem_loop (fun k : Nat => ⟨slotsOf 90 [(2, .ptr 0 0 0), (3, .ptr 1 0 0), (8, .dat (.int .i64 k))], [sysO s, stO x], 0, []⟩)
  (fun k => k ≤ s.pools.length ∧ ∀ i, i < k → ¬ (s.pools.getD i default).size < sumI (frU s i) (frames x)) (fun k => s.pools.length - k) 0 ⟨Nat.zero_le _, fun i hi => absurd hi (Nat.not_lt_zero i)⟩ ?_ ?_
 ·exact le_slots' (by simp only [go_sem, Int.natCast_zero])
 rintro k ⟨hk, hB1⟩
 refine sem_of_awp (Γ := tbl tabRC4) tabRC4_ok _ _ _ ?_
 rcases Nat.lt_or_ge k s.pools.length with hlt | hge
 ·have hk2 : (k : Int) < s.pools.length := by omega
  have hk0 : (0 : Int) ≤ k := Int.natCast_nonneg k
  have hpn : D.nth (s.pools.map poolD) k = poolD (s.pools.getD k default) := D.nth_map hlt
  have hpl : (s.pools.map poolD).length = s.pools.length := by simp
  simp only [go_sem, Int.reduceEq, Int.reduceLT, Int.reduceLE, eq_self, Int.natCast_nonneg, Int.toNat_natCast, hk2, hpn, hpl, poolD]
  refine sem_draw (pf := [53, 54, 55, 56]) (Γ := tbl tabRC4) mixed tabRC4_ok pureRC4 [0, 1, 2, 3, 4, 5, 6, 7, 8, 9, 10] (by kernel_rfl) ?_
  simp only [go_sem, Int.reduceEq, Int.reduceLT, Int.reduceLE, eq_self, Int.natCast_nonneg, Int.toNat_natCast, chainI]
  refine call_data hdR (by simp) [sysD s, stD x, .int .i64 k] _ rfl ⟨s, x, k, rfl, hg, hx, hfr, rfl⟩ (.inl rfl) ?_
  by_cases hb : (s.pools.getD k default).size < sumI (frU s k) (frames x)
  ·rw [any_at hlt (by rw [decide_eq_true hb]), Bool.true_or, Bool.true_or, if_pos rfl] at hv
   subst hv
   simp only [go_sem, Int.reduceEq, Int.reduceLT, Int.reduceLE, eq_self, Int.natCast_nonneg, Int.toNat_natCast, chainI, hk2, hk0, hlt, hpn, hpl, poolD, hb]
   exact post_data (.inl rfl) [4] rfl trivial rfl
  ·simp only [go_sem, Int.reduceEq, Int.reduceLT, Int.reduceLE, eq_self, Int.natCast_nonneg, Int.toNat_natCast, chainI, hk2, hk0, hlt, hpn, hpl, poolD, hb]
   refine ⟨inR_i64.2 (by omega), k + 1, ⟨by omega, fun i hi => ?_⟩, by omega, ?_⟩
   ·rcases Nat.lt_or_ge i k with h | h
    ·exact hB1 i h
    ·obtain rfl : i = k := by omega
     exact hb
   ·exact le_slots' (by simp only [go_sem, Int.natCast_add, Int.cast_ofNat_Int])
 obtain rfl : k = s.pools.length := by omega
 have hk2 : ¬ (s.pools.length : Int) < s.pools.length := by omega
 rw [any_no fun i hi => decide_eq_false (hB1 i hi), Bool.false_or] at hv
 have hpl : (s.pools.map poolD).length = s.pools.length := by simp
 simp only [go_sem, Int.reduceEq, Int.reduceLT, Int.reduceLE, eq_self, Int.natCast_nonneg, Int.toNat_natCast, hk2, hpl]
 refine sem_loop (fun k : Nat => ⟨slotsOf 90 [(2, .ptr 0 0 0), (3, .ptr 1 0 0), (9, .dat (.int .i64 k))], [sysO s, stO x], 0, []⟩)
  (fun k => k ≤ s.locks.length ∧ ∀ i, i < k → ¬ 1 < sumI (frL s i) (frames x)) (fun k => s.locks.length - k) 0 ⟨Nat.zero_le _, fun i hi => absurd hi (Nat.not_lt_zero i)⟩ ?_ ?_
 ·exact le_slots' (by simp only [go_sem, Int.natCast_zero])
 rintro k ⟨hk, hB2⟩
 refine sem_of_awp (Γ := tbl tabRC4) tabRC4_ok _ _ _ ?_
 rcases Nat.lt_or_ge k s.locks.length with hlt | hge
 ·have hk2 : (k : Int) < s.locks.length := by omega
  have hk0 : (0 : Int) ≤ k := Int.natCast_nonneg k
  have hpl : (s.locks.map D.str).length = s.locks.length := by simp
  simp only [go_sem, Int.reduceEq, Int.reduceLT, Int.reduceLE, eq_self, Int.natCast_nonneg, Int.toNat_natCast, hk2, hpl]
  refine call_data hsR (by simp) [sysD s, stD x, .int .i64 k] _ rfl ⟨s, x, k, rfl, hlt, hg, hx, hfr, rfl⟩ (.inl rfl) ?_
  by_cases hb : 1 < sumI (frL s k) (frames x)
  ·rw [any_at (n := s.locks.length) hlt (by rw [decide_eq_true hb]), Bool.or_true, if_pos rfl] at hv
   subst hv
   simp only [go_sem, Int.reduceEq, Int.reduceLT, Int.reduceLE, eq_self, Int.natCast_nonneg, Int.toNat_natCast, chainI, hk2, hk0, hlt, hpl, hb]
   exact post_data (.inl rfl) [4] rfl trivial rfl
  ·simp only [go_sem, Int.reduceEq, Int.reduceLT, Int.reduceLE, eq_self, Int.natCast_nonneg, Int.toNat_natCast, chainI, hk2, hk0, hlt, hpl, hb]
   refine ⟨inR_i64.2 (by omega), k + 1, ⟨by omega, fun i hi => ?_⟩, by omega, ?_⟩
   ·rcases Nat.lt_or_ge i k with h | h
    ·exact hB2 i h
    ·obtain rfl : i = k := by omega
     exact hb
   ·exact le_slots' (by simp only [go_sem, Int.natCast_add, Int.cast_ofNat_Int])
 obtain rfl : k = s.locks.length := by omega
 have hk2 : ¬ (s.locks.length : Int) < s.locks.length := by omega
 rw [any_no (n := s.locks.length) fun i hi => decide_eq_false (hB2 i hi), Bool.or_false] at hv
 have hpl2 : (s.locks.map D.str).length = s.locks.length := by simp
 simp only [go_sem, Int.reduceEq, Int.reduceLT, Int.reduceLE, eq_self, Int.natCast_nonneg, Int.toNat_natCast, hk2, hpl2]
 refine sem_loop (fun k : Nat => ⟨slotsOf 90 [(2, .ptr 0 0 0), (3, .ptr 1 0 0), (10, .dat (.int .i64 k))], [sysO s, stO x], 0, []⟩)
  (fun k => k ≤ s.classes.length ∧ ∀ i, i < k → ¬ (s.classes.getD i default).workers < sumI (frE s i) (frames x)) (fun k => s.classes.length - k) 0 ⟨Nat.zero_le _, fun i hi => absurd hi (Nat.not_lt_zero i)⟩ ?_ ?_
 ·exact le_slots' (by simp only [go_sem, Int.natCast_zero])
 rintro k ⟨hk, hB3⟩
 refine sem_of_awp (Γ := tbl tabRC4) tabRC4_ok _ _ _ ?_
 rcases Nat.lt_or_ge k s.classes.length with hlt | hge
 ·have hk2 : (k : Int) < s.classes.length := by omega
  have hk0 : (0 : Int) ≤ k := Int.natCast_nonneg k
  have hpn : D.nth (s.classes.map clsD) k = clsD (s.classes.getD k default) := D.nth_map hlt
  have hpl : (s.classes.map clsD).length = s.classes.length := by simp
  simp only [go_sem, Int.reduceEq, Int.reduceLT, Int.reduceLE, eq_self, Int.natCast_nonneg, Int.toNat_natCast, hk2, hpn, hpl, clsD]
  refine sem_draw (pf := [53, 54, 55, 56]) (Γ := tbl tabRC4) mixed tabRC4_ok pureRC4 [0, 1, 2, 3, 4, 5, 6, 7, 8, 9, 10] (by kernel_rfl) ?_
  simp only [go_sem, Int.reduceEq, Int.reduceLT, Int.reduceLE, eq_self, Int.natCast_nonneg, Int.toNat_natCast, chainI]
  refine call_data egR (by simp) [sysD s, stD x, .int .i64 k] _ rfl ⟨s, x, k, rfl, hlt, hg, hx, hfr, rfl⟩ (.inl rfl) ?_
  by_cases hb : (s.classes.getD k default).workers < sumI (frE s k) (frames x)
  ·rw [any_at hlt (by rw [decide_eq_true hb]), if_pos rfl] at hv
   subst hv
   simp only [go_sem, Int.reduceEq, Int.reduceLT, Int.reduceLE, eq_self, Int.natCast_nonneg, Int.toNat_natCast, chainI, hk2, hk0, hlt, hpn, hpl, clsD, hb]
   exact post_data (.inl rfl) [4] rfl trivial rfl
  ·simp only [go_sem, Int.reduceEq, Int.reduceLT, Int.reduceLE, eq_self, Int.natCast_nonneg, Int.toNat_natCast, chainI, hk2, hk0, hlt, hpn, hpl, clsD, hb]
   refine ⟨inR_i64.2 (by omega), k + 1, ⟨by omega, fun i hi => ?_⟩, by omega, ?_⟩
   ·rcases Nat.lt_or_ge i k with h | h
    ·exact hB3 i h
    ·obtain rfl : i = k := by omega
     exact hb
   ·exact le_slots' (by simp only [go_sem, Int.natCast_add, Int.cast_ofNat_Int])
 obtain rfl : k = s.classes.length := by omega
 have hk2 : ¬ (s.classes.length : Int) < s.classes.length := by omega
 rw [any_no fun i hi => decide_eq_false (hB3 i hi), if_neg (by decide)] at hv
 subst hv
 have hpl3 : (s.classes.map clsD).length = s.classes.length := by simp
 simp only [go_sem, Int.reduceEq, Int.reduceLT, Int.reduceLE, eq_self, Int.natCast_nonneg, Int.toNat_natCast, hk2, hpl3]
 exact post_data (.inl rfl) [4] rfl trivial rfl
end Go.AM

set_option maxRecDepth 8000
set_option maxHeartbeats 4000000
namespace Go.AM
open Go Go.Proofs

def rposR (ds : List D) (v : AV) : Prop := ∃ (s : PSys) (x : PSt) (w : Nat), ds = [sysD s, stD x, .int .i64 w] ∧ Valid s x ∧ PStFit x ∧ w < x.length ∧ v = .dat (.bool (ableB s x w))
abbrev tabRP4 : List (Nat × Contract) := [(54, dataC hdR), (55, dataC hsR), (56, dataC egR)]
theorem tabRP4_ok : OkG Try.prog (tbl tabRP4) := okG_cons rheld_ok44 (okG_cons rholders_ok (okG_cons rengaged_ok okG_nil))
theorem pureRP4 : PureFns (tbl tabRP4) [54, 55, 56] := by
 refine pure_of2 fun g C hm hg => ?_
 simp only [List.mem_cons, List.not_mem_nil, or_false, Prod.mk.injEq] at hm
 rcases hm with ⟨_, rfl⟩ | ⟨_, rfl⟩ | ⟨_, rfl⟩ <;> exact .inl ⟨_, rfl⟩
theorem rpossible_ok : OkF Try.prog 44 (dataC rposR) := by
 refine okF_data Try.func44 rfl (by decide) ?_
 rintro ds v ⟨s, x, w, rfl, hV, hx, hw, rfl⟩
 have hg := hV.good
 have hfr := hV.frames
 have hLl := frames_len hx
 have hw1 : (w : Int) < x.length := by omega
 have hw0 : (0 : Int) ≤ w := Int.natCast_nonneg w
 have hxl2 : (stacksD x).length = x.length := by simp
 have hn : D.nth (stacksD x) w = stackD (x.getD w []) := D.nth_map hw
 have hl0 : 0 < (x.getD w []).length := List.length_pos_iff.2 (hV.stk hw).1
 have hl1 := getD_fit hx hw
 have hfo := hV.top hw
 have hp := step_mem hg hfo
 unfold ableB topS
 generalize x.getD w [] = l at *
 have hlf : (frsD l).length = l.length := by simp
 have hq1 : (l.length : Int) - 1 = ((l.length - 1 : Nat) : Int) := by omega
 have hq2 : ((l.length - 1 : Nat) : Int) < l.length := by omega
 have hq3 : l.length - 1 < l.length := by omega
 have hq4 : (0 : Int) ≤ ((l.length - 1 : Nat) : Int) := Int.natCast_nonneg _
 have hqn : D.nth (frsD l) (l.length - 1) = frD (topF l) := D.nth_map hq3
 generalize topF l = q at *
 obtain ⟨d1, d2, d3, d4⟩ := frOk_iff.1 hfo
 obtain ⟨j, hj, hjl, hjn⟩ := cls_nth (s := s) (f := q) d1 d2
 obtain ⟨b, hb, hbl, hbn⟩ := step_nth (s := s) (f := q) d3 d4
 have hj2 : (j : Int) < s.classes.length := by omega
 have hj0 : (0 : Int) ≤ j := Int.natCast_nonneg j
 have hb2 : (b : Int) < (clsAt s q).steps.length := by omega
 have hb0 : (0 : Int) ≤ b := Int.natCast_nonneg b
 generalize stepAtF s q = y at *
 generalize clsAt s q = cq at *
 refine sem_of_awp (Γ := tbl tabRP4) tabRP4_ok _ _ _ ?_
 simp only [go_sem, Int.reduceEq, Int.reduceLT, Int.reduceLE, eq_self, Int.natCast_nonneg, Int.toNat_natCast, Try.ntmps44, sysD, stD, hw1, hw0, hw, hxl2, hn, stackD, hlf, hq1, hq2, hq3, hq4, hqn, frD]
 refine ⟨inR_i64.2 (by omega), ?_⟩
 refine sem_drawY [] [] (pf := []) (mf := []) mixed tabRP4_ok pureNo noMk (ones [0, 1, 2, 3, 4, 5, 6, 7, 8, 9, 10, 11, 12]) (by kernel_rfl) ?_
 simp only [go_sem, Int.reduceEq, Int.reduceLT, Int.reduceLE, eq_self, Int.natCast_nonneg, Int.toNat_natCast, hj, hj2, hj0, hjl, hjn, clsD, stepsD, hb, hb2, hb0, hbl, hbn, stepD, List.length_map]
 obtain ⟨⟨k1, k2⟩, ⟨o1, o2⟩, hc, hc0⟩ := preE_0 hp
 have hcn := pre_tame hg.tame hp
 obtain ⟨kind, on, cnt, deep⟩ := y
 simp only at k1 k2 o1 o2 hc hc0 hcn ⊢
 unfold mostE at o2
 obtain ⟨p, rfl⟩ : ∃ p : Nat, on = p := ⟨on.toNat, by omega⟩
 have hp0 : (0 : Int) ≤ p := Int.natCast_nonneg p
 have hk5 : kind = 1 ∨ kind = 2 ∨ kind = 3 ∨ kind = 4 ∨ kind = 5 := by omega
 have ht := sum_tame hg hfr hLl p
 have hpl : (s.pools.map poolD).length = s.pools.length := by simp
 have hcl : (s.classes.map clsD).length = s.classes.length := by simp
 rcases hk5 with rfl | rfl | rfl | rfl | rfl
 ·have hqp : (p : Int) < s.pools.length := by simpa using o2
  have hqp2 : p < s.pools.length := by omega
  have hpn : D.nth (s.pools.map poolD) p = poolD (s.pools.getD p default) := D.nth_map hqp2
  have hpk := hg.pool (s.pools.getD p default) (by rw [List.getD_eq_getElem?_getD, List.getElem?_eq_getElem hqp2]; exact List.getElem_mem _)
  unfold PPool.bad at hpk
  have htU := ht.1
  rw [posB_1]
  simp only [go_sem, Int.reduceEq, Int.reduceLT, Int.reduceLE, eq_self, Int.natCast_nonneg, Int.toNat_natCast, hqp, hqp2, hp0, hpn, hpl, poolD]
  refine sem_draw (pf := [54, 55, 56]) (Γ := tbl tabRP4) mixed tabRP4_ok pureRP4 [0, 1, 2, 3, 4, 5, 6, 7, 8] (by kernel_rfl) ?_
  simp only [go_sem, Int.reduceEq, Int.reduceLT, Int.reduceLE, eq_self, Int.natCast_nonneg, Int.toNat_natCast, chainI]
  refine call_data hdR (by simp) [sysD s, stD x, .int .i64 p] _ rfl ⟨s, x, p, rfl, hg, hx, hfr, rfl⟩ (.inl rfl) ?_
  generalize s.pools.getD p default = pk at hpn hpk ⊢
  generalize sumI (frU s p) (frames x) = U at htU ⊢
  cases deep with
  | true =>
   have hv : (true && decide (0 ≤ pk.size - U - cnt) || decide (pk.res ≤ pk.size - U - cnt)) = decide (cnt ≤ pk.size - U) := by
    rw [Bool.true_and, Bool.eq_iff_iff, Bool.or_eq_true, decide_eq_true_eq, decide_eq_true_eq, decide_eq_true_eq]; omega
   rw [hv]
   simp only [go_sem, Int.reduceEq, Int.reduceLT, Int.reduceLE, eq_self, Int.natCast_nonneg, Int.toNat_natCast, chainI]
   refine ⟨inR_i64.2 (by omega), ?_⟩
   exact post_data (.inl rfl) [6] rfl trivial rfl
  | false =>
   have hv : (false && decide (0 ≤ pk.size - U - cnt) || decide (pk.res ≤ pk.size - U - cnt)) = decide (cnt + pk.res ≤ pk.size - U) := by
    rw [Bool.false_and, Bool.false_or, Bool.eq_iff_iff, decide_eq_true_eq, decide_eq_true_eq]; omega
   rw [hv]
   simp only [go_sem, Int.reduceEq, Int.reduceLT, Int.reduceLE, eq_self, Int.natCast_nonneg, Int.toNat_natCast, chainI]
   refine ⟨inR_i64.2 (by omega), inR_i64.2 (by omega), ?_⟩
   exact post_data (.inl rfl) [6] rfl trivial rfl
 ·rw [posB_2]
  simp only [go_sem, Int.reduceEq, Int.reduceLT, Int.reduceLE, eq_self, Int.natCast_nonneg, Int.toNat_natCast]
  exact post_data (.inl rfl) [6] rfl trivial rfl
 ·have hqp2 : p < s.locks.length := by have : (p : Int) < s.locks.length := (by simpa using o2); omega
  rw [posB_3]
  simp only [go_sem, Int.reduceEq, Int.reduceLT, Int.reduceLE, eq_self, Int.natCast_nonneg, Int.toNat_natCast]
  refine call_data hsR (by simp) [sysD s, stD x, .int .i64 p] _ rfl ⟨s, x, p, rfl, hqp2, hg, hx, hfr, rfl⟩ (.inl rfl) ?_
  simp only [go_sem, Int.reduceEq, Int.reduceLT, Int.reduceLE, eq_self, Int.natCast_nonneg, Int.toNat_natCast]
  exact post_data (.inl rfl) [6] rfl trivial rfl
 ·rw [posB_4]
  simp only [go_sem, Int.reduceEq, Int.reduceLT, Int.reduceLE, eq_self, Int.natCast_nonneg, Int.toNat_natCast]
  exact post_data (.inl rfl) [6] rfl trivial rfl
 ·have hqp : (p : Int) < s.classes.length := by simpa using o2
  have hqp2 : p < s.classes.length := by omega
  have hcn2 : D.nth (s.classes.map clsD) p = clsD (s.classes.getD p default) := D.nth_map hqp2
  rw [posB_5]
  simp only [go_sem, Int.reduceEq, Int.reduceLT, Int.reduceLE, eq_self, Int.natCast_nonneg, Int.toNat_natCast]
  refine sem_draw (pf := [54, 55, 56]) (Γ := tbl tabRP4) mixed tabRP4_ok pureRP4 [0, 1, 2, 3, 4, 5, 6, 7, 8, 9, 10, 11, 12, 13] (by kernel_rfl) ?_
  simp only [go_sem, Int.reduceEq, Int.reduceLT, Int.reduceLE, eq_self, Int.natCast_nonneg, Int.toNat_natCast, chainI]
  refine call_data egR (by simp) [sysD s, stD x, .int .i64 p] _ rfl ⟨s, x, p, rfl, hqp2, hg, hx, hfr, rfl⟩ (.inl rfl) ?_
  simp only [go_sem, Int.reduceEq, Int.reduceLT, Int.reduceLE, eq_self, Int.natCast_nonneg, Int.toNat_natCast, chainI, hqp, hqp2, hp0, hcn2, hcl, clsD]
  exact post_data (.inl rfl) [6] rfl trivial rfl

abbrev tabRA4 : List (Nat × Contract) := [(16, dataC stErrR), (54, dataC hdR)]
theorem tabRA4_ok : OkG Try.prog (tbl tabRA4) := okG_cons rCheck44_ok (okG_cons rheld_ok44 okG_nil)
theorem pureRA4 : PureFns (tbl tabRA4) [54] := by
 refine pure_of2 fun g C hm hg => ?_
 simp only [List.mem_cons, List.not_mem_nil, or_false, Prod.mk.injEq] at hm
 rcases hm with ⟨_, rfl⟩ | ⟨_, rfl⟩ <;> exact .inl ⟨_, rfl⟩
theorem rAvailable_ok : OkF Try.prog 34 (dataC availR) := by
 refine okF_data Try.func34 rfl (by decide) ?_
 rintro ds v ⟨s, x, p, rfl, hf, hx, rfl⟩
 generalize hv : availN s x p = V
 unfold availN at hv
 have hnp := hf.small.np
 have hpl : (s.pools.map poolD).length = s.pools.length := by simp
 refine sem_of_awp (Γ := tbl tabRA4) tabRA4_ok _ _ _ ?_
 simp only [go_sem, Int.reduceEq, Int.reduceLT, Int.reduceLE, eq_self, Int.natCast_nonneg, Int.toNat_natCast, Try.ntmps34, sysD, stD]
 refine call_data stErrR (by simp) [sysD s, stD x] _ rfl ⟨s, x, rfl, hf, hx, rfl⟩ (.inl rfl) ?_
 by_cases he : stErr s x = 0
 case neg =>
  rw [if_pos he] at hv
  subst hv
  simp only [go_sem, Int.reduceEq, Int.reduceLT, Int.reduceLE, eq_self, Int.natCast_nonneg, Int.toNat_natCast, he]
  exact post_data (.inl rfl) [6] rfl trivial rfl
 rw [if_neg (by rw [he]; decide)] at hv
 have hV := valid_of he
 by_cases h1 : p < 0
 ·rw [if_pos (.inl h1)] at hv
  subst hv
  simp only [go_sem, Int.reduceEq, Int.reduceLT, Int.reduceLE, eq_self, Int.natCast_nonneg, Int.toNat_natCast, he, h1]
  exact post_data (.inl rfl) [6] rfl trivial rfl
 by_cases h2 : (s.pools.length : Int) ≤ p
 ·rw [if_pos (.inr h2)] at hv
  subst hv
  simp only [go_sem, Int.reduceEq, Int.reduceLT, Int.reduceLE, eq_self, Int.natCast_nonneg, Int.toNat_natCast, he, h1, h2, hpl]
  exact post_data (.inl rfl) [6] rfl trivial rfl
 rw [if_neg (by omega)] at hv
 obtain ⟨q, rfl⟩ : ∃ q : Nat, p = q := ⟨p.toNat, by omega⟩
 rw [Int.toNat_natCast] at hv
 subst hv
 have hq : q < s.pools.length := by omega
 have hq1 : (q : Int) < s.pools.length := by omega
 have hq0 : (0 : Int) ≤ q := by omega
 have hL := hV.frames
 have hLl := frames_len hx
 have ht := (sum_tame hV.good hL hLl q).1
 have hpn : D.nth (s.pools.map poolD) q = poolD (s.pools.getD q default) := D.nth_map hq
 have hpk := hV.good.pool (s.pools.getD q default) (by rw [List.getD_eq_getElem?_getD, List.getElem?_eq_getElem hq]; exact List.getElem_mem _)
 unfold PPool.bad at hpk
 simp only [go_sem, Int.reduceEq, Int.reduceLT, Int.reduceLE, eq_self, Int.natCast_nonneg, Int.toNat_natCast, he, h1, h2, hpl]
 refine sem_draw (pf := [54]) (Γ := tbl tabRA4) mixed tabRA4_ok pureRA4 [0, 1, 2, 3, 4, 5, 6, 7, 8, 9, 10, 11] (by kernel_rfl) ?_
 simp only [go_sem, Int.reduceEq, Int.reduceLT, Int.reduceLE, eq_self, Int.natCast_nonneg, Int.toNat_natCast, chainI, hq, hq1, hq0, hpl, hpn, poolD]
 refine call_data hdR (by simp) [sysD s, stD x, .int .i64 q] _ rfl ⟨s, x, q, rfl, hV.good, hx, hL, rfl⟩ (.inl rfl) ?_
 simp only [go_sem, Int.reduceEq, Int.reduceLT, Int.reduceLE, eq_self, Int.natCast_nonneg, Int.toNat_natCast, chainI]
 refine ⟨inR_i64.2 (by omega), ?_⟩
 exact post_data (.inl rfl) [6] rfl trivial rfl

abbrev tabRN4 : List (Nat × Contract) := [(16, dataC stErrR), (44, dataC rposR)]
theorem tabRN4_ok : OkG Try.prog (tbl tabRN4) := okG_cons rCheck44_ok (okG_cons rpossible_ok okG_nil)
theorem rEnabled_ok : OkF Try.prog 20 (dataC enabR) := by
 refine okF_data Try.func20 rfl (by decide) ?_
 rintro ds v ⟨s, x, rfl, hf, hx, rfl⟩
 generalize hv : enabL s x = V
 unfold enabL at hv
 have hxl2 : (stacksD x).length = x.length := by simp
 refine sem_of_awpK [4] (Γ := tbl tabRN4) tabRN4_ok _ _ _ ?_
 simp only [go_sem, Int.reduceEq, Int.reduceLT, Int.reduceLE, eq_self, Int.natCast_nonneg, Int.toNat_natCast, Try.ntmps20, sysD, stD]
 refine call_data stErrR (by simp) [sysD s, stD x] _ rfl ⟨s, x, rfl, hf, hx, rfl⟩ (.inl rfl) ?_
 by_cases he : stErr s x = 0
 case neg =>
  rw [if_pos he] at hv
  subst hv
  simp only [go_sem, Int.reduceEq, Int.reduceLT, Int.reduceLE, eq_self, Int.natCast_nonneg, Int.toNat_natCast, he]
  refine post_res (.inl rfl) [.tmp 4] rfl ?_
  simp only [go_sem]
  exact le_fin (by simp only [go_sem]) (by simp only [go_sem])
 rw [if_neg (by rw [he]; decide)] at hv
 subst hv
 have hV := valid_of he
 have hx24 := hV.l24
 simp only [go_sem, Int.reduceEq, Int.reduceLT, Int.reduceLE, eq_self, Int.natCast_nonneg, Int.toNat_natCast, he]
 refine sem_le (le_addnil 5 none rfl (Nat.zero_le _)) ?_
 refine sem_of_awp (Γ := tbl tabRN4) tabRN4_ok _ _ _ ?_
 simp only [go_sem, Int.reduceEq, Int.reduceLT, Int.reduceLE, eq_self, Int.natCast_nonneg, Int.toNat_natCast]
 refine sem_loop (fun k : Nat => ⟨slotsOf 28 [(2, .ptr 0 0 0), (3, .ptr 1 0 0), (5, .sl 2 0 ((List.range k).filter (ableB s x)).length), (6, .dat (.int .i64 k))], [sysO s, stO x, .row none (natsD ((List.range k).filter (ableB s x)))], 0, []⟩)
  (fun k => k ≤ x.length) (fun k => x.length - k) 0 (Nat.zero_le _) ?_ ?_
 ·exact le_slots' (by simp only [go_sem, Int.natCast_zero, List.range_zero, List.filter_nil, List.length_nil])
 rintro k hk
 rcases Nat.lt_or_ge k x.length with hlt | hge
 ·have hk2 : (k : Int) < x.length := by omega
  have hk0 : (0 : Int) ≤ k := Int.natCast_nonneg k
  have hal := able_len s x k
  refine sem_of_awp (Γ := tbl tabRN4) tabRN4_ok _ _ _ ?_
  simp only [go_sem, Int.reduceEq, Int.reduceLT, Int.reduceLE, eq_self, Int.natCast_nonneg, Int.toNat_natCast, hk2, hxl2]
  refine call_data rposR (by simp) [sysD s, stD x, .int .i64 k] _ rfl ⟨s, x, k, rfl, hV, hx, hlt, rfl⟩ (.inl rfl) ?_
  cases hb : ableB s x k with
  | false =>
   have hr : (List.range (k + 1)).filter (ableB s x) = (List.range k).filter (ableB s x) := by rw [List.range_succ, List.filter_append]; simp [hb]
   simp only [go_sem, Int.reduceEq, Int.reduceLT, Int.reduceLE, eq_self, Int.natCast_nonneg, Int.toNat_natCast]
   refine ⟨inR_i64.2 (by omega), k + 1, by omega, by omega, ?_⟩
   rw [hr]
   exact le_slots' (by simp only [go_sem, Int.natCast_add, Int.cast_ofNat_Int])
  | true =>
   have hr : (List.range (k + 1)).filter (ableB s x) = (List.range k).filter (ableB s x) ++ [k] := by rw [List.range_succ, List.filter_append]; simp [hb]
   generalize (List.range k).filter (ableB s x) = A at *
   simp only [go_sem, Int.reduceEq, Int.reduceLT, Int.reduceLE, eq_self, Int.natCast_nonneg, Int.toNat_natCast, nats_len, nats_take, Nat.le_refl, List.take_length]
   refine ⟨by omega, by omega, inR_i64.2 (by omega), k + 1, by omega, by omega, ?_⟩
   rw [hr, show natsD (A ++ [k]) = natsD A ++ [D.int .i64 k] from by simp, List.length_append]
   refine le_end (own := [_, _, _]) (ex := [_]) (Nat.zero_le _) ?_ ?_ ?_
   ·simp only [go_sem, Int.natCast_add, Int.cast_ofNat_Int, List.length_append]
   ·simp only [go_sem, natsD, List.map_append]
   ·simp only [go_sem, Obj.under, AV.unders, AV.under]
 ·obtain rfl : k = x.length := by omega
  have hk2 : ¬ (x.length : Int) < x.length := by omega
  have hA : (List.range x.length).filter (ableB s x) = ableL s x := rfl
  rw [hA]
  refine sem_le (le_freeze 2 (ag := none) rfl (Nat.zero_le _)) ?_
  refine sem_of_awp (Γ := tbl tabRN4) tabRN4_ok _ _ _ ?_
  simp only [go_sem, Int.reduceEq, Int.reduceLT, Int.reduceLE, eq_self, Int.natCast_nonneg, Int.toNat_natCast, hk2, hxl2, nats_take, nats_len, List.drop_zero, Nat.le_refl]
  exact post_data (.inl rfl) [4] rfl trivial rfl
end Go.AM

set_option maxRecDepth 8000
set_option maxHeartbeats 4000000
namespace Go.AM
open Go Go.Proofs

def FrFit (x : PSt) : Prop := ∀ f ∈ frames x, inR .i64 f.c ∧ inR .i64 f.a
theorem eqOk_F : eqOk Try.prog 58 (.dat (.agg [.int .i64 0, .int .i64 0])) (.dat (.agg [.int .i64 0, .int .i64 0])) = true := by kernel_rfl
theorem nums_fr {f : PFr} (h : inR .i64 f.c ∧ inR .i64 f.a) : numsD [.int .i64 f.c, .int .i64 f.a] [.int .i64 0, .int .i64 0] := ⟨rfl, h.1, rfl, h.2, trivial⟩
theorem bin_neqF {f : PFr} (h : inR .i64 f.c ∧ inR .i64 f.a) {K : AV → Prop} : binTop Try.prog .neq 58 (.dat (.agg [.int .i64 f.c, .int .i64 f.a])) (.dat (.agg [.int .i64 f.c, .int .i64 f.a])) K = K (.dat (.bool false)) := by
 rw [bin_neq_agg eqOk_F (nums_fr h) (nums_fr h), flatEqs_refl (nums_fr h)]
 rfl
def sameXR (ds : List D) (v : AV) : Prop := ∃ x : PSt, ds = [stD x, stD x] ∧ PStFit x ∧ FrFit x ∧ v = .dat (.bool true)
theorem rSame44_ok : OkF Try.prog 17 (dataC sameXR) := by
 refine okF_data Try.func17 rfl (by decide) ?_
 rintro ds v ⟨x, rfl, hx, hff, rfl⟩
 have hxl := hx.len
 have hxl2 : (stacksD x).length = x.length := by simp
 refine sem_of_awp (Γ := tbl []) okG_nil _ _ _ ?_
 simp only [go_sem, Int.reduceEq, Int.reduceLT, Int.reduceLE, eq_self, Int.natCast_nonneg, Int.toNat_natCast, Try.ntmps17, stD, hxl2, decide_true, Bool.not_true]
 refine sem_loop (fun k : Nat => ⟨slotsOf 61 [(2, .ptr 0 0 0), (3, .ptr 1 0 0), (4, .dat (.bool false)), (5, .dat (.int .i64 k))], [stO x, stO x], 0, []⟩)
  (fun k => k ≤ x.length) (fun k => x.length - k) 0 (Nat.zero_le _) ?_ ?_
 ·exact le_slots' (by simp only [go_sem, Int.natCast_zero])
 rintro k hk
 refine sem_of_awp (Γ := tbl []) okG_nil _ _ _ ?_
 cases hd : x.drop k with
 | nil =>
  obtain rfl : k = x.length := end_of_drop hd hk
  have hk2 : ¬ (x.length : Int) < x.length := by omega
  simp only [go_sem, Int.reduceEq, Int.reduceLT, Int.reduceLE, eq_self, Int.natCast_nonneg, Int.toNat_natCast, hk2, hxl2]
  exact post_data (.inl rfl) [4] rfl trivial rfl
 | cons l r =>
 have hlt := lt_of_drop hd
 have hk2 : (k : Int) < x.length := by omega
 have hk0 : (0 : Int) ≤ k := Int.natCast_nonneg k
 have hn := nth_of_drop (f := stackD) hd
 have hll := hx.stk l (mem_of_drop hd)
 have hfl : (frsD l).length = l.length := by simp
 simp only [go_sem, Int.reduceEq, Int.reduceLT, Int.reduceLE, eq_self, Int.natCast_nonneg, Int.toNat_natCast, hk2, hxl2]
 refine sem_draw (pf := []) (Γ := tbl []) mixed okG_nil pureNo [0, 1, 2, 3, 4, 5, 6, 7, 8, 9, 10, 11, 12] (by kernel_rfl) ?_
 simp only [go_sem, Int.reduceEq, Int.reduceLT, Int.reduceLE, eq_self, Int.natCast_nonneg, Int.toNat_natCast, chainI, hk2, hk0, hlt, hn, hxl2, stackD, hfl, decide_true, Bool.not_true]
 refine sem_loop (fun j : Nat => ⟨slotsOf 61 [(2, .ptr 0 0 0), (3, .ptr 1 0 0), (4, .dat (.bool false)), (5, .dat (.int .i64 k)), (6, .dat (.int .i64 j))], [stO x, stO x], 0, []⟩)
  (fun j => j ≤ l.length) (fun j => l.length - j) 0 (Nat.zero_le _) ?_ ?_
 ·exact le_slots' (by simp only [go_sem, Int.natCast_zero])
 rintro j hj
 refine sem_of_awp (Γ := tbl []) okG_nil _ _ _ ?_
 cases hd2 : l.drop j with
 | nil =>
  obtain rfl : j = l.length := end_of_drop hd2 hj
  have hj2 : ¬ (l.length : Int) < l.length := by omega
  simp only [go_sem, Int.reduceEq, Int.reduceLT, Int.reduceLE, eq_self, Int.natCast_nonneg, Int.toNat_natCast, hk2, hk0, hlt, hn, hxl2, stackD, hfl, hj2]
  refine ⟨inR_i64.2 (by omega), k + 1, by omega, by omega, ?_⟩
  exact le_slots' (by simp only [go_sem, Int.natCast_add, Int.cast_ofNat_Int])
 | cons f r2 =>
 have hlt2 := lt_of_drop hd2
 have hj2 : (j : Int) < l.length := by omega
 have hj0 : (0 : Int) ≤ j := Int.natCast_nonneg j
 have hn2 := nth_of_drop (f := frD) hd2
 have hb := fun K => bin_neqF (K := K) (hff f (List.mem_flatten.2 ⟨l, mem_of_drop hd, mem_of_drop hd2⟩))
 simp only [go_sem, Int.reduceEq, Int.reduceLT, Int.reduceLE, eq_self, Int.natCast_nonneg, Int.toNat_natCast, hk2, hk0, hlt, hn, hxl2, stackD, hfl, hj2, hj0]
 refine sem_draw (pf := []) (Γ := tbl []) mixed okG_nil pureNo [0, 1, 2, 3, 4, 5, 6, 7, 8, 9, 10, 11, 12, 13, 14, 15, 16] (by kernel_rfl) ?_
 simp only [go_sem, Int.reduceEq, Int.reduceLT, Int.reduceLE, eq_self, Int.natCast_nonneg, Int.toNat_natCast, chainI, hk2, hk0, hlt, hn, hxl2, stackD, hfl, hj2, hj0, hlt2, hn2, frD, hb]
 refine ⟨inR_i64.2 (by omega), j + 1, by omega, by omega, ?_⟩
 exact le_slots' (by simp only [go_sem, Int.natCast_add, Int.cast_ofNat_Int])

def copyXR (ds : List D) (v : AV) (ob : List Obj) : Prop := ∃ (x : PSt) (w : Nat), ds = [stD x] ∧ w < x.length ∧ PStFit x ∧ v = .agg [.sl 0 0 x.length] ∧ ob = [.vec (((stacksD x).map .dat).set w (.sl 1 0 (x.getD w []).length)), .row (some 2) (frsD (x.getD w []))]
theorem rens_dats (f : Nat → Nat) : ∀ xs : List D, AV.rens f (xs.map .dat) = xs.map .dat
 | [] => rfl
 | x :: xs => by rw [List.map_cons, AV.rens, rens_dats f xs]; rfl
theorem rens_set (f : Nat → Nat) {v : AV} : ∀ (l : List AV) (i : Nat), AV.rens f (l.set i v) = (AV.rens f l).set i (v.ren f)
 | [], _ => rfl
 | a :: l, 0 => rfl
 | a :: l, i + 1 => by simp only [List.set_cons_succ, AV.rens, rens_set f l i]
theorem take_snocD {x : PSt} {k : Nat} {l : List PFr} {r : PSt} (hd : x.drop k = l :: r) : (stacksD (x.take (k + 1))).map AV.dat = (stacksD (x.take k)).map AV.dat ++ [.dat (.sl (some 2) (frsD l))] := by
 rw [take_of_drop hd, stacksD, List.map_append, List.map_append]; rfl
theorem rCopy44_ok : OkF Try.prog 72 (madeC copyXR) := by
 refine okF_made Try.func72 rfl (by decide) ?_
 rintro ds v ob ⟨x, w, rfl, hw, hx, rfl, rfl⟩
 have hxl := hx.len
 have hxl2 : (stacksD x).length = x.length := by simp
 refine sem_of_awp (Γ := tbl []) okG_nil _ _ _ ?_
 simp only [go_sem, Int.reduceEq, Int.reduceLT, Int.reduceLE, eq_self, Int.natCast_nonneg, Int.toNat_natCast, Try.ntmps72, stD]
 refine sem_le (le_addnilV 2 0 rfl rfl (Nat.zero_le _)) ?_
 generalize hlw : x.getD w [] = lw at *
 let own := fun k : Nat => if k ≤ w then ([stO x, .box [.nils], .box [.sl 3 0 k], .vec ((stacksD (x.take k)).map .dat)] : List Obj) else [stO x, .box [.nils], .box [.sl 3 0 k], .vec (((stacksD (x.take k)).map .dat).set w (.sl 4 0 lw.length)), .row (some 2) (frsD lw)]
 refine sem_loop (fun k : Nat => ⟨slotsOf 43 [(1, .ptr 0 0 0), (2, .ptr 1 0 0), (3, .ptr 2 0 0), (4, .dat (.int .i64 k))], own k, 0, []⟩)
  (fun k => k ≤ x.length) (fun k => x.length - k) 0 (Nat.zero_le _) ?_ ?_
 ·simp only [own, if_pos (Nat.zero_le w)]
  exact le_slots' (by simp only [go_sem, Int.natCast_zero])
 rintro k hk
 cases hd : x.drop k with
 | nil =>
  obtain rfl : k = x.length := end_of_drop hd hk
  have hk2 : ¬ (x.length : Int) < x.length := by omega
  simp only [own, if_neg (show ¬ x.length ≤ w by omega), List.take_length]
  refine sem_of_awp (Γ := tbl []) okG_nil _ _ _ ?_
  simp only [go_sem, Int.reduceEq, Int.reduceLT, Int.reduceLE, eq_self, Int.natCast_nonneg, Int.toNat_natCast, hk2, hxl2]
  refine post_resO (.inl rfl) [.cell 2 29] rfl (fun _ h => h) ?_
  simp only [go_sem]
  refine Le.trans (le_pm (s' := [.agg [.sl 0 0 x.length]]) (own' := [.vec (((stacksD x).map .dat).set w (.sl 1 0 lw.length)), .row (some 2) (frsD lw), stO x, .box [.sl 0 0 x.length], .box [.sl 0 0 x.length]]) [2, 3, 4, 0, 1] [3, 4, 0, 1, 2] (by decide) rfl rfl (by
   have hre : AV.rens (pm [2, 3, 4, 0, 1]) (((stacksD x).map AV.dat).set w (.sl 4 0 lw.length)) = ((stacksD x).map AV.dat).set w (.sl 1 0 lw.length) := by rw [rens_set, rens_dats]; rfl
   rw [← hre]; rfl)) ?_
  refine le_end (own := [_, _]) (ex := [_, _, _]) (Nat.zero_le _) ?_ ?_ ?_
  ·simp only [go_sem]
  ·simp only [go_sem, AV.unders, AV.under]
  ·simp only [go_sem, Obj.under, AV.unders, AV.under]
   exact unders_set (by rw [unders_dats]; trivial) (by simp [AV.under])
 | cons l r =>
 have hlt := lt_of_drop hd
 have hk2 : (k : Int) < x.length := by omega
 have hk0 : (0 : Int) ≤ k := Int.natCast_nonneg k
 have hn := nth_of_drop (f := stackD) hd
 have hll := hx.stk l (mem_of_drop hd)
 have hgl : x.getD k [] = l := getD_of_drop hd
 have hfl : (frsD l).length = l.length := by simp
 have hsn := take_snocD hd
 have htk : (x.take k).length = k := by rw [List.length_take]; omega
 have hdl : (stacksD (x.take k)).length = k := by rw [List.length_map, htk]
 have hdl2 : ((stacksD (x.take k)).map AV.dat).length = k := by rw [List.length_map, hdl]
 have htD : List.take k ((stacksD (x.take k)).map AV.dat) = (stacksD (x.take k)).map AV.dat := take_dats hdl
 have htll : List.take l.length (frsD l) = frsD l := List.take_of_length_le (by simp)
 have htD2 : ∀ v : AV, List.take k (((stacksD (x.take k)).map AV.dat).set w v) = ((stacksD (x.take k)).map AV.dat).set w v := fun v => List.take_of_length_le (by rw [List.length_set, hdl2]; exact Nat.le_refl _)
 rcases Nat.lt_trichotomy k w with hkw | rfl | hkw
 ·simp only [own, if_pos (show k ≤ w by omega)]
  refine sem_of_awpK [6] (Γ := tbl []) okG_nil _ _ _ ?_
  simp only [go_sem, Int.reduceEq, Int.reduceLT, Int.reduceLE, eq_self, Int.natCast_nonneg, Int.toNat_natCast, hk2, hxl2]
  refine sem_le (le_addnil 5 (some 2) rfl (Nat.zero_le _)) ?_
  refine sem_of_awp (Γ := tbl []) okG_nil _ _ _ ?_
  simp only [go_sem, Int.reduceEq, Int.reduceLT, Int.reduceLE, eq_self, Int.natCast_nonneg, Int.toNat_natCast]
  refine sem_loop (fun j : Nat => ⟨slotsOf 43 [(1, .ptr 0 0 0), (2, .ptr 1 0 0), (3, .ptr 2 0 0), (4, .dat (.int .i64 k)), (5, .sl 4 0 j), (6, .dat (.int .i64 j))], [stO x, .box [.nils], .box [.sl 3 0 k], .vec ((stacksD (x.take k)).map .dat), .row (some 2) (frsD (l.take j))], 0, []⟩)
   (fun j => j ≤ l.length) (fun j => l.length - j) 0 (Nat.zero_le _) ?_ ?_
  ·exact le_slots' (by simp only [go_sem, Int.natCast_zero])
  rintro j hj
  refine sem_of_awp (Γ := tbl []) okG_nil _ _ _ ?_
  rcases Nat.lt_or_ge j l.length with hlt2 | hge
  ·obtain ⟨f, r2, hd2⟩ : ∃ f r2, l.drop j = f :: r2 := ⟨l[j], _, List.drop_eq_getElem_cons hlt2⟩
   have hj2 : (j : Int) < l.length := by omega
   have hj0 : (0 : Int) ≤ j := Int.natCast_nonneg j
   have hn2 := nth_of_drop (f := frD) hd2
   have htl : (frsD (l.take j)).length = j := by rw [List.length_map, List.length_take]; omega
   have htl2 : (l.take j).length = j := by rw [List.length_take]; omega
   have htt : List.take j (frsD (l.take j)) = frsD (l.take j) := List.take_of_length_le (by omega)
   have hsn2 : frsD (l.take (j + 1)) = frsD (l.take j) ++ [frD f] := by rw [take_of_drop hd2]; simp
   simp only [go_sem, Int.reduceEq, Int.reduceLT, Int.reduceLE, eq_self, Int.natCast_nonneg, Int.toNat_natCast, hk2, hk0, hlt, hn, hxl2, stackD, hfl, hj2, hj0, hlt2, hn2, frD, htl, htl2, htt, kills_dats, kills_put, AV.kill, Nat.reduceEqDiff, if_false, reduceCtorEq]
   refine ⟨by omega, by omega, inR_i64.2 (by omega), j + 1, by omega, by omega, ?_⟩
   rw [hsn2]
   refine le_end (own := [_, _, _, _, _]) (ex := [_]) (Nat.zero_le _) ?_ ?_ ?_
   ·simp only [go_sem, Int.natCast_add, Int.cast_ofNat_Int]
   ·simp only [go_sem, frD]
   ·simp only [go_sem, Obj.under, AV.unders, AV.under]
  ·obtain rfl : j = l.length := by omega
   have hj2 : ¬ (l.length : Int) < l.length := by omega
   rw [List.take_length]
   simp only [go_sem, Int.reduceEq, Int.reduceLT, Int.reduceLE, eq_self, Int.natCast_nonneg, Int.toNat_natCast, hk2, hk0, hlt, hn, hxl2, stackD, hfl, hj2, htk, hdl, htD, kills_app, kills_dats, kills_put, AV.kill, AV.kills, Nat.reduceEqDiff, if_false]
   refine ⟨by omega, by omega, inR_i64.2 (by omega), k + 1, by omega, by omega, ?_⟩
   simp only [if_pos (show k + 1 ≤ w by omega)]
   refine Le.trans (le_freeze 4 (ag := some 2) rfl (Nat.zero_le _)) ?_
   rw [hsn]
   simp only [go_sem, frzs_app, htll]
   refine le_end (own := [_, _, _, _]) (ex := [_, _]) (Nat.zero_le _) ?_ ?_ ?_
   ·simp only [go_sem, Int.natCast_add, Int.cast_ofNat_Int]
   ·simp only [go_sem]
   ·simp only [go_sem, Obj.under, AV.unders, AV.under]
    exact unders_app (by rw [unders_dats]; trivial) (by simp only [AV.unders, AV.under, and_self])
 ·simp only [own, if_pos (Nat.le_refl k)]
  refine sem_of_awpK [6] (Γ := tbl []) okG_nil _ _ _ ?_
  simp only [go_sem, Int.reduceEq, Int.reduceLT, Int.reduceLE, eq_self, Int.natCast_nonneg, Int.toNat_natCast, hk2, hxl2]
  refine sem_le (le_addnil 5 (some 2) rfl (Nat.zero_le _)) ?_
  refine sem_of_awp (Γ := tbl []) okG_nil _ _ _ ?_
  simp only [go_sem, Int.reduceEq, Int.reduceLT, Int.reduceLE, eq_self, Int.natCast_nonneg, Int.toNat_natCast]
  refine sem_loop (fun j : Nat => ⟨slotsOf 43 [(1, .ptr 0 0 0), (2, .ptr 1 0 0), (3, .ptr 2 0 0), (4, .dat (.int .i64 k)), (5, .sl 4 0 j), (6, .dat (.int .i64 j))], [stO x, .box [.nils], .box [.sl 3 0 k], .vec ((stacksD (x.take k)).map .dat), .row (some 2) (frsD (l.take j))], 0, []⟩)
   (fun j => j ≤ l.length) (fun j => l.length - j) 0 (Nat.zero_le _) ?_ ?_
  ·exact le_slots' (by simp only [go_sem, Int.natCast_zero])
  rintro j hj
  refine sem_of_awp (Γ := tbl []) okG_nil _ _ _ ?_
  rcases Nat.lt_or_ge j l.length with hlt2 | hge
  ·obtain ⟨f, r2, hd2⟩ : ∃ f r2, l.drop j = f :: r2 := ⟨l[j], _, List.drop_eq_getElem_cons hlt2⟩
   have hj2 : (j : Int) < l.length := by omega
   have hj0 : (0 : Int) ≤ j := Int.natCast_nonneg j
   have hn2 := nth_of_drop (f := frD) hd2
   have htl : (frsD (l.take j)).length = j := by rw [List.length_map, List.length_take]; omega
   have htl2 : (l.take j).length = j := by rw [List.length_take]; omega
   have htt : List.take j (frsD (l.take j)) = frsD (l.take j) := List.take_of_length_le (by omega)
   have hsn2 : frsD (l.take (j + 1)) = frsD (l.take j) ++ [frD f] := by rw [take_of_drop hd2]; simp
   simp only [go_sem, Int.reduceEq, Int.reduceLT, Int.reduceLE, eq_self, Int.natCast_nonneg, Int.toNat_natCast, hk2, hk0, hlt, hn, hxl2, stackD, hfl, hj2, hj0, hlt2, hn2, frD, htl, htl2, htt, kills_dats, kills_put, AV.kill, Nat.reduceEqDiff, if_false, reduceCtorEq]
   refine ⟨by omega, by omega, inR_i64.2 (by omega), j + 1, by omega, by omega, ?_⟩
   rw [hsn2]
   refine le_end (own := [_, _, _, _, _]) (ex := [_]) (Nat.zero_le _) ?_ ?_ ?_
   ·simp only [go_sem, Int.natCast_add, Int.cast_ofNat_Int]
   ·simp only [go_sem, frD]
   ·simp only [go_sem, Obj.under, AV.unders, AV.under]
  ·obtain rfl : j = l.length := by omega
   have hj2 : ¬ (l.length : Int) < l.length := by omega
   rw [List.take_length]
   simp only [go_sem, Int.reduceEq, Int.reduceLT, Int.reduceLE, eq_self, Int.natCast_nonneg, Int.toNat_natCast, hk2, hk0, hlt, hn, hxl2, stackD, hfl, hj2, htk, hdl, htD, kills_app, kills_dats, kills_put, AV.kill, AV.kills, Nat.reduceEqDiff, if_false]
   refine ⟨by omega, by omega, inR_i64.2 (by omega), k + 1, by omega, by omega, ?_⟩
   simp only [if_neg (show ¬ k + 1 ≤ k by omega)]
   have hst : ((stacksD (x.take (k + 1))).map AV.dat).set k (.sl 4 0 lw.length) = (stacksD (x.take k)).map AV.dat ++ [.sl 4 0 l.length] := by
    rw [hsn, List.set_append_right _ _ (by rw [hdl2]; omega), hdl2, Nat.sub_self, ← hgl, hlw]; rfl
   rw [hst, ← hgl, hlw]
   refine le_end (own := [_, _, _, _, _]) (ex := [_]) (Nat.zero_le _) ?_ ?_ ?_
   ·simp only [go_sem, Int.natCast_add, Int.cast_ofNat_Int]
   ·simp only [go_sem]
   ·simp only [go_sem, Obj.under, AV.unders, AV.under]
    exact unders_app (by rw [unders_dats]; trivial) (by simp [AV.unders, AV.under])
 ·simp only [own, if_neg (show ¬ k ≤ w by omega)]
  refine sem_of_awpK [6] (Γ := tbl []) okG_nil _ _ _ ?_
  simp only [go_sem, Int.reduceEq, Int.reduceLT, Int.reduceLE, eq_self, Int.natCast_nonneg, Int.toNat_natCast, hk2, hxl2]
  refine sem_le (le_addnil 5 (some 2) rfl (Nat.zero_le _)) ?_
  refine sem_of_awp (Γ := tbl []) okG_nil _ _ _ ?_
  simp only [go_sem, Int.reduceEq, Int.reduceLT, Int.reduceLE, eq_self, Int.natCast_nonneg, Int.toNat_natCast]
  refine sem_loop (fun j : Nat => ⟨slotsOf 43 [(1, .ptr 0 0 0), (2, .ptr 1 0 0), (3, .ptr 2 0 0), (4, .dat (.int .i64 k)), (5, .sl 5 0 j), (6, .dat (.int .i64 j))], [stO x, .box [.nils], .box [.sl 3 0 k], .vec (((stacksD (x.take k)).map .dat).set w (.sl 4 0 lw.length)), .row (some 2) (frsD lw), .row (some 2) (frsD (l.take j))], 0, []⟩)
   (fun j => j ≤ l.length) (fun j => l.length - j) 0 (Nat.zero_le _) ?_ ?_
  ·exact le_slots' (by simp only [go_sem, Int.natCast_zero])
  rintro j hj
  refine sem_of_awp (Γ := tbl []) okG_nil _ _ _ ?_
  rcases Nat.lt_or_ge j l.length with hlt2 | hge
  ·obtain ⟨f, r2, hd2⟩ : ∃ f r2, l.drop j = f :: r2 := ⟨l[j], _, List.drop_eq_getElem_cons hlt2⟩
   have hj2 : (j : Int) < l.length := by omega
   have hj0 : (0 : Int) ≤ j := Int.natCast_nonneg j
   have hn2 := nth_of_drop (f := frD) hd2
   have htl : (frsD (l.take j)).length = j := by rw [List.length_map, List.length_take]; omega
   have htl2 : (l.take j).length = j := by rw [List.length_take]; omega
   have htt : List.take j (frsD (l.take j)) = frsD (l.take j) := List.take_of_length_le (by omega)
   have hsn2 : frsD (l.take (j + 1)) = frsD (l.take j) ++ [frD f] := by rw [take_of_drop hd2]; simp
   simp only [go_sem, Int.reduceEq, Int.reduceLT, Int.reduceLE, eq_self, Int.natCast_nonneg, Int.toNat_natCast, hk2, hk0, hlt, hn, hxl2, stackD, hfl, hj2, hj0, hlt2, hn2, frD, htl, htl2, htt, kills_dats, kills_put, AV.kill, Nat.reduceEqDiff, if_false, reduceCtorEq]
   refine ⟨by omega, by omega, inR_i64.2 (by omega), j + 1, by omega, by omega, ?_⟩
   rw [hsn2]
   refine le_end (own := [_, _, _, _, _, _]) (ex := [_]) (Nat.zero_le _) ?_ ?_ ?_
   ·simp only [go_sem, Int.natCast_add, Int.cast_ofNat_Int]
   ·simp only [go_sem, frD]
   ·simp only [go_sem, Obj.under, AV.unders, AV.under]
    exact unders_set (by rw [unders_dats]; trivial) (by simp only [AV.under]; omega)
  ·obtain rfl : j = l.length := by omega
   have hj2 : ¬ (l.length : Int) < l.length := by omega
   rw [List.take_length]
   simp only [go_sem, Int.reduceEq, Int.reduceLT, Int.reduceLE, eq_self, Int.natCast_nonneg, Int.toNat_natCast, hk2, hk0, hlt, hn, hxl2, stackD, hfl, hj2, htk, hdl, htD2, kills_app, kills_dats, kills_put, AV.kill, AV.kills, Nat.reduceEqDiff, if_false]
   refine ⟨by omega, by omega, inR_i64.2 (by omega), k + 1, by omega, by omega, ?_⟩
   simp only [if_neg (show ¬ k + 1 ≤ w by omega)]
   have hst : ((stacksD (x.take (k + 1))).map AV.dat).set w (.sl 4 0 lw.length) = ((stacksD (x.take k)).map AV.dat).set w (.sl 4 0 lw.length) ++ [.dat (.sl (some 2) (frsD l))] := by
    rw [hsn, List.set_append_left _ _ (by rw [hdl2]; omega)]
   rw [hst]
   refine Le.trans (le_freeze 5 (ag := some 2) rfl (Nat.zero_le _)) ?_
   simp only [go_sem, frzs_app, frzs_set, htll]
   refine le_end (own := [_, _, _, _, _]) (ex := [_, _]) (Nat.zero_le _) ?_ ?_ ?_
   ·simp only [go_sem, Int.natCast_add, Int.cast_ofNat_Int]
   ·simp only [go_sem]
   ·simp only [go_sem, Obj.under, AV.unders, AV.under]
    exact unders_app (unders_set (by rw [unders_dats]; trivial) (by simp only [AV.under]; omega)) (by simp only [AV.unders, AV.under, and_self])
end Go.AM

