/- Own work over the model of the kit. -/
import Derived.Test.YtaecpbaaadpfgaaD13
import Derived.Test.YtaecpbaaadpfgaaD12
import Derived.Test.YtaecpbaaadpfgaaD11
import Derived.Test.YtaecpbaaadpfgaaD10
set_option linter.unusedSimpArgs false
set_option linter.unusedVariables false
set_option maxHeartbeats 4000000
set_option maxRecDepth 8000
namespace Go.AM
open Go Go.Proofs
def namesE : List Str -> List Str -> Int
 | _, [] => 0
 | pre, x :: r => if isNm x = false then 3 else if x ∈ pre then 5 else namesE (pre ++ [x]) r
def PPool.bad (p : PPool) : Prop := p.size < 1 ∨ 8 < p.size ∨ p.res < 0 ∨ p.size < p.res
instance (p : PPool) : Decidable p.bad := by unfold PPool.bad; exact inferInstance
def poolsE : List PPool -> Int
 | [] => 0
 | p :: r => if p.bad then 2 else poolsE r
def clssE (s : PSys) : List PCls -> Int
 | [] => 0
 | c :: r => if classE s c ≠ 0 then classE s c else clssE s r
def thenE (a b : Int) : Int := if a ≠ 0 then a else b
def checkE (s : PSys) : Int :=
 if 6 < (s.pools.length : Int) ∨ 4 < (s.locks.length : Int) ∨ 6 < (s.classes.length : Int) then 9 else thenE (namesE [] (namesL s)) (thenE (poolsE s.pools) (clssE s s.classes))
theorem thenE_0 {b : Int} : thenE 0 b = b := by simp [thenE]
theorem thenE_n {a b : Int} (h : a ≠ 0) : thenE a b = a := by simp [thenE, h]
theorem poolsE_0 : ∀ {l : List PPool}, poolsE l = 0 -> ∀ p ∈ l, ¬ p.bad
 | [], _, p, hp => by simp at hp
 | q :: r, h, p, hp => by
  simp only [poolsE] at h
  split at h
  ·simp at h
  ·rename_i hb
   rcases List.mem_cons.1 hp with rfl | hp
   ·exact hb
   ·exact poolsE_0 h p hp
theorem thenE_eq0 {a b : Int} (h : thenE a b = 0) : a = 0 /\ b = 0 := by
 unfold thenE at h; split at h
 ·contradiction
 ·rename_i h2; exact ⟨Classical.byContradiction h2, h⟩
structure PSys.fit (s : PSys) : Prop where
 small : s.small
def checkR (ds : List D) (v : AV) : Prop := ∃ s : PSys, ds = [sysD s] /\ s.fit /\ v = .dat (.int .i64 (checkE s))
abbrev tabPC : List (Nat × Contract) := [(15, dataC namesR), (16, dataC isNmR), (17, dataC hasSR), (18, dataC classR)]
theorem tabPC_ok : OkG Try.prog (tbl tabPC) := okG_cons names_ok (okG_cons isName_ok (okG_cons hasS_ok (okG_cons checkClass_ok okG_nil)))
theorem check_ok : OkF Try.prog 6 (dataC checkR) := by
 refine okF_data Try.func6 rfl (by decide) ?_
 rintro ds v ⟨s, rfl, hf, rfl⟩
 generalize hv : checkE s = V
 refine sem_of_awp (Γ := tbl tabPC) tabPC_ok _ _ _ ?_
 have fin : ∀ s own (b c : Int), b = c -> s.getD 2 .top = .dat (.int .i64 b) -> post Try.prog Try.f6 (.dat (.int .i64 c)) [] [] .ret ⟨s, own, 0, []⟩ := fun s own b c e h => by
  subst e
  exact post_data (.inl rfl) [2] rfl trivial (by simp only [tmpsOf, h]; rfl)
 have hsm := hf.small
 unfold checkE at hv
 simp only [go_sem, Try.ntmps6, sysD]
 by_cases h1 : 6 < (s.pools.length : Int)
 ·simp only [go_sem, h1]
  rw [if_pos (.inl h1)] at hv
  exact fin _ _ _ _ hv (by rfl)
 by_cases h2 : 4 < (s.locks.length : Int)
 ·simp only [go_sem, h1, h2]
  rw [if_pos (.inr (.inl h2))] at hv
  exact fin _ _ _ _ hv (by rfl)
 by_cases h3 : 6 < (s.classes.length : Int)
 ·simp only [go_sem, h1, h2, h3]
  rw [if_pos (.inr (.inr h3))] at hv
  exact fin _ _ _ _ hv (by rfl)
 rw [if_neg (by omega)] at hv
 simp only [go_sem, h1, h2, h3]
 refine call_data namesR (by simp) [sysD s] _ rfl ⟨s, rfl, hsm, rfl⟩ (.inl rfl) ?_
 have hln : (namesL s).length <= 30 := by
  have := hsm.np; have := hsm.nl; have := hsm.nc
  simp only [namesL, List.length_append, List.length_map]; omega
 generalize hN : namesL s = N at *
 simp only [go_sem]
 refine sem_loop (fun k : Nat => ⟨slotsOf 87 [(1, .ptr 0 0 0), (2, .dat (.int .i64 0)), (3, .dat (.sl none (N.map .str))), (29, .dat (.sl none (N.map .str))), (30, .dat (.int .i64 N.length)), (31, .dat (.int .i64 k))],
   [.box [.dat (.sl (some 3) (s.pools.map poolD)), .dat (.sl none (s.locks.map .str)), .dat (.sl (some 4) (s.classes.map clsD))]], 0, []⟩)
  (fun k => k <= N.length /\ thenE (namesE (N.take k) (N.drop k)) (thenE (poolsE s.pools) (clssE s s.classes)) = V) (fun k => N.length - k) 0 ⟨Nat.zero_le _, hv⟩ ?_ ?_
 ·exact le_slots' (by simp only [go_sem, Int.natCast_zero])
 ·rintro k ⟨hk, hI⟩
  refine sem_of_awp (Γ := tbl tabPC) tabPC_ok _ _ _ ?_
  cases hd : N.drop k with
  | nil =>
   have := end_of_drop hd hk
   have hk2 : ¬ (k : Int) < N.length := by omega
   rw [hd, namesE, thenE_0] at hI
   simp only [go_sem, hk2]
   refine sem_loop (fun k : Nat => ⟨slotsOf 87 [(1, .ptr 0 0 0), (2, .dat (.int .i64 0)), (46, .dat (.sl (some 3) (s.pools.map poolD))), (47, .dat (.int .i64 s.pools.length)), (48, .dat (.int .i64 k))],
     [.box [.dat (.sl (some 3) (s.pools.map poolD)), .dat (.sl none (s.locks.map .str)), .dat (.sl (some 4) (s.classes.map clsD))]], 0, []⟩)
    (fun k => k <= s.pools.length /\ (∀ p ∈ s.pools.take k, ¬ p.bad) /\ thenE (poolsE (s.pools.drop k)) (clssE s s.classes) = V) (fun k => s.pools.length - k) 0 ⟨Nat.zero_le _, fun p hp => by simp at hp, hI⟩ ?_ ?_
   ·exact le_slots' (by simp only [go_sem, Int.natCast_zero])
   ·rintro k ⟨hk, hG, hI⟩
    refine sem_of_awp (Γ := tbl tabPC) tabPC_ok _ _ _ ?_
    cases hd : s.pools.drop k with
    | nil =>
     have := end_of_drop hd hk
     have hk2 : ¬ (k : Int) < s.pools.length := by omega
     rw [hd, poolsE, thenE_0] at hI
     rw [List.take_of_length_le (by omega)] at hG
     have htm : s.tame := fun p hp => by have := hG p hp; unfold PPool.bad at this; omega
     simp only [go_sem, hk2]
     refine sem_loop (fun k : Nat => ⟨slotsOf 87 [(1, .ptr 0 0 0), (2, .dat (.int .i64 0)), (74, .dat (.sl (some 4) (s.classes.map clsD))), (75, .dat (.int .i64 s.classes.length)), (76, .dat (.int .i64 k))],
       [.box [.dat (.sl (some 3) (s.pools.map poolD)), .dat (.sl none (s.locks.map .str)), .dat (.sl (some 4) (s.classes.map clsD))]], 0, []⟩)
      (fun k => k <= s.classes.length /\ clssE s (s.classes.drop k) = V) (fun k => s.classes.length - k) 0 ⟨Nat.zero_le _, hI⟩ ?_ ?_
     ·exact le_slots' (by simp only [go_sem, Int.natCast_zero])
     ·rintro k ⟨hk, hI⟩
      refine sem_of_awp (Γ := tbl tabPC) tabPC_ok _ _ _ ?_
      cases hd : s.classes.drop k with
      | nil =>
       have := end_of_drop hd hk
       have hk2 : ¬ (k : Int) < s.classes.length := by omega
       rw [hd, clssE] at hI
       simp only [go_sem, hk2]
       exact fin _ _ _ _ hI (by rfl)
      | cons c q =>
       have hlt := lt_of_drop hd
       have hk2 : (k : Int) < s.classes.length := by omega
       have hk0 : (0 : Int) <= k := Int.natCast_nonneg k
       have hn := nth_of_drop (f := clsD) hd
       rw [hd, clssE] at hI
       simp only [go_sem, hk2, hk0, hn, hlt, clsD]
       refine call_data classR (by simp) [sysD s, clsD c] _ rfl ⟨s, c, rfl, hsm, htm, rfl⟩ (.inl rfl) ?_
       simp only [go_sem]
       by_cases he : classE s c = 0
       ·rw [if_neg (by rw [he]; decide)] at hI
        simp only [go_sem, he]
        refine ⟨inR_i64.2 (by omega), k + 1, ⟨by omega, by rw [drop_cons hd]; exact hI⟩, by omega, ?_⟩
        refine le_end (own := [_]) (ex := [_]) (Nat.zero_le _) ?_ ?_ ?_
        ·simp only [go_sem, Int.natCast_add, Int.cast_ofNat_Int]
        ·simp only [go_sem]
        ·simp only [go_sem, Obj.under, AV.unders, AV.under]
       ·rw [if_pos he] at hI
        simp only [go_sem, he]
        exact fin _ _ _ _ hI (by rfl)
    | cons p q =>
     have hlt := lt_of_drop hd
     have hk2 : (k : Int) < s.pools.length := by omega
     have hk0 : (0 : Int) <= k := Int.natCast_nonneg k
     have hn := nth_of_drop (f := poolD) hd
     rw [hd, poolsE] at hI
     simp only [go_sem, hk2, hk0, hn, hlt, poolD]
     by_cases b1 : p.size < 1
     ·simp only [go_sem, b1]
      rw [if_pos (.inl b1)] at hI
      exact fin _ _ _ _ hI (by rfl)
     by_cases b2 : 8 < p.size
     ·simp only [go_sem, b1, b2]
      rw [if_pos (.inr (.inl b2))] at hI
      exact fin _ _ _ _ hI (by rfl)
     by_cases b3 : p.res < 0
     ·simp only [go_sem, b1, b2, b3]
      rw [if_pos (.inr (.inr (.inl b3)))] at hI
      exact fin _ _ _ _ hI (by rfl)
     by_cases b4 : p.size < p.res
     ·simp only [go_sem, b1, b2, b3, b4]
      rw [if_pos (.inr (.inr (.inr b4)))] at hI
      exact fin _ _ _ _ hI (by rfl)
     have hb : ¬ p.bad := by unfold PPool.bad; omega
     rw [if_neg hb] at hI
     simp only [go_sem, b1, b2, b3, b4]
     refine ⟨inR_i64.2 (by omega), k + 1, ⟨by omega, ?_, by rw [drop_cons hd]; exact hI⟩, by omega, ?_⟩
     ·rw [take_of_drop hd]
      intro y hy
      rcases List.mem_append.1 hy with h | h
      ·exact hG y h
      ·simp at h; subst h; exact hb
     ·refine le_end (own := [_]) (ex := [_]) (Nat.zero_le _) ?_ ?_ ?_
      ·simp only [go_sem, Int.natCast_add, Int.cast_ofNat_Int]
      ·simp only [go_sem]
      ·simp only [go_sem, Obj.under, AV.unders, AV.under]
  | cons x q =>
   have hlt := lt_of_drop hd
   have hk2 : (k : Int) < N.length := by omega
   have hk0 : (0 : Int) <= k := Int.natCast_nonneg k
   have hk3 : (k : Int) <= N.length := by omega
   have hn := nth_of_drop (f := D.str) hd
   have hpre : (N.take k).length < 4611686018427387904 := by simp; omega
   have hmt : (N.map D.str).take k = (N.take k).map D.str := by simp [List.map_take]
   rw [hd, namesE] at hI
   simp only [go_sem, hk2, hk0, hn, hlt]
   refine call_data isNmR (by simp) [.str x] _ rfl ⟨x, rfl, rfl⟩ (.inl rfl) ?_
   cases hb : isNm x with
   | false =>
    simp only [go_sem, hb]
    rw [if_pos hb, thenE_n (by decide)] at hI
    exact fin _ _ _ _ hI (by rfl)
   | true =>
    rw [if_neg (by rw [hb]; decide)] at hI
    simp only [go_sem, hb, hk0, hk3, Int.toNat_natCast]
    refine call_data hasSR (by simp) [.sl none ((N.take k).map .str), .str x] _ (by rw [← hmt]; rfl) ⟨N.take k, x, rfl, hpre, rfl⟩ (.inl rfl) ?_
    by_cases hm : x ∈ N.take k
    ·have hm' : decide (x ∈ N.take k) = true := decide_eq_true hm
     simp only [go_sem, hm']
     rw [if_pos hm, thenE_n (by decide)] at hI
     exact fin _ _ _ _ hI (by rfl)
    ·have hm' : decide (x ∈ N.take k) = false := decide_eq_false hm
     simp only [go_sem, hm']
     rw [if_neg hm, ← take_of_drop hd, ← drop_cons hd] at hI
     refine ⟨inR_i64.2 (by omega), k + 1, ⟨by omega, hI⟩, by omega, ?_⟩
     exact le_slots' (by simp only [go_sem, Int.natCast_add, Int.cast_ofNat_Int])
end Go.AM
namespace Go.AM
open Go Go.Proofs
abbrev sysO (s : PSys) : Obj := .box [.dat (.sl (some 3) (s.pools.map poolD)), .dat (.sl none (s.locks.map .str)), .dat (.sl (some 4) (s.classes.map clsD))]
def fewB (s : PSys) : Bool := !decide (10 < (s.pools.length : Int)) && !decide (10 < (s.locks.length : Int)) && !decide (10 < (s.classes.length : Int)) && s.classes.all fun c => !decide (20 < (c.steps.length : Int))
def fewR (ds : List D) (v : AV) : Prop := ∃ s : PSys, ds = [sysD s] /\ v = .dat (.bool (fewB s))
theorem few_ok : OkF Try.prog 11 (dataC fewR) := by
 refine okF_data Try.func11 rfl (by decide) ?_
 rintro ds v ⟨s, rfl, rfl⟩
 generalize hv : fewB s = V
 refine sem_of_awp (Γ := tbl []) okG_nil _ _ _ ?_
 have fin : ∀ s own (b c : Bool), b = c -> s.getD 2 .top = .dat (.bool b) -> post Try.prog Try.f11 (.dat (.bool c)) [] [] .ret ⟨s, own, 0, []⟩ := fun s own b c e h => by
  subst e
  exact post_data (.inl rfl) [2] rfl trivial (by simp only [tmpsOf, h]; rfl)
 unfold fewB at hv
 simp only [go_sem, Try.ntmps11, sysD]
 by_cases h1 : 10 < (s.pools.length : Int)
 ·simp only [go_sem, h1]
  refine fin _ _ _ _ ?_ (by rfl)
  rw [← hv, decide_eq_true h1]; rfl
 by_cases h2 : 10 < (s.locks.length : Int)
 ·simp only [go_sem, h1, h2]
  refine fin _ _ _ _ ?_ (by rfl)
  rw [← hv, decide_eq_false h1, decide_eq_true h2]; rfl
 by_cases h3 : 10 < (s.classes.length : Int)
 ·simp only [go_sem, h1, h2, h3]
  refine fin _ _ _ _ ?_ (by rfl)
  rw [← hv, decide_eq_false h1, decide_eq_false h2, decide_eq_true h3]; rfl
 rw [decide_eq_false h1, decide_eq_false h2, decide_eq_false h3] at hv
 simp only [Bool.not_false, Bool.true_and] at hv
 simp only [go_sem, h1, h2, h3]
 refine sem_loop (fun k : Nat => ⟨slotsOf 35 [(1, .ptr 0 0 0), (2, .dat (.bool false)), (3, .dat (.int .i64 k))], [sysO s], 0, []⟩)
  (fun k => k <= s.classes.length /\ ((s.classes.drop k).all fun c => !decide (20 < (c.steps.length : Int))) = V) (fun k => s.classes.length - k) 0 ⟨Nat.zero_le _, hv⟩ ?_ ?_
 ·exact le_slots' (by simp only [go_sem, Int.natCast_zero])
 ·rintro k ⟨hk, hI⟩
  refine sem_of_awp (Γ := tbl []) okG_nil _ _ _ ?_
  cases hd : s.classes.drop k with
  | nil =>
   have := end_of_drop hd hk
   have hk2 : ¬ (k : Int) < s.classes.length := by omega
   rw [hd] at hI
   simp only [go_sem, hk2]
   exact fin _ _ _ _ hI (by rfl)
  | cons c q =>
   have hlt := lt_of_drop hd
   have hk2 : (k : Int) < s.classes.length := by omega
   have hk0 : (0 : Int) <= k := Int.natCast_nonneg k
   have hn := nth_of_drop (f := clsD) hd
   rw [hd, List.all_cons] at hI
   simp only [go_sem, hk2, hk0, hn, hlt, clsD, stepsD]
   by_cases he : 20 < (c.steps.length : Int)
   ·rw [decide_eq_true he] at hI
    simp only [go_sem, he]
    exact fin _ _ _ _ hI (by rfl)
   ·rw [decide_eq_false he, Bool.not_false, Bool.true_and] at hI
    simp only [go_sem, he]
    refine ⟨inR_i64.2 (by omega), k + 1, ⟨by omega, by rw [drop_cons hd]; exact hI⟩, by omega, ?_⟩
    exact le_slots' (by simp only [go_sem, Int.natCast_add, Int.cast_ofNat_Int])
end Go.AM
namespace Go.AM
open Go Go.Proofs
def ustep (pool : Int) (p : Int × Int) (x : PStep) : Int × Int :=
 if x.on = pool then (if x.kind = 1 then (p.1 + x.cnt, if x.deep = true then p.2 + x.cnt else p.2) else if x.kind = 2 then (p.1 - x.cnt, p.2 - min p.2 x.cnt) else p) else p
def ownU (pool : Int) (l : List PStep) : Int × Int := l.foldl (ustep pool) (0, 0)
def selU (d : Bool) (p : Int × Int) : Int := if d = true then p.2 else p.1
def mxN (pool : Int) (d : Bool) (l : List PStep) : Nat -> Int
 | 0 => 0
 | k + 1 => max (mxN pool d l k) (selU d (ownU pool (l.take (k + 1))))
theorem ownU_snoc (pool : Int) (l : List PStep) (x : PStep) : ownU pool (l ++ [x]) = ustep pool (ownU pool l) x := by simp [ownU]
theorem ownU_le_mxN (pool : Int) (d : Bool) (l : List PStep) : ∀ k, selU d (ownU pool (l.take k)) <= mxN pool d l k
 | 0 => by cases d <;> simp [selU, ownU, mxN]
 | k + 1 => by simp only [mxN]; exact Int.le_max_right _ _
theorem ustep_le {pool : Int} {p : Int × Int} {x : PStep} {b : Int} (hx : -1000 <= x.cnt /\ x.cnt <= 1000) (h1 : -b <= p.1 /\ p.1 <= b) (h2 : -b <= p.2 /\ p.2 <= b) (hb : 0 <= b) :
  (-(b + 1000) <= (ustep pool p x).1 /\ (ustep pool p x).1 <= b + 1000) /\ (-(b + 1000) <= (ustep pool p x).2 /\ (ustep pool p x).2 <= b + 1000) := by
 unfold ustep
 (repeat' split) <;> first | omega | (simp only; omega)
theorem ownU_le (pool : Int) {l : List PStep} (h : Tame l) : ∀ k : Nat, k <= l.length -> (-(1000 * (k : Int)) <= (ownU pool (l.take k)).1 /\ (ownU pool (l.take k)).1 <= 1000 * k) /\ (-(1000 * (k : Int)) <= (ownU pool (l.take k)).2 /\ (ownU pool (l.take k)).2 <= 1000 * k)
 | 0, _ => by simp [ownU]
 | k + 1, hk => by
  obtain ⟨h1, h2⟩ := ownU_le pool h k (by omega)
  have hx := h l[k] (List.getElem_mem _)
  rw [List.take_succ_eq_append_getElem (by omega), ownU_snoc]
  have := ustep_le (pool := pool) hx h1 h2 (by omega)
  omega
theorem mxN_le (pool : Int) (d : Bool) {l : List PStep} (h : Tame l) : ∀ k : Nat, k <= l.length -> 0 <= mxN pool d l k /\ mxN pool d l k <= 1000 * k
 | 0, _ => by simp [mxN]
 | k + 1, hk => by
  have h0 := mxN_le pool d h k (by omega)
  have h1 := ownU_le pool h (k + 1) hk
  simp only [mxN]
  have h2 : selU d (ownU pool (l.take (k + 1))) <= 1000 * ((k + 1 : Nat) : Int) := by
   unfold selU; split
   ·exact h1.2.2
   ·exact h1.1.2
  omega
abbrev clsO (c : PCls) : Obj := .box [.dat (.str c.name), .dat (.int .i64 c.workers), .dat (.bool c.server), .dat (.sl (some 4) (c.steps.map stepD))]
def peakR (ds : List D) (v : AV) : Prop := ∃ (c : PCls) (pool : Int), ds = [clsD c, .int .i64 pool] /\ Tame c.steps /\ c.steps.length <= 1000 /\
 v = .tup [.dat (.int .i64 (mxN pool false c.steps c.steps.length)), .dat (.int .i64 (mxN pool true c.steps c.steps.length))]
theorem peak_ok : OkF Try.prog 58 (dataC peakR) := by
 refine okF_data Try.func58 rfl (by decide) ?_
 rintro ds v ⟨c, pool, rfl, hT, hlen, rfl⟩
 refine sem_of_awp (Γ := tbl []) okG_nil _ _ _ ?_
 obtain ⟨name, workers, server, l⟩ := c
 simp only at hT hlen
 simp only [go_sem, Try.ntmps58, clsD, stepsD]
 refine sem_loop (fun k : Nat => ⟨slotsOf 58 [(1, .dat (.int .i64 pool)), (2, .ptr 0 0 0), (4, .dat (.int .i64 0)), (5, .dat (.int .i64 0)), (6, .dat (.int .i64 (ownU pool (l.take k)).1)), (7, .dat (.int .i64 (ownU pool (l.take k)).2)), (8, .dat (.int .i64 (mxN pool false l k))), (9, .dat (.int .i64 (mxN pool true l k))),
   (13, .dat (.sl (some 4) (l.map stepD))), (14, .dat (.int .i64 l.length)), (15, .dat (.int .i64 k))], [clsO ⟨name, workers, server, l⟩], 0, []⟩)
  (fun k => k <= l.length) (fun k => l.length - k) 0 (Nat.zero_le _) ?_ ?_
 ·exact le_slots' (by simp only [go_sem, Int.natCast_zero, ownU, List.foldl_nil, mxN])
 ·rintro k hk
  refine sem_of_awp (Γ := tbl []) okG_nil _ _ _ ?_
  cases hd : l.drop k with
  | nil =>
   have := end_of_drop hd hk
   obtain rfl : k = l.length := by omega
   have hk2 : ¬ (l.length : Int) < l.length := by omega
   simp only [go_sem, hk2]
   exact post_data (.inl rfl) [4, 5] rfl (by simp [AV.under, AV.unders]) (by rfl)
  | cons x q =>
   have hlt := lt_of_drop hd
   have hk2 : (k : Int) < l.length := by omega
   have hk0 : (0 : Int) <= k := Int.natCast_nonneg k
   have hn := nth_of_drop (f := stepD) hd
   have hx := hT x (mem_of_drop hd)
   have hgo : inR .i64 ((k : Int) + 1) := inR_i64.2 (by omega)
   have ho := ownU_le pool hT k hk
   have hm1 := mxN_le pool false hT k hk
   have hm2 := mxN_le pool true hT k hk
   have hl1 := ownU_le_mxN pool false l k
   have hl2 := ownU_le_mxN pool true l k
   have hs : ownU pool (l.take (k + 1)) = ustep pool (ownU pool (l.take k)) x := by rw [take_of_drop hd, ownU_snoc]
   have e1 : mxN pool false l (k + 1) = max (mxN pool false l k) (ustep pool (ownU pool (l.take k)) x).1 := by simp only [mxN, hs, selU]; rfl
   have e2 : mxN pool true l (k + 1) = max (mxN pool true l k) (ustep pool (ownU pool (l.take k)) x).2 := by simp only [mxN, hs, selU]; rfl
   simp only [selU, Bool.false_eq_true, if_false, if_true] at hl1 hl2
   generalize ownU pool (l.take k) = p at *
   obtain ⟨a, b⟩ := p
   generalize mxN pool false l k = M at *
   generalize mxN pool true l k = N at *
   simp only at ho hl1 hl2
   by_cases c0 : x.on = pool
   ·have c0' : decide (x.on = pool) = true := decide_eq_true c0
    have c1 : decide (x.on ≠ pool) = false := decide_eq_false (fun h => h c0)
    by_cases k1 : x.kind = 1
    ·cases hdp : x.deep with
     | true =>
      have hu : ustep pool (a, b) x = (a + x.cnt, b + x.cnt) := by simp [ustep, c0, k1, hdp]
      simp only [hu] at e1 e2 hs
      simp only [go_sem, Int.reduceEq, eq_self, hk2, hk0, hn, hlt, stepD, c0, c0', k1, hdp]
      refine ⟨inR_i64.2 (by omega), inR_i64.2 (by omega), hgo, k + 1, by omega, by omega, ?_⟩
      refine le_end (own := [_]) (ex := [_]) (Nat.zero_le _) ?_ ?_ ?_
      ·simp only [go_sem, Int.natCast_add, Int.cast_ofNat_Int, hs, e1, e2]
      ·simp only [go_sem]
      ·simp only [go_sem, Obj.under, AV.unders, AV.under]
     | false =>
      have hu : ustep pool (a, b) x = (a + x.cnt, b) := by simp [ustep, c0, k1, hdp]
      simp only [hu] at e1 e2 hs
      simp only [go_sem, Int.reduceEq, eq_self, hk2, hk0, hn, hlt, stepD, c0, c0', k1, hdp]
      refine ⟨inR_i64.2 (by omega), hgo, k + 1, by omega, by omega, ?_⟩
      refine le_end (own := [_]) (ex := [_]) (Nat.zero_le _) ?_ ?_ ?_
      ·simp only [go_sem, Int.natCast_add, Int.cast_ofNat_Int, hs, e1, e2]
      ·simp only [go_sem]
      ·simp only [go_sem, Obj.under, AV.unders, AV.under]
    by_cases k2 : x.kind = 2
    ·have hu : ustep pool (a, b) x = (a - x.cnt, b - min b x.cnt) := by simp [ustep, c0, k2]
     simp only [hu] at e1 e2 hs
     simp only [go_sem, Int.reduceEq, eq_self, hk2, hk0, hn, hlt, stepD, c0, c0', k1, k2]
     refine ⟨inR_i64.2 (by omega), inR_i64.2 (by omega), hgo, k + 1, by omega, by omega, ?_⟩
     refine le_end (own := [_]) (ex := [_]) (Nat.zero_le _) ?_ ?_ ?_
     ·simp only [go_sem, Int.natCast_add, Int.cast_ofNat_Int, hs, e1, e2]
     ·simp only [go_sem]
     ·simp only [go_sem, Obj.under, AV.unders, AV.under]
    ·have hu : ustep pool (a, b) x = (a, b) := by simp [ustep, c0, k1, k2]
     simp only [hu] at e1 e2 hs
     simp only [go_sem, Int.reduceEq, eq_self, hk2, hk0, hn, hlt, stepD, c0, c0', k1, k2]
     refine ⟨hgo, k + 1, by omega, by omega, ?_⟩
     refine le_end (own := [_]) (ex := [_]) (Nat.zero_le _) ?_ ?_ ?_
     ·simp only [go_sem, Int.natCast_add, Int.cast_ofNat_Int, hs, e1, e2]
     ·simp only [go_sem]
     ·simp only [go_sem, Obj.under, AV.unders, AV.under]
   ·have c0' : decide (x.on = pool) = false := decide_eq_false c0
    have hu : ustep pool (a, b) x = (a, b) := by simp [ustep, c0]
    simp only [hu] at e1 e2 hs
    rw [Int.max_eq_left hl1] at e1
    rw [Int.max_eq_left hl2] at e2
    simp only [go_sem, Int.reduceEq, eq_self, hk2, hk0, hn, hlt, stepD, c0, c0']
    refine ⟨hgo, k + 1, by omega, by omega, ?_⟩
    refine le_end (own := [_]) (ex := [_]) (Nat.zero_le _) ?_ ?_ ?_
    ·simp only [go_sem, Int.natCast_add, Int.cast_ofNat_Int, hs, e1, e2]
    ·simp only [go_sem]
    ·simp only [go_sem, Obj.under, AV.unders, AV.under]
def unitsR (ds : List D) (v : AV) : Prop := ∃ (c : PCls) (pool : Int) (k : Nat) (d : Bool), ds = [clsD c, .int .i64 pool, .int .i64 k, .bool d] /\ Tame c.steps /\ c.steps.length <= 1000 /\ k <= c.steps.length /\
 v = .dat (.int .i64 (selU d (ownU pool (c.steps.take k))))
end Go.AM
namespace Go.AM
open Go Go.Proofs
structure PCls.good (s : PSys) (c : PCls) : Prop where
 w0 : 0 <= c.workers
 w4 : c.workers <= 4
 l1 : 1 <= c.steps.length
 l12 : c.steps.length <= 12
 run : verd (runE s c.steps (hold0 s)) = 0
 pre : ∀ x ∈ c.steps, preE s x = 0
structure PSys.good (s : PSys) : Prop where
 np : s.pools.length <= 6
 nl : s.locks.length <= 4
 nc : s.classes.length <= 6
 pool : ∀ p ∈ s.pools, ¬ p.bad
 cls : ∀ c ∈ s.classes, c.good s
theorem verd_pre {s : PSys} : ∀ {l : List PStep} {h : Hold}, verd (runE s l h) = 0 -> ∀ x ∈ l, preE s x = 0
 | [], _, _, x, hx => by simp at hx
 | y :: l, h, hv, x, hx => by
  by_cases he : stepE s h.units h.locks y = 0
  ·rw [verd_go he] at hv
   rcases List.mem_cons.1 hx with rfl | hx
   ·exact stepE_0 he
   ·exact verd_pre hv x hx
  ·rw [verd_err he] at hv; exact absurd hv he
theorem classE_good {s : PSys} {c : PCls} (h : classE s c = 0) : c.good s := by
 unfold classE at h
 split at h
 ·simp at h
 ·split at h
  ·simp at h
  ·exact ⟨by omega, by omega, by omega, by omega, h, verd_pre h⟩
theorem clssE_good {s : PSys} : ∀ {l : List PCls}, clssE s l = 0 -> ∀ c ∈ l, c.good s
 | [], _, c, hc => by simp at hc
 | d :: r, h, c, hc => by
  simp only [clssE] at h
  split at h
  ·rename_i h2; exact absurd h h2
  ·rename_i h2
   have h2 : classE s d = 0 := Classical.byContradiction h2
   rcases List.mem_cons.1 hc with rfl | hc
   ·exact classE_good h2
   ·exact clssE_good h c hc
theorem good_of {s : PSys} (h : checkE s = 0) : s.good := by
 unfold checkE at h
 split at h
 ·simp at h
 ·obtain ⟨h1, h2⟩ := thenE_eq0 h
  obtain ⟨h2, h3⟩ := thenE_eq0 h2
  exact ⟨by omega, by omega, by omega, poolsE_0 h2, clssE_good h3⟩
theorem PSys.good.small {s : PSys} (h : s.good) : s.small := ⟨by have := h.np; omega, by have := h.nl; omega, by have := h.nc; omega⟩
theorem PSys.good.tame {s : PSys} (h : s.good) : s.tame := fun p hp => by have := h.pool p hp; unfold PPool.bad at this; omega
theorem PCls.good.steps {s : PSys} {c : PCls} (h : c.good s) (hs : s.good) : Tame c.steps := fun x hx => pre_tame hs.tame (h.pre x hx)
def demC (pool : Int) (d : Bool) (a : Int) (c : PCls) : Int := a + c.workers * mxN pool d c.steps c.steps.length
def demL (pool : Int) (d : Bool) (l : List PCls) : Int := l.foldl (demC pool d) 0
theorem demL_snoc (pool : Int) (d : Bool) (l : List PCls) (c : PCls) : demL pool d (l ++ [c]) = demL pool d l + c.workers * mxN pool d c.steps c.steps.length := by simp [demL, demC]
theorem wmul {w m : Int} (h0 : 0 <= w) (h4 : w <= 4) (hm : 0 <= m /\ m <= 12000) : 0 <= w * m /\ w * m <= 48000 := by
 obtain rfl | rfl | rfl | rfl | rfl : w = 0 ∨ w = 1 ∨ w = 2 ∨ w = 3 ∨ w = 4 := by omega
 all_goals omega
theorem mx_le {s : PSys} {c : PCls} (hs : s.good) (h : c.good s) (pool : Int) (d : Bool) : 0 <= mxN pool d c.steps c.steps.length /\ mxN pool d c.steps c.steps.length <= 12000 := by
 have := mxN_le pool d (h.steps hs) c.steps.length (Nat.le_refl _)
 have := h.l12
 omega
theorem demL_le {s : PSys} (hs : s.good) (pool : Int) (d : Bool) : ∀ k : Nat, k <= s.classes.length -> 0 <= demL pool d (s.classes.take k) /\ demL pool d (s.classes.take k) <= 48000 * k
 | 0, _ => by simp [demL]
 | k + 1, hk => by
  have h0 := demL_le hs pool d k (by omega)
  have hc := hs.cls s.classes[k] (List.getElem_mem _)
  rw [List.take_succ_eq_append_getElem (by omega), demL_snoc]
  have := wmul hc.w0 hc.w4 (mx_le hs hc pool d)
  omega
def demandR (ds : List D) (v : AV) : Prop := ∃ (s : PSys) (pool : Int), ds = [sysD s, .int .i64 pool] /\ s.good /\ v = .tup [.dat (.int .i64 (demL pool false s.classes)), .dat (.int .i64 (demL pool true s.classes))]
theorem demand_ok : OkF Try.prog 55 (dataC demandR) := by
 refine okF_data Try.func55 rfl (by decide) ?_
 rintro ds v ⟨s, pool, rfl, hg, rfl⟩
 have hok : OkG Try.prog (tbl [(58, dataC peakR)]) := okG_cons peak_ok okG_nil
 refine sem_of_awp (Γ := tbl [(58, dataC peakR)]) hok _ _ _ ?_
 have hnc := hg.nc
 simp only [go_sem, Try.ntmps55, sysD]
 refine sem_loop (fun k : Nat => ⟨slotsOf 40 [(1, .dat (.int .i64 pool)), (2, .ptr 0 0 0), (4, .dat (.int .i64 0)), (5, .dat (.int .i64 0)), (6, .dat (.int .i64 (demL pool false (s.classes.take k)))), (7, .dat (.int .i64 (demL pool true (s.classes.take k)))),
   (13, .dat (.sl (some 4) (s.classes.map clsD))), (14, .dat (.int .i64 s.classes.length)), (15, .dat (.int .i64 k))], [sysO s], 0, []⟩)
  (fun k => k <= s.classes.length) (fun k => s.classes.length - k) 0 (Nat.zero_le _) ?_ ?_
 ·exact le_slots' (by simp only [go_sem, Int.natCast_zero, demL, List.foldl_nil])
 ·rintro k hk
  refine sem_of_awp (Γ := tbl [(58, dataC peakR)]) hok _ _ _ ?_
  cases hd : s.classes.drop k with
  | nil =>
   have := end_of_drop hd hk
   obtain rfl : k = s.classes.length := by omega
   have hk2 : ¬ (s.classes.length : Int) < s.classes.length := by omega
   simp only [go_sem, hk2, List.take_length]
   exact post_data (.inl rfl) [4, 5] rfl (by simp [AV.under, AV.unders]) (by rfl)
  | cons c q =>
   have hlt := lt_of_drop hd
   have hk2 : (k : Int) < s.classes.length := by omega
   have hk0 : (0 : Int) <= k := Int.natCast_nonneg k
   have hn := nth_of_drop (f := clsD) hd
   have hc := hg.cls c (mem_of_drop hd)
   have hgo : inR .i64 ((k : Int) + 1) := inR_i64.2 (by omega)
   have h1 := demL_le hg pool false k hk
   have h2 := demL_le hg pool true k hk
   have e1 := demL_snoc pool false (s.classes.take k) c
   have e2 := demL_snoc pool true (s.classes.take k) c
   rw [← take_of_drop hd] at e1 e2
   have w1 := wmul hc.w0 hc.w4 (mx_le hg hc pool false)
   have w2 := wmul hc.w0 hc.w4 (mx_le hg hc pool true)
   simp only [go_sem, hk2, hk0, hn, hlt, clsD, stepsD]
   refine call_data peakR (by simp) [clsD c, .int .i64 pool] _ rfl ⟨c, pool, rfl, hc.steps hg, by have := hc.l12; omega, rfl⟩ (.inl rfl) ?_
   simp only [go_sem]
   refine ⟨inR_i64.2 (by omega), inR_i64.2 (by omega), inR_i64.2 (by omega), inR_i64.2 (by omega), hgo, k + 1, by omega, by omega, ?_⟩
   refine le_end (own := [_]) (ex := [_]) (Nat.zero_le _) ?_ ?_ ?_
   ·simp only [go_sem, Int.natCast_add, Int.cast_ofNat_Int, e1, e2]
   ·simp only [go_sem]
   ·simp only [go_sem, Obj.under, AV.unders, AV.under]
def resN (s : PSys) : Int := if checkE s ≠ 0 then 0 else (s.pools.length : Int) + s.locks.length + s.classes.length
def resR (ds : List D) (v : AV) : Prop := ∃ s : PSys, ds = [sysD s] /\ s.fit /\ v = .dat (.int .i64 (resN s))
theorem resources_ok : OkF Try.prog 22 (dataC resR) := by
 refine okF_data Try.func22 rfl (by decide) ?_
 rintro ds v ⟨s, rfl, hf, rfl⟩
 refine sem_of_awp (Γ := tbl [(6, dataC checkR)]) (okG_cons check_ok okG_nil) _ _ _ ?_
 simp only [go_sem, Try.ntmps22, sysD]
 refine call_data checkR (by simp) [sysD s] _ rfl ⟨s, rfl, hf, rfl⟩ (.inl rfl) ?_
 have := hf.small.np; have := hf.small.nl; have := hf.small.nc
 by_cases h : checkE s = 0
 ·have e : resN s = (s.pools.length : Int) + s.locks.length + s.classes.length := by unfold resN; rw [if_neg (by rw [h]; decide)]
  rw [e]
  simp only [go_sem, h]
  refine ⟨inR_i64.2 (by omega), inR_i64.2 (by omega), ?_⟩
  exact post_data (.inl rfl) [2] rfl trivial (by rfl)
 ·have e : resN s = 0 := by unfold resN; rw [if_pos h]
  rw [e]
  simp only [go_sem, h]
  exact post_data (.inl rfl) [2] rfl trivial (by rfl)
def demN (s : PSys) (pool : Int) (d : Bool) : Int := if checkE s ≠ 0 ∨ pool < 0 ∨ (s.pools.length : Int) <= pool then -1 else demL pool d s.classes
def demNR (ds : List D) (v : AV) : Prop := ∃ (s : PSys) (pool : Int) (d : Bool), ds = [sysD s, .int .i64 pool, .bool d] /\ s.fit /\ v = .dat (.int .i64 (demN s pool d))
abbrev tabDM : List (Nat × Contract) := [(6, dataC checkR), (55, dataC demandR)]
end Go.AM
namespace Go.AM
open Go Go.Proofs
theorem ints_take {l : List Int} : List.take l.length (intsD l) = intsD l := List.take_of_length_le (by simp)
theorem ints_len {l : List Int} : (intsD l).length = l.length := by simp
theorem ints_snoc {l : List Int} {n : Int} : intsD l ++ [.int .i64 n] = intsD (l ++ [n]) := by simp
structure PEdge where
 src : Int
 dst : Int
 cls : Int
 step : Int
deriving Inhabited, DecidableEq
def edgeD (e : PEdge) : D := .agg [.int .i64 e.src, .int .i64 e.dst, .int .i64 e.cls, .int .i64 e.step]
abbrev edgesD (l : List PEdge) : List D := l.map edgeD
theorem edges_take {l : List PEdge} : List.take l.length (edgesD l) = edgesD l := List.take_of_length_le (by simp)
theorem edges_len {l : List PEdge} : (edgesD l).length = l.length := by simp
theorem edges_snoc {l : List PEdge} {n : PEdge} : edgesD l ++ [edgeD n] = edgesD (l ++ [n]) := by simp
def PEdge.s (e : PEdge) : Nat := e.src.toNat
def PEdge.t (e : PEdge) : Nat := e.dst.toNat
abbrev natD (n : Nat) : D := .int .i64 (n : Int)
abbrev natsD (l : List Nat) : List D := l.map natD
theorem nats_len {l : List Nat} : (natsD l).length = l.length := by simp
theorem nats_take {l : List Nat} : List.take l.length (natsD l) = natsD l := List.take_of_length_le (by simp)
theorem nats_snoc {l : List Nat} {n : Nat} : natsD l ++ [.int .i64 (n : Int)] = natsD (l ++ [n]) := by simp
structure GOk (n : Nat) (l : List PEdge) : Prop where
 n4 : n <= 4096
 len : l.length <= 10000
 src : ∀ e ∈ l, e.src = (e.s : Int) /\ e.s < n
 dst : ∀ e ∈ l, e.dst = (e.t : Int) /\ e.t < n
abbrev eF (l : List PEdge) : List (Nat × Nat) := l.map fun e => (e.s, e.t)
def gE (n : Int) (l : List PEdge) : Int :=
 if n < 0 ∨ 4096 < n then 2 else if (l.any fun e => decide (e.src < 0) || decide (n <= e.src) || decide (e.dst < 0) || decide (n <= e.dst)) = true then 1 else 0
theorem gOk_of {n : Int} {l : List PEdge} (h : gE n l = 0) (hl : l.length <= 10000) : ∃ k : Nat, n = k /\ GOk k l := by
 unfold gE at h
 split at h
 ·omega
 ·split at h
  ·omega
  ·rename_i h1 h2
   refine ⟨n.toNat, by omega, by omega, hl, fun e he => ?_, fun e he => ?_⟩ <;>
   ·have : ¬ ((decide (e.src < 0) || decide (n <= e.src) || decide (e.dst < 0) || decide (n <= e.dst)) = true) := fun hh => h2 (List.any_eq_true.2 ⟨e, he, hh⟩)
    simp only [Bool.or_eq_true, decide_eq_true_eq] at this
    simp only [PEdge.s, PEdge.t]
    omega
theorem gE_ok {n : Nat} {l : List PEdge} (h : GOk n l) : gE n l = 0 := by
 unfold gE
 have := h.n4
 rw [if_neg (by omega), if_neg]
 intro hh
 obtain ⟨e, he, hh⟩ := List.any_eq_true.1 hh
 have h1 := h.src e he
 have h2 := h.dst e he
 simp only [Bool.or_eq_true, decide_eq_true_eq] at hh
 omega
end Go.AM
namespace Go.AM
open Go Go.Proofs
structure PFr where
 c : Int
 a : Int
deriving Inhabited, DecidableEq
abbrev PSt := List (List PFr)
def frD (f : PFr) : D := .agg [.int .i64 f.c, .int .i64 f.a]
abbrev frsD (l : List PFr) : List D := l.map frD
def stackD (l : List PFr) : D := .sl (some 2) (frsD l)
abbrev stacksD (x : PSt) : List D := x.map stackD
def stD (x : PSt) : D := .agg [.sl none (stacksD x)]
abbrev stO (x : PSt) : Obj := .box [.dat (.sl none (stacksD x))]
structure PStFit (x : PSt) : Prop where
 len : x.length <= 1000
 stk : ∀ l ∈ x, l.length <= 1000
def wkC : Nat -> List PCls -> List Nat
 | _, [] => []
 | i, c :: r => (if c.server = true then [] else List.replicate c.workers.toNat i) ++ wkC (i + 1) r
def wkL (s : PSys) : List Nat := wkC 0 s.classes
abbrev clsAt (s : PSys) (f : PFr) : PCls := s.classes.getD f.c.toNat default
abbrev stepAtF (s : PSys) (f : PFr) : PStep := (clsAt s f).steps.getD f.a.toNat default
def frOk (s : PSys) (f : PFr) : Bool := decide (0 <= f.c) && decide (f.c < s.classes.length) && decide (0 <= f.a) && decide (f.a < (clsAt s f).steps.length)
def callsB (s : PSys) (q f : PFr) : Bool := decide ((stepAtF s q).kind = 5) && decide ((stepAtF s q).on = f.c)
def fmd (s : PSys) : Option PFr -> List PFr -> Bool
 | _, [] => true
 | p, f :: r => frOk s f && (match p with | none => true | some q => callsB s q f) && fmd s (some f) r
def formedB (s : PSys) (l : List PFr) (c : Nat) : Bool := match l with
 | [] => false
 | f :: _ => decide (f.c = c) && fmd s none l
def fmdAll (s : PSys) : List (List PFr) -> List Nat -> Bool
 | _, [] => true
 | l :: x, c :: w => formedB s l c && fmdAll s x w
 | [], _ :: _ => false
def frU (s : PSys) (i : Nat) (f : PFr) : Int := bal ((clsAt s f).steps.take f.a.toNat) i 0
def frL (s : PSys) (i : Nat) (f : PFr) : Int := bal ((clsAt s f).steps.take f.a.toNat) i 1
def frE (s : PSys) (i : Nat) (f : PFr) : Int := if f.c = i /\ (clsAt s f).server = true then 1 else 0
def sumI (g : PFr -> Int) (L : List PFr) : Int := L.foldl (fun a f => a + g f) 0
abbrev frames (x : PSt) : List PFr := x.flatten
def talU (s : PSys) (L : List PFr) : List Int := (List.range s.pools.length).map fun i => sumI (frU s i) L
def talL (s : PSys) (L : List PFr) : List Int := (List.range s.locks.length).map fun i => sumI (frL s i) L
def talE (s : PSys) (L : List PFr) : List Int := (List.range s.classes.length).map fun i => sumI (frE s i) L
theorem sumI_snoc (g : PFr -> Int) (L : List PFr) (f : PFr) : sumI g (L ++ [f]) = sumI g L + g f := by simp [sumI]
theorem sumI_app (g : PFr -> Int) (L M : List PFr) : sumI g (L ++ M) = sumI g L + sumI g M := by
 have key : ∀ (M : List PFr) (a : Int), M.foldl (fun a f => a + g f) a = a + M.foldl (fun a f => a + g f) 0 := by
  intro M
  induction M with
  | nil => intro a; simp
  | cons f M ih => intro a; rw [List.foldl_cons, List.foldl_cons, ih, ih (0 + g f)]; omega
 unfold sumI
 rw [List.foldl_append, key]
theorem sumI_cons (g : PFr -> Int) (f : PFr) (L : List PFr) : sumI g (f :: L) = g f + sumI g L := by
 have := sumI_app g [f] L
 simpa [sumI] using this
def overB (s : PSys) (x : PSt) : Bool :=
 ((List.range s.pools.length).any fun i => decide ((s.pools.getD i default).size < sumI (frU s i) (frames x))) ||
 ((List.range s.classes.length).any fun i => (s.classes.getD i default).server && decide ((s.classes.getD i default).workers < sumI (frE s i) (frames x))) ||
 ((List.range s.locks.length).any fun i => decide (1 < sumI (frL s i) (frames x)))
def stErr (s : PSys) (x : PSt) : Int :=
 if checkE s ≠ 0 then checkE s else if (wkL s).length ≠ x.length then 3 else if fmdAll s x (wkL s) = false then 3 else if overB s x = true then 11 else 0
def topF (l : List PFr) : PFr := l.getD (l.length - 1) default
def topS (s : PSys) (x : PSt) (w : Nat) : PStep := stepAtF s (topF (x.getD w []))
def posB (s : PSys) (L : List PFr) (x : PStep) : Bool :=
 if x.kind = 1 then
  let left := (s.pools.getD x.on.toNat default).size - sumI (frU s x.on.toNat) L - x.cnt
  (x.deep && decide (0 <= left)) || decide ((s.pools.getD x.on.toNat default).res <= left)
 else if x.kind = 3 then decide (sumI (frL s x.on.toNat) L = 0)
 else if x.kind = 5 then decide (sumI (frE s x.on.toNat) L < (s.classes.getD x.on.toNat default).workers)
 else true
def ableB (s : PSys) (x : PSt) (w : Nat) : Bool := posB s (frames x) (topS s x w)
def ableL (s : PSys) (x : PSt) : List Nat := (List.range x.length).filter (ableB s x)
def upR (s : PSys) : List PFr -> List PFr
 | [] => []
 | f :: r => if f.a + 1 < (clsAt s f).steps.length then ⟨f.c, f.a + 1⟩ :: r else match r with
  | [] => [⟨f.c, 0⟩]
  | g :: r' => upR s (g :: r')
def takeS (s : PSys) (l : List PFr) : List PFr :=
 if (stepAtF s (topF l)).kind = 5 then l ++ [⟨(stepAtF s (topF l)).on, 0⟩] else (upR s l.reverse).reverse
def takeX (s : PSys) (x : PSt) (w : Nat) : PSt := x.set w (takeS s (x.getD w []))
def iniX (s : PSys) : PSt := (wkL s).map fun c : Nat => [⟨(c : Int), 0⟩]
def stepX (s : PSys) (x : PSt) (w : Int) : PSt × Int :=
 if stErr s x ≠ 0 then ([], stErr s x) else if w < 0 ∨ (x.length : Int) <= w then ([], 6) else if ableB s x w.toNat = false then ([], 11) else (takeX s x w.toNat, 0)
end Go.AM
namespace Go.AM
open Go Go.Proofs
def wkR (ds : List D) (v : AV) : Prop := ∃ s : PSys, ds = [sysD s] /\ s.good /\ v = .dat (.sl none (natsD (wkL s)))
theorem wkC_cons {k : Nat} {c : PCls} {r : List PCls} : wkC k (c :: r) = (if c.server = true then [] else List.replicate c.workers.toNat k) ++ wkC (k + 1) r := rfl
theorem wkC_len {s : PSys} (hg : s.good) : ∀ {k : Nat} {L : List PCls}, (∀ c ∈ L, c.workers <= 4) -> (wkC k L).length <= 4 * L.length
 | _, [], _ => by simp [wkC]
 | k, c :: r, h => by
  have h1 := wkC_len hg (k := k + 1) (L := r) (fun c hc => h c (by simp [hc]))
  have h2 := h c (by simp)
  rw [wkC_cons, List.length_append, List.length_cons]
  split
  ·simp; omega
  ·rw [List.length_replicate]; omega
theorem wkL_len {s : PSys} (hg : s.good) : (wkL s).length <= 24 := by
 have := wkC_len hg (k := 0) (L := s.classes) (fun c hc => (hg.cls c hc).w4)
 have := hg.nc
 unfold wkL; omega
theorem workers_ok : OkF Try.prog 29 (dataC wkR) := by
 refine okF_data Try.func29 rfl (by decide) ?_
 rintro ds v ⟨s, rfl, hg, rfl⟩
 have hlen := wkL_len hg
 have hnc := hg.nc
 refine sem_of_awpK [2] (Γ := tbl []) okG_nil _ _ _ ?_
 simp only [go_sem, Try.ntmps29, sysD]
 refine sem_le (le_addnil 3 none rfl (Nat.zero_le _)) ?_
 refine sem_of_awp (Γ := tbl []) okG_nil _ _ _ ?_
 simp only [go_sem, List.length_map]
 have h00 : wkL s = [] ++ wkC 0 (s.classes.drop 0) := rfl
 generalize wkL s = W at *
 refine sem_loop (fun p : Nat × List Nat => ⟨slotsOf 28 [(1, .ptr 0 0 0), (3, .sl 1 0 p.2.length), (7, .dat (.sl (some 4) (s.classes.map clsD))), (8, .dat (.int .i64 s.classes.length)), (9, .dat (.int .i64 p.1))], [sysO s, .row none (natsD p.2)], 0, []⟩)
  (fun p => p.1 <= s.classes.length /\ W = p.2 ++ wkC p.1 (s.classes.drop p.1)) (fun p => s.classes.length - p.1) (0, []) ⟨Nat.zero_le _, h00⟩ ?_ ?_
 ·exact le_slots' (by simp only [go_sem, Int.natCast_zero, List.length_nil])
 rintro ⟨k, A⟩ ⟨hk, hA⟩
 simp only at hk hA
 cases hd : s.classes.drop k with
 | nil =>
  have := end_of_drop hd hk
  have hk2 : ¬ (k : Int) < s.classes.length := by omega
  rw [hd, wkC, List.append_nil] at hA
  refine sem_le (le_freeze 1 (ag := none) rfl (Nat.zero_le _)) ?_
  refine sem_of_awp (Γ := tbl []) okG_nil _ _ _ ?_
  simp only [go_sem, hk2, nats_take, nats_len, List.drop_zero, Nat.le_refl]
  rw [hA]
  exact post_data (.inl rfl) [2] rfl trivial rfl
 | cons c r =>
 have hlt := lt_of_drop hd
 have hk2 : (k : Int) < s.classes.length := by omega
 have hk0 : (0 : Int) <= k := Int.natCast_nonneg k
 have hn := nth_of_drop (f := clsD) hd
 have hc := hg.cls c (mem_of_drop hd)
 have hw4 := hc.w4
 have hw0 := hc.w0
 have hr := drop_cons hd
 rw [hd, wkC_cons] at hA
 refine sem_of_awp (Γ := tbl []) okG_nil _ _ _ ?_
 simp only [go_sem, hk2, hk0, hlt, hn, clsD, stepsD, List.length_map]
 refine sem_loop (fun j : Nat => ⟨slotsOf 28 [(1, .ptr 0 0 0), (3, .sl 1 0 (A ++ (if c.server = true then [] else List.replicate j k)).length), (4, .dat (.int .i64 k)), (5, .ptr 2 0 0), (7, .dat (.sl (some 4) (s.classes.map clsD))), (8, .dat (.int .i64 s.classes.length)), (9, .dat (.int .i64 k)), (15, .dat (.int .i64 c.workers)), (16, .dat (.int .i64 j))], [sysO s, .row none (natsD (A ++ (if c.server = true then [] else List.replicate j k))), clsO c], 0, []⟩)
  (fun j => (j : Int) <= c.workers) (fun j => c.workers.toNat - j) 0 (by simpa using hw0) ?_ ?_
 ·have e : A ++ (if c.server = true then [] else List.replicate 0 k) = A := by split <;> simp
  rw [e]
  exact le_slots' (by simp only [go_sem, Int.natCast_zero])
 rintro j hj
 refine sem_of_awp (Γ := tbl []) okG_nil _ _ _ ?_
 by_cases hje : (j : Int) = c.workers
 ·have hj2 : ¬ (j : Int) < c.workers := by omega
  have hjt : c.workers.toNat = j := by omega
  rw [hjt] at hA
  simp only [go_sem, hj2]
  refine ⟨inR_i64.2 (by omega), (k + 1, A ++ (if c.server = true then [] else List.replicate j k)), ⟨by omega, by simp only; rw [hr, List.append_assoc]; exact hA⟩, by simp only; omega, ?_⟩
  refine le_end (own := [_, _]) (ex := [_]) (Nat.zero_le _) ?_ ?_ ?_
  ·simp only [go_sem, Int.natCast_add, Int.cast_ofNat_Int]
  ·simp only [go_sem]
  ·simp only [go_sem, Obj.under, AV.unders, AV.under]
 have hj2 : (j : Int) < c.workers := by omega
 cases hsv : c.server with
 | true =>
  simp only [go_sem, hj2, hsv]
  refine ⟨inR_i64.2 (by omega), j + 1, by omega, by omega, ?_⟩
  exact le_slots' (by simp only [go_sem, Int.natCast_add, Int.cast_ofNat_Int])
 | false =>
  have hB : (A ++ List.replicate j k).length <= 24 := by
   have := congrArg List.length hA
   rw [hsv, if_neg (by decide)] at this
   simp only [List.length_append, List.length_replicate] at this ⊢
   omega
  have hsn : natsD (A ++ List.replicate j k) ++ [.int .i64 (k : Int)] = natsD (A ++ List.replicate (j + 1) k) := by rw [nats_snoc, List.append_assoc, ← List.replicate_succ']
  have hln : A.length + (j + 1) = (A ++ List.replicate j k).length + 1 := by simp; omega
  have htk : List.take (A ++ List.replicate j k).length (natsD (A ++ List.replicate j k)) = natsD (A ++ List.replicate j k) := nats_take
  have hnl : (natsD (A ++ List.replicate j k)).length = (A ++ List.replicate j k).length := nats_len
  simp only [Bool.false_eq_true, if_false]
  generalize hX : A ++ List.replicate j k = X at *
  simp only [go_sem, hj2, hsv, Bool.not_false, htk, hnl, hsn]
  refine ⟨by omega, by omega, inR_i64.2 (by omega), j + 1, by omega, by omega, ?_⟩
  have hcO : clsO c = .box [.dat (.str c.name), .dat (.int .i64 c.workers), .dat (.bool false), .dat (.sl (some 4) (c.steps.map stepD))] := by unfold clsO; rw [hsv]
  rw [hln, hcO]
  refine le_end (own := [_, _, _]) (ex := [_]) (Nat.zero_le _) ?_ ?_ ?_
  ·simp only [go_sem, Int.natCast_add, Int.cast_ofNat_Int, hsv]
  ·simp only [go_sem]
  ·simp only [go_sem, Obj.under, AV.unders, AV.under]
end Go.AM
namespace Go.AM
open Go Go.Proofs
def cntW : Int -> List PCls -> Int
 | n, [] => n
 | n, c :: r => cntW (if c.server = true then n else n + max 0 (min c.workers 9)) r
def few4B (s : PSys) : Bool := fewB s && decide (s.classes.length <= 4) && (s.classes.all fun c => decide (c.steps.length <= 8)) && decide (cntW 0 s.classes <= 4)
def few4R (ds : List D) (v : AV) : Prop := ∃ s : PSys, ds = [sysD s] /\ v = .dat (.bool (few4B s))
abbrev tabF4 : List (Nat × Contract) := [(11, dataC fewR)]
end Go.AM
namespace Go.AM
open Go Go.Proofs
def fmR (ds : List D) (v : AV) : Prop := ∃ (s : PSys) (l : List PFr) (c : Nat), ds = [sysD s, stackD l, .int .i64 c] /\ s.good /\ l.length <= 1000 /\ v = .dat (.bool (formedB s l c))
theorem fmd_cons {s : PSys} {p : Option PFr} {f : PFr} {r : List PFr} : fmd s p (f :: r) = (frOk s f && (match p with | none => true | some q => callsB s q f) && fmd s (some f) r) := rfl
theorem frOk_iff {s : PSys} {f : PFr} : frOk s f = true ↔ 0 <= f.c /\ f.c < s.classes.length /\ 0 <= f.a /\ f.a < (clsAt s f).steps.length := by
 simp only [frOk, Bool.and_eq_true, decide_eq_true_eq]; constructor
 ·rintro ⟨⟨⟨a, b⟩, c⟩, d⟩; exact ⟨a, b, c, d⟩
 ·rintro ⟨a, b, c, d⟩; exact ⟨⟨⟨a, b⟩, c⟩, d⟩
theorem cls_nth {s : PSys} {f : PFr} (h0 : 0 <= f.c) (h : f.c < s.classes.length) : ∃ i : Nat, f.c = i /\ i < s.classes.length /\ D.nth (s.classes.map clsD) i = clsD (clsAt s f) := by
 refine ⟨f.c.toNat, by omega, by omega, ?_⟩
 exact D.nth_map (by omega)
theorem step_nth {s : PSys} {f : PFr} (h0 : 0 <= f.a) (h : f.a < (clsAt s f).steps.length) : ∃ a : Nat, f.a = a /\ a < (clsAt s f).steps.length /\ D.nth ((clsAt s f).steps.map stepD) a = stepD (stepAtF s f) := by
 refine ⟨f.a.toNat, by omega, by omega, ?_⟩
 exact D.nth_map (by omega)
theorem formed_ok : OkF Try.prog 51 (dataC fmR) := by
 refine okF_data Try.func51 rfl (by decide) ?_
 rintro ds v ⟨s, l, c, rfl, hg, hl, rfl⟩
 have hnc := hg.nc
 generalize hv : formedB s l c = V
 refine sem_of_awp (Γ := tbl []) okG_nil _ _ _ ?_
 cases l with
 | nil =>
  unfold formedB at hv
  subst hv
  simp only [go_sem, Try.ntmps51, sysD, stackD, List.map_nil, List.length_nil]
  exact post_data (.inl rfl) [6] rfl trivial rfl
 | cons f0 r0 =>
 have hlen : (f0 :: r0).length = r0.length + 1 := rfl
 have h0n : D.nth (frsD (f0 :: r0)) 0 = frD f0 := rfl
 have hl0 : ¬ ((f0 :: r0).length : Int) = 0 := by omega
 have hl1 : (0 : Int) < (f0 :: r0).length := by omega
 have hl2 : 0 < (f0 :: r0).length := by omega
 have hfl : (frsD (f0 :: r0)).length = (f0 :: r0).length := by simp
 unfold formedB at hv
 simp only at hv
 generalize hle : (f0 :: r0) = l at *
 by_cases hc : f0.c = c
 case neg =>
  rw [decide_eq_false hc, Bool.false_and] at hv
  subst hv
  simp only [go_sem, Try.ntmps51, sysD, stackD, hfl, hl0, hl1, hl2, h0n, frD, hc]
  exact post_data (.inl rfl) [6] rfl trivial rfl
 rw [decide_eq_true hc, Bool.true_and] at hv
 simp only [go_sem, Try.ntmps51, sysD, stackD, hfl, hl0, hl1, hl2, h0n, frD, hc]
 refine sem_loop (fun k : Nat => ⟨slotsOf 89 [(1, .dat (.sl (some 2) (frsD l))), (3, .ptr 0 0 0), (21, .dat (.sl (some 2) (frsD l))), (22, .dat (.int .i64 l.length)), (23, .dat (.int .i64 k))], [sysO s], 0, []⟩)
  (fun k => k <= l.length /\ fmd s (if k = 0 then none else some (l.getD (k - 1) default)) (l.drop k) = V /\ (0 < k -> frOk s (l.getD (k - 1) default) = true)) (fun k => l.length - k) 0 ⟨Nat.zero_le _, hv, fun h => by omega⟩ ?_ ?_
 ·exact le_slots' (by simp only [go_sem, Int.natCast_zero])
 rintro k ⟨hk, hv, hpr⟩
 refine sem_of_awp (Γ := tbl []) okG_nil _ _ _ ?_
 cases hd : l.drop k with
 | nil =>
  have := end_of_drop hd hk
  have hk2 : ¬ (k : Int) < l.length := by omega
  rw [hd, fmd] at hv
  subst hv
  simp only [go_sem, hk2]
  exact post_data (.inl rfl) [6] rfl trivial rfl
 | cons f r =>
 have hlt := lt_of_drop hd
 have hk2 : (k : Int) < l.length := by omega
 have hk0 : (0 : Int) <= k := Int.natCast_nonneg k
 have hn := nth_of_drop (f := frD) hd
 have hr := drop_cons hd
 have hfd := getD_of_drop (d := default) hd
 rw [hd, fmd_cons] at hv
 have bad : ∀ (b : Bool), frOk s f = false -> V = false := fun _ h => by rw [h] at hv; simpa using hv.symm
 have hFO := frOk_iff (s := s) (f := f)
 have bad2 : ¬ (0 <= f.c /\ f.c < s.classes.length /\ 0 <= f.a /\ f.a < (clsAt s f).steps.length) -> V = false := fun h => bad true (by cases hx : frOk s f with | false => rfl | true => exact absurd (hFO.1 hx) h)
 by_cases c1 : f.c < 0
 ·obtain rfl := bad2 (by omega)
  simp only [go_sem, hk2, hk0, hlt, hn, frD, hfl]
  refine sem_draw (pf := []) (Γ := tbl []) mixed okG_nil pureNo [0, 1, 2, 3, 4, 5, 6, 7, 8, 9, 10, 11, 12, 13, 14, 15, 16, 17, 18, 19, 20, 21, 22, 23, 24, 25, 26, 27, 28] (by kernel_rfl) ?_
  simp only [go_sem, chainI, c1]
  exact post_data (.inl rfl) [6] rfl trivial rfl
 by_cases c2 : (s.classes.length : Int) <= f.c
 ·obtain rfl := bad2 (by omega)
  simp only [go_sem, hk2, hk0, hlt, hn, frD, hfl]
  refine sem_draw (pf := []) (Γ := tbl []) mixed okG_nil pureNo [0, 1, 2, 3, 4, 5, 6, 7, 8, 9, 10, 11, 12, 13, 14, 15, 16, 17, 18, 19, 20, 21, 22, 23, 24, 25, 26, 27, 28] (by kernel_rfl) ?_
  simp only [go_sem, chainI, c1, c2, List.length_map]
  exact post_data (.inl rfl) [6] rfl trivial rfl
 by_cases c3 : f.a < 0
 ·obtain rfl := bad2 (by omega)
  simp only [go_sem, hk2, hk0, hlt, hn, frD, hfl]
  refine sem_draw (pf := []) (Γ := tbl []) mixed okG_nil pureNo [0, 1, 2, 3, 4, 5, 6, 7, 8, 9, 10, 11, 12, 13, 14, 15, 16, 17, 18, 19, 20, 21, 22, 23, 24, 25, 26, 27, 28] (by kernel_rfl) ?_
  simp only [go_sem, chainI, c1, c2, c3, List.length_map]
  exact post_data (.inl rfl) [6] rfl trivial rfl
 obtain ⟨i, hi, hil, hin⟩ := cls_nth (s := s) (f := f) (by omega) (by omega)
 have hi2 : (i : Int) < s.classes.length := by omega
 have hi0 : (0 : Int) <= i := Int.natCast_nonneg i
 have c1' : ¬ (i : Int) < 0 := by omega
 have c2' : ¬ (s.classes.length : Int) <= i := by omega
 by_cases c4 : ((clsAt s f).steps.length : Int) <= f.a
 ·obtain rfl := bad2 (by omega)
  generalize clsAt s f = cl at *
  simp only [go_sem, hk2, hk0, hlt, hn, frD, hfl]
  refine sem_draw (pf := []) (Γ := tbl []) mixed okG_nil pureNo [0, 1, 2, 3, 4, 5, 6, 7, 8, 9, 10, 11, 12, 13, 14, 15, 16, 17, 18, 19, 20, 21, 22, 23, 24, 25, 26, 27, 28] (by kernel_rfl) ?_
  simp only [go_sem, chainI, hi, c1', c2', c3, c4, hi2, hi0, hil, hin, clsD, stepsD, List.length_map]
  exact post_data (.inl rfl) [6] rfl trivial rfl
 have hfo : frOk s f = true := hFO.2 (by omega)
 rw [hfo, Bool.true_and] at hv
 simp only [go_sem, hk2, hk0, hlt, hn, frD, hfl]
 refine sem_draw (pf := []) (Γ := tbl []) mixed okG_nil pureNo [0, 1, 2, 3, 4, 5, 6, 7, 8, 9, 10, 11, 12, 13, 14, 15, 16, 17, 18, 19, 20, 21, 22, 23, 24, 25, 26, 27, 28] (by kernel_rfl) ?_
 have fin : ∀ {sl : List AV} {ex : List Obj}, fmd s (some f) r = V -> slotsLe sl (slotsOf 89 [(1, .dat (.sl (some 2) (frsD l))), (3, .ptr 0 0 0), (21, .dat (.sl (some 2) (frsD l))), (22, .dat (.int .i64 l.length)), (23, .dat (.int .i64 (k + 1 : Nat)))]) ->
   ∃ x : Nat, (x <= l.length /\ fmd s (if x = 0 then none else some (l.getD (x - 1) default)) (l.drop x) = V /\ (0 < x -> frOk s (l.getD (x - 1) default) = true)) /\ l.length - x < l.length - k /\ Le ⟨sl, [sysO s] ++ ex, 0, []⟩ ⟨slotsOf 89 [(1, .dat (.sl (some 2) (frsD l))), (3, .ptr 0 0 0), (21, .dat (.sl (some 2) (frsD l))), (22, .dat (.int .i64 l.length)), (23, .dat (.int .i64 x))], [sysO s], 0, []⟩ := by
  intro sl ex hvv hsl
  refine ⟨k + 1, ⟨by omega, by rw [if_neg (by omega), Nat.add_sub_cancel, hfd, hr]; exact hvv, fun _ => by rw [Nat.add_sub_cancel, hfd]; exact hfo⟩, by omega, ?_⟩
  refine le_end (own := [_]) (ex := ex) (Nat.zero_le _) hsl ?_ ?_
  ·simp only [go_sem]
  ·simp only [go_sem, Obj.under, AV.unders, AV.under]
 by_cases hkz : k = 0
 ·subst hkz
  rw [if_pos rfl] at hv
  have hv : fmd s (some f) r = V := by simpa using hv
  have hz : ((0 : Nat) : Int) = 0 := rfl
  generalize clsAt s f = cl at *
  simp only [go_sem, chainI, hi, c1', c2', c3, c4, hi2, hi0, hil, hin, clsD, stepsD, List.length_map, hz]
  refine ⟨inR_i64.2 (by omega), ?_⟩
  exact fin (ex := [_]) hv (by simp only [go_sem, Int.natCast_add, Int.cast_ofNat_Int])
 have hkz2 : ¬ (k : Int) = 0 := by omega
 rw [if_neg hkz] at hv
 have hq := hpr (by omega)
 have hqn : D.nth (frsD l) (k - 1) = frD (l.getD (k - 1) default) := D.nth_map (by omega)
 have hq1 : (k : Int) - 1 = ((k - 1 : Nat) : Int) := by omega
 have hq2 : ((k - 1 : Nat) : Int) < l.length := by omega
 have hq3 : k - 1 < l.length := by omega
 have hq4 : (0 : Int) <= ((k - 1 : Nat) : Int) := Int.natCast_nonneg _
 generalize l.getD (k - 1) default = q at *
 obtain ⟨d1, d2, d3, d4⟩ := frOk_iff.1 hq
 obtain ⟨j, hj, hjl, hjn⟩ := cls_nth (s := s) (f := q) d1 d2
 obtain ⟨b, hb, hbl, hbn⟩ := step_nth (s := s) (f := q) d3 d4
 have hj2 : (j : Int) < s.classes.length := by omega
 have hj0 : (0 : Int) <= j := Int.natCast_nonneg j
 have hb2 : (b : Int) < (clsAt s q).steps.length := by omega
 have hb0 : (0 : Int) <= b := Int.natCast_nonneg b
 simp only at hv
 unfold callsB at hv
 generalize stepAtF s q = x at *
 generalize clsAt s q = cq at *
 generalize clsAt s f = cl at *
 simp only [go_sem, chainI, hi, c1', c2', c3, c4, hi2, hi0, hil, hin, clsD, stepsD, List.length_map, hkz2]
 refine sem_drawY [] [] (pf := []) (mf := []) mixed okG_nil pureNo noMk (ones [0, 1, 2, 3, 4, 5, 6, 7, 8, 9, 10, 11, 12, 13, 14, 15, 16, 17, 18, 19, 20]) (by kernel_rfl) ?_
 by_cases k5 : x.kind = 5
 case neg =>
  rw [decide_eq_false k5, Bool.false_and, Bool.false_and] at hv
  subst hv
  simp only [go_sem, hq1, hq2, hq3, hq4, hqn, frD, hj, hj2, hj0, hjl, hjn, clsD, stepsD, hb, hb2, hb0, hbl, hbn, stepD, hfl, List.length_map, k5]
  refine ⟨inR_i64.2 (by omega), inR_i64.2 (by omega), ?_⟩
  exact post_data (.inl rfl) [6] rfl trivial rfl
 rw [decide_eq_true k5, Bool.true_and] at hv
 by_cases kc : x.on = f.c
 case neg =>
  rw [decide_eq_false kc, Bool.false_and] at hv
  subst hv
  rw [hi] at kc
  simp only [go_sem, hq1, hq2, hq3, hq4, hqn, frD, hj, hj2, hj0, hjl, hjn, clsD, stepsD, hb, hb2, hb0, hbl, hbn, stepD, hfl, List.length_map, k5, kc]
  refine ⟨inR_i64.2 (by omega), inR_i64.2 (by omega), ?_⟩
  exact post_data (.inl rfl) [6] rfl trivial rfl
 rw [decide_eq_true kc, Bool.true_and] at hv
 rw [hi] at kc
 simp only [go_sem, hq1, hq2, hq3, hq4, hqn, frD, hj, hj2, hj0, hjl, hjn, clsD, stepsD, hb, hb2, hb0, hbl, hbn, stepD, hfl, List.length_map, k5, kc]
 refine ⟨inR_i64.2 (by omega), inR_i64.2 (by omega), inR_i64.2 (by omega), ?_⟩
 exact fin (ex := [_, _]) hv (by simp only [go_sem, Int.natCast_add, Int.cast_ofNat_Int])
end Go.AM
namespace Go.AM
open Go
theorem le_renP {s : List AV} {own own' : List Obj} {mv : List Nat} (π ρ : Nat -> Nat) (h1 : ∀ o, ρ (π o) = o) (h2 : ∀ o, π (ρ o) = o) (hlt : ∀ o, o < own.length -> ρ o < own.length) (hlt' : ∀ o, o < own.length -> π o < own.length)
  (ho : own' = (List.range own.length).map fun o => (own.getD (ρ o) .dead).ren π) : Le ⟨s, own, 0, mv⟩ ⟨AV.rens π s, own', 0, mv⟩ := by
 rintro c a w ⟨hd, hn, F, φ, q2, q3, q4⟩
 have hφ : ∀ o L, φ o = some L -> (fun i => φ (ρ i)) (π o) = some L := fun o L h => by simp only [h1]; exact h
 have hl : own'.length = own.length := by rw [ho]; simp
 have hn0 : c.n0 = 0 := hn.symm
 refine ⟨hd, hn, F, fun i => φ (ρ i), ⟨q2.sub, q2.ext, fun o L hlt' hm h => ?_, q2.rest, fun o L' ho' hn' => q2.orig (ρ o) L' ho' hn', q2.frsh⟩, ?_, AV.Rs_ren (π := π) (φ := φ) (φ' := fun i => φ (ρ i)) hφ s _ q4⟩
 ·omega
 ·refine ⟨q3.fb, fun o L h => q3.live (ρ o) L h, fun o o' L L' h h' n n' hne => q3.inj (ρ o) (ρ o') L L' h h' n n' (fun e => hne (by rw [← h2 o, ← h2 o', e])), fun o obj hob => ?_, fun o hge => ?_, q3.glob⟩
  ·have hlt3 : o < own.length := by
    have := (List.getElem?_eq_some_iff.1 hob).1
    simp only [hl] at this
    exact this
   simp only [ho, List.getElem?_map, List.getElem?_range hlt3, Option.map_some, Option.some.injEq] at hob
   subst hob
   have hp := hlt o hlt3
   have := q3.rep (ρ o) (own.getD (ρ o) .dead) (by simp only; rw [List.getD_eq_getElem?_getD, List.getElem?_eq_getElem hp]; rfl)
   exact ObjR_ren (π := π) (φ := φ) (φ' := fun i => φ (ρ i)) hφ this
  ·simp only [hl] at hge
   refine q3.out (ρ o) ?_
   simp only
   rcases Nat.lt_or_ge (ρ o) own.length with h | h
   ·have := hlt' _ h
    rw [h2] at this
    omega
   ·exact h
def pm (l : List Nat) (o : Nat) : Nat := l.getD o o
def pmOk (l m : List Nat) : Bool := decide (m.length = l.length) && (List.range l.length).all fun o => decide (pm m (pm l o) = o) && decide (pm l (pm m o) = o) && decide (pm m o < l.length) && decide (pm l o < l.length)
theorem le_pm {s s' : List AV} {own own' : List Obj} {mv : List Nat} (l m : List Nat) (h : pmOk l m = true) (hl : own.length = l.length) (hs : s' = AV.rens (pm l) s) (ho : own' = (List.range own.length).map fun o => (own.getD (pm m o) .dead).ren (pm l)) :
  Le ⟨s, own, 0, mv⟩ ⟨s', own', 0, mv⟩ := by
 subst hs
 simp only [pmOk, Bool.and_eq_true, decide_eq_true_eq, List.all_eq_true, List.mem_range] at h
 obtain ⟨hml, h⟩ := h
 have hb : ∀ o, l.length <= o -> pm l o = o /\ pm m o = o := fun o ho => by
  unfold pm
  rw [List.getD_eq_getElem?_getD, List.getD_eq_getElem?_getD, List.getElem?_eq_none (by omega), List.getElem?_eq_none (by omega)]
  exact ⟨rfl, rfl⟩
 have hc : ∀ o, pm m (pm l o) = o /\ pm l (pm m o) = o := fun o => by
  rcases Nat.lt_or_ge o l.length with hh | hh
  ·exact (h o hh).1.1
  ·obtain ⟨e1, e2⟩ := hb o hh; rw [e1, e2, e1]; exact ⟨rfl, rfl⟩
 exact le_renP (pm l) (pm m) (fun o => (hc o).1) (fun o => (hc o).2) (fun o ho => by rw [hl] at ho ⊢; exact (h o ho).1.2) (fun o ho => by rw [hl] at ho ⊢; exact (h o ho).2) ho
def permT : Nat -> List Nat -> DT -> DT
 | 0, _, t => t
 | f + 1, rest, t => rest.foldr (fun x u => .alt x (permT f (rest.erase x) t) u) .stop
end Go.AM

