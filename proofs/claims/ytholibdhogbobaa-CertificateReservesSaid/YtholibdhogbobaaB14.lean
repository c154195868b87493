/- Own work over the model of the kit. -/
import Derived.Test.YtholibdhogbobaaB13
import Derived.Test.YtholibdhogbobaaB12
set_option linter.unusedSimpArgs false
set_option linter.unusedVariables false
set_option maxRecDepth 8000
set_option maxHeartbeats 1000000
namespace Go.AM
open Go Go.Proofs

abbrev sysO (s : PSys) : Obj := .box [.dat (.sl (some 3) (s.pools.map poolD)), .dat (.sl none (s.locks.map .str)), .dat (.sl (some 4) (s.classes.map clsD))]
abbrev tabRK : List (Nat × Contract) := [(53, dataC namesR), (54, dataC isNmR), (55, dataC beforeR), (56, dataC classR)]
def fewB (s : PSys) : Bool := !decide (10 < (s.pools.length : Int)) && !decide (10 < (s.locks.length : Int)) && !decide (10 < (s.classes.length : Int)) && s.classes.all fun c => !decide (20 < (c.steps.length : Int))
def fewR (ds : List D) (v : AV) : Prop := ∃ s : PSys, ds = [sysD s] ∧ v = .dat (.bool (fewB s))
theorem few_ok : OkF Try.prog 11 (dataC fewR) := by
  refine okF_data Try.func11 rfl (by decide) ?_
  rintro ds v ⟨s, rfl, rfl⟩
  generalize hv : fewB s = V
  refine sem_of_awp (Γ := tbl []) okG_nil _ _ _ ?_
  have fin : ∀ s own (b c : Bool), b = c → s.getD 2 .top = .dat (.bool b) → post Try.prog Try.f11 (.dat (.bool c)) [] [] .ret ⟨s, own, 0, []⟩ := fun s own b c e h => by
    subst e
    exact post_data (.inl rfl) [2] rfl trivial (by simp only [tmpsOf, h]; rfl)
  unfold fewB at hv
  simp only [go_sem, Try.ntmps11, sysD]
  by_cases h1 : 10 < (s.pools.length : Int)
  · simp only [go_sem, h1]
    refine fin _ _ _ _ ?_ (by rfl)
    rw [← hv, decide_eq_true h1]; rfl
  by_cases h2 : 10 < (s.locks.length : Int)
  · simp only [go_sem, h1, h2]
    refine fin _ _ _ _ ?_ (by rfl)
    rw [← hv, decide_eq_false h1, decide_eq_true h2]; rfl
  by_cases h3 : 10 < (s.classes.length : Int)
  · simp only [go_sem, h1, h2, h3]
    refine fin _ _ _ _ ?_ (by rfl)
    rw [← hv, decide_eq_false h1, decide_eq_false h2, decide_eq_true h3]; rfl
  rw [decide_eq_false h1, decide_eq_false h2, decide_eq_false h3] at hv
  simp only [Bool.not_false, Bool.true_and] at hv
  simp only [go_sem, h1, h2, h3]
  refine sem_loop (fun k : Nat => ⟨slotsOf 35 [(1, .ptr 0 0 0), (2, .dat (.bool false)), (3, .dat (.int .i64 k))], [sysO s], 0, []⟩)
    (fun k => k ≤ s.classes.length ∧ ((s.classes.drop k).all fun c => !decide (20 < (c.steps.length : Int))) = V) (fun k => s.classes.length - k) 0 ⟨Nat.zero_le _, hv⟩ ?_ ?_
  · exact le_slots' (by simp only [go_sem, Int.natCast_zero])
  · rintro k ⟨hk, hI⟩
    refine sem_of_awp (Γ := tbl []) okG_nil _ _ _ ?_
    cases hd : s.classes.drop k with
    | nil =>
      have := end_of_drop hd hk
      have hk2 : ¬ (k : Int) < s.classes.length := by omega
      rw [hd] at hI
      simp only [go_sem, hk2]
      exact fin _ _ _ _ hI (by rfl)
    | cons c q =>
      have hlt := lt_of_drop hd
      have hk2 : (k : Int) < s.classes.length := by omega
      have hk0 : (0 : Int) ≤ k := Int.natCast_nonneg k
      have hn := nth_of_drop (f := clsD) hd
      rw [hd, List.all_cons] at hI
      simp only [go_sem, hk2, hk0, hn, hlt, clsD, stepsD]
      by_cases he : 20 < (c.steps.length : Int)
      · rw [decide_eq_true he] at hI
        simp only [go_sem, he]
        exact fin _ _ _ _ hI (by rfl)
      · rw [decide_eq_false he, Bool.not_false, Bool.true_and] at hI
        simp only [go_sem, he]
        refine ⟨inR_i64.2 (by omega), k + 1, ⟨by omega, by rw [drop_cons hd]; exact hI⟩, by omega, ?_⟩
        exact le_slots' (by simp only [go_sem, Int.natCast_add, Int.cast_ofNat_Int])
end Go.AM

set_option maxRecDepth 8000
set_option maxHeartbeats 1000000
namespace Go.AM
open Go Go.Proofs

def ustep (pool : Int) (p : Int × Int) (x : PStep) : Int × Int :=
  if x.on = pool then (if x.kind = 1 then (p.1 + x.cnt, if x.deep = true then p.2 + x.cnt else p.2) else if x.kind = 2 then (p.1 - x.cnt, p.2 - min p.2 x.cnt) else p) else p
def ownU (pool : Int) (l : List PStep) : Int × Int := l.foldl (ustep pool) (0, 0)
def selU (d : Bool) (p : Int × Int) : Int := if d = true then p.2 else p.1
def mxN (pool : Int) (d : Bool) (l : List PStep) : Nat → Int
  | 0 => 0
  | k + 1 => max (mxN pool d l k) (selU d (ownU pool (l.take (k + 1))))
theorem ownU_snoc (pool : Int) (l : List PStep) (x : PStep) : ownU pool (l ++ [x]) = ustep pool (ownU pool l) x := by simp [ownU]
theorem ownU_le_mxN (pool : Int) (d : Bool) (l : List PStep) : ∀ k, selU d (ownU pool (l.take k)) ≤ mxN pool d l k
  | 0 => by cases d <;> simp [selU, ownU, mxN]
  | k + 1 => by simp only [mxN]; exact Int.le_max_right _ _
theorem ustep_le {pool : Int} {p : Int × Int} {x : PStep} {b : Int} (hx : -1000 ≤ x.cnt ∧ x.cnt ≤ 1000) (h1 : -b ≤ p.1 ∧ p.1 ≤ b) (h2 : -b ≤ p.2 ∧ p.2 ≤ b) (hb : 0 ≤ b) :
    (-(b + 1000) ≤ (ustep pool p x).1 ∧ (ustep pool p x).1 ≤ b + 1000) ∧ (-(b + 1000) ≤ (ustep pool p x).2 ∧ (ustep pool p x).2 ≤ b + 1000) := by
  unfold ustep
  (repeat' split) <;> first | omega | (simp only; omega)
theorem ownU_le (pool : Int) {l : List PStep} (h : Tame l) : ∀ k : Nat, k ≤ l.length → (-(1000 * (k : Int)) ≤ (ownU pool (l.take k)).1 ∧ (ownU pool (l.take k)).1 ≤ 1000 * k) ∧ (-(1000 * (k : Int)) ≤ (ownU pool (l.take k)).2 ∧ (ownU pool (l.take k)).2 ≤ 1000 * k)
  | 0, _ => by simp [ownU]
  | k + 1, hk => by
    obtain ⟨h1, h2⟩ := ownU_le pool h k (by omega)
    have hx := h l[k] (List.getElem_mem _)
    rw [List.take_succ_eq_append_getElem (by omega), ownU_snoc]
    have := ustep_le (pool := pool) hx h1 h2 (by omega)
    omega
theorem mxN_le (pool : Int) (d : Bool) {l : List PStep} (h : Tame l) : ∀ k : Nat, k ≤ l.length → 0 ≤ mxN pool d l k ∧ mxN pool d l k ≤ 1000 * k
  | 0, _ => by simp [mxN]
  | k + 1, hk => by
    have h0 := mxN_le pool d h k (by omega)
    have h1 := ownU_le pool h (k + 1) hk
    simp only [mxN]
    have h2 : selU d (ownU pool (l.take (k + 1))) ≤ 1000 * ((k + 1 : Nat) : Int) := by
      unfold selU; split
      · exact h1.2.2
      · exact h1.1.2
    omega

abbrev clsO (c : PCls) : Obj := .box [.dat (.str c.name), .dat (.int .i64 c.workers), .dat (.bool c.server), .dat (.sl (some 4) (c.steps.map stepD))]
def peakR (ds : List D) (v : AV) : Prop := ∃ (c : PCls) (pool : Int), ds = [clsD c, .int .i64 pool] ∧ Tame c.steps ∧ c.steps.length ≤ 1000 ∧
  v = .tup [.dat (.int .i64 (mxN pool false c.steps c.steps.length)), .dat (.int .i64 (mxN pool true c.steps c.steps.length))]
theorem peak_ok : OkF Try.prog 74 (dataC peakR) := by
  refine okF_data Try.func74 rfl (by decide) ?_
  rintro ds v ⟨c, pool, rfl, hT, hlen, rfl⟩
  refine sem_of_awp (Γ := tbl []) okG_nil _ _ _ ?_
  obtain ⟨name, workers, server, l⟩ := c
  simp only at hT hlen
  simp only [go_sem, Try.ntmps74, clsD, stepsD]
  refine sem_loop (fun k : Nat => ⟨slotsOf 58 [(1, .dat (.int .i64 pool)), (2, .ptr 0 0 0), (4, .dat (.int .i64 0)), (5, .dat (.int .i64 0)), (6, .dat (.int .i64 (ownU pool (l.take k)).1)), (7, .dat (.int .i64 (ownU pool (l.take k)).2)), (8, .dat (.int .i64 (mxN pool false l k))), (9, .dat (.int .i64 (mxN pool true l k))),
      (13, .dat (.sl (some 4) (l.map stepD))), (14, .dat (.int .i64 l.length)), (15, .dat (.int .i64 k))], [clsO ⟨name, workers, server, l⟩], 0, []⟩)
    (fun k => k ≤ l.length) (fun k => l.length - k) 0 (Nat.zero_le _) ?_ ?_
  · exact le_slots' (by simp only [go_sem, Int.natCast_zero, ownU, List.foldl_nil, mxN])
  · rintro k hk
    refine sem_of_awp (Γ := tbl []) okG_nil _ _ _ ?_
    cases hd : l.drop k with
    | nil =>
      have := end_of_drop hd hk
      obtain rfl : k = l.length := by omega
      have hk2 : ¬ (l.length : Int) < l.length := by omega
      simp only [go_sem, hk2]
      exact post_data (.inl rfl) [4, 5] rfl (by simp [AV.under, AV.unders]) (by rfl)
    | cons x q =>
      have hlt := lt_of_drop hd
      have hk2 : (k : Int) < l.length := by omega
      have hk0 : (0 : Int) ≤ k := Int.natCast_nonneg k
      have hn := nth_of_drop (f := stepD) hd
      have hx := hT x (mem_of_drop hd)
      have hgo : inR .i64 ((k : Int) + 1) := inR_i64.2 (by omega)
      have ho := ownU_le pool hT k hk
      have hm1 := mxN_le pool false hT k hk
      have hm2 := mxN_le pool true hT k hk
      have hl1 := ownU_le_mxN pool false l k
      have hl2 := ownU_le_mxN pool true l k
      have hs : ownU pool (l.take (k + 1)) = ustep pool (ownU pool (l.take k)) x := by rw [take_of_drop hd, ownU_snoc]
      have e1 : mxN pool false l (k + 1) = max (mxN pool false l k) (ustep pool (ownU pool (l.take k)) x).1 := by simp only [mxN, hs, selU]; rfl
      have e2 : mxN pool true l (k + 1) = max (mxN pool true l k) (ustep pool (ownU pool (l.take k)) x).2 := by simp only [mxN, hs, selU]; rfl
      simp only [selU, Bool.false_eq_true, if_false, if_true] at hl1 hl2
      generalize ownU pool (l.take k) = p at *
      obtain ⟨a, b⟩ := p
      generalize mxN pool false l k = M at *
      generalize mxN pool true l k = N at *
      simp only at ho hl1 hl2
      by_cases c0 : x.on = pool
      · have c0' : decide (x.on = pool) = true := decide_eq_true c0
        have c1 : decide (x.on ≠ pool) = false := decide_eq_false (fun h => h c0)
        by_cases k1 : x.kind = 1
        · cases hdp : x.deep with
          | true =>
            have hu : ustep pool (a, b) x = (a + x.cnt, b + x.cnt) := by simp [ustep, c0, k1, hdp]
            simp only [hu] at e1 e2 hs
            simp only [go_sem, Int.reduceEq, eq_self, hk2, hk0, hn, hlt, stepD, c0, c0', k1, hdp]
            refine ⟨inR_i64.2 (by omega), inR_i64.2 (by omega), hgo, k + 1, by omega, by omega, ?_⟩
            refine le_end (own := [_]) (ex := [_]) (Nat.zero_le _) ?_ ?_ ?_
            · simp only [go_sem, Int.natCast_add, Int.cast_ofNat_Int, hs, e1, e2]
            · simp only [go_sem]
            · simp only [go_sem, Obj.under, AV.unders, AV.under]
          | false =>
            have hu : ustep pool (a, b) x = (a + x.cnt, b) := by simp [ustep, c0, k1, hdp]
            simp only [hu] at e1 e2 hs
            simp only [go_sem, Int.reduceEq, eq_self, hk2, hk0, hn, hlt, stepD, c0, c0', k1, hdp]
            refine ⟨inR_i64.2 (by omega), hgo, k + 1, by omega, by omega, ?_⟩
            refine le_end (own := [_]) (ex := [_]) (Nat.zero_le _) ?_ ?_ ?_
            · simp only [go_sem, Int.natCast_add, Int.cast_ofNat_Int, hs, e1, e2]
            · simp only [go_sem]
            · simp only [go_sem, Obj.under, AV.unders, AV.under]
        by_cases k2 : x.kind = 2
        · have hu : ustep pool (a, b) x = (a - x.cnt, b - min b x.cnt) := by simp [ustep, c0, k2]
          simp only [hu] at e1 e2 hs
          simp only [go_sem, Int.reduceEq, eq_self, hk2, hk0, hn, hlt, stepD, c0, c0', k1, k2]
          refine ⟨inR_i64.2 (by omega), inR_i64.2 (by omega), hgo, k + 1, by omega, by omega, ?_⟩
          refine le_end (own := [_]) (ex := [_]) (Nat.zero_le _) ?_ ?_ ?_
          · simp only [go_sem, Int.natCast_add, Int.cast_ofNat_Int, hs, e1, e2]
          · simp only [go_sem]
          · simp only [go_sem, Obj.under, AV.unders, AV.under]
        · have hu : ustep pool (a, b) x = (a, b) := by simp [ustep, c0, k1, k2]
          simp only [hu] at e1 e2 hs
          simp only [go_sem, Int.reduceEq, eq_self, hk2, hk0, hn, hlt, stepD, c0, c0', k1, k2]
          refine ⟨hgo, k + 1, by omega, by omega, ?_⟩
          refine le_end (own := [_]) (ex := [_]) (Nat.zero_le _) ?_ ?_ ?_
          · simp only [go_sem, Int.natCast_add, Int.cast_ofNat_Int, hs, e1, e2]
          · simp only [go_sem]
          · simp only [go_sem, Obj.under, AV.unders, AV.under]
      · have c0' : decide (x.on = pool) = false := decide_eq_false c0
        have hu : ustep pool (a, b) x = (a, b) := by simp [ustep, c0]
        simp only [hu] at e1 e2 hs
        rw [Int.max_eq_left hl1] at e1
        rw [Int.max_eq_left hl2] at e2
        simp only [go_sem, Int.reduceEq, eq_self, hk2, hk0, hn, hlt, stepD, c0, c0']
        refine ⟨hgo, k + 1, by omega, by omega, ?_⟩
        refine le_end (own := [_]) (ex := [_]) (Nat.zero_le _) ?_ ?_ ?_
        · simp only [go_sem, Int.natCast_add, Int.cast_ofNat_Int, hs, e1, e2]
        · simp only [go_sem]
        · simp only [go_sem, Obj.under, AV.unders, AV.under]

def unitsR (ds : List D) (v : AV) : Prop := ∃ (c : PCls) (pool : Int) (k : Nat) (d : Bool), ds = [clsD c, .int .i64 pool, .int .i64 k, .bool d] ∧ Tame c.steps ∧ c.steps.length ≤ 1000 ∧ k ≤ c.steps.length ∧
  v = .dat (.int .i64 (selU d (ownU pool (c.steps.take k))))
end Go.AM

set_option maxRecDepth 8000
set_option maxHeartbeats 1000000
namespace Go.AM
open Go Go.Proofs

structure PCls.good (s : PSys) (c : PCls) : Prop where
  w0 : 0 ≤ c.workers
  w4 : c.workers ≤ 4
  l1 : 1 ≤ c.steps.length
  l12 : c.steps.length ≤ 12
  run : verd (runE s c.steps (hold0 s)) = 0
  pre : ∀ x ∈ c.steps, preE s x = 0
structure PSys.good (s : PSys) : Prop where
  np : s.pools.length ≤ 6
  nl : s.locks.length ≤ 4
  nc : s.classes.length ≤ 6
  pool : ∀ p ∈ s.pools, ¬ p.bad
  cls : ∀ c ∈ s.classes, c.good s
theorem verd_pre {s : PSys} : ∀ {l : List PStep} {h : Hold}, verd (runE s l h) = 0 → ∀ x ∈ l, preE s x = 0
  | [], _, _, x, hx => by simp at hx
  | y :: l, h, hv, x, hx => by
    by_cases he : stepE s h.units h.locks y = 0
    · rw [verd_go he] at hv
      rcases List.mem_cons.1 hx with rfl | hx
      · exact stepE_0 he
      · exact verd_pre hv x hx
    · rw [verd_err he] at hv; exact absurd hv he
theorem classE_good {s : PSys} {c : PCls} (h : classE s c = 0) : c.good s := by
  unfold classE at h
  split at h
  · simp at h
  · split at h
    · simp at h
    · exact ⟨by omega, by omega, by omega, by omega, h, verd_pre h⟩
theorem clssE_good {s : PSys} : ∀ {l : List PCls}, clssE s l = 0 → ∀ c ∈ l, c.good s
  | [], _, c, hc => by simp at hc
  | d :: r, h, c, hc => by
    simp only [clssE] at h
    split at h
    · rename_i h2; exact absurd h h2
    · rename_i h2
      have h2 : classE s d = 0 := Classical.byContradiction h2
      rcases List.mem_cons.1 hc with rfl | hc
      · exact classE_good h2
      · exact clssE_good h c hc
theorem good_of {s : PSys} (h : checkE s = 0) : s.good := by
  unfold checkE at h
  split at h
  · simp at h
  · obtain ⟨h1, h2⟩ := thenE_eq0 h
    obtain ⟨h2, h3⟩ := thenE_eq0 h2
    exact ⟨by omega, by omega, by omega, poolsE_0 h2, clssE_good h3⟩
theorem PSys.good.small {s : PSys} (h : s.good) : s.small := ⟨by have := h.np; omega, by have := h.nl; omega, by have := h.nc; omega⟩
theorem PSys.good.tame {s : PSys} (h : s.good) : s.tame := fun p hp => by have := h.pool p hp; unfold PPool.bad at this; omega
theorem PCls.good.steps {s : PSys} {c : PCls} (h : c.good s) (hs : s.good) : Tame c.steps := fun x hx => pre_tame hs.tame (h.pre x hx)

def demC (pool : Int) (d : Bool) (a : Int) (c : PCls) : Int := a + c.workers * mxN pool d c.steps c.steps.length
def demL (pool : Int) (d : Bool) (l : List PCls) : Int := l.foldl (demC pool d) 0
theorem demL_snoc (pool : Int) (d : Bool) (l : List PCls) (c : PCls) : demL pool d (l ++ [c]) = demL pool d l + c.workers * mxN pool d c.steps c.steps.length := by simp [demL, demC]
theorem wmul {w m : Int} (h0 : 0 ≤ w) (h4 : w ≤ 4) (hm : 0 ≤ m ∧ m ≤ 12000) : 0 ≤ w * m ∧ w * m ≤ 48000 := by
  obtain rfl | rfl | rfl | rfl | rfl : w = 0 ∨ w = 1 ∨ w = 2 ∨ w = 3 ∨ w = 4 := by omega
  all_goals omega
theorem mx_le {s : PSys} {c : PCls} (hs : s.good) (h : c.good s) (pool : Int) (d : Bool) : 0 ≤ mxN pool d c.steps c.steps.length ∧ mxN pool d c.steps c.steps.length ≤ 12000 := by
  have := mxN_le pool d (h.steps hs) c.steps.length (Nat.le_refl _)
  have := h.l12
  omega
theorem demL_le {s : PSys} (hs : s.good) (pool : Int) (d : Bool) : ∀ k : Nat, k ≤ s.classes.length → 0 ≤ demL pool d (s.classes.take k) ∧ demL pool d (s.classes.take k) ≤ 48000 * k
  | 0, _ => by simp [demL]
  | k + 1, hk => by
    have h0 := demL_le hs pool d k (by omega)
    have hc := hs.cls s.classes[k] (List.getElem_mem _)
    rw [List.take_succ_eq_append_getElem (by omega), demL_snoc]
    have := wmul hc.w0 hc.w4 (mx_le hs hc pool d)
    omega
def demandR (ds : List D) (v : AV) : Prop := ∃ (s : PSys) (pool : Int), ds = [sysD s, .int .i64 pool] ∧ s.good ∧ v = .tup [.dat (.int .i64 (demL pool false s.classes)), .dat (.int .i64 (demL pool true s.classes))]
theorem demand_ok : OkF Try.prog 51 (dataC demandR) := by
  refine okF_data Try.func51 rfl (by decide) ?_
  rintro ds v ⟨s, pool, rfl, hg, rfl⟩
  have hok : OkG Try.prog (tbl [(74, dataC peakR)]) := okG_cons peak_ok okG_nil
  refine sem_of_awp (Γ := tbl [(74, dataC peakR)]) hok _ _ _ ?_
  have hnc := hg.nc
  simp only [go_sem, Try.ntmps51, sysD]
  refine sem_loop (fun k : Nat => ⟨slotsOf 40 [(1, .dat (.int .i64 pool)), (2, .ptr 0 0 0), (4, .dat (.int .i64 0)), (5, .dat (.int .i64 0)), (6, .dat (.int .i64 (demL pool false (s.classes.take k)))), (7, .dat (.int .i64 (demL pool true (s.classes.take k)))),
      (13, .dat (.sl (some 4) (s.classes.map clsD))), (14, .dat (.int .i64 s.classes.length)), (15, .dat (.int .i64 k))], [sysO s], 0, []⟩)
    (fun k => k ≤ s.classes.length) (fun k => s.classes.length - k) 0 (Nat.zero_le _) ?_ ?_
  · exact le_slots' (by simp only [go_sem, Int.natCast_zero, demL, List.foldl_nil])
  · rintro k hk
    refine sem_of_awp (Γ := tbl [(74, dataC peakR)]) hok _ _ _ ?_
    cases hd : s.classes.drop k with
    | nil =>
      have := end_of_drop hd hk
      obtain rfl : k = s.classes.length := by omega
      have hk2 : ¬ (s.classes.length : Int) < s.classes.length := by omega
      simp only [go_sem, hk2, List.take_length]
      exact post_data (.inl rfl) [4, 5] rfl (by simp [AV.under, AV.unders]) (by rfl)
    | cons c q =>
      have hlt := lt_of_drop hd
      have hk2 : (k : Int) < s.classes.length := by omega
      have hk0 : (0 : Int) ≤ k := Int.natCast_nonneg k
      have hn := nth_of_drop (f := clsD) hd
      have hc := hg.cls c (mem_of_drop hd)
      have hgo : inR .i64 ((k : Int) + 1) := inR_i64.2 (by omega)
      have h1 := demL_le hg pool false k hk
      have h2 := demL_le hg pool true k hk
      have e1 := demL_snoc pool false (s.classes.take k) c
      have e2 := demL_snoc pool true (s.classes.take k) c
      rw [← take_of_drop hd] at e1 e2
      have w1 := wmul hc.w0 hc.w4 (mx_le hg hc pool false)
      have w2 := wmul hc.w0 hc.w4 (mx_le hg hc pool true)
      simp only [go_sem, hk2, hk0, hn, hlt, clsD, stepsD]
      refine call_data peakR (by simp) [clsD c, .int .i64 pool] _ rfl ⟨c, pool, rfl, hc.steps hg, by have := hc.l12; omega, rfl⟩ (.inl rfl) ?_
      simp only [go_sem]
      refine ⟨inR_i64.2 (by omega), inR_i64.2 (by omega), inR_i64.2 (by omega), inR_i64.2 (by omega), hgo, k + 1, by omega, by omega, ?_⟩
      refine le_end (own := [_]) (ex := [_]) (Nat.zero_le _) ?_ ?_ ?_
      · simp only [go_sem, Int.natCast_add, Int.cast_ofNat_Int, e1, e2]
      · simp only [go_sem]
      · simp only [go_sem, Obj.under, AV.unders, AV.under]

def resN (s : PSys) : Int := if checkE s ≠ 0 then 0 else (s.pools.length : Int) + s.locks.length + s.classes.length
def resR (ds : List D) (v : AV) : Prop := ∃ s : PSys, ds = [sysD s] ∧ s.fit ∧ v = .dat (.int .i64 (resN s))
theorem resources_ok : OkF Try.prog 26 (dataC resR) := by
  refine okF_data Try.func26 rfl (by decide) ?_
  rintro ds v ⟨s, rfl, hf, rfl⟩
  refine sem_of_awp (Γ := tbl [(36, dataC checkR)]) (okG_cons check_ok okG_nil) _ _ _ ?_
  simp only [go_sem, Try.ntmps26, sysD]
  refine call_data checkR (by simp) [sysD s] _ rfl ⟨s, rfl, hf, rfl⟩ (.inl rfl) ?_
  have := hf.small.np; have := hf.small.nl; have := hf.small.nc
  by_cases h : checkE s = 0
  · have e : resN s = (s.pools.length : Int) + s.locks.length + s.classes.length := by unfold resN; rw [if_neg (by rw [h]; decide)]
    rw [e]
    simp only [go_sem, h]
    refine ⟨inR_i64.2 (by omega), inR_i64.2 (by omega), ?_⟩
    exact post_data (.inl rfl) [2] rfl trivial (by rfl)
  · have e : resN s = 0 := by unfold resN; rw [if_pos h]
    rw [e]
    simp only [go_sem, h]
    exact post_data (.inl rfl) [2] rfl trivial (by rfl)
def demN (s : PSys) (pool : Int) (d : Bool) : Int := if checkE s ≠ 0 ∨ pool < 0 ∨ (s.pools.length : Int) ≤ pool then -1 else demL pool d s.classes
def demNR (ds : List D) (v : AV) : Prop := ∃ (s : PSys) (pool : Int) (d : Bool), ds = [sysD s, .int .i64 pool, .bool d] ∧ s.fit ∧ v = .dat (.int .i64 (demN s pool d))
abbrev tabDM : List (Nat × Contract) := [(36, dataC checkR), (51, dataC demandR)]
theorem tabDM_ok : OkG Try.prog (tbl tabDM) := okG_cons check_ok (okG_cons demand_ok okG_nil)
theorem Demand_ok : OkF Try.prog 27 (dataC demNR) := by
  refine okF_data Try.func27 rfl (by decide) ?_
  rintro ds v ⟨s, pool, d, rfl, hf, rfl⟩
  refine sem_of_awp (Γ := tbl tabDM) tabDM_ok _ _ _ ?_
  generalize hv : demN s pool d = V
  unfold demN at hv
  have fin : ∀ s own (b c : Int), b = c → s.getD 6 .top = .dat (.int .i64 b) → post Try.prog Try.f27 (.dat (.int .i64 c)) [] [] .ret ⟨s, own, 0, []⟩ := fun s own b c e h => by
    subst e
    exact post_data (.inl rfl) [6] rfl trivial (by simp only [tmpsOf, h]; rfl)
  simp only [go_sem, Try.ntmps27, sysD]
  refine call_data checkR (by simp) [sysD s] _ rfl ⟨s, rfl, hf, rfl⟩ (.inl rfl) ?_
  cases h' : decide (checkE s = 0) with
  | false =>
    have h := of_decide_eq_false h'
    rw [if_pos (.inl h)] at hv
    simp only [go_sem, h, h']
    exact fin _ _ _ _ hv (by rfl)
  | true =>
  have h := of_decide_eq_true h'
  simp only [go_sem, h, h', eq_self, Bool.not_true]
  by_cases h1 : pool < 0
  · rw [if_pos (.inr (.inl h1))] at hv
    simp only [go_sem, h1]
    exact fin _ _ _ _ hv (by rfl)
  by_cases h2 : (s.pools.length : Int) ≤ pool
  · rw [if_pos (.inr (.inr h2))] at hv
    simp only [go_sem, h1, h2]
    exact fin _ _ _ _ hv (by rfl)
  rw [if_neg (by rw [h]; omega)] at hv
  simp only [go_sem, h1, h2]
  refine call_data demandR (by simp) [sysD s, .int .i64 pool] _ rfl ⟨s, pool, rfl, good_of h, rfl⟩ (.inl rfl) ?_
  simp only [go_sem]
  cases d with
  | true => simp only [go_sem]; exact fin _ _ _ _ hv (by rfl)
  | false => simp only [go_sem]; exact fin _ _ _ _ hv (by rfl)
end Go.AM

set_option maxRecDepth 8000
set_option maxHeartbeats 1000000
namespace Go.AM
open Go Go.Proofs

def mxR (pool : Int) (d : Bool) (l : List PStep) : Nat → Int
  | 0 => 0
  | k + 1 => mxN pool d l k
abbrev tabRD : List (Nat × Contract) := [(32, dataC checkR), (69, dataC unitsR)]
def waitB (s : PSys) (x : PStep) : Bool :=
  if x.kind = 3 ∨ x.kind = 5 then true else if x.kind = 1 then
    decide ((s.pools.getD x.on.toNat default).size - (s.pools.getD x.on.toNat default).res < demL x.on false s.classes) && !(x.deep && decide (demL x.on true s.classes ≤ (s.pools.getD x.on.toNat default).res))
  else false
def waitsR (ds : List D) (v : AV) : Prop := ∃ (s : PSys) (x : PStep), ds = [sysD s, stepD x] ∧ s.good ∧ preE s x = 0 ∧ v = .dat (.bool (waitB s x))
theorem waits_ok : OkF Try.prog 48 (dataC waitsR) := by
  refine okF_data Try.func48 rfl (by decide) ?_
  rintro ds v ⟨s, x, rfl, hg, hp, rfl⟩
  have hok : OkG Try.prog (tbl [(51, dataC demandR)]) := okG_cons demand_ok okG_nil
  refine sem_of_awp (Γ := tbl [(51, dataC demandR)]) hok _ _ _ ?_
  generalize hv : waitB s x = V
  have fin : ∀ s own (b c : Bool), b = c → s.getD 4 .top = .dat (.bool b) → post Try.prog Try.f48 (.dat (.bool c)) [] [] .ret ⟨s, own, 0, []⟩ := fun s own b c e h => by
    subst e
    exact post_data (.inl rfl) [4] rfl trivial (by simp only [tmpsOf, h]; rfl)
  obtain ⟨⟨k1, k2⟩, ⟨o1, o2⟩, hc, hc0⟩ := preE_0 hp
  obtain ⟨kind, on, cnt, deep⟩ := x
  simp only at *
  unfold waitB at hv
  simp only at hv
  have hk : kind = 1 ∨ kind = 2 ∨ kind = 3 ∨ kind = 4 ∨ kind = 5 := by omega
  rcases hk with rfl | rfl | rfl | rfl | rfl
  · rw [if_neg (by omega), if_pos rfl] at hv
    simp only [go_sem, Int.reduceEq, Int.reduceLT, Int.reduceLE, eq_self, Int.natCast_nonneg, Int.toNat_natCast, Try.ntmps48, sysD, stepD]
    refine call_data demandR (by simp) [sysD s, .int .i64 on] _ rfl ⟨s, on, rfl, hg, rfl⟩ (.inl rfl) ?_
    obtain ⟨i, rfl⟩ : ∃ i : Nat, on = i := ⟨on.toNat, by omega⟩
    have hi : i < s.pools.length := by simp [mostE] at o2; omega
    have hi2 : (i : Int) < s.pools.length := by omega
    have hnp : D.nth (s.pools.map poolD) i = poolD (s.pools.getD i default) := D.nth_map hi
    rw [Int.toNat_natCast] at hv
    have hpb := hg.pool (s.pools.getD i default) (by rw [List.getD_eq_getElem?_getD, List.getElem?_eq_getElem hi]; exact List.getElem_mem hi)
    generalize s.pools.getD i default = p at *
    unfold PPool.bad at hpb
    simp only [go_sem, Int.reduceEq, Int.reduceLT, Int.reduceLE, eq_self, Int.natCast_nonneg, Int.toNat_natCast, hi, hi2, hnp, poolD]
    refine ⟨inR_i64.2 (by omega), ?_⟩
    by_cases hA : p.size - p.res < demL i false s.classes
    · rw [decide_eq_true hA, Bool.true_and] at hv
      cases deep with
      | true =>
        simp only [go_sem, Int.reduceEq, Int.reduceLT, Int.reduceLE, eq_self, Int.natCast_nonneg, Int.toNat_natCast, hA]
        refine fin _ _ _ _ ?_ (by rfl)
        rw [← hv]; simp
      | false =>
        simp only [go_sem, Int.reduceEq, Int.reduceLT, Int.reduceLE, eq_self, Int.natCast_nonneg, Int.toNat_natCast, hA]
        refine fin _ _ _ _ ?_ (by rfl)
        rw [← hv]; simp
    · rw [decide_eq_false hA, Bool.false_and] at hv
      simp only [go_sem, Int.reduceEq, Int.reduceLT, Int.reduceLE, eq_self, Int.natCast_nonneg, Int.toNat_natCast, hA]
      exact fin _ _ _ _ hv (by rfl)
  · simp only [go_sem, Int.reduceEq, Int.reduceLT, Int.reduceLE, eq_self, Int.natCast_nonneg, Int.toNat_natCast, Try.ntmps48, sysD, stepD]
    exact fin _ _ _ _ (by rw [← hv]) (by rfl)
  · simp only [go_sem, Int.reduceEq, Int.reduceLT, Int.reduceLE, eq_self, Int.natCast_nonneg, Int.toNat_natCast, Try.ntmps48, sysD, stepD]
    exact fin _ _ _ _ (by rw [← hv]) (by rfl)
  · simp only [go_sem, Int.reduceEq, Int.reduceLT, Int.reduceLE, eq_self, Int.natCast_nonneg, Int.toNat_natCast, Try.ntmps48, sysD, stepD]
    exact fin _ _ _ _ (by rw [← hv]) (by rfl)
  · simp only [go_sem, Int.reduceEq, Int.reduceLT, Int.reduceLE, eq_self, Int.natCast_nonneg, Int.toNat_natCast, Try.ntmps48, sysD, stepD]
    exact fin _ _ _ _ (by rw [← hv]) (by rfl)

def stepAt (s : PSys) (c k : Int) : PStep := (s.classes.getD c.toNat default).steps.getD k.toNat default
def noStep (s : PSys) (c k : Int) : Prop := c < 0 ∨ (s.classes.length : Int) ≤ c ∨ k < 0 ∨ ((s.classes.getD c.toNat default).steps.length : Int) ≤ k
instance (s : PSys) (c k : Int) : Decidable (noStep s c k) := by unfold noStep; exact inferInstance
theorem noStep_nat {s : PSys} {i j : Nat} (hi : i < s.classes.length) : noStep s i j ↔ ((s.classes.getD i default).steps.length : Int) ≤ j := by
  unfold noStep
  rw [Int.toNat_natCast]
  constructor
  · rintro (h | h | h | h) <;> omega
  · exact fun h => .inr (.inr (.inr h))
theorem stepAt_nat {s : PSys} {i j : Nat} : stepAt s i j = (s.classes.getD i default).steps.getD j default := by unfold stepAt; rw [Int.toNat_natCast, Int.toNat_natCast]
def waitN (s : PSys) (c k : Int) : Bool := if checkE s ≠ 0 ∨ noStep s c k then false else waitB s (stepAt s c k)
def waitNR (ds : List D) (v : AV) : Prop := ∃ (s : PSys) (c k : Int), ds = [sysD s, .int .i64 c, .int .i64 k] ∧ s.fit ∧ v = .dat (.bool (waitN s c k))
abbrev tabWA : List (Nat × Contract) := [(36, dataC checkR), (48, dataC waitsR)]
theorem tabWA_ok : OkG Try.prog (tbl tabWA) := okG_cons check_ok (okG_cons waits_ok okG_nil)
theorem Waits_ok : OkF Try.prog 28 (dataC waitNR) := by
  refine okF_data Try.func28 rfl (by decide) ?_
  rintro ds v ⟨s, c, k, rfl, hf, rfl⟩
  have hpu : PureFns (tbl tabWA) [48] := pure_of (by
    intro g C h hg
    simp only [List.mem_singleton] at hg
    subst hg
    simp only [tabWA, List.mem_cons, Prod.mk.injEq, List.mem_nil_iff, or_false] at h
    rcases h with ⟨h, _⟩ | ⟨_, h⟩
    · simp at h
    · exact ⟨_, h⟩)
  refine sem_of_awp (Γ := tbl tabWA) tabWA_ok _ _ _ ?_
  generalize hv : waitN s c k = V
  unfold waitN at hv
  have fin : ∀ s own (b c : Bool), b = c → s.getD 6 .top = .dat (.bool b) → post Try.prog Try.f28 (.dat (.bool c)) [] [] .ret ⟨s, own, 0, []⟩ := fun s own b c e h => by
    subst e
    exact post_data (.inl rfl) [6] rfl trivial (by simp only [tmpsOf, h]; rfl)
  simp only [go_sem, Try.ntmps28, sysD]
  refine call_data checkR (by simp) [sysD s] _ rfl ⟨s, rfl, hf, rfl⟩ (.inl rfl) ?_
  cases h' : decide (checkE s = 0) with
  | false =>
    have h := of_decide_eq_false h'
    rw [if_pos (.inl h)] at hv
    simp only [go_sem, h, h']
    exact fin _ _ _ _ hv (by rfl)
  | true =>
  have h := of_decide_eq_true h'
  simp only [go_sem, h, h', eq_self, Bool.not_true]
  by_cases h1 : c < 0
  · rw [if_pos (.inr (.inl h1))] at hv
    simp only [go_sem, h1]
    exact fin _ _ _ _ hv (by rfl)
  by_cases h2 : (s.classes.length : Int) ≤ c
  · rw [if_pos (.inr (.inr (.inl h2)))] at hv
    simp only [go_sem, h1, h2]
    exact fin _ _ _ _ hv (by rfl)
  by_cases h3 : k < 0
  · rw [if_pos (.inr (.inr (.inr (.inl h3))))] at hv
    simp only [go_sem, h1, h2, h3]
    exact fin _ _ _ _ hv (by rfl)
  obtain ⟨i, rfl⟩ : ∃ i : Nat, c = i := ⟨c.toNat, by omega⟩
  obtain ⟨j, rfl⟩ : ∃ j : Nat, k = j := ⟨k.toNat, by omega⟩
  have hi : i < s.classes.length := by omega
  have hi2 : (i : Int) < s.classes.length := by omega
  have hnc : D.nth (s.classes.map clsD) i = clsD (s.classes.getD i default) := D.nth_map hi
  have hcm : s.classes.getD i default ∈ s.classes := by rw [List.getD_eq_getElem?_getD, List.getElem?_eq_getElem hi]; exact List.getElem_mem hi
  have hno := noStep_nat (j := j) hi
  rw [stepAt_nat] at hv
  have hcg := (good_of h).cls _ hcm
  generalize s.classes.getD i default = c at *
  simp only [go_sem, Int.reduceEq, Int.reduceLT, Int.reduceLE, eq_self, Int.natCast_nonneg, Int.toNat_natCast, h1, h2, h3, hi2, hi, hnc, clsD, stepsD]
  by_cases h4 : (c.steps.length : Int) ≤ j
  · rw [if_pos (.inr (hno.2 h4))] at hv
    simp only [go_sem, Int.reduceEq, Int.reduceLT, Int.reduceLE, eq_self, Int.natCast_nonneg, Int.toNat_natCast, h4]
    exact fin _ _ _ _ hv (by rfl)
  have hj : j < c.steps.length := by omega
  have hj2 : (j : Int) < c.steps.length := by omega
  have hns : D.nth (c.steps.map stepD) j = stepD (c.steps.getD j default) := D.nth_map hj
  have hxm : c.steps.getD j default ∈ c.steps := by rw [List.getD_eq_getElem?_getD, List.getElem?_eq_getElem hj]; exact List.getElem_mem hj
  have hxp := hcg.pre _ hxm
  rw [if_neg (by rw [h, hno]; omega)] at hv
  generalize c.steps.getD j default = x at *
  simp only [go_sem, Int.reduceEq, Int.reduceLT, Int.reduceLE, eq_self, Int.natCast_nonneg, Int.toNat_natCast, h4]
  refine sem_draw (pf := [48]) mixed tabWA_ok hpu [0, 1, 2, 3, 4, 5, 6, 7, 8, 9, 10, 11] (by kernel_rfl) ?_
  simp only [go_sem, Int.reduceEq, Int.reduceLT, Int.reduceLE, eq_self, Int.natCast_nonneg, Int.toNat_natCast, chainI, hi, hi2, hj, hj2, hnc, hns, clsD, stepsD, stepD]
  refine call_data waitsR (by simp) [sysD s, stepD x] _ rfl ⟨s, x, rfl, good_of h, hxp, rfl⟩ (.inl rfl) ?_
  simp only [go_sem, Int.reduceEq, Int.reduceLT, Int.reduceLE, eq_self, Int.natCast_nonneg, Int.toNat_natCast, chainI]
  exact fin _ _ _ _ hv (by rfl)
end Go.AM

set_option maxRecDepth 8000
set_option maxHeartbeats 1000000
namespace Go.AM
open Go Go.Proofs

def ampleR (ds : List D) (v : AV) : Prop := ∃ (s : PSys) (i : Nat), ds = [sysD s, .int .i64 i] ∧ s.fit ∧ checkE s = 0 ∧ i < s.pools.length ∧ v = .dat (.bool (decide (demL i false s.classes ≤ (s.pools.getD i default).size - (s.pools.getD i default).res)))
def safeR (ds : List D) (v : AV) : Prop := ∃ (s : PSys) (i : Nat), ds = [sysD s, .int .i64 i] ∧ s.fit ∧ checkE s = 0 ∧ i < s.pools.length ∧ v = .dat (.bool (decide (demL i true s.classes ≤ (s.pools.getD i default).res)))
abbrev tabAM : List (Nat × Contract) := [(42, dataC demNR)]
abbrev tabRW : List (Nat × Contract) := [(32, dataC checkR), (70, dataC ampleR), (71, dataC safeR)]
end Go.AM

set_option maxRecDepth 8000
set_option maxHeartbeats 1000000
namespace Go.AM
open Go Go.Proofs

def balU (s : PSys) (l : List PStep) : List Int := (List.range s.pools.length).map fun i => bal l (i : Nat) 0
def balB (s : PSys) (l : List PStep) : List Bool := (List.range s.locks.length).map fun i => decide (0 < bal l (i : Nat) 1)
theorem tr_hold {s : PSys} {l : List PStep} {h : Hold} (t : Tr s l h) : h.units = balU s l ∧ h.locks = balB s l := by
  obtain ⟨ul, ll, un, lo⟩ := t
  constructor
  · refine List.ext_getElem (by simp [balU, ul]) fun i h1 h2 => ?_
    have := un i (by omega)
    rw [List.getD_eq_getElem?_getD, List.getElem?_eq_getElem h1] at this
    simpa [balU] using this
  · refine List.ext_getElem (by simp [balB, ll]) fun i h1 h2 => ?_
    have := lo i (by omega)
    rw [List.getD_eq_getElem?_getD, List.getElem?_eq_getElem h1] at this
    simp only [Option.getD_some] at this
    simp only [balB, List.getElem_map, List.getElem_range]
    cases hb : h.locks[i] with
    | true => have := this.1.1 hb; rw [this]; rfl
    | false =>
      rcases this.2 with h0 | h0
      · rw [h0]; rfl
      · rw [this.1.2 h0] at hb; cases hb
def heldV (s : PSys) (c k : Int) : AV :=
  if checkE s ≠ 0 then .tup [.dat (.sl none []), .dat (.sl none []), .dat (.int .i64 (checkE s))] else
  if c < 0 ∨ (s.classes.length : Int) ≤ c ∨ k < 0 ∨ ((s.classes.getD c.toNat default).steps.length : Int) < k then .tup [.dat (.sl none []), .dat (.sl none []), .dat (.int .i64 2)] else
  .tup [.dat (.sl none (intsD (balU s ((s.classes.getD c.toNat default).steps.take k.toNat)))), .dat (.sl none (boolsD (balB s ((s.classes.getD c.toNat default).steps.take k.toNat)))), .dat (.int .i64 0)]
theorem heldV_1 {s : PSys} {c k : Int} (h : checkE s ≠ 0) : heldV s c k = .tup [.dat (.sl none []), .dat (.sl none []), .dat (.int .i64 (checkE s))] := by unfold heldV; rw [if_pos h]
theorem heldV_2 {s : PSys} {c k : Int} (h : checkE s = 0) (h2 : c < 0 ∨ (s.classes.length : Int) ≤ c ∨ k < 0 ∨ ((s.classes.getD c.toNat default).steps.length : Int) < k) : heldV s c k = .tup [.dat (.sl none []), .dat (.sl none []), .dat (.int .i64 2)] := by
  unfold heldV; rw [if_neg (by rw [h]; decide), if_pos h2]
theorem heldV_3 {s : PSys} {c k : Nat} (h : checkE s = 0) (hc : c < s.classes.length) (hk : k ≤ (s.classes.getD c default).steps.length) :
    heldV s c k = .tup [.dat (.sl none (intsD (balU s ((s.classes.getD c default).steps.take k)))), .dat (.sl none (boolsD (balB s ((s.classes.getD c default).steps.take k)))), .dat (.int .i64 0)] := by
  unfold heldV; rw [if_neg (by rw [h]; decide), if_neg (by rw [Int.toNat_natCast]; omega), Int.toNat_natCast, Int.toNat_natCast]
def heldR (ds : List D) (v : AV) : Prop := ∃ (s : PSys) (c k : Int), ds = [sysD s, .int .i64 c, .int .i64 k] ∧ s.fit ∧ v = heldV s c k

abbrev tabPH : List (Nat × Contract) := [(36, dataC checkR), (78, madeC startR), (79, normC (lentC hstepR))]
theorem tabPH_ok : OkG Try.prog (tbl tabPH) := okG_cons check_ok (okG_cons start_ok (okG_cons (okF_norm hstep_ok) okG_nil))
theorem held_ok : OkF Try.prog 73 (dataC heldR) := by
  refine okF_data Try.func73 rfl (by decide) ?_
  rintro ds v ⟨s, c, k, rfl, hf, rfl⟩
  refine sem_of_awp (Γ := tbl tabPH) tabPH_ok _ _ _ ?_
  generalize hv : heldV s c k = V
  have nilE : ∀ s own e, s.getD 6 .top = .nils → s.getD 7 .top = .nils → s.getD 8 .top = .dat (.int .i64 e) → post Try.prog Try.f73 (.tup [.dat (.sl none []), .dat (.sl none []), .dat (.int .i64 e)]) [] [] .ret ⟨s, own, 0, []⟩ := fun s own e h6 h7 h8 => by
    refine post_res (.inl rfl) [.tmp 6, .tmp 7, .tmp 8] rfl ?_
    simp only [go_sem, h6, h7, h8]
    exact le_fin (by simp only [go_sem]) (by simp only [go_sem])
  simp only [go_sem, Try.ntmps73, sysD]
  refine call_data checkR (by simp) [sysD s] _ rfl ⟨s, rfl, hf, rfl⟩ (.inl rfl) ?_
  by_cases h : checkE s = 0
  case neg =>
    simp only [go_sem, h]
    rw [← hv, heldV_1 h]
    exact nilE _ _ _ (by rfl) (by rfl) (by rfl)
  simp only [go_sem, h]
  by_cases h1 : c < 0
  · rw [← hv, heldV_2 h (.inl h1)]
    simp only [go_sem, h1]
    exact nilE _ _ _ (by rfl) (by rfl) (by rfl)
  by_cases h2 : (s.classes.length : Int) ≤ c
  · rw [← hv, heldV_2 h (.inr (.inl h2))]
    simp only [go_sem, h1, h2]
    exact nilE _ _ _ (by rfl) (by rfl) (by rfl)
  by_cases h3 : k < 0
  · rw [← hv, heldV_2 h (.inr (.inr (.inl h3)))]
    simp only [go_sem, h1, h2, h3]
    exact nilE _ _ _ (by rfl) (by rfl) (by rfl)
  obtain ⟨i, rfl⟩ : ∃ i : Nat, c = i := ⟨c.toNat, by omega⟩
  obtain ⟨j, rfl⟩ : ∃ j : Nat, k = j := ⟨k.toNat, by omega⟩
  have hi : i < s.classes.length := by omega
  have hi2 : (i : Int) < s.classes.length := by omega
  have hnc : D.nth (s.classes.map clsD) i = clsD (s.classes.getD i default) := D.nth_map hi
  have hcm : s.classes.getD i default ∈ s.classes := by rw [List.getD_eq_getElem?_getD, List.getElem?_eq_getElem hi]; exact List.getElem_mem hi
  have hcg := (good_of h).cls _ hcm
  have hv2 := fun h4 => heldV_2 (s := s) (c := i) (k := j) h (.inr (.inr (.inr h4)))
  have hv3 := heldV_3 (k := j) h hi
  rw [Int.toNat_natCast] at hv2
  generalize s.classes.getD i default = c at *
  simp only [go_sem, Int.reduceEq, Int.reduceLT, Int.reduceLE, eq_self, Int.natCast_nonneg, Int.toNat_natCast, h1, h2, h3, hi2, hi, hnc, clsD, stepsD]
  by_cases h4 : (c.steps.length : Int) < j
  · rw [← hv, hv2 h4]
    simp only [go_sem, Int.reduceEq, Int.reduceLT, Int.reduceLE, eq_self, Int.natCast_nonneg, Int.toNat_natCast, h4]
    exact nilE _ _ _ (by rfl) (by rfl) (by rfl)
  have hj : j ≤ c.steps.length := by omega
  have hj2 : (j : Int) ≤ c.steps.length := by omega
  have hV := hv3 hj
  rw [hV] at hv
  subst hv
  simp only [go_sem, Int.reduceEq, Int.reduceLT, Int.reduceLE, eq_self, Int.natCast_nonneg, Int.toNat_natCast, h4]
  refine call_made startR (by simp) _ _ _ rfl rfl ⟨s, rfl, hf.small, rfl, rfl⟩ ?_
  have htk : List.take j (c.steps.map stepD) = (c.steps.take j).map stepD := by simp [List.map_take]
  have hlt : (c.steps.take j).length = j := by simp; omega
  simp only [go_sem, Int.reduceEq, Int.reduceLT, Int.reduceLE, eq_self, Int.natCast_nonneg, Int.toNat_natCast, AV.shift, Obj.shift, AV.shifts, hi, hi2, hnc, clsD, stepsD, hj2, Int.sub_zero, List.length_map, htk, hlt]
  have hnp : (hold0 s).units.length = s.pools.length := by simp [hold0, zerosI]
  have hnl : (hold0 s).locks.length = s.locks.length := by simp [hold0, zerosB]
  have hsm := hf.small
  have hl12 := hcg.l12
  refine sem_loop (fun p : Nat × Hold => ⟨slotsOf 65 [(3, .ptr 0 0 0), (10, .ptr 3 0 0), (51, .dat (.sl (some 4) ((c.steps.take j).map stepD))), (52, .dat (.int .i64 j)), (53, .dat (.int .i64 p.1))],
      [sysO s, .row none (intsD p.2.units), .row none (boolsD p.2.locks), .box [.sl 1 0 p.2.units.length, .sl 2 0 p.2.locks.length]], 0, []⟩)
    (fun p => p.1 ≤ j ∧ Tr s (c.steps.take p.1) p.2 ∧ verd (runE s (c.steps.drop p.1) p.2) = 0 ∧ (∀ n ∈ p.2.units, -(1000 * (p.1 : Int)) ≤ n ∧ n ≤ 1000 * (p.1 : Int))) (fun p => j - p.1) (0, hold0 s) ⟨Nat.zero_le _, tr_nil _, hcg.run, by simp [hold0, zerosI]⟩ ?_ ?_
  · simp only [hnp, hnl]
    exact le_slots' (by simp only [go_sem, Int.natCast_zero])
  · rintro ⟨m, h⟩ ⟨hm, hT, hI, hbd⟩
    simp only at hm hT hI hbd
    refine sem_of_awp (Γ := tbl tabPH) tabPH_ok _ _ _ ?_
    have hu := hT.ul
    have hb := hT.ll
    by_cases hmj : m < j
    · have hmc : m < c.steps.length := by omega
      have hd : c.steps.drop m = c.steps[m] :: c.steps.drop (m + 1) := List.drop_eq_getElem_cons hmc
      have hk2 : (m : Int) < j := by omega
      have hk0 : (0 : Int) ≤ m := Int.natCast_nonneg m
      have hn : D.nth ((c.steps.take j).map stepD) m = stepD c.steps[m] := by
        have : (c.steps.take j).drop m = c.steps[m] :: (c.steps.take j).drop (m + 1) := by
          rw [List.drop_eq_getElem_cons (by rw [hlt]; exact hmj)]; simp
        exact nth_of_drop (f := stepD) this
      have hx0 : stepE s h.units h.locks c.steps[m] = 0 := by
        rw [hd] at hI
        apply Classical.byContradiction; intro he
        rw [verd_err he] at hI; exact he hI
      have hI2 := hI
      rw [hd, verd_go hx0] at hI2
      have htr := tr_step hT hx0
      rw [← take_of_drop hd] at htr
      generalize c.steps[m] = x at *
      obtain ⟨u, b⟩ := h
      simp only at hu hb hbd hx0 hI2 htr
      simp only [go_sem, Int.reduceEq, Int.reduceLT, Int.reduceLE, eq_self, Int.natCast_nonneg, Int.toNat_natCast, hk2, hk0, hn, hmj, hlt, stepD]
      refine call_lentN hstepR (by simp) [3, 1, 2] ⟨s, x, u, b, hu, hb, (good_of ‹_›).tame, fun n hn => by have := hbd n hn; omega, rfl, rfl, rfl, rfl, rfl, rfl⟩ (by decide) (by simp) rfl rfl rfl (by simp only [go_sem, AV.unders, AV.under]) ?_ ?_ ?_
      · simp only [holdO, List.mem_cons, List.mem_nil_iff, or_false, forall_eq_or_imp, forall_eq]; exact ⟨by simp only [Obj.under, AV.unders, AV.under]; decide, trivial, trivial⟩
      · intro j hj
        rcases j with _ | _ | _ | j
        · rfl
        · rfl
        · rfl
        · simp at hj; omega
      simp only [go_sem, Int.reduceEq, Int.reduceLT, Int.reduceLE, eq_self, Int.natCast_nonneg, Int.toNat_natCast, hx0]
      refine ⟨inR_i64.2 (by omega), (m + 1, ⟨stepU s u x, stepL s b x⟩), ⟨by simp only; omega, htr, hI2, fun n hn => ?_⟩, by simp only; omega, ?_⟩
      · have := stepU_small (good_of ‹_›).tame (b := 1000 * (m : Int)) hbd (by omega) n hn
        simp only
        omega
      · simp only [holdO, setAll, emb, AV.ren, AV.rens, Obj.ren]
        refine le_end (own := [_, _, _, _]) (ex := [_]) (Nat.zero_le _) ?_ ?_ ?_
        · simp only [go_sem, Int.natCast_add, Int.cast_ofNat_Int]
        · simp only [go_sem, stepU_len, stepL_len]
        · simp only [go_sem, Obj.under, AV.unders, AV.under]
          decide
    · obtain rfl : m = j := by omega
      have hk2 : ¬ (m : Int) < m := by omega
      obtain ⟨e1, e2⟩ := tr_hold hT
      rw [← e1, ← e2]
      simp only [go_sem, Int.reduceEq, Int.reduceLT, Int.reduceLE, eq_self, Int.natCast_nonneg, Int.toNat_natCast, hk2]
      refine sem_draw (pf := []) mixed tabPH_ok pureNo [0, 1, 2, 3, 4, 5, 6] (by kernel_rfl) ?_
      simp only [go_sem, Int.reduceEq, Int.reduceLT, Int.reduceLE, eq_self, Int.natCast_nonneg, Int.toNat_natCast, chainI]
      refine post_res (.inl rfl) [.tmp 6, .tmp 7, .tmp 8] rfl ?_
      simp only [go_sem]
      refine Le.trans (le_freeze 1 (ag := none) rfl (Nat.zero_le _)) ?_
      refine Le.trans (le_freeze 2 (ag := none) rfl (Nat.zero_le _)) ?_
      have t1 : List.take h.units.length (intsD h.units) = intsD h.units := List.take_of_length_le (by simp)
      have t2 : List.take h.locks.length (boolsD h.locks) = boolsD h.locks := List.take_of_length_le (by simp)
      simp only [go_sem, t1, t2]
      exact le_fin (by simp only [go_sem]) (by simp only [go_sem])
end Go.AM

set_option maxRecDepth 8000
set_option maxHeartbeats 1000000
namespace Go.AM
open Go Go.Proofs

theorem balU_len (s : PSys) (l : List PStep) : (balU s l).length = s.pools.length := by simp [balU]
theorem balB_len (s : PSys) (l : List PStep) : (balB s l).length = s.locks.length := by simp [balB]
abbrev tabRH : List (Nat × Contract) := [(32, dataC checkR), (76, dataC balR)]
def targetN (s : PSys) (x : PStep) : Int := if x.kind = 3 then s.pools.length + x.on else if x.kind = 5 then (s.pools.length : Int) + s.locks.length + x.on else x.on
def targetR (ds : List D) (v : AV) : Prop := ∃ (s : PSys) (x : PStep), ds = [sysD s, stepD x] ∧ s.good ∧ preE s x = 0 ∧ v = .dat (.int .i64 (targetN s x))
theorem resource_ok : OkF Try.prog 49 (dataC targetR) := by
  refine okF_data Try.func49 rfl (by decide) ?_
  rintro ds v ⟨s, x, rfl, hg, hp, rfl⟩
  refine sem_of_awp (Γ := tbl []) okG_nil _ _ _ ?_
  generalize hv : targetN s x = V
  have fin : ∀ s own (b c : Int), b = c → s.getD 4 .top = .dat (.int .i64 b) → post Try.prog Try.f49 (.dat (.int .i64 c)) [] [] .ret ⟨s, own, 0, []⟩ := fun s own b c e h => by
    subst e
    exact post_data (.inl rfl) [4] rfl trivial (by simp only [tmpsOf, h]; rfl)
  obtain ⟨⟨k1, k2⟩, ⟨o1, o2⟩, hc, hc0⟩ := preE_0 hp
  obtain ⟨kind, on, cnt, deep⟩ := x
  have hnp := hg.np
  have hnl := hg.nl
  have hnc := hg.nc
  unfold mostE at o2
  simp only at *
  unfold targetN at hv
  simp only at hv
  by_cases h3 : kind = 3
  · subst h3
    rw [if_pos rfl] at hv
    rw [if_pos (.inl rfl)] at o2
    simp only [go_sem, Int.reduceEq, Int.reduceLT, Int.reduceLE, eq_self, Int.natCast_nonneg, Int.toNat_natCast, Try.ntmps49, sysD, stepD]
    refine ⟨inR_i64.2 (by omega), ?_⟩
    exact fin _ _ _ _ hv (by rfl)
  by_cases h5 : kind = 5
  · subst h5
    rw [if_neg h3, if_pos rfl] at hv
    rw [if_neg (by omega), if_pos rfl] at o2
    simp only [go_sem, Int.reduceEq, Int.reduceLT, Int.reduceLE, eq_self, Int.natCast_nonneg, Int.toNat_natCast, Try.ntmps49, sysD, stepD, h3]
    refine ⟨inR_i64.2 (by omega), inR_i64.2 (by omega), ?_⟩
    exact fin _ _ _ _ hv (by rfl)
  rw [if_neg h3, if_neg h5] at hv
  simp only [go_sem, Int.reduceEq, Int.reduceLT, Int.reduceLE, eq_self, Int.natCast_nonneg, Int.toNat_natCast, Try.ntmps49, sysD, stepD, h3, h5]
  exact fin _ _ _ _ hv (by rfl)
end Go.AM

namespace Go.AM
open Go Go.Proofs

theorem ints_take {l : List Int} : List.take l.length (intsD l) = intsD l := List.take_of_length_le (by simp)
theorem ints_len {l : List Int} : (intsD l).length = l.length := by simp
theorem ints_snoc {l : List Int} {n : Int} : intsD l ++ [.int .i64 n] = intsD (l ++ [n]) := by simp
structure PEdge where
  src : Int
  dst : Int
  cls : Int
  step : Int
deriving Inhabited, DecidableEq
def edgeD (e : PEdge) : D := .agg [.int .i64 e.src, .int .i64 e.dst, .int .i64 e.cls, .int .i64 e.step]
abbrev edgesD (l : List PEdge) : List D := l.map edgeD
theorem edges_take {l : List PEdge} : List.take l.length (edgesD l) = edgesD l := List.take_of_length_le (by simp)
theorem edges_len {l : List PEdge} : (edgesD l).length = l.length := by simp
theorem edges_snoc {l : List PEdge} {n : PEdge} : edgesD l ++ [edgeD n] = edgesD (l ++ [n]) := by simp
def PEdge.s (e : PEdge) : Nat := e.src.toNat
def PEdge.t (e : PEdge) : Nat := e.dst.toNat
abbrev natD (n : Nat) : D := .int .i64 (n : Int)
abbrev natsD (l : List Nat) : List D := l.map natD
theorem nats_len {l : List Nat} : (natsD l).length = l.length := by simp
theorem nats_take {l : List Nat} : List.take l.length (natsD l) = natsD l := List.take_of_length_le (by simp)
theorem nats_snoc {l : List Nat} {n : Nat} : natsD l ++ [.int .i64 (n : Int)] = natsD (l ++ [n]) := by simp
structure GOk (n : Nat) (l : List PEdge) : Prop where
  n4 : n ≤ 4096
  len : l.length ≤ 10000
  src : ∀ e ∈ l, e.src = (e.s : Int) ∧ e.s < n
  dst : ∀ e ∈ l, e.dst = (e.t : Int) ∧ e.t < n
abbrev eF (l : List PEdge) : List (Nat × Nat) := l.map fun e => (e.s, e.t)
def gE (n : Int) (l : List PEdge) : Int :=
  if n < 0 ∨ 4096 < n then 2 else if (l.any fun e => decide (e.src < 0) || decide (n ≤ e.src) || decide (e.dst < 0) || decide (n ≤ e.dst)) = true then 1 else 0
theorem gOk_of {n : Int} {l : List PEdge} (h : gE n l = 0) (hl : l.length ≤ 10000) : ∃ k : Nat, n = k ∧ GOk k l := by
  unfold gE at h
  split at h
  · omega
  · split at h
    · omega
    · rename_i h1 h2
      refine ⟨n.toNat, by omega, by omega, hl, fun e he => ?_, fun e he => ?_⟩ <;>
      · have : ¬ ((decide (e.src < 0) || decide (n ≤ e.src) || decide (e.dst < 0) || decide (n ≤ e.dst)) = true) := fun hh => h2 (List.any_eq_true.2 ⟨e, he, hh⟩)
        simp only [Bool.or_eq_true, decide_eq_true_eq] at this
        simp only [PEdge.s, PEdge.t]
        omega
theorem gE_ok {n : Nat} {l : List PEdge} (h : GOk n l) : gE n l = 0 := by
  unfold gE
  have := h.n4
  rw [if_neg (by omega), if_neg]
  intro hh
  obtain ⟨e, he, hh⟩ := List.any_eq_true.1 hh
  have h1 := h.src e he
  have h2 := h.dst e he
  simp only [Bool.or_eq_true, decide_eq_true_eq] at hh
  omega
end Go.AM

set_option maxRecDepth 8000
set_option maxHeartbeats 1000000
namespace Go.AM
open Go Go.Proofs

def hU : Nat → List Int → List Int
  | _, [] => []
  | i, n :: r => if 0 < n then (i : Int) :: hU (i + 1) r else hU (i + 1) r
def hB (off : Int) : Nat → List Bool → List Int
  | _, [] => []
  | i, b :: r => if b = true then (off + i) :: hB off (i + 1) r else hB off (i + 1) r
def hC (s : PSys) (c : PCls) (i : Int) : List Int := if c.server = true then [(s.pools.length : Int) + s.locks.length + i] else []
def holdL (s : PSys) (c : PCls) (i : Int) (L : List PStep) : List Int := hU 0 (balU s L) ++ hB s.pools.length 0 (balB s L) ++ hC s c i
theorem hU_len : ∀ (i : Nat) (l : List Int), (hU i l).length ≤ l.length
  | _, [] => by simp [hU]
  | i, n :: r => by
    have := hU_len (i + 1) r
    simp only [hU]; split <;> simp only [List.length_cons] <;> omega
theorem hB_len (off : Int) : ∀ (i : Nat) (l : List Bool), (hB off i l).length ≤ l.length
  | _, [] => by simp [hB]
  | i, n :: r => by
    have := hB_len off (i + 1) r
    simp only [hB]; split <;> simp only [List.length_cons] <;> omega
def holdR (ds : List D) (v : AV) : Prop := ∃ (s : PSys) (i j : Nat), ds = [sysD s, .int .i64 i, .int .i64 j] ∧ s.fit ∧ checkE s = 0 ∧ i < s.classes.length ∧ j ≤ (s.classes.getD i default).steps.length ∧
  v = .dat (.sl none (intsD (holdL s (s.classes.getD i default) i ((s.classes.getD i default).steps.take j))))
abbrev tabHO : List (Nat × Contract) := [(73, dataC heldR)]
theorem tabHO_ok : OkG Try.prog (tbl tabHO) := okG_cons held_ok okG_nil
theorem holdings_ok : OkF Try.prog 50 (dataC holdR) := by
  refine okF_data Try.func50 rfl (by decide) ?_
  rintro ds v ⟨s, i, j, rfl, hf, h, hi, hj, rfl⟩
  refine sem_of_awp (Γ := tbl tabHO) tabHO_ok _ _ _ ?_
  have hi2 : (i : Int) < s.classes.length := by omega
  have hi0 : (0 : Int) ≤ i := Int.natCast_nonneg i
  have hnc : D.nth (s.classes.map clsD) i = clsD (s.classes.getD i default) := D.nth_map hi
  have hV := heldV_3 h hi hj
  have hg := good_of h
  have hnp := hg.np
  have hnl := hg.nl
  have hncl := hg.nc
  generalize s.classes.getD i default = c at *
  generalize hL : c.steps.take j = L at *
  simp only [go_sem, Try.ntmps50, sysD]
  refine call_data heldR (by simp) [sysD s, .int .i64 i, .int .i64 j] _ rfl ⟨s, i, j, rfl, hf, hV.symm⟩ (.inl rfl) ?_
  have hUl := balU_len s L
  have hBl := balB_len s L
  have hv : holdL s c i L = hU 0 (balU s L) ++ hB s.pools.length 0 (balB s L) ++ hC s c i := rfl
  generalize holdL s c i L = V at *
  generalize balU s L = U at *
  generalize balB s L = B at *
  simp only [go_sem, Int.reduceEq, Int.reduceLT, Int.reduceLE, eq_self, Int.natCast_nonneg, Int.toNat_natCast, ints_len, List.length_map, hUl, hBl]
  refine sem_le (le_addnil 10 none rfl (Nat.zero_le _)) ?_
  simp only [go_sem, Int.reduceEq, Int.reduceLT, Int.reduceLE, eq_self, Int.natCast_nonneg, Int.toNat_natCast]
  refine sem_loop (fun p : Nat × List Int => ⟨slotsOf 73 [(1, .dat (.int .i64 i)), (3, .ptr 0 0 0), (8, .dat (.sl none (boolsD B))), (10, .sl 1 0 p.2.length), (23, .dat (.sl none (intsD U))), (24, .dat (.int .i64 s.pools.length)), (25, .dat (.int .i64 p.1))],
      [sysO s, .row none (intsD p.2)], 0, []⟩)
    (fun p => p.1 ≤ s.pools.length ∧ p.2.length ≤ p.1 ∧ p.2 ++ hU p.1 (U.drop p.1) = hU 0 U) (fun p => s.pools.length - p.1) (0, []) ⟨Nat.zero_le _, Nat.zero_le _, rfl⟩ ?_ ?_
  · exact le_slots' (by simp only [go_sem, Int.natCast_zero])
  · rintro ⟨k, acc⟩ ⟨hk, ha, hI⟩
    simp only at hk ha hI
    refine sem_of_awp (Γ := tbl tabHO) tabHO_ok _ _ _ ?_
    cases hd : U.drop k with
    | nil =>
      have := end_of_drop hd (by omega)
      have hk2 : ¬ (k : Int) < s.pools.length := by omega
      rw [hd, hU, List.append_nil] at hI
      subst hI
      simp only [go_sem, Int.reduceEq, Int.reduceLT, Int.reduceLE, eq_self, Int.natCast_nonneg, Int.toNat_natCast, hk2, List.length_map, hBl]
      refine sem_loop (fun p : Nat × List Int => ⟨slotsOf 73 [(1, .dat (.int .i64 i)), (3, .ptr 0 0 0), (10, .sl 1 0 p.2.length), (37, .dat (.sl none (boolsD B))), (38, .dat (.int .i64 s.locks.length)), (39, .dat (.int .i64 p.1))],
          [sysO s, .row none (intsD p.2)], 0, []⟩)
        (fun p => p.1 ≤ s.locks.length ∧ p.2.length ≤ s.pools.length + p.1 ∧ p.2 ++ hB s.pools.length p.1 (B.drop p.1) = hU 0 U ++ hB s.pools.length 0 B) (fun p => s.locks.length - p.1) (0, hU 0 U) ⟨Nat.zero_le _, by simp only; omega, rfl⟩ ?_ ?_
      · exact le_slots' (by simp only [go_sem, Int.natCast_zero])
      · rintro ⟨k, acc⟩ ⟨hk, ha, hI⟩
        simp only at hk ha hI
        refine sem_of_awp (Γ := tbl tabHO) tabHO_ok _ _ _ ?_
        cases hd : B.drop k with
        | nil =>
          have := end_of_drop hd (by omega)
          have hk2 : ¬ (k : Int) < s.locks.length := by omega
          rw [hd, hB, List.append_nil] at hI
          rw [← hI] at hv
          unfold hC at hv
          simp only [go_sem, Int.reduceEq, Int.reduceLT, Int.reduceLE, eq_self, Int.natCast_nonneg, Int.toNat_natCast, hk2, hi2, hi0, hi, hnc, clsD]
          cases hs : c.server with
          | true =>
            rw [hs, if_pos rfl] at hv
            simp only [go_sem, Int.reduceEq, Int.reduceLT, Int.reduceLE, eq_self, Int.natCast_nonneg, Int.toNat_natCast, hs, ints_take, ints_len, ints_snoc]
            refine ⟨inR_i64.2 (by omega), inR_i64.2 (by omega), by omega, by omega, ?_⟩
            refine post_res (.inl rfl) [.tmp 6] rfl ?_
            simp only [go_sem]
            refine Le.trans (le_freeze 1 (ag := none) rfl (Nat.zero_le _)) ?_
            have hl : acc.length + 1 = V.length := by rw [hv]; simp
            simp only [go_sem, ← hv, hl, ints_take, ints_len, Nat.le_refl]
            exact le_fin (by simp only [go_sem]) (by simp only [go_sem])
          | false =>
            rw [hs, if_neg (by simp), List.append_nil] at hv
            subst hv
            simp only [go_sem, Int.reduceEq, Int.reduceLT, Int.reduceLE, eq_self, Int.natCast_nonneg, Int.toNat_natCast, hs]
            refine post_res (.inl rfl) [.tmp 6] rfl ?_
            simp only [go_sem]
            refine Le.trans (le_freeze 1 (ag := none) rfl (Nat.zero_le _)) ?_
            simp only [go_sem, ints_take, ints_len, Nat.le_refl]
            exact le_fin (by simp only [go_sem]) (by simp only [go_sem])
        | cons b q =>
          have hlt := lt_of_drop hd
          have hk2 : (k : Int) < s.locks.length := by omega
          have hk3 : k < s.locks.length := by omega
          have hk0 : (0 : Int) ≤ k := Int.natCast_nonneg k
          have hn := nth_of_drop (f := D.bool) hd
          rw [hd, hB] at hI
          simp only [go_sem, Int.reduceEq, Int.reduceLT, Int.reduceLE, eq_self, Int.natCast_nonneg, Int.toNat_natCast, hk2, hk3, hk0, hn, hBl, hlt]
          cases b with
          | true =>
            rw [if_pos rfl] at hI
            simp only [go_sem, Int.reduceEq, Int.reduceLT, Int.reduceLE, eq_self, Int.natCast_nonneg, Int.toNat_natCast, ints_take, ints_len, ints_snoc]
            refine ⟨inR_i64.2 (by omega), by omega, by omega, inR_i64.2 (by omega), (k + 1, acc ++ [(s.pools.length : Int) + k]), ⟨by simp only; omega, by simp; omega, ?_⟩, by simp only; omega, ?_⟩
            · simp only; rw [drop_cons hd, List.append_assoc]; exact hI
            · refine le_end (own := [_, _]) (ex := [_]) (Nat.zero_le _) ?_ ?_ ?_
              · simp only [go_sem, Int.natCast_add, Int.cast_ofNat_Int, List.length_append, List.length_cons, List.length_nil, Nat.zero_add]
              · simp only [go_sem]
              · simp only [go_sem, Obj.under, AV.unders, AV.under]
          | false =>
            rw [if_neg (by simp)] at hI
            simp only [go_sem, Int.reduceEq, Int.reduceLT, Int.reduceLE, eq_self, Int.natCast_nonneg, Int.toNat_natCast]
            refine ⟨inR_i64.2 (by omega), (k + 1, acc), ⟨by simp only; omega, by simp only; omega, ?_⟩, by simp only; omega, ?_⟩
            · simp only; rw [drop_cons hd]; exact hI
            · exact le_slots' (by simp only [go_sem, Int.natCast_add, Int.cast_ofNat_Int])
    | cons n q =>
      have hlt := lt_of_drop hd
      have hk2 : (k : Int) < s.pools.length := by omega
      have hk3 : k < s.pools.length := by omega
      have hk0 : (0 : Int) ≤ k := Int.natCast_nonneg k
      have hn := nth_of_drop (f := D.int .i64) hd
      rw [hd, hU] at hI
      simp only [go_sem, Int.reduceEq, Int.reduceLT, Int.reduceLE, eq_self, Int.natCast_nonneg, Int.toNat_natCast, hk2, hk3, hk0, hn, hUl, hlt]
      by_cases hn0 : 0 < n
      · rw [if_pos hn0] at hI
        simp only [go_sem, Int.reduceEq, Int.reduceLT, Int.reduceLE, eq_self, Int.natCast_nonneg, Int.toNat_natCast, hn0, ints_take, ints_len, ints_snoc]
        refine ⟨by omega, by omega, inR_i64.2 (by omega), (k + 1, acc ++ [(k : Int)]), ⟨by simp only; omega, by simp; omega, ?_⟩, by simp only; omega, ?_⟩
        · simp only; rw [drop_cons hd, List.append_assoc]; exact hI
        · refine le_end (own := [_, _]) (ex := [_]) (Nat.zero_le _) ?_ ?_ ?_
          · simp only [go_sem, Int.natCast_add, Int.cast_ofNat_Int, List.length_append, List.length_cons, List.length_nil, Nat.zero_add]
          · simp only [go_sem]
          · simp only [go_sem, Obj.under, AV.unders, AV.under]
      · rw [if_neg hn0] at hI
        simp only [go_sem, Int.reduceEq, Int.reduceLT, Int.reduceLE, eq_self, Int.natCast_nonneg, Int.toNat_natCast, hn0]
        refine ⟨inR_i64.2 (by omega), (k + 1, acc), ⟨by simp only; omega, by simp only; omega, ?_⟩, by simp only; omega, ?_⟩
        · simp only; rw [drop_cons hd]; exact hI
        · exact le_slots' (by simp only [go_sem, Int.natCast_add, Int.cast_ofNat_Int])
end Go.AM

set_option maxRecDepth 8000
set_option maxHeartbeats 1000000
namespace Go.AM
open Go Go.Proofs

abbrev tabRG : List (Nat × Contract) := [(72, dataC heldR), (69, dataC unitsR)]
end Go.AM

set_option maxRecDepth 8000
set_option maxHeartbeats 1000000
namespace Go.AM
open Go Go.Proofs

def hasE (l : List PEdge) (a b : Int) : Bool := l.any fun y => decide (y.src = a) && decide (y.dst = b)
def addE (l : List PEdge) (x : PEdge) : List PEdge := if hasE l x.src x.dst = true then l else l ++ [x]
def addR (xs : List AV) (obs : List Obj) (v0 : AV) (obs' ex : List Obj) (mv0 : List Nat) : Prop := ∃ (l : List PEdge) (x : PEdge), l.length ≤ 10000 ∧ xs = [.sl 0 0 l.length, .dat (edgeD x)] ∧ obs = [.row (some 4) (edgesD l)] ∧
  v0 = .sl 0 0 (addE l x).length ∧ obs' = [.row (some 4) (edgesD (addE l x))] ∧ ex = [] ∧ mv0 = [0]
def addAll (t i k : Int) : List Int → List PEdge → List PEdge
  | [], acc => acc
  | f :: r, acc => addAll t i k r (addE acc ⟨f, t, i, k⟩)
def edS (s : PSys) (c : PCls) (i : Nat) : Nat → List PStep → List PEdge → List PEdge
  | _, [], acc => acc
  | k, x :: r, acc => edS s c i (k + 1) r (if waitB s x = true then addAll (targetN s x) i k (holdL s c i (c.steps.take k)) acc else acc)
def edC (s : PSys) : Nat → List PCls → List PEdge → List PEdge
  | _, [], acc => acc
  | i, c :: r, acc => edC s (i + 1) r (edS s c i 0 c.steps acc)
theorem addE_len (l : List PEdge) (x : PEdge) : (addE l x).length ≤ l.length + 1 := by unfold addE; split <;> simp
theorem holdL_len (s : PSys) (c : PCls) (i : Int) (L : List PStep) : (holdL s c i L).length ≤ s.pools.length + s.locks.length + 1 := by
  have h1 := hU_len 0 (balU s L)
  have h2 := hB_len s.pools.length 0 (balB s L)
  rw [balU_len] at h1
  rw [balB_len] at h2
  have h3 : (hC s c i).length ≤ 1 := by unfold hC; split <;> simp
  simp only [holdL, List.length_append]; omega
def edgesV (s : PSys) : AV := if checkE s ≠ 0 then .tup [.dat (.sl none []), .dat (.int .i64 (checkE s))] else .tup [.dat (.sl (some 4) (edgesD (edC s 0 s.classes []))), .dat (.int .i64 0)]
def edgesR (ds : List D) (v : AV) : Prop := ∃ s : PSys, ds = [sysD s] ∧ s.fit ∧ v = edgesV s

abbrev tabRE : List (Nat × Contract) := [(32, dataC checkR), (45, dataC waitNR), (46, dataC holdR), (47, dataC targetR), (57, normC (lentC addR))]
end Go.AM

