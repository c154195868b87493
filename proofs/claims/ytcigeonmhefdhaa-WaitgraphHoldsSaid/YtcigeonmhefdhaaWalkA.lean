/- Own work over the model of the kit. -/
import Derived.Test.YtcigeonmhefdhaaPathB
set_option linter.unusedSimpArgs false
set_option linter.unusedVariables false
set_option maxRecDepth 8000
set_option maxHeartbeats 1000000
namespace Go.AM
open Go Go.Proofs

/- ### own units -/
def ustep (pool : Int) (p : Int × Int) (x : PStep) : Int × Int :=
  if x.on = pool then (if x.kind = 1 then (p.1 + x.cnt, if x.deep = true then p.2 + x.cnt else p.2) else if x.kind = 2 then (p.1 - x.cnt, p.2 - min p.2 x.cnt) else p) else p
def ownU (pool : Int) (l : List PStep) : Int × Int := l.foldl (ustep pool) (0, 0)
def selU (d : Bool) (p : Int × Int) : Int := if d = true then p.2 else p.1
/-- The greatest own units before the steps 0 .. k. -/
def mxN (pool : Int) (d : Bool) (l : List PStep) : Nat → Int
  | 0 => 0
  | k + 1 => max (mxN pool d l k) (selU d (ownU pool (l.take (k + 1))))
theorem ownU_snoc (pool : Int) (l : List PStep) (x : PStep) : ownU pool (l ++ [x]) = ustep pool (ownU pool l) x := by simp [ownU]
theorem ownU_le_mxN (pool : Int) (d : Bool) (l : List PStep) : ∀ k, selU d (ownU pool (l.take k)) ≤ mxN pool d l k
  | 0 => by cases d <;> simp [selU, ownU, mxN]
  | k + 1 => by simp only [mxN]; exact Int.le_max_right _ _
theorem ustep_le {pool : Int} {p : Int × Int} {x : PStep} {b : Int} (hx : -1000 ≤ x.cnt ∧ x.cnt ≤ 1000) (h1 : -b ≤ p.1 ∧ p.1 ≤ b) (h2 : -b ≤ p.2 ∧ p.2 ≤ b) (hb : 0 ≤ b) :
    (-(b + 1000) ≤ (ustep pool p x).1 ∧ (ustep pool p x).1 ≤ b + 1000) ∧ (-(b + 1000) ≤ (ustep pool p x).2 ∧ (ustep pool p x).2 ≤ b + 1000) := by
  unfold ustep
  (repeat' split) <;> first | omega | (simp only; omega)
theorem ownU_le (pool : Int) {l : List PStep} (h : Tame l) : ∀ k : Nat, k ≤ l.length → (-(1000 * (k : Int)) ≤ (ownU pool (l.take k)).1 ∧ (ownU pool (l.take k)).1 ≤ 1000 * k) ∧ (-(1000 * (k : Int)) ≤ (ownU pool (l.take k)).2 ∧ (ownU pool (l.take k)).2 ≤ 1000 * k)
  | 0, _ => by simp [ownU]
  | k + 1, hk => by
    obtain ⟨h1, h2⟩ := ownU_le pool h k (by omega)
    have hx := h l[k] (List.getElem_mem _)
    rw [List.take_succ_eq_append_getElem (by omega), ownU_snoc]
    have := ustep_le (pool := pool) hx h1 h2 (by omega)
    omega
theorem mxN_le (pool : Int) (d : Bool) {l : List PStep} (h : Tame l) : ∀ k : Nat, k ≤ l.length → 0 ≤ mxN pool d l k ∧ mxN pool d l k ≤ 1000 * k
  | 0, _ => by simp [mxN]
  | k + 1, hk => by
    have h0 := mxN_le pool d h k (by omega)
    have h1 := ownU_le pool h (k + 1) hk
    simp only [mxN]
    have h2 : selU d (ownU pool (l.take (k + 1))) ≤ 1000 * ((k + 1 : Nat) : Int) := by
      unfold selU; split
      · exact h1.2.2
      · exact h1.1.2
    omega

abbrev clsO (c : PCls) : Obj := .box [.dat (.str c.name), .dat (.int .i64 c.workers), .dat (.bool c.server), .dat (.sl (some 4) (c.steps.map stepD))]
def peakR (ds : List D) (v : AV) : Prop := ∃ (c : PCls) (pool : Int), ds = [clsD c, .int .i64 pool] ∧ Tame c.steps ∧ c.steps.length ≤ 1000 ∧
  v = .tup [.dat (.int .i64 (mxN pool false c.steps c.steps.length)), .dat (.int .i64 (mxN pool true c.steps c.steps.length))]
theorem peak_ok : OkF Try.prog 64 (dataC peakR) := by
  refine okF_data Try.func64 rfl (by decide) ?_
  rintro ds v ⟨c, pool, rfl, hT, hlen, rfl⟩
  refine sem_of_awp (Γ := tbl []) okG_nil _ _ _ ?_
  obtain ⟨name, workers, server, l⟩ := c
  simp only at hT hlen
  simp only [go_sem, Try.ntmps64, clsD, stepsD]
  refine sem_loop (fun k : Nat => ⟨slotsOf 58 [(1, .dat (.int .i64 pool)), (2, .ptr 0 0 0), (4, .dat (.int .i64 0)), (5, .dat (.int .i64 0)), (6, .dat (.int .i64 (ownU pool (l.take k)).1)), (7, .dat (.int .i64 (ownU pool (l.take k)).2)), (8, .dat (.int .i64 (mxN pool false l k))), (9, .dat (.int .i64 (mxN pool true l k))),
      (13, .dat (.sl (some 4) (l.map stepD))), (14, .dat (.int .i64 l.length)), (15, .dat (.int .i64 k))], [clsO ⟨name, workers, server, l⟩], 0, []⟩)
    (fun k => k ≤ l.length) (fun k => l.length - k) 0 (Nat.zero_le _) ?_ ?_
  · exact le_slots' (by simp only [go_sem, Int.natCast_zero, ownU, List.foldl_nil, mxN])
  · rintro k hk
    refine sem_of_awp (Γ := tbl []) okG_nil _ _ _ ?_
    cases hd : l.drop k with
    | nil =>
      have := end_of_drop hd hk
      obtain rfl : k = l.length := by omega
      have hk2 : ¬ (l.length : Int) < l.length := by omega
      simp only [go_sem, hk2]
      exact post_data (.inl rfl) [4, 5] rfl (by simp [AV.under, AV.unders]) (by rfl)
    | cons x q =>
      have hlt := lt_of_drop hd
      have hk2 : (k : Int) < l.length := by omega
      have hk0 : (0 : Int) ≤ k := Int.natCast_nonneg k
      have hn := nth_of_drop (f := stepD) hd
      have hx := hT x (mem_of_drop hd)
      have hgo : inR .i64 ((k : Int) + 1) := inR_i64.2 (by omega)
      have ho := ownU_le pool hT k hk
      have hm1 := mxN_le pool false hT k hk
      have hm2 := mxN_le pool true hT k hk
      have hl1 := ownU_le_mxN pool false l k
      have hl2 := ownU_le_mxN pool true l k
      have hs : ownU pool (l.take (k + 1)) = ustep pool (ownU pool (l.take k)) x := by rw [take_of_drop hd, ownU_snoc]
      have e1 : mxN pool false l (k + 1) = max (mxN pool false l k) (ustep pool (ownU pool (l.take k)) x).1 := by simp only [mxN, hs, selU]; rfl
      have e2 : mxN pool true l (k + 1) = max (mxN pool true l k) (ustep pool (ownU pool (l.take k)) x).2 := by simp only [mxN, hs, selU]; rfl
      simp only [selU, Bool.false_eq_true, if_false, if_true] at hl1 hl2
      generalize ownU pool (l.take k) = p at *
      obtain ⟨a, b⟩ := p
      generalize mxN pool false l k = M at *
      generalize mxN pool true l k = N at *
      simp only at ho hl1 hl2
      by_cases c0 : x.on = pool
      · have c0' : decide (x.on = pool) = true := decide_eq_true c0
        have c1 : decide (x.on ≠ pool) = false := decide_eq_false (fun h => h c0)
        by_cases k1 : x.kind = 1
        · cases hdp : x.deep with
          | true =>
            have hu : ustep pool (a, b) x = (a + x.cnt, b + x.cnt) := by simp [ustep, c0, k1, hdp]
            simp only [hu] at e1 e2 hs
            simp only [go_sem, Int.reduceEq, eq_self, hk2, hk0, hn, hlt, stepD, c0, c0', k1, hdp]
            refine ⟨inR_i64.2 (by omega), inR_i64.2 (by omega), hgo, k + 1, by omega, by omega, ?_⟩
            refine le_end (own := [_]) (ex := [_]) (Nat.zero_le _) ?_ ?_ ?_
            · simp only [go_sem, Int.natCast_add, Int.cast_ofNat_Int, hs, e1, e2]
            · simp only [go_sem]
            · simp only [go_sem, Obj.under, AV.unders, AV.under]
          | false =>
            have hu : ustep pool (a, b) x = (a + x.cnt, b) := by simp [ustep, c0, k1, hdp]
            simp only [hu] at e1 e2 hs
            simp only [go_sem, Int.reduceEq, eq_self, hk2, hk0, hn, hlt, stepD, c0, c0', k1, hdp]
            refine ⟨inR_i64.2 (by omega), hgo, k + 1, by omega, by omega, ?_⟩
            refine le_end (own := [_]) (ex := [_]) (Nat.zero_le _) ?_ ?_ ?_
            · simp only [go_sem, Int.natCast_add, Int.cast_ofNat_Int, hs, e1, e2]
            · simp only [go_sem]
            · simp only [go_sem, Obj.under, AV.unders, AV.under]
        by_cases k2 : x.kind = 2
        · have hu : ustep pool (a, b) x = (a - x.cnt, b - min b x.cnt) := by simp [ustep, c0, k2]
          simp only [hu] at e1 e2 hs
          simp only [go_sem, Int.reduceEq, eq_self, hk2, hk0, hn, hlt, stepD, c0, c0', k1, k2]
          refine ⟨inR_i64.2 (by omega), inR_i64.2 (by omega), hgo, k + 1, by omega, by omega, ?_⟩
          refine le_end (own := [_]) (ex := [_]) (Nat.zero_le _) ?_ ?_ ?_
          · simp only [go_sem, Int.natCast_add, Int.cast_ofNat_Int, hs, e1, e2]
          · simp only [go_sem]
          · simp only [go_sem, Obj.under, AV.unders, AV.under]
        · have hu : ustep pool (a, b) x = (a, b) := by simp [ustep, c0, k1, k2]
          simp only [hu] at e1 e2 hs
          simp only [go_sem, Int.reduceEq, eq_self, hk2, hk0, hn, hlt, stepD, c0, c0', k1, k2]
          refine ⟨hgo, k + 1, by omega, by omega, ?_⟩
          refine le_end (own := [_]) (ex := [_]) (Nat.zero_le _) ?_ ?_ ?_
          · simp only [go_sem, Int.natCast_add, Int.cast_ofNat_Int, hs, e1, e2]
          · simp only [go_sem]
          · simp only [go_sem, Obj.under, AV.unders, AV.under]
      · have c0' : decide (x.on = pool) = false := decide_eq_false c0
        have hu : ustep pool (a, b) x = (a, b) := by simp [ustep, c0]
        simp only [hu] at e1 e2 hs
        rw [Int.max_eq_left hl1] at e1
        rw [Int.max_eq_left hl2] at e2
        simp only [go_sem, Int.reduceEq, eq_self, hk2, hk0, hn, hlt, stepD, c0, c0']
        refine ⟨hgo, k + 1, by omega, by omega, ?_⟩
        refine le_end (own := [_]) (ex := [_]) (Nat.zero_le _) ?_ ?_ ?_
        · simp only [go_sem, Int.natCast_add, Int.cast_ofNat_Int, hs, e1, e2]
        · simp only [go_sem]
        · simp only [go_sem, Obj.under, AV.unders, AV.under]

/- ### the specification's own units -/
def unitsR (ds : List D) (v : AV) : Prop := ∃ (c : PCls) (pool : Int) (k : Nat) (d : Bool), ds = [clsD c, .int .i64 pool, .int .i64 k, .bool d] ∧ Tame c.steps ∧ c.steps.length ≤ 1000 ∧ k ≤ c.steps.length ∧
  v = .dat (.int .i64 (selU d (ownU pool (c.steps.take k))))
theorem units_ok : OkF Try.prog 36 (dataC unitsR) := by
  refine okF_data Try.func36 rfl (by decide) ?_
  rintro ds v ⟨c, pool, m, d, rfl, hT, hlen, hm, rfl⟩
  refine sem_of_awp (Γ := tbl []) okG_nil _ _ _ ?_
  obtain ⟨name, workers, server, l⟩ := c
  simp only at hT hlen hm
  simp only [go_sem, Try.ntmps36, clsD, stepsD]
  refine sem_loop (fun k : Nat => ⟨slotsOf 55 [(1, .dat (.int .i64 pool)), (2, .dat (.int .i64 m)), (3, .dat (.bool d)), (4, .ptr 0 0 0), (8, .dat (.int .i64 0)), (9, .dat (.int .i64 (ownU pool (l.take k)).1)), (10, .dat (.int .i64 (ownU pool (l.take k)).2)), (11, .dat (.int .i64 k))], [clsO ⟨name, workers, server, l⟩], 0, []⟩)
    (fun k => k ≤ m) (fun k => m - k) 0 (Nat.zero_le _) ?_ ?_
  · exact le_slots' (by simp only [go_sem, Int.natCast_zero, ownU, List.foldl_nil])
  · rintro k hk
    refine sem_of_awp (Γ := tbl []) okG_nil _ _ _ ?_
    by_cases hkm : k < m
    · have hkl : k < l.length := by omega
      have hk3 : (k : Int) < m := by omega
      have hk2 : (k : Int) < l.length := by omega
      have hk0 : (0 : Int) ≤ k := Int.natCast_nonneg k
      have hd : l.drop k = l[k] :: l.drop (k + 1) := List.drop_eq_getElem_cons hkl
      have hn := nth_of_drop (f := stepD) hd
      have hx := hT l[k] (List.getElem_mem _)
      generalize l[k] = x at *
      have hgo : inR .i64 ((k : Int) + 1) := inR_i64.2 (by omega)
      have ho := ownU_le pool hT k (by omega)
      have hs : ownU pool (l.take (k + 1)) = ustep pool (ownU pool (l.take k)) x := by rw [take_of_drop hd, ownU_snoc]
      generalize ownU pool (l.take k) = p at *
      obtain ⟨a, b⟩ := p
      simp only at ho
      by_cases c0 : x.on = pool
      · have c0' : decide (x.on = pool) = true := decide_eq_true c0
        by_cases k1 : x.kind = 1
        · cases hdp : x.deep with
          | true =>
            have hu : ustep pool (a, b) x = (a + x.cnt, b + x.cnt) := by simp [ustep, c0, k1, hdp]
            simp only [hu] at hs
            simp only [go_sem, Int.reduceEq, eq_self, hk2, hk3, hk0, hn, stepD, c0, c0', k1, hdp]
            refine ⟨inR_i64.2 (by omega), inR_i64.2 (by omega), hgo, k + 1, by omega, by omega, ?_⟩
            refine le_end (own := [_]) (ex := [_]) (Nat.zero_le _) ?_ ?_ ?_
            · simp only [go_sem, Int.natCast_add, Int.cast_ofNat_Int, hs]
            · simp only [go_sem]
            · simp only [go_sem, Obj.under, AV.unders, AV.under]
          | false =>
            have hu : ustep pool (a, b) x = (a + x.cnt, b) := by simp [ustep, c0, k1, hdp]
            simp only [hu] at hs
            simp only [go_sem, Int.reduceEq, eq_self, hk2, hk3, hk0, hn, stepD, c0, c0', k1, hdp]
            refine ⟨inR_i64.2 (by omega), hgo, k + 1, by omega, by omega, ?_⟩
            refine le_end (own := [_]) (ex := [_]) (Nat.zero_le _) ?_ ?_ ?_
            · simp only [go_sem, Int.natCast_add, Int.cast_ofNat_Int, hs]
            · simp only [go_sem]
            · simp only [go_sem, Obj.under, AV.unders, AV.under]
        by_cases k2 : x.kind = 2
        · have hu : ustep pool (a, b) x = (a - x.cnt, max (b - x.cnt) 0) := by simp [ustep, c0, k2]; omega
          simp only [hu] at hs
          simp only [go_sem, Int.reduceEq, eq_self, hk2, hk3, hk0, hn, stepD, c0, c0', k1, k2]
          refine ⟨inR_i64.2 (by omega), inR_i64.2 (by omega), hgo, k + 1, by omega, by omega, ?_⟩
          refine le_end (own := [_]) (ex := [_]) (Nat.zero_le _) ?_ ?_ ?_
          · simp only [go_sem, Int.natCast_add, Int.cast_ofNat_Int, hs]
          · simp only [go_sem]
          · simp only [go_sem, Obj.under, AV.unders, AV.under]
        · have hu : ustep pool (a, b) x = (a, b) := by simp [ustep, c0, k1, k2]
          simp only [hu] at hs
          simp only [go_sem, Int.reduceEq, eq_self, hk2, hk3, hk0, hn, stepD, c0, c0', k1, k2]
          refine ⟨hgo, k + 1, by omega, by omega, ?_⟩
          refine le_end (own := [_]) (ex := [_]) (Nat.zero_le _) ?_ ?_ ?_
          · simp only [go_sem, Int.natCast_add, Int.cast_ofNat_Int, hs]
          · simp only [go_sem]
          · simp only [go_sem, Obj.under, AV.unders, AV.under]
      · have c0' : decide (x.on = pool) = false := decide_eq_false c0
        have hu : ustep pool (a, b) x = (a, b) := by simp [ustep, c0]
        simp only [hu] at hs
        simp only [go_sem, Int.reduceEq, eq_self, hk2, hk3, hk0, hn, stepD, c0, c0']
        refine ⟨hgo, k + 1, by omega, by omega, ?_⟩
        refine le_end (own := [_]) (ex := [_]) (Nat.zero_le _) ?_ ?_ ?_
        · simp only [go_sem, Int.natCast_add, Int.cast_ofNat_Int, hs]
        · simp only [go_sem]
        · simp only [go_sem, Obj.under, AV.unders, AV.under]
    · obtain rfl : k = m := by omega
      have hk2 : ¬ (k : Int) < k := by omega
      simp only [go_sem, hk2]
      cases d with
      | true =>
        simp only [go_sem]
        exact post_data (.inl rfl) [8] rfl trivial (by rfl)
      | false =>
        simp only [go_sem]
        exact post_data (.inl rfl) [8] rfl trivial (by rfl)
end Go.AM

set_option maxRecDepth 8000
set_option maxHeartbeats 1000000
namespace Go.AM
open Go Go.Proofs

/- ### a valid system -/
structure PCls.good (s : PSys) (c : PCls) : Prop where
  w0 : 0 ≤ c.workers
  w4 : c.workers ≤ 4
  l1 : 1 ≤ c.steps.length
  l12 : c.steps.length ≤ 12
  run : verd (runE s c.steps (hold0 s)) = 0
  pre : ∀ x ∈ c.steps, preE s x = 0
structure PSys.good (s : PSys) : Prop where
  np : s.pools.length ≤ 6
  nl : s.locks.length ≤ 4
  nc : s.classes.length ≤ 6
  pool : ∀ p ∈ s.pools, ¬ p.bad
  cls : ∀ c ∈ s.classes, c.good s
theorem verd_pre {s : PSys} : ∀ {l : List PStep} {h : Hold}, verd (runE s l h) = 0 → ∀ x ∈ l, preE s x = 0
  | [], _, _, x, hx => by simp at hx
  | y :: l, h, hv, x, hx => by
    by_cases he : stepE s h.units h.locks y = 0
    · rw [verd_go he] at hv
      rcases List.mem_cons.1 hx with rfl | hx
      · exact stepE_0 he
      · exact verd_pre hv x hx
    · rw [verd_err he] at hv; exact absurd hv he
theorem classE_good {s : PSys} {c : PCls} (h : classE s c = 0) : c.good s := by
  unfold classE at h
  split at h
  · simp at h
  · split at h
    · simp at h
    · exact ⟨by omega, by omega, by omega, by omega, h, verd_pre h⟩
theorem clssE_good {s : PSys} : ∀ {l : List PCls}, clssE s l = 0 → ∀ c ∈ l, c.good s
  | [], _, c, hc => by simp at hc
  | d :: r, h, c, hc => by
    simp only [clssE] at h
    split at h
    · rename_i h2; exact absurd h h2
    · rename_i h2
      have h2 : classE s d = 0 := Classical.byContradiction h2
      rcases List.mem_cons.1 hc with rfl | hc
      · exact classE_good h2
      · exact clssE_good h c hc
theorem good_of {s : PSys} (h : checkE s = 0) : s.good := by
  unfold checkE at h
  split at h
  · simp at h
  · obtain ⟨h1, h2⟩ := thenE_eq0 h
    obtain ⟨h2, h3⟩ := thenE_eq0 h2
    exact ⟨by omega, by omega, by omega, poolsE_0 h2, clssE_good h3⟩
theorem PSys.good.small {s : PSys} (h : s.good) : s.small := ⟨by have := h.np; omega, by have := h.nl; omega, by have := h.nc; omega⟩
theorem PSys.good.tame {s : PSys} (h : s.good) : s.tame := fun p hp => by have := h.pool p hp; unfold PPool.bad at this; omega
theorem PCls.good.steps {s : PSys} {c : PCls} (h : c.good s) (hs : s.good) : Tame c.steps := fun x hx => pre_tame hs.tame (h.pre x hx)

/- ### demands -/
def demC (pool : Int) (d : Bool) (a : Int) (c : PCls) : Int := a + c.workers * mxN pool d c.steps c.steps.length
def demL (pool : Int) (d : Bool) (l : List PCls) : Int := l.foldl (demC pool d) 0
theorem demL_snoc (pool : Int) (d : Bool) (l : List PCls) (c : PCls) : demL pool d (l ++ [c]) = demL pool d l + c.workers * mxN pool d c.steps c.steps.length := by simp [demL, demC]
theorem wmul {w m : Int} (h0 : 0 ≤ w) (h4 : w ≤ 4) (hm : 0 ≤ m ∧ m ≤ 12000) : 0 ≤ w * m ∧ w * m ≤ 48000 := by
  obtain rfl | rfl | rfl | rfl | rfl : w = 0 ∨ w = 1 ∨ w = 2 ∨ w = 3 ∨ w = 4 := by omega
  all_goals omega
theorem mx_le {s : PSys} {c : PCls} (hs : s.good) (h : c.good s) (pool : Int) (d : Bool) : 0 ≤ mxN pool d c.steps c.steps.length ∧ mxN pool d c.steps c.steps.length ≤ 12000 := by
  have := mxN_le pool d (h.steps hs) c.steps.length (Nat.le_refl _)
  have := h.l12
  omega
theorem demL_le {s : PSys} (hs : s.good) (pool : Int) (d : Bool) : ∀ k : Nat, k ≤ s.classes.length → 0 ≤ demL pool d (s.classes.take k) ∧ demL pool d (s.classes.take k) ≤ 48000 * k
  | 0, _ => by simp [demL]
  | k + 1, hk => by
    have h0 := demL_le hs pool d k (by omega)
    have hc := hs.cls s.classes[k] (List.getElem_mem _)
    rw [List.take_succ_eq_append_getElem (by omega), demL_snoc]
    have := wmul hc.w0 hc.w4 (mx_le hs hc pool d)
    omega
def demandR (ds : List D) (v : AV) : Prop := ∃ (s : PSys) (pool : Int), ds = [sysD s, .int .i64 pool] ∧ s.good ∧ v = .tup [.dat (.int .i64 (demL pool false s.classes)), .dat (.int .i64 (demL pool true s.classes))]
theorem demand_ok : OkF Try.prog 35 (dataC demandR) := by
  refine okF_data Try.func35 rfl (by decide) ?_
  rintro ds v ⟨s, pool, rfl, hg, rfl⟩
  have hok : OkG Try.prog (tbl [(64, dataC peakR)]) := okG_cons peak_ok okG_nil
  refine sem_of_awp (Γ := tbl [(64, dataC peakR)]) hok _ _ _ ?_
  have hnc := hg.nc
  simp only [go_sem, Try.ntmps35, sysD]
  refine sem_loop (fun k : Nat => ⟨slotsOf 40 [(1, .dat (.int .i64 pool)), (2, .ptr 0 0 0), (4, .dat (.int .i64 0)), (5, .dat (.int .i64 0)), (6, .dat (.int .i64 (demL pool false (s.classes.take k)))), (7, .dat (.int .i64 (demL pool true (s.classes.take k)))),
      (13, .dat (.sl (some 4) (s.classes.map clsD))), (14, .dat (.int .i64 s.classes.length)), (15, .dat (.int .i64 k))], [sysO s], 0, []⟩)
    (fun k => k ≤ s.classes.length) (fun k => s.classes.length - k) 0 (Nat.zero_le _) ?_ ?_
  · exact le_slots' (by simp only [go_sem, Int.natCast_zero, demL, List.foldl_nil])
  · rintro k hk
    refine sem_of_awp (Γ := tbl [(64, dataC peakR)]) hok _ _ _ ?_
    cases hd : s.classes.drop k with
    | nil =>
      have := end_of_drop hd hk
      obtain rfl : k = s.classes.length := by omega
      have hk2 : ¬ (s.classes.length : Int) < s.classes.length := by omega
      simp only [go_sem, hk2, List.take_length]
      exact post_data (.inl rfl) [4, 5] rfl (by simp [AV.under, AV.unders]) (by rfl)
    | cons c q =>
      have hlt := lt_of_drop hd
      have hk2 : (k : Int) < s.classes.length := by omega
      have hk0 : (0 : Int) ≤ k := Int.natCast_nonneg k
      have hn := nth_of_drop (f := clsD) hd
      have hc := hg.cls c (mem_of_drop hd)
      have hgo : inR .i64 ((k : Int) + 1) := inR_i64.2 (by omega)
      have h1 := demL_le hg pool false k hk
      have h2 := demL_le hg pool true k hk
      have e1 := demL_snoc pool false (s.classes.take k) c
      have e2 := demL_snoc pool true (s.classes.take k) c
      rw [← take_of_drop hd] at e1 e2
      have w1 := wmul hc.w0 hc.w4 (mx_le hg hc pool false)
      have w2 := wmul hc.w0 hc.w4 (mx_le hg hc pool true)
      simp only [go_sem, hk2, hk0, hn, hlt, clsD, stepsD]
      refine call_data peakR (by simp) [clsD c, .int .i64 pool] _ rfl ⟨c, pool, rfl, hc.steps hg, by have := hc.l12; omega, rfl⟩ (.inl rfl) ?_
      simp only [go_sem]
      refine ⟨inR_i64.2 (by omega), inR_i64.2 (by omega), inR_i64.2 (by omega), inR_i64.2 (by omega), hgo, k + 1, by omega, by omega, ?_⟩
      refine le_end (own := [_]) (ex := [_]) (Nat.zero_le _) ?_ ?_ ?_
      · simp only [go_sem, Int.natCast_add, Int.cast_ofNat_Int, e1, e2]
      · simp only [go_sem]
      · simp only [go_sem, Obj.under, AV.unders, AV.under]

/- ### how many resources -/
def resN (s : PSys) : Int := if checkE s ≠ 0 then 0 else (s.pools.length : Int) + s.locks.length + s.classes.length
def resR (ds : List D) (v : AV) : Prop := ∃ s : PSys, ds = [sysD s] ∧ s.fit ∧ v = .dat (.int .i64 (resN s))
theorem resources_ok : OkF Try.prog 12 (dataC resR) := by
  refine okF_data Try.func12 rfl (by decide) ?_
  rintro ds v ⟨s, rfl, hf, rfl⟩
  refine sem_of_awp (Γ := tbl [(31, dataC checkR)]) (okG_cons check_ok okG_nil) _ _ _ ?_
  simp only [go_sem, Try.ntmps12, sysD]
  refine call_data checkR (by simp) [sysD s] _ rfl ⟨s, rfl, hf, rfl⟩ (.inl rfl) ?_
  have := hf.small.np; have := hf.small.nl; have := hf.small.nc
  by_cases h : checkE s = 0
  · have e : resN s = (s.pools.length : Int) + s.locks.length + s.classes.length := by unfold resN; rw [if_neg (by rw [h]; decide)]
    rw [e]
    simp only [go_sem, h]
    refine ⟨inR_i64.2 (by omega), inR_i64.2 (by omega), ?_⟩
    exact post_data (.inl rfl) [2] rfl trivial (by rfl)
  · have e : resN s = 0 := by unfold resN; rw [if_pos h]
    rw [e]
    simp only [go_sem, h]
    exact post_data (.inl rfl) [2] rfl trivial (by rfl)
theorem rresources_ok : OkF Try.prog 13 (dataC resR) := by
  refine okF_data Try.func13 rfl (by decide) ?_
  rintro ds v ⟨s, rfl, hf, rfl⟩
  refine sem_of_awp (Γ := tbl [(34, dataC checkR)]) (okG_cons rcheck_ok okG_nil) _ _ _ ?_
  simp only [go_sem, Try.ntmps13, sysD]
  refine call_data checkR (by simp) [sysD s] _ rfl ⟨s, rfl, hf, rfl⟩ (.inl rfl) ?_
  have := hf.small.np; have := hf.small.nl; have := hf.small.nc
  by_cases h : checkE s = 0
  · have e : resN s = (s.pools.length : Int) + s.locks.length + s.classes.length := by unfold resN; rw [if_neg (by rw [h]; decide)]
    rw [e]
    simp only [go_sem, h]
    refine ⟨inR_i64.2 (by omega), inR_i64.2 (by omega), ?_⟩
    exact post_data (.inl rfl) [2] rfl trivial (by rfl)
  · have e : resN s = 0 := by unfold resN; rw [if_pos h]
    rw [e]
    simp only [go_sem, h]
    exact post_data (.inl rfl) [2] rfl trivial (by rfl)

/- ### the demand for a pool -/
def demN (s : PSys) (pool : Int) (d : Bool) : Int := if checkE s ≠ 0 ∨ pool < 0 ∨ (s.pools.length : Int) ≤ pool then -1 else demL pool d s.classes
def demNR (ds : List D) (v : AV) : Prop := ∃ (s : PSys) (pool : Int) (d : Bool), ds = [sysD s, .int .i64 pool, .bool d] ∧ s.fit ∧ v = .dat (.int .i64 (demN s pool d))
abbrev tabDM : List (Nat × Contract) := [(31, dataC checkR), (35, dataC demandR)]
theorem tabDM_ok : OkG Try.prog (tbl tabDM) := okG_cons check_ok (okG_cons demand_ok okG_nil)
theorem Demand_ok : OkF Try.prog 14 (dataC demNR) := by
  refine okF_data Try.func14 rfl (by decide) ?_
  rintro ds v ⟨s, pool, d, rfl, hf, rfl⟩
  refine sem_of_awp (Γ := tbl tabDM) tabDM_ok _ _ _ ?_
  generalize hv : demN s pool d = V
  unfold demN at hv
  have fin : ∀ s own (b c : Int), b = c → s.getD 6 .top = .dat (.int .i64 b) → post Try.prog Try.f14 (.dat (.int .i64 c)) [] [] .ret ⟨s, own, 0, []⟩ := fun s own b c e h => by
    subst e
    exact post_data (.inl rfl) [6] rfl trivial (by simp only [tmpsOf, h]; rfl)
  simp only [go_sem, Try.ntmps14, sysD]
  refine call_data checkR (by simp) [sysD s] _ rfl ⟨s, rfl, hf, rfl⟩ (.inl rfl) ?_
  cases h' : decide (checkE s = 0) with
  | false =>
    have h := of_decide_eq_false h'
    rw [if_pos (.inl h)] at hv
    simp only [go_sem, h, h']
    exact fin _ _ _ _ hv (by rfl)
  | true =>
  have h := of_decide_eq_true h'
  simp only [go_sem, h, h', eq_self, Bool.not_true]
  by_cases h1 : pool < 0
  · rw [if_pos (.inr (.inl h1))] at hv
    simp only [go_sem, h1]
    exact fin _ _ _ _ hv (by rfl)
  by_cases h2 : (s.pools.length : Int) ≤ pool
  · rw [if_pos (.inr (.inr h2))] at hv
    simp only [go_sem, h1, h2]
    exact fin _ _ _ _ hv (by rfl)
  rw [if_neg (by rw [h]; omega)] at hv
  simp only [go_sem, h1, h2]
  refine call_data demandR (by simp) [sysD s, .int .i64 pool] _ rfl ⟨s, pool, rfl, good_of h, rfl⟩ (.inl rfl) ?_
  simp only [go_sem]
  cases d with
  | true => simp only [go_sem]; exact fin _ _ _ _ hv (by rfl)
  | false => simp only [go_sem]; exact fin _ _ _ _ hv (by rfl)
end Go.AM

set_option maxRecDepth 8000
set_option maxHeartbeats 1000000
namespace Go.AM
open Go Go.Proofs

/- ### the specification's demand -/
def mxR (pool : Int) (d : Bool) (l : List PStep) : Nat → Int
  | 0 => 0
  | k + 1 => mxN pool d l k
theorem mxR_le {pool : Int} {d : Bool} {l : List PStep} : ∀ k : Nat, max (mxR pool d l k) (selU d (ownU pool (l.take k))) = mxN pool d l k
  | 0 => by cases d <;> simp [mxR, mxN, selU, ownU]
  | k + 1 => rfl
abbrev tabRD : List (Nat × Contract) := [(34, dataC checkR), (36, dataC unitsR)]
theorem tabRD_ok : OkG Try.prog (tbl tabRD) := okG_cons rcheck_ok (okG_cons units_ok okG_nil)
theorem rDemand_ok : OkF Try.prog 15 (dataC demNR) := by
  refine okF_data Try.func15 rfl (by decide) ?_
  rintro ds v ⟨s, pool, d, rfl, hf, rfl⟩
  refine sem_of_awp (Γ := tbl tabRD) tabRD_ok _ _ _ ?_
  generalize hv : demN s pool d = V
  unfold demN at hv
  have fin : ∀ s own (b c : Int), b = c → s.getD 6 .top = .dat (.int .i64 b) → post Try.prog Try.f15 (.dat (.int .i64 c)) [] [] .ret ⟨s, own, 0, []⟩ := fun s own b c e h => by
    subst e
    exact post_data (.inl rfl) [6] rfl trivial (by simp only [tmpsOf, h]; rfl)
  simp only [go_sem, Try.ntmps15, sysD]
  refine call_data checkR (by simp) [sysD s] _ rfl ⟨s, rfl, hf, rfl⟩ (.inl rfl) ?_
  cases h' : decide (checkE s = 0) with
  | false =>
    have h := of_decide_eq_false h'
    rw [if_pos (.inl h)] at hv
    simp only [go_sem, h, h']
    exact fin _ _ _ _ hv (by rfl)
  | true =>
  have h := of_decide_eq_true h'
  simp only [go_sem, h, h', eq_self, Bool.not_true]
  by_cases h1 : pool < 0
  · rw [if_pos (.inr (.inl h1))] at hv
    simp only [go_sem, h1]
    exact fin _ _ _ _ hv (by rfl)
  by_cases h2 : (s.pools.length : Int) ≤ pool
  · rw [if_pos (.inr (.inr h2))] at hv
    simp only [go_sem, h1, h2]
    exact fin _ _ _ _ hv (by rfl)
  rw [if_neg (by rw [h]; omega)] at hv
  simp only [go_sem, h1, h2]
  have hg := good_of h
  have hnc := hg.nc
  refine sem_loop (fun k : Nat => ⟨slotsOf 59 [(1, .dat (.int .i64 pool)), (2, .dat (.bool d)), (3, .ptr 0 0 0), (6, .dat (.int .i64 0)), (7, .dat (.int .i64 (demL pool d (s.classes.take k)))), (8, .dat (.int .i64 k))], [sysO s], 0, []⟩)
    (fun k => k ≤ s.classes.length) (fun k => s.classes.length - k) 0 (Nat.zero_le _) ?_ ?_
  · exact le_slots' (by simp only [go_sem, Int.natCast_zero, demL, List.foldl_nil])
  · rintro k hk
    refine sem_of_awp (Γ := tbl tabRD) tabRD_ok _ _ _ ?_
    cases hd : s.classes.drop k with
    | nil =>
      have := end_of_drop hd hk
      obtain rfl : k = s.classes.length := by omega
      have hk2 : ¬ (s.classes.length : Int) < s.classes.length := by omega
      simp only [go_sem, hk2, List.take_length]
      exact fin _ _ _ _ hv (by rfl)
    | cons c q =>
      have hlt := lt_of_drop hd
      have hk2 : (k : Int) < s.classes.length := by omega
      have hk0 : (0 : Int) ≤ k := Int.natCast_nonneg k
      have hn := nth_of_drop (f := clsD) hd
      have hc := hg.cls c (mem_of_drop hd)
      have hl12 := hc.l12
      have hT := hc.steps hg
      have h1 := demL_le hg pool d k hk
      have e1 := demL_snoc pool d (s.classes.take k) c
      rw [← take_of_drop hd] at e1
      have w1 := wmul hc.w0 hc.w4 (mx_le hg hc pool d)
      simp only [go_sem, hk2, hk0, hn, hlt, clsD, stepsD]
      refine sem_loop (fun j : Nat => ⟨slotsOf 59 [(1, .dat (.int .i64 pool)), (2, .dat (.bool d)), (3, .ptr 0 0 0), (6, .dat (.int .i64 0)), (7, .dat (.int .i64 (demL pool d (s.classes.take k)))), (8, .dat (.int .i64 k)), (9, .ptr 1 0 0), (10, .dat (.int .i64 (mxR pool d c.steps j))), (11, .dat (.int .i64 j))], [sysO s, clsO c], 0, []⟩)
        (fun j => j ≤ c.steps.length + 1) (fun j => c.steps.length + 1 - j) 0 (Nat.zero_le _) ?_ ?_
      · exact le_slots' (by simp only [go_sem, Int.natCast_zero, mxR])
      · rintro j hj
        refine sem_of_awp (Γ := tbl tabRD) tabRD_ok _ _ _ ?_
        by_cases hjl : (j : Int) ≤ c.steps.length
        · simp only [go_sem, hjl]
          refine call_data unitsR (by simp) [clsD c, .int .i64 pool, .int .i64 j, .bool d] _ rfl ⟨c, pool, j, d, rfl, hT, by omega, by omega, rfl⟩ (.inl rfl) ?_
          simp only [go_sem, mxR_le]
          refine ⟨inR_i64.2 (by omega), j + 1, by omega, by omega, ?_⟩
          exact le_slots' (by simp only [go_sem, Int.natCast_add, Int.cast_ofNat_Int, mxR])
        · obtain rfl : j = c.steps.length + 1 := by omega
          have hj2 : ¬ ((c.steps.length + 1 : Nat) : Int) ≤ c.steps.length := hjl
          simp only [go_sem, hj2, mxR]
          refine ⟨inR_i64.2 (by omega), inR_i64.2 (by omega), inR_i64.2 (by omega), k + 1, by omega, by omega, ?_⟩
          refine le_end (own := [_]) (ex := [_]) (Nat.zero_le _) ?_ ?_ ?_
          · simp only [go_sem, Int.natCast_add, Int.cast_ofNat_Int, e1]
          · simp only [go_sem]
          · simp only [go_sem, Obj.under, AV.unders, AV.under]

/- ### may a step wait? -/
def waitB (s : PSys) (x : PStep) : Bool :=
  if x.kind = 3 ∨ x.kind = 5 then true else if x.kind = 1 then
    decide ((s.pools.getD x.on.toNat default).size - (s.pools.getD x.on.toNat default).res < demL x.on false s.classes) && !(x.deep && decide (demL x.on true s.classes ≤ (s.pools.getD x.on.toNat default).res))
  else false
def waitsR (ds : List D) (v : AV) : Prop := ∃ (s : PSys) (x : PStep), ds = [sysD s, stepD x] ∧ s.good ∧ preE s x = 0 ∧ v = .dat (.bool (waitB s x))
theorem waits_ok : OkF Try.prog 37 (dataC waitsR) := by
  refine okF_data Try.func37 rfl (by decide) ?_
  rintro ds v ⟨s, x, rfl, hg, hp, rfl⟩
  have hok : OkG Try.prog (tbl [(35, dataC demandR)]) := okG_cons demand_ok okG_nil
  refine sem_of_awp (Γ := tbl [(35, dataC demandR)]) hok _ _ _ ?_
  generalize hv : waitB s x = V
  have fin : ∀ s own (b c : Bool), b = c → s.getD 4 .top = .dat (.bool b) → post Try.prog Try.f37 (.dat (.bool c)) [] [] .ret ⟨s, own, 0, []⟩ := fun s own b c e h => by
    subst e
    exact post_data (.inl rfl) [4] rfl trivial (by simp only [tmpsOf, h]; rfl)
  obtain ⟨⟨k1, k2⟩, ⟨o1, o2⟩, hc, hc0⟩ := preE_0 hp
  obtain ⟨kind, on, cnt, deep⟩ := x
  simp only at *
  unfold waitB at hv
  simp only at hv
  have hk : kind = 1 ∨ kind = 2 ∨ kind = 3 ∨ kind = 4 ∨ kind = 5 := by omega
  rcases hk with rfl | rfl | rfl | rfl | rfl
  · rw [if_neg (by omega), if_pos rfl] at hv
    simp only [go_sem, Int.reduceEq, Int.reduceLT, Int.reduceLE, eq_self, Int.natCast_nonneg, Int.toNat_natCast, Try.ntmps37, sysD, stepD]
    refine call_data demandR (by simp) [sysD s, .int .i64 on] _ rfl ⟨s, on, rfl, hg, rfl⟩ (.inl rfl) ?_
    obtain ⟨i, rfl⟩ : ∃ i : Nat, on = i := ⟨on.toNat, by omega⟩
    have hi : i < s.pools.length := by simp [mostE] at o2; omega
    have hi2 : (i : Int) < s.pools.length := by omega
    have hnp : D.nth (s.pools.map poolD) i = poolD (s.pools.getD i default) := D.nth_map hi
    rw [Int.toNat_natCast] at hv
    have hpb := hg.pool (s.pools.getD i default) (by rw [List.getD_eq_getElem?_getD, List.getElem?_eq_getElem hi]; exact List.getElem_mem hi)
    generalize s.pools.getD i default = p at *
    unfold PPool.bad at hpb
    simp only [go_sem, Int.reduceEq, Int.reduceLT, Int.reduceLE, eq_self, Int.natCast_nonneg, Int.toNat_natCast, hi, hi2, hnp, poolD]
    refine ⟨inR_i64.2 (by omega), ?_⟩
    by_cases hA : p.size - p.res < demL i false s.classes
    · rw [decide_eq_true hA, Bool.true_and] at hv
      cases deep with
      | true =>
        simp only [go_sem, Int.reduceEq, Int.reduceLT, Int.reduceLE, eq_self, Int.natCast_nonneg, Int.toNat_natCast, hA]
        refine fin _ _ _ _ ?_ (by rfl)
        rw [← hv]; simp
      | false =>
        simp only [go_sem, Int.reduceEq, Int.reduceLT, Int.reduceLE, eq_self, Int.natCast_nonneg, Int.toNat_natCast, hA]
        refine fin _ _ _ _ ?_ (by rfl)
        rw [← hv]; simp
    · rw [decide_eq_false hA, Bool.false_and] at hv
      simp only [go_sem, Int.reduceEq, Int.reduceLT, Int.reduceLE, eq_self, Int.natCast_nonneg, Int.toNat_natCast, hA]
      exact fin _ _ _ _ hv (by rfl)
  · simp only [go_sem, Int.reduceEq, Int.reduceLT, Int.reduceLE, eq_self, Int.natCast_nonneg, Int.toNat_natCast, Try.ntmps37, sysD, stepD]
    exact fin _ _ _ _ (by rw [← hv]) (by rfl)
  · simp only [go_sem, Int.reduceEq, Int.reduceLT, Int.reduceLE, eq_self, Int.natCast_nonneg, Int.toNat_natCast, Try.ntmps37, sysD, stepD]
    exact fin _ _ _ _ (by rw [← hv]) (by rfl)
  · simp only [go_sem, Int.reduceEq, Int.reduceLT, Int.reduceLE, eq_self, Int.natCast_nonneg, Int.toNat_natCast, Try.ntmps37, sysD, stepD]
    exact fin _ _ _ _ (by rw [← hv]) (by rfl)
  · simp only [go_sem, Int.reduceEq, Int.reduceLT, Int.reduceLE, eq_self, Int.natCast_nonneg, Int.toNat_natCast, Try.ntmps37, sysD, stepD]
    exact fin _ _ _ _ (by rw [← hv]) (by rfl)

def stepAt (s : PSys) (c k : Int) : PStep := (s.classes.getD c.toNat default).steps.getD k.toNat default
def noStep (s : PSys) (c k : Int) : Prop := c < 0 ∨ (s.classes.length : Int) ≤ c ∨ k < 0 ∨ ((s.classes.getD c.toNat default).steps.length : Int) ≤ k
instance (s : PSys) (c k : Int) : Decidable (noStep s c k) := by unfold noStep; exact inferInstance
theorem noStep_nat {s : PSys} {i j : Nat} (hi : i < s.classes.length) : noStep s i j ↔ ((s.classes.getD i default).steps.length : Int) ≤ j := by
  unfold noStep
  rw [Int.toNat_natCast]
  constructor
  · rintro (h | h | h | h) <;> omega
  · exact fun h => .inr (.inr (.inr h))
theorem stepAt_nat {s : PSys} {i j : Nat} : stepAt s i j = (s.classes.getD i default).steps.getD j default := by unfold stepAt; rw [Int.toNat_natCast, Int.toNat_natCast]
def waitN (s : PSys) (c k : Int) : Bool := if checkE s ≠ 0 ∨ noStep s c k then false else waitB s (stepAt s c k)
def waitNR (ds : List D) (v : AV) : Prop := ∃ (s : PSys) (c k : Int), ds = [sysD s, .int .i64 c, .int .i64 k] ∧ s.fit ∧ v = .dat (.bool (waitN s c k))
abbrev tabWA : List (Nat × Contract) := [(31, dataC checkR), (37, dataC waitsR)]
theorem tabWA_ok : OkG Try.prog (tbl tabWA) := okG_cons check_ok (okG_cons waits_ok okG_nil)
theorem Waits_ok : OkF Try.prog 16 (dataC waitNR) := by
  refine okF_data Try.func16 rfl (by decide) ?_
  rintro ds v ⟨s, c, k, rfl, hf, rfl⟩
  have hpu : PureFns (tbl tabWA) [37] := pure_of (by
    intro g C h hg
    simp only [List.mem_singleton] at hg
    subst hg
    simp only [tabWA, List.mem_cons, Prod.mk.injEq, List.mem_nil_iff, or_false] at h
    rcases h with ⟨h, _⟩ | ⟨_, h⟩
    · simp at h
    · exact ⟨_, h⟩)
  refine sem_of_awp (Γ := tbl tabWA) tabWA_ok _ _ _ ?_
  generalize hv : waitN s c k = V
  unfold waitN at hv
  have fin : ∀ s own (b c : Bool), b = c → s.getD 6 .top = .dat (.bool b) → post Try.prog Try.f16 (.dat (.bool c)) [] [] .ret ⟨s, own, 0, []⟩ := fun s own b c e h => by
    subst e
    exact post_data (.inl rfl) [6] rfl trivial (by simp only [tmpsOf, h]; rfl)
  simp only [go_sem, Try.ntmps16, sysD]
  refine call_data checkR (by simp) [sysD s] _ rfl ⟨s, rfl, hf, rfl⟩ (.inl rfl) ?_
  cases h' : decide (checkE s = 0) with
  | false =>
    have h := of_decide_eq_false h'
    rw [if_pos (.inl h)] at hv
    simp only [go_sem, h, h']
    exact fin _ _ _ _ hv (by rfl)
  | true =>
  have h := of_decide_eq_true h'
  simp only [go_sem, h, h', eq_self, Bool.not_true]
  by_cases h1 : c < 0
  · rw [if_pos (.inr (.inl h1))] at hv
    simp only [go_sem, h1]
    exact fin _ _ _ _ hv (by rfl)
  by_cases h2 : (s.classes.length : Int) ≤ c
  · rw [if_pos (.inr (.inr (.inl h2)))] at hv
    simp only [go_sem, h1, h2]
    exact fin _ _ _ _ hv (by rfl)
  by_cases h3 : k < 0
  · rw [if_pos (.inr (.inr (.inr (.inl h3))))] at hv
    simp only [go_sem, h1, h2, h3]
    exact fin _ _ _ _ hv (by rfl)
  obtain ⟨i, rfl⟩ : ∃ i : Nat, c = i := ⟨c.toNat, by omega⟩
  obtain ⟨j, rfl⟩ : ∃ j : Nat, k = j := ⟨k.toNat, by omega⟩
  have hi : i < s.classes.length := by omega
  have hi2 : (i : Int) < s.classes.length := by omega
  have hnc : D.nth (s.classes.map clsD) i = clsD (s.classes.getD i default) := D.nth_map hi
  have hcm : s.classes.getD i default ∈ s.classes := by rw [List.getD_eq_getElem?_getD, List.getElem?_eq_getElem hi]; exact List.getElem_mem hi
  have hno := noStep_nat (j := j) hi
  rw [stepAt_nat] at hv
  have hcg := (good_of h).cls _ hcm
  generalize s.classes.getD i default = c at *
  simp only [go_sem, Int.reduceEq, Int.reduceLT, Int.reduceLE, eq_self, Int.natCast_nonneg, Int.toNat_natCast, h1, h2, h3, hi2, hi, hnc, clsD, stepsD]
  by_cases h4 : (c.steps.length : Int) ≤ j
  · rw [if_pos (.inr (hno.2 h4))] at hv
    simp only [go_sem, Int.reduceEq, Int.reduceLT, Int.reduceLE, eq_self, Int.natCast_nonneg, Int.toNat_natCast, h4]
    exact fin _ _ _ _ hv (by rfl)
  have hj : j < c.steps.length := by omega
  have hj2 : (j : Int) < c.steps.length := by omega
  have hns : D.nth (c.steps.map stepD) j = stepD (c.steps.getD j default) := D.nth_map hj
  have hxm : c.steps.getD j default ∈ c.steps := by rw [List.getD_eq_getElem?_getD, List.getElem?_eq_getElem hj]; exact List.getElem_mem hj
  have hxp := hcg.pre _ hxm
  rw [if_neg (by rw [h, hno]; omega)] at hv
  generalize c.steps.getD j default = x at *
  simp only [go_sem, Int.reduceEq, Int.reduceLT, Int.reduceLE, eq_self, Int.natCast_nonneg, Int.toNat_natCast, h4]
  refine sem_draw (pf := [37]) mixed tabWA_ok hpu [0, 1, 2, 3, 4, 5, 6, 7, 8, 9, 10, 11] (by kernel_rfl) ?_
  simp only [go_sem, Int.reduceEq, Int.reduceLT, Int.reduceLE, eq_self, Int.natCast_nonneg, Int.toNat_natCast, chainI, hi, hi2, hj, hj2, hnc, hns, clsD, stepsD, stepD]
  refine call_data waitsR (by simp) [sysD s, stepD x] _ rfl ⟨s, x, rfl, good_of h, hxp, rfl⟩ (.inl rfl) ?_
  simp only [go_sem, Int.reduceEq, Int.reduceLT, Int.reduceLE, eq_self, Int.natCast_nonneg, Int.toNat_natCast, chainI]
  exact fin _ _ _ _ hv (by rfl)
end Go.AM

set_option maxRecDepth 8000
set_option maxHeartbeats 1000000
namespace Go.AM
open Go Go.Proofs

/- ### the specification's ample, safe and Waits -/
theorem demN_nat {s : PSys} {i : Nat} {d : Bool} (h : checkE s = 0) (hi : i < s.pools.length) : demN s i d = demL i d s.classes := by
  unfold demN; rw [if_neg (by rw [h]; omega)]
def ampleR (ds : List D) (v : AV) : Prop := ∃ (s : PSys) (i : Nat), ds = [sysD s, .int .i64 i] ∧ s.fit ∧ checkE s = 0 ∧ i < s.pools.length ∧ v = .dat (.bool (decide (demL i false s.classes ≤ (s.pools.getD i default).size - (s.pools.getD i default).res)))
def safeR (ds : List D) (v : AV) : Prop := ∃ (s : PSys) (i : Nat), ds = [sysD s, .int .i64 i] ∧ s.fit ∧ checkE s = 0 ∧ i < s.pools.length ∧ v = .dat (.bool (decide (demL i true s.classes ≤ (s.pools.getD i default).res)))
abbrev tabAM : List (Nat × Contract) := [(15, dataC demNR)]
theorem tabAM_ok : OkG Try.prog (tbl tabAM) := okG_cons rDemand_ok okG_nil
theorem tabAM_pure : PureFns (tbl tabAM) [15] := pure_of (by
  intro g C h hg
  simp only [List.mem_singleton, Prod.mk.injEq] at h
  exact ⟨_, h.2⟩)
theorem ample_ok : OkF Try.prog 38 (dataC ampleR) := by
  refine okF_data Try.func38 rfl (by decide) ?_
  rintro ds v ⟨s, i, rfl, hf, hc, hi, rfl⟩
  refine sem_of_awp (Γ := tbl tabAM) tabAM_ok _ _ _ ?_
  have hi2 : (i : Int) < s.pools.length := by omega
  have hi0 : (0 : Int) ≤ i := Int.natCast_nonneg i
  have hnp : D.nth (s.pools.map poolD) i = poolD (s.pools.getD i default) := D.nth_map hi
  have hpb := (good_of hc).pool (s.pools.getD i default) (by rw [List.getD_eq_getElem?_getD, List.getElem?_eq_getElem hi]; exact List.getElem_mem hi)
  generalize s.pools.getD i default = p at *
  unfold PPool.bad at hpb
  simp only [go_sem, Try.ntmps38, sysD]
  refine sem_draw (pf := [15]) mixed tabAM_ok tabAM_pure [0, 1, 2, 3, 4, 5, 6, 7, 8, 9, 10, 11, 12, 13, 14, 15, 16, 17] (by kernel_rfl) ?_
  simp only [go_sem, Int.reduceEq, Int.reduceLT, Int.reduceLE, eq_self, Int.natCast_nonneg, Int.toNat_natCast, chainI, hi, hi2, hi0, hnp, poolD]
  refine call_data demNR (by simp) [sysD s, .int .i64 i, .bool false] _ rfl ⟨s, i, false, rfl, hf, rfl⟩ (.inl rfl) ?_
  rw [demN_nat hc hi]
  simp only [go_sem, Int.reduceEq, Int.reduceLT, Int.reduceLE, eq_self, Int.natCast_nonneg, Int.toNat_natCast, chainI, hi, hi2, hi0, hnp, poolD]
  refine ⟨inR_i64.2 (by omega), ?_⟩
  exact post_data (.inl rfl) [4] rfl trivial (by rfl)
theorem safe_ok : OkF Try.prog 39 (dataC safeR) := by
  refine okF_data Try.func39 rfl (by decide) ?_
  rintro ds v ⟨s, i, rfl, hf, hc, hi, rfl⟩
  refine sem_of_awp (Γ := tbl tabAM) tabAM_ok _ _ _ ?_
  have hi2 : (i : Int) < s.pools.length := by omega
  have hi0 : (0 : Int) ≤ i := Int.natCast_nonneg i
  have hnp : D.nth (s.pools.map poolD) i = poolD (s.pools.getD i default) := D.nth_map hi
  generalize s.pools.getD i default = p at *
  simp only [go_sem, Try.ntmps39, sysD]
  refine sem_draw (pf := [15]) mixed tabAM_ok tabAM_pure [0, 1, 2, 3, 4, 5, 6, 7, 8, 9, 10] (by kernel_rfl) ?_
  simp only [go_sem, Int.reduceEq, Int.reduceLT, Int.reduceLE, eq_self, Int.natCast_nonneg, Int.toNat_natCast, chainI, hi, hi2, hi0, hnp, poolD]
  refine call_data demNR (by simp) [sysD s, .int .i64 i, .bool true] _ rfl ⟨s, i, true, rfl, hf, rfl⟩ (.inl rfl) ?_
  rw [demN_nat hc hi]
  simp only [go_sem, Int.reduceEq, Int.reduceLT, Int.reduceLE, eq_self, Int.natCast_nonneg, Int.toNat_natCast, chainI, hi, hi2, hi0, hnp, poolD]
  exact post_data (.inl rfl) [4] rfl trivial (by rfl)

abbrev tabRW : List (Nat × Contract) := [(34, dataC checkR), (38, dataC ampleR), (39, dataC safeR)]
theorem tabRW_ok : OkG Try.prog (tbl tabRW) := okG_cons rcheck_ok (okG_cons ample_ok (okG_cons safe_ok okG_nil))
theorem rWaits_ok : OkF Try.prog 17 (dataC waitNR) := by
  refine okF_data Try.func17 rfl (by decide) ?_
  rintro ds v ⟨s, c, k, rfl, hf, rfl⟩
  refine sem_of_awp (Γ := tbl tabRW) tabRW_ok _ _ _ ?_
  generalize hv : waitN s c k = V
  unfold waitN at hv
  have fin : ∀ s own (b c : Bool), b = c → s.getD 6 .top = .dat (.bool b) → post Try.prog Try.f17 (.dat (.bool c)) [] [] .ret ⟨s, own, 0, []⟩ := fun s own b c e h => by
    subst e
    exact post_data (.inl rfl) [6] rfl trivial (by simp only [tmpsOf, h]; rfl)
  simp only [go_sem, Try.ntmps17, sysD]
  refine call_data checkR (by simp) [sysD s] _ rfl ⟨s, rfl, hf, rfl⟩ (.inl rfl) ?_
  cases h' : decide (checkE s = 0) with
  | false =>
    have h := of_decide_eq_false h'
    rw [if_pos (.inl h)] at hv
    simp only [go_sem, h, h']
    exact fin _ _ _ _ hv (by rfl)
  | true =>
  have h := of_decide_eq_true h'
  simp only [go_sem, h, h', eq_self, Bool.not_true]
  by_cases h1 : c < 0
  · rw [if_pos (.inr (.inl h1))] at hv
    simp only [go_sem, h1]
    exact fin _ _ _ _ hv (by rfl)
  by_cases h2 : (s.classes.length : Int) ≤ c
  · rw [if_pos (.inr (.inr (.inl h2)))] at hv
    simp only [go_sem, h1, h2]
    exact fin _ _ _ _ hv (by rfl)
  by_cases h3 : k < 0
  · rw [if_pos (.inr (.inr (.inr (.inl h3))))] at hv
    simp only [go_sem, h1, h2, h3]
    exact fin _ _ _ _ hv (by rfl)
  obtain ⟨i, rfl⟩ : ∃ i : Nat, c = i := ⟨c.toNat, by omega⟩
  obtain ⟨j, rfl⟩ : ∃ j : Nat, k = j := ⟨k.toNat, by omega⟩
  have hi : i < s.classes.length := by omega
  have hi2 : (i : Int) < s.classes.length := by omega
  have hnc : D.nth (s.classes.map clsD) i = clsD (s.classes.getD i default) := D.nth_map hi
  have hcm : s.classes.getD i default ∈ s.classes := by rw [List.getD_eq_getElem?_getD, List.getElem?_eq_getElem hi]; exact List.getElem_mem hi
  have hno := noStep_nat (j := j) hi
  rw [stepAt_nat] at hv
  have hg := good_of h
  have hcg := hg.cls _ hcm
  generalize s.classes.getD i default = c at *
  simp only [go_sem, Int.reduceEq, Int.reduceLT, Int.reduceLE, eq_self, Int.natCast_nonneg, Int.toNat_natCast, h1, h2, h3, hi2, hi, hnc, clsD, stepsD]
  by_cases h4 : (c.steps.length : Int) ≤ j
  · rw [if_pos (.inr (hno.2 h4))] at hv
    simp only [go_sem, Int.reduceEq, Int.reduceLT, Int.reduceLE, eq_self, Int.natCast_nonneg, Int.toNat_natCast, h4]
    exact fin _ _ _ _ hv (by rfl)
  have hj : j < c.steps.length := by omega
  have hj2 : (j : Int) < c.steps.length := by omega
  have hns : D.nth (c.steps.map stepD) j = stepD (c.steps.getD j default) := D.nth_map hj
  have hxm : c.steps.getD j default ∈ c.steps := by rw [List.getD_eq_getElem?_getD, List.getElem?_eq_getElem hj]; exact List.getElem_mem hj
  have hxp := hcg.pre _ hxm
  rw [if_neg (by rw [h, hno]; omega)] at hv
  generalize c.steps.getD j default = x at *
  obtain ⟨⟨k1, k2⟩, ⟨o1, o2⟩, hc, hc0⟩ := preE_0 hxp
  obtain ⟨kind, on, cnt, deep⟩ := x
  simp only at o1 o2 k1 k2
  unfold waitB at hv
  simp only at hv
  have hk : kind = 1 ∨ kind = 2 ∨ kind = 3 ∨ kind = 4 ∨ kind = 5 := by omega
  rcases hk with rfl | rfl | rfl | rfl | rfl
  · rw [if_neg (by omega), if_pos rfl] at hv
    simp only [go_sem, Int.reduceEq, Int.reduceLT, Int.reduceLE, eq_self, Int.natCast_nonneg, Int.toNat_natCast, h4, hj, hj2, hi2, hi, hns, hnc, clsD, stepsD, stepD]
    obtain ⟨m, rfl⟩ : ∃ m : Nat, on = m := ⟨on.toNat, by omega⟩
    have hm : m < s.pools.length := by simp [mostE] at o2; omega
    rw [Int.toNat_natCast] at hv
    refine call_data ampleR (by simp) [sysD s, .int .i64 m] _ rfl ⟨s, m, rfl, hf, h, hm, rfl⟩ (.inl rfl) ?_
    by_cases hA : demL m false s.classes ≤ (s.pools.getD m default).size - (s.pools.getD m default).res
    · rw [decide_eq_false (by omega), Bool.false_and] at hv
      simp only [go_sem, Int.reduceEq, Int.reduceLT, Int.reduceLE, eq_self, Int.natCast_nonneg, Int.toNat_natCast, hA]
      exact fin _ _ _ _ hv (by rfl)
    · rw [decide_eq_true (by omega), Bool.true_and] at hv
      cases deep with
      | false =>
        simp only [go_sem, Int.reduceEq, Int.reduceLT, Int.reduceLE, eq_self, Int.natCast_nonneg, Int.toNat_natCast, hA]
        exact fin _ _ _ _ (by rw [← hv]) (by rfl)
      | true =>
        simp only [go_sem, Int.reduceEq, Int.reduceLT, Int.reduceLE, eq_self, Int.natCast_nonneg, Int.toNat_natCast, hA]
        refine call_data safeR (by simp) [sysD s, .int .i64 m] _ rfl ⟨s, m, rfl, hf, h, hm, rfl⟩ (.inl rfl) ?_
        simp only [go_sem, Int.reduceEq, Int.reduceLT, Int.reduceLE, eq_self, Int.natCast_nonneg, Int.toNat_natCast]
        exact fin _ _ _ _ (by rw [← hv]) (by rfl)
  · simp only [go_sem, Int.reduceEq, Int.reduceLT, Int.reduceLE, eq_self, Int.natCast_nonneg, Int.toNat_natCast, h4, hj, hj2, hi2, hi, hns, hnc, clsD, stepsD, stepD]
    exact fin _ _ _ _ (by rw [← hv]) (by rfl)
  · simp only [go_sem, Int.reduceEq, Int.reduceLT, Int.reduceLE, eq_self, Int.natCast_nonneg, Int.toNat_natCast, h4, hj, hj2, hi2, hi, hns, hnc, clsD, stepsD, stepD]
    exact fin _ _ _ _ (by rw [← hv]) (by rfl)
  · simp only [go_sem, Int.reduceEq, Int.reduceLT, Int.reduceLE, eq_self, Int.natCast_nonneg, Int.toNat_natCast, h4, hj, hj2, hi2, hi, hns, hnc, clsD, stepsD, stepD]
    exact fin _ _ _ _ (by rw [← hv]) (by rfl)
  · simp only [go_sem, Int.reduceEq, Int.reduceLT, Int.reduceLE, eq_self, Int.natCast_nonneg, Int.toNat_natCast, h4, hj, hj2, hi2, hi, hns, hnc, clsD, stepsD, stepD]
    exact fin _ _ _ _ (by rw [← hv]) (by rfl)
end Go.AM

