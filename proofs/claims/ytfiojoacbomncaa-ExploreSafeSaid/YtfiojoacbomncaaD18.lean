/- Own work over the model of the kit. -/
import Derived.Test.YtfiojoacbomncaaD17
import Derived.Test.YtfiojoacbomncaaD16
set_option linter.unusedSimpArgs false
set_option linter.unusedVariables false
set_option maxRecDepth 8000
set_option maxHeartbeats 4000000
namespace Go.AM
open Go Go.Proofs

def adv (s : PSys) : List PFr → List PFr
 | [] => []
 | f :: r => if f.a < (clsAt s f).steps.length then f :: r else match r with
  | [] => [⟨f.c, 0⟩]
  | g :: r' => advN s g r'
where advN (s : PSys) (g : PFr) : List PFr → List PFr
 | [] => if g.a + 1 < (clsAt s g).steps.length then [⟨g.c, g.a + 1⟩] else [⟨g.c, 0⟩]
 | h :: r => if g.a + 1 < (clsAt s g).steps.length then ⟨g.c, g.a + 1⟩ :: h :: r else advN s h r
theorem adv_stop {s : PSys} {f : PFr} {r : List PFr} (h : f.a < (clsAt s f).steps.length) : adv s (f :: r) = f :: r := by cases r <;> simp only [adv] <;> rw [if_pos h]
theorem adv_1 {s : PSys} {f : PFr} (h : ¬ f.a < (clsAt s f).steps.length) : adv s [f] = [⟨f.c, 0⟩] := by simp only [adv]; rw [if_neg h]
theorem adv_2 {s : PSys} {f g : PFr} {r : List PFr} (h : ¬ f.a < (clsAt s f).steps.length) : adv s (f :: g :: r) = adv s (⟨g.c, g.a + 1⟩ :: r) := by
 have e : clsAt s ⟨g.c, g.a + 1⟩ = clsAt s g := rfl
 have h1 : adv s (f :: g :: r) = adv.advN s g r := by simp only [adv]; rw [if_neg h]
 rw [h1]
 by_cases h2 : g.a + 1 < (clsAt s g).steps.length
 ·rw [adv_stop (f := ⟨g.c, g.a + 1⟩) h2]
  cases r <;> simp only [adv.advN] <;> rw [if_pos h2]
 ·cases r with
  | nil => rw [adv_1 (f := ⟨g.c, g.a + 1⟩) h2]; simp only [adv.advN]; rw [if_neg h2]
  | cons k r =>
   have h3 : adv s (⟨g.c, g.a + 1⟩ :: k :: r) = adv.advN s k r := by simp only [adv]; rw [if_neg h2]
   rw [h3]; simp only [adv.advN]; rw [if_neg h2]
theorem upR_adv {s : PSys} {f : PFr} {r : List PFr} : upR s (f :: r) = adv s (⟨f.c, f.a + 1⟩ :: r) := by
 have e : clsAt s ⟨f.c, f.a + 1⟩ = clsAt s f := rfl
 by_cases h : f.a + 1 < (clsAt s f).steps.length
 ·rw [upR_go h, adv_stop (f := ⟨f.c, f.a + 1⟩) h]
 ·cases r with
  | nil => rw [upR_1 h, adv_1 (f := ⟨f.c, f.a + 1⟩) h]
  | cons g r => rw [upR_2 h, adv_2 (f := ⟨f.c, f.a + 1⟩) h, upR_adv]
termination_by r.length
theorem shifts_dats (n : Nat) : ∀ xs : List D, AV.shifts n (xs.map .dat) = xs.map .dat
 | [] => rfl
 | x :: xs => by rw [List.map_cons, AV.shifts, shifts_dats n xs]; rfl
theorem shifts_set (n : Nat) {v : AV} : ∀ (l : List AV) (i : Nat), AV.shifts n (l.set i v) = (AV.shifts n l).set i (v.shift n)
 | [], _ => rfl
 | a :: l, 0 => rfl
 | a :: l, i + 1 => by simp only [List.set_cons_succ, AV.shifts, shifts_set n l i]
theorem rv_top {l : List PFr} (h : l ≠ []) : ∃ r, l.reverse = topF l :: r := by
 cases hr : l.reverse with
 | nil => exact absurd (List.reverse_eq_nil_iff.1 hr) h
 | cons f r =>
  refine ⟨r, ?_⟩
  have : l = r.reverse ++ [f] := by rw [← List.reverse_reverse l, hr]; simp
  subst this
  simp [topF, List.getD_eq_getElem?_getD]
abbrev tabRT4 : List (Nat × Contract) := [(72, madeC copyXR)]
theorem tabRT4_ok : OkG Try.prog (tbl tabRT4) := okG_cons rCopy44_ok okG_nil
theorem rtake_ok : OkF Try.prog 45 (dataC takeR) := by
 refine okF_data Try.func45 rfl (by decide) ?_
 rintro ds v ⟨s, x, w, rfl, hV, hx, hw, rfl⟩
 have hg := hV.good
 have hx24 := hV.l24
 have hxl2 : (stacksD x).length = x.length := by simp
 have hw1 : (w : Int) < x.length := by omega
 have hw0 : (0 : Int) ≤ w := Int.natCast_nonneg w
 have hsw := hV.stk hw
 have hlw := getD_fit hx hw
 have hfo := hV.top hw
 refine sem_of_awpK [5, 7, 8, 14, 15] (Γ := tbl tabRT4) tabRT4_ok _ _ _ ?_
 simp only [go_sem, Int.reduceEq, Int.reduceLT, Int.reduceLE, eq_self, Int.natCast_nonneg, Int.toNat_natCast, Try.ntmps45, sysD, stD]
 refine call_made copyXR (by simp) [stD x] _ _ rfl rfl ⟨x, w, rfl, hw, hx, rfl, rfl⟩ ?_
 generalize hl : x.getD w [] = l at *
 have hgw : (((stacksD x).map AV.dat).set w (.sl 4 0 l.length)).getD w .top = .sl 4 0 l.length := by rw [getD_setA, if_pos ⟨rfl, by simpa using hw⟩]
 have hsl0 : (((stacksD x).map AV.dat).set w (.sl 4 0 l.length)).length = x.length := by simp
 have hshift : AV.shifts 3 (((stacksD x).map AV.dat).set w (.sl 1 0 l.length)) = ((stacksD x).map AV.dat).set w (.sl 4 0 l.length) := by rw [shifts_set, shifts_dats]; rfl
 have hl0 : 0 < l.length := List.length_pos_iff.2 hsw.1
 have hlf : (frsD l).length = l.length := by simp
 have hq1 : (l.length : Int) - 1 = ((l.length - 1 : Nat) : Int) := by omega
 have hq2 : ((l.length - 1 : Nat) : Int) < l.length := by omega
 have hq3 : l.length - 1 < l.length := by omega
 have hq4 : (0 : Int) ≤ ((l.length - 1 : Nat) : Int) := Int.natCast_nonneg _
 have hqn : D.nth (frsD l) (l.length - 1) = frD (topF l) := D.nth_map hq3
 obtain ⟨d1, d2, d3, d4⟩ := frOk_iff.1 hfo
 obtain ⟨i, hi, hil, hin⟩ := cls_nth (s := s) (f := topF l) d1 d2
 obtain ⟨b, hb, hbl, hbn⟩ := step_nth (s := s) (f := topF l) d3 d4
 have hi2 : (i : Int) < s.classes.length := by omega
 have hi0 : (0 : Int) ≤ i := Int.natCast_nonneg i
 have hb2 : (b : Int) < (clsAt s (topF l)).steps.length := by omega
 have hb0 : (0 : Int) ≤ b := Int.natCast_nonneg b
 simp only [go_sem, Int.reduceEq, Int.reduceLT, Int.reduceLE, eq_self, Int.natCast_nonneg, Int.toNat_natCast, AV.shift, AV.shifts, Obj.shift, hshift, hw1, hw0, hw, hgw, hsl0, hxl2, hlf, hq1, hq2, hq3, hq4, hqn, frD]
 refine ⟨inR_i64.2 (by omega), ?_⟩
 refine sem_drawY [] [] (pf := []) (mf := []) mixed tabRT4_ok pureNo noMk (ones [0, 1, 2, 3, 4, 5, 6, 7, 8, 9, 10, 11, 12]) (by kernel_rfl) ?_
 generalize hy : stepAtF s (topF l) = y at *
 obtain ⟨kind, on, cnt, deep⟩ := y
 simp only [go_sem, Int.reduceEq, Int.reduceLT, Int.reduceLE, eq_self, Int.natCast_nonneg, Int.toNat_natCast, hi, hi2, hi0, hil, hin, clsD, stepsD, hb, hb2, hb0, hbl, hbn, stepD, List.length_map]
 refine sem_of_awpK [6] (Γ := tbl tabRT4) tabRT4_ok _ _ _ ?_
 by_cases hk : kind = 5
 ·have htx : takeX s x w = x.set w (l ++ [⟨on, 0⟩]) := by
   unfold takeX takeS
   rw [hl, hy, if_pos hk]
  rw [htx]
  have hkl : AV.kills 4 (((stacksD x).map AV.dat).set w (.sl 4 0 l.length)) = ((stacksD x).map AV.dat).set w .top := by rw [kills_put, kills_dats]; simp only [AV.kill, if_true]
  have hlt : List.take l.length (frsD l) = frsD l := List.take_of_length_le (by simp)
  have hsl : (((stacksD x).map AV.dat).set w AV.top).length = x.length := by simp
  have b1 : l.length ≤ 140737488355327 := by omega
  have b2 : (l.length + 1) * 16 ≤ 140737488355328 := by omega
  simp only [go_sem, Int.reduceEq, Int.reduceLT, Int.reduceLE, eq_self, Int.natCast_nonneg, Int.toNat_natCast, hk]
  refine sem_drawY [(10, [3])] [(8, [4]), (0, [4]), (1, [4]), (2, [4]), (4, [4]), (5, [4])] (pf := []) (mf := []) mixed tabRT4_ok pureNo noMk (.one 0 (.one 1 (.one 2 (.one 3 (.one 4 (.one 5 (.alt 6 (.one 7 (.one 8 (.one 9 (.one 10 .fin)))) .stop))))))) (by kernel_rfl) ?_
  simp only [go_sem, Int.reduceEq, Int.reduceLT, Int.reduceLE, eq_self, Int.natCast_nonneg, Int.toNat_natCast, hkl, hlt, hsl, hw1, hw0, hw, List.set_set, b1, b2, hxl2, hsl0]
  refine sem_le (le_freeze 4 (ag := some 2) rfl (Nat.zero_le _)) ?_
  have hfa : frsD l ++ [D.agg [D.int .i64 on, D.int .i64 0]] = frsD (l ++ [⟨on, 0⟩]) := by simp [frD]
  have htk2 : List.take (l.length + 1) (frsD (l ++ [⟨on, 0⟩])) = frsD (l ++ [⟨on, 0⟩]) := List.take_of_length_le (by simp)
  simp only [go_sem, frzs_set, hfa, htk2, stacks_set, List.drop_zero]
  refine sem_le (le_freezeV 3 (ds := stacksD (x.set w (l ++ [⟨on, 0⟩]))) rfl (norm1_dats _) (Nat.zero_le _)) ?_
  refine sem_of_awp (Γ := tbl tabRT4) tabRT4_ok _ _ _ ?_
  have hW : List.take x.length (stacksD (x.set w (l ++ [⟨on, 0⟩]))) = stacksD (x.set w (l ++ [⟨on, 0⟩])) := List.take_of_length_le (by simp)
  simp only [go_sem, Int.reduceEq, Int.reduceLT, Int.reduceLE, eq_self, Int.natCast_nonneg, Int.toNat_natCast, hW]
  refine post_res (.inl rfl) [.cell 6 29] rfl ?_
  simp only [go_sem, stD, hW]
  exact le_fin (by simp only [go_sem]) (by simp only [go_sem])
 ·obtain ⟨r0, hr0⟩ := rv_top hsw.1
  have htx : takeX s x w = x.set w (adv s (⟨i, b + 1⟩ :: r0)).reverse := by
   unfold takeX takeS
   rw [hl, hy, if_neg hk, hr0, upR_adv, hi, hb]
  rw [htx]
  generalize hR : adv s (⟨i, b + 1⟩ :: r0) = R
  have hll : l = (topF l :: r0).reverse := by rw [← hr0, List.reverse_reverse]
  have hrl : l.length - 1 = r0.length := by rw [hll]; simp
  have hrl2 : l.length = r0.length + 1 := by omega
  have hs0 : (frsD l).set (l.length - 1) (.agg [.int .i64 i, .int .i64 (b + 1)]) = frsD ((⟨i, b + 1⟩ :: r0).reverse ++ []) := by
   have := rv_set (r := r0) (j := []) (f := topF l) (f' := ⟨i, b + 1⟩)
   rw [List.append_nil, ← hll] at this
   rw [hrl]; exact this
  have hr0k : ∀ q ∈ r0, frOk s q = true := fun q hq => hsw.2 q (by rw [hll]; simp [hq])
  have hcg := hg.cls (clsAt s (topF l)) (by unfold clsAt; rw [List.getD_eq_getElem?_getD, List.getElem?_eq_getElem (by omega)]; exact List.getElem_mem _)
  have h12 := hcg.l12
  have hcl0 : clsAt s ⟨i, b + 1⟩ = clsAt s (topF l) := by unfold clsAt; rw [hi]
  simp only [go_sem, Int.reduceEq, Int.reduceLT, Int.reduceLE, eq_self, Int.natCast_nonneg, Int.toNat_natCast, hk]
  refine sem_of_awp (Γ := tbl tabRT4) tabRT4_ok _ _ _ ?_
  simp only [go_sem, Int.reduceEq, Int.reduceLT, Int.reduceLE, eq_self, Int.natCast_nonneg, Int.toNat_natCast, hq1, hq2, hq3, hq4, hlf, hqn, frD, hi, hb, hs0]
  refine ⟨inR_i64.2 (by omega), inR_i64.2 (by omega), ?_⟩
  refine sem_loop (fun p : List PFr × List PFr => ⟨slotsOf 110 [(2, .dat (.int .i64 w)), (3, .ptr 0 0 0), (4, .ptr 1 0 0), (6, .ptr 2 0 0), (7, .ptr 5 0 0), (8, .sl 4 0 p.1.length)], [sysO s, stO x, .box [.nils], .vec (((stacksD x).map .dat).set w (.sl 4 0 l.length)), .row (some 2) (frsD (p.1.reverse ++ p.2)), .box [.sl 3 0 x.length]], 0, []⟩)
   (fun p => (∃ f r, p.1 = f :: r ∧ 0 ≤ f.c ∧ f.c < s.classes.length ∧ 0 ≤ f.a ∧ f.a ≤ (clsAt s f).steps.length ∧ ∀ q ∈ r, frOk s q = true) ∧ adv s p.1 = R ∧ p.1.length + p.2.length = l.length) (fun p => p.1.length + (if (p.1.headD default).a = 0 then 0 else 1)) (⟨i, b + 1⟩ :: r0, []) ⟨⟨⟨i, b + 1⟩, r0, rfl, by simp only; omega, by simp only; omega, by simp only; omega, by rw [hcl0]; simp only; omega, hr0k⟩, hR, by simp only [List.length_cons, List.length_nil]; omega⟩ ?_ ?_
  ·rw [hrl2]
   refine le_end (own := [_, _, _, _, _, _]) (ex := [_, _]) (Nat.zero_le _) ?_ ?_ ?_
   ·simp only [go_sem]
   ·simp only [go_sem]
   ·simp only [go_sem, Obj.under, AV.unders, AV.under]
    exact unders_set (by rw [unders_dats]; trivial) (by simp only [AV.under]; omega)
  rintro ⟨c, j⟩ ⟨⟨f, r, rfl, c1, c2, c3, c4, hrk⟩, hcR, hcl⟩
  simp only at hcR hcl ⊢
  obtain ⟨k, hkc, hkl, hkn⟩ := cls_nth (s := s) (f := f) c1 c2
  have hk2 : (k : Int) < s.classes.length := by omega
  have hk0 : (0 : Int) ≤ k := Int.natCast_nonneg k
  have hcg2 := hg.cls (clsAt s f) (by unfold clsAt; rw [List.getD_eq_getElem?_getD, List.getElem?_eq_getElem (by omega)]; exact List.getElem_mem _)
  have h12' := hcg2.l12
  have h1' := hcg2.l1
  have hrl : (frsD ((f :: r).reverse ++ j)).length = l.length := by simp only [List.length_map, List.length_append, List.length_reverse]; exact hcl
  have hq1 : ((f :: r).length : Int) - 1 = (r.length : Nat) := by simp
  have hq2 : (r.length : Int) < (f :: r).length := by simp only [List.length_cons]; omega
  have hq3 : r.length < (f :: r).length := by simp
  have hq5 : r.length < l.length := by rw [← hcl]; simp only [List.length_cons]; omega
  have hq4 : (0 : Int) ≤ (r.length : Nat) := Int.natCast_nonneg _
  have hn := rv_nth (r := r) (j := j) (f := f)
  refine sem_of_awpK [14] (Γ := tbl tabRT4) tabRT4_ok _ _ _ ?_
  generalize hFR : frsD ((f :: r).reverse ++ j) = FR at *
  generalize hLL : (f :: r).length = LL at *
  simp only [go_sem, Int.reduceEq, Int.reduceLT, Int.reduceLE, eq_self, Int.natCast_nonneg, Int.toNat_natCast]
  refine sem_drawY [] [] (pf := []) (mf := []) mixed tabRT4_ok pureNo noMk (ones [0, 1, 2, 3, 4, 5, 6, 7, 8, 9, 10, 11, 12, 13, 14, 15, 16, 17, 18, 19, 20]) (by kernel_rfl) ?_
  simp only [go_sem, Int.reduceEq, Int.reduceLT, Int.reduceLE, eq_self, Int.natCast_nonneg, Int.toNat_natCast, hq1, hq2, hq3, hq4, hq5, hn, frD, hrl, hkc, hkl, hkn, hk2, hk0, clsD, stepsD, List.length_map]
  by_cases hge : ((clsAt s f).steps.length : Int) ≤ f.a
  case neg =>
   have hRR : R = f :: r := by rw [← hcR, adv_stop (by omega)]
   simp only [go_sem, Int.reduceEq, Int.reduceLT, Int.reduceLE, eq_self, Int.natCast_nonneg, Int.toNat_natCast, hge]
   refine ⟨inR_i64.2 (by omega), inR_i64.2 (by omega), ?_⟩
   refine sem_of_awp (Γ := tbl tabRT4) tabRT4_ok _ _ _ ?_
   simp only [go_sem, Int.reduceEq, Int.reduceLT, Int.reduceLE, eq_self, Int.natCast_nonneg, Int.toNat_natCast, hsl0, hw1, hw0, hw, List.set_set, hxl2]
   subst hFR
   have hfs : frsD ((f :: r).reverse ++ j) = frsD R.reverse ++ frsD j := by rw [hRR]; simp
   rw [hfs]
   refine sem_le (le_cut 4 (ag := some 2) rfl) ?_
   refine sem_le (le_freeze 4 (ag := some 2) rfl (Nat.zero_le _)) ?_
   have htk : List.take LL (frsD R.reverse) = frsD R.reverse := List.take_of_length_le (by rw [hRR, ← hLL]; simp)
   have hLR : LL ≤ R.reverse.length := by rw [hRR, ← hLL]; simp
   simp only [go_sem, frzs_set, htk, hLR, if_true, stacks_set, List.drop_zero]
   refine sem_le (le_freezeV 3 (ds := stacksD (x.set w R.reverse)) rfl (norm1_dats _) (Nat.zero_le _)) ?_
   refine sem_of_awp (Γ := tbl tabRT4) tabRT4_ok _ _ _ ?_
   have hW : List.take x.length (stacksD (x.set w R.reverse)) = stacksD (x.set w R.reverse) := List.take_of_length_le (by simp)
   simp only [go_sem, Int.reduceEq, Int.reduceLT, Int.reduceLE, eq_self, Int.natCast_nonneg, Int.toNat_natCast, hW]
   refine post_res (.inl rfl) [.cell 6 29] rfl ?_
   simp only [go_sem, stD, hW]
   exact le_fin (by simp only [go_sem]) (by simp only [go_sem])
  have hna : ¬ f.a < (clsAt s f).steps.length := by omega
  cases r with
  | nil =>
   have hL1 : (LL : Int) = 1 := by rw [← hLL]; rfl
   have hz : 0 < FR.length := by rw [hrl]; exact hq5
   have hz2 : 0 < l.length := hq5
   have hn0 : D.nth FR 0 = .agg [.int .i64 k, .int .i64 f.a] := by rw [← hkc]; exact hn
   have hs2 : FR.set 0 (.agg [.int .i64 k, .int .i64 0]) = frsD (([⟨f.c, 0⟩] : List PFr).reverse ++ j) := by
    rw [← hFR, ← hkc]; exact rv_set (r := []) (f := f) (f' := ⟨f.c, 0⟩)
   simp only [go_sem, Int.reduceEq, Int.reduceLT, Int.reduceLE, eq_self, Int.natCast_nonneg, Int.toNat_natCast, hge, hL1, hn0, hz, hz2, hs2, hrl, List.length_nil]
   have hc0 : clsAt s ⟨f.c, 0⟩ = clsAt s f := rfl
   have hLL2 : LL = 1 := by omega
   refine ⟨inR_i64.2 (by omega), inR_i64.2 (by omega), ([⟨f.c, 0⟩], j), ⟨⟨⟨f.c, 0⟩, [], rfl, c1, c2, Int.le_refl 0, by rw [hc0]; simp only; omega, fun q hq => by simp at hq⟩, ?_, ?_⟩, ?_, ?_⟩
   ·rw [← hcR, adv_1 hna, adv_stop (f := ⟨f.c, 0⟩) (by rw [hc0]; simp only; omega)]
   ·simp only [List.length_cons, List.length_nil]; omega
   ·show 1 + (if (0 : Int) = 0 then 0 else 1) < LL + (if f.a = 0 then 0 else 1)
    rw [if_pos rfl, if_neg (by omega)]; omega
   ·rw [hLL2]
    exact le_slots' (by simp only [go_sem, List.length_cons, List.length_nil])
  | cons g r2 =>
   have hLL1 : ¬ (LL : Int) = 1 := by rw [← hLL]; simp only [List.length_cons]; omega
   have hFR2 : FR = frsD ((g :: r2).reverse ++ f :: j) := by rw [← hFR]; simp
   have hn3 : D.nth FR r2.length = .agg [.int .i64 g.c, .int .i64 g.a] := by rw [hFR2]; exact rv_nth
   have hs3 : FR.set r2.length (.agg [.int .i64 g.c, .int .i64 (g.a + 1)]) = frsD ((⟨g.c, g.a + 1⟩ :: r2).reverse ++ f :: j) := by rw [hFR2]; exact rv_set (f' := ⟨g.c, g.a + 1⟩)
   have hq6 : r2.length + 1 < l.length := hq5
   have hq7 : r2.length + 1 < LL := hq3
   have hq8 : ((r2.length + 1 : Nat) : Int) - 1 = r2.length := by omega
   have hq9 : (r2.length : Int) < ((r2.length + 1 : Nat) : Int) := by omega
   have hq10 : (0 : Int) ≤ r2.length := Int.natCast_nonneg _
   have hq11 : ((r2.length + 1 : Nat) : Int) ≤ LL := by omega
   have hq12 : r2.length < r2.length + 1 := by omega
   have hq13 : r2.length < FR.length := by omega
   have hq14 : r2.length < l.length := by omega
   have hq1' : (LL : Int) - 1 = ((r2.length + 1 : Nat) : Int) := hq1
   obtain ⟨g1, g2, g3, g4⟩ := frOk_iff.1 (hrk g (by simp))
   have hg12 : (clsAt s g).steps.length ≤ 12 := (hg.cls (clsAt s g) (by unfold clsAt; rw [List.getD_eq_getElem?_getD, List.getElem?_eq_getElem (by omega)]; exact List.getElem_mem _)).l12
   simp only [go_sem, Int.reduceEq, Int.reduceLT, Int.reduceLE, eq_self, Int.natCast_nonneg, Int.toNat_natCast, hge, hLL1, hq1', hq8, hq9, hq10, hq11, hq12, hq13, hq14, hn3, hs3, hrl, List.length_cons, Int.sub_zero, Int.toNat_natCast]
   have hc0 : clsAt s ⟨g.c, g.a + 1⟩ = clsAt s g := rfl
   refine ⟨inR_i64.2 (by omega), inR_i64.2 (by omega), inR_i64.2 (by omega), inR_i64.2 (by omega), inR_i64.2 (by omega), inR_i64.2 (by omega), (⟨g.c, g.a + 1⟩ :: r2, f :: j), ⟨⟨⟨g.c, g.a + 1⟩, r2, rfl, g1, g2, by simp only; omega, by rw [hc0]; simp only; omega, fun q hq => hrk q (by simp [hq])⟩, ?_, ?_⟩, ?_, ?_⟩
   ·rw [← hcR, adv_2 hna]
   ·have := hLL; simp only [List.length_cons] at this ⊢; omega
   ·show (r2.length + 1) + (if g.a + 1 = 0 then 0 else 1) < LL + (if f.a = 0 then 0 else 1)
    rw [if_neg (by omega), if_neg (by omega)]; omega
   ·exact le_slots' (by simp only [go_sem, List.length_cons])
end Go.AM

set_option maxRecDepth 8000
set_option maxHeartbeats 4000000
namespace Go.AM
open Go Go.Proofs

abbrev tabRS4 : List (Nat × Contract) := [(16, dataC stErrR), (44, dataC rposR), (45, dataC takeR)]
theorem tabRS4_ok : OkG Try.prog (tbl tabRS4) := okG_cons rCheck44_ok (okG_cons rpossible_ok (okG_cons rtake_ok okG_nil))
theorem rStep44_ok : OkF Try.prog 14 (dataC stepXR) := by
 refine okF_data Try.func14 rfl (by decide) ?_
 rintro ds v ⟨s, x, w, rfl, hf, hx, rfl⟩
 generalize hv : stepX s x w = V
 unfold stepX at hv
 have hxl2 : (stacksD x).length = x.length := by simp
 refine sem_of_awp (Γ := tbl tabRS4) tabRS4_ok _ _ _ ?_
 simp only [go_sem, Int.reduceEq, Int.reduceLT, Int.reduceLE, eq_self, Int.natCast_nonneg, Int.toNat_natCast, Try.ntmps14, sysD, stD]
 refine call_data stErrR (by simp) [sysD s, stD x] _ rfl ⟨s, x, rfl, hf, hx, rfl⟩ (.inl rfl) ?_
 by_cases he : stErr s x = 0
 case neg =>
  rw [if_pos he] at hv
  subst hv
  simp only [go_sem, Int.reduceEq, Int.reduceLT, Int.reduceLE, eq_self, Int.natCast_nonneg, Int.toNat_natCast, he]
  refine post_res (.inl rfl) [.cell 6 29, .tmp 7] rfl ?_
  simp only [go_sem, List.map_nil]
  exact le_fin (by simp only [go_sem]) (by simp only [go_sem])
 rw [if_neg (by rw [he]; decide)] at hv
 have hV := valid_of he
 by_cases h1 : w < 0
 ·rw [if_pos (.inl h1)] at hv
  subst hv
  simp only [go_sem, Int.reduceEq, Int.reduceLT, Int.reduceLE, eq_self, Int.natCast_nonneg, Int.toNat_natCast, he, h1]
  refine post_res (.inl rfl) [.cell 6 29, .tmp 7] rfl ?_
  simp only [go_sem, List.map_nil]
  exact le_fin (by simp only [go_sem]) (by simp only [go_sem])
 by_cases h2 : (x.length : Int) ≤ w
 ·rw [if_pos (.inr h2)] at hv
  subst hv
  simp only [go_sem, Int.reduceEq, Int.reduceLT, Int.reduceLE, eq_self, Int.natCast_nonneg, Int.toNat_natCast, he, h1, h2, hxl2]
  refine post_res (.inl rfl) [.cell 6 29, .tmp 7] rfl ?_
  simp only [go_sem, List.map_nil]
  exact le_fin (by simp only [go_sem]) (by simp only [go_sem])
 rw [if_neg (by omega)] at hv
 obtain ⟨q, rfl⟩ : ∃ q : Nat, w = q := ⟨w.toNat, by omega⟩
 rw [Int.toNat_natCast] at hv
 have hq : q < x.length := by omega
 simp only [go_sem, Int.reduceEq, Int.reduceLT, Int.reduceLE, eq_self, Int.natCast_nonneg, Int.toNat_natCast, he, h1, h2, hxl2]
 refine call_data rposR (by simp) [sysD s, stD x, .int .i64 q] _ rfl ⟨s, x, q, rfl, hV, hx, hq, rfl⟩ (.inl rfl) ?_
 cases hb : ableB s x q with
 | false =>
  rw [if_pos hb] at hv
  subst hv
  simp only [go_sem, Int.reduceEq, Int.reduceLT, Int.reduceLE, eq_self, Int.natCast_nonneg, Int.toNat_natCast]
  refine post_res (.inl rfl) [.cell 6 29, .tmp 7] rfl ?_
  simp only [go_sem, List.map_nil]
  exact le_fin (by simp only [go_sem]) (by simp only [go_sem])
 | true =>
  rw [if_neg (by rw [hb]; decide)] at hv
  subst hv
  simp only [go_sem, Int.reduceEq, Int.reduceLT, Int.reduceLE, eq_self, Int.natCast_nonneg, Int.toNat_natCast]
  refine call_data takeR (by simp) [sysD s, stD x, .int .i64 q] _ rfl ⟨s, x, q, rfl, hV, hx, hq, rfl⟩ (.inl rfl) ?_
  simp only [go_sem, Int.reduceEq, Int.reduceLT, Int.reduceLE, eq_self, Int.natCast_nonneg, Int.toNat_natCast, stD]
  refine post_res (.inl rfl) [.cell 6 29, .tmp 7] rfl ?_
  simp only [go_sem]
  exact le_fin (by simp only [go_sem]) (by simp only [go_sem])

theorem stepX_err {s : PSys} {x : PSt} {w : Int} (h : (stepX s x w).2 ≠ 0) : (stepX s x w).1 = [] := by
 unfold stepX at h ⊢
 (repeat' split) <;> first | rfl | (simp_all)
abbrev tabRR4 : List (Nat × Contract) := [(25, dataC startXR), (14, dataC stepXR)]
theorem tabRR4_ok : OkG Try.prog (tbl tabRR4) := okG_cons rStart_ok (okG_cons rStep44_ok okG_nil)
theorem pureRR4 : PureFns (tbl tabRR4) [14] := by
 refine pure_of2 fun g C hm hg => ?_
 simp only [List.mem_cons, List.not_mem_nil, or_false, Prod.mk.injEq] at hm
 rcases hm with ⟨_, rfl⟩ | ⟨_, rfl⟩ <;> exact .inl ⟨_, rfl⟩
theorem rReplay44_ok : OkF Try.prog 32 (dataC replayXR) := by
 refine okF_data Try.func32 rfl (by decide) ?_
 rintro ds v ⟨s, ws, rfl, hf, hws, rfl⟩
 generalize hv : replayX s ws = V
 unfold replayX at hv
 refine sem_of_awp (Γ := tbl tabRR4) tabRR4_ok _ _ _ ?_
 simp only [go_sem, Int.reduceEq, Int.reduceLT, Int.reduceLE, eq_self, Int.natCast_nonneg, Int.toNat_natCast, Try.ntmps32, sysD]
 refine call_data startXR (by simp) [sysD s] _ rfl ⟨s, rfl, hf, rfl⟩ (.inl rfl) ?_
 generalize hr : (if checkE s = 0 then iniX s else []) = x0
 have hv2 : (if checkE s ≠ 0 then (x0, checkE s) else replayF s x0 ws) = V := by
  rw [← hv, ← hr]
  by_cases he : checkE s = 0
  ·simp [he]
  ·simp [he]
 have hd0 : Deep 1 x0 := by
  rw [← hr]
  by_cases he : checkE s = 0
  ·rw [if_pos he]; exact deep_ini (good_of he)
  ·rw [if_neg he]; exact ⟨by simp, by simp⟩
 generalize checkE s = e0 at hv2 ⊢
 simp only [go_sem, Int.reduceEq, Int.reduceLT, Int.reduceLE, eq_self, Int.natCast_nonneg, Int.toNat_natCast, stD]
 refine sem_loop (fun p : Nat × PSt × Int => ⟨slotsOf 36 [(1, .dat (.sl none (intsD ws))), (2, .ptr 0 0 0), (4, .ptr 1 0 0), (6, .ptr 2 0 0), (7, .dat (.int .i64 p.2.2)), (8, .dat (.int .i64 p.1))], [sysO s, .box [.nils], stO p.2.1], 0, []⟩)
  (fun p => p.1 ≤ ws.length ∧ Deep (p.1 + 1) p.2.1 ∧ (if p.2.2 ≠ 0 then (p.2.1, p.2.2) else replayF s p.2.1 (ws.drop p.1)) = V) (fun p => ws.length - p.1) (0, x0, e0) ⟨Nat.zero_le _, hd0, hv2⟩ ?_ ?_
 ·exact le_slots' (by simp only [go_sem, Int.natCast_zero])
 rintro ⟨k, x, e⟩ ⟨hk, hdp, hv⟩
 simp only at hk hdp hv
 refine sem_of_awp (Γ := tbl tabRR4) tabRR4_ok _ _ _ ?_
 rcases Nat.lt_or_ge k ws.length with hlt | hge
 case inr =>
  obtain rfl : k = ws.length := by omega
  have hk2 : ¬ (ws.length : Int) < ws.length := by omega
  have hv3 : (x, e) = V := by
   rw [← hv, List.drop_length]
   by_cases he : e = 0
   ·simp [he, replayF]
   ·simp [he]
  subst hv3
  simp only [go_sem, Int.reduceEq, Int.reduceLT, Int.reduceLE, eq_self, Int.natCast_nonneg, Int.toNat_natCast, hk2, ints_len]
  refine post_res (.inl rfl) [.cell 4 29, .tmp 5] rfl ?_
  simp only [go_sem]
  exact le_fin (by simp only [go_sem]) (by simp only [go_sem])
 have hk2 : (k : Int) < ws.length := by omega
 have hk0 : (0 : Int) ≤ k := Int.natCast_nonneg k
 by_cases he : e = 0
 case neg =>
  rw [if_pos he] at hv
  subst hv
  simp only [go_sem, Int.reduceEq, Int.reduceLT, Int.reduceLE, eq_self, Int.natCast_nonneg, Int.toNat_natCast, hk2, ints_len, he]
  refine post_res (.inl rfl) [.cell 4 29, .tmp 5] rfl ?_
  simp only [go_sem]
  exact le_fin (by simp only [go_sem]) (by simp only [go_sem])
 subst he
 obtain ⟨w, r, hd⟩ : ∃ w r, ws.drop k = w :: r := ⟨ws[k], _, List.drop_eq_getElem_cons hlt⟩
 have hn : D.nth (intsD ws) k = .int .i64 w := nth_of_drop hd
 have hds := hdp.step s w
 rw [if_neg (by simp), hd, replayF] at hv
 simp only [go_sem, Int.reduceEq, Int.reduceLT, Int.reduceLE, eq_self, Int.natCast_nonneg, Int.toNat_natCast, hk2, ints_len]
 refine sem_drawY [] [] (pf := [14]) (mf := []) mixed tabRR4_ok pureRR4 noMk (.one 0 (.one 1 (.one 2 (.one 3 (.one 4 (.one 5 (.one 6 (.one 7 (.one 8 (.alt 9 (.one 10 (.one 11 .fin)) (.alt 10 (.one 9 (.one 11 .fin)) .stop)))))))))))  (by kernel_rfl) ?_
 simp only [go_sem, Int.reduceEq, Int.reduceLT, Int.reduceLE, eq_self, Int.natCast_nonneg, Int.toNat_natCast, hk2, hk0, hlt, hn, ints_len]
 refine call_data stepXR (by simp) [sysD s, stD x, .int .i64 w] _ rfl ⟨s, x, w, rfl, hf, hdp.fit (by omega), rfl⟩ (.inl rfl) ?_
 have hy := stepX_err (s := s) (x := x) (w := w)
 generalize stepX s x w = q at *
 obtain ⟨y, e⟩ := q
 simp only at hv hds hy
 simp only [go_sem, Int.reduceEq, Int.reduceLT, Int.reduceLE, eq_self, Int.natCast_nonneg, Int.toNat_natCast, stD]
 refine ⟨inR_i64.2 (by omega), (k + 1, y, e), ⟨by omega, hds, ?_⟩, by simp only; omega, ?_⟩
 ·simp only
  rw [drop_cons hd, ← hv]
  by_cases he : e = 0
  ·simp [he]
  ·rw [if_pos he, if_pos he, hy he]
 ·exact le_slots' (by simp only [go_sem, Int.natCast_add, Int.cast_ofNat_Int])
end Go.AM

set_option maxRecDepth 8000
namespace Go.AM
open Go Go.Proofs

def chn (s : PSys) : List PFr → Prop
 | [] => True
 | [f] => frOk s f = true
 | f :: g :: r => frOk s f = true ∧ callsB s g f = true ∧ chn s (g :: r)
theorem fmd_snoc {s : PSys} : ∀ {l : List PFr} {p : Option PFr} {f : PFr}, fmd s p (l ++ [f]) = (fmd s p l && (frOk s f && (match l.getLast?.or p with | none => true | some q => callsB s q f)))
 | [], p, f => by
  rw [List.nil_append, fmd_cons, fmd, fmd]
  cases p <;> simp
 | g :: l, p, f => by
  rw [List.cons_append, fmd_cons, fmd_cons, fmd_snoc (l := l)]
  have : (g :: l).getLast?.or p = l.getLast?.or (some g) := by
   cases l with
   | nil => rfl
   | cons h r => rw [List.getLast?_cons_cons]; cases hh : (h :: r).getLast? with
    | none => simp at hh
    | some q => rfl
  rw [this]
  simp only [Bool.and_assoc]
theorem chn_iff {s : PSys} : ∀ {l : List PFr}, fmd s none l.reverse = true ↔ chn s l
 | [] => by simp [fmd, chn]
 | [f] => by
  rw [List.reverse_singleton, fmd_cons, fmd, chn]
  simp
 | f :: g :: r => by
  have ih := chn_iff (s := s) (l := g :: r)
  rw [List.reverse_cons, fmd_snoc, Bool.and_eq_true, ih, chn, Bool.and_eq_true]
  have : (g :: r).reverse.getLast?.or none = some g := by rw [List.getLast?_reverse]; rfl
  rw [this]
  constructor
  ·rintro ⟨h1, h2, h3⟩; exact ⟨h2, h3, h1⟩
  ·rintro ⟨h1, h2, h3⟩; exact ⟨h3, h1, h2⟩
theorem chn_ok {s : PSys} : ∀ {l : List PFr}, chn s l → ∀ f ∈ l, frOk s f = true
 | [], _, f, hf => by simp at hf
 | [g], h, f, hf => by
  rcases List.mem_cons.1 hf with rfl | hf
  ·exact h
  ·simp at hf
 | g :: k :: r, h, f, hf => by
  rcases List.mem_cons.1 hf with rfl | hf
  ·exact h.1
  ·exact chn_ok h.2.2 f hf
theorem formed_iff {s : PSys} {l : List PFr} {c : Nat} : formedB s l c = true ↔ l ≠ [] ∧ (l.reverse.getLast?.map (·.c)) = some (c : Int) ∧ chn s l.reverse := by
 rw [← chn_iff, List.reverse_reverse, List.getLast?_reverse]
 cases l with
 | nil => simp [formedB]
 | cons f r =>
  unfold formedB
  simp
def effU (i : Nat) (y : PStep) : Int := if y.on = i then (if y.kind = 1 then y.cnt else if y.kind = 2 then -y.cnt else 0) else 0
def effL (i : Nat) (y : PStep) : Int := if y.on = i then (if y.kind = 3 then 1 else if y.kind = 4 then -1 else 0) else 0
theorem bstep_U (i : Nat) (a : Int) (y : PStep) : bstep i 0 a y = a + effU i y := by
 unfold bstep effU
 (repeat' split) <;> first | rfl | omega | (simp_all)
theorem bstep_L (i : Nat) (a : Int) (y : PStep) : bstep i 1 a y = a + effL i y := by
 unfold bstep effL
 (repeat' split) <;> first | rfl | omega | (simp_all)
theorem cls_mem {s : PSys} {f : PFr} (h : frOk s f = true) : clsAt s f ∈ s.classes := by
 obtain ⟨c1, c2, c3, c4⟩ := frOk_iff.1 h
 unfold clsAt; rw [List.getD_eq_getElem?_getD, List.getElem?_eq_getElem (by omega)]; exact List.getElem_mem _
theorem take_next {s : PSys} {f : PFr} (h : frOk s f = true) : (clsAt s f).steps.take (f.a + 1).toNat = (clsAt s f).steps.take f.a.toNat ++ [stepAtF s f] := by
 obtain ⟨c1, c2, c3, c4⟩ := frOk_iff.1 h
 have e : (f.a + 1).toNat = f.a.toNat + 1 := by omega
 rw [e, List.take_succ_eq_append_getElem (by omega)]
 congr 2
 unfold stepAtF
 rw [List.getD_eq_getElem?_getD, List.getElem?_eq_getElem (by omega)]; rfl
theorem frU_next {s : PSys} {f : PFr} (h : frOk s f = true) (i : Nat) : frU s i ⟨f.c, f.a + 1⟩ = frU s i f + effU i (stepAtF s f) := by
 show bal ((clsAt s f).steps.take (f.a + 1).toNat) i 0 = _
 rw [take_next h, bal_snoc, bstep_U]; rfl
theorem frL_next {s : PSys} {f : PFr} (h : frOk s f = true) (i : Nat) : frL s i ⟨f.c, f.a + 1⟩ = frL s i f + effL i (stepAtF s f) := by
 show bal ((clsAt s f).steps.take (f.a + 1).toNat) i 1 = _
 rw [take_next h, bal_snoc, bstep_L]; rfl
theorem take_end {s : PSys} {f : PFr} (h : frOk s f = true) (hn : ¬ f.a + 1 < (clsAt s f).steps.length) : (clsAt s f).steps.take (f.a + 1).toNat = (clsAt s f).steps := by
 obtain ⟨c1, c2, c3, c4⟩ := frOk_iff.1 h
 exact List.take_of_length_le (by omega)
theorem frU_end {s : PSys} (hg : s.good) {f : PFr} (h : frOk s f = true) (hn : ¬ f.a + 1 < (clsAt s f).steps.length) {i : Nat} (hi : i < s.pools.length) : frU s i f + effU i (stepAtF s f) = 0 := by
 rw [← frU_next h]
 show bal ((clsAt s f).steps.take (f.a + 1).toNat) i 0 = 0
 rw [take_end h hn]
 exact (run_end (hg.cls _ (cls_mem h))).1 i hi
theorem frL_end {s : PSys} (hg : s.good) {f : PFr} (h : frOk s f = true) (hn : ¬ f.a + 1 < (clsAt s f).steps.length) {i : Nat} (hi : i < s.locks.length) : frL s i f + effL i (stepAtF s f) = 0 := by
 rw [← frL_next h]
 show bal ((clsAt s f).steps.take (f.a + 1).toNat) i 1 = 0
 rw [take_end h hn]
 exact (run_end (hg.cls _ (cls_mem h))).2 i hi
theorem fr_zero {s : PSys} {c : Int} (i : Nat) : frU s i ⟨c, 0⟩ = 0 ∧ frL s i ⟨c, 0⟩ = 0 := by simp [frU, frL, bal]
theorem calls_kind {s : PSys} {g f : PFr} (h : callsB s g f = true) : (stepAtF s g).kind = 5 := by
 unfold callsB at h
 rw [Bool.and_eq_true] at h
 exact of_decide_eq_true h.1
theorem eff_call {i : Nat} {y : PStep} (h : y.kind = 5) : effU i y = 0 ∧ effL i y = 0 := by simp [effU, effL, h]
theorem upR_sum {s : PSys} {G : PFr → Int} {E : PStep → Int} (hnext : ∀ f, frOk s f = true → G ⟨f.c, f.a + 1⟩ = G f + E (stepAtF s f))
  (hend : ∀ f, frOk s f = true → ¬ f.a + 1 < (clsAt s f).steps.length → G f + E (stepAtF s f) = 0) (hzero : ∀ c, G ⟨c, 0⟩ = 0) (hcall : ∀ y : PStep, y.kind = 5 → E y = 0) :
  ∀ (r : List PFr) (f : PFr), chn s (f :: r) → sumI G (upR s (f :: r)) = sumI G (f :: r) + E (stepAtF s f)
 | [], f, h => by
  have e1 := sumI_cons G f []
  by_cases hn : f.a + 1 < (clsAt s f).steps.length
  ·have e2 := sumI_cons G ⟨f.c, f.a + 1⟩ []
   rw [upR_go hn, e2, e1, hnext f h]; omega
  ·have e2 := sumI_cons G ⟨f.c, 0⟩ []
   rw [upR_1 hn, e2, e1, hzero]
   have := hend f h hn
   omega
 | g :: r, f, h => by
  have e1 := sumI_cons G f (g :: r)
  by_cases hn : f.a + 1 < (clsAt s f).steps.length
  ·have e2 := sumI_cons G ⟨f.c, f.a + 1⟩ (g :: r)
   rw [upR_go hn, e2, e1, hnext f h.1]; omega
  ·have := hend f h.1 hn
   rw [upR_2 hn, upR_sum hnext hend hzero hcall r g h.2.2, hcall _ (calls_kind h.2.1), e1]
   omega
theorem upR_chn {s : PSys} (hg : s.good) : ∀ (r : List PFr) (f : PFr), chn s (f :: r) → chn s (upR s (f :: r)) ∧ upR s (f :: r) ≠ [] ∧ (upR s (f :: r)).getLast?.map (·.c) = (f :: r).getLast?.map (·.c)
 | [], f, h => by
  have hfo : frOk s f = true := h
  obtain ⟨c1, c2, c3, c4⟩ := frOk_iff.1 hfo
  by_cases hn : f.a + 1 < (clsAt s f).steps.length
  ·rw [upR_go hn]
   exact ⟨frOk_iff.2 ⟨c1, c2, by simp only; omega, hn⟩, by simp, rfl⟩
  ·rw [upR_1 hn]
   exact ⟨frOk_iff.2 ⟨c1, c2, Int.le_refl 0, by have := (hg.cls _ (cls_mem hfo)).l1; show (0 : Int) < (clsAt s f).steps.length; omega⟩, by simp, rfl⟩
 | g :: r, f, h => by
  obtain ⟨c1, c2, c3, c4⟩ := frOk_iff.1 h.1
  by_cases hn : f.a + 1 < (clsAt s f).steps.length
  ·rw [upR_go hn]
   refine ⟨⟨frOk_iff.2 ⟨c1, c2, by simp only; omega, hn⟩, h.2.1, h.2.2⟩, by simp, ?_⟩
   rw [List.getLast?_cons_cons, List.getLast?_cons_cons]
  ·rw [upR_2 hn]
   have ih := upR_chn hg r g h.2.2
   refine ⟨ih.1, ih.2.1, ?_⟩
   rw [ih.2.2, List.getLast?_cons_cons]
theorem upR_E {s : PSys} (i : Nat) : ∀ (r : List PFr) (f : PFr), sumI (frE s i) (upR s (f :: r)) ≤ sumI (frE s i) (f :: r)
 | [], f => by
  by_cases hn : f.a + 1 < (clsAt s f).steps.length
  ·rw [upR_go hn]; exact Int.le_refl _
  ·rw [upR_1 hn]; exact Int.le_refl _
 | g :: r, f => by
  have e1 := sumI_cons (frE s i) f (g :: r)
  by_cases hn : f.a + 1 < (clsAt s f).steps.length
  ·rw [upR_go hn]; exact Int.le_refl _
  ·have ih := upR_E (s := s) i r g
   have h0 : 0 ≤ frE s i f := by unfold frE; split <;> omega
   rw [upR_2 hn, e1]; omega
theorem sumI_rev (G : PFr → Int) : ∀ l : List PFr, sumI G l.reverse = sumI G l
 | [] => rfl
 | f :: l => by rw [List.reverse_cons, sumI_snoc, sumI_rev G l, sumI_cons]; omega
theorem frames_set (G : PFr → Int) : ∀ (x : PSt) (w : Nat) (l : List PFr), w < x.length → sumI G (frames (x.set w l)) = sumI G (frames x) - sumI G (x.getD w []) + sumI G l
 | [], _, _, h => by simp at h
 | m :: x, 0, l, _ => by
  simp only [frames, List.set_cons_zero, List.flatten_cons, sumI_app, List.getD_cons_zero]; omega
 | m :: x, w + 1, l, h => by
  have ih := frames_set G x w l (by simpa using h)
  simp only [frames] at ih
  simp only [frames, List.set_cons_succ, List.flatten_cons, sumI_app, List.getD_cons_succ]; omega
theorem fmdAll_set {s : PSys} : ∀ {x : PSt} {ws : List Nat} {w : Nat} {l : List PFr}, fmdAll s x ws = true → (∀ c, ws[w]? = some c → formedB s l c = true) → fmdAll s (x.set w l) ws = true
 | [], ws, w, l, h, _ => by simpa using h
 | m :: x, [], w, l, _, _ => by cases w <;> rfl
 | m :: x, c :: ws, 0, l, h, hl => by
  simp only [fmdAll, List.set_cons_zero, Bool.and_eq_true] at h ⊢
  exact ⟨hl c rfl, h.2⟩
 | m :: x, c :: ws, w + 1, l, h, hl => by
  simp only [fmdAll, List.set_cons_succ, Bool.and_eq_true] at h ⊢
  exact ⟨h.1, fmdAll_set h.2 fun c hc => hl c (by simpa using hc)⟩
theorem fmdAll_at {s : PSys} : ∀ {x : PSt} {ws : List Nat} {w : Nat} {c : Nat}, fmdAll s x ws = true → ws[w]? = some c → formedB s (x.getD w []) c = true
 | [], [], w, c, _, hc => by simp at hc
 | [], _ :: _, _, _, h, _ => by simp [fmdAll] at h
 | m :: x, [], w, c, _, hc => by simp at hc
 | m :: x, d :: ws, 0, c, h, hc => by
  simp only [fmdAll, Bool.and_eq_true] at h
  simp at hc; subst hc; exact h.1
 | m :: x, d :: ws, w + 1, c, h, hc => by
  simp only [fmdAll, Bool.and_eq_true] at h
  rw [List.getD_cons_succ]
  exact fmdAll_at h.2 (by simpa using hc)
end Go.AM

set_option maxRecDepth 8000
namespace Go.AM
open Go Go.Proofs

theorem frOk_call {s : PSys} (hg : s.good) {y : PStep} (hp : preE s y = 0) (hk : y.kind = 5) : frOk s ⟨y.on, 0⟩ = true := by
 obtain ⟨_, ⟨o1, o2⟩, _, _⟩ := preE_0 hp
 unfold mostE at o2
 rw [hk, if_neg (by decide), if_pos rfl] at o2
 refine frOk_iff.2 ⟨o1, o2, Int.le_refl 0, ?_⟩
 have hm : clsAt s ⟨y.on, 0⟩ ∈ s.classes := by
  unfold clsAt; rw [List.getD_eq_getElem?_getD, List.getElem?_eq_getElem (by simp only; omega)]; exact List.getElem_mem _
 have := (hg.cls _ hm).l1
 simp only; omega
theorem takeS_formed {s : PSys} (hg : s.good) {l : List PFr} {c : Nat} (h : formedB s l c = true) : formedB s (takeS s l) c = true := by
 obtain ⟨h0, hb, hc⟩ := formed_iff.1 h
 obtain ⟨r, hr⟩ := rv_top h0
 have htop := topF_mem h0
 have hfo : frOk s (topF l) = true := (formedB_ok h).2 _ htop
 unfold takeS
 split
 ·rename_i hk
  refine formed_iff.2 ⟨by simp, ?_, ?_⟩
  ·rw [List.reverse_append, List.reverse_singleton, List.singleton_append, hr, List.getLast?_cons_cons, ← hr]; exact hb
  ·rw [List.reverse_append, List.reverse_singleton, List.singleton_append, hr]
   refine ⟨frOk_call hg (step_mem hg hfo) hk, ?_, by rw [← hr]; exact hc⟩
   unfold callsB; rw [hk]; simp
 ·rw [hr] at hb hc ⊢
  obtain ⟨u1, u2, u3⟩ := upR_chn hg r (topF l) hc
  refine formed_iff.2 ⟨by simpa using u2, ?_, ?_⟩
  ·rw [List.reverse_reverse, u3]; exact hb
  ·rw [List.reverse_reverse]; exact u1
theorem take_sum {s : PSys} {l : List PFr} {c : Nat} {G : PFr → Int} {E : PStep → Int} (h : formedB s l c = true) (hnext : ∀ f, frOk s f = true → G ⟨f.c, f.a + 1⟩ = G f + E (stepAtF s f))
  (hend : ∀ f, frOk s f = true → ¬ f.a + 1 < (clsAt s f).steps.length → G f + E (stepAtF s f) = 0) (hzero : ∀ c, G ⟨c, 0⟩ = 0) (hcall : ∀ y : PStep, y.kind = 5 → E y = 0) :
  sumI G (takeS s l) = sumI G l + E (stepAtF s (topF l)) := by
 obtain ⟨h0, hb, hc⟩ := formed_iff.1 h
 obtain ⟨r, hr⟩ := rv_top h0
 unfold takeS
 split
 ·rename_i hk
  rw [sumI_snoc, hzero, hcall _ hk]
 ·rw [hr] at hc ⊢
  rw [sumI_rev, upR_sum hnext hend hzero hcall r (topF l) hc, ← hr, sumI_rev]
theorem take_sumE {s : PSys} {l : List PFr} {c : Nat} (h : formedB s l c = true) (i : Nat) : sumI (frE s i) (takeS s l) ≤ sumI (frE s i) l + (if (stepAtF s (topF l)).kind = 5 ∧ (stepAtF s (topF l)).on = i then 1 else 0) := by
 obtain ⟨h0, hb, hc⟩ := formed_iff.1 h
 obtain ⟨r, hr⟩ := rv_top h0
 unfold takeS
 by_cases hk : (stepAtF s (topF l)).kind = 5
 ·rw [if_pos hk, sumI_snoc]
  have : frE s i ⟨(stepAtF s (topF l)).on, 0⟩ ≤ (if (stepAtF s (topF l)).kind = 5 ∧ (stepAtF s (topF l)).on = i then 1 else 0) := by
   unfold frE
   by_cases ho : (stepAtF s (topF l)).on = i
   ·rw [if_pos (c := (stepAtF s (topF l)).kind = 5 ∧ _) ⟨hk, ho⟩]; split <;> omega
   ·rw [if_neg (fun h => ho h.1), if_neg (fun h => ho h.2)]; exact Int.le_refl _
  omega
 ·rw [if_neg hk, sumI_rev, if_neg (fun h => hk h.1)]
  have := upR_E (s := s) i r (topF l)
  rw [← hr, sumI_rev] at this
  omega
theorem any_false {n : Nat} {p : Nat → Bool} (h : (List.range n).any p = false) {i : Nat} (hi : i < n) : p i = false := by
 rw [List.any_eq_false] at h
 have := h i (List.mem_range.2 hi)
 simpa using this
theorem over_iff {s : PSys} {x : PSt} : overB s x = false ↔ (∀ i, i < s.pools.length → ¬ (s.pools.getD i default).size < sumI (frU s i) (frames x)) ∧ (∀ i, i < s.classes.length → (s.classes.getD i default).server = true → ¬ (s.classes.getD i default).workers < sumI (frE s i) (frames x)) ∧ (∀ i, i < s.locks.length → ¬ 1 < sumI (frL s i) (frames x)) := by
 unfold overB
 rw [Bool.or_eq_false_iff, Bool.or_eq_false_iff]
 constructor
 ·rintro ⟨⟨h1, h2⟩, h3⟩
  refine ⟨fun i hi => of_decide_eq_false (any_false h1 hi), fun i hi hs => ?_, fun i hi => of_decide_eq_false (any_false (n := s.locks.length) h3 hi)⟩
  have := any_false h2 hi
  rw [hs, Bool.true_and] at this
  exact of_decide_eq_false this
 ·rintro ⟨h1, h2, h3⟩
  refine ⟨⟨any_no fun i hi => decide_eq_false (h1 i hi), any_no fun i hi => ?_⟩, any_no fun i hi => decide_eq_false (h3 i hi)⟩
  cases hs : (s.classes.getD i default).server with
  | false => rfl
  | true => rw [Bool.true_and]; exact decide_eq_false (h2 i hi hs)
theorem val_formed {s : PSys} {x : PSt} (hV : Valid s x) {w : Nat} (hw : w < x.length) : ∃ c, (wkL s)[w]? = some c ∧ formedB s (x.getD w []) c = true := by
 have hl : w < (wkL s).length := by rw [← hV.len]; exact hw
 exact ⟨(wkL s)[w], List.getElem?_eq_getElem hl, fmdAll_at hV.fmd (List.getElem?_eq_getElem hl)⟩
theorem val_sumU {s : PSys} {x : PSt} (hV : Valid s x) {w : Nat} (hw : w < x.length) {i : Nat} (hi : i < s.pools.length) : sumI (frU s i) (frames (takeX s x w)) = sumI (frU s i) (frames x) + effU i (topS s x w) := by
 obtain ⟨c, _, hc⟩ := val_formed hV hw
 unfold takeX
 rw [frames_set _ _ _ _ hw, take_sum (E := effU i) hc (fun f h => frU_next h i) (fun f h hn => frU_end hV.good h hn hi) (fun c => (fr_zero i).1) (fun y h => (eff_call h).1)]
 unfold topS; omega
theorem val_sumL {s : PSys} {x : PSt} (hV : Valid s x) {w : Nat} (hw : w < x.length) {i : Nat} (hi : i < s.locks.length) : sumI (frL s i) (frames (takeX s x w)) = sumI (frL s i) (frames x) + effL i (topS s x w) := by
 obtain ⟨c, _, hc⟩ := val_formed hV hw
 unfold takeX
 rw [frames_set _ _ _ _ hw, take_sum (E := effL i) hc (fun f h => frL_next h i) (fun f h hn => frL_end hV.good h hn hi) (fun c => (fr_zero i).2) (fun y h => (eff_call h).2)]
 unfold topS; omega
theorem val_sumE {s : PSys} {x : PSt} (hV : Valid s x) {w : Nat} (hw : w < x.length) (i : Nat) : sumI (frE s i) (frames (takeX s x w)) ≤ sumI (frE s i) (frames x) + (if (topS s x w).kind = 5 ∧ (topS s x w).on = i then 1 else 0) := by
 obtain ⟨c, _, hc⟩ := val_formed hV hw
 have := take_sumE hc i
 unfold takeX topS
 rw [frames_set _ _ _ _ hw]
 omega
theorem val_take {s : PSys} {x : PSt} (hV : Valid s x) {w : Nat} (hw : w < x.length) (ha : ableB s x w = true) : Valid s (takeX s x w) := by
 have hg := hV.good
 obtain ⟨c, hc1, hc2⟩ := val_formed hV hw
 obtain ⟨o1, o2, o3⟩ := over_iff.1 hV.nover
 have hp := step_mem hg (hV.top hw)
 refine ⟨hg, by rw [takeX_len]; exact hV.len, ?_, over_iff.2 ⟨fun i hi => ?_, fun i hi hs => ?_, fun i hi => ?_⟩⟩
 ·unfold takeX
  refine fmdAll_set hV.fmd fun d hd => ?_
  rw [hc1] at hd; cases hd
  exact takeS_formed hg hc2
 ·rw [val_sumU hV hw hi]
  have h1 := o1 i hi
  have hpk := hg.pool (s.pools.getD i default) (by rw [List.getD_eq_getElem?_getD, List.getElem?_eq_getElem hi]; exact List.getElem_mem _)
  unfold PPool.bad at hpk
  unfold ableB at ha
  have hp' : preE s (topS s x w) = 0 := hp
  generalize topS s x w = y at *
  obtain ⟨⟨k1, k2⟩, ⟨on1, on2⟩, hcn, hc0⟩ := preE_0 hp'
  unfold effU
  by_cases ho : y.on = i
  ·rw [if_pos ho]
   by_cases hk : y.kind = 1
   ·rw [if_pos hk]
    unfold posB at ha
    rw [if_pos hk, ho, Int.toNat_natCast] at ha
    simp only [Bool.or_eq_true, Bool.and_eq_true, decide_eq_true_eq] at ha
    omega
   ·rw [if_neg hk]
    by_cases hk2 : y.kind = 2
    ·rw [if_pos hk2]; have := hcn (.inr hk2); omega
    ·rw [if_neg hk2]; omega
  ·rw [if_neg ho]; omega
 ·have h1 := o2 i hi hs
  have h2 := val_sumE hV hw i
  unfold ableB at ha
  generalize topS s x w = y at *
  by_cases hk : y.kind = 5 ∧ y.on = i
  ·rw [if_pos hk] at h2
   unfold posB at ha
   rw [if_neg (by rw [hk.1]; decide), if_neg (by rw [hk.1]; decide), if_pos hk.1, hk.2, Int.toNat_natCast] at ha
   have := of_decide_eq_true ha
   omega
  ·rw [if_neg hk] at h2; omega
 ·rw [val_sumL hV hw hi]
  have h1 := o3 i hi
  unfold ableB at ha
  generalize topS s x w = y at *
  unfold effL
  by_cases ho : y.on = i
  ·rw [if_pos ho]
   by_cases hk : y.kind = 3
   ·rw [if_pos hk]
    unfold posB at ha
    rw [if_neg (by rw [hk]; decide), if_pos hk, ho, Int.toNat_natCast] at ha
    have := of_decide_eq_true ha
    omega
   ·rw [if_neg hk]
    by_cases hk2 : y.kind = 4
    ·rw [if_pos hk2]; omega
    ·rw [if_neg hk2]; omega
  ·rw [if_neg ho]; omega
end Go.AM

set_option maxRecDepth 8000
namespace Go.AM
open Go Go.Proofs

theorem wkC_mem : ∀ {l : List PCls} {i c : Nat}, c ∈ wkC i l → ∃ j, c = i + j ∧ j < l.length ∧ (l.getD j default).server = false
 | [], _, _, h => by simp [wkC] at h
 | k :: l, i, c, h => by
  rw [wkC] at h
  rcases List.mem_append.1 h with h | h
  ·cases hs : k.server with
   | true => rw [hs, if_pos rfl] at h; simp at h
   | false =>
    rw [hs, if_neg (by decide)] at h
    have := List.eq_of_mem_replicate h
    exact ⟨0, by omega, by simp, by simpa using hs⟩
  ·obtain ⟨j, h1, h2, h3⟩ := wkC_mem h
   exact ⟨j + 1, by omega, by simp; omega, by simpa using h3⟩
theorem wkL_mem {s : PSys} {c : Nat} (h : c ∈ wkL s) : c < s.classes.length ∧ (s.classes.getD c default).server = false := by
 obtain ⟨j, h1, h2, h3⟩ := wkC_mem h
 have : c = j := by omega
 subst this
 exact ⟨h2, h3⟩
theorem frOk_ini {s : PSys} (hg : s.good) {c : Nat} (h : c < s.classes.length) : frOk s ⟨c, 0⟩ = true := by
 refine frOk_iff.2 ⟨Int.natCast_nonneg _, by simp only; omega, Int.le_refl 0, ?_⟩
 have hm : clsAt s ⟨c, 0⟩ ∈ s.classes := by
  unfold clsAt; rw [List.getD_eq_getElem?_getD, List.getElem?_eq_getElem (by simp only; omega)]; exact List.getElem_mem _
 have := (hg.cls _ hm).l1
 simp only; omega
theorem fmdAll_ini {s : PSys} (hg : s.good) : ∀ ws : List Nat, (∀ c ∈ ws, c < s.classes.length) → fmdAll s (ws.map fun c : Nat => [(⟨(c : Int), 0⟩ : PFr)]) ws = true
 | [], _ => rfl
 | c :: ws, h => by
  rw [List.map_cons, fmdAll, Bool.and_eq_true]
  refine ⟨?_, fmdAll_ini hg ws fun d hd => h d (by simp [hd])⟩
  unfold formedB
  rw [fmd_cons, fmd, frOk_ini hg (h c (by simp))]
  simp
theorem sum_ini {s : PSys} {G : PFr → Int} (hG : ∀ c, c ∈ wkL s → G ⟨c, 0⟩ = 0) : ∀ ws : List Nat, (∀ c ∈ ws, c ∈ wkL s) → sumI G (frames (ws.map fun c : Nat => [(⟨(c : Int), 0⟩ : PFr)])) = 0
 | [], _ => rfl
 | c :: ws, h => by
  have ih := sum_ini hG ws fun d hd => h d (by simp [hd])
  unfold frames at ih ⊢
  rw [List.map_cons, List.flatten_cons, sumI_app, ih, sumI_cons, hG c (h c (by simp))]; rfl
theorem valid_ini {s : PSys} (hg : s.good) : Valid s (iniX s) := by
 refine ⟨hg, by unfold iniX; rw [List.length_map], fmdAll_ini hg _ fun c hc => (wkL_mem hc).1, over_iff.2 ⟨fun i hi => ?_, fun i hi hs => ?_, fun i hi => ?_⟩⟩
 ·unfold iniX
  rw [sum_ini (fun c _ => (fr_zero i).1) _ fun c hc => hc]
  have hpk := hg.pool (s.pools.getD i default) (by rw [List.getD_eq_getElem?_getD, List.getElem?_eq_getElem hi]; exact List.getElem_mem _)
  unfold PPool.bad at hpk
  omega
 ·unfold iniX
  have h0 : ∀ c, c ∈ wkL s → frE s i ⟨c, 0⟩ = 0 := fun c hc => by
   unfold frE clsAt
   rw [if_neg]
   rintro ⟨h1, h2⟩
   rw [Int.toNat_natCast, (wkL_mem hc).2] at h2; cases h2
  rw [sum_ini h0 _ fun c hc => hc]
  have := (hg.cls (s.classes.getD i default) (by rw [List.getD_eq_getElem?_getD, List.getElem?_eq_getElem hi]; exact List.getElem_mem _)).w0
  omega
 ·unfold iniX
  rw [sum_ini (fun c _ => (fr_zero i).2) _ fun c hc => hc]
  omega
def srv (s : PSys) (f : PFr) : Int := if (clsAt s f).server = true then 1 else 0
theorem call_srv {s : PSys} (hg : s.good) {q f : PFr} (hq : frOk s q = true) (h : callsB s q f = true) : srv s f = 1 := by
 unfold callsB at h
 rw [Bool.and_eq_true, decide_eq_true_eq, decide_eq_true_eq] at h
 obtain ⟨c1, c2, c3, c4⟩ := frOk_iff.1 hq
 have hf := run_fine (hg.cls _ (cls_mem hq)) (k := q.a.toNat) (by omega)
 have he : (clsAt s q).steps[q.a.toNat]'(by omega) = stepAtF s q := by
  unfold stepAtF; rw [List.getD_eq_getElem?_getD, List.getElem?_eq_getElem (by omega)]; rfl
 rw [he] at hf
 unfold refBad at hf
 rw [h.1, if_neg (by decide), if_neg (by decide), if_neg (by decide), if_neg (by decide), h.2] at hf
 unfold srv clsAt
 rw [if_pos (by simpa using hf)]
theorem chn_srv {s : PSys} (hg : s.good) : ∀ (r : List PFr) (f : PFr), chn s (f :: r) → (r.length : Int) ≤ sumI (srv s) (f :: r)
 | [], f, _ => by
  rw [sumI_cons]
  have : 0 ≤ srv s f := by unfold srv; split <;> omega
  simp only [List.length_nil]
  show ((0 : Nat) : Int) ≤ srv s f + 0
  omega
 | g :: r, f, h => by
  have ih := chn_srv hg r g h.2.2
  have hfo : frOk s g = true := chn_ok h.2.2 g (by simp)
  rw [sumI_cons, call_srv hg hfo h.2.1, List.length_cons]
  omega
theorem srv_sum {s : PSys} : ∀ {L : List PFr}, (∀ f ∈ L, frOk s f = true) → sumI (srv s) L ≤ ((List.range s.classes.length).map fun i => sumI (frE s i) L).sum
 | [], _ => by
  have : ∀ n : Nat, ((List.range n).map fun i => sumI (frE s i) []).sum = 0 := by
   intro n
   induction n with
   | zero => rfl
   | succ n ih => rw [List.range_succ, List.map_append, List.sum_append, ih]; rfl
  rw [this]; exact Int.le_refl _
 | f :: L, h => by
  have ih := srv_sum (L := L) fun q hq => h q (by simp [hq])
  obtain ⟨c1, c2, c3, c4⟩ := frOk_iff.1 (h f (by simp))
  have e : ∀ n : Nat, ((List.range n).map fun i => sumI (frE s i) (f :: L)).sum = ((List.range n).map fun i => frE s i f).sum + ((List.range n).map fun i => sumI (frE s i) L).sum := by
   intro n
   induction n with
   | zero => rfl
   | succ n ih => rw [List.range_succ]; simp only [List.map_append, List.sum_append, List.map_cons, List.map_nil, List.sum_cons, List.sum_nil]; rw [ih]; have := sumI_cons (frE s n) f L; omega
  have k : ∀ n : Nat, (if f.c.toNat < n then srv s f else 0) ≤ ((List.range n).map fun i => frE s i f).sum := by
   intro n
   induction n with
   | zero => simp
   | succ n ih =>
    rw [List.range_succ]
    simp only [List.map_append, List.sum_append, List.map_cons, List.map_nil, List.sum_cons, List.sum_nil]
    by_cases hn : f.c.toNat = n
    ·have : frE s n f = srv s f := by
      unfold frE srv
      have : f.c = (n : Int) := by omega
      rw [this]; simp
     rw [if_neg (by omega)] at ih
     rw [if_pos (by omega), this]; omega
    ·have h0 : 0 ≤ frE s n f := by unfold frE; split <;> omega
     by_cases hlt : f.c.toNat < n
     ·rw [if_pos hlt] at ih; rw [if_pos (by omega)]; omega
     ·rw [if_neg hlt] at ih; rw [if_neg (by omega)]; omega
  have := k s.classes.length
  rw [if_pos (by omega)] at this
  rw [e, sumI_cons]
  omega
theorem frE_le_frames {s : PSys} (i : Nat) : ∀ {x : PSt} {l : List PFr}, l ∈ x → sumI (frE s i) l ≤ sumI (frE s i) (frames x)
 | m :: x, l, h => by
  have h0 : ∀ L : List PFr, 0 ≤ sumI (frE s i) L := by
   intro L
   induction L with
   | nil => exact Int.le_refl _
   | cons f L ih =>
    have : 0 ≤ frE s i f := by unfold frE; split <;> omega
    rw [sumI_cons]; omega
  simp only [frames, List.flatten_cons, sumI_app]
  rcases List.mem_cons.1 h with rfl | h
  ·have := h0 x.flatten; omega
  ·have := frE_le_frames (s := s) i h
   have := h0 m
   simp only [frames] at *
   omega
theorem val_deep {s : PSys} {x : PSt} (hV : Valid s x) : Deep 25 x := by
 have hg := hV.good
 refine ⟨hV.l24, fun l hl => ?_⟩
 obtain ⟨w, hw, rfl⟩ := List.getElem_of_mem hl
 obtain ⟨c, _, hc⟩ := val_formed hV hw
 have hgd : x.getD w [] = x[w] := by rw [List.getD_eq_getElem?_getD, List.getElem?_eq_getElem hw]; rfl
 rw [hgd] at hc
 obtain ⟨h0, hb, hch⟩ := formed_iff.1 hc
 obtain ⟨r, hr⟩ := rv_top h0
 rw [hr] at hch
 have h1 := chn_srv hg r _ hch
 rw [← hr, sumI_rev] at h1
 have h2 := srv_sum (s := s) (formedB_ok hc).2
 obtain ⟨_, o2, _⟩ := over_iff.1 hV.nover
 have h3 : ∀ n : Nat, n ≤ s.classes.length → ((List.range n).map fun i => sumI (frE s i) x[w]).sum ≤ 4 * n := by
  intro n
  induction n with
  | zero => simp
  | succ n ih =>
   intro hn
   have ih := ih (by omega)
   rw [List.range_succ]
   simp only [List.map_append, List.sum_append, List.map_cons, List.map_nil, List.sum_cons, List.sum_nil]
   have : sumI (frE s n) x[w] ≤ 4 := by
    have hm := frE_le_frames (s := s) n hl
    cases hs : (s.classes.getD n default).server with
    | false => rw [frE_serv hs]; omega
    | true =>
     have := o2 n (by omega) hs
     have hw4 := (hg.cls (s.classes.getD n default) (by rw [List.getD_eq_getElem?_getD, List.getElem?_eq_getElem (by omega)]; exact List.getElem_mem _)).w4
     omega
   omega
 have h4 := h3 s.classes.length (Nat.le_refl _)
 have hnc := hg.nc
 have hlen : x[w].length = r.length + 1 := by rw [← List.length_reverse, hr]; rfl
 omega
end Go.AM

set_option maxRecDepth 8000
set_option maxHeartbeats 4000000
namespace Go.AM
open Go Go.Proofs

theorem wrap_u8 (n : Int) : IntKind.u8.wrap n = n % 256 := by simp [IntKind.wrap, IntKind.signed, IntKind.bits]
abbrev u8D (n : Nat) : D := .int .u8 n
abbrev u8sD (l : List Nat) : List D := l.map u8D
def kfr (f : PFr) : List Nat := [f.c.toNat, f.a.toNat]
def kst (l : List PFr) : List Nat := l.length :: l.flatMap kfr
def kX (x : PSt) : List Nat := x.flatMap kst
def keyX (x : PSt) : List UInt8 := bytesD (u8sD (kX x))
structure KFit (x : PSt) : Prop where
 len : x.length ≤ 24
 stk : ∀ l ∈ x, l.length ≤ 25
 fr : ∀ l ∈ x, ∀ f ∈ l, 0 ≤ f.c ∧ f.c < 100 ∧ 0 ≤ f.a ∧ f.a < 100
theorem val_kfit {s : PSys} {x : PSt} (hV : Valid s x) : KFit x := by
 have hd := val_deep hV
 refine ⟨hd.len, hd.stk, fun l hl f hf => ?_⟩
 have hfo := hV.frames f (List.mem_flatten.2 ⟨l, hl, hf⟩)
 obtain ⟨c1, c2, c3, c4⟩ := frOk_iff.1 hfo
 have h12 := (hV.good.cls _ (cls_mem hfo)).l12
 have hnc := hV.good.nc
 omega
theorem bytesOk_u8 (l : List Nat) : bytesOk (u8sD l) = true := by simp [bytesOk, List.all_eq_true]
theorem kX_snoc {x : PSt} {k : Nat} {l : List PFr} {r : PSt} (hd : x.drop k = l :: r) : kX (x.take (k + 1)) = kX (x.take k) ++ kst l := by
 rw [take_of_drop hd]; simp [kX]
theorem kX_len {x : PSt} (hx : KFit x) : ∀ k, (kX (x.take k)).length ≤ 51 * k := by
 intro k
 have key : ∀ y : PSt, (∀ l ∈ y, l.length ≤ 25) → (kX y).length ≤ 51 * y.length := by
  intro y
  induction y with
  | nil => intro _; simp [kX]
  | cons l y ih =>
   intro h
   have h1 := h l (by simp)
   have h2 := ih fun q hq => h q (by simp [hq])
   have h3 : (kst l).length = 1 + 2 * l.length := by
    unfold kst
    rw [List.length_cons]
    have : ∀ m : List PFr, (m.flatMap kfr).length = 2 * m.length := by
     intro m
     induction m with
     | nil => rfl
     | cons f m ih => rw [List.flatMap_cons, List.length_append, ih]; simp [kfr]; omega
    rw [this]; omega
   have h4 : kX (l :: y) = kst l ++ kX y := by simp [kX]
   rw [h4, List.length_append, List.length_cons]
   omega
 have := key (x.take k) fun l hl => hx.stk l (List.mem_of_mem_take hl)
 rw [List.length_take] at this
 omega
def keyR (ds : List D) (v : AV) : Prop := ∃ x : PSt, ds = [stD x] ∧ KFit x ∧ v = .dat (.str (keyX x))
theorem key_ok : OkF Try.prog 84 (dataC keyR) := by
 refine okF_data Try.func84 rfl (by decide) ?_
 rintro ds v ⟨x, rfl, hx, rfl⟩
 have hxl := hx.len
 have hxl2 : (stacksD x).length = x.length := by simp
 refine sem_of_awpK [2] (Γ := tbl []) okG_nil _ _ _ ?_
 simp only [go_sem, Int.reduceEq, Int.reduceLT, Int.reduceLE, eq_self, Int.natCast_nonneg, Int.toNat_natCast, Try.ntmps84, stD]
 refine sem_le (le_addnil 3 none rfl (Nat.zero_le _)) ?_
 refine sem_of_awp (Γ := tbl []) okG_nil _ _ _ ?_
 simp only [go_sem, Int.reduceEq, Int.reduceLT, Int.reduceLE, eq_self, Int.natCast_nonneg, Int.toNat_natCast, hxl2]
 refine sem_loop (fun k : Nat => ⟨slotsOf 40 [(1, .ptr 0 0 0), (3, .sl 1 0 (kX (x.take k)).length), (9, .dat (.sl none (stacksD x))), (10, .dat (.int .i64 x.length)), (11, .dat (.int .i64 k))], [stO x, .row none (u8sD (kX (x.take k)))], 0, []⟩)
  (fun k => k ≤ x.length) (fun k => x.length - k) 0 (Nat.zero_le _) ?_ ?_
 ·rw [List.take_zero]
  exact le_slots' (by simp only [go_sem, Int.natCast_zero, kX, List.flatMap_nil, List.length_nil])
 rintro k hk
 cases hd : x.drop k with
 | nil =>
  obtain rfl : k = x.length := end_of_drop hd hk
  have hk2 : ¬ (x.length : Int) < x.length := by omega
  rw [List.take_length]
  refine sem_le (le_freeze 1 (ag := none) rfl (Nat.zero_le _)) ?_
  refine sem_of_awp (Γ := tbl []) okG_nil _ _ _ ?_
  have hW : List.take (kX x).length (u8sD (kX x)) = u8sD (kX x) := List.take_of_length_le (by simp)
  have hLL : (kX x).length ≤ (u8sD (kX x)).length := by simp
  have hb := bytesOk_u8 (kX x)
  simp only [go_sem, Int.reduceEq, Int.reduceLT, Int.reduceLE, eq_self, Int.natCast_nonneg, Int.toNat_natCast, hk2, hW, hLL, List.drop_zero, hb]
  exact post_data (.inl rfl) [2] rfl trivial rfl
 | cons l r =>
 have hlt := lt_of_drop hd
 have hk2 : (k : Int) < x.length := by omega
 have hk0 : (0 : Int) ≤ k := Int.natCast_nonneg k
 have hn := nth_of_drop (f := stackD) hd
 have hll := hx.stk l (mem_of_drop hd)
 have hff := hx.fr l (mem_of_drop hd)
 have hfl : (frsD l).length = l.length := by simp
 have hkl := kX_len hx k
 have hsn := kX_snoc hd
 have hwr : IntKind.u8.wrap (l.length : Int) = l.length := by rw [wrap_u8]; omega
 refine sem_of_awp (Γ := tbl []) okG_nil _ _ _ ?_
 generalize kX (x.take k) = A at *
 have hAl : (u8sD A).length = A.length := by simp
 have hAt : List.take A.length (u8sD A) = u8sD A := List.take_of_length_le (by simp)
 simp only [go_sem, Int.reduceEq, Int.reduceLT, Int.reduceLE, eq_self, Int.natCast_nonneg, Int.toNat_natCast, hk2, hk0, hlt, hn, hxl2, stackD, hfl, hAl, hAt, Nat.le_refl, hwr]
 refine ⟨by omega, by omega, ?_⟩
 let P := fun j : Nat => A ++ (l.length :: (l.take j).flatMap kfr)
 have hP0 : P 0 = A ++ [l.length] := by simp [P]
 have hPl : P l.length = A ++ kst l := by simp only [P, List.take_length, kst]
 have hPn : ∀ j, (P j).length ≤ A.length + 1 + 2 * j := by
  intro j
  have : ∀ m : List PFr, (m.flatMap kfr).length = 2 * m.length := by
   intro m
   induction m with
   | nil => rfl
   | cons f m ih => rw [List.flatMap_cons, List.length_append, ih]; simp [kfr]; omega
  simp only [P, List.length_append, List.length_cons, this, List.length_take]
  omega
 have hPs : ∀ j f r2, l.drop j = f :: r2 → P (j + 1) = P j ++ kfr f := by
  intro j f r2 hd2
  simp only [P]
  rw [take_of_drop hd2]; simp
 refine sem_loop (fun j : Nat => ⟨slotsOf 40 [(1, .ptr 0 0 0), (3, .sl 1 0 (P j).length), (9, .dat (.sl none (stacksD x))), (10, .dat (.int .i64 x.length)), (11, .dat (.int .i64 k)), (21, .dat (.sl (some 2) (frsD l))), (22, .dat (.int .i64 l.length)), (23, .dat (.int .i64 j))], [stO x, .row none (u8sD (P j))], 0, []⟩)
  (fun j => j ≤ l.length) (fun j => l.length - j) 0 (Nat.zero_le _) ?_ ?_
 ·rw [hP0, show u8sD (A ++ [l.length]) = u8sD A ++ [u8D l.length] from by simp, List.length_append]
  refine le_end (own := [_, _]) (ex := [_]) (Nat.zero_le _) ?_ ?_ ?_
  ·simp only [go_sem, Int.natCast_zero]
  ·simp only [go_sem]
  ·simp only [go_sem, Obj.under, AV.unders, AV.under]
 rintro j hj
 refine sem_of_awp (Γ := tbl []) okG_nil _ _ _ ?_
 have hPj := hPn j
 cases hd2 : l.drop j with
 | nil =>
  obtain rfl : j = l.length := end_of_drop hd2 hj
  have hj2 : ¬ (l.length : Int) < l.length := by omega
  simp only [go_sem, Int.reduceEq, Int.reduceLT, Int.reduceLE, eq_self, Int.natCast_nonneg, Int.toNat_natCast, hj2]
  refine ⟨inR_i64.2 (by omega), k + 1, by omega, by omega, ?_⟩
  rw [hPl, hsn]
  exact le_slots' (by simp only [go_sem, Int.natCast_add, Int.cast_ofNat_Int])
 | cons f r2 =>
 have hlt2 := lt_of_drop hd2
 have hj2 : (j : Int) < l.length := by omega
 have hj0 : (0 : Int) ≤ j := Int.natCast_nonneg j
 have hn2 := nth_of_drop (f := frD) hd2
 obtain ⟨f1, f2, f3, f4⟩ := hff f (mem_of_drop hd2)
 have hw1 : IntKind.u8.wrap f.c = f.c := by rw [wrap_u8]; omega
 have hw2 : IntKind.u8.wrap f.a = f.a := by rw [wrap_u8]; omega
 have hPs := hPs j f r2 hd2
 have e1 : u8sD (P (j + 1)) = u8sD (P j) ++ [.int .u8 f.c, .int .u8 f.a] := by
  rw [hPs]; simp [kfr, Int.toNat_of_nonneg f1, Int.toNat_of_nonneg f3]
 have e2 : (P (j + 1)).length = (P j).length + 2 := by rw [hPs]; simp [kfr]
 have hPjl : (u8sD (P j)).length = (P j).length := by simp
 have hPjt : List.take (P j).length (u8sD (P j)) = u8sD (P j) := List.take_of_length_le (by simp)
 simp only [go_sem, Int.reduceEq, Int.reduceLT, Int.reduceLE, eq_self, Int.natCast_nonneg, Int.toNat_natCast, hj2, hj0, hlt2, hn2, frD, hfl, hw1, hw2, hPjl, hPjt, Nat.le_refl]
 refine ⟨by omega, by omega, inR_i64.2 (by omega), j + 1, by omega, by omega, ?_⟩
 rw [e1, e2]
 refine le_end (own := [_, _]) (ex := [_, _]) (Nat.zero_le _) ?_ ?_ ?_
 ·simp only [go_sem, Int.natCast_add, Int.cast_ofNat_Int]
 ·simp only [go_sem]
 ·simp only [go_sem, Obj.under, AV.unders, AV.under]
end Go.AM

set_option maxRecDepth 8000
namespace Go.AM
open Go Go.Proofs

theorem kfr_inj : ∀ {l m : List PFr} {A B : List Nat}, l.length = m.length → (∀ f ∈ l, 0 ≤ f.c ∧ 0 ≤ f.a) → (∀ f ∈ m, 0 ≤ f.c ∧ 0 ≤ f.a) → l.flatMap kfr ++ A = m.flatMap kfr ++ B → l = m ∧ A = B
 | [], [], A, B, _, _, _, h => ⟨rfl, by simpa using h⟩
 | f :: l, g :: m, A, B, hl, h1, h2, h => by
  simp only [List.flatMap_cons, kfr, List.cons_append, List.nil_append, List.cons.injEq] at h
  obtain ⟨e1, e2, e3⟩ := h
  have hf := h1 f (by simp)
  have hg := h2 g (by simp)
  obtain ⟨r1, r2⟩ := kfr_inj (by simpa using hl) (fun q hq => h1 q (by simp [hq])) (fun q hq => h2 q (by simp [hq])) e3
  refine ⟨?_, r2⟩
  obtain ⟨a, b⟩ := f
  obtain ⟨c, d⟩ := g
  simp only at e1 e2 hf hg
  have : a = c := by omega
  have : b = d := by omega
  subst_vars
  rfl
theorem kX_inj : ∀ {x y : PSt}, (∀ l ∈ x, ∀ f ∈ l, 0 ≤ f.c ∧ 0 ≤ f.a) → (∀ l ∈ y, ∀ f ∈ l, 0 ≤ f.c ∧ 0 ≤ f.a) → kX x = kX y → x = y
 | [], [], _, _, _ => rfl
 | [], m :: y, _, _, h => by simp [kX, kst] at h
 | l :: x, [], _, _, h => by simp [kX, kst] at h
 | l :: x, m :: y, h1, h2, h => by
  have e : ∀ (l : List PFr) (x : PSt), kX (l :: x) = l.length :: (l.flatMap kfr ++ kX x) := fun l x => by simp [kX, kst]
  rw [e, e, List.cons.injEq] at h
  obtain ⟨r1, r2⟩ := kfr_inj h.1 (h1 l (by simp)) (h2 m (by simp)) h.2
  rw [r1, kX_inj (fun q hq => h1 q (by simp [hq])) (fun q hq => h2 q (by simp [hq])) r2]
theorem u8_inj : ∀ {a b : List Nat}, (∀ n ∈ a, n < 256) → (∀ n ∈ b, n < 256) → bytesD (u8sD a) = bytesD (u8sD b) → a = b
 | [], [], _, _, _ => rfl
 | [], _ :: _, _, _, h => by simp [bytesD] at h
 | _ :: _, [], _, _, h => by simp [bytesD] at h
 | n :: a, m :: b, h1, h2, h => by
  simp only [bytesD, u8sD, List.map_cons, List.cons.injEq] at h
  have hn := h1 n (by simp)
  have hm := h2 m (by simp)
  have e : n = m := by
   have := congrArg UInt8.toNat h.1
   simp only [Int.toNat_natCast, UInt8.toNat_ofNat'] at this
   omega
  rw [e, u8_inj (fun q hq => h1 q (by simp [hq])) (fun q hq => h2 q (by simp [hq])) h.2]
theorem kX_lt {x : PSt} (hx : KFit x) : ∀ n ∈ kX x, n < 256 := by
 intro n hn
 unfold kX at hn
 obtain ⟨l, hl, hn⟩ := List.mem_flatMap.1 hn
 have h25 := hx.stk l hl
 unfold kst at hn
 rcases List.mem_cons.1 hn with rfl | hn
 ·omega
 ·obtain ⟨f, hf, hn⟩ := List.mem_flatMap.1 hn
  have := hx.fr l hl f hf
  unfold kfr at hn
  simp only [List.mem_cons, List.not_mem_nil, or_false] at hn
  rcases hn with rfl | rfl <;> omega
theorem keyX_inj {x y : PSt} (hx : KFit x) (hy : KFit y) (h : keyX x = keyX y) : x = y :=
 kX_inj (fun l hl f hf => by have := hx.fr l hl f hf; omega) (fun l hl f hf => by have := hy.fr l hl f hf; omega) (u8_inj (kX_lt hx) (kX_lt hy) h)
end Go.AM

set_option maxRecDepth 8000
set_option maxHeartbeats 4000000
namespace Go.AM
open Go Go.Proofs

def qfr (f : PFr) : List Nat := [f.c.toNat + 1, f.a.toNat + 1]
def qX (x : PSt) : List Nat := x.flatMap fun l => l.flatMap qfr ++ [0]
def rkeyX (x : PSt) : List UInt8 := bytesD (u8sD (qX x))
def rkeyR (ds : List D) (v : AV) : Prop := ∃ x : PSt, ds = [stD x] ∧ KFit x ∧ v = .dat (.str (rkeyX x))
end Go.AM

set_option maxRecDepth 8000
set_option maxHeartbeats 4000000
namespace Go.AM
open Go Go.Proofs

def hstep (h : Int) (b : UInt8) : Int := (h * 31 + b.toNat).tmod 1021
def hashN (l : List UInt8) : Int := l.foldl hstep 0
def hashR (ds : List D) (v : AV) : Prop := ∃ l : List UInt8, ds = [.str l] ∧ l.length ≤ 100000 ∧ v = .dat (.int .i64 (hashN l))
end Go.AM

set_option maxRecDepth 8000
namespace Go.AM
open Go Go.Proofs

end Go.AM

set_option maxRecDepth 8000
namespace Go.AM
open Go Go.Proofs

structure Gr where
 st : List PSt
 frm : List Int
 who : List Int
deriving Inhabited
def idxS (S : List PSt) (t : PSt) : Option Nat := S.findIdx? fun y => decide (y = t)
def inG (s : PSys) (at' : Nat) (x : PSt) : List Nat → Gr → List Nat → Option (Gr × List Nat)
 | [], g, nx => some (g, nx)
 | w :: ws, g, nx => match idxS g.st (takeX s x w) with
  | some i => inG s at' x ws g (nx ++ [i])
  | none => if g.st.length = 4096 then none else inG s at' x ws ⟨g.st ++ [takeX s x w], g.frm ++ [(at' : Int)], g.who ++ [(w : Int)]⟩ (nx ++ [g.st.length])
def outG (s : PSys) : Nat → Nat → Gr → List (List Nat) → List (List Nat) → Option (Gr × List (List Nat) × List (List Nat))
 | 0, _, g, ab, nx => some (g, ab, nx)
 | n + 1, k, g, ab, nx => if k < g.st.length then
   (match inG s k (g.st.getD k []) (ableL s (g.st.getD k [])) g [] with
   | none => none
   | some (g', l) => outG s n (k + 1) g' (ab ++ [ableL s (g.st.getD k [])]) (nx ++ [l]))
  else some (g, ab, nx)
def g0 (x : PSt) : Gr := ⟨[x], [-1], [-1]⟩
def reachG (s : PSys) (x : PSt) : Option (Gr × List (List Nat) × List (List Nat)) := outG s 4097 0 (g0 x) [] []
end Go.AM

set_option maxRecDepth 8000
namespace Go.AM
open Go Go.Proofs

def mpF : Nat → List PSt → List (D × D)
 | _, [] => []
 | i, x :: r => (.str (keyX x), .int .i64 i) :: mpF (i + 1) r
theorem mpF_snoc : ∀ {S : List PSt} {i : Nat} {t : PSt}, mpF i (S ++ [t]) = mpF i S ++ [(.str (keyX t), .int .i64 (i + S.length : Nat))]
 | [], i, t => by simp [mpF]
 | x :: S, i, t => by
  rw [List.cons_append, mpF, mpF_snoc, mpF]
  simp [Nat.add_assoc, Nat.add_comm 1]
theorem mpF_findI {t : PSt} (ht : KFit t) : ∀ {S : List PSt} {i : Nat} {n : Nat}, (∀ x ∈ S, KFit x) → mapFindI (.str (keyX t)) (mpF i S) n = (idxS S t).map fun j => (n + j, .int .i64 (i + j : Nat))
 | [], _, _, _ => rfl
 | x :: S, i, n, h => by
  rw [mpF, mapFindI]
  by_cases e : x = t
  ·subst e
   simp [D.keyEq, idxS, List.findIdx?_cons]
  ·have hne : keyX t ≠ keyX x := fun he => e (keyX_inj (h x (by simp)) ht he.symm)
   have ih := mpF_findI ht (S := S) (i := i + 1) (n := n + 1) fun y hy => h y (by simp [hy])
   rw [if_neg (by simpa [D.keyEq] using hne), ih]
   simp only [idxS, List.findIdx?_cons, e, decide_false, Bool.false_eq_true, if_false]
   cases List.findIdx? (fun y => decide (y = t)) S with
   | none => rfl
   | some j => simp [Nat.add_assoc, Nat.add_comm 1]
theorem mpF_find {t : PSt} (ht : KFit t) {S : List PSt} (h : ∀ x ∈ S, KFit x) : mapFind (.str (keyX t)) (mpF 0 S) = (idxS S t).map fun j => .int .i64 (j : Nat) := by
 unfold mapFind
 rw [mpF_findI ht h]
 cases idxS S t <;> simp
theorem mpF_set {t : PSt} (ht : KFit t) : ∀ {S : List PSt} {i : Nat} {v : D}, (∀ x ∈ S, KFit x) → idxS S t = none → mapSet (.str (keyX t)) v (mpF i S) = mpF i S ++ [(.str (keyX t), v)]
 | [], _, _, _, _ => rfl
 | x :: S, i, v, h, hn => by
  simp only [idxS, List.findIdx?_cons] at hn
  by_cases e : x = t
  ·simp [e] at hn
  ·have hne : keyX t ≠ keyX x := fun he => e (keyX_inj (h x (by simp)) ht he.symm)
   have hn2 : idxS S t = none := by
    unfold idxS
    simp only [e, decide_false, Bool.false_eq_true, if_false] at hn
    simpa using hn
   rw [mpF, mapSet, if_neg (by simpa [D.keyEq] using hne), mpF_set ht (fun y hy => h y (by simp [hy])) hn2]
   rfl
end Go.AM

