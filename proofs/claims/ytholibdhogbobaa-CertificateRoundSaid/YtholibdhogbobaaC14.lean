/- Own work over the model of the kit. -/
import Derived.Test.YtholibdhogbobaaC13
set_option linter.unusedSimpArgs false
set_option linter.unusedVariables false
set_option maxRecDepth 8000
set_option maxHeartbeats 1000000
namespace Go.AM
open Go Go.Proofs

def rstepR (ds : List D) (v : AV) : Prop := ∃ (s : PSys) (l : List PStep) (i : Nat) (x : PStep), ds = [sysD s, stepsD l, .int .i64 i] ∧ l[i]? = some x ∧ s.tame ∧ Tame (l.take i) ∧ i ≤ 1000 ∧ v = .dat (.int .i64 (refE s (l.take i) x))
theorem rstep_ok : OkF Try.prog 75 (dataC rstepR) := by
  refine okF_data Try.func75 rfl (by decide) ?_
  rintro ds v ⟨s, l, m, x, rfl, hx, hsz, hT, hm, rfl⟩
  generalize hv : refE s (l.take m) x = V
  have hpu : PureFns (tbl [(76, dataC balR)]) [76] := pure_of (by
    intro g C h _
    simp only [List.mem_singleton, Prod.mk.injEq] at h
    exact ⟨_, h.2⟩)
  have hok : OkG Try.prog (tbl [(76, dataC balR)]) := okG_cons balance_ok okG_nil
  refine sem_of_awp (Γ := tbl [(76, dataC balR)]) hok _ _ _ ?_
  obtain ⟨pools, locks, classes⟩ := s
  obtain ⟨kind, on, cnt, deep⟩ := x
  have hml : m < l.length := (List.getElem?_eq_some_iff.1 hx).1
  have hml2 : (m : Int) < l.length := by omega
  have hnx := nth_of_drop (f := stepD) (drop_of_get hx)
  have fin : ∀ s own (b : Int), b = V → s.getD 6 .top = .dat (.int .i64 b) → post Try.prog Try.f75 (.dat (.int .i64 V)) [] [] .ret ⟨s, own, 0, []⟩ := fun s own b e h => by
    subst e
    exact post_data (.inl rfl) [6] rfl trivial (by simp only [tmpsOf, h]; rfl)
  have err : ∀ s own (e : Int), e ≠ 0 → preE ⟨pools, locks, classes⟩ ⟨kind, on, cnt, deep⟩ = e → s.getD 6 .top = .dat (.int .i64 e) →
      post Try.prog Try.f75 (.dat (.int .i64 V)) [] [] .ret ⟨s, own, 0, []⟩ := fun s own e h1 h2 h3 =>
    fin s own e (by rw [← hv]; unfold refE; rw [h2, if_pos h1]) h3
  have good : ∀ s own (b : Bool) (e : Int), preE ⟨pools, locks, classes⟩ ⟨kind, on, cnt, deep⟩ = 0 → refBad ⟨pools, locks, classes⟩ (l.take m) ⟨kind, on, cnt, deep⟩ = b → e = (if b = true then 11 else 0) → s.getD 6 .top = .dat (.int .i64 e) →
      post Try.prog Try.f75 (.dat (.int .i64 V)) [] [] .ret ⟨s, own, 0, []⟩ := fun s own b e h1 h2 h3 h4 =>
    fin s own e (by rw [← hv]; unfold refE; rw [if_neg (by rw [h1]; decide), h2, h3]) h4
  have hbal : ∀ (o k : Int), -1000000 ≤ bal (l.take m) o k ∧ bal (l.take m) o k ≤ 1000000 := fun o k => by
    have := bal_le (l.take m) o k 0 hT
    have h2 : (l.take m).length ≤ 1000 := by simp; omega
    unfold bal; omega
  by_cases h1 : kind < 1
  · simp only [go_sem, Int.reduceEq, Int.reduceLT, Int.reduceLE, eq_self, Int.natCast_nonneg, Int.toNat_natCast, Try.ntmps75, sysD, stepD, stepsD, hnx, hml2, h1, show ¬ kind = 1 by omega, show ¬ kind = 2 by omega]
    exact err _ _ 1 (by decide) (by simp [preE, badForm, h1]) (by rfl)
  by_cases h2 : 5 < kind
  · simp only [go_sem, Int.reduceEq, Int.reduceLT, Int.reduceLE, eq_self, Int.natCast_nonneg, Int.toNat_natCast, Try.ntmps75, sysD, stepD, stepsD, hnx, hml2, h1, h2, show ¬ kind = 1 by omega, show ¬ kind = 2 by omega]
    exact err _ _ 1 (by decide) (by simp [preE, badForm, h2]) (by rfl)
  have hk : kind = 1 ∨ kind = 2 ∨ kind = 3 ∨ kind = 4 ∨ kind = 5 := by omega
  clear h1 h2
  rcases hk with rfl | rfl | rfl | rfl | rfl
  · simp only [go_sem, Int.reduceEq, Int.reduceLT, Int.reduceLE, eq_self, Int.natCast_nonneg, Int.toNat_natCast, Try.ntmps75, sysD, stepD, stepsD, hnx, hml2]
    cases deep with
    | true =>
      simp only [go_sem, Int.reduceEq, Int.reduceLT, Int.reduceLE, eq_self, Int.natCast_nonneg, Int.toNat_natCast]
      by_cases h0 : on < 0
      · simp only [go_sem, Int.reduceEq, Int.reduceLT, Int.reduceLE, eq_self, Int.natCast_nonneg, Int.toNat_natCast, h0]
        exact err _ _ 6 (by decide) (by simp [preE, badForm, mostE, h0]) (by rfl)
      obtain ⟨i, rfl⟩ : ∃ i : Nat, on = i := ⟨on.toNat, by omega⟩
      simp only [go_sem, Int.reduceEq, Int.reduceLT, Int.reduceLE, eq_self, Int.natCast_nonneg, Int.toNat_natCast, h0]
      by_cases hn : (pools.length : Int) ≤ i
      · simp only [go_sem, Int.reduceEq, Int.reduceLT, Int.reduceLE, eq_self, Int.natCast_nonneg, Int.toNat_natCast, hn]
        exact err _ _ 6 (by decide) (by simp [preE, badForm, mostE]; omega) (by rfl)
      have hi : i < pools.length := by omega
      have hi2 : (i : Int) < pools.length := by omega
      simp only [go_sem, Int.reduceEq, Int.reduceLT, Int.reduceLE, eq_self, Int.natCast_nonneg, Int.toNat_natCast, hn]
      refine sem_draw (pf := []) mixed hok pureNo [0, 1, 2, 3, 4, 5, 6, 7, 8, 9, 10, 11, 12, 13, 14, 15, 16, 17] (by kernel_rfl) ?_
      have hnp : D.nth (pools.map poolD) i = poolD (pools.getD i default) := D.nth_map hi
      have hps : (pools.getD i default).size ≤ 1000 := getD_tame hsz i
      generalize hp : pools.getD i default = p at *
      have hp2 : pools.getD (i : Int).toNat default = p := by rw [Int.toNat_natCast]; exact hp
      have hpe := preE_2 (s := ⟨pools, locks, classes⟩) (x := ⟨1, i, cnt, true⟩) (p := p) (by simp [badForm]) (by simp [mostE]; omega) hp2
      simp only [go_sem, Int.reduceEq, Int.reduceLT, Int.reduceLE, eq_self, Int.natCast_nonneg, Int.toNat_natCast, chainI]
      by_cases hc1 : cnt < 1
      · simp only [go_sem, Int.reduceEq, Int.reduceLT, Int.reduceLE, eq_self, Int.natCast_nonneg, Int.toNat_natCast, chainI, hc1]
        exact err _ _ 2 (by decide) (by rw [hpe]; simp [hc1]) (by rfl)
      simp only [go_sem, Int.reduceEq, Int.reduceLT, Int.reduceLE, eq_self, Int.natCast_nonneg, Int.toNat_natCast, chainI, hc1, hi, hi2, hnp, poolD]
      by_cases hc2 : p.size < cnt
      · simp only [go_sem, Int.reduceEq, Int.reduceLT, Int.reduceLE, eq_self, Int.natCast_nonneg, Int.toNat_natCast, chainI, hc2]
        exact err _ _ 2 (by decide) (by rw [hpe]; simp [hc2]) (by rfl)
      have hpre : preE ⟨pools, locks, classes⟩ ⟨1, i, cnt, true⟩ = 0 := by rw [hpe]; simp [hc1, hc2]
      simp only [go_sem, Int.reduceEq, Int.reduceLT, Int.reduceLE, eq_self, Int.natCast_nonneg, Int.toNat_natCast, chainI, hc2]
      refine sem_draw (pf := [76]) mixed hok hpu [0, 1, 2, 3, 4, 5, 6, 7, 8, 9, 10, 11, 12, 13, 14, 15, 16] (by kernel_rfl) ?_
      simp only [go_sem, Int.reduceEq, Int.reduceLT, Int.reduceLE, eq_self, Int.natCast_nonneg, Int.toNat_natCast, chainI]
      refine call_data balR (by simp) _ _ rfl ⟨l, m, i, 0, rfl, .inl rfl, by omega, hm, hT, rfl⟩ (.inl rfl) ?_
      simp only [go_sem, Int.reduceEq, Int.reduceLT, Int.reduceLE, eq_self, Int.natCast_nonneg, Int.toNat_natCast, chainI, hi, hi2, hnp, poolD]
      have hb := hbal i 0
      have hbad : refBad ⟨pools, locks, classes⟩ (l.take m) ⟨1, i, cnt, true⟩ = decide (p.size < bal (l.take m) i 0 + cnt) := by simp only [refBad, if_true, hp2]
      refine ⟨inR_i64.2 (by omega), ?_⟩
      by_cases hf : p.size < bal (l.take m) i 0 + cnt
      · simp only [go_sem, Int.reduceEq, Int.reduceLT, Int.reduceLE, eq_self, Int.natCast_nonneg, Int.toNat_natCast, hf]
        exact good _ _ _ 11 hpre hbad (by rw [decide_eq_true hf]; rfl) (by rfl)
      · simp only [go_sem, Int.reduceEq, Int.reduceLT, Int.reduceLE, eq_self, Int.natCast_nonneg, Int.toNat_natCast, hf]
        exact good _ _ _ 0 hpre hbad (by rw [decide_eq_false hf]; rfl) (by rfl)
    | false =>
      simp only [go_sem, Int.reduceEq, Int.reduceLT, Int.reduceLE, eq_self, Int.natCast_nonneg, Int.toNat_natCast]
      by_cases h0 : on < 0
      · simp only [go_sem, Int.reduceEq, Int.reduceLT, Int.reduceLE, eq_self, Int.natCast_nonneg, Int.toNat_natCast, h0]
        exact err _ _ 6 (by decide) (by simp [preE, badForm, mostE, h0]) (by rfl)
      obtain ⟨i, rfl⟩ : ∃ i : Nat, on = i := ⟨on.toNat, by omega⟩
      simp only [go_sem, Int.reduceEq, Int.reduceLT, Int.reduceLE, eq_self, Int.natCast_nonneg, Int.toNat_natCast, h0]
      by_cases hn : (pools.length : Int) ≤ i
      · simp only [go_sem, Int.reduceEq, Int.reduceLT, Int.reduceLE, eq_self, Int.natCast_nonneg, Int.toNat_natCast, hn]
        exact err _ _ 6 (by decide) (by simp [preE, badForm, mostE]; omega) (by rfl)
      have hi : i < pools.length := by omega
      have hi2 : (i : Int) < pools.length := by omega
      simp only [go_sem, Int.reduceEq, Int.reduceLT, Int.reduceLE, eq_self, Int.natCast_nonneg, Int.toNat_natCast, hn]
      refine sem_draw (pf := []) mixed hok pureNo [0, 1, 2, 3, 4, 5, 6, 7, 8, 9, 10, 11, 12, 13, 14, 15, 16, 17] (by kernel_rfl) ?_
      have hnp : D.nth (pools.map poolD) i = poolD (pools.getD i default) := D.nth_map hi
      have hps : (pools.getD i default).size ≤ 1000 := getD_tame hsz i
      generalize hp : pools.getD i default = p at *
      have hp2 : pools.getD (i : Int).toNat default = p := by rw [Int.toNat_natCast]; exact hp
      have hpe := preE_2 (s := ⟨pools, locks, classes⟩) (x := ⟨1, i, cnt, false⟩) (p := p) (by simp [badForm]) (by simp [mostE]; omega) hp2
      simp only [go_sem, Int.reduceEq, Int.reduceLT, Int.reduceLE, eq_self, Int.natCast_nonneg, Int.toNat_natCast, chainI]
      by_cases hc1 : cnt < 1
      · simp only [go_sem, Int.reduceEq, Int.reduceLT, Int.reduceLE, eq_self, Int.natCast_nonneg, Int.toNat_natCast, chainI, hc1]
        exact err _ _ 2 (by decide) (by rw [hpe]; simp [hc1]) (by rfl)
      simp only [go_sem, Int.reduceEq, Int.reduceLT, Int.reduceLE, eq_self, Int.natCast_nonneg, Int.toNat_natCast, chainI, hc1, hi, hi2, hnp, poolD]
      by_cases hc2 : p.size < cnt
      · simp only [go_sem, Int.reduceEq, Int.reduceLT, Int.reduceLE, eq_self, Int.natCast_nonneg, Int.toNat_natCast, chainI, hc2]
        exact err _ _ 2 (by decide) (by rw [hpe]; simp [hc2]) (by rfl)
      have hpre : preE ⟨pools, locks, classes⟩ ⟨1, i, cnt, false⟩ = 0 := by rw [hpe]; simp [hc1, hc2]
      simp only [go_sem, Int.reduceEq, Int.reduceLT, Int.reduceLE, eq_self, Int.natCast_nonneg, Int.toNat_natCast, chainI, hc2]
      refine sem_draw (pf := [76]) mixed hok hpu [0, 1, 2, 3, 4, 5, 6, 7, 8, 9, 10, 11, 12, 13, 14, 15, 16] (by kernel_rfl) ?_
      simp only [go_sem, Int.reduceEq, Int.reduceLT, Int.reduceLE, eq_self, Int.natCast_nonneg, Int.toNat_natCast, chainI]
      refine call_data balR (by simp) _ _ rfl ⟨l, m, i, 0, rfl, .inl rfl, by omega, hm, hT, rfl⟩ (.inl rfl) ?_
      simp only [go_sem, Int.reduceEq, Int.reduceLT, Int.reduceLE, eq_self, Int.natCast_nonneg, Int.toNat_natCast, chainI, hi, hi2, hnp, poolD]
      have hb := hbal i 0
      have hbad : refBad ⟨pools, locks, classes⟩ (l.take m) ⟨1, i, cnt, false⟩ = decide (p.size < bal (l.take m) i 0 + cnt) := by simp only [refBad, if_true, hp2]
      refine ⟨inR_i64.2 (by omega), ?_⟩
      by_cases hf : p.size < bal (l.take m) i 0 + cnt
      · simp only [go_sem, Int.reduceEq, Int.reduceLT, Int.reduceLE, eq_self, Int.natCast_nonneg, Int.toNat_natCast, hf]
        exact good _ _ _ 11 hpre hbad (by rw [decide_eq_true hf]; rfl) (by rfl)
      · simp only [go_sem, Int.reduceEq, Int.reduceLT, Int.reduceLE, eq_self, Int.natCast_nonneg, Int.toNat_natCast, hf]
        exact good _ _ _ 0 hpre hbad (by rw [decide_eq_false hf]; rfl) (by rfl)
  · simp only [go_sem, Int.reduceEq, Int.reduceLT, Int.reduceLE, eq_self, Int.natCast_nonneg, Int.toNat_natCast, Try.ntmps75, sysD, stepD, stepsD, hnx, hml2]
    cases deep with
    | true =>
      simp only [go_sem, Int.reduceEq, Int.reduceLT, Int.reduceLE, eq_self, Int.natCast_nonneg, Int.toNat_natCast]
      exact err _ _ 1 (by decide) (by simp [preE, badForm]) (by rfl)
    | false =>
      simp only [go_sem, Int.reduceEq, Int.reduceLT, Int.reduceLE, eq_self, Int.natCast_nonneg, Int.toNat_natCast]
      by_cases h0 : on < 0
      · simp only [go_sem, Int.reduceEq, Int.reduceLT, Int.reduceLE, eq_self, Int.natCast_nonneg, Int.toNat_natCast, h0]
        exact err _ _ 6 (by decide) (by simp [preE, badForm, mostE, h0]) (by rfl)
      obtain ⟨i, rfl⟩ : ∃ i : Nat, on = i := ⟨on.toNat, by omega⟩
      simp only [go_sem, Int.reduceEq, Int.reduceLT, Int.reduceLE, eq_self, Int.natCast_nonneg, Int.toNat_natCast, h0]
      by_cases hn : (pools.length : Int) ≤ i
      · simp only [go_sem, Int.reduceEq, Int.reduceLT, Int.reduceLE, eq_self, Int.natCast_nonneg, Int.toNat_natCast, hn]
        exact err _ _ 6 (by decide) (by simp [preE, badForm, mostE]; omega) (by rfl)
      have hi : i < pools.length := by omega
      have hi2 : (i : Int) < pools.length := by omega
      simp only [go_sem, Int.reduceEq, Int.reduceLT, Int.reduceLE, eq_self, Int.natCast_nonneg, Int.toNat_natCast, hn]
      refine sem_draw (pf := []) mixed hok pureNo [0, 1, 2, 3, 4, 5, 6, 7, 8, 9, 10, 11, 12, 13, 14, 15, 16, 17] (by kernel_rfl) ?_
      have hnp : D.nth (pools.map poolD) i = poolD (pools.getD i default) := D.nth_map hi
      have hps : (pools.getD i default).size ≤ 1000 := getD_tame hsz i
      generalize hp : pools.getD i default = p at *
      have hp2 : pools.getD (i : Int).toNat default = p := by rw [Int.toNat_natCast]; exact hp
      have hpe := preE_2 (s := ⟨pools, locks, classes⟩) (x := ⟨2, i, cnt, false⟩) (p := p) (by simp [badForm]) (by simp [mostE]; omega) hp2
      simp only [go_sem, Int.reduceEq, Int.reduceLT, Int.reduceLE, eq_self, Int.natCast_nonneg, Int.toNat_natCast, chainI]
      by_cases hc1 : cnt < 1
      · simp only [go_sem, Int.reduceEq, Int.reduceLT, Int.reduceLE, eq_self, Int.natCast_nonneg, Int.toNat_natCast, chainI, hc1]
        exact err _ _ 2 (by decide) (by rw [hpe]; simp [hc1]) (by rfl)
      simp only [go_sem, Int.reduceEq, Int.reduceLT, Int.reduceLE, eq_self, Int.natCast_nonneg, Int.toNat_natCast, chainI, hc1, hi, hi2, hnp, poolD]
      by_cases hc2 : p.size < cnt
      · simp only [go_sem, Int.reduceEq, Int.reduceLT, Int.reduceLE, eq_self, Int.natCast_nonneg, Int.toNat_natCast, chainI, hc2]
        exact err _ _ 2 (by decide) (by rw [hpe]; simp [hc2]) (by rfl)
      have hpre : preE ⟨pools, locks, classes⟩ ⟨2, i, cnt, false⟩ = 0 := by rw [hpe]; simp [hc1, hc2]
      simp only [go_sem, Int.reduceEq, Int.reduceLT, Int.reduceLE, eq_self, Int.natCast_nonneg, Int.toNat_natCast, chainI, hc2]
      refine sem_draw (pf := [76]) mixed hok hpu [0, 1, 2, 3, 4, 5, 6, 7, 8] (by kernel_rfl) ?_
      simp only [go_sem, Int.reduceEq, Int.reduceLT, Int.reduceLE, eq_self, Int.natCast_nonneg, Int.toNat_natCast, chainI]
      refine call_data balR (by simp) _ _ rfl ⟨l, m, i, 0, rfl, .inl rfl, by omega, hm, hT, rfl⟩ (.inl rfl) ?_
      simp only [go_sem, Int.reduceEq, Int.reduceLT, Int.reduceLE, eq_self, Int.natCast_nonneg, Int.toNat_natCast, chainI]
      have hbad : refBad ⟨pools, locks, classes⟩ (l.take m) ⟨2, i, cnt, false⟩ = decide (bal (l.take m) i 0 < cnt) := by simp [refBad]
      by_cases hf : bal (l.take m) i 0 < cnt
      · simp only [go_sem, Int.reduceEq, Int.reduceLT, Int.reduceLE, eq_self, Int.natCast_nonneg, Int.toNat_natCast, hf]
        exact good _ _ _ 11 hpre hbad (by rw [decide_eq_true hf]; rfl) (by rfl)
      · simp only [go_sem, Int.reduceEq, Int.reduceLT, Int.reduceLE, eq_self, Int.natCast_nonneg, Int.toNat_natCast, hf]
        exact good _ _ _ 0 hpre hbad (by rw [decide_eq_false hf]; rfl) (by rfl)
  · simp only [go_sem, Int.reduceEq, Int.reduceLT, Int.reduceLE, eq_self, Int.natCast_nonneg, Int.toNat_natCast, Try.ntmps75, sysD, stepD, stepsD, hnx, hml2]
    cases hc' : decide (cnt = 0) with
    | false =>
      have hc : ¬ cnt = 0 := of_decide_eq_false hc'
      simp only [go_sem, Int.reduceEq, Int.reduceLT, Int.reduceLE, eq_self, Int.natCast_nonneg, Int.toNat_natCast, hc']
      exact err _ _ 1 (by decide) (by simp [preE, badForm, hc]) (by rfl)
    | true =>
      have hc : cnt = 0 := of_decide_eq_true hc'
      simp only [go_sem, Int.reduceEq, Int.reduceLT, Int.reduceLE, eq_self, Int.natCast_nonneg, Int.toNat_natCast, hc']
      cases deep with
      | true =>
        simp only [go_sem, Int.reduceEq, Int.reduceLT, Int.reduceLE, eq_self, Int.natCast_nonneg, Int.toNat_natCast]
        exact err _ _ 1 (by decide) (by simp [preE, badForm, hc]) (by rfl)
      | false =>
        simp only [go_sem, Int.reduceEq, Int.reduceLT, Int.reduceLE, eq_self, Int.natCast_nonneg, Int.toNat_natCast]
        by_cases h0 : on < 0
        · simp only [go_sem, Int.reduceEq, Int.reduceLT, Int.reduceLE, eq_self, Int.natCast_nonneg, Int.toNat_natCast, h0]
          exact err _ _ 6 (by decide) (by simp [preE, badForm, mostE, hc, h0]) (by rfl)
        obtain ⟨i, rfl⟩ : ∃ i : Nat, on = i := ⟨on.toNat, by omega⟩
        simp only [go_sem, Int.reduceEq, Int.reduceLT, Int.reduceLE, eq_self, Int.natCast_nonneg, Int.toNat_natCast, h0]
        by_cases hn : (locks.length : Int) ≤ i
        · simp only [go_sem, Int.reduceEq, Int.reduceLT, Int.reduceLE, eq_self, Int.natCast_nonneg, Int.toNat_natCast, hn]
          exact err _ _ 6 (by decide) (by simp [preE, badForm, mostE, hc]; omega) (by rfl)
        have hi : i < locks.length := by omega
        have hi2 : (i : Int) < locks.length := by omega
        simp only [go_sem, Int.reduceEq, Int.reduceLT, Int.reduceLE, eq_self, Int.natCast_nonneg, Int.toNat_natCast, hn]
        refine sem_draw (pf := []) mixed hok pureNo [0, 1, 2, 3, 4, 5, 6, 7, 8, 9, 10, 11, 12, 13, 14, 15, 16, 17] (by kernel_rfl) ?_
        have hpre : preE ⟨pools, locks, classes⟩ ⟨3, i, cnt, false⟩ = 0 := by simp [preE, badForm, mostE, hc]; omega
        simp only [go_sem, Int.reduceEq, Int.reduceLT, Int.reduceLE, eq_self, Int.natCast_nonneg, Int.toNat_natCast, chainI]
        refine call_data balR (by simp) _ _ rfl ⟨l, m, i, 1, rfl, .inr rfl, by omega, hm, hT, rfl⟩ (.inl rfl) ?_
        simp only [go_sem, Int.reduceEq, Int.reduceLT, Int.reduceLE, eq_self, Int.natCast_nonneg, Int.toNat_natCast]
        have hbad : refBad ⟨pools, locks, classes⟩ (l.take m) ⟨3, i, cnt, false⟩ = decide (0 < bal (l.take m) i 1) := by simp [refBad]
        cases hf' : decide (0 < bal (l.take m) i 1) with
        | true =>
          have hf := of_decide_eq_true hf'
          simp only [go_sem, Int.reduceEq, Int.reduceLT, Int.reduceLE, eq_self, Int.natCast_nonneg, Int.toNat_natCast, hf, hf']
          exact good _ _ _ 11 hpre hbad (by rw [hf']; rfl) (by rfl)
        | false =>
          have hf := of_decide_eq_false hf'
          simp only [go_sem, Int.reduceEq, Int.reduceLT, Int.reduceLE, eq_self, Int.natCast_nonneg, Int.toNat_natCast, hf, hf']
          exact good _ _ _ 0 hpre hbad (by rw [hf']; rfl) (by rfl)
  · simp only [go_sem, Int.reduceEq, Int.reduceLT, Int.reduceLE, eq_self, Int.natCast_nonneg, Int.toNat_natCast, Try.ntmps75, sysD, stepD, stepsD, hnx, hml2]
    cases hc' : decide (cnt = 0) with
    | false =>
      have hc : ¬ cnt = 0 := of_decide_eq_false hc'
      simp only [go_sem, Int.reduceEq, Int.reduceLT, Int.reduceLE, eq_self, Int.natCast_nonneg, Int.toNat_natCast, hc']
      exact err _ _ 1 (by decide) (by simp [preE, badForm, hc]) (by rfl)
    | true =>
      have hc : cnt = 0 := of_decide_eq_true hc'
      simp only [go_sem, Int.reduceEq, Int.reduceLT, Int.reduceLE, eq_self, Int.natCast_nonneg, Int.toNat_natCast, hc']
      cases deep with
      | true =>
        simp only [go_sem, Int.reduceEq, Int.reduceLT, Int.reduceLE, eq_self, Int.natCast_nonneg, Int.toNat_natCast]
        exact err _ _ 1 (by decide) (by simp [preE, badForm, hc]) (by rfl)
      | false =>
        simp only [go_sem, Int.reduceEq, Int.reduceLT, Int.reduceLE, eq_self, Int.natCast_nonneg, Int.toNat_natCast]
        by_cases h0 : on < 0
        · simp only [go_sem, Int.reduceEq, Int.reduceLT, Int.reduceLE, eq_self, Int.natCast_nonneg, Int.toNat_natCast, h0]
          exact err _ _ 6 (by decide) (by simp [preE, badForm, mostE, hc, h0]) (by rfl)
        obtain ⟨i, rfl⟩ : ∃ i : Nat, on = i := ⟨on.toNat, by omega⟩
        simp only [go_sem, Int.reduceEq, Int.reduceLT, Int.reduceLE, eq_self, Int.natCast_nonneg, Int.toNat_natCast, h0]
        by_cases hn : (locks.length : Int) ≤ i
        · simp only [go_sem, Int.reduceEq, Int.reduceLT, Int.reduceLE, eq_self, Int.natCast_nonneg, Int.toNat_natCast, hn]
          exact err _ _ 6 (by decide) (by simp [preE, badForm, mostE, hc]; omega) (by rfl)
        have hi : i < locks.length := by omega
        have hi2 : (i : Int) < locks.length := by omega
        simp only [go_sem, Int.reduceEq, Int.reduceLT, Int.reduceLE, eq_self, Int.natCast_nonneg, Int.toNat_natCast, hn]
        refine sem_draw (pf := []) mixed hok pureNo [0, 1, 2, 3, 4, 5, 6, 7, 8, 9, 10, 11, 12, 13, 14, 15, 16, 17] (by kernel_rfl) ?_
        have hpre : preE ⟨pools, locks, classes⟩ ⟨4, i, cnt, false⟩ = 0 := by simp [preE, badForm, mostE, hc]; omega
        simp only [go_sem, Int.reduceEq, Int.reduceLT, Int.reduceLE, eq_self, Int.natCast_nonneg, Int.toNat_natCast, chainI]
        refine call_data balR (by simp) _ _ rfl ⟨l, m, i, 1, rfl, .inr rfl, by omega, hm, hT, rfl⟩ (.inl rfl) ?_
        simp only [go_sem, Int.reduceEq, Int.reduceLT, Int.reduceLE, eq_self, Int.natCast_nonneg, Int.toNat_natCast]
        have hbad : refBad ⟨pools, locks, classes⟩ (l.take m) ⟨4, i, cnt, false⟩ = decide (bal (l.take m) i 1 = 0) := by simp [refBad]
        cases hf' : decide (bal (l.take m) i 1 = 0) with
        | true =>
          have hf := of_decide_eq_true hf'
          simp only [go_sem, Int.reduceEq, Int.reduceLT, Int.reduceLE, eq_self, Int.natCast_nonneg, Int.toNat_natCast, hf, hf']
          exact good _ _ _ 11 hpre hbad (by rw [hf']; rfl) (by rfl)
        | false =>
          have hf := of_decide_eq_false hf'
          simp only [go_sem, Int.reduceEq, Int.reduceLT, Int.reduceLE, eq_self, Int.natCast_nonneg, Int.toNat_natCast, hf, hf']
          exact good _ _ _ 0 hpre hbad (by rw [hf']; rfl) (by rfl)
  · simp only [go_sem, Int.reduceEq, Int.reduceLT, Int.reduceLE, eq_self, Int.natCast_nonneg, Int.toNat_natCast, Try.ntmps75, sysD, stepD, stepsD, hnx, hml2]
    cases hc' : decide (cnt = 0) with
    | false =>
      have hc : ¬ cnt = 0 := of_decide_eq_false hc'
      simp only [go_sem, Int.reduceEq, Int.reduceLT, Int.reduceLE, eq_self, Int.natCast_nonneg, Int.toNat_natCast, hc']
      exact err _ _ 1 (by decide) (by simp [preE, badForm, hc]) (by rfl)
    | true =>
      have hc : cnt = 0 := of_decide_eq_true hc'
      simp only [go_sem, Int.reduceEq, Int.reduceLT, Int.reduceLE, eq_self, Int.natCast_nonneg, Int.toNat_natCast, hc']
      cases deep with
      | true =>
        simp only [go_sem, Int.reduceEq, Int.reduceLT, Int.reduceLE, eq_self, Int.natCast_nonneg, Int.toNat_natCast]
        exact err _ _ 1 (by decide) (by simp [preE, badForm, hc]) (by rfl)
      | false =>
        simp only [go_sem, Int.reduceEq, Int.reduceLT, Int.reduceLE, eq_self, Int.natCast_nonneg, Int.toNat_natCast]
        by_cases h0 : on < 0
        · simp only [go_sem, Int.reduceEq, Int.reduceLT, Int.reduceLE, eq_self, Int.natCast_nonneg, Int.toNat_natCast, h0]
          exact err _ _ 6 (by decide) (by simp [preE, badForm, mostE, hc, h0]) (by rfl)
        obtain ⟨i, rfl⟩ : ∃ i : Nat, on = i := ⟨on.toNat, by omega⟩
        simp only [go_sem, Int.reduceEq, Int.reduceLT, Int.reduceLE, eq_self, Int.natCast_nonneg, Int.toNat_natCast, h0]
        by_cases hn : (classes.length : Int) ≤ i
        · simp only [go_sem, Int.reduceEq, Int.reduceLT, Int.reduceLE, eq_self, Int.natCast_nonneg, Int.toNat_natCast, hn]
          exact err _ _ 6 (by decide) (by simp [preE, badForm, mostE, hc]; omega) (by rfl)
        have hi : i < classes.length := by omega
        have hi2 : (i : Int) < classes.length := by omega
        simp only [go_sem, Int.reduceEq, Int.reduceLT, Int.reduceLE, eq_self, Int.natCast_nonneg, Int.toNat_natCast, hn]
        refine sem_draw (pf := []) mixed hok pureNo [0, 1, 2, 3, 4, 5, 6, 7, 8, 9, 10, 11, 12, 13, 14, 15, 16, 17] (by kernel_rfl) ?_
        have hpre : preE ⟨pools, locks, classes⟩ ⟨5, i, cnt, false⟩ = 0 := by simp [preE, badForm, mostE, hc]; omega
        simp only [go_sem, Int.reduceEq, Int.reduceLT, Int.reduceLE, eq_self, Int.natCast_nonneg, Int.toNat_natCast, chainI]
        have hnc : D.nth (classes.map clsD) i = clsD (classes.getD i default) := D.nth_map hi
        have hbad : refBad ⟨pools, locks, classes⟩ (l.take m) ⟨5, i, cnt, false⟩ = !(classes.getD i default).server := by simp [refBad]
        generalize hp : classes.getD i default = c at *
        simp only [go_sem, Int.reduceEq, Int.reduceLT, Int.reduceLE, eq_self, Int.natCast_nonneg, Int.toNat_natCast, hi, hi2, hnc, clsD]
        cases hf : c.server with
        | true =>
          simp only [go_sem, Int.reduceEq, Int.reduceLT, Int.reduceLE, eq_self, Int.natCast_nonneg, Int.toNat_natCast, hf]
          exact good _ _ _ 0 hpre hbad (by rw [hf]; rfl) (by rfl)
        | false =>
          simp only [go_sem, Int.reduceEq, Int.reduceLT, Int.reduceLE, eq_self, Int.natCast_nonneg, Int.toNat_natCast, hf]
          exact good _ _ _ 11 hpre hbad (by rw [hf]; rfl) (by rfl)
end Go.AM

set_option maxRecDepth 8000
set_option maxHeartbeats 1000000
namespace Go.AM
open Go Go.Proofs

abbrev tabRC : List (Nat × Contract) := [(75, dataC rstepR), (76, dataC balR)]
theorem tabRC_ok : OkG Try.prog (tbl tabRC) := okG_cons rstep_ok (okG_cons balance_ok okG_nil)
theorem tame_snoc {l : List PStep} {x : PStep} (h : Tame l) (hx : -1000 ≤ x.cnt ∧ x.cnt ≤ 1000) : Tame (l ++ [x]) := fun y hy => by
  rcases List.mem_append.1 hy with h1 | h1
  · exact h y h1
  · simp at h1; subst h1; exact hx
theorem rclass_ok : OkF Try.prog 56 (dataC classR) := by
  refine okF_data Try.func56 rfl (by decide) ?_
  rintro ds v ⟨s, c, rfl, hsm, htm, rfl⟩
  generalize hv : classE s c = V
  refine sem_of_awp (Γ := tbl tabRC) tabRC_ok _ _ _ ?_
  have fin : ∀ s own (b c : Int), b = c → s.getD 4 .top = .dat (.int .i64 b) → post Try.prog Try.f56 (.dat (.int .i64 c)) [] [] .ret ⟨s, own, 0, []⟩ := fun s own b c e h => by
    subst e
    exact post_data (.inl rfl) [4] rfl trivial (by simp only [tmpsOf, h]; rfl)
  obtain ⟨name, workers, server, steps⟩ := c
  unfold classE at hv
  simp only at hv
  simp only [go_sem, Try.ntmps56, clsD]
  by_cases h1 : workers < 0
  · simp only [go_sem, h1]
    rw [if_pos (.inl h1)] at hv
    exact fin _ _ _ _ hv (by rfl)
  by_cases h2 : 4 < workers
  · simp only [go_sem, h1, h2]
    rw [if_pos (.inr h2)] at hv
    exact fin _ _ _ _ hv (by rfl)
  rw [if_neg (by omega)] at hv
  simp only [go_sem, h1, h2, stepsD]
  by_cases h3 : (steps.length : Int) < 1
  · simp only [go_sem, h3]
    rw [if_pos (.inl h3)] at hv
    exact fin _ _ _ _ hv (by rfl)
  by_cases h4 : 12 < (steps.length : Int)
  · simp only [go_sem, h3, h4]
    rw [if_pos (.inr h4)] at hv
    exact fin _ _ _ _ hv (by rfl)
  rw [if_neg (by omega)] at hv
  simp only [go_sem, h3, h4, sysD]
  have hnp := hsm.np
  have hnl := hsm.nl
  obtain ⟨pools, locks, classes⟩ := s
  simp only at hnp hnl
  refine sem_loop (fun p : Nat × Hold => ⟨slotsOf 66 [(2, .ptr 0 0 0), (3, .ptr 1 0 0), (4, .dat (.int .i64 0)), (5, .dat (.int .i64 steps.length)), (6, .dat (.int .i64 p.1))],
      [.box [.dat (.sl (some 3) (pools.map poolD)), .dat (.sl none (locks.map .str)), .dat (.sl (some 4) (classes.map clsD))], .box [.dat (.str name), .dat (.int .i64 workers), .dat (.bool server), .dat (.sl (some 4) (steps.map stepD))]], 0, []⟩)
    (fun p => p.1 ≤ steps.length ∧ Tr ⟨pools, locks, classes⟩ (steps.take p.1) p.2 ∧ Tame (steps.take p.1) ∧ verd (runE ⟨pools, locks, classes⟩ (steps.drop p.1) p.2) = V) (fun p => steps.length - p.1) (0, hold0 ⟨pools, locks, classes⟩) ⟨Nat.zero_le _, tr_nil _, fun x hx => by simp at hx, hv⟩ ?_ ?_
  · exact le_slots' (by simp only [go_sem, Int.natCast_zero])
  · rintro ⟨k, h⟩ ⟨hk, hT, hta, hI⟩
    simp only at hk hT hta hI
    refine sem_of_awp (Γ := tbl tabRC) tabRC_ok _ _ _ ?_
    cases hd : steps.drop k with
    | nil =>
      have := end_of_drop hd hk
      subst this
      have hk2 : ¬ (steps.length : Int) < steps.length := by omega
      rw [hd, verd_nil, tr_end hT] at hI
      rw [List.take_length] at hI hta
      simp only at hI
      simp only [go_sem, hk2]
      refine sem_loop (fun k : Nat => ⟨slotsOf 66 [(2, .ptr 0 0 0), (3, .ptr 1 0 0), (4, .dat (.int .i64 0)), (5, .dat (.int .i64 steps.length)), (8, .dat (.int .i64 k))],
          [.box [.dat (.sl (some 3) (pools.map poolD)), .dat (.sl none (locks.map .str)), .dat (.sl (some 4) (classes.map clsD))], .box [.dat (.str name), .dat (.int .i64 workers), .dat (.bool server), .dat (.sl (some 4) (steps.map stepD))]], 0, []⟩)
        (fun k => k ≤ pools.length ∧ ∀ i : Nat, i < k → ¬ 0 < bal steps i 0) (fun k => pools.length - k) 0 ⟨Nat.zero_le _, fun i hi => by omega⟩ ?_ ?_
      · exact le_slots' (by simp only [go_sem, Int.natCast_zero])
      · rintro k ⟨hk, hB⟩
        refine sem_of_awp (Γ := tbl tabRC) tabRC_ok _ _ _ ?_
        by_cases hk2 : (k : Int) < pools.length
        · simp only [go_sem, hk2]
          refine call_data balR (by simp) [stepsD steps, .int .i64 steps.length, .int .i64 k, .int .i64 0] _ rfl ⟨steps, steps.length, k, 0, rfl, .inl rfl, by omega, by omega, by rw [List.take_length]; exact hta, rfl⟩ (.inl rfl) ?_
          simp only [go_sem, List.take_length]
          by_cases hb : 0 < bal steps k 0
          · simp only [go_sem, hb]
            refine fin _ _ _ _ ?_ (by rfl)
            rw [← hI, if_pos (.inl ⟨k, by omega, hb⟩)]
          · simp only [go_sem, hb]
            refine ⟨inR_i64.2 (by omega), k + 1, ⟨by omega, fun i hi => ?_⟩, by omega, ?_⟩
            · by_cases e : i = k
              · subst e; exact hb
              · exact hB i (by omega)
            · exact le_slots' (by simp only [go_sem, Int.natCast_add, Int.cast_ofNat_Int])
        · simp only [go_sem, hk2]
          obtain rfl : k = pools.length := by omega
          refine sem_loop (fun k : Nat => ⟨slotsOf 66 [(2, .ptr 0 0 0), (3, .ptr 1 0 0), (4, .dat (.int .i64 0)), (5, .dat (.int .i64 steps.length)), (9, .dat (.int .i64 k))],
              [.box [.dat (.sl (some 3) (pools.map poolD)), .dat (.sl none (locks.map .str)), .dat (.sl (some 4) (classes.map clsD))], .box [.dat (.str name), .dat (.int .i64 workers), .dat (.bool server), .dat (.sl (some 4) (steps.map stepD))]], 0, []⟩)
            (fun k => k ≤ locks.length ∧ ∀ i : Nat, i < k → ¬ 0 < bal steps i 1) (fun k => locks.length - k) 0 ⟨Nat.zero_le _, fun i hi => by omega⟩ ?_ ?_
          · exact le_slots' (by simp only [go_sem, Int.natCast_zero])
          · rintro k ⟨hk, hC⟩
            refine sem_of_awp (Γ := tbl tabRC) tabRC_ok _ _ _ ?_
            by_cases hk2 : (k : Int) < locks.length
            · simp only [go_sem, hk2]
              refine call_data balR (by simp) [stepsD steps, .int .i64 steps.length, .int .i64 k, .int .i64 1] _ rfl ⟨steps, steps.length, k, 1, rfl, .inr rfl, by omega, by omega, by rw [List.take_length]; exact hta, rfl⟩ (.inl rfl) ?_
              simp only [go_sem, List.take_length]
              by_cases hb : 0 < bal steps k 1
              · simp only [go_sem, hb]
                refine fin _ _ _ _ ?_ (by rfl)
                rw [← hI, if_pos (.inr ⟨k, by omega, hb⟩)]
              · simp only [go_sem, hb]
                refine ⟨inR_i64.2 (by omega), k + 1, ⟨by omega, fun i hi => ?_⟩, by omega, ?_⟩
                · by_cases e : i = k
                  · subst e; exact hb
                  · exact hC i (by omega)
                · exact le_slots' (by simp only [go_sem, Int.natCast_add, Int.cast_ofNat_Int])
            · simp only [go_sem, hk2]
              refine fin _ _ _ _ ?_ (by rfl)
              rw [← hI, if_neg ?_]
              rintro (⟨i, h1, h2⟩ | ⟨i, h1, h2⟩)
              · exact hB i (by omega) h2
              · exact hC i (by omega) h2
    | cons x q =>
      have hlt := lt_of_drop hd
      have hk2 : (k : Int) < steps.length := by omega
      have hk0 : (0 : Int) ≤ k := Int.natCast_nonneg k
      rw [hd] at hI
      have hE := tr_E (x := x) hT
      simp only [go_sem, hk2]
      refine call_data rstepR (by simp) [sysD ⟨pools, locks, classes⟩, stepsD steps, .int .i64 k] _ rfl ⟨⟨pools, locks, classes⟩, steps, k, x, rfl, get_of_drop hd, htm, hta, by omega, rfl⟩ (.inl rfl) ?_
      rw [hE]
      simp only [go_sem]
      by_cases he : stepE ⟨pools, locks, classes⟩ h.units h.locks x = 0
      · rw [verd_go he] at hI
        simp only [go_sem, he]
        refine ⟨inR_i64.2 (by omega), (k + 1, ⟨stepU ⟨pools, locks, classes⟩ h.units x, stepL ⟨pools, locks, classes⟩ h.locks x⟩), ⟨by omega, ?_, ?_, by rw [drop_cons hd]; exact hI⟩, by omega, ?_⟩
        · rw [take_of_drop hd]; exact tr_step hT he
        · rw [take_of_drop hd]; exact tame_snoc hta (pre_tame htm (stepE_0 he))
        · exact le_slots' (by simp only [go_sem, Int.natCast_add, Int.cast_ofNat_Int])
      · rw [verd_err he] at hI
        simp only [go_sem, he]
        exact fin _ _ _ _ hI (by rfl)
end Go.AM

set_option maxRecDepth 8000
set_option maxHeartbeats 1000000
namespace Go.AM
open Go Go.Proofs

def namesE : List Str → List Str → Int
  | _, [] => 0
  | pre, x :: r => if isNm x = false then 3 else if x ∈ pre then 5 else namesE (pre ++ [x]) r
def PPool.bad (p : PPool) : Prop := p.size < 1 ∨ 8 < p.size ∨ p.res < 0 ∨ p.size < p.res
instance (p : PPool) : Decidable p.bad := by unfold PPool.bad; exact inferInstance
def poolsE : List PPool → Int
  | [] => 0
  | p :: r => if p.bad then 2 else poolsE r
def clssE (s : PSys) : List PCls → Int
  | [] => 0
  | c :: r => if classE s c ≠ 0 then classE s c else clssE s r
def thenE (a b : Int) : Int := if a ≠ 0 then a else b
def checkE (s : PSys) : Int :=
  if 6 < (s.pools.length : Int) ∨ 4 < (s.locks.length : Int) ∨ 6 < (s.classes.length : Int) then 9 else thenE (namesE [] (namesL s)) (thenE (poolsE s.pools) (clssE s s.classes))
theorem thenE_0 {b : Int} : thenE 0 b = b := by simp [thenE]
theorem thenE_n {a b : Int} (h : a ≠ 0) : thenE a b = a := by simp [thenE, h]
theorem poolsE_0 : ∀ {l : List PPool}, poolsE l = 0 → ∀ p ∈ l, ¬ p.bad
  | [], _, p, hp => by simp at hp
  | q :: r, h, p, hp => by
    simp only [poolsE] at h
    split at h
    · simp at h
    · rename_i hb
      rcases List.mem_cons.1 hp with rfl | hp
      · exact hb
      · exact poolsE_0 h p hp
theorem thenE_eq0 {a b : Int} (h : thenE a b = 0) : a = 0 ∧ b = 0 := by
  unfold thenE at h; split at h
  · contradiction
  · rename_i h2; exact ⟨Classical.byContradiction h2, h⟩
structure PSys.fit (s : PSys) : Prop where
  small : s.small
def checkR (ds : List D) (v : AV) : Prop := ∃ s : PSys, ds = [sysD s] ∧ s.fit ∧ v = .dat (.int .i64 (checkE s))

abbrev tabPC : List (Nat × Contract) := [(59, dataC namesR), (60, dataC isNmR), (61, dataC hasSR), (62, dataC classR)]
theorem tabPC_ok : OkG Try.prog (tbl tabPC) := okG_cons names_ok (okG_cons isName_ok (okG_cons hasS_ok (okG_cons checkClass_ok okG_nil)))
theorem check_ok : OkF Try.prog 36 (dataC checkR) := by
  refine okF_data Try.func36 rfl (by decide) ?_
  rintro ds v ⟨s, rfl, hf, rfl⟩
  generalize hv : checkE s = V
  refine sem_of_awp (Γ := tbl tabPC) tabPC_ok _ _ _ ?_
  have fin : ∀ s own (b c : Int), b = c → s.getD 2 .top = .dat (.int .i64 b) → post Try.prog Try.f36 (.dat (.int .i64 c)) [] [] .ret ⟨s, own, 0, []⟩ := fun s own b c e h => by
    subst e
    exact post_data (.inl rfl) [2] rfl trivial (by simp only [tmpsOf, h]; rfl)
  have hsm := hf.small
  unfold checkE at hv
  simp only [go_sem, Try.ntmps36, sysD]
  by_cases h1 : 6 < (s.pools.length : Int)
  · simp only [go_sem, h1]
    rw [if_pos (.inl h1)] at hv
    exact fin _ _ _ _ hv (by rfl)
  by_cases h2 : 4 < (s.locks.length : Int)
  · simp only [go_sem, h1, h2]
    rw [if_pos (.inr (.inl h2))] at hv
    exact fin _ _ _ _ hv (by rfl)
  by_cases h3 : 6 < (s.classes.length : Int)
  · simp only [go_sem, h1, h2, h3]
    rw [if_pos (.inr (.inr h3))] at hv
    exact fin _ _ _ _ hv (by rfl)
  rw [if_neg (by omega)] at hv
  simp only [go_sem, h1, h2, h3]
  refine call_data namesR (by simp) [sysD s] _ rfl ⟨s, rfl, hsm, rfl⟩ (.inl rfl) ?_
  have hln : (namesL s).length ≤ 30 := by
    have := hsm.np; have := hsm.nl; have := hsm.nc
    simp only [namesL, List.length_append, List.length_map]; omega
  generalize hN : namesL s = N at *
  simp only [go_sem]
  refine sem_loop (fun k : Nat => ⟨slotsOf 87 [(1, .ptr 0 0 0), (2, .dat (.int .i64 0)), (3, .dat (.sl none (N.map .str))), (29, .dat (.sl none (N.map .str))), (30, .dat (.int .i64 N.length)), (31, .dat (.int .i64 k))],
      [.box [.dat (.sl (some 3) (s.pools.map poolD)), .dat (.sl none (s.locks.map .str)), .dat (.sl (some 4) (s.classes.map clsD))]], 0, []⟩)
    (fun k => k ≤ N.length ∧ thenE (namesE (N.take k) (N.drop k)) (thenE (poolsE s.pools) (clssE s s.classes)) = V) (fun k => N.length - k) 0 ⟨Nat.zero_le _, hv⟩ ?_ ?_
  · exact le_slots' (by simp only [go_sem, Int.natCast_zero])
  · rintro k ⟨hk, hI⟩
    refine sem_of_awp (Γ := tbl tabPC) tabPC_ok _ _ _ ?_
    cases hd : N.drop k with
    | nil =>
      have := end_of_drop hd hk
      have hk2 : ¬ (k : Int) < N.length := by omega
      rw [hd, namesE, thenE_0] at hI
      simp only [go_sem, hk2]
      refine sem_loop (fun k : Nat => ⟨slotsOf 87 [(1, .ptr 0 0 0), (2, .dat (.int .i64 0)), (46, .dat (.sl (some 3) (s.pools.map poolD))), (47, .dat (.int .i64 s.pools.length)), (48, .dat (.int .i64 k))],
          [.box [.dat (.sl (some 3) (s.pools.map poolD)), .dat (.sl none (s.locks.map .str)), .dat (.sl (some 4) (s.classes.map clsD))]], 0, []⟩)
        (fun k => k ≤ s.pools.length ∧ (∀ p ∈ s.pools.take k, ¬ p.bad) ∧ thenE (poolsE (s.pools.drop k)) (clssE s s.classes) = V) (fun k => s.pools.length - k) 0 ⟨Nat.zero_le _, fun p hp => by simp at hp, hI⟩ ?_ ?_
      · exact le_slots' (by simp only [go_sem, Int.natCast_zero])
      · rintro k ⟨hk, hG, hI⟩
        refine sem_of_awp (Γ := tbl tabPC) tabPC_ok _ _ _ ?_
        cases hd : s.pools.drop k with
        | nil =>
          have := end_of_drop hd hk
          have hk2 : ¬ (k : Int) < s.pools.length := by omega
          rw [hd, poolsE, thenE_0] at hI
          rw [List.take_of_length_le (by omega)] at hG
          have htm : s.tame := fun p hp => by have := hG p hp; unfold PPool.bad at this; omega
          simp only [go_sem, hk2]
          refine sem_loop (fun k : Nat => ⟨slotsOf 87 [(1, .ptr 0 0 0), (2, .dat (.int .i64 0)), (74, .dat (.sl (some 4) (s.classes.map clsD))), (75, .dat (.int .i64 s.classes.length)), (76, .dat (.int .i64 k))],
              [.box [.dat (.sl (some 3) (s.pools.map poolD)), .dat (.sl none (s.locks.map .str)), .dat (.sl (some 4) (s.classes.map clsD))]], 0, []⟩)
            (fun k => k ≤ s.classes.length ∧ clssE s (s.classes.drop k) = V) (fun k => s.classes.length - k) 0 ⟨Nat.zero_le _, hI⟩ ?_ ?_
          · exact le_slots' (by simp only [go_sem, Int.natCast_zero])
          · rintro k ⟨hk, hI⟩
            refine sem_of_awp (Γ := tbl tabPC) tabPC_ok _ _ _ ?_
            cases hd : s.classes.drop k with
            | nil =>
              have := end_of_drop hd hk
              have hk2 : ¬ (k : Int) < s.classes.length := by omega
              rw [hd, clssE] at hI
              simp only [go_sem, hk2]
              exact fin _ _ _ _ hI (by rfl)
            | cons c q =>
              have hlt := lt_of_drop hd
              have hk2 : (k : Int) < s.classes.length := by omega
              have hk0 : (0 : Int) ≤ k := Int.natCast_nonneg k
              have hn := nth_of_drop (f := clsD) hd
              rw [hd, clssE] at hI
              simp only [go_sem, hk2, hk0, hn, hlt, clsD]
              refine call_data classR (by simp) [sysD s, clsD c] _ rfl ⟨s, c, rfl, hsm, htm, rfl⟩ (.inl rfl) ?_
              simp only [go_sem]
              by_cases he : classE s c = 0
              · rw [if_neg (by rw [he]; decide)] at hI
                simp only [go_sem, he]
                refine ⟨inR_i64.2 (by omega), k + 1, ⟨by omega, by rw [drop_cons hd]; exact hI⟩, by omega, ?_⟩
                refine le_end (own := [_]) (ex := [_]) (Nat.zero_le _) ?_ ?_ ?_
                · simp only [go_sem, Int.natCast_add, Int.cast_ofNat_Int]
                · simp only [go_sem]
                · simp only [go_sem, Obj.under, AV.unders, AV.under]
              · rw [if_pos he] at hI
                simp only [go_sem, he]
                exact fin _ _ _ _ hI (by rfl)
        | cons p q =>
          have hlt := lt_of_drop hd
          have hk2 : (k : Int) < s.pools.length := by omega
          have hk0 : (0 : Int) ≤ k := Int.natCast_nonneg k
          have hn := nth_of_drop (f := poolD) hd
          rw [hd, poolsE] at hI
          simp only [go_sem, hk2, hk0, hn, hlt, poolD]
          by_cases b1 : p.size < 1
          · simp only [go_sem, b1]
            rw [if_pos (.inl b1)] at hI
            exact fin _ _ _ _ hI (by rfl)
          by_cases b2 : 8 < p.size
          · simp only [go_sem, b1, b2]
            rw [if_pos (.inr (.inl b2))] at hI
            exact fin _ _ _ _ hI (by rfl)
          by_cases b3 : p.res < 0
          · simp only [go_sem, b1, b2, b3]
            rw [if_pos (.inr (.inr (.inl b3)))] at hI
            exact fin _ _ _ _ hI (by rfl)
          by_cases b4 : p.size < p.res
          · simp only [go_sem, b1, b2, b3, b4]
            rw [if_pos (.inr (.inr (.inr b4)))] at hI
            exact fin _ _ _ _ hI (by rfl)
          have hb : ¬ p.bad := by unfold PPool.bad; omega
          rw [if_neg hb] at hI
          simp only [go_sem, b1, b2, b3, b4]
          refine ⟨inR_i64.2 (by omega), k + 1, ⟨by omega, ?_, by rw [drop_cons hd]; exact hI⟩, by omega, ?_⟩
          · rw [take_of_drop hd]
            intro y hy
            rcases List.mem_append.1 hy with h | h
            · exact hG y h
            · simp at h; subst h; exact hb
          · refine le_end (own := [_]) (ex := [_]) (Nat.zero_le _) ?_ ?_ ?_
            · simp only [go_sem, Int.natCast_add, Int.cast_ofNat_Int]
            · simp only [go_sem]
            · simp only [go_sem, Obj.under, AV.unders, AV.under]
    | cons x q =>
      have hlt := lt_of_drop hd
      have hk2 : (k : Int) < N.length := by omega
      have hk0 : (0 : Int) ≤ k := Int.natCast_nonneg k
      have hk3 : (k : Int) ≤ N.length := by omega
      have hn := nth_of_drop (f := D.str) hd
      have hpre : (N.take k).length < 4611686018427387904 := by simp; omega
      have hmt : (N.map D.str).take k = (N.take k).map D.str := by simp [List.map_take]
      rw [hd, namesE] at hI
      simp only [go_sem, hk2, hk0, hn, hlt]
      refine call_data isNmR (by simp) [.str x] _ rfl ⟨x, rfl, rfl⟩ (.inl rfl) ?_
      cases hb : isNm x with
      | false =>
        simp only [go_sem, hb]
        rw [if_pos hb, thenE_n (by decide)] at hI
        exact fin _ _ _ _ hI (by rfl)
      | true =>
        rw [if_neg (by rw [hb]; decide)] at hI
        simp only [go_sem, hb, hk0, hk3, Int.toNat_natCast]
        refine call_data hasSR (by simp) [.sl none ((N.take k).map .str), .str x] _ (by rw [← hmt]; rfl) ⟨N.take k, x, rfl, hpre, rfl⟩ (.inl rfl) ?_
        by_cases hm : x ∈ N.take k
        · have hm' : decide (x ∈ N.take k) = true := decide_eq_true hm
          simp only [go_sem, hm']
          rw [if_pos hm, thenE_n (by decide)] at hI
          exact fin _ _ _ _ hI (by rfl)
        · have hm' : decide (x ∈ N.take k) = false := decide_eq_false hm
          simp only [go_sem, hm']
          rw [if_neg hm, ← take_of_drop hd, ← drop_cons hd] at hI
          refine ⟨inR_i64.2 (by omega), k + 1, ⟨by omega, hI⟩, by omega, ?_⟩
          exact le_slots' (by simp only [go_sem, Int.natCast_add, Int.cast_ofNat_Int])
end Go.AM

set_option maxRecDepth 8000
set_option maxHeartbeats 1000000
namespace Go.AM
open Go Go.Proofs

abbrev sysO (s : PSys) : Obj := .box [.dat (.sl (some 3) (s.pools.map poolD)), .dat (.sl none (s.locks.map .str)), .dat (.sl (some 4) (s.classes.map clsD))]
abbrev tabRK : List (Nat × Contract) := [(53, dataC namesR), (54, dataC isNmR), (55, dataC beforeR), (56, dataC classR)]
theorem tabRK_ok : OkG Try.prog (tbl tabRK) := okG_cons rnames_ok (okG_cons rIsName_ok (okG_cons before_ok (okG_cons rclass_ok okG_nil)))
theorem rcheck_ok : OkF Try.prog 32 (dataC checkR) := by
  refine okF_data Try.func32 rfl (by decide) ?_
  rintro ds v ⟨s, rfl, hf, rfl⟩
  generalize hv : checkE s = V
  have hpu : PureFns (tbl tabRK) [56] := pure_of (by
    intro g C h hg
    simp only [List.mem_singleton] at hg
    subst hg
    simp only [tabRK, List.mem_cons, Prod.mk.injEq, List.mem_nil_iff, or_false] at h
    rcases h with ⟨h, _⟩ | ⟨h, _⟩ | ⟨h, _⟩ | ⟨_, h⟩
    · simp at h
    · simp at h
    · simp at h
    · exact ⟨_, h⟩)
  refine sem_of_awp (Γ := tbl tabRK) tabRK_ok _ _ _ ?_
  have fin : ∀ s own (b c : Int), b = c → s.getD 2 .top = .dat (.int .i64 b) → post Try.prog Try.f32 (.dat (.int .i64 c)) [] [] .ret ⟨s, own, 0, []⟩ := fun s own b c e h => by
    subst e
    exact post_data (.inl rfl) [2] rfl trivial (by simp only [tmpsOf, h]; rfl)
  have hsm := hf.small
  unfold checkE at hv
  simp only [go_sem, Try.ntmps32, sysD]
  by_cases h1 : 6 < (s.pools.length : Int)
  · simp only [go_sem, h1]
    rw [if_pos (.inl h1)] at hv
    exact fin _ _ _ _ hv (by rfl)
  by_cases h2 : 4 < (s.locks.length : Int)
  · simp only [go_sem, h1, h2]
    rw [if_pos (.inr (.inl h2))] at hv
    exact fin _ _ _ _ hv (by rfl)
  by_cases h3 : 6 < (s.classes.length : Int)
  · simp only [go_sem, h1, h2, h3]
    rw [if_pos (.inr (.inr h3))] at hv
    exact fin _ _ _ _ hv (by rfl)
  rw [if_neg (by omega)] at hv
  simp only [go_sem, h1, h2, h3]
  refine call_data namesR (by simp) [sysD s] _ rfl ⟨s, rfl, hsm, rfl⟩ (.inl rfl) ?_
  have hln : (namesL s).length ≤ 30 := by
    have := hsm.np; have := hsm.nl; have := hsm.nc
    simp only [namesL, List.length_append, List.length_map]; omega
  generalize hN : namesL s = N at *
  simp only [go_sem]
  refine sem_loop (fun k : Nat => ⟨slotsOf 91 [(1, .ptr 0 0 0), (2, .dat (.int .i64 0)), (3, .dat (.sl none (N.map .str))), (4, .dat (.int .i64 k))], [sysO s], 0, []⟩)
    (fun k => k ≤ N.length ∧ thenE (namesE (N.take k) (N.drop k)) (thenE (poolsE s.pools) (clssE s s.classes)) = V) (fun k => N.length - k) 0 ⟨Nat.zero_le _, hv⟩ ?_ ?_
  · exact le_slots' (by simp only [go_sem, Int.natCast_zero])
  · rintro k ⟨hk, hI⟩
    refine sem_of_awp (Γ := tbl tabRK) tabRK_ok _ _ _ ?_
    cases hd : N.drop k with
    | nil =>
      have := end_of_drop hd hk
      have hk2 : ¬ (k : Int) < N.length := by omega
      rw [hd, namesE, thenE_0] at hI
      simp only [go_sem, hk2]
      refine sem_loop (fun k : Nat => ⟨slotsOf 91 [(1, .ptr 0 0 0), (2, .dat (.int .i64 0)), (5, .dat (.int .i64 k))], [sysO s], 0, []⟩)
        (fun k => k ≤ s.pools.length ∧ (∀ p ∈ s.pools.take k, ¬ p.bad) ∧ thenE (poolsE (s.pools.drop k)) (clssE s s.classes) = V) (fun k => s.pools.length - k) 0 ⟨Nat.zero_le _, fun p hp => by simp at hp, hI⟩ ?_ ?_
      · exact le_slots' (by simp only [go_sem, Int.natCast_zero])
      · rintro k ⟨hk, hG, hI⟩
        refine sem_of_awp (Γ := tbl tabRK) tabRK_ok _ _ _ ?_
        cases hd : s.pools.drop k with
        | nil =>
          have := end_of_drop hd hk
          have hk2 : ¬ (k : Int) < s.pools.length := by omega
          rw [hd, poolsE, thenE_0] at hI
          rw [List.take_of_length_le (by omega)] at hG
          have htm : s.tame := fun p hp => by have := hG p hp; unfold PPool.bad at this; omega
          simp only [go_sem, hk2]
          refine sem_loop (fun k : Nat => ⟨slotsOf 91 [(1, .ptr 0 0 0), (2, .dat (.int .i64 0)), (7, .dat (.int .i64 k))], [sysO s], 0, []⟩)
            (fun k => k ≤ s.classes.length ∧ clssE s (s.classes.drop k) = V) (fun k => s.classes.length - k) 0 ⟨Nat.zero_le _, hI⟩ ?_ ?_
          · exact le_slots' (by simp only [go_sem, Int.natCast_zero])
          · rintro k ⟨hk, hI⟩
            refine sem_of_awp (Γ := tbl tabRK) tabRK_ok _ _ _ ?_
            cases hd : s.classes.drop k with
            | nil =>
              have := end_of_drop hd hk
              have hk2 : ¬ (k : Int) < s.classes.length := by omega
              rw [hd, clssE] at hI
              simp only [go_sem, hk2]
              exact fin _ _ _ _ hI (by rfl)
            | cons c q =>
              have hlt := lt_of_drop hd
              have hk2 : (k : Int) < s.classes.length := by omega
              have hk0 : (0 : Int) ≤ k := Int.natCast_nonneg k
              have hn := nth_of_drop (f := clsD) hd
              rw [hd, clssE] at hI
              simp only [go_sem, hk2]
              refine sem_draw (pf := [56]) mixed tabRK_ok hpu [0, 1, 2, 3, 4, 5, 6, 7] (by kernel_rfl) ?_
              simp only [go_sem, chainI, hk2, hk0, hn, hlt, clsD]
              refine call_data classR (by simp) [sysD s, clsD c] _ rfl ⟨s, c, rfl, hsm, htm, rfl⟩ (.inl rfl) ?_
              simp only [go_sem, chainI]
              by_cases he : classE s c = 0
              · rw [if_neg (by rw [he]; decide)] at hI
                simp only [go_sem, he]
                refine ⟨inR_i64.2 (by omega), k + 1, ⟨by omega, by rw [drop_cons hd]; exact hI⟩, by omega, ?_⟩
                exact le_slots' (by simp only [go_sem, Int.natCast_add, Int.cast_ofNat_Int])
              · rw [if_pos he] at hI
                simp only [go_sem, he]
                exact fin _ _ _ _ hI (by rfl)
        | cons p q =>
          have hlt := lt_of_drop hd
          have hk2 : (k : Int) < s.pools.length := by omega
          have hk0 : (0 : Int) ≤ k := Int.natCast_nonneg k
          have hn := nth_of_drop (f := poolD) hd
          rw [hd, poolsE] at hI
          simp only [go_sem, hk2, hk0, hn, hlt, poolD]
          by_cases b1 : p.size < 1
          · simp only [go_sem, b1]
            rw [if_pos (.inl b1)] at hI
            exact fin _ _ _ _ hI (by rfl)
          by_cases b2 : 8 < p.size
          · simp only [go_sem, b1, b2]
            rw [if_pos (.inr (.inl b2))] at hI
            exact fin _ _ _ _ hI (by rfl)
          by_cases b3 : p.res < 0
          · simp only [go_sem, b1, b2, b3]
            rw [if_pos (.inr (.inr (.inl b3)))] at hI
            exact fin _ _ _ _ hI (by rfl)
          by_cases b4 : p.size < p.res
          · simp only [go_sem, b1, b2, b3, b4]
            rw [if_pos (.inr (.inr (.inr b4)))] at hI
            exact fin _ _ _ _ hI (by rfl)
          have hb : ¬ p.bad := by unfold PPool.bad; omega
          rw [if_neg hb] at hI
          simp only [go_sem, b1, b2, b3, b4]
          refine ⟨inR_i64.2 (by omega), k + 1, ⟨by omega, ?_, by rw [drop_cons hd]; exact hI⟩, by omega, ?_⟩
          · rw [take_of_drop hd]
            intro y hy
            rcases List.mem_append.1 hy with h | h
            · exact hG y h
            · simp at h; subst h; exact hb
          · refine le_end (own := [_]) (ex := [_]) (Nat.zero_le _) ?_ ?_ ?_
            · simp only [go_sem, Int.natCast_add, Int.cast_ofNat_Int]
            · simp only [go_sem]
            · simp only [go_sem, Obj.under, AV.unders, AV.under]
    | cons x q =>
      have hlt := lt_of_drop hd
      have hk2 : (k : Int) < N.length := by omega
      have hk0 : (0 : Int) ≤ k := Int.natCast_nonneg k
      have hk3 : (k : Int) ≤ N.length := by omega
      have hn := nth_of_drop (f := D.str) hd
      rw [hd, namesE] at hI
      simp only [go_sem, hk2, hk0, hn, hlt]
      refine call_data isNmR (by simp) [.str x] _ rfl ⟨x, rfl, rfl⟩ (.inl rfl) ?_
      cases hb : isNm x with
      | false =>
        simp only [go_sem, hb]
        rw [if_pos hb, thenE_n (by decide)] at hI
        exact fin _ _ _ _ hI (by rfl)
      | true =>
        rw [if_neg (by rw [hb]; decide)] at hI
        simp only [go_sem, hb, hk0, hk3, Int.toNat_natCast]
        refine call_data beforeR (by simp) [.sl none (N.map .str), .int .i64 k] _ rfl ⟨N, k, x, rfl, get_of_drop hd, by omega, rfl⟩ (.inl rfl) ?_
        by_cases hm : x ∈ N.take k
        · have hm' : decide (x ∈ N.take k) = true := decide_eq_true hm
          simp only [go_sem, hm']
          rw [if_pos hm, thenE_n (by decide)] at hI
          exact fin _ _ _ _ hI (by rfl)
        · have hm' : decide (x ∈ N.take k) = false := decide_eq_false hm
          simp only [go_sem, hm']
          rw [if_neg hm, ← take_of_drop hd, ← drop_cons hd] at hI
          refine ⟨inR_i64.2 (by omega), k + 1, ⟨by omega, hI⟩, by omega, ?_⟩
          exact le_slots' (by simp only [go_sem, Int.natCast_add, Int.cast_ofNat_Int])

def fewB (s : PSys) : Bool := !decide (10 < (s.pools.length : Int)) && !decide (10 < (s.locks.length : Int)) && !decide (10 < (s.classes.length : Int)) && s.classes.all fun c => !decide (20 < (c.steps.length : Int))
def fewR (ds : List D) (v : AV) : Prop := ∃ s : PSys, ds = [sysD s] ∧ v = .dat (.bool (fewB s))
theorem few_ok : OkF Try.prog 11 (dataC fewR) := by
  refine okF_data Try.func11 rfl (by decide) ?_
  rintro ds v ⟨s, rfl, rfl⟩
  generalize hv : fewB s = V
  refine sem_of_awp (Γ := tbl []) okG_nil _ _ _ ?_
  have fin : ∀ s own (b c : Bool), b = c → s.getD 2 .top = .dat (.bool b) → post Try.prog Try.f11 (.dat (.bool c)) [] [] .ret ⟨s, own, 0, []⟩ := fun s own b c e h => by
    subst e
    exact post_data (.inl rfl) [2] rfl trivial (by simp only [tmpsOf, h]; rfl)
  unfold fewB at hv
  simp only [go_sem, Try.ntmps11, sysD]
  by_cases h1 : 10 < (s.pools.length : Int)
  · simp only [go_sem, h1]
    refine fin _ _ _ _ ?_ (by rfl)
    rw [← hv, decide_eq_true h1]; rfl
  by_cases h2 : 10 < (s.locks.length : Int)
  · simp only [go_sem, h1, h2]
    refine fin _ _ _ _ ?_ (by rfl)
    rw [← hv, decide_eq_false h1, decide_eq_true h2]; rfl
  by_cases h3 : 10 < (s.classes.length : Int)
  · simp only [go_sem, h1, h2, h3]
    refine fin _ _ _ _ ?_ (by rfl)
    rw [← hv, decide_eq_false h1, decide_eq_false h2, decide_eq_true h3]; rfl
  rw [decide_eq_false h1, decide_eq_false h2, decide_eq_false h3] at hv
  simp only [Bool.not_false, Bool.true_and] at hv
  simp only [go_sem, h1, h2, h3]
  refine sem_loop (fun k : Nat => ⟨slotsOf 35 [(1, .ptr 0 0 0), (2, .dat (.bool false)), (3, .dat (.int .i64 k))], [sysO s], 0, []⟩)
    (fun k => k ≤ s.classes.length ∧ ((s.classes.drop k).all fun c => !decide (20 < (c.steps.length : Int))) = V) (fun k => s.classes.length - k) 0 ⟨Nat.zero_le _, hv⟩ ?_ ?_
  · exact le_slots' (by simp only [go_sem, Int.natCast_zero])
  · rintro k ⟨hk, hI⟩
    refine sem_of_awp (Γ := tbl []) okG_nil _ _ _ ?_
    cases hd : s.classes.drop k with
    | nil =>
      have := end_of_drop hd hk
      have hk2 : ¬ (k : Int) < s.classes.length := by omega
      rw [hd] at hI
      simp only [go_sem, hk2]
      exact fin _ _ _ _ hI (by rfl)
    | cons c q =>
      have hlt := lt_of_drop hd
      have hk2 : (k : Int) < s.classes.length := by omega
      have hk0 : (0 : Int) ≤ k := Int.natCast_nonneg k
      have hn := nth_of_drop (f := clsD) hd
      rw [hd, List.all_cons] at hI
      simp only [go_sem, hk2, hk0, hn, hlt, clsD, stepsD]
      by_cases he : 20 < (c.steps.length : Int)
      · rw [decide_eq_true he] at hI
        simp only [go_sem, he]
        exact fin _ _ _ _ hI (by rfl)
      · rw [decide_eq_false he, Bool.not_false, Bool.true_and] at hI
        simp only [go_sem, he]
        refine ⟨inR_i64.2 (by omega), k + 1, ⟨by omega, by rw [drop_cons hd]; exact hI⟩, by omega, ?_⟩
        exact le_slots' (by simp only [go_sem, Int.natCast_add, Int.cast_ofNat_Int])
end Go.AM

set_option maxRecDepth 8000
set_option maxHeartbeats 1000000
namespace Go.AM
open Go Go.Proofs

def ustep (pool : Int) (p : Int × Int) (x : PStep) : Int × Int :=
  if x.on = pool then (if x.kind = 1 then (p.1 + x.cnt, if x.deep = true then p.2 + x.cnt else p.2) else if x.kind = 2 then (p.1 - x.cnt, p.2 - min p.2 x.cnt) else p) else p
def ownU (pool : Int) (l : List PStep) : Int × Int := l.foldl (ustep pool) (0, 0)
def selU (d : Bool) (p : Int × Int) : Int := if d = true then p.2 else p.1
def mxN (pool : Int) (d : Bool) (l : List PStep) : Nat → Int
  | 0 => 0
  | k + 1 => max (mxN pool d l k) (selU d (ownU pool (l.take (k + 1))))
theorem ownU_snoc (pool : Int) (l : List PStep) (x : PStep) : ownU pool (l ++ [x]) = ustep pool (ownU pool l) x := by simp [ownU]
theorem ownU_le_mxN (pool : Int) (d : Bool) (l : List PStep) : ∀ k, selU d (ownU pool (l.take k)) ≤ mxN pool d l k
  | 0 => by cases d <;> simp [selU, ownU, mxN]
  | k + 1 => by simp only [mxN]; exact Int.le_max_right _ _
theorem ustep_le {pool : Int} {p : Int × Int} {x : PStep} {b : Int} (hx : -1000 ≤ x.cnt ∧ x.cnt ≤ 1000) (h1 : -b ≤ p.1 ∧ p.1 ≤ b) (h2 : -b ≤ p.2 ∧ p.2 ≤ b) (hb : 0 ≤ b) :
    (-(b + 1000) ≤ (ustep pool p x).1 ∧ (ustep pool p x).1 ≤ b + 1000) ∧ (-(b + 1000) ≤ (ustep pool p x).2 ∧ (ustep pool p x).2 ≤ b + 1000) := by
  unfold ustep
  (repeat' split) <;> first | omega | (simp only; omega)
theorem ownU_le (pool : Int) {l : List PStep} (h : Tame l) : ∀ k : Nat, k ≤ l.length → (-(1000 * (k : Int)) ≤ (ownU pool (l.take k)).1 ∧ (ownU pool (l.take k)).1 ≤ 1000 * k) ∧ (-(1000 * (k : Int)) ≤ (ownU pool (l.take k)).2 ∧ (ownU pool (l.take k)).2 ≤ 1000 * k)
  | 0, _ => by simp [ownU]
  | k + 1, hk => by
    obtain ⟨h1, h2⟩ := ownU_le pool h k (by omega)
    have hx := h l[k] (List.getElem_mem _)
    rw [List.take_succ_eq_append_getElem (by omega), ownU_snoc]
    have := ustep_le (pool := pool) hx h1 h2 (by omega)
    omega
theorem mxN_le (pool : Int) (d : Bool) {l : List PStep} (h : Tame l) : ∀ k : Nat, k ≤ l.length → 0 ≤ mxN pool d l k ∧ mxN pool d l k ≤ 1000 * k
  | 0, _ => by simp [mxN]
  | k + 1, hk => by
    have h0 := mxN_le pool d h k (by omega)
    have h1 := ownU_le pool h (k + 1) hk
    simp only [mxN]
    have h2 : selU d (ownU pool (l.take (k + 1))) ≤ 1000 * ((k + 1 : Nat) : Int) := by
      unfold selU; split
      · exact h1.2.2
      · exact h1.1.2
    omega

abbrev clsO (c : PCls) : Obj := .box [.dat (.str c.name), .dat (.int .i64 c.workers), .dat (.bool c.server), .dat (.sl (some 4) (c.steps.map stepD))]
def peakR (ds : List D) (v : AV) : Prop := ∃ (c : PCls) (pool : Int), ds = [clsD c, .int .i64 pool] ∧ Tame c.steps ∧ c.steps.length ≤ 1000 ∧
  v = .tup [.dat (.int .i64 (mxN pool false c.steps c.steps.length)), .dat (.int .i64 (mxN pool true c.steps c.steps.length))]
theorem peak_ok : OkF Try.prog 74 (dataC peakR) := by
  refine okF_data Try.func74 rfl (by decide) ?_
  rintro ds v ⟨c, pool, rfl, hT, hlen, rfl⟩
  refine sem_of_awp (Γ := tbl []) okG_nil _ _ _ ?_
  obtain ⟨name, workers, server, l⟩ := c
  simp only at hT hlen
  simp only [go_sem, Try.ntmps74, clsD, stepsD]
  refine sem_loop (fun k : Nat => ⟨slotsOf 58 [(1, .dat (.int .i64 pool)), (2, .ptr 0 0 0), (4, .dat (.int .i64 0)), (5, .dat (.int .i64 0)), (6, .dat (.int .i64 (ownU pool (l.take k)).1)), (7, .dat (.int .i64 (ownU pool (l.take k)).2)), (8, .dat (.int .i64 (mxN pool false l k))), (9, .dat (.int .i64 (mxN pool true l k))),
      (13, .dat (.sl (some 4) (l.map stepD))), (14, .dat (.int .i64 l.length)), (15, .dat (.int .i64 k))], [clsO ⟨name, workers, server, l⟩], 0, []⟩)
    (fun k => k ≤ l.length) (fun k => l.length - k) 0 (Nat.zero_le _) ?_ ?_
  · exact le_slots' (by simp only [go_sem, Int.natCast_zero, ownU, List.foldl_nil, mxN])
  · rintro k hk
    refine sem_of_awp (Γ := tbl []) okG_nil _ _ _ ?_
    cases hd : l.drop k with
    | nil =>
      have := end_of_drop hd hk
      obtain rfl : k = l.length := by omega
      have hk2 : ¬ (l.length : Int) < l.length := by omega
      simp only [go_sem, hk2]
      exact post_data (.inl rfl) [4, 5] rfl (by simp [AV.under, AV.unders]) (by rfl)
    | cons x q =>
      have hlt := lt_of_drop hd
      have hk2 : (k : Int) < l.length := by omega
      have hk0 : (0 : Int) ≤ k := Int.natCast_nonneg k
      have hn := nth_of_drop (f := stepD) hd
      have hx := hT x (mem_of_drop hd)
      have hgo : inR .i64 ((k : Int) + 1) := inR_i64.2 (by omega)
      have ho := ownU_le pool hT k hk
      have hm1 := mxN_le pool false hT k hk
      have hm2 := mxN_le pool true hT k hk
      have hl1 := ownU_le_mxN pool false l k
      have hl2 := ownU_le_mxN pool true l k
      have hs : ownU pool (l.take (k + 1)) = ustep pool (ownU pool (l.take k)) x := by rw [take_of_drop hd, ownU_snoc]
      have e1 : mxN pool false l (k + 1) = max (mxN pool false l k) (ustep pool (ownU pool (l.take k)) x).1 := by simp only [mxN, hs, selU]; rfl
      have e2 : mxN pool true l (k + 1) = max (mxN pool true l k) (ustep pool (ownU pool (l.take k)) x).2 := by simp only [mxN, hs, selU]; rfl
      simp only [selU, Bool.false_eq_true, if_false, if_true] at hl1 hl2
      generalize ownU pool (l.take k) = p at *
      obtain ⟨a, b⟩ := p
      generalize mxN pool false l k = M at *
      generalize mxN pool true l k = N at *
      simp only at ho hl1 hl2
      by_cases c0 : x.on = pool
      · have c0' : decide (x.on = pool) = true := decide_eq_true c0
        have c1 : decide (x.on ≠ pool) = false := decide_eq_false (fun h => h c0)
        by_cases k1 : x.kind = 1
        · cases hdp : x.deep with
          | true =>
            have hu : ustep pool (a, b) x = (a + x.cnt, b + x.cnt) := by simp [ustep, c0, k1, hdp]
            simp only [hu] at e1 e2 hs
            simp only [go_sem, Int.reduceEq, eq_self, hk2, hk0, hn, hlt, stepD, c0, c0', k1, hdp]
            refine ⟨inR_i64.2 (by omega), inR_i64.2 (by omega), hgo, k + 1, by omega, by omega, ?_⟩
            refine le_end (own := [_]) (ex := [_]) (Nat.zero_le _) ?_ ?_ ?_
            · simp only [go_sem, Int.natCast_add, Int.cast_ofNat_Int, hs, e1, e2]
            · simp only [go_sem]
            · simp only [go_sem, Obj.under, AV.unders, AV.under]
          | false =>
            have hu : ustep pool (a, b) x = (a + x.cnt, b) := by simp [ustep, c0, k1, hdp]
            simp only [hu] at e1 e2 hs
            simp only [go_sem, Int.reduceEq, eq_self, hk2, hk0, hn, hlt, stepD, c0, c0', k1, hdp]
            refine ⟨inR_i64.2 (by omega), hgo, k + 1, by omega, by omega, ?_⟩
            refine le_end (own := [_]) (ex := [_]) (Nat.zero_le _) ?_ ?_ ?_
            · simp only [go_sem, Int.natCast_add, Int.cast_ofNat_Int, hs, e1, e2]
            · simp only [go_sem]
            · simp only [go_sem, Obj.under, AV.unders, AV.under]
        by_cases k2 : x.kind = 2
        · have hu : ustep pool (a, b) x = (a - x.cnt, b - min b x.cnt) := by simp [ustep, c0, k2]
          simp only [hu] at e1 e2 hs
          simp only [go_sem, Int.reduceEq, eq_self, hk2, hk0, hn, hlt, stepD, c0, c0', k1, k2]
          refine ⟨inR_i64.2 (by omega), inR_i64.2 (by omega), hgo, k + 1, by omega, by omega, ?_⟩
          refine le_end (own := [_]) (ex := [_]) (Nat.zero_le _) ?_ ?_ ?_
          · simp only [go_sem, Int.natCast_add, Int.cast_ofNat_Int, hs, e1, e2]
          · simp only [go_sem]
          · simp only [go_sem, Obj.under, AV.unders, AV.under]
        · have hu : ustep pool (a, b) x = (a, b) := by simp [ustep, c0, k1, k2]
          simp only [hu] at e1 e2 hs
          simp only [go_sem, Int.reduceEq, eq_self, hk2, hk0, hn, hlt, stepD, c0, c0', k1, k2]
          refine ⟨hgo, k + 1, by omega, by omega, ?_⟩
          refine le_end (own := [_]) (ex := [_]) (Nat.zero_le _) ?_ ?_ ?_
          · simp only [go_sem, Int.natCast_add, Int.cast_ofNat_Int, hs, e1, e2]
          · simp only [go_sem]
          · simp only [go_sem, Obj.under, AV.unders, AV.under]
      · have c0' : decide (x.on = pool) = false := decide_eq_false c0
        have hu : ustep pool (a, b) x = (a, b) := by simp [ustep, c0]
        simp only [hu] at e1 e2 hs
        rw [Int.max_eq_left hl1] at e1
        rw [Int.max_eq_left hl2] at e2
        simp only [go_sem, Int.reduceEq, eq_self, hk2, hk0, hn, hlt, stepD, c0, c0']
        refine ⟨hgo, k + 1, by omega, by omega, ?_⟩
        refine le_end (own := [_]) (ex := [_]) (Nat.zero_le _) ?_ ?_ ?_
        · simp only [go_sem, Int.natCast_add, Int.cast_ofNat_Int, hs, e1, e2]
        · simp only [go_sem]
        · simp only [go_sem, Obj.under, AV.unders, AV.under]

def unitsR (ds : List D) (v : AV) : Prop := ∃ (c : PCls) (pool : Int) (k : Nat) (d : Bool), ds = [clsD c, .int .i64 pool, .int .i64 k, .bool d] ∧ Tame c.steps ∧ c.steps.length ≤ 1000 ∧ k ≤ c.steps.length ∧
  v = .dat (.int .i64 (selU d (ownU pool (c.steps.take k))))
theorem units_ok : OkF Try.prog 69 (dataC unitsR) := by
  refine okF_data Try.func69 rfl (by decide) ?_
  rintro ds v ⟨c, pool, m, d, rfl, hT, hlen, hm, rfl⟩
  refine sem_of_awp (Γ := tbl []) okG_nil _ _ _ ?_
  obtain ⟨name, workers, server, l⟩ := c
  simp only at hT hlen hm
  simp only [go_sem, Try.ntmps69, clsD, stepsD]
  refine sem_loop (fun k : Nat => ⟨slotsOf 55 [(1, .dat (.int .i64 pool)), (2, .dat (.int .i64 m)), (3, .dat (.bool d)), (4, .ptr 0 0 0), (8, .dat (.int .i64 0)), (9, .dat (.int .i64 (ownU pool (l.take k)).1)), (10, .dat (.int .i64 (ownU pool (l.take k)).2)), (11, .dat (.int .i64 k))], [clsO ⟨name, workers, server, l⟩], 0, []⟩)
    (fun k => k ≤ m) (fun k => m - k) 0 (Nat.zero_le _) ?_ ?_
  · exact le_slots' (by simp only [go_sem, Int.natCast_zero, ownU, List.foldl_nil])
  · rintro k hk
    refine sem_of_awp (Γ := tbl []) okG_nil _ _ _ ?_
    by_cases hkm : k < m
    · have hkl : k < l.length := by omega
      have hk3 : (k : Int) < m := by omega
      have hk2 : (k : Int) < l.length := by omega
      have hk0 : (0 : Int) ≤ k := Int.natCast_nonneg k
      have hd : l.drop k = l[k] :: l.drop (k + 1) := List.drop_eq_getElem_cons hkl
      have hn := nth_of_drop (f := stepD) hd
      have hx := hT l[k] (List.getElem_mem _)
      generalize l[k] = x at *
      have hgo : inR .i64 ((k : Int) + 1) := inR_i64.2 (by omega)
      have ho := ownU_le pool hT k (by omega)
      have hs : ownU pool (l.take (k + 1)) = ustep pool (ownU pool (l.take k)) x := by rw [take_of_drop hd, ownU_snoc]
      generalize ownU pool (l.take k) = p at *
      obtain ⟨a, b⟩ := p
      simp only at ho
      by_cases c0 : x.on = pool
      · have c0' : decide (x.on = pool) = true := decide_eq_true c0
        by_cases k1 : x.kind = 1
        · cases hdp : x.deep with
          | true =>
            have hu : ustep pool (a, b) x = (a + x.cnt, b + x.cnt) := by simp [ustep, c0, k1, hdp]
            simp only [hu] at hs
            simp only [go_sem, Int.reduceEq, eq_self, hk2, hk3, hk0, hn, stepD, c0, c0', k1, hdp]
            refine ⟨inR_i64.2 (by omega), inR_i64.2 (by omega), hgo, k + 1, by omega, by omega, ?_⟩
            refine le_end (own := [_]) (ex := [_]) (Nat.zero_le _) ?_ ?_ ?_
            · simp only [go_sem, Int.natCast_add, Int.cast_ofNat_Int, hs]
            · simp only [go_sem]
            · simp only [go_sem, Obj.under, AV.unders, AV.under]
          | false =>
            have hu : ustep pool (a, b) x = (a + x.cnt, b) := by simp [ustep, c0, k1, hdp]
            simp only [hu] at hs
            simp only [go_sem, Int.reduceEq, eq_self, hk2, hk3, hk0, hn, stepD, c0, c0', k1, hdp]
            refine ⟨inR_i64.2 (by omega), hgo, k + 1, by omega, by omega, ?_⟩
            refine le_end (own := [_]) (ex := [_]) (Nat.zero_le _) ?_ ?_ ?_
            · simp only [go_sem, Int.natCast_add, Int.cast_ofNat_Int, hs]
            · simp only [go_sem]
            · simp only [go_sem, Obj.under, AV.unders, AV.under]
        by_cases k2 : x.kind = 2
        · have hu : ustep pool (a, b) x = (a - x.cnt, max (b - x.cnt) 0) := by simp [ustep, c0, k2]; omega
          simp only [hu] at hs
          simp only [go_sem, Int.reduceEq, eq_self, hk2, hk3, hk0, hn, stepD, c0, c0', k1, k2]
          refine ⟨inR_i64.2 (by omega), inR_i64.2 (by omega), hgo, k + 1, by omega, by omega, ?_⟩
          refine le_end (own := [_]) (ex := [_]) (Nat.zero_le _) ?_ ?_ ?_
          · simp only [go_sem, Int.natCast_add, Int.cast_ofNat_Int, hs]
          · simp only [go_sem]
          · simp only [go_sem, Obj.under, AV.unders, AV.under]
        · have hu : ustep pool (a, b) x = (a, b) := by simp [ustep, c0, k1, k2]
          simp only [hu] at hs
          simp only [go_sem, Int.reduceEq, eq_self, hk2, hk3, hk0, hn, stepD, c0, c0', k1, k2]
          refine ⟨hgo, k + 1, by omega, by omega, ?_⟩
          refine le_end (own := [_]) (ex := [_]) (Nat.zero_le _) ?_ ?_ ?_
          · simp only [go_sem, Int.natCast_add, Int.cast_ofNat_Int, hs]
          · simp only [go_sem]
          · simp only [go_sem, Obj.under, AV.unders, AV.under]
      · have c0' : decide (x.on = pool) = false := decide_eq_false c0
        have hu : ustep pool (a, b) x = (a, b) := by simp [ustep, c0]
        simp only [hu] at hs
        simp only [go_sem, Int.reduceEq, eq_self, hk2, hk3, hk0, hn, stepD, c0, c0']
        refine ⟨hgo, k + 1, by omega, by omega, ?_⟩
        refine le_end (own := [_]) (ex := [_]) (Nat.zero_le _) ?_ ?_ ?_
        · simp only [go_sem, Int.natCast_add, Int.cast_ofNat_Int, hs]
        · simp only [go_sem]
        · simp only [go_sem, Obj.under, AV.unders, AV.under]
    · obtain rfl : k = m := by omega
      have hk2 : ¬ (k : Int) < k := by omega
      simp only [go_sem, hk2]
      cases d with
      | true =>
        simp only [go_sem]
        exact post_data (.inl rfl) [8] rfl trivial (by rfl)
      | false =>
        simp only [go_sem]
        exact post_data (.inl rfl) [8] rfl trivial (by rfl)
end Go.AM

