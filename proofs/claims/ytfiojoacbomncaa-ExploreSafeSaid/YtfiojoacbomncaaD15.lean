/- Own work over the model of the kit. -/
import Derived.Test.YtfiojoacbomncaaD9
import Derived.Test.YtfiojoacbomncaaD14
import Derived.Test.YtfiojoacbomncaaD8
set_option linter.unusedSimpArgs false
set_option linter.unusedVariables false
set_option maxRecDepth 8000
set_option maxHeartbeats 4000000
namespace Go.AM
open Go

theorem le_renP {s : List AV} {own own' : List Obj} {mv : List Nat} (π ρ : Nat → Nat) (h1 : ∀ o, ρ (π o) = o) (h2 : ∀ o, π (ρ o) = o) (hlt : ∀ o, o < own.length → ρ o < own.length) (hlt' : ∀ o, o < own.length → π o < own.length)
  (ho : own' = (List.range own.length).map fun o => (own.getD (ρ o) .dead).ren π) : Le ⟨s, own, 0, mv⟩ ⟨AV.rens π s, own', 0, mv⟩ := by
 rintro c a w ⟨hd, hn, F, φ, q2, q3, q4⟩
 have hφ : ∀ o L, φ o = some L → (fun i => φ (ρ i)) (π o) = some L := fun o L h => by simp only [h1]; exact h
 have hl : own'.length = own.length := by rw [ho]; simp
 have hn0 : c.n0 = 0 := hn.symm
 refine ⟨hd, hn, F, fun i => φ (ρ i), ⟨q2.sub, q2.ext, fun o L hlt' hm h => ?_, q2.rest, fun o L' ho' hn' => q2.orig (ρ o) L' ho' hn', q2.frsh⟩, ?_, AV.Rs_ren (π := π) (φ := φ) (φ' := fun i => φ (ρ i)) hφ s _ q4⟩
 ·omega
 ·refine ⟨q3.fb, fun o L h => q3.live (ρ o) L h, fun o o' L L' h h' n n' hne => q3.inj (ρ o) (ρ o') L L' h h' n n' (fun e => hne (by rw [← h2 o, ← h2 o', e])), fun o obj hob => ?_, fun o hge => ?_, q3.glob⟩
  ·have hlt3 : o < own.length := by
    have := (List.getElem?_eq_some_iff.1 hob).1
    simp only [hl] at this
    exact this
   simp only [ho, List.getElem?_map, List.getElem?_range hlt3, Option.map_some, Option.some.injEq] at hob
   subst hob
   have hp := hlt o hlt3
   have := q3.rep (ρ o) (own.getD (ρ o) .dead) (by simp only; rw [List.getD_eq_getElem?_getD, List.getElem?_eq_getElem hp]; rfl)
   exact ObjR_ren (π := π) (φ := φ) (φ' := fun i => φ (ρ i)) hφ this
  ·simp only [hl] at hge
   refine q3.out (ρ o) ?_
   simp only
   rcases Nat.lt_or_ge (ρ o) own.length with h | h
   ·have := hlt' _ h
    rw [h2] at this
    omega
   ·exact h
def pm (l : List Nat) (o : Nat) : Nat := l.getD o o
def pmOk (l m : List Nat) : Bool := decide (m.length = l.length) && (List.range l.length).all fun o => decide (pm m (pm l o) = o) && decide (pm l (pm m o) = o) && decide (pm m o < l.length) && decide (pm l o < l.length)
theorem le_pm {s s' : List AV} {own own' : List Obj} {mv : List Nat} (l m : List Nat) (h : pmOk l m = true) (hl : own.length = l.length) (hs : s' = AV.rens (pm l) s) (ho : own' = (List.range own.length).map fun o => (own.getD (pm m o) .dead).ren (pm l)) :
  Le ⟨s, own, 0, mv⟩ ⟨s', own', 0, mv⟩ := by
 subst hs
 simp only [pmOk, Bool.and_eq_true, decide_eq_true_eq, List.all_eq_true, List.mem_range] at h
 obtain ⟨hml, h⟩ := h
 have hb : ∀ o, l.length ≤ o → pm l o = o ∧ pm m o = o := fun o ho => by
  unfold pm
  rw [List.getD_eq_getElem?_getD, List.getD_eq_getElem?_getD, List.getElem?_eq_none (by omega), List.getElem?_eq_none (by omega)]
  exact ⟨rfl, rfl⟩
 have hc : ∀ o, pm m (pm l o) = o ∧ pm l (pm m o) = o := fun o => by
  rcases Nat.lt_or_ge o l.length with hh | hh
  ·exact (h o hh).1.1
  ·obtain ⟨e1, e2⟩ := hb o hh; rw [e1, e2, e1]; exact ⟨rfl, rfl⟩
 exact le_renP (pm l) (pm m) (fun o => (hc o).1) (fun o => (hc o).2) (fun o ho => by rw [hl] at ho ⊢; exact (h o ho).1.2) (fun o ho => by rw [hl] at ho ⊢; exact (h o ho).2) ho

def permT : Nat → List Nat → DT → DT
 | 0, _, t => t
 | f + 1, rest, t => rest.foldr (fun x u => .alt x (permT f (rest.erase x) t) u) .stop

end Go.AM

set_option maxRecDepth 8000
set_option maxHeartbeats 4000000
namespace Go.AM
open Go Go.Proofs

abbrev rngM (n : Nat) (g : Nat → Int) : List Int := (List.range n).map g
theorem rngM_len {n : Nat} {g : Nat → Int} : (rngM n g).length = n := by simp
theorem rngM_get {n i : Nat} {g : Nat → Int} (h : i < n) : D.nth (intsD (rngM n g)) i = .int .i64 (g i) := by
 simp [D.nth, List.getD_eq_getElem?_getD, h]
theorem rngM_set {n i : Nat} {g g' : Nat → Int} {v : Int} (h : i < n) (hv : g' i = v) (ho : ∀ j, j < n → j ≠ i → g' j = g j) : (intsD (rngM n g)).set i (.int .i64 v) = intsD (rngM n g') := by
 refine List.ext_getElem? fun j => ?_
 rw [List.getElem?_set]
 by_cases e : i = j
 ·subst e
  simp [h, hv]
 ·rw [if_neg e]
  by_cases hj : j < n
  ·simp [hj, ho j hj (fun h => e h.symm)]
  ·simp [hj]
theorem rngM_congr {n : Nat} {g g' : Nat → Int} (h : ∀ j, j < n → g' j = g j) : rngM n g' = rngM n g := List.map_congr_left fun j hj => h j (List.mem_range.1 hj)
def useD (s : PSys) (L : List PFr) : D := .agg [.sl none (intsD (talU s L)), .sl none (intsD (talL s L)), .sl none (intsD (talE s L))]
def talR (ds : List D) (v : AV) : Prop := ∃ (s : PSys) (x : PSt), ds = [sysD s, stD x] ∧ s.good ∧ PStFit x ∧ (∀ f ∈ frames x, frOk s f = true) ∧ v = .dat (useD s (frames x))
def gU (s : PSys) (L : List PFr) (st : List PStep) (i : Nat) : Int := sumI (frU s i) L + bal st i 0
def gL (s : PSys) (L : List PFr) (st : List PStep) (i : Nat) : Int := sumI (frL s i) L + bal st i 1
theorem gU_nil {s : PSys} {L : List PFr} {i : Nat} : gU s L [] i = sumI (frU s i) L := by simp [gU, bal]
theorem gL_nil {s : PSys} {L : List PFr} {i : Nat} : gL s L [] i = sumI (frL s i) L := by simp [gL, bal]
theorem frU_le {s : PSys} (hg : s.good) {f : PFr} (hf : frOk s f = true) (i : Nat) (k : Int) : -12000 ≤ bal ((clsAt s f).steps.take f.a.toNat) i k ∧ bal ((clsAt s f).steps.take f.a.toNat) i k ≤ 12000 := by
 obtain ⟨h1, h2, h3, h4⟩ := frOk_iff.1 hf
 have hm : clsAt s f ∈ s.classes := by
  unfold clsAt; rw [List.getD_eq_getElem?_getD, List.getElem?_eq_getElem (by omega)]; exact List.getElem_mem _
 have hc := hg.cls _ hm
 have ht : Tame ((clsAt s f).steps.take f.a.toNat) := fun x hx => hc.steps hg x (List.mem_of_mem_take hx)
 have hb := bal_le ((clsAt s f).steps.take f.a.toNat) i k 0 ht
 have h12 := hc.l12
 have hl : ((clsAt s f).steps.take f.a.toNat).length ≤ 12 := by rw [List.length_take]; omega
 unfold bal
 omega
theorem sumI_le {g : PFr → Int} {b : Int} {L : List PFr} (h : ∀ f ∈ L, -b ≤ g f ∧ g f ≤ b) : -(b * L.length) ≤ sumI g L ∧ sumI g L ≤ b * L.length := by
 induction L with
 | nil => simp [sumI]
 | cons f L ih =>
  have h1 := h f (by simp)
  have h2 := ih fun q hq => h q (by simp [hq])
  rw [sumI_cons, List.length_cons]
  have e : b * ((L.length + 1 : Nat) : Int) = b * L.length + b := by rw [Int.natCast_add, Int.mul_add]; simp
  rw [e]
  omega
theorem frames_len {x : PSt} (h : PStFit x) : (frames x).length ≤ 1000000 := by
 have key : ∀ (y : PSt), (∀ l ∈ y, l.length ≤ 1000) → (frames y).length ≤ 1000 * y.length := by
  intro y
  induction y with
  | nil => intro _; simp
  | cons l y ih =>
   intro hy
   have h1 := hy l (by simp)
   have h2 := ih fun q hq => hy q (by simp [hq])
   simp only [frames, List.flatten_cons, List.length_append, List.length_cons] at h2 ⊢
   omega
 have := key x h.stk
 have := h.len
 omega
theorem sum_tame {s : PSys} (hg : s.good) {L : List PFr} (hL : ∀ f ∈ L, frOk s f = true) (hl : L.length ≤ 1000000) (i : Nat) : (-100000000000 ≤ sumI (frU s i) L ∧ sumI (frU s i) L ≤ 100000000000) ∧ (-100000000000 ≤ sumI (frL s i) L ∧ sumI (frL s i) L ≤ 100000000000) ∧ (-100000000000 ≤ sumI (frE s i) L ∧ sumI (frE s i) L ≤ 100000000000) := by
 have h1 := sumI_le (g := frU s i) (b := 12000) (L := L) (fun f hf => frU_le hg (hL f hf) i 0)
 have h2 := sumI_le (g := frL s i) (b := 12000) (L := L) (fun f hf => frU_le hg (hL f hf) i 1)
 have h3 := sumI_le (g := frE s i) (b := 12000) (L := L) (fun f hf => by unfold frE; split <;> omega)
 omega
theorem gU_snoc {s : PSys} {L : List PFr} {st : List PStep} {x : PStep} {i : Nat} : gU s L (st ++ [x]) i = if x.on = i then (if x.kind = 1 then gU s L st i + x.cnt else if x.kind = 2 then gU s L st i - x.cnt else gU s L st i) else gU s L st i := by
 unfold gU
 rw [bal_snoc]
 unfold bstep
 simp only [if_true, show ¬ (0 : Int) = 1 by decide, if_false]
 (repeat' split) <;> omega
theorem gL_snoc {s : PSys} {L : List PFr} {st : List PStep} {x : PStep} {i : Nat} : gL s L (st ++ [x]) i = if x.on = i then (if x.kind = 3 then gL s L st i + 1 else if x.kind = 4 then gL s L st i - 1 else gL s L st i) else gL s L st i := by
 unfold gL
 rw [bal_snoc]
 unfold bstep
 simp only [if_true, show ¬ (1 : Int) = 0 by decide, if_false]
 (repeat' split) <;> omega
theorem tally_ok : OkF Try.prog 41 (dataC talR) := by
 refine okF_data Try.func41 rfl (by decide) ?_
 rintro ds v ⟨s, x, rfl, hg, hx, hfr, rfl⟩
 have hnp := hg.np
 have hnl := hg.nl
 have hnc := hg.nc
 have hxl := hx.len
 refine sem_of_awpK [2] (Γ := tbl []) okG_nil _ _ _ ?_
 simp only [go_sem, Int.reduceEq, Int.reduceLT, Int.reduceLE, eq_self, Int.natCast_nonneg, Int.toNat_natCast, Try.ntmps41, sysD, stD]
 refine sem_drawY [] [] (pf := []) (mf := []) mixed okG_nil pureNo noMk (.one 0 (.one 1 (.one 2 (.one 4 (.one 5 (.one 6 (.one 8 (.one 9 (.one 10 (.alt 3 (.alt 7 (.alt 11 (.one 12 (.one 13 (.one 14 .fin))) (.alt 13 (.one 11 (.one 12 (.one 14 .fin))) .stop)) (.alt 11 (.alt 7 (.one 12 (.one 13 (.one 14 .fin))) (.alt 13 (.one 7 (.one 12 (.one 14 .fin))) .stop)) (.alt 13 (.alt 7 (.one 11 (.one 12 (.one 14 .fin))) (.alt 11 (.one 7 (.one 12 (.one 14 .fin))) .stop)) .stop))) (.alt 7 (.alt 3 (.alt 11 (.one 12 (.one 13 (.one 14 .fin))) (.alt 13 (.one 11 (.one 12 (.one 14 .fin))) .stop)) (.alt 11 (.alt 3 (.one 12 (.one 13 (.one 14 .fin))) (.alt 13 (.one 3 (.one 12 (.one 14 .fin))) .stop)) (.alt 13 (.alt 3 (.one 11 (.one 12 (.one 14 .fin))) (.alt 11 (.one 3 (.one 12 (.one 14 .fin))) .stop)) .stop))) (.alt 11 (.alt 3 (.alt 7 (.one 12 (.one 13 (.one 14 .fin))) (.alt 13 (.one 7 (.one 12 (.one 14 .fin))) .stop)) (.alt 7 (.alt 3 (.one 12 (.one 13 (.one 14 .fin))) (.alt 13 (.one 3 (.one 12 (.one 14 .fin))) .stop)) (.alt 13 (.alt 3 (.one 7 (.one 12 (.one 14 .fin))) (.alt 7 (.one 3 (.one 12 (.one 14 .fin))) .stop)) .stop))) (.alt 13 (.alt 3 (.alt 7 (.one 11 (.one 12 (.one 14 .fin))) (.alt 11 (.one 7 (.one 12 (.one 14 .fin))) .stop)) (.alt 7 (.alt 3 (.one 11 (.one 12 (.one 14 .fin))) (.alt 11 (.one 3 (.one 12 (.one 14 .fin))) .stop)) (.alt 11 (.alt 3 (.one 7 (.one 12 (.one 14 .fin))) (.alt 7 (.one 3 (.one 12 (.one 14 .fin))) .stop)) .stop))) .stop))))))))))))) (by kernel_rfl) ?_
 generalize hK : andThenK [2] Try.prog (tbl []) _ _ = Q
 have hcl : ∀ σ σ', Le σ σ' → Q .normal σ' → Q .normal σ := by
  subst hK
  intro σ σ' h1 h2
  exact sem_le h1 h2
 suffices hQ1 : Q .normal ⟨slotsOf 118 [(2, .ptr 0 0 0), (3, .ptr 1 0 0), (4, .ptr 2 0 0), (5, .ptr 6 0 0)], [sysO s, stO x, .box [.nils, .nils, .nils], .row none (List.replicate s.pools.length (.int .i64 0)), .row none (List.replicate s.locks.length (.int .i64 0)), .row none (List.replicate s.classes.length (.int .i64 0)), .box [.sl 3 0 s.pools.length, .sl 4 0 s.locks.length, .sl 5 0 s.classes.length]], 0, []⟩ by
  have hlf : ∀ (c : Nat) (l m : List Nat) {own : List Obj} {sl : List AV}, slotsLe sl (slotsOf 118 [(2, .ptr 0 0 0), (3, .ptr 1 0 0), (4, .ptr 2 0 0), (5, .ptr c 0 0)]) → pmOk l m = true → own.length = l.length → _ = AV.rens (pm l) (slotsOf 118 [(2, .ptr 0 0 0), (3, .ptr 1 0 0), (4, .ptr 2 0 0), (5, .ptr c 0 0)]) → _ = (List.range own.length).map (fun o => (own.getD (pm m o) .dead).ren (pm l)) → Q .normal ⟨sl, own, 0, []⟩ := fun c l m {_} {_} h0 h1 h2 h3 h4 => hcl _ _ (Le.trans (le_slots' h0) (le_pm l m h1 h2 h3 h4)) hQ1
  have b1 : 8 * (s.pools.length : Int) ≤ 281474976710656 := by omega
  have b2 : 8 * (s.locks.length : Int) ≤ 281474976710656 := by omega
  have b3 : 8 * (s.classes.length : Int) ≤ 281474976710656 := by omega
  simp only [go_sem, Int.reduceEq, Int.reduceLT, Int.reduceLE, eq_self, Int.natCast_nonneg, Int.toNat_natCast, List.length_map, b1, b2, b3, Int.le_refl]
  repeat' apply And.intro
  ·exact hlf 6 [0, 1, 2, 3, 4, 5, 6] [0, 1, 2, 3, 4, 5, 6] (by simp only [go_sem]) (by decide) rfl rfl rfl
  ·exact hlf 5 [0, 1, 2, 3, 4, 6, 5] [0, 1, 2, 3, 4, 6, 5] (by simp only [go_sem]) (by decide) rfl rfl rfl
  ·exact hlf 6 [0, 1, 2, 3, 5, 4, 6] [0, 1, 2, 3, 5, 4, 6] (by simp only [go_sem]) (by decide) rfl rfl rfl
  ·exact hlf 5 [0, 1, 2, 3, 5, 6, 4] [0, 1, 2, 3, 6, 4, 5] (by simp only [go_sem]) (by decide) rfl rfl rfl
  ·exact hlf 4 [0, 1, 2, 3, 6, 4, 5] [0, 1, 2, 3, 5, 6, 4] (by simp only [go_sem]) (by decide) rfl rfl rfl
  ·exact hlf 4 [0, 1, 2, 3, 6, 5, 4] [0, 1, 2, 3, 6, 5, 4] (by simp only [go_sem]) (by decide) rfl rfl rfl
  ·exact hlf 6 [0, 1, 2, 4, 3, 5, 6] [0, 1, 2, 4, 3, 5, 6] (by simp only [go_sem]) (by decide) rfl rfl rfl
  ·exact hlf 5 [0, 1, 2, 4, 3, 6, 5] [0, 1, 2, 4, 3, 6, 5] (by simp only [go_sem]) (by decide) rfl rfl rfl
  ·exact hlf 6 [0, 1, 2, 4, 5, 3, 6] [0, 1, 2, 5, 3, 4, 6] (by simp only [go_sem]) (by decide) rfl rfl rfl
  ·exact hlf 5 [0, 1, 2, 4, 5, 6, 3] [0, 1, 2, 6, 3, 4, 5] (by simp only [go_sem]) (by decide) rfl rfl rfl
  ·exact hlf 4 [0, 1, 2, 4, 6, 3, 5] [0, 1, 2, 5, 3, 6, 4] (by simp only [go_sem]) (by decide) rfl rfl rfl
  ·exact hlf 4 [0, 1, 2, 4, 6, 5, 3] [0, 1, 2, 6, 3, 5, 4] (by simp only [go_sem]) (by decide) rfl rfl rfl
  ·exact hlf 6 [0, 1, 2, 5, 3, 4, 6] [0, 1, 2, 4, 5, 3, 6] (by simp only [go_sem]) (by decide) rfl rfl rfl
  ·exact hlf 5 [0, 1, 2, 5, 3, 6, 4] [0, 1, 2, 4, 6, 3, 5] (by simp only [go_sem]) (by decide) rfl rfl rfl
  ·exact hlf 6 [0, 1, 2, 5, 4, 3, 6] [0, 1, 2, 5, 4, 3, 6] (by simp only [go_sem]) (by decide) rfl rfl rfl
  ·exact hlf 5 [0, 1, 2, 5, 4, 6, 3] [0, 1, 2, 6, 4, 3, 5] (by simp only [go_sem]) (by decide) rfl rfl rfl
  ·exact hlf 4 [0, 1, 2, 5, 6, 3, 4] [0, 1, 2, 5, 6, 3, 4] (by simp only [go_sem]) (by decide) rfl rfl rfl
  ·exact hlf 4 [0, 1, 2, 5, 6, 4, 3] [0, 1, 2, 6, 5, 3, 4] (by simp only [go_sem]) (by decide) rfl rfl rfl
  ·exact hlf 3 [0, 1, 2, 6, 3, 4, 5] [0, 1, 2, 4, 5, 6, 3] (by simp only [go_sem]) (by decide) rfl rfl rfl
  ·exact hlf 3 [0, 1, 2, 6, 3, 5, 4] [0, 1, 2, 4, 6, 5, 3] (by simp only [go_sem]) (by decide) rfl rfl rfl
  ·exact hlf 3 [0, 1, 2, 6, 4, 3, 5] [0, 1, 2, 5, 4, 6, 3] (by simp only [go_sem]) (by decide) rfl rfl rfl
  ·exact hlf 3 [0, 1, 2, 6, 4, 5, 3] [0, 1, 2, 6, 4, 5, 3] (by simp only [go_sem]) (by decide) rfl rfl rfl
  ·exact hlf 3 [0, 1, 2, 6, 5, 3, 4] [0, 1, 2, 5, 6, 4, 3] (by simp only [go_sem]) (by decide) rfl rfl rfl
  ·exact hlf 3 [0, 1, 2, 6, 5, 4, 3] [0, 1, 2, 6, 5, 4, 3] (by simp only [go_sem]) (by decide) rfl rfl rfl
 subst hK
 simp only [go_sem, Int.reduceEq, Int.reduceLT, Int.reduceLE, eq_self, Int.natCast_nonneg, Int.toNat_natCast]
 refine sem_of_awp (Γ := tbl []) okG_nil _ _ _ ?_
 have e0 : ∀ n : Nat, List.replicate n (D.int .i64 0) = intsD (rngM n fun i => 0) := fun n => by
  refine List.ext_getElem? fun j => ?_
  by_cases hj : j < n <;> simp [hj]
 have z1 : (rngM s.pools.length fun i => 0) = rngM s.pools.length (gU s [] []) := rngM_congr fun j _ => by rw [gU_nil]; rfl
 have z2 : (rngM s.locks.length fun i => 0) = rngM s.locks.length (gL s [] []) := rngM_congr fun j _ => by rw [gL_nil]; rfl
 have z3 : (rngM s.classes.length fun i => 0) = rngM s.classes.length fun i => sumI (frE s i) [] := rngM_congr fun j _ => rfl
 rw [e0, e0, e0, z1, z2, z3]
 have hxl2 : (stacksD x).length = x.length := by simp
 simp only [go_sem, Int.reduceEq, Int.reduceLT, Int.reduceLE, eq_self, Int.natCast_nonneg, Int.toNat_natCast, hxl2]
 let own := fun (L : List PFr) (st : List PStep) => ([sysO s, stO x, .box [.nils, .nils, .nils], .row none (intsD (rngM s.pools.length (gU s L st))), .row none (intsD (rngM s.locks.length (gL s L st))), .row none (intsD (rngM s.classes.length fun i => sumI (frE s i) L)), .box [.sl 3 0 s.pools.length, .sl 4 0 s.locks.length, .sl 5 0 s.classes.length]] : List Obj)
 refine sem_loop (fun k : Nat => ⟨slotsOf 118 [(2, .ptr 0 0 0), (3, .ptr 1 0 0), (4, .ptr 2 0 0), (5, .ptr 6 0 0), (26, .dat (.sl none (stacksD x))), (27, .dat (.int .i64 x.length)), (28, .dat (.int .i64 k))], own (x.take k).flatten [], 0, []⟩)
  (fun k => k ≤ x.length) (fun k => x.length - k) 0 (Nat.zero_le _) ?_ ?_
 ·exact le_slots' (by simp only [go_sem, Int.natCast_zero])
 rintro k hk
 cases hd : x.drop k with
 | nil =>
  obtain rfl : k = x.length := end_of_drop hd hk
  have hk2 : ¬ (x.length : Int) < x.length := by omega
  rw [List.take_length]
  have hu : rngM s.pools.length (gU s (frames x) []) = talU s (frames x) := rngM_congr fun j _ => gU_nil
  have hl : rngM s.locks.length (gL s (frames x) []) = talL s (frames x) := rngM_congr fun j _ => gL_nil
  have he : (rngM s.classes.length fun i => sumI (frE s i) (frames x)) = talE s (frames x) := rfl
  have hul : (talU s (frames x)).length = s.pools.length := by simp [talU]
  have hll : (talL s (frames x)).length = s.locks.length := by simp [talL]
  have hel : (talE s (frames x)).length = s.classes.length := by simp [talE]
  simp only [own]
  rw [hu, hl, he, ← hul, ← hll, ← hel]
  refine sem_le (le_freeze 5 (ag := none) rfl (Nat.zero_le _)) ?_
  refine sem_le (le_freeze 4 (ag := none) rfl (Nat.zero_le _)) ?_
  refine sem_le (le_freeze 3 (ag := none) rfl (Nat.zero_le _)) ?_
  refine sem_of_awp (Γ := tbl []) okG_nil _ _ _ ?_
  simp only [go_sem, Int.reduceEq, Int.reduceLT, Int.reduceLE, eq_self, Int.natCast_nonneg, Int.toNat_natCast, hk2, ints_take, ints_len, List.drop_zero, Nat.le_refl]
  refine post_res (.inl rfl) [.cell 4 74] rfl ?_
  simp only [go_sem, useD]
  exact le_fin (by simp only [go_sem]) (by simp only [go_sem])
 | cons l r =>
 have hlt := lt_of_drop hd
 have hk2 : (k : Int) < x.length := by omega
 have hk0 : (0 : Int) ≤ k := Int.natCast_nonneg k
 have hn := nth_of_drop (f := stackD) hd
 have hll := hx.stk l (mem_of_drop hd)
 have hfl : (frsD l).length = l.length := by simp
 have htk : (x.take (k + 1)).flatten = (x.take k).flatten ++ l := by rw [take_of_drop hd, List.flatten_append]; simp
 have hF1 : ∀ f ∈ (x.take k).flatten ++ l, frOk s f = true := fun f hf => hfr f (by
  rw [← htk] at hf
  obtain ⟨y, hy, hfy⟩ := List.mem_flatten.1 hf
  exact List.mem_flatten.2 ⟨y, List.mem_of_mem_take hy, hfy⟩)
 have hF2 : ((x.take k).flatten ++ l).length ≤ 1000000 := by
  rw [← htk]
  exact frames_len ⟨by rw [List.length_take]; omega, fun y hy => hx.stk y (List.mem_of_mem_take hy)⟩
 refine sem_of_awp (Γ := tbl []) okG_nil _ _ _ ?_
 simp only [own]
 simp only [go_sem, Int.reduceEq, Int.reduceLT, Int.reduceLE, eq_self, Int.natCast_nonneg, Int.toNat_natCast, hk2, hk0, hlt, hn, hxl2, stackD, hfl]
 generalize hL0 : (x.take k).flatten = L0 at *
 refine sem_loop (fun j : Nat => ⟨slotsOf 118 [(2, .ptr 0 0 0), (3, .ptr 1 0 0), (4, .ptr 2 0 0), (5, .ptr 6 0 0), (26, .dat (.sl none (stacksD x))), (27, .dat (.int .i64 x.length)), (28, .dat (.int .i64 k)), (32, .dat (.sl (some 2) (frsD l))), (33, .dat (.int .i64 l.length)), (34, .dat (.int .i64 j))], own (L0 ++ l.take j) [], 0, []⟩)
  (fun j => j ≤ l.length) (fun j => l.length - j) 0 (Nat.zero_le _) ?_ ?_
 ·rw [List.take_zero, List.append_nil]
  exact le_slots' (by simp only [go_sem, Int.natCast_zero])
 rintro j hj
 refine sem_of_awp (Γ := tbl []) okG_nil _ _ _ ?_
 simp only [own]
 cases hd2 : l.drop j with
 | nil =>
  obtain rfl : j = l.length := end_of_drop hd2 hj
  have hj2 : ¬ (l.length : Int) < l.length := by omega
  rw [List.take_length]
  simp only [go_sem, Int.reduceEq, Int.reduceLT, Int.reduceLE, eq_self, Int.natCast_nonneg, Int.toNat_natCast, hj2]
  refine ⟨inR_i64.2 (by omega), k + 1, by omega, by omega, ?_⟩
  rw [htk]
  exact le_slots' (by simp only [go_sem, Int.natCast_add, Int.cast_ofNat_Int])
 | cons f r2 =>
 have hlt2 := lt_of_drop hd2
 have hj2 : (j : Int) < l.length := by omega
 have hj0 : (0 : Int) ≤ j := Int.natCast_nonneg j
 have hn2 := nth_of_drop (f := frD) hd2
 have hfo := hF1 f (by simp [mem_of_drop hd2])
 have htk2 : L0 ++ l.take (j + 1) = (L0 ++ l.take j) ++ [f] := by rw [take_of_drop hd2, List.append_assoc]
 have hM1 : ∀ q ∈ L0 ++ l.take j, frOk s q = true := fun q hq => hF1 q (by
  rcases List.mem_append.1 hq with h | h
  ·exact List.mem_append.2 (.inl h)
  ·exact List.mem_append.2 (.inr (List.mem_of_mem_take h)))
 have hM2 : (L0 ++ l.take j).length ≤ 1000000 := by
  simp only [List.length_append, List.length_take] at hF2 ⊢
  omega
 have htame := fun i => sum_tame hg hM1 hM2 i
 obtain ⟨c1, c2, c3, c4⟩ := frOk_iff.1 hfo
 obtain ⟨ci, hci, hcil, hcin⟩ := cls_nth (s := s) (f := f) c1 c2
 have hci2 : (ci : Int) < s.classes.length := by omega
 have hci0 : (0 : Int) ≤ ci := Int.natCast_nonneg ci
 obtain ⟨a, ha⟩ : ∃ a : Nat, f.a = a := ⟨f.a.toNat, by omega⟩
 have hal : a ≤ (clsAt s f).steps.length := by omega
 have hal2 : (a : Int) ≤ (clsAt s f).steps.length := by omega
 have ha0 : (0 : Int) ≤ a := Int.natCast_nonneg a
 have hcm : clsAt s f ∈ s.classes := by
  unfold clsAt; rw [List.getD_eq_getElem?_getD, List.getElem?_eq_getElem (by omega)]; exact List.getElem_mem _
 have hcg := hg.cls _ hcm
 have h12 := hcg.l12
 have hfU : ∀ i, frU s i f = bal ((clsAt s f).steps.take a) i 0 := fun i => by unfold frU; rw [ha, Int.toNat_natCast]
 have hfL : ∀ i, frL s i f = bal ((clsAt s f).steps.take a) i 1 := fun i => by unfold frL; rw [ha, Int.toNat_natCast]
 have hfE : ∀ i, frE s i f = if ci = i ∧ (clsAt s f).server = true then 1 else 0 := fun i => by
  unfold frE; rw [hci]; simp only [Int.natCast_inj]
 generalize hL1 : L0 ++ l.take j = L1 at *
 clear hcl
 simp only [go_sem, Int.reduceEq, Int.reduceLT, Int.reduceLE, eq_self, Int.natCast_nonneg, Int.toNat_natCast, hj2, hj0, hlt2, hn2, frD, hfl, hci, hci2, hci0, hcil, hcin, clsD, List.length_map]
 generalize hK : andThen Try.prog (tbl []) _ _ = Q
 have hcl : ∀ σ σ', Le σ σ' → Q .normal σ' → Q .normal σ := by
  subst hK
  intro σ σ' h1 h2
  exact sem_le h1 h2
 suffices hQ1 : Q .normal ⟨slotsOf 118 [(2, .ptr 0 0 0), (3, .ptr 1 0 0), (4, .ptr 2 0 0), (5, .ptr 6 0 0), (26, .dat (.sl none (stacksD x))), (27, .dat (.int .i64 x.length)), (28, .dat (.int .i64 k)), (32, .dat (.sl (some 2) (frsD l))), (33, .dat (.int .i64 l.length)), (34, .dat (.int .i64 j)), (9, .ptr 7 0 0)], [sysO s, stO x, .box [.nils, .nils, .nils], .row none (intsD (rngM s.pools.length (gU s L1 []))), .row none (intsD (rngM s.locks.length (gL s L1 []))), .row none (intsD (rngM s.classes.length fun i => sumI (frE s i) (L1 ++ [f]))), .box [.sl 3 0 s.pools.length, .sl 4 0 s.locks.length, .sl 5 0 s.classes.length], .box [.dat (.int .i64 ci), .dat (.int .i64 f.a)]], 0, []⟩ by
  cases hsv : (clsAt s f).server with
  | false =>
   have he : rngM s.classes.length (fun i => sumI (frE s i) (L1 ++ [f])) = rngM s.classes.length fun i => sumI (frE s i) L1 := rngM_congr fun i _ => by
    rw [sumI_snoc, hfE, hsv]; simp
   simp only [go_sem, Int.reduceEq, Int.reduceLT, Int.reduceLE, eq_self, Int.natCast_nonneg, Int.toNat_natCast]
   rw [← he]
   exact hcl _ _ (le_slots' (by simp only [go_sem])) hQ1
  | true =>
   have hcl2 : ci < (rngM s.classes.length fun i => sumI (frE s i) L1).length := by rw [rngM_len]; exact hcil
   have ht := (htame ci).2.2
   simp only [go_sem, Int.reduceEq, Int.reduceLT, Int.reduceLE, eq_self, Int.natCast_nonneg, Int.toNat_natCast, rngM_len, hci2, hci0, hcil, rngM_get]
   have he : (intsD (rngM s.classes.length fun i => sumI (frE s i) L1)).set ci (.int .i64 (sumI (frE s ci) L1 + 1)) = intsD (rngM s.classes.length fun i => sumI (frE s i) (L1 ++ [f])) := rngM_set hcil (by rw [sumI_snoc, hfE, hsv]; simp) (fun i _ hi => by rw [sumI_snoc, hfE, if_neg (fun h => hi h.1.symm)]; omega)
   refine ⟨inR_i64.2 (by omega), ?_⟩
   rw [he]
   exact hcl _ _ (le_slots' (by simp only [go_sem])) hQ1
 subst hK
 clear hcl
 simp only [go_sem, Int.reduceEq, Int.reduceLT, Int.reduceLE, eq_self, Int.natCast_nonneg, Int.toNat_natCast]
 refine sem_drawY [] [] (pf := []) (mf := []) mixed okG_nil pureNo noMk (ones [0, 1, 2, 3, 4, 5, 6, 7, 8, 9, 10, 11]) (by kernel_rfl) ?_
 have hT := hcg.steps hg
 have hpre := hcg.pre
 have htl : ((clsAt s f).steps.take a).length = a := by rw [List.length_take]; omega
 have hsub : ∀ y ∈ (clsAt s f).steps.take a, y ∈ (clsAt s f).steps := fun y hy => List.mem_of_mem_take hy
 have haL : ((clsAt s f).steps.map stepD).length = (clsAt s f).steps.length := by simp
 simp only [go_sem, Int.reduceEq, Int.reduceLT, Int.reduceLE, eq_self, Int.natCast_nonneg, Int.toNat_natCast, hci2, hci0, hcil, hcin, clsD, stepsD, haL, ha, ha0, hal, hal2, List.length_map, List.drop_zero, Int.sub_zero, Int.toNat_natCast, ← List.map_take, htl]
 generalize hst : (clsAt s f).steps.take a = st at *
 refine sem_loop (fun m : Nat => ⟨slotsOf 118 [(2, .ptr 0 0 0), (3, .ptr 1 0 0), (4, .ptr 2 0 0), (5, .ptr 6 0 0), (26, .dat (.sl none (stacksD x))), (27, .dat (.int .i64 x.length)), (28, .dat (.int .i64 k)), (32, .dat (.sl (some 2) (frsD l))), (33, .dat (.int .i64 l.length)), (34, .dat (.int .i64 j)), (62, .dat (.sl (some 4) (st.map stepD))), (63, .dat (.int .i64 a)), (64, .dat (.int .i64 m))], [sysO s, stO x, .box [.nils, .nils, .nils], .row none (intsD (rngM s.pools.length (gU s L1 (st.take m)))), .row none (intsD (rngM s.locks.length (gL s L1 (st.take m)))), .row none (intsD (rngM s.classes.length fun i => sumI (frE s i) (L1 ++ [f]))), .box [.sl 3 0 s.pools.length, .sl 4 0 s.locks.length, .sl 5 0 s.classes.length]], 0, []⟩)
  (fun m => m ≤ st.length) (fun m => st.length - m) 0 (Nat.zero_le _) ?_ ?_
 ·refine le_end (own := [_, _, _, _, _, _, _]) (ex := [_]) (Nat.zero_le _) ?_ ?_ ?_
  ·simp only [go_sem, Int.natCast_zero, List.take_zero]
  ·simp only [go_sem, List.take_zero]
  ·simp only [go_sem, Obj.under, AV.unders, AV.under]
 rintro m hm
 refine sem_of_awp (Γ := tbl []) okG_nil _ _ _ ?_
 cases hd3 : st.drop m with
 | nil =>
  obtain rfl : m = st.length := end_of_drop hd3 hm
  have hm2 : ¬ (a : Int) < a := by omega
  rw [List.take_length, htl]
  have hu : rngM s.pools.length (gU s L1 st) = rngM s.pools.length (gU s (L1 ++ [f]) []) := rngM_congr fun i _ => by rw [gU_nil, gU, sumI_snoc, hfU]
  have hv : rngM s.locks.length (gL s L1 st) = rngM s.locks.length (gL s (L1 ++ [f]) []) := rngM_congr fun i _ => by rw [gL_nil, gL, sumI_snoc, hfL]
  rw [hu, hv]
  simp only [go_sem, Int.reduceEq, Int.reduceLT, Int.reduceLE, eq_self, Int.natCast_nonneg, Int.toNat_natCast, hm2]
  refine ⟨inR_i64.2 (by omega), j + 1, by omega, by omega, ?_⟩
  try simp only [own]
  rw [htk2]
  exact le_slots' (by simp only [go_sem, Int.natCast_add, Int.cast_ofNat_Int])
 | cons y r3 =>
 have hlt3 := lt_of_drop hd3
 have hm2 : (m : Int) < a := by omega
 have hm3 : m < a := by omega
 have hm0 : (0 : Int) ≤ m := Int.natCast_nonneg m
 have hn3 := nth_of_drop (f := stepD) hd3
 have hym := hsub y (mem_of_drop hd3)
 have hyT := hT y hym
 have htk3 : st.take (m + 1) = st.take m ++ [y] := take_of_drop hd3
 obtain ⟨⟨k1, k2⟩, ⟨o1, o2⟩, hc, hc0⟩ := preE_0 (hpre y hym)
 have hbT : Tame (st.take m) := fun q hq => hT q (hsub q (List.mem_of_mem_take hq))
 have hbl : (st.take m).length ≤ 12 := by rw [List.length_take]; omega
 have hgb : ∀ i : Nat, (-200000000000 ≤ gU s L1 (st.take m) i ∧ gU s L1 (st.take m) i ≤ 200000000000) ∧ (-200000000000 ≤ gL s L1 (st.take m) i ∧ gL s L1 (st.take m) i ≤ 200000000000) := fun i => by
  have h1 := htame i
  have h2 := bal_le (st.take m) i 0 0 hbT
  have h3 := bal_le (st.take m) i 1 0 hbT
  unfold gU gL bal
  omega
 obtain ⟨kind, on, cnt, deep⟩ := y
 simp only at k1 k2 o1 o2 hc hc0 hyT
 unfold mostE at o2
 obtain ⟨q, rfl⟩ : ∃ q : Nat, on = q := ⟨on.toNat, by omega⟩
 have hq0 : (0 : Int) ≤ q := Int.natCast_nonneg q
 have hk5 : kind = 1 ∨ kind = 2 ∨ kind = 3 ∨ kind = 4 ∨ kind = 5 := by omega
 have fin : ∀ {sl : List AV} {ex : List Obj}, slotsLe sl (slotsOf 118 [(2, .ptr 0 0 0), (3, .ptr 1 0 0), (4, .ptr 2 0 0), (5, .ptr 6 0 0), (26, .dat (.sl none (stacksD x))), (27, .dat (.int .i64 x.length)), (28, .dat (.int .i64 k)), (32, .dat (.sl (some 2) (frsD l))), (33, .dat (.int .i64 l.length)), (34, .dat (.int .i64 j)), (62, .dat (.sl (some 4) (st.map stepD))), (63, .dat (.int .i64 a)), (64, .dat (.int .i64 (m + 1 : Nat)))]) →
   ∃ z : Nat, z ≤ a ∧ a - z < a - m ∧ Le ⟨sl, [sysO s, stO x, .box [.nils, .nils, .nils], .row none (intsD (rngM s.pools.length (gU s L1 (st.take m ++ [⟨kind, q, cnt, deep⟩])))), .row none (intsD (rngM s.locks.length (gL s L1 (st.take m ++ [⟨kind, q, cnt, deep⟩])))), .row none (intsD (rngM s.classes.length fun i => sumI (frE s i) (L1 ++ [f]))), .box [.sl 3 0 s.pools.length, .sl 4 0 s.locks.length, .sl 5 0 s.classes.length]] ++ ex, 0, []⟩ ⟨slotsOf 118 [(2, .ptr 0 0 0), (3, .ptr 1 0 0), (4, .ptr 2 0 0), (5, .ptr 6 0 0), (26, .dat (.sl none (stacksD x))), (27, .dat (.int .i64 x.length)), (28, .dat (.int .i64 k)), (32, .dat (.sl (some 2) (frsD l))), (33, .dat (.int .i64 l.length)), (34, .dat (.int .i64 j)), (62, .dat (.sl (some 4) (st.map stepD))), (63, .dat (.int .i64 a)), (64, .dat (.int .i64 z))], [sysO s, stO x, .box [.nils, .nils, .nils], .row none (intsD (rngM s.pools.length (gU s L1 (st.take z)))), .row none (intsD (rngM s.locks.length (gL s L1 (st.take z)))), .row none (intsD (rngM s.classes.length fun i => sumI (frE s i) (L1 ++ [f]))), .box [.sl 3 0 s.pools.length, .sl 4 0 s.locks.length, .sl 5 0 s.classes.length]], 0, []⟩ := by
  intro sl ex hsl
  refine ⟨m + 1, by omega, by omega, ?_⟩
  rw [htk3]
  refine le_end (own := [_, _, _, _, _, _, _]) (ex := ex) (Nat.zero_le _) hsl ?_ ?_
  ·simp only [go_sem]
  ·simp only [go_sem, Obj.under, AV.unders, AV.under]
 have sU : ∀ (i : Nat) (h : q ≠ i), gU s L1 (st.take m ++ [⟨kind, q, cnt, deep⟩]) i = gU s L1 (st.take m) i := fun i h => by rw [gU_snoc, if_neg (fun e => h (by have e : (q : Int) = i := e; omega))]
 have sL : ∀ (i : Nat) (h : q ≠ i), gL s L1 (st.take m ++ [⟨kind, q, cnt, deep⟩]) i = gL s L1 (st.take m) i := fun i h => by rw [gL_snoc, if_neg (fun e => h (by have e : (q : Int) = i := e; omega))]
 have wU : gU s L1 (st.take m ++ [⟨kind, q, cnt, deep⟩]) q = if kind = 1 then gU s L1 (st.take m) q + cnt else if kind = 2 then gU s L1 (st.take m) q - cnt else gU s L1 (st.take m) q := by rw [gU_snoc, if_pos rfl]
 have wL : gL s L1 (st.take m ++ [⟨kind, q, cnt, deep⟩]) q = if kind = 3 then gL s L1 (st.take m) q + 1 else if kind = 4 then gL s L1 (st.take m) q - 1 else gL s L1 (st.take m) q := by rw [gL_snoc, if_pos rfl]
 have nU : kind ≠ 1 → kind ≠ 2 → rngM s.pools.length (gU s L1 (st.take m ++ [⟨kind, q, cnt, deep⟩])) = rngM s.pools.length (gU s L1 (st.take m)) := fun h1 h2 => rngM_congr fun i _ => by
  by_cases h : q = i
  ·subst h; rw [wU, if_neg h1, if_neg h2]
  ·exact sU i h
 have nL : kind ≠ 3 → kind ≠ 4 → rngM s.locks.length (gL s L1 (st.take m ++ [⟨kind, q, cnt, deep⟩])) = rngM s.locks.length (gL s L1 (st.take m)) := fun h1 h2 => rngM_congr fun i _ => by
  by_cases h : q = i
  ·subst h; rw [wL, if_neg h1, if_neg h2]
  ·exact sL i h
 have hgU := (hgb q).1
 have hgL := (hgb q).2
 rcases hk5 with rfl | rfl | rfl | rfl | rfl
 ·have hqp : (q : Int) < s.pools.length := by simpa using o2
  have hqp2 : q < s.pools.length := by omega
  have hset : (intsD (rngM s.pools.length (gU s L1 (st.take m)))).set q (.int .i64 (gU s L1 (st.take m) q + cnt)) = intsD (rngM s.pools.length (gU s L1 (st.take m ++ [⟨1, q, cnt, deep⟩]))) := rngM_set hqp2 (by rw [wU]; simp) (fun i _ h => sU i (fun e => h e.symm))
  simp only [go_sem, Int.reduceEq, Int.reduceLT, Int.reduceLE, eq_self, Int.natCast_nonneg, Int.toNat_natCast, hm2, hm0, hm3, hn3, stepD, htl]
  refine sem_drawY [] [] (pf := []) (mf := []) mixed okG_nil pureNo noMk (ones [0, 1, 2, 3, 4, 5, 6, 7, 8, 9, 10]) (by kernel_rfl) ?_
  simp only [go_sem, Int.reduceEq, Int.reduceLT, Int.reduceLE, eq_self, Int.natCast_nonneg, Int.toNat_natCast, rngM_len, hqp, hqp2, hq0, rngM_get]
  refine ⟨inR_i64.2 (by omega), inR_i64.2 (by omega), ?_⟩
  rw [hset, ← nL (by decide) (by decide)]
  exact fin (ex := [_]) (by simp only [go_sem, Int.natCast_add, Int.cast_ofNat_Int])
 ·have hqp : (q : Int) < s.pools.length := by simpa using o2
  have hqp2 : q < s.pools.length := by omega
  have hset : (intsD (rngM s.pools.length (gU s L1 (st.take m)))).set q (.int .i64 (gU s L1 (st.take m) q - cnt)) = intsD (rngM s.pools.length (gU s L1 (st.take m ++ [⟨2, q, cnt, deep⟩]))) := rngM_set hqp2 (by rw [wU]; simp) (fun i _ h => sU i (fun e => h e.symm))
  simp only [go_sem, Int.reduceEq, Int.reduceLT, Int.reduceLE, eq_self, Int.natCast_nonneg, Int.toNat_natCast, hm2, hm0, hm3, hn3, stepD, htl]
  refine sem_drawY [] [] (pf := []) (mf := []) mixed okG_nil pureNo noMk (ones [0, 1, 2, 3, 4, 5, 6, 7, 8, 9, 10]) (by kernel_rfl) ?_
  simp only [go_sem, Int.reduceEq, Int.reduceLT, Int.reduceLE, eq_self, Int.natCast_nonneg, Int.toNat_natCast, rngM_len, hqp, hqp2, hq0, rngM_get]
  refine ⟨inR_i64.2 (by omega), inR_i64.2 (by omega), ?_⟩
  rw [hset, ← nL (by decide) (by decide)]
  exact fin (ex := [_]) (by simp only [go_sem, Int.natCast_add, Int.cast_ofNat_Int])
 ·have hqp : (q : Int) < s.locks.length := by simpa using o2
  have hqp2 : q < s.locks.length := by omega
  have hset : (intsD (rngM s.locks.length (gL s L1 (st.take m)))).set q (.int .i64 (gL s L1 (st.take m) q + 1)) = intsD (rngM s.locks.length (gL s L1 (st.take m ++ [⟨3, q, cnt, deep⟩]))) := rngM_set hqp2 (by rw [wL]; simp) (fun i _ h => sL i (fun e => h e.symm))
  simp only [go_sem, Int.reduceEq, Int.reduceLT, Int.reduceLE, eq_self, Int.natCast_nonneg, Int.toNat_natCast, hm2, hm0, hm3, hn3, stepD, htl, rngM_len, hqp, hqp2, hq0, rngM_get]
  refine ⟨inR_i64.2 (by omega), inR_i64.2 (by omega), ?_⟩
  rw [hset, ← nU (by decide) (by decide)]
  exact fin (ex := [_]) (by simp only [go_sem, Int.natCast_add, Int.cast_ofNat_Int])
 ·have hqp : (q : Int) < s.locks.length := by simpa using o2
  have hqp2 : q < s.locks.length := by omega
  have hset : (intsD (rngM s.locks.length (gL s L1 (st.take m)))).set q (.int .i64 (gL s L1 (st.take m) q - 1)) = intsD (rngM s.locks.length (gL s L1 (st.take m ++ [⟨4, q, cnt, deep⟩]))) := rngM_set hqp2 (by rw [wL]; simp) (fun i _ h => sL i (fun e => h e.symm))
  simp only [go_sem, Int.reduceEq, Int.reduceLT, Int.reduceLE, eq_self, Int.natCast_nonneg, Int.toNat_natCast, hm2, hm0, hm3, hn3, stepD, htl, rngM_len, hqp, hqp2, hq0, rngM_get]
  refine ⟨inR_i64.2 (by omega), inR_i64.2 (by omega), ?_⟩
  rw [hset, ← nU (by decide) (by decide)]
  exact fin (ex := [_]) (by simp only [go_sem, Int.natCast_add, Int.cast_ofNat_Int])
 ·simp only [go_sem, Int.reduceEq, Int.reduceLT, Int.reduceLE, eq_self, Int.natCast_nonneg, Int.toNat_natCast, hm2, hm0, hm3, hn3, stepD, htl]
  refine ⟨inR_i64.2 (by omega), ?_⟩
  rw [← nU (by decide) (by decide), ← nL (by decide) (by decide)]
  exact fin (ex := [_]) (by simp only [go_sem, Int.natCast_add, Int.cast_ofNat_Int])
end Go.AM

set_option maxRecDepth 8000
set_option maxHeartbeats 4000000
namespace Go.AM
open Go Go.Proofs

theorem kills_dats (o : Nat) : ∀ xs : List D, AV.kills o (xs.map .dat) = xs.map .dat
 | [] => rfl
 | x :: xs => by rw [List.map_cons, AV.kills, kills_dats o xs]; rfl
theorem norm1_dats (xs : List D) : (xs.map AV.dat).map AV.norm1 = xs.map .dat := by rw [List.map_map]; rfl
theorem take_dats {k : Nat} {xs : List D} (h : xs.length = k) : List.take k (xs.map AV.dat) = xs.map .dat := List.take_of_length_le (by simp [h])
def stN (c : Nat) : D := stackD [⟨c, 0⟩]
theorem stacks_ini (W : List Nat) : stacksD (W.map fun c : Nat => [(⟨(c : Int), 0⟩ : PFr)]) = W.map stN := by simp [stacksD, stN]
theorem frzs_app (o : Nat) (ag : Option Nat) (xs : List D) (a b : List AV) : AV.frzs o ag xs (a ++ b) = AV.frzs o ag xs a ++ AV.frzs o ag xs b := by simp [frzs_map]
def startXR (ds : List D) (v : AV) : Prop := ∃ s : PSys, ds = [sysD s] ∧ s.fit ∧ v = .tup [.dat (stD (if checkE s = 0 then iniX s else [])), .dat (.int .i64 (checkE s))]
abbrev tabXS : List (Nat × Contract) := [(46, dataC checkR), (47, dataC wkR)]
theorem tabXS_ok : OkG Try.prog (tbl tabXS) := okG_cons check_ok (okG_cons workers_ok okG_nil)
theorem xstart_ok : OkF Try.prog 28 (dataC startXR) := by
 refine okF_data Try.func28 rfl (by decide) ?_
 rintro ds v ⟨s, rfl, hf, rfl⟩
 refine sem_of_awp (Γ := tbl tabXS) tabXS_ok _ _ _ ?_
 simp only [go_sem, Int.reduceEq, Int.reduceLT, Int.reduceLE, eq_self, Int.natCast_nonneg, Int.toNat_natCast, Try.ntmps28, sysD]
 refine call_data checkR (by simp) [sysD s] _ rfl ⟨s, rfl, hf, rfl⟩ (.inl rfl) ?_
 by_cases he : checkE s = 0
 case neg =>
  rw [if_neg he]
  simp only [go_sem, Int.reduceEq, Int.reduceLT, Int.reduceLE, eq_self, Int.natCast_nonneg, Int.toNat_natCast, he]
  refine post_res (.inl rfl) [.cell 2 29, .tmp 3] rfl ?_
  simp only [go_sem, stD, List.map_nil]
  exact le_fin (by simp only [go_sem]) (by simp only [go_sem])
 have hg := good_of he
 rw [if_pos he]
 simp only [go_sem, Int.reduceEq, Int.reduceLT, Int.reduceLE, eq_self, Int.natCast_nonneg, Int.toNat_natCast, he]
 refine call_data wkR (by simp) [sysD s] _ rfl ⟨s, rfl, hg, rfl⟩ (.inl rfl) ?_
 have hlen := wkL_len hg
 unfold iniX stD
 rw [stacks_ini]
 generalize wkL s = W at *
 simp only [go_sem, Int.reduceEq, Int.reduceLT, Int.reduceLE, eq_self, Int.natCast_nonneg, Int.toNat_natCast, nats_len]
 refine sem_le (le_addnilV 2 0 rfl rfl (Nat.zero_le _)) ?_
 refine sem_loop (fun k : Nat => ⟨slotsOf 31 [(1, .ptr 0 0 0), (2, .ptr 1 0 0), (3, .dat (.int .i64 0)), (5, .ptr 2 0 0), (15, .dat (.sl none (natsD W))), (16, .dat (.int .i64 W.length)), (17, .dat (.int .i64 k))], [sysO s, .box [.nils], .box [.sl 3 0 k], .vec (((W.take k).map stN).map .dat)], 0, []⟩)
  (fun k => k ≤ W.length) (fun k => W.length - k) 0 (Nat.zero_le _) ?_ ?_
 ·exact le_slots' (by simp only [go_sem, Int.natCast_zero])
 rintro k hk
 cases hd : W.drop k with
 | nil =>
  obtain rfl : k = W.length := end_of_drop hd hk
  have hk2 : ¬ (W.length : Int) < W.length := by omega
  rw [List.take_length]
  refine sem_le (le_freezeV 3 (ds := W.map stN) rfl (norm1_dats _) (Nat.zero_le _)) ?_
  refine sem_of_awp (Γ := tbl tabXS) tabXS_ok _ _ _ ?_
  have hW : List.take W.length (W.map stN) = W.map stN := List.take_of_length_le (by simp)
  simp only [go_sem, Int.reduceEq, Int.reduceLT, Int.reduceLE, eq_self, Int.natCast_nonneg, Int.toNat_natCast, hk2]
  refine post_res (.inl rfl) [.cell 2 29, .tmp 3] rfl ?_
  simp only [go_sem, hW]
  exact le_fin (by simp only [go_sem]) (by simp only [go_sem])
 | cons c r =>
 have hlt := lt_of_drop hd
 have hk2 : (k : Int) < W.length := by omega
 have hk0 : (0 : Int) ≤ k := Int.natCast_nonneg k
 have hn : D.nth (natsD W) k = .int .i64 c := nth_of_drop hd
 have htk : W.take (k + 1) = W.take k ++ [c] := take_of_drop hd
 refine sem_of_awp (Γ := tbl tabXS) tabXS_ok _ _ _ ?_
 have htl : (W.take k).length = k := by rw [List.length_take]; omega
 have htl2 : ((W.take k).map stN).length = k := by rw [List.length_map, htl]
 simp only [go_sem, Int.reduceEq, Int.reduceLT, Int.reduceLE, eq_self, Int.natCast_nonneg, Int.toNat_natCast, hk2, hk0, hlt, hn, nats_len, htl, htl2, take_dats htl2, kills_app, kills_dats]
 refine ⟨by omega, by omega, inR_i64.2 (by omega), k + 1, by omega, by omega, ?_⟩
 refine Le.trans (le_freeze 4 (ag := some 2) rfl (Nat.zero_le _)) ?_
 rw [htk, List.map_append, List.map_append]
 simp only [go_sem, frzs_app]
 refine le_end (own := [_, _, _, _]) (ex := [_, _]) (Nat.zero_le _) ?_ ?_ ?_
 ·simp only [go_sem, Int.natCast_add, Int.cast_ofNat_Int]
 ·simp only [go_sem]
 ·simp only [go_sem, Obj.under, AV.unders, AV.under]
  exact unders_app (by rw [unders_dats]; trivial) (by simp only [AV.unders, AV.under, and_self])
def iniXR (ds : List D) (v : AV) : Prop := ∃ s : PSys, ds = [sysD s] ∧ s.good ∧ v = .dat (stD (iniX s))
abbrev tabXI : List (Nat × Contract) := [(52, dataC wkR)]
theorem tabXI_ok : OkG Try.prog (tbl tabXI) := okG_cons rworkers_ok okG_nil
theorem rinitial_ok : OkF Try.prog 64 (dataC iniXR) := by
 refine okF_data Try.func64 rfl (by decide) ?_
 rintro ds v ⟨s, rfl, hg, rfl⟩
 refine sem_of_awp (Γ := tbl tabXI) tabXI_ok _ _ _ ?_
 simp only [go_sem, Int.reduceEq, Int.reduceLT, Int.reduceLE, eq_self, Int.natCast_nonneg, Int.toNat_natCast, Try.ntmps64, sysD]
 refine call_data wkR (by simp) [sysD s] _ rfl ⟨s, rfl, hg, rfl⟩ (.inl rfl) ?_
 have hlen := wkL_len hg
 unfold iniX stD
 rw [stacks_ini]
 generalize wkL s = W at *
 simp only [go_sem, Int.reduceEq, Int.reduceLT, Int.reduceLE, eq_self, Int.natCast_nonneg, Int.toNat_natCast]
 refine sem_le (le_addnilV 2 0 rfl rfl (Nat.zero_le _)) ?_
 refine sem_loop (fun k : Nat => ⟨slotsOf 27 [(1, .ptr 0 0 0), (2, .ptr 1 0 0), (3, .dat (.sl none (natsD W))), (4, .ptr 2 0 0), (5, .dat (.int .i64 k))], [sysO s, .box [.nils], .box [.sl 3 0 k], .vec (((W.take k).map stN).map .dat)], 0, []⟩)
  (fun k => k ≤ W.length) (fun k => W.length - k) 0 (Nat.zero_le _) ?_ ?_
 ·exact le_slots' (by simp only [go_sem, Int.natCast_zero])
 rintro k hk
 cases hd : W.drop k with
 | nil =>
  obtain rfl : k = W.length := end_of_drop hd hk
  have hk2 : ¬ (W.length : Int) < W.length := by omega
  rw [List.take_length]
  refine sem_le (le_freezeV 3 (ds := W.map stN) rfl (norm1_dats _) (Nat.zero_le _)) ?_
  refine sem_of_awp (Γ := tbl tabXI) tabXI_ok _ _ _ ?_
  have hW : List.take W.length (W.map stN) = W.map stN := List.take_of_length_le (by simp)
  simp only [go_sem, Int.reduceEq, Int.reduceLT, Int.reduceLE, eq_self, Int.natCast_nonneg, Int.toNat_natCast, hk2, nats_len]
  refine post_res (.inl rfl) [.cell 2 29] rfl ?_
  simp only [go_sem, hW]
  exact le_fin (by simp only [go_sem]) (by simp only [go_sem])
 | cons c r =>
 have hlt := lt_of_drop hd
 have hk2 : (k : Int) < W.length := by omega
 have hk0 : (0 : Int) ≤ k := Int.natCast_nonneg k
 have hn : D.nth (natsD W) k = .int .i64 c := nth_of_drop hd
 have htk : W.take (k + 1) = W.take k ++ [c] := take_of_drop hd
 have htl : (W.take k).length = k := by rw [List.length_take]; omega
 have htl2 : ((W.take k).map stN).length = k := by rw [List.length_map, htl]
 refine sem_of_awpK [5] (Γ := tbl tabXI) tabXI_ok _ _ _ ?_
 simp only [go_sem, Int.reduceEq, Int.reduceLT, Int.reduceLE, eq_self, Int.natCast_nonneg, Int.toNat_natCast, hk2, nats_len]
 refine sem_drawY [] [] (pf := []) (mf := []) mixed tabXI_ok pureNo noMk (.alt 0 (.one 1 (.alt 2 (.alt 3 (.alt 4 (.alt 5 (.alt 6 (.alt 7 (.one 8 (.one 9 (.one 10 (.one 11 .fin)))) .stop) .stop) .stop) .stop) .stop) (.alt 3 (.alt 2 (.alt 4 (.alt 5 (.alt 6 (.alt 7 (.one 8 (.one 9 (.one 10 (.one 11 .fin)))) .stop) .stop) .stop) .stop) .stop) .stop))) (.alt 2 (.alt 0 (.one 1 (.alt 3 (.alt 4 (.alt 5 (.alt 6 (.alt 7 (.one 8 (.one 9 (.one 10 (.one 11 .fin)))) .stop) .stop) .stop) .stop) .stop)) (.alt 3 (.alt 0 (.one 1 (.alt 4 (.alt 5 (.alt 6 (.alt 7 (.one 8 (.one 9 (.one 10 (.one 11 .fin)))) .stop) .stop) .stop) .stop)) (.alt 4 (.alt 0 (.one 1 (.alt 5 (.alt 6 (.alt 7 (.one 8 (.one 9 (.one 10 (.one 11 .fin)))) .stop) .stop) .stop)) (.alt 5 (.alt 0 (.one 1 (.alt 6 (.alt 7 (.one 8 (.one 9 (.one 10 (.one 11 .fin)))) .stop) .stop)) (.alt 6 (.alt 0 (.one 1 (.alt 7 (.one 8 (.one 9 (.one 10 (.one 11 .fin)))) .stop)) (.alt 7 (.alt 0 (.one 1 (.one 8 (.one 9 (.one 10 (.one 11 .fin))))) (.alt 8 (.alt 0 (.one 1 (.one 9 (.one 10 (.one 11 .fin)))) .stop) .stop)) .stop)) .stop)) .stop)) .stop)) .stop)) (.alt 3 (.alt 0 (.one 1 (.alt 2 (.alt 4 (.alt 5 (.alt 6 (.alt 7 (.one 8 (.one 9 (.one 10 (.one 11 .fin)))) .stop) .stop) .stop) .stop) .stop)) (.alt 2 (.alt 0 (.one 1 (.alt 4 (.alt 5 (.alt 6 (.alt 7 (.one 8 (.one 9 (.one 10 (.one 11 .fin)))) .stop) .stop) .stop) .stop)) (.alt 4 (.alt 0 (.one 1 (.alt 5 (.alt 6 (.alt 7 (.one 8 (.one 9 (.one 10 (.one 11 .fin)))) .stop) .stop) .stop)) (.alt 5 (.alt 0 (.one 1 (.alt 6 (.alt 7 (.one 8 (.one 9 (.one 10 (.one 11 .fin)))) .stop) .stop)) (.alt 6 (.alt 0 (.one 1 (.alt 7 (.one 8 (.one 9 (.one 10 (.one 11 .fin)))) .stop)) (.alt 7 (.alt 0 (.one 1 (.one 8 (.one 9 (.one 10 (.one 11 .fin))))) (.alt 8 (.alt 0 (.one 1 (.one 9 (.one 10 (.one 11 .fin)))) .stop) .stop)) .stop)) .stop)) .stop)) .stop)) .stop)) .stop))) (by kernel_rfl) ?_
 generalize hK : andThenK [5] Try.prog (tbl tabXI) _ _ = Q
 have hcl : ∀ σ σ', Le σ σ' → Q .normal σ' → Q .normal σ := by
  subst hK
  intro σ σ' h1 h2
  exact sem_le h1 h2
 suffices hQ1 : Q .normal ⟨slotsOf 27 [(1, .ptr 0 0 0), (2, .ptr 1 0 0), (3, .dat (.sl none (natsD W))), (4, .ptr 2 0 0), (5, .dat (.int .i64 k))], [sysO s, .box [.nils], .box [.sl 3 0 (k + 1)], .vec (((W.take (k + 1)).map stN).map .dat)], 0, []⟩ by
  have b1 : k ≤ 140737488355327 := by omega
  have b2 : (k + 1) * 24 ≤ 140737488355328 := by omega
  have hlf : ∀ (sl : List AV), slotsLe (AV.frzs 4 (some 2) [D.agg [D.int IntKind.i64 ↑c, D.int IntKind.i64 0]] sl) (slotsOf 27 [(1, .ptr 0 0 0), (2, .ptr 1 0 0), (3, .dat (.sl none (natsD W))), (4, .ptr 2 0 0), (5, .dat (.int .i64 k))]) → Q .normal ⟨sl, [sysO s, .box [.nils], .box [.sl 3 0 (k + 1)], .vec (((W.take k).map stN).map .dat ++ [.sl 4 0 1]), .row (some 2) [D.agg [D.int IntKind.i64 ↑c, D.int IntKind.i64 0]], .vec [.sl 4 0 1]], 0, []⟩ := by
   intro sl hsl
   refine hcl _ _ (Le.trans (le_freeze 4 (ag := some 2) rfl (Nat.zero_le _)) ?_) hQ1
   rw [htk, List.map_append, List.map_append]
   simp only [go_sem, frzs_app]
   refine le_end (own := [_, _, _, _]) (ex := [_, _]) (Nat.zero_le _) hsl ?_ ?_
   ·simp only [go_sem]
   ·simp only [go_sem, Obj.under, AV.unders, AV.under]
    exact unders_app (by rw [unders_dats]; trivial) (by simp only [AV.unders, AV.under, and_self])
  simp only [go_sem, Int.reduceEq, Int.reduceLT, Int.reduceLE, eq_self, Int.natCast_nonneg, Int.toNat_natCast, hk2, hk0, hlt, hn, nats_len, htl, htl2, take_dats htl2, kills_app, kills_dats, b1, b2]
  repeat' apply And.intro
  all_goals exact hlf _ (by simp only [go_sem])
 subst hK
 simp only [go_sem, Int.reduceEq, Int.reduceLT, Int.reduceLE, eq_self, Int.natCast_nonneg, Int.toNat_natCast]
 refine sem_of_awp (Γ := tbl tabXI) tabXI_ok _ _ _ ?_
 simp only [go_sem, Int.reduceEq, Int.reduceLT, Int.reduceLE, eq_self, Int.natCast_nonneg, Int.toNat_natCast]
 refine ⟨inR_i64.2 (by omega), k + 1, by omega, by omega, ?_⟩
 exact le_slots' (by simp only [go_sem, Int.natCast_add, Int.cast_ofNat_Int])
end Go.AM

set_option maxRecDepth 8000
set_option maxHeartbeats 4000000
namespace Go.AM
open Go Go.Proofs

abbrev tabXT : List (Nat × Contract) := [(51, dataC checkR), (64, dataC iniXR)]
theorem tabXT_ok : OkG Try.prog (tbl tabXT) := okG_cons rcheck_ok (okG_cons rinitial_ok okG_nil)
theorem rStart_ok : OkF Try.prog 25 (dataC startXR) := by
 refine okF_data Try.func25 rfl (by decide) ?_
 rintro ds v ⟨s, rfl, hf, rfl⟩
 refine sem_of_awp (Γ := tbl tabXT) tabXT_ok _ _ _ ?_
 simp only [go_sem, Int.reduceEq, Int.reduceLT, Int.reduceLE, eq_self, Int.natCast_nonneg, Int.toNat_natCast, Try.ntmps25, sysD]
 refine call_data checkR (by simp) [sysD s] _ rfl ⟨s, rfl, hf, rfl⟩ (.inl rfl) ?_
 by_cases he : checkE s = 0
 case neg =>
  rw [if_neg he]
  simp only [go_sem, Int.reduceEq, Int.reduceLT, Int.reduceLE, eq_self, Int.natCast_nonneg, Int.toNat_natCast, he]
  refine post_res (.inl rfl) [.cell 2 29, .tmp 3] rfl ?_
  simp only [go_sem, stD, List.map_nil]
  exact le_fin (by simp only [go_sem]) (by simp only [go_sem])
 have hg := good_of he
 rw [if_pos he]
 simp only [go_sem, Int.reduceEq, Int.reduceLT, Int.reduceLE, eq_self, Int.natCast_nonneg, Int.toNat_natCast, he]
 refine call_data iniXR (by simp) [sysD s] _ rfl ⟨s, rfl, hg, rfl⟩ (.inl rfl) ?_
 simp only [go_sem, Int.reduceEq, Int.reduceLT, Int.reduceLE, eq_self, Int.natCast_nonneg, Int.toNat_natCast, stD]
 refine post_res (.inl rfl) [.cell 2 29, .tmp 3] rfl ?_
 simp only [go_sem]
 exact le_fin (by simp only [go_sem]) (by simp only [go_sem])

def topR (ds : List D) (v : AV) : Prop := ∃ (s : PSys) (x : PSt) (w : Nat), ds = [sysD s, stD x, .int .i64 w] ∧ w < x.length ∧ x.length ≤ 1000 ∧ 0 < (x.getD w []).length ∧ (x.getD w []).length ≤ 1000 ∧ frOk s (topF (x.getD w [])) = true ∧ v = .dat (stepD (topS s x w))
theorem top_ok : OkF Try.prog 42 (dataC topR) := by
 refine okF_data Try.func42 rfl (by decide) ?_
 rintro ds v ⟨s, x, w, rfl, hw, hxl, hl0, hl1, hfo, rfl⟩
 have hw1 : (w : Int) < x.length := by omega
 have hw0 : (0 : Int) ≤ w := Int.natCast_nonneg w
 have hxl2 : (stacksD x).length = x.length := by simp
 have hn : D.nth (stacksD x) w = stackD (x.getD w []) := D.nth_map hw
 unfold topS
 generalize x.getD w [] = l at *
 have hlf : (frsD l).length = l.length := by simp
 have hq1 : (l.length : Int) - 1 = ((l.length - 1 : Nat) : Int) := by omega
 have hq2 : ((l.length - 1 : Nat) : Int) < l.length := by omega
 have hq3 : l.length - 1 < l.length := by omega
 have hq4 : (0 : Int) ≤ ((l.length - 1 : Nat) : Int) := Int.natCast_nonneg _
 have hqn : D.nth (frsD l) (l.length - 1) = frD (topF l) := D.nth_map hq3
 generalize topF l = q at *
 obtain ⟨d1, d2, d3, d4⟩ := frOk_iff.1 hfo
 obtain ⟨j, hj, hjl, hjn⟩ := cls_nth (s := s) (f := q) d1 d2
 obtain ⟨b, hb, hbl, hbn⟩ := step_nth (s := s) (f := q) d3 d4
 have hj2 : (j : Int) < s.classes.length := by omega
 have hj0 : (0 : Int) ≤ j := Int.natCast_nonneg j
 have hb2 : (b : Int) < (clsAt s q).steps.length := by omega
 have hb0 : (0 : Int) ≤ b := Int.natCast_nonneg b
 generalize stepAtF s q = x at *
 generalize clsAt s q = cq at *
 refine sem_of_awp (Γ := tbl []) okG_nil _ _ _ ?_
 simp only [go_sem, Int.reduceEq, Int.reduceLT, Int.reduceLE, eq_self, Int.natCast_nonneg, Int.toNat_natCast, Try.ntmps42, sysD, stD, hw1, hw0, hw, hxl2, hn, stackD, hlf, hq1, hq2, hq3, hq4, hqn, frD]
 refine ⟨inR_i64.2 (by omega), ?_⟩
 refine sem_drawY [] [] (pf := []) (mf := []) mixed okG_nil pureNo noMk (ones [0, 1, 2, 3, 4, 5, 6, 7, 8, 9, 10, 11]) (by kernel_rfl) ?_
 simp only [go_sem, Int.reduceEq, Int.reduceLT, Int.reduceLE, eq_self, Int.natCast_nonneg, Int.toNat_natCast, hj, hj2, hj0, hjl, hjn, clsD, stepsD, hb, hb2, hb0, hbl, hbn, stepD, List.length_map]
 refine post_res (.inl rfl) [.cell 6 65] rfl ?_
 simp only [go_sem]
 exact le_fin (by simp only [go_sem]) (by simp only [go_sem])

def possR (ds : List D) (v : AV) : Prop := ∃ (s : PSys) (L : List PFr) (x : PStep), ds = [sysD s, useD s L, stepD x] ∧ s.good ∧ (∀ f ∈ L, frOk s f = true) ∧ L.length ≤ 1000000 ∧ preE s x = 0 ∧ v = .dat (.bool (posB s L x))
theorem posB_1 {s : PSys} {L : List PFr} {q : Nat} {cnt : Int} {deep : Bool} : posB s L ⟨1, q, cnt, deep⟩ = ((deep && decide (0 ≤ (s.pools.getD q default).size - sumI (frU s q) L - cnt)) || decide ((s.pools.getD q default).res ≤ (s.pools.getD q default).size - sumI (frU s q) L - cnt)) := rfl
theorem posB_2 {s : PSys} {L : List PFr} {q : Nat} {cnt : Int} {deep : Bool} : posB s L ⟨2, q, cnt, deep⟩ = true := rfl
theorem posB_3 {s : PSys} {L : List PFr} {q : Nat} {cnt : Int} {deep : Bool} : posB s L ⟨3, q, cnt, deep⟩ = decide (sumI (frL s q) L = 0) := rfl
theorem posB_4 {s : PSys} {L : List PFr} {q : Nat} {cnt : Int} {deep : Bool} : posB s L ⟨4, q, cnt, deep⟩ = true := rfl
theorem posB_5 {s : PSys} {L : List PFr} {q : Nat} {cnt : Int} {deep : Bool} : posB s L ⟨5, q, cnt, deep⟩ = decide (sumI (frE s q) L < (s.classes.getD q default).workers) := rfl
theorem possible_ok : OkF Try.prog 40 (dataC possR) := by
 refine okF_data Try.func40 rfl (by decide) ?_
 rintro ds v ⟨s, L, x, rfl, hg, hL, hLl, hp, rfl⟩
 obtain ⟨⟨k1, k2⟩, ⟨o1, o2⟩, hc, hc0⟩ := preE_0 hp
 have hcn := pre_tame hg.tame hp
 obtain ⟨kind, on, cnt, deep⟩ := x
 simp only at k1 k2 o1 o2 hc hc0 hcn
 unfold mostE at o2
 obtain ⟨q, rfl⟩ : ∃ q : Nat, on = q := ⟨on.toNat, by omega⟩
 have hq0 : (0 : Int) ≤ q := Int.natCast_nonneg q
 have hk5 : kind = 1 ∨ kind = 2 ∨ kind = 3 ∨ kind = 4 ∨ kind = 5 := by omega
 have ht := sum_tame hg hL hLl q
 have hU : (talU s L).length = s.pools.length := by simp [talU]
 have hLk : (talL s L).length = s.locks.length := by simp [talL]
 have hE : (talE s L).length = s.classes.length := by simp [talE]
 have hpl : (s.pools.map poolD).length = s.pools.length := by simp
 have hcl : (s.classes.map clsD).length = s.classes.length := by simp
 refine sem_of_awp (Γ := tbl []) okG_nil _ _ _ ?_
 rcases hk5 with rfl | rfl | rfl | rfl | rfl
 ·have hqp : (q : Int) < s.pools.length := by simpa using o2
  have hqp2 : q < s.pools.length := by omega
  have hUn : D.nth (intsD (talU s L)) q = .int .i64 (sumI (frU s q) L) := rngM_get hqp2
  have hpn : D.nth (s.pools.map poolD) q = poolD (s.pools.getD q default) := D.nth_map hqp2
  have hpk := hg.pool (s.pools.getD q default) (by rw [List.getD_eq_getElem?_getD, List.getElem?_eq_getElem hqp2]; exact List.getElem_mem _)
  unfold PPool.bad at hpk
  rw [posB_1]
  generalize s.pools.getD q default = pk at hpn hpk ⊢
  have htU := ht.1
  generalize sumI (frU s q) L = U at hUn htU ⊢
  simp only [go_sem, Int.reduceEq, Int.reduceLT, Int.reduceLE, eq_self, Int.natCast_nonneg, Int.toNat_natCast, Try.ntmps40, sysD, useD, stepD]
  refine sem_drawY [] [] (pf := []) (mf := []) mixed okG_nil pureNo noMk (ones [0, 1, 2, 3, 4, 5, 6, 7, 8, 9, 10, 11, 12, 13, 14, 15, 16, 17]) (by kernel_rfl) ?_
  simp only [go_sem, Int.reduceEq, Int.reduceLT, Int.reduceLE, eq_self, Int.natCast_nonneg, Int.toNat_natCast, hqp, hqp2, hq0, hUn, hpn, hpl, ints_len, hU, poolD]
  refine ⟨inR_i64.2 (by omega), inR_i64.2 (by omega), ?_⟩
  cases deep with
  | false =>
   simp only [go_sem, Int.reduceEq, Int.reduceLT, Int.reduceLE, eq_self, Int.natCast_nonneg, Int.toNat_natCast, hqp, hqp2, hq0, hpn, hpl, poolD]
   exact post_data (.inl rfl) [6] rfl trivial (by simp only [tmpsOf]; rfl)
  | true =>
   by_cases h0 : 0 ≤ pk.size - U - cnt
   ·simp only [go_sem, Int.reduceEq, Int.reduceLT, Int.reduceLE, eq_self, Int.natCast_nonneg, Int.toNat_natCast, h0, hqp, hqp2, hq0, hpn, hpl, poolD]
    exact post_data (.inl rfl) [6] rfl trivial (by simp only [tmpsOf]; rfl)
   ·simp only [go_sem, Int.reduceEq, Int.reduceLT, Int.reduceLE, eq_self, Int.natCast_nonneg, Int.toNat_natCast, h0, hqp, hqp2, hq0, hpn, hpl, poolD]
    exact post_data (.inl rfl) [6] rfl trivial (by simp only [tmpsOf]; rfl)
 ·rw [posB_2]
  simp only [go_sem, Int.reduceEq, Int.reduceLT, Int.reduceLE, eq_self, Int.natCast_nonneg, Int.toNat_natCast, Try.ntmps40, sysD, useD, stepD]
  exact post_data (.inl rfl) [6] rfl trivial rfl
 ·have hqp : (q : Int) < s.locks.length := by simpa using o2
  have hqp2 : q < s.locks.length := by omega
  have hUn : D.nth (intsD (talL s L)) q = .int .i64 (sumI (frL s q) L) := rngM_get hqp2
  rw [posB_3]
  have htU := ht.2.1
  generalize sumI (frL s q) L = U at hUn htU ⊢
  simp only [go_sem, Int.reduceEq, Int.reduceLT, Int.reduceLE, eq_self, Int.natCast_nonneg, Int.toNat_natCast, Try.ntmps40, sysD, useD, stepD, hqp, hqp2, hq0, hUn, ints_len, hLk]
  exact post_data (.inl rfl) [6] rfl trivial rfl
 ·rw [posB_4]
  simp only [go_sem, Int.reduceEq, Int.reduceLT, Int.reduceLE, eq_self, Int.natCast_nonneg, Int.toNat_natCast, Try.ntmps40, sysD, useD, stepD]
  exact post_data (.inl rfl) [6] rfl trivial rfl
 ·have hqp : (q : Int) < s.classes.length := by simpa using o2
  have hqp2 : q < s.classes.length := by omega
  have hUn : D.nth (intsD (talE s L)) q = .int .i64 (sumI (frE s q) L) := rngM_get hqp2
  have hcn : D.nth (s.classes.map clsD) q = clsD (s.classes.getD q default) := D.nth_map hqp2
  rw [posB_5]
  have htU := ht.2.2
  generalize s.classes.getD q default = ck at hcn ⊢
  generalize sumI (frE s q) L = U at hUn htU ⊢
  simp only [go_sem, Int.reduceEq, Int.reduceLT, Int.reduceLE, eq_self, Int.natCast_nonneg, Int.toNat_natCast, Try.ntmps40, sysD, useD, stepD]
  refine sem_drawY [] [] (pf := []) (mf := []) mixed okG_nil pureNo noMk (ones [0, 1, 2, 3, 4, 5, 6, 7, 8, 9, 10, 11, 12, 13, 14]) (by kernel_rfl) ?_
  simp only [go_sem, Int.reduceEq, Int.reduceLT, Int.reduceLE, eq_self, Int.natCast_nonneg, Int.toNat_natCast, hqp, hqp2, hq0, hUn, hcn, hcl, ints_len, hE, clsD, stepsD]
  exact post_data (.inl rfl) [6] rfl trivial rfl
end Go.AM

set_option maxRecDepth 8000
set_option maxHeartbeats 1000000
namespace Go.AM
open Go Go.Proofs

def mxR (pool : Int) (d : Bool) (l : List PStep) : Nat → Int
 | 0 => 0
 | k + 1 => mxN pool d l k
abbrev tabRD : List (Nat × Contract) := [(51, dataC checkR), (82, dataC unitsR)]
def waitB (s : PSys) (x : PStep) : Bool :=
 if x.kind = 3 ∨ x.kind = 5 then true else if x.kind = 1 then
  decide ((s.pools.getD x.on.toNat default).size - (s.pools.getD x.on.toNat default).res < demL x.on false s.classes) && !(x.deep && decide (demL x.on true s.classes ≤ (s.pools.getD x.on.toNat default).res))
 else false
def waitsR (ds : List D) (v : AV) : Prop := ∃ (s : PSys) (x : PStep), ds = [sysD s, stepD x] ∧ s.good ∧ preE s x = 0 ∧ v = .dat (.bool (waitB s x))
def stepAt (s : PSys) (c k : Int) : PStep := (s.classes.getD c.toNat default).steps.getD k.toNat default
def noStep (s : PSys) (c k : Int) : Prop := c < 0 ∨ (s.classes.length : Int) ≤ c ∨ k < 0 ∨ ((s.classes.getD c.toNat default).steps.length : Int) ≤ k
instance (s : PSys) (c k : Int) : Decidable (noStep s c k) := by unfold noStep; exact inferInstance
def waitN (s : PSys) (c k : Int) : Bool := if checkE s ≠ 0 ∨ noStep s c k then false else waitB s (stepAt s c k)
def waitNR (ds : List D) (v : AV) : Prop := ∃ (s : PSys) (c k : Int), ds = [sysD s, .int .i64 c, .int .i64 k] ∧ s.fit ∧ v = .dat (.bool (waitN s c k))
abbrev tabWA : List (Nat × Contract) := [(46, dataC checkR), (87, dataC waitsR)]
end Go.AM

set_option maxRecDepth 8000
set_option maxHeartbeats 1000000
namespace Go.AM
open Go Go.Proofs

def ampleR (ds : List D) (v : AV) : Prop := ∃ (s : PSys) (i : Nat), ds = [sysD s, .int .i64 i] ∧ s.fit ∧ checkE s = 0 ∧ i < s.pools.length ∧ v = .dat (.bool (decide (demL i false s.classes ≤ (s.pools.getD i default).size - (s.pools.getD i default).res)))
def safeR (ds : List D) (v : AV) : Prop := ∃ (s : PSys) (i : Nat), ds = [sysD s, .int .i64 i] ∧ s.fit ∧ checkE s = 0 ∧ i < s.pools.length ∧ v = .dat (.bool (decide (demL i true s.classes ≤ (s.pools.getD i default).res)))
end Go.AM

set_option maxRecDepth 8000
set_option maxHeartbeats 1000000
namespace Go.AM
open Go Go.Proofs

def balU (s : PSys) (l : List PStep) : List Int := (List.range s.pools.length).map fun i => bal l (i : Nat) 0
def balB (s : PSys) (l : List PStep) : List Bool := (List.range s.locks.length).map fun i => decide (0 < bal l (i : Nat) 1)
def heldV (s : PSys) (c k : Int) : AV :=
 if checkE s ≠ 0 then .tup [.dat (.sl none []), .dat (.sl none []), .dat (.int .i64 (checkE s))] else
 if c < 0 ∨ (s.classes.length : Int) ≤ c ∨ k < 0 ∨ ((s.classes.getD c.toNat default).steps.length : Int) < k then .tup [.dat (.sl none []), .dat (.sl none []), .dat (.int .i64 2)] else
 .tup [.dat (.sl none (intsD (balU s ((s.classes.getD c.toNat default).steps.take k.toNat)))), .dat (.sl none (boolsD (balB s ((s.classes.getD c.toNat default).steps.take k.toNat)))), .dat (.int .i64 0)]
def heldR (ds : List D) (v : AV) : Prop := ∃ (s : PSys) (c k : Int), ds = [sysD s, .int .i64 c, .int .i64 k] ∧ s.fit ∧ v = heldV s c k

abbrev tabPH : List (Nat × Contract) := [(46, dataC checkR), (95, madeC startR), (96, normC (lentC hstepR))]
end Go.AM

set_option maxRecDepth 8000
set_option maxHeartbeats 1000000
namespace Go.AM
open Go Go.Proofs

abbrev tabRH : List (Nat × Contract) := [(51, dataC checkR), (100, dataC balR)]
def targetN (s : PSys) (x : PStep) : Int := if x.kind = 3 then s.pools.length + x.on else if x.kind = 5 then (s.pools.length : Int) + s.locks.length + x.on else x.on
def targetR (ds : List D) (v : AV) : Prop := ∃ (s : PSys) (x : PStep), ds = [sysD s, stepD x] ∧ s.good ∧ preE s x = 0 ∧ v = .dat (.int .i64 (targetN s x))
end Go.AM

set_option maxRecDepth 8000
set_option maxHeartbeats 1000000
namespace Go.AM
open Go Go.Proofs

def hU : Nat → List Int → List Int
 | _, [] => []
 | i, n :: r => if 0 < n then (i : Int) :: hU (i + 1) r else hU (i + 1) r
def hB (off : Int) : Nat → List Bool → List Int
 | _, [] => []
 | i, b :: r => if b = true then (off + i) :: hB off (i + 1) r else hB off (i + 1) r
def hC (s : PSys) (c : PCls) (i : Int) : List Int := if c.server = true then [(s.pools.length : Int) + s.locks.length + i] else []
def holdL (s : PSys) (c : PCls) (i : Int) (L : List PStep) : List Int := hU 0 (balU s L) ++ hB s.pools.length 0 (balB s L) ++ hC s c i
theorem ownU_bal (i : Int) (l : List PStep) : (ownU i l).1 = bal l i 0 := by
 have : ∀ (l : List PStep) (p : Int × Int), (l.foldl (ustep i) p).1 = l.foldl (bstep i 0) p.1 := by
  intro l
  induction l with
  | nil => intro p; rfl
  | cons x r ih =>
   intro p
   simp only [List.foldl_cons]
   rw [ih]
   congr 1
   unfold ustep bstep
   (repeat' split) <;> first | rfl | omega
 exact this l (0, 0)
def holdR (ds : List D) (v : AV) : Prop := ∃ (s : PSys) (i j : Nat), ds = [sysD s, .int .i64 i, .int .i64 j] ∧ s.fit ∧ checkE s = 0 ∧ i < s.classes.length ∧ j ≤ (s.classes.getD i default).steps.length ∧
 v = .dat (.sl none (intsD (holdL s (s.classes.getD i default) i ((s.classes.getD i default).steps.take j))))
abbrev tabHO : List (Nat × Contract) := [(105, dataC heldR)]
end Go.AM

set_option maxRecDepth 8000
set_option maxHeartbeats 1000000
namespace Go.AM
open Go Go.Proofs

end Go.AM

set_option maxRecDepth 8000
set_option maxHeartbeats 1000000
namespace Go.AM
open Go Go.Proofs

def hasE (l : List PEdge) (a b : Int) : Bool := l.any fun y => decide (y.src = a) && decide (y.dst = b)
def addE (l : List PEdge) (x : PEdge) : List PEdge := if hasE l x.src x.dst = true then l else l ++ [x]
def addR (xs : List AV) (obs : List Obj) (v0 : AV) (obs' ex : List Obj) (mv0 : List Nat) : Prop := ∃ (l : List PEdge) (x : PEdge), l.length ≤ 10000 ∧ xs = [.sl 0 0 l.length, .dat (edgeD x)] ∧ obs = [.row (some 4) (edgesD l)] ∧
 v0 = .sl 0 0 (addE l x).length ∧ obs' = [.row (some 4) (edgesD (addE l x))] ∧ ex = [] ∧ mv0 = [0]
def addAll (t i k : Int) : List Int → List PEdge → List PEdge
 | [], acc => acc
 | f :: r, acc => addAll t i k r (addE acc ⟨f, t, i, k⟩)
def edS (s : PSys) (c : PCls) (i : Nat) : Nat → List PStep → List PEdge → List PEdge
 | _, [], acc => acc
 | k, x :: r, acc => edS s c i (k + 1) r (if waitB s x = true then addAll (targetN s x) i k (holdL s c i (c.steps.take k)) acc else acc)
def edC (s : PSys) : Nat → List PCls → List PEdge → List PEdge
 | _, [], acc => acc
 | i, c :: r, acc => edC s (i + 1) r (edS s c i 0 c.steps acc)
def edgesV (s : PSys) : AV := if checkE s ≠ 0 then .tup [.dat (.sl none []), .dat (.int .i64 (checkE s))] else .tup [.dat (.sl (some 4) (edgesD (edC s 0 s.classes []))), .dat (.int .i64 0)]
def edgesR (ds : List D) (v : AV) : Prop := ∃ s : PSys, ds = [sysD s] ∧ s.fit ∧ v = edgesV s

end Go.AM

set_option maxRecDepth 8000
set_option maxHeartbeats 1000000
namespace Go.AM
open Go Go.Proofs

def isEdge (s : PSys) (c : PCls) (i : Nat) (k : Nat) (x : PStep) (e : PEdge) : Prop := waitB s x = true ∧ e.cls = i ∧ e.step = k ∧ e.dst = targetN s x ∧ e.src ∈ holdL s c i (c.steps.take k)
def holdB (s : PSys) (c : PCls) (i : Nat) (L : List PStep) (r : Nat) : Bool :=
 if r < s.pools.length then decide (0 < (balU s L).getD r 0) else
 if r < s.pools.length + s.locks.length then (balB s L).getD (r - s.pools.length) false else
 c.server && decide (r = s.pools.length + s.locks.length + i)
structure PEdge.fit (e : PEdge) : Prop where
 s : 0 ≤ e.src ∧ e.src ≤ 100
 d : 0 ≤ e.dst ∧ e.dst ≤ 100
 c : 0 ≤ e.cls ∧ e.cls ≤ 100
 k : 0 ≤ e.step ∧ e.step ≤ 100
def metE (i k r j : Nat) (m : Nat) (e : PEdge) : Prop := e.cls < i ∨ (e.cls = i ∧ (e.step < k ∨ (e.step = k ∧ (e.src < r ∨ (e.src = r ∧ m < j)))))
def usedI (E : List PEdge) (used : List Bool) (i k r j : Nat) : Prop := used.length = E.length ∧ ∀ m e, E[m]? = some e → metE i k r j m e → used.getD m false = true
structure EFacts (s : PSys) (E : List PEdge) : Prop where
 mem : ∀ e ∈ E, ∃ (i k : Nat) (c : PCls) (x : PStep), s.classes[i]? = some c ∧ c.steps[k]? = some x ∧ isEdge s c i k x e
 has : ∀ (i k : Nat) (c : PCls) (x : PStep) (f : Int), s.classes[i]? = some c → c.steps[k]? = some x → waitB s x = true → f ∈ holdL s c i (c.steps.take k) → hasE E f (targetN s x) = true
end Go.AM

set_option maxRecDepth 8000
set_option maxHeartbeats 1000000
namespace Go.AM
open Go Go.Proofs

abbrev endD (a b : Int) : D := .agg [.int .i64 a, .int .i64 b]
def keyE (e : PEdge) : D × D := (endD e.src e.dst, .bool true)
abbrev seenM (l : List PEdge) : List (D × D) := l.map keyE
abbrev tabWE : List (Nat × Contract) := [(46, dataC checkR), (87, dataC waitsR), (88, dataC targetR), (89, dataC holdR)]
end Go.AM

set_option maxRecDepth 8000
set_option maxHeartbeats 1000000
namespace Go.AM
open Go Go.Proofs

def sameER (ds : List D) (v : AV) : Prop := ∃ (ag : Option Nat) (l : List PEdge), (ag = some 4 ∨ l = []) ∧ l.length ≤ 10000 ∧ (∀ e ∈ l, e.fit) ∧ ds = [.sl ag (edgesD l), .sl ag (edgesD l)] ∧ v = .dat (.bool true)
end Go.AM

set_option maxRecDepth 8000
set_option maxHeartbeats 2000000
namespace Go.AM
open Go Go.Proofs

def impB (s : PSys) (x : PStep) : Bool :=
 if x.kind = 1 then !x.deep && decide ((s.pools.getD x.on.toNat default).size - (s.pools.getD x.on.toNat default).res < x.cnt)
 else if x.kind = 5 then decide ((s.classes.getD x.on.toNat default).workers = 0) else false
def impR (ds : List D) (v : AV) : Prop := ∃ (s : PSys) (x : PStep), ds = [sysD s, stepD x] ∧ s.good ∧ preE s x = 0 ∧ v = .dat (.bool (impB s x))
def fstL {α : Type} (p : α → Bool) : Nat → List α → Option Nat
 | _, [] => none
 | k, x :: r => if p x = true then some k else fstL p (k + 1) r
def fstI : Option Nat → Int
 | some k => (k : Int)
 | none => -1
theorem fstL_none {α : Type} {p : α → Bool} : ∀ {k : Nat} {L : List α}, fstL p k L = none ↔ ∀ x ∈ L, p x = false
 | _, [] => by simp [fstL]
 | k, x :: r => by
  cases h : p x with
  | true => simp [fstL, h]
  | false => simp [fstL, h, fstL_none (k := k + 1) (L := r)]
theorem fstL_some {α : Type} {p : α → Bool} : ∀ {k j : Nat} {L : List α}, fstL p k L = some j → ∃ i x, j = k + i ∧ L[i]? = some x ∧ p x = true
 | k, j, [], h => by cases h
 | k, j, x :: r, h => by
  cases hx : p x with
  | true => simp only [fstL, hx, if_true, Option.some.injEq] at h; exact ⟨0, x, h.symm, rfl, hx⟩
  | false =>
   rw [fstL, hx, if_neg (by decide)] at h
   obtain ⟨i, y, h1, h2, h3⟩ := fstL_some h
   exact ⟨i + 1, y, by omega, by simpa using h2, h3⟩
def fstC (s : PSys) : Nat → List PCls → Option (Nat × Nat)
 | _, [] => none
 | i, c :: r => match fstL (impB s) 0 c.steps with | some k => some (i, k) | none => fstC s (i + 1) r
def fstV : Option (Nat × Nat) → AV
 | some (i, k) => .tup [.dat (.int .i64 (i : Int)), .dat (.int .i64 (k : Int)), .dat (.bool true)]
 | none => .tup [.dat (.int .i64 0), .dat (.int .i64 0), .dat (.bool false)]
def impO (s : PSys) : Option (Nat × Nat) := if checkE s ≠ 0 then none else fstC s 0 s.classes
def impVR (ds : List D) (v : AV) : Prop := ∃ s : PSys, ds = [sysD s] ∧ s.fit ∧ v = fstV (impO s)
def clIR (xs : List AV) (obs : List Obj) (v0 : AV) (obs' ex : List Obj) (mv0 : List Nat) : Prop := ∃ (s : PSys) (x : PStep), s.good ∧ preE s x = 0 ∧
 xs = [.dat (stepD x), .ptr 0 0 0] ∧ obs = [sysO s] ∧ v0 = .dat (.bool (impB s x)) ∧ obs' = obs ∧ ex = [] ∧ mv0 = []
def ixIR (xs : List AV) (obs : List Obj) (v0 : AV) (obs' ex : List Obj) (mv0 : List Nat) : Prop := ∃ (s : PSys) (L : List PStep), s.good ∧ (∀ x ∈ L, preE s x = 0) ∧ L.length ≤ 100 ∧
 xs = [.dat (stepsD L), .fn 91 [.ptr 0 0 0]] ∧ obs = [sysO s] ∧ v0 = .dat (.int .i64 (fstI (fstL (impB s) 0 L))) ∧ obs' = obs ∧ ex = [] ∧ mv0 = []
abbrev tabIS : List (Nat × Contract) := [(91, pureOf (lentC clIR))]
abbrev tabIM : List (Nat × Contract) := [(46, dataC checkR), (90, pureOf (lentC ixIR))]
end Go.AM

