/- Own work over the model of the kit. -/
import Derived.Test.YtaecpbaaadpfgaaD14
set_option linter.unusedSimpArgs false
set_option linter.unusedVariables false
set_option maxHeartbeats 4000000
set_option maxRecDepth 8000
namespace Go.AM
open Go Go.Proofs
abbrev rngM (n : Nat) (g : Nat -> Int) : List Int := (List.range n).map g
theorem rngM_len {n : Nat} {g : Nat -> Int} : (rngM n g).length = n := by simp
theorem rngM_get {n i : Nat} {g : Nat -> Int} (h : i < n) : D.nth (intsD (rngM n g)) i = .int .i64 (g i) := by
 simp [D.nth, List.getD_eq_getElem?_getD, h]
theorem rngM_set {n i : Nat} {g g' : Nat -> Int} {v : Int} (h : i < n) (hv : g' i = v) (ho : ∀ j, j < n -> j ≠ i -> g' j = g j) : (intsD (rngM n g)).set i (.int .i64 v) = intsD (rngM n g') := by
 refine List.ext_getElem? fun j => ?_
 rw [List.getElem?_set]
 by_cases e : i = j
 ·subst e
  simp [h, hv]
 ·rw [if_neg e]
  by_cases hj : j < n
  ·simp [hj, ho j hj (fun h => e h.symm)]
  ·simp [hj]
theorem rngM_congr {n : Nat} {g g' : Nat -> Int} (h : ∀ j, j < n -> g' j = g j) : rngM n g' = rngM n g := List.map_congr_left fun j hj => h j (List.mem_range.1 hj)
def useD (s : PSys) (L : List PFr) : D := .agg [.sl none (intsD (talU s L)), .sl none (intsD (talL s L)), .sl none (intsD (talE s L))]
def talR (ds : List D) (v : AV) : Prop := ∃ (s : PSys) (x : PSt), ds = [sysD s, stD x] /\ s.good /\ PStFit x /\ (∀ f ∈ frames x, frOk s f = true) /\ v = .dat (useD s (frames x))
def gU (s : PSys) (L : List PFr) (st : List PStep) (i : Nat) : Int := sumI (frU s i) L + bal st i 0
def gL (s : PSys) (L : List PFr) (st : List PStep) (i : Nat) : Int := sumI (frL s i) L + bal st i 1
theorem gU_nil {s : PSys} {L : List PFr} {i : Nat} : gU s L [] i = sumI (frU s i) L := by simp [gU, bal]
theorem gL_nil {s : PSys} {L : List PFr} {i : Nat} : gL s L [] i = sumI (frL s i) L := by simp [gL, bal]
theorem frU_le {s : PSys} (hg : s.good) {f : PFr} (hf : frOk s f = true) (i : Nat) (k : Int) : -12000 <= bal ((clsAt s f).steps.take f.a.toNat) i k /\ bal ((clsAt s f).steps.take f.a.toNat) i k <= 12000 := by
 obtain ⟨h1, h2, h3, h4⟩ := frOk_iff.1 hf
 have hm : clsAt s f ∈ s.classes := by
  unfold clsAt; rw [List.getD_eq_getElem?_getD, List.getElem?_eq_getElem (by omega)]; exact List.getElem_mem _
 have hc := hg.cls _ hm
 have ht : Tame ((clsAt s f).steps.take f.a.toNat) := fun x hx => hc.steps hg x (List.mem_of_mem_take hx)
 have hb := bal_le ((clsAt s f).steps.take f.a.toNat) i k 0 ht
 have h12 := hc.l12
 have hl : ((clsAt s f).steps.take f.a.toNat).length <= 12 := by rw [List.length_take]; omega
 unfold bal
 omega
theorem sumI_le {g : PFr -> Int} {b : Int} {L : List PFr} (h : ∀ f ∈ L, -b <= g f /\ g f <= b) : -(b * L.length) <= sumI g L /\ sumI g L <= b * L.length := by
 induction L with
 | nil => simp [sumI]
 | cons f L ih =>
  have h1 := h f (by simp)
  have h2 := ih fun q hq => h q (by simp [hq])
  rw [sumI_cons, List.length_cons]
  have e : b * ((L.length + 1 : Nat) : Int) = b * L.length + b := by rw [Int.natCast_add, Int.mul_add]; simp
  rw [e]
  omega
theorem frames_len {x : PSt} (h : PStFit x) : (frames x).length <= 1000000 := by
 have key : ∀ (y : PSt), (∀ l ∈ y, l.length <= 1000) -> (frames y).length <= 1000 * y.length := by
  intro y
  induction y with
  | nil => intro _; simp
  | cons l y ih =>
   intro hy
   have h1 := hy l (by simp)
   have h2 := ih fun q hq => hy q (by simp [hq])
   simp only [frames, List.flatten_cons, List.length_append, List.length_cons] at h2 ⊢
   omega
 have := key x h.stk
 have := h.len
 omega
theorem sum_tame {s : PSys} (hg : s.good) {L : List PFr} (hL : ∀ f ∈ L, frOk s f = true) (hl : L.length <= 1000000) (i : Nat) : (-100000000000 <= sumI (frU s i) L /\ sumI (frU s i) L <= 100000000000) /\ (-100000000000 <= sumI (frL s i) L /\ sumI (frL s i) L <= 100000000000) /\ (-100000000000 <= sumI (frE s i) L /\ sumI (frE s i) L <= 100000000000) := by
 have h1 := sumI_le (g := frU s i) (b := 12000) (L := L) (fun f hf => frU_le hg (hL f hf) i 0)
 have h2 := sumI_le (g := frL s i) (b := 12000) (L := L) (fun f hf => frU_le hg (hL f hf) i 1)
 have h3 := sumI_le (g := frE s i) (b := 12000) (L := L) (fun f hf => by unfold frE; split <;> omega)
 omega
theorem gU_snoc {s : PSys} {L : List PFr} {st : List PStep} {x : PStep} {i : Nat} : gU s L (st ++ [x]) i = if x.on = i then (if x.kind = 1 then gU s L st i + x.cnt else if x.kind = 2 then gU s L st i - x.cnt else gU s L st i) else gU s L st i := by
 unfold gU
 rw [bal_snoc]
 unfold bstep
 simp only [if_true, show ¬ (0 : Int) = 1 by decide, if_false]
 (repeat' split) <;> omega
theorem gL_snoc {s : PSys} {L : List PFr} {st : List PStep} {x : PStep} {i : Nat} : gL s L (st ++ [x]) i = if x.on = i then (if x.kind = 3 then gL s L st i + 1 else if x.kind = 4 then gL s L st i - 1 else gL s L st i) else gL s L st i := by
 unfold gL
 rw [bal_snoc]
 unfold bstep
 simp only [if_true, show ¬ (1 : Int) = 0 by decide, if_false]
 (repeat' split) <;> omega
theorem tally_ok : OkF Try.prog 33 (dataC talR) := by
 refine okF_data Try.func33 rfl (by decide) ?_
 rintro ds v ⟨s, x, rfl, hg, hx, hfr, rfl⟩
 have hnp := hg.np
 have hnl := hg.nl
 have hnc := hg.nc
 have hxl := hx.len
 refine sem_of_awpK [2] (Γ := tbl []) okG_nil _ _ _ ?_
 simp only [go_sem, Try.ntmps33, sysD, stD]
 refine sem_drawY [] [] (pf := []) (mf := []) mixed okG_nil pureNo noMk (.one 0 (.one 1 (.one 2 (.one 4 (.one 5 (.one 6 (.one 8 (.one 9 (.one 10 (.alt 3 (.alt 7 (.alt 11 (.one 12 (.one 13 (.one 14 .fin))) (.alt 13 (.one 11 (.one 12 (.one 14 .fin))) .stop)) (.alt 11 (.alt 7 (.one 12 (.one 13 (.one 14 .fin))) (.alt 13 (.one 7 (.one 12 (.one 14 .fin))) .stop)) (.alt 13 (.alt 7 (.one 11 (.one 12 (.one 14 .fin))) (.alt 11 (.one 7 (.one 12 (.one 14 .fin))) .stop)) .stop))) (.alt 7 (.alt 3 (.alt 11 (.one 12 (.one 13 (.one 14 .fin))) (.alt 13 (.one 11 (.one 12 (.one 14 .fin))) .stop)) (.alt 11 (.alt 3 (.one 12 (.one 13 (.one 14 .fin))) (.alt 13 (.one 3 (.one 12 (.one 14 .fin))) .stop)) (.alt 13 (.alt 3 (.one 11 (.one 12 (.one 14 .fin))) (.alt 11 (.one 3 (.one 12 (.one 14 .fin))) .stop)) .stop))) (.alt 11 (.alt 3 (.alt 7 (.one 12 (.one 13 (.one 14 .fin))) (.alt 13 (.one 7 (.one 12 (.one 14 .fin))) .stop)) (.alt 7 (.alt 3 (.one 12 (.one 13 (.one 14 .fin))) (.alt 13 (.one 3 (.one 12 (.one 14 .fin))) .stop)) (.alt 13 (.alt 3 (.one 7 (.one 12 (.one 14 .fin))) (.alt 7 (.one 3 (.one 12 (.one 14 .fin))) .stop)) .stop))) (.alt 13 (.alt 3 (.alt 7 (.one 11 (.one 12 (.one 14 .fin))) (.alt 11 (.one 7 (.one 12 (.one 14 .fin))) .stop)) (.alt 7 (.alt 3 (.one 11 (.one 12 (.one 14 .fin))) (.alt 11 (.one 3 (.one 12 (.one 14 .fin))) .stop)) (.alt 11 (.alt 3 (.one 7 (.one 12 (.one 14 .fin))) (.alt 7 (.one 3 (.one 12 (.one 14 .fin))) .stop)) .stop))) .stop))))))))))))) (by kernel_rfl) ?_
 generalize hK : andThenK [2] Try.prog (tbl []) _ _ = Q
 have hcl : ∀ σ σ', Le σ σ' -> Q .normal σ' -> Q .normal σ := by
  subst hK
  intro σ σ' h1 h2
  exact sem_le h1 h2
 suffices hQ1 : Q .normal ⟨slotsOf 118 [(2, .ptr 0 0 0), (3, .ptr 1 0 0), (4, .ptr 2 0 0), (5, .ptr 6 0 0)], [sysO s, stO x, .box [.nils, .nils, .nils], .row none (List.replicate s.pools.length (.int .i64 0)), .row none (List.replicate s.locks.length (.int .i64 0)), .row none (List.replicate s.classes.length (.int .i64 0)), .box [.sl 3 0 s.pools.length, .sl 4 0 s.locks.length, .sl 5 0 s.classes.length]], 0, []⟩ by
  have hlf : ∀ (c : Nat) (l m : List Nat) {own : List Obj} {sl : List AV}, slotsLe sl (slotsOf 118 [(2, .ptr 0 0 0), (3, .ptr 1 0 0), (4, .ptr 2 0 0), (5, .ptr c 0 0)]) -> pmOk l m = true -> own.length = l.length -> _ = AV.rens (pm l) (slotsOf 118 [(2, .ptr 0 0 0), (3, .ptr 1 0 0), (4, .ptr 2 0 0), (5, .ptr c 0 0)]) -> _ = (List.range own.length).map (fun o => (own.getD (pm m o) .dead).ren (pm l)) -> Q .normal ⟨sl, own, 0, []⟩ := fun c l m {_} {_} h0 h1 h2 h3 h4 => hcl _ _ (Le.trans (le_slots' h0) (le_pm l m h1 h2 h3 h4)) hQ1
  have b1 : 8 * (s.pools.length : Int) <= 281474976710656 := by omega
  have b2 : 8 * (s.locks.length : Int) <= 281474976710656 := by omega
  have b3 : 8 * (s.classes.length : Int) <= 281474976710656 := by omega
  simp only [go_sem, List.length_map, b1, b2, b3, Int.le_refl]
  repeat' apply And.intro
  ·exact hlf 6 [0, 1, 2, 3, 4, 5, 6] [0, 1, 2, 3, 4, 5, 6] (by simp only [go_sem]) (by decide) rfl rfl rfl
  ·exact hlf 5 [0, 1, 2, 3, 4, 6, 5] [0, 1, 2, 3, 4, 6, 5] (by simp only [go_sem]) (by decide) rfl rfl rfl
  ·exact hlf 6 [0, 1, 2, 3, 5, 4, 6] [0, 1, 2, 3, 5, 4, 6] (by simp only [go_sem]) (by decide) rfl rfl rfl
  ·exact hlf 5 [0, 1, 2, 3, 5, 6, 4] [0, 1, 2, 3, 6, 4, 5] (by simp only [go_sem]) (by decide) rfl rfl rfl
  ·exact hlf 4 [0, 1, 2, 3, 6, 4, 5] [0, 1, 2, 3, 5, 6, 4] (by simp only [go_sem]) (by decide) rfl rfl rfl
  ·exact hlf 4 [0, 1, 2, 3, 6, 5, 4] [0, 1, 2, 3, 6, 5, 4] (by simp only [go_sem]) (by decide) rfl rfl rfl
  ·exact hlf 6 [0, 1, 2, 4, 3, 5, 6] [0, 1, 2, 4, 3, 5, 6] (by simp only [go_sem]) (by decide) rfl rfl rfl
  ·exact hlf 5 [0, 1, 2, 4, 3, 6, 5] [0, 1, 2, 4, 3, 6, 5] (by simp only [go_sem]) (by decide) rfl rfl rfl
  ·exact hlf 6 [0, 1, 2, 4, 5, 3, 6] [0, 1, 2, 5, 3, 4, 6] (by simp only [go_sem]) (by decide) rfl rfl rfl
  ·exact hlf 5 [0, 1, 2, 4, 5, 6, 3] [0, 1, 2, 6, 3, 4, 5] (by simp only [go_sem]) (by decide) rfl rfl rfl
  ·exact hlf 4 [0, 1, 2, 4, 6, 3, 5] [0, 1, 2, 5, 3, 6, 4] (by simp only [go_sem]) (by decide) rfl rfl rfl
  ·exact hlf 4 [0, 1, 2, 4, 6, 5, 3] [0, 1, 2, 6, 3, 5, 4] (by simp only [go_sem]) (by decide) rfl rfl rfl
  ·exact hlf 6 [0, 1, 2, 5, 3, 4, 6] [0, 1, 2, 4, 5, 3, 6] (by simp only [go_sem]) (by decide) rfl rfl rfl
  ·exact hlf 5 [0, 1, 2, 5, 3, 6, 4] [0, 1, 2, 4, 6, 3, 5] (by simp only [go_sem]) (by decide) rfl rfl rfl
  ·exact hlf 6 [0, 1, 2, 5, 4, 3, 6] [0, 1, 2, 5, 4, 3, 6] (by simp only [go_sem]) (by decide) rfl rfl rfl
  ·exact hlf 5 [0, 1, 2, 5, 4, 6, 3] [0, 1, 2, 6, 4, 3, 5] (by simp only [go_sem]) (by decide) rfl rfl rfl
  ·exact hlf 4 [0, 1, 2, 5, 6, 3, 4] [0, 1, 2, 5, 6, 3, 4] (by simp only [go_sem]) (by decide) rfl rfl rfl
  ·exact hlf 4 [0, 1, 2, 5, 6, 4, 3] [0, 1, 2, 6, 5, 3, 4] (by simp only [go_sem]) (by decide) rfl rfl rfl
  ·exact hlf 3 [0, 1, 2, 6, 3, 4, 5] [0, 1, 2, 4, 5, 6, 3] (by simp only [go_sem]) (by decide) rfl rfl rfl
  ·exact hlf 3 [0, 1, 2, 6, 3, 5, 4] [0, 1, 2, 4, 6, 5, 3] (by simp only [go_sem]) (by decide) rfl rfl rfl
  ·exact hlf 3 [0, 1, 2, 6, 4, 3, 5] [0, 1, 2, 5, 4, 6, 3] (by simp only [go_sem]) (by decide) rfl rfl rfl
  ·exact hlf 3 [0, 1, 2, 6, 4, 5, 3] [0, 1, 2, 6, 4, 5, 3] (by simp only [go_sem]) (by decide) rfl rfl rfl
  ·exact hlf 3 [0, 1, 2, 6, 5, 3, 4] [0, 1, 2, 5, 6, 4, 3] (by simp only [go_sem]) (by decide) rfl rfl rfl
  ·exact hlf 3 [0, 1, 2, 6, 5, 4, 3] [0, 1, 2, 6, 5, 4, 3] (by simp only [go_sem]) (by decide) rfl rfl rfl
 subst hK
 simp only [go_sem]
 refine sem_of_awp (Γ := tbl []) okG_nil _ _ _ ?_
 have e0 : ∀ n : Nat, List.replicate n (D.int .i64 0) = intsD (rngM n fun i => 0) := fun n => by
  refine List.ext_getElem? fun j => ?_
  by_cases hj : j < n <;> simp [hj]
 have z1 : (rngM s.pools.length fun i => 0) = rngM s.pools.length (gU s [] []) := rngM_congr fun j _ => by rw [gU_nil]; rfl
 have z2 : (rngM s.locks.length fun i => 0) = rngM s.locks.length (gL s [] []) := rngM_congr fun j _ => by rw [gL_nil]; rfl
 have z3 : (rngM s.classes.length fun i => 0) = rngM s.classes.length fun i => sumI (frE s i) [] := rngM_congr fun j _ => rfl
 rw [e0, e0, e0, z1, z2, z3]
 have hxl2 : (stacksD x).length = x.length := by simp
 simp only [go_sem, hxl2]
 let own := fun (L : List PFr) (st : List PStep) => ([sysO s, stO x, .box [.nils, .nils, .nils], .row none (intsD (rngM s.pools.length (gU s L st))), .row none (intsD (rngM s.locks.length (gL s L st))), .row none (intsD (rngM s.classes.length fun i => sumI (frE s i) L)), .box [.sl 3 0 s.pools.length, .sl 4 0 s.locks.length, .sl 5 0 s.classes.length]] : List Obj)
 refine sem_loop (fun k : Nat => ⟨slotsOf 118 [(2, .ptr 0 0 0), (3, .ptr 1 0 0), (4, .ptr 2 0 0), (5, .ptr 6 0 0), (26, .dat (.sl none (stacksD x))), (27, .dat (.int .i64 x.length)), (28, .dat (.int .i64 k))], own (x.take k).flatten [], 0, []⟩)
  (fun k => k <= x.length) (fun k => x.length - k) 0 (Nat.zero_le _) ?_ ?_
 ·exact le_slots' (by simp only [go_sem, Int.natCast_zero])
 rintro k hk
 cases hd : x.drop k with
 | nil =>
  obtain rfl : k = x.length := end_of_drop hd hk
  have hk2 : ¬ (x.length : Int) < x.length := by omega
  rw [List.take_length]
  have hu : rngM s.pools.length (gU s (frames x) []) = talU s (frames x) := rngM_congr fun j _ => gU_nil
  have hl : rngM s.locks.length (gL s (frames x) []) = talL s (frames x) := rngM_congr fun j _ => gL_nil
  have he : (rngM s.classes.length fun i => sumI (frE s i) (frames x)) = talE s (frames x) := rfl
  have hul : (talU s (frames x)).length = s.pools.length := by simp [talU]
  have hll : (talL s (frames x)).length = s.locks.length := by simp [talL]
  have hel : (talE s (frames x)).length = s.classes.length := by simp [talE]
  simp only [own]
  rw [hu, hl, he, ← hul, ← hll, ← hel]
  refine sem_le (le_freeze 5 (ag := none) rfl (Nat.zero_le _)) ?_
  refine sem_le (le_freeze 4 (ag := none) rfl (Nat.zero_le _)) ?_
  refine sem_le (le_freeze 3 (ag := none) rfl (Nat.zero_le _)) ?_
  refine sem_of_awp (Γ := tbl []) okG_nil _ _ _ ?_
  simp only [go_sem, hk2, ints_take, ints_len, List.drop_zero, Nat.le_refl]
  refine post_res (.inl rfl) [.cell 4 89] rfl ?_
  simp only [go_sem, useD]
  exact le_fin (by simp only [go_sem]) (by simp only [go_sem])
 | cons l r =>
 have hlt := lt_of_drop hd
 have hk2 : (k : Int) < x.length := by omega
 have hk0 : (0 : Int) <= k := Int.natCast_nonneg k
 have hn := nth_of_drop (f := stackD) hd
 have hll := hx.stk l (mem_of_drop hd)
 have hfl : (frsD l).length = l.length := by simp
 have htk : (x.take (k + 1)).flatten = (x.take k).flatten ++ l := by rw [take_of_drop hd, List.flatten_append]; simp
 have hF1 : ∀ f ∈ (x.take k).flatten ++ l, frOk s f = true := fun f hf => hfr f (by
  rw [← htk] at hf
  obtain ⟨y, hy, hfy⟩ := List.mem_flatten.1 hf
  exact List.mem_flatten.2 ⟨y, List.mem_of_mem_take hy, hfy⟩)
 have hF2 : ((x.take k).flatten ++ l).length <= 1000000 := by
  rw [← htk]
  exact frames_len ⟨by rw [List.length_take]; omega, fun y hy => hx.stk y (List.mem_of_mem_take hy)⟩
 refine sem_of_awp (Γ := tbl []) okG_nil _ _ _ ?_
 simp only [own]
 simp only [go_sem, hk2, hk0, hlt, hn, hxl2, stackD, hfl]
 generalize hL0 : (x.take k).flatten = L0 at *
 refine sem_loop (fun j : Nat => ⟨slotsOf 118 [(2, .ptr 0 0 0), (3, .ptr 1 0 0), (4, .ptr 2 0 0), (5, .ptr 6 0 0), (26, .dat (.sl none (stacksD x))), (27, .dat (.int .i64 x.length)), (28, .dat (.int .i64 k)), (32, .dat (.sl (some 2) (frsD l))), (33, .dat (.int .i64 l.length)), (34, .dat (.int .i64 j))], own (L0 ++ l.take j) [], 0, []⟩)
  (fun j => j <= l.length) (fun j => l.length - j) 0 (Nat.zero_le _) ?_ ?_
 ·rw [List.take_zero, List.append_nil]
  exact le_slots' (by simp only [go_sem, Int.natCast_zero])
 rintro j hj
 refine sem_of_awp (Γ := tbl []) okG_nil _ _ _ ?_
 simp only [own]
 cases hd2 : l.drop j with
 | nil =>
  obtain rfl : j = l.length := end_of_drop hd2 hj
  have hj2 : ¬ (l.length : Int) < l.length := by omega
  rw [List.take_length]
  simp only [go_sem, hj2]
  refine ⟨inR_i64.2 (by omega), k + 1, by omega, by omega, ?_⟩
  rw [htk]
  exact le_slots' (by simp only [go_sem, Int.natCast_add, Int.cast_ofNat_Int])
 | cons f r2 =>
 have hlt2 := lt_of_drop hd2
 have hj2 : (j : Int) < l.length := by omega
 have hj0 : (0 : Int) <= j := Int.natCast_nonneg j
 have hn2 := nth_of_drop (f := frD) hd2
 have hfo := hF1 f (by simp [mem_of_drop hd2])
 have htk2 : L0 ++ l.take (j + 1) = (L0 ++ l.take j) ++ [f] := by rw [take_of_drop hd2, List.append_assoc]
 have hM1 : ∀ q ∈ L0 ++ l.take j, frOk s q = true := fun q hq => hF1 q (by
  rcases List.mem_append.1 hq with h | h
  ·exact List.mem_append.2 (.inl h)
  ·exact List.mem_append.2 (.inr (List.mem_of_mem_take h)))
 have hM2 : (L0 ++ l.take j).length <= 1000000 := by
  simp only [List.length_append, List.length_take] at hF2 ⊢
  omega
 have htame := fun i => sum_tame hg hM1 hM2 i
 obtain ⟨c1, c2, c3, c4⟩ := frOk_iff.1 hfo
 obtain ⟨ci, hci, hcil, hcin⟩ := cls_nth (s := s) (f := f) c1 c2
 have hci2 : (ci : Int) < s.classes.length := by omega
 have hci0 : (0 : Int) <= ci := Int.natCast_nonneg ci
 obtain ⟨a, ha⟩ : ∃ a : Nat, f.a = a := ⟨f.a.toNat, by omega⟩
 have hal : a <= (clsAt s f).steps.length := by omega
 have hal2 : (a : Int) <= (clsAt s f).steps.length := by omega
 have ha0 : (0 : Int) <= a := Int.natCast_nonneg a
 have hcm : clsAt s f ∈ s.classes := by
  unfold clsAt; rw [List.getD_eq_getElem?_getD, List.getElem?_eq_getElem (by omega)]; exact List.getElem_mem _
 have hcg := hg.cls _ hcm
 have h12 := hcg.l12
 have hfU : ∀ i, frU s i f = bal ((clsAt s f).steps.take a) i 0 := fun i => by unfold frU; rw [ha, Int.toNat_natCast]
 have hfL : ∀ i, frL s i f = bal ((clsAt s f).steps.take a) i 1 := fun i => by unfold frL; rw [ha, Int.toNat_natCast]
 have hfE : ∀ i, frE s i f = if ci = i /\ (clsAt s f).server = true then 1 else 0 := fun i => by
  unfold frE; rw [hci]; simp only [Int.natCast_inj]
 generalize hL1 : L0 ++ l.take j = L1 at *
 clear hcl
 simp only [go_sem, hj2, hj0, hlt2, hn2, frD, hfl, hci, hci2, hci0, hcil, hcin, clsD, List.length_map]
 generalize hK : andThen Try.prog (tbl []) _ _ = Q
 have hcl : ∀ σ σ', Le σ σ' -> Q .normal σ' -> Q .normal σ := by
  subst hK
  intro σ σ' h1 h2
  exact sem_le h1 h2
 suffices hQ1 : Q .normal ⟨slotsOf 118 [(2, .ptr 0 0 0), (3, .ptr 1 0 0), (4, .ptr 2 0 0), (5, .ptr 6 0 0), (26, .dat (.sl none (stacksD x))), (27, .dat (.int .i64 x.length)), (28, .dat (.int .i64 k)), (32, .dat (.sl (some 2) (frsD l))), (33, .dat (.int .i64 l.length)), (34, .dat (.int .i64 j)), (9, .ptr 7 0 0)], [sysO s, stO x, .box [.nils, .nils, .nils], .row none (intsD (rngM s.pools.length (gU s L1 []))), .row none (intsD (rngM s.locks.length (gL s L1 []))), .row none (intsD (rngM s.classes.length fun i => sumI (frE s i) (L1 ++ [f]))), .box [.sl 3 0 s.pools.length, .sl 4 0 s.locks.length, .sl 5 0 s.classes.length], .box [.dat (.int .i64 ci), .dat (.int .i64 f.a)]], 0, []⟩ by
  cases hsv : (clsAt s f).server with
  | false =>
   have he : rngM s.classes.length (fun i => sumI (frE s i) (L1 ++ [f])) = rngM s.classes.length fun i => sumI (frE s i) L1 := rngM_congr fun i _ => by
    rw [sumI_snoc, hfE, hsv]; simp
   simp only [go_sem]
   rw [← he]
   exact hcl _ _ (le_slots' (by simp only [go_sem])) hQ1
  | true =>
   have hcl2 : ci < (rngM s.classes.length fun i => sumI (frE s i) L1).length := by rw [rngM_len]; exact hcil
   have ht := (htame ci).2.2
   simp only [go_sem, rngM_len, hci2, hci0, hcil, rngM_get]
   have he : (intsD (rngM s.classes.length fun i => sumI (frE s i) L1)).set ci (.int .i64 (sumI (frE s ci) L1 + 1)) = intsD (rngM s.classes.length fun i => sumI (frE s i) (L1 ++ [f])) := rngM_set hcil (by rw [sumI_snoc, hfE, hsv]; simp) (fun i _ hi => by rw [sumI_snoc, hfE, if_neg (fun h => hi h.1.symm)]; omega)
   refine ⟨inR_i64.2 (by omega), ?_⟩
   rw [he]
   exact hcl _ _ (le_slots' (by simp only [go_sem])) hQ1
 subst hK
 clear hcl
 simp only [go_sem]
 refine sem_drawY [] [] (pf := []) (mf := []) mixed okG_nil pureNo noMk (ones [0, 1, 2, 3, 4, 5, 6, 7, 8, 9, 10, 11]) (by kernel_rfl) ?_
 have hT := hcg.steps hg
 have hpre := hcg.pre
 have htl : ((clsAt s f).steps.take a).length = a := by rw [List.length_take]; omega
 have hsub : ∀ y ∈ (clsAt s f).steps.take a, y ∈ (clsAt s f).steps := fun y hy => List.mem_of_mem_take hy
 have haL : ((clsAt s f).steps.map stepD).length = (clsAt s f).steps.length := by simp
 simp only [go_sem, hci2, hci0, hcil, hcin, clsD, stepsD, haL, ha, ha0, hal, hal2, List.length_map, List.drop_zero, Int.sub_zero, Int.toNat_natCast, ← List.map_take, htl]
 generalize hst : (clsAt s f).steps.take a = st at *
 refine sem_loop (fun m : Nat => ⟨slotsOf 118 [(2, .ptr 0 0 0), (3, .ptr 1 0 0), (4, .ptr 2 0 0), (5, .ptr 6 0 0), (26, .dat (.sl none (stacksD x))), (27, .dat (.int .i64 x.length)), (28, .dat (.int .i64 k)), (32, .dat (.sl (some 2) (frsD l))), (33, .dat (.int .i64 l.length)), (34, .dat (.int .i64 j)), (62, .dat (.sl (some 4) (st.map stepD))), (63, .dat (.int .i64 a)), (64, .dat (.int .i64 m))], [sysO s, stO x, .box [.nils, .nils, .nils], .row none (intsD (rngM s.pools.length (gU s L1 (st.take m)))), .row none (intsD (rngM s.locks.length (gL s L1 (st.take m)))), .row none (intsD (rngM s.classes.length fun i => sumI (frE s i) (L1 ++ [f]))), .box [.sl 3 0 s.pools.length, .sl 4 0 s.locks.length, .sl 5 0 s.classes.length]], 0, []⟩)
  (fun m => m <= st.length) (fun m => st.length - m) 0 (Nat.zero_le _) ?_ ?_
 ·refine le_end (own := [_, _, _, _, _, _, _]) (ex := [_]) (Nat.zero_le _) ?_ ?_ ?_
  ·simp only [go_sem, Int.natCast_zero, List.take_zero]
  ·simp only [go_sem, List.take_zero]
  ·simp only [go_sem, Obj.under, AV.unders, AV.under]
 rintro m hm
 refine sem_of_awp (Γ := tbl []) okG_nil _ _ _ ?_
 cases hd3 : st.drop m with
 | nil =>
  obtain rfl : m = st.length := end_of_drop hd3 hm
  have hm2 : ¬ (a : Int) < a := by omega
  rw [List.take_length, htl]
  have hu : rngM s.pools.length (gU s L1 st) = rngM s.pools.length (gU s (L1 ++ [f]) []) := rngM_congr fun i _ => by rw [gU_nil, gU, sumI_snoc, hfU]
  have hv : rngM s.locks.length (gL s L1 st) = rngM s.locks.length (gL s (L1 ++ [f]) []) := rngM_congr fun i _ => by rw [gL_nil, gL, sumI_snoc, hfL]
  rw [hu, hv]
  simp only [go_sem, hm2]
  refine ⟨inR_i64.2 (by omega), j + 1, by omega, by omega, ?_⟩
  try simp only [own]
  rw [htk2]
  exact le_slots' (by simp only [go_sem, Int.natCast_add, Int.cast_ofNat_Int])
 | cons y r3 =>
 have hlt3 := lt_of_drop hd3
 have hm2 : (m : Int) < a := by omega
 have hm3 : m < a := by omega
 have hm0 : (0 : Int) <= m := Int.natCast_nonneg m
 have hn3 := nth_of_drop (f := stepD) hd3
 have hym := hsub y (mem_of_drop hd3)
 have hyT := hT y hym
 have htk3 : st.take (m + 1) = st.take m ++ [y] := take_of_drop hd3
 obtain ⟨⟨k1, k2⟩, ⟨o1, o2⟩, hc, hc0⟩ := preE_0 (hpre y hym)
 have hbT : Tame (st.take m) := fun q hq => hT q (hsub q (List.mem_of_mem_take hq))
 have hbl : (st.take m).length <= 12 := by rw [List.length_take]; omega
 have hgb : ∀ i : Nat, (-200000000000 <= gU s L1 (st.take m) i /\ gU s L1 (st.take m) i <= 200000000000) /\ (-200000000000 <= gL s L1 (st.take m) i /\ gL s L1 (st.take m) i <= 200000000000) := fun i => by
  have h1 := htame i
  have h2 := bal_le (st.take m) i 0 0 hbT
  have h3 := bal_le (st.take m) i 1 0 hbT
  unfold gU gL bal
  omega
 obtain ⟨kind, on, cnt, deep⟩ := y
 simp only at k1 k2 o1 o2 hc hc0 hyT
 unfold mostE at o2
 obtain ⟨q, rfl⟩ : ∃ q : Nat, on = q := ⟨on.toNat, by omega⟩
 have hq0 : (0 : Int) <= q := Int.natCast_nonneg q
 have hk5 : kind = 1 ∨ kind = 2 ∨ kind = 3 ∨ kind = 4 ∨ kind = 5 := by omega
 have fin : ∀ {sl : List AV} {ex : List Obj}, slotsLe sl (slotsOf 118 [(2, .ptr 0 0 0), (3, .ptr 1 0 0), (4, .ptr 2 0 0), (5, .ptr 6 0 0), (26, .dat (.sl none (stacksD x))), (27, .dat (.int .i64 x.length)), (28, .dat (.int .i64 k)), (32, .dat (.sl (some 2) (frsD l))), (33, .dat (.int .i64 l.length)), (34, .dat (.int .i64 j)), (62, .dat (.sl (some 4) (st.map stepD))), (63, .dat (.int .i64 a)), (64, .dat (.int .i64 (m + 1 : Nat)))]) ->
   ∃ z : Nat, z <= a /\ a - z < a - m /\ Le ⟨sl, [sysO s, stO x, .box [.nils, .nils, .nils], .row none (intsD (rngM s.pools.length (gU s L1 (st.take m ++ [⟨kind, q, cnt, deep⟩])))), .row none (intsD (rngM s.locks.length (gL s L1 (st.take m ++ [⟨kind, q, cnt, deep⟩])))), .row none (intsD (rngM s.classes.length fun i => sumI (frE s i) (L1 ++ [f]))), .box [.sl 3 0 s.pools.length, .sl 4 0 s.locks.length, .sl 5 0 s.classes.length]] ++ ex, 0, []⟩ ⟨slotsOf 118 [(2, .ptr 0 0 0), (3, .ptr 1 0 0), (4, .ptr 2 0 0), (5, .ptr 6 0 0), (26, .dat (.sl none (stacksD x))), (27, .dat (.int .i64 x.length)), (28, .dat (.int .i64 k)), (32, .dat (.sl (some 2) (frsD l))), (33, .dat (.int .i64 l.length)), (34, .dat (.int .i64 j)), (62, .dat (.sl (some 4) (st.map stepD))), (63, .dat (.int .i64 a)), (64, .dat (.int .i64 z))], [sysO s, stO x, .box [.nils, .nils, .nils], .row none (intsD (rngM s.pools.length (gU s L1 (st.take z)))), .row none (intsD (rngM s.locks.length (gL s L1 (st.take z)))), .row none (intsD (rngM s.classes.length fun i => sumI (frE s i) (L1 ++ [f]))), .box [.sl 3 0 s.pools.length, .sl 4 0 s.locks.length, .sl 5 0 s.classes.length]], 0, []⟩ := by
  intro sl ex hsl
  refine ⟨m + 1, by omega, by omega, ?_⟩
  rw [htk3]
  refine le_end (own := [_, _, _, _, _, _, _]) (ex := ex) (Nat.zero_le _) hsl ?_ ?_
  ·simp only [go_sem]
  ·simp only [go_sem, Obj.under, AV.unders, AV.under]
 have sU : ∀ (i : Nat) (h : q ≠ i), gU s L1 (st.take m ++ [⟨kind, q, cnt, deep⟩]) i = gU s L1 (st.take m) i := fun i h => by rw [gU_snoc, if_neg (fun e => h (by have e : (q : Int) = i := e; omega))]
 have sL : ∀ (i : Nat) (h : q ≠ i), gL s L1 (st.take m ++ [⟨kind, q, cnt, deep⟩]) i = gL s L1 (st.take m) i := fun i h => by rw [gL_snoc, if_neg (fun e => h (by have e : (q : Int) = i := e; omega))]
 have wU : gU s L1 (st.take m ++ [⟨kind, q, cnt, deep⟩]) q = if kind = 1 then gU s L1 (st.take m) q + cnt else if kind = 2 then gU s L1 (st.take m) q - cnt else gU s L1 (st.take m) q := by rw [gU_snoc, if_pos rfl]
 have wL : gL s L1 (st.take m ++ [⟨kind, q, cnt, deep⟩]) q = if kind = 3 then gL s L1 (st.take m) q + 1 else if kind = 4 then gL s L1 (st.take m) q - 1 else gL s L1 (st.take m) q := by rw [gL_snoc, if_pos rfl]
 have nU : kind ≠ 1 -> kind ≠ 2 -> rngM s.pools.length (gU s L1 (st.take m ++ [⟨kind, q, cnt, deep⟩])) = rngM s.pools.length (gU s L1 (st.take m)) := fun h1 h2 => rngM_congr fun i _ => by
  by_cases h : q = i
  ·subst h; rw [wU, if_neg h1, if_neg h2]
  ·exact sU i h
 have nL : kind ≠ 3 -> kind ≠ 4 -> rngM s.locks.length (gL s L1 (st.take m ++ [⟨kind, q, cnt, deep⟩])) = rngM s.locks.length (gL s L1 (st.take m)) := fun h1 h2 => rngM_congr fun i _ => by
  by_cases h : q = i
  ·subst h; rw [wL, if_neg h1, if_neg h2]
  ·exact sL i h
 have hgU := (hgb q).1
 have hgL := (hgb q).2
 rcases hk5 with rfl | rfl | rfl | rfl | rfl
 ·have hqp : (q : Int) < s.pools.length := by simpa using o2
  have hqp2 : q < s.pools.length := by omega
  have hset : (intsD (rngM s.pools.length (gU s L1 (st.take m)))).set q (.int .i64 (gU s L1 (st.take m) q + cnt)) = intsD (rngM s.pools.length (gU s L1 (st.take m ++ [⟨1, q, cnt, deep⟩]))) := rngM_set hqp2 (by rw [wU]; simp) (fun i _ h => sU i (fun e => h e.symm))
  simp only [go_sem, hm2, hm0, hm3, hn3, stepD, htl]
  refine sem_drawY [] [] (pf := []) (mf := []) mixed okG_nil pureNo noMk (ones [0, 1, 2, 3, 4, 5, 6, 7, 8, 9, 10]) (by kernel_rfl) ?_
  simp only [go_sem, rngM_len, hqp, hqp2, hq0, rngM_get]
  refine ⟨inR_i64.2 (by omega), inR_i64.2 (by omega), ?_⟩
  rw [hset, ← nL (by decide) (by decide)]
  exact fin (ex := [_]) (by simp only [go_sem, Int.natCast_add, Int.cast_ofNat_Int])
 ·have hqp : (q : Int) < s.pools.length := by simpa using o2
  have hqp2 : q < s.pools.length := by omega
  have hset : (intsD (rngM s.pools.length (gU s L1 (st.take m)))).set q (.int .i64 (gU s L1 (st.take m) q - cnt)) = intsD (rngM s.pools.length (gU s L1 (st.take m ++ [⟨2, q, cnt, deep⟩]))) := rngM_set hqp2 (by rw [wU]; simp) (fun i _ h => sU i (fun e => h e.symm))
  simp only [go_sem, hm2, hm0, hm3, hn3, stepD, htl]
  refine sem_drawY [] [] (pf := []) (mf := []) mixed okG_nil pureNo noMk (ones [0, 1, 2, 3, 4, 5, 6, 7, 8, 9, 10]) (by kernel_rfl) ?_
  simp only [go_sem, rngM_len, hqp, hqp2, hq0, rngM_get]
  refine ⟨inR_i64.2 (by omega), inR_i64.2 (by omega), ?_⟩
  rw [hset, ← nL (by decide) (by decide)]
  exact fin (ex := [_]) (by simp only [go_sem, Int.natCast_add, Int.cast_ofNat_Int])
 ·have hqp : (q : Int) < s.locks.length := by simpa using o2
  have hqp2 : q < s.locks.length := by omega
  have hset : (intsD (rngM s.locks.length (gL s L1 (st.take m)))).set q (.int .i64 (gL s L1 (st.take m) q + 1)) = intsD (rngM s.locks.length (gL s L1 (st.take m ++ [⟨3, q, cnt, deep⟩]))) := rngM_set hqp2 (by rw [wL]; simp) (fun i _ h => sL i (fun e => h e.symm))
  simp only [go_sem, hm2, hm0, hm3, hn3, stepD, htl, rngM_len, hqp, hqp2, hq0, rngM_get]
  refine ⟨inR_i64.2 (by omega), inR_i64.2 (by omega), ?_⟩
  rw [hset, ← nU (by decide) (by decide)]
  exact fin (ex := [_]) (by simp only [go_sem, Int.natCast_add, Int.cast_ofNat_Int])
 ·have hqp : (q : Int) < s.locks.length := by simpa using o2
  have hqp2 : q < s.locks.length := by omega
  have hset : (intsD (rngM s.locks.length (gL s L1 (st.take m)))).set q (.int .i64 (gL s L1 (st.take m) q - 1)) = intsD (rngM s.locks.length (gL s L1 (st.take m ++ [⟨4, q, cnt, deep⟩]))) := rngM_set hqp2 (by rw [wL]; simp) (fun i _ h => sL i (fun e => h e.symm))
  simp only [go_sem, hm2, hm0, hm3, hn3, stepD, htl, rngM_len, hqp, hqp2, hq0, rngM_get]
  refine ⟨inR_i64.2 (by omega), inR_i64.2 (by omega), ?_⟩
  rw [hset, ← nU (by decide) (by decide)]
  exact fin (ex := [_]) (by simp only [go_sem, Int.natCast_add, Int.cast_ofNat_Int])
 ·simp only [go_sem, hm2, hm0, hm3, hn3, stepD, htl]
  refine ⟨inR_i64.2 (by omega), ?_⟩
  rw [← nU (by decide) (by decide), ← nL (by decide) (by decide)]
  exact fin (ex := [_]) (by simp only [go_sem, Int.natCast_add, Int.cast_ofNat_Int])
end Go.AM
namespace Go.AM
open Go Go.Proofs
theorem kills_dats (o : Nat) : ∀ xs : List D, AV.kills o (xs.map .dat) = xs.map .dat
 | [] => rfl
 | x :: xs => by rw [List.map_cons, AV.kills, kills_dats o xs]; rfl
theorem norm1_dats (xs : List D) : (xs.map AV.dat).map AV.norm1 = xs.map .dat := by rw [List.map_map]; rfl
theorem take_dats {k : Nat} {xs : List D} (h : xs.length = k) : List.take k (xs.map AV.dat) = xs.map .dat := List.take_of_length_le (by simp [h])
def stN (c : Nat) : D := stackD [⟨c, 0⟩]
theorem stacks_ini (W : List Nat) : stacksD (W.map fun c : Nat => [(⟨(c : Int), 0⟩ : PFr)]) = W.map stN := by simp [stacksD, stN]
theorem frzs_app (o : Nat) (ag : Option Nat) (xs : List D) (a b : List AV) : AV.frzs o ag xs (a ++ b) = AV.frzs o ag xs a ++ AV.frzs o ag xs b := by simp [frzs_map]
def startXR (ds : List D) (v : AV) : Prop := ∃ s : PSys, ds = [sysD s] /\ s.fit /\ v = .tup [.dat (stD (if checkE s = 0 then iniX s else [])), .dat (.int .i64 (checkE s))]
abbrev tabXS : List (Nat × Contract) := [(6, dataC checkR), (29, dataC wkR)]
theorem tabXS_ok : OkG Try.prog (tbl tabXS) := okG_cons check_ok (okG_cons workers_ok okG_nil)
theorem xstart_ok : OkF Try.prog 12 (dataC startXR) := by
 refine okF_data Try.func12 rfl (by decide) ?_
 rintro ds v ⟨s, rfl, hf, rfl⟩
 refine sem_of_awp (Γ := tbl tabXS) tabXS_ok _ _ _ ?_
 simp only [go_sem, Try.ntmps12, sysD]
 refine call_data checkR (by simp) [sysD s] _ rfl ⟨s, rfl, hf, rfl⟩ (.inl rfl) ?_
 by_cases he : checkE s = 0
 case neg =>
  rw [if_neg he]
  simp only [go_sem, he]
  refine post_res (.inl rfl) [.cell 2 43, .tmp 3] rfl ?_
  simp only [go_sem, stD, List.map_nil]
  exact le_fin (by simp only [go_sem]) (by simp only [go_sem])
 have hg := good_of he
 rw [if_pos he]
 simp only [go_sem, he]
 refine call_data wkR (by simp) [sysD s] _ rfl ⟨s, rfl, hg, rfl⟩ (.inl rfl) ?_
 have hlen := wkL_len hg
 unfold iniX stD
 rw [stacks_ini]
 generalize wkL s = W at *
 simp only [go_sem, nats_len]
 refine sem_le (le_addnilV 2 0 rfl rfl (Nat.zero_le _)) ?_
 refine sem_loop (fun k : Nat => ⟨slotsOf 31 [(1, .ptr 0 0 0), (2, .ptr 1 0 0), (3, .dat (.int .i64 0)), (5, .ptr 2 0 0), (15, .dat (.sl none (natsD W))), (16, .dat (.int .i64 W.length)), (17, .dat (.int .i64 k))], [sysO s, .box [.nils], .box [.sl 3 0 k], .vec (((W.take k).map stN).map .dat)], 0, []⟩)
  (fun k => k <= W.length) (fun k => W.length - k) 0 (Nat.zero_le _) ?_ ?_
 ·exact le_slots' (by simp only [go_sem, Int.natCast_zero])
 rintro k hk
 cases hd : W.drop k with
 | nil =>
  obtain rfl : k = W.length := end_of_drop hd hk
  have hk2 : ¬ (W.length : Int) < W.length := by omega
  rw [List.take_length]
  refine sem_le (le_freezeV 3 (ds := W.map stN) rfl (norm1_dats _) (Nat.zero_le _)) ?_
  refine sem_of_awp (Γ := tbl tabXS) tabXS_ok _ _ _ ?_
  have hW : List.take W.length (W.map stN) = W.map stN := List.take_of_length_le (by simp)
  simp only [go_sem, hk2]
  refine post_res (.inl rfl) [.cell 2 43, .tmp 3] rfl ?_
  simp only [go_sem, hW]
  exact le_fin (by simp only [go_sem]) (by simp only [go_sem])
 | cons c r =>
 have hlt := lt_of_drop hd
 have hk2 : (k : Int) < W.length := by omega
 have hk0 : (0 : Int) <= k := Int.natCast_nonneg k
 have hn : D.nth (natsD W) k = .int .i64 c := nth_of_drop hd
 have htk : W.take (k + 1) = W.take k ++ [c] := take_of_drop hd
 refine sem_of_awp (Γ := tbl tabXS) tabXS_ok _ _ _ ?_
 have htl : (W.take k).length = k := by rw [List.length_take]; omega
 have htl2 : ((W.take k).map stN).length = k := by rw [List.length_map, htl]
 simp only [go_sem, hk2, hk0, hlt, hn, nats_len, htl, htl2, take_dats htl2, kills_app, kills_dats]
 refine ⟨by omega, by omega, inR_i64.2 (by omega), k + 1, by omega, by omega, ?_⟩
 refine Le.trans (le_freeze 4 (ag := some 2) rfl (Nat.zero_le _)) ?_
 rw [htk, List.map_append, List.map_append]
 simp only [go_sem, frzs_app]
 refine le_end (own := [_, _, _, _]) (ex := [_, _]) (Nat.zero_le _) ?_ ?_ ?_
 ·simp only [go_sem, Int.natCast_add, Int.cast_ofNat_Int]
 ·simp only [go_sem]
 ·simp only [go_sem, Obj.under, AV.unders, AV.under]
  exact unders_app (by rw [unders_dats]; trivial) (by simp only [AV.unders, AV.under, and_self])
def iniXR (ds : List D) (v : AV) : Prop := ∃ s : PSys, ds = [sysD s] /\ s.good /\ v = .dat (stD (iniX s))
end Go.AM
namespace Go.AM
open Go Go.Proofs
def topR (ds : List D) (v : AV) : Prop := ∃ (s : PSys) (x : PSt) (w : Nat), ds = [sysD s, stD x, .int .i64 w] /\ w < x.length /\ x.length <= 1000 /\ 0 < (x.getD w []).length /\ (x.getD w []).length <= 1000 /\ frOk s (topF (x.getD w [])) = true /\ v = .dat (stepD (topS s x w))
theorem top_ok : OkF Try.prog 34 (dataC topR) := by
 refine okF_data Try.func34 rfl (by decide) ?_
 rintro ds v ⟨s, x, w, rfl, hw, hxl, hl0, hl1, hfo, rfl⟩
 have hw1 : (w : Int) < x.length := by omega
 have hw0 : (0 : Int) <= w := Int.natCast_nonneg w
 have hxl2 : (stacksD x).length = x.length := by simp
 have hn : D.nth (stacksD x) w = stackD (x.getD w []) := D.nth_map hw
 unfold topS
 generalize x.getD w [] = l at *
 have hlf : (frsD l).length = l.length := by simp
 have hq1 : (l.length : Int) - 1 = ((l.length - 1 : Nat) : Int) := by omega
 have hq2 : ((l.length - 1 : Nat) : Int) < l.length := by omega
 have hq3 : l.length - 1 < l.length := by omega
 have hq4 : (0 : Int) <= ((l.length - 1 : Nat) : Int) := Int.natCast_nonneg _
 have hqn : D.nth (frsD l) (l.length - 1) = frD (topF l) := D.nth_map hq3
 generalize topF l = q at *
 obtain ⟨d1, d2, d3, d4⟩ := frOk_iff.1 hfo
 obtain ⟨j, hj, hjl, hjn⟩ := cls_nth (s := s) (f := q) d1 d2
 obtain ⟨b, hb, hbl, hbn⟩ := step_nth (s := s) (f := q) d3 d4
 have hj2 : (j : Int) < s.classes.length := by omega
 have hj0 : (0 : Int) <= j := Int.natCast_nonneg j
 have hb2 : (b : Int) < (clsAt s q).steps.length := by omega
 have hb0 : (0 : Int) <= b := Int.natCast_nonneg b
 generalize stepAtF s q = x at *
 generalize clsAt s q = cq at *
 refine sem_of_awp (Γ := tbl []) okG_nil _ _ _ ?_
 simp only [go_sem, Try.ntmps34, sysD, stD, hw1, hw0, hw, hxl2, hn, stackD, hlf, hq1, hq2, hq3, hq4, hqn, frD]
 refine ⟨inR_i64.2 (by omega), ?_⟩
 refine sem_drawY [] [] (pf := []) (mf := []) mixed okG_nil pureNo noMk (ones [0, 1, 2, 3, 4, 5, 6, 7, 8, 9, 10, 11]) (by kernel_rfl) ?_
 simp only [go_sem, hj, hj2, hj0, hjl, hjn, clsD, stepsD, hb, hb2, hb0, hbl, hbn, stepD, List.length_map]
 refine post_res (.inl rfl) [.cell 6 53] rfl ?_
 simp only [go_sem]
 exact le_fin (by simp only [go_sem]) (by simp only [go_sem])
def possR (ds : List D) (v : AV) : Prop := ∃ (s : PSys) (L : List PFr) (x : PStep), ds = [sysD s, useD s L, stepD x] /\ s.good /\ (∀ f ∈ L, frOk s f = true) /\ L.length <= 1000000 /\ preE s x = 0 /\ v = .dat (.bool (posB s L x))
theorem posB_1 {s : PSys} {L : List PFr} {q : Nat} {cnt : Int} {deep : Bool} : posB s L ⟨1, q, cnt, deep⟩ = ((deep && decide (0 <= (s.pools.getD q default).size - sumI (frU s q) L - cnt)) || decide ((s.pools.getD q default).res <= (s.pools.getD q default).size - sumI (frU s q) L - cnt)) := rfl
theorem posB_2 {s : PSys} {L : List PFr} {q : Nat} {cnt : Int} {deep : Bool} : posB s L ⟨2, q, cnt, deep⟩ = true := rfl
theorem posB_3 {s : PSys} {L : List PFr} {q : Nat} {cnt : Int} {deep : Bool} : posB s L ⟨3, q, cnt, deep⟩ = decide (sumI (frL s q) L = 0) := rfl
theorem posB_4 {s : PSys} {L : List PFr} {q : Nat} {cnt : Int} {deep : Bool} : posB s L ⟨4, q, cnt, deep⟩ = true := rfl
theorem posB_5 {s : PSys} {L : List PFr} {q : Nat} {cnt : Int} {deep : Bool} : posB s L ⟨5, q, cnt, deep⟩ = decide (sumI (frE s q) L < (s.classes.getD q default).workers) := rfl
theorem possible_ok : OkF Try.prog 32 (dataC possR) := by
 refine okF_data Try.func32 rfl (by decide) ?_
 rintro ds v ⟨s, L, x, rfl, hg, hL, hLl, hp, rfl⟩
 obtain ⟨⟨k1, k2⟩, ⟨o1, o2⟩, hc, hc0⟩ := preE_0 hp
 have hcn := pre_tame hg.tame hp
 obtain ⟨kind, on, cnt, deep⟩ := x
 simp only at k1 k2 o1 o2 hc hc0 hcn
 unfold mostE at o2
 obtain ⟨q, rfl⟩ : ∃ q : Nat, on = q := ⟨on.toNat, by omega⟩
 have hq0 : (0 : Int) <= q := Int.natCast_nonneg q
 have hk5 : kind = 1 ∨ kind = 2 ∨ kind = 3 ∨ kind = 4 ∨ kind = 5 := by omega
 have ht := sum_tame hg hL hLl q
 have hU : (talU s L).length = s.pools.length := by simp [talU]
 have hLk : (talL s L).length = s.locks.length := by simp [talL]
 have hE : (talE s L).length = s.classes.length := by simp [talE]
 have hpl : (s.pools.map poolD).length = s.pools.length := by simp
 have hcl : (s.classes.map clsD).length = s.classes.length := by simp
 refine sem_of_awp (Γ := tbl []) okG_nil _ _ _ ?_
 rcases hk5 with rfl | rfl | rfl | rfl | rfl
 ·have hqp : (q : Int) < s.pools.length := by simpa using o2
  have hqp2 : q < s.pools.length := by omega
  have hUn : D.nth (intsD (talU s L)) q = .int .i64 (sumI (frU s q) L) := rngM_get hqp2
  have hpn : D.nth (s.pools.map poolD) q = poolD (s.pools.getD q default) := D.nth_map hqp2
  have hpk := hg.pool (s.pools.getD q default) (by rw [List.getD_eq_getElem?_getD, List.getElem?_eq_getElem hqp2]; exact List.getElem_mem _)
  unfold PPool.bad at hpk
  rw [posB_1]
  generalize s.pools.getD q default = pk at hpn hpk ⊢
  have htU := ht.1
  generalize sumI (frU s q) L = U at hUn htU ⊢
  simp only [go_sem, Try.ntmps32, sysD, useD, stepD]
  refine sem_drawY [] [] (pf := []) (mf := []) mixed okG_nil pureNo noMk (ones [0, 1, 2, 3, 4, 5, 6, 7, 8, 9, 10, 11, 12, 13, 14, 15, 16, 17]) (by kernel_rfl) ?_
  simp only [go_sem, hqp, hqp2, hq0, hUn, hpn, hpl, ints_len, hU, poolD]
  refine ⟨inR_i64.2 (by omega), inR_i64.2 (by omega), ?_⟩
  cases deep with
  | false =>
   simp only [go_sem, hqp, hqp2, hq0, hpn, hpl, poolD]
   exact post_data (.inl rfl) [6] rfl trivial (by simp only [tmpsOf]; rfl)
  | true =>
   by_cases h0 : 0 <= pk.size - U - cnt
   ·simp only [go_sem, h0, hqp, hqp2, hq0, hpn, hpl, poolD]
    exact post_data (.inl rfl) [6] rfl trivial (by simp only [tmpsOf]; rfl)
   ·simp only [go_sem, h0, hqp, hqp2, hq0, hpn, hpl, poolD]
    exact post_data (.inl rfl) [6] rfl trivial (by simp only [tmpsOf]; rfl)
 ·rw [posB_2]
  simp only [go_sem, Try.ntmps32, sysD, useD, stepD]
  exact post_data (.inl rfl) [6] rfl trivial rfl
 ·have hqp : (q : Int) < s.locks.length := by simpa using o2
  have hqp2 : q < s.locks.length := by omega
  have hUn : D.nth (intsD (talL s L)) q = .int .i64 (sumI (frL s q) L) := rngM_get hqp2
  rw [posB_3]
  have htU := ht.2.1
  generalize sumI (frL s q) L = U at hUn htU ⊢
  simp only [go_sem, Try.ntmps32, sysD, useD, stepD, hqp, hqp2, hq0, hUn, ints_len, hLk]
  exact post_data (.inl rfl) [6] rfl trivial rfl
 ·rw [posB_4]
  simp only [go_sem, Try.ntmps32, sysD, useD, stepD]
  exact post_data (.inl rfl) [6] rfl trivial rfl
 ·have hqp : (q : Int) < s.classes.length := by simpa using o2
  have hqp2 : q < s.classes.length := by omega
  have hUn : D.nth (intsD (talE s L)) q = .int .i64 (sumI (frE s q) L) := rngM_get hqp2
  have hcn : D.nth (s.classes.map clsD) q = clsD (s.classes.getD q default) := D.nth_map hqp2
  rw [posB_5]
  have htU := ht.2.2
  generalize s.classes.getD q default = ck at hcn ⊢
  generalize sumI (frE s q) L = U at hUn htU ⊢
  simp only [go_sem, Try.ntmps32, sysD, useD, stepD]
  refine sem_drawY [] [] (pf := []) (mf := []) mixed okG_nil pureNo noMk (ones [0, 1, 2, 3, 4, 5, 6, 7, 8, 9, 10, 11, 12, 13, 14]) (by kernel_rfl) ?_
  simp only [go_sem, hqp, hqp2, hq0, hUn, hcn, hcl, ints_len, hE, clsD, stepsD]
  exact post_data (.inl rfl) [6] rfl trivial rfl
end Go.AM
namespace Go.AM
open Go Go.Proofs
def mxR (pool : Int) (d : Bool) (l : List PStep) : Nat -> Int
 | 0 => 0
 | k + 1 => mxN pool d l k
def waitB (s : PSys) (x : PStep) : Bool :=
 if x.kind = 3 ∨ x.kind = 5 then true else if x.kind = 1 then
  decide ((s.pools.getD x.on.toNat default).size - (s.pools.getD x.on.toNat default).res < demL x.on false s.classes) && !(x.deep && decide (demL x.on true s.classes <= (s.pools.getD x.on.toNat default).res))
 else false
def waitsR (ds : List D) (v : AV) : Prop := ∃ (s : PSys) (x : PStep), ds = [sysD s, stepD x] /\ s.good /\ preE s x = 0 /\ v = .dat (.bool (waitB s x))
theorem waits_ok : OkF Try.prog 41 (dataC waitsR) := by
 refine okF_data Try.func41 rfl (by decide) ?_
 rintro ds v ⟨s, x, rfl, hg, hp, rfl⟩
 have hok : OkG Try.prog (tbl [(55, dataC demandR)]) := okG_cons demand_ok okG_nil
 refine sem_of_awp (Γ := tbl [(55, dataC demandR)]) hok _ _ _ ?_
 generalize hv : waitB s x = V
 have fin : ∀ s own (b c : Bool), b = c -> s.getD 4 .top = .dat (.bool b) -> post Try.prog Try.f41 (.dat (.bool c)) [] [] .ret ⟨s, own, 0, []⟩ := fun s own b c e h => by
  subst e
  exact post_data (.inl rfl) [4] rfl trivial (by simp only [tmpsOf, h]; rfl)
 obtain ⟨⟨k1, k2⟩, ⟨o1, o2⟩, hc, hc0⟩ := preE_0 hp
 obtain ⟨kind, on, cnt, deep⟩ := x
 simp only at *
 unfold waitB at hv
 simp only at hv
 have hk : kind = 1 ∨ kind = 2 ∨ kind = 3 ∨ kind = 4 ∨ kind = 5 := by omega
 rcases hk with rfl | rfl | rfl | rfl | rfl
 ·rw [if_neg (by omega), if_pos rfl] at hv
  simp only [go_sem, Try.ntmps41, sysD, stepD]
  refine call_data demandR (by simp) [sysD s, .int .i64 on] _ rfl ⟨s, on, rfl, hg, rfl⟩ (.inl rfl) ?_
  obtain ⟨i, rfl⟩ : ∃ i : Nat, on = i := ⟨on.toNat, by omega⟩
  have hi : i < s.pools.length := by simp [mostE] at o2; omega
  have hi2 : (i : Int) < s.pools.length := by omega
  have hnp : D.nth (s.pools.map poolD) i = poolD (s.pools.getD i default) := D.nth_map hi
  rw [Int.toNat_natCast] at hv
  have hpb := hg.pool (s.pools.getD i default) (by rw [List.getD_eq_getElem?_getD, List.getElem?_eq_getElem hi]; exact List.getElem_mem hi)
  generalize s.pools.getD i default = p at *
  unfold PPool.bad at hpb
  simp only [go_sem, hi, hi2, hnp, poolD]
  refine ⟨inR_i64.2 (by omega), ?_⟩
  by_cases hA : p.size - p.res < demL i false s.classes
  ·rw [decide_eq_true hA, Bool.true_and] at hv
   cases deep with
   | true =>
    simp only [go_sem, hA]
    refine fin _ _ _ _ ?_ (by rfl)
    rw [← hv]; simp
   | false =>
    simp only [go_sem, hA]
    refine fin _ _ _ _ ?_ (by rfl)
    rw [← hv]; simp
  ·rw [decide_eq_false hA, Bool.false_and] at hv
   simp only [go_sem, hA]
   exact fin _ _ _ _ hv (by rfl)
 ·simp only [go_sem, Try.ntmps41, sysD, stepD]
  exact fin _ _ _ _ (by rw [← hv]) (by rfl)
 ·simp only [go_sem, Try.ntmps41, sysD, stepD]
  exact fin _ _ _ _ (by rw [← hv]) (by rfl)
 ·simp only [go_sem, Try.ntmps41, sysD, stepD]
  exact fin _ _ _ _ (by rw [← hv]) (by rfl)
 ·simp only [go_sem, Try.ntmps41, sysD, stepD]
  exact fin _ _ _ _ (by rw [← hv]) (by rfl)
def stepAt (s : PSys) (c k : Int) : PStep := (s.classes.getD c.toNat default).steps.getD k.toNat default
def noStep (s : PSys) (c k : Int) : Prop := c < 0 ∨ (s.classes.length : Int) <= c ∨ k < 0 ∨ ((s.classes.getD c.toNat default).steps.length : Int) <= k
instance (s : PSys) (c k : Int) : Decidable (noStep s c k) := by unfold noStep; exact inferInstance
def waitN (s : PSys) (c k : Int) : Bool := if checkE s ≠ 0 ∨ noStep s c k then false else waitB s (stepAt s c k)
def waitNR (ds : List D) (v : AV) : Prop := ∃ (s : PSys) (c k : Int), ds = [sysD s, .int .i64 c, .int .i64 k] /\ s.fit /\ v = .dat (.bool (waitN s c k))
abbrev tabWA : List (Nat × Contract) := [(6, dataC checkR), (41, dataC waitsR)]
end Go.AM
namespace Go.AM
open Go Go.Proofs
def ampleR (ds : List D) (v : AV) : Prop := ∃ (s : PSys) (i : Nat), ds = [sysD s, .int .i64 i] /\ s.fit /\ checkE s = 0 /\ i < s.pools.length /\ v = .dat (.bool (decide (demL i false s.classes <= (s.pools.getD i default).size - (s.pools.getD i default).res)))
def safeR (ds : List D) (v : AV) : Prop := ∃ (s : PSys) (i : Nat), ds = [sysD s, .int .i64 i] /\ s.fit /\ checkE s = 0 /\ i < s.pools.length /\ v = .dat (.bool (decide (demL i true s.classes <= (s.pools.getD i default).res)))
end Go.AM
namespace Go.AM
open Go Go.Proofs
def balU (s : PSys) (l : List PStep) : List Int := (List.range s.pools.length).map fun i => bal l (i : Nat) 0
def balB (s : PSys) (l : List PStep) : List Bool := (List.range s.locks.length).map fun i => decide (0 < bal l (i : Nat) 1)
theorem tr_hold {s : PSys} {l : List PStep} {h : Hold} (t : Tr s l h) : h.units = balU s l /\ h.locks = balB s l := by
 obtain ⟨ul, ll, un, lo⟩ := t
 constructor
 ·refine List.ext_getElem (by simp [balU, ul]) fun i h1 h2 => ?_
  have := un i (by omega)
  rw [List.getD_eq_getElem?_getD, List.getElem?_eq_getElem h1] at this
  simpa [balU] using this
 ·refine List.ext_getElem (by simp [balB, ll]) fun i h1 h2 => ?_
  have := lo i (by omega)
  rw [List.getD_eq_getElem?_getD, List.getElem?_eq_getElem h1] at this
  simp only [Option.getD_some] at this
  simp only [balB, List.getElem_map, List.getElem_range]
  cases hb : h.locks[i] with
  | true => have := this.1.1 hb; rw [this]; rfl
  | false =>
   rcases this.2 with h0 | h0
   ·rw [h0]; rfl
   ·rw [this.1.2 h0] at hb; cases hb
def heldV (s : PSys) (c k : Int) : AV :=
 if checkE s ≠ 0 then .tup [.dat (.sl none []), .dat (.sl none []), .dat (.int .i64 (checkE s))] else
 if c < 0 ∨ (s.classes.length : Int) <= c ∨ k < 0 ∨ ((s.classes.getD c.toNat default).steps.length : Int) < k then .tup [.dat (.sl none []), .dat (.sl none []), .dat (.int .i64 2)] else
 .tup [.dat (.sl none (intsD (balU s ((s.classes.getD c.toNat default).steps.take k.toNat)))), .dat (.sl none (boolsD (balB s ((s.classes.getD c.toNat default).steps.take k.toNat)))), .dat (.int .i64 0)]
theorem heldV_1 {s : PSys} {c k : Int} (h : checkE s ≠ 0) : heldV s c k = .tup [.dat (.sl none []), .dat (.sl none []), .dat (.int .i64 (checkE s))] := by unfold heldV; rw [if_pos h]
theorem heldV_2 {s : PSys} {c k : Int} (h : checkE s = 0) (h2 : c < 0 ∨ (s.classes.length : Int) <= c ∨ k < 0 ∨ ((s.classes.getD c.toNat default).steps.length : Int) < k) : heldV s c k = .tup [.dat (.sl none []), .dat (.sl none []), .dat (.int .i64 2)] := by
 unfold heldV; rw [if_neg (by rw [h]; decide), if_pos h2]
theorem heldV_3 {s : PSys} {c k : Nat} (h : checkE s = 0) (hc : c < s.classes.length) (hk : k <= (s.classes.getD c default).steps.length) :
  heldV s c k = .tup [.dat (.sl none (intsD (balU s ((s.classes.getD c default).steps.take k)))), .dat (.sl none (boolsD (balB s ((s.classes.getD c default).steps.take k)))), .dat (.int .i64 0)] := by
 unfold heldV; rw [if_neg (by rw [h]; decide), if_neg (by rw [Int.toNat_natCast]; omega), Int.toNat_natCast, Int.toNat_natCast]
def heldR (ds : List D) (v : AV) : Prop := ∃ (s : PSys) (c k : Int), ds = [sysD s, .int .i64 c, .int .i64 k] /\ s.fit /\ v = heldV s c k
abbrev tabPH : List (Nat × Contract) := [(6, dataC checkR), (37, madeC startR), (38, normC (lentC hstepR))]
theorem tabPH_ok : OkG Try.prog (tbl tabPH) := okG_cons check_ok (okG_cons start_ok (okG_cons (okF_norm hstep_ok) okG_nil))
theorem held_ok : OkF Try.prog 56 (dataC heldR) := by
 refine okF_data Try.func56 rfl (by decide) ?_
 rintro ds v ⟨s, c, k, rfl, hf, rfl⟩
 refine sem_of_awp (Γ := tbl tabPH) tabPH_ok _ _ _ ?_
 generalize hv : heldV s c k = V
 have nilE : ∀ s own e, s.getD 6 .top = .nils -> s.getD 7 .top = .nils -> s.getD 8 .top = .dat (.int .i64 e) -> post Try.prog Try.f56 (.tup [.dat (.sl none []), .dat (.sl none []), .dat (.int .i64 e)]) [] [] .ret ⟨s, own, 0, []⟩ := fun s own e h6 h7 h8 => by
  refine post_res (.inl rfl) [.tmp 6, .tmp 7, .tmp 8] rfl ?_
  simp only [go_sem, h6, h7, h8]
  exact le_fin (by simp only [go_sem]) (by simp only [go_sem])
 simp only [go_sem, Try.ntmps56, sysD]
 refine call_data checkR (by simp) [sysD s] _ rfl ⟨s, rfl, hf, rfl⟩ (.inl rfl) ?_
 by_cases h : checkE s = 0
 case neg =>
  simp only [go_sem, h]
  rw [← hv, heldV_1 h]
  exact nilE _ _ _ (by rfl) (by rfl) (by rfl)
 simp only [go_sem, h]
 by_cases h1 : c < 0
 ·rw [← hv, heldV_2 h (.inl h1)]
  simp only [go_sem, h1]
  exact nilE _ _ _ (by rfl) (by rfl) (by rfl)
 by_cases h2 : (s.classes.length : Int) <= c
 ·rw [← hv, heldV_2 h (.inr (.inl h2))]
  simp only [go_sem, h1, h2]
  exact nilE _ _ _ (by rfl) (by rfl) (by rfl)
 by_cases h3 : k < 0
 ·rw [← hv, heldV_2 h (.inr (.inr (.inl h3)))]
  simp only [go_sem, h1, h2, h3]
  exact nilE _ _ _ (by rfl) (by rfl) (by rfl)
 obtain ⟨i, rfl⟩ : ∃ i : Nat, c = i := ⟨c.toNat, by omega⟩
 obtain ⟨j, rfl⟩ : ∃ j : Nat, k = j := ⟨k.toNat, by omega⟩
 have hi : i < s.classes.length := by omega
 have hi2 : (i : Int) < s.classes.length := by omega
 have hnc : D.nth (s.classes.map clsD) i = clsD (s.classes.getD i default) := D.nth_map hi
 have hcm : s.classes.getD i default ∈ s.classes := by rw [List.getD_eq_getElem?_getD, List.getElem?_eq_getElem hi]; exact List.getElem_mem hi
 have hcg := (good_of h).cls _ hcm
 have hv2 := fun h4 => heldV_2 (s := s) (c := i) (k := j) h (.inr (.inr (.inr h4)))
 have hv3 := heldV_3 (k := j) h hi
 rw [Int.toNat_natCast] at hv2
 generalize s.classes.getD i default = c at *
 simp only [go_sem, h1, h2, h3, hi2, hi, hnc, clsD, stepsD]
 by_cases h4 : (c.steps.length : Int) < j
 ·rw [← hv, hv2 h4]
  simp only [go_sem, h4]
  exact nilE _ _ _ (by rfl) (by rfl) (by rfl)
 have hj : j <= c.steps.length := by omega
 have hj2 : (j : Int) <= c.steps.length := by omega
 have hV := hv3 hj
 rw [hV] at hv
 subst hv
 simp only [go_sem, h4]
 refine call_made startR (by simp) _ _ _ rfl rfl ⟨s, rfl, hf.small, rfl, rfl⟩ ?_
 have htk : List.take j (c.steps.map stepD) = (c.steps.take j).map stepD := by simp [List.map_take]
 have hlt : (c.steps.take j).length = j := by simp; omega
 simp only [go_sem, AV.shift, Obj.shift, AV.shifts, hi, hi2, hnc, clsD, stepsD, hj2, Int.sub_zero, List.length_map, htk, hlt]
 have hnp : (hold0 s).units.length = s.pools.length := by simp [hold0, zerosI]
 have hnl : (hold0 s).locks.length = s.locks.length := by simp [hold0, zerosB]
 have hsm := hf.small
 have hl12 := hcg.l12
 refine sem_loop (fun p : Nat × Hold => ⟨slotsOf 65 [(3, .ptr 0 0 0), (10, .ptr 3 0 0), (51, .dat (.sl (some 4) ((c.steps.take j).map stepD))), (52, .dat (.int .i64 j)), (53, .dat (.int .i64 p.1))],
   [sysO s, .row none (intsD p.2.units), .row none (boolsD p.2.locks), .box [.sl 1 0 p.2.units.length, .sl 2 0 p.2.locks.length]], 0, []⟩)
  (fun p => p.1 <= j /\ Tr s (c.steps.take p.1) p.2 /\ verd (runE s (c.steps.drop p.1) p.2) = 0 /\ (∀ n ∈ p.2.units, -(1000 * (p.1 : Int)) <= n /\ n <= 1000 * (p.1 : Int))) (fun p => j - p.1) (0, hold0 s) ⟨Nat.zero_le _, tr_nil _, hcg.run, by simp [hold0, zerosI]⟩ ?_ ?_
 ·simp only [hnp, hnl]
  exact le_slots' (by simp only [go_sem, Int.natCast_zero])
 ·rintro ⟨m, h⟩ ⟨hm, hT, hI, hbd⟩
  simp only at hm hT hI hbd
  refine sem_of_awp (Γ := tbl tabPH) tabPH_ok _ _ _ ?_
  have hu := hT.ul
  have hb := hT.ll
  by_cases hmj : m < j
  ·have hmc : m < c.steps.length := by omega
   have hd : c.steps.drop m = c.steps[m] :: c.steps.drop (m + 1) := List.drop_eq_getElem_cons hmc
   have hk2 : (m : Int) < j := by omega
   have hk0 : (0 : Int) <= m := Int.natCast_nonneg m
   have hn : D.nth ((c.steps.take j).map stepD) m = stepD c.steps[m] := by
    have : (c.steps.take j).drop m = c.steps[m] :: (c.steps.take j).drop (m + 1) := by
     rw [List.drop_eq_getElem_cons (by rw [hlt]; exact hmj)]; simp
    exact nth_of_drop (f := stepD) this
   have hx0 : stepE s h.units h.locks c.steps[m] = 0 := by
    rw [hd] at hI
    apply Classical.byContradiction; intro he
    rw [verd_err he] at hI; exact he hI
   have hI2 := hI
   rw [hd, verd_go hx0] at hI2
   have htr := tr_step hT hx0
   rw [← take_of_drop hd] at htr
   generalize c.steps[m] = x at *
   obtain ⟨u, b⟩ := h
   simp only at hu hb hbd hx0 hI2 htr
   simp only [go_sem, hk2, hk0, hn, hmj, hlt, stepD]
   refine call_lentN hstepR (by simp) [3, 1, 2] ⟨s, x, u, b, hu, hb, (good_of ‹_›).tame, fun n hn => by have := hbd n hn; omega, rfl, rfl, rfl, rfl, rfl, rfl⟩ (by decide) (by simp) rfl rfl rfl (by simp only [go_sem, AV.unders, AV.under]) ?_ ?_ ?_
   ·simp only [holdO, List.mem_cons, List.mem_nil_iff, or_false, forall_eq_or_imp, forall_eq]; exact ⟨by simp only [Obj.under, AV.unders, AV.under]; decide, trivial, trivial⟩
   ·intro j hj
    rcases j with _ | _ | _ | j
    ·rfl
    ·rfl
    ·rfl
    ·simp at hj; omega
   simp only [go_sem, hx0]
   refine ⟨inR_i64.2 (by omega), (m + 1, ⟨stepU s u x, stepL s b x⟩), ⟨by simp only; omega, htr, hI2, fun n hn => ?_⟩, by simp only; omega, ?_⟩
   ·have := stepU_small (good_of ‹_›).tame (b := 1000 * (m : Int)) hbd (by omega) n hn
    simp only
    omega
   ·simp only [holdO, setAll, emb, AV.ren, AV.rens, Obj.ren]
    refine le_end (own := [_, _, _, _]) (ex := [_]) (Nat.zero_le _) ?_ ?_ ?_
    ·simp only [go_sem, Int.natCast_add, Int.cast_ofNat_Int]
    ·simp only [go_sem, stepU_len, stepL_len]
    ·simp only [go_sem, Obj.under, AV.unders, AV.under]
     decide
  ·obtain rfl : m = j := by omega
   have hk2 : ¬ (m : Int) < m := by omega
   obtain ⟨e1, e2⟩ := tr_hold hT
   rw [← e1, ← e2]
   simp only [go_sem, hk2]
   refine sem_draw (pf := []) mixed tabPH_ok pureNo [0, 1, 2, 3, 4, 5, 6] (by kernel_rfl) ?_
   simp only [go_sem, chainI]
   refine post_res (.inl rfl) [.tmp 6, .tmp 7, .tmp 8] rfl ?_
   simp only [go_sem]
   refine Le.trans (le_freeze 1 (ag := none) rfl (Nat.zero_le _)) ?_
   refine Le.trans (le_freeze 2 (ag := none) rfl (Nat.zero_le _)) ?_
   have t1 : List.take h.units.length (intsD h.units) = intsD h.units := List.take_of_length_le (by simp)
   have t2 : List.take h.locks.length (boolsD h.locks) = boolsD h.locks := List.take_of_length_le (by simp)
   simp only [go_sem, t1, t2]
   exact le_fin (by simp only [go_sem]) (by simp only [go_sem])
end Go.AM
namespace Go.AM
open Go Go.Proofs
theorem balU_len (s : PSys) (l : List PStep) : (balU s l).length = s.pools.length := by simp [balU]
theorem balB_len (s : PSys) (l : List PStep) : (balB s l).length = s.locks.length := by simp [balB]
def targetN (s : PSys) (x : PStep) : Int := if x.kind = 3 then s.pools.length + x.on else if x.kind = 5 then (s.pools.length : Int) + s.locks.length + x.on else x.on
def targetR (ds : List D) (v : AV) : Prop := ∃ (s : PSys) (x : PStep), ds = [sysD s, stepD x] /\ s.good /\ preE s x = 0 /\ v = .dat (.int .i64 (targetN s x))
theorem resource_ok : OkF Try.prog 42 (dataC targetR) := by
 refine okF_data Try.func42 rfl (by decide) ?_
 rintro ds v ⟨s, x, rfl, hg, hp, rfl⟩
 refine sem_of_awp (Γ := tbl []) okG_nil _ _ _ ?_
 generalize hv : targetN s x = V
 have fin : ∀ s own (b c : Int), b = c -> s.getD 4 .top = .dat (.int .i64 b) -> post Try.prog Try.f42 (.dat (.int .i64 c)) [] [] .ret ⟨s, own, 0, []⟩ := fun s own b c e h => by
  subst e
  exact post_data (.inl rfl) [4] rfl trivial (by simp only [tmpsOf, h]; rfl)
 obtain ⟨⟨k1, k2⟩, ⟨o1, o2⟩, hc, hc0⟩ := preE_0 hp
 obtain ⟨kind, on, cnt, deep⟩ := x
 have hnp := hg.np
 have hnl := hg.nl
 have hnc := hg.nc
 unfold mostE at o2
 simp only at *
 unfold targetN at hv
 simp only at hv
 by_cases h3 : kind = 3
 ·subst h3
  rw [if_pos rfl] at hv
  rw [if_pos (.inl rfl)] at o2
  simp only [go_sem, Try.ntmps42, sysD, stepD]
  refine ⟨inR_i64.2 (by omega), ?_⟩
  exact fin _ _ _ _ hv (by rfl)
 by_cases h5 : kind = 5
 ·subst h5
  rw [if_neg h3, if_pos rfl] at hv
  rw [if_neg (by omega), if_pos rfl] at o2
  simp only [go_sem, Try.ntmps42, sysD, stepD, h3]
  refine ⟨inR_i64.2 (by omega), inR_i64.2 (by omega), ?_⟩
  exact fin _ _ _ _ hv (by rfl)
 rw [if_neg h3, if_neg h5] at hv
 simp only [go_sem, Try.ntmps42, sysD, stepD, h3, h5]
 exact fin _ _ _ _ hv (by rfl)
end Go.AM
namespace Go.AM
open Go Go.Proofs
def hU : Nat -> List Int -> List Int
 | _, [] => []
 | i, n :: r => if 0 < n then (i : Int) :: hU (i + 1) r else hU (i + 1) r
def hB (off : Int) : Nat -> List Bool -> List Int
 | _, [] => []
 | i, b :: r => if b = true then (off + i) :: hB off (i + 1) r else hB off (i + 1) r
def hC (s : PSys) (c : PCls) (i : Int) : List Int := if c.server = true then [(s.pools.length : Int) + s.locks.length + i] else []
def holdL (s : PSys) (c : PCls) (i : Int) (L : List PStep) : List Int := hU 0 (balU s L) ++ hB s.pools.length 0 (balB s L) ++ hC s c i
theorem hU_len : ∀ (i : Nat) (l : List Int), (hU i l).length <= l.length
 | _, [] => by simp [hU]
 | i, n :: r => by
  have := hU_len (i + 1) r
  simp only [hU]; split <;> simp only [List.length_cons] <;> omega
theorem hB_len (off : Int) : ∀ (i : Nat) (l : List Bool), (hB off i l).length <= l.length
 | _, [] => by simp [hB]
 | i, n :: r => by
  have := hB_len off (i + 1) r
  simp only [hB]; split <;> simp only [List.length_cons] <;> omega
theorem ownU_bal (i : Int) (l : List PStep) : (ownU i l).1 = bal l i 0 := by
 have : ∀ (l : List PStep) (p : Int × Int), (l.foldl (ustep i) p).1 = l.foldl (bstep i 0) p.1 := by
  intro l
  induction l with
  | nil => intro p; rfl
  | cons x r ih =>
   intro p
   simp only [List.foldl_cons]
   rw [ih]
   congr 1
   unfold ustep bstep
   (repeat' split) <;> first | rfl | omega
 exact this l (0, 0)
def holdR (ds : List D) (v : AV) : Prop := ∃ (s : PSys) (i j : Nat), ds = [sysD s, .int .i64 i, .int .i64 j] /\ s.fit /\ checkE s = 0 /\ i < s.classes.length /\ j <= (s.classes.getD i default).steps.length /\
 v = .dat (.sl none (intsD (holdL s (s.classes.getD i default) i ((s.classes.getD i default).steps.take j))))
abbrev tabHO : List (Nat × Contract) := [(56, dataC heldR)]
theorem tabHO_ok : OkG Try.prog (tbl tabHO) := okG_cons held_ok okG_nil
theorem holdings_ok : OkF Try.prog 43 (dataC holdR) := by
 refine okF_data Try.func43 rfl (by decide) ?_
 rintro ds v ⟨s, i, j, rfl, hf, h, hi, hj, rfl⟩
 refine sem_of_awp (Γ := tbl tabHO) tabHO_ok _ _ _ ?_
 have hi2 : (i : Int) < s.classes.length := by omega
 have hi0 : (0 : Int) <= i := Int.natCast_nonneg i
 have hnc : D.nth (s.classes.map clsD) i = clsD (s.classes.getD i default) := D.nth_map hi
 have hV := heldV_3 h hi hj
 have hg := good_of h
 have hnp := hg.np
 have hnl := hg.nl
 have hncl := hg.nc
 generalize s.classes.getD i default = c at *
 generalize hL : c.steps.take j = L at *
 simp only [go_sem, Try.ntmps43, sysD]
 refine call_data heldR (by simp) [sysD s, .int .i64 i, .int .i64 j] _ rfl ⟨s, i, j, rfl, hf, hV.symm⟩ (.inl rfl) ?_
 have hUl := balU_len s L
 have hBl := balB_len s L
 have hv : holdL s c i L = hU 0 (balU s L) ++ hB s.pools.length 0 (balB s L) ++ hC s c i := rfl
 generalize holdL s c i L = V at *
 generalize balU s L = U at *
 generalize balB s L = B at *
 simp only [go_sem, ints_len, List.length_map, hUl, hBl]
 refine sem_le (le_addnil 10 none rfl (Nat.zero_le _)) ?_
 simp only [go_sem]
 refine sem_loop (fun p : Nat × List Int => ⟨slotsOf 73 [(1, .dat (.int .i64 i)), (3, .ptr 0 0 0), (8, .dat (.sl none (boolsD B))), (10, .sl 1 0 p.2.length), (23, .dat (.sl none (intsD U))), (24, .dat (.int .i64 s.pools.length)), (25, .dat (.int .i64 p.1))],
   [sysO s, .row none (intsD p.2)], 0, []⟩)
  (fun p => p.1 <= s.pools.length /\ p.2.length <= p.1 /\ p.2 ++ hU p.1 (U.drop p.1) = hU 0 U) (fun p => s.pools.length - p.1) (0, []) ⟨Nat.zero_le _, Nat.zero_le _, rfl⟩ ?_ ?_
 ·exact le_slots' (by simp only [go_sem, Int.natCast_zero])
 ·rintro ⟨k, acc⟩ ⟨hk, ha, hI⟩
  simp only at hk ha hI
  refine sem_of_awp (Γ := tbl tabHO) tabHO_ok _ _ _ ?_
  cases hd : U.drop k with
  | nil =>
   have := end_of_drop hd (by omega)
   have hk2 : ¬ (k : Int) < s.pools.length := by omega
   rw [hd, hU, List.append_nil] at hI
   subst hI
   simp only [go_sem, hk2, List.length_map, hBl]
   refine sem_loop (fun p : Nat × List Int => ⟨slotsOf 73 [(1, .dat (.int .i64 i)), (3, .ptr 0 0 0), (10, .sl 1 0 p.2.length), (37, .dat (.sl none (boolsD B))), (38, .dat (.int .i64 s.locks.length)), (39, .dat (.int .i64 p.1))],
     [sysO s, .row none (intsD p.2)], 0, []⟩)
    (fun p => p.1 <= s.locks.length /\ p.2.length <= s.pools.length + p.1 /\ p.2 ++ hB s.pools.length p.1 (B.drop p.1) = hU 0 U ++ hB s.pools.length 0 B) (fun p => s.locks.length - p.1) (0, hU 0 U) ⟨Nat.zero_le _, by simp only; omega, rfl⟩ ?_ ?_
   ·exact le_slots' (by simp only [go_sem, Int.natCast_zero])
   ·rintro ⟨k, acc⟩ ⟨hk, ha, hI⟩
    simp only at hk ha hI
    refine sem_of_awp (Γ := tbl tabHO) tabHO_ok _ _ _ ?_
    cases hd : B.drop k with
    | nil =>
     have := end_of_drop hd (by omega)
     have hk2 : ¬ (k : Int) < s.locks.length := by omega
     rw [hd, hB, List.append_nil] at hI
     rw [← hI] at hv
     unfold hC at hv
     simp only [go_sem, hk2, hi2, hi0, hi, hnc, clsD]
     cases hs : c.server with
     | true =>
      rw [hs, if_pos rfl] at hv
      simp only [go_sem, hs, ints_take, ints_len, ints_snoc]
      refine ⟨inR_i64.2 (by omega), inR_i64.2 (by omega), by omega, by omega, ?_⟩
      refine post_res (.inl rfl) [.tmp 6] rfl ?_
      simp only [go_sem]
      refine Le.trans (le_freeze 1 (ag := none) rfl (Nat.zero_le _)) ?_
      have hl : acc.length + 1 = V.length := by rw [hv]; simp
      simp only [go_sem, ← hv, hl, ints_take, ints_len, Nat.le_refl]
      exact le_fin (by simp only [go_sem]) (by simp only [go_sem])
     | false =>
      rw [hs, if_neg (by simp), List.append_nil] at hv
      subst hv
      simp only [go_sem, hs]
      refine post_res (.inl rfl) [.tmp 6] rfl ?_
      simp only [go_sem]
      refine Le.trans (le_freeze 1 (ag := none) rfl (Nat.zero_le _)) ?_
      simp only [go_sem, ints_take, ints_len, Nat.le_refl]
      exact le_fin (by simp only [go_sem]) (by simp only [go_sem])
    | cons b q =>
     have hlt := lt_of_drop hd
     have hk2 : (k : Int) < s.locks.length := by omega
     have hk3 : k < s.locks.length := by omega
     have hk0 : (0 : Int) <= k := Int.natCast_nonneg k
     have hn := nth_of_drop (f := D.bool) hd
     rw [hd, hB] at hI
     simp only [go_sem, hk2, hk3, hk0, hn, hBl, hlt]
     cases b with
     | true =>
      rw [if_pos rfl] at hI
      simp only [go_sem, ints_take, ints_len, ints_snoc]
      refine ⟨inR_i64.2 (by omega), by omega, by omega, inR_i64.2 (by omega), (k + 1, acc ++ [(s.pools.length : Int) + k]), ⟨by simp only; omega, by simp; omega, ?_⟩, by simp only; omega, ?_⟩
      ·simp only; rw [drop_cons hd, List.append_assoc]; exact hI
      ·refine le_end (own := [_, _]) (ex := [_]) (Nat.zero_le _) ?_ ?_ ?_
       ·simp only [go_sem, Int.natCast_add, Int.cast_ofNat_Int, List.length_append, List.length_cons, List.length_nil, Nat.zero_add]
       ·simp only [go_sem]
       ·simp only [go_sem, Obj.under, AV.unders, AV.under]
     | false =>
      rw [if_neg (by simp)] at hI
      simp only [go_sem]
      refine ⟨inR_i64.2 (by omega), (k + 1, acc), ⟨by simp only; omega, by simp only; omega, ?_⟩, by simp only; omega, ?_⟩
      ·simp only; rw [drop_cons hd]; exact hI
      ·exact le_slots' (by simp only [go_sem, Int.natCast_add, Int.cast_ofNat_Int])
  | cons n q =>
   have hlt := lt_of_drop hd
   have hk2 : (k : Int) < s.pools.length := by omega
   have hk3 : k < s.pools.length := by omega
   have hk0 : (0 : Int) <= k := Int.natCast_nonneg k
   have hn := nth_of_drop (f := D.int .i64) hd
   rw [hd, hU] at hI
   simp only [go_sem, hk2, hk3, hk0, hn, hUl, hlt]
   by_cases hn0 : 0 < n
   ·rw [if_pos hn0] at hI
    simp only [go_sem, hn0, ints_take, ints_len, ints_snoc]
    refine ⟨by omega, by omega, inR_i64.2 (by omega), (k + 1, acc ++ [(k : Int)]), ⟨by simp only; omega, by simp; omega, ?_⟩, by simp only; omega, ?_⟩
    ·simp only; rw [drop_cons hd, List.append_assoc]; exact hI
    ·refine le_end (own := [_, _]) (ex := [_]) (Nat.zero_le _) ?_ ?_ ?_
     ·simp only [go_sem, Int.natCast_add, Int.cast_ofNat_Int, List.length_append, List.length_cons, List.length_nil, Nat.zero_add]
     ·simp only [go_sem]
     ·simp only [go_sem, Obj.under, AV.unders, AV.under]
   ·rw [if_neg hn0] at hI
    simp only [go_sem, hn0]
    refine ⟨inR_i64.2 (by omega), (k + 1, acc), ⟨by simp only; omega, by simp only; omega, ?_⟩, by simp only; omega, ?_⟩
    ·simp only; rw [drop_cons hd]; exact hI
    ·exact le_slots' (by simp only [go_sem, Int.natCast_add, Int.cast_ofNat_Int])
end Go.AM

