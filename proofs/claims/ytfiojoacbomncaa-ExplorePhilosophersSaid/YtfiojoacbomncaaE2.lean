/- Own work over the model of the kit. -/
import Derived.Test.YtfiojoacbomncaaD21
import Derived.Test.YtfiojoacbomncaaE0
set_option linter.unusedSimpArgs false
set_option linter.unusedVariables false
set_option linter.constructorNameAsVariable false
set_option maxRecDepth 8000
set_option maxHeartbeats 4000000
set_option maxRecDepth 100000
namespace Go.AM
open Go Go.Proofs
def phiOk (k : Nat) : Bool := decide (checkE (phiP k false) = 0) && decide (checkE (phiP k true) = 0) && (match deadC (phiP k false) 12 with
 | none => false
 | some v => decide (v = ((List.range k).map fun (i : Nat) => (i : Int), 0, 0)) && decide ((replayX (phiP k false) v.1).2 = 0) && decide ((stuckX (phiP k false) (replayX (phiP k false) v.1).1).2 = 0) && decide ((stuckX (phiP k false) (replayX (phiP k false) v.1).1).1.length = k)) && match deadC (phiP k true) 12 with
 | none => false
 | some v => decide (v.2.2 = 6)
theorem phi2_all : phiOk 2 = true := by kernel_rfl
theorem phi3_all : phiOk 3 = true := by kernel_rfl
theorem phi4_all : phiOk 4 = true := by kernel_rfl
end Go.AM

set_option maxRecDepth 8000
set_option maxHeartbeats 4000000
namespace Go.AM
open Go Go.Proofs

abbrev rngI (k : Nat) : List Int := (List.range k).map fun (i : Nat) => (i : Int)
theorem phi_val {k : Nat} (h : phiOk k = true) : checkE (phiP k false) = 0 ∧ checkE (phiP k true) = 0 ∧ deadC (phiP k false) 12 = some (rngI k, 0, 0) ∧ (∃ x n, replayX (phiP k false) (rngI k) = (x, 0) ∧ stuckX (phiP k false) x = (n, 0) ∧ n.length = k) ∧ ∃ v, deadC (phiP k true) 12 = some v ∧ v.2.2 = 6 := by
 unfold phiOk at h
 simp only [Bool.and_eq_true, decide_eq_true_iff] at h
 obtain ⟨⟨⟨h1, h2⟩, h3⟩, h4⟩ := h
 refine ⟨h1, h2, ?_⟩
 cases hd : deadC (phiP k false) 12 with
 | none => rw [hd] at h3; simp at h3
 | some v =>
  rw [hd] at h3
  simp only [Bool.and_eq_true, decide_eq_true_iff] at h3
  obtain ⟨⟨⟨rfl, e2⟩, e3⟩, e4⟩ := h3
  refine ⟨rfl, ⟨_, _, Prod.ext rfl e2, Prod.ext rfl e3, e4⟩, ?_⟩
  cases hd' : deadC (phiP k true) 12 with
  | none => rw [hd'] at h4; simp at h4
  | some v =>
   rw [hd'] at h4
   exact ⟨v, rfl, by simpa using h4⟩
abbrev tabZ4 : List (Nat × Contract) := [(11, dataC awakeXR), (30, dataC phiPR), (23, dataC deadR), (31, dataC replayXR), (26, dataC stuckR)]
theorem tabZ4_ok : OkG Try.prog (tbl tabZ4) := okG_cons awakeX_ok (okG_cons philosophers_ok (okG_cons xDeadlock_ok (okG_cons xReplay_ok (okG_cons xStuck_ok okG_nil))))
theorem pureZ4 {pf : List Nat} : PureFns (tbl tabZ4) pf := pure_of (by
 intro g C h hg
 simp only [tabZ4, List.mem_cons, Prod.mk.injEq, List.not_mem_nil, or_false] at h
 rcases h with ⟨_, h⟩ | ⟨_, h⟩ | ⟨_, h⟩ | ⟨_, h⟩ | ⟨_, h⟩ <;> exact ⟨_, h⟩)
theorem tmod_nat2 {a b : Nat} : (a : Int).tmod (b : Int) = ((a % b : Nat) : Int) := by
 rw [Int.tmod_eq_emod_of_nonneg (by omega)]; norm_cast
def lawPhR (ds : List D) (v : AV) : Prop := ∃ a : Nat, ds = [byteD a] ∧ a < 256 ∧ v = .dat (.bool true)
theorem lawPhilosophers_ok : OkF Try.prog 7 (dataC lawPhR) := by
 refine okF_data Try.func7 rfl (by decide) ?_
 rintro ds v ⟨a, rfl, ha, rfl⟩
 have e1 : (a : Int).tmod 3 = ((a % 3 : Nat) : Int) := tmod_nat2 (b := 3)
 have hA : (2 : Int) + ((a % 3 : Nat) : Int) = ((2 + a % 3 : Nat) : Int) := by omega
 have A1 : 2 ≤ 2 + a % 3 ∧ 2 + a % 3 ≤ 4 := by omega
 have q1 : inR .i64 ((a : Nat) : Int) := inR_i64.2 (by omega)
 have q2 : inR .i64 ((a % 3 : Nat) : Int) := inR_i64.2 (by omega)
 generalize 2 + a % 3 = k at *
 have q3 : inR .i64 ((k : Nat) : Int) := inR_i64.2 (by omega)
 have hok : phiOk k = true := by
  have : k = 2 ∨ k = 3 ∨ k = 4 := by omega
  rcases this with rfl | rfl | rfl
  ·exact phi2_all
  ·exact phi3_all
  ·exact phi4_all
 obtain ⟨c1, c2, hd, ⟨x, n, hr, hs, hn⟩, w, hw, hw6⟩ := phi_val hok
 have d1 := deadR_of c1 hd
 have d2 := deadR_of c2 hw
 rw [hw6] at d2
 have hf : ∀ b, (phiP k b).fit := fun b => by
  cases b with
  | false => exact ⟨(good_of c1).small⟩
  | true => exact ⟨(good_of c2).small⟩
 have p1 : ∀ b, phiPR [.int .i64 k, .bool b] (.dat (sysD (phiP k b))) := fun b => ⟨k, b, rfl, by omega, rfl⟩
 have hxk : KFit x := by have := replay_kfit (phiP k false) (rngI k); rw [hr] at this; exact this
 have hx : PStFit x := ⟨by have := hxk.len; omega, fun l hl => by have := hxk.stk l hl; omega⟩
 have hil : (rngI k).length = k := by simp
 have r1 : replayXR [sysD (phiP k false), .sl none (intsD (rngI k))] (.tup [.dat (stD x), .dat (.int .i64 0)]) := ⟨_, _, rfl, hf _, by omega, by rw [hr]⟩
 have s1 : stuckR [sysD (phiP k false), stD x] (.tup [.dat (natlD n), .dat (.int .i64 0)]) := ⟨_, _, rfl, hf _, hx, by rw [hs]⟩
 have hnl : (natsD n).length = k := by simp [hn]
 have hil2 : (intsD (rngI k)).length = k := by simp
 have hnth : ∀ i, i < k → D.nth (intsD (rngI k)) i = .int .i64 i := fun i hi => by simp [D.nth, List.getD_eq_getElem?_getD, hi]
 refine sem_of_awp (Γ := tbl tabZ4) tabZ4_ok _ _ _ ?_
 simp only [go_sem, Int.reduceEq, Int.reduceLT, Int.reduceLE, eq_self, Int.natCast_nonneg, Int.toNat_natCast, Try.ntmps7]
 refine call_data awakeXR (by simp) [] _ rfl awakeXR_true (.inl rfl) ?_
 simp only [go_sem, Int.reduceEq, Int.reduceLT, Int.reduceLE, eq_self, Int.natCast_nonneg, Int.toNat_natCast, e1, hA, q1, q2, q3]
 refine call_data phiPR (by simp) [.int .i64 k, .bool false] _ rfl (p1 false) (.inl rfl) ?_
 simp only [go_sem, Int.reduceEq, Int.reduceLT, Int.reduceLE, eq_self, Int.natCast_nonneg, Int.toNat_natCast]
 generalize rngI k = I at *
 refine call_data deadR (by simp) [sysD (phiP k false)] _ rfl d1 (.inl rfl) ?_
 simp only [go_sem, Int.reduceEq, Int.reduceLT, Int.reduceLE, eq_self, Int.natCast_nonneg, Int.toNat_natCast, eq_self, not_true, decide_false, hil2]
 refine sem_loop (fun i : Nat => ⟨slotsOf 89 [(3, .dat (.int .i64 k)), (4, .dat (.sl none (intsD I))), (41, .dat (.sl none (intsD I))), (42, .dat (.int .i64 k)), (43, .dat (.int .i64 i))], [], 0, []⟩)
  (fun i => i ≤ k) (fun i => k - i) 0 (Nat.zero_le _) ?_ ?_
 ·exact le_slots' (by simp only [go_sem, Int.natCast_zero])
 rintro i hi
 refine sem_of_awp (Γ := tbl tabZ4) tabZ4_ok _ _ _ ?_
 by_cases hlt : i < k
 ·have hk2 : (i : Int) < k := by omega
  have hkz : (0 : Int) ≤ i := Int.natCast_nonneg i
  have hn1 := hnth i hlt
  simp only [go_sem, Int.reduceEq, Int.reduceLT, Int.reduceLE, eq_self, Int.natCast_nonneg, Int.toNat_natCast, hk2, hkz, hlt, hil2, hn1, eq_self, not_true, decide_false]
  refine ⟨inR_i64.2 (by omega), i + 1, by omega, by omega, ?_⟩
  exact le_slots' (by simp only [go_sem, Int.natCast_add, Int.cast_ofNat_Int])
 obtain rfl : i = k := by omega
 have hk2 : ¬ (i : Int) < i := by omega
 simp only [go_sem, Int.reduceEq, Int.reduceLT, Int.reduceLE, eq_self, Int.natCast_nonneg, Int.toNat_natCast, hk2]
 refine call_data phiPR (by simp) [.int .i64 i, .bool false] _ rfl (p1 false) (.inl rfl) ?_
 simp only [go_sem, Int.reduceEq, Int.reduceLT, Int.reduceLE, eq_self, Int.natCast_nonneg, Int.toNat_natCast]
 refine call_data replayXR (by simp) [sysD (phiP i false), .sl none (intsD I)] _ rfl r1 (.inl rfl) ?_
 simp only [go_sem, Int.reduceEq, Int.reduceLT, Int.reduceLE, eq_self, Int.natCast_nonneg, Int.toNat_natCast, stD]
 refine sem_draw (pf := [30, 26]) mixed tabZ4_ok pureZ4 [0, 1, 2, 3, 4, 5, 6, 7, 8] (by kernel_rfl) ?_
 simp only [go_sem, Int.reduceEq, Int.reduceLT, Int.reduceLE, eq_self, Int.natCast_nonneg, Int.toNat_natCast, chainI, stD]
 refine call_data phiPR (by simp) [.int .i64 i, .bool false] _ rfl (p1 false) (.inl rfl) ?_
 simp only [go_sem, Int.reduceEq, Int.reduceLT, Int.reduceLE, eq_self, Int.natCast_nonneg, Int.toNat_natCast, chainI, stD]
 refine call_data stuckR (by simp) [sysD (phiP i false), stD x] _ rfl s1 (.inl rfl) ?_
 simp only [go_sem, Int.reduceEq, Int.reduceLT, Int.reduceLE, eq_self, Int.natCast_nonneg, Int.toNat_natCast, chainI]
 refine call_data phiPR (by simp) [.int .i64 i, .bool true] _ rfl (p1 true) (.inl rfl) ?_
 simp only [go_sem, Int.reduceEq, Int.reduceLT, Int.reduceLE, eq_self, Int.natCast_nonneg, Int.toNat_natCast]
 refine call_data deadR (by simp) [sysD (phiP i true)] _ rfl d2 (.inl rfl) ?_
 simp only [go_sem, Int.reduceEq, Int.reduceLT, Int.reduceLE, eq_self, Int.natCast_nonneg, Int.toNat_natCast, hnl, eq_self, decide_true]
 exact post_data (.inl rfl) [2] rfl trivial rfl
end Go.AM

