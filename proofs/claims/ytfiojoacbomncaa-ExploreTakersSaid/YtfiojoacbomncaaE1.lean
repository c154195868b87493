/- Own work over the model of the kit. -/
import Derived.Test.YtfiojoacbomncaaD21
import Derived.Test.YtfiojoacbomncaaE0
set_option linter.unusedSimpArgs false
set_option linter.unusedVariables false
set_option linter.constructorNameAsVariable false
set_option maxRecDepth 8000
set_option maxHeartbeats 4000000
set_option maxRecDepth 8000
set_option maxHeartbeats 4000000
namespace Go.AM
open Go Go.Proofs

def takOk (a b c : Nat) : Bool := decide (checkE (takP a b c) = 0) && match deadC (takP a b c) 16 with
 | none => false
 | some v => if c < a * (b - 1) + 1 then decide (v.2.2 = 0) && decide (c ≤ v.1.length) else decide (v.2.2 = 6)
def takAll (a b : Nat) : Bool := (List.range (9 - b)).all fun k => takOk a b (b + k)
set_option maxRecDepth 100000
theorem tak11 : takAll 1 1 = true := by kernel_rfl
theorem tak12 : takAll 1 2 = true := by kernel_rfl
theorem tak13 : takAll 1 3 = true := by kernel_rfl
theorem tak21 : takAll 2 1 = true := by kernel_rfl
theorem tak22 : takAll 2 2 = true := by kernel_rfl
theorem tak23 : takAll 2 3 = true := by kernel_rfl
theorem tak31 : takAll 3 1 = true := by kernel_rfl
theorem tak32 : takAll 3 2 = true := by kernel_rfl
theorem tak33 : takAll 3 3 = true := by kernel_rfl
end Go.AM

set_option maxRecDepth 8000
set_option maxHeartbeats 4000000
namespace Go.AM
open Go Go.Proofs

theorem tak_all {a b c : Nat} (h1 : 1 ≤ a) (h2 : a ≤ 3) (h3 : 1 ≤ b) (h4 : b ≤ 3) (h5 : b ≤ c) (h6 : c ≤ 8) : takOk a b c = true := by
 have key : takAll a b = true := by
  have ha : a = 1 ∨ a = 2 ∨ a = 3 := by omega
  have hb : b = 1 ∨ b = 2 ∨ b = 3 := by omega
  rcases ha with rfl | rfl | rfl <;> rcases hb with rfl | rfl | rfl
  ·exact tak11
  ·exact tak12
  ·exact tak13
  ·exact tak21
  ·exact tak22
  ·exact tak23
  ·exact tak31
  ·exact tak32
  ·exact tak33
 have := List.all_eq_true.1 key (c - b) (List.mem_range.2 (by omega))
 rwa [show b + (c - b) = c by omega] at this
theorem tak_val {a b c : Nat} (h : takOk a b c = true) : checkE (takP a b c) = 0 ∧ ∃ v, deadC (takP a b c) 16 = some v ∧ (c < a * (b - 1) + 1 → v.2.2 = 0 ∧ c ≤ v.1.length) ∧ (¬ c < a * (b - 1) + 1 → v.2.2 = 6) := by
 unfold takOk at h
 rw [Bool.and_eq_true, decide_eq_true_iff] at h
 refine ⟨h.1, ?_⟩
 cases hd : deadC (takP a b c) 16 with
 | none => rw [hd] at h; simp at h
 | some v =>
  rw [hd] at h
  refine ⟨v, rfl, fun hc => ?_, fun hc => ?_⟩
  ·simpa [hc] using h.2
  ·simpa [hc] using h.2
abbrev tabZ3 : List (Nat × Contract) := [(11, dataC awakeXR), (29, dataC takPR), (23, dataC deadR)]
theorem tabZ3_ok : OkG Try.prog (tbl tabZ3) := okG_cons awakeX_ok (okG_cons takers_ok (okG_cons xDeadlock_ok okG_nil))
theorem tmod_nat {a b : Nat} : (a : Int).tmod (b : Int) = ((a % b : Nat) : Int) := by
 rw [Int.tmod_eq_emod_of_nonneg (by omega)]; norm_cast
def lawTkR (ds : List D) (v : AV) : Prop := ∃ a b c : Nat, ds = [byteD a, byteD b, byteD c] ∧ a < 256 ∧ b < 256 ∧ c < 256 ∧ v = .dat (.bool true)
theorem lawTakers_ok : OkF Try.prog 6 (dataC lawTkR) := by
 refine okF_data Try.func6 rfl (by decide) ?_
 rintro ds v ⟨a, b, c, rfl, ha, hb, hc, rfl⟩
 have e1 : (a : Int).tmod 3 = ((a % 3 : Nat) : Int) := tmod_nat (b := 3)
 have e2 : (b : Int).tmod 3 = ((b % 3 : Nat) : Int) := tmod_nat (b := 3)
 have hA : (1 : Int) + ((a % 3 : Nat) : Int) = ((1 + a % 3 : Nat) : Int) := by omega
 have hB : (1 : Int) + ((b % 3 : Nat) : Int) = ((1 + b % 3 : Nat) : Int) := by omega
 have A1 : 1 ≤ 1 + a % 3 ∧ 1 + a % 3 ≤ 3 := by omega
 have B1 : 1 ≤ 1 + b % 3 ∧ 1 + b % 3 ≤ 3 := by omega
 generalize 1 + a % 3 = A at *
 generalize 1 + b % 3 = B at *
 have e3 : (9 : Int) - (B : Int) = ((9 - B : Nat) : Int) := by omega
 have e4 : (c : Int).tmod ((9 - B : Nat) : Int) = ((c % (9 - B) : Nat) : Int) := tmod_nat
 have e5 : ¬ ((9 - B : Nat) : Int) = 0 := by omega
 have hml : c % (9 - B) < 9 - B := Nat.mod_lt _ (by omega)
 have hC : (B : Int) + ((c % (9 - B) : Nat) : Int) = ((B + c % (9 - B) : Nat) : Int) := by omega
 have C1 : B ≤ B + c % (9 - B) ∧ B + c % (9 - B) ≤ 8 := by omega
 have r1 : ∀ x : Nat, x < 300 → inR .i64 ((x : Nat) : Int) := fun x hx => inR_i64.2 (by omega)
 have q1 := r1 a (by omega)
 have q2 := r1 b (by omega)
 have q3 := r1 c (by omega)
 have q4 := r1 (a % 3) (by omega)
 have q5 := r1 (b % 3) (by omega)
 have q6 := r1 A (by omega)
 have q7 := r1 B (by omega)
 have q8 := r1 (9 - B) (by omega)
 have q9 := r1 (c % (9 - B)) (by omega)
 have q10 := r1 (B + c % (9 - B)) (by omega)
 generalize c % (9 - B) = c' at *
 generalize B + c' = C at *
 obtain ⟨hch, w, hw, hw1, hw2⟩ := tak_val (tak_all A1.1 A1.2 B1.1 B1.2 C1.1 C1.2)
 have hd := deadR_of hch hw
 have ht : takPR [.int .i64 A, .int .i64 B, .int .i64 C] (.dat (sysD (takP A B C))) := ⟨A, B, C, rfl, by omega, rfl⟩
 have m0 : (B : Int) - 1 = ((B - 1 : Nat) : Int) := by omega
 have m1 : (A : Int) * ((B - 1 : Nat) : Int) = ((A * (B - 1) : Nat) : Int) := by norm_cast
 have m2 : A * (B - 1) ≤ 3 * 2 := Nat.mul_le_mul A1.2 (by omega)
 have m3 : ((A * (B - 1) : Nat) : Int) + 1 = ((A * (B - 1) + 1 : Nat) : Int) := by omega
 have q11 := r1 (B - 1) (by omega)
 have q12 := r1 (A * (B - 1)) (by omega)
 have q13 := r1 (A * (B - 1) + 1) (by omega)
 have hwl : (intsD w.1).length = w.1.length := by simp
 generalize A * (B - 1) + 1 = M at *
 refine sem_of_awp (Γ := tbl tabZ3) tabZ3_ok _ _ _ ?_
 simp only [go_sem, Int.reduceEq, Int.reduceLT, Int.reduceLE, eq_self, Int.natCast_nonneg, Int.toNat_natCast, Try.ntmps6]
 refine call_data awakeXR (by simp) [] _ rfl awakeXR_true (.inl rfl) ?_
 simp only [go_sem, Int.reduceEq, Int.reduceLT, Int.reduceLE, eq_self, Int.natCast_nonneg, Int.toNat_natCast, e1, e2, hA, hB, e3, e4, e5, hC, q1, q2, q3, q4, q5, q6, q7, q8, q9, q10]
 refine call_data takPR (by simp) [.int .i64 A, .int .i64 B, .int .i64 C] _ rfl ht (.inl rfl) ?_
 simp only [go_sem, Int.reduceEq, Int.reduceLT, Int.reduceLE, eq_self, Int.natCast_nonneg, Int.toNat_natCast]
 refine call_data deadR (by simp) [sysD (takP A B C)] _ rfl hd (.inl rfl) ?_
 by_cases hlt : C < M
 ·have hlt2 : (C : Int) < M := by omega
  obtain ⟨h0, h1⟩ := hw1 hlt
  have h2 : (C : Int) ≤ w.1.length := by omega
  simp only [go_sem, Int.reduceEq, Int.reduceLT, Int.reduceLE, eq_self, Int.natCast_nonneg, Int.toNat_natCast, m0, m1, m3, q11, q12, q13, hlt2, h0, hwl, h2, decide_true]
  exact post_data (.inl rfl) [6] rfl trivial rfl
 ·have hlt2 : ¬ (C : Int) < M := by omega
  have h0 := hw2 hlt
  simp only [go_sem, Int.reduceEq, Int.reduceLT, Int.reduceLE, eq_self, Int.natCast_nonneg, Int.toNat_natCast, m0, m1, m3, q11, q12, q13, hlt2, h0, decide_true]
  exact post_data (.inl rfl) [6] rfl trivial rfl
end Go.AM

