/- Own work over the model of the kit. -/
import Derived.Test.YtholibdhogbobaaC21
set_option linter.unusedSimpArgs false
set_option linter.unusedVariables false
set_option maxRecDepth 8000
set_option maxHeartbeats 2000000
namespace Go.AM
open Go Go.Proofs

theorem lawRound_ok : OkF Try.prog 5 (dataC lawLR) := by
  refine okF_data Try.func5 rfl (by decide) ?_
  rintro ds v ⟨s, L, rfl, rfl⟩
  refine sem_of_awp (Γ := tbl tabK1) tabK1_ok _ _ _ ?_
  simp only [go_sem, Int.reduceEq, Int.reduceLT, Int.reduceLE, eq_self, Int.natCast_nonneg, Int.toNat_natCast, Try.ntmps5, sysD]
  refine call_data awakeR (by simp) [] _ rfl awakeR_true (.inl rfl) ?_
  simp only [go_sem, Int.reduceEq, Int.reduceLT, Int.reduceLE, eq_self, Int.natCast_nonneg, Int.toNat_natCast]
  refine call_data fewR (by simp) [sysD s] _ rfl ⟨s, rfl, rfl⟩ (.inl rfl) ?_
  cases hf : fewB s with
  | false =>
    simp only [go_sem, Int.reduceEq, Int.reduceLT, Int.reduceLE, eq_self, Int.natCast_nonneg, Int.toNat_natCast, hf]
    refine call_data awakeR (by simp) [] _ rfl awakeR_true (.inl rfl) ?_
    simp only [go_sem, Int.reduceEq, Int.reduceLT, Int.reduceLE, eq_self, Int.natCast_nonneg, Int.toNat_natCast]
    exact post_data (.inl rfl) [4] rfl trivial rfl
  | true =>
  have hs := fewB_fit hf
  by_cases hl : (40 : Int) < L.length
  · simp only [go_sem, Int.reduceEq, Int.reduceLT, Int.reduceLE, eq_self, Int.natCast_nonneg, Int.toNat_natCast, hf, ints_len, hl]
    refine call_data awakeR (by simp) [] _ rfl awakeR_true (.inl rfl) ?_
    simp only [go_sem, Int.reduceEq, Int.reduceLT, Int.reduceLE, eq_self, Int.natCast_nonneg, Int.toNat_natCast]
    exact post_data (.inl rfl) [4] rfl trivial rfl
  simp only [go_sem, Int.reduceEq, Int.reduceLT, Int.reduceLE, eq_self, Int.natCast_nonneg, Int.toNat_natCast, hf, ints_len, hl]
  refine call_data makeR (by simp) [sysD s] _ rfl ⟨s, rfl, hs, rfl⟩ (.inl rfl) ?_
  simp only [go_sem, Int.reduceEq, Int.reduceLT, Int.reduceLE, eq_self, Int.natCast_nonneg, Int.toNat_natCast, makeV, certD]
  refine call_data expR (by simp) [sysD s] _ rfl ⟨s, rfl, hs, rfl⟩ (.inl rfl) ?_
  by_cases h : checkE s = 0
  case neg =>
    have hm := makeO_err h
    have hx : expV s = .tup [.dat (.sl none []), .dat (.int .i64 (checkE s))] := by unfold expV; rw [if_pos h]
    have hv : verN s [] = checkE s := by unfold verN; rw [if_pos h]
    rw [hx, hm]
    obtain ⟨vi, vk, vb, hI⟩ : ∃ (i k : Int) (b : Bool), fstV (impO s) = .tup [.dat (.int .i64 i), .dat (.int .i64 k), .dat (.bool b)] := by
      cases impO s with
      | none => exact ⟨_, _, _, rfl⟩
      | some q => obtain ⟨i, k⟩ := q; exact ⟨_, _, _, rfl⟩
    simp only [go_sem, Int.reduceEq, Int.reduceLT, Int.reduceLE, eq_self, Int.natCast_nonneg, Int.toNat_natCast]
    refine call_data impVR (by simp) [sysD s] _ rfl ⟨s, rfl, hs, rfl⟩ (.inl rfl) ?_
    rw [hI]
    simp only [go_sem, Int.reduceEq, Int.reduceLT, Int.reduceLE, eq_self, Int.natCast_nonneg, Int.toNat_natCast, h, decide_true]
    refine call_data verR (by simp) [sysD s, .agg [.sl none (intsD [])]] _ rfl ⟨s, [], rfl, hs, by simp, rfl⟩ (.inl rfl) ?_
    rw [hv]
    simp only [go_sem, Int.reduceEq, Int.reduceLT, Int.reduceLE, eq_self, Int.natCast_nonneg, Int.toNat_natCast, decide_true]
    exact post_data (.inl rfl) [4] rfl trivial rfl
  have hx : expV s = .tup [.dat (.sl (some 4) (edgesD (expL s))), .dat (.int .i64 0)] := by unfold expV; rw [if_neg (by simp [h])]
  rw [hx]
  simp only [go_sem, Int.reduceEq, Int.reduceLT, Int.reduceLE, eq_self, Int.natCast_nonneg, Int.toNat_natCast]
  refine call_data impVR (by simp) [sysD s] _ rfl ⟨s, rfl, hs, rfl⟩ (.inl rfl) ?_
  have last : ∀ (v : Int) (r : List Nat × Int), makeO s = r → verN s L = v → (v = 0 → r.2 = 0) := by
    rintro v r rfl rfl hv
    obtain ⟨g1, g2, L', g3⟩ := ver_only hv
    rw [makeO_ok g1 g2 g3]
  cases hi : impO s with
  | some q =>
    obtain ⟨i, k⟩ := q
    have hm := makeO_imp h (by rw [hi]; rfl)
    have hlast := last _ _ hm rfl
    have hne : ¬ verN s L = 0 := fun hv => by have := hlast hv; simp at this
    rw [hm]
    simp only [go_sem, Int.reduceEq, Int.reduceLT, Int.reduceLE, eq_self, Int.natCast_nonneg, Int.toNat_natCast, fstV, decide_true, beq_self_eq_true]
    refine call_data verR (by simp) [sysD s, .agg [.sl none (intsD L)]] _ rfl ⟨s, L, rfl, hs, by omega, rfl⟩ (.inl rfl) ?_
    simp only [go_sem, Int.reduceEq, Int.reduceLT, Int.reduceLE, eq_self, Int.natCast_nonneg, Int.toNat_natCast, hne]
    exact post_data (.inl rfl) [4] rfl trivial rfl
  | none =>
  have hle := lev_exp h
  cases hlv : levV (nRes s) (sysE s) with
  | none =>
    have hm := makeO_dead h hi hlv
    have hlast := last _ _ hm rfl
    have hne : ¬ verN s L = 0 := fun hv => by have := hlast hv; simp at this
    rw [hlv] at hle
    have hp : 0 < (expL s).length := by
      rcases Nat.eq_zero_or_pos (expL s).length with e | e
      · rw [e] at hle; simp at hle
      · exact e
    have hp2 : (0 : Int) < (expL s).length := by omega
    rw [hm]
    simp only [go_sem, Int.reduceEq, Int.reduceLT, Int.reduceLE, eq_self, Int.natCast_nonneg, Int.toNat_natCast, fstV, decide_true, beq_self_eq_true, edges_len, hp2]
    refine call_data verR (by simp) [sysD s, .agg [.sl none (intsD L)]] _ rfl ⟨s, L, rfl, hs, by omega, rfl⟩ (.inl rfl) ?_
    simp only [go_sem, Int.reduceEq, Int.reduceLT, Int.reduceLE, eq_self, Int.natCast_nonneg, Int.toNat_natCast, hne]
    exact post_data (.inl rfl) [4] rfl trivial rfl
  | some L' =>
    have hm := makeO_ok h hi hlv
    rw [hlv] at hle
    have hp : (expL s).length = 0 := by
      have : true = decide ((expL s).length = 0) := hle
      exact of_decide_eq_true this.symm
    have hp2 : ¬ (0 : Int) < (expL s).length := by omega
    have hvm := ver_make h hi hlv
    have hL' : (castL L').length ≤ 10000 := by have := (lev_facts h hlv).1; have := nRes_le h; simp; omega
    rw [hm]
    simp only
    rw [nats_ints]
    simp only [go_sem, Int.reduceEq, Int.reduceLT, Int.reduceLE, eq_self, Int.natCast_nonneg, Int.toNat_natCast, fstV, decide_true, beq_self_eq_true, edges_len, hp2]
    refine call_data verR (by simp) [sysD s, .agg [.sl none (intsD (castL L'))]] _ rfl ⟨s, castL L', rfl, hs, hL', rfl⟩ (.inl rfl) ?_
    rw [hvm]
    simp only [go_sem, Int.reduceEq, Int.reduceLT, Int.reduceLE, eq_self, Int.natCast_nonneg, Int.toNat_natCast]
    refine call_data verR (by simp) [sysD s, .agg [.sl none (intsD L)]] _ rfl ⟨s, L, rfl, hs, by omega, rfl⟩ (.inl rfl) ?_
    by_cases hv : verN s L = 0
    · simp only [go_sem, Int.reduceEq, Int.reduceLT, Int.reduceLE, eq_self, Int.natCast_nonneg, Int.toNat_natCast, hv]
      exact post_data (.inl rfl) [4] rfl trivial rfl
    · simp only [go_sem, Int.reduceEq, Int.reduceLT, Int.reduceLE, eq_self, Int.natCast_nonneg, Int.toNat_natCast, hv]
      exact post_data (.inl rfl) [4] rfl trivial rfl
end Go.AM

