/- Own work over the model of the kit. -/
import Derived.Test.YtcigeonmhefdhaaWalkB
import Derived.Test.YtcigeonmhefdhaaLawA
set_option linter.unusedSimpArgs false
set_option linter.unusedVariables false
set_option maxRecDepth 8000
set_option maxHeartbeats 1000000
namespace Go.AM
open Go Go.Proofs

/-! The law WaitgraphEdges. -/
abbrev tabLE : List (Nat × Contract) := [(10, dataC awakeR), (11, dataC fewR), (18, dataC edgesR), (19, dataC edgesR), (20, dataC sameER)]
theorem tabLE_ok : OkG Try.prog (tbl tabLE) := okG_cons awake_ok (okG_cons few_ok (okG_cons edges_ok (okG_cons redges_ok (okG_cons sameEdges_ok okG_nil))))
def lawER (ds : List D) (v : AV) : Prop := ∃ (s : PSys), ds = [sysD s] ∧ v = .dat (.bool true)
theorem lawEdges_ok : OkF Try.prog 4 (dataC lawER) := by
  refine okF_data Try.func4 rfl (by decide) ?_
  rintro ds v ⟨s, rfl, rfl⟩
  refine sem_of_awp (Γ := tbl tabLE) tabLE_ok _ _ _ ?_
  simp only [go_sem, Try.ntmps4, sysD]
  refine call_data awakeR (by simp) [] _ rfl awakeR_true (.inl rfl) ?_
  simp only [go_sem]
  refine call_data fewR (by simp) [sysD s] _ rfl ⟨s, rfl, rfl⟩ (.inl rfl) ?_
  cases hf : fewB s with
  | false =>
    simp only [go_sem, hf]
    refine call_data awakeR (by simp) [] _ rfl awakeR_true (.inl rfl) ?_
    simp only [go_sem]
    exact post_data (.inl rfl) [2] rfl trivial rfl
  | true =>
    have hs := fewB_small hf
    simp only [go_sem, hf]
    refine call_data edgesR (by simp) [sysD s] _ rfl ⟨s, rfl, hs, rfl⟩ (.inl rfl) ?_
    by_cases h : checkE s = 0
    · have hg := good_of h
      have hnp := hg.np
      have hnl := hg.nl
      have hnc := hg.nc
      have hlen := edC_len s 12 0 s.classes [] (fun c hc => (hg.cls c hc).l12)
      have hl2 : s.classes.length * (12 * (s.pools.length + s.locks.length + 1)) ≤ 6 * (12 * 11) := Nat.mul_le_mul hnc (by omega)
      have hv : edgesV s = .tup [.dat (.sl (some 4) (edgesD (edC s 0 s.classes []))), .dat (.int .i64 0)] := by unfold edgesV; rw [if_neg (by rw [h]; decide)]
      rw [hv]
      have hfit := eFit hg
      have hE : ∀ s', s' = s → edgesV s' = .tup [.dat (.sl (some 4) (edgesD (edC s 0 s.classes []))), .dat (.int .i64 0)] := fun s' e => by rw [e, hv]
      generalize edC s 0 s.classes [] = L at *
      simp only [go_sem, Int.reduceEq, Int.reduceLT, Int.reduceLE, eq_self, Int.natCast_nonneg, Int.toNat_natCast]
      refine call_data edgesR (by simp) [sysD s] _ rfl ⟨s, rfl, hs, rfl⟩ (.inl rfl) ?_
      rw [hE s rfl]
      simp only [go_sem, Int.reduceEq, Int.reduceLT, Int.reduceLE, eq_self, Int.natCast_nonneg, Int.toNat_natCast, decide_true]
      refine call_data sameER (by simp) [.sl (some 4) (edgesD L), .sl (some 4) (edgesD L)] _ rfl ⟨some 4, L, .inl rfl, by simp at hlen; omega, hfit, rfl, rfl⟩ (.inl rfl) ?_
      simp only [go_sem, Int.reduceEq, Int.reduceLT, Int.reduceLE, eq_self, Int.natCast_nonneg, Int.toNat_natCast]
      exact post_data (.inl rfl) [2] rfl trivial rfl
    · have hv : edgesV s = .tup [.dat (.sl none []), .dat (.int .i64 (checkE s))] := by unfold edgesV; rw [if_pos h]
      rw [hv]
      generalize checkE s = E at *
      simp only [go_sem, Int.reduceEq, Int.reduceLT, Int.reduceLE, eq_self, Int.natCast_nonneg, Int.toNat_natCast]
      refine call_data edgesR (by simp) [sysD s] _ rfl ⟨s, rfl, hs, rfl⟩ (.inl rfl) ?_
      rw [hv]
      simp only [go_sem, Int.reduceEq, Int.reduceLT, Int.reduceLE, eq_self, Int.natCast_nonneg, Int.toNat_natCast, decide_true]
      refine call_data sameER (by simp) [.sl none [], .sl none []] _ rfl ⟨none, [], .inr rfl, by simp, by simp, rfl, rfl⟩ (.inl rfl) ?_
      simp only [go_sem, Int.reduceEq, Int.reduceLT, Int.reduceLE, eq_self, Int.natCast_nonneg, Int.toNat_natCast]
      exact post_data (.inl rfl) [2] rfl trivial rfl
end Go.AM

