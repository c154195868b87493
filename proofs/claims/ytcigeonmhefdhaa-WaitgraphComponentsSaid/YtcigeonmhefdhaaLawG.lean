/- Own work over the model of the kit. -/
import Derived.Test.YtcigeonmhefdhaaGraphC
import Derived.Test.YtcigeonmhefdhaaGraphN
import Derived.Test.YtcigeonmhefdhaaAwake
set_option linter.unusedSimpArgs false
set_option linter.unusedVariables false
set_option maxRecDepth 8000
set_option maxHeartbeats 2000000
namespace Go.AM
open Go Go.Proofs

/-! The law WaitgraphLevels. -/
abbrev tabLL : List (Nat × Contract) := [(10, dataC awakeR), (29, dataC nodesR), (24, dataC levelsR), (23, dataC cycleR)]
theorem tabLL_ok : OkG Try.prog (tbl tabLL) := okG_cons awake_ok (okG_cons nodes_ok (okG_cons levels_ok (okG_cons cycle_ok okG_nil)))
/-- The statement's arguments. -/
def lawGR (ds : List D) (v : AV) : Prop := ∃ (a : Nat) (L : List (Nat × Nat)), ds = [u8D a, .sl (some 2) (L.map pairD)] ∧ a < 256 ∧ (∀ p ∈ L, p.1 < 256 ∧ p.2 < 256) ∧ v = .dat (.bool true)
/-- The level of x is explained. -/
def stepOk (f : Nat → Nat) (i : Nat) (P : List PEdge) : Bool := decide (f i = 0) || P.any fun e => decide (e.s = i) && decide (f e.t + 1 = f i)
theorem stepOk_snoc {f : Nat → Nat} {i : Nat} {P : List PEdge} {e : PEdge} : stepOk f i (P ++ [e]) = (stepOk f i P || (decide (e.s = i) && decide (f e.t + 1 = f i))) := by
  simp [stepOk, Bool.or_assoc]
theorem stepOk_all {n : Nat} {l : List PEdge} {f : Nat → Nat} (h : IsLev n l f) {i : Nat} (hi : i < n) : stepOk f i l = true := by
  unfold stepOk
  rcases h.next i hi with h0 | ⟨e, he, h1, h2⟩
  · simp [h0]
  · rw [Bool.or_eq_true]
    exact .inr (List.any_eq_true.2 ⟨e, he, by simp [h1, h2]⟩)
theorem lawLevels_ok : OkF Try.prog 7 (dataC lawGR) := by
  refine okF_data Try.func7 rfl (by decide) ?_
  rintro ds v ⟨a, L, rfl, ha, hL, rfl⟩
  refine sem_of_awp (Γ := tbl tabLL) tabLL_ok _ _ _ ?_
  simp only [go_sem, Int.reduceEq, Int.reduceLT, Int.reduceLE, eq_self, Int.natCast_nonneg, Int.toNat_natCast, Try.ntmps7]
  refine call_data awakeR (by simp) [] _ rfl awakeR_true (.inl rfl) ?_
  by_cases hl : (40 : Int) < L.length
  · simp only [go_sem, Int.reduceEq, Int.reduceLT, Int.reduceLE, eq_self, Int.natCast_nonneg, Int.toNat_natCast, hl, List.length_map]
    refine call_data awakeR (by simp) [] _ rfl awakeR_true (.inl rfl) ?_
    simp only [go_sem, Int.reduceEq, Int.reduceLT, Int.reduceLE, eq_self, Int.natCast_nonneg, Int.toNat_natCast]
    exact post_data (.inl rfl) [4] rfl trivial rfl
  simp only [go_sem, Int.reduceEq, Int.reduceLT, Int.reduceLE, eq_self, Int.natCast_nonneg, Int.toNat_natCast, hl, List.length_map]
  refine call_data nodesR (by simp) [u8D a, .sl (some 2) (L.map pairD)] _ rfl ⟨a, L, rfl, ha, hL, by omega, rfl⟩ (.inl rfl) ?_
  have hg := edgesN_ok (a := a) (L := L) (by omega)
  have hl2 : (edgesN a L).length ≤ 40 := by simp [edgesN]; omega
  have hk := nN_le (a := a)
  generalize edgesN a L = l at *
  generalize nN a = n at *
  have hge := gE_ok hg
  have hlv : levelsVv n l = (match levV n l with | some L => .tup [.dat (.sl none (natsD L)), .dat (.int .i64 0)] | none => .tup [.dat (.sl none []), .dat (.int .i64 10)]) := by
    unfold levelsVv; rw [if_neg (by rw [hge]; decide), Int.toNat_natCast]; cases levV n l <;> rfl
  have hcv : cycleVv n l = .tup [.dat (.sl none (natsD (cycV l))), .dat (.int .i64 0)] := by unfold cycleVv; rw [if_neg (by rw [hge]; decide)]
  simp only [go_sem, Int.reduceEq, Int.reduceLT, Int.reduceLE, eq_self, Int.natCast_nonneg, Int.toNat_natCast]
  refine call_data levelsR (by simp) [.int .i64 n, .sl (some 4) (edgesD l)] _ rfl ⟨n, l, rfl, by omega, rfl⟩ (.inl rfl) ?_
  rw [hlv]
  have hiff := lev_iff hg
  cases h : levV n l with
  | none =>
    rw [h] at hiff
    have hcn : ¬ (cycV l).length = 0 := fun hh => by rw [cycV_len.1 hh] at hiff; cases hiff
    have hcn2 : ¬ (((cycV l).length : Nat) : Int) = 0 := by omega
    simp only [go_sem, Int.reduceEq, Int.reduceLT, Int.reduceLE, eq_self, Int.natCast_nonneg, Int.toNat_natCast]
    refine call_data cycleR (by simp) [.int .i64 n, .sl (some 4) (edgesD l)] _ rfl ⟨n, l, rfl, by omega, rfl⟩ (.inl rfl) ?_
    rw [hcv]
    simp only [go_sem, Int.reduceEq, Int.reduceLT, Int.reduceLE, eq_self, Int.natCast_nonneg, Int.toNat_natCast, nats_len, hcn2]
    exact post_data (.inl rfl) [4] rfl trivial rfl
  | some M =>
  rw [h] at hiff
  have hcn : (cycV l).length = 0 := cycV_len.2 (by cases hc : cycL l l.length with | none => rfl | some c => rw [hc] at hiff; cases hiff)
  obtain ⟨f, hf, hM⟩ := levV_is h
  have hMl : M.length = n := by rw [hM]; simp
  have hMg : ∀ i, i < n → D.nth (natsD M) i = .int .i64 (f i : Nat) := fun i hi => by rw [nats_at 0 (by omega), hM]; simp [List.getD_eq_getElem?_getD, hi]
  simp only [go_sem, Int.reduceEq, Int.reduceLT, Int.reduceLE, eq_self, Int.natCast_nonneg, Int.toNat_natCast]
  refine call_data cycleR (by simp) [.int .i64 n, .sl (some 4) (edgesD l)] _ rfl ⟨n, l, rfl, by omega, rfl⟩ (.inl rfl) ?_
  rw [hcv]
  simp only [go_sem, Int.reduceEq, Int.reduceLT, Int.reduceLE, eq_self, Int.natCast_nonneg, Int.toNat_natCast, nats_len, hcn, hMl, decide_true, Int.natCast_zero]
  refine sem_loop (fun i : Nat => ⟨slotsOf 114 [(6, .dat (.sl (some 4) (edgesD l))), (7, .dat (.sl none (natsD M))), (65, .dat (.sl none (natsD M))), (66, .dat (.int .i64 n)), (67, .dat (.int .i64 i))], [], 0, []⟩)
    (fun i => i ≤ n) (fun i => n - i) 0 (Nat.zero_le _) ?_ ?_
  · exact le_slots' (by simp only [go_sem, Int.natCast_zero])
  rintro i hi
  refine sem_of_awp (Γ := tbl tabLL) tabLL_ok _ _ _ ?_
  by_cases hin : i = n
  · subst hin
    have hi2 : ¬ (i : Int) < i := by omega
    simp only [go_sem, Int.reduceEq, Int.reduceLT, Int.reduceLE, eq_self, Int.natCast_nonneg, Int.toNat_natCast, hi2]
    exact post_data (.inl rfl) [4] rfl trivial rfl
  have hi2 : (i : Int) < n := by omega
  have hi3 : i < n := by omega
  have hi0 : (0 : Int) ≤ i := Int.natCast_nonneg i
  have hMi := hMg i hi3
  have hfb : ∀ v, v < n → f v ≤ n := fun v hv => by
    have hA := pot_acyc hf.down
    have key : ∀ k v, f v = k → v < n → ∃ u, Wk (eF l) k v u := by
      intro k
      induction k with
      | zero => intro v _ _; exact ⟨v, rfl⟩
      | succ k ih =>
        intro v hk hv
        rcases hf.next v hv with h0 | ⟨e, he, h1, h2⟩
        · omega
        · obtain ⟨u, hu⟩ := ih e.t (by omega) (hg.dst e he).2
          exact ⟨u, Wk_cons (List.mem_map.2 ⟨e, he, by rw [h1]⟩) hu⟩
    obtain ⟨u, hu⟩ := key _ v rfl hv
    exact Nat.le_of_lt (wk_short hg.eFlt hA hv hu)
  have hfi := hfb i hi3
  have h0d : decide (((f i : Nat) : Int) = 0) = stepOk f i [] := by simp [stepOk]
  simp only [go_sem, Int.reduceEq, Int.reduceLT, Int.reduceLE, eq_self, Int.natCast_nonneg, Int.toNat_natCast, hi2, hi3, hMl, nats_len, hMi, edges_len, h0d]
  refine sem_loop (fun j : Nat => ⟨slotsOf 114 [(6, .dat (.sl (some 4) (edgesD l))), (7, .dat (.sl none (natsD M))), (65, .dat (.sl none (natsD M))), (66, .dat (.int .i64 n)), (67, .dat (.int .i64 i)),
      (11, .dat (.int .i64 i)), (12, .dat (.int .i64 (f i : Nat))), (13, .dat (.bool (stepOk f i (l.take j)))), (74, .dat (.sl (some 4) (edgesD l))), (75, .dat (.int .i64 l.length)), (76, .dat (.int .i64 j))], [], 0, []⟩)
    (fun j => j ≤ l.length) (fun j => l.length - j) 0 (Nat.zero_le _) ?_ ?_
  · exact le_slots' (by simp only [go_sem, Int.natCast_zero, List.take_zero])
  rintro j hj
  refine sem_of_awp (Γ := tbl tabLL) tabLL_ok _ _ _ ?_
  cases hd : l.drop j with
  | nil =>
    have := end_of_drop hd hj
    have hj2 : ¬ (j : Int) < l.length := by omega
    have hall := stepOk_all hf hi3
    rw [this, List.take_length, hall]
    rw [this] at hj2
    simp only [go_sem, Int.reduceEq, Int.reduceLT, Int.reduceLE, eq_self, Int.natCast_nonneg, Int.toNat_natCast, hj2]
    refine ⟨inR_i64.2 (by omega), i + 1, by omega, by omega, ?_⟩
    exact le_slots' (by simp only [go_sem, Int.natCast_add, Int.cast_ofNat_Int])
  | cons e r =>
    have hlt := lt_of_drop hd
    have hj2 : (j : Int) < l.length := by omega
    have hj0 : (0 : Int) ≤ j := Int.natCast_nonneg j
    have hn := nth_of_drop (f := edgeD) hd
    have hem := mem_of_drop hd
    obtain ⟨hs1, hs2⟩ := hg.src e hem
    obtain ⟨ht1, ht2⟩ := hg.dst e hem
    have htn : (e.t : Int) < n := by omega
    have hMt := hMg e.t ht2
    have hsn : stepOk f i (l.take (j + 1)) = (stepOk f i (l.take j) || (decide (e.s = i) && decide (f e.t + 1 = f i))) := by rw [take_of_drop hd, stepOk_snoc]
    have next : ∃ x, x ≤ l.length ∧ l.length - x < l.length - j ∧ x = j + 1 := ⟨j + 1, by omega, by omega, rfl⟩
    obtain ⟨x, n1, n2, rfl⟩ := next
    by_cases hes : e.s = i
    · have hdn := hf.down e hem
      rw [hes] at hdn
      have hge1 : ¬ ((f i : Nat) : Int) ≤ (f e.t : Nat) := by omega
      have hes2 : ((e.s : Nat) : Int) = i := by omega
      have hdec : decide (((f e.t : Nat) : Int) = ((f i : Nat) : Int) - 1) = decide (f e.t + 1 = f i) := by rw [decide_eq_decide]; omega
      simp only [hes, decide_true, Bool.true_and] at hsn
      cases hb : stepOk f i (l.take j) with
      | true =>
        rw [hb, Bool.true_or] at hsn
        simp only [go_sem, Int.reduceEq, Int.reduceLT, Int.reduceLE, eq_self, Int.natCast_nonneg, Int.toNat_natCast, hj2, hj0, hn, hlt, edges_len, edgeD, hs1, ht1, hes2, hge1, htn, ht2, hMl, nats_len, hMt]
        refine ⟨inR_i64.2 (by omega), j + 1, n1, n2, ?_⟩
        rw [hsn]
        refine le_end (own := []) (ex := [_]) (Nat.zero_le _) ?_ ?_ ?_
        · simp only [go_sem, Int.natCast_add, Int.cast_ofNat_Int]
        · simp only [go_sem]
        · simp only [go_sem]
      | false =>
        rw [hb, Bool.false_or] at hsn
        simp only [go_sem, Int.reduceEq, Int.reduceLT, Int.reduceLE, eq_self, Int.natCast_nonneg, Int.toNat_natCast, hj2, hj0, hn, hlt, edges_len, edgeD, hs1, ht1, hes2, hge1, htn, ht2, hMl, nats_len, hMt, hdec]
        refine ⟨inR_i64.2 (by omega), inR_i64.2 (by omega), j + 1, n1, n2, ?_⟩
        rw [hsn]
        refine le_end (own := []) (ex := [_]) (Nat.zero_le _) ?_ ?_ ?_
        · simp only [go_sem, Int.natCast_add, Int.cast_ofNat_Int]
        · simp only [go_sem]
        · simp only [go_sem]
    · have hes2 : ¬ ((e.s : Nat) : Int) = i := by omega
      simp only [hes, decide_false, Bool.false_and, Bool.or_false] at hsn
      cases hb : stepOk f i (l.take j) with
      | true =>
        rw [hb] at hsn
        simp only [go_sem, Int.reduceEq, Int.reduceLT, Int.reduceLE, eq_self, Int.natCast_nonneg, Int.toNat_natCast, hj2, hj0, hn, hlt, edges_len, edgeD, hs1, ht1, hes2]
        refine ⟨inR_i64.2 (by omega), j + 1, n1, n2, ?_⟩
        rw [hsn]
        refine le_end (own := []) (ex := [_]) (Nat.zero_le _) ?_ ?_ ?_
        · simp only [go_sem, Int.natCast_add, Int.cast_ofNat_Int]
        · simp only [go_sem]
        · simp only [go_sem]
      | false =>
        rw [hb] at hsn
        simp only [go_sem, Int.reduceEq, Int.reduceLT, Int.reduceLE, eq_self, Int.natCast_nonneg, Int.toNat_natCast, hj2, hj0, hn, hlt, edges_len, edgeD, hs1, ht1, hes2]
        refine ⟨inR_i64.2 (by omega), j + 1, n1, n2, ?_⟩
        rw [hsn]
        refine le_end (own := []) (ex := [_]) (Nat.zero_le _) ?_ ?_ ?_
        · simp only [go_sem, Int.natCast_add, Int.cast_ofNat_Int]
        · simp only [go_sem]
        · simp only [go_sem]
end Go.AM

