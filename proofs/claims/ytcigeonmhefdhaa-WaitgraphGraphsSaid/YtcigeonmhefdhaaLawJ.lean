/- Own work over the model of the kit. -/
import Derived.Test.YtcigeonmhefdhaaGraphT
import Derived.Test.YtcigeonmhefdhaaGraphN
import Derived.Test.YtcigeonmhefdhaaAwake
set_option linter.unusedSimpArgs false
set_option linter.unusedVariables false
set_option maxRecDepth 8000
set_option maxHeartbeats 2000000
namespace Go.AM
open Go Go.Proofs

/-! The law WaitgraphGraphs. -/
theorem edge_arg {m : Nat} {d : D} (h : argT Try.prog (m + 3) 50 d) : ∃ e : PEdge, d = edgeD e ∧ True := by
  obtain ⟨ds, rfl, hf⟩ := arg_fields (ts := [3, 3, 3, 3]) (by kernel_rfl) h
  obtain ⟨a, r, rfl, ha, hf⟩ := hf
  obtain ⟨b, r, rfl, hb, hf⟩ := hf
  obtain ⟨c, r, rfl, hc, hf⟩ := hf
  obtain ⟨e, r, rfl, he, rfl⟩ := hf
  rw [dataT_int (k := .i64) (by kernel_rfl)] at ha hb hc he
  obtain ⟨a, rfl, _⟩ := ha
  obtain ⟨b, rfl, _⟩ := hb
  obtain ⟨c, rfl, _⟩ := hc
  obtain ⟨e, rfl, _⟩ := he
  exact ⟨⟨a, b, c, e⟩, rfl, trivial⟩
theorem wantEdge : wantT Try.prog 50 = some 4 := by kernel_rfl
theorem edges_arg {m : Nat} {d : D} (h : argT Try.prog (m + 4) 34 d) : ∃ L : List PEdge, d = .sl (some 4) (edgesD L) := by
  obtain ⟨xs, rfl, _, hx⟩ := arg_slice (e := 50) (by kernel_rfl) h
  rw [wantEdge]
  obtain ⟨L, rfl, _⟩ := list_of edgeD (Q := fun _ => True) (fun x hx' => edge_arg (hx x hx'))
  exact ⟨L, rfl⟩
def fewB (n : Int) (l : List PEdge) : Bool := (decide (n ≤ 24) || decide (4096 < n)) && decide ((l.length : Int) ≤ 60)
def fewR (ds : List D) (v : AV) : Prop := ∃ (n : Int) (l : List PEdge), ds = [.int .i64 n, .sl (some 4) (edgesD l)] ∧ v = .dat (.bool (fewB n l))
theorem few_ok : OkF Try.prog 21 (dataC fewR) := by
  refine okF_data Try.func21 rfl (by decide) ?_
  rintro ds v ⟨n, l, rfl, rfl⟩
  refine sem_of_awp (Γ := tbl []) okG_nil _ _ _ ?_
  unfold fewB
  by_cases h1 : n ≤ 24
  · simp only [go_sem, Int.reduceEq, Int.reduceLT, Int.reduceLE, eq_self, Int.natCast_nonneg, Int.toNat_natCast, Try.ntmps21, h1, edges_len, decide_true, Bool.true_or, Bool.true_and]
    exact post_data (.inl rfl) [4] rfl trivial rfl
  · by_cases h2 : (4096 : Int) < n
    · simp only [go_sem, Int.reduceEq, Int.reduceLT, Int.reduceLE, eq_self, Int.natCast_nonneg, Int.toNat_natCast, Try.ntmps21, h1, h2, edges_len, decide_true, decide_false, Bool.false_or, Bool.true_and]
      exact post_data (.inl rfl) [4] rfl trivial rfl
    · simp only [go_sem, Int.reduceEq, Int.reduceLT, Int.reduceLE, eq_self, Int.natCast_nonneg, Int.toNat_natCast, Try.ntmps21, h1, h2, edges_len, decide_true, decide_false, Bool.false_or, Bool.false_and]
      exact post_data (.inl rfl) [4] rfl trivial rfl
def sameR (ds : List D) (v : AV) : Prop := ∃ (L : List Nat), ds = [.sl none (natsD L), .sl none (natsD L)] ∧ L.length ≤ 10000 ∧ v = .dat (.bool true)
theorem same_ok : OkF Try.prog 28 (dataC sameR) := by
  refine okF_data Try.func28 rfl (by decide) ?_
  rintro ds v ⟨L, rfl, hL, rfl⟩
  refine sem_of_awp (Γ := tbl []) okG_nil _ _ _ ?_
  simp only [go_sem, Int.reduceEq, Int.reduceLT, Int.reduceLE, eq_self, Int.natCast_nonneg, Int.toNat_natCast, Try.ntmps28, nats_len]
  refine sem_loop (fun k : Nat => ⟨slotsOf 26 [(0, .dat (.sl none (natsD L))), (1, .dat (.sl none (natsD L))), (5, .dat (.int .i64 k))], [], 0, []⟩)
    (fun k => k ≤ L.length) (fun k => L.length - k) 0 (Nat.zero_le _) ?_ ?_
  · exact le_slots' (by simp only [go_sem, Int.natCast_zero])
  rintro k hk
  refine sem_of_awp (Γ := tbl []) okG_nil _ _ _ ?_
  cases hd : L.drop k with
  | nil =>
    have := end_of_drop hd hk
    have hk2 : ¬ (k : Int) < L.length := by omega
    simp only [go_sem, Int.reduceEq, Int.reduceLT, Int.reduceLE, eq_self, Int.natCast_nonneg, Int.toNat_natCast, hk2, nats_len]
    exact post_data (.inl rfl) [4] rfl trivial rfl
  | cons x r =>
    have hlt := lt_of_drop hd
    have hk2 : (k : Int) < L.length := by omega
    have hk0 : (0 : Int) ≤ k := Int.natCast_nonneg k
    have hn := nth_of_drop (f := natD) hd
    simp only [go_sem, Int.reduceEq, Int.reduceLT, Int.reduceLE, eq_self, Int.natCast_nonneg, Int.toNat_natCast, hk2, nats_len]
    refine sem_draw (pf := []) (Γ := tbl []) mixed okG_nil pureNo [0, 1, 2, 3, 4, 5, 6, 7, 8] (by kernel_rfl) ?_
    simp only [go_sem, Int.reduceEq, Int.reduceLT, Int.reduceLE, eq_self, Int.natCast_nonneg, Int.toNat_natCast, chainI, hk2, hlt, hk0, hn, nats_len]
    refine ⟨inR_i64.2 (by omega), k + 1, by omega, by omega, ?_⟩
    exact le_slots' (by simp only [go_sem, Int.natCast_add, Int.cast_ofNat_Int])
/-- The statement's arguments. -/
def lawEdR (ds : List D) (v : AV) : Prop := ∃ (n : Int) (l : List PEdge), ds = [.int .i64 n, .sl (some 4) (edgesD l)] ∧ v = .dat (.bool true)
theorem comp_form {n : Int} {l : List PEdge} (hn : n ≤ 24 ∨ 4096 < n) (hl : l.length ≤ 60) : ∃ (X : List Nat) (e : Int), compVv n l = .tup [.dat (.sl none (natsD X)), .dat (.int .i64 e)] ∧ X.length ≤ 10000 := by
  unfold compVv
  split
  · exact ⟨[], _, rfl, by simp⟩
  · rename_i h
    obtain ⟨n, rfl, hg⟩ := gOk_of (by simpa using h) (by omega)
    exact ⟨_, _, rfl, by simp [compL]; have := hg.n4; omega⟩
theorem lev_form {n : Int} {l : List PEdge} (hn : n ≤ 24 ∨ 4096 < n) (hl : l.length ≤ 60) : ∃ (X : List Nat) (e : Int), levelsVv n l = .tup [.dat (.sl none (natsD X)), .dat (.int .i64 e)] ∧ X.length ≤ 10000 := by
  unfold levelsVv
  split
  · exact ⟨[], _, rfl, by simp⟩
  · rename_i h
    obtain ⟨n, rfl, hg⟩ := gOk_of (by simpa using h) (by omega)
    have hn4 := hg.n4
    cases hv : levV (n : Int).toNat l with
    | none => exact ⟨[], _, rfl, by simp⟩
    | some L =>
      refine ⟨_, _, rfl, ?_⟩
      rw [Int.toNat_natCast] at hv
      obtain ⟨f, _, rfl⟩ := levV_is hv
      simp; omega
theorem cyc_form {n : Int} {l : List PEdge} (hn : n ≤ 24 ∨ 4096 < n) (hl : l.length ≤ 60) : ∃ (X : List Nat) (e : Int), cycleVv n l = .tup [.dat (.sl none (natsD X)), .dat (.int .i64 e)] ∧ X.length ≤ 10000 := by
  unfold cycleVv
  split
  · exact ⟨[], _, rfl, by simp⟩
  · rename_i h
    obtain ⟨n, rfl, hg⟩ := gOk_of (by simpa using h) (by omega)
    have hn4 := hg.n4
    refine ⟨_, _, rfl, ?_⟩
    have hc := cycL_is (l := l) l.length
    unfold cycV
    cases h : cycL l l.length with
    | none => simp
    | some c =>
      rw [h] at hc
      obtain ⟨i, h1, h2, h3, _⟩ := hc
      have := cycOf_len h2
      rw [← h3] at this
      have hb : back l i < n := by unfold back; rw [tOf_get (List.getElem?_eq_getElem h1)]; exact hg.sdlt (hg.dst _ (List.getElem_mem h1)).2
      simp only [Option.getD_some]; omega
abbrev tabGG : List (Nat × Contract) := [(10, dataC awakeR), (21, dataC fewR), (22, dataC compR), (23, dataC cycleR), (24, dataC levelsR), (25, dataC compR), (26, dataC cycleR), (27, dataC levelsR), (28, dataC sameR)]
theorem tabGG_ok : OkG Try.prog (tbl tabGG) := okG_cons awake_ok (okG_cons few_ok (okG_cons components_ok (okG_cons cycle_ok (okG_cons levels_ok (okG_cons rcomponents_ok (okG_cons rcycle_ok (okG_cons rlevels_ok (okG_cons same_ok okG_nil))))))))
theorem lawGraphs_ok : OkF Try.prog 5 (dataC lawEdR) := by
  refine okF_data Try.func5 rfl (by decide) ?_
  rintro ds v ⟨n, l, rfl, rfl⟩
  refine sem_of_awp (Γ := tbl tabGG) tabGG_ok _ _ _ ?_
  simp only [go_sem, Int.reduceEq, Int.reduceLT, Int.reduceLE, eq_self, Int.natCast_nonneg, Int.toNat_natCast, Try.ntmps5]
  refine call_data awakeR (by simp) [] _ rfl awakeR_true (.inl rfl) ?_
  simp only [go_sem, Int.reduceEq, Int.reduceLT, Int.reduceLE, eq_self, Int.natCast_nonneg, Int.toNat_natCast]
  refine call_data fewR (by simp) [.int .i64 n, .sl (some 4) (edgesD l)] _ rfl ⟨n, l, rfl, rfl⟩ (.inl rfl) ?_
  cases hf : fewB n l with
  | false =>
    simp only [go_sem, Int.reduceEq, Int.reduceLT, Int.reduceLE, eq_self, Int.natCast_nonneg, Int.toNat_natCast, Bool.not_false]
    refine call_data awakeR (by simp) [] _ rfl awakeR_true (.inl rfl) ?_
    simp only [go_sem, Int.reduceEq, Int.reduceLT, Int.reduceLE, eq_self, Int.natCast_nonneg, Int.toNat_natCast]
    exact post_data (.inl rfl) [4] rfl trivial rfl
  | true =>
  simp only [fewB, Bool.and_eq_true, Bool.or_eq_true, decide_eq_true_eq] at hf
  obtain ⟨hn, hl⟩ := hf
  have hl2 : l.length ≤ 60 := by omega
  obtain ⟨X, eX, hX, hXl⟩ := comp_form hn hl2
  obtain ⟨Y, eY, hY, hYl⟩ := cyc_form hn hl2
  obtain ⟨Z, eZ, hZ, hZl⟩ := lev_form hn hl2
  simp only [go_sem, Int.reduceEq, Int.reduceLT, Int.reduceLE, eq_self, Int.natCast_nonneg, Int.toNat_natCast, Bool.not_true]
  refine call_data compR (by simp) [.int .i64 n, .sl (some 4) (edgesD l)] _ rfl ⟨n, l, rfl, by omega, rfl⟩ (.inl rfl) ?_
  rw [hX]
  simp only [go_sem, Int.reduceEq, Int.reduceLT, Int.reduceLE, eq_self, Int.natCast_nonneg, Int.toNat_natCast]
  refine call_data cycleR (by simp) [.int .i64 n, .sl (some 4) (edgesD l)] _ rfl ⟨n, l, rfl, by omega, rfl⟩ (.inl rfl) ?_
  rw [hY]
  simp only [go_sem, Int.reduceEq, Int.reduceLT, Int.reduceLE, eq_self, Int.natCast_nonneg, Int.toNat_natCast]
  refine call_data levelsR (by simp) [.int .i64 n, .sl (some 4) (edgesD l)] _ rfl ⟨n, l, rfl, by omega, rfl⟩ (.inl rfl) ?_
  rw [hZ]
  simp only [go_sem, Int.reduceEq, Int.reduceLT, Int.reduceLE, eq_self, Int.natCast_nonneg, Int.toNat_natCast]
  refine call_data compR (by simp) [.int .i64 n, .sl (some 4) (edgesD l)] _ rfl ⟨n, l, rfl, by omega, rfl⟩ (.inl rfl) ?_
  rw [hX]
  simp only [go_sem, Int.reduceEq, Int.reduceLT, Int.reduceLE, eq_self, Int.natCast_nonneg, Int.toNat_natCast]
  refine call_data cycleR (by simp) [.int .i64 n, .sl (some 4) (edgesD l)] _ rfl ⟨n, l, rfl, by omega, rfl⟩ (.inl rfl) ?_
  rw [hY]
  simp only [go_sem, Int.reduceEq, Int.reduceLT, Int.reduceLE, eq_self, Int.natCast_nonneg, Int.toNat_natCast]
  refine call_data levelsR (by simp) [.int .i64 n, .sl (some 4) (edgesD l)] _ rfl ⟨n, l, rfl, by omega, rfl⟩ (.inl rfl) ?_
  rw [hZ]
  simp only [go_sem, Int.reduceEq, Int.reduceLT, Int.reduceLE, eq_self, Int.natCast_nonneg, Int.toNat_natCast, decide_true]
  refine call_data sameR (by simp) [.sl none (natsD X), .sl none (natsD X)] _ rfl ⟨X, rfl, hXl, rfl⟩ (.inl rfl) ?_
  simp only [go_sem, Int.reduceEq, Int.reduceLT, Int.reduceLE, eq_self, Int.natCast_nonneg, Int.toNat_natCast, decide_true]
  refine call_data sameR (by simp) [.sl none (natsD Y), .sl none (natsD Y)] _ rfl ⟨Y, rfl, hYl, rfl⟩ (.inl rfl) ?_
  simp only [go_sem, Int.reduceEq, Int.reduceLT, Int.reduceLE, eq_self, Int.natCast_nonneg, Int.toNat_natCast, decide_true]
  refine call_data sameR (by simp) [.sl none (natsD Z), .sl none (natsD Z)] _ rfl ⟨Z, rfl, hZl, rfl⟩ (.inl rfl) ?_
  simp only [go_sem, Int.reduceEq, Int.reduceLT, Int.reduceLE, eq_self, Int.natCast_nonneg, Int.toNat_natCast]
  exact post_data (.inl rfl) [4] rfl trivial rfl
end Go.AM

