/- Own work over the model of the kit. -/
import Derived.Test.YtcigeonmhefdhaaWalkA
import Derived.Test.YtcigeonmhefdhaaAwake
import Derived.Test.YtcigeonmhefdhaaPathA
import Derived.Test.YtcigeonmhefdhaaLibD
set_option linter.constructorNameAsVariable false
set_option linter.unusedSimpArgs false
set_option linter.unusedVariables false
set_option maxRecDepth 8000
set_option maxHeartbeats 1000000
namespace Go.AM
open Go Go.Proofs

abbrev awakeR : List D → AV → Prop := fun ds v => (ds, v) ∈ [(([] : List D), AV.dat (.bool true))]
theorem awakeR_true : awakeR [] (.dat (.bool true)) := by simp [awakeR]
theorem fewB_small {s : PSys} (h : fewB s = true) : s.fit := by
  simp only [fewB, Bool.and_eq_true, Bool.not_eq_true', decide_eq_false_iff_not] at h
  exact ⟨⟨by omega, by omega, by omega⟩⟩

/-! The law WaitgraphDemands. -/
abbrev tabD : List (Nat × Contract) := [(10, dataC awakeR), (11, dataC fewR), (12, dataC resR), (13, dataC resR), (14, dataC demNR), (15, dataC demNR), (16, dataC waitNR), (17, dataC waitNR)]
theorem tabD_ok : OkG Try.prog (tbl tabD) := okG_cons awake_ok (okG_cons few_ok (okG_cons resources_ok (okG_cons rresources_ok (okG_cons Demand_ok (okG_cons rDemand_ok (okG_cons Waits_ok (okG_cons rWaits_ok okG_nil)))))))
abbrev pfD : List Nat := [12, 13, 14, 15, 16, 17]
theorem pureD : PureFns (tbl tabD) pfD := pure_of (by
  intro g C h hg
  simp only [tabD, List.mem_cons, Prod.mk.injEq, List.mem_nil_iff, or_false] at h
  rcases h with ⟨_, h⟩ | ⟨_, h⟩ | ⟨_, h⟩ | ⟨_, h⟩ | ⟨_, h⟩ | ⟨_, h⟩ | ⟨_, h⟩ | ⟨_, h⟩ <;> exact ⟨_, h⟩)
def demandsR (ds : List D) (v : AV) : Prop := ∃ (s : PSys) (a b c : Int) (d : Bool), ds = [sysD s, .agg [.int .i64 a, .int .i64 b, .int .i64 c], .bool d] ∧ v = .dat (.bool true)
set_option maxRecDepth 100000 in
theorem demands_ok : OkF Try.prog 3 (dataC demandsR) := by
  refine okF_data Try.func3 rfl (by decide) ?_
  rintro ds v ⟨s, a, b, c, d, rfl, rfl⟩
  refine sem_of_awp (Γ := tbl tabD) tabD_ok _ _ _ ?_
  simp only [go_sem, Try.ntmps3, sysD]
  refine call_data awakeR (by simp) [] _ rfl awakeR_true (.inl rfl) ?_
  simp only [go_sem]
  refine call_data fewR (by simp) [sysD s] _ rfl ⟨s, rfl, rfl⟩ (.inl rfl) ?_
  cases hf : fewB s with
  | false =>
    simp only [go_sem, hf]
    refine call_data awakeR (by simp) [] _ rfl awakeR_true (.inl rfl) ?_
    simp only [go_sem]
    exact post_data (.inl rfl) [6] rfl trivial rfl
  | true =>
    have hs := fewB_small hf
    simp only [go_sem, hf]
    refine sem_draw (pf := pfD) mixed tabD_ok pureD [0, 1, 2, 3, 4, 5, 6, 7, 8, 9, 10, 11, 12, 13, 14, 15, 16, 17, 18, 19, 20, 21, 22, 23, 24, 25, 26, 27, 28, 29, 30, 31, 32, 33] (by kernel_rfl) ?_
    simp only [go_sem, Int.reduceEq, Int.reduceLT, Int.reduceLE, eq_self, Int.natCast_nonneg, Int.toNat_natCast, chainI]
    refine call_data resR (by simp) [sysD s] _ rfl ⟨s, rfl, hs, rfl⟩ (.inl rfl) ?_
    simp only [go_sem, Int.reduceEq, Int.reduceLT, Int.reduceLE, eq_self, Int.natCast_nonneg, Int.toNat_natCast, chainI]
    refine call_data resR (by simp) [sysD s] _ rfl ⟨s, rfl, hs, rfl⟩ (.inl rfl) ?_
    simp only [go_sem, Int.reduceEq, Int.reduceLT, Int.reduceLE, eq_self, Int.natCast_nonneg, Int.toNat_natCast, chainI, decide_true]
    refine call_data demNR (by simp) [sysD s, .int .i64 a, .bool d] _ rfl ⟨s, a, d, rfl, hs, rfl⟩ (.inl rfl) ?_
    simp only [go_sem, Int.reduceEq, Int.reduceLT, Int.reduceLE, eq_self, Int.natCast_nonneg, Int.toNat_natCast, chainI]
    refine call_data demNR (by simp) [sysD s, .int .i64 a, .bool d] _ rfl ⟨s, a, d, rfl, hs, rfl⟩ (.inl rfl) ?_
    simp only [go_sem, Int.reduceEq, Int.reduceLT, Int.reduceLE, eq_self, Int.natCast_nonneg, Int.toNat_natCast, chainI, decide_true]
    refine call_data waitNR (by simp) [sysD s, .int .i64 b, .int .i64 c] _ rfl ⟨s, b, c, rfl, hs, rfl⟩ (.inl rfl) ?_
    simp only [go_sem, Int.reduceEq, Int.reduceLT, Int.reduceLE, eq_self, Int.natCast_nonneg, Int.toNat_natCast, chainI]
    refine call_data waitNR (by simp) [sysD s, .int .i64 b, .int .i64 c] _ rfl ⟨s, b, c, rfl, hs, rfl⟩ (.inl rfl) ?_
    simp only [go_sem, Int.reduceEq, Int.reduceLT, Int.reduceLE, eq_self, Int.natCast_nonneg, Int.toNat_natCast, chainI, decide_true, beq_self_eq_true]
    exact post_data (.inl rfl) [6] rfl trivial rfl
end Go.AM

set_option maxRecDepth 100000
namespace Go.AM
open Go Go.Proofs

/- ### arguments: a system, an edge -/
theorem want87 : wantT Try.prog 87 = some 3 := by kernel_rfl
theorem want9 : wantT Try.prog 9 = none := by kernel_rfl
theorem want54 : wantT Try.prog 54 = some 4 := by kernel_rfl
theorem want56 : wantT Try.prog 56 = some 4 := by kernel_rfl
theorem int_arg {m : Nat} {d : D} (h : argT Try.prog (m + 1) 3 d) : ∃ n : Int, d = .int .i64 n ∧ inR .i64 n := arg_int (by kernel_rfl) h
theorem bool_arg {m : Nat} {d : D} (h : argT Try.prog (m + 1) 4 d) : ∃ b : Bool, d = .bool b := arg_bool (by kernel_rfl) h
theorem pool_arg {m : Nat} {d : D} (h : argT Try.prog (m + 3) 87 d) : ∃ p : PPool, d = poolD p ∧ True := by
  obtain ⟨ds, rfl, hf⟩ := arg_fields (ts := [9, 3, 3]) (by kernel_rfl) h
  obtain ⟨a, r, rfl, ha, hf⟩ := hf
  obtain ⟨b, r, rfl, hb, hf⟩ := hf
  obtain ⟨c, r, rfl, hc, rfl⟩ := hf
  rw [dataT_str (by kernel_rfl)] at ha
  rw [dataT_int (k := .i64) (by kernel_rfl)] at hb hc
  obtain ⟨a, rfl, _⟩ := ha
  obtain ⟨b, rfl, _⟩ := hb
  obtain ⟨c, rfl, _⟩ := hc
  exact ⟨⟨a, b, c⟩, rfl, trivial⟩
theorem step_arg {m : Nat} {d : D} (h : argT Try.prog (m + 3) 56 d) : ∃ p : PStep, d = stepD p ∧ True := by
  obtain ⟨ds, rfl, hf⟩ := arg_fields (ts := [3, 3, 3, 4]) (by kernel_rfl) h
  obtain ⟨a, r, rfl, ha, hf⟩ := hf
  obtain ⟨b, r, rfl, hb, hf⟩ := hf
  obtain ⟨c, r, rfl, hc, hf⟩ := hf
  obtain ⟨e, r, rfl, he, rfl⟩ := hf
  rw [dataT_int (k := .i64) (by kernel_rfl)] at ha hb hc
  rw [dataT_bool (by kernel_rfl)] at he
  obtain ⟨a, rfl, _⟩ := ha
  obtain ⟨b, rfl, _⟩ := hb
  obtain ⟨c, rfl, _⟩ := hc
  obtain ⟨e, rfl⟩ := he
  exact ⟨⟨a, b, c, e⟩, rfl, trivial⟩
theorem cls_arg {m : Nat} {d : D} (h : argT Try.prog (m + 6) 54 d) : ∃ p : PCls, d = clsD p ∧ True := by
  obtain ⟨ds, rfl, hf⟩ := arg_fields (ts := [9, 3, 4, 52]) (by kernel_rfl) h
  obtain ⟨a, r, rfl, ha, hf⟩ := hf
  obtain ⟨b, r, rfl, hb, hf⟩ := hf
  obtain ⟨c, r, rfl, hc, hf⟩ := hf
  obtain ⟨e, r, rfl, he, rfl⟩ := hf
  rw [dataT_str (by kernel_rfl)] at ha
  rw [dataT_int (k := .i64) (by kernel_rfl)] at hb
  rw [dataT_bool (by kernel_rfl)] at hc
  rw [dataT_slice (e := 56) (by kernel_rfl), want56] at he
  obtain ⟨a, rfl, _⟩ := ha
  obtain ⟨b, rfl, _⟩ := hb
  obtain ⟨c, rfl⟩ := hc
  obtain ⟨e, rfl, _, hx⟩ := he
  obtain ⟨l, rfl, _⟩ := list_of stepD (Q := fun _ => True) (fun x hx' => step_arg (hx x hx'))
  exact ⟨⟨a, b, c, l⟩, rfl, trivial⟩
theorem sys_arg {m : Nat} {d : D} (h : argT Try.prog (m + 9) 26 d) : ∃ s : PSys, d = sysD s := by
  obtain ⟨ds, rfl, hf⟩ := arg_fields (ts := [22, 23, 24]) (by kernel_rfl) h
  obtain ⟨a, r, rfl, ha, hf⟩ := hf
  obtain ⟨b, r, rfl, hb, hf⟩ := hf
  obtain ⟨c, r, rfl, hc, rfl⟩ := hf
  rw [dataT_slice (e := 87) (by kernel_rfl), want87] at ha
  rw [dataT_slice (e := 9) (by kernel_rfl), want9] at hb
  rw [dataT_slice (e := 54) (by kernel_rfl), want54] at hc
  obtain ⟨a, rfl, _, ha⟩ := ha
  obtain ⟨b, rfl, _, hb⟩ := hb
  obtain ⟨c, rfl, _, hc⟩ := hc
  obtain ⟨a, rfl, _⟩ := list_of poolD (Q := fun _ => True) (fun x hx' => pool_arg (ha x hx'))
  obtain ⟨b, rfl, _⟩ := list_of D.str (Q := fun _ => True) (fun x hx' => by
    obtain ⟨s, h, _⟩ := arg_str (by kernel_rfl) (hb x hx')
    exact ⟨s, h, trivial⟩)
  obtain ⟨c, rfl, _⟩ := list_of clsD (Q := fun _ => True) (fun x hx' => cls_arg (hc x hx'))
  exact ⟨⟨a, b, c⟩, rfl⟩
theorem arg3_arg {m : Nat} {d : D} (h : argT Try.prog (m + 2) 27 d) : ∃ a b c : Int, d = .agg [.int .i64 a, .int .i64 b, .int .i64 c] := by
  obtain ⟨ds, h1, rfl⟩ := h
  rw [dataT_array (k := 3) (e := 3) (by kernel_rfl)] at h1
  obtain ⟨a, r, rfl, ha, h1⟩ := h1
  obtain ⟨b, r, rfl, hb, h1⟩ := h1
  obtain ⟨c, r, rfl, hc, rfl⟩ := h1
  rw [dataT_int (k := .i64) (by kernel_rfl)] at ha hb hc
  obtain ⟨a, rfl, _⟩ := ha
  obtain ⟨b, rfl, _⟩ := hb
  obtain ⟨c, rfl, _⟩ := hc
  have hag : aggT Try.prog 27 = true := by kernel_rfl
  exact ⟨a, b, c, by simp [packD, hag]⟩
end Go.AM

