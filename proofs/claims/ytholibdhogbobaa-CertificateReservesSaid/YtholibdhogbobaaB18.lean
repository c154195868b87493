/- Own work over the model of the kit. -/
import Derived.Test.YtholibdhogbobaaB17
import Derived.Test.YtholibdhogbobaaB15
import Derived.Test.YtholibdhogbobaaB11
import Derived.Test.YtholibdhogbobaaB16
import Derived.Test.YtholibdhogbobaaB14
import Derived.Test.YtholibdhogbobaaB12
import Derived.Test.YtholibdhogbobaaB4
set_option linter.constructorNameAsVariable false
set_option linter.unusedSimpArgs false
set_option linter.unusedVariables false
set_option maxRecDepth 100000
set_option maxHeartbeats 2000000
namespace Go.AM
open Go Go.Proofs

def knownR (g : Nat) (ds : List D) (v : AV) (ob : List Obj) : Prop := (g, ds, v, ob) ∈ tabD4
theorem known_ok {g : Nat} {fn : Func} {body : Code} (hf : Try.prog.funcs[g]? = some fn) (hb : fn.body = some body) (hname : fn.name ≠ "runtime.NumGoroutine") : OkF Try.prog g (madeC (knownR g)) :=
  okF_made hf hb hname fun ds v ob h => tabD4_ok g ds v ob h fn body hf hb
def impK : List (List D × AV) := [([(.agg [(.sl (some 3) [(.agg [(.str [102, 114, 97, 109, 101, 115]), (.int .i64 4), (.int .i64 1)])]), (.sl none [(.str [109, 97, 112])]), (.sl (some 4) [(.agg [(.str [102, 97, 117, 108, 116]), (.int .i64 2), (.bool false), (.sl (some 4) [(.agg [(.int .i64 3), (.int .i64 0), (.int .i64 0), (.bool false)]), (.agg [(.int .i64 1), (.int .i64 0), (.int .i64 1), (.bool false)]), (.agg [(.int .i64 5), (.int .i64 1), (.int .i64 0), (.bool false)]), (.agg [(.int .i64 2), (.int .i64 0), (.int .i64 1), (.bool false)]), (.agg [(.int .i64 4), (.int .i64 0), (.int .i64 0), (.bool false)])])]), (.agg [(.str [101, 118, 105, 99, 116]), (.int .i64 0), (.bool true), (.sl (some 4) [(.agg [(.int .i64 1), (.int .i64 0), (.int .i64 1), (.bool true)]), (.agg [(.int .i64 2), (.int .i64 0), (.int .i64 1), (.bool false)])])])])])], (.tup [(.dat (.int .i64 0)), (.dat (.int .i64 2)), (.dat (.bool true))]))]
def verK : List (List D × AV) := [([(.agg [(.sl (some 3) [(.agg [(.str [102, 114, 97, 109, 101, 115]), (.int .i64 4), (.int .i64 1)])]), (.sl none [(.str [109, 97, 112])]), (.sl (some 4) [(.agg [(.str [102, 97, 117, 108, 116]), (.int .i64 2), (.bool false), (.sl (some 4) [(.agg [(.int .i64 3), (.int .i64 0), (.int .i64 0), (.bool false)]), (.agg [(.int .i64 1), (.int .i64 0), (.int .i64 1), (.bool false)]), (.agg [(.int .i64 5), (.int .i64 1), (.int .i64 0), (.bool false)]), (.agg [(.int .i64 2), (.int .i64 0), (.int .i64 1), (.bool false)]), (.agg [(.int .i64 4), (.int .i64 0), (.int .i64 0), (.bool false)])])]), (.agg [(.str [101, 118, 105, 99, 116]), (.int .i64 1), (.bool true), (.sl (some 4) [(.agg [(.int .i64 1), (.int .i64 0), (.int .i64 1), (.bool true)]), (.agg [(.int .i64 2), (.int .i64 0), (.int .i64 1), (.bool false)])])])])]), (.agg [(.sl none [(.int .i64 5), (.int .i64 9), (.int .i64 0), (.int .i64 3)])])], (.dat (.int .i64 0))), ([(.agg [(.sl (some 3) [(.agg [(.str [102, 114, 97, 109, 101, 115]), (.int .i64 4), (.int .i64 1)])]), (.sl none [(.str [109, 97, 112])]), (.sl (some 4) [(.agg [(.str [102, 97, 117, 108, 116]), (.int .i64 2), (.bool false), (.sl (some 4) [(.agg [(.int .i64 3), (.int .i64 0), (.int .i64 0), (.bool false)]), (.agg [(.int .i64 1), (.int .i64 0), (.int .i64 1), (.bool false)]), (.agg [(.int .i64 5), (.int .i64 1), (.int .i64 0), (.bool false)]), (.agg [(.int .i64 2), (.int .i64 0), (.int .i64 1), (.bool false)]), (.agg [(.int .i64 4), (.int .i64 0), (.int .i64 0), (.bool false)])])]), (.agg [(.str [101, 118, 105, 99, 116]), (.int .i64 1), (.bool true), (.sl (some 4) [(.agg [(.int .i64 1), (.int .i64 0), (.int .i64 1), (.bool true)]), (.agg [(.int .i64 2), (.int .i64 0), (.int .i64 1), (.bool false)])])])])]), (.agg [(.sl none [(.int .i64 1), (.int .i64 1), (.int .i64 0), (.int .i64 1)])])], (.dat (.int .i64 19)))]
def enoK : List (List D × AV) := [([(.agg [(.sl (some 3) [(.agg [(.str [102, 114, 97, 109, 101, 115]), (.int .i64 4), (.int .i64 1)])]), (.sl none [(.str [109, 97, 112])]), (.sl (some 4) [(.agg [(.str [102, 97, 117, 108, 116]), (.int .i64 2), (.bool false), (.sl (some 4) [(.agg [(.int .i64 3), (.int .i64 0), (.int .i64 0), (.bool false)]), (.agg [(.int .i64 1), (.int .i64 0), (.int .i64 1), (.bool false)]), (.agg [(.int .i64 1), (.int .i64 0), (.int .i64 1), (.bool false)]), (.agg [(.int .i64 5), (.int .i64 1), (.int .i64 0), (.bool false)]), (.agg [(.int .i64 2), (.int .i64 0), (.int .i64 2), (.bool false)]), (.agg [(.int .i64 4), (.int .i64 0), (.int .i64 0), (.bool false)])])]), (.agg [(.str [101, 118, 105, 99, 116]), (.int .i64 1), (.bool true), (.sl (some 4) [(.agg [(.int .i64 1), (.int .i64 0), (.int .i64 1), (.bool true)]), (.agg [(.int .i64 2), (.int .i64 0), (.int .i64 1), (.bool false)])])])])]), (.int .i64 0)], (.dat (.int .i64 1)))]
theorem impK_ok : OkF Try.prog 14 (dataC fun ds v => (ds, v) ∈ impK) := okF_eval2 tabC6_ok mixedP names 1000 _ (fun x hx => by
  simp only [impK, List.mem_singleton] at hx
  subst hx
  exact cef1)
theorem verK_ok : OkF Try.prog 22 (dataC fun ds v => (ds, v) ∈ verK) := okF_eval2 tabC6_ok mixedP names 1000 _ (fun x hx => by
  simp only [verK, List.mem_cons, List.not_mem_nil, or_false] at hx
  rcases hx with rfl | rfl
  · exact cef2
  · exact cef3)
theorem enoK_ok : OkF Try.prog 20 (dataC fun ds v => (ds, v) ∈ enoK) := okF_eval2 tabC6_ok mixedP names 1000 _ (fun x hx => by
  simp only [enoK, List.mem_singleton] at hx
  subst hx
  exact cef4)
abbrev tabAK : List (Nat × Contract) := [(29, madeC fauR), (12, madeC (knownR 12)), (16, madeC (knownR 16)), (14, dataC fun ds v => (ds, v) ∈ impK), (22, dataC fun ds v => (ds, v) ∈ verK), (20, dataC fun ds v => (ds, v) ∈ enoK), (30, dataC sameR)]
theorem tabAK_ok : OkG Try.prog (tbl tabAK) := okG_cons faults_ok (okG_cons (known_ok Try.func12 rfl (by decide)) (okG_cons (known_ok Try.func16 rfl (by decide)) (okG_cons impK_ok (okG_cons verK_ok (okG_cons enoK_ok (okG_cons same_ok okG_nil))))))
theorem bin_eqlW {K : AV → Prop} : binTop Try.prog .eql 46 (.dat (.agg [.int .i64 0, .int .i64 0, .int .i64 0, .int .i64 2])) (.dat (.agg [.int .i64 0, .int .i64 0, .int .i64 0, .int .i64 2])) K = K (.dat (.bool true)) := by
  have h : PEdge.fit ⟨0, 0, 0, 2⟩ := ⟨by decide, by decide, by decide, by decide⟩
  rw [bin_eql_agg eqOk_0 (nums_edge h) (nums_edge h)]
  rfl
abbrev awakeR : List D → AV → Prop := fun ds v => ds = [] ∧ v = .dat (.bool true)
theorem awakeR_true : awakeR [] (.dat (.bool true)) := ⟨rfl, rfl⟩
theorem awake_ok : OkF Try.prog 10 (dataC awakeR) := by
  refine okF_data Try.func10 rfl (by decide) ?_
  rintro ds v ⟨rfl, rfl⟩
  refine sem_of_awpK [2, 4, 9] (Γ := tbl tabAK) tabAK_ok _ _ _ ?_
  simp only [go_sem, Int.reduceEq, Int.reduceLT, Int.reduceLE, eq_self, Int.natCast_nonneg, Int.toNat_natCast, Try.ntmps10]
  refine call_made fauR (by simp) [.int .i64 (2 : Nat)] _ _ rfl rfl ⟨2, by decide, rfl, rfl, rfl⟩ ?_
  simp only [go_sem, Int.reduceEq, Int.reduceLT, Int.reduceLE, eq_self, Int.natCast_nonneg, Int.toNat_natCast, AV.shift, Obj.shift, AV.shifts]
  refine call_made fauR (by simp) [.int .i64 (1 : Nat)] _ _ rfl rfl ⟨1, by decide, rfl, rfl, rfl⟩ ?_
  simp only [go_sem, Int.reduceEq, Int.reduceLT, Int.reduceLE, eq_self, Int.natCast_nonneg, Int.toNat_natCast, AV.shift, Obj.shift, AV.shifts]
  have t1 : ∀ n w, List.take 1 (List.map poolD (fau n w).pools) = List.map poolD (fau n w).pools := fun _ _ => rfl
  have t2 : ∀ n w, List.take 1 (List.map D.str (fau n w).locks) = List.map D.str (fau n w).locks := fun _ _ => rfl
  have t3 : ∀ n w, List.take 2 (List.map clsD (fau n w).classes) = List.map clsD (fau n w).classes := fun _ _ => rfl
  have l1 : ∀ n w, (fau n w).pools.length = 1 := fun _ _ => rfl
  have l2 : ∀ n w, (fau n w).locks.length = 1 := fun _ _ => rfl
  have l3 : ∀ n w, (fau n w).classes.length = 2 := fun _ _ => rfl
  refine sem_le (le_freeze 5 (ag := some 4) rfl (Nat.zero_le _)) ?_
  refine sem_le (le_freeze 4 (ag := none) rfl (Nat.zero_le _)) ?_
  refine sem_le (le_freeze 3 (ag := some 3) rfl (Nat.zero_le _)) ?_
  refine sem_le (le_freeze 2 (ag := some 4) rfl (Nat.zero_le _)) ?_
  refine sem_le (le_freeze 1 (ag := none) rfl (Nat.zero_le _)) ?_
  refine sem_le (le_freeze 0 (ag := some 3) rfl (Nat.zero_le _)) ?_
  refine sem_of_awpK [4] (Γ := tbl tabAK) tabAK_ok _ _ _ ?_
  simp only [go_sem, Int.reduceEq, Int.reduceLT, Int.reduceLE, eq_self, Int.natCast_nonneg, Int.toNat_natCast, t1, t2, t3, l1, l2, l3, List.length_map]
  refine call_made fauR (by simp) [.int .i64 (1 : Nat)] _ _ rfl rfl ⟨1, by decide, rfl, rfl, rfl⟩ ?_
  have hc : List.map clsD (fau 1 1).classes = [clsD ⟨[102, 97, 117, 108, 116], 2, false, fauS 1⟩, clsD ⟨[101, 118, 105, 99, 116], 1, true, fauE⟩] := rfl
  have hn : ∀ a b : D, D.nth [a, b] 1 = b := fun _ _ => rfl
  have hs : D.setPart (clsD ⟨[101, 118, 105, 99, 116], 1, true, fauE⟩) 1 (.int .i64 0) = clsD ⟨[101, 118, 105, 99, 116], 0, true, fauE⟩ := rfl
  have hc2 : [clsD ⟨[102, 97, 117, 108, 116], 2, false, fauS 1⟩, clsD ⟨[101, 118, 105, 99, 116], 0, true, fauE⟩] = List.map clsD (fau 1 0).classes := rfl
  simp only [go_sem, Int.reduceEq, Int.reduceLT, Int.reduceLE, eq_self, Int.natCast_nonneg, Int.toNat_natCast, AV.shift, Obj.shift, AV.shifts, t1, t2, t3, l1, l2, l3, List.length_map, hc, hn, hs, hc2]
  refine sem_le (le_freeze 10 (ag := some 4) rfl (Nat.zero_le _)) ?_
  refine sem_le (le_freeze 9 (ag := none) rfl (Nat.zero_le _)) ?_
  refine sem_le (le_freeze 8 (ag := some 3) rfl (Nat.zero_le _)) ?_
  refine sem_le (σ' := ⟨slotsOf 110 [(1, .ptr 6 0 0), (2, .ptr 7 0 0), (3, .ptr 11 0 0)], [.dead, .dead, .dead, .dead, .dead, .dead, sysO (fau 2 1), sysO (fau 1 1), .dead, .dead, .dead, sysO (fau 1 0)], 0, []⟩) ?_ ?_
  · refine le_slots' ?_
    simp only [go_sem]
  refine sem_of_awp (Γ := tbl tabAK) tabAK_ok _ _ _ ?_
  simp only [go_sem, Int.reduceEq, Int.reduceLT, Int.reduceLE, eq_self, Int.natCast_nonneg, Int.toNat_natCast, sysO]
  refine call_made (knownR 12) (by simp) [sysD (fau 2 1)] _ _ rfl rfl (.tail _ (.tail _ (.tail _ (.head _)))) ?_
  simp only [go_sem, Int.reduceEq, Int.reduceLT, Int.reduceLE, eq_self, Int.natCast_nonneg, Int.toNat_natCast, AV.shift, Obj.shift, AV.shifts]
  refine call_made (knownR 16) (by simp) [sysD (fau 2 1)] _ _ rfl rfl (.head _) ?_
  simp only [go_sem, Int.reduceEq, Int.reduceLT, Int.reduceLE, eq_self, Int.natCast_nonneg, Int.toNat_natCast, AV.shift, Obj.shift, AV.shifts]
  refine call_made (knownR 12) (by simp) [sysD (fau 1 1)] _ _ rfl rfl (.tail _ (.tail _ (.head _))) ?_
  simp only [go_sem, Int.reduceEq, Int.reduceLT, Int.reduceLE, eq_self, Int.natCast_nonneg, Int.toNat_natCast, AV.shift, Obj.shift, AV.shifts]
  refine call_made (knownR 12) (by simp) [sysD (fau 1 0)] _ _ rfl rfl (.tail _ (.head _)) ?_
  simp only [go_sem, Int.reduceEq, Int.reduceLT, Int.reduceLE, eq_self, Int.natCast_nonneg, Int.toNat_natCast, AV.shift, Obj.shift, AV.shifts]
  refine call_data (fun ds v => (ds, v) ∈ impK) (by simp) [sysD (fau 1 0)] _ rfl (.head _) (.inl rfl) ?_
  simp only [go_sem, Int.reduceEq, Int.reduceLT, Int.reduceLE, eq_self, Int.natCast_nonneg, Int.toNat_natCast, decide_true]
  refine sem_cut 24 tabAK_ok ?_
  simp only [go_sem, Int.reduceEq, Int.reduceLT, Int.reduceLE, eq_self, Int.natCast_nonneg, Int.toNat_natCast]
  refine ⟨_, le_normAt 71 (v := .dat (.agg [.int .i64 0, .int .i64 0, .int .i64 0, .int .i64 2])) rfl, ?_⟩
  have hz : D.nth [D.agg [.int .i64 0, .int .i64 0, .int .i64 0, .int .i64 2]] 0 = D.agg [.int .i64 0, .int .i64 0, .int .i64 0, .int .i64 2] := rfl
  simp only [go_sem, Int.reduceEq, Int.reduceLT, Int.reduceLE, eq_self, Int.natCast_nonneg, Int.toNat_natCast, hz, bin_eqlW]
  refine call_data sameR (by simp) [.sl none (natsD [1, 1, 0, 0]), .sl none (natsD [1, 1, 0, 0])] _ rfl ⟨[1, 1, 0, 0], rfl, by decide, rfl⟩ (.inr rfl) ?_
  simp only [go_sem, Int.reduceEq, Int.reduceLT, Int.reduceLE, eq_self, Int.natCast_nonneg, Int.toNat_natCast]
  refine call_data (fun ds v => (ds, v) ∈ verK) (by simp) [sysD (fau 1 1), .agg [.sl none (intsD [5, 9, 0, 3])]] _ rfl (.head _) (.inr rfl) ?_
  simp only [go_sem, Int.reduceEq, Int.reduceLT, Int.reduceLE, eq_self, Int.natCast_nonneg, Int.toNat_natCast, decide_true]
  refine call_data (fun ds v => (ds, v) ∈ verK) (by simp) [sysD (fau 1 1), .agg [.sl none (intsD [1, 1, 0, 1])]] _ rfl (.tail _ (.head _)) (.inr rfl) ?_
  simp only [go_sem, Int.reduceEq, Int.reduceLT, Int.reduceLE, eq_self, Int.natCast_nonneg, Int.toNat_natCast, decide_true]
  refine call_data (fun ds v => (ds, v) ∈ enoK) (by simp) [sysD (fau 2 1), .int .i64 0] _ rfl (.head _) (.inr rfl) ?_
  simp only [go_sem, Int.reduceEq, Int.reduceLT, Int.reduceLE, eq_self, Int.natCast_nonneg, Int.toNat_natCast, decide_true]
  exact post_data (.inl rfl) [0] rfl trivial rfl
end Go.AM

set_option maxRecDepth 8000
set_option maxHeartbeats 2000000
namespace Go.AM
open Go Go.Proofs

abbrev tabK1 : List (Nat × Contract) := [(10, dataC awakeR), (11, dataC fewR), (12, dataC makeR), (13, dataC makeR), (14, dataC impVR), (15, dataC impVR), (16, dataC expR), (17, dataC expR), (18, dataC sameCR), (19, dataC sameER), (20, dataC enoR), (21, dataC enoR), (22, dataC verR), (23, dataC verR)]
abbrev pfK1 : List Nat := [18, 19, 20, 21, 22, 23]
def lawPR (ds : List D) (v : AV) : Prop := ∃ (s : PSys) (pool : Int), ds = [sysD s, .int .i64 pool] ∧ v = .dat (.bool true)
def lawLR (ds : List D) (v : AV) : Prop := ∃ (s : PSys) (L : List Int), ds = [sysD s, .sl none (intsD L)] ∧ v = .dat (.bool true)
end Go.AM

set_option maxRecDepth 100000
namespace Go.AM
open Go Go.Proofs

abbrev byteD (a : Nat) : D := .int .u8 (a : Int)
theorem byte_arg {m : Nat} {d : D} (h : argT Try.prog (m + 1) 5 d) : ∃ a : Nat, d = byteD a ∧ a < 256 := by
  obtain ⟨n, rfl, hn⟩ := arg_int (k := .u8) (by kernel_rfl) h
  have := inR_u8.1 hn
  refine ⟨n.toNat, ?_, by omega⟩
  show D.int .u8 n = D.int .u8 (n.toNat : Int)
  rw [Int.toNat_of_nonneg this.1]
end Go.AM

set_option maxRecDepth 8000
set_option maxHeartbeats 2000000
namespace Go.AM
open Go Go.Proofs

def lawSR (ds : List D) (v : AV) : Prop := ∃ (s : PSys), ds = [sysD s] ∧ v = .dat (.bool true)
abbrev tabEp : List (Nat × Contract) := [(10, dataC awakeR), (11, dataC fewR), (16, dataC expR), (24, dataC edgesR)]
abbrev tabSc : List (Nat × Contract) := [(10, dataC awakeR), (11, dataC fewR), (12, dataC makeR), (22, dataC verR)]
def lawFR (ds : List D) (v : AV) : Prop := ∃ (s : PSys) (a b : Nat), ds = [sysD s, byteD a, byteD b] ∧ a < 256 ∧ b < 256 ∧ v = .dat (.bool true)
def scaleF (a b : Nat) (n : Nat) : Int := ((n * (1 + a % 64) + b : Nat) : Int)
end Go.AM

set_option maxRecDepth 8000
set_option maxHeartbeats 4000000
namespace Go.AM
open Go Go.Proofs

abbrev tabFw : List (Nat × Contract) := [(10, dataC awakeR), (11, dataC fewR), (12, dataC makeR), (25, madeC copyR)]
theorem tabFw_ok : OkG Try.prog (tbl tabFw) := okG_cons awake_ok (okG_cons few_ok (okG_cons make_ok (okG_cons copy_ok okG_nil)))
def lawAR (ds : List D) (v : AV) : Prop := ∃ (s : PSys) (a : Nat), ds = [sysD s, byteD a] ∧ a < 256 ∧ v = .dat (.bool true)
theorem few_steps {s : PSys} (h : fewB s = true) : ∀ c ∈ s.classes, c.steps.length ≤ 100 := fun c hc => by
  simp only [fewB, Bool.and_eq_true, List.all_eq_true] at h
  have := h.2 c hc
  simp only [Bool.not_eq_true', decide_eq_false_iff_not] at this
  omega
theorem lawFewer_ok : OkF Try.prog 8 (dataC lawAR) := by
  refine okF_data Try.func8 rfl (by decide) ?_
  rintro ds v ⟨s, a, rfl, ha, rfl⟩
  refine sem_of_awpK [11, 17] (Γ := tbl tabFw) tabFw_ok _ _ _ ?_
  simp only [go_sem, Int.reduceEq, Int.reduceLT, Int.reduceLE, eq_self, Int.natCast_nonneg, Int.toNat_natCast, Try.ntmps8, sysD]
  refine call_data awakeR (by simp) [] _ rfl awakeR_true (.inl rfl) ?_
  simp only [go_sem, Int.reduceEq, Int.reduceLT, Int.reduceLE, eq_self, Int.natCast_nonneg, Int.toNat_natCast]
  refine call_data fewR (by simp) [sysD s] _ rfl ⟨s, rfl, rfl⟩ (.inl rfl) ?_
  cases hf : fewB s with
  | false =>
    simp only [go_sem, Int.reduceEq, Int.reduceLT, Int.reduceLE, eq_self, Int.natCast_nonneg, Int.toNat_natCast, hf]
    refine call_data awakeR (by simp) [] _ rfl awakeR_true (.inl rfl) ?_
    simp only [go_sem, Int.reduceEq, Int.reduceLT, Int.reduceLE, eq_self, Int.natCast_nonneg, Int.toNat_natCast]
    exact post_data (.inl rfl) [4] rfl trivial rfl
  | true =>
  have hs := fewB_fit hf
  simp only [go_sem, Int.reduceEq, Int.reduceLT, Int.reduceLE, eq_self, Int.natCast_nonneg, Int.toNat_natCast, hf]
  refine call_data makeR (by simp) [sysD s] _ rfl ⟨s, rfl, hs, rfl⟩ (.inl rfl) ?_
  by_cases hm : (makeO s).2 = 0
  case neg =>
    simp only [go_sem, Int.reduceEq, Int.reduceLT, Int.reduceLE, eq_self, Int.natCast_nonneg, Int.toNat_natCast, makeV, certD, hm]
    exact post_data (.inl rfl) [4] rfl trivial rfl
  have hc : checkE s = 0 := Classical.byContradiction fun h => by rw [makeO_err h] at hm; exact h hm
  have hg := good_of hc
  have hnc := hg.nc
  have hnp := hg.np
  have hst := few_steps hf
  simp only [go_sem, Int.reduceEq, Int.reduceLT, Int.reduceLE, eq_self, Int.natCast_nonneg, Int.toNat_natCast, makeV, certD, hm]
  refine call_made copyR (by simp) [sysD s] _ _ rfl rfl ⟨s, rfl, hs.small, hst, rfl, rfl⟩ ?_
  simp only [go_sem, Int.reduceEq, Int.reduceLT, Int.reduceLE, eq_self, Int.natCast_nonneg, Int.toNat_natCast, AV.shift, Obj.shift, AV.shifts, List.length_map]
  have hmn : ∀ (n : Nat), 0 < n → (a : Int).tmod n = ((a % n : Nat) : Int) := fun n _ => (Int.ofNat_tmod _ _).symm
  have hcl : ∀ (Q0 : Exit → S → Prop) (C : Code) (σ σ' : S), Le σ σ' → andThenK [11, 17] Try.prog (tbl tabFw) C Q0 .normal σ' → andThenK [11, 17] Try.prog (tbl tabFw) C Q0 .normal σ → True := fun _ _ _ _ _ _ _ => trivial
  clear hcl
  generalize hK : andThenK [11, 17] Try.prog (tbl tabFw) _ _ = Q
  suffices hQ1 : ∀ q : PSys, q.pools = s.pools → q.locks = s.locks → q.classes.length = s.classes.length → q.fit → (makeO q).2 = 0 → ∀ sl, slotsLe sl (slotsOf 100 [(1, .dat (byteD a)), (2, .ptr 0 0 0), (7, .ptr 5 0 0)]) →
      Q .normal ⟨sl, [sysO s, .box [.dat (.sl none (natsD (makeO s).1))], .row (some 3) (s.pools.map poolD), .row none (s.locks.map .str), .row (some 4) (q.classes.map clsD), .box [.sl 2 0 s.pools.length, .sl 3 0 s.locks.length, .sl 4 0 s.classes.length]], 0, []⟩ by
    by_cases hz : s.classes.length = 0
    · have hz2 : ¬ (0 : Int) < s.classes.length := by omega
      simp only [go_sem, Int.reduceEq, Int.reduceLT, Int.reduceLE, eq_self, Int.natCast_nonneg, Int.toNat_natCast, hz2]
      exact hQ1 s rfl rfl rfl hs hm _ (by simp only [go_sem])
    have hz2 : (0 : Int) < s.classes.length := by omega
    have hi : a % s.classes.length < s.classes.length := Nat.mod_lt _ (by omega)
    have hmod := hmn s.classes.length (by omega)
    have hln : (s.classes.length : Int) ≠ 0 := by omega
    have hW := less_wid hc (a % s.classes.length)
    generalize hie : a % s.classes.length = i at *
    have hi2 : (i : Int) < s.classes.length := by omega
    have hn : D.nth (s.classes.map clsD) i = clsD (s.classes.getD i default) := D.nth_map hi
    have hcw := (hg.cls (s.classes.getD i default) (by rw [List.getD_eq_getElem?_getD, List.getElem?_eq_getElem hi]; exact List.getElem_mem hi)).w4
    have hset : (lessS s i).classes = s.classes.set i (decW (s.classes.getD i default)) := rfl
    have hfit : (lessS s i).fit := ⟨(good_of (hW.toWid.check hc)).small⟩
    have hmk := hW.make hm
    generalize s.classes.getD i default = c at *
    simp only [go_sem, Int.reduceEq, Int.reduceLT, Int.reduceLE, eq_self, Int.natCast_nonneg, Int.toNat_natCast, hz2]
    refine sem_draw (pf := []) (Γ := tbl tabFw) mixed tabFw_ok pureNo [0, 1, 2, 3, 4, 5, 6, 7, 8, 9] (by kernel_rfl) ?_
    by_cases hw : 1 < c.workers
    · have hrow : (s.classes.map clsD).set i (.agg [.str c.name, .int .i64 (c.workers - 1), .bool c.server, stepsD c.steps]) = (lessS s i).classes.map clsD := by
        rw [hset, List.map_set]; unfold decW; rw [if_pos hw]; rfl
      simp only [go_sem, Int.reduceEq, Int.reduceLT, Int.reduceLE, eq_self, Int.natCast_nonneg, Int.toNat_natCast, chainI, hmod, hln, hi, hi2, List.length_map, hn, hw, clsD, hrow]
      refine ⟨inR_i64.2 (by omega), inR_i64.2 (by omega), inR_i64.2 (by omega), ?_⟩
      exact hQ1 (lessS s i) rfl rfl (by simp [lessS]) hfit hmk _ (by simp only [go_sem])
    · simp only [go_sem, Int.reduceEq, Int.reduceLT, Int.reduceLE, eq_self, Int.natCast_nonneg, Int.toNat_natCast, chainI, hmod, hln, hi, hi2, List.length_map, hn, hw, clsD]
      refine ⟨inR_i64.2 (by omega), inR_i64.2 (by omega), ?_⟩
      exact hQ1 s rfl rfl rfl hs hm _ (by simp only [go_sem])
  subst hK
  intro q q1 q2 q3 q4 q5 sl hsl
  simp only [go_sem, Int.reduceEq, Int.reduceLT, Int.reduceLE, eq_self, Int.natCast_nonneg, Int.toNat_natCast]
  refine sem_le (le_slots' hsl) ?_
  have e4 : List.take s.classes.length (q.classes.map clsD) = q.classes.map clsD := List.take_of_length_le (by simp [q3])
  have l4 : (q.classes.map clsD).length = s.classes.length := by simp [q3]
  have e2 : List.take s.pools.length (s.pools.map poolD) = s.pools.map poolD := List.take_of_length_le (by simp)
  have l2 : (s.pools.map poolD).length = s.pools.length := by simp
  have e3 : List.take s.locks.length (s.locks.map D.str) = s.locks.map .str := List.take_of_length_le (by simp)
  have l3 : (s.locks.map D.str).length = s.locks.length := by simp
  refine sem_le (le_freeze 4 (ag := some 4) rfl (Nat.zero_le _)) ?_
  refine sem_le (le_freeze 3 (ag := none) rfl (Nat.zero_le _)) ?_
  refine sem_le (le_freeze 2 (ag := some 3) rfl (Nat.zero_le _)) ?_
  refine sem_of_awpK [14, 17] (Γ := tbl tabFw) tabFw_ok _ _ _ ?_
  simp only [go_sem, Int.reduceEq, Int.reduceLT, Int.reduceLE, eq_self, Int.natCast_nonneg, Int.toNat_natCast, e2, e3, e4, l2, l3, l4, List.drop_zero, Nat.le_refl]
  refine call_data makeR (by simp) [sysD q] _ (by rw [sysD, q1, q2]; rfl) ⟨q, rfl, q4, rfl⟩ (.inl rfl) ?_
  simp only [go_sem, Int.reduceEq, Int.reduceLT, Int.reduceLE, eq_self, Int.natCast_nonneg, Int.toNat_natCast, makeV, certD, q5]
  refine call_made copyR (by simp) [sysD s] _ _ rfl rfl ⟨s, rfl, hs.small, hst, rfl, rfl⟩ ?_
  simp only [go_sem, Int.reduceEq, Int.reduceLT, Int.reduceLE, eq_self, Int.natCast_nonneg, Int.toNat_natCast, AV.shift, Obj.shift, AV.shifts, List.length_map]
  generalize hK : andThenK [11, 17] Try.prog (tbl tabFw) _ _ = Q
  suffices hQ1 : ∀ p : PSys, p.classes = s.classes → p.locks = s.locks → p.pools.length = s.pools.length → p.fit → (makeO p).2 = 0 → ∀ sl, slotsLe sl (slotsOf 100 [(10, .dat (.int .i64 0)), (11, .ptr 10 0 0)]) →
      Q .normal ⟨sl, [sysO s, .box [.dat (.sl none (natsD (makeO s).1))], .dead, .dead, .dead, .box [.dat (.sl (some 3) (s.pools.map poolD)), .dat (.sl none (s.locks.map .str)), .dat (.sl (some 4) (q.classes.map clsD))], .box [.dat (.sl none (natsD (makeO q).1))],
        .row (some 3) (p.pools.map poolD), .row none (s.locks.map .str), .row (some 4) (s.classes.map clsD), .box [.sl 7 0 s.pools.length, .sl 8 0 s.locks.length, .sl 9 0 s.classes.length]], 0, []⟩ by
    by_cases hz : s.pools.length = 0
    · have hz2 : ¬ (0 : Int) < s.pools.length := by omega
      simp only [go_sem, Int.reduceEq, Int.reduceLT, Int.reduceLE, eq_self, Int.natCast_nonneg, Int.toNat_natCast, hz2]
      exact hQ1 s rfl rfl rfl hs hm _ (by simp only [go_sem])
    have hz2 : (0 : Int) < s.pools.length := by omega
    have hi : a % s.pools.length < s.pools.length := Nat.mod_lt _ (by omega)
    have hmod := hmn s.pools.length (by omega)
    have hln : (s.pools.length : Int) ≠ 0 := by omega
    have hW := more_wid hc (a % s.pools.length)
    generalize hie : a % s.pools.length = i at *
    have hi2 : (i : Int) < s.pools.length := by omega
    have hn : D.nth (s.pools.map poolD) i = poolD (s.pools.getD i default) := D.nth_map hi
    have hcw := hg.pool (s.pools.getD i default) (by rw [List.getD_eq_getElem?_getD, List.getElem?_eq_getElem hi]; exact List.getElem_mem hi)
    have hset : (moreS s i).pools = s.pools.set i (incP (s.pools.getD i default)) := rfl
    have hfit : (moreS s i).fit := ⟨(good_of (hW.toWid.check hc)).small⟩
    have hmk := hW.make hm
    generalize s.pools.getD i default = c at *
    unfold PPool.bad at hcw
    simp only [go_sem, Int.reduceEq, Int.reduceLT, Int.reduceLE, eq_self, Int.natCast_nonneg, Int.toNat_natCast, hz2]
    refine sem_draw (pf := []) (Γ := tbl tabFw) mixed tabFw_ok pureNo [0, 1, 2, 3, 4, 5, 6, 7, 8, 9] (by kernel_rfl) ?_
    by_cases hw : c.size < 8
    · have hrow : (s.pools.map poolD).set i (.agg [.str c.name, .int .i64 (c.size + 1), .int .i64 c.res]) = (moreS s i).pools.map poolD := by
        rw [hset, List.map_set]; unfold incP; rw [if_pos hw]; rfl
      simp only [go_sem, Int.reduceEq, Int.reduceLT, Int.reduceLE, eq_self, Int.natCast_nonneg, Int.toNat_natCast, chainI, hmod, hln, hi, hi2, List.length_map, hn, hw, poolD, hrow]
      refine ⟨inR_i64.2 (by omega), inR_i64.2 (by omega), inR_i64.2 (by omega), ?_⟩
      exact hQ1 (moreS s i) rfl rfl (by simp [moreS]) hfit hmk _ (by simp only [go_sem])
    · simp only [go_sem, Int.reduceEq, Int.reduceLT, Int.reduceLE, eq_self, Int.natCast_nonneg, Int.toNat_natCast, chainI, hmod, hln, hi, hi2, List.length_map, hn, hw, poolD]
      refine ⟨inR_i64.2 (by omega), inR_i64.2 (by omega), ?_⟩
      exact hQ1 s rfl rfl rfl hs hm _ (by simp only [go_sem])
  subst hK
  intro p p1 p2 p3 p4 p5 sl hsl
  simp only [go_sem, Int.reduceEq, Int.reduceLT, Int.reduceLE, eq_self, Int.natCast_nonneg, Int.toNat_natCast]
  refine sem_le (le_slots' hsl) ?_
  have f2 : List.take s.pools.length (p.pools.map poolD) = p.pools.map poolD := List.take_of_length_le (by simp [p3])
  have m2 : (p.pools.map poolD).length = s.pools.length := by simp [p3]
  have f4 : List.take s.classes.length (s.classes.map clsD) = s.classes.map clsD := List.take_of_length_le (by simp)
  have m4 : (s.classes.map clsD).length = s.classes.length := by simp
  refine sem_le (le_freeze 9 (ag := some 4) rfl (Nat.zero_le _)) ?_
  refine sem_le (le_freeze 8 (ag := none) rfl (Nat.zero_le _)) ?_
  refine sem_le (le_freeze 7 (ag := some 3) rfl (Nat.zero_le _)) ?_
  refine sem_of_awp (Γ := tbl tabFw) tabFw_ok _ _ _ ?_
  simp only [go_sem, Int.reduceEq, Int.reduceLT, Int.reduceLE, eq_self, Int.natCast_nonneg, Int.toNat_natCast, f2, e3, f4, m2, l3, m4, List.drop_zero, Nat.le_refl]
  refine call_data makeR (by simp) [sysD p] _ (by rw [sysD, p1, p2]; rfl) ⟨p, rfl, p4, rfl⟩ (.inl rfl) ?_
  simp only [go_sem, Int.reduceEq, Int.reduceLT, Int.reduceLE, eq_self, Int.natCast_nonneg, Int.toNat_natCast, makeV, certD, p5, decide_true]
  exact post_data (.inl rfl) [4] rfl trivial rfl
end Go.AM

set_option maxRecDepth 100000
namespace Go.AM
open Go Go.Proofs

theorem want87 : wantT Try.prog 55 = some 3 := by kernel_rfl
theorem want9 : wantT Try.prog 9 = none := by kernel_rfl
theorem want54 : wantT Try.prog 52 = some 4 := by kernel_rfl
theorem want56 : wantT Try.prog 60 = some 4 := by kernel_rfl
theorem pool_arg {m : Nat} {d : D} (h : argT Try.prog (m + 3) 55 d) : ∃ p : PPool, d = poolD p ∧ True := by
  obtain ⟨ds, rfl, hf⟩ := arg_fields (ts := [9, 3, 3]) (by kernel_rfl) h
  obtain ⟨a, r, rfl, ha, hf⟩ := hf
  obtain ⟨b, r, rfl, hb, hf⟩ := hf
  obtain ⟨c, r, rfl, hc, rfl⟩ := hf
  rw [dataT_str (by kernel_rfl)] at ha
  rw [dataT_int (k := .i64) (by kernel_rfl)] at hb hc
  obtain ⟨a, rfl, _⟩ := ha
  obtain ⟨b, rfl, _⟩ := hb
  obtain ⟨c, rfl, _⟩ := hc
  exact ⟨⟨a, b, c⟩, rfl, trivial⟩
theorem step_arg {m : Nat} {d : D} (h : argT Try.prog (m + 3) 60 d) : ∃ p : PStep, d = stepD p ∧ True := by
  obtain ⟨ds, rfl, hf⟩ := arg_fields (ts := [3, 3, 3, 4]) (by kernel_rfl) h
  obtain ⟨a, r, rfl, ha, hf⟩ := hf
  obtain ⟨b, r, rfl, hb, hf⟩ := hf
  obtain ⟨c, r, rfl, hc, hf⟩ := hf
  obtain ⟨e, r, rfl, he, rfl⟩ := hf
  rw [dataT_int (k := .i64) (by kernel_rfl)] at ha hb hc
  rw [dataT_bool (by kernel_rfl)] at he
  obtain ⟨a, rfl, _⟩ := ha
  obtain ⟨b, rfl, _⟩ := hb
  obtain ⟨c, rfl, _⟩ := hc
  obtain ⟨e, rfl⟩ := he
  exact ⟨⟨a, b, c, e⟩, rfl, trivial⟩
theorem cls_arg {m : Nat} {d : D} (h : argT Try.prog (m + 6) 52 d) : ∃ p : PCls, d = clsD p ∧ True := by
  obtain ⟨ds, rfl, hf⟩ := arg_fields (ts := [9, 3, 4, 50]) (by kernel_rfl) h
  obtain ⟨a, r, rfl, ha, hf⟩ := hf
  obtain ⟨b, r, rfl, hb, hf⟩ := hf
  obtain ⟨c, r, rfl, hc, hf⟩ := hf
  obtain ⟨e, r, rfl, he, rfl⟩ := hf
  rw [dataT_str (by kernel_rfl)] at ha
  rw [dataT_int (k := .i64) (by kernel_rfl)] at hb
  rw [dataT_bool (by kernel_rfl)] at hc
  rw [dataT_slice (e := 60) (by kernel_rfl), want56] at he
  obtain ⟨a, rfl, _⟩ := ha
  obtain ⟨b, rfl, _⟩ := hb
  obtain ⟨c, rfl⟩ := hc
  obtain ⟨e, rfl, _, hx⟩ := he
  obtain ⟨l, rfl, _⟩ := list_of stepD (Q := fun _ => True) (fun x hx' => step_arg (hx x hx'))
  exact ⟨⟨a, b, c, l⟩, rfl, trivial⟩
theorem sys_arg {m : Nat} {d : D} (h : argT Try.prog (m + 9) 26 d) : ∃ s : PSys, d = sysD s := by
  obtain ⟨ds, rfl, hf⟩ := arg_fields (ts := [22, 23, 24]) (by kernel_rfl) h
  obtain ⟨a, r, rfl, ha, hf⟩ := hf
  obtain ⟨b, r, rfl, hb, hf⟩ := hf
  obtain ⟨c, r, rfl, hc, rfl⟩ := hf
  rw [dataT_slice (e := 55) (by kernel_rfl), want87] at ha
  rw [dataT_slice (e := 9) (by kernel_rfl), want9] at hb
  rw [dataT_slice (e := 52) (by kernel_rfl), want54] at hc
  obtain ⟨a, rfl, _, ha⟩ := ha
  obtain ⟨b, rfl, _, hb⟩ := hb
  obtain ⟨c, rfl, _, hc⟩ := hc
  obtain ⟨a, rfl, _⟩ := list_of poolD (Q := fun _ => True) (fun x hx' => pool_arg (ha x hx'))
  obtain ⟨b, rfl, _⟩ := list_of D.str (Q := fun _ => True) (fun x hx' => by
    obtain ⟨s, h, _⟩ := arg_str (by kernel_rfl) (hb x hx')
    exact ⟨s, h, trivial⟩)
  obtain ⟨c, rfl, _⟩ := list_of clsD (Q := fun _ => True) (fun x hx' => cls_arg (hc x hx'))
  exact ⟨⟨a, b, c⟩, rfl⟩
end Go.AM

