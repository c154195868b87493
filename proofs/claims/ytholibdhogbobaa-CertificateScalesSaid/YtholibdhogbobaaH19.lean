/- Own work over the model of the kit. -/
import Derived.Test.YtholibdhogbobaaH18
import Derived.Test.YtholibdhogbobaaH12
import Derived.Test.YtholibdhogbobaaH4
set_option linter.constructorNameAsVariable false
set_option linter.unusedSimpArgs false
set_option linter.unusedVariables false
set_option maxRecDepth 8000
set_option maxHeartbeats 2000000
namespace Go.AM
open Go Go.Proofs

def lawSR (ds : List D) (v : AV) : Prop := ∃ (s : PSys), ds = [sysD s] ∧ v = .dat (.bool true)
theorem flat_edge {e f : PEdge} : D.flatEqs [.int .i64 e.src, .int .i64 e.dst, .int .i64 e.cls, .int .i64 e.step] [.int .i64 f.src, .int .i64 f.dst, .int .i64 f.cls, .int .i64 f.step] = decide (e = f) := by
  rw [Bool.eq_iff_iff, decide_eq_true_eq]
  obtain ⟨a, b, c, d⟩ := e
  obtain ⟨a', b', c', d'⟩ := f
  simp [D.flatEqs, D.flatEq]
theorem bin_eqlE {e f : PEdge} (h : e.fit) (h2 : f.fit) {K : AV → Prop} : binTop Try.prog .eql 46 (.dat (.agg [.int .i64 e.src, .int .i64 e.dst, .int .i64 e.cls, .int .i64 e.step])) (.dat (.agg [.int .i64 f.src, .int .i64 f.dst, .int .i64 f.cls, .int .i64 f.step])) K = K (.dat (.bool (decide (e = f)))) := by
  rw [bin_eql_agg eqOk_0 (nums_edge h) (nums_edge h2), flat_edge]
abbrev tabEp : List (Nat × Contract) := [(10, dataC awakeR), (11, dataC fewR), (16, dataC expR), (24, dataC edgesR)]
theorem tabEp_ok : OkG Try.prog (tbl tabEp) := okG_cons awake_ok (okG_cons few_ok (okG_cons explain_ok (okG_cons edges_ok okG_nil)))
theorem lawExplains_ok : OkF Try.prog 6 (dataC lawSR) := by
  refine okF_data Try.func6 rfl (by decide) ?_
  rintro ds v ⟨s, rfl, rfl⟩
  refine sem_of_awp (Γ := tbl tabEp) tabEp_ok _ _ _ ?_
  simp only [go_sem, Int.reduceEq, Int.reduceLT, Int.reduceLE, eq_self, Int.natCast_nonneg, Int.toNat_natCast, Try.ntmps6, sysD]
  refine call_data awakeR (by simp) [] _ rfl awakeR_true (.inl rfl) ?_
  simp only [go_sem, Int.reduceEq, Int.reduceLT, Int.reduceLE, eq_self, Int.natCast_nonneg, Int.toNat_natCast]
  refine call_data fewR (by simp) [sysD s] _ rfl ⟨s, rfl, rfl⟩ (.inl rfl) ?_
  cases hf : fewB s with
  | false =>
    simp only [go_sem, Int.reduceEq, Int.reduceLT, Int.reduceLE, eq_self, Int.natCast_nonneg, Int.toNat_natCast, hf]
    refine call_data awakeR (by simp) [] _ rfl awakeR_true (.inl rfl) ?_
    simp only [go_sem, Int.reduceEq, Int.reduceLT, Int.reduceLE, eq_self, Int.natCast_nonneg, Int.toNat_natCast]
    exact post_data (.inl rfl) [2] rfl trivial rfl
  | true =>
  have hs := fewB_fit hf
  simp only [go_sem, Int.reduceEq, Int.reduceLT, Int.reduceLE, eq_self, Int.natCast_nonneg, Int.toNat_natCast, hf]
  refine call_data expR (by simp) [sysD s] _ rfl ⟨s, rfl, hs, rfl⟩ (.inl rfl) ?_
  by_cases h : checkE s = 0
  case neg =>
    have hx : expV s = .tup [.dat (.sl none []), .dat (.int .i64 (checkE s))] := by unfold expV; rw [if_pos h]
    rw [hx]
    simp only [go_sem, Int.reduceEq, Int.reduceLT, Int.reduceLE, eq_self, Int.natCast_nonneg, Int.toNat_natCast]
    refine call_data edgesR (by simp) [sysD s] _ rfl ⟨s, rfl, hs, rfl⟩ (.inl rfl) ?_
    rw [edgesV_err h]
    simp only [go_sem, Int.reduceEq, Int.reduceLT, Int.reduceLE, eq_self, Int.natCast_nonneg, Int.toNat_natCast, decide_true, Bool.not_true, List.length_nil]
    refine sem_loop (fun _ : Unit => ⟨slotsOf 70 [(34, .dat (.int .i64 0)), (35, .dat (.int .i64 0))], [sysO s], 0, []⟩) (fun _ => True) (fun _ => 0) () trivial ?_ ?_
    · exact le_slots' (by simp only [go_sem, Int.natCast_zero])
    rintro _ _
    refine sem_of_awp (Γ := tbl tabEp) tabEp_ok _ _ _ ?_
    simp only [go_sem, Int.reduceEq, Int.reduceLT, Int.reduceLE, eq_self, Int.natCast_nonneg, Int.toNat_natCast]
    exact post_data (.inl rfl) [2] rfl trivial rfl
  have hx : expV s = .tup [.dat (.sl (some 4) (edgesD (expL s))), .dat (.int .i64 0)] := by unfold expV; rw [if_neg (by simp [h])]
  rw [hx]
  simp only [go_sem, Int.reduceEq, Int.reduceLT, Int.reduceLE, eq_self, Int.natCast_nonneg, Int.toNat_natCast]
  refine call_data edgesR (by simp) [sysD s] _ rfl ⟨s, rfl, hs, rfl⟩ (.inl rfl) ?_
  rw [edgesV_ok h]
  have hgk := sysE_ok h
  have hgl := hgk.len
  obtain ⟨hXl, hXf⟩ := exp_fit h
  have hEf : ∀ e ∈ sysE s, e.fit := eFit (good_of h)
  have hnx := fun i => exp_next (i := i) h
  simp only [go_sem, Int.reduceEq, Int.reduceLT, Int.reduceLE, eq_self, Int.natCast_nonneg, Int.toNat_natCast, decide_true, Bool.not_true, edges_len]
  generalize expL s = X at *
  generalize sysE s = E at *
  refine sem_loop (fun k : Nat => ⟨slotsOf 70 [(1, .ptr 0 0 0), (3, .dat (.sl (some 4) (edgesD X))), (5, .dat (.sl (some 4) (edgesD E))), (33, .dat (.sl (some 4) (edgesD X))), (34, .dat (.int .i64 X.length)), (35, .dat (.int .i64 k))], [sysO s], 0, []⟩)
    (fun k => k ≤ X.length) (fun k => X.length - k) 0 (Nat.zero_le _) ?_ ?_
  · exact le_slots' (by simp only [go_sem, Int.natCast_zero])
  rintro k hk
  refine sem_of_awp (Γ := tbl tabEp) tabEp_ok _ _ _ ?_
  cases hd : X.drop k with
  | nil =>
    have := end_of_drop hd hk
    have hk2 : ¬ (k : Int) < X.length := by omega
    simp only [go_sem, Int.reduceEq, Int.reduceLT, Int.reduceLE, eq_self, Int.natCast_nonneg, Int.toNat_natCast, hk2]
    exact post_data (.inl rfl) [2] rfl trivial rfl
  | cons x r =>
  have hlt := lt_of_drop hd
  have hk2 : (k : Int) < X.length := by omega
  have hk0 : (0 : Int) ≤ k := Int.natCast_nonneg k
  have hn := nth_of_drop (f := edgeD) hd
  have hxf := hXf x (mem_of_drop hd)
  obtain ⟨hxm, hxd⟩ := hnx k hlt
  rw [getD_of_drop hd] at hxm hxd
  simp only [go_sem, Int.reduceEq, Int.reduceLT, Int.reduceLE, eq_self, Int.natCast_nonneg, Int.toNat_natCast, hk2, hk0, hlt, hn, edges_len, edgeD]
  refine sem_loop (fun j : Nat => ⟨slotsOf 70 [(1, .ptr 0 0 0), (3, .dat (.sl (some 4) (edgesD X))), (5, .dat (.sl (some 4) (edgesD E))), (7, .dat (.int .i64 k)), (8, .ptr 1 0 0), (9, .dat (.bool (decide (x ∈ E.take j)))), (33, .dat (.sl (some 4) (edgesD X))), (34, .dat (.int .i64 X.length)), (35, .dat (.int .i64 k)), (40, .dat (.sl (some 4) (edgesD E))), (41, .dat (.int .i64 E.length)), (42, .dat (.int .i64 j))], [sysO s, .box [.dat (.int .i64 x.src), .dat (.int .i64 x.dst), .dat (.int .i64 x.cls), .dat (.int .i64 x.step)]], 0, []⟩)
    (fun j => j ≤ E.length) (fun j => E.length - j) 0 (Nat.zero_le _) ?_ ?_
  · exact le_slots' (by simp only [go_sem, Int.natCast_zero, List.take_zero, List.not_mem_nil, decide_false])
  rintro j hj
  cases hd2 : E.drop j with
  | nil =>
    obtain rfl : j = E.length := end_of_drop hd2 hj
    have hj2 : ¬ (E.length : Int) < E.length := by omega
    have hin : decide (x ∈ E.take E.length) = true := by rw [List.take_length]; exact decide_eq_true hxm
    rw [hin]
    have hmod : ((k : Int) + 1).tmod X.length = (((k + 1) % X.length : Nat) : Int) := by rw [Int.ofNat_tmod]; rfl
    have hq : (k + 1) % X.length < X.length := Nat.mod_lt _ (by omega)
    have hq2 : (((k + 1) % X.length : Nat) : Int) < X.length := by omega
    have hX0 : (X.length : Int) ≠ 0 := by omega
    have hxq : D.nth (edgesD X) ((k + 1) % X.length) = edgeD (X.getD ((k + 1) % X.length) default) := D.nth_map hq
    generalize (k + 1) % X.length = q at *
    generalize X.getD q default = y at *
    refine sem_of_awp (Γ := tbl tabEp) tabEp_ok _ _ _ ?_
    simp only [go_sem, Int.reduceEq, Int.reduceLT, Int.reduceLE, eq_self, Int.natCast_nonneg, Int.toNat_natCast, hj2, Bool.not_true]
    refine sem_draw (pf := []) (Γ := tbl tabEp) mixed tabEp_ok pureNo [0, 1, 2, 3, 4, 5, 6, 7, 8, 9, 10, 11, 12, 13, 14, 15] (by kernel_rfl) ?_
    simp only [go_sem, Int.reduceEq, Int.reduceLT, Int.reduceLE, eq_self, Int.natCast_nonneg, Int.toNat_natCast, chainI, Bool.not_true, hmod, hX0, hq, hq2, hxq, edges_len, edgeD, hxd, decide_true]
    refine ⟨inR_i64.2 (by omega), inR_i64.2 (by omega), inR_i64.2 (by omega), k + 1, by omega, by omega, ?_⟩
    refine le_end (own := [_]) (ex := [_]) (Nat.zero_le _) ?_ ?_ ?_
    · simp only [go_sem, Int.natCast_add, Int.cast_ofNat_Int]
    · simp only [go_sem]
    · simp only [go_sem, Obj.under, AV.unders, AV.under]
  | cons y r2 =>
    have hlt2 := lt_of_drop hd2
    have hj2 : (j : Int) < E.length := by omega
    have hj0 : (0 : Int) ≤ j := Int.natCast_nonneg j
    have hn2 := nth_of_drop (f := edgeD) hd2
    have hyf := hEf y (mem_of_drop hd2)
    have hstep : decide (x ∈ E.take (j + 1)) = (decide (x ∈ E.take j) || decide (x = y)) := by rw [take_of_drop hd2, Bool.eq_iff_iff]; simp
    have hb := fun K => bin_eqlE (K := K) hxf hyf
    cases hin : decide (x ∈ E.take j) with
    | true =>
      rw [hin, Bool.true_or] at hstep
      refine sem_of_awp (Γ := tbl tabEp) tabEp_ok _ _ _ ?_
      simp only [go_sem, Int.reduceEq, Int.reduceLT, Int.reduceLE, eq_self, Int.natCast_nonneg, Int.toNat_natCast, hj2, hj0, hlt2, hn2, edges_len, edgeD]
      refine ⟨inR_i64.2 (by omega), j + 1, by omega, by omega, ?_⟩
      rw [hstep]
      refine le_end (own := [_, _]) (ex := [_]) (Nat.zero_le _) ?_ ?_ ?_
      · simp only [go_sem, Int.natCast_add, Int.cast_ofNat_Int]
      · simp only [go_sem]
      · simp only [go_sem, Obj.under, AV.unders, AV.under]
    | false =>
      rw [hin, Bool.false_or] at hstep
      refine sem_of_awpK [14] (Γ := tbl tabEp) tabEp_ok _ _ _ ?_
      simp only [go_sem, Int.reduceEq, Int.reduceLT, Int.reduceLE, eq_self, Int.natCast_nonneg, Int.toNat_natCast, hj2, hj0, hlt2, hn2, edges_len, edgeD]
      refine sem_cut 4 tabEp_ok ?_
      simp only [go_sem, Int.reduceEq, Int.reduceLT, Int.reduceLE, eq_self, Int.natCast_nonneg, Int.toNat_natCast]
      refine ⟨_, Le.trans (le_normAt 48 (v := .dat (.agg [.int .i64 x.src, .int .i64 x.dst, .int .i64 x.cls, .int .i64 x.step])) rfl) (le_normAt 49 (v := .dat (.agg [.int .i64 y.src, .int .i64 y.dst, .int .i64 y.cls, .int .i64 y.step])) rfl), ?_⟩
      simp only [go_sem, Int.reduceEq, Int.reduceLT, Int.reduceLE, eq_self, Int.natCast_nonneg, Int.toNat_natCast, hb]
      refine ⟨inR_i64.2 (by omega), j + 1, by omega, by omega, ?_⟩
      rw [hstep]
      refine le_end (own := [_, _]) (ex := [_]) (Nat.zero_le _) ?_ ?_ ?_
      · simp only [go_sem, Int.natCast_add, Int.cast_ofNat_Int]
      · simp only [go_sem]
      · simp only [go_sem, Obj.under, AV.unders, AV.under]
abbrev tabSc : List (Nat × Contract) := [(10, dataC awakeR), (11, dataC fewR), (12, dataC makeR), (22, dataC verR)]
theorem tabSc_ok : OkG Try.prog (tbl tabSc) := okG_cons awake_ok (okG_cons few_ok (okG_cons make_ok (okG_cons verify_ok okG_nil)))
def lawFR (ds : List D) (v : AV) : Prop := ∃ (s : PSys) (a b : Nat), ds = [sysD s, byteD a, byteD b] ∧ a < 256 ∧ b < 256 ∧ v = .dat (.bool true)
def scaleF (a b : Nat) (n : Nat) : Int := ((n * (1 + a % 64) + b : Nat) : Int)
theorem lawScales_ok : OkF Try.prog 7 (dataC lawFR) := by
  refine okF_data Try.func7 rfl (by decide) ?_
  rintro ds v ⟨s, a, b, rfl, ha, hb, rfl⟩
  refine sem_of_awpK [7] (Γ := tbl tabSc) tabSc_ok _ _ _ ?_
  simp only [go_sem, Int.reduceEq, Int.reduceLT, Int.reduceLE, eq_self, Int.natCast_nonneg, Int.toNat_natCast, Try.ntmps7, sysD]
  refine call_data awakeR (by simp) [] _ rfl awakeR_true (.inl rfl) ?_
  simp only [go_sem, Int.reduceEq, Int.reduceLT, Int.reduceLE, eq_self, Int.natCast_nonneg, Int.toNat_natCast]
  refine call_data fewR (by simp) [sysD s] _ rfl ⟨s, rfl, rfl⟩ (.inl rfl) ?_
  cases hf : fewB s with
  | false =>
    simp only [go_sem, Int.reduceEq, Int.reduceLT, Int.reduceLE, eq_self, Int.natCast_nonneg, Int.toNat_natCast, hf]
    refine call_data awakeR (by simp) [] _ rfl awakeR_true (.inl rfl) ?_
    simp only [go_sem, Int.reduceEq, Int.reduceLT, Int.reduceLE, eq_self, Int.natCast_nonneg, Int.toNat_natCast]
    exact post_data (.inl rfl) [6] rfl trivial rfl
  | true =>
  have hs := fewB_fit hf
  simp only [go_sem, Int.reduceEq, Int.reduceLT, Int.reduceLE, eq_self, Int.natCast_nonneg, Int.toNat_natCast, hf]
  refine call_data makeR (by simp) [sysD s] _ rfl ⟨s, rfl, hs, rfl⟩ (.inl rfl) ?_
  have zero : ∀ e : Int, e ≠ 0 → makeO s = ([], e) → True := fun _ _ _ => trivial
  have hm0 : (makeO s).2 = 0 ∨ ((makeO s).2 ≠ 0 ∧ (makeO s).1 = []) := by
    by_cases h : checkE s = 0
    · cases hi : impO s with
      | some x => rw [makeO_imp h (by rw [hi]; rfl)]; exact .inr ⟨by decide, rfl⟩
      | none =>
        cases hl : levV (nRes s) (sysE s) with
        | none => rw [makeO_dead h hi hl]; exact .inr ⟨by decide, rfl⟩
        | some L => rw [makeO_ok h hi hl]; exact .inl rfl
    · rw [makeO_err h]; exact .inr ⟨h, rfl⟩
  rcases hm0 with hm | ⟨hm, hm1⟩
  case inr =>
    simp only [go_sem, Int.reduceEq, Int.reduceLT, Int.reduceLE, eq_self, Int.natCast_nonneg, Int.toNat_natCast, makeV, certD, hm, hm1]
    exact post_data (.inl rfl) [6] rfl trivial rfl
  have hver : verN s ((makeO s).1.map (scaleF a b)) = 0 ∧ (makeO s).1.length ≤ 16 ∧ ∀ x ∈ (makeO s).1, x < 16 := by
    by_cases h : checkE s = 0
    · cases hi : impO s with
      | some x => rw [makeO_imp h (by rw [hi]; rfl)] at hm; simp at hm
      | none =>
        cases hl : levV (nRes s) (sysE s) with
        | none => rw [makeO_dead h hi hl] at hm; simp at hm
        | some L =>
          rw [makeO_ok h hi hl]
          obtain ⟨g1, g2, _⟩ := lev_facts h hl
          have hr := nRes_le h
          refine ⟨ver_scale h hi hl (fun x y hxy hy => ?_) (fun x hx => ?_), by show L.length ≤ 16; omega, fun x hx => by have := g2 x hx; omega⟩
          · have : x * (1 + a % 64) < y * (1 + a % 64) := Nat.mul_lt_mul_of_pos_right hxy (by omega)
            unfold scaleF; omega
          · have : x * (1 + a % 64) ≤ 16 * 64 := Nat.mul_le_mul (by omega) (by omega)
            unfold scaleF; omega
    · rw [makeO_err h] at hm; exact absurd hm h
  obtain ⟨hver, hl16, hx16⟩ := hver
  simp only [go_sem, Int.reduceEq, Int.reduceLT, Int.reduceLE, eq_self, Int.natCast_nonneg, Int.toNat_natCast, makeV, certD, hm]
  generalize (makeO s).1 = L at *
  refine sem_le (le_addnil 9 none rfl (Nat.zero_le _)) ?_
  refine sem_of_awp (Γ := tbl tabSc) tabSc_ok _ _ _ ?_
  simp only [go_sem, Int.reduceEq, Int.reduceLT, Int.reduceLE, eq_self, Int.natCast_nonneg, Int.toNat_natCast, nats_len]
  refine sem_loop (fun k : Nat => ⟨slotsOf 62 [(1, .dat (byteD a)), (2, .dat (byteD b)), (3, .ptr 0 0 0), (9, .sl 2 0 k), (32, .dat (.sl none (natsD L))), (33, .dat (.int .i64 L.length)), (34, .dat (.int .i64 k))], [sysO s, .box [.dat (.sl none (natsD L))], .row none (intsD ((L.take k).map (scaleF a b)))], 0, []⟩)
    (fun k => k ≤ L.length) (fun k => L.length - k) 0 (Nat.zero_le _) ?_ ?_
  · exact le_slots' (by simp only [go_sem, Int.natCast_zero])
  rintro k hk
  cases hd : L.drop k with
  | nil =>
    obtain rfl : k = L.length := end_of_drop hd hk
    have hk2 : ¬ (L.length : Int) < L.length := by omega
    have e : List.take L.length (intsD ((L.take L.length).map (scaleF a b))) = intsD (L.map (scaleF a b)) := by rw [List.take_length, List.take_of_length_le (by simp)]
    have e2 : (intsD ((L.take L.length).map (scaleF a b))).length = L.length := by simp
    refine sem_le (le_freeze 2 (ag := none) rfl (Nat.zero_le _)) ?_
    refine sem_of_awp (Γ := tbl tabSc) tabSc_ok _ _ _ ?_
    simp only [go_sem, Int.reduceEq, Int.reduceLT, Int.reduceLE, eq_self, Int.natCast_nonneg, Int.toNat_natCast, hk2, e, e2, List.drop_zero, Nat.le_refl]
    refine call_data verR (by simp) [sysD s, .agg [.sl none (intsD (L.map (scaleF a b)))]] _ rfl ⟨s, _, rfl, hs, by simp; omega, rfl⟩ (.inl rfl) ?_
    rw [hver]
    simp only [go_sem, Int.reduceEq, Int.reduceLT, Int.reduceLE, eq_self, Int.natCast_nonneg, Int.toNat_natCast, decide_true]
    exact post_data (.inl rfl) [6] rfl trivial rfl
  | cons x r =>
    have hlt := lt_of_drop hd
    have hk2 : (k : Int) < L.length := by omega
    have hk0 : (0 : Int) ≤ k := Int.natCast_nonneg k
    have hn := nth_of_drop (f := natD) hd
    have hx := hx16 x (mem_of_drop hd)
    have hx0 : ¬ (x : Int) < 0 := by omega
    have hx1 : ¬ (30 : Int) < x := by omega
    have hmod : (a : Int).tmod 64 = ((a % 64 : Nat) : Int) := (Int.ofNat_tmod _ _).symm
    have hlen : (intsD ((L.take k).map (scaleF a b))).length = k := by simp; omega
    have htk : List.take k (intsD ((L.take k).map (scaleF a b))) = intsD ((L.take k).map (scaleF a b)) := List.take_of_length_le (by omega)
    have hval : (x : Int) * (1 + ((a % 64 : Nat) : Int)) + (b : Int) = scaleF a b x := by unfold scaleF; simp
    have hsn : intsD ((L.take k).map (scaleF a b)) ++ [.int .i64 (scaleF a b x)] = intsD ((L.take (k + 1)).map (scaleF a b)) := by rw [take_of_drop hd, List.map_append]; exact ints_snoc
    have hm1 : (x : Int) * (1 + ((a % 64 : Nat) : Int)) = ((x * (1 + a % 64) : Nat) : Int) := by simp
    have hm2 : x * (1 + a % 64) ≤ 16 * 64 := Nat.mul_le_mul (by omega) (by omega)
    refine sem_of_awp (Γ := tbl tabSc) tabSc_ok _ _ _ ?_
    simp only [go_sem, Int.reduceEq, Int.reduceLT, Int.reduceLE, eq_self, Int.natCast_nonneg, Int.toNat_natCast, hk2, hk0, hlt, hn, nats_len, hx0, hx1, hmod, hlen, htk, hval, hsn]
    have hv2 : scaleF a b x = ((x * (1 + a % 64) + b : Nat) : Int) := rfl
    have hm3 := Nat.mod_lt a (show 0 < 64 by decide)
    refine ⟨inR_i64.2 (by omega), inR_i64.2 (by omega), inR_i64.2 (by omega), inR_i64.2 (by omega), inR_i64.2 (by omega), inR_i64.2 (by omega), by omega, by omega, inR_i64.2 (by omega), k + 1, by omega, by omega, ?_⟩
    refine le_end (own := [_, _, _]) (ex := [_]) (Nat.zero_le _) ?_ ?_ ?_
    · simp only [go_sem, Int.natCast_add, Int.cast_ofNat_Int]
    · simp only [go_sem]
    · simp only [go_sem, Obj.under, AV.unders, AV.under]
end Go.AM

set_option maxRecDepth 100000
namespace Go.AM
open Go Go.Proofs

theorem want87 : wantT Try.prog 55 = some 3 := by kernel_rfl
theorem want9 : wantT Try.prog 9 = none := by kernel_rfl
theorem want54 : wantT Try.prog 52 = some 4 := by kernel_rfl
theorem want56 : wantT Try.prog 60 = some 4 := by kernel_rfl
theorem pool_arg {m : Nat} {d : D} (h : argT Try.prog (m + 3) 55 d) : ∃ p : PPool, d = poolD p ∧ True := by
  obtain ⟨ds, rfl, hf⟩ := arg_fields (ts := [9, 3, 3]) (by kernel_rfl) h
  obtain ⟨a, r, rfl, ha, hf⟩ := hf
  obtain ⟨b, r, rfl, hb, hf⟩ := hf
  obtain ⟨c, r, rfl, hc, rfl⟩ := hf
  rw [dataT_str (by kernel_rfl)] at ha
  rw [dataT_int (k := .i64) (by kernel_rfl)] at hb hc
  obtain ⟨a, rfl, _⟩ := ha
  obtain ⟨b, rfl, _⟩ := hb
  obtain ⟨c, rfl, _⟩ := hc
  exact ⟨⟨a, b, c⟩, rfl, trivial⟩
theorem step_arg {m : Nat} {d : D} (h : argT Try.prog (m + 3) 60 d) : ∃ p : PStep, d = stepD p ∧ True := by
  obtain ⟨ds, rfl, hf⟩ := arg_fields (ts := [3, 3, 3, 4]) (by kernel_rfl) h
  obtain ⟨a, r, rfl, ha, hf⟩ := hf
  obtain ⟨b, r, rfl, hb, hf⟩ := hf
  obtain ⟨c, r, rfl, hc, hf⟩ := hf
  obtain ⟨e, r, rfl, he, rfl⟩ := hf
  rw [dataT_int (k := .i64) (by kernel_rfl)] at ha hb hc
  rw [dataT_bool (by kernel_rfl)] at he
  obtain ⟨a, rfl, _⟩ := ha
  obtain ⟨b, rfl, _⟩ := hb
  obtain ⟨c, rfl, _⟩ := hc
  obtain ⟨e, rfl⟩ := he
  exact ⟨⟨a, b, c, e⟩, rfl, trivial⟩
theorem cls_arg {m : Nat} {d : D} (h : argT Try.prog (m + 6) 52 d) : ∃ p : PCls, d = clsD p ∧ True := by
  obtain ⟨ds, rfl, hf⟩ := arg_fields (ts := [9, 3, 4, 50]) (by kernel_rfl) h
  obtain ⟨a, r, rfl, ha, hf⟩ := hf
  obtain ⟨b, r, rfl, hb, hf⟩ := hf
  obtain ⟨c, r, rfl, hc, hf⟩ := hf
  obtain ⟨e, r, rfl, he, rfl⟩ := hf
  rw [dataT_str (by kernel_rfl)] at ha
  rw [dataT_int (k := .i64) (by kernel_rfl)] at hb
  rw [dataT_bool (by kernel_rfl)] at hc
  rw [dataT_slice (e := 60) (by kernel_rfl), want56] at he
  obtain ⟨a, rfl, _⟩ := ha
  obtain ⟨b, rfl, _⟩ := hb
  obtain ⟨c, rfl⟩ := hc
  obtain ⟨e, rfl, _, hx⟩ := he
  obtain ⟨l, rfl, _⟩ := list_of stepD (Q := fun _ => True) (fun x hx' => step_arg (hx x hx'))
  exact ⟨⟨a, b, c, l⟩, rfl, trivial⟩
theorem sys_arg {m : Nat} {d : D} (h : argT Try.prog (m + 9) 26 d) : ∃ s : PSys, d = sysD s := by
  obtain ⟨ds, rfl, hf⟩ := arg_fields (ts := [22, 23, 24]) (by kernel_rfl) h
  obtain ⟨a, r, rfl, ha, hf⟩ := hf
  obtain ⟨b, r, rfl, hb, hf⟩ := hf
  obtain ⟨c, r, rfl, hc, rfl⟩ := hf
  rw [dataT_slice (e := 55) (by kernel_rfl), want87] at ha
  rw [dataT_slice (e := 9) (by kernel_rfl), want9] at hb
  rw [dataT_slice (e := 52) (by kernel_rfl), want54] at hc
  obtain ⟨a, rfl, _, ha⟩ := ha
  obtain ⟨b, rfl, _, hb⟩ := hb
  obtain ⟨c, rfl, _, hc⟩ := hc
  obtain ⟨a, rfl, _⟩ := list_of poolD (Q := fun _ => True) (fun x hx' => pool_arg (ha x hx'))
  obtain ⟨b, rfl, _⟩ := list_of D.str (Q := fun _ => True) (fun x hx' => by
    obtain ⟨s, h, _⟩ := arg_str (by kernel_rfl) (hb x hx')
    exact ⟨s, h, trivial⟩)
  obtain ⟨c, rfl, _⟩ := list_of clsD (Q := fun _ => True) (fun x hx' => cls_arg (hc x hx'))
  exact ⟨⟨a, b, c⟩, rfl⟩
end Go.AM

