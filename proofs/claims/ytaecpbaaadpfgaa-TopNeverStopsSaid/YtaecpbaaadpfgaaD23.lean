/- Own work over the model of the kit. -/
import Derived.Test.YtaecpbaaadpfgaaD22
import Derived.Test.YtaecpbaaadpfgaaD12
import Derived.Test.YtaecpbaaadpfgaaD5
set_option linter.constructorNameAsVariable false
set_option linter.unusedSimpArgs false
set_option linter.unusedVariables false
set_option maxHeartbeats 4000000
set_option maxRecDepth 100000
namespace Go.AM
open Go Go.Proofs
def lawNsR (ds : List D) (v : AV) : Prop := ∃ (s : PSys) (l : List Nat), (∀ n ∈ l, n < 256) /\ l.length < 9223372036854775808 /\ ds = [sysD s, .sl none (ou8D l)] /\ v = .dat (.bool true)
abbrev tabNs : List (Nat × Contract) := [(11, dataC fewR), (7, dataC makeR), (12, dataC startXR), (13, dataC enabR), (14, dataC stepXR), (10, dataC bChkR)]
theorem tabNs_ok : OkG Try.prog (tbl tabNs) := okG_cons few_ok (okG_cons make_ok (okG_cons xstart_ok (okG_cons xEnabled_ok (okG_cons xStep_ok (okG_cons bChecked_ok okG_nil)))))
theorem pureNs : PureFns (tbl tabNs) [14] := by
 refine pure_of2 fun g C hm hg => ?_
 simp only [List.mem_cons, List.not_mem_nil, or_false, Prod.mk.injEq] at hm
 rcases hm with ⟨_, rfl⟩ | ⟨_, rfl⟩ | ⟨_, rfl⟩ | ⟨_, rfl⟩ | ⟨_, rfl⟩ | ⟨_, rfl⟩ <;> exact .inl ⟨_, rfl⟩
theorem lawNever_ok : OkF Try.prog 4 (dataC lawNsR) := by
 refine okF_data Try.func4 rfl (by decide) ?_
 rintro ds v ⟨s, l, hl, hll, rfl, rfl⟩
 have hwl : (ou8D l).length = l.length := List.length_map _
 have fin : ∀ (σ : S), σ.n0 = 0 -> σ.mv = [] -> σ.slots.getD 4 .top = .dat (.bool true) -> post Try.prog Try.f4 (.dat (.bool true)) [] [] .ret σ := fun σ h1 h2 h3 => by
  obtain ⟨a, b, c, d⟩ := σ
  simp only at h1 h2 h3
  subst h1; subst h2
  exact post_data (.inl rfl) [4] rfl trivial (by simp only [tmpsOf, h3]; rfl)
 refine sem_of_awpK [11] (Γ := tbl tabNs) tabNs_ok _ _ _ ?_
 simp only [go_sem, Try.ntmps4, sysD]
 refine call_data fewR (by simp) [sysD s] _ rfl ⟨s, rfl, rfl⟩ (.inl rfl) ?_
 cases hf : fewB s with
 | false =>
  simp only [go_sem, hf]
  refine call_data bChkR (by simp) [] _ rfl bChkR_true (.inl rfl) ?_
  simp only [go_sem]
  exact fin _ rfl rfl rfl
 | true =>
 have hs := fewB_fit hf
 by_cases hl60 : (60 : Int) < l.length
 ·simp only [go_sem, hf, hwl, hl60]
  refine call_data bChkR (by simp) [] _ rfl bChkR_true (.inl rfl) ?_
  simp only [go_sem]
  exact fin _ rfl rfl rfl
 simp only [go_sem, hf, hwl, hl60]
 have hmk : makeR [sysD s] (.tup [.dat (certD (makeO s).1), .dat (.int .i64 (makeO s).2)]) := ⟨s, rfl, hs, rfl⟩
 refine call_data makeR (by simp) [sysD s] _ rfl hmk (.inl rfl) ?_
 simp only [go_sem, certD]
 by_cases hm : (makeO s).2 = 0
 case neg =>
  simp only [go_sem, hm]
  refine call_data bChkR (by simp) [] _ rfl bChkR_true (.inl rfl) ?_
  simp only [go_sem]
  exact fin _ rfl rfl rfl
 obtain ⟨L, hC⟩ := make_cert hm
 have hc := hC.ok
 have hst : startXR [sysD s] (.tup [.dat (stD (iniX s)), .dat (.int .i64 0)]) := ⟨s, rfl, hs, by rw [if_pos hc, hc]⟩
 simp only [go_sem, hm]
 refine call_data startXR (by simp) [sysD s] _ rfl hst (.inl rfl) ?_
 simp only [go_sem, stD]
 have hstl : ∀ x : PSt, (stacksD x).length = x.length := fun x => List.length_map _
 by_cases h0 : ((iniX s).length : Int) = 0
 ·simp only [go_sem, hstl, h0, eq_self, not_true, decide_false]
  refine call_data bChkR (by simp) [] _ rfl bChkR_true (.inl rfl) ?_
  simp only [go_sem]
  exact fin _ rfl rfl rfl
 have hpos : 0 < (iniX s).length := by omega
 have hVi := iniX_valid hc
 have hDi := dp_ini hc
 simp only [go_sem, hstl, h0, eq_self, not_true, decide_false]
 refine sem_of_awp (Γ := tbl tabNs) tabNs_ok _ _ _ ?_
 simp only [go_sem]
 generalize (makeO s).1 = ML
 refine sem_loop (fun p : Nat × PSt => ⟨slotsOf 81 [(1, .dat (.sl none (ou8D l))), (2, .ptr 0 0 0), (7, .ptr 2 0 0), (43, .dat (.sl none (ou8D l))), (44, .dat (.int .i64 l.length)), (45, .dat (.int .i64 p.1))],
   [sysO s, .box [.dat (.sl none (natsD ML))], stO p.2], 0, []⟩)
  (fun p => p.1 <= l.length /\ Rch s (iniX s) p.2) (fun p => l.length - p.1) (0, iniX s) ⟨Nat.zero_le _, .refl⟩ ?_ ?_
 ·exact le_slots' (by simp only [go_sem, Int.natCast_zero])
 rintro ⟨k, x⟩ ⟨hk, hR⟩
 simp only at hk hR ⊢
 have hV := hR.val hVi
 have hx := val_stfit hV
 have hD := dp_rch hc hVi hDi hR
 have hxl : 0 < x.length := by rw [hR.len]; exact hpos
 have hen : enabR [sysD s, stD x] (.dat (.sl none (natsD (ableL s x)))) := ⟨s, x, rfl, hs, hx, by unfold enabL; rw [if_neg (by rw [err_val hc hV]; simp)]⟩
 have hne := some_able hC hV hD hxl
 have hEl : (ableL s x).length <= 1000 := by
  have h1 := able_len s x x.length
  have h2 := hx.len
  unfold ableL; omega
 have hE0 : 0 < (ableL s x).length := List.length_pos_iff.2 hne
 have htk : ∀ i, i < (ableL s x).length -> stepX s x (((ableL s x).getD i 0 : Nat) : Int) = (takeX s x ((ableL s x).getD i 0), 0) /\ Rch s (iniX s) (takeX s x ((ableL s x).getD i 0)) := fun i hi => by
  have hmem : (ableL s x).getD i 0 ∈ ableL s x := by rw [List.getD_eq_getElem?_getD, List.getElem?_eq_getElem hi]; exact List.getElem_mem hi
  obtain ⟨h1, h2⟩ := mem_able.1 hmem
  exact ⟨step_able hc hV h1 h2, .step hR h1 h2⟩
 have hsp : ∀ w : Int, stepXR [sysD s, stD x, .int .i64 w] (.tup [.dat (stD (stepX s x w).1), .dat (.int .i64 (stepX s x w).2)]) := fun w => ⟨s, x, w, rfl, hs, hx, rfl⟩
 generalize ableL s x = E at *
 have hEl2 : (natsD E).length = E.length := by simp
 refine sem_of_awpK [17, 20] (Γ := tbl tabNs) tabNs_ok _ _ _ ?_
 cases hd : l.drop k with
 | nil =>
  obtain rfl : k = l.length := end_of_drop hd hk
  have hk2 : ¬ (l.length : Int) < l.length := by omega
  have hE0' : (0 : Int) < E.length := by omega
  simp only [go_sem, hk2, sysO, stO]
  refine call_data enabR (by simp) [sysD s, stD x] _ rfl hen (.inl rfl) ?_
  simp only [go_sem, hEl2, hE0', decide_true]
  refine call_data bChkR (by simp) [] _ rfl bChkR_true (.inl rfl) ?_
  simp only [go_sem]
  exact fin _ rfl rfl rfl
 | cons a r =>
  have hlt := lt_of_drop hd
  have hk2 : (k : Int) < l.length := by omega
  have hkz : (0 : Int) <= k := Int.natCast_nonneg k
  have hn : D.nth (ou8D l) k = .int .u8 (a : Int) := nth_of_drop (f := fun n : Nat => D.int .u8 (n : Int)) hd
  have hE0' : ¬ (E.length : Int) = 0 := by omega
  simp only [go_sem, hk2, hkz, hlt, hn, hwl, sysO, stO]
  refine call_data enabR (by simp) [sysD s, stD x] _ rfl hen (.inl rfl) ?_
  simp only [go_sem, hEl2, hE0']
  have hm2 : (a : Int).tmod (E.length : Int) = (a % E.length : Nat) := by
   rw [Int.tmod_eq_emod_of_nonneg (by omega)]; rfl
  have hml : a % E.length < E.length := Nat.mod_lt _ hE0
  have hml2 : ((a % E.length : Nat) : Int) < E.length := by omega
  have hal : a < 256 := hl a (by
   have := List.mem_of_mem_drop (i := k) (l := l) (a := a) (by rw [hd]; exact .head _)
   exact this)
  have hnE : D.nth (natsD E) (a % E.length) = .int .i64 ((E.getD (a % E.length) 0 : Nat) : Int) := by
   show (natsD E).getD _ default = _
   rw [List.getD_eq_getElem?_getD, List.getElem?_map, List.getD_eq_getElem?_getD, List.getElem?_eq_getElem hml]; rfl
  obtain ⟨hstp, hRn⟩ := htk _ hml
  have hsp2 := hsp ((E.getD (a % E.length) 0 : Nat) : Int)
  rw [hstp] at hsp2
  generalize ((E.getD (a % E.length) 0 : Nat) : Int) = wi at *
  generalize takeX s x (E.getD (a % E.length) 0) = y at *
  refine sem_drawX [] [] (pf := [14]) (mf := []) mixed tabNs_ok pureNs noMk (.one 0 (.one 1 (.one 2 (.one 3 (.one 4 (.one 5 (.one 6 (.one 7 (.one 8 (.one 9 (.alt 10 (.one 11 (.one 12 (.one 13 (.one 14 (.one 15 (.one 16 .fin)))))) (.alt 14 (.one 10 (.one 11 (.one 12 (.one 13 (.one 15 (.one 16 .fin)))))) .stop)))))))))))) (by kernel_rfl) ?_
  simp only [go_sem, hm2, hEl2, hE0', hml2, hnE, Int.natCast_nonneg, Int.toNat_natCast]
  refine ⟨inR_i64.2 (by omega), inR_i64.2 (by omega), ?_⟩
  refine ⟨?_, ?_⟩
  all_goals
   refine call_data stepXR (by simp) [sysD s, stD x, .int .i64 wi] _ rfl hsp2 (.inl rfl) ?_
   simp only [go_sem, stD, eq_self, not_true, decide_false]
   refine sem_of_awp (Γ := tbl tabNs) tabNs_ok _ _ _ ?_
   simp only [go_sem]
   refine ⟨inR_i64.2 (by omega), (k + 1, y), ⟨by simp only; omega, hRn⟩, by simp only; omega, ?_⟩
   refine le_end (own := [_, _, _]) (ex := [_]) (Nat.zero_le _) ?_ ?_ ?_
   ·simp only [go_sem, Int.natCast_add, Int.cast_ofNat_Int]
   ·simp only [go_sem]
   ·simp only [go_sem, Obj.under, AV.unders, AV.under]
end Go.AM
namespace Go.AM
open Go Go.Proofs
theorem want87 : wantT Try.prog 58 = some 3 := by kernel_rfl
theorem want9 : wantT Try.prog 9 = none := by kernel_rfl
theorem want54 : wantT Try.prog 51 = some 4 := by kernel_rfl
theorem want56 : wantT Try.prog 53 = some 4 := by kernel_rfl
theorem pool_arg {m : Nat} {d : D} (h : argT Try.prog (m + 3) 58 d) : ∃ p : PPool, d = poolD p /\ True := by
 obtain ⟨ds, rfl, hf⟩ := arg_fields (ts := [9, 3, 3]) (by kernel_rfl) h
 obtain ⟨a, r, rfl, ha, hf⟩ := hf
 obtain ⟨b, r, rfl, hb, hf⟩ := hf
 obtain ⟨c, r, rfl, hc, rfl⟩ := hf
 rw [dataT_str (by kernel_rfl)] at ha
 rw [dataT_int (k := .i64) (by kernel_rfl)] at hb hc
 obtain ⟨a, rfl, _⟩ := ha
 obtain ⟨b, rfl, _⟩ := hb
 obtain ⟨c, rfl, _⟩ := hc
 exact ⟨⟨a, b, c⟩, rfl, trivial⟩
theorem step_arg {m : Nat} {d : D} (h : argT Try.prog (m + 3) 53 d) : ∃ p : PStep, d = stepD p /\ True := by
 obtain ⟨ds, rfl, hf⟩ := arg_fields (ts := [3, 3, 3, 4]) (by kernel_rfl) h
 obtain ⟨a, r, rfl, ha, hf⟩ := hf
 obtain ⟨b, r, rfl, hb, hf⟩ := hf
 obtain ⟨c, r, rfl, hc, hf⟩ := hf
 obtain ⟨e, r, rfl, he, rfl⟩ := hf
 rw [dataT_int (k := .i64) (by kernel_rfl)] at ha hb hc
 rw [dataT_bool (by kernel_rfl)] at he
 obtain ⟨a, rfl, _⟩ := ha
 obtain ⟨b, rfl, _⟩ := hb
 obtain ⟨c, rfl, _⟩ := hc
 obtain ⟨e, rfl⟩ := he
 exact ⟨⟨a, b, c, e⟩, rfl, trivial⟩
theorem cls_arg {m : Nat} {d : D} (h : argT Try.prog (m + 6) 51 d) : ∃ p : PCls, d = clsD p /\ True := by
 obtain ⟨ds, rfl, hf⟩ := arg_fields (ts := [9, 3, 4, 49]) (by kernel_rfl) h
 obtain ⟨a, r, rfl, ha, hf⟩ := hf
 obtain ⟨b, r, rfl, hb, hf⟩ := hf
 obtain ⟨c, r, rfl, hc, hf⟩ := hf
 obtain ⟨e, r, rfl, he, rfl⟩ := hf
 rw [dataT_str (by kernel_rfl)] at ha
 rw [dataT_int (k := .i64) (by kernel_rfl)] at hb
 rw [dataT_bool (by kernel_rfl)] at hc
 rw [dataT_slice (e := 53) (by kernel_rfl), want56] at he
 obtain ⟨a, rfl, _⟩ := ha
 obtain ⟨b, rfl, _⟩ := hb
 obtain ⟨c, rfl⟩ := hc
 obtain ⟨e, rfl, _, hx⟩ := he
 obtain ⟨l, rfl, _⟩ := list_of stepD (Q := fun _ => True) (fun x hx' => step_arg (hx x hx'))
 exact ⟨⟨a, b, c, l⟩, rfl, trivial⟩
theorem sys_arg {m : Nat} {d : D} (h : argT Try.prog (m + 9) 27 d) : ∃ s : PSys, d = sysD s := by
 obtain ⟨ds, rfl, hf⟩ := arg_fields (ts := [23, 24, 25]) (by kernel_rfl) h
 obtain ⟨a, r, rfl, ha, hf⟩ := hf
 obtain ⟨b, r, rfl, hb, hf⟩ := hf
 obtain ⟨c, r, rfl, hc, rfl⟩ := hf
 rw [dataT_slice (e := 58) (by kernel_rfl), want87] at ha
 rw [dataT_slice (e := 9) (by kernel_rfl), want9] at hb
 rw [dataT_slice (e := 51) (by kernel_rfl), want54] at hc
 obtain ⟨a, rfl, _, ha⟩ := ha
 obtain ⟨b, rfl, _, hb⟩ := hb
 obtain ⟨c, rfl, _, hc⟩ := hc
 obtain ⟨a, rfl, _⟩ := list_of poolD (Q := fun _ => True) (fun x hx' => pool_arg (ha x hx'))
 obtain ⟨b, rfl, _⟩ := list_of D.str (Q := fun _ => True) (fun x hx' => by
  obtain ⟨s, h, _⟩ := arg_str (by kernel_rfl) (hb x hx')
  exact ⟨s, h, trivial⟩)
 obtain ⟨c, rfl, _⟩ := list_of clsD (Q := fun _ => True) (fun x hx' => cls_arg (hc x hx'))
 exact ⟨⟨a, b, c⟩, rfl⟩
end Go.AM
namespace Go.AM
open Go Go.Proofs
abbrev byteD (a : Nat) : D := .int .u8 (a : Int)
theorem byte_arg {m : Nat} {d : D} (h : argT Try.prog (m + 1) 5 d) : ∃ a : Nat, d = byteD a /\ a < 256 := by
 obtain ⟨n, rfl, hn⟩ := arg_int (k := .u8) (by kernel_rfl) h
 have := inR_u8.1 hn
 refine ⟨n.toNat, ?_, by omega⟩
 show D.int .u8 n = D.int .u8 (n.toNat : Int)
 rw [Int.toNat_of_nonneg this.1]
end Go.AM
namespace Go.AM
open Go Go.Proofs
theorem wantU8 : wantT Try.prog 5 = none := by kernel_rfl
theorem bytes_arg {m : Nat} {d : D} (h : argT Try.prog (m + 3) 22 d) : ∃ l : List Nat, (∀ n ∈ l, n < 256) /\ l.length < 9223372036854775808 /\ d = .sl none (ou8D l) := by
 obtain ⟨xs, rfl, hl, hx⟩ := arg_slice (e := 5) (by kernel_rfl) h
 rw [wantU8]
 obtain ⟨L, rfl, hL⟩ := list_of byteD (Q := fun n => n < 256) (fun x hx' => byte_arg (hx x hx'))
 refine ⟨L, hL, ?_, rfl⟩
 rw [List.length_map] at hl
 simp only [maxLen] at hl
 omega
end Go.AM

