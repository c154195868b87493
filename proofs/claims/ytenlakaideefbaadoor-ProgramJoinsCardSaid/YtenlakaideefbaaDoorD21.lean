/- Own work over the model of the kit. -/
import Derived.Test.YtenlakaideefbaaDoorD19
import Derived.Test.YtenlakaideefbaaDoorD20
import Derived.Test.YtenlakaideefbaaDoorD13
import Derived.Test.YtenlakaideefbaaDoorD16
import Derived.Test.YtenlakaideefbaaDoorD7
import Derived.Test.YtenlakaideefbaaDoorTie
import Derived.Test.YtenlakaideefbaaDoorCards
import Derived.Lay
set_option linter.unnecessarySimpa false
set_option linter.unusedSimpArgs false
set_option linter.unusedVariables false
set_option maxHeartbeats 4000000
set_option maxRecDepth 100000
namespace Go.AM
open Go Go.Proofs
def FmtP (c : List Ins) : Str × Int := if ChkP c = 0 then (textI c, 0) else ([], ChkP c)
def FmtR (ds : List D) (v : AV) : Prop := ∃ c : List Ins, ds = [codeD c] /\ (∀ x ∈ c, x.ok) /\ v = .tup [.dat (.str (FmtP c).1), .dat (.int .i64 (FmtP c).2)]
theorem textI_snoc (c : List Ins) (x : Ins) : textI (c ++ [x]) = textI c ++ (lineI x ++ [10]) := by
 unfold textI; rw [List.flatMap_append]; simp
theorem textI_take {c : List Ins} (h : ∀ x ∈ c, chkE x = 0) (hl : c.length <= 48) (k : Nat) : (textI (c.take k)).length <= 74 * 48 := by
 have h1 := textI_len (c.take k) fun x hx => h x (List.mem_of_mem_take hx)
 have h2 : (c.take k).length <= 48 := by rw [List.length_take]; omega
 have h3 : 74 * (c.take k).length <= 74 * 48 := Nat.mul_le_mul_left 74 h2
 omega
abbrev tabFf : List (Nat × Contract) := [(27, wsC), (29, strC), (11, dataC ChkR), (28, dataC fmtR)]
theorem tabFf_ok : OkG Tryd.prog (tbl tabFf) := okG_cons writeString_ok (okG_cons string_ok (okG_cons Check_ok (okG_cons format_ok okG_nil)))
theorem Format_ok : OkF Tryd.prog 16 (dataC FmtR) := by
 refine okF_data Tryd.func16 rfl (by decide) ?_
 rintro ds v ⟨c, rfl, hok, rfl⟩
 refine sem_of_awpK [5] (Γ := tbl tabFf) tabFf_ok _ _ _ ?_
 simp only [go_sem, Tryd.ntmps16]
 refine call_data ChkR (mem_at 2 rfl) [codeD c] _ rfl ⟨c, rfl, rfl⟩ (.inl rfl) ?_
 unfold FmtP
 by_cases hc : ChkP c = 0
 ·rw [if_pos hc]
  obtain ⟨h1, h2⟩ := ChkP_ok.1 hc
  simp only [go_sem, hc, eq_self, decide_true, Bool.not_true]
  refine sem_le (le_addnilB 0 52 false 5 rfl (Nat.zero_le _)) ?_
  simp only [go_sem, List.length_cons, List.length_nil]
  refine sem_of_awp (Γ := tbl tabFf) tabFf_ok _ _ _ ?_
  simp only [go_sem, List.length_map]
  refine sem_loop (fun p : Nat × Bool => ⟨slotsOf 25 [(5, .ptr 0 0 0), (13, .dat (codeD c)), (14, .dat (.int .i64 c.length)), (15, .dat (.int .i64 p.1))], [.bld 52 p.2 [.sl 1 0 (textI (c.take p.1)).length], .brow 5 (textI (c.take p.1))], 0, []⟩)
   (fun p => p.1 <= c.length) (fun p => c.length - p.1) (0, false) (Nat.zero_le _) ?_ ?_
  ·exact le_slots' (by simp only [go_sem, Int.natCast_zero])
  rintro ⟨k, u⟩ hk
  simp only at hk ⊢
  refine sem_of_awp (Γ := tbl tabFf) tabFf_ok _ _ _ ?_
  have htk := textI_take h2 h1 k
  cases hd : c.drop k with
  | nil =>
   have hke := end_of_drop hd hk
   have k1 : ¬ (k : Int) < (c.length : Int) := by omega
   have hall : c.take k = c := by rw [hke]; exact List.take_length
   rw [hall] at htk ⊢
   simp only [go_sem, k1, decide_false]
   refine call_str (r := 1) (mem_at 1 rfl) rfl rfl (by omega) ?_
   simp only [go_sem]
   refine post_resO (mv' := []) (.inl rfl) [.tmp 2, .tmp 3] rfl (fun _ h => h) ?_
   simp only [go_sem]
   exact le_fin (by rfl) (by simp only [AV.under, AV.unders, and_self])
  | cons x r =>
   have hlt := lt_of_drop hd
   have k1 : (k : Int) < (c.length : Int) := by omega
   have hx : D.nth (c.map insD) k = insD x := nth_of_drop hd
   have hcx := h2 x (mem_of_drop hd)
   have hll := lineI_len hcx
   have hsn : textI (c.take k) ++ (lineI x ++ [10]) = textI (c.take (k + 1)) := by rw [take_of_drop hd, textI_snoc]
   have htk1 := textI_take h2 h1 (k + 1)
   simp only [go_sem, k1, decide_true, List.length_map, Int.toNat_natCast, hx]
   refine call_data fmtR (mem_at 3 rfl) [insD x] _ rfl ⟨x, rfl, hcx, rfl⟩ (.inl rfl) ?_
   simp only [go_sem, List.length_cons, List.length_nil]
   refine ⟨by simp only [maxLen]; omega, call_wsE (textI (c.take (k + 1))) (r := 1) (bs := textI (c.take k)) (mem_at 0 rfl) (by decide) rfl rfl hsn (by omega) ?_⟩
   simp only [go_sem]
   refine ⟨inR_i64.2 (by omega), (k + 1, true), by show k + 1 <= _; omega, by show c.length - (k + 1) < _; omega, ?_⟩
   refine le_end (own := [_, _]) (ex := [_]) (Nat.zero_le _) ?_ ?_ ?_
   ·simp only [go_sem, Int.natCast_add, Int.cast_ofNat_Int]
   ·simp only [go_sem]
   ·simp only [go_sem, AV.unders, AV.under, List.length_cons, List.length_nil]
 ·rw [if_neg hc]
  simp only [go_sem, hc, decide_false, Bool.not_false]
  refine post_resO (mv' := []) (.inl rfl) [.tmp 2, .tmp 3] rfl (fun _ h => h) ?_
  simp only [go_sem]
  exact le_fin (by rfl) (by simp only [AV.under, AV.unders, and_self])
abbrev tabFr : List (Nat × Contract) := [(12, dataC RChkR), (30, dataC fmtR)]
theorem tabFr_ok : OkG Tryd.prog (tbl tabFr) := okG_cons RCheck_ok (okG_cons line_ok okG_nil)
theorem RFormat_ok : OkF Tryd.prog 17 (dataC FmtR) := by
 refine okF_data Tryd.func17 rfl (by decide) ?_
 rintro ds v ⟨c, rfl, hok, rfl⟩
 refine sem_of_awp (Γ := tbl tabFr) tabFr_ok _ _ _ ?_
 simp only [go_sem, Tryd.ntmps17]
 refine call_data RChkR (mem_at 0 rfl) [codeD c] _ rfl ⟨c, rfl, hok, rfl⟩ (.inl rfl) ?_
 rw [RChk_eq]
 unfold FmtP
 by_cases hc : ChkP c = 0
 ·rw [if_pos hc]
  obtain ⟨h1, h2⟩ := ChkP_ok.1 hc
  simp only [go_sem, hc, eq_self, decide_true, Bool.not_true]
  refine sem_loop (fun k : Nat => ⟨slotsOf 27 [(0, .dat (codeD c)), (5, .dat (.str (textI (c.take k)))), (6, .dat (.int .i64 k))], [], 0, []⟩)
   (fun k => k <= c.length) (fun k => c.length - k) 0 (Nat.zero_le _) ?_ ?_
  ·exact le_slots' (by simp only [go_sem, Int.natCast_zero, List.take_zero, textI, List.flatMap_nil])
  rintro k hk
  refine sem_of_awp (Γ := tbl tabFr) tabFr_ok _ _ _ ?_
  have htk := textI_take h2 h1 k
  cases hd : c.drop k with
  | nil =>
   have hke := end_of_drop hd hk
   have k1 : ¬ (k : Int) < (c.length : Int) := by omega
   have hall : c.take k = c := by rw [hke]; exact List.take_length
   rw [hall]
   simp only [go_sem, k1, decide_false, List.length_map]
   refine post_resO (mv' := []) (.inl rfl) [.tmp 2, .tmp 3] rfl (fun _ h => h) ?_
   simp only [go_sem]
   exact le_fin (by rfl) (by simp only [AV.under, AV.unders, and_self])
  | cons x r =>
   have hlt := lt_of_drop hd
   have k1 : (k : Int) < (c.length : Int) := by omega
   have hx : D.nth (c.map insD) k = insD x := nth_of_drop hd
   have hcx := h2 x (mem_of_drop hd)
   have hll := lineI_len hcx
   have hsn : textI (c.take k) ++ (lineI x ++ [10]) = textI (c.take (k + 1)) := by rw [take_of_drop hd, textI_snoc]
   simp only [go_sem, k1, decide_true, List.length_map, Int.toNat_natCast, hx]
   refine call_data fmtR (mem_at 1 rfl) [insD x] _ rfl ⟨x, rfl, hcx, rfl⟩ (.inl rfl) ?_
   simp only [go_sem, List.length_cons, List.length_nil, List.length_append, hsn]
   refine ⟨by simp only [maxLen]; omega, by simp only [maxLen]; omega, inR_i64.2 (by omega), k + 1, by omega, by omega, le_slots' (by simp only [go_sem, Int.natCast_add, Int.cast_ofNat_Int])⟩
 ·rw [if_neg hc]
  simp only [go_sem, hc, decide_false, Bool.not_false]
  refine post_resO (mv' := []) (.inl rfl) [.tmp 2, .tmp 3] rfl (fun _ h => h) ?_
  simp only [go_sem]
  exact le_fin (by rfl) (by simp only [AV.under, AV.unders, and_self])
end Go.AM
namespace Go.AM
open Go Go.Proofs
abbrev tabAw : List (Nat × Contract) := [(13, dataC (parR parseP)), (16, dataC FmtR), (11, dataC ChkR)]
theorem tabAw_ok : OkG Tryd.prog (tbl tabAw) := okG_cons Parse_ok (okG_cons Format_ok (okG_cons Check_ok okG_nil))
theorem bin_eql_ins {x y : Ins} {K : AV -> Prop} (hx : x.ok) (hy : y.ok) : binTop Tryd.prog .eql 36 (.dat (insD x)) (.dat (insD y)) K = K (.dat (.bool (decide (x = y)))) := by
 have := bin_eql_agg (K := K) insEq0 (ok_nums hx) (ok_nums hy)
 rw [flat_ins] at this
 exact this
def awT1 : Str := [109, 97, 112, 32, 97, 110, 121, 32, 52, 32, 114, 119, 32, 115, 104, 97, 114, 101, 100, 32, 102, 105, 108, 101, 32, 49, 32, 50, 10, 35, 32, 110, 111, 110, 101, 10, 32, 32, 109, 97, 112, 32, 56, 32, 49, 32, 32, 114, 32, 10, 117, 110, 108, 111, 99, 107, 32, 56, 32, 49, 10, 101, 120, 105, 116]
def awT2 : Str := [101, 120, 105, 116, 10, 115, 116, 111, 114, 101, 32, 56, 32, 51, 50, 32, 50, 53, 53]
def awT3 : Str := [115, 116, 111, 114, 101, 32, 56, 32, 48, 51, 49, 32, 50, 53, 53]
def awO : Str := [109, 97, 112, 32, 97, 110, 121, 32, 52, 32, 114, 119, 32, 115, 104, 97, 114, 101, 100, 32, 102, 105, 108, 101, 32, 49, 32, 50, 10, 109, 97, 112, 32, 56, 32, 49, 32, 114, 10, 117, 110, 108, 111, 99, 107, 32, 56, 32, 49, 10, 101, 120, 105, 116, 10]
def awC : List Ins := [⟨1, -1, 4, 2, 0, 1, 3, 1⟩, ⟨1, 8, 1, 0, 0, -1, 1, 0⟩, ⟨4, 8, 1, 0, 0, 0, 0, 0⟩, ⟨12, 0, 0, 0, 0, 0, 0, 0⟩]
theorem aw1 : parseP awT1 = (awC, 0, 0) := by decide +kernel
theorem aw2 : parseP awT2 = ([], 2, 2) := by decide +kernel
theorem aw3 : parseP awT3 = ([], 1, 4) := by decide +kernel
theorem aw4 : ChkP awC = 0 := by decide +kernel
theorem aw5 : ChkP [⟨12, 0, 0, 0, 0, -1, 0, 0⟩] = 1 := by decide +kernel
theorem itoa_dig {u : Nat} (h : u < 1000) : Lib.itoa (u : Int) = dig3 u := by rw [Lib.itoa_nonneg, dec3 h]
theorem aw6 : FmtP awC = (awO, 0) := by
 unfold FmtP
 rw [if_pos aw4]
 have i1 : Lib.itoa 1 = [49] := itoa_dig (u := 1) (by decide)
 have i2 : Lib.itoa 2 = [50] := itoa_dig (u := 2) (by decide)
 have i4 : Lib.itoa 4 = [52] := itoa_dig (u := 4) (by decide)
 have i8 : Lib.itoa 8 = [56] := itoa_dig (u := 8) (by decide)
 have l1 : lineI ⟨1, -1, 4, 2, 0, 1, 3, 1⟩ = spJ wMap [wAny, Lib.itoa 4, protT 3, fw 0, wFile, Lib.itoa 1, Lib.itoa 2] := rfl
 have l2 : lineI ⟨1, 8, 1, 0, 0, -1, 1, 0⟩ = spJ wMap [Lib.itoa 8, Lib.itoa 1, protT 1] := rfl
 have l3 : lineI ⟨4, 8, 1, 0, 0, 0, 0, 0⟩ = spJ wUnlock [Lib.itoa 8, Lib.itoa 1] := rfl
 have l4 : lineI ⟨12, 0, 0, 0, 0, 0, 0, 0⟩ = wExit := rfl
 simp only [textI, awC, List.flatMap_cons, List.flatMap_nil, l1, l2, l3, l4, i1, i2, i4, i8]
 rfl
theorem awake_ok : OkF Tryd.prog 10 (dataC fun ds v => ds = [] /\ v = .dat (.bool true)) := by
 refine okF_data Tryd.func10 rfl (by decide) ?_
 rintro ds v ⟨rfl, rfl⟩
 refine sem_of_awpK [2, 3, 4, 5] (Γ := tbl tabAw) tabAw_ok _ _ _ ?_
 simp only [go_sem, Tryd.ntmps10, List.append_eq, List.cons_append, List.nil_append, List.length_cons, List.length_nil]
 refine call_data (parR parseP) (mem_at 0 rfl) [.str awT1] _ rfl ⟨awT1, rfl, by decide, rfl⟩ (.inl rfl) ?_
 rw [aw1]
 simp only [go_sem]
 refine sem_of_awpK [3, 4, 5] (Γ := tbl tabAw) tabAw_ok _ _ _ ?_
 simp only [go_sem]
 have hokC : ∀ x ∈ awC, x.ok := by
  intro x hx
  simp only [awC, List.mem_cons, List.not_mem_nil, or_false] at hx
  rcases hx with rfl | rfl | rfl | rfl <;> (simp only [Ins.ok, inR_i64]; decide)
 refine call_data FmtR (mem_at 1 rfl) [codeD awC] _ rfl ⟨awC, rfl, hokC, rfl⟩ (.inl rfl) ?_
 rw [aw6]
 simp only [go_sem]
 refine sem_of_awpK [4, 5] (Γ := tbl tabAw) tabAw_ok _ _ _ ?_
 simp only [go_sem, List.length_cons, List.length_nil]
 refine call_data (parR parseP) (mem_at 0 rfl) [.str awT2] _ rfl ⟨awT2, rfl, by decide, rfl⟩ (.inl rfl) ?_
 rw [aw2]
 simp only [go_sem]
 refine sem_of_awpK [5] (Γ := tbl tabAw) tabAw_ok _ _ _ ?_
 simp only [go_sem, List.length_cons, List.length_nil]
 refine call_data (parR parseP) (mem_at 0 rfl) [.str awT3] _ rfl ⟨awT3, rfl, by decide, rfl⟩ (.inl rfl) ?_
 rw [aw3]
 simp only [go_sem]
 have n0 : D.nth (awC.map insD) 0 = insD ⟨1, -1, 4, 2, 0, 1, 3, 1⟩ := rfl
 have n1 : D.nth (awC.map insD) 1 = insD ⟨1, 8, 1, 0, 0, -1, 1, 0⟩ := rfl
 have n2 : D.nth (awC.map insD) 2 = insD ⟨4, 8, 1, 0, 0, 0, 0, 0⟩ := rfl
 have hl : awC.length = 4 := rfl
 refine sem_cuts [32, 7, 7] tabAw_ok ?_
 simp only [go_sem, List.length_map, hl, n0, n1, n2, Bool.not_true, Bool.not_false]
 have okA : ∀ x ∈ awC, ∀ K : AV -> Prop, binTop Tryd.prog .eql 36 (.dat (insD x)) (.dat (insD x)) K = K (.dat (.bool true)) := fun x hx K => by
  rw [bin_eql_ins (hokC x hx) (hokC x hx)]; simp
 have e0 := okA ⟨1, -1, 4, 2, 0, 1, 3, 1⟩ (by simp [awC])
 have e1 := okA ⟨1, 8, 1, 0, 0, -1, 1, 0⟩ (by simp [awC])
 have e2 := okA ⟨4, 8, 1, 0, 0, 0, 0, 0⟩ (by simp [awC])
 refine cutR_go _ (le_normAt 63 (v := .dat (insD ⟨1, -1, 4, 2, 0, 1, 3, 1⟩)) rfl) ?_
 simp only [go_sem, e0, List.length_map, hl, n0, n1, n2, Bool.not_true, Bool.not_false]
 refine cutR_go _ (le_normAt 70 (v := .dat (insD ⟨1, 8, 1, 0, 0, -1, 1, 0⟩)) rfl) ?_
 simp only [go_sem, e1, List.length_map, hl, n0, n1, n2, Bool.not_true, Bool.not_false]
 refine cutR_go _ (le_normAt 77 (v := .dat (insD ⟨4, 8, 1, 0, 0, 0, 0, 0⟩)) rfl) ?_
 simp only [go_sem, e2, awO, Bool.not_true, Bool.not_false, List.append_eq, List.cons_append, List.nil_append, List.length_cons, List.length_nil]
 refine call_data ChkR (mem_at 2 rfl) [codeD [⟨12, 0, 0, 0, 0, -1, 0, 0⟩]] _ rfl ⟨_, rfl, rfl⟩ (.inr rfl) ?_
 rw [aw5]
 simp only [go_sem]
 refine post_resO (mv' := []) (.inl rfl) [.tmp 0] rfl (fun _ h => h) ?_
 simp only [go_sem]
 exact le_fin (by rfl) (by simp only [AV.under])
end Go.AM
namespace Go.AM
open Go Go.Proofs
def awR (ds : List D) (v : AV) : Prop := ds = [] /\ v = .dat (.bool true)
theorem call_awake {l : List (Nat × Contract)} (hm : (10, dataC awR) ∈ l) {own : List Obj} {K : AV -> List Obj -> List Nat -> Prop} (h : K (.dat (.bool true)) own []) : callw (tbl l) (.fn 10 []) [] own K :=
 call_data awR hm [] _ rfl ⟨rfl, rfl⟩ (.inl rfl) h
def lawCR (ds : List D) (v : AV) : Prop := ∃ c : List Ins, ds = [codeD c] /\ (∀ x ∈ c, x.ok) /\ v = .dat (.bool true)
def lawTR (ds : List D) (v : AV) : Prop := ∃ s : Str, ds = [.str s] /\ v = .dat (.bool true)
abbrev tabW1 : List (Nat × Contract) := [(10, dataC awR), (11, dataC ChkR), (12, dataC RChkR)]
theorem tabW1_ok : OkG Tryd.prog (tbl tabW1) := okG_cons awake_ok (okG_cons Check_ok (okG_cons RCheck_ok okG_nil))
theorem lawChecks_ok : OkF Tryd.prog 3 (dataC lawCR) := by
 refine okF_data Tryd.func3 rfl (by decide) ?_
 rintro ds v ⟨c, rfl, hok, rfl⟩
 refine sem_of_awp (Γ := tbl tabW1) tabW1_ok _ _ _ ?_
 by_cases hl : 60 < c.length
 ·have hl' : (60 : Int) < (c.length : Int) := by omega
  simp only [go_sem, Tryd.ntmps3, List.length_map, hl', decide_true]
  refine call_awake (mem_at 0 rfl) ?_
  simp only [go_sem]
  exact post_data (.inl rfl) [2] rfl trivial rfl
 ·have hl' : ¬ (60 : Int) < (c.length : Int) := by omega
  simp only [go_sem, Tryd.ntmps3, List.length_map, hl', decide_false]
  refine call_data ChkR (mem_at 1 rfl) [codeD c] _ rfl ⟨c, rfl, rfl⟩ (.inl rfl) ?_
  simp only [go_sem]
  refine call_data RChkR (mem_at 2 rfl) [codeD c] _ rfl ⟨c, rfl, hok, rfl⟩ (.inl rfl) ?_
  rw [RChk_eq]
  simp only [go_sem, decide_true, eq_self]
  refine call_awake (mem_at 0 rfl) ?_
  simp only [go_sem]
  exact post_data (.inl rfl) [2] rfl trivial rfl
theorem chk_ok {x : Ins} (h : chkE x = 0) : x.ok := by
 obtain ⟨o0, o1, p0, p1, c0, c1, i0, i1, v0, v1, f0, f1⟩ := small_of h
 have hpf : -1 <= x.prot /\ x.prot <= 15 /\ -1 <= x.flags /\ x.flags <= 15 := by
  have ho : 1 <= x.op /\ x.op <= 12 := ⟨o0, o1⟩
  rw [chk_form x ho] at h
  have hb : (x.fs.zip ((ofL x.op).1.fs.zip (ofL x.op).2.fs)).any badB = false := by
   cases hq : (x.fs.zip ((ofL x.op).1.fs.zip (ofL x.op).2.fs)).any badB with
   | false => rfl
   | true =>
    rw [hq] at h
    simp only [or_true, if_true] at h
    split at h <;> cases h
  obtain ⟨op, page, count, index, value, file, prot, flags⟩ := x
  simp only at ho hb ⊢
  have hc : op = 1 ∨ op = 2 ∨ op = 3 ∨ op = 4 ∨ op = 5 ∨ op = 6 ∨ op = 7 ∨ op = 8 ∨ op = 9 ∨ op = 10 ∨ op = 11 ∨ op = 12 := by omega
  rcases hc with rfl | rfl | rfl | rfl | rfl | rfl | rfl | rfl | rfl | rfl | rfl | rfl
  all_goals
   simp [Ins.fs, ofL, zI, badB] at hb
   omega
 simp only [Ins.ok, inR_i64]
 omega
theorem parse_ok (s : Str) : ∀ x ∈ (parseP s).1, x.ok := by
 obtain ⟨h1, h2, _⟩ := parse_valid s
 by_cases h : (parseP s).2.2 = 0
 ·intro x hx
  exact chk_ok ((ChkP_ok.1 (h1 h)).2 x hx)
 ·rw [h2 h]; intro x hx; cases hx
theorem parse_short (s : Str) : (parseP s).1.length <= 48 := by
 obtain ⟨h1, h2, _⟩ := parse_valid s
 by_cases h : (parseP s).2.2 = 0
 ·exact (ChkP_ok.1 (h1 h)).1
 ·rw [h2 h]; decide
abbrev tabW2 : List (Nat × Contract) := [(10, dataC awR), (13, dataC (parR parseP)), (14, dataC (parR parseR)), (15, dataC sameR45)]
theorem tabW2_ok : OkG Tryd.prog (tbl tabW2) := okG_cons awake_ok (okG_cons Parse_ok (okG_cons RParse_ok (okG_cons same45_ok okG_nil)))
theorem lawParses_ok : OkF Tryd.prog 4 (dataC lawTR) := by
 refine okF_data Tryd.func4 rfl (by decide) ?_
 rintro ds v ⟨s, rfl, rfl⟩
 refine sem_of_awp (Γ := tbl tabW2) tabW2_ok _ _ _ ?_
 by_cases hl : 4100 < s.length
 ·have hl' : (4100 : Int) < (s.length : Int) := by omega
  simp only [go_sem, Tryd.ntmps4, hl', decide_true]
  refine call_awake (mem_at 0 rfl) ?_
  simp only [go_sem]
  exact post_data (.inl rfl) [2] rfl trivial rfl
 ·have hl' : ¬ (4100 : Int) < (s.length : Int) := by omega
  simp only [go_sem, Tryd.ntmps4, hl', decide_false]
  refine call_data (parR parseP) (mem_at 1 rfl) [.str s] _ rfl ⟨s, rfl, by omega, rfl⟩ (.inl rfl) ?_
  simp only [go_sem]
  refine call_data (parR parseR) (mem_at 2 rfl) [.str s] _ rfl ⟨s, rfl, by omega, rfl⟩ (.inl rfl) ?_
  rw [← parse_eq]
  have hok := parse_ok s
  have hsh := parse_short s
  generalize parseP s = q at *
  simp only [go_sem, eq_self, decide_true]
  refine call_data sameR45 (mem_at 3 rfl) [codeD q.1, codeD q.1] _ rfl ⟨q.1, q.1, rfl, by omega, hok, hok, rfl⟩ (.inl rfl) ?_
  simp only [go_sem, eq_self, decide_true]
  refine call_awake (mem_at 0 rfl) ?_
  simp only [go_sem]
  exact post_data (.inl rfl) [2] rfl trivial rfl
abbrev tabW3 : List (Nat × Contract) := [(10, dataC awR), (16, dataC FmtR), (17, dataC FmtR)]
theorem tabW3_ok : OkG Tryd.prog (tbl tabW3) := okG_cons awake_ok (okG_cons Format_ok (okG_cons RFormat_ok okG_nil))
theorem lawFormats_ok : OkF Tryd.prog 5 (dataC lawCR) := by
 refine okF_data Tryd.func5 rfl (by decide) ?_
 rintro ds v ⟨c, rfl, hok, rfl⟩
 refine sem_of_awp (Γ := tbl tabW3) tabW3_ok _ _ _ ?_
 by_cases hl : 60 < c.length
 ·have hl' : (60 : Int) < (c.length : Int) := by omega
  simp only [go_sem, Tryd.ntmps5, List.length_map, hl', decide_true]
  refine call_awake (mem_at 0 rfl) ?_
  simp only [go_sem]
  exact post_data (.inl rfl) [2] rfl trivial rfl
 ·have hl' : ¬ (60 : Int) < (c.length : Int) := by omega
  simp only [go_sem, Tryd.ntmps5, List.length_map, hl', decide_false]
  refine call_data FmtR (mem_at 1 rfl) [codeD c] _ rfl ⟨c, rfl, hok, rfl⟩ (.inl rfl) ?_
  simp only [go_sem]
  refine call_data FmtR (mem_at 2 rfl) [codeD c] _ rfl ⟨c, rfl, hok, rfl⟩ (.inl rfl) ?_
  simp only [go_sem, eq_self, decide_true]
  refine call_awake (mem_at 0 rfl) ?_
  simp only [go_sem]
  exact post_data (.inl rfl) [2] rfl trivial rfl
end Go.AM
namespace Go.AM
open Go Go.Proofs
abbrev tabW4 : List (Nat × Contract) := [(10, dataC awR), (13, dataC (parR parseP)), (16, dataC FmtR), (11, dataC ChkR), (15, dataC sameR45)]
theorem tabW4_ok : OkG Tryd.prog (tbl tabW4) := okG_cons awake_ok (okG_cons Parse_ok (okG_cons Format_ok (okG_cons Check_ok (okG_cons same45_ok okG_nil))))
theorem lawBack_ok : OkF Tryd.prog 6 (dataC lawCR) := by
 refine okF_data Tryd.func6 rfl (by decide) ?_
 rintro ds v ⟨c, rfl, hok, rfl⟩
 refine sem_of_awp (Γ := tbl tabW4) tabW4_ok _ _ _ ?_
 by_cases hl : 60 < c.length
 ·have hl' : (60 : Int) < (c.length : Int) := by omega
  simp only [go_sem, Tryd.ntmps6, List.length_map, hl', decide_true]
  refine call_awake (mem_at 0 rfl) ?_
  simp only [go_sem]
  exact post_data (.inl rfl) [2] rfl trivial rfl
 have hl' : ¬ (60 : Int) < (c.length : Int) := by omega
 simp only [go_sem, Tryd.ntmps6, List.length_map, hl', decide_false]
 refine call_data FmtR (mem_at 2 rfl) [codeD c] _ rfl ⟨c, rfl, hok, rfl⟩ (.inl rfl) ?_
 by_cases hc : ChkP c = 0
 ·have hF : FmtP c = (textI c, 0) := if_pos hc
  obtain ⟨h1, h2⟩ := ChkP_ok.1 hc
  have htl := textI_len c h2
  rw [hF]
  simp only [go_sem, eq_self, decide_true, Bool.not_true]
  refine call_data (parR parseP) (mem_at 1 rfl) [.str (textI c)] _ rfl ⟨textI c, rfl, by omega, rfl⟩ (.inl rfl) ?_
  rw [parse_text hc]
  simp only [go_sem, eq_self, decide_true]
  refine call_data sameR45 (mem_at 4 rfl) [codeD c, codeD c] _ rfl ⟨c, c, rfl, by omega, hok, hok, rfl⟩ (.inl rfl) ?_
  simp only [go_sem, eq_self, decide_true]
  refine call_data ChkR (mem_at 3 rfl) [codeD c] _ rfl ⟨c, rfl, rfl⟩ (.inl rfl) ?_
  rw [hc]
  simp only [go_sem, eq_self, decide_true]
  refine call_awake (mem_at 0 rfl) ?_
  simp only [go_sem]
  exact post_data (.inl rfl) [2] rfl trivial rfl
 ·have hF : FmtP c = ([], ChkP c) := if_neg hc
  rw [hF]
  simp only [go_sem, hc, decide_false, Bool.not_false, eq_self, decide_true]
  refine call_data ChkR (mem_at 3 rfl) [codeD c] _ rfl ⟨c, rfl, rfl⟩ (.inl rfl) ?_
  simp only [go_sem, eq_self, decide_true]
  refine call_awake (mem_at 0 rfl) ?_
  simp only [go_sem]
  exact post_data (.inl rfl) [2] rfl trivial rfl
theorem lawText_ok : OkF Tryd.prog 7 (dataC lawTR) := by
 refine okF_data Tryd.func7 rfl (by decide) ?_
 rintro ds v ⟨s, rfl, rfl⟩
 refine sem_of_awp (Γ := tbl tabW4) tabW4_ok _ _ _ ?_
 by_cases hl : 4100 < s.length
 ·have hl' : (4100 : Int) < (s.length : Int) := by omega
  simp only [go_sem, Tryd.ntmps7, hl', decide_true]
  refine call_awake (mem_at 0 rfl) ?_
  simp only [go_sem]
  exact post_data (.inl rfl) [2] rfl trivial rfl
 have hl' : ¬ (4100 : Int) < (s.length : Int) := by omega
 simp only [go_sem, Tryd.ntmps7, hl', decide_false]
 refine call_data (parR parseP) (mem_at 1 rfl) [.str s] _ rfl ⟨s, rfl, by omega, rfl⟩ (.inl rfl) ?_
 have hok := parse_ok s
 obtain ⟨v1, v2, v3⟩ := parse_valid s
 generalize parseP s = q at *
 obtain ⟨c, n, e⟩ := q
 simp only at hok v1 v2 v3 ⊢
 by_cases he : e = 0
 ·have hc := v1 he
  subst he
  have hF : FmtP c = (textI c, 0) := if_pos hc
  obtain ⟨h1, h2⟩ := ChkP_ok.1 hc
  have htl := textI_len c h2
  simp only [go_sem, eq_self, decide_true, Bool.not_true]
  refine call_data FmtR (mem_at 2 rfl) [codeD c] _ rfl ⟨c, rfl, hok, rfl⟩ (.inl rfl) ?_
  rw [hF]
  simp only [go_sem]
  refine call_data (parR parseP) (mem_at 1 rfl) [.str (textI c)] _ rfl ⟨textI c, rfl, by omega, rfl⟩ (.inl rfl) ?_
  rw [parse_text hc]
  simp only [go_sem]
  refine call_data FmtR (mem_at 2 rfl) [codeD c] _ rfl ⟨c, rfl, hok, rfl⟩ (.inl rfl) ?_
  rw [hF]
  simp only [go_sem, eq_self, decide_true]
  refine call_data sameR45 (mem_at 4 rfl) [codeD c, codeD c] _ rfl ⟨c, c, rfl, by omega, hok, hok, rfl⟩ (.inl rfl) ?_
  simp only [go_sem, eq_self, decide_true]
  refine call_data ChkR (mem_at 3 rfl) [codeD c] _ rfl ⟨c, rfl, rfl⟩ (.inl rfl) ?_
  rw [hc]
  simp only [go_sem, eq_self, decide_true]
  refine call_awake (mem_at 0 rfl) ?_
  simp only [go_sem]
  exact post_data (.inl rfl) [2] rfl trivial rfl
 ·have hc := v2 he
  subst hc
  simp only [go_sem, he, decide_false, Bool.not_false, List.map_nil, List.length_nil, Int.natCast_zero, eq_self, decide_true]
  refine call_awake (mem_at 0 rfl) ?_
  simp only [go_sem]
  exact post_data (.inl rfl) [2] rfl trivial rfl
end Go.AM
namespace Go.AM
open Go Go.Proofs
def badAt (f : Str -> LO) : List Str -> Nat -> Option (Nat × Int)
 | [], _ => none
 | s :: r, i => match f s with | .bad e => some (i + 1, e) | _ => badAt f r (i + 1)
def insOf (f : Str -> LO) : List Str -> List Ins
 | [] => []
 | s :: r => match f s with | .ins x => x :: insOf f r | _ => insOf f r
theorem runL_app (f : Str -> LO) : ∀ (l1 l2 : List Str) (i : Nat) (out : List Ins), runL f (l1 ++ l2) i out = match badAt f l1 i with | some (a, e) => ([], (a : Int), e) | none => runL f l2 (i + l1.length) (out ++ insOf f l1)
 | [], l2, i, out => by simp [badAt, insOf]
 | s :: l1, l2, i, out => by
  rw [List.cons_append, runL_cons]
  unfold badAt insOf
  cases hs : f s with
  | skip =>
   simp only
   rw [runL_app f l1 l2, List.length_cons, show i + 1 + l1.length = i + (l1.length + 1) by omega]
  | bad e => rfl
  | ins x =>
   simp only
   rw [runL_app f l1 l2, List.length_cons, show i + 1 + l1.length = i + (l1.length + 1) by omega, List.append_assoc]
   rfl
theorem runL_form (f : Str -> LO) (l : List Str) (i : Nat) (out : List Ins) : runL f l i out = match badAt f l i with | some (a, e) => ([], (a : Int), e) | none => if 48 < (out ++ insOf f l).length then ([], 0, 9) else (out ++ insOf f l, 0, 0) := by
 have h := runL_app f l [] i out
 rw [List.append_nil] at h
 rw [h]
 rfl
theorem badAt_shift (f : Str -> LO) : ∀ (l : List Str) (i k : Nat), badAt f l (i + k) = (badAt f l i).map fun p => (p.1 + k, p.2)
 | [], _, _ => rfl
 | s :: l, i, k => by
  unfold badAt
  cases hs : f s with
  | skip => simp only; rw [show i + k + 1 = i + 1 + k by omega]; exact badAt_shift f l (i + 1) k
  | bad e => simp only [Option.map_some]; rw [show i + k + 1 = i + 1 + k by omega]
  | ins x => simp only; rw [show i + k + 1 = i + 1 + k by omega]; exact badAt_shift f l (i + 1) k
theorem badAt_pos (f : Str -> LO) : ∀ (l : List Str) (i : Nat) (a : Nat) (e : Int), badAt f l i = some (a, e) -> i < a /\ a <= i + l.length
 | [], _, _, _, h => by cases h
 | s :: l, i, a, e, h => by
  unfold badAt at h
  cases hs : f s with
  | bad e' =>
   rw [hs] at h
   simp only [Option.some.injEq, Prod.mk.injEq] at h
   rw [List.length_cons]; omega
  | skip => rw [hs] at h; have := badAt_pos f l (i + 1) a e h; rw [List.length_cons]; omega
  | ins x => rw [hs] at h; have := badAt_pos f l (i + 1) a e h; rw [List.length_cons]; omega
theorem badAt_err {l : List Str} : ∀ {i a : Nat} {e : Int}, badAt lineP l i = some (a, e) -> e ≠ 0 := by
 induction l with
 | nil => intro i a e h; cases h
 | cons s l ih =>
  intro i a e h
  unfold badAt at h
  cases hs : lineP s with
  | bad e' =>
   rw [hs] at h
   simp only [Option.some.injEq, Prod.mk.injEq] at h
   obtain ⟨_, rfl⟩ := h
   rw [lineP_eq] at hs
   split at hs
   ·cases hs
   ·split at hs
    ·cases hs; decide
    ·split at hs
     ·cases hs
     ·cases hs; decide
  | skip => rw [hs] at h; exact ih h
  | ins x => rw [hs] at h; exact ih h
theorem parse_run {s : Str} (h : s.length <= 4000) : parseP s = runL lineP (splitC 10 s) 0 [] := if_neg (by omega)
theorem lines_len (s : Str) : (linesW (s ++ [10])).length = (splitC 10 s).length := by
 have e : splitC 10 (s ++ [10]) = splitC 10 s ++ [[]] := splitC_app 10 s []
 rw [linesW_split, e, List.getLast?_concat, if_pos rfl, List.dropLast_concat]
inductive JoinO (first second : Str) : Prop where
 | bad (h : (parseP (first ++ [10])).2.2 ≠ 0)
 | ok (a b : List Ins) (h1 : parseP (first ++ [10]) = (a, 0, 0)) (h2 : parseP second = (b, 0, 0)) (h3 : a.length + b.length <= 48) (h4 : parseP (first ++ [10] ++ second) = (a ++ b, 0, 0))
 | many (a b : List Ins) (h1 : parseP (first ++ [10]) = (a, 0, 0)) (h2 : parseP second = (b, 0, 0)) (h3 : 48 < a.length + b.length) (h4 : parseP (first ++ [10] ++ second) = ([], 0, 9))
 | over (a : List Ins) (h1 : parseP (first ++ [10]) = (a, 0, 0)) (h2 : parseP second = ([], 0, 9)) (h4 : parseP (first ++ [10] ++ second) = ([], 0, 9))
 | line (a : List Ins) (n : Nat) (e : Int) (h1 : parseP (first ++ [10]) = (a, 0, 0)) (he : e ≠ 0) (hn : 0 < n) (hn2 : n <= 4001) (h2 : parseP second = ([], (n : Int), e)) (h4 : parseP (first ++ [10] ++ second) = ([], ((n + (splitC 10 first).length : Nat) : Int), e))
theorem join_out (first second : Str) (h1 : first.length <= 2000) (h2 : second.length <= 1900) : JoinO first second := by
 have e1 : splitC 10 (first ++ [10]) = splitC 10 first ++ [[]] := splitC_app 10 first []
 have e3 : first ++ [10] ++ second = first ++ 10 :: second := by simp
 have e2 : splitC 10 (first ++ [10] ++ second) = splitC 10 first ++ splitC 10 second := by rw [e3]; exact splitC_app 10 first second
 have p1 : parseP (first ++ [10]) = runL lineP (splitC 10 first) 0 [] := by
  rw [parse_run (by simp; omega), e1, runL_last lineP lineP_nil]
 have p2 : parseP second = runL lineP (splitC 10 second) 0 [] := parse_run (by omega)
 have p3 : parseP (first ++ [10] ++ second) = runL lineP (splitC 10 first ++ splitC 10 second) 0 [] := by rw [parse_run (by simp; omega), e2]
 rw [runL_app] at p3
 rw [runL_form] at p1
 have hl2 := (splitC_len 10 second).1
 cases hb1 : badAt lineP (splitC 10 first) 0 with
 | some q =>
  obtain ⟨a, e⟩ := q
  rw [hb1] at p1
  exact .bad (by rw [p1]; exact badAt_err hb1)
 | none =>
  rw [hb1] at p1 p3
  simp only [List.nil_append, Nat.zero_add] at p1 p3
  generalize insOf lineP (splitC 10 first) = a at *
  by_cases ha : 48 < a.length
  ·rw [if_pos ha] at p1
   exact .bad (by rw [p1]; show (9 : Int) ≠ 0; decide)
  rw [if_neg ha] at p1
  rw [runL_form] at p2 p3
  have hsh := badAt_shift lineP (splitC 10 second) 0 (splitC 10 first).length
  rw [Nat.zero_add] at hsh
  rw [hsh] at p3
  cases hb2 : badAt lineP (splitC 10 second) 0 with
  | some q =>
   obtain ⟨n, e⟩ := q
   rw [hb2] at p2 p3
   have hp := badAt_pos _ _ _ _ _ hb2
   exact .line a n e p1 (badAt_err hb2) hp.1 (by omega) p2 p3
  | none =>
   rw [hb2] at p2 p3
   simp only [List.nil_append, Option.map_none] at p2 p3
   generalize insOf lineP (splitC 10 second) = b at *
   by_cases hb : 48 < b.length
   ·rw [if_pos hb] at p2
    rw [if_pos (by rw [List.length_append]; omega)] at p3
    exact .over a p1 p2 p3
   ·rw [if_neg hb] at p2
    by_cases hab : 48 < (a ++ b).length
    ·rw [if_pos hab] at p3
     exact .many a b p1 p2 (by simpa using hab) p3
    ·rw [if_neg hab] at p3
     exact .ok a b p1 p2 (by simp at hab; omega) p3
end Go.AM
namespace Go.AM
open Go Go.Proofs
def lawTTR (ds : List D) (v : AV) : Prop := ∃ s t : Str, ds = [.str s, .str t] /\ v = .dat (.bool true)
abbrev tabW5 : List (Nat × Contract) := [(10, dataC awR), (13, dataC (parR parseP)), (18, dataC (strsR linesW)), (15, dataC sameR45)]
theorem tabW5_ok : OkG Tryd.prog (tbl tabW5) := okG_cons awake_ok (okG_cons Parse_ok (okG_cons lines41_ok (okG_cons same45_ok okG_nil)))
theorem call_parse {l : List (Nat × Contract)} (hm : (13, dataC (parR parseP)) ∈ l) {s : Str} (hs : s.length <= 1000000) {q : List Ins × Int × Int} (hq : parseP s = q) {own : List Obj} {K : AV -> List Obj -> List Nat -> Prop} (h : K (parD q) own []) :
  callw (tbl l) (.fn 13 []) [.dat (.str s)] own K :=
 call_data (parR parseP) hm [.str s] _ rfl ⟨s, rfl, hs, rfl⟩ (.inl rfl) (by rw [hq]; exact h)
theorem lawJoins_ok : OkF Tryd.prog 8 (dataC lawTTR) := by
 refine okF_data Tryd.func8 rfl (by decide) ?_
 rintro ds v ⟨s, t, rfl, rfl⟩
 refine sem_of_awp (Γ := tbl tabW5) tabW5_ok _ _ _ ?_
 by_cases hl1 : 2000 < s.length
 ·have hl' : (2000 : Int) < (s.length : Int) := by omega
  simp only [go_sem, Tryd.ntmps8, hl', decide_true]
  refine call_awake (mem_at 0 rfl) ?_
  simp only [go_sem]
  exact post_data (.inl rfl) [4] rfl trivial rfl
 have k1 : ¬ (2000 : Int) < (s.length : Int) := by omega
 by_cases hl2 : 1900 < t.length
 ·have hl' : (1900 : Int) < (t.length : Int) := by omega
  simp only [go_sem, Tryd.ntmps8, k1, hl', decide_true, decide_false]
  refine call_awake (mem_at 0 rfl) ?_
  simp only [go_sem]
  exact post_data (.inl rfl) [4] rfl trivial rfl
 have k2 : ¬ (1900 : Int) < (t.length : Int) := by omega
 have hj := join_out s t (by omega) (by omega)
 have hsl : (s ++ [10]).length <= 1000000 := by simp; omega
 have hst : (s ++ [10] ++ t).length <= 1000000 := by simp; omega
 simp only [go_sem, Tryd.ntmps8, k1, k2, decide_false, List.length_cons, List.length_nil]
 refine ⟨by simp only [maxLen]; omega, ?_⟩
 cases hj with
 | bad h =>
  refine call_parse (mem_at 1 rfl) hsl rfl ?_
  generalize parseP (s ++ [10]) = q at *
  simp only [go_sem]
  refine call_parse (mem_at 1 rfl) (by omega) rfl ?_
  simp only [go_sem, h, decide_false, Bool.not_false]
  refine call_awake (mem_at 0 rfl) ?_
  simp only [go_sem]
  exact post_data (.inl rfl) [4] rfl trivial rfl
 | ok a b h1 h2 h3 h4 =>
  have hs3 : ¬ (48 : Int) < (a.length : Int) + (b.length : Int) := by omega
  have ha := parse_ok (s ++ [10])
  have hb := parse_ok t
  have hab := parse_ok (s ++ [10] ++ t)
  rw [h1] at ha
  rw [h2] at hb
  rw [h4] at hab
  refine call_parse (mem_at 1 rfl) hsl h1 ?_
  simp only [go_sem]
  refine call_parse (mem_at 1 rfl) (by omega) h2 ?_
  simp only [go_sem, eq_self, decide_true, Bool.not_true, hs3, decide_false, List.length_cons, List.length_nil, List.length_map, List.length_append]
  refine ⟨by simp only [maxLen]; omega, by simp only [maxLen]; omega, ?_⟩
  refine call_parse (mem_at 1 rfl) hst h4 ?_
  have el : ((a.length + b.length : Nat) : Int) = (a.length : Int) + (b.length : Int) := by omega
  have c0 : (0 : Int) <= (a.length : Int) := by omega
  have c1 : (a.length : Int) <= (a.length : Int) + (b.length : Int) := by omega
  have s1 : (a.map insD ++ b.map insD).take a.length = a.map insD := by simp
  have s2 : (a.map insD ++ b.map insD).drop a.length = b.map insD := by simp
  have s3 : (b.map insD).take ((a.length : Int) + (b.length : Int) - (a.length : Int)).toNat = b.map insD := List.take_of_length_le (by rw [List.length_map]; omega)
  have s4 : (a.map insD ++ b.map insD).take ((a.length : Int) - 0).toNat = a.map insD := by rw [Int.sub_zero, Int.toNat_natCast]; simp
  simp only [go_sem, eq_self, decide_true, decide_false, hs3, Bool.not_true, List.length_map, el, List.map_append]
  refine ⟨inR_i64.2 (by omega), inR_i64.2 (by omega), ?_⟩
  simp only [go_sem, c0, c1, s1, s2, s3, s4, Int.toNat_natCast, List.length_map, el, List.length_append, List.drop_zero]
  refine call_data sameR45 (mem_at 3 rfl) [codeD a, codeD a] _ rfl ⟨a, a, rfl, by omega, ha, ha, rfl⟩ (.inl rfl) ?_
  simp only [go_sem, eq_self, decide_true, c0, c1, List.map_append, s1, s2, s3, s4, Int.toNat_natCast, List.length_map, el, List.length_append, List.drop_zero]
  refine ⟨Int.le_refl _, ?_⟩
  refine call_data sameR45 (mem_at 3 rfl) [codeD b, codeD b] _ rfl ⟨b, b, rfl, by omega, hb, hb, rfl⟩ (.inl rfl) ?_
  simp only [go_sem, eq_self, decide_true]
  refine call_awake (mem_at 0 rfl) ?_
  simp only [go_sem]
  exact post_data (.inl rfl) [4] rfl trivial rfl
 | many a b h1 h2 h3 h4 =>
  have hs3 : (48 : Int) < (a.length : Int) + (b.length : Int) := by omega
  refine call_parse (mem_at 1 rfl) hsl h1 ?_
  simp only [go_sem]
  refine call_parse (mem_at 1 rfl) (by omega) h2 ?_
  simp only [go_sem, eq_self, decide_true, Bool.not_true, List.length_cons, List.length_nil, List.length_map, List.length_append]
  refine ⟨by simp only [maxLen]; omega, by simp only [maxLen]; omega, ?_⟩
  refine call_parse (mem_at 1 rfl) hst h4 ?_
  have hsa := parse_short (s ++ [10])
  have hsb := parse_short t
  rw [h1] at hsa
  rw [h2] at hsb
  simp only at hsa hsb
  simp only [go_sem, eq_self, decide_true, hs3, List.length_map]
  refine ⟨inR_i64.2 (by omega), ?_⟩
  refine call_awake (mem_at 0 rfl) ?_
  simp only [go_sem]
  exact post_data (.inl rfl) [4] rfl trivial rfl
 | over a h1 h2 h4 =>
  refine call_parse (mem_at 1 rfl) hsl h1 ?_
  simp only [go_sem]
  refine call_parse (mem_at 1 rfl) (by omega) h2 ?_
  simp only [go_sem, eq_self, decide_true, Bool.not_true, List.length_cons, List.length_nil, List.length_map, List.length_append]
  refine ⟨by simp only [maxLen]; omega, by simp only [maxLen]; omega, ?_⟩
  refine call_parse (mem_at 1 rfl) hst h4 ?_
  simp only [go_sem, eq_self, decide_true, decide_false, Bool.not_false]
  refine call_awake (mem_at 0 rfl) ?_
  simp only [go_sem]
  exact post_data (.inl rfl) [4] rfl trivial rfl
 | line a n e h1 he hn hn2 h2 h4 =>
  have kn : (0 : Int) < (n : Int) := by omega
  have hll := lines_len s
  have hsl2 := (splitC_len 10 s).1
  refine call_parse (mem_at 1 rfl) hsl h1 ?_
  simp only [go_sem]
  refine call_parse (mem_at 1 rfl) (by omega) h2 ?_
  simp only [go_sem, eq_self, decide_true, Bool.not_true, List.length_cons, List.length_nil, List.length_map, List.length_append]
  refine ⟨by simp only [maxLen]; omega, by simp only [maxLen]; omega, ?_⟩
  refine call_parse (mem_at 1 rfl) hst h4 ?_
  simp only [go_sem, he, kn, decide_true, decide_false, Bool.not_false, List.length_cons, List.length_nil]
  refine ⟨by simp only [maxLen]; omega, ?_⟩
  refine call_data (strsR linesW) (mem_at 2 rfl) [.str (s ++ [10])] _ rfl ⟨_, rfl, hsl, rfl⟩ (.inl rfl) ?_
  have el : ((n + (splitC 10 s).length : Nat) : Int) = (n : Int) + ((splitC 10 s).length : Int) := by omega
  simp only [go_sem, List.length_map, hll, el, eq_self, decide_true]
  refine ⟨inR_i64.2 (by omega), ?_⟩
  refine call_awake (mem_at 0 rfl) ?_
  simp only [go_sem]
  exact post_data (.inl rfl) [4] rfl trivial rfl
end Go.AM
namespace Go.AM
open Go Go.Proofs
def Neat (s : List UInt8) : Prop := ∀ k : Nat, s[k]? = some 32 -> ∃ b, s[k + 1]? = some b /\ b ≠ 32 /\ b ≠ 10
theorem neat_word {s : Str} (h : Word s) : Neat s := fun k hk => absurd rfl (h.2 32 (List.mem_of_getElem? hk)).1
theorem neat_app {s t : Str} (hs : Neat s) (ht : Word t) : Neat (s ++ ([32] ++ t)) := by
 intro k hk
 rcases Nat.lt_trichotomy k s.length with h | h | h
 ·rw [List.getElem?_append_left h] at hk
  obtain ⟨b, h1, h2⟩ := hs k hk
  have hlt := (List.getElem?_eq_some_iff.1 h1).1
  exact ⟨b, by rw [List.getElem?_append_left hlt]; exact h1, h2⟩
 ·subst h
  obtain ⟨c, r, rfl⟩ := List.exists_cons_of_ne_nil ht.1
  refine ⟨c, ?_, ht.2 c (by simp)⟩
  rw [List.getElem?_append_right (by omega)]
  simp
 ·rw [List.getElem?_append_right (by omega)] at hk
  have e : ([32] ++ t)[k - s.length]? = t[k - s.length - 1]? := by
   obtain ⟨j, hj⟩ : ∃ j, k - s.length = j + 1 := ⟨k - s.length - 1, by omega⟩
   rw [hj]; simp
  rw [e] at hk
  exact absurd rfl (ht.2 32 (List.mem_of_getElem? hk)).1
theorem neat_spJ : ∀ (ts : List Str) (s : Str), Neat s -> (∀ t ∈ ts, Word t) -> Neat (spJ s ts)
 | [], _, h, _ => h
 | t :: ts, s, h, ht => by
  rw [spJ_cons]
  exact neat_spJ ts _ (neat_app h (ht t (by simp))) fun u hu => ht u (by simp [hu])
theorem spJ_head (ts : List Str) {s : Str} (h : s ≠ []) : (spJ s ts).getD 0 0 = s.getD 0 0 /\ spJ s ts ≠ [] := by
 induction ts generalizing s with
 | nil => exact ⟨rfl, h⟩
 | cons t ts ih =>
  rw [spJ_cons]
  obtain ⟨c, r, rfl⟩ := List.exists_cons_of_ne_nil h
  obtain ⟨h1, h2⟩ := ih (s := c :: r ++ ([32] ++ t)) (by simp)
  exact ⟨h1, h2⟩
structure LineOk (y : Str) : Prop where
 len : 1 <= y.length
 first : ¬ y.getD 0 0 = 32
 last : y.getD (y.length - 1) 0 = 10
 inner : ∀ k, k + 1 < y.length -> ¬ y.getD k 0 = 10 /\ (y.getD k 0 = 32 -> ¬ y.getD (k + 1) 0 = 32 /\ ¬ y.getD (k + 1) 0 = 10)
theorem line_ok' {x : Ins} (h : chkE x = 0) : LineOk (lineI x ++ [10]) := by
 obtain ⟨h1, h2⟩ := tok_words h
 have hn := neat_spJ _ _ (neat_word h1) h2
 have hh := spJ_head (tokI x).2 h1.1
 have h10 := line_no10 h
 have hl : lineI x = spJ (tokI x).1 (tokI x).2 := rfl
 rw [← hl] at hn hh
 have hf : ¬ (lineI x).getD 0 0 = 32 := by
  rw [hh.1]
  obtain ⟨c, r, hc⟩ := List.exists_cons_of_ne_nil h1.1
  rw [hc]
  exact (h1.2 c (by rw [hc]; simp)).1
 generalize lineI x = L at *
 obtain ⟨c, r, rfl⟩ := List.exists_cons_of_ne_nil hh.2
 refine ⟨by simp, hf, ?_, fun k hk => ?_⟩
 ·have e : (c :: r ++ [10]).length - 1 = (c :: r).length := by simp
  rw [e, List.getD_eq_getElem?_getD, List.getElem?_append_right (Nat.le_refl _)]
  simp
 ·have hk' : k < (c :: r).length := by simp at hk ⊢; omega
  have eg : (c :: r ++ [10])[k]? = (c :: r)[k]? := List.getElem?_append_left hk'
  have hm : (c :: r)[k]? = some (c :: r)[k] := List.getElem?_eq_getElem hk'
  have ed : (c :: r ++ [10]).getD k 0 = (c :: r)[k] := by rw [List.getD_eq_getElem?_getD, eg, hm]; rfl
  rw [ed]
  refine ⟨h10 _ (List.getElem_mem hk'), fun h32 => ?_⟩
  obtain ⟨b, b1, b2, b3⟩ := hn k (by rw [hm, h32])
  have hlt := (List.getElem?_eq_some_iff.1 b1).1
  have eb : (c :: r ++ [10]).getD (k + 1) 0 = b := by rw [List.getD_eq_getElem?_getD, List.getElem?_append_left hlt, b1]; rfl
  rw [eb]
  exact ⟨b2, b3⟩
abbrev tabW6 : List (Nat × Contract) := [(10, dataC awR), (16, dataC FmtR)]
theorem tabW6_ok : OkG Tryd.prog (tbl tabW6) := okG_cons awake_ok (okG_cons Format_ok okG_nil)
theorem lawLines_ok : OkF Tryd.prog 9 (dataC lawCR) := by
 refine okF_data Tryd.func9 rfl (by decide) ?_
 rintro ds v ⟨c, rfl, hok, rfl⟩
 refine sem_of_awpK [11, 16] (Γ := tbl tabW6) tabW6_ok _ _ _ ?_
 by_cases hl : 60 < c.length
 ·have hl' : (60 : Int) < (c.length : Int) := by omega
  simp only [go_sem, Tryd.ntmps9, List.length_map, hl', decide_true]
  refine call_awake (mem_at 0 rfl) ?_
  simp only [go_sem]
  exact post_data (.inl rfl) [2] rfl trivial rfl
 have hl' : ¬ (60 : Int) < (c.length : Int) := by omega
 simp only [go_sem, Tryd.ntmps9, List.length_map, hl', decide_false]
 refine call_data FmtR (mem_at 1 rfl) [codeD c] _ rfl ⟨c, rfl, hok, rfl⟩ (.inl rfl) ?_
 by_cases hc : ChkP c = 0
 case neg =>
  have hF : FmtP c = ([], ChkP c) := if_neg hc
  rw [hF]
  simp only [go_sem, hc, decide_false, Bool.not_false]
  refine call_awake (mem_at 0 rfl) ?_
  simp only [go_sem]
  exact post_data (.inl rfl) [2] rfl trivial rfl
 have hF : FmtP c = (textI c, 0) := if_pos hc
 obtain ⟨h1, h2⟩ := ChkP_ok.1 hc
 rw [hF]
 simp only [go_sem, eq_self, decide_true, Bool.not_true]
 refine sem_loop (fun i : Nat => ⟨slotsOf 97 [(0, .dat (codeD c)), (3, .dat (.str (textI c))), (5, .dat (.str (textI (c.take i)))), (6, .dat (.int .i64 i))], [], 0, []⟩)
  (fun i => i <= c.length) (fun i => c.length - i) 0 (Nat.zero_le _) ?_ ?_
 ·exact le_slots' (by simp only [go_sem, Int.natCast_zero, List.take_zero, textI, List.flatMap_nil])
 intro i hi
 refine sem_of_awpK [11, 16] (Γ := tbl tabW6) tabW6_ok _ _ _ ?_
 have htk := textI_take h2 h1 i
 cases hd : c.drop i with
 | nil =>
  have hie := end_of_drop hd hi
  have k1 : ¬ (i : Int) < (c.length : Int) := by omega
  have hall : c.take i = c := by rw [hie]; exact List.take_length
  rw [hall]
  simp only [go_sem, k1, decide_false, List.length_map, eq_self, decide_true]
  refine call_awake (mem_at 0 rfl) ?_
  simp only [go_sem]
  exact post_data (.inl rfl) [2] rfl trivial rfl
 | cons x r =>
  have hlt := lt_of_drop hd
  have k1 : (i : Int) < (c.length : Int) := by omega
  have k0 : (0 : Int) <= (i : Int) := by omega
  have k2 : (i : Int) + 1 <= (c.length : Int) := by omega
  have k3 : (i : Int) <= (i : Int) + 1 := by omega
  have hcx := h2 x (mem_of_drop hd)
  have hx1 : ((c.map insD).drop i).take ((i : Int) + 1 - (i : Int)).toNat = [insD x] := by
   rw [show ((i : Int) + 1 - (i : Int)).toNat = 1 by omega, ← List.map_drop, hd]; rfl
  have hcs : ChkP [x] = 0 := ChkP_ok.2 ⟨by simp, fun y hy => by simp at hy; rw [hy]; exact hcx⟩
  have hFs : FmtP [x] = (lineI x ++ [10], 0) := by
   unfold FmtP
   rw [if_pos hcs]
   simp [textI]
  obtain ⟨g1, g2, g3, g4⟩ := line_ok' hcx
  have hsn : textI (c.take i) ++ (lineI x ++ [10]) = textI (c.take (i + 1)) := by rw [take_of_drop hd, textI_snoc]
  have htk1 := textI_take h2 h1 (i + 1)
  have hll := lineI_len hcx
  have hyl : (lineI x ++ [10]).length <= 74 := by simp; omega
  simp only [go_sem, k0, k1, k2, k3, decide_true, List.length_map, Int.toNat_natCast, hx1]
  refine ⟨inR_i64.2 (by omega), ?_⟩
  refine call_data FmtR (mem_at 1 rfl) [codeD [x]] _ rfl ⟨[x], rfl, fun y hy => by simp at hy; rw [hy]; exact chk_ok hcx, rfl⟩ (.inl rfl) ?_
  rw [hFs]
  simp only [go_sem]
  generalize lineI x ++ [10] = y at *
  refine sem_to ⟨slotsOf 97 [(0, .dat (codeD c)), (3, .dat (.str (textI c))), (5, .dat (.str (textI (c.take i)))), (6, .dat (.int .i64 i)), (7, .dat (.str y)), (56, .dat (.bool false))], [], 0, []⟩ ?_ ?_
  ·refine sem_of_awp (Γ := tbl tabW6) tabW6_ok _ _ _ ?_
   have z1 : ¬ (y.length : Int) = 0 := by omega
   have z2 : (0 : Int) < (y.length : Int) := by omega
   have z3 : (0 : Int) <= (y.length : Int) - 1 := by omega
   have z4 : (y.length : Int) - 1 < (y.length : Int) := by omega
   have z5 : ((y.length : Int) - 1).toNat = y.length - 1 := by omega
   have b1 := byte_eq (y.getD 0 0) 32 32 rfl
   have b2 : (((y.getD (y.length - 1) 0).toNat : Int) = 10) = True := eq_true (by rw [g3]; rfl)
   simp only [go_sem, z1, z2, z3, z4, z5, eq_self, decide_true, decide_false, Bool.not_true, b1, b2, g2]
   exact ⟨inR_i64.2 (by omega), le_slots' (by simp only [go_sem])⟩
  simp only [go_sem]
  refine sem_loop (fun j : Nat => ⟨slotsOf 97 [(0, .dat (codeD c)), (3, .dat (.str (textI c))), (5, .dat (.str (textI (c.take i)))), (6, .dat (.int .i64 i)), (7, .dat (.str y)), (9, .dat (.int .i64 j))], [], 0, []⟩)
   (fun j => j + 1 <= y.length) (fun j => y.length - j) 0 g1 ?_ ?_
  ·exact le_slots' (by simp only [go_sem, Int.natCast_zero])
  intro j hj
  refine sem_of_awpK [16] (Γ := tbl tabW6) tabW6_ok _ _ _ ?_
  by_cases hjl : j + 1 < y.length
  ·have j1 : (j : Int) + 1 < (y.length : Int) := by omega
   obtain ⟨i1, i2⟩ := g4 j hjl
   simp only [go_sem, j1, decide_true]
   refine ⟨inR_i64.2 (by omega), ?_⟩
   refine sem_to ⟨slotsOf 97 [(0, .dat (codeD c)), (3, .dat (.str (textI c))), (5, .dat (.str (textI (c.take i)))), (6, .dat (.int .i64 i)), (7, .dat (.str y)), (9, .dat (.int .i64 j)), (87, .dat (.bool false))], [], 0, []⟩ ?_ ?_
   ·refine sem_of_awp (Γ := tbl tabW6) tabW6_ok _ _ _ ?_
    have z0 : (0 : Int) <= (j : Int) := by omega
    have z1 : (j : Int) < (y.length : Int) := by omega
    have z3 : (0 : Int) <= (j : Int) + 1 := by omega
    have z5 : ((j : Int) + 1).toNat = j + 1 := by omega
    have b1 := byte_eq (y.getD j 0) 10 10 rfl
    have b2 := byte_eq (y.getD j 0) 32 32 rfl
    have b3 := byte_eq (y.getD (j + 1) 0) 32 32 rfl
    have b4 := byte_eq (y.getD (j + 1) 0) 10 10 rfl
    by_cases h32 : y.getD j 0 = 32
    ·obtain ⟨i3, i4⟩ := i2 h32
     have f1 := eq_false i1
     have f2 := eq_true h32
     have f3 := eq_false i3
     have f4 := eq_false i4
     simp only [go_sem, z0, z1, z3, z5, j1, b1, b2, b3, b4, f1, f2, f3, f4, decide_true, decide_false, Int.toNat_natCast]
     exact ⟨inR_i64.2 (by omega), inR_i64.2 (by omega), le_slots' (by simp only [go_sem])⟩
    ·have f1 := eq_false i1
     have f2 := eq_false h32
     simp only [go_sem, z0, z1, b1, b2, f1, f2, decide_false, Int.toNat_natCast]
     exact le_slots' (by simp only [go_sem])
   simp only [go_sem]
   exact ⟨inR_i64.2 (by omega), j + 1, by omega, by omega, le_slots' (by simp only [go_sem, Int.natCast_add, Int.cast_ofNat_Int])⟩
  ·have j1 : ¬ (j : Int) + 1 < (y.length : Int) := by omega
   simp only [go_sem, j1, decide_false, hsn]
   refine ⟨inR_i64.2 (by omega), by simp only [maxLen]; omega, inR_i64.2 (by omega), i + 1, by omega, by omega, le_slots' (by simp only [go_sem, Int.natCast_add, Int.cast_ofNat_Int])⟩
end Go.AM
namespace Go.AM
open Go Go.Proofs
theorem want_instr : wantT Tryd.prog 36 = some 8 := by kernel_rfl
theorem str_arg {m : Nat} {d : D} (h : argT Tryd.prog (m + 1) 9 d) : ∃ s : Str, d = .str s := by
 obtain ⟨s, h, _⟩ := arg_str (by kernel_rfl) h
 exact ⟨s, h⟩
theorem ins_arg {m : Nat} {d : D} (h : argT Tryd.prog (m + 2) 36 d) : ∃ x : Ins, d = insD x /\ x.ok := by
 obtain ⟨ds, rfl, hf⟩ := arg_fields (ts := [3, 3, 3, 3, 3, 3, 3, 3]) (by kernel_rfl) h
 obtain ⟨a1, b, rfl, h1, hf⟩ := hf
 obtain ⟨a2, b, rfl, h2, hf⟩ := hf
 obtain ⟨a3, b, rfl, h3, hf⟩ := hf
 obtain ⟨a4, b, rfl, h4, hf⟩ := hf
 obtain ⟨a5, b, rfl, h5, hf⟩ := hf
 obtain ⟨a6, b, rfl, h6, hf⟩ := hf
 obtain ⟨a7, b, rfl, h7, hf⟩ := hf
 obtain ⟨a8, b, rfl, h8, rfl⟩ := hf
 rw [dataT_int (k := .i64) (by kernel_rfl)] at h1 h2 h3 h4 h5 h6 h7 h8
 obtain ⟨x1, rfl, i1⟩ := h1
 obtain ⟨x2, rfl, i2⟩ := h2
 obtain ⟨x3, rfl, i3⟩ := h3
 obtain ⟨x4, rfl, i4⟩ := h4
 obtain ⟨x5, rfl, i5⟩ := h5
 obtain ⟨x6, rfl, i6⟩ := h6
 obtain ⟨x7, rfl, i7⟩ := h7
 obtain ⟨x8, rfl, i8⟩ := h8
 exact ⟨⟨x1, x2, x3, x4, x5, x6, x7, x8⟩, rfl, i1, i2, i3, i4, i5, i6, i7, i8⟩
theorem code_arg {m : Nat} {d : D} (h : argT Tryd.prog (m + 3) 22 d) : ∃ c : List Ins, d = codeD c /\ ∀ x ∈ c, x.ok := by
 obtain ⟨xs, rfl, hl, hx⟩ := arg_slice (e := 36) (by kernel_rfl) h
 rw [want_instr]
 obtain ⟨L, rfl, hL⟩ := list_of insD (Q := Ins.ok) (fun x hx' => ins_arg (hx x hx'))
 exact ⟨L, rfl, hL⟩
theorem laid_skip {P : Program} {w : World} {n : String} {d : DataW Unit} {laid : List (String × DataW Unit)} {ps : List MemPlace} (h : DataW.LaidVars P w ((n, d) :: laid) ps) : ∃ ps', DataW.LaidVars P w laid ps' := by
 obtain ⟨g0, t0, cs0, f0, p0, q0, _, _, _, _, hrest, _⟩ := h
 exact ⟨_, hrest⟩
theorem glob_ok {w : World} {n1 n2 : String} {d1 d2 : DataW Unit} {laid : List (String × DataW Unit)} {ps : List MemPlace} {d : DataW Unit} (hd : d = .agg (Lib.pow10Tab.map fun z => .lit (.int .u64 z))) (h : DataW.LaidVars Tryd.prog w ((n1, d1) :: (n2, d2) :: ("internal/strconv.uint64pow10", d) :: laid) ps) : GlobOk (fun b => b < w.heap.size) w := by
 obtain ⟨_, h⟩ := laid_skip h
 obtain ⟨_, h⟩ := laid_skip h
 obtain ⟨⟨cs, h1, h2, h3, h4⟩, _⟩ := glob_array (g := 3) (t := 104) (e := 98) (n := 20) (k := .u64) (ns := Lib.pow10Tab) h hd (by kernel_rfl) (by kernel_rfl) (by kernel_rfl) (by kernel_rfl) (by kernel_rfl) (by kernel_rfl) (by decide)
 intro g ag d' hg
 unfold globs at hg
 split at hg
 ·simp only [Option.some.injEq, Prod.mk.injEq] at hg
  obtain ⟨rfl, rfl⟩ := hg
  exact ⟨cs, h1, h2, h3, rfl, h4⟩
 ·cases hg
end Go.AM
namespace Go.Proofs.YtenlakaideefbaaDoor
open Go Go.AM Go.ChangeShapes Go.WideShapes Go.ChangeAt Go.RowKit
theorem own : ownKnob Tryd.prog.godebug = none := by kernel_rfl
theorem laidOut : laidOutB Tryd.prog = true := by kernel_rfl
abbrev laid1 : List (String × DataW Unit) := [("math/bits.deBruijn32tab", Rows.laid_math_bits_deBruijn32tab), ("math/bits.deBruijn64tab", Rows.laid_math_bits_deBruijn64tab), ("internal/strconv.uint64pow10", Rows.laid_internal_strconv_uint64pow10), ("unicode/utf8.acceptRanges", Rows.laid_unicode_utf8_acceptRanges), ("unicode/utf8.first", Rows.laid_unicode_utf8_first)]
theorem pow_datum : (Rows.laid_internal_strconv_uint64pow10 : DataW Unit) = .agg (Lib.pow10Tab.map fun z => .lit (.int .u64 z)) := by kernel_rfl
theorem glob_met (w : World) (h : laidMetH Tryd.prog laid1 w) : GlobOk (fun b => b < w.heap.size) w := by
 rw [MakeChecks.laidMetH_plain _ _ _ (by kernel_rfl)] at h
 obtain ⟨ps, hl, _⟩ := h
 exact glob_ok pow_datum hl
theorem fits_laid (os : Os) : (World.holding Tryd.prog os ⟨#[], #[], []⟩).layFits Tryd.prog laid1 [] = true := by kernel_rfl
theorem ifaces_laid (os : Os) : (World.holding Tryd.prog os ⟨#[], #[], []⟩).layIfaces Tryd.prog laid1 (World.laidAll Tryd.prog os laid1) = true := by kernel_rfl
theorem shaped_laid (os : Os) : (World.laidAll Tryd.prog os laid1).Shaped Tryd.prog := World.shaped_of_ZipB (by kernel_rfl) (by kernel_rfl)
theorem door_met (os : Os) (args : Array Value) : laidMetH Tryd.prog laid1 ((World.laidAll Tryd.prog os laid1).forCall (fun _ _ => 0) ⟨#[], args, []⟩).memory := by
 rw [MakeChecks.laidMetH_plain _ _ _ (by kernel_rfl)]
 exact laidMet_laidAll _ (fits_laid os) (ifaces_laid os)
end Go.Proofs.YtenlakaideefbaaDoor

