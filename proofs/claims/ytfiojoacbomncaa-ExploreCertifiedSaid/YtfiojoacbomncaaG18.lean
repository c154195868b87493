/- Own work over the model of the kit. -/
import Derived.Test.YtfiojoacbomncaaG17
import Derived.Test.YtfiojoacbomncaaG11
import Derived.Test.YtfiojoacbomncaaG10
set_option linter.unusedSimpArgs false
set_option linter.unusedVariables false
set_option maxRecDepth 8000
set_option maxHeartbeats 4000000
namespace Go.AM
open Go Go.Proofs

theorem iniX_valid {s : PSys} (h : checkE s = 0) : Valid s (iniX s) := valid_ini (good_of h)
def reachN (s : PSys) : Int × Int := if checkE s ≠ 0 then (0, checkE s) else match reachG s (iniX s) with
 | none => (0, 9)
 | some (g, _, _) => (g.st.length, 0)
def reachNR (ds : List D) (v : AV) : Prop := ∃ s : PSys, ds = [sysD s] ∧ s.fit ∧ v = .tup [.dat (.int .i64 (reachN s).1), .dat (.int .i64 (reachN s).2)]
abbrev tabXH : List (Nat × Contract) := [(28, dataC startXR), (58, dataC reachR), (15, dataC stErrR)]
theorem tabXH_ok : OkG Try.prog (tbl tabXH) := okG_cons xstart_ok (okG_cons xreach_ok (okG_cons xcheck_ok okG_nil))
theorem xReach_ok : OkF Try.prog 21 (dataC reachNR) := by
 refine okF_data Try.func21 rfl (by decide) ?_
 rintro ds v ⟨s, rfl, hf, rfl⟩
 generalize hv : reachN s = V
 unfold reachN at hv
 refine sem_of_awp (Γ := tbl tabXH) tabXH_ok _ _ _ ?_
 simp only [go_sem, Int.reduceEq, Int.reduceLT, Int.reduceLE, eq_self, Int.natCast_nonneg, Int.toNat_natCast, Try.ntmps21, sysD]
 refine call_data startXR (by simp) [sysD s] _ rfl ⟨s, rfl, hf, rfl⟩ (.inl rfl) ?_
 by_cases he : checkE s = 0
 case neg =>
  rw [if_pos he] at hv
  subst hv
  simp only [go_sem, Int.reduceEq, Int.reduceLT, Int.reduceLE, eq_self, Int.natCast_nonneg, Int.toNat_natCast, he, stD]
  exact post_data (.inl rfl) [2, 3] rfl (by simp only [AV.under, AV.unders, and_self]) rfl
 have hV := iniX_valid he
 rw [if_neg (by rw [he]; decide)] at hv
 rw [if_pos he, he]
 simp only [go_sem, Int.reduceEq, Int.reduceLT, Int.reduceLE, eq_self, Int.natCast_nonneg, Int.toNat_natCast, stD]
 refine call_data reachR (by simp) [sysD s, stD (iniX s)] _ rfl ⟨s, iniX s, rfl, hV, rfl⟩ (.inl rfl) ?_
 cases hr : reachG s (iniX s) with
 | none =>
  rw [hr] at hv
  subst hv
  simp only [reachV, hr]
  simp only [go_sem, Int.reduceEq, Int.reduceLT, Int.reduceLE, eq_self, Int.natCast_nonneg, Int.toNat_natCast]
  exact post_data (.inl rfl) [2, 3] rfl (by simp only [AV.under, AV.unders, and_self]) rfl
 | some r =>
  obtain ⟨g, ab, nx⟩ := r
  rw [hr] at hv
  subst hv
  simp only [reachV, hr, grD]
  simp only [go_sem, Int.reduceEq, Int.reduceLT, Int.reduceLE, eq_self, Int.natCast_nonneg, Int.toNat_natCast, sts_len]
  exact post_data (.inl rfl) [2, 3] rfl (by simp only [AV.under, AV.unders, and_self]) rfl

def stuckL (n : Nat) (ab : List (List Nat)) : List Nat := (List.range n).filter fun w => !(ab.any fun l => l.contains w)
def stuckX (s : PSys) (x : PSt) : List Nat × Int := if stErr s x ≠ 0 then ([], stErr s x) else match reachG s x with
 | none => ([], 9)
 | some (_, ab, _) => (stuckL x.length ab, 0)
def stuckR (ds : List D) (v : AV) : Prop := ∃ (s : PSys) (x : PSt), ds = [sysD s, stD x] ∧ s.fit ∧ PStFit x ∧ v = .tup [.dat (natlD (stuckX s x).1), .dat (.int .i64 (stuckX s x).2)]
theorem bools_len {l : List Bool} : (boolsD l).length = l.length := by simp
abbrev rngB (n : Nat) (g : Nat → Bool) : List Bool := (List.range n).map g
theorem rngB_len {n : Nat} {g : Nat → Bool} : (rngB n g).length = n := by simp
theorem rngB_get {n i : Nat} {g : Nat → Bool} (h : i < n) : D.nth (boolsD (rngB n g)) i = .bool (g i) := by
 simp [D.nth, List.getD_eq_getElem?_getD, h]
theorem rngB_set {n i : Nat} {g g' : Nat → Bool} {v : Bool} (h : i < n) (hv : g' i = v) (ho : ∀ j, j < n → j ≠ i → g' j = g j) : (boolsD (rngB n g)).set i (.bool v) = boolsD (rngB n g') := by
 refine List.ext_getElem (by simp) fun j h1 h2 => ?_
 simp only [List.length_map, List.length_range] at h2
 rw [List.getElem_set]
 split
 ·rename_i e; subst e; simp [hv]
 ·rename_i e; simp [ho j h2 (fun e' => e e'.symm)]
theorem rngB_congr {n : Nat} {g g' : Nat → Bool} (h : ∀ j, j < n → g' j = g j) : rngB n g' = rngB n g := List.map_congr_left fun j hj => h j (List.mem_range.1 hj)
theorem rngB_rep {n : Nat} : List.replicate n (D.bool false) = boolsD (rngB n fun _ => false) := by
 simp [rngB, List.map_const']
def anyW (ab : List (List Nat)) (w : Nat) : Bool := ab.any fun l => l.contains w
theorem anyW_app {ab : List (List Nat)} {l : List Nat} {w : Nat} : anyW (ab ++ [l]) w = (anyW ab w || l.contains w) := by simp [anyW]
theorem xStuck_ok : OkF Try.prog 26 (dataC stuckR) := by
 refine okF_data Try.func26 rfl (by decide) ?_
 rintro ds v ⟨s, x, rfl, hf, hx, rfl⟩
 generalize hv : stuckX s x = V
 unfold stuckX at hv
 have hxl2 : (stacksD x).length = x.length := by simp
 refine sem_of_awp (Γ := tbl tabXH) tabXH_ok _ _ _ ?_
 simp only [go_sem, Int.reduceEq, Int.reduceLT, Int.reduceLE, eq_self, Int.natCast_nonneg, Int.toNat_natCast, Try.ntmps26, sysD, stD]
 refine call_data stErrR (by simp) [sysD s, stD x] _ rfl ⟨s, x, rfl, hf, hx, rfl⟩ (.inl rfl) ?_
 by_cases he : stErr s x = 0
 case neg =>
  rw [if_pos he] at hv
  subst hv
  simp only [go_sem, Int.reduceEq, Int.reduceLT, Int.reduceLE, eq_self, Int.natCast_nonneg, Int.toNat_natCast, he]
  refine post_res (.inl rfl) [.tmp 4, .tmp 5] rfl ?_
  simp only [go_sem, List.map_nil, natlD]
  exact le_fin (by simp only [go_sem]) (by simp only [go_sem])
 have hV := valid_of he
 rw [if_neg (by rw [he]; decide)] at hv
 simp only [go_sem, Int.reduceEq, Int.reduceLT, Int.reduceLE, eq_self, Int.natCast_nonneg, Int.toNat_natCast, he]
 refine call_data reachR (by simp) [sysD s, stD x] _ rfl ⟨s, x, rfl, hV, rfl⟩ (.inl rfl) ?_
 cases hr : reachG s x with
 | none =>
  rw [hr] at hv
  subst hv
  simp only [reachV, hr]
  simp only [go_sem, Int.reduceEq, Int.reduceLT, Int.reduceLE, eq_self, Int.natCast_nonneg, Int.toNat_natCast]
  refine post_res (.inl rfl) [.tmp 4, .tmp 5] rfl ?_
  simp only [go_sem, List.map_nil, natlD]
  exact le_fin (by simp only [go_sem]) (by simp only [go_sem])
 | some r =>
 obtain ⟨g, ab, nx⟩ := r
 rw [hr] at hv
 simp only at hv
 subst hv
 have hx24 := hV.l24
 simp only [reachV, hr, grD]
 simp only [go_sem, Int.reduceEq, Int.reduceLT, Int.reduceLE, eq_self, Int.natCast_nonneg, Int.toNat_natCast, hxl2]
 obtain ⟨hG, hcl, hab, hnx⟩ := reach_inv hV hr
 have hal : ab.length ≤ 4096 := by rw [hab, List.length_map]; exact hG.ok.le
 have habw : ∀ l ∈ ab, l.length ≤ 24 ∧ ∀ w ∈ l, w < x.length := by
  rw [hab]
  intro l hl
  obtain ⟨z, hz, rfl⟩ := List.mem_map.1 hl
  have hzl := (hG.rch z hz).len
  refine ⟨?_, fun w hw => ?_⟩
  ·have := able_len s z z.length
   unfold ableL; omega
  ·have := (mem_able.1 hw).1; omega
 clear hab hnx hcl hG hr
 rw [rngB_rep]
 refine ⟨by omega, by omega, ?_⟩
 generalize hn : x.length = n at *
 generalize hG : D.agg [D.sl (some 1) (stsD g.st), D.sl none (natssD ab), D.sl none (natssD nx), D.sl none (intsD g.frm), D.sl none (intsD g.who)] = GD
 refine sem_loop (fun k : Nat => ⟨slotsOf 70 [(9, .sl 2 0 n), (38, .dat (.sl none (natssD ab))), (39, .dat (.int .i64 ab.length)), (40, .dat (.int .i64 k))], [sysO s, stO x, .row none (boolsD (rngB n (anyW (ab.take k))))], 0, []⟩)
  (fun k => k ≤ ab.length) (fun k => ab.length - k) 0 (Nat.zero_le _) ?_ ?_
 ·rw [List.take_zero]
  exact le_slots' (by simp only [go_sem, Int.natCast_zero])
 rintro k hk
 cases hd : ab.drop k with
 | nil =>
  obtain rfl : k = ab.length := end_of_drop hd hk
  have hk2 : ¬ (ab.length : Int) < ab.length := by omega
  rw [List.take_length]
  refine sem_of_awpK [18] (Γ := tbl tabXH) tabXH_ok _ _ _ ?_
  simp only [go_sem, Int.reduceEq, Int.reduceLT, Int.reduceLE, eq_self, Int.natCast_nonneg, Int.toNat_natCast, hk2]
  refine sem_le (le_addnil 14 none rfl (Nat.zero_le _)) ?_
  refine sem_of_awp (Γ := tbl tabXH) tabXH_ok _ _ _ ?_
  simp only [go_sem, Int.reduceEq, Int.reduceLT, Int.reduceLE, eq_self, Int.natCast_nonneg, Int.toNat_natCast]
  let F := fun j : Nat => (List.range j).filter fun w => !anyW ab w
  have hF : ∀ j, (F j).length ≤ j := by
   intro j
   have := List.length_filter_le (fun w => !anyW ab w) (List.range j)
   simpa using this
  refine sem_loop (fun j : Nat => ⟨slotsOf 70 [(14, .sl 3 0 (F j).length), (55, .sl 2 0 n), (56, .dat (.int .i64 n)), (57, .dat (.int .i64 j))], [sysO s, stO x, .row none (boolsD (rngB n (anyW ab))), .row none (natsD (F j))], 0, []⟩)
   (fun j => j ≤ n) (fun j => n - j) 0 (Nat.zero_le _) ?_ ?_
  ·exact le_slots' (by simp only [go_sem, Int.natCast_zero, F, List.range_zero, List.filter_nil, List.length_nil])
  rintro j hj
  have hFj := hF j
  rcases Nat.lt_or_ge j n with hlt | hge
  ·have hj2 : (j : Int) < n := by omega
   have hj0 : (0 : Int) ≤ j := Int.natCast_nonneg j
   have hbn : D.nth (boolsD (rngB n (anyW ab))) j = .bool (anyW ab j) := rngB_get hlt
   have hFs : F (j + 1) = if anyW ab j = true then F j else F j ++ [j] := by
    simp only [F]; rw [List.range_succ, List.filter_append]
    cases hb : anyW ab j <;> simp [hb]
   refine sem_of_awp (Γ := tbl tabXH) tabXH_ok _ _ _ ?_
   cases hb : anyW ab j with
   | true =>
    rw [hb, if_pos rfl] at hFs
    rw [hb] at hbn
    simp only [go_sem, Int.reduceEq, Int.reduceLT, Int.reduceLE, eq_self, Int.natCast_nonneg, Int.toNat_natCast, hj2, hj0, hlt, hbn, bools_len, rngB_len]
    refine ⟨inR_i64.2 (by omega), j + 1, by omega, by omega, ?_⟩
    rw [hFs]
    exact le_slots' (by simp only [go_sem, Int.natCast_add, Int.cast_ofNat_Int])
   | false =>
    rw [hb, if_neg (by decide)] at hFs
    rw [hb] at hbn
    have h1 : List.take (F j).length (natsD (F j)) = natsD (F j) := nats_take
    simp only [go_sem, Int.reduceEq, Int.reduceLT, Int.reduceLE, eq_self, Int.natCast_nonneg, Int.toNat_natCast, hj2, hj0, hlt, hbn, bools_len, rngB_len, nats_len, Nat.le_refl, h1]
    refine ⟨by omega, by omega, inR_i64.2 (by omega), j + 1, by omega, by omega, ?_⟩
    rw [hFs, show natsD (F j ++ [j]) = natsD (F j) ++ [D.int .i64 j] from by simp, List.length_append]
    refine le_end (own := [_, _, _, _]) (ex := [_]) (Nat.zero_le _) ?_ ?_ ?_
    ·simp only [go_sem, Int.natCast_add, Int.cast_ofNat_Int]
    ·simp only [go_sem]
    ·simp only [go_sem, Obj.under, AV.unders, AV.under]
  ·obtain rfl : j = n := by omega
   have hj2 : ¬ (j : Int) < j := by omega
   refine sem_le (le_freeze 3 (ag := none) rfl (Nat.zero_le _)) ?_
   refine sem_of_awp (Γ := tbl tabXH) tabXH_ok _ _ _ ?_
   have h1 : List.take (F j).length (natsD (F j)) = natsD (F j) := nats_take
   simp only [go_sem, Int.reduceEq, Int.reduceLT, Int.reduceLE, eq_self, Int.natCast_nonneg, Int.toNat_natCast, hj2, h1, List.drop_zero, nats_len, Nat.le_refl]
   exact post_data (.inl rfl) [4, 5] rfl (by simp only [AV.under, AV.unders, and_self]) rfl
 | cons l r =>
 have hlt := lt_of_drop hd
 have hk2 : (k : Int) < ab.length := by omega
 have hk0 : (0 : Int) ≤ k := Int.natCast_nonneg k
 have hln : D.nth (natssD ab) k = natlD l := nth_of_drop hd
 have hts : ab.take (k + 1) = ab.take k ++ [l] := take_of_drop hd
 obtain ⟨hl24, hlw⟩ := habw l (mem_of_drop hd)
 refine sem_of_awp (Γ := tbl tabXH) tabXH_ok _ _ _ ?_
 simp only [go_sem, Int.reduceEq, Int.reduceLT, Int.reduceLE, eq_self, Int.natCast_nonneg, Int.toNat_natCast, hk2, hk0, hlt, hln, natlD, natss_len, nats_len]
 refine sem_loop (fun j : Nat => ⟨slotsOf 70 [(9, .sl 2 0 n), (38, .dat (.sl none (natssD ab))), (39, .dat (.int .i64 ab.length)), (40, .dat (.int .i64 k)), (44, .dat (.sl none (natsD l))), (45, .dat (.int .i64 l.length)), (46, .dat (.int .i64 j))], [sysO s, stO x, .row none (boolsD (rngB n (anyW (ab.take k ++ [l.take j]))))], 0, []⟩)
  (fun j => j ≤ l.length) (fun j => l.length - j) 0 (Nat.zero_le _) ?_ ?_
 ·rw [List.take_zero, rngB_congr (g' := anyW (ab.take k ++ [[]])) (g := anyW (ab.take k)) (fun j _ => by rw [anyW_app]; simp)]
  exact le_slots' (by simp only [go_sem, Int.natCast_zero])
 rintro j hj
 refine sem_of_awp (Γ := tbl tabXH) tabXH_ok _ _ _ ?_
 cases hd2 : l.drop j with
 | nil =>
  obtain rfl : j = l.length := end_of_drop hd2 hj
  have hj2 : ¬ (l.length : Int) < l.length := by omega
  simp only [go_sem, Int.reduceEq, Int.reduceLT, Int.reduceLE, eq_self, Int.natCast_nonneg, Int.toNat_natCast, hj2]
  refine ⟨inR_i64.2 (by omega), k + 1, by omega, by omega, ?_⟩
  rw [List.take_length, hts]
  exact le_slots' (by simp only [go_sem, Int.natCast_add, Int.cast_ofNat_Int])
 | cons w r2 =>
 have hlt2 := lt_of_drop hd2
 have hj2 : (j : Int) < l.length := by omega
 have hj0 : (0 : Int) ≤ j := Int.natCast_nonneg j
 have hwn : D.nth (natsD l) j = .int .i64 w := nth_of_drop hd2
 have hw := hlw w (mem_of_drop hd2)
 have hw2 : (w : Int) < n := by omega
 have hw0 : (0 : Int) ≤ w := Int.natCast_nonneg w
 have hset : (boolsD (rngB n (anyW (ab.take k ++ [l.take j])))).set w (.bool true) = boolsD (rngB n (anyW (ab.take k ++ [l.take (j + 1)]))) := by
  refine rngB_set hw ?_ ?_
  ·rw [anyW_app, take_of_drop hd2]; simp
  ·intro i _ hne
   rw [anyW_app, anyW_app, take_of_drop hd2]
   simp [hne]
 simp only [go_sem, Int.reduceEq, Int.reduceLT, Int.reduceLE, eq_self, Int.natCast_nonneg, Int.toNat_natCast, hj2, hj0, hlt2, hwn, nats_len, hw, hw2, hw0, bools_len, rngB_len, hset]
 refine ⟨inR_i64.2 (by omega), j + 1, by omega, by omega, ?_⟩
 exact le_slots' (by simp only [go_sem, Int.natCast_add, Int.cast_ofNat_Int])
end Go.AM

set_option maxRecDepth 8000
namespace Go.AM
open Go Go.Proofs

inductive Fre (ab nx : List (List Nat)) (w : Nat) : Nat → Prop
 | here {i : Nat} : w ∈ ab.getD i [] → Fre ab nx w i
 | next {i j : Nat} : j ∈ nx.getD i [] → Fre ab nx w j → Fre ab nx w i
def cntF (n : Nat) (B : Nat → Bool) : Nat := (List.range n).countP fun i => !B i
def updB (B : Nat → Bool) (a : Nat) : Nat → Bool := fun i => if i = a then true else B i
theorem cntF_upd : ∀ {n : Nat} {B : Nat → Bool} {a : Nat}, a < n → B a = false → cntF n (updB B a) + 1 = cntF n B
 | 0, B, a, h, _ => by omega
 | n + 1, B, a, h, hb => by
  unfold cntF
  rw [List.range_succ, List.countP_append, List.countP_append]
  have hs : ∀ m, m ≤ a → (List.range m).countP (fun i => !updB B a i) = (List.range m).countP (fun i => !B i) := by
   intro m hm
   refine List.countP_congr fun i hi => ?_
   have := List.mem_range.1 hi
   simp only [updB, if_neg (show ¬ i = a by omega)]
  by_cases e : a = n
  ·subst e
   rw [hs a (Nat.le_refl a)]
   simp [updB, hb]
  ·have ih := cntF_upd (n := n) (B := B) (a := a) (by omega) hb
   unfold cntF at ih
   have : updB B a n = B n := by unfold updB; rw [if_neg (fun h => e h.symm)]
   simp only [List.countP_singleton, this]
   omega
theorem cntF_le (n : Nat) (B : Nat → Bool) : cntF n B ≤ n := by
 have := List.countP_le_length (p := fun i => !B i) (l := List.range n)
 simpa [cntF] using this
structure FrOk (n : Nat) (ab nx : List (List Nat)) : Prop where
 n4 : n ≤ 4096
 la : ab.length = n
 ln : nx.length = n
 ra : ∀ l ∈ ab, l.length ≤ 24
 rn : ∀ l ∈ nx, l.length ≤ 24 ∧ ∀ v ∈ l, v < n
structure BefOk (n : Nat) (nx : List (List Nat)) (k : Nat) (l' : List Nat) (M : List (List Nat)) : Prop where
 len : M.length = n
 mem : ∀ v i, v < n → (i ∈ M.getD v [] ↔ (i < k ∧ v ∈ nx.getD i []) ∨ (i = k ∧ v ∈ l'))
 bnd : ∀ v, (M.getD v []).length ≤ 24 * k + l'.length
theorem getD_setL {M : List (List Nat)} {v u : Nat} {l : List Nat} (hv : v < M.length) : (M.set v l).getD u [] = if v = u then l else M.getD u [] := by
 rw [List.getD_eq_getElem?_getD, List.getElem?_set]
 by_cases e : v = u
 ·subst e; simp [hv]
 ·simp [e, List.getD_eq_getElem?_getD]
theorem BefOk.push {n : Nat} {nx : List (List Nat)} {k : Nat} {l' : List Nat} {M : List (List Nat)} (h : BefOk n nx k l' M) {v : Nat} (hv : v < n) : BefOk n nx k (l' ++ [v]) (M.set v (M.getD v [] ++ [k])) := by
 have hvl : v < M.length := by rw [h.len]; exact hv
 refine ⟨by rw [List.length_set]; exact h.len, fun u i hu => ?_, fun u => ?_⟩
 ·rw [getD_setL hvl]
  by_cases e : v = u
  ·subst e
   rw [if_pos rfl, List.mem_append, h.mem v i hu]
   simp only [List.mem_singleton, List.mem_append, or_true, and_true]
   constructor
   ·rintro ((h1 | h1) | h1)
    ·exact .inl h1
    ·exact .inr h1.1
    ·exact .inr h1
   ·rintro (h1 | h1)
    ·exact .inl (.inl h1)
    ·exact .inr h1
  ·rw [if_neg e, h.mem u i hu]
   simp only [List.mem_append, List.mem_singleton]
   constructor
   ·rintro (h1 | h1)
    ·exact .inl h1
    ·exact .inr ⟨h1.1, .inl h1.2⟩
   ·rintro (h1 | ⟨h1, h2 | h2⟩)
    ·exact .inl h1
    ·exact .inr ⟨h1, h2⟩
    ·exact absurd h2.symm e
 ·rw [getD_setL hvl]
  have h1 := h.bnd v
  have h2 := h.bnd u
  split
  ·simp only [List.length_append, List.length_singleton]; omega
  ·simp only [List.length_append, List.length_singleton]; omega
theorem BefOk.next {n : Nat} {nx : List (List Nat)} {k : Nat} {l : List Nat} {M : List (List Nat)} (h : BefOk n nx k l M) (hl : nx.getD k [] = l) (h24 : l.length ≤ 24) : BefOk n nx (k + 1) [] M := by
 refine ⟨h.len, fun v i hv => ?_, fun v => ?_⟩
 ·rw [h.mem v i hv]
  simp only [List.not_mem_nil, and_false, or_false]
  constructor
  ·rintro (⟨h1, h2⟩ | ⟨rfl, h2⟩)
   ·exact ⟨by omega, h2⟩
   ·exact ⟨by omega, by rw [hl]; exact h2⟩
  ·rintro ⟨h1, h2⟩
   by_cases e : i = k
   ·subst e; rw [hl] at h2; exact .inr ⟨rfl, h2⟩
   ·exact .inl ⟨by omega, h2⟩
 ·have := h.bnd v
  simp only [List.length_nil]
  omega
theorem bef0 {n : Nat} {nx : List (List Nat)} : BefOk n nx 0 [] (List.replicate n []) := by
 refine ⟨by simp, fun v i hv => ?_, fun v => ?_⟩
 ·simp [List.getD_eq_getElem?_getD, hv]
 ·rw [List.getD_eq_getElem?_getD, List.getElem?_replicate]
  split <;> simp
structure Fst (n k : Nat) (ab : List (List Nat)) (w : Nat) (B : Nat → Bool) (q : List Nat) : Prop where
 b : ∀ i, B i = true ↔ i < k ∧ w ∈ ab.getD i []
 qm : ∀ i, i ∈ q ↔ i < k ∧ w ∈ ab.getD i []
 cnt : 2 * cntF n B + q.length ≤ 2 * n
theorem fst0 {n : Nat} {ab : List (List Nat)} {w : Nat} : Fst n 0 ab w (fun _ => false) [] := by
 refine ⟨by simp, by simp, ?_⟩
 have := cntF_le n fun _ => false
 simp only [List.length_nil]; omega
theorem Fst.yes {n k : Nat} {ab : List (List Nat)} {w : Nat} {B : Nat → Bool} {q : List Nat} (h : Fst n k ab w B q) (hk : k < n) (hw : w ∈ ab.getD k []) : Fst n (k + 1) ab w (updB B k) (q ++ [k]) := by
 refine ⟨fun i => ?_, fun i => ?_, ?_⟩
 ·unfold updB
  split
  ·rename_i e; subst e
   exact ⟨fun _ => ⟨Nat.lt_succ_self _, hw⟩, fun _ => rfl⟩
  ·rename_i e
   rw [h.b]
   constructor
   ·rintro ⟨h1, h2⟩; exact ⟨by omega, h2⟩
   ·rintro ⟨h1, h2⟩; exact ⟨by omega, h2⟩
 ·rw [List.mem_append, h.qm, List.mem_singleton]
  constructor
  ·rintro (⟨h1, h2⟩ | rfl)
   ·exact ⟨by omega, h2⟩
   ·exact ⟨by omega, hw⟩
  ·rintro ⟨h1, h2⟩
   by_cases e : i = k
   ·exact .inr e
   ·exact .inl ⟨by omega, h2⟩
 ·have hf : B k = false := by
   cases hb : B k with
   | false => rfl
   | true => have := ((h.b k).1 hb).1; omega
  have := cntF_upd hk hf
  have h3 := h.cnt
  simp only [List.length_append, List.length_singleton]; omega
theorem Fst.no {n k : Nat} {ab : List (List Nat)} {w : Nat} {B : Nat → Bool} {q : List Nat} (h : Fst n k ab w B q) (hw : ¬ w ∈ ab.getD k []) : Fst n (k + 1) ab w B q := by
 have key : ∀ i, (i < k ∧ w ∈ ab.getD i []) ↔ (i < k + 1 ∧ w ∈ ab.getD i []) := by
  intro i
  constructor
  ·rintro ⟨h1, h2⟩; exact ⟨by omega, h2⟩
  ·rintro ⟨h1, h2⟩
   by_cases e : i = k
   ·subst e; exact absurd h2 hw
   ·exact ⟨by omega, h2⟩
 exact ⟨fun i => (h.b i).trans (key i), fun i => (h.qm i).trans (key i), h.cnt⟩
structure Snd (n : Nat) (ab nx : List (List Nat)) (w : Nat) (B : Nat → Bool) (q : List Nat) (v : Option Nat) (done : List Nat) : Prop where
 snd : ∀ i, B i = true → i < n ∧ Fre ab nx w i
 able : ∀ i, w ∈ ab.getD i [] → B i = true
 qm : ∀ i ∈ q, B i = true
 cl : ∀ u, B u = true → u ∈ q ∨ v = some u ∨ ∀ i, u ∈ nx.getD i [] → B i = true
 cv : ∀ u, v = some u → B u = true ∧ ∀ i ∈ done, B i = true
theorem Fst.fin {n : Nat} {ab nx : List (List Nat)} {w : Nat} {B : Nat → Bool} {q : List Nat} (h : Fst n n ab w B q) (ha : ab.length = n) : Snd n ab nx w B q none [] := by
 refine ⟨fun i hi => ?_, fun i hi => ?_, fun i hi => ?_, fun u hu => .inl ?_, by simp⟩
 ·obtain ⟨h1, h2⟩ := (h.b i).1 hi
  exact ⟨h1, .here h2⟩
 ·refine (h.b i).2 ⟨?_, hi⟩
  rcases Nat.lt_or_ge i n with h1 | h1
  ·exact h1
  ·rw [List.getD_eq_getElem?_getD, List.getElem?_eq_none (by omega)] at hi
   simp at hi
 ·exact (h.b i).2 ((h.qm i).1 hi)
 ·exact (h.qm u).2 ((h.b u).1 hu)
theorem Snd.start {n : Nat} {ab nx : List (List Nat)} {w : Nat} {B : Nat → Bool} {v : Nat} {q : List Nat} (h : Snd n ab nx w B (v :: q) none []) : Snd n ab nx w B q (some v) [] := by
 refine ⟨h.snd, h.able, fun i hi => h.qm i (by simp [hi]), fun u hu => ?_, fun u hu => ?_⟩
 ·rcases h.cl u hu with h1 | h1 | h1
  ·rcases List.mem_cons.1 h1 with rfl | h1
   ·exact .inr (.inl rfl)
   ·exact .inl h1
  ·cases h1
  ·exact .inr (.inr h1)
 ·cases hu
  exact ⟨h.qm v (by simp), by simp⟩
theorem Snd.old {n : Nat} {ab nx : List (List Nat)} {w : Nat} {B : Nat → Bool} {v : Nat} {q done : List Nat} (h : Snd n ab nx w B q (some v) done) {i : Nat} (hi : B i = true) : Snd n ab nx w B q (some v) (done ++ [i]) := by
 refine ⟨h.snd, h.able, h.qm, h.cl, fun u hu => ⟨(h.cv u hu).1, fun k hk => ?_⟩⟩
 rcases List.mem_append.1 hk with hk | hk
 ·exact (h.cv u hu).2 k hk
 ·rw [List.mem_singleton.1 hk]; exact hi
theorem updB_mono {B : Nat → Bool} {a i : Nat} (h : B i = true) : updB B a i = true := by
 unfold updB; split
 ·rfl
 ·exact h
theorem Snd.new {n : Nat} {ab nx : List (List Nat)} {w : Nat} {B : Nat → Bool} {v : Nat} {q done : List Nat} (h : Snd n ab nx w B q (some v) done) {i : Nat} (hi : v ∈ nx.getD i []) (hin : i < n) : Snd n ab nx w (updB B i) (q ++ [i]) (some v) (done ++ [i]) := by
 have hself : updB B i i = true := by unfold updB; rw [if_pos rfl]
 have hv := (h.cv v rfl).1
 refine ⟨fun k hk => ?_, fun k hk => updB_mono (h.able k hk), fun k hk => ?_, fun u hu => ?_, fun u hu => ⟨updB_mono (h.cv u hu).1, fun k hk => ?_⟩⟩
 ·unfold updB at hk
  split at hk
  ·rename_i e; subst e
   exact ⟨hin, .next hi (h.snd v hv).2⟩
  ·exact h.snd k hk
 ·rcases List.mem_append.1 hk with hk | hk
  ·exact updB_mono (h.qm k hk)
  ·rw [List.mem_singleton.1 hk]; exact hself
 ·by_cases e : u = i
  ·subst e; exact .inl (by simp)
  ·have hu' : B u = true := by
    unfold updB at hu
    rw [if_neg e] at hu
    exact hu
   rcases h.cl u hu' with h1 | h1 | h1
   ·exact .inl (List.mem_append_left _ h1)
   ·exact .inr (.inl h1)
   ·exact .inr (.inr fun k hk => updB_mono (h1 k hk))
 ·rcases List.mem_append.1 hk with hk | hk
  ·exact updB_mono ((h.cv u hu).2 k hk)
  ·rw [List.mem_singleton.1 hk]; exact hself
theorem Snd.stop {n : Nat} {ab nx : List (List Nat)} {w : Nat} {B : Nat → Bool} {v : Nat} {q done : List Nat} (h : Snd n ab nx w B q (some v) done) (hd : ∀ i, v ∈ nx.getD i [] → i ∈ done) : Snd n ab nx w B q none [] := by
 refine ⟨h.snd, h.able, h.qm, fun u hu => ?_, by simp⟩
 rcases h.cl u hu with h1 | h1 | h1
 ·exact .inl h1
 ·cases h1
  exact .inr (.inr fun i hi => (h.cv v rfl).2 i (hd i hi))
 ·exact .inr (.inr h1)
theorem Snd.done {n : Nat} {ab nx : List (List Nat)} {w : Nat} {B : Nat → Bool} (h : Snd n ab nx w B [] none []) (i : Nat) : B i = true ↔ Fre ab nx w i := by
 refine ⟨fun hi => (h.snd i hi).2, fun hf => ?_⟩
 induction hf with
 | here hw => exact h.able _ hw
 | next hj _ ih =>
  rcases h.cl _ ih with h1 | h1 | h1
  ·cases h1
  ·cases h1
  ·exact h1 _ hj
theorem rngB_upd {n : Nat} {B : Nat → Bool} {a : Nat} (h : a < n) : (boolsD (rngB n B)).set a (.bool true) = boolsD (rngB n (updB B a)) := by
 refine rngB_set h (by simp [updB]) fun j _ hne => by simp [updB, hne]
end Go.AM

set_option maxRecDepth 8000
namespace Go.AM
open Go Go.Proofs
def idxIR (ds : List D) (v : AV) : Prop := ∃ (l : List Int) (x : Int), ds = [.sl none (l.map (.int .i64)), .int .i64 x] ∧ l.length < 4611686018427387904 ∧ v = .dat (.int .i64 (idxG x 0 l))
theorem idxI_ok : OkF Try.prog 103 (dataC idxIR) := by
 refine okF_data Try.func103 rfl (by decide) ?_
 rintro ds v ⟨l, x, rfl, hl, rfl⟩
 generalize hv : idxG x 0 l = V
 refine sem_of_awp (Γ := tbl []) okG_nil _ _ _ ?_
 have fin : ∀ s own (b c : Int), b = c → s.getD 4 .top = .dat (.int .i64 b) → post Try.prog Try.f103 (.dat (.int .i64 c)) [] [] .ret ⟨s, own, 0, []⟩ := fun s own b c e h => by
  subst e
  exact post_data (.inl rfl) [4] rfl trivial (by simp only [tmpsOf, h]; rfl)
 simp only [go_sem, Try.ntmps103]
 refine sem_loop (fun k : Nat => ⟨slotsOf 19 [(0, .dat (.sl none (l.map (.int .i64)))), (1, .dat (.int .i64 x)), (4, .dat (.int .i64 0)), (7, .dat (.int .i64 l.length)), (8, .dat (.int .i64 k))], [], 0, []⟩)
  (fun k => k ≤ l.length ∧ idxG x k (l.drop k) = V) (fun k => l.length - k) 0 ⟨Nat.zero_le _, hv⟩ ?_ ?_
 ·exact le_slots' (by simp only [go_sem, Int.natCast_zero])
 ·rintro k ⟨hk, hI⟩
  refine sem_of_awp (Γ := tbl []) okG_nil _ _ _ ?_
  cases hd : l.drop k with
  | nil =>
   have := end_of_drop hd hk
   have hk2 : ¬ (k : Int) < l.length := by omega
   simp only [go_sem, hk2]
   refine fin _ _ _ _ ?_ rfl
   rw [← hI, hd]; rfl
  | cons c q =>
   have hlt := lt_of_drop hd
   have hk2 : (k : Int) < l.length := by omega
   have hk0 : (0 : Int) ≤ k := Int.natCast_nonneg k
   have hn := nth_of_drop (f := .int .i64) hd
   rw [hd, idxG] at hI
   by_cases he : x = c
   ·simp only [go_sem, hk2, hk0, hn, he]
    rw [if_pos he] at hI
    exact fin _ _ _ _ hI rfl
   ·simp only [go_sem, hk2, hk0, hn, he]
    rw [if_neg he] at hI
    refine ⟨inR_i64.2 (by omega), k + 1, ⟨by omega, by rw [drop_cons hd]; exact hI⟩, by omega, ?_⟩
    exact le_slots' (by simp only [go_sem, Int.natCast_add, Int.cast_ofNat_Int])
end Go.AM

set_option maxRecDepth 8000
set_option maxHeartbeats 4000000
namespace Go.AM
open Go Go.Proofs

def idxBoR (ds : List D) (v : AV) : Prop := ∃ (l : List Bool) (x : Bool), ds = [.sl none (boolsD l), .bool x] ∧ l.length < 4611686018427387904 ∧ v = .dat (.int .i64 (idxG x 0 l))
theorem idxBo_ok : OkF Try.prog 60 (dataC idxBoR) := by
 refine okF_data Try.func60 rfl (by decide) ?_
 rintro ds v ⟨l, x, rfl, hl, rfl⟩
 generalize hv : idxG x 0 l = V
 refine sem_of_awp (Γ := tbl []) okG_nil _ _ _ ?_
 have fin : ∀ s own (b c : Int), b = c → s.getD 4 .top = .dat (.int .i64 b) → post Try.prog Try.f60 (.dat (.int .i64 c)) [] [] .ret ⟨s, own, 0, []⟩ := fun s own b c e h => by
  subst e
  exact post_data (.inl rfl) [4] rfl trivial (by simp only [tmpsOf, h]; rfl)
 simp only [go_sem, Try.ntmps60]
 refine sem_loop (fun k : Nat => ⟨slotsOf 19 [(0, .dat (.sl none (boolsD l))), (1, .dat (.bool x)), (4, .dat (.int .i64 0)), (7, .dat (.int .i64 l.length)), (8, .dat (.int .i64 k))], [], 0, []⟩)
  (fun k => k ≤ l.length ∧ idxG x k (l.drop k) = V) (fun k => l.length - k) 0 ⟨Nat.zero_le _, hv⟩ ?_ ?_
 ·exact le_slots' (by simp only [go_sem, Int.natCast_zero])
 ·rintro k ⟨hk, hI⟩
  refine sem_of_awp (Γ := tbl []) okG_nil _ _ _ ?_
  cases hd : l.drop k with
  | nil =>
   have := end_of_drop hd hk
   have hk2 : ¬ (k : Int) < l.length := by omega
   simp only [go_sem, hk2]
   refine fin _ _ _ _ ?_ rfl
   rw [← hI, hd]; rfl
  | cons c q =>
   have hlt := lt_of_drop hd
   have hk2 : (k : Int) < l.length := by omega
   have hk0 : (0 : Int) ≤ k := Int.natCast_nonneg k
   have hn := nth_of_drop (f := .bool) hd
   rw [hd, idxG] at hI
   by_cases he : x = c
   ·have hb : (x == c) = true := by simp [he]
    simp only [go_sem, hk2, hk0, hn, hb]
    rw [if_pos he] at hI
    exact fin _ _ _ _ hI rfl
   ·have hb : (x == c) = false := by simp [he]
    simp only [go_sem, hk2, hk0, hn, hb]
    rw [if_neg he] at hI
    refine ⟨inR_i64.2 (by omega), k + 1, ⟨by omega, by rw [drop_cons hd]; exact hI⟩, by omega, ?_⟩
    exact le_slots' (by simp only [go_sem, Int.natCast_add, Int.cast_ofNat_Int])
def contIR (ds : List D) (v : AV) : Prop := ∃ (l : List Nat) (x : Nat), ds = [natlD l, .int .i64 x] ∧ l.length ≤ 10000 ∧ v = .dat (.bool (l.contains x))
abbrev tabCI : List (Nat × Contract) := [(103, dataC idxIR)]
theorem tabCI_ok : OkG Try.prog (tbl tabCI) := okG_cons idxI_ok okG_nil
theorem idxG_ge {l : List Nat} {x : Nat} {i : Nat} : decide (0 ≤ idxG (x : Int) i (l.map Int.ofNat)) = l.contains x := by
 rw [Bool.eq_iff_iff, decide_eq_true_iff, idxG_mem]
 simp only [List.mem_map, List.contains_iff_mem]
 constructor
 ·rintro ⟨a, h1, h2⟩
  have : a = x := by have h2' : (a : Int) = x := h2; omega
  exact this ▸ h1
 ·exact fun h => ⟨x, h, rfl⟩
theorem contI_ok : OkF Try.prog 86 (dataC contIR) := by
 refine okF_data Try.func86 rfl (by decide) ?_
 rintro ds v ⟨l, x, rfl, hl, rfl⟩
 refine sem_of_awp (Γ := tbl tabCI) tabCI_ok _ _ _ ?_
 simp only [go_sem, Int.reduceEq, Int.reduceLT, Int.reduceLE, eq_self, Int.natCast_nonneg, Int.toNat_natCast, Try.ntmps86, natlD]
 have e : natsD l = (l.map Int.ofNat).map (.int .i64) := by simp [natD]
 refine call_data idxIR (by simp) [natlD l, .int .i64 x] _ rfl ⟨l.map Int.ofNat, x, by rw [← e], by rw [List.length_map]; omega, rfl⟩ (.inl rfl) ?_
 simp only [go_sem, Int.reduceEq, Int.reduceLT, Int.reduceLE, eq_self, Int.natCast_nonneg, Int.toNat_natCast, idxG_ge]
 exact post_data (.inl rfl) [4] rfl trivial rfl
abbrev natsR' (l : List Nat) : D := .sl none (natsD l)
abbrev rowsN' (M : List (List Nat)) : List (List D) := M.map natsD
theorem rowsN'_len {M : List (List Nat)} : (rowsN' M).length = M.length := by simp
theorem rowsN'_sl {M : List (List Nat)} : (rowsN' M).map (D.sl none) = natssD M := by simp [List.map_map, Function.comp_def]
theorem rowsN'_getD {M : List (List Nat)} {i : Nat} : (rowsN' M).getD i [] = natsD (M.getD i []) := by
 simp only [List.getD_eq_getElem?_getD, List.getElem?_map]; cases M[i]? <;> rfl
theorem rowsN'_set {M : List (List Nat)} {i : Nat} {r : List Nat} : (rowsN' M).set i (natsD r) = rowsN' (M.set i r) := by simp [List.map_set]
theorem natss_nth {M : List (List Nat)} {i : Nat} (h : i < M.length) : D.nth (natssD M) i = natlD (M.getD i []) := D.nth_map h
def freeR (aa : List AV) (obs : List Obj) (v : AV) (obs' ex : List Obj) (mv : List Nat) : Prop := ∃ (g : Gr) (ab nx : List (List Nat)) (w : Nat) (B : Nat → Bool), aa = [.rptr (some 5) (grD g ab nx), .dat (.int .i64 w)] ∧ FrOk g.st.length ab nx ∧ w < 1000 ∧ (∀ i, i < g.st.length → (B i = true ↔ Fre ab nx w i)) ∧
 obs = [] ∧ obs' = [] ∧ ex = [] ∧ mv = [] ∧ v = .dat (.sl none (boolsD (rngB g.st.length B)))
abbrev tabFR : List (Nat × Contract) := [(86, dataC contIR)]
theorem tabFR_ok : OkG Try.prog (tbl tabFR) := okG_cons contI_ok okG_nil
theorem free_ok : OkF Try.prog 61 (lentC freeR) := by
 refine okF_lent Try.func61 rfl (by decide) ?_
 rintro aa obs v0 obs' ex mv0 ⟨g, ab, nx, w, B, rfl, hF, hw, hB, rfl, rfl, rfl, rfl, rfl⟩
 generalize hn : g.st.length = n at *
 have hn4 := hF.n4
 have hla := hF.la
 have hln := hF.ln
 refine sem_of_awpK [4] (Γ := tbl tabFR) tabFR_ok _ _ _ ?_
 simp only [go_sem, Int.reduceEq, Int.reduceLT, Int.reduceLE, eq_self, Int.natCast_nonneg, Int.toNat_natCast, Try.ntmps61, grD, sts_len, hn]
 refine ⟨Int.le_refl _, by omega, Int.le_refl _, by omega, ?_⟩
 rw [rngB_rep]
 refine sem_le (le_addnil 7 none rfl (Nat.zero_le _)) ?_
 refine sem_le (le_nilsF 0 none n rfl (Nat.zero_le _)) ?_
 have hpre : ∀ (x y z : Obj) (M : List AV), (([x, y] ++ [z]).set 0 (Obj.vec (famR ([x, y] ++ [z]).length (List.replicate n [])))) ++ famO none (List.replicate n []) = .vec (famR 3 (List.replicate n [])) :: y :: z :: famO none (List.replicate n []) := fun _ _ _ _ => rfl
 rw [hpre _ _ _ []]
 refine sem_of_awp (Γ := tbl tabFR) tabFR_ok _ _ _ ?_
 simp only [go_sem, Int.reduceEq, Int.reduceLT, Int.reduceLE, eq_self, Int.natCast_nonneg, Int.toNat_natCast, natss_len, hln]
 generalize hGD : D.agg [D.sl (some 1) (stsD g.st), D.sl none (natssD ab), D.sl none (natssD nx), D.sl none (intsD g.frm), D.sl none (intsD g.who)] = GD
 refine sem_loop (fun p : Nat × List (List Nat) × (Nat → Bool) × List Nat => ⟨slotsOf 100 [(0, .rptr (some 5) GD), (1, .dat (.int .i64 w)), (5, .sl 0 0 n), (6, .sl 1 0 n), (7, .sl 2 0 p.2.2.2.length), (29, .dat (.sl none (natssD nx))), (30, .dat (.int .i64 n)), (31, .dat (.int .i64 p.1))],
   .vec (famR 3 (rowsN' p.2.1)) :: .row none (boolsD (rngB n p.2.2.1)) :: .row none (natsD p.2.2.2) :: famO none (rowsN' p.2.1), 0, []⟩)
  (fun p => p.1 ≤ n ∧ BefOk n nx p.1 [] p.2.1 ∧ Fst n p.1 ab w p.2.2.1 p.2.2.2) (fun p => n - p.1) (0, List.replicate n [], fun _ => false, []) ⟨Nat.zero_le _, bef0, fst0⟩ ?_ ?_
 ·simp only [rowsN', List.map_replicate, natsD, List.map_nil, List.length_nil]
  exact le_slots' (by simp only [go_sem, Int.natCast_zero])
 rintro ⟨k, M, B1, q⟩ ⟨hk, hM, hB1⟩
 simp only at hk hM hB1 ⊢
 rcases Nat.lt_or_ge k n with hlt | hge
 case inr =>
  obtain rfl : k = n := by omega
  have hk2 : ¬ (k : Int) < k := by omega
  have hMn : (natssD M).length = k := by rw [natss_len, hM.len]
  have hMt : List.take k (natssD M) = natssD M := List.take_of_length_le (by rw [hMn]; exact Nat.le_refl _)
  have hS := hB1.fin hla (nx := nx)
  have hcnt := hB1.cnt
  have hMk := hM
  have hS0 := hS
  have hcnt0 := hcnt
  refine sem_le (le_famEnd (pre := [.vec (famR 3 (rowsN' M)), .row none (boolsD (rngB k B1)), .row none (natsD q)]) (s' := slotsOf 100 [(0, .rptr (some 5) GD), (1, .dat (.int .i64 w)), (5, .dat (.sl none (natssD M))), (6, .sl 1 0 k), (7, .sl 2 0 q.length), (30, .dat (.int .i64 k)), (31, .dat (.int .i64 k))]) (pre' := [.dead, .row none (boolsD (rngB k B1)), .row none (natsD q)]) 0 rfl (Nat.zero_le _) rfl ?_ ?_ ?_) ?_
  ·rw [rowsN'_sl]
   have f1 : ∀ x : AV, x = .rptr (some 5) GD → frzF none 3 (rowsN' M) x = .rptr (some 5) GD := fun x hx => by subst hx; exact frzF_other none _ _ _ (fun _ _ _ _ => rfl)
   simp only [go_sem, frzFs, frzF_dat, frzF_top, frzF_nils, frzF_sl, f1, AV.frzs, AV.frz, Nat.lt_irrefl, Nat.zero_lt_succ, true_or, List.drop_zero, hMn, hMt, Nat.zero_add, Nat.le_refl, if_true, List.length_cons, List.length_nil, Nat.reduceAdd, Nat.reduceLT]
  ·simp only [go_sem]
  ·simp only [go_sem, Obj.allUnder, Obj.under]
  clear hM hB1 hcnt hS hk
  have hM : BefOk k nx k [] M := hMk
  have hS : Snd k ab nx w B1 q none [] := hS0
  have hcnt : 2 * cntF k B1 + q.length ≤ 2 * k := hcnt0
  refine sem_of_awp (Γ := tbl tabFR) tabFR_ok _ _ _ ?_
  simp only [go_sem, Int.reduceEq, Int.reduceLT, Int.reduceLE, eq_self, Int.natCast_nonneg, Int.toNat_natCast, hk2]
  refine sem_loop (fun p : List Nat × List Nat × (Nat → Bool) => ⟨slotsOf 100 [(5, .dat (.sl none (natssD M))), (6, .sl 1 0 k), (7, .sl 2 p.1.length p.2.1.length)], [.dead, .row none (boolsD (rngB k p.2.2)), .row none (natsD (p.1 ++ p.2.1))], 0, []⟩)
   (fun p => Snd k ab nx w p.2.2 p.2.1 none [] ∧ 2 * cntF k p.2.2 + p.2.1.length ≤ 2 * k ∧ p.1.length + p.2.1.length ≤ 100000) (fun p => 2 * cntF k p.2.2 + p.2.1.length) ([], q, B1) ⟨hS, hcnt, by simp only [List.length_nil]; omega⟩ ?_ ?_
  ·exact le_slots' (by simp only [go_sem])
  clear hS hcnt hS0 hcnt0 hMk
  rintro ⟨pre, qq, B2⟩ ⟨hS, hcnt, hlen⟩
  simp only at hS hcnt hlen ⊢
  cases qq with
  | nil =>
   have hfin : rngB k B2 = rngB k B := rngB_congr fun j hj => by
    rw [Bool.eq_iff_iff, hS.done j, hB j hj]
   rw [hfin]
   refine sem_le (le_freeze 1 (ag := none) rfl (Nat.zero_le _)) ?_
   refine sem_of_awp (Γ := tbl tabFR) tabFR_ok _ _ _ ?_
   have h1 : List.take k (boolsD (rngB k B)) = boolsD (rngB k B) := List.take_of_length_le (by simp)
   have h0 : ¬ (0 : Int) < 0 := by omega
   simp only [go_sem, Int.reduceEq, Int.reduceLT, Int.reduceLE, eq_self, Int.natCast_nonneg, Int.toNat_natCast, h0, h1, bools_len, rngB_len, Nat.le_refl, List.drop_zero, List.length_nil, Int.natCast_zero]
   exact post_data (.inl rfl) [4] rfl trivial rfl
  | cons v r =>
  have hv := (hS.snd v (hS.qm v (by simp))).1
  have hv2 : (v : Int) < k := by omega
  have hv0 : (0 : Int) ≤ v := Int.natCast_nonneg v
  have hp1 : (0 : Int) < ((r.length + 1 : Nat) : Int) := by omega
  have hp2 : 0 < r.length + 1 := by omega
  have hp3 : pre.length < (natsD (pre ++ v :: r)).length := by simp
  have hqn : D.nth (natsD (pre ++ v :: r)) pre.length = .int .i64 v := by simp [D.nth, natD]
  have hMv : D.nth (natssD M) v = natlD (M.getD v []) := natss_nth (by rw [hM.len]; exact hv)
  have hlb := hM.bnd v
  simp only [List.length_nil, Nat.add_zero] at hlb
  have hlm := hM.mem v
  generalize M.getD v [] = l at *
  refine sem_of_awp (Γ := tbl tabFR) tabFR_ok _ _ _ ?_
  simp only [go_sem, Int.reduceEq, Int.reduceLT, Int.reduceLE, eq_self, Int.natCast_nonneg, Int.toNat_natCast, hp1, hp2, hqn, hv2, hv0, hMn, hMv, natlD, nats_len]
  refine ⟨by omega, ?_⟩
  refine sem_loop (fun p : Nat × List Nat × List Nat × (Nat → Bool) => ⟨slotsOf 100 [(5, .dat (.sl none (natssD M))), (6, .sl 1 0 k), (7, .sl 2 p.2.1.length (p.2.2.1.length + 1)), (80, .dat (.sl none (natsD l))), (81, .dat (.int .i64 l.length)), (82, .dat (.int .i64 p.1))], [.dead, .row none (boolsD (rngB k p.2.2.2)), .row none (natsD (p.2.1 ++ v :: p.2.2.1))], 0, []⟩)
   (fun p => p.1 ≤ l.length ∧ Snd k ab nx w p.2.2.2 p.2.2.1 (some v) (l.take p.1) ∧ 2 * cntF k p.2.2.2 + (p.2.2.1.length + 1) ≤ 2 * cntF k B2 + (r.length + 1) ∧ p.2.1.length + (p.2.2.1.length + 1) ≤ 100000) (fun p => l.length - p.1) (0, pre, r, B2) ⟨Nat.zero_le _, by simpa using hS.start, by simp only; omega, by simp only [List.length_cons] at hlen ⊢; omega⟩ ?_ ?_
  ·exact le_slots' (by simp only [go_sem, Int.natCast_zero])
  rintro ⟨j, pre2, r2, B3⟩ ⟨hj, hS3, hcnt3, hlen3⟩
  simp only at hj hS3 hcnt3 hlen3 ⊢
  simp only [List.length_cons] at hcnt hlen
  refine sem_of_awp (Γ := tbl tabFR) tabFR_ok _ _ _ ?_
  cases hd : l.drop j with
  | nil =>
   obtain rfl : j = l.length := end_of_drop hd hj
   have hj2 : ¬ (l.length : Int) < l.length := by omega
   rw [List.take_length] at hS3
   have hs1 : (1 : Int) ≤ ((r2.length + 1 : Nat) : Int) := by omega
   have hs2 : (((r2.length + 1 : Nat) : Int) - 1).toNat = r2.length := by omega
   simp only [go_sem, Int.reduceEq, Int.reduceLT, Int.reduceLE, eq_self, Int.natCast_nonneg, Int.toNat_natCast, hj2, hs1, hs2, Int.le_refl]
   have hst := hS3.stop fun i hi => (hlm i hv).2 (.inl ⟨by
    rcases Nat.lt_or_ge i k with h1 | h1
    ·exact h1
    ·rw [List.getD_eq_getElem?_getD, List.getElem?_eq_none (by omega)] at hi
     simp at hi, hi⟩)
   refine ⟨(pre2 ++ [v], r2, B3), ⟨hst, by simp only; omega, by simp only [List.length_append, List.length_cons, List.length_nil]; omega⟩, by simp only [List.length_cons]; omega, ?_⟩
   simp only [List.append_assoc, List.cons_append, List.nil_append, List.length_append, List.length_cons, List.length_nil]
   exact le_slots' (by simp only [go_sem])
  | cons i r3 =>
  have hltj := lt_of_drop hd
  have hj2 : (j : Int) < l.length := by omega
  have hj0 : (0 : Int) ≤ j := Int.natCast_nonneg j
  have hin : D.nth (natsD l) j = .int .i64 i := nth_of_drop hd
  have hi := (hlm i hv).1 (mem_of_drop hd)
  simp only [List.not_mem_nil, and_false, or_false] at hi
  obtain ⟨hik, hiv⟩ := hi
  have hi2 : (i : Int) < k := by omega
  have hi0 : (0 : Int) ≤ i := Int.natCast_nonneg i
  have hbn : D.nth (boolsD (rngB k B3)) i = .bool (B3 i) := rngB_get hik
  cases hb : B3 i with
  | true =>
   rw [hb] at hbn
   have hS4 := hS3.old hb
   rw [← take_of_drop hd] at hS4
   simp only [go_sem, Int.reduceEq, Int.reduceLT, Int.reduceLE, eq_self, Int.natCast_nonneg, Int.toNat_natCast, hj2, hj0, hltj, hin, nats_len, hik, hi2, hi0, hbn, bools_len, rngB_len]
   refine ⟨inR_i64.2 (by omega), (j + 1, pre2, r2, B3), ⟨hltj, hS4, hcnt3, hlen3⟩, by simp only; omega, ?_⟩
   exact le_slots' (by simp only [go_sem, Int.natCast_add, Int.cast_ofNat_Int])
  | false =>
   rw [hb] at hbn
   have hS4 := hS3.new hiv hik
   rw [← take_of_drop hd] at hS4
   have hset := rngB_upd (B := B3) hik
   have hcu := cntF_upd hik hb
   have hdt : List.take (r2.length + 1) (List.drop pre2.length (natsD (pre2 ++ v :: r2))) = natsD (v :: r2) := by
    rw [natsD, List.map_append, List.drop_left' (by simp)]
    exact List.take_of_length_le (by simp)
   have hln3 : (natsD (pre2 ++ v :: r2)).length = pre2.length + (r2.length + 1) := by simp
   simp only [go_sem, Int.reduceEq, Int.reduceLT, Int.reduceLE, eq_self, Int.natCast_nonneg, Int.toNat_natCast, hj2, hj0, hltj, hin, nats_len, hik, hi2, hi0, hbn, bools_len, rngB_len, hset, hdt, hln3, Nat.le_refl]
   refine ⟨by omega, by omega, inR_i64.2 (by omega), (j + 1, [], r2 ++ [i], updB B3 i), ⟨hltj, hS4, by simp only [List.length_append, List.length_cons, List.length_nil]; omega, by simp only [List.length_append, List.length_cons, List.length_nil]; omega⟩, by simp only; omega, ?_⟩
   have hqa : natsD ([] ++ v :: (r2 ++ [i])) = natD v :: (List.map natD r2 ++ [D.int .i64 i]) := by simp
   simp only [hqa, List.length_append, List.length_cons, List.length_nil]
   refine le_end (own := [_, _, _]) (ex := [_]) (Nat.zero_le _) ?_ ?_ ?_
   ·simp only [go_sem, Int.natCast_add, Int.cast_ofNat_Int]
   ·simp only [go_sem]
   ·simp only [go_sem, Obj.allUnder, Obj.under, AV.unders, AV.under]
 have hk2 : (k : Int) < n := by omega
 have hk0 : (0 : Int) ≤ k := Int.natCast_nonneg k
 obtain ⟨hl24, hlw⟩ := hF.rn (nx.getD k []) (by rw [List.getD_eq_getElem?_getD, List.getElem?_eq_getElem (by omega)]; exact List.getElem_mem _)
 have hln2 : D.nth (natssD nx) k = natlD (nx.getD k []) := natss_nth (by omega)
 generalize hl : nx.getD k [] = l at *
 refine sem_of_awp (Γ := tbl tabFR) tabFR_ok _ _ _ ?_
 simp only [go_sem, Int.reduceEq, Int.reduceLT, Int.reduceLE, eq_self, Int.natCast_nonneg, Int.toNat_natCast, hk2, hk0, hlt, hln2, natlD, natss_len, nats_len, hln]
 refine sem_loop (fun p : Nat × List (List Nat) => ⟨slotsOf 100 [(0, .rptr (some 5) GD), (1, .dat (.int .i64 w)), (5, .sl 0 0 n), (6, .sl 1 0 n), (7, .sl 2 0 q.length), (8, .dat (.int .i64 k)), (29, .dat (.sl none (natssD nx))), (30, .dat (.int .i64 n)), (31, .dat (.int .i64 k)), (36, .dat (.sl none (natsD l))), (37, .dat (.int .i64 l.length)), (38, .dat (.int .i64 p.1))],
   .vec (famR 3 (rowsN' p.2)) :: .row none (boolsD (rngB n B1)) :: .row none (natsD q) :: famO none (rowsN' p.2), 0, []⟩)
  (fun p => p.1 ≤ l.length ∧ BefOk n nx k (l.take p.1) p.2) (fun p => l.length - p.1) (0, M) ⟨Nat.zero_le _, by rw [List.take_zero]; exact hM⟩ ?_ ?_
 ·exact le_slots' (by simp only [go_sem, Int.natCast_zero])
 clear hM
 rintro ⟨j, M⟩ ⟨hj, hM⟩
 simp only at hj hM ⊢
 refine sem_of_awp (Γ := tbl tabFR) tabFR_ok _ _ _ ?_
 cases hd : l.drop j with
 | nil =>
  obtain rfl : j = l.length := end_of_drop hd hj
  have hj2 : ¬ (l.length : Int) < l.length := by omega
  rw [List.take_length] at hM
  have hab1 : D.nth (natssD ab) k = natlD (ab.getD k []) := natss_nth (by omega)
  have hab2 : (ab.getD k []).length ≤ 24 := hF.ra _ (by rw [List.getD_eq_getElem?_getD, List.getElem?_eq_getElem (by omega)]; exact List.getElem_mem _)
  simp only [go_sem, Int.reduceEq, Int.reduceLT, Int.reduceLE, eq_self, Int.natCast_nonneg, Int.toNat_natCast, hj2, hab1, hk2, hk0, hlt, natss_len, hla, ← hGD]
  refine call_data contIR (by simp) [natlD (ab.getD k []), .int .i64 w] _ rfl ⟨_, w, rfl, by omega, rfl⟩ (.inl rfl) ?_
  cases hc : (ab.getD k []).contains w with
  | true =>
   have hmem : w ∈ ab.getD k [] := by simpa using hc
   have hB1' : B1 k = false := by
    cases hb : B1 k with
    | false => rfl
    | true => have := ((hB1.b k).1 hb).1; omega
   have hq1 := hB1.cnt
   have hset := rngB_upd (B := B1) hlt
   have hqt : List.take q.length (natsD q) = natsD q := nats_take
   have hqa : natsD (q ++ [k]) = natsD q ++ [D.int .i64 k] := by simp
   have hkR := famR_kills 3 (rowsN' M) 2 (.inl (by omega))
   simp only [go_sem, Int.reduceEq, Int.reduceLT, Int.reduceLE, eq_self, Int.natCast_nonneg, Int.toNat_natCast, hk2, hk0, hlt, bools_len, rngB_len, hset, hqt, nats_len, Nat.le_refl, hkR, famO_kill, famO_killP, getA0, lenA1]
   refine ⟨by omega, by omega, inR_i64.2 (by omega), (k + 1, M, updB B1 k, q ++ [k]), ⟨hlt, hM.next hl hl24, hB1.yes hlt hmem⟩, by simp only; omega, ?_⟩
   simp only [hqa, List.length_append, List.length_cons, List.length_nil]
   refine le_endF (pre := [_, _, _]) (Nat.zero_le _) ?_ ?_ ?_
   ·simp only [go_sem, Int.natCast_add, Int.cast_ofNat_Int]
   ·simp only [go_sem]
   ·refine ⟨famR_under _ _ _ (by simp only [List.length_cons, List.length_nil]; omega), trivial, trivial, trivial⟩
  | false =>
   have hmem : ¬ w ∈ ab.getD k [] := by simpa using hc
   simp only [go_sem, Int.reduceEq, Int.reduceLT, Int.reduceLE, eq_self, Int.natCast_nonneg, Int.toNat_natCast]
   refine ⟨inR_i64.2 (by omega), (k + 1, M, B1, q), ⟨hlt, hM.next hl hl24, hB1.no hmem⟩, by simp only; omega, ?_⟩
   exact le_slots' (by simp only [go_sem, Int.natCast_add, Int.cast_ofNat_Int])
 | cons v r =>
 have hltj := lt_of_drop hd
 have hj2 : (j : Int) < l.length := by omega
 have hj0 : (0 : Int) ≤ j := Int.natCast_nonneg j
 have hvn : D.nth (natsD l) j = .int .i64 v := nth_of_drop hd
 have hv := hlw v (mem_of_drop hd)
 have hv2 : (v : Int) < n := by omega
 have hv0 : (0 : Int) ≤ v := Int.natCast_nonneg v
 have hMl : v < (rowsN' M).length := by rw [rowsN'_len, hM.len]; exact hv
 have hrow := rowsN'_getD (M := M) (i := v)
 have hR := famR_at (b := 3) hMl
 rw [hrow] at hR
 have hO := famO_get0 (ag := none) hMl
 rw [hrow] at hO
 have hK := famR_killA (b := 3) hMl
 have hS := fun l' => famO_setA (ag := none) (l := l') hMl
 have hFl := famR_length 3 (rowsN' M)
 rw [rowsN'_len, hM.len] at hFl
 have hne : ¬ (famO none (rowsN' M)).length = v := by rw [famO_length, rowsN'_len, hM.len]; omega
 have hne0 : ¬ 0 = v + 3 := by omega
 have hne1 : ¬ 1 = v + 3 := by omega
 have hne2 : ¬ 2 = v + 3 := by omega
 have hbnd := hM.bnd v
 have hMp := hM.push hv
 rw [← take_of_drop hd] at hMp
 have hltj24 : (l.take j).length ≤ 24 := by rw [List.length_take]; omega
 simp only [go_sem, Int.reduceEq, Int.reduceLT, Int.reduceLE, eq_self, Int.natCast_nonneg, Int.toNat_natCast, hj2, hj0, hltj, hvn, nats_len, hv, hv2, hv0, hR, hFl, hO, hK, hS, hne, hne0, hne1, hne2, getA0, getA1, setA0, lenA1, famO_getP hMl, famO_setP hMl, hrow, famO_kill, famO_killP, List.append_assoc, List.cons_append, List.nil_append, List.set_set, nats_take, if_false]
 refine ⟨by omega, by omega, inR_i64.2 (by omega), (j + 1, M.set v (M.getD v [] ++ [k])), ⟨by simp only; omega, hMp⟩, by simp only; omega, ?_⟩
 have hnk : natsD (M.getD v []) ++ [D.int .i64 k] = natsD (M.getD v [] ++ [k]) := by simp
 rw [hnk, famR_setA (l := natsD (M.getD v [] ++ [k])) (by simp), rowsN'_set]
 refine le_endF (pre := [_, _, _]) (Nat.zero_le _) ?_ ?_ ?_
 ·simp only [go_sem, Int.natCast_add, Int.cast_ofNat_Int]
 ·simp only [go_sem]
 ·refine ⟨famR_under _ _ _ (by simp only [List.length_cons, List.length_nil]; omega), trivial, trivial, trivial⟩
end Go.AM

set_option maxRecDepth 8000
set_option maxHeartbeats 4000000
namespace Go.AM
open Go Go.Proofs

def revG (l : List Int) (k p : Nat) : Int := if p < k ∨ l.length ≤ p + k then l.getD (l.length - 1 - p) 0 else l.getD p 0
theorem rngM_of (l : List Int) : rngM l.length (fun p => l.getD p 0) = l := by
 refine List.ext_getElem (by simp) fun i h1 h2 => ?_
 simp [List.getD_eq_getElem?_getD, h2]
theorem revG_0 (l : List Int) : rngM l.length (revG l 0) = l := by
 refine (rngM_congr fun p hp => ?_).trans (rngM_of l)
 unfold revG; rw [if_neg (by omega)]
theorem revG_end (l : List Int) {k : Nat} (h : l.length ≤ 2 * k + 1) : rngM l.length (revG l k) = l.reverse := by
 refine List.ext_getElem (by simp) fun i h1 h2 => ?_
 simp only [List.length_reverse] at h2
 simp only [List.getElem_map, List.getElem_range, List.getElem_reverse, revG]
 split
 ·rw [List.getD_eq_getElem?_getD, List.getElem?_eq_getElem (by omega)]; rfl
 ·rw [List.getD_eq_getElem?_getD, List.getElem?_eq_getElem (by omega), Option.getD_some]
  congr 1; omega
def revR (aa : List AV) (obs : List Obj) (v : AV) (obs' ex : List Obj) (mv : List Nat) : Prop := ∃ l : List Int, aa = [.sl 0 0 l.length] ∧ obs = [.row none (intsD l)] ∧ l.length ≤ 100000 ∧ obs' = [.row none (intsD l.reverse)] ∧ ex = [] ∧ mv = [] ∧ v = .tup []
theorem reverse_ok : OkF Try.prog 62 (lentC revR) := by
 refine okF_lent Try.func62 rfl (by decide) ?_
 rintro aa obs v0 obs' ex mv0 ⟨l, rfl, rfl, hl, rfl, rfl, rfl, rfl⟩
 refine sem_of_awp (Γ := tbl []) okG_nil _ _ _ ?_
 simp only [go_sem, Int.reduceEq, Int.reduceLT, Int.reduceLE, eq_self, Int.natCast_nonneg, Int.toNat_natCast, Try.ntmps62]
 refine ⟨inR_i64.2 (by omega), ?_⟩
 refine sem_loop (fun k : Nat => ⟨slotsOf 28 [(0, .sl 0 0 l.length), (2, .dat (.int .i64 k)), (3, .dat (.int .i64 ((l.length : Int) - 1 - k)))], [.row none (intsD (rngM l.length (revG l k)))], 1, []⟩)
  (fun k => k ≤ l.length) (fun k => l.length - k) 0 (Nat.zero_le _) ?_ ?_
 ·rw [revG_0]
  exact le_slots' (by simp only [go_sem, Int.natCast_zero, Int.sub_zero])
 rintro k hk
 refine sem_of_awp (Γ := tbl []) okG_nil _ _ _ ?_
 by_cases hlt : (k : Int) < (l.length : Int) - 1 - k
 case neg =>
  simp only [go_sem, Int.reduceEq, Int.reduceLT, Int.reduceLE, eq_self, Int.natCast_nonneg, Int.toNat_natCast, hlt]
  rw [revG_end l (by omega)]
  refine post_resO (.inr rfl) [] rfl (fun _ h => h) ?_
  simp only [go_sem]
  exact Le.refl _
 have hk0 : (0 : Int) ≤ k := Int.natCast_nonneg k
 have hk1 : k < l.length := by omega
 have hk1' : (k : Int) < l.length := by omega
 obtain ⟨j, hj⟩ : ∃ j : Nat, (l.length : Int) - 1 - k = j := ⟨l.length - 1 - k, by omega⟩
 have hj0 : (0 : Int) ≤ j := Int.natCast_nonneg j
 have hj1 : j < l.length := by omega
 have hj1' : (j : Int) < l.length := by omega
 rw [hj] at hlt ⊢
 have hgk : D.nth (intsD (rngM l.length (revG l k))) k = .int .i64 (l.getD k 0) := by
  rw [rngM_get hk1, revG, if_neg (by omega)]
 have hgj : D.nth (intsD (rngM l.length (revG l k))) j = .int .i64 (l.getD j 0) := by
  rw [rngM_get hj1, revG, if_neg (by omega)]
 have hs1 : ((intsD (rngM l.length (revG l k))).set k (.int .i64 (l.getD j 0))).set j (.int .i64 (l.getD k 0)) = intsD (rngM l.length (revG l (k + 1))) := by
  rw [rngM_set (g' := fun p => if p = k then l.getD j 0 else revG l k p) hk1 (by simp) (fun i _ hne => by simp [hne])]
  refine rngM_set hj1 ?_ ?_
  ·unfold revG; rw [if_pos (by omega)]
   congr 1; omega
  ·intro i hi hne
   by_cases e : i = k
   ·subst e
    rw [if_pos rfl, revG, if_pos (by omega)]
    congr 1; omega
   ·rw [if_neg e]
    unfold revG
    by_cases h1 : i < k ∨ l.length ≤ i + k
    ·rw [if_pos (by omega), if_pos h1]
    ·rw [if_neg (by omega), if_neg h1]
 simp only [go_sem, Int.reduceEq, Int.reduceLT, Int.reduceLE, eq_self, Int.natCast_nonneg, Int.toNat_natCast, hlt]
 refine sem_drawV [(13, [0]), (15, [0])] [] (pf := []) (mf := []) mixed okG_nil pureNo noMk (ones [0, 1, 2, 3, 4, 5, 6, 7, 8, 9, 10, 11, 12, 13, 14, 15]) (by kernel_rfl) ?_
 simp only [go_sem, Int.reduceEq, Int.reduceLT, Int.reduceLE, eq_self, Int.natCast_nonneg, Int.toNat_natCast, hk0, hk1, hk1', hj0, hj1, hj1', hgk, hgj, hs1, ints_len, rngM_len]
 refine ⟨inR_i64.2 (by omega), inR_i64.2 (by omega), k + 1, by omega, by omega, ?_⟩
 rw [show (j : Int) - 1 = (l.length : Int) - 1 - (k + 1 : Nat) by omega]
 exact le_slots' (by simp only [go_sem, Int.natCast_add, Int.cast_ofNat_Int])

theorem frok_of {s : PSys} {x : PSt} (hV : Valid s x) {g : Gr} {ab nx : List (List Nat)} (h : reachG s x = some (g, ab, nx)) : FrOk g.st.length ab nx := by
 obtain ⟨hG, hcl, hab, hnx⟩ := reach_inv hV h
 have h24 : ∀ z ∈ g.st, (ableL s z).length ≤ 24 := fun z hz => by
  have h1 := able_len s z z.length
  have h2 := (hG.ok.val z hz).l24
  unfold ableL; omega
 refine ⟨hG.ok.le, by rw [hab, List.length_map], by rw [hnx, List.length_map], fun l hl => ?_, fun l hl => ?_⟩
 ·rw [hab] at hl
  obtain ⟨z, hz, rfl⟩ := List.mem_map.1 hl
  exact h24 z hz
 ·rw [hnx] at hl
  obtain ⟨z, hz, rfl⟩ := List.mem_map.1 hl
  refine ⟨by unfold nxRow; rw [List.length_map]; exact h24 z hz, fun v hv => ?_⟩
  unfold nxRow at hv
  obtain ⟨w, hw, rfl⟩ := List.mem_map.1 hv
  obtain ⟨i, hi⟩ := idxS_some (hcl z hz w hw)
  rw [hi, Option.getD_some]
  exact (idxS_lt hi).1
def bestF (n : Nat) (B : Nat → Nat → Bool) : Nat → Int × Nat
 | 0 => (n, 0)
 | m + 1 => if 0 ≤ idxG false 0 (rngB n (B m)) ∧ idxG false 0 (rngB n (B m)) < (bestF n B m).1 then (idxG false 0 (rngB n (B m)), m) else bestF n B m
theorem bestF_le (n : Nat) (B : Nat → Nat → Bool) : ∀ m, 0 ≤ (bestF n B m).1 ∧ (bestF n B m).1 ≤ n
 | 0 => ⟨Int.natCast_nonneg n, Int.le_refl _⟩
 | m + 1 => by
  have ih := bestF_le n B m
  unfold bestF
  split
  ·rename_i h; exact ⟨h.1, by simp only; omega⟩
  ·exact ih
def chainF (g : Gr) : Nat → Nat → List Int
 | 0, _ => []
 | f + 1, i => if i = 0 then [] else g.who.getD i 0 :: chainF g f (g.frm.getD i 0).toNat
theorem chainF_len (g : Gr) : ∀ f i, (chainF g f i).length ≤ f
 | 0, _ => Nat.le_refl _
 | f + 1, i => by
  unfold chainF
  split
  ·exact Nat.zero_le _
  ·rw [List.length_cons]; have := chainF_len g f (g.frm.getD i 0).toNat; omega
def deadV (s : PSys) (B : Nat → Nat → Bool) : List Int × Int × Int := if checkE s ≠ 0 then ([], 0, checkE s) else match reachG s (iniX s) with
 | none => ([], 0, 9)
 | some (g, _, _) => if (bestF g.st.length B (iniX s).length).1 = g.st.length then ([], 0, 6) else ((chainF g 5000 (bestF g.st.length B (iniX s).length).1.toNat).reverse, (bestF g.st.length B (iniX s).length).2, 0)
def TabOk (s : PSys) (x : PSt) (B : Nat → Nat → Bool) : Prop := ∀ g ab nx, reachG s x = some (g, ab, nx) → ∀ w i, i < g.st.length → (B w i = true ↔ Fre ab nx w i)
def deadR (ds : List D) (v : AV) : Prop := ∃ (s : PSys) (B : Nat → Nat → Bool), ds = [sysD s] ∧ s.fit ∧ TabOk s (iniX s) B ∧ v = .tup [.dat (.sl none (intsD (deadV s B).1)), .dat (.int .i64 (deadV s B).2.1), .dat (.int .i64 (deadV s B).2.2)]
abbrev tabXD : List (Nat × Contract) := [(28, dataC startXR), (58, dataC reachR), (61, lentC freeR), (60, dataC idxBoR), (62, lentC revR)]
theorem tabXD_ok : OkG Try.prog (tbl tabXD) := okG_cons xstart_ok (okG_cons xreach_ok (okG_cons free_ok (okG_cons idxBo_ok (okG_cons reverse_ok okG_nil))))
theorem xDeadlock_ok : OkF Try.prog 23 (dataC deadR) := by
 refine okF_data Try.func23 rfl (by decide) ?_
 rintro ds v ⟨s, B, rfl, hf, hB, rfl⟩
 generalize hv : deadV s B = V
 unfold deadV at hv
 refine sem_of_awp (Γ := tbl tabXD) tabXD_ok _ _ _ ?_
 simp only [go_sem, Int.reduceEq, Int.reduceLT, Int.reduceLE, eq_self, Int.natCast_nonneg, Int.toNat_natCast, Try.ntmps23, sysD]
 refine call_data startXR (by simp) [sysD s] _ rfl ⟨s, rfl, hf, rfl⟩ (.inl rfl) ?_
 by_cases he : checkE s = 0
 case neg =>
  rw [if_pos he] at hv
  subst hv
  simp only [go_sem, Int.reduceEq, Int.reduceLT, Int.reduceLE, eq_self, Int.natCast_nonneg, Int.toNat_natCast, he, stD]
  refine post_res (.inl rfl) [.tmp 2, .tmp 3, .tmp 4] rfl ?_
  simp only [go_sem, List.map_nil]
  exact le_fin (by simp only [go_sem]) (by simp only [go_sem])
 have hV := iniX_valid he
 rw [if_neg (by rw [he]; decide)] at hv
 rw [if_pos he, he]
 generalize iniX s = x at *
 have hx24 := hV.l24
 have hxl2 : (stacksD x).length = x.length := by simp
 simp only [go_sem, Int.reduceEq, Int.reduceLT, Int.reduceLE, eq_self, Int.natCast_nonneg, Int.toNat_natCast, stD]
 refine call_data reachR (by simp) [sysD s, stD x] _ rfl ⟨s, x, rfl, hV, rfl⟩ (.inl rfl) ?_
 cases hr : reachG s x with
 | none =>
  rw [hr] at hv
  subst hv
  simp only [reachV, hr]
  simp only [go_sem, Int.reduceEq, Int.reduceLT, Int.reduceLE, eq_self, Int.natCast_nonneg, Int.toNat_natCast]
  refine post_res (.inl rfl) [.tmp 2, .tmp 3, .tmp 4] rfl ?_
  simp only [go_sem, List.map_nil]
  exact le_fin (by simp only [go_sem]) (by simp only [go_sem])
 | some r =>
 obtain ⟨g, ab, nx⟩ := r
 rw [hr] at hv
 simp only at hv
 have hF := frok_of hV hr
 have hG := (reach_inv hV hr).1
 have hB := hB g ab nx hr
 have hn4 := hF.n4
 simp only [reachV, hr, grD]
 simp only [go_sem, Int.reduceEq, Int.reduceLT, Int.reduceLE, eq_self, Int.natCast_nonneg, Int.toNat_natCast, sts_len, hxl2]
 generalize hGD : D.agg [D.sl (some 1) (stsD g.st), D.sl none (natssD ab), D.sl none (natssD nx), D.sl none (intsD g.frm), D.sl none (intsD g.who)] = GD
 refine sem_loop (fun k : Nat => ⟨slotsOf 87 [(7, .rptr (some 5) GD), (9, .dat (.int .i64 (bestF g.st.length B k).1)), (10, .dat (.int .i64 (bestF g.st.length B k).2)), (38, .dat (.int .i64 x.length)), (39, .dat (.int .i64 k))], [sysO s, stO x], 0, []⟩)
  (fun k => k ≤ x.length) (fun k => x.length - k) 0 (Nat.zero_le _) ?_ ?_
 ·exact le_slots' (by simp only [go_sem, Int.natCast_zero, bestF])
 rintro k hk
 refine sem_of_awp (Γ := tbl tabXD) tabXD_ok _ _ _ ?_
 rcases Nat.lt_or_ge k x.length with hlt | hge
 ·have hk2 : (k : Int) < x.length := by omega
  have hbl := bestF_le g.st.length B k
  simp only [go_sem, Int.reduceEq, Int.reduceLT, Int.reduceLE, eq_self, Int.natCast_nonneg, Int.toNat_natCast, hk2]
  have hfr : freeR [.rptr (some 5) GD, .dat (.int .i64 k)] [] (.dat (.sl none (boolsD (rngB g.st.length (B k))))) [] [] [] := ⟨g, ab, nx, k, B k, by rw [← hGD]; rfl, hF, by omega, fun i hi => hB k i hi, rfl, rfl, rfl, rfl, rfl⟩
  refine call_lent freeR (by simp) [] hfr List.nodup_nil (by simp) rfl rfl rfl (by simp only [AV.unders, AV.under, and_self]) (by simp) (by simp) ?_
  simp only [go_sem, Int.reduceEq, Int.reduceLT, Int.reduceLE, eq_self, Int.natCast_nonneg, Int.toNat_natCast]
  refine call_data idxBoR (by simp) [.sl none (boolsD (rngB g.st.length (B k))), .bool false] _ rfl ⟨_, false, rfl, by rw [rngB_len]; omega, rfl⟩ (.inl rfl) ?_
  generalize hat : idxG false 0 (rngB g.st.length (B k)) = a
  by_cases h1 : 0 ≤ a
  ·by_cases h2 : a < (bestF g.st.length B k).1
   ·have hb : bestF g.st.length B (k + 1) = (a, k) := by rw [bestF, hat, if_pos ⟨h1, h2⟩]
    simp only [go_sem, Int.reduceEq, Int.reduceLT, Int.reduceLE, eq_self, Int.natCast_nonneg, Int.toNat_natCast, h1, h2]
    refine ⟨inR_i64.2 (by omega), k + 1, by omega, by omega, ?_⟩
    rw [hb]
    exact le_slots' (by simp only [go_sem, Int.natCast_add, Int.cast_ofNat_Int])
   ·have hb : bestF g.st.length B (k + 1) = bestF g.st.length B k := by rw [bestF, hat, if_neg (by omega)]
    simp only [go_sem, Int.reduceEq, Int.reduceLT, Int.reduceLE, eq_self, Int.natCast_nonneg, Int.toNat_natCast, h1, h2]
    refine ⟨inR_i64.2 (by omega), k + 1, by omega, by omega, ?_⟩
    rw [hb]
    exact le_slots' (by simp only [go_sem, Int.natCast_add, Int.cast_ofNat_Int])
  ·have hb : bestF g.st.length B (k + 1) = bestF g.st.length B k := by rw [bestF, hat, if_neg (by omega)]
   simp only [go_sem, Int.reduceEq, Int.reduceLT, Int.reduceLE, eq_self, Int.natCast_nonneg, Int.toNat_natCast, h1]
   refine ⟨inR_i64.2 (by omega), k + 1, by omega, by omega, ?_⟩
   rw [hb]
   exact le_slots' (by simp only [go_sem, Int.natCast_add, Int.cast_ofNat_Int])
 obtain rfl : k = x.length := by omega
 have hk2 : ¬ (x.length : Int) < x.length := by omega
 have hbl := bestF_le g.st.length B x.length
 generalize bestF g.st.length B x.length = b at *
 obtain ⟨b, who⟩ := b
 simp only at hv hbl
 by_cases hbn : b = g.st.length
 ·rw [if_pos hbn] at hv
  subst hv
  subst hbn
  simp only [go_sem, Int.reduceEq, Int.reduceLT, Int.reduceLE, eq_self, Int.natCast_nonneg, Int.toNat_natCast, hk2, ← hGD, sts_len]
  refine post_res (.inl rfl) [.tmp 2, .tmp 3, .tmp 4] rfl ?_
  simp only [go_sem, List.map_nil]
  exact le_fin (by simp only [go_sem]) (by simp only [go_sem])
 rw [if_neg hbn] at hv
 simp only [go_sem, Int.reduceEq, Int.reduceLT, Int.reduceLE, eq_self, Int.natCast_nonneg, Int.toNat_natCast, hk2, ← hGD, sts_len, hbn]
 obtain ⟨b, rfl⟩ : ∃ q : Nat, b = q := ⟨b.toNat, by omega⟩
 rw [Int.toNat_natCast] at hv
 have hg1 := hG.ok.l1
 have hg2 := hG.ok.l2
 refine sem_le (le_addnil 13 none rfl (Nat.zero_le _)) ?_
 rw [hGD]
 simp only [go_sem, Int.reduceEq, Int.reduceLT, Int.reduceLE, eq_self, Int.natCast_nonneg, Int.toNat_natCast]
 refine sem_loop (fun p : List Int × Nat × Nat => ⟨slotsOf 87 [(7, .rptr (some 5) GD), (10, .dat (.int .i64 who)), (13, .sl 2 0 p.1.length), (14, .dat (.int .i64 p.2.1))], [sysO s, stO x, .row none (intsD p.1)], 0, []⟩)
  (fun p => p.2.1 < g.st.length ∧ p.1 ++ chainF g p.2.2 p.2.1 = chainF g 5000 b ∧ p.2.1 < p.2.2 ∧ p.1.length + p.2.2 ≤ 5000) (fun p => p.2.1) ([], b, 5000) ⟨by simp only; omega, rfl, by simp only; omega, by simp only [List.length_nil]; omega⟩ ?_ ?_
 ·exact le_slots' (by simp only [go_sem])
 rintro ⟨l, i, f⟩ ⟨hi, hch, hif, hlf⟩
 simp only at hi hch hif hlf ⊢
 obtain ⟨f, rfl⟩ : ∃ f', f = f' + 1 := ⟨f - 1, by omega⟩
 rw [chainF] at hch
 by_cases h0 : i = 0
 ·subst h0
  rw [if_pos rfl, List.append_nil] at hch
  subst hch
  subst hv
  have hz : ¬ (0 : Int) < 0 := by omega
  refine sem_of_awp (Γ := tbl tabXD) tabXD_ok _ _ _ ?_
  simp only [go_sem, Int.reduceEq, Int.reduceLT, Int.reduceLE, eq_self, Int.natCast_nonneg, Int.toNat_natCast, Int.natCast_zero, hz]
  have hrv : revR [.sl 0 0 (chainF g 5000 b).length] [.row none (intsD (chainF g 5000 b))] (.tup []) [.row none (intsD (chainF g 5000 b).reverse)] [] [] := ⟨_, rfl, rfl, by have := chainF_len g 5000 b; omega, rfl, rfl, rfl, rfl⟩
  refine call_lent revR (by simp) [2] hrv (by simp) (by simp) rfl rfl rfl (by simp only [AV.unders, AV.under, List.length_cons, List.length_nil]; exact ⟨by omega, trivial⟩) (by simp [Obj.under]) (fun j hj => by
   have : j = 0 := by simp only [List.length_cons, List.length_nil] at hj; omega
   subst this; rfl) ?_
  simp only [go_sem, Int.reduceEq, Int.reduceLT, Int.reduceLE, eq_self, Int.natCast_nonneg, Int.toNat_natCast]
  have h1 : List.take (chainF g 5000 b).length (intsD (chainF g 5000 b).reverse) = intsD (chainF g 5000 b).reverse := List.take_of_length_le (by simp)
  have h2 : (chainF g 5000 b).length ≤ (intsD (chainF g 5000 b).reverse).length := by simp
  refine post_res (.inl rfl) [.tmp 2, .tmp 3, .tmp 4] rfl ?_
  simp only [go_sem]
  refine Le.trans (le_freeze 2 (ag := none) rfl (Nat.zero_le _)) ?_
  simp only [go_sem, h1, h2, ints_len, List.drop_zero, List.length_reverse, Nat.le_refl, resV, if_true]
  exact le_fin (by simp only [go_sem]) (by simp only [go_sem])
 ·rw [if_neg h0] at hch
  obtain ⟨a, w, e1, e2, e3, _, _, _⟩ := hG.prov i (by omega) hi
  rw [e1, e2, Int.toNat_natCast] at hch
  have hi1 : (0 : Int) < i := by omega
  have hi0 : (0 : Int) ≤ i := by omega
  have hi2 : (i : Int) < g.st.length := by omega
  have hw1 : D.nth (intsD g.who) i = .int .i64 w := (D.nth_map (f := D.int .i64) (by omega)).trans (by rw [show (default : Int) = 0 from rfl, e2])
  have hf1 : D.nth (intsD g.frm) i = .int .i64 a := (D.nth_map (f := D.int .i64) (by omega)).trans (by rw [show (default : Int) = 0 from rfl, e1])
  have hlt1 : List.take l.length (intsD l) = intsD l := ints_take
  refine sem_of_awp (Γ := tbl tabXD) tabXD_ok _ _ _ ?_
  simp only [go_sem, Int.reduceEq, Int.reduceLT, Int.reduceLE, eq_self, Int.natCast_nonneg, Int.toNat_natCast, hi1, hi0, hi2, hi, ← hGD, hw1, hf1, ints_len, hg1, hg2, hlt1, Nat.le_refl]
  refine ⟨by omega, by omega, (l ++ [(w : Int)], a, f), ⟨by simp only; omega, by simp only [List.append_assoc, List.cons_append, List.nil_append]; exact hch, by simp only; omega, by simp only [List.length_append, List.length_cons, List.length_nil]; omega⟩, by simp only; omega, ?_⟩
  have hla : intsD (l ++ [(w : Int)]) = intsD l ++ [D.int .i64 w] := by simp
  simp only [hla, List.length_append, List.length_cons, List.length_nil]
  refine le_end (own := [_, _, _]) (ex := [_]) (Nat.zero_le _) ?_ ?_ ?_
  ·simp only [go_sem, Int.natCast_add, Int.cast_ofNat_Int]
  ·simp only [go_sem]
  ·simp only [go_sem, Obj.allUnder, Obj.under, AV.unders, AV.under]
end Go.AM

set_option maxRecDepth 8000
set_option maxHeartbeats 4000000
namespace Go.AM
open Go Go.Proofs

abbrev hshX (x : PSt) : Int := hashN (rkeyX x)
def lastH (S : List PSt) (h : Int) : Nat → Int
 | 0 => -1
 | i + 1 => if hshX (S.getD i []) = h then (i : Int) else lastH S h i
theorem idxS_nd {S : List PSt} {t : PSt} {i : Nat} (hn : S.Nodup) (hi : i < S.length) (h : S.getD i [] = t) : idxS S t = some i := by
 have hg : S[i] = t := by rw [← h, List.getD_eq_getElem?_getD, List.getElem?_eq_getElem hi]; rfl
 obtain ⟨j, hj⟩ := idxS_some (S := S) (t := t) (hg ▸ List.getElem_mem hi)
 obtain ⟨hj1, hj2⟩ := idxS_lt hj
 have : j = i := (List.getElem_inj hn).1 (hj2.trans hg.symm)
 rw [hj, this]
abbrev headsL (S : List PSt) : List Int := rngM 1021 fun h => lastH S h S.length
abbrev chainL (S : List PSt) : List Int := rngM S.length fun i => lastH S (hshX (S.getD i [])) i
abbrev keysD (S : List PSt) : List D := S.map fun x => .str (rkeyX x)
abbrev intlD (l : List Int) : D := .sl none (intsD l)
abbrev intssD (L : List (List Int)) : List D := L.map intlD
abbrev rgB (n k : Nat) : Obj := .box [.sl 1 0 n, .sl 2 0 n, .sl 3 0 n, .sl 4 0 1021, .sl 5 0 k, .sl 6 0 n, .sl 7 0 n]
abbrev rgO (g : Gr) (nx : List (List Int)) : List Obj := [rgB g.st.length nx.length, .row (some 1) (stsD g.st), .row none (keysD g.st), .row none (intsD (chainL g.st)), .row none (intsD (headsL g.st)), .row none (intssD nx), .row none (intsD g.frm), .row none (intsD g.who)]
structure RgFit (g : Gr) : Prop where
 l1 : g.frm.length = g.st.length
 l2 : g.who.length = g.st.length
 le : g.st.length ≤ 5000
 nd : g.st.Nodup
 kf : ∀ x ∈ g.st, KFit x
def putF (g : Gr) (t : PSt) (a w : Int) : Gr × Nat := match idxS g.st t with
 | some i => (g, i)
 | none => (⟨g.st ++ [t], g.frm ++ [a], g.who ++ [w]⟩, g.st.length)
def putR (aa : List AV) (obs : List Obj) (v : AV) (obs' ex : List Obj) (mv : List Nat) : Prop := ∃ (g : Gr) (t : PSt) (a w : Int) (nx : List (List Int)), aa = [.ptr 0 0 0, .dat (stD t), .dat (.int .i64 a), .dat (.int .i64 w)] ∧ RgFit g ∧ KFit t ∧ nx.length ≤ 5000 ∧
 obs = rgO g nx ∧ obs' = rgO (putF g t a w).1 nx ∧ ex = [] ∧ mv = [1, 2, 3, 6, 7] ∧ v = .dat (.int .i64 (putF g t a w).2)
abbrev tabPU : List (Nat × Contract) := [(101, dataC rkeyR), (102, dataC hashR)]
end Go.AM

set_option maxRecDepth 8000
set_option maxHeartbeats 4000000
namespace Go.AM
open Go Go.Proofs

def rInG (s : PSys) (k : Nat) (y : PSt) : List Nat → Gr → List Int → Gr × List Int
 | [], g, nx => (g, nx)
 | w :: ws, g, nx => if ableB s y w = true then rInG s k y ws (putF g (takeX s y w) k w).1 (nx ++ [((putF g (takeX s y w) k w).2 : Int)]) else rInG s k y ws g (nx ++ [-1])
def rOutG (s : PSys) (n : Nat) : Nat → Nat → Gr → List (List Int) → Option (Gr × List (List Int))
 | 0, _, g, N => some (g, N)
 | f + 1, k, g, N => if k < g.st.length then
   (if 4096 < (rInG s k (g.st.getD k []) (List.range n) g []).1.st.length then none else rOutG s n f (k + 1) (rInG s k (g.st.getD k []) (List.range n) g []).1 (N ++ [(rInG s k (g.st.getD k []) (List.range n) g []).2]))
  else some (g, N)
def rReachG (s : PSys) (x : PSt) : Option (Gr × List (List Int)) := rOutG s x.length 4200 0 (g0 x) []
def rgD (g : Gr) (N : List (List Int)) : D := .agg [.sl (some 1) (stsD g.st), .sl none (keysD g.st), .sl none (intsD (chainL g.st)), .sl none (intsD (headsL g.st)), .sl none (intssD N), .sl none (intsD g.frm), .sl none (intsD g.who)]
def rReachV (s : PSys) (x : PSt) : AV := match rReachG s x with
 | none => .tup [.top, .dat (.bool false)]
 | some (g, N) => .tup [.rptr (some 7) (rgD g N), .dat (.bool true)]
def rReachR (ds : List D) (v : AV) : Prop := ∃ (s : PSys) (x : PSt), ds = [sysD s, stD x] ∧ Valid s x ∧ v = rReachV s x
structure RInv (s : PSys) (n : Nat) (g : Gr) : Prop where
 l1 : g.frm.length = g.st.length
 l2 : g.who.length = g.st.length
 nd : g.st.Nodup
 val : ∀ x ∈ g.st, Valid s x ∧ x.length = n
theorem RInv.fit {s : PSys} {n : Nat} {g : Gr} (h : RInv s n g) (hl : g.st.length ≤ 5000) : RgFit g := ⟨h.l1, h.l2, hl, h.nd, fun x hx => val_kfit (h.val x hx).1⟩
theorem RInv.put {s : PSys} {n : Nat} {g : Gr} (h : RInv s n g) {t : PSt} (ht : Valid s t) (hn : t.length = n) (a w : Int) : RInv s n (putF g t a w).1 := by
 unfold putF
 cases hi : idxS g.st t with
 | some i => exact h
 | none =>
  refine ⟨by simp [h.l1], by simp [h.l2], ?_, ?_⟩
  ·simp only
   rw [List.nodup_append]
   refine ⟨h.nd, by simp, fun a ha b hb => ?_⟩
   rw [List.mem_singleton] at hb
   subst hb
   rintro rfl
   exact idxS_none.1 hi ha
  ·intro y hy
   rcases List.mem_append.1 hy with hy | hy
   ·exact h.val y hy
   ·rw [List.mem_singleton.1 hy]; exact ⟨ht, hn⟩
abbrev tabEX : List (Nat × Contract) := [(44, dataC rposR), (45, dataC takeR), (85, normC (lentC putR))]
abbrev rgB2 (n k : Nat) : Obj := .box [.sl 3 0 n, .sl 4 0 n, .sl 5 0 n, .sl 6 0 1021, .sl 7 0 k, .sl 8 0 n, .sl 9 0 n]
abbrev rgO2 (s : PSys) (x : PSt) (g : Gr) (N : List (List Int)) : List Obj := [sysO s, stO x, rgB2 g.st.length N.length, .row (some 1) (stsD g.st), .row none (keysD g.st), .row none (intsD (chainL g.st)), .row none (intsD (headsL g.st)), .row none (intssD N), .row none (intsD g.frm), .row none (intsD g.who)]
end Go.AM

set_option maxRecDepth 8000
namespace Go.AM
open Go Go.Proofs

def rEnt (s : PSys) (S : List PSt) (y : PSt) (w : Nat) : Int := if ableB s y w = true then (((idxS S (takeX s y w)).getD 0 : Nat) : Int) else -1
def rRow (s : PSys) (S : List PSt) (y : PSt) : List Int := (List.range y.length).map (rEnt s S y)
structure NOk (n m : Nat) (ab nx : List (List Nat)) (N : List (List Int)) : Prop where
 len : N.length = n
 row : ∀ i, i < n → (N.getD i []).length = m
 ent : ∀ i u, i < n → u < m → -1 ≤ (N.getD i []).getD u 0 ∧ (N.getD i []).getD u 0 < n
 abl : ∀ i w, i < n → w < m → (0 ≤ (N.getD i []).getD w 0 ↔ w ∈ ab.getD i [])
 nxt : ∀ i (j : Nat), i < n → ((∃ u, u < m ∧ (N.getD i []).getD u 0 = j) ↔ j ∈ nx.getD i [])
theorem map_getD {α β : Type} {f : α → β} {l : List α} {i : Nat} {d : β} {e : α} (h : i < l.length) : (l.map f).getD i d = f (l.getD i e) := by
 simp [List.getD_eq_getElem?_getD, List.getElem?_eq_getElem h]
end Go.AM

