/- Own work over the model of the kit. -/
import Derived.Test.YtfiojoacbomncaaG20
import Derived.Test.YtfiojoacbomncaaG19
import Derived.Test.YtfiojoacbomncaaG15
set_option linter.unusedSimpArgs false
set_option linter.unusedVariables false
set_option maxRecDepth 8000
set_option maxHeartbeats 2000000
namespace Go.AM
open Go Go.Proofs

def outI (n : Int) : Bool := decide (n < 0) || decide (4096 < n)
def outR (ds : List D) (v : AV) : Prop := ∃ n : Int, ds = [.int .i64 n] ∧ v = .dat (.bool (outI n))
theorem out_ok : OkF Try.prog 69 (dataC outR) := by
 refine okF_data Try.func69 rfl (by decide) ?_
 rintro ds v ⟨n, rfl, rfl⟩
 refine sem_of_awp (Γ := tbl []) okG_nil _ _ _ ?_
 unfold outI
 by_cases h1 : n < 0
 ·simp only [go_sem, Int.reduceEq, Int.reduceLT, Int.reduceLE, eq_self, Int.natCast_nonneg, Int.toNat_natCast, Try.ntmps69, h1, decide_true, Bool.true_or]
  exact post_data (.inl rfl) [2] rfl trivial rfl
 ·simp only [go_sem, Int.reduceEq, Int.reduceLT, Int.reduceLE, eq_self, Int.natCast_nonneg, Int.toNat_natCast, Try.ntmps69, h1, decide_false, Bool.false_or]
  exact post_data (.inl rfl) [2] rfl trivial rfl
def ixVR (xs : List AV) (obs : List Obj) (v0 : AV) (obs' ex : List Obj) (mv0 : List Nat) : Prop := ∃ (L : List Int), L.length ≤ 10000 ∧
 xs = [.dat (.sl none (intsD L)), .fn 69 []] ∧ obs = [] ∧ v0 = .dat (.int .i64 (fstI (fstL outI 0 L))) ∧ obs' = obs ∧ ex = [] ∧ mv0 = []
abbrev tabIV : List (Nat × Contract) := [(69, dataC outR)]
theorem tabIV_ok : OkG Try.prog (tbl tabIV) := okG_cons out_ok okG_nil
theorem indexOut_ok : OkF Try.prog 77 (lentC ixVR) := by
 refine okF_lent Try.func77 rfl (by decide) ?_
 rintro xs obs v0 obs' ex mv0 ⟨L, hl, rfl, rfl, rfl, rfl, rfl, rfl⟩
 generalize hV : fstL outI 0 L = V
 refine sem_of_awp (Γ := tbl tabIV) tabIV_ok _ _ _ ?_
 simp only [go_sem, Int.reduceEq, Int.reduceLT, Int.reduceLE, eq_self, Int.natCast_nonneg, Int.toNat_natCast, Try.ntmps77, ints_len]
 refine sem_loop (fun k : Nat => ⟨slotsOf 19 [(0, .dat (.sl none (intsD L))), (1, .fn 69 []), (7, .dat (.int .i64 L.length)), (8, .dat (.int .i64 k))], [], 0, []⟩)
  (fun k => k ≤ L.length ∧ fstL outI k (L.drop k) = V) (fun k => L.length - k) 0 ⟨Nat.zero_le _, hV⟩ ?_ ?_
 ·exact le_slots' (by simp only [go_sem, Int.natCast_zero])
 rintro k ⟨hk, hV⟩
 refine sem_of_awp (Γ := tbl tabIV) tabIV_ok _ _ _ ?_
 cases hd : L.drop k with
 | nil =>
  have := end_of_drop hd hk
  have hk2 : ¬ (k : Int) < L.length := by omega
  rw [hd, fstL] at hV
  simp only [go_sem, Int.reduceEq, Int.reduceLT, Int.reduceLE, eq_self, Int.natCast_nonneg, Int.toNat_natCast, hk2]
  exact post_own (.inl rfl) [4] rfl (by rw [← hV]; simp only [tmpsOf]; rfl) (fun _ h => h)
 | cons x r =>
  have hlt := lt_of_drop hd
  have hk2 : (k : Int) < L.length := by omega
  have hk0 : (0 : Int) ≤ k := Int.natCast_nonneg k
  have hn := nth_of_drop (f := .int .i64) hd
  rw [hd, fstL] at hV
  simp only [go_sem, Int.reduceEq, Int.reduceLT, Int.reduceLE, eq_self, Int.natCast_nonneg, Int.toNat_natCast, hk2, hk0, hn, hlt, ints_len]
  refine call_data outR (by simp) _ _ rfl ⟨x, rfl, rfl⟩ (.inl rfl) ?_
  cases hp : outI x with
  | true =>
   rw [hp, if_pos rfl] at hV
   simp only [go_sem, Int.reduceEq, Int.reduceLT, Int.reduceLE, eq_self, Int.natCast_nonneg, Int.toNat_natCast, hp]
   exact post_own (.inl rfl) [4] rfl (by rw [← hV]; simp only [tmpsOf]; rfl) (fun _ h => h)
  | false =>
   rw [hp, if_neg (by decide)] at hV
   simp only [go_sem, Int.reduceEq, Int.reduceLT, Int.reduceLE, eq_self, Int.natCast_nonneg, Int.toNat_natCast, hp]
   refine ⟨inR_i64.2 (by omega), k + 1, ⟨by omega, by rw [drop_cons hd]; exact hV⟩, by omega, ?_⟩
   exact le_slots' (by simp only [go_sem, Int.natCast_add, Int.cast_ofNat_Int])
def hasVR (xs : List AV) (obs : List Obj) (v0 : AV) (obs' ex : List Obj) (mv0 : List Nat) : Prop := ∃ (L : List Int), L.length ≤ 10000 ∧
 xs = [.dat (.sl none (intsD L)), .fn 69 []] ∧ obs = [] ∧ v0 = .dat (.bool (L.any outI)) ∧ obs' = obs ∧ ex = [] ∧ mv0 = []
theorem fst_any {L : List Int} : decide (0 ≤ fstI (fstL outI 0 L)) = L.any outI := by
 cases h : fstL outI 0 L with
 | none =>
  have := fstL_none.1 h
  rw [Bool.eq_iff_iff, List.any_eq_true, decide_eq_true_eq]
  constructor
  ·intro hh; simp [fstI] at hh
  ·rintro ⟨x, hx, hx2⟩; rw [this x hx] at hx2; cases hx2
 | some j =>
  obtain ⟨i, x, _, h2, h3⟩ := fstL_some h
  rw [Bool.eq_iff_iff, List.any_eq_true, decide_eq_true_eq]
  exact ⟨fun _ => ⟨x, List.mem_of_getElem? h2, h3⟩, fun _ => by simp [fstI]⟩
theorem hasOut_ok : OkF Try.prog 49 (lentC hasVR) := by
 refine okF_lent Try.func49 rfl (by decide) ?_
 rintro xs obs v0 obs' ex mv0 ⟨L, hl, rfl, rfl, rfl, rfl, rfl, rfl⟩
 refine sem_of_awp (Γ := tbl [(77, pureOf (lentC ixVR))]) (okG_cons (okF_pureOf indexOut_ok) okG_nil) _ _ _ ?_
 simp only [go_sem, Int.reduceEq, Int.reduceLT, Int.reduceLE, eq_self, Int.natCast_nonneg, Int.toNat_natCast, Try.ntmps49]
 refine call_lentP ixVR (by simp) [] ⟨L, hl, rfl, rfl, rfl, rfl, rfl, rfl⟩ (by decide) (by simp) rfl rfl (by simp only [go_sem]) (by simp) (fun j hj => by simp at hj) ?_
 simp only [go_sem, Int.reduceEq, Int.reduceLT, Int.reduceLE, eq_self, Int.natCast_nonneg, Int.toNat_natCast, fst_any]
 exact post_own (.inl rfl) [4] rfl (by simp only [tmpsOf]; rfl) (fun _ h => h)
def badV (L : List Int) (e : PEdge) : Bool := decide (L.getD e.s 0 ≤ L.getD e.t 0)
def verN (s : PSys) (L : List Int) : Int :=
 if checkE s ≠ 0 then checkE s else if L.length ≠ nRes s ∨ L.any outI = true then 3 else if (impO s).isSome = true then 9 else if (sysE s).any (badV L) = true then 19 else 0
def verR (ds : List D) (v : AV) : Prop := ∃ (s : PSys) (L : List Int), ds = [sysD s, .agg [.sl none (intsD L)]] ∧ s.fit ∧ L.length ≤ 10000 ∧ v = .dat (.int .i64 (verN s L))
abbrev tabVE : List (Nat × Contract) := [(65, dataC edgesR), (66, dataC impVR), (68, dataC resR), (49, pureOf (lentC hasVR))]
theorem tabVE_ok : OkG Try.prog (tbl tabVE) := okG_cons edges_ok (okG_cons Impossible_ok (okG_cons resources_ok (okG_cons (okF_pureOf hasOut_ok) okG_nil)))
theorem pureVE : PureFns (tbl tabVE) [68, 49] := by
 refine pure_of2 fun g C hm hg => ?_
 simp only [List.mem_cons, List.not_mem_nil, or_false, Prod.mk.injEq] at hm
 rcases hm with ⟨_, rfl⟩ | ⟨_, rfl⟩ | ⟨_, rfl⟩ | ⟨_, rfl⟩
 ·exact .inl ⟨_, rfl⟩
 ·exact .inl ⟨_, rfl⟩
 ·exact .inl ⟨_, rfl⟩
 ·exact .inr ⟨_, rfl⟩
theorem verify_ok : OkF Try.prog 38 (dataC verR) := by
 refine okF_data Try.func38 rfl (by decide) ?_
 rintro ds v ⟨s, L, rfl, hf, hl, rfl⟩
 refine sem_of_awp (Γ := tbl tabVE) tabVE_ok _ _ _ ?_
 simp only [go_sem, Int.reduceEq, Int.reduceLT, Int.reduceLE, eq_self, Int.natCast_nonneg, Int.toNat_natCast, Try.ntmps38, sysD]
 refine call_data edgesR (by simp) [sysD s] _ rfl ⟨s, rfl, hf, rfl⟩ (.inl rfl) ?_
 generalize hv : verN s L = V
 unfold verN at hv
 by_cases h : checkE s = 0
 case neg =>
  rw [if_pos h] at hv
  subst hv
  rw [edgesV_err h]
  simp only [go_sem, Int.reduceEq, Int.reduceLT, Int.reduceLE, eq_self, Int.natCast_nonneg, Int.toNat_natCast, h]
  exact post_data (.inl rfl) [4] rfl trivial rfl
 rw [edgesV_ok h]
 rw [if_neg (by rw [h]; decide)] at hv
 have hgk := sysE_ok h
 have hgl := hgk.len
 have hn4 := hgk.n4
 simp only [go_sem, Int.reduceEq, Int.reduceLT, Int.reduceLE, eq_self, Int.natCast_nonneg, Int.toNat_natCast, h]
 refine sem_draw (pf := [68, 49]) (Γ := tbl tabVE) mixed tabVE_ok pureVE [0, 1, 2, 3, 4, 5, 6, 7, 8, 9, 10, 11] (by kernel_rfl) ?_
 simp only [go_sem, Int.reduceEq, Int.reduceLT, Int.reduceLE, eq_self, Int.natCast_nonneg, Int.toNat_natCast, chainI, ints_len]
 refine call_data resR (by simp) [sysD s] _ rfl ⟨s, rfl, hf, rfl⟩ (.inl rfl) ?_
 rw [resN_ok h]
 by_cases hne : L.length = nRes s
 case neg =>
  have hne2 : ¬ (L.length : Int) = (nRes s : Nat) := by omega
  rw [if_pos (.inl hne)] at hv
  subst hv
  simp only [go_sem, Int.reduceEq, Int.reduceLT, Int.reduceLE, eq_self, Int.natCast_nonneg, Int.toNat_natCast, chainI, hne2]
  exact post_data (.inl rfl) [4] rfl trivial rfl
 have hne2 : (L.length : Int) = (nRes s : Nat) := by omega
 simp only [go_sem, Int.reduceEq, Int.reduceLT, Int.reduceLE, eq_self, Int.natCast_nonneg, Int.toNat_natCast, chainI, hne2]
 refine call_lentP hasVR (by simp) [] ⟨L, hl, rfl, rfl, rfl, rfl, rfl, rfl⟩ (by decide) (by simp) rfl rfl (by simp only [go_sem]) (by simp) (fun j hj => by simp at hj) ?_
 cases ho : L.any outI with
 | true =>
  rw [if_pos (.inr ho)] at hv
  subst hv
  simp only [go_sem, Int.reduceEq, Int.reduceLT, Int.reduceLE, eq_self, Int.natCast_nonneg, Int.toNat_natCast, chainI]
  exact post_data (.inl rfl) [4] rfl trivial rfl
 | false =>
 rw [if_neg (by rw [ho]; simp [hne])] at hv
 simp only [go_sem, Int.reduceEq, Int.reduceLT, Int.reduceLE, eq_self, Int.natCast_nonneg, Int.toNat_natCast, chainI]
 refine call_data impVR (by simp) [sysD s] _ rfl ⟨s, rfl, hf, rfl⟩ (.inl rfl) ?_
 cases hi : impO s with
 | some q =>
  obtain ⟨i, k⟩ := q
  rw [hi, if_pos (by rfl)] at hv
  subst hv
  simp only [go_sem, Int.reduceEq, Int.reduceLT, Int.reduceLE, eq_self, Int.natCast_nonneg, Int.toNat_natCast, fstV]
  exact post_data (.inl rfl) [4] rfl trivial rfl
 | none =>
 rw [hi, if_neg (by decide)] at hv
 simp only [go_sem, Int.reduceEq, Int.reduceLT, Int.reduceLE, eq_self, Int.natCast_nonneg, Int.toNat_natCast, fstV, edges_len]
 generalize sysE s = E at *
 refine sem_loop (fun k : Nat => ⟨slotsOf 60 [(3, .ptr 1 0 0), (40, .dat (.sl (some 4) (edgesD E))), (41, .dat (.int .i64 E.length)), (42, .dat (.int .i64 k))], [sysO s, .box [.dat (.sl none (intsD L))]], 0, []⟩)
  (fun k => k ≤ E.length ∧ (if (E.drop k).any (badV L) = true then (19 : Int) else 0) = V) (fun k => E.length - k) 0 ⟨Nat.zero_le _, hv⟩ ?_ ?_
 ·exact le_slots' (by simp only [go_sem, Int.natCast_zero])
 rintro k ⟨hk, hV⟩
 refine sem_of_awp (Γ := tbl tabVE) tabVE_ok _ _ _ ?_
 cases hd : E.drop k with
 | nil =>
  have := end_of_drop hd hk
  have hk2 : ¬ (k : Int) < E.length := by omega
  rw [hd] at hV
  subst hV
  simp only [go_sem, Int.reduceEq, Int.reduceLT, Int.reduceLE, eq_self, Int.natCast_nonneg, Int.toNat_natCast, hk2]
  exact post_data (.inl rfl) [4] rfl trivial rfl
 | cons e r =>
  have hlt := lt_of_drop hd
  have hk2 : (k : Int) < E.length := by omega
  have hk0 : (0 : Int) ≤ k := Int.natCast_nonneg k
  have hn := nth_of_drop (f := edgeD) hd
  obtain ⟨s1, s2⟩ := hgk.src e (mem_of_drop hd)
  obtain ⟨t1, t2⟩ := hgk.dst e (mem_of_drop hd)
  have g1 := gints_nth (l := L) 0 (i := e.s) (by omega)
  have g2 := gints_nth (l := L) 0 (i := e.t) (by omega)
  have b1 : e.s < L.length := by omega
  have b2 : e.t < L.length := by omega
  have b3 : (e.s : Int) < L.length := by omega
  have b4 : (e.t : Int) < L.length := by omega
  rw [hd, List.any_cons] at hV
  simp only [go_sem, Int.reduceEq, Int.reduceLT, Int.reduceLE, eq_self, Int.natCast_nonneg, Int.toNat_natCast, hk2, hk0, hlt, hn, edges_len, edgeD, s1, t1]
  refine sem_draw (pf := []) (Γ := tbl tabVE) mixed tabVE_ok (fun g _ _ _ _ _ h => by cases h) [0, 1, 2, 3, 4, 5, 6, 7, 8, 9, 10, 11, 12] (by kernel_rfl) ?_
  by_cases hb : L.getD e.s 0 ≤ L.getD e.t 0
  ·rw [show badV L e = true from decide_eq_true hb, Bool.true_or, if_pos rfl] at hV
   subst hV
   simp only [go_sem, Int.reduceEq, Int.reduceLT, Int.reduceLE, eq_self, Int.natCast_nonneg, Int.toNat_natCast, chainI, g1, g2, b1, b2, b3, b4, ints_len, hb]
   exact post_data (.inl rfl) [4] rfl trivial rfl
  ·rw [show badV L e = false from decide_eq_false hb, Bool.false_or] at hV
   simp only [go_sem, Int.reduceEq, Int.reduceLT, Int.reduceLE, eq_self, Int.natCast_nonneg, Int.toNat_natCast, chainI, g1, g2, b1, b2, b3, b4, ints_len, hb]
   refine ⟨inR_i64.2 (by omega), k + 1, ⟨by omega, by rw [drop_cons hd]; exact hV⟩, by omega, ?_⟩
   refine le_end (own := [_, _]) (ex := [_]) (Nat.zero_le _) ?_ ?_ ?_
   ·simp only [go_sem, Int.natCast_add, Int.cast_ofNat_Int]
   ·simp only [go_sem]
   ·simp only [go_sem, Obj.under, AV.unders, AV.under]
end Go.AM

set_option maxRecDepth 8000
set_option maxHeartbeats 2000000
namespace Go.AM
open Go Go.Proofs

noncomputable def lenV (l : List PEdge) (i : Nat) : Int := if back l i < 0 then -1 else back l i + 1
def lenR (ds : List D) (v : AV) : Prop := ∃ (n : Nat) (l : List PEdge) (i : Nat), ds = [.int .i64 n, .sl (some 4) (edgesD l), .int .i64 i] ∧ GOk n l ∧ i < l.length ∧ v = .dat (.int .i64 (lenV l i))
def fstOf : Option (List Nat) → Int
 | none => -1
 | some c => (c.headD 0 : Nat)
def lenOf : Option (List Nat) → Int
 | none => -1
 | some c => c.length
def nxI : Option Nat → Int
 | none => -1
 | some i => i
def scan (p : Nat → Bool) (v : Nat) : Nat → List PEdge → Option Nat
 | _, [] => none
 | k, e :: r => if e.s = v ∧ p k = true then some k else scan p v (k + 1) r
end Go.AM

namespace Go.AM
open Go Go.Proofs

def Via (E : List (Nat × Nat)) : Nat → Nat → Nat → Prop
 | 0, i, j => (i, j) ∈ E
 | k + 1, i, j => Via E k i j ∨ (Via E k i k ∧ Via E k k j)
theorem Via_trans {E : List (Nat × Nat)} : ∀ {k i m j : Nat}, m < k → Via E k i m → Via E k m j → Via E k i j
 | 0, _, _, _, h, _, _ => by omega
 | k + 1, i, m, j, h, h1, h2 => by
  by_cases e : m = k
  ·subst e
   have g1 : Via E m i m := by rcases h1 with h1 | ⟨h1, _⟩ <;> exact h1
   have g2 : Via E m m j := by rcases h2 with h2 | ⟨_, h2⟩ <;> exact h2
   exact .inr ⟨g1, g2⟩
  ·have hm : m < k := by omega
   rcases h1 with h1 | ⟨h1, h1'⟩ <;> rcases h2 with h2 | ⟨h2, h2'⟩
   ·exact .inl (Via_trans hm h1 h2)
   ·exact .inr ⟨Via_trans hm h1 h2, h2'⟩
   ·exact .inr ⟨h1, Via_trans hm h1' h2⟩
   ·exact .inr ⟨h1, h2'⟩
theorem Via_mono {E : List (Nat × Nat)} {i j : Nat} : ∀ {n : Nat}, (i, j) ∈ E → Via E n i j
 | 0, h => h
 | n + 1, h => .inl (Via_mono h)
theorem Via_of {E : List (Nat × Nat)} {n : Nat} (hE : ∀ p ∈ E, p.2 < n) : ∀ {k i j : Nat}, Wk E (k + 1) i j → Via E n i j
 | 0, i, j, ⟨u, hu, hw⟩ => by cases hw; exact Via_mono hu
 | k + 1, i, j, ⟨u, hu, hw⟩ => by
  have hun : u < n := by obtain ⟨x, hx, _⟩ := hw; exact hE _ hx
  exact Via_trans hun (Via_of hE hw) (Via_mono hu)
def GRch (E : List (Nat × Nat)) (i j : Nat) : Prop := ∃ k, Wk E (k + 1) i j
theorem Rch_trans {E : List (Nat × Nat)} {i m j : Nat} (h1 : GRch E i m) (h2 : GRch E m j) : GRch E i j := by
 obtain ⟨a, ha⟩ := h1
 obtain ⟨b, hb⟩ := h2
 exact ⟨a + 1 + b, by have := Wk_app ha hb; rwa [show a + 1 + (b + 1) = a + 1 + b + 1 by omega] at this⟩

def get2 (B : List (List Bool)) (i j : Nat) : Bool := (B.getD i []).getD j false
def set2 (B : List (List Bool)) (i j : Nat) (v : Bool) : List (List Bool) := B.set i ((B.getD i []).set j v)
structure Sq (n : Nat) (B : List (List Bool)) : Prop where
 len : B.length = n
 row : ∀ i, i < n → (B.getD i []).length = n
theorem get2_set2 {n : Nat} {B : List (List Bool)} (h : Sq n B) {i j a b : Nat} {v : Bool} (hi : i < n) (hj : j < n) : get2 (set2 B i j v) a b = if i = a ∧ j = b then v else get2 B a b := by
 unfold get2 set2
 rw [getD_set']
 by_cases e : i = a
 ·subst e
  rw [if_pos ⟨rfl, by rw [h.len]; exact hi⟩, getD_set']
  by_cases e2 : j = b
  ·subst e2; rw [if_pos ⟨rfl, by rw [h.row i hi]; exact hj⟩, if_pos ⟨rfl, rfl⟩]
  ·rw [if_neg (fun hh => e2 hh.1), if_neg (fun hh => e2 hh.2)]
 ·rw [if_neg (fun hh => e hh.1), if_neg (fun hh => e hh.1)]
theorem Sq.set {n : Nat} {B : List (List Bool)} (h : Sq n B) {i j : Nat} {v : Bool} (hi : i < n) : Sq n (set2 B i j v) where
 len := by simp [set2, h.len]
 row a ha := by
  unfold set2
  rw [getD_set']
  split
  ·rw [List.length_set]; exact h.row i hi
  ·exact h.row a ha
theorem Sq.rep {n : Nat} : Sq n (List.replicate n (List.replicate n false)) where
 len := by simp
 row i hi := by simp [List.getD_eq_getElem?_getD, List.getElem?_replicate, hi]
theorem get2_rep {n i j : Nat} : get2 (List.replicate n (List.replicate n false)) i j = false := by
 unfold get2
 by_cases hi : i < n
 ·by_cases hj : j < n <;> simp [List.getD_eq_getElem?_getD, List.getElem?_replicate, hi, hj]
 ·simp [List.getD_eq_getElem?_getD, List.getElem?_replicate, hi]
theorem Sq.ext {n : Nat} {B C : List (List Bool)} (hB : Sq n B) (hC : Sq n C) (h : ∀ i j, i < n → j < n → get2 B i j = get2 C i j) : B = C := by
 refine List.ext_getElem (by rw [hB.len, hC.len]) fun i h1 h2 => ?_
 have hi : i < n := by rw [← hB.len]; exact h1
 have e1 : B.getD i [] = B[i] := by simp [List.getD_eq_getElem?_getD, List.getElem?_eq_getElem h1]
 have e2 : C.getD i [] = C[i] := by simp [List.getD_eq_getElem?_getD, List.getElem?_eq_getElem h2]
 have r1 := hB.row i hi
 have r2 := hC.row i hi
 rw [e1] at r1; rw [e2] at r2
 refine List.ext_getElem (by rw [r1, r2]) fun j g1 g2 => ?_
 have := h i j hi (by omega)
 unfold get2 at this
 rw [e1, e2] at this
 simpa [List.getD_eq_getElem?_getD, List.getElem?_eq_getElem g1, List.getElem?_eq_getElem g2] using this
open Classical in
noncomputable def reachB (n : Nat) (l : List PEdge) : List (List Bool) := (List.range n).map fun i => (List.range n).map fun j => decide (GRch (eF l) i j)
theorem reachB_sq {n : Nat} {l : List PEdge} : Sq n (reachB n l) where
 len := by simp [reachB]
 row i hi := by simp [reachB, List.getD_eq_getElem?_getD, hi]
theorem reachB_get {n : Nat} {l : List PEdge} {i j : Nat} (hi : i < n) (hj : j < n) : get2 (reachB n l) i j = true ↔ GRch (eF l) i j := by
 simp [get2, reachB, List.getD_eq_getElem?_getD, hi, hj]

structure FW (n : Nat) (l : List PEdge) (B : List (List Bool)) (k i j : Nat) : Prop where
 sq : Sq n B
 sound : ∀ a b, get2 B a b = true → GRch (eF l) a b
 comp : ∀ a b, a < n → b < n → Via (eF l) k a b → get2 B a b = true
 done : ∀ a b, a < n → b < n → (a < i ∨ (a = i ∧ b < j)) → Via (eF l) (k + 1) a b → get2 B a b = true
theorem FW.set {n : Nat} {l : List PEdge} {B : List (List Bool)} {k i j : Nat} (h : FW n l B k i j) (hk : k < n) (hi : i < n) (hj : j < n) :
  FW n l (set2 B i j (get2 B i j || (get2 B i k && get2 B k j))) k i (j + 1) := by
 have up : ∀ a b, get2 B a b = true → get2 (set2 B i j (get2 B i j || (get2 B i k && get2 B k j))) a b = true := fun a b hab => by
  rw [get2_set2 h.sq hi hj]
  split
  ·rename_i e; rw [e.1, e.2, hab]; rfl
  ·exact hab
 refine ⟨h.sq.set hi, fun a b hab => ?_, fun a b ha hb hv => up a b (h.comp a b ha hb hv), fun a b ha hb ho hv => ?_⟩
 ·rw [get2_set2 h.sq hi hj] at hab
  split at hab
  ·rename_i e
   rw [← e.1, ← e.2]
   simp only [Bool.or_eq_true, Bool.and_eq_true] at hab
   rcases hab with hab | ⟨h1, h2⟩
   ·exact h.sound _ _ hab
   ·exact Rch_trans (h.sound _ _ h1) (h.sound _ _ h2)
  ·exact h.sound a b hab
 ·by_cases e : i = a ∧ j = b
  ·rw [get2_set2 h.sq hi hj, if_pos e]
   simp only [Bool.or_eq_true, Bool.and_eq_true]
   rw [e.1, e.2]
   rcases hv with hv | ⟨h1, h2⟩
   ·exact .inl (h.comp a b ha hb hv)
   ·exact .inr ⟨h.comp a k ha hk h1, h.comp k b hk hb h2⟩
  ·exact up a b (h.done a b ha hb (by omega) hv)
theorem FW.row {n : Nat} {l : List PEdge} {B : List (List Bool)} {k i : Nat} (h : FW n l B k i n) : FW n l B k (i + 1) 0 :=
 ⟨h.sq, h.sound, h.comp, fun a b ha hb ho hv => h.done a b ha hb (by omega) hv⟩
theorem FW.all {n : Nat} {l : List PEdge} {B : List (List Bool)} (hg : GOk n l) (h : FW n l B n 0 0) : B = reachB n l := by
 refine h.sq.ext reachB_sq fun i j hi hj => ?_
 rw [Bool.eq_iff_iff, reachB_get hi hj]
 exact ⟨h.sound i j, fun ⟨k, hk⟩ => h.comp i j hi hj (Via_of hg.eFlt hk)⟩
structure FW0 (n : Nat) (l : List PEdge) (P : List PEdge) (B : List (List Bool)) : Prop where
 sq : Sq n B
 sound : ∀ a b, get2 B a b = true → (a, b) ∈ eF l
 comp : ∀ e ∈ P, get2 B e.s e.t = true
theorem FW0.init {n : Nat} {l : List PEdge} : FW0 n l [] (List.replicate n (List.replicate n false)) :=
 ⟨Sq.rep, fun a b h => (by rw [get2_rep] at h; cases h), fun e he => (by cases he)⟩
theorem FW0.step {n : Nat} {l P : List PEdge} {B : List (List Bool)} {e : PEdge} (h : FW0 n l P B) (hg : GOk n l) (he : e ∈ l) : FW0 n l (P ++ [e]) (set2 B e.s e.t true) := by
 have hs := (hg.src e he).2
 have ht := (hg.dst e he).2
 refine ⟨h.sq.set hs, fun a b hab => ?_, fun x hx => ?_⟩
 ·rw [get2_set2 h.sq hs ht] at hab
  split at hab
  ·rename_i e'; exact List.mem_map.2 ⟨e, he, by rw [e'.1, e'.2]⟩
  ·exact h.sound a b hab
 ·rw [get2_set2 h.sq hs ht]
  split
  ·rfl
  ·rcases List.mem_append.1 hx with hx | hx
   ·exact h.comp x hx
   ·simp at hx; subst hx
    rename_i e'; exact absurd ⟨rfl, rfl⟩ e'
end Go.AM

namespace Go.AM
open Go Go.Proofs

def Chain (l : List PEdge) : Nat → Nat → List Nat → Prop
 | v, w, [] => v = w
 | v, w, i :: r => i < l.length ∧ sOf l i = v ∧ Chain l (tOf l i) w r
structure CycOk (l : List PEdge) (c : List Nat) : Prop where
 at_ : ∀ (j i : Nat), c[j]? = some i → i < l.length
 next : ∀ (j i m : Nat), c[j]? = some i → c[(j + 1) % c.length]? = some m → tOf l i = sOf l m
 min : ∀ (r i : Nat), 0 < c.length → r + 1 < c.length → ¬ Wk (eF l) (r + 1) i i
 none : c.length = 0 ↔ acyc (eF l)
noncomputable def diag (n : Nat) (l : List PEdge) (k : Nat) : Bool := (List.range k).any fun i => get2 (reachB n l) i i
open Classical in
noncomputable def rowW (n : Nat) (l : List PEdge) (r i : Nat) : List Bool := (List.range n).map fun j => decide (Wk (eF l) r i j)
noncomputable def walkB (n : Nat) (l : List PEdge) (r : Nat) : List (List Bool) := (List.range n).map (rowW n l r)
open Classical in
noncomputable def rowP (n : Nat) (l : List PEdge) (r i k : Nat) : List Bool := (List.range n).map fun j => decide (∃ e ∈ l.take k, e.t = j ∧ Wk (eF l) r i e.s)
end Go.AM

set_option maxRecDepth 8000
set_option maxHeartbeats 2000000
namespace Go.AM
open Go Go.Proofs

noncomputable def expL (s : PSys) : List PEdge := (cycV (sysE s)).map fun i => (sysE s).getD i default
noncomputable def expV (s : PSys) : AV := if checkE s ≠ 0 then .tup [.dat (.sl none []), .dat (.int .i64 (checkE s))] else .tup [.dat (.sl (some 4) (edgesD (expL s))), .dat (.int .i64 0)]
def expR (ds : List D) (v : AV) : Prop := ∃ s : PSys, ds = [sysD s] ∧ s.fit ∧ v = expV s
def enoN (s : PSys) (pool : Int) : Int := if checkE s ≠ 0 ∨ pool < 0 ∨ (s.pools.length : Int) ≤ pool then -1 else if (s.pools.getD pool.toNat default).size < demL pool true s.classes then -1 else demL pool true s.classes
def enoR (ds : List D) (v : AV) : Prop := ∃ (s : PSys) (pool : Int), ds = [sysD s, .int .i64 pool] ∧ s.fit ∧ v = .dat (.int .i64 (enoN s pool))
def sameCR (ds : List D) (v : AV) : Prop := ∃ (L : List Nat), ds = [certD L, certD L] ∧ L.length ≤ 10000 ∧ v = .dat (.bool true)
end Go.AM

set_option maxRecDepth 8000
namespace Go.AM
open Go Go.Proofs

section
variable {s : PSys} {L : List Nat}
theorem makeO_err (h : checkE s ≠ 0) : makeO s = ([], checkE s) := by unfold makeO; rw [if_pos h]
theorem makeO_imp (h : checkE s = 0) (hi : (impO s).isSome = true) : makeO s = ([], 9) := by unfold makeO; rw [if_neg (by simp [h]), if_pos hi]
theorem makeO_ok (h : checkE s = 0) (hi : impO s = none) (hl : levV (nRes s) (sysE s) = some L) : makeO s = (L, 0) := by unfold makeO; rw [if_neg (by simp [h]), if_neg (by simp [hi]), hl]
theorem makeO_dead (h : checkE s = 0) (hi : impO s = none) (hl : levV (nRes s) (sysE s) = none) : makeO s = ([], 20) := by unfold makeO; rw [if_neg (by simp [h]), if_neg (by simp [hi]), hl]
end
theorem lev_lt {n : Nat} {l : List PEdge} {f : Nat → Nat} (hg : GOk n l) (h : IsLev n l f) : ∀ v, v < n → f v < n := by
 have hA := pot_acyc h.down
 have key : ∀ k v, v < n → f v = k → ∃ w, Wk (eF l) k v w := by
  intro k
  induction k with
  | zero => exact fun v _ _ => ⟨v, rfl⟩
  | succ k ih =>
   intro v hv hk
   rcases h.next v hv with h0 | ⟨e, he, hs, ht⟩
   ·omega
   ·obtain ⟨w, hw⟩ := ih e.t (hg.dst e he).2 (by omega)
    exact ⟨w, Wk_cons (List.mem_map.2 ⟨e, he, by rw [hs]⟩) hw⟩
 intro v hv
 obtain ⟨w, hw⟩ := key _ v hv rfl
 exact wk_short hg.eFlt hA hv hw
abbrev castL (L : List Nat) : List Int := L.map fun n : Nat => (n : Int)
theorem lev_facts {s : PSys} (h : checkE s = 0) {L : List Nat} (hl : levV (nRes s) (sysE s) = some L) : L.length = nRes s ∧ (∀ x ∈ L, x < nRes s) ∧ ∀ e ∈ sysE s, L.getD e.t 0 < L.getD e.s 0 := by
 have hg := sysE_ok h
 obtain ⟨f, hf, rfl⟩ := levV_is hl
 have hlt := lev_lt hg hf
 have hat : ∀ i, i < nRes s → ((List.range (nRes s)).map f).getD i 0 = f i := fun i hi => by simp [List.getD_eq_getElem?_getD, hi]
 refine ⟨by simp, fun x hx => ?_, fun e he => ?_⟩
 ·obtain ⟨i, hi, rfl⟩ := List.mem_map.1 hx
  exact hlt i (List.mem_range.1 hi)
 ·rw [hat _ (hg.dst e he).2, hat _ (hg.src e he).2]
  exact hf.down e he
theorem nRes_le {s : PSys} (h : checkE s = 0) : nRes s ≤ 16 := by
 have hg := good_of h
 have h1 := hg.np
 have h2 := hg.nl
 have h3 := hg.nc
 unfold nRes; omega
theorem lev_ex {s : PSys} (h : checkE s = 0) (hA : acyc (eF (sysE s))) : ∃ L, levV (nRes s) (sysE s) = some L := by
 have := lev_iff (sysE_ok h)
 rw [acyc_cyc.1 hA] at this
 exact Option.isSome_iff_exists.1 this
end Go.AM

set_option maxRecDepth 8000
namespace Go.AM
open Go Go.Proofs

structure Wid (s r : PSys) : Prop where
 names : namesL r = namesL s
 np : r.pools.length = s.pools.length
 nl : r.locks.length = s.locks.length
 nc : r.classes.length = s.classes.length
 size : ∀ i, (s.pools.getD i default).size ≤ (r.pools.getD i default).size
 fine : ∀ p ∈ r.pools, ¬ p.bad
 steps : ∀ i, (r.classes.getD i default).steps = (s.classes.getD i default).steps
 server : ∀ i, (r.classes.getD i default).server = (s.classes.getD i default).server
 work : ∀ i, i < s.classes.length → 0 ≤ (r.classes.getD i default).workers ∧ (r.classes.getD i default).workers ≤ (s.classes.getD i default).workers
section
variable {s r : PSys}
theorem Wid.most (h : Wid s r) (k : Int) : mostE r k = mostE s k := by unfold mostE; rw [h.np, h.nl, h.nc]
theorem Wid.pre (h : Wid s r) {x : PStep} (hp : preE s x = 0) : preE r x = 0 := by
 unfold preE at hp ⊢
 split at hp
 ·cases hp
 rename_i h1
 split at hp
 ·cases hp
 rename_i h2
 split at hp
 ·cases hp
 rename_i h3
 have := h.size x.on.toNat
 rw [if_neg h1, if_neg (by rw [h.most]; exact h2), if_neg (by omega)]
theorem Wid.stepE (h : Wid s r) {u : List Int} {b : List Bool} {x : PStep} (he : stepE s u b x = 0) : Go.AM.stepE r u b x = 0 ∧ stepU r u x = stepU s u x ∧ stepL r b x = stepL s b x := by
 have hp := stepE_0 he
 have hp2 := h.pre hp
 refine ⟨?_, by unfold stepU; rw [hp, hp2], by unfold stepL; rw [hp, hp2]⟩
 unfold Go.AM.stepE at he ⊢
 rw [hp] at he
 rw [hp2]
 simp only [ne_eq, not_true_eq_false, if_false] at he ⊢
 have hf : stepFine s u b x = true := by
  cases hf : stepFine s u b x with
  | true => rfl
  | false => rw [hf] at he; simp at he
 have : stepFine r u b x = true := by
  unfold stepFine at hf ⊢
  have := h.size x.on.toNat
  rw [h.server]
  split at hf
  ·rename_i h1; rw [if_pos h1]; simp only [decide_eq_true_eq] at hf ⊢; omega
  ·rename_i h1; rw [if_neg h1]; exact hf
 rw [this]; rfl
theorem Wid.run (h : Wid s r) : ∀ {l : List PStep} {q : Hold}, verd (runE s l q) = 0 → verd (runE r l q) = 0
 | [], q, hv => by rw [verd_nil] at hv ⊢; exact hv
 | x :: l, q, hv => by
  by_cases he : Go.AM.stepE s q.units q.locks x = 0
  ·obtain ⟨h1, h2, h3⟩ := h.stepE he
   rw [verd_go he] at hv
   rw [verd_go h1, h2, h3]
   exact h.run hv
  ·rw [verd_err he] at hv; exact absurd hv he
theorem poolsE_ok : ∀ {l : List PPool}, (∀ p ∈ l, ¬ p.bad) → poolsE l = 0
 | [], _ => rfl
 | p :: l, h => by rw [poolsE, if_neg (h p (by simp))]; exact poolsE_ok fun q hq => h q (by simp [hq])
theorem clssE_ok {r : PSys} : ∀ {l : List PCls}, (∀ c ∈ l, classE r c = 0) → clssE r l = 0
 | [], _ => rfl
 | c :: l, h => by rw [clssE, if_neg (by rw [h c (by simp)]; decide)]; exact clssE_ok fun q hq => h q (by simp [hq])
theorem checkE_parts (h : checkE s = 0) : ¬ (6 < (s.pools.length : Int) ∨ 4 < (s.locks.length : Int) ∨ 6 < (s.classes.length : Int)) ∧ namesE [] (namesL s) = 0 := by
 unfold checkE at h
 split at h
 ·cases h
 ·rename_i h1
  exact ⟨h1, (thenE_eq0 h).1⟩
theorem Wid.hold0 (h : Wid s r) : hold0 r = Go.AM.hold0 s := by unfold Go.AM.hold0; rw [h.np, h.nl]
theorem Wid.check (h : Wid s r) (hc : checkE s = 0) : checkE r = 0 := by
 obtain ⟨h1, h2⟩ := checkE_parts hc
 have hg := good_of hc
 unfold checkE
 rw [if_neg (by rw [h.np, h.nl, h.nc]; exact h1), h.names, h2, thenE_0, poolsE_ok h.fine, thenE_0]
 refine clssE_ok fun c hcm => ?_
 obtain ⟨i, hi⟩ := List.getElem?_of_mem hcm
 have hil := (List.getElem?_eq_some_iff.1 hi).1
 rw [h.nc] at hil
 have e : r.classes.getD i default = c := by rw [List.getD_eq_getElem?_getD, hi]; rfl
 have hs := hg.cls (s.classes.getD i default) (by rw [List.getD_eq_getElem?_getD, List.getElem?_eq_getElem hil]; exact List.getElem_mem hil)
 have hw := h.work i hil
 have hst := h.steps i
 rw [e] at hw hst
 have w4 := hs.w4
 have l1 := hs.l1
 have l12 := hs.l12
 unfold classE
 rw [hst, if_neg (by omega), if_neg (by omega), h.hold0]
 exact h.run hs.run
theorem Wid.dem (h : Wid s r) (hc : checkE s = 0) (pool : Int) (d : Bool) : demL pool d r.classes ≤ demL pool d s.classes := by
 have hg := good_of hc
 have key : ∀ k, k ≤ s.classes.length → demL pool d (r.classes.take k) ≤ demL pool d (s.classes.take k) := by
  intro k
  induction k with
  | zero => intro _; simp
  | succ k ih =>
   intro hk
   have hkr : k < r.classes.length := by rw [h.nc]; omega
   have hks : k < s.classes.length := by omega
   have er : r.classes.getD k default = r.classes[k] := by rw [List.getD_eq_getElem?_getD, List.getElem?_eq_getElem hkr]; rfl
   have es : s.classes.getD k default = s.classes[k] := by rw [List.getD_eq_getElem?_getD, List.getElem?_eq_getElem hks]; rfl
   have hw := h.work k hks
   have hst := h.steps k
   rw [er, es] at hw hst
   rw [List.take_succ_eq_append_getElem hkr, List.take_succ_eq_append_getElem hks, demL_snoc, demL_snoc, hst]
   have hm := (mx_le hg (hg.cls _ (List.getElem_mem hks)) pool d).1
   have := Int.mul_le_mul_of_nonneg_right hw.2 hm
   have := ih (by omega)
   omega
 have := key s.classes.length (Nat.le_refl _)
 rwa [List.take_length, ← h.nc, List.take_length] at this
end
structure Wid2 (s r : PSys) : Prop extends Wid s r where
 res : ∀ i, (r.pools.getD i default).res = (s.pools.getD i default).res
 zero : ∀ i, i < s.classes.length → (r.classes.getD i default).workers = 0 → (s.classes.getD i default).workers = 0
section
variable {s r : PSys}
theorem fstC_none {s : PSys} : ∀ {i : Nat} {L : List PCls}, fstC s i L = none ↔ ∀ c ∈ L, ∀ x ∈ c.steps, impB s x = false
 | _, [] => by simp [fstC]
 | i, c :: L => by
  rw [fstC]
  cases h : fstL (impB s) 0 c.steps with
  | none =>
   simp only [List.mem_cons, forall_eq_or_imp]
   rw [fstC_none (i := i + 1) (L := L)]
   exact ⟨fun hh => ⟨fstL_none.1 h, hh⟩, fun hh => hh.2⟩
  | some k =>
   simp only [List.mem_cons, forall_eq_or_imp]
   exact ⟨fun hh => (by cases hh), fun hh => by rw [fstL_none.2 hh.1] at h; cases h⟩
theorem Wid.clsOf (h : Wid s r) {c' : PCls} (hc : c' ∈ r.classes) : ∃ i, i < s.classes.length ∧ r.classes.getD i default = c' ∧ r.classes[i]? = some c' ∧ s.classes[i]? = some (s.classes.getD i default) := by
 obtain ⟨i, hi⟩ := List.getElem?_of_mem hc
 have hil := (List.getElem?_eq_some_iff.1 hi).1
 rw [h.nc] at hil
 refine ⟨i, hil, by rw [List.getD_eq_getElem?_getD, hi]; rfl, hi, ?_⟩
 rw [List.getD_eq_getElem?_getD, List.getElem?_eq_getElem hil]; rfl
theorem Wid2.imp (h : Wid2 s r) (hc : checkE s = 0) (hi : impO s = none) : impO r = none := by
 have hcr := h.toWid.check hc
 have hg := good_of hc
 unfold impO at hi ⊢
 rw [if_neg (by simp [hc])] at hi
 rw [if_neg (by simp [hcr])]
 rw [fstC_none] at hi ⊢
 intro c' hc' x hx
 obtain ⟨i, hil, e, _, es⟩ := h.toWid.clsOf hc'
 have hst := h.steps i
 rw [e] at hst
 rw [hst] at hx
 have hcm := List.mem_of_getElem? es
 have hb := hi _ hcm x hx
 have hp := (hg.cls _ hcm).pre x hx
 unfold impB at hb ⊢
 have h1 := h.size x.on.toNat
 have h2 := h.res x.on.toNat
 split at hb
 ·rename_i k1
  rw [if_pos k1]
  cases hdp : x.deep with
  | true => rfl
  | false =>
   rw [hdp] at hb
   simp only [Bool.not_false, Bool.true_and, decide_eq_false_iff_not] at hb ⊢
   omega
 ·rename_i k1
  rw [if_neg k1]
  split at hb
  ·rename_i k5
   rw [if_pos k5]
   obtain ⟨j, hj, hjl⟩ := cls_at hg hp k5
   rw [hj, Int.toNat_natCast] at hb ⊢
   simp only [decide_eq_false_iff_not] at hb ⊢
   exact fun hz => hb (h.zero j hjl hz)
  ·rename_i k5
   rw [if_neg k5]
theorem Wid2.wait (h : Wid2 s r) (hc : checkE s = 0) {x : PStep} (hw : waitB r x = true) : waitB s x = true := by
 unfold waitB at hw ⊢
 have h1 := h.size x.on.toNat
 have h2 := h.res x.on.toNat
 have d1 := h.toWid.dem hc x.on false
 have d2 := h.toWid.dem hc x.on true
 split at hw
 ·rename_i k; rw [if_pos k]
 rename_i k
 rw [if_neg k]
 split at hw
 ·rename_i k1
  rw [if_pos k1]
  simp only [Bool.and_eq_true, decide_eq_true_eq, Bool.not_eq_true', Bool.and_eq_false_iff, decide_eq_false_iff_not] at hw ⊢
  refine ⟨by omega, ?_⟩
  rcases hw.2 with h3 | h3
  ·exact .inl h3
  ·exact .inr (by omega)
 ·cases hw
theorem Wid.hold (h : Wid s r) {c c' : PCls} (hs : c'.server = c.server) (i : Nat) (L : List PStep) : holdL r c' i L = holdL s c i L := by
 unfold holdL balU balB hC
 rw [h.np, h.nl, hs]
theorem Wid.target (h : Wid s r) (x : PStep) : targetN r x = targetN s x := by unfold targetN; rw [h.np, h.nl]
theorem Wid2.edges (h : Wid2 s r) (hc : checkE s = 0) : ∀ e ∈ sysE r, ∃ e' ∈ sysE s, e'.src = e.src ∧ e'.dst = e.dst := by
 intro e he
 obtain ⟨i, k, c', x, g1, g2, g3, g4, g5, g6, g7⟩ := (eFacts r).mem e he
 obtain ⟨j, hjl, ej, ejr, ejs⟩ := h.toWid.clsOf (List.mem_of_getElem? g1)
 have hil : i < s.classes.length := by rw [← h.nc]; exact (List.getElem?_eq_some_iff.1 g1).1
 have er : r.classes.getD i default = c' := by rw [List.getD_eq_getElem?_getD, g1]; rfl
 have es : s.classes[i]? = some (s.classes.getD i default) := by rw [List.getD_eq_getElem?_getD, List.getElem?_eq_getElem hil]; rfl
 have hst := h.steps i
 have hsv := h.server i
 rw [er] at hst hsv
 rw [hst] at g2 g7
 rw [h.toWid.hold hsv] at g7
 have := (eFacts s).has i k _ x e.src es g2 (h.wait hc g3) g7
 obtain ⟨e', h1, h2, h3⟩ := hasE_iff.1 this
 exact ⟨e', h1, h2, by rw [h3, g6, h.toWid.target]⟩
theorem Wid2.make (h : Wid2 s r) (hm : (makeO s).2 = 0) : (makeO r).2 = 0 := by
 by_cases hc : checkE s = 0
 case neg => rw [makeO_err hc] at hm; exact absurd hm hc
 cases hi : impO s with
 | some x => rw [makeO_imp hc (by rw [hi]; rfl)] at hm; cases hm
 | none =>
  cases hl : levV (nRes s) (sysE s) with
  | none => rw [makeO_dead hc hi hl] at hm; cases hm
  | some L =>
   have hcr := h.toWid.check hc
   have hir := h.imp hc hi
   obtain ⟨_, _, h3⟩ := lev_facts hc hl
   have hA : acyc (eF (sysE r)) := pot_acyc (f := fun v => L.getD v 0) fun e he => by
    obtain ⟨e', g1, g2, g3⟩ := h.edges hc e he
    have := h3 e' g1
    unfold PEdge.s PEdge.t at this ⊢
    rw [g2, g3] at this
    exact this
   obtain ⟨L', hl'⟩ := lev_ex hcr hA
   rw [makeO_ok hcr hir hl']
end
def decW (c : PCls) : PCls := if 1 < c.workers then { c with workers := c.workers - 1 } else c
def incP (p : PPool) : PPool := if p.size < 8 then { p with size := p.size + 1 } else p
def lessS (s : PSys) (i : Nat) : PSys := { s with classes := s.classes.set i (decW (s.classes.getD i default)) }
def moreS (s : PSys) (i : Nat) : PSys := { s with pools := s.pools.set i (incP (s.pools.getD i default)) }
def resS (s : PSys) (i : Nat) (n : Int) : PSys := { s with pools := s.pools.set i { s.pools.getD i default with res := n } }
end Go.AM

set_option maxRecDepth 8000
namespace Go.AM
open Go Go.Proofs

abbrev lvl (L : List Int) (r : Int) : Int := L.getD r.toNat 0
structure Cert (s : PSys) (L : List Int) : Prop where
 ok : checkE s = 0
 lo : ∀ r, 0 ≤ lvl L r ∧ lvl L r ≤ 4096
 imp : ∀ c ∈ s.classes, ∀ x ∈ c.steps, impB s x = false
 fall : ∀ {i k : Nat} {c : PCls} {x : PStep} {f : Int}, s.classes[i]? = some c → c.steps[k]? = some x → waitB s x = true → f ∈ holdL s c (i : Nat) (c.steps.take k) → lvl L (targetN s x) < lvl L f
theorem cert_of {s : PSys} {L : List Int} (h : verN s L = 0) : Cert s L := by
 unfold verN at h
 by_cases h1 : checkE s = 0
 case neg => rw [if_pos h1] at h; exact absurd h h1
 rw [if_neg (by omega)] at h
 by_cases h2 : L.length ≠ nRes s ∨ L.any outI = true
 ·rw [if_pos h2] at h; simp at h
 rw [if_neg h2] at h
 by_cases h3 : (impO s).isSome = true
 ·rw [if_pos h3] at h; simp at h
 rw [if_neg h3] at h
 by_cases h4 : (sysE s).any (badV L) = true
 ·rw [if_pos h4] at h; simp at h
 have h5 : L.any outI = false := by
  rw [Bool.eq_false_iff]; exact fun h => h2 (.inr h)
 refine ⟨h1, fun r => ?_, ?_, ?_⟩
 ·unfold lvl
  rcases Nat.lt_or_ge r.toNat L.length with hr | hr
  ·have := List.any_eq_false.1 h5 (L.getD r.toNat 0) (by rw [List.getD_eq_getElem?_getD, List.getElem?_eq_getElem hr]; exact List.getElem_mem hr)
   unfold outI at this
   simp only [Bool.or_eq_true, decide_eq_true_eq] at this
   omega
  ·rw [List.getD_eq_getElem?_getD, List.getElem?_eq_none hr]; simp
 ·have h6 : impO s = none := by
   cases h7 : impO s with
   | none => rfl
   | some v => rw [h7] at h3; simp at h3
  unfold impO at h6
  rw [if_neg (by omega)] at h6
  exact fstC_none.1 h6
 ·intro i k c x f hc hx hw hf
  have h6 := edC_has s (i := 0) (L := s.classes) (acc := []) (j := i) hc hx hw (by simpa using hf)
  obtain ⟨e, he, e1, e2⟩ := hasE_iff.1 h6
  have h7 : badV L e = false := by
   rw [Bool.eq_false_iff]
   exact fun h => h4 (List.any_eq_true.2 ⟨e, he, h⟩)
  unfold badV at h7
  have h8 := of_decide_eq_false h7
  unfold PEdge.s PEdge.t at h8
  rw [e1, e2] at h8
  unfold lvl; omega

def hldF (s : PSys) (f : PFr) (r : Int) : Prop := r ∈ holdL s (clsAt s f) f.c ((clsAt s f).steps.take f.a.toNat)
theorem hld_unit {s : PSys} {f : PFr} {i : Nat} (hi : i < s.pools.length) (h : 0 < frU s i f) : hldF s f i := by
 unfold hldF holdL
 refine List.mem_append.2 (.inl (List.mem_append.2 (.inl (hU_mem.2 ⟨i, frU s i f, ?_, h, by simp⟩))))
 unfold balU
 rw [List.getElem?_map, List.getElem?_range hi]; rfl
theorem hld_lock {s : PSys} {f : PFr} {i : Nat} (hi : i < s.locks.length) (h : 0 < frL s i f) : hldF s f ((s.pools.length : Int) + i) := by
 unfold hldF holdL
 refine List.mem_append.2 (.inl (List.mem_append.2 (.inr (hB_mem.2 ⟨i, ?_, by simp⟩))))
 have h' : 0 < bal ((clsAt s f).steps.take f.a.toNat) (i : Int) 1 := h
 unfold balB
 rw [List.getElem?_map, List.getElem?_range hi, Option.map_some, decide_eq_true h']
theorem hld_cls {s : PSys} {f : PFr} (h : (clsAt s f).server = true) : hldF s f ((s.pools.length : Int) + s.locks.length + f.c) := by
 unfold hldF holdL hC
 rw [if_pos h]
 exact List.mem_append.2 (.inr (by simp))
theorem frm_at {s : PSys} {f : PFr} (h : frOk s f = true) : s.classes[f.c.toNat]? = some (clsAt s f) ∧ (clsAt s f).steps[f.a.toNat]? = some (stepAtF s f) ∧ ((f.c.toNat : Nat) : Int) = f.c := by
 obtain ⟨c1, c2, c3, c4⟩ := frOk_iff.1 h
 refine ⟨?_, ?_, by omega⟩
 ·unfold clsAt; rw [List.getD_eq_getElem?_getD, List.getElem?_eq_getElem (by omega)]; rfl
 ·unfold stepAtF; rw [List.getD_eq_getElem?_getD, List.getElem?_eq_getElem (by omega)]; rfl
theorem fall_fr {s : PSys} {L : List Int} (hC : Cert s L) {f : PFr} (h : frOk s f = true) {r : Int} (hr : hldF s f r) (hw : waitB s (stepAtF s f) = true) : lvl L (targetN s (stepAtF s f)) < lvl L r := by
 obtain ⟨h1, h2, h3⟩ := frm_at h
 exact hC.fall h1 h2 hw (by rw [h3]; exact hr)
theorem call_target {s : PSys} {y : PStep} (h : y.kind = 5) : waitB s y = true ∧ targetN s y = (s.pools.length : Int) + s.locks.length + y.on := by
 unfold waitB targetN
 rw [if_pos (.inr h), if_neg (by omega), if_pos h]
 exact ⟨rfl, rfl⟩
end Go.AM

set_option maxRecDepth 8000
namespace Go.AM
open Go Go.Proofs

theorem calls_iff {s : PSys} {g f : PFr} (h : callsB s g f = true) : (stepAtF s g).kind = 5 ∧ (stepAtF s g).on = f.c := by
 unfold callsB at h
 rw [Bool.and_eq_true, decide_eq_true_eq, decide_eq_true_eq] at h
 exact h
theorem srv_true {s : PSys} {f : PFr} (h : srv s f = 1) : (clsAt s f).server = true := by
 unfold srv at h
 split at h
 ·assumption
 ·cases h
theorem chain_lev {s : PSys} {L : List Int} (hC : Cert s L) (hg : s.good) : ∀ (r : List PFr) (f : PFr), chn s (f :: r) → waitB s (stepAtF s f) = true → ∀ q ∈ f :: r, ∀ ρ, hldF s q ρ → lvl L (targetN s (stepAtF s f)) < lvl L ρ
 | [], f, h, hw, q, hq, ρ, hr => by
  rw [List.mem_singleton.1 hq] at hr
  exact fall_fr hC (chn_ok h f (by simp)) hr hw
 | g :: r, f, h, hw, q, hq, ρ, hr => by
  have hfo : frOk s f = true := chn_ok h f (by simp)
  rcases List.mem_cons.1 hq with rfl | hq
  ·exact fall_fr hC hfo hr hw
  ·have hgo : frOk s g = true := chn_ok h.2.2 g (by simp)
   obtain ⟨k1, k2⟩ := calls_iff h.2.1
   obtain ⟨t1, t2⟩ := call_target (s := s) k1
   have h1 := chain_lev hC hg r g h.2.2 t1 q hq ρ hr
   have h2 := fall_fr hC hfo (hld_cls (srv_true (call_srv hg hgo h.2.1))) hw
   rw [t2, k2] at h1
   exact Int.lt_trans h2 h1

def flev (s : PSys) (L : List Int) (f : PFr) : Nat := if (clsAt s f).server = true then (lvl L ((s.pools.length : Int) + s.locks.length + f.c)).toNat else 4097
theorem flev_lt {s : PSys} {L : List Int} (hC : Cert s L) (hg : s.good) {g f : PFr} (hgo : frOk s g = true) (h : callsB s g f = true) : flev s L f < flev s L g := by
 obtain ⟨k1, k2⟩ := calls_iff h
 obtain ⟨t1, t2⟩ := call_target (s := s) k1
 have hs := srv_true (call_srv hg hgo h)
 have h1 := hC.lo ((s.pools.length : Int) + s.locks.length + f.c)
 unfold flev
 rw [if_pos hs]
 by_cases h2 : (clsAt s g).server = true
 ·rw [if_pos h2]
  have h3 := fall_fr hC hgo (hld_cls h2) t1
  rw [t2, k2] at h3
  omega
 ·rw [if_neg h2]; omega
def lft (s : PSys) (k : Nat) (f : PFr) : Nat := (clsAt s f).steps.length - f.a.toNat - k
def remR (s : PSys) (L : List Int) : Nat → List PFr → Nat
 | _, [] => 0
 | k, f :: r => lft s k f * 13 ^ flev s L f + remR s L 1 r
def staB (l : List PFr) : Bool := match l with
 | [f] => decide (f.a = 0)
 | _ => false
def remS (s : PSys) (L : List Int) (l : List PFr) : Nat := if staB l = true then 0 else remR s L 0 l.reverse
theorem len12 {s : PSys} (hg : s.good) {f : PFr} (h : frOk s f = true) : (clsAt s f).steps.length ≤ 12 := (hg.cls _ (cls_mem h)).l12
theorem up_less {s : PSys} {L : List Int} (hg : s.good) : ∀ (r : List PFr) (f : PFr), chn s (f :: r) → (∃ c, upR s (f :: r) = [⟨c, 0⟩]) ∨ remR s L 0 (upR s (f :: r)) < remR s L 0 (f :: r)
 | [], f, h => by
  have hfo : frOk s f = true := chn_ok h f (by simp)
  obtain ⟨c1, c2, c3, c4⟩ := frOk_iff.1 hfo
  unfold upR
  split
  ·rename_i h1
   refine .inr ?_
   simp only [remR, Nat.add_zero]
   have e : flev s L ⟨f.c, f.a + 1⟩ = flev s L f := rfl
   rw [e]
   refine Nat.mul_lt_mul_of_pos_right ?_ (Nat.pow_pos (by decide))
   show (clsAt s f).steps.length - (f.a + 1).toNat - 0 < (clsAt s f).steps.length - f.a.toNat - 0
   omega
  ·exact .inl ⟨f.c, rfl⟩
 | g :: r, f, h => by
  have hfo : frOk s f = true := chn_ok h f (by simp)
  have hgo : frOk s g = true := chn_ok h.2.2 g (by simp)
  obtain ⟨c1, c2, c3, c4⟩ := frOk_iff.1 hfo
  have hpf : 0 < 13 ^ flev s L f := Nat.pow_pos (by decide)
  unfold upR
  split
  ·rename_i h1
   refine .inr ?_
   simp only [remR]
   have e : flev s L ⟨f.c, f.a + 1⟩ = flev s L f := rfl
   rw [e]
   refine Nat.add_lt_add_right (Nat.mul_lt_mul_of_pos_right ?_ hpf) _
   show (clsAt s f).steps.length - (f.a + 1).toNat - 0 < (clsAt s f).steps.length - f.a.toNat - 0
   omega
  ·have hpos : 0 < lft s 0 f * 13 ^ flev s L f := Nat.mul_pos (by unfold lft; omega) hpf
   have low : ∀ (r : List PFr) (g : PFr), chn s (g :: r) → (∃ c, upR s (g :: r) = [⟨c, 0⟩]) ∨ remR s L 0 (upR s (g :: r)) ≤ remR s L 1 (g :: r) := by
    intro r
    induction r with
    | nil =>
     intro g hc
     obtain ⟨d1, d2, d3, d4⟩ := frOk_iff.1 (chn_ok hc g (by simp))
     unfold upR
     split
     ·refine .inr ?_
      simp only [remR, Nat.add_zero]
      have e : flev s L ⟨g.c, g.a + 1⟩ = flev s L g := rfl
      rw [e]
      refine Nat.mul_le_mul_right _ ?_
      show (clsAt s g).steps.length - (g.a + 1).toNat - 0 ≤ (clsAt s g).steps.length - g.a.toNat - 1
      omega
     ·exact .inl ⟨g.c, rfl⟩
    | cons g' r ih =>
     intro g hc
     obtain ⟨d1, d2, d3, d4⟩ := frOk_iff.1 (chn_ok hc g (by simp))
     unfold upR
     split
     ·refine .inr ?_
      simp only [remR]
      have e : flev s L ⟨g.c, g.a + 1⟩ = flev s L g := rfl
      rw [e]
      refine Nat.add_le_add_right (Nat.mul_le_mul_right _ ?_) _
      show (clsAt s g).steps.length - (g.a + 1).toNat - 0 ≤ (clsAt s g).steps.length - g.a.toNat - 1
      omega
     ·rcases ih g' hc.2.2 with h2 | h2
      ·exact .inl h2
      ·exact .inr (Nat.le_trans h2 (Nat.le_add_left _ _))
   rcases low r g h.2.2 with h2 | h2
   ·exact .inl h2
   ·refine .inr ?_
    show remR s L 0 (upR s (g :: r)) < lft s 0 f * 13 ^ flev s L f + remR s L 1 (g :: r)
    omega
theorem call_less {s : PSys} {L : List Int} (hC : Cert s L) (hg : s.good) {f : PFr} {r : List PFr} (h : chn s (f :: r)) (hk : (stepAtF s f).kind = 5) : remR s L 0 (⟨(stepAtF s f).on, 0⟩ :: f :: r) < remR s L 0 (f :: r) := by
 have hfo : frOk s f = true := chn_ok h f (by simp)
 obtain ⟨c1, c2, c3, c4⟩ := frOk_iff.1 hfo
 have hn := frOk_call hg (step_mem hg hfo) hk
 have hb : callsB s f ⟨(stepAtF s f).on, 0⟩ = true := by unfold callsB; rw [hk]; simp
 have hl := flev_lt hC hg hfo hb
 have h12 := len12 hg hn
 simp only [remR]
 generalize hn' : (⟨(stepAtF s f).on, 0⟩ : PFr) = n at *
 have hpn : 0 < 13 ^ flev s L n := Nat.pow_pos (by decide)
 have h1 : lft s 0 n * 13 ^ flev s L n < 13 ^ flev s L f := by
  refine Nat.lt_of_lt_of_le (m := 13 ^ (flev s L n + 1)) ?_ (Nat.pow_le_pow_right (by decide) hl)
  rw [Nat.pow_succ, Nat.mul_comm (13 ^ flev s L n) 13]
  refine Nat.mul_lt_mul_of_pos_right ?_ hpn
  unfold lft; omega
 have h2 : lft s 0 f = lft s 1 f + 1 := by unfold lft; omega
 rw [h2, Nat.add_mul, Nat.one_mul]
 omega
theorem take_less {s : PSys} {L : List Int} (hC : Cert s L) (hg : s.good) {l : List PFr} {c : Nat} (h : formedB s l c = true) (hs : staB l = false) : remS s L (takeS s l) < remS s L l := by
 obtain ⟨h0, _, hc⟩ := formed_iff.1 h
 obtain ⟨r, hr⟩ := rv_top h0
 rw [hr] at hc
 unfold remS
 rw [show (if staB l = true then 0 else remR s L 0 l.reverse) = remR s L 0 l.reverse from if_neg (by rw [hs]; decide)]
 split
 ·
  rw [hr]
  have hfo : frOk s (topF l) = true := chn_ok hc _ (by simp)
  obtain ⟨c1, c2, c3, c4⟩ := frOk_iff.1 hfo
  simp only [remR]
  have : 0 < lft s 0 (topF l) * 13 ^ flev s L (topF l) := Nat.mul_pos (by unfold lft; omega) (Nat.pow_pos (by decide))
  omega
 ·rename_i hst
  unfold takeS at hst ⊢
  by_cases hk : (stepAtF s (topF l)).kind = 5
  ·rw [if_pos hk, List.reverse_append, List.reverse_singleton, List.singleton_append, hr]
   exact call_less hC hg hc hk
  ·rw [if_neg hk] at hst ⊢
   rw [hr] at hst ⊢
   rcases up_less (L := L) hg r (topF l) hc with ⟨c', h2⟩ | h2
   ·rw [h2] at hst; simp [staB] at hst
   ·rw [List.reverse_reverse]; exact h2
end Go.AM

set_option maxRecDepth 8000
namespace Go.AM
open Go Go.Proofs

theorem deep_ok {s : PSys} {c : PCls} (hc : c.good s) (i : Nat) : ∀ k, k ≤ c.steps.length → 0 ≤ (ownU i (c.steps.take k)).2 ∧ (ownU i (c.steps.take k)).2 ≤ (ownU i (c.steps.take k)).1
 | 0, _ => by simp [ownU]
 | k + 1, h => by
  have ih := deep_ok hc i k (by omega)
  have hu := run_unit hc h i
  rw [← ownU_bal] at hu
  have hsn : c.steps.take (k + 1) = c.steps.take k ++ [c.steps[k]'(by omega)] := by rw [List.take_succ_eq_append_getElem]
  rw [hsn, ownU_snoc] at hu ⊢
  have hp := hc.pre _ (List.getElem_mem (l := c.steps) (n := k) (by omega))
  obtain ⟨_, _, hcnt, hcnt0⟩ := preE_0 hp
  generalize c.steps[k]'(by omega) = x at *
  generalize ownU i (c.steps.take k) = p at *
  unfold ustep at *
  by_cases h1 : x.on = (i : Int)
  ·rw [if_pos h1] at *
   by_cases h2 : x.kind = 1
   ·rw [if_pos h2] at *
    have := hcnt (.inl h2)
    simp only at *
    split <;> omega
   ·rw [if_neg h2] at *
    by_cases h3 : x.kind = 2
    ·rw [if_pos h3] at *
     have := hcnt (.inr h3)
     simp only at *
     omega
    ·rw [if_neg h3] at *; exact ih
  ·rw [if_neg h1] at *; exact ih
def shl (s : PSys) (i : Nat) (f : PFr) : Int := (ownU i ((clsAt s f).steps.take f.a.toNat)).1 - (ownU i ((clsAt s f).steps.take f.a.toNat)).2
def effS (i : Nat) (y : PStep) : Int := if y.on = i ∧ y.kind = 1 ∧ y.deep = false then y.cnt else 0
theorem shl_next {s : PSys} (hg : s.good) {f : PFr} (h : frOk s f = true) (i : Nat) : 0 ≤ shl s i ⟨f.c, f.a + 1⟩ ∧ shl s i ⟨f.c, f.a + 1⟩ ≤ shl s i f + effS i (stepAtF s f) := by
 obtain ⟨c1, c2, c3, c4⟩ := frOk_iff.1 h
 have hd := deep_ok (hg.cls _ (cls_mem h)) i (f.a + 1).toNat (by omega)
 refine ⟨by show 0 ≤ (ownU i ((clsAt s f).steps.take (f.a + 1).toNat)).1 - (ownU i ((clsAt s f).steps.take (f.a + 1).toNat)).2; omega, ?_⟩
 show (ownU i ((clsAt s f).steps.take (f.a + 1).toNat)).1 - (ownU i ((clsAt s f).steps.take (f.a + 1).toNat)).2 ≤ _
 rw [take_next h, ownU_snoc]
 unfold shl
 have hp := preE_0 (step_mem hg h)
 generalize ownU i ((clsAt s f).steps.take f.a.toNat) = p at *
 generalize stepAtF s f = x at *
 unfold ustep effS
 by_cases h1 : x.on = (i : Int)
 ·rw [if_pos h1]
  by_cases h2 : x.kind = 1
  ·rw [if_pos h2]
   cases h3 : x.deep with
   | true =>
    have e2 : (if x.on = (i : Int) ∧ x.kind = 1 ∧ true = false then x.cnt else 0) = 0 := if_neg (fun h => by cases h.2.2)
    rw [e2]
    simp only [if_true]
    omega
   | false =>
    have e2 : (if x.on = (i : Int) ∧ x.kind = 1 ∧ false = false then x.cnt else 0) = x.cnt := if_pos ⟨h1, h2, rfl⟩
    rw [e2]
    simp only [Bool.false_eq_true, if_false]
    omega
  ·have e2 : (if x.on = (i : Int) ∧ x.kind = 1 ∧ x.deep = false then x.cnt else 0) = 0 := if_neg (fun h => h2 h.2.1)
   rw [e2, if_neg h2]
   by_cases h3 : x.kind = 2
   ·rw [if_pos h3]
    have := hp.2.2.1 (.inr h3)
    simp only
    omega
   ·rw [if_neg h3]; omega
 ·have e2 : (if x.on = (i : Int) ∧ x.kind = 1 ∧ x.deep = false then x.cnt else 0) = 0 := if_neg (fun h => h1 h.1)
  rw [e2, if_neg h1]; omega
theorem up_leS {s : PSys} {G : PFr → Int} {E : PStep → Int} (hnext : ∀ f, frOk s f = true → 0 ≤ G ⟨f.c, f.a + 1⟩ ∧ G ⟨f.c, f.a + 1⟩ ≤ G f + E (stepAtF s f)) (hzero : ∀ c, G ⟨c, 0⟩ = 0) (hcall : ∀ y : PStep, y.kind = 5 → E y = 0) :
  ∀ (r : List PFr) (f : PFr), chn s (f :: r) → sumI G (upR s (f :: r)) ≤ sumI G (f :: r) + E (stepAtF s f)
 | [], f, h => by
  obtain ⟨h1, h2⟩ := hnext f (chn_ok h f (by simp))
  unfold upR
  split
  ·rw [sumI_cons, sumI_cons]; omega
  ·rw [sumI_cons, sumI_cons, hzero]; omega
 | g :: r, f, h => by
  obtain ⟨h1, h2⟩ := hnext f (chn_ok h f (by simp))
  unfold upR
  split
  ·have e1 := sumI_cons G ⟨f.c, f.a + 1⟩ (g :: r)
   have e2 := sumI_cons G f (g :: r)
   omega
  ·have ih := up_leS hnext hzero hcall r g h.2.2
   rw [hcall _ (calls_iff h.2.1).1] at ih
   have e := sumI_cons G f (g :: r)
   show sumI G (upR s (g :: r)) ≤ _
   omega
theorem sumI_rv (G : PFr → Int) : ∀ l : List PFr, sumI G l.reverse = sumI G l
 | [] => rfl
 | f :: l => by rw [List.reverse_cons, sumI_snoc, sumI_rv G l, sumI_cons]; omega
theorem takeS_leS {s : PSys} {G : PFr → Int} {E : PStep → Int} (hnext : ∀ f, frOk s f = true → 0 ≤ G ⟨f.c, f.a + 1⟩ ∧ G ⟨f.c, f.a + 1⟩ ≤ G f + E (stepAtF s f)) (hzero : ∀ c, G ⟨c, 0⟩ = 0) (hcall : ∀ y : PStep, y.kind = 5 → E y = 0)
  {l : List PFr} {c : Nat} (h : formedB s l c = true) : sumI G (takeS s l) ≤ sumI G l + E (stepAtF s (topF l)) := by
 obtain ⟨h0, _, hc⟩ := formed_iff.1 h
 obtain ⟨r, hr⟩ := rv_top h0
 rw [hr] at hc
 unfold takeS
 split
 ·rename_i hk
  rw [sumI_snoc, hzero, hcall _ hk]; omega
 ·rw [sumI_rv, hr, ← sumI_rv G l, hr]
  exact up_leS hnext hzero hcall r (topF l) hc
def DpInv (s : PSys) (x : PSt) : Prop := ∀ i, i < s.pools.length → sumI (shl s i) (frames x) ≤ (s.pools.getD i default).size - (s.pools.getD i default).res
theorem pool_ok {s : PSys} (hg : s.good) {i : Nat} (hi : i < s.pools.length) : ¬ (s.pools.getD i default).bad := hg.pool _ (by rw [List.getD_eq_getElem?_getD, List.getElem?_eq_getElem hi]; exact List.getElem_mem _)
theorem dp_ini {s : PSys} (hc : checkE s = 0) : DpInv s (iniX s) := by
 intro i hi
 have hb := pool_ok (good_of hc) hi
 unfold PPool.bad at hb
 have : sumI (shl s i) (frames (iniX s)) = 0 := by
  unfold iniX
  rw [sum_ini (fun c _ => by simp [shl, ownU]) _ fun c hc => hc]
 rw [this]; omega
theorem sumI_leM {G M : PFr → Int} : ∀ {L : List PFr}, (∀ f ∈ L, G f ≤ M f) → sumI G L ≤ sumI M L
 | [], _ => Int.le_refl _
 | f :: L, h => by
  rw [sumI_cons, sumI_cons]
  have h1 := h f (List.mem_cons_self ..)
  have h2 := sumI_leM (L := L) fun g hg => h g (List.mem_cons_of_mem _ hg)
  omega
theorem own_frU (s : PSys) (i : Nat) (f : PFr) : (ownU i ((clsAt s f).steps.take f.a.toNat)).1 = frU s i f := ownU_bal _ _
theorem dp_take {s : PSys} {x : PSt} (hc : checkE s = 0) (hV : Valid s x) (hD : DpInv s x) {w : Nat} (hw : w < x.length) (ha : ableB s x w = true) : DpInv s (takeX s x w) := by
 intro i hi
 have hV2 := val_take hV hw ha
 obtain ⟨c, _, hfm⟩ := val_formed hV hw
 have htop : stepAtF s (topF (x.getD w [])) = topS s x w := rfl
 by_cases hy : (topS s x w).on = i ∧ (topS s x w).kind = 1 ∧ (topS s x w).deep = false
 ·
  obtain ⟨h1, h2, h3⟩ := hy
  have hs := val_sumU hV hw hi
  have hle : sumI (shl s i) (frames (takeX s x w)) ≤ sumI (frU s i) (frames (takeX s x w)) := sumI_leM fun f hf => by
   have hfo := hV2.frames f hf
   obtain ⟨c1, c2, c3, c4⟩ := frOk_iff.1 hfo
   have hd := deep_ok (hV.good.cls _ (cls_mem hfo)) i f.a.toNat (by omega)
   unfold shl
   rw [own_frU] at *
   omega
  unfold ableB posB at ha
  rw [if_pos h2] at ha
  simp only [h3, Bool.false_and, Bool.false_or, decide_eq_true_eq, h1, Int.toNat_natCast] at ha
  have he : effU i (topS s x w) = (topS s x w).cnt := by unfold effU; rw [if_pos h1, if_pos h2]
  omega
 ·have he : effS i (topS s x w) = 0 := if_neg hy
  have h1 := takeS_leS (G := shl s i) (E := effS i) (fun f h => shl_next hV.good h i) (fun c => by simp [shl, ownU]) (fun y h => by unfold effS; rw [if_neg (by rw [h]; intro h; exact absurd h.2.1 (by decide))]) hfm
  rw [htop, he] at h1
  have h2 := hD i hi
  unfold takeX
  rw [frames_set _ _ _ _ hw]
  omega
end Go.AM

set_option maxRecDepth 8000
namespace Go.AM
open Go Go.Proofs

def cI (n : Nat) (f : PFr) : Int := if f.c = n then 1 else 0
theorem sum_pt {G M : PFr → Int} {f0 : PFr} {e : Int} : ∀ {L : List PFr}, f0 ∈ L → (∀ f ∈ L, G f ≤ M f) → G f0 + e ≤ M f0 → sumI G L + e ≤ sumI M L
 | [], h, _, _ => by simp at h
 | f :: L, h, h1, h2 => by
  rw [sumI_cons, sumI_cons]
  have h3 := h1 f (List.mem_cons_self ..)
  have h4 : ∀ g ∈ L, G g ≤ M g := fun g hg => h1 g (List.mem_cons_of_mem _ hg)
  rcases List.mem_cons.1 h with rfl | h
  ·have := sumI_leM h4; omega
  ·have := sum_pt h h4 h2; omega
theorem sumI_add2 (G H : PFr → Int) : ∀ L, sumI (fun f => G f + H f) L = sumI G L + sumI H L
 | [] => rfl
 | f :: L => by rw [sumI_cons, sumI_cons, sumI_cons, sumI_add2 G H L]; omega
theorem sumI_mul (G : PFr → Int) (m : Int) : ∀ L, sumI (fun f => G f * m) L = sumI G L * m
 | [] => by simp [sumI]
 | f :: L => by rw [sumI_cons, sumI_cons, sumI_mul G m L, Int.add_mul]
theorem cls_n {s : PSys} {f : PFr} {n : Nat} (h : f.c = n) : clsAt s f = s.classes.getD n default := by unfold clsAt; rw [h]; rfl
theorem chn_cli {s : PSys} (hg : s.good) {n : Nat} (hn : (s.classes.getD n default).server = false) : ∀ (r : List PFr) (f : PFr), chn s (f :: r) → sumI (cI n) (f :: r) ≤ if ((f :: r).getLast?.map (·.c)) = some (n : Int) then 1 else 0
 | [], f, h => by
  rw [sumI_cons]
  show cI n f + 0 ≤ if some f.c = some (n : Int) then 1 else 0
  unfold cI
  by_cases h1 : f.c = n
  ·rw [if_pos h1, if_pos (by rw [h1])]; omega
  ·rw [if_neg h1, if_neg (fun h => h1 (Option.some.inj h))]; omega
 | g :: r, f, h => by
  have ih := chn_cli hg hn r g h.2.2
  have hs := srv_true (call_srv hg (chn_ok h.2.2 g (by simp)) h.2.1)
  rw [sumI_cons, List.getLast?_cons_cons]
  have h0 : cI n f = 0 := by
   unfold cI
   refine if_neg fun h1 => ?_
   rw [cls_n h1, hn] at hs; cases hs
  rw [h0]; omega
theorem fmd_cnt {s : PSys} (hg : s.good) {n : Nat} (hn : (s.classes.getD n default).server = false) : ∀ (x : List (List PFr)) (ws : List Nat), x.length = ws.length → fmdAll s x ws = true → sumI (cI n) (frames x) ≤ (ws.count n : Nat)
 | [], [], _, _ => by simp [frames, sumI]
 | [], _ :: _, h, _ => by simp at h
 | _ :: _, [], h, _ => by simp at h
 | l :: x, c :: ws, h, hf => by
  unfold fmdAll at hf
  rw [Bool.and_eq_true] at hf
  have ih := fmd_cnt hg hn x ws (by simpa using h) hf.2
  obtain ⟨h0, h1, h2⟩ := formed_iff.1 hf.1
  obtain ⟨r, hr⟩ := rv_top h0
  rw [hr] at h1 h2
  have h3 := chn_cli hg hn r (topF l) h2
  rw [h1, ← hr, sumI_rv] at h3
  simp only [frames, List.flatten_cons, sumI_app, List.count_cons] at *
  by_cases hcn : c = n
  ·subst hcn
   simp only [if_true, beq_self_eq_true] at *
   omega
  ·have e1 : ¬ (some (c : Int) = some (n : Int)) := fun h => hcn (by have := Option.some.inj h; omega)
   have e2 : (c == n) = false := by simpa using hcn
   rw [if_neg e1] at h3
   rw [e2]
   simp only [Bool.false_eq_true, if_false]
   omega
theorem wkC_count : ∀ (L : List PCls) (k n : Nat), (wkC k L).count n ≤ if k ≤ n then (L.getD (n - k) default).workers.toNat else 0
 | [], k, n => by simp [wkC]
 | c :: L, k, n => by
  have ih := wkC_count L (k + 1) n
  rw [wkC_cons, List.count_append]
  have h1 : (if c.server = true then [] else List.replicate c.workers.toNat k).count n ≤ if k = n then c.workers.toNat else 0 := by
   split
   ·simp
   ·rw [List.count_replicate]
    by_cases h : k = n
    ·simp [h]
    ·have : (k == n) = false := by simpa using h
     rw [this]; simp
  by_cases h2 : k = n
  ·subst h2
   rw [if_neg (by omega)] at ih
   rw [if_pos rfl] at h1
   rw [if_pos (Nat.le_refl k), Nat.sub_self]
   show _ ≤ c.workers.toNat
   omega
  ·rw [if_neg h2] at h1
   by_cases h3 : k ≤ n
   ·rw [if_pos (by omega)] at ih
    rw [if_pos h3, show n - k = (n - (k + 1)) + 1 by omega]
    show _ ≤ (L.getD (n - (k + 1)) default).workers.toNat
    omega
   ·rw [if_neg (by omega)] at ih
    rw [if_neg h3]; omega
theorem cnt_le {s : PSys} {x : PSt} (hV : Valid s x) {n : Nat} (hn : n < s.classes.length) (hw0 : 0 ≤ (s.classes.getD n default).workers) : sumI (cI n) (frames x) ≤ (s.classes.getD n default).workers := by
 cases hs : (s.classes.getD n default).server with
 | true =>
  have h1 := (over_iff.1 hV.nover).2.1 n hn hs
  have h2 : sumI (cI n) (frames x) ≤ sumI (frE s n) (frames x) := sumI_leM fun f _ => by
   unfold cI frE
   by_cases h : f.c = n
   ·rw [if_pos h, if_pos ⟨h, by rw [cls_n h]; exact hs⟩]; exact Int.le_refl _
   ·rw [if_neg h, if_neg (fun h' => h h'.1)]; exact Int.le_refl _
  omega
 | false =>
  have h1 := fmd_cnt hV.good hs x (wkL s) hV.len hV.fmd
  have h2 := wkC_count s.classes 0 n
  rw [if_pos (Nat.zero_le n), Nat.sub_zero] at h2
  unfold wkL at h1
  omega
theorem grp {s : PSys} {x : PSt} (hV : Valid s x) (hw0 : ∀ c ∈ s.classes, 0 ≤ c.workers) (pool : Int) (d : Bool) (h0 : ∀ c ∈ s.classes, 0 ≤ mxN pool d c.steps c.steps.length) : ∀ n, n ≤ s.classes.length →
  sumI (fun f => if f.c < (n : Nat) then mxN pool d (clsAt s f).steps (clsAt s f).steps.length else 0) (frames x) ≤ demL pool d (s.classes.take n)
 | 0, _ => by
  have h1 : sumI (fun f => if f.c < ((0 : Nat) : Int) then mxN pool d (clsAt s f).steps (clsAt s f).steps.length else 0) (frames x) ≤ sumI (fun _ => (0 : Int) * 0) (frames x) := sumI_leM fun f hf => by
   obtain ⟨c1, _⟩ := frOk_iff.1 (hV.frames f hf)
   rw [if_neg (by omega)]; exact Int.le_refl _
  rw [sumI_mul] at h1
  simpa [demL] using h1
 | n + 1, h => by
  have ih := grp hV hw0 pool d h0 n (by omega)
  have hlt : n < s.classes.length := by omega
  have hm : s.classes.getD n default ∈ s.classes := by rw [List.getD_eq_getElem?_getD, List.getElem?_eq_getElem hlt]; exact List.getElem_mem _
  have htk : s.classes.take (n + 1) = s.classes.take n ++ [s.classes.getD n default] := by
   rw [List.take_succ_eq_append_getElem hlt, List.getD_eq_getElem?_getD, List.getElem?_eq_getElem hlt]; rfl
  rw [htk, demL_snoc]
  have hc := cnt_le hV hlt (hw0 _ hm)
  have hM := h0 _ hm
  generalize hMd : mxN pool d (s.classes.getD n default).steps (s.classes.getD n default).steps.length = M at *
  have h1 : sumI (fun f => if f.c < ((n + 1 : Nat) : Int) then mxN pool d (clsAt s f).steps (clsAt s f).steps.length else 0) (frames x) ≤ sumI (fun f => (if f.c < (n : Nat) then mxN pool d (clsAt s f).steps (clsAt s f).steps.length else 0) + cI n f * M) (frames x) := sumI_leM fun f _ => by
   unfold cI
   by_cases h2 : f.c < (n : Int)
   ·rw [if_pos (by omega), if_pos h2, if_neg (by omega)]; omega
   ·by_cases h3 : f.c = n
    ·rw [if_pos (by omega), if_neg h2, if_pos h3, cls_n h3, hMd]; omega
    ·rw [if_neg (by omega), if_neg h2, if_neg h3]; omega
  rw [sumI_add2, sumI_mul] at h1
  have h4 := Int.mul_le_mul_of_nonneg_right hc hM
  omega
theorem mxN_mono (pool : Int) (d : Bool) (l : List PStep) : ∀ {k n : Nat}, k ≤ n → mxN pool d l k ≤ mxN pool d l n
 | k, 0, h => by
  obtain rfl : k = 0 := by omega
  exact Int.le_refl _
 | k, n + 1, h => by
  rcases Nat.lt_or_ge k (n + 1) with h1 | h1
  ·have := mxN_mono pool d l (k := k) (n := n) (by omega)
   simp only [mxN]
   omega
  ·obtain rfl : k = n + 1 := by omega
   exact Int.le_refl _
end Go.AM

