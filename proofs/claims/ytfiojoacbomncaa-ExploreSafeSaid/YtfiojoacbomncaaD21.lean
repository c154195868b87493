/- Own work over the model of the kit. -/
import Derived.Test.YtfiojoacbomncaaD14
import Derived.Test.YtfiojoacbomncaaD9
import Derived.Test.YtfiojoacbomncaaD20
import Derived.Test.YtfiojoacbomncaaD18
import Derived.Test.YtfiojoacbomncaaD11
import Derived.Test.YtfiojoacbomncaaD4
set_option linter.constructorNameAsVariable false
set_option linter.unusedSimpArgs false
set_option linter.unusedVariables false
namespace Go.AM

def Wk (E : List (Nat × Nat)) : Nat → Nat → Nat → Prop
 | 0, a, v => a = v
 | k + 1, a, v => ∃ u, (u, v) ∈ E ∧ Wk E k a u
abbrev flip (E : List (Nat × Nat)) : List (Nat × Nat) := E.map fun p => (p.2, p.1)
def isSd (E : List (Nat × Nat)) (a v : Nat) (r : Int) : Prop := (r = -1 ∧ ∀ k, ¬ Wk E k a v) ∨ ∃ k : Nat, r = k ∧ Wk E k a v ∧ ∀ j, Wk E j a v → k ≤ j
theorem isSd_ex (E : List (Nat × Nat)) (a v : Nat) : ∃ r, isSd E a v r := by
 have key : ∀ n k, k ≤ n → Wk E k a v → ∃ k : Nat, Wk E k a v ∧ ∀ j, Wk E j a v → k ≤ j := by
  intro n
  induction n with
  | zero => intro k hk h; exact ⟨k, h, fun j _ => by omega⟩
  | succ n ih =>
   intro k hk h
   by_cases hh : ∃ j, j < k ∧ Wk E j a v
   ·obtain ⟨j, hj, hw⟩ := hh
    exact ih j (by omega) hw
   ·exact ⟨k, h, fun j hj => Nat.le_of_not_lt fun hlt => hh ⟨j, hlt, hj⟩⟩
 by_cases h : ∃ k, Wk E k a v
 ·obtain ⟨k, hk⟩ := h
  obtain ⟨k, h1, h2⟩ := key k k (Nat.le_refl _) hk
  exact ⟨k, .inr ⟨k, rfl, h1, h2⟩⟩
 ·exact ⟨-1, .inl ⟨rfl, fun k hk => h ⟨k, hk⟩⟩⟩
noncomputable def sd (E : List (Nat × Nat)) (a v : Nat) : Int := Classical.choose (isSd_ex E a v)
theorem sd_is (E : List (Nat × Nat)) (a v : Nat) : isSd E a v (sd E a v) := Classical.choose_spec (isSd_ex E a v)
theorem isSd_one {E : List (Nat × Nat)} {a v : Nat} {r r' : Int} (h : isSd E a v r) (h' : isSd E a v r') : r = r' := by
 rcases h with ⟨h1, h2⟩ | ⟨k, h1, h2, h3⟩ <;> rcases h' with ⟨g1, g2⟩ | ⟨j, g1, g2, g3⟩
 ·rw [h1, g1]
 ·exact absurd g2 (h2 j)
 ·exact absurd h2 (g2 k)
 ·have := h3 j g2; have := g3 k h2; omega
theorem sd_eq {E : List (Nat × Nat)} {a v : Nat} {r : Int} (h : isSd E a v r) : r = sd E a v := isSd_one h (sd_is E a v)
theorem getD_set' {α : Type} {l : List α} {i j : Nat} {a d : α} : (l.set i a).getD j d = if i = j ∧ i < l.length then a else l.getD j d := by
 simp only [List.getD_eq_getElem?_getD, List.getElem?_set]
 by_cases h : i = j
 ·subst h
  by_cases h2 : i < l.length
  ·simp [h2]
  ·simp [h2, List.getElem?_eq_none (Nat.le_of_not_lt h2)]
 ·simp [h]

structure BInv (E : List (Nat × Nat)) (n a : Nat) (d : List Int) (q : List Nat) (at' : Nat) : Prop where
 ln : d.length = n
 qn : ∀ v ∈ q, v < n
 nd : q.Nodup
 le : at' ≤ q.length
 vis : ∀ v, v < n → (v ∈ q ↔ 0 ≤ d.getD v (-1))
 neg : ∀ v, v < n → -1 ≤ d.getD v (-1)
 one : ∀ v, v < n → ¬ v ∈ q → d.getD v (-1) = -1
 src : a ∈ q ∧ d.getD a (-1) = 0
 walk : ∀ v ∈ q, Wk E (d.getD v (-1)).toNat a v
 ub : ∀ v ∈ q, d.getD v (-1) < q.length
 mono : ∀ (i j u v : Nat), i ≤ j → q[i]? = some u → q[j]? = some v → d.getD u (-1) ≤ d.getD v (-1)
 bnd : ∀ v ∈ q, ∀ (x : Nat), q[at']? = some x → d.getD v (-1) ≤ d.getD x (-1) + 1
 don : ∀ (i u w : Nat), i < at' → q[i]? = some u → (u, w) ∈ E → w ∈ q ∧ d.getD w (-1) ≤ d.getD u (-1) + 1
structure BMid (E : List (Nat × Nat)) (n a : Nat) (d : List Int) (q : List Nat) (at' x : Nat) (T : List Nat) : Prop where
 inv : BInv E n a d q at'
 atx : q[at']? = some x
 mid : ∀ w ∈ T, w ∈ q ∧ d.getD w (-1) ≤ d.getD x (-1) + 1

section
variable {E : List (Nat × Nat)} {n a : Nat} {d : List Int} {q : List Nat} {at' x : Nat} {T : List Nat}

theorem BInv.start (h : BInv E n a d q at') (hx : q[at']? = some x) : BMid E n a d q at' x [] := ⟨h, hx, fun w hw => by cases hw⟩
theorem BMid.skip (h : BMid E n a d q at' x T) {w : Nat} (hw : w < n) (hd : 0 ≤ d.getD w (-1)) : BMid E n a d q at' x (T ++ [w]) := by
 refine ⟨h.inv, h.atx, fun u hu => ?_⟩
 rcases List.mem_append.1 hu with hu | hu
 ·exact h.mid u hu
 ·simp at hu; subst hu
  have hm := (h.inv.vis u hw).2 hd
  exact ⟨hm, h.inv.bnd u hm x h.atx⟩
theorem BMid.add (h : BMid E n a d q at' x T) {w : Nat} (hw : w < n) (he : (x, w) ∈ E) (hd : d.getD w (-1) < 0) : BMid E n a (d.set w (d.getD x (-1) + 1)) (q ++ [w]) at' x (T ++ [w]) := by
 have hv := h.inv
 have hwq : ¬ w ∈ q := fun hm => by have := (hv.vis w hw).1 hm; omega
 have hxq : x ∈ q := List.mem_of_getElem? h.atx
 have hx0 := (hv.vis x (hv.qn x hxq)).1 hxq
 have hxw : w ≠ x := fun e => hwq (e ▸ hxq)
 have hat := (List.getElem?_eq_some_iff.1 h.atx).1
 have hnew : (d.set w (d.getD x (-1) + 1)).getD w (-1) = d.getD x (-1) + 1 := by rw [getD_set', if_pos ⟨rfl, by rw [hv.ln]; exact hw⟩]
 have hold : ∀ v, v ≠ w → (d.set w (d.getD x (-1) + 1)).getD v (-1) = d.getD v (-1) := fun v hv => by rw [getD_set', if_neg (fun hh => hv hh.1.symm)]
 have hold2 : ∀ v, v ∈ q → (d.set w (d.getD x (-1) + 1)).getD v (-1) = d.getD v (-1) := fun v hv => hold v (fun e => hwq (e ▸ hv))
 have get : ∀ i u, (q ++ [w])[i]? = some u → (i < q.length ∧ q[i]? = some u) ∨ (i = q.length ∧ u = w) := fun i u hu => by
  rcases Nat.lt_or_ge i q.length with hi | hi
  ·rw [List.getElem?_append_left hi] at hu; exact .inl ⟨hi, hu⟩
  ·rw [List.getElem?_append_right hi] at hu
   have : i - q.length = 0 := by
    have := (List.getElem?_eq_some_iff.1 hu).1; simpa using this
   rw [this] at hu; simp at hu
   exact .inr ⟨by omega, hu.symm⟩
 refine ⟨?_, by rw [List.getElem?_append_left hat]; exact h.atx, ?_⟩
 ·constructor
  ·simp [hv.ln]
  ·intro v hm
   rcases List.mem_append.1 hm with hm | hm
   ·exact hv.qn v hm
   ·simp at hm; subst hm; exact hw
  ·rw [List.nodup_append]
   exact ⟨hv.nd, by simp, fun u hu v hm => by simp at hm; subst hm; exact fun e => hwq (e ▸ hu)⟩
  ·simp; have := hv.le; omega
  ·intro v hvn
   by_cases e : v = w
   ·subst e; rw [hnew]; exact ⟨fun _ => by omega, fun _ => by simp⟩
   ·rw [hold v e, ← hv.vis v hvn]; simp [e]
  ·intro v hvn
   by_cases e : v = w
   ·subst e; rw [hnew]; omega
   ·rw [hold v e]; exact hv.neg v hvn
  ·intro v hvn hm
   simp at hm
   rw [hold v hm.2]; exact hv.one v hvn hm.1
  ·exact ⟨by simp [hv.src.1], by rw [hold2 a hv.src.1]; exact hv.src.2⟩
  ·intro v hm
   rcases List.mem_append.1 hm with hm | hm
   ·rw [hold2 v hm]; exact hv.walk v hm
   ·simp at hm; subst hm
    rw [hnew, show (d.getD x (-1) + 1).toNat = (d.getD x (-1)).toNat + 1 by omega]
    exact ⟨x, he, hv.walk x hxq⟩
  ·intro v hm
   rcases List.mem_append.1 hm with hm | hm
   ·rw [hold2 v hm]; have := hv.ub v hm; simp only [List.length_append, List.length_singleton, Int.natCast_add]; omega
   ·simp at hm; subst hm
    rw [hnew]; have := hv.ub x hxq; simp only [List.length_append, List.length_singleton, Int.natCast_add]; omega
  ·intro i j u v hij hu hv'
   rcases get i u hu with ⟨h1, h2⟩ | ⟨h1, h2⟩ <;> rcases get j v hv' with ⟨h3, h4⟩ | ⟨h3, h4⟩
   ·rw [hold2 u (List.mem_of_getElem? h2), hold2 v (List.mem_of_getElem? h4)]
    exact hv.mono i j u v hij h2 h4
   ·subst h4
    rw [hold2 u (List.mem_of_getElem? h2), hnew]
    exact hv.bnd u (List.mem_of_getElem? h2) x h.atx
   ·omega
   ·subst h2; subst h4; exact Int.le_refl _
  ·intro v hm x' hx'
   rw [List.getElem?_append_left hat, h.atx] at hx'
   cases hx'
   rw [hold2 x hxq]
   rcases List.mem_append.1 hm with hm | hm
   ·rw [hold2 v hm]; exact hv.bnd v hm x h.atx
   ·simp at hm; subst hm
    rw [hnew]; exact Int.le_refl _
  ·intro i u w' hi hu he'
   rw [List.getElem?_append_left (by omega)] at hu
   obtain ⟨g1, g2⟩ := hv.don i u w' hi hu he'
   rw [hold2 u (List.mem_of_getElem? hu), hold2 w' g1]
   exact ⟨by simp [g1], g2⟩
 ·intro u hu
  rcases List.mem_append.1 hu with hu | hu
  ·obtain ⟨g1, g2⟩ := h.mid u hu
   rw [hold2 u g1, hold2 x hxq]
   exact ⟨by simp [g1], g2⟩
  ·simp at hu; subst hu
   rw [hnew, hold2 x hxq]
   exact ⟨by simp, Int.le_refl _⟩
theorem BMid.next (h : BMid E n a d q at' x T) (hT : ∀ w, (x, w) ∈ E → w ∈ T) : BInv E n a d q (at' + 1) := by
 have hv := h.inv
 have hat := (List.getElem?_eq_some_iff.1 h.atx).1
 refine { hv with le := hat, bnd := fun v hm x' hx' => ?_, don := fun i u w hi hu he => ?_ }
 ·have h1 := hv.bnd v hm x h.atx
  have h2 := hv.mono at' (at' + 1) x x' (by omega) h.atx hx'
  omega
 ·by_cases e : i = at'
  ·subst e
   rw [h.atx] at hu; cases hu
   exact h.mid w (hT w he)
  ·exact hv.don i u w (by omega) hu he
theorem BInv.done (h : BInv E n a d q q.length) (hE : ∀ p ∈ E, p.2 < n) : d = (List.range n).map (sd E a) := by
 have hcl : ∀ u ∈ q, ∀ w, (u, w) ∈ E → w ∈ q ∧ d.getD w (-1) ≤ d.getD u (-1) + 1 := fun u hu w he => by
  obtain ⟨i, hi⟩ := List.mem_iff_getElem?.1 hu
  exact h.don i u w (List.getElem?_eq_some_iff.1 hi).1 hi he
 have hall : ∀ k v, Wk E k a v → v ∈ q ∧ d.getD v (-1) ≤ k := by
  intro k
  induction k with
  | zero => intro v hw; cases hw; exact ⟨h.src.1, by rw [h.src.2]; simp⟩
  | succ k ih =>
   rintro v ⟨u, hu, hw⟩
   obtain ⟨g1, g2⟩ := ih u hw
   obtain ⟨g3, g4⟩ := hcl u g1 v hu
   exact ⟨g3, by omega⟩
 refine List.ext_getElem (by simp [h.ln]) fun v h1 h2 => ?_
 have hvn : v < n := by rw [← h.ln]; exact h1
 have hg : d[v] = d.getD v (-1) := by simp [List.getD_eq_getElem?_getD, List.getElem?_eq_getElem h1]
 rw [List.getElem_map, List.getElem_range, hg]
 refine sd_eq ?_
 by_cases hm : v ∈ q
 ·have h0 := (h.vis v hvn).1 hm
  exact .inr ⟨(d.getD v (-1)).toNat, by omega, h.walk v hm, fun j hj => by have := (hall j v hj).2; omega⟩
 ·exact .inl ⟨h.one v hvn hm, fun k hk => hm (hall k v hk).1⟩
end
end Go.AM

set_option maxRecDepth 8000
set_option maxHeartbeats 1000000
namespace Go.AM
open Go Go.Proofs

def badE (n : Int) (e : PEdge) : Bool := decide (e.src < 0) || decide (n ≤ e.src) || decide (e.dst < 0) || decide (n ≤ e.dst)
def gchkR (ds : List D) (v : AV) : Prop := ∃ (n : Int) (l : List PEdge), ds = [.int .i64 n, .sl (some 4) (edgesD l)] ∧ l.length ≤ 10000 ∧ v = .dat (.int .i64 (gE n l))
end Go.AM

set_option maxRecDepth 8000
set_option maxHeartbeats 1000000
namespace Go.AM
open Go Go.Proofs

def outs (l : List PEdge) (x : Nat) : List Nat := l.filterMap fun e => if e.s = x then some e.t else none
noncomputable def distL (n : Nat) (l : List PEdge) (a : Nat) : List Int := (List.range n).map (sd (eF l) a)
def greachR (ds : List D) (v : AV) : Prop := ∃ (n : Nat) (l : List PEdge) (a : Nat), ds = [.int .i64 n, .sl (some 4) (edgesD l), .int .i64 a] ∧ GOk n l ∧ a < n ∧ v = .dat (.sl none (intsD (distL n l a)))
end Go.AM

set_option maxRecDepth 8000
set_option maxHeartbeats 1000000
namespace Go.AM
open Go Go.Proofs

def mulR (ds : List D) (v : AV) : Prop := ∃ n : Nat, ds = [.int .u64 1, .int .u64 n] ∧ n < 65536 ∧ v = .tup [.dat (.int .u64 0), .dat (.int .u64 n)]
def repR (ds : List D) (v : AV) (ob : List Obj) : Prop := ∃ (z : Int) (n : Nat), ds = [.sl none [.int .i64 z], .int .i64 n] ∧ 0 < n ∧ n ≤ 4096 ∧ v = .sl 0 0 n ∧ ob = [.row none (intsD (List.replicate n z))]
end Go.AM

set_option maxRecDepth 8000
set_option maxHeartbeats 1000000
namespace Go.AM
open Go Go.Proofs

def idxs (f : PEdge → Nat) : Nat → List PEdge → Nat → List Nat
 | _, [], _ => []
 | k, e :: r, v => if f e = v then k :: idxs f (k + 1) r v else idxs f (k + 1) r v
def idxL (f : PEdge → Nat) (n : Nat) (l : List PEdge) : List (List Nat) := (List.range n).map fun v => idxs f 0 l v
abbrev natsR (r : List Nat) : D := .sl none (natsD r)
abbrev rowsN (M : List (List Nat)) : List (List D) := M.map natsD
def leavR (ds : List D) (v : AV) : Prop := ∃ (n : Nat) (l : List PEdge), ds = [.int .i64 n, .sl (some 4) (edgesD l)] ∧ GOk n l ∧ v = .dat (.sl none ((idxL PEdge.s n l).map natsR))
end Go.AM

set_option maxRecDepth 8000
set_option maxHeartbeats 2000000
namespace Go.AM
open Go Go.Proofs

def sameR (ds : List D) (v : AV) : Prop := ∃ (L : List Nat), ds = [.sl none (natsD L), .sl none (natsD L)] ∧ L.length ≤ 10000 ∧ v = .dat (.bool true)
theorem same_ok : OkF Try.prog 18 (dataC sameR) := by
 refine okF_data Try.func18 rfl (by decide) ?_
 rintro ds v ⟨L, rfl, hL, rfl⟩
 refine sem_of_awp (Γ := tbl []) okG_nil _ _ _ ?_
 simp only [go_sem, Int.reduceEq, Int.reduceLT, Int.reduceLE, eq_self, Int.natCast_nonneg, Int.toNat_natCast, Try.ntmps18, nats_len]
 refine sem_loop (fun k : Nat => ⟨slotsOf 26 [(0, .dat (.sl none (natsD L))), (1, .dat (.sl none (natsD L))), (5, .dat (.int .i64 k))], [], 0, []⟩)
  (fun k => k ≤ L.length) (fun k => L.length - k) 0 (Nat.zero_le _) ?_ ?_
 ·exact le_slots' (by simp only [go_sem, Int.natCast_zero])
 rintro k hk
 refine sem_of_awp (Γ := tbl []) okG_nil _ _ _ ?_
 cases hd : L.drop k with
 | nil =>
  have := end_of_drop hd hk
  have hk2 : ¬ (k : Int) < L.length := by omega
  simp only [go_sem, Int.reduceEq, Int.reduceLT, Int.reduceLE, eq_self, Int.natCast_nonneg, Int.toNat_natCast, hk2, nats_len]
  exact post_data (.inl rfl) [4] rfl trivial rfl
 | cons x r =>
  have hlt := lt_of_drop hd
  have hk2 : (k : Int) < L.length := by omega
  have hk0 : (0 : Int) ≤ k := Int.natCast_nonneg k
  have hn := nth_of_drop (f := natD) hd
  simp only [go_sem, Int.reduceEq, Int.reduceLT, Int.reduceLE, eq_self, Int.natCast_nonneg, Int.toNat_natCast, hk2, nats_len]
  refine sem_draw (pf := []) (Γ := tbl []) mixed okG_nil pureNo [0, 1, 2, 3, 4, 5, 6, 7, 8] (by kernel_rfl) ?_
  simp only [go_sem, Int.reduceEq, Int.reduceLT, Int.reduceLE, eq_self, Int.natCast_nonneg, Int.toNat_natCast, chainI, hk2, hlt, hk0, hn, nats_len]
  refine ⟨inR_i64.2 (by omega), k + 1, by omega, by omega, ?_⟩
  exact le_slots' (by simp only [go_sem, Int.natCast_add, Int.cast_ofNat_Int])
end Go.AM

set_option maxRecDepth 8000
set_option maxHeartbeats 4000000
namespace Go.AM
open Go Go.Proofs

abbrev awakeXR : List D → AV → Prop := fun ds v => ds = [] ∧ v = .dat (.bool true)
theorem awakeXR_true : awakeXR [] (.dat (.bool true)) := ⟨rfl, rfl⟩
def phiS2 : PSt := [[⟨0, 1⟩], [⟨1, 1⟩]]
theorem phi2_ok : checkE (phiP 2 false) = 0 := by kernel_rfl
theorem phi2_dead : deadC (phiP 2 false) 12 = some ([0, 1], 0, 0) := by kernel_rfl
theorem tak222_ok : checkE (takP 2 2 2) = 0 := by kernel_rfl
theorem tak222_dead : deadC (takP 2 2 2) 12 = some ([0, 1], 0, 0) := by kernel_rfl
theorem tak223_ok : checkE (takP 2 2 3) = 0 := by kernel_rfl
theorem tak223_dead : deadC (takP 2 2 3) 12 = some ([], 0, 6) := by kernel_rfl
theorem phi2_reach : reachN (phiP 2 false) = (8, 0) := by kernel_rfl
theorem phi2_replay : replayX (phiP 2 false) [0, 1] = (phiS2, 0) := by kernel_rfl
theorem phi2_stuck : stuckX (phiP 2 false) phiS2 = ([0, 1], 0) := by kernel_rfl
theorem phi2_en : enabL (phiP 2 false) phiS2 = [] := by kernel_rfl
theorem phi2_err : stErr (phiP 2 false) phiS2 = 0 := by kernel_rfl
theorem phi2_fit : (phiP 2 false).fit := ⟨⟨by decide, by decide, by decide⟩⟩
theorem phiS2_fit : PStFit phiS2 := ⟨by decide, by decide⟩
abbrev tabAw : List (Nat × Contract) := [(30, dataC phiPR), (29, dataC takPR), (23, dataC deadR), (21, dataC reachNR), (31, dataC replayXR), (26, dataC stuckR), (19, dataC enabR), (15, dataC stErrR), (31, frzC (dataC replayXR)), (18, frzC (dataC sameR))]
theorem tabAw_ok : OkG Try.prog (tbl tabAw) := okG_cons philosophers_ok (okG_cons takers_ok (okG_cons xDeadlock_ok (okG_cons xReach_ok (okG_cons xReplay_ok (okG_cons xStuck_ok (okG_cons xEnabled_ok (okG_cons xcheck_ok (okG_cons (okF_frz xReplay_ok) (okG_cons (okF_frz same_ok) okG_nil)))))))))
theorem awakeX_ok : OkF Try.prog 11 (dataC awakeXR) := by
 refine okF_data Try.func11 rfl (by decide) ?_
 rintro ds v ⟨rfl, rfl⟩
 have d1 := deadR_of phi2_ok phi2_dead
 have d2 := deadR_of tak222_ok tak222_dead
 have d3 := deadR_of tak223_ok tak223_dead
 have r1 : reachNR [sysD (phiP 2 false)] (.tup [.dat (.int .i64 8), .dat (.int .i64 0)]) := ⟨_, rfl, phi2_fit, by rw [phi2_reach]⟩
 have r2 : replayXR [sysD (phiP 2 false), .sl none (intsD [0, 1])] (.tup [.dat (stD phiS2), .dat (.int .i64 0)]) := ⟨_, _, rfl, phi2_fit, by decide, by rw [phi2_replay]⟩
 have r3 : stuckR [sysD (phiP 2 false), stD phiS2] (.tup [.dat (natlD [0, 1]), .dat (.int .i64 0)]) := ⟨_, _, rfl, phi2_fit, phiS2_fit, by rw [phi2_stuck]⟩
 have r4 : enabR [sysD (phiP 2 false), stD phiS2] (.dat (.sl none [])) := ⟨_, _, rfl, phi2_fit, phiS2_fit, by rw [phi2_en]; rfl⟩
 have r5 : stErrR [sysD (phiP 2 false), stD phiS2] (.dat (.int .i64 0)) := ⟨_, _, rfl, phi2_fit, phiS2_fit, by rw [phi2_err]⟩
 have p1 : phiPR [.int .i64 2, .bool false] (.dat (sysD (phiP 2 false))) := ⟨2, false, rfl, by decide, rfl⟩
 have p2 : takPR [.int .i64 2, .int .i64 2, .int .i64 2] (.dat (sysD (takP 2 2 2))) := ⟨2, 2, 2, rfl, by decide, rfl⟩
 have p3 : takPR [.int .i64 2, .int .i64 2, .int .i64 3] (.dat (sysD (takP 2 2 3))) := ⟨2, 2, 3, rfl, by decide, rfl⟩
 have s1 : sameR [.sl none (natsD [0, 1]), .sl none (natsD [0, 1])] (.dat (.bool true)) := ⟨[0, 1], rfl, by decide, rfl⟩
 refine sem_of_awp (Γ := tbl tabAw) tabAw_ok _ _ _ ?_
 simp only [go_sem, Int.reduceEq, Int.reduceLT, Int.reduceLE, eq_self, Int.natCast_nonneg, Int.toNat_natCast, Try.ntmps11]
 refine call_data phiPR (by simp) [.int .i64 2, .bool false] _ rfl p1 (.inl rfl) ?_
 generalize hP : phiP 2 false = P at *
 simp only [go_sem, Int.reduceEq, Int.reduceLT, Int.reduceLE, eq_self, Int.natCast_nonneg, Int.toNat_natCast, sysD]
 refine call_data deadR (by simp) [sysD P] _ rfl d1 (.inl rfl) ?_
 simp only [go_sem, Int.reduceEq, Int.reduceLT, Int.reduceLE, eq_self, Int.natCast_nonneg, Int.toNat_natCast, sysD]
 refine call_data reachNR (by simp) [sysD P] _ rfl r1 (.inl rfl) ?_
 simp only [go_sem, Int.reduceEq, Int.reduceLT, Int.reduceLE, eq_self, Int.natCast_nonneg, Int.toNat_natCast, sysD]
 refine call_data takPR (by simp) [.int .i64 2, .int .i64 2, .int .i64 2] _ rfl p2 (.inl rfl) ?_
 simp only [go_sem, Int.reduceEq, Int.reduceLT, Int.reduceLE, eq_self, Int.natCast_nonneg, Int.toNat_natCast]
 refine call_data deadR (by simp) [sysD (takP 2 2 2)] _ rfl d2 (.inl rfl) ?_
 simp only [go_sem, Int.reduceEq, Int.reduceLT, Int.reduceLE, eq_self, Int.natCast_nonneg, Int.toNat_natCast]
 refine call_data takPR (by simp) [.int .i64 2, .int .i64 2, .int .i64 3] _ rfl p3 (.inl rfl) ?_
 simp only [go_sem, Int.reduceEq, Int.reduceLT, Int.reduceLE, eq_self, Int.natCast_nonneg, Int.toNat_natCast]
 refine call_data deadR (by simp) [sysD (takP 2 2 3)] _ rfl d3 (.inl rfl) ?_
 simp only [go_sem, Int.reduceEq, Int.reduceLT, Int.reduceLE, eq_self, Int.natCast_nonneg, Int.toNat_natCast]
 refine call_frzdata replayXR (by simp) 1 rfl [sysD P, .sl none (intsD [0, 1])] _ rfl r2 (.inl rfl) ?_
 simp only [go_sem, Int.reduceEq, Int.reduceLT, Int.reduceLE, eq_self, Int.natCast_nonneg, Int.toNat_natCast, sysD, stD]
 refine call_data stuckR (by simp) [sysD P, stD phiS2] _ rfl r3 (.inl rfl) ?_
 simp only [go_sem, Int.reduceEq, Int.reduceLT, Int.reduceLE, eq_self, Int.natCast_nonneg, Int.toNat_natCast, sysD, stD, eq_self, decide_true]
 refine call_frzdata sameR (by simp) 3 rfl [.sl none (natsD [0, 1]), .sl none (natsD [0, 1])] _ rfl s1 (.inl rfl) ?_
 simp only [go_sem, Int.reduceEq, Int.reduceLT, Int.reduceLE, eq_self, Int.natCast_nonneg, Int.toNat_natCast, sysD, stD, eq_self, decide_true]
 refine call_frzdata sameR (by simp) 4 rfl [.sl none (natsD [0, 1]), .sl none (natsD [0, 1])] _ rfl s1 (.inl rfl) ?_
 simp only [go_sem, Int.reduceEq, Int.reduceLT, Int.reduceLE, eq_self, Int.natCast_nonneg, Int.toNat_natCast, sysD, stD, eq_self, decide_true]
 refine call_data enabR (by simp) [sysD P, stD phiS2] _ rfl r4 (.inl rfl) ?_
 simp only [go_sem, Int.reduceEq, Int.reduceLT, Int.reduceLE, eq_self, Int.natCast_nonneg, Int.toNat_natCast, sysD, stD, eq_self, decide_true]
 refine call_frzdata sameR (by simp) 5 rfl [.sl none (natsD [0, 1]), .sl none (natsD [0, 1])] _ rfl s1 (.inl rfl) ?_
 simp only [go_sem, Int.reduceEq, Int.reduceLT, Int.reduceLE, eq_self, Int.natCast_nonneg, Int.toNat_natCast, sysD, stD, eq_self, decide_true]
 refine call_data stErrR (by simp) [sysD P, stD phiS2] _ rfl r5 (.inl rfl) ?_
 simp only [go_sem, Int.reduceEq, Int.reduceLT, Int.reduceLE, eq_self, Int.natCast_nonneg, Int.toNat_natCast, sysD, stD, eq_self, decide_true]
 exact post_data (.inl rfl) [0] rfl trivial rfl
end Go.AM

set_option maxRecDepth 8000
set_option maxHeartbeats 4000000
namespace Go.AM
open Go Go.Proofs

abbrev tabZ1 : List (Nat × Contract) := [(11, dataC awakeXR), (12, dataC few4R), (28, dataC startXR), (25, dataC startXR), (13, dataC stepXR), (14, dataC stepXR), (31, dataC replayXR), (32, dataC replayXR), (15, dataC stErrR), (16, dataC stErrR), (19, dataC enabR), (20, dataC enabR), (33, dataC availR), (34, dataC availR), (17, dataC sameXR), (18, dataC sameR)]
theorem tabZ1_ok : OkG Try.prog (tbl tabZ1) := okG_cons awakeX_ok (okG_cons few4_ok (okG_cons xstart_ok (okG_cons rStart_ok (okG_cons xStep_ok (okG_cons rStep44_ok (okG_cons xReplay_ok (okG_cons rReplay44_ok (okG_cons xcheck_ok (okG_cons rCheck44_ok (okG_cons xEnabled_ok (okG_cons rEnabled_ok (okG_cons xAvailable_ok (okG_cons rAvailable_ok (okG_cons rSame44_ok (okG_cons same_ok okG_nil)))))))))))))))
theorem pureZ1 {pf : List Nat} : PureFns (tbl tabZ1) pf := pure_of (by
 intro g C h hg
 simp only [tabZ1, List.mem_cons, Prod.mk.injEq, List.not_mem_nil, or_false] at h
 rcases h with ⟨_, h⟩ | ⟨_, h⟩ | ⟨_, h⟩ | ⟨_, h⟩ | ⟨_, h⟩ | ⟨_, h⟩ | ⟨_, h⟩ | ⟨_, h⟩ | ⟨_, h⟩ | ⟨_, h⟩ | ⟨_, h⟩ | ⟨_, h⟩ | ⟨_, h⟩ | ⟨_, h⟩ | ⟨_, h⟩ | ⟨_, h⟩ <;> exact ⟨_, h⟩)
abbrev pfZ1 : List Nat := [15, 16, 19, 20, 33, 34, 17, 18]
theorem kfit_fr {x : PSt} (h : KFit x) : FrFit x := by
 intro f hf
 obtain ⟨l, hl, hf⟩ := List.mem_flatten.1 hf
 have := h.fr l hl f hf
 exact ⟨inR_i64.2 (by omega), inR_i64.2 (by omega)⟩
theorem kfit_st {x : PSt} (h : KFit x) : PStFit x := ⟨by have := h.len; omega, fun l hl => by have := h.stk l hl; omega⟩
theorem kfit_nil : KFit [] := ⟨by simp, by simp, by simp⟩
theorem step_kfit (s : PSys) (x : PSt) (w : Int) : KFit (stepX s x w).1 := by
 unfold stepX
 by_cases h1 : stErr s x ≠ 0
 ·rw [if_pos h1]; exact kfit_nil
 rw [if_neg h1]
 by_cases h2 : w < 0 ∨ (x.length : Int) ≤ w
 ·rw [if_pos h2]; exact kfit_nil
 rw [if_neg h2]
 by_cases h3 : ableB s x w.toNat = false
 ·rw [if_pos h3]; exact kfit_nil
 rw [if_neg h3]
 exact val_kfit (val_take (valid_of (by omega)) (by omega) (by simpa using h3))
theorem able_ok (s : PSys) (x : PSt) (h : PStFit x) : (enabL s x).length ≤ 10000 := by
 unfold enabL
 split
 ·simp
 ·have h1 := able_len s x x.length
  have h2 := h.len
  unfold ableL; omega
def lawChR (ds : List D) (v : AV) : Prop := ∃ (s : PSys) (x : PSt) (w : Int), ds = [sysD s, stD x, .int .i64 w] ∧ v = .dat (.bool true)
theorem lawChecks_ok : OkF Try.prog 3 (dataC lawChR) := by
 refine okF_data Try.func3 rfl (by decide) ?_
 rintro ds v ⟨s, x, w, rfl, rfl⟩
 have hxl2 : (stacksD x).length = x.length := by simp
 refine sem_of_awp (Γ := tbl tabZ1) tabZ1_ok _ _ _ ?_
 simp only [go_sem, Int.reduceEq, Int.reduceLT, Int.reduceLE, eq_self, Int.natCast_nonneg, Int.toNat_natCast, Try.ntmps3, sysD, stD]
 refine call_data awakeXR (by simp) [] _ rfl awakeXR_true (.inl rfl) ?_
 simp only [go_sem, Int.reduceEq, Int.reduceLT, Int.reduceLE, eq_self, Int.natCast_nonneg, Int.toNat_natCast]
 refine call_data few4R (by simp) [sysD s] _ rfl ⟨s, rfl, rfl⟩ (.inl rfl) ?_
 cases hf : few4B s with
 | false =>
  simp only [go_sem, Int.reduceEq, Int.reduceLT, Int.reduceLE, eq_self, Int.natCast_nonneg, Int.toNat_natCast, hf]
  refine call_data awakeXR (by simp) [] _ rfl awakeXR_true (.inl rfl) ?_
  simp only [go_sem, Int.reduceEq, Int.reduceLT, Int.reduceLE, eq_self, Int.natCast_nonneg, Int.toNat_natCast]
  exact post_data (.inl rfl) [6] rfl trivial rfl
 | true =>
 have hs := few4_fit hf
 by_cases hl : (10 : Int) < x.length
 ·simp only [go_sem, Int.reduceEq, Int.reduceLT, Int.reduceLE, eq_self, Int.natCast_nonneg, Int.toNat_natCast, hf, hxl2, hl]
  refine call_data awakeXR (by simp) [] _ rfl awakeXR_true (.inl rfl) ?_
  simp only [go_sem, Int.reduceEq, Int.reduceLT, Int.reduceLE, eq_self, Int.natCast_nonneg, Int.toNat_natCast]
  exact post_data (.inl rfl) [6] rfl trivial rfl
 simp only [go_sem, Int.reduceEq, Int.reduceLT, Int.reduceLE, eq_self, Int.natCast_nonneg, Int.toNat_natCast, hf, hxl2, hl]
 refine sem_loop (fun k : Nat => ⟨slotsOf 78 [(2, .dat (.int .i64 w)), (3, .ptr 0 0 0), (4, .ptr 1 0 0), (28, .dat (.sl none (stacksD x))), (29, .dat (.int .i64 x.length)), (30, .dat (.int .i64 k))], [sysO s, stO x], 0, []⟩)
  (fun k => k ≤ x.length ∧ ∀ l ∈ x.take k, l.length ≤ 20) (fun k => x.length - k) 0 ⟨Nat.zero_le _, by simp⟩ ?_ ?_
 ·exact le_slots' (by simp only [go_sem, Int.natCast_zero])
 rintro k ⟨hk, h20⟩
 refine sem_of_awp (Γ := tbl tabZ1) tabZ1_ok _ _ _ ?_
 cases hd : x.drop k with
 | cons l r =>
  have hlt := lt_of_drop hd
  have hk2 : (k : Int) < x.length := by omega
  have hk0 : (0 : Int) ≤ k := Int.natCast_nonneg k
  have hn := nth_of_drop (f := stackD) hd
  have hfl : (frsD l).length = l.length := by simp
  by_cases h2 : (20 : Int) < l.length
  ·simp only [go_sem, Int.reduceEq, Int.reduceLT, Int.reduceLE, eq_self, Int.natCast_nonneg, Int.toNat_natCast, hk2, hk0, hlt, hxl2, hn, stackD, hfl, h2]
   exact post_data (.inl rfl) [6] rfl trivial rfl
  ·simp only [go_sem, Int.reduceEq, Int.reduceLT, Int.reduceLE, eq_self, Int.natCast_nonneg, Int.toNat_natCast, hk2, hk0, hlt, hxl2, hn, stackD, hfl, h2]
   refine ⟨inR_i64.2 (by omega), k + 1, ⟨by omega, fun l' hl' => ?_⟩, by omega, ?_⟩
   ·rw [take_of_drop hd] at hl'
    rcases List.mem_append.1 hl' with h3 | h3
    ·exact h20 l' h3
    ·rw [List.mem_singleton.1 h3]; omega
   ·exact le_slots' (by simp only [go_sem, Int.natCast_add, Int.cast_ofNat_Int])
 | nil =>
 obtain rfl : k = x.length := end_of_drop hd hk
 have hk2 : ¬ (x.length : Int) < x.length := by omega
 rw [List.take_length] at h20
 have hx : PStFit x := ⟨by omega, fun l hl' => by have := h20 l hl'; omega⟩
 have hkf := step_kfit s x w
 have hal := able_ok s x hx
 have hsp : stepXR [sysD s, stD x, .int .i64 w] (.tup [.dat (stD (stepX s x w).1), .dat (.int .i64 (stepX s x w).2)]) := ⟨s, x, w, rfl, hs, hx, rfl⟩
 generalize stepX s x w = p at *
 obtain ⟨y, e⟩ := p
 simp only at hkf
 simp only [go_sem, Int.reduceEq, Int.reduceLT, Int.reduceLE, eq_self, Int.natCast_nonneg, Int.toNat_natCast, hk2]
 refine call_data stepXR (by simp) [sysD s, stD x, .int .i64 w] _ rfl hsp (.inl rfl) ?_
 simp only [go_sem, Int.reduceEq, Int.reduceLT, Int.reduceLE, eq_self, Int.natCast_nonneg, Int.toNat_natCast, stD]
 refine call_data stepXR (by simp) [sysD s, stD x, .int .i64 w] _ rfl hsp (.inl rfl) ?_
 simp only [go_sem, Int.reduceEq, Int.reduceLT, Int.reduceLE, eq_self, Int.natCast_nonneg, Int.toNat_natCast, stD]
 refine sem_draw (pf := pfZ1) mixed tabZ1_ok pureZ1 [0, 1, 2, 3, 4, 5, 6, 7, 8, 9, 10, 11, 12, 13, 14, 15, 16, 17, 18, 19, 20, 21, 22, 23, 24, 25, 26] (by kernel_rfl) ?_
 simp only [go_sem, Int.reduceEq, Int.reduceLT, Int.reduceLE, eq_self, Int.natCast_nonneg, Int.toNat_natCast, chainI, stD]
 refine call_data stErrR (by simp) [sysD s, stD x] _ rfl ⟨s, x, rfl, hs, hx, rfl⟩ (.inl rfl) ?_
 simp only [go_sem, Int.reduceEq, Int.reduceLT, Int.reduceLE, eq_self, Int.natCast_nonneg, Int.toNat_natCast, chainI, stD]
 refine call_data stErrR (by simp) [sysD s, stD x] _ rfl ⟨s, x, rfl, hs, hx, rfl⟩ (.inl rfl) ?_
 simp only [go_sem, Int.reduceEq, Int.reduceLT, Int.reduceLE, eq_self, Int.natCast_nonneg, Int.toNat_natCast, chainI, stD, eq_self, decide_true]
 refine call_data sameXR (by simp) [stD y, stD y] _ rfl ⟨y, rfl, kfit_st hkf, kfit_fr hkf, rfl⟩ (.inl rfl) ?_
 simp only [go_sem, Int.reduceEq, Int.reduceLT, Int.reduceLE, eq_self, Int.natCast_nonneg, Int.toNat_natCast, chainI, stD, eq_self, decide_true]
 refine call_data enabR (by simp) [sysD s, stD x] _ rfl ⟨s, x, rfl, hs, hx, rfl⟩ (.inl rfl) ?_
 simp only [go_sem, Int.reduceEq, Int.reduceLT, Int.reduceLE, eq_self, Int.natCast_nonneg, Int.toNat_natCast, chainI, stD, eq_self, decide_true]
 refine call_data enabR (by simp) [sysD s, stD x] _ rfl ⟨s, x, rfl, hs, hx, rfl⟩ (.inl rfl) ?_
 simp only [go_sem, Int.reduceEq, Int.reduceLT, Int.reduceLE, eq_self, Int.natCast_nonneg, Int.toNat_natCast, chainI, stD, eq_self, decide_true]
 refine call_data sameR (by simp) [.sl none (natsD (enabL s x)), .sl none (natsD (enabL s x))] _ rfl ⟨_, rfl, hal, rfl⟩ (.inl rfl) ?_
 simp only [go_sem, Int.reduceEq, Int.reduceLT, Int.reduceLE, eq_self, Int.natCast_nonneg, Int.toNat_natCast, chainI, stD, eq_self, decide_true]
 exact post_data (.inl rfl) [6] rfl trivial rfl

theorem replayF_kfit (s : PSys) : ∀ (ws : List Int) (x : PSt), KFit x → KFit (replayF s x ws).1
 | [], x, h => h
 | w :: ws, x, h => by
  unfold replayF
  split
  ·exact kfit_nil
  ·exact replayF_kfit s ws _ (step_kfit s x w)
theorem ini_kfit (s : PSys) : KFit (if checkE s = 0 then iniX s else []) := by
 split
 ·rename_i h; exact val_kfit (iniX_valid h)
 ·exact kfit_nil
theorem replay_kfit (s : PSys) (ws : List Int) : KFit (replayX s ws).1 := by
 unfold replayX
 split
 ·exact kfit_nil
 ·rename_i h
  exact replayF_kfit s ws _ (val_kfit (iniX_valid (by omega)))
def lawStR (ds : List D) (v : AV) : Prop := ∃ (s : PSys) (ws : List Int) (p : Int), ds = [sysD s, .sl none (intsD ws), .int .i64 p] ∧ v = .dat (.bool true)
theorem lawSteps_ok : OkF Try.prog 8 (dataC lawStR) := by
 refine okF_data Try.func8 rfl (by decide) ?_
 rintro ds v ⟨s, ws, p, rfl, rfl⟩
 have hwl : (intsD ws).length = ws.length := by simp
 refine sem_of_awp (Γ := tbl tabZ1) tabZ1_ok _ _ _ ?_
 simp only [go_sem, Int.reduceEq, Int.reduceLT, Int.reduceLE, eq_self, Int.natCast_nonneg, Int.toNat_natCast, Try.ntmps8, sysD]
 refine call_data awakeXR (by simp) [] _ rfl awakeXR_true (.inl rfl) ?_
 simp only [go_sem, Int.reduceEq, Int.reduceLT, Int.reduceLE, eq_self, Int.natCast_nonneg, Int.toNat_natCast]
 refine call_data few4R (by simp) [sysD s] _ rfl ⟨s, rfl, rfl⟩ (.inl rfl) ?_
 cases hf : few4B s with
 | false =>
  simp only [go_sem, Int.reduceEq, Int.reduceLT, Int.reduceLE, eq_self, Int.natCast_nonneg, Int.toNat_natCast, hf]
  refine call_data awakeXR (by simp) [] _ rfl awakeXR_true (.inl rfl) ?_
  simp only [go_sem, Int.reduceEq, Int.reduceLT, Int.reduceLE, eq_self, Int.natCast_nonneg, Int.toNat_natCast]
  exact post_data (.inl rfl) [6] rfl trivial rfl
 | true =>
 have hs := few4_fit hf
 by_cases hl : (60 : Int) < ws.length
 ·simp only [go_sem, Int.reduceEq, Int.reduceLT, Int.reduceLE, eq_self, Int.natCast_nonneg, Int.toNat_natCast, hf, hwl, hl]
  refine call_data awakeXR (by simp) [] _ rfl awakeXR_true (.inl rfl) ?_
  simp only [go_sem, Int.reduceEq, Int.reduceLT, Int.reduceLE, eq_self, Int.natCast_nonneg, Int.toNat_natCast]
  exact post_data (.inl rfl) [6] rfl trivial rfl
 simp only [go_sem, Int.reduceEq, Int.reduceLT, Int.reduceLE, eq_self, Int.natCast_nonneg, Int.toNat_natCast, hf, hwl, hl]
 have hk0 := ini_kfit s
 have hkr := replay_kfit s ws
 have hst : startXR [sysD s] (.tup [.dat (stD (if checkE s = 0 then iniX s else [])), .dat (.int .i64 (checkE s))]) := ⟨s, rfl, hs, rfl⟩
 have hrp : replayXR [sysD s, .sl none (intsD ws)] (.tup [.dat (stD (replayX s ws).1), .dat (.int .i64 (replayX s ws).2)]) := ⟨s, ws, rfl, hs, by omega, rfl⟩
 generalize (if checkE s = 0 then iniX s else []) = x0 at *
 generalize replayX s ws = rp at *
 obtain ⟨b, h⟩ := rp
 simp only at hkr
 refine call_data startXR (by simp) [sysD s] _ rfl hst (.inl rfl) ?_
 simp only [go_sem, Int.reduceEq, Int.reduceLT, Int.reduceLE, eq_self, Int.natCast_nonneg, Int.toNat_natCast, stD]
 refine call_data startXR (by simp) [sysD s] _ rfl hst (.inl rfl) ?_
 simp only [go_sem, Int.reduceEq, Int.reduceLT, Int.reduceLE, eq_self, Int.natCast_nonneg, Int.toNat_natCast, stD]
 refine call_data replayXR (by simp) [sysD s, .sl none (intsD ws)] _ rfl hrp (.inl rfl) ?_
 simp only [go_sem, Int.reduceEq, Int.reduceLT, Int.reduceLE, eq_self, Int.natCast_nonneg, Int.toNat_natCast, stD]
 refine call_data replayXR (by simp) [sysD s, .sl none (intsD ws)] _ rfl hrp (.inl rfl) ?_
 simp only [go_sem, Int.reduceEq, Int.reduceLT, Int.reduceLE, eq_self, Int.natCast_nonneg, Int.toNat_natCast, stD, eq_self, decide_true, not_true, decide_false]
 refine call_data sameXR (by simp) [stD x0, stD x0] _ rfl ⟨x0, rfl, kfit_st hk0, kfit_fr hk0, rfl⟩ (.inl rfl) ?_
 simp only [go_sem, Int.reduceEq, Int.reduceLT, Int.reduceLE, eq_self, Int.natCast_nonneg, Int.toNat_natCast, stD, eq_self, decide_true, not_true, decide_false]
 refine call_data sameXR (by simp) [stD b, stD b] _ rfl ⟨b, rfl, kfit_st hkr, kfit_fr hkr, rfl⟩ (.inl rfl) ?_
 simp only [go_sem, Int.reduceEq, Int.reduceLT, Int.reduceLE, eq_self, Int.natCast_nonneg, Int.toNat_natCast, stD, eq_self, decide_true, not_true, decide_false, hwl]
 refine sem_loop (fun q : Nat × PSt => ⟨slotsOf 130 [(2, .dat (.int .i64 p)), (3, .ptr 0 0 0), (9, .ptr 2 0 0), (76, .dat (.sl none (intsD ws))), (77, .dat (.int .i64 ws.length)), (78, .dat (.int .i64 q.1))], [sysO s, stO x0, stO q.2, stO b, stO b], 0, []⟩)
  (fun q => q.1 ≤ ws.length ∧ KFit q.2) (fun q => ws.length - q.1) (0, x0) ⟨Nat.zero_le _, hk0⟩ ?_ ?_
 ·exact le_slots' (by simp only [go_sem, Int.natCast_zero])
 rintro ⟨k, x⟩ ⟨hk, hkx⟩
 simp only at hk hkx
 refine sem_of_awp (Γ := tbl tabZ1) tabZ1_ok _ _ _ ?_
 cases hd : ws.drop k with
 | nil =>
  obtain rfl : k = ws.length := end_of_drop hd hk
  have hk2 : ¬ (ws.length : Int) < ws.length := by omega
  simp only [go_sem, Int.reduceEq, Int.reduceLT, Int.reduceLE, eq_self, Int.natCast_nonneg, Int.toNat_natCast, hk2]
  exact post_data (.inl rfl) [6] rfl trivial rfl
 | cons w r =>
 have hlt := lt_of_drop hd
 have hk2 : (k : Int) < ws.length := by omega
 have hkz : (0 : Int) ≤ k := Int.natCast_nonneg k
 have hn := nth_of_drop (f := fun a => D.int .i64 a) hd
 have hx := kfit_st hkx
 have hkf := step_kfit s x w
 have hal := able_ok s x hx
 have hsp : stepXR [sysD s, stD x, .int .i64 w] (.tup [.dat (stD (stepX s x w).1), .dat (.int .i64 (stepX s x w).2)]) := ⟨s, x, w, rfl, hs, hx, rfl⟩
 generalize stepX s x w = y at *
 obtain ⟨y, e⟩ := y
 simp only at hkf
 simp only [go_sem, Int.reduceEq, Int.reduceLT, Int.reduceLE, eq_self, Int.natCast_nonneg, Int.toNat_natCast, hk2, hkz, hlt, hwl, hn, stD]
 refine call_data stepXR (by simp) [sysD s, stD x, .int .i64 w] _ rfl hsp (.inl rfl) ?_
 simp only [go_sem, Int.reduceEq, Int.reduceLT, Int.reduceLE, eq_self, Int.natCast_nonneg, Int.toNat_natCast, stD]
 refine call_data stepXR (by simp) [sysD s, stD x, .int .i64 w] _ rfl hsp (.inl rfl) ?_
 simp only [go_sem, Int.reduceEq, Int.reduceLT, Int.reduceLE, eq_self, Int.natCast_nonneg, Int.toNat_natCast, stD]
 refine sem_draw (pf := pfZ1) mixed tabZ1_ok pureZ1 [0, 1, 2, 3, 4, 5, 6, 7, 8, 9, 10, 11, 12, 13, 14, 15, 16, 17, 18, 19, 20, 21, 22, 23, 24, 25, 26, 27, 28, 29] (by kernel_rfl) ?_
 simp only [go_sem, Int.reduceEq, Int.reduceLT, Int.reduceLE, eq_self, Int.natCast_nonneg, Int.toNat_natCast, chainI, stD, eq_self, decide_true, not_true, decide_false]
 refine call_data sameXR (by simp) [stD y, stD y] _ rfl ⟨y, rfl, kfit_st hkf, kfit_fr hkf, rfl⟩ (.inl rfl) ?_
 simp only [go_sem, Int.reduceEq, Int.reduceLT, Int.reduceLE, eq_self, Int.natCast_nonneg, Int.toNat_natCast, chainI, stD, eq_self, decide_true, not_true, decide_false]
 refine call_data enabR (by simp) [sysD s, stD x] _ rfl ⟨s, x, rfl, hs, hx, rfl⟩ (.inl rfl) ?_
 simp only [go_sem, Int.reduceEq, Int.reduceLT, Int.reduceLE, eq_self, Int.natCast_nonneg, Int.toNat_natCast, chainI, stD, eq_self, decide_true]
 refine call_data enabR (by simp) [sysD s, stD x] _ rfl ⟨s, x, rfl, hs, hx, rfl⟩ (.inl rfl) ?_
 simp only [go_sem, Int.reduceEq, Int.reduceLT, Int.reduceLE, eq_self, Int.natCast_nonneg, Int.toNat_natCast, chainI, stD, eq_self, decide_true]
 refine call_data sameR (by simp) [.sl none (natsD (enabL s x)), .sl none (natsD (enabL s x))] _ rfl ⟨_, rfl, hal, rfl⟩ (.inl rfl) ?_
 simp only [go_sem, Int.reduceEq, Int.reduceLT, Int.reduceLE, eq_self, Int.natCast_nonneg, Int.toNat_natCast, chainI, stD, eq_self, decide_true, not_true, decide_false]
 refine call_data availR (by simp) [sysD s, stD x, .int .i64 p] _ rfl ⟨s, x, p, rfl, hs, hx, rfl⟩ (.inl rfl) ?_
 simp only [go_sem, Int.reduceEq, Int.reduceLT, Int.reduceLE, eq_self, Int.natCast_nonneg, Int.toNat_natCast, chainI, stD, eq_self, decide_true, not_true, decide_false]
 refine call_data availR (by simp) [sysD s, stD x, .int .i64 p] _ rfl ⟨s, x, p, rfl, hs, hx, rfl⟩ (.inl rfl) ?_
 by_cases he : e = 0
 ·simp only [go_sem, Int.reduceEq, Int.reduceLT, Int.reduceLE, eq_self, Int.natCast_nonneg, Int.toNat_natCast, chainI, stD, eq_self, decide_true, not_true, decide_false, he]
  refine ⟨inR_i64.2 (by omega), (k + 1, y), ⟨by simp only; omega, hkf⟩, by simp only; omega, ?_⟩
  refine le_end (own := [_, _, _, _, _]) (ex := [_, _]) (Nat.zero_le _) ?_ ?_ ?_
  ·simp only [go_sem, Int.natCast_add, Int.cast_ofNat_Int]
  ·simp only [go_sem]
  ·simp only [go_sem, Obj.under, AV.unders, AV.under]
 ·simp only [go_sem, Int.reduceEq, Int.reduceLT, Int.reduceLE, eq_self, Int.natCast_nonneg, Int.toNat_natCast, chainI, stD, eq_self, decide_true, not_true, decide_false, he]
  refine ⟨inR_i64.2 (by omega), (k + 1, x), ⟨by simp only; omega, hkx⟩, by simp only; omega, ?_⟩
  refine le_end (own := [_, _, _, _, _]) (ex := [_, _]) (Nat.zero_le _) ?_ ?_ ?_
  ·simp only [go_sem, Int.natCast_add, Int.cast_ofNat_Int]
  ·simp only [go_sem]
  ·simp only [go_sem, Obj.under, AV.unders, AV.under]
end Go.AM

set_option maxRecDepth 100000
namespace Go.AM
open Go Go.Proofs

theorem want87 : wantT Try.prog 60 = some 3 := by kernel_rfl
theorem want9 : wantT Try.prog 9 = none := by kernel_rfl
theorem want54 : wantT Try.prog 63 = some 4 := by kernel_rfl
theorem want56 : wantT Try.prog 65 = some 4 := by kernel_rfl
theorem int_arg {m : Nat} {d : D} (h : argT Try.prog (m + 1) 3 d) : ∃ n : Int, d = .int .i64 n ∧ inR .i64 n := arg_int (by kernel_rfl) h
theorem pool_arg {m : Nat} {d : D} (h : argT Try.prog (m + 3) 60 d) : ∃ p : PPool, d = poolD p ∧ True := by
 obtain ⟨ds, rfl, hf⟩ := arg_fields (ts := [9, 3, 3]) (by kernel_rfl) h
 obtain ⟨a, r, rfl, ha, hf⟩ := hf
 obtain ⟨b, r, rfl, hb, hf⟩ := hf
 obtain ⟨c, r, rfl, hc, rfl⟩ := hf
 rw [dataT_str (by kernel_rfl)] at ha
 rw [dataT_int (k := .i64) (by kernel_rfl)] at hb hc
 obtain ⟨a, rfl, _⟩ := ha
 obtain ⟨b, rfl, _⟩ := hb
 obtain ⟨c, rfl, _⟩ := hc
 exact ⟨⟨a, b, c⟩, rfl, trivial⟩
theorem step_arg {m : Nat} {d : D} (h : argT Try.prog (m + 3) 65 d) : ∃ p : PStep, d = stepD p ∧ True := by
 obtain ⟨ds, rfl, hf⟩ := arg_fields (ts := [3, 3, 3, 4]) (by kernel_rfl) h
 obtain ⟨a, r, rfl, ha, hf⟩ := hf
 obtain ⟨b, r, rfl, hb, hf⟩ := hf
 obtain ⟨c, r, rfl, hc, hf⟩ := hf
 obtain ⟨e, r, rfl, he, rfl⟩ := hf
 rw [dataT_int (k := .i64) (by kernel_rfl)] at ha hb hc
 rw [dataT_bool (by kernel_rfl)] at he
 obtain ⟨a, rfl, _⟩ := ha
 obtain ⟨b, rfl, _⟩ := hb
 obtain ⟨c, rfl, _⟩ := hc
 obtain ⟨e, rfl⟩ := he
 exact ⟨⟨a, b, c, e⟩, rfl, trivial⟩
theorem cls_arg {m : Nat} {d : D} (h : argT Try.prog (m + 6) 63 d) : ∃ p : PCls, d = clsD p ∧ True := by
 obtain ⟨ds, rfl, hf⟩ := arg_fields (ts := [9, 3, 4, 61]) (by kernel_rfl) h
 obtain ⟨a, r, rfl, ha, hf⟩ := hf
 obtain ⟨b, r, rfl, hb, hf⟩ := hf
 obtain ⟨c, r, rfl, hc, hf⟩ := hf
 obtain ⟨e, r, rfl, he, rfl⟩ := hf
 rw [dataT_str (by kernel_rfl)] at ha
 rw [dataT_int (k := .i64) (by kernel_rfl)] at hb
 rw [dataT_bool (by kernel_rfl)] at hc
 rw [dataT_slice (e := 65) (by kernel_rfl), want56] at he
 obtain ⟨a, rfl, _⟩ := ha
 obtain ⟨b, rfl, _⟩ := hb
 obtain ⟨c, rfl⟩ := hc
 obtain ⟨e, rfl, _, hx⟩ := he
 obtain ⟨l, rfl, _⟩ := list_of stepD (Q := fun _ => True) (fun x hx' => step_arg (hx x hx'))
 exact ⟨⟨a, b, c, l⟩, rfl, trivial⟩
theorem sys_arg {m : Nat} {d : D} (h : argT Try.prog (m + 9) 26 d) : ∃ s : PSys, d = sysD s := by
 obtain ⟨ds, rfl, hf⟩ := arg_fields (ts := [22, 23, 24]) (by kernel_rfl) h
 obtain ⟨a, r, rfl, ha, hf⟩ := hf
 obtain ⟨b, r, rfl, hb, hf⟩ := hf
 obtain ⟨c, r, rfl, hc, rfl⟩ := hf
 rw [dataT_slice (e := 60) (by kernel_rfl), want87] at ha
 rw [dataT_slice (e := 9) (by kernel_rfl), want9] at hb
 rw [dataT_slice (e := 63) (by kernel_rfl), want54] at hc
 obtain ⟨a, rfl, _, ha⟩ := ha
 obtain ⟨b, rfl, _, hb⟩ := hb
 obtain ⟨c, rfl, _, hc⟩ := hc
 obtain ⟨a, rfl, _⟩ := list_of poolD (Q := fun _ => True) (fun x hx' => pool_arg (ha x hx'))
 obtain ⟨b, rfl, _⟩ := list_of D.str (Q := fun _ => True) (fun x hx' => by
  obtain ⟨s, h, _⟩ := arg_str (by kernel_rfl) (hb x hx')
  exact ⟨s, h, trivial⟩)
 obtain ⟨c, rfl, _⟩ := list_of clsD (Q := fun _ => True) (fun x hx' => cls_arg (hc x hx'))
 exact ⟨⟨a, b, c⟩, rfl⟩
theorem wantI : wantT Try.prog 3 = none := by kernel_rfl
theorem ints_arg {m : Nat} {d : D} (h : argT Try.prog (m + 2) 38 d) : ∃ L : List Int, d = .sl none (intsD L) ∧ ∀ n ∈ L, inR .i64 n := by
 obtain ⟨xs, rfl, _, hx⟩ := arg_slice (e := 3) (by kernel_rfl) h
 rw [wantI]
 obtain ⟨L, rfl, hL⟩ := list_of (D.int .i64) (Q := fun n => inR .i64 n) (fun x hx' => by
  obtain ⟨n, h1, h2⟩ := int_arg (hx x hx')
  exact ⟨n, h1, h2⟩)
 exact ⟨L, rfl, hL⟩
end Go.AM

set_option maxRecDepth 100000
namespace Go.AM
open Go Go.Proofs

abbrev byteD (a : Nat) : D := .int .u8 (a : Int)
end Go.AM

set_option maxRecDepth 100000
namespace Go.AM
open Go Go.Proofs

theorem wantPF : wantT Try.prog 58 = some 2 := by kernel_rfl
theorem wantPS : wantT Try.prog 32 = none := by kernel_rfl
theorem fr_arg {m : Nat} {d : D} (h : argT Try.prog (m + 3) 58 d) : ∃ p : PFr, d = frD p ∧ True := by
 obtain ⟨ds, rfl, hf⟩ := arg_fields (ts := [3, 3]) (by kernel_rfl) h
 obtain ⟨b, r, rfl, hb, hf⟩ := hf
 obtain ⟨c, r, rfl, hc, rfl⟩ := hf
 rw [dataT_int (k := .i64) (by kernel_rfl)] at hb hc
 obtain ⟨b, rfl, _⟩ := hb
 obtain ⟨c, rfl, _⟩ := hc
 exact ⟨⟨b, c⟩, rfl, trivial⟩
theorem stack_arg {m : Nat} {d : D} (h : argT Try.prog (m + 5) 32 d) : ∃ l : List PFr, d = stackD l ∧ True := by
 obtain ⟨xs, rfl, _, hx⟩ := arg_slice (e := 58) (by kernel_rfl) h
 rw [wantPF]
 obtain ⟨L, rfl, _⟩ := list_of frD (Q := fun _ => True) (fun x hx' => fr_arg (hx x hx'))
 exact ⟨L, rfl, trivial⟩
theorem st_arg {m : Nat} {d : D} (h : argT Try.prog (m + 9) 29 d) : ∃ x : PSt, d = stD x := by
 obtain ⟨ds, rfl, hf⟩ := arg_fields (ts := [27]) (by kernel_rfl) h
 obtain ⟨a, r, rfl, ha, rfl⟩ := hf
 rw [dataT_slice (e := 32) (by kernel_rfl), wantPS] at ha
 obtain ⟨a, rfl, _, ha⟩ := ha
 obtain ⟨a, rfl, _⟩ := list_of stackD (Q := fun _ => True) (fun x hx' => stack_arg (ha x hx'))
 exact ⟨a, rfl⟩
end Go.AM

