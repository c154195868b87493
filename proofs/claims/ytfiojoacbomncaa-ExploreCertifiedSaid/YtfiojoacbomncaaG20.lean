/- Own work over the model of the kit. -/
import Derived.Test.YtfiojoacbomncaaG19
set_option linter.unusedSimpArgs false
set_option linter.unusedVariables false
namespace Go.AM
open Go Go.Proofs

def sOf (l : List PEdge) (i : Nat) : Nat := (l.getD i default).s
def tOf (l : List PEdge) (i : Nat) : Nat := (l.getD i default).t
theorem sOf_get {l : List PEdge} {i : Nat} {e : PEdge} (h : l[i]? = some e) : sOf l i = e.s := by simp [sOf, List.getD_eq_getElem?_getD, h]
theorem tOf_get {l : List PEdge} {i : Nat} {e : PEdge} (h : l[i]? = some e) : tOf l i = e.t := by simp [tOf, List.getD_eq_getElem?_getD, h]
theorem eF_get {l : List PEdge} {i : Nat} (h : i < l.length) : (sOf l i, tOf l i) ∈ eF l := by
 have hg := List.getElem?_eq_getElem h
 rw [sOf_get hg, tOf_get hg]
 exact List.mem_map.2 ⟨_, List.getElem_mem h, rfl⟩
theorem eF_ex {l : List PEdge} {a b : Nat} (h : (a, b) ∈ eF l) : ∃ i, i < l.length ∧ sOf l i = a ∧ tOf l i = b := by
 obtain ⟨e, he, h2⟩ := List.mem_map.1 h
 obtain ⟨i, hi⟩ := List.mem_iff_getElem?.1 he
 cases h2
 exact ⟨i, (List.getElem?_eq_some_iff.1 hi).1, sOf_get hi, tOf_get hi⟩
noncomputable def near (l : List PEdge) (to v : Nat) (i : Nat) : Bool := decide (sd (eF l) (tOf l i) to = sd (eF l) v to - 1)
noncomputable def nxt (l : List PEdge) (to v : Nat) : Option Nat := (idxs PEdge.s 0 l v).find? (near l to v)
theorem nxt_is {l : List PEdge} {to v i : Nat} (h : nxt l to v = some i) : i < l.length ∧ sOf l i = v ∧ sd (eF l) (tOf l i) to = sd (eF l) v to - 1 := by
 have h1 := List.mem_of_find?_eq_some h
 have h2 := List.find?_some h
 obtain ⟨j, e, g1, g2, g3⟩ := mem_idxs.1 h1
 obtain rfl : i = j := by omega
 refine ⟨(List.getElem?_eq_some_iff.1 g1).1, by rw [sOf_get g1, g2], ?_⟩
 simpa [near] using h2
theorem nxt_some {l : List PEdge} {to v : Nat} (h : 0 < sd (eF l) v to) : ∃ i, nxt l to v = some i := by
 obtain ⟨b, hb, h2⟩ := sd_step h
 obtain ⟨i, hi, hs, ht⟩ := eF_ex hb
 have hg := List.getElem?_eq_getElem hi
 cases hn : nxt l to v with
 | some i => exact ⟨i, rfl⟩
 | none =>
  have := List.find?_eq_none.1 hn i (mem_idxs.2 ⟨i, _, hg, by rw [← sOf_get hg]; exact hs, by simp⟩)
  simp only [near, ht, h2, decide_true, not_true] at this
noncomputable def pathL (l : List PEdge) (to : Nat) : Nat → Nat → List Nat
 | 0, _ => []
 | k + 1, v => match nxt l to v with
  | some i => i :: pathL l to k (tOf l i)
  | none => []
theorem pathL_cons {l : List PEdge} {to v i k : Nat} (h : nxt l to v = some i) : pathL l to (k + 1) v = i :: pathL l to k (tOf l i) := by simp [pathL, h]
theorem pathL_len {l : List PEdge} {to : Nat} : ∀ {k v : Nat}, sd (eF l) v to = k → (pathL l to k v).length = k
 | 0, _, _ => rfl
 | k + 1, v, h => by
  obtain ⟨i, hi⟩ := nxt_some (l := l) (to := to) (v := v) (by omega)
  rw [pathL_cons hi, List.length_cons, pathL_len (by have := (nxt_is hi).2.2; omega)]
noncomputable def back (l : List PEdge) (i : Nat) : Int := sd (eF l) (tOf l i) (sOf l i)
noncomputable def cycOf (l : List PEdge) (i : Nat) : List Nat := i :: pathL l (sOf l i) (back l i).toNat (tOf l i)
theorem cycOf_len {l : List PEdge} {i : Nat} (h : 0 ≤ back l i) : ((cycOf l i).length : Int) = back l i + 1 := by
 unfold cycOf
 rw [List.length_cons, pathL_len (by unfold back at h ⊢; omega)]
 omega
noncomputable def cycStep (l : List PEdge) (b : Option (List Nat)) (i : Nat) : Option (List Nat) :=
 if back l i < 0 then b else match b with
 | none => some (cycOf l i)
 | some c => if (c.length : Int) ≤ back l i + 1 then some c else some (cycOf l i)
noncomputable def cycL (l : List PEdge) : Nat → Option (List Nat)
 | 0 => none
 | k + 1 => cycStep l (cycL l k) k
theorem cycL_is {l : List PEdge} : ∀ (k : Nat), match cycL l k with
  | none => ∀ i, i < k → back l i < 0
  | some c => ∃ i, i < k ∧ 0 ≤ back l i ∧ c = cycOf l i ∧ ∀ j, j < k → back l j < 0 ∨ back l i ≤ back l j
 | 0 => by simp [cycL]
 | k + 1 => by
  have ih := cycL_is (l := l) k
  simp only [cycL, cycStep]
  by_cases h : back l k < 0
  ·rw [if_pos h]
   cases hc : cycL l k with
   | none =>
    rw [hc] at ih
    simp only at ih ⊢
    intro i hi
    by_cases e : i = k
    ·subst e; exact h
    ·exact ih i (by omega)
   | some c =>
    rw [hc] at ih
    simp only at ih ⊢
    obtain ⟨i, h1, h2, h3, h4⟩ := ih
    refine ⟨i, by omega, h2, h3, fun j hj => ?_⟩
    by_cases e : j = k
    ·subst e; exact .inl h
    ·exact h4 j (by omega)
  ·rw [if_neg h]
   cases hc : cycL l k with
   | none =>
    rw [hc] at ih
    simp only at ih ⊢
    refine ⟨k, by omega, by omega, rfl, fun j hj => ?_⟩
    by_cases e : j = k
    ·subst e; exact .inr (Int.le_refl _)
    ·exact .inl (ih j (by omega))
   | some c =>
    rw [hc] at ih
    simp only at ih ⊢
    obtain ⟨i, h1, h2, h3, h4⟩ := ih
    have hl := cycOf_len h2
    rw [← h3] at hl
    by_cases g : (c.length : Int) ≤ back l k + 1
    ·rw [if_pos g]
     refine ⟨i, by omega, h2, h3, fun j hj => ?_⟩
     by_cases e : j = k
     ·subst e; exact .inr (by omega)
     ·exact h4 j (by omega)
    ·rw [if_neg g]
     refine ⟨k, by omega, by omega, rfl, fun j hj => ?_⟩
     by_cases e : j = k
     ·subst e; exact .inr (Int.le_refl _)
     ·rcases h4 j (by omega) with g1 | g1
      ·exact .inl g1
      ·exact .inr (by omega)
noncomputable def cycV (l : List PEdge) : List Nat := (cycL l l.length).getD []
def idxQ (p : Nat → Bool) : Nat → List Nat → Int
 | _, [] => -1
 | k, y :: r => if p y = true then k else idxQ p (k + 1) r
end Go.AM

set_option maxRecDepth 8000
set_option maxHeartbeats 1000000
namespace Go.AM
open Go Go.Proofs

noncomputable abbrev cycO (n : Nat) (l : List PEdge) (to v : Nat) : List Obj := [.box [.dat (.sl none (intsD (distT n l to)))], .box [.dat (.sl (some 4) (edgesD l))], .box [.dat (.int .i64 v)]]
def clR (xs : List AV) (obs : List Obj) (v0 : AV) (obs' ex : List Obj) (mv0 : List Nat) : Prop := ∃ (n : Nat) (l : List PEdge) (to v i : Nat), GOk n l ∧ to < n ∧ v < n ∧ i < l.length ∧
 xs = [.dat (.int .i64 i), .ptr 0 0 0, .ptr 1 0 0, .ptr 2 0 0] ∧ obs = cycO n l to v ∧ v0 = .dat (.bool (near l to v i)) ∧ obs' = obs ∧ ex = [] ∧ mv0 = []
end Go.AM

set_option maxRecDepth 8000
set_option maxHeartbeats 2000000
namespace Go.AM
open Go Go.Proofs

noncomputable def cycleVv (n : Int) (l : List PEdge) : AV := if gE n l ≠ 0 then .tup [.dat (.sl none []), .dat (.int .i64 (gE n l))] else .tup [.dat (.sl none (natsD (cycV l))), .dat (.int .i64 0)]
def cycleR (ds : List D) (v : AV) : Prop := ∃ (n : Int) (l : List PEdge), ds = [.int .i64 n, .sl (some 4) (edgesD l)] ∧ l.length ≤ 10000 ∧ v = cycleVv n l
abbrev edgO (l : List PEdge) : Obj := .box [.dat (.sl (some 4) (edgesD l))]
abbrev edge1O (e : PEdge) : Obj := .box [.dat (.int .i64 (e.s : Int)), .dat (.int .i64 (e.t : Int)), .dat (.int .i64 e.cls), .dat (.int .i64 e.step)]
noncomputable def cyHead (n : Nat) (l : List PEdge) (k : Nat) : Option (List Nat) → S
 | none => ⟨slotsOf 114 [(0, .dat (.int .i64 n)), (3, .ptr 0 0 0), (7, .dat (.sl none ((idxL PEdge.s n l).map natsR))), (8, .dat (.sl none ((idxL PEdge.t n l).map natsR))), (11, .nils), (48, .dat (.sl (some 4) (edgesD l))), (49, .dat (.int .i64 l.length)), (50, .dat (.int .i64 k))], [edgO l, .dead], 0, []⟩
 | some c => ⟨slotsOf 114 [(0, .dat (.int .i64 n)), (3, .ptr 0 0 0), (7, .dat (.sl none ((idxL PEdge.s n l).map natsR))), (8, .dat (.sl none ((idxL PEdge.t n l).map natsR))), (11, .sl 1 0 c.length), (48, .dat (.sl (some 4) (edgesD l))), (49, .dat (.int .i64 l.length)), (50, .dat (.int .i64 k))], [edgO l, .row none (natsD c)], 0, []⟩
end Go.AM

namespace Go.AM
open Go Go.Proofs

structure IsLev (n : Nat) (l : List PEdge) (f : Nat → Nat) : Prop where
 down : ∀ e ∈ l, f e.t < f e.s
 next : ∀ v, v < n → f v = 0 ∨ ∃ e ∈ l, e.s = v ∧ f v = f e.t + 1
theorem IsLev.le {n : Nat} {l : List PEdge} {f g : Nat → Nat} (hE : ∀ e ∈ l, e.t < n) (hf : IsLev n l f) (hg : ∀ e ∈ l, g e.t < g e.s) : ∀ (k v : Nat), v < n → f v = k → f v ≤ g v := by
 intro k
 induction k with
 | zero => intro v _ h; omega
 | succ k ih =>
  intro v hv h
  rcases hf.next v hv with h0 | ⟨e, he, h1, h2⟩
  ·omega
  ·have := ih e.t (hE e he) (by omega)
   have := hg e he
   rw [h1] at this
   omega
theorem IsLev.one {n : Nat} {l : List PEdge} {f g : Nat → Nat} (hE : ∀ e ∈ l, e.t < n) (hf : IsLev n l f) (hg : IsLev n l g) {v : Nat} (hv : v < n) : f v = g v :=
 Nat.le_antisymm (hf.le hE hg.down _ v hv rfl) (hg.le hE hf.down _ v hv rfl)
open Classical in
noncomputable def levV (n : Nat) (l : List PEdge) : Option (List Nat) := if h : ∃ f, IsLev n l f then some ((List.range n).map (Classical.choose h)) else none
theorem levV_some {n : Nat} {l : List PEdge} {f : Nat → Nat} (hE : ∀ e ∈ l, e.t < n) (hf : IsLev n l f) : levV n l = some ((List.range n).map f) := by
 have h : ∃ f, IsLev n l f := ⟨f, hf⟩
 unfold levV
 rw [dif_pos h]
 congr 1
 exact List.map_congr_left fun v hv => (Classical.choose_spec h).one hE hf (List.mem_range.1 hv)
theorem levV_none {n : Nat} {l : List PEdge} (h : ¬ ∃ f : Nat → Nat, ∀ e ∈ l, f e.t < f e.s) : levV n l = none := by
 unfold levV
 rw [dif_neg]
 rintro ⟨f, hf⟩
 exact h ⟨f, hf.down⟩
theorem levV_is {n : Nat} {l : List PEdge} {L : List Nat} (h : levV n l = some L) : ∃ f, IsLev n l f ∧ L = (List.range n).map f := by
 unfold levV at h
 split at h
 ·rename_i hf
  cases h
  exact ⟨_, Classical.choose_spec hf, rfl⟩
 ·cases h

def ins (l : List PEdge) (w : Nat) : List Nat := l.filterMap fun e => if e.t = w then some e.s else none
theorem ins_snoc {l : List PEdge} {e : PEdge} {x : Nat} : ins (l ++ [e]) x = if e.t = x then ins l x ++ [e.s] else ins l x := by
 unfold ins; rw [List.filterMap_append]; by_cases h : e.t = x <;> simp [h]
theorem mem_ins {l : List PEdge} {v w : Nat} : v ∈ ins l w ↔ ∃ e ∈ l, e.s = v ∧ e.t = w := by
 simp only [ins, List.mem_filterMap]
 constructor
 ·rintro ⟨e, he, h⟩
  split at h
  ·rename_i hx; cases h; exact ⟨e, he, rfl, hx⟩
  ·cases h
 ·rintro ⟨e, he, rfl, rfl⟩; exact ⟨e, he, by simp⟩
def rest (l : List PEdge) (P : List Nat) (v : Nat) : Nat := l.countP fun e => decide (e.s = v) && !P.contains e.t
theorem rest_add {P : List Nat} {w : Nat} (hw : ¬ w ∈ P) (v : Nat) : ∀ (l : List PEdge), rest l P v = rest l (P ++ [w]) v + (ins l w).count v
 | [] => rfl
 | e :: r => by
  have ih := rest_add hw v r
  unfold rest ins at ih ⊢
  simp only [List.countP_cons, List.filterMap_cons]
  by_cases h1 : e.s = v <;> by_cases h2 : e.t = w
  ·have h3 : ¬ e.t ∈ P := by rw [h2]; exact hw
   have h4 : e.t ∈ P ++ [w] := by simp [h2]
   simp only [h1, h2, decide_true, Bool.true_and, List.contains_eq_mem] at ih ⊢
   simp only [h2] at h3 h4
   simp [h3, h4, List.count_cons] at ih ⊢
   omega
  ·have h4 : (P ++ [w]).contains e.t = P.contains e.t := by simp [h2]
   simp only [h1, decide_true, Bool.true_and, h4, if_neg h2] at ih ⊢
   omega
  ·simp only [h1, decide_false, Bool.false_and, h2, if_true, Bool.false_eq_true, if_false, List.count_cons] at ih ⊢
   simp [h1] at ih ⊢
   omega
  ·have h4 : (P ++ [w]).contains e.t = P.contains e.t := by simp [h2]
   simp only [h1, decide_false, Bool.false_and, if_neg h2, Bool.false_eq_true, if_false] at ih ⊢
   omega
theorem rest_pos {l : List PEdge} {P : List Nat} {v : Nat} (h : 0 < rest l P v) : ∃ e ∈ l, e.s = v ∧ ¬ e.t ∈ P := by
 obtain ⟨e, he, h2⟩ := List.countP_pos_iff.1 h
 simp only [Bool.and_eq_true, decide_eq_true_eq, Bool.not_eq_true', List.contains_eq_mem, decide_eq_false_iff_not] at h2
 exact ⟨e, he, h2.1, h2.2⟩
structure KI (n : Nat) (l : List PEdge) (left lev q : List Nat) (P : List Nat) (w : Option Nat) (T : List Nat) : Prop where
 ll : left.length = n
 lv : lev.length = n
 qn : ∀ v ∈ q, v < n
 nd : q.Nodup
 sub : ∀ v ∈ P, v ∈ q
 cnt : ∀ v, v < n → left.getD v 0 = rest l P v + T.count v
 free : ∀ v, v < n → (v ∈ q ↔ left.getD v 0 = 0)
 down : ∀ e ∈ l, e.t ∈ P → (w = some e.t → e.s ∈ T ∨ lev.getD e.t 0 < lev.getD e.s 0) ∧ (w ≠ some e.t → lev.getD e.t 0 < lev.getD e.s 0)
 next : ∀ v, v < n → lev.getD v 0 = 0 ∨ ∃ e ∈ l, e.s = v ∧ e.t ∈ P ∧ lev.getD v 0 = lev.getD e.t 0 + 1
 ub : ∀ v, v < n → lev.getD v 0 ≤ P.length
 uw : ∀ x, w = some x → lev.getD x 0 < P.length

section
variable {n : Nat} {l : List PEdge} {left lev q P T : List Nat} {w : Nat}
theorem KI.qle (h : KI n l left lev q P none []) : q.length ≤ n := nodup_le h.nd h.qn
theorem KI.start (h : KI n l left lev q P none []) (hw : w ∈ q) (hwP : ¬ w ∈ P) : KI n l left lev q (P ++ [w]) (some w) (ins l w) := by
 refine { h with sub := fun v hv => ?_, cnt := fun v hv => ?_, down := fun e he ht => ?_, next := fun v hv => ?_, ub := fun v hv => ?_, uw := fun x hx => ?_ }
 ·rcases List.mem_append.1 hv with hv | hv
  ·exact h.sub v hv
  ·simp at hv; rw [hv]; exact hw
 ·rw [h.cnt v hv, rest_add hwP v l]; simp
 ·by_cases e1 : e.t = w
  ·exact ⟨fun _ => .inl (mem_ins.2 ⟨e, he, rfl, e1⟩), fun hn => absurd (by rw [e1]) hn⟩
  ·have hp : e.t ∈ P := by simpa [e1] using ht
   exact ⟨fun hn => absurd (Option.some.inj hn).symm e1, fun _ => ((h.down e he hp).2 (by simp))⟩
 ·rcases h.next v hv with h0 | ⟨e, he, h1, h2, h3⟩
  ·exact .inl h0
  ·exact .inr ⟨e, he, h1, by simp [h2], h3⟩
 ·have := h.ub v hv; rw [List.length_append]; omega
 ·cases hx; have := h.ub w (h.qn w hw); rw [List.length_append, List.length_singleton]; omega
theorem KI.stop (h : KI n l left lev q P (some w) []) : KI n l left lev q P none [] := by
 refine { h with down := fun e he ht => ⟨fun hn => (by cases hn), fun _ => ?_⟩, uw := fun x hx => by cases hx }
 obtain ⟨h1, h2⟩ := h.down e he ht
 by_cases e1 : w = e.t
 ·rcases h1 (by rw [e1]) with h | h
  ·cases h
  ·exact h
 ·exact h2 (by simpa using e1)
theorem KI.step {v : Nat} (h : KI n l left lev q P (some w) (v :: T)) (hv : v < n) (hw : w ∈ P) (hE : ∃ e ∈ l, e.s = v ∧ e.t = w) :
  KI n l (left.set v (left.getD v 0 - 1)) (lev.set v (max (lev.getD v 0) (lev.getD w 0 + 1))) (if left.getD v 0 - 1 = 0 then q ++ [v] else q) P (some w) T := by
 have hcnt := h.cnt v hv
 rw [List.count_cons_self] at hcnt
 have hvq : ¬ v ∈ q := fun hm => by have := (h.free v hv).1 hm; omega
 have hwq : w ∈ q := h.sub w hw
 have hwv : w ≠ v := fun e => hvq (e ▸ hwq)
 have gl : ∀ u, (left.set v (left.getD v 0 - 1)).getD u 0 = if v = u then left.getD v 0 - 1 else left.getD u 0 := fun u => by
  rw [getD_set']
  by_cases e : v = u
  ·rw [if_pos ⟨e, by rw [h.ll]; exact hv⟩, if_pos e]
  ·rw [if_neg (fun hh => e hh.1), if_neg e]
 have gv : ∀ u, (lev.set v (max (lev.getD v 0) (lev.getD w 0 + 1))).getD u 0 = if v = u then max (lev.getD v 0) (lev.getD w 0 + 1) else lev.getD u 0 := fun u => by
  rw [getD_set']
  by_cases e : v = u
  ·rw [if_pos ⟨e, by rw [h.lv]; exact hv⟩, if_pos e]
  ·rw [if_neg (fun hh => e hh.1), if_neg e]
 have hP : ∀ u ∈ P, v ≠ u := fun u hu e => hvq (e ▸ h.sub u hu)
 have memq : ∀ u, u ∈ (if left.getD v 0 - 1 = 0 then q ++ [v] else q) ↔ u ∈ q ∨ (u = v ∧ left.getD v 0 - 1 = 0) := fun u => by
  split
  ·rename_i h0; simp only [List.mem_append, List.mem_singleton, h0, and_true]
  ·rename_i h0
   constructor
   ·exact fun hm => .inl hm
   ·rintro (hm | ⟨_, hm⟩)
    ·exact hm
    ·exact absurd hm h0
 constructor
 ·simp [h.ll]
 ·simp [h.lv]
 ·intro u hu
  rcases (memq u).1 hu with hu | ⟨rfl, _⟩
  ·exact h.qn u hu
  ·exact hv
 ·split
  ·rw [List.nodup_append]
   exact ⟨h.nd, by simp, fun u hu x hx => by simp at hx; subst hx; exact fun e => hvq (e ▸ hu)⟩
  ·exact h.nd
 ·intro u hu
  exact (memq u).2 (.inl (h.sub u hu))
 ·intro u hu
  rw [gl]
  by_cases e : v = u
  ·subst e; rw [if_pos rfl]; omega
  ·rw [if_neg e, h.cnt u hu, List.count_cons_of_ne e]
 ·intro u hu
  rw [memq, gl]
  by_cases e : v = u
  ·subst e; rw [if_pos rfl]; simp [hvq]
  ·rw [if_neg e, ← h.free u hu]
   constructor
   ·rintro (hm | ⟨hm, _⟩)
    ·exact hm
    ·exact absurd hm.symm e
   ·exact fun hm => .inl hm
 ·intro e he ht
  rw [gv, gv, if_neg (hP _ ht)]
  obtain ⟨h1, h2⟩ := h.down e he ht
  refine ⟨fun hw' => ?_, fun hw' => ?_⟩
  ·have hw2 : w = e.t := Option.some.inj hw'
   by_cases e1 : v = e.s
   ·rw [if_pos e1, ← hw2]; exact .inr (by omega)
   ·rw [if_neg e1]
    rcases h1 hw' with hm | hm
    ·rcases List.mem_cons.1 hm with hm | hm
     ·exact absurd hm.symm e1
     ·exact .inl hm
    ·exact .inr hm
  ·have h3 := h2 hw'
   by_cases e1 : v = e.s
   ·rw [if_pos e1]; rw [← e1] at h3; omega
   ·rw [if_neg e1]; exact h3
 ·intro u hu
  rw [gv]
  by_cases e : v = u
  ·subst e
   rw [if_pos rfl]
   by_cases hmx : lev.getD v 0 ≤ lev.getD w 0 + 1
   ·obtain ⟨e, he, h1, h2⟩ := hE
    refine .inr ⟨e, he, h1, by rw [h2]; exact hw, ?_⟩
    rw [gv, h2, if_neg (fun hh => hwv hh.symm)]; omega
   ·rcases h.next v hv with h0 | ⟨e, he, h1, h2, h3⟩
    ·omega
    ·refine .inr ⟨e, he, h1, h2, ?_⟩
     rw [gv, if_neg (hP _ h2)]; omega
  ·rw [if_neg e]
   rcases h.next u hu with h0 | ⟨e', he, h1, h2, h3⟩
   ·exact .inl h0
   ·refine .inr ⟨e', he, h1, h2, ?_⟩
    rw [gv, if_neg (hP _ h2)]; exact h3
 ·intro u hu
  rw [gv]
  have h1 := h.uw w rfl
  by_cases e : v = u
  ·rw [if_pos e]; have := h.ub v hv; omega
  ·rw [if_neg e]; exact h.ub u hu
 ·intro x hx
  cases hx
  rw [gv, if_neg (fun hh => hwv hh.symm)]; exact h.uw w rfl
theorem KI.all (h : KI n l left lev q q none []) (hq : n ≤ q.length) (hE : ∀ e ∈ l, e.t < n) : levV n l = some lev := by
 have hall : ∀ v, v < n → v ∈ q := fun v hv => by
  by_cases hm : v ∈ q
  ·exact hm
  ·have := nodup_le (q := v :: q) (n := n) (List.nodup_cons.2 ⟨hm, h.nd⟩) (fun u hu => by rcases List.mem_cons.1 hu with rfl | hu; exact hv; exact h.qn u hu)
   simp at this; omega
 have hl : IsLev n l fun v => lev.getD v 0 := ⟨fun e he => (h.down e he (hall _ (hE e he))).2 (by simp), fun v hv => by
  rcases h.next v hv with h0 | ⟨e, he, h1, _, h3⟩
  ·exact .inl h0
  ·exact .inr ⟨e, he, h1, h3⟩⟩
 rw [levV_some hE hl]
 congr 1
 refine List.ext_getElem (by simp [h.lv]) fun i h1 h2 => ?_
 simp [List.getD_eq_getElem?_getD, List.getElem?_eq_getElem h2]
theorem KI.stuck (h : KI n l left lev q q none []) (hq : q.length < n) (hE : ∀ e ∈ l, e.t < n) : levV n l = none := by
 refine levV_none ?_
 rintro ⟨f, hf⟩
 have hex : ∃ v, v < n ∧ ¬ v ∈ q := by
  refine Classical.byContradiction fun hne => ?_
  have hsub : List.range n ⊆ q := fun v hv => Classical.byContradiction fun hm => hne ⟨v, List.mem_range.1 hv, hm⟩
  have := List.Nodup.length_le_of_subset List.nodup_range hsub
  simp at this; omega
 have key : ∀ k v, f v = k → v < n → v ∈ q := by
  intro k
  induction k using Nat.strongRecOn with
  | _ k ih =>
   intro v hk hv
   refine Classical.byContradiction fun hm => ?_
   have hpos : 0 < rest l q v := by
    have h1 := h.cnt v hv
    simp only [List.count_nil, Nat.add_zero] at h1
    have h2 : ¬ left.getD v 0 = 0 := fun hh => hm ((h.free v hv).2 hh)
    omega
   obtain ⟨e, he, h1, h2⟩ := rest_pos hpos
   have := hf e he
   rw [h1] at this
   exact h2 (ih (f e.t) (by omega) e.t rfl (hE e he))
 obtain ⟨v, hv, hm⟩ := hex
 exact hm (key _ v rfl hv)
end
end Go.AM

set_option maxRecDepth 8000
set_option maxHeartbeats 2000000
namespace Go.AM
open Go Go.Proofs

noncomputable def levelsVv (n : Int) (l : List PEdge) : AV := if gE n l ≠ 0 then .tup [.dat (.sl none []), .dat (.int .i64 (gE n l))] else match levV n.toNat l with
 | some L => .tup [.dat (.sl none (natsD L)), .dat (.int .i64 0)]
 | none => .tup [.dat (.sl none []), .dat (.int .i64 10)]
def levelsR (ds : List D) (v : AV) : Prop := ∃ (n : Int) (l : List PEdge), ds = [.int .i64 n, .sl (some 4) (edgesD l)] ∧ l.length ≤ 10000 ∧ v = levelsVv n l
def insL (n : Nat) (l : List PEdge) : List (List Nat) := (List.range n).map (ins l)
theorem insL_len {n : Nat} {l : List PEdge} : (insL n l).length = n := by simp [insL]
theorem insL_nil {n : Nat} : insL n [] = List.replicate n [] := List.ext_getElem (by simp [insL]) fun i h1 h2 => by simp [insL, ins]
theorem insL_getD {n : Nat} {l : List PEdge} {v : Nat} (h : v < n) : (insL n l).getD v [] = ins l v := by simp [insL, List.getD_eq_getElem?_getD, h]
theorem insL_get {n : Nat} {l : List PEdge} {v : Nat} (h : v < n) : (insL n l)[v]? = some (ins l v) := by simp [insL, h]
theorem insL_snoc {n : Nat} {l : List PEdge} {e : PEdge} : insL n (l ++ [e]) = (insL n l).set e.t (ins l e.t ++ [e.s]) := by
 refine List.ext_getElem (by simp [insL]) fun i h1 h2 => ?_
 rw [List.getElem_set]
 simp only [insL, List.getElem_map, List.getElem_range, ins_snoc]
 by_cases h : e.t = i
 ·subst h; simp
 ·simp [h]
theorem ins_len (l : List PEdge) (v : Nat) : (ins l v).length ≤ l.length := List.length_filterMap_le _ _
def outN (n : Nat) (l : List PEdge) : List Nat := (List.range n).map (rest l [])
theorem outN_len {n : Nat} {l : List PEdge} : (outN n l).length = n := by simp [outN]
theorem rest_snoc {l : List PEdge} {e : PEdge} {v : Nat} : rest (l ++ [e]) [] v = if e.s = v then rest l [] v + 1 else rest l [] v := by
 unfold rest; rw [List.countP_append]; by_cases h : e.s = v <;> simp [h]
theorem rest_le (l : List PEdge) (v : Nat) : rest l [] v ≤ l.length := List.countP_le_length
theorem outN_nil {n : Nat} : outN n [] = List.replicate n 0 := List.ext_getElem (by simp [outN]) fun i h1 h2 => by simp [outN, rest]
theorem outN_getD {n : Nat} {l : List PEdge} {v : Nat} (h : v < n) : (outN n l).getD v 0 = rest l [] v := by simp [outN, List.getD_eq_getElem?_getD, h]
theorem outN_snoc {n : Nat} {l : List PEdge} {e : PEdge} : outN n (l ++ [e]) = (outN n l).set e.s (rest l [] e.s + 1) := by
 refine List.ext_getElem (by simp [outN]) fun i h1 h2 => ?_
 rw [List.getElem_set]
 simp only [outN, List.getElem_map, List.getElem_range, rest_snoc]
 by_cases h : e.s = i
 ·subst h; simp
 ·simp [h]
theorem nats_at {l : List Nat} {i : Nat} (z : Nat) (h : i < l.length) : D.nth (natsD l) i = .int .i64 (l.getD i z : Nat) := by
 rw [D.nth_map h]; simp [List.getD_eq_getElem?_getD, List.getElem?_eq_getElem h]
theorem nats_upd {l : List Nat} {i n : Nat} : (natsD l).set i (.int .i64 (n : Int)) = natsD (l.set i n) := by simp [List.map_set]
theorem nats_rep {n z : Nat} : natsD (List.replicate n z) = List.replicate n (.int .i64 (z : Int)) := by simp
def freeL (left : List Nat) (k : Nat) : List Nat := (List.range k).filter fun v => left.getD v 0 == 0
theorem freeL_succ {left : List Nat} {k : Nat} : freeL left (k + 1) = if left.getD k 0 = 0 then freeL left k ++ [k] else freeL left k := by
 unfold freeL
 rw [List.range_succ, List.filter_append]
 by_cases h : left.getD k 0 = 0
 ·rw [if_pos h]; simp only [List.filter_cons, h, beq_self_eq_true, if_true, List.filter_nil]
 ·have : (left.getD k 0 == 0) = false := by simpa using h
  rw [if_neg h]; simp only [List.filter_cons, this, Bool.false_eq_true, if_false, List.filter_nil, List.append_nil]
theorem freeL_len {left : List Nat} {k : Nat} : (freeL left k).length ≤ k := by
 have := List.length_filter_le (fun v => left.getD v 0 == 0) (List.range k); simpa [freeL] using this
theorem ki_init {n : Nat} {l : List PEdge} : KI n l (outN n l) (List.replicate n 0) (freeL (outN n l) n) [] none [] where
 ll := outN_len
 lv := by simp
 qn v hv := by simp [freeL] at hv; exact hv.1
 nd := List.Nodup.sublist List.filter_sublist List.nodup_range
 sub v hv := by cases hv
 cnt v hv := by rw [outN_getD hv]; simp
 free v hv := by simp [freeL, hv]
 down e he ht := by cases ht
 next v hv := .inl (by simp [List.getD_eq_getElem?_getD, List.getElem?_replicate, hv])
 ub v hv := by simp [List.getD_eq_getElem?_getD, List.getElem?_replicate, hv]
 uw x hx := by cases hx

abbrev tabLV : List (Nat × Contract) := [(93, dataC gchkR)]
theorem tabLV_ok : OkG Try.prog (tbl tabLV) := okG_cons gcheck_ok okG_nil
theorem levels_ok : OkF Try.prog 67 (dataC levelsR) := by
 refine okF_data Try.func67 rfl (by decide) ?_
 rintro ds v ⟨n, l, rfl, hll, rfl⟩
 refine sem_of_awpK [5] (Γ := tbl tabLV) tabLV_ok _ _ _ ?_
 simp only [go_sem, Int.reduceEq, Int.reduceLT, Int.reduceLE, eq_self, Int.natCast_nonneg, Int.toNat_natCast, Try.ntmps67]
 refine call_data gchkR (by simp) [.int .i64 n, .sl (some 4) (edgesD l)] _ rfl ⟨n, l, rfl, hll, rfl⟩ (.inl rfl) ?_
 by_cases h : gE n l = 0
 case neg =>
  unfold levelsVv
  rw [if_pos h]
  simp only [go_sem, Int.reduceEq, Int.reduceLT, Int.reduceLE, eq_self, Int.natCast_nonneg, Int.toNat_natCast, h]
  refine post_res (.inl rfl) [.tmp 4, .tmp 5] rfl ?_
  simp only [go_sem]
  exact le_fin (by simp only [go_sem]) (by simp only [go_sem])
 unfold levelsVv
 rw [if_neg (by rw [h]; decide)]
 obtain ⟨n, rfl, hg⟩ := gOk_of h hll
 have hn4 := hg.n4
 have hEt : ∀ e ∈ l, e.t < n := fun e he => (hg.dst e he).2
 rw [Int.toNat_natCast]
 simp only [go_sem, Int.reduceEq, Int.reduceLT, Int.reduceLE, eq_self, Int.natCast_nonneg, Int.toNat_natCast, h]
 refine sem_drawT (ob := 0) (ko := 0) (pf := []) (mf := []) (ms := []) (ks := []) mixed tabLV_ok (fun g _ _ _ _ _ h => by cases h) noMk
  (.one 0 (.one 2 (.alt 1 (.one 4 (.one 3 (.one 5 .fin))) (.alt 3 (.one 1 (.one 4 (.one 5 .fin))) .stop)))) (by kernel_rfl) ?_
 simp only [go_sem, Int.reduceEq, Int.reduceLT, Int.reduceLE, eq_self, Int.natCast_nonneg, Int.toNat_natCast, and_true]
 apply both_of
 ·intro hQ
  exact ⟨Int.le_refl _, by omega, Int.le_refl _, by omega, hQ⟩
 ·intro hQ
  refine ⟨Int.le_refl _, by omega, Int.le_refl _, by omega, ?_⟩
  refine sem_le (le_swp (own' := [.row none (List.replicate n (.int .i64 0)), .vec (List.replicate n .nils)]) 0 1 (by decide : (0 : Nat) < 2) (by decide : (1 : Nat) < 2) rfl ?_) hQ
  show _ = [Obj.ren (swp 0 1) (.row none (List.replicate n (.int .i64 0))), Obj.ren (swp 0 1) (.vec (List.replicate n .nils))]
  simp only [Obj.ren, rens_nils]
 refine sem_le (le_nilsF 1 none n rfl (Nat.zero_le _)) ?_
 have hpre : ∀ x M, (List.set [x, Obj.vec (List.replicate n AV.nils)] 1 (Obj.vec M)) ++ famO none (List.replicate n []) = x :: .vec M :: famO none (List.replicate n []) := fun x M => rfl
 rw [hpre]
 refine sem_of_awp (Γ := tbl tabLV) tabLV_ok _ _ _ ?_
 simp only [go_sem, Int.reduceEq, Int.reduceLT, Int.reduceLE, eq_self, Int.natCast_nonneg, Int.toNat_natCast, edges_len]
 refine sem_loop (fun k : Nat => ⟨slotsOf 125 [(0, .dat (.int .i64 n)), (7, .sl 0 0 n), (8, .sl 1 0 n), (28, .dat (.sl (some 4) (edgesD l))), (29, .dat (.int .i64 l.length)), (30, .dat (.int .i64 k))],
   .row none (natsD (outN n (l.take k))) :: .vec (famR 2 (rowsN (insL n (l.take k)))) :: famO none (rowsN (insL n (l.take k))), 0, []⟩)
  (fun k => k ≤ l.length) (fun k => l.length - k) 0 (Nat.zero_le _) ?_ ?_
 ·rw [List.take_zero, insL_nil, outN_nil, nats_rep]
  simp only [rowsN, List.map_replicate, natsD, List.map_nil, List.length_cons, List.length_nil]
  exact le_slots' (by simp only [go_sem, Int.natCast_zero])
 rintro k hk
 cases hd : l.drop k with
 | cons e r =>
  have hlt := lt_of_drop hd
  have hk2 : (k : Int) < l.length := by omega
  have hk0 : (0 : Int) ≤ k := Int.natCast_nonneg k
  have hn := nth_of_drop (f := edgeD) hd
  have hem := mem_of_drop hd
  obtain ⟨hs1, hs2⟩ := hg.src e hem
  obtain ⟨ht1, ht2⟩ := hg.dst e hem
  have hsn : (e.s : Int) < n := by omega
  have htn : (e.t : Int) < n := by omega
  have hsnoc := insL_snoc (n := n) (l := l.take k) (e := e)
  have hosn := outN_snoc (n := n) (l := l.take k) (e := e)
  rw [← take_of_drop hd] at hsnoc hosn
  have hrow := rowsN_getD (M := insL n (l.take k)) (i := e.t)
  rw [insL_getD ht2] at hrow
  have hlen := ins_len (l.take k) e.t
  have hrl := rest_le (l.take k) e.s
  rw [List.length_take] at hlen hrl
  have hol := outN_len (n := n) (l := l.take k)
  have hol2 : e.s < (outN n (l.take k)).length := by omega
  have hog := nats_at 0 hol2
  rw [outN_getD hs2] at hog
  have hadd : ((rest (l.take k) [] e.s : Nat) : Int) + 1 = ((rest (l.take k) [] e.s + 1 : Nat) : Int) := by omega
  have hM : (rowsN (insL n (l.take k))).length = n := by rw [rowsN_len, insL_len]
  have hMl : e.t < (rowsN (insL n (l.take k))).length := by rw [hM]; exact ht2
  have hR := famR_at (b := 2) hMl
  rw [hrow] at hR
  have hO := famO_get0 (ag := none) hMl
  rw [hrow] at hO
  have hK := famR_killA (b := 2) hMl
  have hS := fun l' => famO_setA (ag := none) (l := l') hMl
  have hFl := famR_length 2 (rowsN (insL n (l.take k)))
  rw [hM] at hFl
  refine sem_of_awp (Γ := tbl tabLV) tabLV_ok _ _ _ ?_
  have hne : ¬ (famO none (rowsN (insL n (l.take k)))).length = e.t := by rw [famO_length, hM]; omega
  have hne0 : ¬ 0 = e.t + 2 := by omega
  have hne1 : ¬ 1 = e.t + 2 := by omega
  simp only [go_sem, Int.reduceEq, Int.reduceLT, Int.reduceLE, eq_self, Int.natCast_nonneg, Int.toNat_natCast, hk2, hk0, hn, hlt, edges_len, edgeD, hs1, ht1, getA0, setA0, hsn, hs2, nats_len, hol, hog, hadd, nats_upd]
  refine ⟨inR_i64.2 (by omega), ?_⟩
  refine sem_drawK (ko := e.t + 2) (pf := []) (mf := []) (ms := [0, 1, 2, 12, 11]) mixed tabLV_ok (fun g _ _ _ _ _ h => by cases h) noMk [0, 1, 2, 12, 3, 4, 5, 6, 7, 8, 9, 10, 11, 13] (by kernel_rfl) ?_
  simp only [go_sem, Int.reduceEq, Int.reduceLT, Int.reduceLE, eq_self, Int.natCast_nonneg, Int.toNat_natCast, hR, hFl, hO, hK, hS, hne, hne0, hne1, getA0, getA1, setA0, lenA1, htn, ht2, famO_getP hMl, famO_setP hMl, hrow, famO_kill, famO_killP, List.append_assoc, List.cons_append, List.nil_append, List.set_set, nats_take, nats_len, nats_snoc, if_false]
  refine ⟨by omega, by omega, inR_i64.2 (by omega), k + 1, by omega, by omega, ?_⟩
  rw [famR_setA (l := natsD (ins (l.take k) e.t ++ [e.s])) (by simp), rowsN_set, ← hsnoc, ← hosn]
  refine le_endF (pre := [_, _]) (Nat.zero_le _) ?_ ?_ ?_
  ·simp only [go_sem, Int.natCast_add, Int.cast_ofNat_Int]
  ·simp only [go_sem]
  ·exact ⟨trivial, famR_under _ _ _ (Nat.le_refl _), trivial⟩
 | nil =>
 have := end_of_drop hd hk
 have hk2 : ¬ (k : Int) < l.length := by omega
 subst this
 rw [List.take_length]
 have hrl : ((insL n l).map natsR).length = n := by simp [insL_len]
 have hrt : List.take n ((insL n l).map natsR) = (insL n l).map natsR := List.take_of_length_le (by rw [hrl]; exact Nat.le_refl _)
 refine sem_le (le_famEnd (pre := [.row none (natsD (outN n l)), .vec (famR 2 (rowsN (insL n l)))]) (s' := slotsOf 125 [(0, .dat (.int .i64 n)), (7, .sl 0 0 n), (8, .dat (.sl none ((insL n l).map natsR))), (29, .dat (.int .i64 l.length)), (30, .dat (.int .i64 l.length))]) (pre' := [.row none (natsD (outN n l)), .dead]) 1 rfl (Nat.zero_le _) ?_ ?_ ?_ ?_) ?_
 ·simp only [List.map_cons, List.map_nil, frzFo, frzFs, frzF_dat, AV.frzs, AV.frz, Obj.frz]; rfl
 ·rw [rowsN_sl]
  simp only [go_sem, frzFs, frzF_dat, frzF_top, frzF_nils, frzF_sl, frzF_ptr, AV.frzs, AV.frz, Nat.lt_irrefl, Nat.reduceLT, Nat.zero_lt_one, true_or, List.drop_zero, hrl, hrt, Nat.zero_add, Nat.le_refl, if_true, Nat.reduceEqDiff, ↓reduceIte, Nat.zero_ne_one]
 ·simp only [go_sem]
 ·simp only [go_sem, Obj.under, AV.unders, AV.under]
 refine sem_of_awp (Γ := tbl tabLV) tabLV_ok _ _ _ ?_
 simp only [go_sem, Int.reduceEq, Int.reduceLT, Int.reduceLE, eq_self, Int.natCast_nonneg, Int.toNat_natCast, hk2, edges_len]
 refine ⟨Int.le_refl _, by omega, ?_⟩
 refine sem_le (le_addnil 12 none rfl (Nat.zero_le _)) ?_
 simp only [go_sem, Int.reduceEq, Int.reduceLT, Int.reduceLE, eq_self, Int.natCast_nonneg, Int.toNat_natCast]
 have hol := outN_len (n := n) (l := l)
 have e0 : List.replicate n (D.int .i64 0) = natsD (List.replicate n 0) := by rw [nats_rep]; rfl
 rw [e0]
 refine sem_loop (fun k : Nat => ⟨slotsOf 125 [(0, .dat (.int .i64 n)), (7, .sl 0 0 n), (8, .dat (.sl none ((insL n l).map natsR))), (11, .sl 2 0 n), (12, .sl 3 0 (freeL (outN n l) k).length), (57, .sl 0 0 n), (58, .dat (.int .i64 n)), (59, .dat (.int .i64 k))],
   [.row none (natsD (outN n l)), .dead, .row none (natsD (List.replicate n 0)), .row none (natsD (freeL (outN n l) k))], 0, []⟩)
  (fun k => k ≤ n) (fun k => n - k) 0 (Nat.zero_le _) ?_ ?_
 ·exact le_slots' (by simp only [go_sem, Int.natCast_zero, freeL, List.range_zero, List.filter_nil])
 rintro k hk
 by_cases hkn : k = n
 case neg =>
  have hk2' : (k : Int) < n := by omega
  have hk3 : k < n := by omega
  have hk4 : k < (outN n l).length := by omega
  have hog := nats_at 0 hk4
  have hfs := freeL_succ (left := outN n l) (k := k)
  have hfl := freeL_len (left := outN n l) (k := k)
  refine sem_of_awp (Γ := tbl tabLV) tabLV_ok _ _ _ ?_
  by_cases hz : (outN n l).getD k 0 = 0
  ·rw [if_pos hz] at hfs
   have hz2 : (((outN n l).getD k 0 : Nat) : Int) = 0 := by omega
   simp only [go_sem, Int.reduceEq, Int.reduceLT, Int.reduceLE, eq_self, Int.natCast_nonneg, Int.toNat_natCast, hk2', hk3, nats_len, hol, hog, hz2, nats_take, nats_snoc]
   refine ⟨by omega, by omega, inR_i64.2 (by omega), k + 1, by omega, by omega, ?_⟩
   rw [hfs]
   refine le_end (own := [_, _, _, _]) (ex := [_]) (Nat.zero_le _) ?_ ?_ ?_
   ·simp only [go_sem, Int.natCast_add, Int.cast_ofNat_Int, List.length_append, List.length_cons, List.length_nil, Nat.zero_add]
   ·simp only [go_sem]
   ·simp only [go_sem, Obj.under, AV.unders, AV.under]
  ·rw [if_neg hz] at hfs
   have hz2 : ¬ (((outN n l).getD k 0 : Nat) : Int) = 0 := by omega
   simp only [go_sem, Int.reduceEq, Int.reduceLT, Int.reduceLE, eq_self, Int.natCast_nonneg, Int.toNat_natCast, hk2', hk3, nats_len, hol, hog, hz2]
   refine ⟨inR_i64.2 (by omega), k + 1, by omega, by omega, ?_⟩
   rw [hfs]
   exact le_slots' (by simp only [go_sem, Int.natCast_add, Int.cast_ofNat_Int])
 subst hkn
 have hk2' : ¬ (k : Int) < k := by omega
 refine sem_of_awp (Γ := tbl tabLV) tabLV_ok _ _ _ ?_
 simp only [go_sem, Int.reduceEq, Int.reduceLT, Int.reduceLE, eq_self, Int.natCast_nonneg, Int.toNat_natCast, hk2']
 refine sem_loop (fun p : List Nat × List Nat × List Nat × Nat => ⟨slotsOf 125 [(0, .dat (.int .i64 k)), (7, .sl 0 0 k), (8, .dat (.sl none ((insL k l).map natsR))), (11, .sl 2 0 k), (12, .sl 3 0 p.2.2.1.length), (15, .dat (.int .i64 p.2.2.2))],
   [.row none (natsD p.1), .dead, .row none (natsD p.2.1), .row none (natsD p.2.2.1)], 0, []⟩)
  (fun p => p.2.2.2 ≤ p.2.2.1.length ∧ KI k l p.1 p.2.1 p.2.2.1 (p.2.2.1.take p.2.2.2) none []) (fun p => k - p.2.2.2) (outN k l, List.replicate k 0, freeL (outN k l) k, 0) ⟨Nat.zero_le _, by simpa using ki_init⟩ ?_ ?_
 ·exact le_slots' (by simp only [go_sem, Int.natCast_zero])
 rintro ⟨left, lev, q, d⟩ ⟨hdq, hI⟩
 simp only at hdq hI
 have hql := hI.qle
 refine sem_of_awp (Γ := tbl tabLV) tabLV_ok _ _ _ ?_
 by_cases hde : d = q.length
 case pos =>
  subst hde
  rw [List.take_length] at hI
  have hd2 : ¬ (q.length : Int) < q.length := by omega
  have hlv := hI.lv
  by_cases hqn : q.length < k
  ·have hqn2 : (q.length : Int) < k := by omega
   rw [hI.stuck hqn hEt]
   simp only [go_sem, Int.reduceEq, Int.reduceLT, Int.reduceLE, eq_self, Int.natCast_nonneg, Int.toNat_natCast, hd2, hqn2]
   refine post_res (.inl rfl) [.tmp 4, .tmp 5] rfl ?_
   simp only [go_sem]
   exact le_fin (by simp only [go_sem]) (by simp only [go_sem])
  ·have hqn2 : ¬ (q.length : Int) < k := by omega
   rw [hI.all (by omega) hEt]
   simp only [go_sem, Int.reduceEq, Int.reduceLT, Int.reduceLE, eq_self, Int.natCast_nonneg, Int.toNat_natCast, hd2, hqn2]
   refine post_res (.inl rfl) [.tmp 4, .tmp 5] rfl ?_
   simp only [go_sem]
   refine Le.trans (le_freeze 2 (ag := none) rfl (Nat.zero_le _)) ?_
   have e1 : List.take k (natsD lev) = natsD lev := List.take_of_length_le (by simp [hlv])
   simp only [go_sem, e1, nats_len, hlv, Nat.le_refl]
   exact le_fin (by simp only [go_sem]) (by simp only [go_sem])
 have hdl : d < q.length := by omega
 obtain ⟨w, hw⟩ : ∃ w, q[d]? = some w := ⟨_, List.getElem?_eq_getElem hdl⟩
 have hwq := List.mem_of_getElem? hw
 have hwn := hI.qn w hwq
 have hwn2 : (w : Int) < k := by omega
 have hd2 : (d : Int) < q.length := by omega
 have hd0 : (0 : Int) ≤ d := Int.natCast_nonneg d
 have hnw := nats_nth hw
 have hent := rows_nth (insL_get (l := l) hwn)
 have hML : ((insL k l).map natsR).length = k := by simp [insL_len]
 have htk : q.take (d + 1) = q.take d ++ [w] := by rw [List.take_add_one, hw]; rfl
 have hwT : ¬ w ∈ q.take d := fun hm => by
  have hnd := hI.nd
  rw [← List.take_append_drop (d + 1) q, htk, List.append_assoc, List.nodup_append] at hnd
  exact hnd.2.2 w hm w (by simp) rfl
 have hS := hI.start hwq hwT
 rw [← htk] at hS
 simp only [go_sem, Int.reduceEq, Int.reduceLT, Int.reduceLE, eq_self, Int.natCast_nonneg, Int.toNat_natCast, hd2, hd0, hdl, nats_len, hnw, hwn, hwn2, hML, hent]
 refine sem_loop (fun p : List Nat × List Nat × List Nat × Nat => ⟨slotsOf 125 [(0, .dat (.int .i64 k)), (7, .sl 0 0 k), (8, .dat (.sl none ((insL k l).map natsR))), (11, .sl 2 0 k), (12, .sl 3 0 p.2.2.1.length), (15, .dat (.int .i64 d)),
   (83, .dat (.sl none (natsD (ins l w)))), (84, .dat (.int .i64 (ins l w).length)), (85, .dat (.int .i64 p.2.2.2))],
   [.row none (natsD p.1), .dead, .row none (natsD p.2.1), .row none (natsD p.2.2.1)], 0, []⟩)
  (fun p => p.2.2.2 ≤ (ins l w).length ∧ d < p.2.2.1.length ∧ p.2.2.1[d]? = some w ∧ p.2.2.1.length ≤ k ∧ KI k l p.1 p.2.1 p.2.2.1 (p.2.2.1.take (d + 1)) (some w) ((ins l w).drop p.2.2.2)) (fun p => (ins l w).length - p.2.2.2) (left, lev, q, 0) ⟨Nat.zero_le _, hdl, hw, hql, hS⟩ ?_ ?_
 ·exact le_slots' (by simp only [go_sem, Int.natCast_zero])
 clear hS hwT htk hnw hd2 hw hwq hdl hde hql hI hdq left lev q
 rintro ⟨left, lev, q, j⟩ ⟨hj, hdl, hw, hql, hI⟩
 simp only at hj hdl hw hql hI
 refine sem_of_awp (Γ := tbl tabLV) tabLV_ok _ _ _ ?_
 cases hd3 : (ins l w).drop j with
 | nil =>
  have := end_of_drop hd3 hj
  have hj2 : ¬ (j : Int) < (ins l w).length := by omega
  rw [hd3] at hI
  simp only [go_sem, Int.reduceEq, Int.reduceLT, Int.reduceLE, eq_self, Int.natCast_nonneg, Int.toNat_natCast, hj2]
  refine ⟨inR_i64.2 (by omega), (left, lev, q, d + 1), ⟨by simp only; omega, hI.stop⟩, by simp only; omega, ?_⟩
  exact le_slots' (by simp only [go_sem, Int.natCast_add, Int.cast_ofNat_Int])
 | cons v r =>
  have hlt := lt_of_drop hd3
  have hil := ins_len l w
  have hj2 : (j : Int) < (ins l w).length := by omega
  have hj0 : (0 : Int) ≤ j := Int.natCast_nonneg j
  have hn := nth_of_drop (f := natD) hd3
  have hvm := mem_of_drop hd3
  obtain ⟨e, he, hes, het⟩ := mem_ins.1 hvm
  have hvn : v < k := by rw [← hes]; exact (hg.src e he).2
  have hvn2 : (v : Int) < k := by omega
  rw [hd3] at hI
  have hcnt := hI.cnt v hvn
  rw [List.count_cons_self] at hcnt
  have hnew := hI.step hvn (by rw [List.take_add_one, hw]; simp) ⟨e, he, hes, het⟩
  have hll2 := hI.ll
  have hlv2 := hI.lv
  have gl := nats_at (l := left) 0 (show v < left.length by omega)
  have gv := nats_at (l := lev) 0 (show v < lev.length by omega)
  have gw := nats_at (l := lev) 0 (show w < lev.length by omega)
  have hnw := nats_nth hw
  have hd2 : (d : Int) < q.length := by omega
  have hmx : max ((lev.getD v 0 : Nat) : Int) (((lev.getD w 0 : Nat) : Int) + 1) = ((max (lev.getD v 0) (lev.getD w 0 + 1) : Nat) : Int) := by omega
  have hsb : ((left.getD v 0 : Nat) : Int) - 1 = ((left.getD v 0 - 1 : Nat) : Int) := by omega
  have gl2 := nats_at (l := left.set v (left.getD v 0 - 1)) 0 (i := v) (by rw [List.length_set]; omega)
  rw [getD_set', if_pos ⟨rfl, by omega⟩] at gl2
  simp only [go_sem, Int.reduceEq, Int.reduceLT, Int.reduceLE, eq_self, Int.natCast_nonneg, Int.toNat_natCast, hj2, hj0, hn, hlt, nats_len]
  refine sem_drawM (ob := 2) (pf := []) (mf := []) (ms := []) mixed tabLV_ok (fun g _ _ _ _ _ h => by cases h) noMk [0, 1, 2, 3, 4, 5, 6, 7, 8, 9, 10, 11, 12, 13, 14, 15, 16] (by kernel_rfl) ?_
  simp only [go_sem, Int.reduceEq, Int.reduceLT, Int.reduceLE, eq_self, Int.natCast_nonneg, Int.toNat_natCast, chainM, opm, hvn, hvn2, hwn, hwn2, nats_len, hlv2, hll2, gv, gw, gl, hnw, hd2, hdl, hmx, hsb, nats_upd, List.length_set, gl2]
  have huw := hI.uw w rfl
  rw [List.length_take] at huw
  have hrl := rest_le l v
  have hlb : left.getD v 0 ≤ 30000 := by
   have h1 : rest l (q.take (d + 1)) v ≤ l.length := List.countP_le_length
   have h2 : r.length ≤ (ins l w).length := by have := congrArg List.length hd3; simp at this; omega
   have h3 := List.count_le_length (a := v) (l := r)
   omega
  refine ⟨inR_i64.2 (by omega), inR_i64.2 (by omega), ?_⟩
  have hdr := drop_cons hd3
  by_cases hz : left.getD v 0 - 1 = 0
  ·have hz2 : ((left.getD v 0 - 1 : Nat) : Int) = 0 := by omega
   rw [if_pos hz] at hnew
   have hql2 : (q ++ [v]).length ≤ k := nodup_le hnew.nd hnew.qn
   rw [List.length_append, List.length_singleton] at hql2
   simp only [go_sem, Int.reduceEq, Int.reduceLT, Int.reduceLE, eq_self, Int.natCast_nonneg, Int.toNat_natCast, hz2, nats_take, nats_len, nats_snoc]
   refine ⟨by omega, by omega, inR_i64.2 (by omega), (left.set v (left.getD v 0 - 1), lev.set v (max (lev.getD v 0) (lev.getD w 0 + 1)), q ++ [v], j + 1), ⟨by simp only; omega, by simp; omega, by simp only; rw [List.getElem?_append_left hdl]; exact hw, by simp; omega, ?_⟩, by simp only; omega, ?_⟩
   ·simp only [hdr]
    rw [List.take_append_of_le_length (by omega)]
    exact hnew
   ·refine le_end (own := [_, _, _, _]) (ex := [_]) (Nat.zero_le _) ?_ ?_ ?_
    ·simp only [go_sem, Int.natCast_add, Int.cast_ofNat_Int, List.length_append, List.length_cons, List.length_nil, Nat.zero_add]
    ·simp only [go_sem]
    ·simp only [go_sem, Obj.under, AV.unders, AV.under]
  ·have hz2 : ¬ ((left.getD v 0 - 1 : Nat) : Int) = 0 := by omega
   rw [if_neg hz] at hnew
   simp only [go_sem, Int.reduceEq, Int.reduceLT, Int.reduceLE, eq_self, Int.natCast_nonneg, Int.toNat_natCast, hz2]
   refine ⟨inR_i64.2 (by omega), (left.set v (left.getD v 0 - 1), lev.set v (max (lev.getD v 0) (lev.getD w 0 + 1)), q, j + 1), ⟨by simp only; omega, hdl, hw, hql, by simp only [hdr]; exact hnew⟩, by simp only; omega, ?_⟩
   exact le_slots' (by simp only [go_sem, Int.natCast_add, Int.cast_ofNat_Int])
end Go.AM

namespace Go.AM
open Go Go.Proofs

def acyc (E : List (Nat × Nat)) : Prop := ∀ k v, ¬ Wk E (k + 1) v v
theorem wk_short {E : List (Nat × Nat)} {n : Nat} (hE : ∀ p ∈ E, p.2 < n) (hA : acyc E) : ∀ {k a v : Nat}, a < n → Wk E k a v → k < n := by
 have key : ∀ (k a v : Nat), a < n → Wk E k a v → ∃ L : List Nat, L.length = k + 1 ∧ L.Nodup ∧ v < n ∧ ∀ x ∈ L, x < n ∧ ∃ m, Wk E m x v := by
  intro k
  induction k with
  | zero => intro a v ha h; cases h; exact ⟨[a], rfl, by simp, ha, fun x hx => by simp at hx; subst hx; exact ⟨ha, 0, rfl⟩⟩
  | succ k ih =>
   rintro a v ha ⟨u, hu, hw⟩
   obtain ⟨L, h1, h2, h3, h4⟩ := ih a u ha hw
   refine ⟨v :: L, by simp [h1], List.nodup_cons.2 ⟨fun hm => ?_, h2⟩, hE _ hu, fun x hx => ?_⟩
   ·obtain ⟨_, m, hm⟩ := h4 v hm
    exact hA m v ⟨u, hu, hm⟩
   ·rcases List.mem_cons.1 hx with rfl | hx
    ·exact ⟨hE _ hu, 0, rfl⟩
    ·obtain ⟨g1, m, g2⟩ := h4 x hx
     exact ⟨g1, m + 1, u, hu, g2⟩
 intro k a v ha h
 obtain ⟨L, h1, h2, _, h4⟩ := key k a v ha h
 have := nodup_le h2 (fun x hx => (h4 x hx).1)
 omega
theorem top_ex (P : Nat → Prop) : ∀ (n : Nat), P 0 → ∃ m, P m ∧ (m = 0 ∨ m < n) ∧ ∀ k, k < n → P k → k ≤ m
 | 0, h => ⟨0, h, .inl rfl, fun k hk => by omega⟩
 | n + 1, h => by
  by_cases hn : P n
  ·exact ⟨n, hn, .inr (by omega), fun k hk _ => by omega⟩
  ·obtain ⟨m, h1, h2, h3⟩ := top_ex P n h
   refine ⟨m, h1, by omega, fun k hk hp => ?_⟩
   by_cases e : k = n
   ·subst e; exact absurd hp hn
   ·exact h3 k (by omega) hp
theorem isLev_of_acyc {n : Nat} {l : List PEdge} (hg : GOk n l) (hA : acyc (eF l)) : ∃ f, IsLev n l f := by
 let f : Nat → Nat := fun v => Classical.choose (top_ex (fun k => ∃ u, Wk (eF l) k v u) n ⟨v, rfl⟩)
 have hf : ∀ v, (∃ u, Wk (eF l) (f v) v u) ∧ ∀ k, k < n → (∃ u, Wk (eF l) k v u) → k ≤ f v := fun v => by
  have := Classical.choose_spec (top_ex (fun k => ∃ u, Wk (eF l) k v u) n ⟨v, rfl⟩)
  exact ⟨this.1, this.2.2⟩
 have hdown : ∀ e ∈ l, f e.t < f e.s := fun e he => by
  obtain ⟨u, hu⟩ := (hf e.t).1
  have hw := Wk_cons (List.mem_map.2 ⟨e, he, rfl⟩ : (e.s, e.t) ∈ eF l) hu
  have := (hf e.s).2 _ (wk_short hg.eFlt hA (hg.src e he).2 hw) ⟨u, hw⟩
  omega
 refine ⟨f, hdown, fun v hv => ?_⟩
 by_cases h0 : f v = 0
 ·exact .inl h0
 ·obtain ⟨u, hu⟩ := (hf v).1
  obtain ⟨m, hm⟩ : ∃ m, f v = m + 1 := ⟨f v - 1, by omega⟩
  rw [hm] at hu
  obtain ⟨b, hb, hw⟩ := Wk_first hu
  obtain ⟨e, he, h2⟩ := List.mem_map.1 hb
  cases h2
  refine .inr ⟨e, he, rfl, ?_⟩
  have h1 := hdown e he
  have h3 := (hf e.t).2 m (by have := wk_short hg.eFlt hA (hg.dst e he).2 hw; omega) ⟨u, hw⟩
  omega
theorem pot_acyc {l : List PEdge} {f : Nat → Nat} (hf : ∀ e ∈ l, f e.t < f e.s) : acyc (eF l) := by
 have key : ∀ k a v, Wk (eF l) k a v → f v + k ≤ f a := by
  intro k
  induction k with
  | zero => intro a v h; cases h; omega
  | succ k ih =>
   rintro a v ⟨u, hu, hw⟩
   obtain ⟨e, he, h2⟩ := List.mem_map.1 hu
   cases h2
   have := ih a e.s hw
   have := hf e he
   omega
 intro k v h
 have := key _ _ _ h
 omega
theorem acyc_cyc {l : List PEdge} : acyc (eF l) ↔ cycL l l.length = none := by
 have hc := cycL_is (l := l) l.length
 constructor
 ·intro hA
  cases h : cycL l l.length with
  | none => rfl
  | some c =>
   rw [h] at hc
   obtain ⟨i, h1, h2, _⟩ := hc
   exact absurd (Wk_cons (eF_get h1) (sd_wk h2)) (hA _ _)
 ·intro h k v hw
  rw [h] at hc
  simp only at hc
  obtain ⟨b, hb, hw⟩ := Wk_first hw
  obtain ⟨i, h1, h2, h3⟩ := eF_ex hb
  have := hc i h1
  unfold back at this
  rw [h2, h3] at this
  exact (sd_neg this).2 k hw
theorem lev_iff {n : Nat} {l : List PEdge} (hg : GOk n l) : (levV n l).isSome = (cycL l l.length).isNone := by
 have hEt : ∀ e ∈ l, e.t < n := fun e he => (hg.dst e he).2
 by_cases hA : acyc (eF l)
 ·obtain ⟨f, hf⟩ := isLev_of_acyc hg hA
  rw [levV_some hEt hf, acyc_cyc.1 hA]; rfl
 ·have h1 : levV n l = none := levV_none fun ⟨f, hf⟩ => hA (pot_acyc hf)
  have h2 : cycL l l.length ≠ none := fun h => hA (acyc_cyc.2 h)
  rw [h1]
  cases h : cycL l l.length with
  | none => exact absurd h h2
  | some c => rfl
end Go.AM

namespace Go.AM
open Go Go.Proofs

structure LR (n : Nat) (l : List PEdge) (out : List Nat) (r : Nat) (P : List PEdge) (more : Bool) : Prop where
 len : out.length = n
 walk : ∀ v, v < n → ∃ u, Wk (eF l) (out.getD v 0) v u
 comp : ∀ v j u, v < n → j ≤ r → Wk (eF l) j v u → j ≤ out.getD v 0
 done : ∀ e ∈ P, ∀ j u, j ≤ r → Wk (eF l) j e.t u → j + 1 ≤ out.getD e.s 0
 flat : more = false → ∀ e ∈ P, out.getD e.t 0 < out.getD e.s 0
 cyc : more = true → n ≤ r → ¬ acyc (eF l)
 ub : ∀ v, v < n → out.getD v 0 ≤ r * l.length + P.length
theorem LR.init {n : Nat} {l : List PEdge} : LR n l (List.replicate n 0) 0 [] false where
 len := by simp
 walk v hv := ⟨v, by simp [List.getD_eq_getElem?_getD, List.getElem?_replicate, hv]; rfl⟩
 comp v j u hv hj h := by omega
 done e he := by cases he
 flat _ e he := by cases he
 cyc h := by cases h
 ub v hv := by simp [List.getD_eq_getElem?_getD, List.getElem?_replicate, hv]
section
variable {n r : Nat} {l P : List PEdge} {out : List Nat} {more : Bool} {e : PEdge}
theorem LR.keep (h : LR n l out r P more) (hg : GOk n l) (he : e ∈ l) (hlt : ¬ out.getD e.s 0 < out.getD e.t 0 + 1) : LR n l out r (P ++ [e]) more := by
 refine { h with done := fun x hx j u hj hw => ?_, flat := fun hm x hx => ?_, ub := fun v hv => ?_ }
 ·rcases List.mem_append.1 hx with hx | hx
  ·exact h.done x hx j u hj hw
  ·simp at hx; subst hx
   have := h.comp x.t j u (hg.dst x he).2 hj hw
   omega
 ·rcases List.mem_append.1 hx with hx | hx
  ·exact h.flat hm x hx
  ·simp at hx; subst hx; omega
 ·have := h.ub v hv; rw [List.length_append]; omega
theorem LR.lift (h : LR n l out r P more) (hg : GOk n l) (he : e ∈ l) (hlt : out.getD e.s 0 < out.getD e.t 0 + 1) : LR n l (out.set e.s (out.getD e.t 0 + 1)) r (P ++ [e]) true := by
 have hs := (hg.src e he).2
 have ht := (hg.dst e he).2
 have hgv : ∀ v, (out.set e.s (out.getD e.t 0 + 1)).getD v 0 = if e.s = v then out.getD e.t 0 + 1 else out.getD v 0 := fun v => by
  rw [getD_set']
  by_cases h2 : e.s = v
  ·rw [if_pos ⟨h2, by rw [h.len]; exact hs⟩, if_pos h2]
  ·rw [if_neg (fun hh => h2 hh.1), if_neg h2]
 have hup : ∀ v, out.getD v 0 ≤ (out.set e.s (out.getD e.t 0 + 1)).getD v 0 := fun v => by
  rw [hgv]; split
  ·rename_i h2; subst h2; omega
  ·omega
 have hmem : (e.s, e.t) ∈ eF l := List.mem_map.2 ⟨e, he, rfl⟩
 refine ⟨by simp [h.len], fun v hv => ?_, fun v j u hv hj hw => Nat.le_trans (h.comp v j u hv hj hw) (hup v), fun x hx j u hj hw => ?_, fun hm => (by cases hm), fun _ hr hA => ?_, fun v hv => ?_⟩
 ·rw [hgv]
  split
  ·rename_i h2; subst h2
   obtain ⟨u, hu⟩ := h.walk e.t ht
   exact ⟨u, Wk_cons hmem hu⟩
  ·exact h.walk v hv
 ·rcases List.mem_append.1 hx with hx | hx
  ·exact Nat.le_trans (h.done x hx j u hj hw) (hup x.s)
  ·simp at hx; subst hx
   rw [hgv, if_pos rfl]
   have := h.comp x.t j u ht hj hw
   omega
 ·obtain ⟨u, hu⟩ := h.walk e.t ht
  have hw := Wk_cons hmem hu
  have h1 := wk_short hg.eFlt hA hs hw
  have := h.comp e.s _ u hs (by omega) hw
  omega
 ·rw [hgv]
  have h1 := h.ub e.t ht
  have h2 := h.ub v hv
  rw [List.length_append, List.length_singleton]
  split <;> omega
theorem LR.next (h : LR n l out r l more) (hE : ∀ e ∈ l, e.s < n) : LR n l out (r + 1) [] false where
 len := h.len
 walk := h.walk
 comp v j u hv hj hw := by
  cases j with
  | zero => omega
  | succ j =>
   obtain ⟨b, hb, hw⟩ := Wk_first hw
   obtain ⟨e, he, h2⟩ := List.mem_map.1 hb
   cases h2
   exact h.done e he j u (by omega) hw
 done e he := by cases he
 flat _ e he := by cases he
 cyc h := by cases h
 ub v hv := by have := h.ub v hv; rw [Nat.succ_mul, List.length_nil]; omega
theorem LR.stop (h : LR n l out r l false) (hg : GOk n l) : levV n l = some out := by
 have hd := h.flat rfl
 have hA := pot_acyc (f := fun v => out.getD v 0) hd
 have pot : ∀ k a v, Wk (eF l) k a v → k ≤ out.getD a 0 := by
  have key : ∀ k a v, Wk (eF l) k a v → out.getD v 0 + k ≤ out.getD a 0 := by
   intro k
   induction k with
   | zero => intro a v h; cases h; omega
   | succ k ih =>
    rintro a v ⟨u, hu, hw⟩
    obtain ⟨e, he, h2⟩ := List.mem_map.1 hu
    cases h2
    have := ih a e.s hw
    have := hd e he
    omega
  intro k a v hw
  have := key k a v hw
  omega
 have hl : IsLev n l fun v => out.getD v 0 := ⟨hd, fun v hv => by
  by_cases h0 : out.getD v 0 = 0
  ·exact .inl h0
  ·obtain ⟨u, hu⟩ := h.walk v hv
   obtain ⟨m, hm⟩ : ∃ m, out.getD v 0 = m + 1 := ⟨out.getD v 0 - 1, by omega⟩
   rw [hm] at hu
   obtain ⟨b, hb, hw⟩ := Wk_first hu
   obtain ⟨e, he, h2⟩ := List.mem_map.1 hb
   cases h2
   have h3 := pot m e.t u hw
   have h4 := hd e he
   exact .inr ⟨e, he, rfl, by omega⟩⟩
 rw [levV_some (fun e he => (hg.dst e he).2) hl]
 congr 1
 refine List.ext_getElem (by simp [h.len]) fun i h1 h2 => ?_
 simp [List.getD_eq_getElem?_getD, List.getElem?_eq_getElem h2]
end
end Go.AM

set_option maxRecDepth 8000
set_option maxHeartbeats 2000000
namespace Go.AM
open Go Go.Proofs

end Go.AM

set_option maxRecDepth 8000
set_option maxHeartbeats 2000000
namespace Go.AM
open Go Go.Proofs

abbrev sysE (s : PSys) : List PEdge := edC s 0 s.classes []
def nRes (s : PSys) : Nat := s.pools.length + s.locks.length + s.classes.length
theorem sysE_ok {s : PSys} (h : checkE s = 0) : GOk (nRes s) (sysE s) := by
 have hg := good_of h
 have hlen := edC_len s 12 0 s.classes [] (fun c hc => (hg.cls c hc).l12)
 have h1 := hg.np
 have h2 := hg.nl
 have h3 := hg.nc
 have hl2 : s.classes.length * (12 * (s.pools.length + s.locks.length + 1)) ≤ 6 * (12 * 11) := Nat.mul_le_mul h3 (by omega)
 have key : ∀ e ∈ sysE s, (∃ r : Nat, e.src = r ∧ r < nRes s) ∧ ∃ r : Nat, e.dst = r ∧ r < nRes s := by
  intro e he
  obtain ⟨i, k, c, x, h1, h2, h3, h4, h5, h6, h7⟩ := (eFacts s).mem e he
  have hi := (List.getElem?_eq_some_iff.1 h1).1
  obtain ⟨r, hr, hr2, _⟩ := holdL_range hi h7
  refine ⟨⟨r, hr, hr2⟩, ?_⟩
  have hp := (hg.cls c (List.mem_of_getElem? h1)).pre x (List.mem_of_getElem? h2)
  obtain ⟨_, ⟨o1, o2⟩, _⟩ := preE_0 hp
  rw [h6]
  unfold mostE at o2
  unfold nRes targetN
  by_cases k3 : x.kind = 3
  ·rw [if_pos (.inl k3)] at o2
   rw [if_pos k3]
   exact ⟨s.pools.length + x.on.toNat, by omega, by omega⟩
  ·rw [if_neg k3]
   by_cases k5 : x.kind = 5
   ·rw [if_neg (by omega), if_pos k5] at o2
    rw [if_pos k5]
    exact ⟨s.pools.length + s.locks.length + x.on.toNat, by omega, by omega⟩
   ·rw [if_neg k5]
    have k1 : x.kind = 1 := Classical.byContradiction fun hk => by
     unfold waitB at h3
     rw [if_neg (by omega), if_neg hk] at h3
     cases h3
    rw [if_neg (by omega), if_neg k5] at o2
    exact ⟨x.on.toNat, by omega, by omega⟩
 refine ⟨by unfold nRes; omega, by simp only [List.length_nil] at hlen; show (edC s 0 s.classes []).length ≤ 10000; omega, fun e he => ?_, fun e he => ?_⟩
 ·obtain ⟨⟨r, hr, hr2⟩, _⟩ := key e he
  unfold PEdge.s; rw [hr, Int.toNat_natCast]; exact ⟨rfl, hr2⟩
 ·obtain ⟨_, r, hr, hr2⟩ := key e he
  unfold PEdge.t; rw [hr, Int.toNat_natCast]; exact ⟨rfl, hr2⟩
theorem resN_ok {s : PSys} (h : checkE s = 0) : resN s = (nRes s : Nat) := by unfold resN nRes; rw [if_neg (by rw [h]; decide)]; omega
theorem edgesV_ok {s : PSys} (h : checkE s = 0) : edgesV s = .tup [.dat (.sl (some 4) (edgesD (sysE s))), .dat (.int .i64 0)] := by unfold edgesV; rw [if_neg (by rw [h]; decide)]
theorem edgesV_err {s : PSys} (h : checkE s ≠ 0) : edgesV s = .tup [.dat (.sl none []), .dat (.int .i64 (checkE s))] := by unfold edgesV; rw [if_pos h]

def certD (L : List Nat) : D := .agg [.sl none (natsD L)]
noncomputable def makeO (s : PSys) : List Nat × Int := if checkE s ≠ 0 then ([], checkE s) else if (impO s).isSome = true then ([], 9) else match levV (nRes s) (sysE s) with
 | some L => (L, 0)
 | none => ([], 20)
noncomputable def makeV (s : PSys) : AV := .tup [.dat (certD (makeO s).1), .dat (.int .i64 (makeO s).2)]
def makeR (ds : List D) (v : AV) : Prop := ∃ s : PSys, ds = [sysD s] ∧ s.fit ∧ v = makeV s
abbrev tabMA : List (Nat × Contract) := [(65, dataC edgesR), (66, dataC impVR), (68, dataC resR), (67, dataC levelsR)]
theorem tabMA_ok : OkG Try.prog (tbl tabMA) := okG_cons edges_ok (okG_cons Impossible_ok (okG_cons resources_ok (okG_cons levels_ok okG_nil)))
theorem levelsVv_ok {s : PSys} (h : checkE s = 0) : levelsVv (nRes s : Nat) (sysE s) = match levV (nRes s) (sysE s) with
 | some L => .tup [.dat (.sl none (natsD L)), .dat (.int .i64 0)]
 | none => .tup [.dat (.sl none []), .dat (.int .i64 10)] := by
 unfold levelsVv; rw [if_neg (by rw [gE_ok (sysE_ok h)]; decide), Int.toNat_natCast]
 all_goals (cases levV (nRes s) (sysE s) <;> rfl)
theorem make_ok : OkF Try.prog 37 (dataC makeR) := by
 refine okF_data Try.func37 rfl (by decide) ?_
 rintro ds v ⟨s, rfl, hf, rfl⟩
 refine sem_of_awp (Γ := tbl tabMA) tabMA_ok _ _ _ ?_
 simp only [go_sem, Int.reduceEq, Int.reduceLT, Int.reduceLE, eq_self, Int.natCast_nonneg, Int.toNat_natCast, Try.ntmps37, sysD]
 refine call_data edgesR (by simp) [sysD s] _ rfl ⟨s, rfl, hf, rfl⟩ (.inl rfl) ?_
 unfold makeV makeO
 by_cases h : checkE s = 0
 case neg =>
  rw [edgesV_err h, if_pos h]
  simp only [go_sem, Int.reduceEq, Int.reduceLT, Int.reduceLE, eq_self, Int.natCast_nonneg, Int.toNat_natCast, h]
  refine post_res (.inl rfl) [.cell 2 68, .tmp 3] rfl ?_
  simp only [go_sem, certD]
  exact le_fin (by simp only [go_sem]) (by simp only [go_sem])
 rw [edgesV_ok h, if_neg (by rw [h]; decide)]
 have hgk := sysE_ok h
 have hgl := hgk.len
 simp only [go_sem, Int.reduceEq, Int.reduceLT, Int.reduceLE, eq_self, Int.natCast_nonneg, Int.toNat_natCast, h]
 refine call_data impVR (by simp) [sysD s] _ rfl ⟨s, rfl, hf, rfl⟩ (.inl rfl) ?_
 cases hi : impO s with
 | some q =>
  obtain ⟨i, k⟩ := q
  simp only [go_sem, Int.reduceEq, Int.reduceLT, Int.reduceLE, eq_self, Int.natCast_nonneg, Int.toNat_natCast, fstV]
  refine post_res (.inl rfl) [.cell 2 68, .tmp 3] rfl ?_
  simp only [go_sem, certD]
  exact le_fin (by simp only [go_sem]) (by simp only [go_sem])
 | none =>
 simp only [go_sem, Int.reduceEq, Int.reduceLT, Int.reduceLE, eq_self, Int.natCast_nonneg, Int.toNat_natCast, fstV]
 refine call_data resR (by simp) [sysD s] _ rfl ⟨s, rfl, hf, rfl⟩ (.inl rfl) ?_
 rw [resN_ok h]
 simp only [go_sem, Int.reduceEq, Int.reduceLT, Int.reduceLE, eq_self, Int.natCast_nonneg, Int.toNat_natCast]
 refine call_data levelsR (by simp) [.int .i64 (nRes s : Nat), .sl (some 4) (edgesD (sysE s))] _ rfl ⟨_, _, rfl, by omega, rfl⟩ (.inl rfl) ?_
 rw [levelsVv_ok h]
 cases hl : levV (nRes s) (sysE s) with
 | none =>
  simp only [go_sem, Int.reduceEq, Int.reduceLT, Int.reduceLE, eq_self, Int.natCast_nonneg, Int.toNat_natCast]
  refine post_res (.inl rfl) [.cell 2 68, .tmp 3] rfl ?_
  simp only [go_sem, certD]
  exact le_fin (by simp only [go_sem]) (by simp only [go_sem])
 | some L =>
  simp only [go_sem, Int.reduceEq, Int.reduceLT, Int.reduceLE, eq_self, Int.natCast_nonneg, Int.toNat_natCast]
  refine post_res (.inl rfl) [.cell 2 68, .tmp 3] rfl ?_
  simp only [go_sem, certD]
  exact le_fin (by simp only [go_sem]) (by simp only [go_sem])
end Go.AM

