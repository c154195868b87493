/- Own work over the model of the kit. -/
import Derived.Test.YtholibdhogbobaaH15
set_option linter.unusedSimpArgs false
set_option linter.unusedVariables false
set_option maxRecDepth 8000
set_option maxHeartbeats 1000000
namespace Go.AM
open Go Go.Proofs

noncomputable def distT (n : Nat) (l : List PEdge) (to : Nat) : List Int := (List.range n).map fun v => sd (eF l) v to
theorem distT_len {n : Nat} {l : List PEdge} {to : Nat} : (distT n l to).length = n := by simp [distT]
theorem distT_getD {n : Nat} {l : List PEdge} {to v : Nat} {z : Int} (h : v < n) : (distT n l to).getD v z = sd (eF l) v to := by
  simp [distT, List.getD_eq_getElem?_getD, h]
def srcs (l : List PEdge) (I : List Nat) : List Nat := I.map fun i => (l.getD i default).s
theorem srcs_all {l : List PEdge} {x w : Nat} (h : (x, w) ∈ flip (eF l)) : w ∈ srcs l (idxs PEdge.t 0 l x) := by
  obtain ⟨e, he, h2⟩ := List.mem_map.1 (mem_flip.1 h)
  obtain ⟨i, hi⟩ := List.mem_iff_getElem?.1 he
  cases h2
  refine List.mem_map.2 ⟨i, mem_idxs.2 ⟨i, e, hi, rfl, by simp⟩, ?_⟩
  simp [List.getD_eq_getElem?_getD, hi]
def distR (ds : List D) (v : AV) : Prop := ∃ (n : Nat) (l : List PEdge) (to : Nat), ds = [.int .i64 n, .sl (some 4) (edgesD l), .sl none ((idxL PEdge.t n l).map natsR), .int .i64 to] ∧ GOk n l ∧ to < n ∧ v = .dat (.sl none (intsD (distT n l to)))
abbrev tabDI : List (Nat × Contract) := [(82, frzC (madeC repR))]
theorem tabDI_ok : OkG Try.prog (tbl tabDI) := okG_cons (okF_frz repeat_ok) okG_nil
theorem distances_ok : OkF Try.prog 64 (dataC distR) := by
  refine okF_data Try.func64 rfl (by decide) ?_
  rintro ds v ⟨n, l, to, rfl, hg, ha, rfl⟩
  have hn4 := hg.n4
  have hll := hg.len
  have hEf : ∀ p ∈ flip (eF l), p.2 < n := by
    rintro ⟨a, b⟩ hp
    obtain ⟨e, he, h2⟩ := List.mem_map.1 (mem_flip.1 hp)
    cases h2; exact (hg.src e he).2
  have hML : ((idxL PEdge.t n l).map natsR).length = n := by simp [idxL_len]
  have ha2 : (to : Int) < n := by omega
  refine sem_of_awp (Γ := tbl tabDI) tabDI_ok _ _ _ ?_
  simp only [go_sem, Int.reduceEq, Int.reduceLT, Int.reduceLE, eq_self, Int.natCast_nonneg, Int.toNat_natCast, Try.ntmps64]
  refine call_frzmade repR (by simp) 0 rfl [.sl none [.int .i64 (-1)], .int .i64 n] (.sl 0 0 n) _ rfl rfl ⟨-1, n, rfl, by omega, hn4, rfl, rfl⟩ ?_
  simp only [AV.shift, Obj.shift, List.map_cons, List.map_nil]
  simp only [go_sem, Int.reduceEq, Int.reduceLT, Int.reduceLE, eq_self, Int.natCast_nonneg, Int.toNat_natCast, ha, ha2, ints_len, List.length_replicate, ints_upd]
  refine sem_loop (fun p : List Int × List Nat × Nat × List Nat × Nat => ⟨slotsOf 64 [(0, .dat (.int .i64 n)), (1, .dat (.sl (some 4) (edgesD l))), (2, .dat (.sl none ((idxL PEdge.t n l).map natsR))), (3, .dat (.int .i64 to)), (9, .sl 1 0 n), (10, .sl 2 p.2.2.2.2 (p.2.1.length - p.2.2.1))], [.dead, .row none (intsD p.1), .row none (natsD p.2.2.2.1)], 0, []⟩)
    (fun p => BInv (flip (eF l)) n to p.1 p.2.1 p.2.2.1 ∧ p.2.2.2.1.drop p.2.2.2.2 = p.2.1.drop p.2.2.1 ∧ p.2.2.2.2 ≤ p.2.2.2.1.length) (fun p => n - p.2.2.1) ((List.replicate n (-1)).set to 0, [to], 0, [to], 0) ⟨BInv.init ha, rfl, Nat.zero_le _⟩ ?_ ?_
  · exact le_slots' (by simp only [go_sem, Int.natCast_zero])
  rintro ⟨d, q, i, R, off⟩ ⟨hI, hR, ho⟩
  simp only at hI hR ho
  have hql := hI.qle
  have hil := hI.le
  have hln := hI.ln
  have hRl : off + (q.length - i) = R.length := by
    have := congrArg List.length hR
    simp only [List.length_drop] at this; omega
  refine sem_of_awp (Γ := tbl tabDI) tabDI_ok _ _ _ ?_
  by_cases hiq : i = q.length
  case pos =>
    subst hiq
    have hk2 : ¬ (0 : Int) < ((q.length - q.length : Nat) : Int) := by omega
    have hd := hI.done hEf
    simp only [go_sem, Int.reduceEq, Int.reduceLT, Int.reduceLE, eq_self, Int.natCast_nonneg, Int.toNat_natCast, hk2, ints_len, hln]
    refine post_res (.inl rfl) [.tmp 8] rfl ?_
    simp only [go_sem]
    refine Le.trans (le_freeze 1 (ag := none) rfl (Nat.zero_le _)) ?_
    have e1 : List.take n (intsD d) = intsD d := List.take_of_length_le (by simp [hln])
    have e2 : distT n l to = d := by rw [hd]; exact List.map_congr_left fun v _ => sd_flip.symm
    simp only [go_sem, e2, e1, ints_len, hln, Nat.le_refl]
    exact le_fin (by simp only [go_sem]) (by simp only [go_sem])
  obtain ⟨x, hx⟩ : ∃ x, q[i]? = some x := ⟨_, List.getElem?_eq_getElem (show i < q.length by omega)⟩
  have hxR : R[off]? = some x := by
    have := congrArg (fun t => t[0]?) hR
    simpa [hx] using this
  have hxq : x ∈ q := List.mem_of_getElem? hx
  have hxn := hI.qn x hxq
  have hxn2 : (x : Int) < n := by omega
  have hk2 : (0 : Int) < ((q.length - i : Nat) : Int) := by omega
  have hk3 : 0 < q.length - i := by omega
  have hnx := nats_nth hxR
  have hoR : off < R.length := by omega
  have hent := rows_nth (idxL_get (f := PEdge.t) (l := l) hxn)
  simp only [go_sem, Int.reduceEq, Int.reduceLT, Int.reduceLE, eq_self, Int.natCast_nonneg, Int.toNat_natCast, hk2, hk3, hoR, nats_len, hnx, hxn2, hxn, hML, hent, hRl]
  refine sem_loop (fun p : List Int × List Nat × Nat × List Nat × Nat => ⟨slotsOf 64 [(0, .dat (.int .i64 n)), (1, .dat (.sl (some 4) (edgesD l))), (2, .dat (.sl none ((idxL PEdge.t n l).map natsR))), (3, .dat (.int .i64 to)), (9, .sl 1 0 n), (10, .sl 2 p.2.2.2.2 (p.2.1.length - i)),
      (32, .dat (.sl none (natsD (idxs PEdge.t 0 l x)))), (33, .dat (.int .i64 (idxs PEdge.t 0 l x).length)), (34, .dat (.int .i64 p.2.2.1))], [.dead, .row none (intsD p.1), .row none (natsD p.2.2.2.1)], 0, []⟩)
    (fun p => p.2.2.1 ≤ (idxs PEdge.t 0 l x).length ∧ BMid (flip (eF l)) n to p.1 p.2.1 i x (srcs l ((idxs PEdge.t 0 l x).take p.2.2.1)) ∧ p.2.2.2.1.drop p.2.2.2.2 = p.2.1.drop i ∧ p.2.2.2.2 ≤ p.2.2.2.1.length) (fun p => (idxs PEdge.t 0 l x).length - p.2.2.1) (d, q, 0, R, off) ⟨Nat.zero_le _, hI.start hx, hR, ho⟩ ?_ ?_
  · exact le_slots' (by simp only [go_sem, Int.natCast_zero])
  clear hI hql hil hln hiq hk2 hk3 hnx hx hxq hR ho hRl hxR hoR d q R off
  rintro ⟨d, q, j, R, off⟩ ⟨hj, hM, hR, ho⟩
  simp only at hj hM hR ho
  have hI := hM.inv
  have hql := hI.qle
  have hil := (List.getElem?_eq_some_iff.1 hM.atx).1
  have hln := hI.ln
  have hRl : off + (q.length - i) = R.length := by
    have := congrArg List.length hR
    simp only [List.length_drop] at this; omega
  have hxR : R[off]? = some x := by
    have := congrArg (fun t => t[0]?) hR
    simpa [hM.atx] using this
  have hk3 : 0 < q.length - i := by omega
  refine sem_of_awp (Γ := tbl tabDI) tabDI_ok _ _ _ ?_
  cases hd : (idxs PEdge.t 0 l x).drop j with
  | nil =>
    have := end_of_drop hd hj
    have hk2 : ¬ (j : Int) < (idxs PEdge.t 0 l x).length := by omega
    have h1 : (1 : Int) ≤ ((q.length - i : Nat) : Int) := by omega
    rw [this, List.take_length] at hM
    simp only [go_sem, Int.reduceEq, Int.reduceLT, Int.reduceLE, eq_self, Int.natCast_nonneg, Int.toNat_natCast, hk2, h1, hk3, hRl, nats_len]
    have h2 : (((q.length - i : Nat) : Int) - 1).toNat = q.length - (i + 1) := by omega
    refine ⟨Int.le_refl _, (d, q, i + 1, R, off + 1), ⟨hM.next (fun w hw => srcs_all hw), ?_, by simp only; omega⟩, by simp only; omega, ?_⟩
    · have := congrArg (List.drop 1) hR
      simpa [List.drop_drop, Nat.add_comm 1] using this
    · rw [h2]
      exact le_slots' (by simp only [go_sem])
  | cons m r =>
    have hIl := idxs_len PEdge.t 0 l x
    have hlt := lt_of_drop hd
    have hk2 : (j : Int) < (idxs PEdge.t 0 l x).length := by omega
    have hk0 : (0 : Int) ≤ j := Int.natCast_nonneg j
    have hn := nth_of_drop (f := natD) hd
    obtain ⟨m', e, he, hex, hm⟩ := mem_idxs.1 (mem_of_drop hd)
    obtain rfl : m' = m := by omega
    have hml := (List.getElem?_eq_some_iff.1 he).1
    have hml2 : (m' : Int) < l.length := by omega
    have hne : D.nth (edgesD l) m' = edgeD e := by simp [D.nth, he]
    obtain ⟨hs1, hs2⟩ := hg.src e (List.mem_of_getElem? he)
    have hsn : (e.s : Int) < n := by omega
    have hsl : e.s < d.length := by omega
    have hget := ints_nth (-1) hsl
    have hsr : srcs l ((idxs PEdge.t 0 l x).take (j + 1)) = srcs l ((idxs PEdge.t 0 l x).take j) ++ [e.s] := by
      rw [take_of_drop hd]; simp [srcs, List.getD_eq_getElem?_getD, he]
    have hxl : x < d.length := by omega
    have hgx := ints_nth (-1) hxl
    have hxq : x ∈ q := List.mem_of_getElem? hM.atx
    have hxub := hI.ub x hxq
    have hxlo := hI.neg x hxn
    have hnx := nats_nth hxR
    have hoR : off < R.length := by omega
    by_cases hneg : d.getD e.s (-1) < 0
    · have hA := hM.add hs2 (mem_flip.2 (List.mem_map.2 ⟨e, List.mem_of_getElem? he, by rw [hex]⟩)) hneg
      rw [← hsr] at hA
      simp only [go_sem, Int.reduceEq, Int.reduceLT, Int.reduceLE, eq_self, Int.natCast_nonneg, Int.toNat_natCast, hk2, hk0, hn, hlt, nats_len, hml, hml2, hne, edges_len, edgeD, hs1, hsn, hs2, hsl, ints_len, hln, hget, hneg, hk3, hoR, hnx, hxn2, hxn, hgx, ints_upd, hRl]
      have hA2 : List.take (q.length - i) (List.drop off (natsD R)) ++ [D.int .i64 (e.s : Int)] = natsD (q.drop i ++ [e.s]) := by
        rw [← List.map_drop, hR, List.take_of_length_le (by simp)]; simp
      have hA3 : (q ++ [e.s]).length - i = q.length - i + 1 := by rw [List.length_append, List.length_singleton]; omega
      refine ⟨by omega, inR_i64.2 (by omega), by omega, by omega, inR_i64.2 (by omega), (d.set e.s (d.getD x (-1) + 1), q ++ [e.s], j + 1, q.drop i ++ [e.s], 0), ⟨by simp only; omega, hA, ?_, Nat.zero_le _⟩, by simp only; omega, ?_⟩
      · simp only [List.drop_zero]
        rw [List.drop_append_of_le_length (by omega)]
      · simp only [hA2, hA3]
        refine le_end (own := [_, _, _]) (ex := [_]) (Nat.zero_le _) ?_ ?_ ?_
        · simp only [go_sem, Int.natCast_add, Int.cast_ofNat_Int]
        · simp only [go_sem]
        · simp only [go_sem, Obj.under, AV.unders, AV.under]
    · have hS := hM.skip hs2 (by omega)
      rw [← hsr] at hS
      simp only [go_sem, Int.reduceEq, Int.reduceLT, Int.reduceLE, eq_self, Int.natCast_nonneg, Int.toNat_natCast, hk2, hk0, hn, hlt, nats_len, hml, hml2, hne, edges_len, edgeD, hs1, hsn, hs2, hsl, ints_len, hln, hget, hneg]
      refine ⟨inR_i64.2 (by omega), (d, q, j + 1, R, off), ⟨by simp only; omega, hS, hR, ho⟩, by simp only; omega, ?_⟩
      exact le_slots' (by simp only [go_sem, Int.natCast_add, Int.cast_ofNat_Int])
end Go.AM

namespace Go.AM
open Go Go.Proofs

def sOf (l : List PEdge) (i : Nat) : Nat := (l.getD i default).s
def tOf (l : List PEdge) (i : Nat) : Nat := (l.getD i default).t
theorem sOf_get {l : List PEdge} {i : Nat} {e : PEdge} (h : l[i]? = some e) : sOf l i = e.s := by simp [sOf, List.getD_eq_getElem?_getD, h]
theorem tOf_get {l : List PEdge} {i : Nat} {e : PEdge} (h : l[i]? = some e) : tOf l i = e.t := by simp [tOf, List.getD_eq_getElem?_getD, h]
theorem eF_get {l : List PEdge} {i : Nat} (h : i < l.length) : (sOf l i, tOf l i) ∈ eF l := by
  have hg := List.getElem?_eq_getElem h
  rw [sOf_get hg, tOf_get hg]
  exact List.mem_map.2 ⟨_, List.getElem_mem h, rfl⟩
theorem eF_ex {l : List PEdge} {a b : Nat} (h : (a, b) ∈ eF l) : ∃ i, i < l.length ∧ sOf l i = a ∧ tOf l i = b := by
  obtain ⟨e, he, h2⟩ := List.mem_map.1 h
  obtain ⟨i, hi⟩ := List.mem_iff_getElem?.1 he
  cases h2
  exact ⟨i, (List.getElem?_eq_some_iff.1 hi).1, sOf_get hi, tOf_get hi⟩
noncomputable def near (l : List PEdge) (to v : Nat) (i : Nat) : Bool := decide (sd (eF l) (tOf l i) to = sd (eF l) v to - 1)
noncomputable def nxt (l : List PEdge) (to v : Nat) : Option Nat := (idxs PEdge.s 0 l v).find? (near l to v)
theorem nxt_is {l : List PEdge} {to v i : Nat} (h : nxt l to v = some i) : i < l.length ∧ sOf l i = v ∧ sd (eF l) (tOf l i) to = sd (eF l) v to - 1 := by
  have h1 := List.mem_of_find?_eq_some h
  have h2 := List.find?_some h
  obtain ⟨j, e, g1, g2, g3⟩ := mem_idxs.1 h1
  obtain rfl : i = j := by omega
  refine ⟨(List.getElem?_eq_some_iff.1 g1).1, by rw [sOf_get g1, g2], ?_⟩
  simpa [near] using h2
theorem nxt_some {l : List PEdge} {to v : Nat} (h : 0 < sd (eF l) v to) : ∃ i, nxt l to v = some i := by
  obtain ⟨b, hb, h2⟩ := sd_step h
  obtain ⟨i, hi, hs, ht⟩ := eF_ex hb
  have hg := List.getElem?_eq_getElem hi
  cases hn : nxt l to v with
  | some i => exact ⟨i, rfl⟩
  | none =>
    have := List.find?_eq_none.1 hn i (mem_idxs.2 ⟨i, _, hg, by rw [← sOf_get hg]; exact hs, by simp⟩)
    simp only [near, ht, h2, decide_true, not_true] at this
noncomputable def pathL (l : List PEdge) (to : Nat) : Nat → Nat → List Nat
  | 0, _ => []
  | k + 1, v => match nxt l to v with
    | some i => i :: pathL l to k (tOf l i)
    | none => []
theorem pathL_cons {l : List PEdge} {to v i k : Nat} (h : nxt l to v = some i) : pathL l to (k + 1) v = i :: pathL l to k (tOf l i) := by simp [pathL, h]
theorem pathL_len {l : List PEdge} {to : Nat} : ∀ {k v : Nat}, sd (eF l) v to = k → (pathL l to k v).length = k
  | 0, _, _ => rfl
  | k + 1, v, h => by
    obtain ⟨i, hi⟩ := nxt_some (l := l) (to := to) (v := v) (by omega)
    rw [pathL_cons hi, List.length_cons, pathL_len (by have := (nxt_is hi).2.2; omega)]
noncomputable def back (l : List PEdge) (i : Nat) : Int := sd (eF l) (tOf l i) (sOf l i)
noncomputable def cycOf (l : List PEdge) (i : Nat) : List Nat := i :: pathL l (sOf l i) (back l i).toNat (tOf l i)
theorem cycOf_len {l : List PEdge} {i : Nat} (h : 0 ≤ back l i) : ((cycOf l i).length : Int) = back l i + 1 := by
  unfold cycOf
  rw [List.length_cons, pathL_len (by unfold back at h ⊢; omega)]
  omega
noncomputable def cycStep (l : List PEdge) (b : Option (List Nat)) (i : Nat) : Option (List Nat) :=
  if back l i < 0 then b else match b with
  | none => some (cycOf l i)
  | some c => if (c.length : Int) ≤ back l i + 1 then some c else some (cycOf l i)
noncomputable def cycL (l : List PEdge) : Nat → Option (List Nat)
  | 0 => none
  | k + 1 => cycStep l (cycL l k) k
theorem cycL_is {l : List PEdge} : ∀ (k : Nat), match cycL l k with
    | none => ∀ i, i < k → back l i < 0
    | some c => ∃ i, i < k ∧ 0 ≤ back l i ∧ c = cycOf l i ∧ ∀ j, j < k → back l j < 0 ∨ back l i ≤ back l j
  | 0 => by simp [cycL]
  | k + 1 => by
    have ih := cycL_is (l := l) k
    simp only [cycL, cycStep]
    by_cases h : back l k < 0
    · rw [if_pos h]
      cases hc : cycL l k with
      | none =>
        rw [hc] at ih
        simp only at ih ⊢
        intro i hi
        by_cases e : i = k
        · subst e; exact h
        · exact ih i (by omega)
      | some c =>
        rw [hc] at ih
        simp only at ih ⊢
        obtain ⟨i, h1, h2, h3, h4⟩ := ih
        refine ⟨i, by omega, h2, h3, fun j hj => ?_⟩
        by_cases e : j = k
        · subst e; exact .inl h
        · exact h4 j (by omega)
    · rw [if_neg h]
      cases hc : cycL l k with
      | none =>
        rw [hc] at ih
        simp only at ih ⊢
        refine ⟨k, by omega, by omega, rfl, fun j hj => ?_⟩
        by_cases e : j = k
        · subst e; exact .inr (Int.le_refl _)
        · exact .inl (ih j (by omega))
      | some c =>
        rw [hc] at ih
        simp only at ih ⊢
        obtain ⟨i, h1, h2, h3, h4⟩ := ih
        have hl := cycOf_len h2
        rw [← h3] at hl
        by_cases g : (c.length : Int) ≤ back l k + 1
        · rw [if_pos g]
          refine ⟨i, by omega, h2, h3, fun j hj => ?_⟩
          by_cases e : j = k
          · subst e; exact .inr (by omega)
          · exact h4 j (by omega)
        · rw [if_neg g]
          refine ⟨k, by omega, by omega, rfl, fun j hj => ?_⟩
          by_cases e : j = k
          · subst e; exact .inr (Int.le_refl _)
          · rcases h4 j (by omega) with g1 | g1
            · exact .inl g1
            · exact .inr (by omega)
noncomputable def cycV (l : List PEdge) : List Nat := (cycL l l.length).getD []
def idxQ (p : Nat → Bool) : Nat → List Nat → Int
  | _, [] => -1
  | k, y :: r => if p y = true then k else idxQ p (k + 1) r
theorem idxP_find {p : Nat → Bool} {i : Nat} : ∀ {k : Nat} {I : List Nat}, I.find? p = some i → ∃ j, idxQ p k I = ((k + j : Nat) : Int) ∧ I[j]? = some i
  | k, [], h => by simp at h
  | k, y :: r, h => by
    rw [List.find?_cons] at h
    by_cases hp : p y = true
    · rw [hp] at h; cases h
      exact ⟨0, by simp [idxQ, hp], rfl⟩
    · have hp2 : p y = false := by simpa using hp
      rw [hp2] at h
      obtain ⟨j, h1, h2⟩ := idxP_find (k := k + 1) h
      exact ⟨j + 1, by simp only [idxQ, hp2, Bool.false_eq_true, if_false, h1]; congr 1; omega, by simpa using h2⟩
end Go.AM

set_option maxRecDepth 8000
set_option maxHeartbeats 1000000
namespace Go.AM
open Go Go.Proofs

theorem GOk.sdlt {n : Nat} {l : List PEdge} (h : GOk n l) {v to : Nat} (hv : v < n) : sd (eF l) v to < n := sd_lt h.eFlt hv
noncomputable abbrev cycO (n : Nat) (l : List PEdge) (to v : Nat) : List Obj := [.box [.dat (.sl none (intsD (distT n l to)))], .box [.dat (.sl (some 4) (edgesD l))], .box [.dat (.int .i64 v)]]
def clR (xs : List AV) (obs : List Obj) (v0 : AV) (obs' ex : List Obj) (mv0 : List Nat) : Prop := ∃ (n : Nat) (l : List PEdge) (to v i : Nat), GOk n l ∧ to < n ∧ v < n ∧ i < l.length ∧
  xs = [.dat (.int .i64 i), .ptr 0 0 0, .ptr 1 0 0, .ptr 2 0 0] ∧ obs = cycO n l to v ∧ v0 = .dat (.bool (near l to v i)) ∧ obs' = obs ∧ ex = [] ∧ mv0 = []
theorem cycle1_ok : OkF Try.prog 66 (lentC clR) := by
  refine okF_lent Try.func66 rfl (by decide) ?_
  rintro xs obs v0 obs' ex mv0 ⟨n, l, to, v, i, hg, hto, hv, hi, rfl, rfl, rfl, rfl, rfl, rfl⟩
  have hn4 := hg.n4
  have hge := List.getElem?_eq_getElem hi
  generalize he : l[i] = e at *
  have hem := List.mem_of_getElem? hge
  obtain ⟨ht1, ht2⟩ := hg.dst e hem
  have hne : D.nth (edgesD l) i = edgeD e := by simp [D.nth, hge]
  have hi2 : (i : Int) < l.length := by omega
  have htn : (e.t : Int) < n := by omega
  have hvn : (v : Int) < n := by omega
  have hdl := distT_len (n := n) (l := l) (to := to)
  have htl : e.t < (distT n l to).length := by omega
  have hvl : v < (distT n l to).length := by omega
  have g1 := ints_nth (l := distT n l to) (-1) htl
  have g2 := ints_nth (l := distT n l to) (-1) hvl
  rw [distT_getD ht2] at g1
  rw [distT_getD hv] at g2
  have b1 := hg.sdlt (to := to) hv
  have b2 := sd_ge (E := eF l) (a := v) (v := to)
  have hnear : near l to v i = decide (sd (eF l) e.t to = sd (eF l) v to - 1) := by unfold near; rw [tOf_get hge]
  refine sem_of_awp (Γ := tbl []) okG_nil _ _ _ ?_
  simp only [go_sem, Int.reduceEq, Int.reduceLT, Int.reduceLE, eq_self, Int.natCast_nonneg, Int.toNat_natCast, Try.ntmps66]
  refine sem_draw (pf := []) (Γ := tbl []) mixed okG_nil pureNo [0, 1, 2, 3, 4, 5, 6, 7, 8, 9, 10, 11, 12, 13, 14] (by kernel_rfl) ?_
  simp only [go_sem, Int.reduceEq, Int.reduceLT, Int.reduceLE, eq_self, Int.natCast_nonneg, Int.toNat_natCast, chainI, hi, hi2, edges_len, hne, edgeD, ht1, htn, ht2, hvn, hv, ints_len, hdl, g1, g2, ← hnear]
  refine ⟨inR_i64.2 (by omega), ?_⟩
  exact post_own (.inl rfl) [5] rfl (by simp only [tmpsOf]; rfl) (fun _ h => h)
def ixR (xs : List AV) (obs : List Obj) (v0 : AV) (obs' ex : List Obj) (mv0 : List Nat) : Prop := ∃ (n : Nat) (l : List PEdge) (to v : Nat) (I : List Nat), GOk n l ∧ to < n ∧ v < n ∧ (∀ i ∈ I, i < l.length) ∧ I.length ≤ 10000 ∧
  xs = [.dat (.sl none (natsD I)), .fn 66 [.ptr 0 0 0, .ptr 1 0 0, .ptr 2 0 0]] ∧ obs = cycO n l to v ∧ v0 = .dat (.int .i64 (idxQ (near l to v) 0 I)) ∧ obs' = obs ∧ ex = [] ∧ mv0 = []
abbrev tabIX : List (Nat × Contract) := [(66, pureOf (lentC clR))]
theorem tabIX_ok : OkG Try.prog (tbl tabIX) := okG_cons (okF_pureOf cycle1_ok) okG_nil
theorem indexFunc_ok : OkF Try.prog 65 (lentC ixR) := by
  refine okF_lent Try.func65 rfl (by decide) ?_
  rintro xs obs v0 obs' ex mv0 ⟨n, l, to, v, I, hg, hto, hv, hI, hIl, rfl, rfl, rfl, rfl, rfl, rfl⟩
  generalize hV : idxQ (near l to v) 0 I = V
  refine sem_of_awp (Γ := tbl tabIX) tabIX_ok _ _ _ ?_
  have fin : ∀ s (b c : Int), b = c → s.getD 4 .top = .dat (.int .i64 b) → post Try.prog Try.f65 (.dat (.int .i64 c)) (cycO n l to v ++ []) [] .ret ⟨s, cycO n l to v, 3, []⟩ := fun s b c e h => by
    subst e
    exact post_own (.inl rfl) [4] rfl (by simp only [tmpsOf, h]; rfl) (fun _ h => h)
  simp only [go_sem, Int.reduceEq, Int.reduceLT, Int.reduceLE, eq_self, Int.natCast_nonneg, Int.toNat_natCast, Try.ntmps65, nats_len]
  refine sem_loop (fun k : Nat => ⟨slotsOf 19 [(0, .dat (.sl none (natsD I))), (1, .fn 66 [.ptr 0 0 0, .ptr 1 0 0, .ptr 2 0 0]), (7, .dat (.int .i64 I.length)), (8, .dat (.int .i64 k))], cycO n l to v, 3, []⟩)
    (fun k => k ≤ I.length ∧ idxQ (near l to v) k (I.drop k) = V) (fun k => I.length - k) 0 ⟨Nat.zero_le _, hV⟩ ?_ ?_
  · exact le_slots' (by simp only [go_sem, Int.natCast_zero])
  rintro k ⟨hk, hV⟩
  refine sem_of_awp (Γ := tbl tabIX) tabIX_ok _ _ _ ?_
  cases hd : I.drop k with
  | nil =>
    have := end_of_drop hd hk
    have hk2 : ¬ (k : Int) < I.length := by omega
    rw [hd, idxQ] at hV
    simp only [go_sem, Int.reduceEq, Int.reduceLT, Int.reduceLE, eq_self, Int.natCast_nonneg, Int.toNat_natCast, hk2]
    exact fin _ _ _ hV rfl
  | cons m r =>
    have hlt := lt_of_drop hd
    have hk2 : (k : Int) < I.length := by omega
    have hk0 : (0 : Int) ≤ k := Int.natCast_nonneg k
    have hn := nth_of_drop (f := natD) hd
    rw [hd, idxQ] at hV
    simp only [go_sem, Int.reduceEq, Int.reduceLT, Int.reduceLE, eq_self, Int.natCast_nonneg, Int.toNat_natCast, hk2, hk0, hn, hlt, nats_len]
    have hm := hI m (mem_of_drop hd)
    refine callw_caps (call_lentP clR (by simp) [0, 1, 2] ⟨n, l, to, v, m, hg, hto, hv, hm, rfl, rfl, rfl, rfl, rfl, rfl⟩ (by decide) (by simp) rfl rfl (by simp only [go_sem]) (by simp only [go_sem, List.mem_cons, List.not_mem_nil, or_false, forall_eq_or_imp, forall_eq, Obj.under, AV.unders, AV.under]) (fun j hj => by
      match j, hj with
      | 0, _ => rfl
      | 1, _ => rfl
      | 2, _ => rfl) ?_)
    cases hp : near l to v m with
    | true =>
      rw [hp, if_pos rfl] at hV
      simp only [go_sem, Int.reduceEq, Int.reduceLT, Int.reduceLE, eq_self, Int.natCast_nonneg, Int.toNat_natCast, hp]
      exact fin _ _ _ hV rfl
    | false =>
      rw [hp, if_neg (by decide)] at hV
      simp only [go_sem, Int.reduceEq, Int.reduceLT, Int.reduceLE, eq_self, Int.natCast_nonneg, Int.toNat_natCast, hp]
      refine ⟨inR_i64.2 (by omega), k + 1, ⟨by omega, by rw [drop_cons hd]; exact hV⟩, by omega, ?_⟩
      exact le_slots' (by simp only [go_sem, Int.natCast_add, Int.cast_ofNat_Int])
end Go.AM

set_option maxRecDepth 8000
set_option maxHeartbeats 2000000
namespace Go.AM
open Go Go.Proofs

noncomputable def cycleVv (n : Int) (l : List PEdge) : AV := if gE n l ≠ 0 then .tup [.dat (.sl none []), .dat (.int .i64 (gE n l))] else .tup [.dat (.sl none (natsD (cycV l))), .dat (.int .i64 0)]
def cycleR (ds : List D) (v : AV) : Prop := ∃ (n : Int) (l : List PEdge), ds = [.int .i64 n, .sl (some 4) (edgesD l)] ∧ l.length ≤ 10000 ∧ v = cycleVv n l
abbrev tabCY : List (Nat × Contract) := [(52, dataC gchkR), (63, dataC leavR), (64, dataC distR), (65, pureOf (lentC ixR))]
theorem tabCY_ok : OkG Try.prog (tbl tabCY) := okG_cons gcheck_ok (okG_cons leaving_ok (okG_cons distances_ok (okG_cons (okF_pureOf indexFunc_ok) okG_nil)))
theorem pureCY : PureFns (tbl tabCY) [52, 63, 64, 65] := by
  refine pure_of2 fun g C hm hg => ?_
  simp only [List.mem_cons, List.not_mem_nil, or_false, Prod.mk.injEq] at hm
  rcases hm with ⟨_, rfl⟩ | ⟨_, rfl⟩ | ⟨_, rfl⟩ | ⟨_, rfl⟩
  · exact .inl ⟨_, rfl⟩
  · exact .inl ⟨_, rfl⟩
  · exact .inl ⟨_, rfl⟩
  · exact .inr ⟨_, rfl⟩
abbrev edgO (l : List PEdge) : Obj := .box [.dat (.sl (some 4) (edgesD l))]
abbrev edge1O (e : PEdge) : Obj := .box [.dat (.int .i64 (e.s : Int)), .dat (.int .i64 (e.t : Int)), .dat (.int .i64 e.cls), .dat (.int .i64 e.step)]
noncomputable def cyHead (n : Nat) (l : List PEdge) (k : Nat) : Option (List Nat) → S
  | none => ⟨slotsOf 114 [(0, .dat (.int .i64 n)), (3, .ptr 0 0 0), (7, .dat (.sl none ((idxL PEdge.s n l).map natsR))), (8, .dat (.sl none ((idxL PEdge.t n l).map natsR))), (11, .nils), (48, .dat (.sl (some 4) (edgesD l))), (49, .dat (.int .i64 l.length)), (50, .dat (.int .i64 k))], [edgO l, .dead], 0, []⟩
  | some c => ⟨slotsOf 114 [(0, .dat (.int .i64 n)), (3, .ptr 0 0 0), (7, .dat (.sl none ((idxL PEdge.s n l).map natsR))), (8, .dat (.sl none ((idxL PEdge.t n l).map natsR))), (11, .sl 1 0 c.length), (48, .dat (.sl (some 4) (edgesD l))), (49, .dat (.int .i64 l.length)), (50, .dat (.int .i64 k))], [edgO l, .row none (natsD c)], 0, []⟩
theorem cycle_ok : OkF Try.prog 40 (dataC cycleR) := by
  refine okF_data Try.func40 rfl (by decide) ?_
  rintro ds v ⟨n, l, rfl, hll, rfl⟩
  refine sem_of_awpK [5] (Γ := tbl tabCY) tabCY_ok _ _ _ ?_
  simp only [go_sem, Int.reduceEq, Int.reduceLT, Int.reduceLE, eq_self, Int.natCast_nonneg, Int.toNat_natCast, Try.ntmps40]
  refine call_data gchkR (by simp) [.int .i64 n, .sl (some 4) (edgesD l)] _ rfl ⟨n, l, rfl, hll, rfl⟩ (.inl rfl) ?_
  by_cases h : gE n l = 0
  case neg =>
    unfold cycleVv
    rw [if_pos h]
    simp only [go_sem, Int.reduceEq, Int.reduceLT, Int.reduceLE, eq_self, Int.natCast_nonneg, Int.toNat_natCast, h]
    refine post_res (.inl rfl) [.tmp 4, .tmp 5] rfl ?_
    simp only [go_sem]
    exact le_fin (by simp only [go_sem]) (by simp only [go_sem])
  unfold cycleVv
  rw [if_neg (by rw [h]; decide)]
  obtain ⟨n, rfl, hg⟩ := gOk_of h hll
  have hn4 := hg.n4
  generalize hV : cycV l = V
  simp only [go_sem, Int.reduceEq, Int.reduceLT, Int.reduceLE, eq_self, Int.natCast_nonneg, Int.toNat_natCast, h]
  refine sem_drawT (ob := 0) (ko := 0) (pf := [63]) (mf := []) (ms := []) (ks := []) mixed tabCY_ok (fun g args own v own' mv hg => pureCY g args own v own' mv (by simp at hg; simp [hg])) noMk
    (.one 0 (.one 1 (.one 3 (.alt 2 (.one 5 (.one 4 (.one 6 .fin))) (.alt 4 (.one 2 (.one 5 (.one 6 .fin))) .stop))))) (by kernel_rfl) ?_
  simp only [go_sem, Int.reduceEq, Int.reduceLT, Int.reduceLE, eq_self, Int.natCast_nonneg, Int.toNat_natCast, and_true]
  apply both_of
  · intro hQ
    refine call_data leavR (by simp) [.int .i64 n, .sl (some 4) (edgesD l)] _ rfl ⟨n, l, rfl, hg, rfl⟩ (.inl rfl) ?_
    simp only [go_sem, Int.reduceEq, Int.reduceLT, Int.reduceLE, eq_self, Int.natCast_nonneg, Int.toNat_natCast]
    exact ⟨Int.le_refl _, by omega, hQ⟩
  · intro hQ
    refine ⟨Int.le_refl _, by omega, ?_⟩
    refine call_data leavR (by simp) [.int .i64 n, .sl (some 4) (edgesD l)] _ rfl ⟨n, l, rfl, hg, rfl⟩ (.inl rfl) ?_
    simp only [go_sem, Int.reduceEq, Int.reduceLT, Int.reduceLE, eq_self, Int.natCast_nonneg, Int.toNat_natCast]
    exact hQ
  refine sem_le (le_nilsF 1 none n rfl (Nat.zero_le _)) ?_
  have hpre : ∀ M, (List.set [edgO l, Obj.vec (List.replicate n AV.nils)] 1 (Obj.vec M)) ++ famO none (List.replicate n []) = edgO l :: .vec M :: famO none (List.replicate n []) := fun M => rfl
  rw [hpre]
  refine sem_of_awp (Γ := tbl tabCY) tabCY_ok _ _ _ ?_
  simp only [go_sem, Int.reduceEq, Int.reduceLT, Int.reduceLE, eq_self, Int.natCast_nonneg, Int.toNat_natCast, edges_len]
  refine sem_loop (fun k : Nat => ⟨slotsOf 114 [(0, .dat (.int .i64 n)), (3, .ptr 0 0 0), (7, .dat (.sl none ((idxL PEdge.s n l).map natsR))), (8, .sl 1 0 n), (28, .dat (.sl (some 4) (edgesD l))), (29, .dat (.int .i64 l.length)), (30, .dat (.int .i64 k))],
      edgO l :: .vec (famR 2 (rowsN (idxL PEdge.t n (l.take k)))) :: famO none (rowsN (idxL PEdge.t n (l.take k))), 0, []⟩)
    (fun k => k ≤ l.length) (fun k => l.length - k) 0 (Nat.zero_le _) ?_ ?_
  · rw [List.take_zero, idxL_nil]
    simp only [rowsN, List.map_replicate, natsD, List.map_nil, List.length_cons, List.length_nil]
    exact le_slots' (by simp only [go_sem, Int.natCast_zero])
  rintro k hk
  cases hd : l.drop k with
  | cons e r =>
    have hlt := lt_of_drop hd
    have hk2 : (k : Int) < l.length := by omega
    have hk0 : (0 : Int) ≤ k := Int.natCast_nonneg k
    have hn := nth_of_drop (f := edgeD) hd
    have hem := mem_of_drop hd
    obtain ⟨hs1, hs2⟩ := hg.dst e hem
    have hsk : (e.t : Int) < n := by omega
    have hsn := idxL_snoc (f := PEdge.t) (n := n) (l := l.take k) (e := e)
    rw [← take_of_drop hd, List.length_take, Nat.min_eq_left (by omega)] at hsn
    have hrow := rowsN_getD (M := idxL PEdge.t n (l.take k)) (i := e.t)
    rw [idxL_getD hs2] at hrow
    have hlen := idxs_len PEdge.t 0 (l.take k) e.t
    rw [List.length_take] at hlen
    have hM : (rowsN (idxL PEdge.t n (l.take k))).length = n := by rw [rowsN_len, idxL_len]
    have hMl : e.t < (rowsN (idxL PEdge.t n (l.take k))).length := by rw [hM]; exact hs2
    have hR := famR_at (b := 2) hMl
    rw [hrow] at hR
    have hO := famO_get0 (ag := none) hMl
    rw [hrow] at hO
    have hK := famR_killA (b := 2) hMl
    have hS := fun l' => famO_setA (ag := none) (l := l') hMl
    have hFl := famR_length 2 (rowsN (idxL PEdge.t n (l.take k)))
    rw [hM] at hFl
    refine sem_of_awp (Γ := tbl tabCY) tabCY_ok _ _ _ ?_
    have hne : ¬ (famO none (rowsN (idxL PEdge.t n (l.take k)))).length = e.t := by rw [famO_length, hM]; omega
    have hne0 : ¬ 0 = e.t + 2 := by omega
    have hne1 : ¬ 1 = e.t + 2 := by omega
    simp only [go_sem, Int.reduceEq, Int.reduceLT, Int.reduceLE, eq_self, Int.natCast_nonneg, Int.toNat_natCast, hk2, hk0, hn, hlt, edges_len, edgeD, hs1, getA0, setA0]
    refine sem_drawK (ko := e.t + 2) (pf := []) (mf := []) (ms := [0, 1, 2, 11, 10]) mixed tabCY_ok (fun g _ _ _ _ _ h => by cases h) noMk [0, 1, 2, 11, 3, 4, 5, 6, 7, 8, 9, 10, 12] (by kernel_rfl) ?_
    simp only [go_sem, Int.reduceEq, Int.reduceLT, Int.reduceLE, eq_self, Int.natCast_nonneg, Int.toNat_natCast, hR, hFl, hO, hK, hS, hne, hne0, hne1, getA0, getA1, setA0, lenA1, hsk, hs2, famO_getP hMl, famO_setP hMl, hrow, famO_kill, famO_killP, List.append_assoc, List.cons_append, List.nil_append, List.set_set, nats_take, nats_len, nats_snoc, if_false]
    refine ⟨by omega, by omega, inR_i64.2 (by omega), k + 1, by omega, by omega, ?_⟩
    rw [famR_setA (l := natsD (idxs PEdge.t 0 (l.take k) e.t ++ [k])) (by simp), rowsN_set, ← hsn]
    refine le_endF (pre := [_, _]) (Nat.zero_le _) ?_ ?_ ?_
    · simp only [go_sem, Int.natCast_add, Int.cast_ofNat_Int]
    · simp only [go_sem]
    · exact ⟨⟨trivial, trivial⟩, famR_under _ _ _ (Nat.le_refl _), trivial⟩
  | nil =>
  have := end_of_drop hd hk
  have hk2 : ¬ (k : Int) < l.length := by omega
  subst this
  rw [List.take_length]
  have hrl : ((idxL PEdge.t n l).map natsR).length = n := by simp [idxL_len]
  have hrt : List.take n ((idxL PEdge.t n l).map natsR) = (idxL PEdge.t n l).map natsR := List.take_of_length_le (by rw [hrl]; exact Nat.le_refl _)
  refine sem_le (le_famEnd (pre := [edgO l, .vec (famR 2 (rowsN (idxL PEdge.t n l)))]) (s' := slotsOf 114 [(0, .dat (.int .i64 n)), (3, .ptr 0 0 0), (7, .dat (.sl none ((idxL PEdge.s n l).map natsR))), (8, .dat (.sl none ((idxL PEdge.t n l).map natsR))), (29, .dat (.int .i64 l.length)), (30, .dat (.int .i64 l.length))]) (pre' := [edgO l, .dead]) 1 rfl (Nat.zero_le _) ?_ ?_ ?_ ?_) ?_
  · simp only [List.map_cons, List.map_nil, frzFo, frzFs, frzF_dat, AV.frzs, AV.frz, Obj.frz]; rfl
  · rw [rowsN_sl]
    simp only [go_sem, frzFs, frzF_dat, frzF_top, frzF_nils, frzF_sl, frzF_ptr, AV.frzs, AV.frz, Nat.lt_irrefl, Nat.reduceLT, Nat.zero_lt_one, true_or, List.drop_zero, hrl, hrt, Nat.zero_add, Nat.le_refl, if_true]
  · simp only [go_sem]
  · simp only [go_sem, Obj.under, AV.unders, AV.under]
  refine sem_of_awp (Γ := tbl tabCY) tabCY_ok _ _ _ ?_
  simp only [go_sem, Int.reduceEq, Int.reduceLT, Int.reduceLE, eq_self, Int.natCast_nonneg, Int.toNat_natCast, hk2, edges_len]
  refine sem_loop (fun k : Nat => cyHead n l k (cycL l k)) (fun k => k ≤ l.length) (fun k => l.length - k) 0 (Nat.zero_le _) ?_ ?_
  · exact le_slots' (by simp only [go_sem, Int.natCast_zero])
  rintro k hk
  have hcyc := cycL_is (l := l) k
  cases hd : l.drop k with
  | nil =>
    have := end_of_drop hd hk
    subst this
    have hk2 : ¬ (l.length : Int) < l.length := by omega
    unfold cycV at hV
    cases hc : cycL l l.length with
    | none =>
      rw [hc] at hV
      simp only [Option.getD_none] at hV
      subst hV
      simp only [cyHead]
      refine sem_of_awp (Γ := tbl tabCY) tabCY_ok _ _ _ ?_
      simp only [go_sem, Int.reduceEq, Int.reduceLT, Int.reduceLE, eq_self, Int.natCast_nonneg, Int.toNat_natCast, hk2]
      refine post_res (.inl rfl) [.tmp 4, .tmp 5] rfl ?_
      simp only [go_sem]
      exact le_fin (by simp only [go_sem]) (by simp only [go_sem])
    | some c =>
      rw [hc] at hV
      simp only [Option.getD_some] at hV
      subst hV
      simp only [cyHead]
      refine sem_of_awp (Γ := tbl tabCY) tabCY_ok _ _ _ ?_
      simp only [go_sem, Int.reduceEq, Int.reduceLT, Int.reduceLE, eq_self, Int.natCast_nonneg, Int.toNat_natCast, hk2]
      refine post_res (.inl rfl) [.tmp 4, .tmp 5] rfl ?_
      simp only [go_sem]
      refine Le.trans (le_freeze 1 (ag := none) rfl (Nat.zero_le _)) ?_
      simp only [go_sem, nats_take, nats_len, Nat.le_refl]
      exact le_fin (by simp only [go_sem]) (by simp only [go_sem])
  | cons e r =>
  have hlt := lt_of_drop hd
  have hk2 : (k : Int) < l.length := by omega
  have hk0 : (0 : Int) ≤ k := Int.natCast_nonneg k
  have hn := nth_of_drop (f := edgeD) hd
  have hem := mem_of_drop hd
  have hget := get_of_drop hd
  obtain ⟨hs1, hs2⟩ := hg.src e hem
  obtain ⟨ht1, ht2⟩ := hg.dst e hem
  have hsn : (e.s : Int) < n := by omega
  have htn : (e.t : Int) < n := by omega
  have hdl := distT_len (n := n) (l := l) (to := e.s)
  have htl : e.t < (distT n l e.s).length := by omega
  have hB : back l k = sd (eF l) e.t e.s := by unfold back; rw [sOf_get hget, tOf_get hget]
  have gB := ints_nth (l := distT n l e.s) (-1) htl
  rw [distT_getD ht2, ← hB] at gB
  have hBlt : back l k < n := by rw [hB]; exact hg.sdlt ht2
  have hBge : -1 ≤ back l k := by rw [hB]; exact sd_ge
  have hstep : cycL l (k + 1) = cycStep l (cycL l k) k := rfl
  unfold cycStep at hstep
  have callD : ∀ own K, K (.dat (.sl none (intsD (distT n l e.s)))) own [] → callw (tbl tabCY) (.fn 64 []) [.dat (.int .i64 n), .dat (.sl (some 4) (edgesD l)), .dat (.sl none ((idxL PEdge.t n l).map natsR)), .dat (.int .i64 (e.s : Int))] own K :=
    fun own K hK => call_data distR (by simp) [.int .i64 n, .sl (some 4) (edgesD l), .sl none ((idxL PEdge.t n l).map natsR), .int .i64 (e.s : Int)] _ rfl ⟨n, l, e.s, rfl, hg, hs2, rfl⟩ (.inl rfl) hK
  have close : ∀ σ, Le σ (cyHead n l (k + 1) (cycL l (k + 1))) → ∃ x, x ≤ l.length ∧ l.length - x < l.length - k ∧ Le σ (cyHead n l x (cycL l x)) := fun σ hσ => ⟨k + 1, by omega, by omega, hσ⟩
  refine sem_of_awpK [16] (Γ := tbl tabCY) tabCY_ok _ _ _ ?_
  apply join_reg (P := Try.prog) (M := fun σ => 0 ≤ back l k ∧ cycL l (k + 1) = some (cycOf l k) ∧ Le σ ⟨slotsOf 114 [(0, .dat (.int .i64 n)), (3, .ptr 0 0 0), (7, .dat (.sl none ((idxL PEdge.s n l).map natsR))), (8, .dat (.sl none ((idxL PEdge.t n l).map natsR))), (48, .dat (.sl (some 4) (edgesD l))), (49, .dat (.int .i64 l.length)), (50, .dat (.int .i64 k)), (12, .dat (.int .i64 k)), (13, .ptr 2 0 0), (14, .ptr 3 0 0)],
    [edgO l, .dead, edge1O e, .box [.dat (.sl none (intsD (distT n l e.s)))]], 0, []⟩)
  case front =>
    intro tail
    cases hc : cycL l k with
    | none =>
      rw [hc] at hstep
      simp only [cyHead]
      simp only [go_sem, Int.reduceEq, Int.reduceLT, Int.reduceLE, eq_self, Int.natCast_nonneg, Int.toNat_natCast, hk2, hk0, hn, hlt, edges_len, edgeD, hs1, ht1]
      refine callD _ _ ?_
      by_cases hneg : back l k < 0
      · rw [if_pos hneg] at hstep
        simp only [go_sem, Int.reduceEq, Int.reduceLT, Int.reduceLE, eq_self, Int.natCast_nonneg, Int.toNat_natCast, hs1, ht1, hneg, htn, ht2, ints_len, hdl, gB]
        refine ⟨inR_i64.2 (by omega), close _ ?_⟩
        rw [hstep]
        refine le_end (own := [_, _]) (ex := [_, _]) (Nat.zero_le _) ?_ ?_ ?_
        · simp only [go_sem, Int.natCast_add, Int.cast_ofNat_Int]
        · simp only [go_sem]
        · simp only [go_sem, Obj.under, AV.unders, AV.under]
      · rw [if_neg hneg] at hstep
        simp only [go_sem, Int.reduceEq, Int.reduceLT, Int.reduceLE, eq_self, Int.natCast_nonneg, Int.toNat_natCast, hs1, ht1, hneg, htn, ht2, ints_len, hdl, gB]
        refine tail _ ⟨by omega, hstep, ?_⟩
        exact le_slots' (by simp only [go_sem])
    | some c =>
      rw [hc] at hcyc hstep
      simp only at hcyc hstep
      obtain ⟨c0, _, c1, c2, _⟩ := hcyc
      have hcl := cycOf_len c1
      rw [← c2] at hcl
      have hc0 : 0 < c.length := by omega
      simp only [cyHead]
      simp only [go_sem, Int.reduceEq, Int.reduceLT, Int.reduceLE, eq_self, Int.natCast_nonneg, Int.toNat_natCast, hk2, hk0, hn, hlt, edges_len, edgeD, hs1, ht1]
      refine callD _ _ ?_
      by_cases hneg : back l k < 0
      · rw [if_pos hneg] at hstep
        simp only [go_sem, Int.reduceEq, Int.reduceLT, Int.reduceLE, eq_self, Int.natCast_nonneg, Int.toNat_natCast, hs1, ht1, hneg, htn, ht2, ints_len, hdl, gB]
        refine ⟨inR_i64.2 (by omega), close _ ?_⟩
        rw [hstep]
        refine le_end (own := [_, _]) (ex := [_, _]) (Nat.zero_le _) ?_ ?_ ?_
        · simp only [go_sem, Int.natCast_add, Int.cast_ofNat_Int]
        · simp only [go_sem]
        · simp only [go_sem, Obj.under, AV.unders, AV.under]
      rw [if_neg hneg] at hstep
      by_cases hle : (c.length : Int) ≤ back l k + 1
      · rw [if_pos hle] at hstep
        simp only [go_sem, Int.reduceEq, Int.reduceLT, Int.reduceLE, eq_self, Int.natCast_nonneg, Int.toNat_natCast, hs1, ht1, hneg, htn, ht2, ints_len, hdl, gB, hc0, hle]
        refine ⟨inR_i64.2 (by omega), inR_i64.2 (by omega), close _ ?_⟩
        rw [hstep]
        refine le_end (own := [_, _]) (ex := [_, _]) (Nat.zero_le _) ?_ ?_ ?_
        · simp only [go_sem, Int.natCast_add, Int.cast_ofNat_Int]
        · simp only [go_sem]
        · simp only [go_sem, Obj.under, AV.unders, AV.under]
      · rw [if_neg hle] at hstep
        simp only [go_sem, Int.reduceEq, Int.reduceLT, Int.reduceLE, eq_self, Int.natCast_nonneg, Int.toNat_natCast, hs1, ht1, hneg, htn, ht2, ints_len, hdl, gB, hc0, hle]
        refine ⟨inR_i64.2 (by omega), ?_⟩
        refine tail _ ⟨by omega, hstep, Le.trans (le_dead 1) ?_⟩
        exact le_slots' (by simp only [go_sem])
  case tail =>
    rintro σ ⟨hB0, hnext, hσ⟩
    refine sem_le hσ ?_
    clear hσ σ
    refine sem_of_awp (Γ := tbl tabCY) tabCY_ok _ _ _ ?_
    simp only [go_sem, Int.reduceEq, Int.reduceLT, Int.reduceLE, eq_self, Int.natCast_nonneg, Int.toNat_natCast]
    have hcl := cycOf_len hB0
    refine sem_loop (fun p : Nat × List Nat => ⟨slotsOf 114 [(0, .dat (.int .i64 n)), (3, .ptr 0 0 0), (7, .dat (.sl none ((idxL PEdge.s n l).map natsR))), (8, .dat (.sl none ((idxL PEdge.t n l).map natsR))), (48, .dat (.sl (some 4) (edgesD l))), (49, .dat (.int .i64 l.length)), (50, .dat (.int .i64 k)), (12, .dat (.int .i64 k)), (13, .ptr 2 0 0), (14, .ptr 3 0 0), (11, .sl 4 0 p.2.length), (15, .ptr 5 0 0)],
        [edgO l, .dead, edge1O e, .box [.dat (.sl none (intsD (distT n l e.s)))], .row none (natsD p.2), .box [.dat (.int .i64 p.1)]], 0, []⟩)
      (fun p => p.1 < n ∧ 0 ≤ sd (eF l) p.1 e.s ∧ p.2 ++ pathL l e.s (sd (eF l) p.1 e.s).toNat p.1 = cycOf l k) (fun p => (sd (eF l) p.1 e.s).toNat) (e.t, [k]) ⟨ht2, by rw [← hB]; exact hB0, ?_⟩ ?_ ?_
    · unfold cycOf; rw [hB, sOf_get hget, tOf_get hget]; rfl
    · exact le_slots' (by simp only [go_sem])
    rintro ⟨v, acc⟩ ⟨hv, hv0, hacc⟩
    simp only at hv hv0 hacc
    refine sem_of_awp (Γ := tbl tabCY) tabCY_ok _ _ _ ?_
    have hal : acc.length ≤ (cycOf l k).length := by rw [← hacc]; simp
    by_cases hvs : v = e.s
    · subst hvs
      rw [sd_self] at hacc
      have hacc2 : acc = cycOf l k := by rw [← hacc]; simp [pathL]
      subst hacc2
      simp only [go_sem, Int.reduceEq, Int.reduceLT, Int.reduceLE, eq_self, Int.natCast_nonneg, Int.toNat_natCast]
      refine ⟨inR_i64.2 (by omega), close _ ?_⟩
      rw [hnext]
      refine Le.trans (le_swp 1 4 (by decide : (1 : Nat) < 6) (by decide : (4 : Nat) < 6) rfl rfl) ?_
      refine le_end (own := [edgO l, .row none (natsD (cycOf l k))]) (ex := [edge1O e, .box [.dat (.sl none (intsD (distT n l e.s)))], .dead, .box [.dat (.int .i64 (e.s : Int))]]) (Nat.zero_le _) ?_ ?_ ?_
      · simp only [go_sem, swp, ↓reduceIte, Nat.reduceEqDiff, Int.natCast_add, Int.cast_ofNat_Int]
      · simp only [go_sem]
      · simp only [go_sem, Obj.under, AV.unders, AV.under]
    have hvs2 : ¬ (v : Int) = e.s := by omega
    have hpos : 0 < sd (eF l) v e.s := by
      rcases Int.lt_or_eq_of_le hv0 with h | h
      · exact h
      · exact absurd (sd_zero h.symm) hvs
    obtain ⟨i, hi⟩ := nxt_some hpos
    obtain ⟨j, hj1, hj2⟩ := idxP_find (k := 0) hi
    obtain ⟨i1, i2, i3⟩ := nxt_is hi
    have hig := List.getElem?_eq_getElem i1
    have hout := rows_nth (idxL_get (f := PEdge.s) (l := l) hv)
    have hol : ((idxL PEdge.s n l).map natsR).length = n := by simp [idxL_len]
    have hIl := idxs_len PEdge.s 0 l v
    have hv2 : (v : Int) < n := by omega
    have hjl := (List.getElem?_eq_some_iff.1 hj2).1
    have hji := nats_nth hj2
    have hjl2 : (j : Int) < (idxs PEdge.s 0 l v).length := by omega
    rw [Nat.zero_add] at hj1
    simp only [go_sem, Int.reduceEq, Int.reduceLT, Int.reduceLE, eq_self, Int.natCast_nonneg, Int.toNat_natCast, hvs2]
    refine sem_draw (pf := [65]) (Γ := tbl tabCY) mixed tabCY_ok (fun g args own v own' mv hg => pureCY g args own v own' mv (by simp at hg; simp [hg])) [0, 1, 2, 3, 4, 5, 6, 7, 8, 9, 10, 11, 12] (by kernel_rfl) ?_
    simp only [go_sem, Int.reduceEq, Int.reduceLT, Int.reduceLE, eq_self, Int.natCast_nonneg, Int.toNat_natCast, chainI, hv, hv2, hol, hout]
    refine call_lentP ixR (by simp) [3, 0, 5] ⟨n, l, e.s, v, idxs PEdge.s 0 l v, hg, hs2, hv, fun m hm => ?_, by omega, rfl, rfl, rfl, rfl, rfl, rfl⟩ (by decide) (by simp) rfl rfl (by simp only [go_sem]) (by simp only [go_sem, List.mem_cons, List.not_mem_nil, or_false, forall_eq_or_imp, forall_eq, Obj.under, AV.unders, AV.under]) (fun j hj => by
      match j, hj with
      | 0, _ => rfl
      | 1, _ => rfl
      | 2, _ => rfl) ?_
    · obtain ⟨j', e', g1, g2, g3⟩ := mem_idxs.1 hm
      have := (List.getElem?_eq_some_iff.1 g1).1
      omega
    have hii : D.nth (edgesD l) i = edgeD l[i] := by simp [D.nth, hig]
    have hil2 : (i : Int) < l.length := by omega
    have hit := tOf_get hig
    obtain ⟨t1, t2⟩ := hg.dst l[i] (List.getElem_mem i1)
    rw [hj1]
    simp only [go_sem, Int.reduceEq, Int.reduceLT, Int.reduceLE, eq_self, Int.natCast_nonneg, Int.toNat_natCast, chainI, hjl, hjl2, nats_len, hji, nats_take, nats_snoc, i1, hil2, hii, edges_len, edgeD, t1]
    rw [hit] at i3
    refine ⟨by omega, by omega, (l[i].t, acc ++ [i]), ⟨t2, by simp only; omega, ?_⟩, by simp only; omega, ?_⟩
    · rw [← hacc]
      obtain ⟨m, hm⟩ : ∃ m : Nat, (sd (eF l) v e.s).toNat = m + 1 := ⟨(sd (eF l) v e.s).toNat - 1, by omega⟩
      have hm2 : (sd (eF l) l[i].t e.s).toNat = m := by omega
      rw [hm, pathL_cons hi, hit]
      simp only [hm2, List.append_assoc, List.cons_append, List.nil_append]
    · refine Le.trans (le_swp 5 7 (by decide : (5 : Nat) < 8) (by decide : (7 : Nat) < 8) rfl rfl) ?_
      refine le_end (own := [edgO l, .dead, edge1O e, .box [.dat (.sl none (intsD (distT n l e.s)))], .row none (natsD (acc ++ [i])), .box [.dat (.int .i64 (l[i].t : Int))]]) (ex := [.row none [.int .i64 (i : Int)], .box [.dat (.int .i64 (l[i].t : Int))]]) (Nat.zero_le _) ?_ ?_ ?_
      · simp only [go_sem, swp, ↓reduceIte, Nat.reduceEqDiff, Int.natCast_add, Int.cast_ofNat_Int, List.length_append, List.length_cons, List.length_nil, Nat.zero_add]
      · simp only [go_sem]
      · simp only [go_sem, Obj.under, AV.unders, AV.under]
end Go.AM

namespace Go.AM
open Go Go.Proofs

structure IsLev (n : Nat) (l : List PEdge) (f : Nat → Nat) : Prop where
  down : ∀ e ∈ l, f e.t < f e.s
  next : ∀ v, v < n → f v = 0 ∨ ∃ e ∈ l, e.s = v ∧ f v = f e.t + 1
theorem IsLev.le {n : Nat} {l : List PEdge} {f g : Nat → Nat} (hE : ∀ e ∈ l, e.t < n) (hf : IsLev n l f) (hg : ∀ e ∈ l, g e.t < g e.s) : ∀ (k v : Nat), v < n → f v = k → f v ≤ g v := by
  intro k
  induction k with
  | zero => intro v _ h; omega
  | succ k ih =>
    intro v hv h
    rcases hf.next v hv with h0 | ⟨e, he, h1, h2⟩
    · omega
    · have := ih e.t (hE e he) (by omega)
      have := hg e he
      rw [h1] at this
      omega
theorem IsLev.one {n : Nat} {l : List PEdge} {f g : Nat → Nat} (hE : ∀ e ∈ l, e.t < n) (hf : IsLev n l f) (hg : IsLev n l g) {v : Nat} (hv : v < n) : f v = g v :=
  Nat.le_antisymm (hf.le hE hg.down _ v hv rfl) (hg.le hE hf.down _ v hv rfl)
open Classical in
noncomputable def levV (n : Nat) (l : List PEdge) : Option (List Nat) := if h : ∃ f, IsLev n l f then some ((List.range n).map (Classical.choose h)) else none
theorem levV_some {n : Nat} {l : List PEdge} {f : Nat → Nat} (hE : ∀ e ∈ l, e.t < n) (hf : IsLev n l f) : levV n l = some ((List.range n).map f) := by
  have h : ∃ f, IsLev n l f := ⟨f, hf⟩
  unfold levV
  rw [dif_pos h]
  congr 1
  exact List.map_congr_left fun v hv => (Classical.choose_spec h).one hE hf (List.mem_range.1 hv)
theorem levV_none {n : Nat} {l : List PEdge} (h : ¬ ∃ f : Nat → Nat, ∀ e ∈ l, f e.t < f e.s) : levV n l = none := by
  unfold levV
  rw [dif_neg]
  rintro ⟨f, hf⟩
  exact h ⟨f, hf.down⟩
theorem levV_is {n : Nat} {l : List PEdge} {L : List Nat} (h : levV n l = some L) : ∃ f, IsLev n l f ∧ L = (List.range n).map f := by
  unfold levV at h
  split at h
  · rename_i hf
    cases h
    exact ⟨_, Classical.choose_spec hf, rfl⟩
  · cases h

def ins (l : List PEdge) (w : Nat) : List Nat := l.filterMap fun e => if e.t = w then some e.s else none
theorem ins_snoc {l : List PEdge} {e : PEdge} {x : Nat} : ins (l ++ [e]) x = if e.t = x then ins l x ++ [e.s] else ins l x := by
  unfold ins; rw [List.filterMap_append]; by_cases h : e.t = x <;> simp [h]
theorem mem_ins {l : List PEdge} {v w : Nat} : v ∈ ins l w ↔ ∃ e ∈ l, e.s = v ∧ e.t = w := by
  simp only [ins, List.mem_filterMap]
  constructor
  · rintro ⟨e, he, h⟩
    split at h
    · rename_i hx; cases h; exact ⟨e, he, rfl, hx⟩
    · cases h
  · rintro ⟨e, he, rfl, rfl⟩; exact ⟨e, he, by simp⟩
def rest (l : List PEdge) (P : List Nat) (v : Nat) : Nat := l.countP fun e => decide (e.s = v) && !P.contains e.t
theorem rest_add {P : List Nat} {w : Nat} (hw : ¬ w ∈ P) (v : Nat) : ∀ (l : List PEdge), rest l P v = rest l (P ++ [w]) v + (ins l w).count v
  | [] => rfl
  | e :: r => by
    have ih := rest_add hw v r
    unfold rest ins at ih ⊢
    simp only [List.countP_cons, List.filterMap_cons]
    by_cases h1 : e.s = v <;> by_cases h2 : e.t = w
    · have h3 : ¬ e.t ∈ P := by rw [h2]; exact hw
      have h4 : e.t ∈ P ++ [w] := by simp [h2]
      simp only [h1, h2, decide_true, Bool.true_and, List.contains_eq_mem] at ih ⊢
      simp only [h2] at h3 h4
      simp [h3, h4, List.count_cons] at ih ⊢
      omega
    · have h4 : (P ++ [w]).contains e.t = P.contains e.t := by simp [h2]
      simp only [h1, decide_true, Bool.true_and, h4, if_neg h2] at ih ⊢
      omega
    · simp only [h1, decide_false, Bool.false_and, h2, if_true, Bool.false_eq_true, if_false, List.count_cons] at ih ⊢
      simp [h1] at ih ⊢
      omega
    · have h4 : (P ++ [w]).contains e.t = P.contains e.t := by simp [h2]
      simp only [h1, decide_false, Bool.false_and, if_neg h2, Bool.false_eq_true, if_false] at ih ⊢
      omega
theorem rest_pos {l : List PEdge} {P : List Nat} {v : Nat} (h : 0 < rest l P v) : ∃ e ∈ l, e.s = v ∧ ¬ e.t ∈ P := by
  obtain ⟨e, he, h2⟩ := List.countP_pos_iff.1 h
  simp only [Bool.and_eq_true, decide_eq_true_eq, Bool.not_eq_true', List.contains_eq_mem, decide_eq_false_iff_not] at h2
  exact ⟨e, he, h2.1, h2.2⟩
structure KI (n : Nat) (l : List PEdge) (left lev q : List Nat) (P : List Nat) (w : Option Nat) (T : List Nat) : Prop where
  ll : left.length = n
  lv : lev.length = n
  qn : ∀ v ∈ q, v < n
  nd : q.Nodup
  sub : ∀ v ∈ P, v ∈ q
  cnt : ∀ v, v < n → left.getD v 0 = rest l P v + T.count v
  free : ∀ v, v < n → (v ∈ q ↔ left.getD v 0 = 0)
  down : ∀ e ∈ l, e.t ∈ P → (w = some e.t → e.s ∈ T ∨ lev.getD e.t 0 < lev.getD e.s 0) ∧ (w ≠ some e.t → lev.getD e.t 0 < lev.getD e.s 0)
  next : ∀ v, v < n → lev.getD v 0 = 0 ∨ ∃ e ∈ l, e.s = v ∧ e.t ∈ P ∧ lev.getD v 0 = lev.getD e.t 0 + 1
  ub : ∀ v, v < n → lev.getD v 0 ≤ P.length
  uw : ∀ x, w = some x → lev.getD x 0 < P.length

section
variable {n : Nat} {l : List PEdge} {left lev q P T : List Nat} {w : Nat}
theorem KI.qle (h : KI n l left lev q P none []) : q.length ≤ n := nodup_le h.nd h.qn
theorem KI.start (h : KI n l left lev q P none []) (hw : w ∈ q) (hwP : ¬ w ∈ P) : KI n l left lev q (P ++ [w]) (some w) (ins l w) := by
  refine { h with sub := fun v hv => ?_, cnt := fun v hv => ?_, down := fun e he ht => ?_, next := fun v hv => ?_, ub := fun v hv => ?_, uw := fun x hx => ?_ }
  · rcases List.mem_append.1 hv with hv | hv
    · exact h.sub v hv
    · simp at hv; rw [hv]; exact hw
  · rw [h.cnt v hv, rest_add hwP v l]; simp
  · by_cases e1 : e.t = w
    · exact ⟨fun _ => .inl (mem_ins.2 ⟨e, he, rfl, e1⟩), fun hn => absurd (by rw [e1]) hn⟩
    · have hp : e.t ∈ P := by simpa [e1] using ht
      exact ⟨fun hn => absurd (Option.some.inj hn).symm e1, fun _ => ((h.down e he hp).2 (by simp))⟩
  · rcases h.next v hv with h0 | ⟨e, he, h1, h2, h3⟩
    · exact .inl h0
    · exact .inr ⟨e, he, h1, by simp [h2], h3⟩
  · have := h.ub v hv; rw [List.length_append]; omega
  · cases hx; have := h.ub w (h.qn w hw); rw [List.length_append, List.length_singleton]; omega
theorem KI.stop (h : KI n l left lev q P (some w) []) : KI n l left lev q P none [] := by
  refine { h with down := fun e he ht => ⟨fun hn => (by cases hn), fun _ => ?_⟩, uw := fun x hx => by cases hx }
  obtain ⟨h1, h2⟩ := h.down e he ht
  by_cases e1 : w = e.t
  · rcases h1 (by rw [e1]) with h | h
    · cases h
    · exact h
  · exact h2 (by simpa using e1)
theorem KI.step {v : Nat} (h : KI n l left lev q P (some w) (v :: T)) (hv : v < n) (hw : w ∈ P) (hE : ∃ e ∈ l, e.s = v ∧ e.t = w) :
    KI n l (left.set v (left.getD v 0 - 1)) (lev.set v (max (lev.getD v 0) (lev.getD w 0 + 1))) (if left.getD v 0 - 1 = 0 then q ++ [v] else q) P (some w) T := by
  have hcnt := h.cnt v hv
  rw [List.count_cons_self] at hcnt
  have hvq : ¬ v ∈ q := fun hm => by have := (h.free v hv).1 hm; omega
  have hwq : w ∈ q := h.sub w hw
  have hwv : w ≠ v := fun e => hvq (e ▸ hwq)
  have gl : ∀ u, (left.set v (left.getD v 0 - 1)).getD u 0 = if v = u then left.getD v 0 - 1 else left.getD u 0 := fun u => by
    rw [getD_set']
    by_cases e : v = u
    · rw [if_pos ⟨e, by rw [h.ll]; exact hv⟩, if_pos e]
    · rw [if_neg (fun hh => e hh.1), if_neg e]
  have gv : ∀ u, (lev.set v (max (lev.getD v 0) (lev.getD w 0 + 1))).getD u 0 = if v = u then max (lev.getD v 0) (lev.getD w 0 + 1) else lev.getD u 0 := fun u => by
    rw [getD_set']
    by_cases e : v = u
    · rw [if_pos ⟨e, by rw [h.lv]; exact hv⟩, if_pos e]
    · rw [if_neg (fun hh => e hh.1), if_neg e]
  have hP : ∀ u ∈ P, v ≠ u := fun u hu e => hvq (e ▸ h.sub u hu)
  have memq : ∀ u, u ∈ (if left.getD v 0 - 1 = 0 then q ++ [v] else q) ↔ u ∈ q ∨ (u = v ∧ left.getD v 0 - 1 = 0) := fun u => by
    split
    · rename_i h0; simp only [List.mem_append, List.mem_singleton, h0, and_true]
    · rename_i h0
      constructor
      · exact fun hm => .inl hm
      · rintro (hm | ⟨_, hm⟩)
        · exact hm
        · exact absurd hm h0
  constructor
  · simp [h.ll]
  · simp [h.lv]
  · intro u hu
    rcases (memq u).1 hu with hu | ⟨rfl, _⟩
    · exact h.qn u hu
    · exact hv
  · split
    · rw [List.nodup_append]
      exact ⟨h.nd, by simp, fun u hu x hx => by simp at hx; subst hx; exact fun e => hvq (e ▸ hu)⟩
    · exact h.nd
  · intro u hu
    exact (memq u).2 (.inl (h.sub u hu))
  · intro u hu
    rw [gl]
    by_cases e : v = u
    · subst e; rw [if_pos rfl]; omega
    · rw [if_neg e, h.cnt u hu, List.count_cons_of_ne e]
  · intro u hu
    rw [memq, gl]
    by_cases e : v = u
    · subst e; rw [if_pos rfl]; simp [hvq]
    · rw [if_neg e, ← h.free u hu]
      constructor
      · rintro (hm | ⟨hm, _⟩)
        · exact hm
        · exact absurd hm.symm e
      · exact fun hm => .inl hm
  · intro e he ht
    rw [gv, gv, if_neg (hP _ ht)]
    obtain ⟨h1, h2⟩ := h.down e he ht
    refine ⟨fun hw' => ?_, fun hw' => ?_⟩
    · have hw2 : w = e.t := Option.some.inj hw'
      by_cases e1 : v = e.s
      · rw [if_pos e1, ← hw2]; exact .inr (by omega)
      · rw [if_neg e1]
        rcases h1 hw' with hm | hm
        · rcases List.mem_cons.1 hm with hm | hm
          · exact absurd hm.symm e1
          · exact .inl hm
        · exact .inr hm
    · have h3 := h2 hw'
      by_cases e1 : v = e.s
      · rw [if_pos e1]; rw [← e1] at h3; omega
      · rw [if_neg e1]; exact h3
  · intro u hu
    rw [gv]
    by_cases e : v = u
    · subst e
      rw [if_pos rfl]
      by_cases hmx : lev.getD v 0 ≤ lev.getD w 0 + 1
      · obtain ⟨e, he, h1, h2⟩ := hE
        refine .inr ⟨e, he, h1, by rw [h2]; exact hw, ?_⟩
        rw [gv, h2, if_neg (fun hh => hwv hh.symm)]; omega
      · rcases h.next v hv with h0 | ⟨e, he, h1, h2, h3⟩
        · omega
        · refine .inr ⟨e, he, h1, h2, ?_⟩
          rw [gv, if_neg (hP _ h2)]; omega
    · rw [if_neg e]
      rcases h.next u hu with h0 | ⟨e', he, h1, h2, h3⟩
      · exact .inl h0
      · refine .inr ⟨e', he, h1, h2, ?_⟩
        rw [gv, if_neg (hP _ h2)]; exact h3
  · intro u hu
    rw [gv]
    have h1 := h.uw w rfl
    by_cases e : v = u
    · rw [if_pos e]; have := h.ub v hv; omega
    · rw [if_neg e]; exact h.ub u hu
  · intro x hx
    cases hx
    rw [gv, if_neg (fun hh => hwv hh.symm)]; exact h.uw w rfl
theorem KI.all (h : KI n l left lev q q none []) (hq : n ≤ q.length) (hE : ∀ e ∈ l, e.t < n) : levV n l = some lev := by
  have hall : ∀ v, v < n → v ∈ q := fun v hv => by
    by_cases hm : v ∈ q
    · exact hm
    · have := nodup_le (q := v :: q) (n := n) (List.nodup_cons.2 ⟨hm, h.nd⟩) (fun u hu => by rcases List.mem_cons.1 hu with rfl | hu; exact hv; exact h.qn u hu)
      simp at this; omega
  have hl : IsLev n l fun v => lev.getD v 0 := ⟨fun e he => (h.down e he (hall _ (hE e he))).2 (by simp), fun v hv => by
    rcases h.next v hv with h0 | ⟨e, he, h1, _, h3⟩
    · exact .inl h0
    · exact .inr ⟨e, he, h1, h3⟩⟩
  rw [levV_some hE hl]
  congr 1
  refine List.ext_getElem (by simp [h.lv]) fun i h1 h2 => ?_
  simp [List.getD_eq_getElem?_getD, List.getElem?_eq_getElem h2]
theorem KI.stuck (h : KI n l left lev q q none []) (hq : q.length < n) (hE : ∀ e ∈ l, e.t < n) : levV n l = none := by
  refine levV_none ?_
  rintro ⟨f, hf⟩
  have hex : ∃ v, v < n ∧ ¬ v ∈ q := by
    refine Classical.byContradiction fun hne => ?_
    have hsub : List.range n ⊆ q := fun v hv => Classical.byContradiction fun hm => hne ⟨v, List.mem_range.1 hv, hm⟩
    have := List.Nodup.length_le_of_subset List.nodup_range hsub
    simp at this; omega
  have key : ∀ k v, f v = k → v < n → v ∈ q := by
    intro k
    induction k using Nat.strongRecOn with
    | _ k ih =>
      intro v hk hv
      refine Classical.byContradiction fun hm => ?_
      have hpos : 0 < rest l q v := by
        have h1 := h.cnt v hv
        simp only [List.count_nil, Nat.add_zero] at h1
        have h2 : ¬ left.getD v 0 = 0 := fun hh => hm ((h.free v hv).2 hh)
        omega
      obtain ⟨e, he, h1, h2⟩ := rest_pos hpos
      have := hf e he
      rw [h1] at this
      exact h2 (ih (f e.t) (by omega) e.t rfl (hE e he))
  obtain ⟨v, hv, hm⟩ := hex
  exact hm (key _ v rfl hv)
end
end Go.AM

