/- Own work over the model of the kit. -/
import Derived.Test.YtcigeonmhefdhaaGraphA
set_option linter.unusedSimpArgs false
set_option linter.unusedVariables false
namespace Go.AM
open Go Go.Proofs

/- ### the least shortest cycle (plain) -/
def sOf (l : List PEdge) (i : Nat) : Nat := (l.getD i default).s
def tOf (l : List PEdge) (i : Nat) : Nat := (l.getD i default).t
theorem sOf_get {l : List PEdge} {i : Nat} {e : PEdge} (h : l[i]? = some e) : sOf l i = e.s := by simp [sOf, List.getD_eq_getElem?_getD, h]
theorem tOf_get {l : List PEdge} {i : Nat} {e : PEdge} (h : l[i]? = some e) : tOf l i = e.t := by simp [tOf, List.getD_eq_getElem?_getD, h]
theorem eF_get {l : List PEdge} {i : Nat} (h : i < l.length) : (sOf l i, tOf l i) ∈ eF l := by
  have hg := List.getElem?_eq_getElem h
  rw [sOf_get hg, tOf_get hg]
  exact List.mem_map.2 ⟨_, List.getElem_mem h, rfl⟩
theorem eF_ex {l : List PEdge} {a b : Nat} (h : (a, b) ∈ eF l) : ∃ i, i < l.length ∧ sOf l i = a ∧ tOf l i = b := by
  obtain ⟨e, he, h2⟩ := List.mem_map.1 h
  obtain ⟨i, hi⟩ := List.mem_iff_getElem?.1 he
  cases h2
  exact ⟨i, (List.getElem?_eq_some_iff.1 hi).1, sOf_get hi, tOf_get hi⟩
/-- The edge is one that leads nearer to the node. -/
noncomputable def near (l : List PEdge) (to v : Nat) (i : Nat) : Bool := decide (sd (eF l) (tOf l i) to = sd (eF l) v to - 1)
noncomputable def nxt (l : List PEdge) (to v : Nat) : Option Nat := (idxs PEdge.s 0 l v).find? (near l to v)
theorem nxt_is {l : List PEdge} {to v i : Nat} (h : nxt l to v = some i) : i < l.length ∧ sOf l i = v ∧ sd (eF l) (tOf l i) to = sd (eF l) v to - 1 := by
  have h1 := List.mem_of_find?_eq_some h
  have h2 := List.find?_some h
  obtain ⟨j, e, g1, g2, g3⟩ := mem_idxs.1 h1
  obtain rfl : i = j := by omega
  refine ⟨(List.getElem?_eq_some_iff.1 g1).1, by rw [sOf_get g1, g2], ?_⟩
  simpa [near] using h2
theorem nxt_some {l : List PEdge} {to v : Nat} (h : 0 < sd (eF l) v to) : ∃ i, nxt l to v = some i := by
  obtain ⟨b, hb, h2⟩ := sd_step h
  obtain ⟨i, hi, hs, ht⟩ := eF_ex hb
  have hg := List.getElem?_eq_getElem hi
  cases hn : nxt l to v with
  | some i => exact ⟨i, rfl⟩
  | none =>
    have := List.find?_eq_none.1 hn i (mem_idxs.2 ⟨i, _, hg, by rw [← sOf_get hg]; exact hs, by simp⟩)
    simp only [near, ht, h2, decide_true, not_true] at this
noncomputable def pathL (l : List PEdge) (to : Nat) : Nat → Nat → List Nat
  | 0, _ => []
  | k + 1, v => match nxt l to v with
    | some i => i :: pathL l to k (tOf l i)
    | none => []
theorem pathL_cons {l : List PEdge} {to v i k : Nat} (h : nxt l to v = some i) : pathL l to (k + 1) v = i :: pathL l to k (tOf l i) := by simp [pathL, h]
theorem pathL_len {l : List PEdge} {to : Nat} : ∀ {k v : Nat}, sd (eF l) v to = k → (pathL l to k v).length = k
  | 0, _, _ => rfl
  | k + 1, v, h => by
    obtain ⟨i, hi⟩ := nxt_some (l := l) (to := to) (v := v) (by omega)
    rw [pathL_cons hi, List.length_cons, pathL_len (by have := (nxt_is hi).2.2; omega)]
/-- What an edge's cycle has ahead of it. -/
noncomputable def back (l : List PEdge) (i : Nat) : Int := sd (eF l) (tOf l i) (sOf l i)
noncomputable def cycOf (l : List PEdge) (i : Nat) : List Nat := i :: pathL l (sOf l i) (back l i).toNat (tOf l i)
theorem cycOf_len {l : List PEdge} {i : Nat} (h : 0 ≤ back l i) : ((cycOf l i).length : Int) = back l i + 1 := by
  unfold cycOf
  rw [List.length_cons, pathL_len (by unfold back at h ⊢; omega)]
  omega
noncomputable def cycStep (l : List PEdge) (b : Option (List Nat)) (i : Nat) : Option (List Nat) :=
  if back l i < 0 then b else match b with
  | none => some (cycOf l i)
  | some c => if (c.length : Int) ≤ back l i + 1 then some c else some (cycOf l i)
noncomputable def cycL (l : List PEdge) : Nat → Option (List Nat)
  | 0 => none
  | k + 1 => cycStep l (cycL l k) k
/-- The best of the first k edges' cycles. -/
theorem cycL_is {l : List PEdge} : ∀ (k : Nat), match cycL l k with
    | none => ∀ i, i < k → back l i < 0
    | some c => ∃ i, i < k ∧ 0 ≤ back l i ∧ c = cycOf l i ∧ ∀ j, j < k → back l j < 0 ∨ back l i ≤ back l j
  | 0 => by simp [cycL]
  | k + 1 => by
    have ih := cycL_is (l := l) k
    simp only [cycL, cycStep]
    by_cases h : back l k < 0
    · rw [if_pos h]
      cases hc : cycL l k with
      | none =>
        rw [hc] at ih
        simp only at ih ⊢
        intro i hi
        by_cases e : i = k
        · subst e; exact h
        · exact ih i (by omega)
      | some c =>
        rw [hc] at ih
        simp only at ih ⊢
        obtain ⟨i, h1, h2, h3, h4⟩ := ih
        refine ⟨i, by omega, h2, h3, fun j hj => ?_⟩
        by_cases e : j = k
        · subst e; exact .inl h
        · exact h4 j (by omega)
    · rw [if_neg h]
      cases hc : cycL l k with
      | none =>
        rw [hc] at ih
        simp only at ih ⊢
        refine ⟨k, by omega, by omega, rfl, fun j hj => ?_⟩
        by_cases e : j = k
        · subst e; exact .inr (Int.le_refl _)
        · exact .inl (ih j (by omega))
      | some c =>
        rw [hc] at ih
        simp only at ih ⊢
        obtain ⟨i, h1, h2, h3, h4⟩ := ih
        have hl := cycOf_len h2
        rw [← h3] at hl
        by_cases g : (c.length : Int) ≤ back l k + 1
        · rw [if_pos g]
          refine ⟨i, by omega, h2, h3, fun j hj => ?_⟩
          by_cases e : j = k
          · subst e; exact .inr (by omega)
          · exact h4 j (by omega)
        · rw [if_neg g]
          refine ⟨k, by omega, by omega, rfl, fun j hj => ?_⟩
          by_cases e : j = k
          · subst e; exact .inr (Int.le_refl _)
          · rcases h4 j (by omega) with g1 | g1
            · exact .inl g1
            · exact .inr (by omega)
/-- The cycle that is returned. -/
noncomputable def cycV (l : List PEdge) : List Nat := (cycL l l.length).getD []
/-- The place of the first that p takes. -/
def idxP (p : Nat → Bool) : Nat → List Nat → Int
  | _, [] => -1
  | k, y :: r => if p y = true then k else idxP p (k + 1) r
theorem idxP_find {p : Nat → Bool} {i : Nat} : ∀ {k : Nat} {I : List Nat}, I.find? p = some i → ∃ j, idxP p k I = ((k + j : Nat) : Int) ∧ I[j]? = some i
  | k, [], h => by simp at h
  | k, y :: r, h => by
    rw [List.find?_cons] at h
    by_cases hp : p y = true
    · rw [hp] at h; cases h
      exact ⟨0, by simp [idxP, hp], rfl⟩
    · have hp2 : p y = false := by simpa using hp
      rw [hp2] at h
      obtain ⟨j, h1, h2⟩ := idxP_find (k := k + 1) h
      exact ⟨j + 1, by simp only [idxP, hp2, Bool.false_eq_true, if_false, h1]; congr 1; omega, by simpa using h2⟩
end Go.AM

set_option maxRecDepth 8000
set_option maxHeartbeats 1000000
namespace Go.AM
open Go Go.Proofs

/- ### the next edge on the way -/
theorem GOk.sdlt {n : Nat} {l : List PEdge} (h : GOk n l) {v to : Nat} (hv : v < n) : sd (eF l) v to < n := sd_lt h.eFlt hv
noncomputable abbrev cycO (n : Nat) (l : List PEdge) (to v : Nat) : List Obj := [.box [.dat (.sl none (intsD (distT n l to)))], .box [.dat (.sl (some 4) (edgesD l))], .box [.dat (.int .i64 v)]]
def clR (xs : List AV) (obs : List Obj) (v0 : AV) (obs' ex : List Obj) (mv0 : List Nat) : Prop := ∃ (n : Nat) (l : List PEdge) (to v i : Nat), GOk n l ∧ to < n ∧ v < n ∧ i < l.length ∧
  xs = [.dat (.int .i64 i), .ptr 0 0 0, .ptr 1 0 0, .ptr 2 0 0] ∧ obs = cycO n l to v ∧ v0 = .dat (.bool (near l to v i)) ∧ obs' = obs ∧ ex = [] ∧ mv0 = []
theorem cycle1_ok : OkF Try.prog 50 (lentC clR) := by
  refine okF_lent Try.func50 rfl (by decide) ?_
  rintro xs obs v0 obs' ex mv0 ⟨n, l, to, v, i, hg, hto, hv, hi, rfl, rfl, rfl, rfl, rfl, rfl⟩
  have hn4 := hg.n4
  have hge := List.getElem?_eq_getElem hi
  generalize he : l[i] = e at *
  have hem := List.mem_of_getElem? hge
  obtain ⟨ht1, ht2⟩ := hg.dst e hem
  have hne : D.nth (edgesD l) i = edgeD e := by simp [D.nth, hge]
  have hi2 : (i : Int) < l.length := by omega
  have htn : (e.t : Int) < n := by omega
  have hvn : (v : Int) < n := by omega
  have hdl := distT_len (n := n) (l := l) (to := to)
  have htl : e.t < (distT n l to).length := by omega
  have hvl : v < (distT n l to).length := by omega
  have g1 := ints_nth (l := distT n l to) (-1) htl
  have g2 := ints_nth (l := distT n l to) (-1) hvl
  rw [distT_getD ht2] at g1
  rw [distT_getD hv] at g2
  have b1 := hg.sdlt (to := to) hv
  have b2 := sd_ge (E := eF l) (a := v) (v := to)
  have hnear : near l to v i = decide (sd (eF l) e.t to = sd (eF l) v to - 1) := by unfold near; rw [tOf_get hge]
  refine sem_of_awp (Γ := tbl []) okG_nil _ _ _ ?_
  simp only [go_sem, Int.reduceEq, Int.reduceLT, Int.reduceLE, eq_self, Int.natCast_nonneg, Int.toNat_natCast, Try.ntmps50]
  refine sem_draw (pf := []) (Γ := tbl []) mixed okG_nil pureNo [0, 1, 2, 3, 4, 5, 6, 7, 8, 9, 10, 11, 12, 13, 14] (by kernel_rfl) ?_
  simp only [go_sem, Int.reduceEq, Int.reduceLT, Int.reduceLE, eq_self, Int.natCast_nonneg, Int.toNat_natCast, chainI, hi, hi2, edges_len, hne, edgeD, ht1, htn, ht2, hvn, hv, ints_len, hdl, g1, g2, ← hnear]
  refine ⟨inR_i64.2 (by omega), ?_⟩
  exact post_own (.inl rfl) [5] rfl (by simp only [tmpsOf]; rfl) (fun _ h => h)
def ixR (xs : List AV) (obs : List Obj) (v0 : AV) (obs' ex : List Obj) (mv0 : List Nat) : Prop := ∃ (n : Nat) (l : List PEdge) (to v : Nat) (I : List Nat), GOk n l ∧ to < n ∧ v < n ∧ (∀ i ∈ I, i < l.length) ∧ I.length ≤ 10000 ∧
  xs = [.dat (.sl none (natsD I)), .fn 50 [.ptr 0 0 0, .ptr 1 0 0, .ptr 2 0 0]] ∧ obs = cycO n l to v ∧ v0 = .dat (.int .i64 (idxP (near l to v) 0 I)) ∧ obs' = obs ∧ ex = [] ∧ mv0 = []
abbrev tabIX : List (Nat × Contract) := [(50, pureOf (lentC clR))]
theorem tabIX_ok : OkG Try.prog (tbl tabIX) := okG_cons (okF_pureOf cycle1_ok) okG_nil
theorem indexFunc_ok : OkF Try.prog 49 (lentC ixR) := by
  refine okF_lent Try.func49 rfl (by decide) ?_
  rintro xs obs v0 obs' ex mv0 ⟨n, l, to, v, I, hg, hto, hv, hI, hIl, rfl, rfl, rfl, rfl, rfl, rfl⟩
  generalize hV : idxP (near l to v) 0 I = V
  refine sem_of_awp (Γ := tbl tabIX) tabIX_ok _ _ _ ?_
  have fin : ∀ s (b c : Int), b = c → s.getD 4 .top = .dat (.int .i64 b) → post Try.prog Try.f49 (.dat (.int .i64 c)) (cycO n l to v ++ []) [] .ret ⟨s, cycO n l to v, 3, []⟩ := fun s b c e h => by
    subst e
    exact post_own (.inl rfl) [4] rfl (by simp only [tmpsOf, h]; rfl) (fun _ h => h)
  simp only [go_sem, Int.reduceEq, Int.reduceLT, Int.reduceLE, eq_self, Int.natCast_nonneg, Int.toNat_natCast, Try.ntmps49, nats_len]
  refine sem_loop (fun k : Nat => ⟨slotsOf 19 [(0, .dat (.sl none (natsD I))), (1, .fn 50 [.ptr 0 0 0, .ptr 1 0 0, .ptr 2 0 0]), (7, .dat (.int .i64 I.length)), (8, .dat (.int .i64 k))], cycO n l to v, 3, []⟩)
    (fun k => k ≤ I.length ∧ idxP (near l to v) k (I.drop k) = V) (fun k => I.length - k) 0 ⟨Nat.zero_le _, hV⟩ ?_ ?_
  · exact le_slots' (by simp only [go_sem, Int.natCast_zero])
  rintro k ⟨hk, hV⟩
  refine sem_of_awp (Γ := tbl tabIX) tabIX_ok _ _ _ ?_
  cases hd : I.drop k with
  | nil =>
    have := end_of_drop hd hk
    have hk2 : ¬ (k : Int) < I.length := by omega
    rw [hd, idxP] at hV
    simp only [go_sem, Int.reduceEq, Int.reduceLT, Int.reduceLE, eq_self, Int.natCast_nonneg, Int.toNat_natCast, hk2]
    exact fin _ _ _ hV rfl
  | cons m r =>
    have hlt := lt_of_drop hd
    have hk2 : (k : Int) < I.length := by omega
    have hk0 : (0 : Int) ≤ k := Int.natCast_nonneg k
    have hn := nth_of_drop (f := natD) hd
    rw [hd, idxP] at hV
    simp only [go_sem, Int.reduceEq, Int.reduceLT, Int.reduceLE, eq_self, Int.natCast_nonneg, Int.toNat_natCast, hk2, hk0, hn, hlt, nats_len]
    have hm := hI m (mem_of_drop hd)
    refine callw_caps (call_lentP clR (by simp) [0, 1, 2] ⟨n, l, to, v, m, hg, hto, hv, hm, rfl, rfl, rfl, rfl, rfl, rfl⟩ (by decide) (by simp) rfl rfl (by simp only [go_sem]) (by simp only [go_sem, List.mem_cons, List.not_mem_nil, or_false, forall_eq_or_imp, forall_eq, Obj.under, AV.unders, AV.under]) (fun j hj => by
      match j, hj with
      | 0, _ => rfl
      | 1, _ => rfl
      | 2, _ => rfl) ?_)
    cases hp : near l to v m with
    | true =>
      rw [hp, if_pos rfl] at hV
      simp only [go_sem, Int.reduceEq, Int.reduceLT, Int.reduceLE, eq_self, Int.natCast_nonneg, Int.toNat_natCast, hp]
      exact fin _ _ _ hV rfl
    | false =>
      rw [hp, if_neg (by decide)] at hV
      simp only [go_sem, Int.reduceEq, Int.reduceLT, Int.reduceLE, eq_self, Int.natCast_nonneg, Int.toNat_natCast, hp]
      refine ⟨inR_i64.2 (by omega), k + 1, ⟨by omega, by rw [drop_cons hd]; exact hV⟩, by omega, ?_⟩
      exact le_slots' (by simp only [go_sem, Int.natCast_add, Int.cast_ofNat_Int])
end Go.AM

set_option maxRecDepth 8000
set_option maxHeartbeats 2000000
namespace Go.AM
open Go Go.Proofs

/- ### a shortest cycle -/
noncomputable def cycleVv (n : Int) (l : List PEdge) : AV := if gE n l ≠ 0 then .tup [.dat (.sl none []), .dat (.int .i64 (gE n l))] else .tup [.dat (.sl none (natsD (cycV l))), .dat (.int .i64 0)]
def cycleR (ds : List D) (v : AV) : Prop := ∃ (n : Int) (l : List PEdge), ds = [.int .i64 n, .sl (some 4) (edgesD l)] ∧ l.length ≤ 10000 ∧ v = cycleVv n l
abbrev tabCY : List (Nat × Contract) := [(45, dataC gchkR), (46, dataC leavR), (48, dataC distR), (49, pureOf (lentC ixR))]
theorem tabCY_ok : OkG Try.prog (tbl tabCY) := okG_cons gcheck_ok (okG_cons leaving_ok (okG_cons distances_ok (okG_cons (okF_pureOf indexFunc_ok) okG_nil)))
theorem pureCY : PureFns (tbl tabCY) [45, 46, 48, 49] := by
  refine pure_of2 fun g C hm hg => ?_
  simp only [List.mem_cons, List.not_mem_nil, or_false, Prod.mk.injEq] at hm
  rcases hm with ⟨_, rfl⟩ | ⟨_, rfl⟩ | ⟨_, rfl⟩ | ⟨_, rfl⟩
  · exact .inl ⟨_, rfl⟩
  · exact .inl ⟨_, rfl⟩
  · exact .inl ⟨_, rfl⟩
  · exact .inr ⟨_, rfl⟩
abbrev edgO (l : List PEdge) : Obj := .box [.dat (.sl (some 4) (edgesD l))]
abbrev edge1O (e : PEdge) : Obj := .box [.dat (.int .i64 (e.s : Int)), .dat (.int .i64 (e.t : Int)), .dat (.int .i64 e.cls), .dat (.int .i64 e.step)]
noncomputable def cyHead (n : Nat) (l : List PEdge) (k : Nat) : Option (List Nat) → S
  | none => ⟨slotsOf 114 [(0, .dat (.int .i64 n)), (3, .ptr 0 0 0), (7, .dat (.sl none ((idxL PEdge.s n l).map natsR))), (8, .dat (.sl none ((idxL PEdge.t n l).map natsR))), (11, .nils), (48, .dat (.sl (some 4) (edgesD l))), (49, .dat (.int .i64 l.length)), (50, .dat (.int .i64 k))], [edgO l, .dead], 0, []⟩
  | some c => ⟨slotsOf 114 [(0, .dat (.int .i64 n)), (3, .ptr 0 0 0), (7, .dat (.sl none ((idxL PEdge.s n l).map natsR))), (8, .dat (.sl none ((idxL PEdge.t n l).map natsR))), (11, .sl 1 0 c.length), (48, .dat (.sl (some 4) (edgesD l))), (49, .dat (.int .i64 l.length)), (50, .dat (.int .i64 k))], [edgO l, .row none (natsD c)], 0, []⟩
theorem cycle_ok : OkF Try.prog 23 (dataC cycleR) := by
  refine okF_data Try.func23 rfl (by decide) ?_
  rintro ds v ⟨n, l, rfl, hll, rfl⟩
  refine sem_of_awpK [5] (Γ := tbl tabCY) tabCY_ok _ _ _ ?_
  simp only [go_sem, Int.reduceEq, Int.reduceLT, Int.reduceLE, eq_self, Int.natCast_nonneg, Int.toNat_natCast, Try.ntmps23]
  refine call_data gchkR (by simp) [.int .i64 n, .sl (some 4) (edgesD l)] _ rfl ⟨n, l, rfl, hll, rfl⟩ (.inl rfl) ?_
  by_cases h : gE n l = 0
  case neg =>
    unfold cycleVv
    rw [if_pos h]
    simp only [go_sem, Int.reduceEq, Int.reduceLT, Int.reduceLE, eq_self, Int.natCast_nonneg, Int.toNat_natCast, h]
    refine post_res (.inl rfl) [.tmp 4, .tmp 5] rfl ?_
    simp only [go_sem]
    exact le_fin (by simp only [go_sem]) (by simp only [go_sem])
  unfold cycleVv
  rw [if_neg (by rw [h]; decide)]
  obtain ⟨n, rfl, hg⟩ := gOk_of h hll
  have hn4 := hg.n4
  generalize hV : cycV l = V
  simp only [go_sem, Int.reduceEq, Int.reduceLT, Int.reduceLE, eq_self, Int.natCast_nonneg, Int.toNat_natCast, h]
  refine sem_drawT (ob := 0) (ko := 0) (pf := [46]) (mf := []) (ms := []) (ks := []) mixed tabCY_ok (fun g args own v own' mv hg => pureCY g args own v own' mv (by simp at hg; simp [hg])) noMk
    (.one 0 (.one 1 (.one 3 (.alt 2 (.one 5 (.one 4 (.one 6 .fin))) (.alt 4 (.one 2 (.one 5 (.one 6 .fin))) .stop))))) (by kernel_rfl) ?_
  simp only [go_sem, Int.reduceEq, Int.reduceLT, Int.reduceLE, eq_self, Int.natCast_nonneg, Int.toNat_natCast, and_true]
  apply both_of
  · intro hQ
    refine call_data leavR (by simp) [.int .i64 n, .sl (some 4) (edgesD l)] _ rfl ⟨n, l, rfl, hg, rfl⟩ (.inl rfl) ?_
    simp only [go_sem, Int.reduceEq, Int.reduceLT, Int.reduceLE, eq_self, Int.natCast_nonneg, Int.toNat_natCast]
    exact ⟨Int.le_refl _, by omega, hQ⟩
  · intro hQ
    refine ⟨Int.le_refl _, by omega, ?_⟩
    refine call_data leavR (by simp) [.int .i64 n, .sl (some 4) (edgesD l)] _ rfl ⟨n, l, rfl, hg, rfl⟩ (.inl rfl) ?_
    simp only [go_sem, Int.reduceEq, Int.reduceLT, Int.reduceLE, eq_self, Int.natCast_nonneg, Int.toNat_natCast]
    exact hQ
  refine sem_le (le_nilsF 1 none n rfl (Nat.zero_le _)) ?_
  have hpre : ∀ M, (List.set [edgO l, Obj.vec (List.replicate n AV.nils)] 1 (Obj.vec M)) ++ famO none (List.replicate n []) = edgO l :: .vec M :: famO none (List.replicate n []) := fun M => rfl
  rw [hpre]
  refine sem_of_awp (Γ := tbl tabCY) tabCY_ok _ _ _ ?_
  simp only [go_sem, Int.reduceEq, Int.reduceLT, Int.reduceLE, eq_self, Int.natCast_nonneg, Int.toNat_natCast, edges_len]
  refine sem_loop (fun k : Nat => ⟨slotsOf 114 [(0, .dat (.int .i64 n)), (3, .ptr 0 0 0), (7, .dat (.sl none ((idxL PEdge.s n l).map natsR))), (8, .sl 1 0 n), (28, .dat (.sl (some 4) (edgesD l))), (29, .dat (.int .i64 l.length)), (30, .dat (.int .i64 k))],
      edgO l :: .vec (famR 2 (rowsN (idxL PEdge.t n (l.take k)))) :: famO none (rowsN (idxL PEdge.t n (l.take k))), 0, []⟩)
    (fun k => k ≤ l.length) (fun k => l.length - k) 0 (Nat.zero_le _) ?_ ?_
  · rw [List.take_zero, idxL_nil]
    simp only [rowsN, List.map_replicate, natsD, List.map_nil, List.length_cons, List.length_nil]
    exact le_slots' (by simp only [go_sem, Int.natCast_zero])
  rintro k hk
  cases hd : l.drop k with
  | cons e r =>
    have hlt := lt_of_drop hd
    have hk2 : (k : Int) < l.length := by omega
    have hk0 : (0 : Int) ≤ k := Int.natCast_nonneg k
    have hn := nth_of_drop (f := edgeD) hd
    have hem := mem_of_drop hd
    obtain ⟨hs1, hs2⟩ := hg.dst e hem
    have hsk : (e.t : Int) < n := by omega
    have hsn := idxL_snoc (f := PEdge.t) (n := n) (l := l.take k) (e := e)
    rw [← take_of_drop hd, List.length_take, Nat.min_eq_left (by omega)] at hsn
    have hrow := rowsN_getD (M := idxL PEdge.t n (l.take k)) (i := e.t)
    rw [idxL_getD hs2] at hrow
    have hlen := idxs_len PEdge.t 0 (l.take k) e.t
    rw [List.length_take] at hlen
    have hM : (rowsN (idxL PEdge.t n (l.take k))).length = n := by rw [rowsN_len, idxL_len]
    have hMl : e.t < (rowsN (idxL PEdge.t n (l.take k))).length := by rw [hM]; exact hs2
    have hR := famR_at (b := 2) hMl
    rw [hrow] at hR
    have hO := famO_get0 (ag := none) hMl
    rw [hrow] at hO
    have hK := famR_killA (b := 2) hMl
    have hS := fun l' => famO_setA (ag := none) (l := l') hMl
    have hFl := famR_length 2 (rowsN (idxL PEdge.t n (l.take k)))
    rw [hM] at hFl
    refine sem_of_awp (Γ := tbl tabCY) tabCY_ok _ _ _ ?_
    have hne : ¬ (famO none (rowsN (idxL PEdge.t n (l.take k)))).length = e.t := by rw [famO_length, hM]; omega
    have hne0 : ¬ 0 = e.t + 2 := by omega
    have hne1 : ¬ 1 = e.t + 2 := by omega
    simp only [go_sem, Int.reduceEq, Int.reduceLT, Int.reduceLE, eq_self, Int.natCast_nonneg, Int.toNat_natCast, hk2, hk0, hn, hlt, edges_len, edgeD, hs1, getA0, setA0]
    refine sem_drawK (ko := e.t + 2) (pf := []) (mf := []) (ms := [0, 1, 2, 11, 10]) mixed tabCY_ok (fun g _ _ _ _ _ h => by cases h) noMk [0, 1, 2, 11, 3, 4, 5, 6, 7, 8, 9, 10, 12] (by kernel_rfl) ?_
    simp only [go_sem, Int.reduceEq, Int.reduceLT, Int.reduceLE, eq_self, Int.natCast_nonneg, Int.toNat_natCast, hR, hFl, hO, hK, hS, hne, hne0, hne1, getA0, getA1, setA0, lenA1, hsk, hs2, famO_getP hMl, famO_setP hMl, hrow, famO_kill, famO_killP, List.append_assoc, List.cons_append, List.nil_append, List.set_set, nats_take, nats_len, nats_snoc, if_false]
    refine ⟨by omega, by omega, inR_i64.2 (by omega), k + 1, by omega, by omega, ?_⟩
    rw [famR_setA (l := natsD (idxs PEdge.t 0 (l.take k) e.t ++ [k])) (by simp), rowsN_set, ← hsn]
    refine le_endF (pre := [_, _]) (Nat.zero_le _) ?_ ?_ ?_
    · simp only [go_sem, Int.natCast_add, Int.cast_ofNat_Int]
    · simp only [go_sem]
    · exact ⟨⟨trivial, trivial⟩, famR_under _ _ _ (Nat.le_refl _), trivial⟩
  | nil =>
  have := end_of_drop hd hk
  have hk2 : ¬ (k : Int) < l.length := by omega
  subst this
  rw [List.take_length]
  have hrl : ((idxL PEdge.t n l).map natsR).length = n := by simp [idxL_len]
  have hrt : List.take n ((idxL PEdge.t n l).map natsR) = (idxL PEdge.t n l).map natsR := List.take_of_length_le (by rw [hrl]; exact Nat.le_refl _)
  refine sem_le (le_famEnd (pre := [edgO l, .vec (famR 2 (rowsN (idxL PEdge.t n l)))]) (s' := slotsOf 114 [(0, .dat (.int .i64 n)), (3, .ptr 0 0 0), (7, .dat (.sl none ((idxL PEdge.s n l).map natsR))), (8, .dat (.sl none ((idxL PEdge.t n l).map natsR))), (29, .dat (.int .i64 l.length)), (30, .dat (.int .i64 l.length))]) (pre' := [edgO l, .dead]) 1 rfl (Nat.zero_le _) ?_ ?_ ?_ ?_) ?_
  · simp only [List.map_cons, List.map_nil, frzFo, frzFs, frzF_dat, AV.frzs, AV.frz, Obj.frz]; rfl
  · rw [rowsN_sl]
    simp only [go_sem, frzFs, frzF_dat, frzF_top, frzF_nils, frzF_sl, frzF_ptr, AV.frzs, AV.frz, Nat.lt_irrefl, Nat.reduceLT, Nat.zero_lt_one, true_or, List.drop_zero, hrl, hrt, Nat.zero_add, Nat.le_refl, if_true]
  · simp only [go_sem]
  · simp only [go_sem, Obj.under, AV.unders, AV.under]
  refine sem_of_awp (Γ := tbl tabCY) tabCY_ok _ _ _ ?_
  simp only [go_sem, Int.reduceEq, Int.reduceLT, Int.reduceLE, eq_self, Int.natCast_nonneg, Int.toNat_natCast, hk2, edges_len]
  refine sem_loop (fun k : Nat => cyHead n l k (cycL l k)) (fun k => k ≤ l.length) (fun k => l.length - k) 0 (Nat.zero_le _) ?_ ?_
  · exact le_slots' (by simp only [go_sem, Int.natCast_zero])
  rintro k hk
  have hcyc := cycL_is (l := l) k
  cases hd : l.drop k with
  | nil =>
    have := end_of_drop hd hk
    subst this
    have hk2 : ¬ (l.length : Int) < l.length := by omega
    unfold cycV at hV
    cases hc : cycL l l.length with
    | none =>
      rw [hc] at hV
      simp only [Option.getD_none] at hV
      subst hV
      simp only [cyHead]
      refine sem_of_awp (Γ := tbl tabCY) tabCY_ok _ _ _ ?_
      simp only [go_sem, Int.reduceEq, Int.reduceLT, Int.reduceLE, eq_self, Int.natCast_nonneg, Int.toNat_natCast, hk2]
      refine post_res (.inl rfl) [.tmp 4, .tmp 5] rfl ?_
      simp only [go_sem]
      exact le_fin (by simp only [go_sem]) (by simp only [go_sem])
    | some c =>
      rw [hc] at hV
      simp only [Option.getD_some] at hV
      subst hV
      simp only [cyHead]
      refine sem_of_awp (Γ := tbl tabCY) tabCY_ok _ _ _ ?_
      simp only [go_sem, Int.reduceEq, Int.reduceLT, Int.reduceLE, eq_self, Int.natCast_nonneg, Int.toNat_natCast, hk2]
      refine post_res (.inl rfl) [.tmp 4, .tmp 5] rfl ?_
      simp only [go_sem]
      refine Le.trans (le_freeze 1 (ag := none) rfl (Nat.zero_le _)) ?_
      simp only [go_sem, nats_take, nats_len, Nat.le_refl]
      exact le_fin (by simp only [go_sem]) (by simp only [go_sem])
  | cons e r =>
  have hlt := lt_of_drop hd
  have hk2 : (k : Int) < l.length := by omega
  have hk0 : (0 : Int) ≤ k := Int.natCast_nonneg k
  have hn := nth_of_drop (f := edgeD) hd
  have hem := mem_of_drop hd
  have hget := get_of_drop hd
  obtain ⟨hs1, hs2⟩ := hg.src e hem
  obtain ⟨ht1, ht2⟩ := hg.dst e hem
  have hsn : (e.s : Int) < n := by omega
  have htn : (e.t : Int) < n := by omega
  have hdl := distT_len (n := n) (l := l) (to := e.s)
  have htl : e.t < (distT n l e.s).length := by omega
  have hB : back l k = sd (eF l) e.t e.s := by unfold back; rw [sOf_get hget, tOf_get hget]
  have gB := ints_nth (l := distT n l e.s) (-1) htl
  rw [distT_getD ht2, ← hB] at gB
  have hBlt : back l k < n := by rw [hB]; exact hg.sdlt ht2
  have hBge : -1 ≤ back l k := by rw [hB]; exact sd_ge
  have hstep : cycL l (k + 1) = cycStep l (cycL l k) k := rfl
  unfold cycStep at hstep
  have callD : ∀ own K, K (.dat (.sl none (intsD (distT n l e.s)))) own [] → callw (tbl tabCY) (.fn 48 []) [.dat (.int .i64 n), .dat (.sl (some 4) (edgesD l)), .dat (.sl none ((idxL PEdge.t n l).map natsR)), .dat (.int .i64 (e.s : Int))] own K :=
    fun own K hK => call_data distR (by simp) [.int .i64 n, .sl (some 4) (edgesD l), .sl none ((idxL PEdge.t n l).map natsR), .int .i64 (e.s : Int)] _ rfl ⟨n, l, e.s, rfl, hg, hs2, rfl⟩ (.inl rfl) hK
  have close : ∀ σ, Le σ (cyHead n l (k + 1) (cycL l (k + 1))) → ∃ x, x ≤ l.length ∧ l.length - x < l.length - k ∧ Le σ (cyHead n l x (cycL l x)) := fun σ hσ => ⟨k + 1, by omega, by omega, hσ⟩
  refine sem_of_awpK [16] (Γ := tbl tabCY) tabCY_ok _ _ _ ?_
  apply join_reg (P := Try.prog) (M := fun σ => 0 ≤ back l k ∧ cycL l (k + 1) = some (cycOf l k) ∧ Le σ ⟨slotsOf 114 [(0, .dat (.int .i64 n)), (3, .ptr 0 0 0), (7, .dat (.sl none ((idxL PEdge.s n l).map natsR))), (8, .dat (.sl none ((idxL PEdge.t n l).map natsR))), (48, .dat (.sl (some 4) (edgesD l))), (49, .dat (.int .i64 l.length)), (50, .dat (.int .i64 k)), (12, .dat (.int .i64 k)), (13, .ptr 2 0 0), (14, .ptr 3 0 0)],
    [edgO l, .dead, edge1O e, .box [.dat (.sl none (intsD (distT n l e.s)))]], 0, []⟩)
  case front =>
    intro tail
    cases hc : cycL l k with
    | none =>
      rw [hc] at hstep
      simp only [cyHead]
      simp only [go_sem, Int.reduceEq, Int.reduceLT, Int.reduceLE, eq_self, Int.natCast_nonneg, Int.toNat_natCast, hk2, hk0, hn, hlt, edges_len, edgeD, hs1, ht1]
      refine callD _ _ ?_
      by_cases hneg : back l k < 0
      · rw [if_pos hneg] at hstep
        simp only [go_sem, Int.reduceEq, Int.reduceLT, Int.reduceLE, eq_self, Int.natCast_nonneg, Int.toNat_natCast, hs1, ht1, hneg, htn, ht2, ints_len, hdl, gB]
        refine ⟨inR_i64.2 (by omega), close _ ?_⟩
        rw [hstep]
        refine le_end (own := [_, _]) (ex := [_, _]) (Nat.zero_le _) ?_ ?_ ?_
        · simp only [go_sem, Int.natCast_add, Int.cast_ofNat_Int]
        · simp only [go_sem]
        · simp only [go_sem, Obj.under, AV.unders, AV.under]
      · rw [if_neg hneg] at hstep
        simp only [go_sem, Int.reduceEq, Int.reduceLT, Int.reduceLE, eq_self, Int.natCast_nonneg, Int.toNat_natCast, hs1, ht1, hneg, htn, ht2, ints_len, hdl, gB]
        refine tail _ ⟨by omega, hstep, ?_⟩
        exact le_slots' (by simp only [go_sem])
    | some c =>
      rw [hc] at hcyc hstep
      simp only at hcyc hstep
      obtain ⟨c0, _, c1, c2, _⟩ := hcyc
      have hcl := cycOf_len c1
      rw [← c2] at hcl
      have hc0 : 0 < c.length := by omega
      simp only [cyHead]
      simp only [go_sem, Int.reduceEq, Int.reduceLT, Int.reduceLE, eq_self, Int.natCast_nonneg, Int.toNat_natCast, hk2, hk0, hn, hlt, edges_len, edgeD, hs1, ht1]
      refine callD _ _ ?_
      by_cases hneg : back l k < 0
      · rw [if_pos hneg] at hstep
        simp only [go_sem, Int.reduceEq, Int.reduceLT, Int.reduceLE, eq_self, Int.natCast_nonneg, Int.toNat_natCast, hs1, ht1, hneg, htn, ht2, ints_len, hdl, gB]
        refine ⟨inR_i64.2 (by omega), close _ ?_⟩
        rw [hstep]
        refine le_end (own := [_, _]) (ex := [_, _]) (Nat.zero_le _) ?_ ?_ ?_
        · simp only [go_sem, Int.natCast_add, Int.cast_ofNat_Int]
        · simp only [go_sem]
        · simp only [go_sem, Obj.under, AV.unders, AV.under]
      rw [if_neg hneg] at hstep
      by_cases hle : (c.length : Int) ≤ back l k + 1
      · rw [if_pos hle] at hstep
        simp only [go_sem, Int.reduceEq, Int.reduceLT, Int.reduceLE, eq_self, Int.natCast_nonneg, Int.toNat_natCast, hs1, ht1, hneg, htn, ht2, ints_len, hdl, gB, hc0, hle]
        refine ⟨inR_i64.2 (by omega), inR_i64.2 (by omega), close _ ?_⟩
        rw [hstep]
        refine le_end (own := [_, _]) (ex := [_, _]) (Nat.zero_le _) ?_ ?_ ?_
        · simp only [go_sem, Int.natCast_add, Int.cast_ofNat_Int]
        · simp only [go_sem]
        · simp only [go_sem, Obj.under, AV.unders, AV.under]
      · rw [if_neg hle] at hstep
        simp only [go_sem, Int.reduceEq, Int.reduceLT, Int.reduceLE, eq_self, Int.natCast_nonneg, Int.toNat_natCast, hs1, ht1, hneg, htn, ht2, ints_len, hdl, gB, hc0, hle]
        refine ⟨inR_i64.2 (by omega), ?_⟩
        refine tail _ ⟨by omega, hstep, Le.trans (le_dead 1) ?_⟩
        exact le_slots' (by simp only [go_sem])
  case tail =>
    rintro σ ⟨hB0, hnext, hσ⟩
    refine sem_le hσ ?_
    clear hσ σ
    refine sem_of_awp (Γ := tbl tabCY) tabCY_ok _ _ _ ?_
    simp only [go_sem, Int.reduceEq, Int.reduceLT, Int.reduceLE, eq_self, Int.natCast_nonneg, Int.toNat_natCast]
    have hcl := cycOf_len hB0
    refine sem_loop (fun p : Nat × List Nat => ⟨slotsOf 114 [(0, .dat (.int .i64 n)), (3, .ptr 0 0 0), (7, .dat (.sl none ((idxL PEdge.s n l).map natsR))), (8, .dat (.sl none ((idxL PEdge.t n l).map natsR))), (48, .dat (.sl (some 4) (edgesD l))), (49, .dat (.int .i64 l.length)), (50, .dat (.int .i64 k)), (12, .dat (.int .i64 k)), (13, .ptr 2 0 0), (14, .ptr 3 0 0), (11, .sl 4 0 p.2.length), (15, .ptr 5 0 0)],
        [edgO l, .dead, edge1O e, .box [.dat (.sl none (intsD (distT n l e.s)))], .row none (natsD p.2), .box [.dat (.int .i64 p.1)]], 0, []⟩)
      (fun p => p.1 < n ∧ 0 ≤ sd (eF l) p.1 e.s ∧ p.2 ++ pathL l e.s (sd (eF l) p.1 e.s).toNat p.1 = cycOf l k) (fun p => (sd (eF l) p.1 e.s).toNat) (e.t, [k]) ⟨ht2, by rw [← hB]; exact hB0, ?_⟩ ?_ ?_
    · unfold cycOf; rw [hB, sOf_get hget, tOf_get hget]; rfl
    · exact le_slots' (by simp only [go_sem])
    rintro ⟨v, acc⟩ ⟨hv, hv0, hacc⟩
    simp only at hv hv0 hacc
    refine sem_of_awp (Γ := tbl tabCY) tabCY_ok _ _ _ ?_
    have hal : acc.length ≤ (cycOf l k).length := by rw [← hacc]; simp
    by_cases hvs : v = e.s
    · subst hvs
      rw [sd_self] at hacc
      have hacc2 : acc = cycOf l k := by rw [← hacc]; simp [pathL]
      subst hacc2
      simp only [go_sem, Int.reduceEq, Int.reduceLT, Int.reduceLE, eq_self, Int.natCast_nonneg, Int.toNat_natCast]
      refine ⟨inR_i64.2 (by omega), close _ ?_⟩
      rw [hnext]
      refine Le.trans (le_swp 1 4 (by decide : (1 : Nat) < 6) (by decide : (4 : Nat) < 6) rfl rfl) ?_
      refine le_end (own := [edgO l, .row none (natsD (cycOf l k))]) (ex := [edge1O e, .box [.dat (.sl none (intsD (distT n l e.s)))], .dead, .box [.dat (.int .i64 (e.s : Int))]]) (Nat.zero_le _) ?_ ?_ ?_
      · simp only [go_sem, swp, ↓reduceIte, Nat.reduceEqDiff, Int.natCast_add, Int.cast_ofNat_Int]
      · simp only [go_sem]
      · simp only [go_sem, Obj.under, AV.unders, AV.under]
    have hvs2 : ¬ (v : Int) = e.s := by omega
    have hpos : 0 < sd (eF l) v e.s := by
      rcases Int.lt_or_eq_of_le hv0 with h | h
      · exact h
      · exact absurd (sd_zero h.symm) hvs
    obtain ⟨i, hi⟩ := nxt_some hpos
    obtain ⟨j, hj1, hj2⟩ := idxP_find (k := 0) hi
    obtain ⟨i1, i2, i3⟩ := nxt_is hi
    have hig := List.getElem?_eq_getElem i1
    have hout := rows_nth (idxL_get (f := PEdge.s) (l := l) hv)
    have hol : ((idxL PEdge.s n l).map natsR).length = n := by simp [idxL_len]
    have hIl := idxs_len PEdge.s 0 l v
    have hv2 : (v : Int) < n := by omega
    have hjl := (List.getElem?_eq_some_iff.1 hj2).1
    have hji := nats_nth hj2
    have hjl2 : (j : Int) < (idxs PEdge.s 0 l v).length := by omega
    rw [Nat.zero_add] at hj1
    simp only [go_sem, Int.reduceEq, Int.reduceLT, Int.reduceLE, eq_self, Int.natCast_nonneg, Int.toNat_natCast, hvs2]
    refine sem_draw (pf := [49]) (Γ := tbl tabCY) mixed tabCY_ok (fun g args own v own' mv hg => pureCY g args own v own' mv (by simp at hg; simp [hg])) [0, 1, 2, 3, 4, 5, 6, 7, 8, 9, 10, 11, 12] (by kernel_rfl) ?_
    simp only [go_sem, Int.reduceEq, Int.reduceLT, Int.reduceLE, eq_self, Int.natCast_nonneg, Int.toNat_natCast, chainI, hv, hv2, hol, hout]
    refine call_lentP ixR (by simp) [3, 0, 5] ⟨n, l, e.s, v, idxs PEdge.s 0 l v, hg, hs2, hv, fun m hm => ?_, by omega, rfl, rfl, rfl, rfl, rfl, rfl⟩ (by decide) (by simp) rfl rfl (by simp only [go_sem]) (by simp only [go_sem, List.mem_cons, List.not_mem_nil, or_false, forall_eq_or_imp, forall_eq, Obj.under, AV.unders, AV.under]) (fun j hj => by
      match j, hj with
      | 0, _ => rfl
      | 1, _ => rfl
      | 2, _ => rfl) ?_
    · obtain ⟨j', e', g1, g2, g3⟩ := mem_idxs.1 hm
      have := (List.getElem?_eq_some_iff.1 g1).1
      omega
    have hii : D.nth (edgesD l) i = edgeD l[i] := by simp [D.nth, hig]
    have hil2 : (i : Int) < l.length := by omega
    have hit := tOf_get hig
    obtain ⟨t1, t2⟩ := hg.dst l[i] (List.getElem_mem i1)
    rw [hj1]
    simp only [go_sem, Int.reduceEq, Int.reduceLT, Int.reduceLE, eq_self, Int.natCast_nonneg, Int.toNat_natCast, chainI, hjl, hjl2, nats_len, hji, nats_take, nats_snoc, i1, hil2, hii, edges_len, edgeD, t1]
    rw [hit] at i3
    refine ⟨by omega, by omega, (l[i].t, acc ++ [i]), ⟨t2, by simp only; omega, ?_⟩, by simp only; omega, ?_⟩
    · rw [← hacc]
      obtain ⟨m, hm⟩ : ∃ m : Nat, (sd (eF l) v e.s).toNat = m + 1 := ⟨(sd (eF l) v e.s).toNat - 1, by omega⟩
      have hm2 : (sd (eF l) l[i].t e.s).toNat = m := by omega
      rw [hm, pathL_cons hi, hit]
      simp only [hm2, List.append_assoc, List.cons_append, List.nil_append]
    · refine Le.trans (le_swp 5 7 (by decide : (5 : Nat) < 8) (by decide : (7 : Nat) < 8) rfl rfl) ?_
      refine le_end (own := [edgO l, .dead, edge1O e, .box [.dat (.sl none (intsD (distT n l e.s)))], .row none (natsD (acc ++ [i])), .box [.dat (.int .i64 (l[i].t : Int))]]) (ex := [.row none [.int .i64 (i : Int)], .box [.dat (.int .i64 (l[i].t : Int))]]) (Nat.zero_le _) ?_ ?_ ?_
      · simp only [go_sem, swp, ↓reduceIte, Nat.reduceEqDiff, Int.natCast_add, Int.cast_ofNat_Int, List.length_append, List.length_cons, List.length_nil, Nat.zero_add]
      · simp only [go_sem]
      · simp only [go_sem, Obj.under, AV.unders, AV.under]
end Go.AM

