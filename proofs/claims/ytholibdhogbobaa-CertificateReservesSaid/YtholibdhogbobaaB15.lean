/- Own work over the model of the kit. -/
import Derived.Test.YtholibdhogbobaaB14
import Derived.Test.YtholibdhogbobaaB9
import Derived.Test.YtholibdhogbobaaB10
set_option linter.unusedSimpArgs false
set_option linter.unusedVariables false
set_option maxRecDepth 8000
set_option maxHeartbeats 1000000
namespace Go.AM
open Go Go.Proofs

theorem hasE_iff {l : List PEdge} {a b : Int} : hasE l a b = true ↔ ∃ e ∈ l, e.src = a ∧ e.dst = b := by
  simp [hasE, List.any_eq_true]
theorem addE_sub {l : List PEdge} {x e : PEdge} (h : e ∈ l) : e ∈ addE l x := by unfold addE; split <;> simp [h]
theorem addE_mem {l : List PEdge} {x e : PEdge} (h : e ∈ addE l x) : e ∈ l ∨ e = x := by
  unfold addE at h; split at h
  · exact .inl h
  · simpa using h
theorem addE_has (l : List PEdge) (x : PEdge) : hasE (addE l x) x.src x.dst = true := by
  unfold addE; split
  · assumption
  · exact hasE_iff.2 ⟨x, by simp, rfl, rfl⟩
theorem addAll_sub {t i k : Int} : ∀ {H : List Int} {acc : List PEdge} {e : PEdge}, e ∈ acc → e ∈ addAll t i k H acc
  | [], _, _, h => h
  | _ :: r, _, _, h => addAll_sub (H := r) (addE_sub h)
theorem addAll_mem {t i k : Int} : ∀ {H : List Int} {acc : List PEdge} {e : PEdge}, e ∈ addAll t i k H acc → e ∈ acc ∨ ∃ f ∈ H, e = ⟨f, t, i, k⟩
  | [], _, _, h => .inl h
  | f :: r, acc, e, h => by
    rcases addAll_mem (H := r) h with h | ⟨g, hg, h⟩
    · rcases addE_mem h with h | h
      · exact .inl h
      · exact .inr ⟨f, by simp, h⟩
    · exact .inr ⟨g, by simp [hg], h⟩
theorem hasE_sub {l l' : List PEdge} (h : ∀ e ∈ l, e ∈ l') {a b : Int} (hh : hasE l a b = true) : hasE l' a b = true := by
  obtain ⟨e, he, h1⟩ := hasE_iff.1 hh
  exact hasE_iff.2 ⟨e, h e he, h1⟩
theorem addAll_has {t i k : Int} : ∀ {H : List Int} {acc : List PEdge} {f : Int}, f ∈ H → hasE (addAll t i k H acc) f t = true
  | g :: r, acc, f, h => by
    rcases List.mem_cons.1 h with rfl | h
    · exact hasE_sub (l := addE acc ⟨f, t, i, k⟩) (fun e he => addAll_sub (H := r) he) (addE_has acc ⟨f, t, i, k⟩)
    · exact addAll_has (H := r) h
def isEdge (s : PSys) (c : PCls) (i : Nat) (k : Nat) (x : PStep) (e : PEdge) : Prop := waitB s x = true ∧ e.cls = i ∧ e.step = k ∧ e.dst = targetN s x ∧ e.src ∈ holdL s c i (c.steps.take k)
theorem edS_sub (s : PSys) (c : PCls) (i : Nat) : ∀ {k : Nat} {L : List PStep} {acc : List PEdge} {e : PEdge}, e ∈ acc → e ∈ edS s c i k L acc
  | _, [], _, _, h => h
  | k, x :: r, acc, e, h => by
    rw [edS]; refine edS_sub s c i ?_
    split
    · exact addAll_sub h
    · exact h
theorem edC_sub (s : PSys) : ∀ {i : Nat} {L : List PCls} {acc : List PEdge} {e : PEdge}, e ∈ acc → e ∈ edC s i L acc
  | _, [], _, _, h => h
  | i, c :: r, acc, e, h => by rw [edC]; exact edC_sub s (edS_sub s c i h)
theorem edS_mem (s : PSys) (c : PCls) (i : Nat) : ∀ {k : Nat} {L : List PStep} {acc : List PEdge} {e : PEdge}, e ∈ edS s c i k L acc → e ∈ acc ∨ ∃ j x, L[j]? = some x ∧ isEdge s c i (k + j) x e
  | _, [], _, _, h => .inl h
  | k, x :: r, acc, e, h => by
    rw [edS] at h
    rcases edS_mem s c i h with h | ⟨j, y, hy, h⟩
    · split at h
      · rename_i hw
        rcases addAll_mem h with h | ⟨f, hf, rfl⟩
        · exact .inl h
        · exact .inr ⟨0, x, rfl, hw, rfl, by simp, rfl, by simpa using hf⟩
      · exact .inl h
    · refine .inr ⟨j + 1, y, by simpa using hy, ?_⟩
      rwa [Nat.add_right_comm, Nat.add_assoc] at h
theorem edC_mem (s : PSys) : ∀ {i : Nat} {L : List PCls} {acc : List PEdge} {e : PEdge}, e ∈ edC s i L acc → e ∈ acc ∨ ∃ j c k x, L[j]? = some c ∧ c.steps[k]? = some x ∧ isEdge s c (i + j) k x e
  | _, [], _, _, h => .inl h
  | i, c :: r, acc, e, h => by
    rw [edC] at h
    rcases edC_mem s h with h | ⟨j, d, k, x, hd, hx, h⟩
    · rcases edS_mem s c i h with h | ⟨j, x, hx, h⟩
      · exact .inl h
      · exact .inr ⟨0, c, j, x, rfl, hx, by simpa using h⟩
    · refine .inr ⟨j + 1, d, k, x, by simpa using hd, hx, ?_⟩
      rwa [Nat.add_right_comm, Nat.add_assoc] at h
theorem edS_has (s : PSys) (c : PCls) (i : Nat) : ∀ {k : Nat} {L : List PStep} {acc : List PEdge} {j : Nat} {x : PStep} {f : Int}, L[j]? = some x → waitB s x = true → f ∈ holdL s c i (c.steps.take (k + j)) → hasE (edS s c i k L acc) f (targetN s x) = true
  | _, [], _, _, _, _, h, _, _ => by simp at h
  | k, y :: r, acc, 0, x, f, h, hw, hf => by
    simp only [List.getElem?_cons_zero, Option.some.injEq] at h
    subst h
    rw [edS, if_pos hw]
    exact hasE_sub (fun e he => edS_sub s c i he) (addAll_has hf)
  | k, y :: r, acc, j + 1, x, f, h, hw, hf => by
    rw [edS]
    refine edS_has s c i (j := j) (by simpa using h) hw ?_
    rwa [Nat.add_right_comm, Nat.add_assoc]
theorem edC_has (s : PSys) : ∀ {i : Nat} {L : List PCls} {acc : List PEdge} {j k : Nat} {c : PCls} {x : PStep} {f : Int}, L[j]? = some c → c.steps[k]? = some x → waitB s x = true → f ∈ holdL s c ((i + j : Nat) : Int) (c.steps.take k) → hasE (edC s i L acc) f (targetN s x) = true
  | _, [], _, _, _, _, _, _, h, _, _, _ => by simp at h
  | i, d :: r, acc, 0, k, c, x, f, h, hx, hw, hf => by
    simp only [List.getElem?_cons_zero, Option.some.injEq] at h
    subst h
    rw [edC]
    exact hasE_sub (fun e he => edC_sub s he) (edS_has s d i hx hw (by simpa using hf))
  | i, d :: r, acc, j + 1, k, c, x, f, h, hx, hw, hf => by
    rw [edC]
    refine edC_has s (j := j) (by simpa using h) hx hw ?_
    rwa [Nat.add_right_comm, Nat.add_assoc]

def holdB (s : PSys) (c : PCls) (i : Nat) (L : List PStep) (r : Nat) : Bool :=
  if r < s.pools.length then decide (0 < (balU s L).getD r 0) else
  if r < s.pools.length + s.locks.length then (balB s L).getD (r - s.pools.length) false else
  c.server && decide (r = s.pools.length + s.locks.length + i)
theorem hU_mem {f : Int} : ∀ {i : Nat} {l : List Int}, f ∈ hU i l ↔ ∃ j n, l[j]? = some n ∧ 0 < n ∧ f = ((i + j : Nat) : Int)
  | _, [] => by simp [hU]
  | i, n :: r => by
    have ih := hU_mem (f := f) (i := i + 1) (l := r)
    have hs : (∃ j m, (n :: r)[j]? = some m ∧ 0 < m ∧ f = ((i + j : Nat) : Int)) ↔ (0 < n ∧ f = (i : Int)) ∨ (∃ j m, r[j]? = some m ∧ 0 < m ∧ f = ((i + 1 + j : Nat) : Int)) := by
      constructor
      · rintro ⟨j, m, h1, h2, h3⟩
        cases j with
        | zero => simp only [List.getElem?_cons_zero, Option.some.injEq] at h1; subst h1; exact .inl ⟨h2, by simpa using h3⟩
        | succ j => exact .inr ⟨j, m, by simpa using h1, h2, by rw [h3]; congr 1; omega⟩
      · rintro (⟨h2, h3⟩ | ⟨j, m, h1, h2, h3⟩)
        · exact ⟨0, n, rfl, h2, by simpa using h3⟩
        · exact ⟨j + 1, m, by simpa using h1, h2, by rw [h3]; congr 1; omega⟩
    rw [hs, ← ih, hU]
    split
    · rename_i h; simp [h]
    · rename_i h; simp [h]
theorem hB_mem {f off : Int} : ∀ {i : Nat} {l : List Bool}, f ∈ hB off i l ↔ ∃ j : Nat, l[j]? = some true ∧ f = off + ((i + j : Nat) : Int)
  | _, [] => by simp [hB]
  | i, b :: r => by
    have ih := hB_mem (f := f) (off := off) (i := i + 1) (l := r)
    have hs : (∃ j : Nat, (b :: r)[j]? = some true ∧ f = off + ((i + j : Nat) : Int)) ↔ (b = true ∧ f = off + (i : Int)) ∨ (∃ j : Nat, r[j]? = some true ∧ f = off + ((i + 1 + j : Nat) : Int)) := by
      constructor
      · rintro ⟨j, h1, h3⟩
        cases j with
        | zero => simp only [List.getElem?_cons_zero, Option.some.injEq] at h1; exact .inl ⟨h1, by simpa using h3⟩
        | succ j => exact .inr ⟨j, by simpa using h1, by rw [h3]; congr 2; omega⟩
      · rintro (⟨h2, h3⟩ | ⟨j, h1, h3⟩)
        · exact ⟨0, by simpa using h2, by simpa using h3⟩
        · exact ⟨j + 1, by simpa using h1, by rw [h3]; congr 2; omega⟩
    rw [hs, ← ih, hB]
    split
    · rename_i h; simp [h]
    · rename_i h; simp [h]
theorem holdL_range {s : PSys} {c : PCls} {i : Nat} {L : List PStep} {f : Int} (hi : i < s.classes.length) (h : f ∈ holdL s c i L) : ∃ r : Nat, f = r ∧ r < s.pools.length + s.locks.length + s.classes.length ∧ holdB s c i L r = true := by
  simp only [holdL, List.mem_append] at h
  rcases h with (h | h) | h
  · obtain ⟨j, n, h1, h2, h3⟩ := hU_mem.1 h
    have hj := (List.getElem?_eq_some_iff.1 h1).1
    rw [balU_len] at hj
    refine ⟨j, by simpa using h3, by omega, ?_⟩
    unfold holdB
    rw [if_pos hj, List.getD_eq_getElem?_getD, h1]
    simpa using h2
  · obtain ⟨j, h1, h3⟩ := hB_mem.1 h
    have hj := (List.getElem?_eq_some_iff.1 h1).1
    rw [balB_len] at hj
    refine ⟨s.pools.length + j, by rw [h3]; omega, by omega, ?_⟩
    unfold holdB
    rw [if_neg (by omega), if_pos (by omega), Nat.add_sub_cancel_left, List.getD_eq_getElem?_getD, h1]
    rfl
  · unfold hC at h
    split at h
    · rename_i hs
      refine ⟨s.pools.length + s.locks.length + i, by simp at h; omega, by omega, ?_⟩
      unfold holdB
      rw [if_neg (by omega), if_neg (by omega), hs]
      simp
    · cases h
theorem targetN_range {s : PSys} {x : PStep} (hg : s.good) (h : preE s x = 0) : 0 ≤ targetN s x ∧ targetN s x ≤ 100 := by
  have h1 := hg.np
  have h2 := hg.nl
  have h3 := hg.nc
  obtain ⟨_, ⟨o1, o2⟩, _⟩ := preE_0 h
  have : x.on ≤ 10 := by unfold mostE at o2; (repeat' split at o2) <;> omega
  unfold targetN; (repeat' split) <;> omega
structure PEdge.fit (e : PEdge) : Prop where
  s : 0 ≤ e.src ∧ e.src ≤ 100
  d : 0 ≤ e.dst ∧ e.dst ≤ 100
  c : 0 ≤ e.cls ∧ e.cls ≤ 100
  k : 0 ≤ e.step ∧ e.step ≤ 100
def metE (i k r j : Nat) (m : Nat) (e : PEdge) : Prop := e.cls < i ∨ (e.cls = i ∧ (e.step < k ∨ (e.step = k ∧ (e.src < r ∨ (e.src = r ∧ m < j)))))
def usedI (E : List PEdge) (used : List Bool) (i k r j : Nat) : Prop := used.length = E.length ∧ ∀ m e, E[m]? = some e → metE i k r j m e → used.getD m false = true
structure EFacts (s : PSys) (E : List PEdge) : Prop where
  mem : ∀ e ∈ E, ∃ (i k : Nat) (c : PCls) (x : PStep), s.classes[i]? = some c ∧ c.steps[k]? = some x ∧ isEdge s c i k x e
  has : ∀ (i k : Nat) (c : PCls) (x : PStep) (f : Int), s.classes[i]? = some c → c.steps[k]? = some x → waitB s x = true → f ∈ holdL s c i (c.steps.take k) → hasE E f (targetN s x) = true
theorem eFacts (s : PSys) : EFacts s (edC s 0 s.classes []) where
  mem e he := by
    rcases edC_mem s he with h | ⟨j, c, k, x, h1, h2, h3⟩
    · cases h
    · exact ⟨j, k, c, x, h1, h2, by simpa using h3⟩
  has i k c x f h1 h2 h3 h4 := edC_has s (j := i) h1 h2 h3 (by simpa using h4)
theorem eFit {s : PSys} (hg : s.good) : ∀ e ∈ edC s 0 s.classes [], e.fit := by
  intro e he
  obtain ⟨i, k, c, x, h1, h2, h3, h4, h5, h6, h7⟩ := (eFacts s).mem e he
  have hi := (List.getElem?_eq_some_iff.1 h1).1
  have hk := (List.getElem?_eq_some_iff.1 h2).1
  have hcg := hg.cls c (List.mem_of_getElem? h1)
  have hx := targetN_range hg (hcg.pre x (List.mem_of_getElem? h2))
  have h12 := hcg.l12
  have hnp := hg.np
  have hnl := hg.nl
  have hnc := hg.nc
  obtain ⟨r, hr, hr2, _⟩ := holdL_range hi h7
  exact ⟨by omega, by omega, by omega, by omega⟩
end Go.AM

set_option maxRecDepth 8000
set_option maxHeartbeats 1000000
namespace Go.AM
open Go Go.Proofs

abbrev endD (a b : Int) : D := .agg [.int .i64 a, .int .i64 b]
def keyE (e : PEdge) : D × D := (endD e.src e.dst, .bool true)
abbrev seenM (l : List PEdge) : List (D × D) := l.map keyE
theorem keyEq_end (a b c d : Int) : D.keyEq (endD a b) (endD c d) = (decide (a = c) && decide (b = d)) := by
  simp [D.keyEq, endD, D.flatEqs, D.flatEq]
theorem seen_find : ∀ (l : List PEdge) (a b : Int) (i : Nat), (mapFindI (endD a b) (seenM l) i).map (·.2) = if hasE l a b = true then some (D.bool true) else none
  | [], _, _, _ => rfl
  | e :: r, a, b, i => by
    have hL : mapFindI (endD a b) (seenM (e :: r)) i = if (decide (a = e.src) && decide (b = e.dst)) = true then some (i, D.bool true) else mapFindI (endD a b) (seenM r) (i + 1) := by
      simp only [seenM, List.map_cons, mapFindI, keyE, keyEq_end]
    have hR : hasE (e :: r) a b = ((decide (e.src = a) && decide (e.dst = b)) || hasE r a b) := by simp [hasE]
    rw [hL]
    by_cases h : a = e.src ∧ b = e.dst
    · have h1 : (decide (a = e.src) && decide (b = e.dst)) = true := by simp [h.1, h.2]
      have h2 : hasE (e :: r) a b = true := by rw [hR]; simp [h.1, h.2]
      rw [if_pos h1, if_pos h2]; rfl
    · have h1 : ¬ (decide (a = e.src) && decide (b = e.dst)) = true := by simpa using h
      have h2 : hasE (e :: r) a b = hasE r a b := by
        rw [hR]
        have : (decide (e.src = a) && decide (e.dst = b)) = false := by
          rw [Bool.and_eq_false_iff, decide_eq_false_iff_not, decide_eq_false_iff_not]
          by_cases ha : a = e.src
          · exact .inr (fun hb => h ⟨ha, hb.symm⟩)
          · exact .inl (fun e => ha e.symm)
        rw [this, Bool.false_or]
      rw [if_neg h1, h2]
      exact seen_find r a b (i + 1)
theorem seen_get (l : List PEdge) (a b : Int) : (mapFind (endD a b) (seenM l)).getD (.bool false) = .bool (hasE l a b) := by
  unfold mapFind; rw [seen_find]; cases hasE l a b <;> rfl
theorem seen_set {l : List PEdge} {a b : Int} (h : hasE l a b = false) (x : PEdge) (hx : x.src = a) (hx2 : x.dst = b) : mapSet (endD a b) (.bool true) (seenM l) = seenM (l ++ [x]) := by
  have h0 : mapFindI (endD a b) (seenM l) 0 = none := by
    have := seen_find l a b 0
    rw [h] at this
    cases e : mapFindI (endD a b) (seenM l) 0 with
    | none => rfl
    | some p => rw [e] at this; cases this
  rw [mapSet_none h0]
  simp [keyE, hx, hx2]
theorem wideKey_0 : wideKey Try.prog 74 (.agg [.int .i64 0, .int .i64 0]) = true := by kernel_rfl
theorem isKey_end (t : TypeDesc) {a b : Int} (ha : 0 ≤ a ∧ a ≤ 100) (hb : 0 ≤ b ∧ b ≤ 100) : D.isKeyP Try.prog 74 t (endD a b) = true :=
  isKeyP_of wideKey_0 ⟨rfl, inR_i64.2 (by omega), rfl, inR_i64.2 (by omega), trivial⟩
theorem seen_keys (t : TypeDesc) {l : List PEdge} (h : ∀ e ∈ l, e.fit) : ((seenM l).all fun x => D.isKeyP Try.prog 74 t x.1) = true := by
  rw [List.all_eq_true]
  intro x hx
  obtain ⟨e, he, rfl⟩ := List.mem_map.1 hx
  exact isKey_end t (h e he).s (h e he).d
theorem repl2 : (some (Value.agg #[Value.int IntKind.i64 0, Value.int IntKind.i64 0]) = some (Value.agg (Array.replicate 2 (Value.int IntKind.i64 0)))) = True := eq_true rfl
theorem lookupw_end {P : Program} {τ : Option Ty} {own : List Obj} {x : AV} {a b : Int} {c : Bool} {K : AV → Prop} : lookupw P τ own x (.agg [.dat (.int .i64 a), .dat (.int .i64 b)]) c K = lookupw P τ own x (.dat (endD a b)) c K := rfl
theorem mapUpdatew_end {P : Program} {τ : Option Ty} {own : List Obj} {x v : AV} {a b : Int} {K : AV → List Obj → List Nat → Prop} : mapUpdatew P τ own x (.agg [.dat (.int .i64 a), .dat (.int .i64 b)]) v K = mapUpdatew P τ own x (.dat (endD a b)) v K := rfl

abbrev tabWE : List (Nat × Contract) := [(36, dataC checkR), (48, dataC waitsR), (49, dataC targetR), (50, dataC holdR)]
theorem tabWE_ok : OkG Try.prog (tbl tabWE) := okG_cons check_ok (okG_cons waits_ok (okG_cons resource_ok (okG_cons holdings_ok okG_nil)))
theorem edges_ok : OkF Try.prog 24 (dataC edgesR) := by
  refine okF_data Try.func24 rfl (by decide) ?_
  rintro ds v ⟨s, rfl, hf, rfl⟩
  refine sem_of_awp (Γ := tbl tabWE) tabWE_ok _ _ _ ?_
  simp only [go_sem, Int.reduceEq, Int.reduceLT, Int.reduceLE, eq_self, Int.natCast_nonneg, Int.toNat_natCast, Try.ntmps24, sysD]
  refine call_data checkR (by simp) [sysD s] _ rfl ⟨s, rfl, hf, rfl⟩ (.inl rfl) ?_
  by_cases h : checkE s = 0
  case neg =>
    unfold edgesV
    rw [if_pos h]
    simp only [go_sem, Int.reduceEq, Int.reduceLT, Int.reduceLE, eq_self, Int.natCast_nonneg, Int.toNat_natCast, h]
    refine post_res (.inl rfl) [.tmp 2, .tmp 3] rfl ?_
    simp only [go_sem]
    exact le_fin (by simp only [go_sem]) (by simp only [go_sem])
  unfold edgesV
  rw [if_neg (by rw [h]; decide)]
  have hg := good_of h
  have hfit := eFit hg
  generalize hv : edC s 0 s.classes [] = V at *
  have hnp := hg.np
  have hnl := hg.nl
  have hnc := hg.nc
  simp only [go_sem, Int.reduceEq, Int.reduceLT, Int.reduceLE, eq_self, Int.natCast_nonneg, Int.toNat_natCast, h]
  refine sem_le (le_addnil 5 (some 4) rfl (Nat.zero_le _)) ?_
  simp only [go_sem, Int.reduceEq, Int.reduceLT, Int.reduceLE, eq_self, Int.natCast_nonneg, Int.toNat_natCast]
  refine sem_loop (fun p : Nat × List PEdge => ⟨slotsOf 75 [(1, .ptr 0 0 0), (5, .sl 2 0 p.2.length), (6, .map 1), (21, .dat (.sl (some 4) (s.classes.map clsD))), (22, .dat (.int .i64 s.classes.length)), (23, .dat (.int .i64 p.1))], [sysO s, .map (seenM p.2), .row (some 4) (edgesD p.2)], 0, []⟩)
    (fun p => p.1 ≤ s.classes.length ∧ p.2.length ≤ 144 * p.1 ∧ edC s p.1 (s.classes.drop p.1) p.2 = V) (fun p => s.classes.length - p.1) (0, []) ⟨Nat.zero_le _, Nat.zero_le _, hv⟩ ?_ ?_
  · exact le_slots' (by simp only [go_sem, Int.natCast_zero])
  · rintro ⟨i, acc⟩ ⟨hi, ha, hI⟩
    simp only at hi ha hI
    refine sem_of_awp (Γ := tbl tabWE) tabWE_ok _ _ _ ?_
    cases hd : s.classes.drop i with
    | nil =>
      have := end_of_drop hd hi
      have hk2 : ¬ (i : Int) < s.classes.length := by omega
      rw [hd, edC] at hI
      subst hI
      simp only [go_sem, Int.reduceEq, Int.reduceLT, Int.reduceLE, eq_self, Int.natCast_nonneg, Int.toNat_natCast, hk2]
      refine post_res (.inl rfl) [.tmp 2, .tmp 3] rfl ?_
      simp only [go_sem]
      refine Le.trans (le_freeze 2 (ag := some 4) rfl (Nat.zero_le _)) ?_
      simp only [go_sem, edges_take, edges_len, Nat.le_refl]
      exact le_fin (by simp only [go_sem]) (by simp only [go_sem])
    | cons c q =>
      have hlt := lt_of_drop hd
      have hk2 : (i : Int) < s.classes.length := by omega
      have hk0 : (0 : Int) ≤ i := Int.natCast_nonneg i
      have hn := nth_of_drop (f := clsD) hd
      have hcg := hg.cls c (mem_of_drop hd)
      have hl12 := hcg.l12
      have hget : s.classes.getD i default = c := by rw [List.getD_eq_getElem?_getD, get_of_drop hd]; rfl
      rw [hd, edC] at hI
      simp only [go_sem, Int.reduceEq, Int.reduceLT, Int.reduceLE, eq_self, Int.natCast_nonneg, Int.toNat_natCast, hk2, hk0, hn, hlt, clsD, stepsD]
      refine sem_loop (fun p : Nat × List PEdge => ⟨slotsOf 75 [(1, .ptr 0 0 0), (5, .sl 2 0 p.2.length), (6, .map 1), (21, .dat (.sl (some 4) (s.classes.map clsD))), (22, .dat (.int .i64 s.classes.length)), (23, .dat (.int .i64 i)),
          (7, .dat (.int .i64 i)), (31, .dat (.sl (some 4) (c.steps.map stepD))), (32, .dat (.int .i64 c.steps.length)), (33, .dat (.int .i64 p.1))], [sysO s, .map (seenM p.2), .row (some 4) (edgesD p.2)], 0, []⟩)
        (fun p => p.1 ≤ c.steps.length ∧ p.2.length ≤ 144 * i + 12 * p.1 ∧ edC s (i + 1) q (edS s c i p.1 (c.steps.drop p.1) p.2) = V) (fun p => c.steps.length - p.1) (0, acc) ⟨Nat.zero_le _, by simp only; omega, hI⟩ ?_ ?_
      · exact le_slots' (by simp only [go_sem, Int.natCast_zero])
      · rintro ⟨k, acc⟩ ⟨hk, ha, hI⟩
        simp only at hk ha hI
        refine sem_of_awp (Γ := tbl tabWE) tabWE_ok _ _ _ ?_
        cases hd2 : c.steps.drop k with
        | nil =>
          have := end_of_drop hd2 hk
          have hj2 : ¬ (k : Int) < c.steps.length := by omega
          rw [hd2, edS] at hI
          simp only [go_sem, Int.reduceEq, Int.reduceLT, Int.reduceLE, eq_self, Int.natCast_nonneg, Int.toNat_natCast, hj2]
          refine ⟨inR_i64.2 (by omega), (i + 1, acc), ⟨by simp only; omega, by simp only; omega, by simp only; rw [drop_cons hd]; exact hI⟩, by simp only; omega, ?_⟩
          exact le_slots' (by simp only [go_sem, Int.natCast_add, Int.cast_ofNat_Int])
        | cons x q2 =>
          have hlt2 := lt_of_drop hd2
          have hj2 : (k : Int) < c.steps.length := by omega
          have hj0 : (0 : Int) ≤ k := Int.natCast_nonneg k
          have hn2 := nth_of_drop (f := stepD) hd2
          have hxp := hcg.pre x (mem_of_drop hd2)
          rw [hd2, edS] at hI
          simp only [go_sem, Int.reduceEq, Int.reduceLT, Int.reduceLE, eq_self, Int.natCast_nonneg, Int.toNat_natCast, hj2, hj0, hlt2, hn2, stepD]
          refine call_data waitsR (by simp) [sysD s, stepD x] _ rfl ⟨s, x, rfl, hg, hxp, rfl⟩ (.inl rfl) ?_
          cases hw : waitB s x with
          | false =>
            rw [hw, if_neg (by decide)] at hI
            simp only [go_sem, Int.reduceEq, Int.reduceLT, Int.reduceLE, eq_self, Int.natCast_nonneg, Int.toNat_natCast, hw]
            refine ⟨inR_i64.2 (by omega), (k + 1, acc), ⟨by simp only; omega, by simp only; omega, by simp only; rw [drop_cons hd2]; exact hI⟩, by simp only; omega, ?_⟩
            refine le_end (own := [_, _, _]) (ex := [_]) (Nat.zero_le _) ?_ ?_ ?_
            · simp only [go_sem, Int.natCast_add, Int.cast_ofNat_Int]
            · simp only [go_sem]
            · simp only [go_sem, Obj.under, AV.unders, AV.under]
          | true =>
            rw [hw, if_pos rfl] at hI
            simp only [go_sem, Int.reduceEq, Int.reduceLT, Int.reduceLE, eq_self, Int.natCast_nonneg, Int.toNat_natCast, hw]
            refine call_data targetR (by simp) [sysD s, stepD x] _ rfl ⟨s, x, rfl, hg, hxp, rfl⟩ (.inl rfl) ?_
            have hT := targetN_range hg hxp
            generalize targetN s x = T at *
            simp only [go_sem, Int.reduceEq, Int.reduceLT, Int.reduceLE, eq_self, Int.natCast_nonneg, Int.toNat_natCast]
            refine call_data holdR (by simp) [sysD s, .int .i64 i, .int .i64 k] _ rfl ⟨s, i, k, rfl, hf, h, hlt, by rw [hget]; omega, rfl⟩ (.inl rfl) ?_
            rw [hget]
            have hHl := holdL_len s c i (c.steps.take k)
            have hHr := fun f => holdL_range (s := s) (c := c) (i := i) (L := c.steps.take k) (f := f) hlt
            generalize holdL s c i (c.steps.take k) = H at *
            simp only [go_sem, Int.reduceEq, Int.reduceLT, Int.reduceLE, eq_self, Int.natCast_nonneg, Int.toNat_natCast, ints_len, List.length_map]
            refine sem_loop (fun p : Nat × List PEdge => ⟨slotsOf 75 [(1, .ptr 0 0 0), (5, .sl 2 0 p.2.length), (6, .map 1), (21, .dat (.sl (some 4) (s.classes.map clsD))), (22, .dat (.int .i64 s.classes.length)), (23, .dat (.int .i64 i)),
                (7, .dat (.int .i64 i)), (31, .dat (.sl (some 4) (c.steps.map stepD))), (32, .dat (.int .i64 c.steps.length)), (33, .dat (.int .i64 k)), (8, .dat (.int .i64 k)), (10, .dat (.int .i64 T)),
                (48, .dat (.sl none (intsD H))), (49, .dat (.int .i64 H.length)), (50, .dat (.int .i64 p.1))], [sysO s, .map (seenM p.2), .row (some 4) (edgesD p.2)], 0, []⟩)
              (fun p => p.1 ≤ H.length ∧ p.2.length ≤ 144 * i + 12 * k + p.1 ∧ edC s (i + 1) q (edS s c i (k + 1) q2 (addAll T i k (H.drop p.1) p.2)) = V) (fun p => H.length - p.1) (0, acc) ⟨Nat.zero_le _, by simp only; omega, hI⟩ ?_ ?_
            · refine le_end (own := [_, _, _]) (ex := [_]) (Nat.zero_le _) ?_ ?_ ?_
              · simp only [go_sem, Int.natCast_zero]
              · simp only [go_sem]
              · simp only [go_sem, Obj.under, AV.unders, AV.under]
            · rintro ⟨m, acc⟩ ⟨hm, ha, hI⟩
              simp only at hm ha hI
              refine sem_of_awp (Γ := tbl tabWE) tabWE_ok _ _ _ ?_
              cases hd3 : H.drop m with
              | nil =>
                have := end_of_drop hd3 hm
                have hm2 : ¬ (m : Int) < H.length := by omega
                rw [hd3, addAll] at hI
                simp only [go_sem, Int.reduceEq, Int.reduceLT, Int.reduceLE, eq_self, Int.natCast_nonneg, Int.toNat_natCast, hm2]
                refine ⟨inR_i64.2 (by omega), (k + 1, acc), ⟨by simp only; omega, by simp only; omega, by simp only; rw [drop_cons hd2]; exact hI⟩, by simp only; omega, ?_⟩
                exact le_slots' (by simp only [go_sem, Int.natCast_add, Int.cast_ofNat_Int])
              | cons f q3 =>
                have hlt3 := lt_of_drop hd3
                have hm2 : (m : Int) < H.length := by omega
                have hm0 : (0 : Int) ≤ m := Int.natCast_nonneg m
                have hn3 := nth_of_drop (f := D.int .i64) hd3
                have hF : 0 ≤ f ∧ f ≤ 100 := by
                  obtain ⟨r, hr, hr2, _⟩ := hHr f (mem_of_drop hd3)
                  omega
                have hkeys := fun t => seen_keys t (l := acc) fun e he => hfit e (by rw [← hI]; exact edC_sub s (edS_sub s c i (addAll_sub he)))
                have hkey := fun t => isKey_end t hF hT
                have hget2 := seen_get acc f T
                have hset := fun hh => seen_set (l := acc) (a := f) (b := T) hh ⟨f, T, i, k⟩ rfl rfl
                rw [hd3, addAll, addE] at hI
                simp only at hI
                simp only [go_sem, Int.reduceEq, Int.reduceLT, Int.reduceLE, eq_self, Int.natCast_nonneg, Int.toNat_natCast, hm2, hm0, hn3, hlt3, lookupw_end, hkey, hkeys, hget2, repl2]
                cases hh : hasE acc f T with
                | true =>
                  rw [hh, if_pos rfl] at hI
                  simp only [go_sem, Int.reduceEq, Int.reduceLT, Int.reduceLE, eq_self, Int.natCast_nonneg, Int.toNat_natCast, hh]
                  refine ⟨inR_i64.2 (by omega), (m + 1, acc), ⟨by simp only; omega, by simp only; omega, by simp only; rw [drop_cons hd3]; exact hI⟩, by simp only; omega, ?_⟩
                  refine le_end (own := [_, _, _]) (ex := [_]) (Nat.zero_le _) ?_ ?_ ?_
                  · simp only [go_sem, Int.natCast_add, Int.cast_ofNat_Int]
                  · simp only [go_sem]
                  · simp only [go_sem, Obj.under, AV.unders, AV.under]
                | false =>
                  rw [hh, if_neg (by decide)] at hI
                  have hset := hset hh
                  simp only [go_sem, Int.reduceEq, Int.reduceLT, Int.reduceLE, eq_self, Int.natCast_nonneg, Int.toNat_natCast, hh, mapUpdatew_end, hkey, hkeys, hset, edges_take, edges_len]
                  have e : edgesD (acc ++ [(⟨f, T, i, k⟩ : PEdge)]) = edgesD acc ++ [.agg [.int .i64 f, .int .i64 T, .int .i64 i, .int .i64 k]] := by rw [← edges_snoc]; rfl
                  refine ⟨by omega, by omega, inR_i64.2 (by omega), (m + 1, acc ++ [⟨f, T, i, k⟩]), ⟨by simp only; omega, by simp; omega, by simp only; rw [drop_cons hd3]; exact hI⟩, by simp only; omega, ?_⟩
                  simp only [e]
                  refine le_end (own := [_, _, _]) (ex := [_, _]) (Nat.zero_le _) ?_ ?_ ?_
                  · simp only [go_sem, Int.natCast_add, Int.cast_ofNat_Int, List.length_append, List.length_cons, List.length_nil, Nat.zero_add]
                  · simp only [go_sem]
                  · simp only [go_sem, Obj.under, AV.unders, AV.under]
end Go.AM

set_option maxRecDepth 8000
set_option maxHeartbeats 1000000
namespace Go.AM
open Go Go.Proofs

theorem eqOk_0 : eqOk Try.prog 46 (.dat (.agg [.int .i64 0, .int .i64 0, .int .i64 0, .int .i64 0])) (.dat (.agg [.int .i64 0, .int .i64 0, .int .i64 0, .int .i64 0])) = true := by kernel_rfl
theorem nums_edge {e : PEdge} (h : e.fit) : numsD [.int .i64 e.src, .int .i64 e.dst, .int .i64 e.cls, .int .i64 e.step] [.int .i64 0, .int .i64 0, .int .i64 0, .int .i64 0] := by
  obtain ⟨h1, h2, h3, h4⟩ := h
  exact ⟨rfl, inR_i64.2 (by omega), rfl, inR_i64.2 (by omega), rfl, inR_i64.2 (by omega), rfl, inR_i64.2 (by omega), trivial⟩
def sameER (ds : List D) (v : AV) : Prop := ∃ (ag : Option Nat) (l : List PEdge), (ag = some 4 ∨ l = []) ∧ l.length ≤ 10000 ∧ (∀ e ∈ l, e.fit) ∧ ds = [.sl ag (edgesD l), .sl ag (edgesD l)] ∧ v = .dat (.bool true)
theorem edS_len (s : PSys) (c : PCls) (i : Nat) : ∀ (k : Nat) (L : List PStep) (acc : List PEdge), (edS s c i k L acc).length ≤ acc.length + L.length * (s.pools.length + s.locks.length + 1)
  | _, [], acc => by simp [edS]
  | k, x :: r, acc => by
    have hA : ∀ (t i k : Int) (H : List Int) (acc : List PEdge), (addAll t i k H acc).length ≤ acc.length + H.length := by
      intro t i k H
      induction H with
      | nil => intro acc; exact Nat.le_refl _
      | cons f r ih => intro acc; have := ih (addE acc ⟨f, t, i, k⟩); have := addE_len acc ⟨f, t, i, k⟩; simp only [addAll, List.length_cons]; omega
    rw [edS]
    refine Nat.le_trans (edS_len s c i (k + 1) r _) ?_
    have : (if waitB s x = true then addAll (targetN s x) i k (holdL s c i (c.steps.take k)) acc else acc).length ≤ acc.length + (s.pools.length + s.locks.length + 1) := by
      split
      · exact Nat.le_trans (hA _ _ _ _ _) (Nat.add_le_add_left (holdL_len s c i _) _)
      · omega
    rw [List.length_cons, Nat.succ_mul]; omega
theorem edC_len (s : PSys) (n : Nat) : ∀ (i : Nat) (L : List PCls) (acc : List PEdge), (∀ c ∈ L, c.steps.length ≤ n) → (edC s i L acc).length ≤ acc.length + L.length * (n * (s.pools.length + s.locks.length + 1))
  | _, [], acc, _ => by simp [edC]
  | i, c :: r, acc, h => by
    rw [edC]
    refine Nat.le_trans (edC_len s n (i + 1) r _ (fun c hc => h c (List.mem_cons_of_mem _ hc))) ?_
    have h1 := edS_len s c i 0 c.steps acc
    have h2 := Nat.mul_le_mul_right (s.pools.length + s.locks.length + 1) (h c (List.mem_cons_self ..))
    rw [List.length_cons, Nat.succ_mul]; omega
end Go.AM

set_option maxRecDepth 8000
set_option maxHeartbeats 2000000
namespace Go.AM
open Go Go.Proofs

def impB (s : PSys) (x : PStep) : Bool :=
  if x.kind = 1 then !x.deep && decide ((s.pools.getD x.on.toNat default).size - (s.pools.getD x.on.toNat default).res < x.cnt)
  else if x.kind = 5 then decide ((s.classes.getD x.on.toNat default).workers = 0) else false
def impR (ds : List D) (v : AV) : Prop := ∃ (s : PSys) (x : PStep), ds = [sysD s, stepD x] ∧ s.good ∧ preE s x = 0 ∧ v = .dat (.bool (impB s x))
theorem pool_at {s : PSys} (hg : s.good) {x : PStep} (hp : preE s x = 0) (hk : x.kind = 1) : ∃ i : Nat, x.on = i ∧ i < s.pools.length := by
  obtain ⟨⟨k1, k2⟩, ⟨o1, o2⟩, hc, hc0⟩ := preE_0 hp
  rw [hk] at o2
  simp [mostE] at o2
  exact ⟨x.on.toNat, by omega, by omega⟩
theorem cls_at {s : PSys} (hg : s.good) {x : PStep} (hp : preE s x = 0) (hk : x.kind = 5) : ∃ i : Nat, x.on = i ∧ i < s.classes.length := by
  obtain ⟨⟨k1, k2⟩, ⟨o1, o2⟩, hc, hc0⟩ := preE_0 hp
  rw [hk] at o2
  simp [mostE] at o2
  exact ⟨x.on.toNat, by omega, by omega⟩
theorem impossible_ok : OkF Try.prog 39 (dataC impR) := by
  refine okF_data Try.func39 rfl (by decide) ?_
  rintro ds v ⟨s, x, rfl, hg, hp, rfl⟩
  refine sem_of_awp (Γ := tbl []) okG_nil _ _ _ ?_
  generalize hv : impB s x = V
  have fin : ∀ s own (b c : Bool), b = c → s.getD 4 .top = .dat (.bool b) → post Try.prog Try.f39 (.dat (.bool c)) [] [] .ret ⟨s, own, 0, []⟩ := fun s own b c e h => by
    subst e
    exact post_data (.inl rfl) [4] rfl trivial (by simp only [tmpsOf, h]; rfl)
  have hpa := pool_at hg hp
  have hca := cls_at hg hp
  obtain ⟨⟨k1, k2⟩, ⟨o1, o2⟩, hc, hc0⟩ := preE_0 hp
  obtain ⟨kind, on, cnt, deep⟩ := x
  simp only at *
  unfold impB at hv
  simp only at hv
  have hk : kind = 1 ∨ kind = 2 ∨ kind = 3 ∨ kind = 4 ∨ kind = 5 := by omega
  rcases hk with rfl | rfl | rfl | rfl | rfl
  · rw [if_pos rfl] at hv
    obtain ⟨i, rfl, hi⟩ := hpa rfl
    have hi2 : (i : Int) < s.pools.length := by omega
    have hnp : D.nth (s.pools.map poolD) i = poolD (s.pools.getD i default) := D.nth_map hi
    rw [Int.toNat_natCast] at hv
    have hpb := hg.pool (s.pools.getD i default) (by rw [List.getD_eq_getElem?_getD, List.getElem?_eq_getElem hi]; exact List.getElem_mem hi)
    generalize s.pools.getD i default = p at *
    unfold PPool.bad at hpb
    simp only [go_sem, Int.reduceEq, Int.reduceLT, Int.reduceLE, eq_self, Int.natCast_nonneg, Int.toNat_natCast, Try.ntmps39, sysD, stepD]
    refine sem_draw (pf := []) (Γ := tbl []) mixed okG_nil pureNo [0, 1, 2, 3, 4, 5, 6, 7, 8, 9, 10, 11, 12, 13, 14, 15, 16, 17, 18, 19, 20, 21, 22, 23] (by kernel_rfl) ?_
    cases deep with
    | true =>
      simp only [go_sem, Int.reduceEq, Int.reduceLT, Int.reduceLE, eq_self, Int.natCast_nonneg, Int.toNat_natCast, chainI]
      exact fin _ _ _ _ (by rw [← hv]) (by rfl)
    | false =>
      simp only [go_sem, Int.reduceEq, Int.reduceLT, Int.reduceLE, eq_self, Int.natCast_nonneg, Int.toNat_natCast, chainI, hi, hi2, hnp, poolD]
      refine ⟨inR_i64.2 (by omega), ?_⟩
      exact fin _ _ _ _ (by rw [← hv, Bool.not_false, Bool.true_and]) (by rfl)
  · simp only [go_sem, Int.reduceEq, Int.reduceLT, Int.reduceLE, eq_self, Int.natCast_nonneg, Int.toNat_natCast, Try.ntmps39, sysD, stepD]
    exact fin _ _ _ _ (by rw [← hv]) (by rfl)
  · simp only [go_sem, Int.reduceEq, Int.reduceLT, Int.reduceLE, eq_self, Int.natCast_nonneg, Int.toNat_natCast, Try.ntmps39, sysD, stepD]
    exact fin _ _ _ _ (by rw [← hv]) (by rfl)
  · simp only [go_sem, Int.reduceEq, Int.reduceLT, Int.reduceLE, eq_self, Int.natCast_nonneg, Int.toNat_natCast, Try.ntmps39, sysD, stepD]
    exact fin _ _ _ _ (by rw [← hv]) (by rfl)
  · obtain ⟨i, rfl, hi⟩ := hca rfl
    have hi2 : (i : Int) < s.classes.length := by omega
    have hnp : D.nth (s.classes.map clsD) i = clsD (s.classes.getD i default) := D.nth_map hi
    rw [if_neg (by omega), if_pos rfl, Int.toNat_natCast] at hv
    simp only [go_sem, Int.reduceEq, Int.reduceLT, Int.reduceLE, eq_self, Int.natCast_nonneg, Int.toNat_natCast, Try.ntmps39, sysD, stepD, hi, hi2, hnp, clsD]
    exact fin _ _ _ _ hv (by rfl)
def fstL {α : Type} (p : α → Bool) : Nat → List α → Option Nat
  | _, [] => none
  | k, x :: r => if p x = true then some k else fstL p (k + 1) r
def fstI : Option Nat → Int
  | some k => (k : Int)
  | none => -1
theorem fstL_none {α : Type} {p : α → Bool} : ∀ {k : Nat} {L : List α}, fstL p k L = none ↔ ∀ x ∈ L, p x = false
  | _, [] => by simp [fstL]
  | k, x :: r => by
    cases h : p x with
    | true => simp [fstL, h]
    | false => simp [fstL, h, fstL_none (k := k + 1) (L := r)]
def fstC (s : PSys) : Nat → List PCls → Option (Nat × Nat)
  | _, [] => none
  | i, c :: r => match fstL (impB s) 0 c.steps with | some k => some (i, k) | none => fstC s (i + 1) r
def fstV : Option (Nat × Nat) → AV
  | some (i, k) => .tup [.dat (.int .i64 (i : Int)), .dat (.int .i64 (k : Int)), .dat (.bool true)]
  | none => .tup [.dat (.int .i64 0), .dat (.int .i64 0), .dat (.bool false)]
def impO (s : PSys) : Option (Nat × Nat) := if checkE s ≠ 0 then none else fstC s 0 s.classes
def impVR (ds : List D) (v : AV) : Prop := ∃ s : PSys, ds = [sysD s] ∧ s.fit ∧ v = fstV (impO s)
def clIR (xs : List AV) (obs : List Obj) (v0 : AV) (obs' ex : List Obj) (mv0 : List Nat) : Prop := ∃ (s : PSys) (x : PStep), s.good ∧ preE s x = 0 ∧
  xs = [.dat (stepD x), .ptr 0 0 0] ∧ obs = [sysO s] ∧ v0 = .dat (.bool (impB s x)) ∧ obs' = obs ∧ ex = [] ∧ mv0 = []
theorem imp1_ok : OkF Try.prog 38 (lentC clIR) := by
  refine okF_lent Try.func38 rfl (by decide) ?_
  rintro xs obs v0 obs' ex mv0 ⟨s, x, hg, hp, rfl, rfl, rfl, rfl, rfl, rfl⟩
  refine sem_of_awp (Γ := tbl [(39, dataC impR)]) (okG_cons impossible_ok okG_nil) _ _ _ ?_
  simp only [go_sem, Int.reduceEq, Int.reduceLT, Int.reduceLE, eq_self, Int.natCast_nonneg, Int.toNat_natCast, Try.ntmps38, sysO, stepD]
  refine call_data impR (by simp) [sysD s, stepD x] _ rfl ⟨s, x, rfl, hg, hp, rfl⟩ (.inl rfl) ?_
  simp only [go_sem, Int.reduceEq, Int.reduceLT, Int.reduceLE, eq_self, Int.natCast_nonneg, Int.toNat_natCast]
  refine post_resO (.inl rfl) [.tmp 3] rfl (fun _ h => h) ?_
  simp only [go_sem]
  refine le_end (own := [_]) (ex := [_]) (Nat.le_refl _) ?_ ?_ ?_
  · simp only [go_sem]
  · simp only [go_sem]
  · simp only [go_sem, Obj.under, AV.unders, AV.under]
def ixIR (xs : List AV) (obs : List Obj) (v0 : AV) (obs' ex : List Obj) (mv0 : List Nat) : Prop := ∃ (s : PSys) (L : List PStep), s.good ∧ (∀ x ∈ L, preE s x = 0) ∧ L.length ≤ 100 ∧
  xs = [.dat (stepsD L), .fn 38 [.ptr 0 0 0]] ∧ obs = [sysO s] ∧ v0 = .dat (.int .i64 (fstI (fstL (impB s) 0 L))) ∧ obs' = obs ∧ ex = [] ∧ mv0 = []
abbrev tabIS : List (Nat × Contract) := [(38, pureOf (lentC clIR))]
theorem tabIS_ok : OkG Try.prog (tbl tabIS) := okG_cons (okF_pureOf imp1_ok) okG_nil
theorem indexImp_ok : OkF Try.prog 37 (lentC ixIR) := by
  refine okF_lent Try.func37 rfl (by decide) ?_
  rintro xs obs v0 obs' ex mv0 ⟨s, L, hg, hL, hl, rfl, rfl, rfl, rfl, rfl, rfl⟩
  generalize hV : fstL (impB s) 0 L = V
  refine sem_of_awp (Γ := tbl tabIS) tabIS_ok _ _ _ ?_
  simp only [go_sem, Int.reduceEq, Int.reduceLT, Int.reduceLE, eq_self, Int.natCast_nonneg, Int.toNat_natCast, Try.ntmps37, stepsD, List.length_map]
  refine sem_loop (fun k : Nat => ⟨slotsOf 19 [(0, .dat (stepsD L)), (1, .fn 38 [.ptr 0 0 0]), (7, .dat (.int .i64 L.length)), (8, .dat (.int .i64 k))], [sysO s], 1, []⟩)
    (fun k => k ≤ L.length ∧ fstL (impB s) k (L.drop k) = V) (fun k => L.length - k) 0 ⟨Nat.zero_le _, hV⟩ ?_ ?_
  · exact le_slots' (by simp only [go_sem, Int.natCast_zero, stepsD])
  rintro k ⟨hk, hV⟩
  refine sem_of_awp (Γ := tbl tabIS) tabIS_ok _ _ _ ?_
  cases hd : L.drop k with
  | nil =>
    have := end_of_drop hd hk
    have hk2 : ¬ (k : Int) < L.length := by omega
    rw [hd, fstL] at hV
    simp only [go_sem, Int.reduceEq, Int.reduceLT, Int.reduceLE, eq_self, Int.natCast_nonneg, Int.toNat_natCast, hk2]
    exact post_own (.inl rfl) [4] rfl (by rw [← hV]; simp only [tmpsOf]; rfl) (fun _ h => h)
  | cons x r =>
    have hlt := lt_of_drop hd
    have hk2 : (k : Int) < L.length := by omega
    have hk0 : (0 : Int) ≤ k := Int.natCast_nonneg k
    have hn := nth_of_drop (f := stepD) hd
    have hx := hL x (mem_of_drop hd)
    rw [hd, fstL] at hV
    simp only [go_sem, Int.reduceEq, Int.reduceLT, Int.reduceLE, eq_self, Int.natCast_nonneg, Int.toNat_natCast, hk2, hk0, hn, hlt, stepsD, List.length_map]
    refine callw_caps (call_lentP clIR (by simp) [0] ⟨s, x, hg, hx, rfl, rfl, rfl, rfl, rfl, rfl⟩ (by decide) (by simp) rfl rfl (by simp only [go_sem, stepD]) (by simp only [go_sem, List.mem_cons, List.not_mem_nil, or_false, forall_eq_or_imp, forall_eq, Obj.under, AV.unders, AV.under]) (fun j hj => by
      match j, hj with
      | 0, _ => rfl) ?_)
    cases hp : impB s x with
    | true =>
      rw [hp, if_pos rfl] at hV
      simp only [go_sem, Int.reduceEq, Int.reduceLT, Int.reduceLE, eq_self, Int.natCast_nonneg, Int.toNat_natCast, hp]
      exact post_own (.inl rfl) [4] rfl (by rw [← hV]; simp only [tmpsOf]; rfl) (fun _ h => h)
    | false =>
      rw [hp, if_neg (by decide)] at hV
      simp only [go_sem, Int.reduceEq, Int.reduceLT, Int.reduceLE, eq_self, Int.natCast_nonneg, Int.toNat_natCast, hp]
      refine ⟨inR_i64.2 (by omega), k + 1, ⟨by omega, by rw [drop_cons hd]; exact hV⟩, by omega, ?_⟩
      exact le_slots' (by simp only [go_sem, Int.natCast_add, Int.cast_ofNat_Int, stepsD])
abbrev tabIM : List (Nat × Contract) := [(36, dataC checkR), (37, pureOf (lentC ixIR))]
theorem tabIM_ok : OkG Try.prog (tbl tabIM) := okG_cons check_ok (okG_cons (okF_pureOf indexImp_ok) okG_nil)
theorem Impossible_ok : OkF Try.prog 14 (dataC impVR) := by
  refine okF_data Try.func14 rfl (by decide) ?_
  rintro ds v ⟨s, rfl, hf, rfl⟩
  refine sem_of_awp (Γ := tbl tabIM) tabIM_ok _ _ _ ?_
  simp only [go_sem, Int.reduceEq, Int.reduceLT, Int.reduceLE, eq_self, Int.natCast_nonneg, Int.toNat_natCast, Try.ntmps14, sysD]
  refine call_data checkR (by simp) [sysD s] _ rfl ⟨s, rfl, hf, rfl⟩ (.inl rfl) ?_
  unfold impO
  by_cases h : checkE s = 0
  case neg =>
    rw [if_pos h]
    simp only [go_sem, Int.reduceEq, Int.reduceLT, Int.reduceLE, eq_self, Int.natCast_nonneg, Int.toNat_natCast, h]
    refine post_res (.inl rfl) [.tmp 2, .tmp 3, .tmp 4] rfl ?_
    simp only [go_sem, fstV]
    exact le_fin (by simp only [go_sem]) (by simp only [go_sem])
  rw [if_neg (by rw [h]; decide)]
  have hg := good_of h
  have hnc := hg.nc
  generalize hV : fstC s 0 s.classes = V
  simp only [go_sem, Int.reduceEq, Int.reduceLT, Int.reduceLE, eq_self, Int.natCast_nonneg, Int.toNat_natCast, h, List.length_map]
  refine sem_loop (fun k : Nat => ⟨slotsOf 29 [(1, .ptr 0 0 0), (12, .dat (.int .i64 s.classes.length)), (13, .dat (.int .i64 k))], [sysO s], 0, []⟩)
    (fun k => k ≤ s.classes.length ∧ fstC s k (s.classes.drop k) = V) (fun k => s.classes.length - k) 0 ⟨Nat.zero_le _, hV⟩ ?_ ?_
  · exact le_slots' (by simp only [go_sem, Int.natCast_zero])
  rintro k ⟨hk, hV⟩
  refine sem_of_awp (Γ := tbl tabIM) tabIM_ok _ _ _ ?_
  cases hd : s.classes.drop k with
  | nil =>
    have := end_of_drop hd hk
    have hk2 : ¬ (k : Int) < s.classes.length := by omega
    rw [hd, fstC] at hV
    rw [← hV]
    simp only [go_sem, Int.reduceEq, Int.reduceLT, Int.reduceLE, eq_self, Int.natCast_nonneg, Int.toNat_natCast, hk2]
    refine post_res (.inl rfl) [.tmp 2, .tmp 3, .tmp 4] rfl ?_
    simp only [go_sem, fstV]
    exact le_fin (by simp only [go_sem]) (by simp only [go_sem])
  | cons c r =>
    have hlt := lt_of_drop hd
    have hk2 : (k : Int) < s.classes.length := by omega
    have hk0 : (0 : Int) ≤ k := Int.natCast_nonneg k
    have hn := nth_of_drop (f := clsD) hd
    have hc := hg.cls c (mem_of_drop hd)
    have h12 := hc.l12
    rw [hd, fstC] at hV
    simp only [go_sem, Int.reduceEq, Int.reduceLT, Int.reduceLE, eq_self, Int.natCast_nonneg, Int.toNat_natCast, hk2, hk0, hn, hlt, clsD, List.length_map]
    refine call_lentP ixIR (by simp) [0] ⟨s, c.steps, hg, hc.pre, by omega, rfl, rfl, rfl, rfl, rfl, rfl⟩ (by decide) (by simp) rfl rfl (by simp only [go_sem, stepsD]) (by simp only [go_sem, List.mem_cons, List.not_mem_nil, or_false, forall_eq_or_imp, forall_eq, Obj.under, AV.unders, AV.under]) (fun j hj => by
      match j, hj with
      | 0, _ => rfl) ?_
    cases hp : fstL (impB s) 0 c.steps with
    | some j =>
      rw [hp] at hV
      have hj0 : (0 : Int) ≤ j := Int.natCast_nonneg j
      simp only [go_sem, Int.reduceEq, Int.reduceLT, Int.reduceLE, eq_self, Int.natCast_nonneg, Int.toNat_natCast, fstI, hj0]
      refine post_res (.inl rfl) [.tmp 2, .tmp 3, .tmp 4] rfl ?_
      rw [← hV]
      simp only [go_sem, fstV]
      exact le_fin (by simp only [go_sem]) (by simp only [go_sem])
    | none =>
      rw [hp] at hV
      simp only [go_sem, Int.reduceEq, Int.reduceLT, Int.reduceLE, eq_self, Int.natCast_nonneg, Int.toNat_natCast, fstI]
      refine ⟨inR_i64.2 (by omega), k + 1, ⟨by omega, by rw [drop_cons hd]; exact hV⟩, by omega, ?_⟩
      exact le_slots' (by simp only [go_sem, Int.natCast_add, Int.cast_ofNat_Int])
end Go.AM

set_option maxRecDepth 8000
set_option maxHeartbeats 2000000
namespace Go.AM
open Go Go.Proofs

abbrev tabRI : List (Nat × Contract) := [(32, dataC checkR)]
end Go.AM

namespace Go.AM

def Wk (E : List (Nat × Nat)) : Nat → Nat → Nat → Prop
  | 0, a, v => a = v
  | k + 1, a, v => ∃ u, (u, v) ∈ E ∧ Wk E k a u
theorem Wk_cons {E : List (Nat × Nat)} {a b : Nat} (h : (a, b) ∈ E) : ∀ {k v : Nat}, Wk E k b v → Wk E (k + 1) a v
  | 0, v, hw => ⟨a, by cases hw; exact h, rfl⟩
  | k + 1, v, ⟨u, hu, hw⟩ => ⟨u, hu, Wk_cons h hw⟩
theorem Wk_first {E : List (Nat × Nat)} {a : Nat} : ∀ {k v : Nat}, Wk E (k + 1) a v → ∃ b, (a, b) ∈ E ∧ Wk E k b v
  | 0, v, ⟨u, hu, hw⟩ => by cases hw; exact ⟨v, hu, rfl⟩
  | k + 1, v, ⟨u, hu, hw⟩ => by
    obtain ⟨b, hb, hw⟩ := Wk_first hw
    exact ⟨b, hb, u, hu, hw⟩
theorem Wk_app {E : List (Nat × Nat)} {a b : Nat} {j : Nat} (h : Wk E j a b) : ∀ {k v : Nat}, Wk E k b v → Wk E (j + k) a v
  | 0, v, hw => by cases hw; exact h
  | k + 1, v, ⟨u, hu, hw⟩ => ⟨u, hu, Wk_app h hw⟩
abbrev flip (E : List (Nat × Nat)) : List (Nat × Nat) := E.map fun p => (p.2, p.1)
def isSd (E : List (Nat × Nat)) (a v : Nat) (r : Int) : Prop := (r = -1 ∧ ∀ k, ¬ Wk E k a v) ∨ ∃ k : Nat, r = k ∧ Wk E k a v ∧ ∀ j, Wk E j a v → k ≤ j
theorem isSd_ex (E : List (Nat × Nat)) (a v : Nat) : ∃ r, isSd E a v r := by
  have key : ∀ n k, k ≤ n → Wk E k a v → ∃ k : Nat, Wk E k a v ∧ ∀ j, Wk E j a v → k ≤ j := by
    intro n
    induction n with
    | zero => intro k hk h; exact ⟨k, h, fun j _ => by omega⟩
    | succ n ih =>
      intro k hk h
      by_cases hh : ∃ j, j < k ∧ Wk E j a v
      · obtain ⟨j, hj, hw⟩ := hh
        exact ih j (by omega) hw
      · exact ⟨k, h, fun j hj => Nat.le_of_not_lt fun hlt => hh ⟨j, hlt, hj⟩⟩
  by_cases h : ∃ k, Wk E k a v
  · obtain ⟨k, hk⟩ := h
    obtain ⟨k, h1, h2⟩ := key k k (Nat.le_refl _) hk
    exact ⟨k, .inr ⟨k, rfl, h1, h2⟩⟩
  · exact ⟨-1, .inl ⟨rfl, fun k hk => h ⟨k, hk⟩⟩⟩
noncomputable def sd (E : List (Nat × Nat)) (a v : Nat) : Int := Classical.choose (isSd_ex E a v)
theorem sd_is (E : List (Nat × Nat)) (a v : Nat) : isSd E a v (sd E a v) := Classical.choose_spec (isSd_ex E a v)
theorem isSd_one {E : List (Nat × Nat)} {a v : Nat} {r r' : Int} (h : isSd E a v r) (h' : isSd E a v r') : r = r' := by
  rcases h with ⟨h1, h2⟩ | ⟨k, h1, h2, h3⟩ <;> rcases h' with ⟨g1, g2⟩ | ⟨j, g1, g2, g3⟩
  · rw [h1, g1]
  · exact absurd g2 (h2 j)
  · exact absurd h2 (g2 k)
  · have := h3 j g2; have := g3 k h2; omega
theorem sd_eq {E : List (Nat × Nat)} {a v : Nat} {r : Int} (h : isSd E a v r) : r = sd E a v := isSd_one h (sd_is E a v)
theorem sd_le {E : List (Nat × Nat)} {a v k : Nat} (h : Wk E k a v) : 0 ≤ sd E a v ∧ sd E a v ≤ k := by
  rcases sd_is E a v with ⟨h1, h2⟩ | ⟨j, h1, h2, h3⟩
  · exact absurd h (h2 k)
  · have := h3 k h; omega
theorem sd_wk {E : List (Nat × Nat)} {a v : Nat} (h : 0 ≤ sd E a v) : Wk E (sd E a v).toNat a v := by
  rcases sd_is E a v with ⟨h1, h2⟩ | ⟨j, h1, h2, h3⟩
  · omega
  · rw [h1]; exact h2
theorem sd_neg {E : List (Nat × Nat)} {a v : Nat} (h : sd E a v < 0) : sd E a v = -1 ∧ ∀ k, ¬ Wk E k a v := by
  rcases sd_is E a v with ⟨h1, h2⟩ | ⟨j, h1, h2, h3⟩
  · exact ⟨h1, h2⟩
  · omega
theorem sd_step {E : List (Nat × Nat)} {a v : Nat} (h : 0 < sd E a v) : ∃ b, (a, b) ∈ E ∧ sd E b v = sd E a v - 1 := by
  rcases sd_is E a v with ⟨h1, _⟩ | ⟨k, h1, h2, h3⟩
  · omega
  · obtain ⟨j, rfl⟩ : ∃ j, k = j + 1 := ⟨k - 1, by omega⟩
    obtain ⟨b, hb, hw⟩ := Wk_first h2
    refine ⟨b, hb, ?_⟩
    have h4 := sd_le hw
    have h5 := h3 _ (Wk_cons hb (sd_wk h4.1))
    omega
theorem nodup_le {q : List Nat} {n : Nat} (h : q.Nodup) (hn : ∀ v ∈ q, v < n) : q.length ≤ n := by
  have := List.Nodup.length_le_of_subset h (l₂ := List.range n) (fun v hv => List.mem_range.2 (hn v hv))
  simpa using this
theorem getD_set' {α : Type} {l : List α} {i j : Nat} {a d : α} : (l.set i a).getD j d = if i = j ∧ i < l.length then a else l.getD j d := by
  simp only [List.getD_eq_getElem?_getD, List.getElem?_set]
  by_cases h : i = j
  · subst h
    by_cases h2 : i < l.length
    · simp [h2]
    · simp [h2, List.getElem?_eq_none (Nat.le_of_not_lt h2)]
  · simp [h]

structure BInv (E : List (Nat × Nat)) (n a : Nat) (d : List Int) (q : List Nat) (at' : Nat) : Prop where
  ln : d.length = n
  qn : ∀ v ∈ q, v < n
  nd : q.Nodup
  le : at' ≤ q.length
  vis : ∀ v, v < n → (v ∈ q ↔ 0 ≤ d.getD v (-1))
  neg : ∀ v, v < n → -1 ≤ d.getD v (-1)
  one : ∀ v, v < n → ¬ v ∈ q → d.getD v (-1) = -1
  src : a ∈ q ∧ d.getD a (-1) = 0
  walk : ∀ v ∈ q, Wk E (d.getD v (-1)).toNat a v
  ub : ∀ v ∈ q, d.getD v (-1) < q.length
  mono : ∀ (i j u v : Nat), i ≤ j → q[i]? = some u → q[j]? = some v → d.getD u (-1) ≤ d.getD v (-1)
  bnd : ∀ v ∈ q, ∀ (x : Nat), q[at']? = some x → d.getD v (-1) ≤ d.getD x (-1) + 1
  don : ∀ (i u w : Nat), i < at' → q[i]? = some u → (u, w) ∈ E → w ∈ q ∧ d.getD w (-1) ≤ d.getD u (-1) + 1
structure BMid (E : List (Nat × Nat)) (n a : Nat) (d : List Int) (q : List Nat) (at' x : Nat) (T : List Nat) : Prop where
  inv : BInv E n a d q at'
  atx : q[at']? = some x
  mid : ∀ w ∈ T, w ∈ q ∧ d.getD w (-1) ≤ d.getD x (-1) + 1

section
variable {E : List (Nat × Nat)} {n a : Nat} {d : List Int} {q : List Nat} {at' x : Nat} {T : List Nat}

theorem BInv.qle (h : BInv E n a d q at') : q.length ≤ n := nodup_le h.nd h.qn
theorem BInv.init (ha : a < n) : BInv E n a ((List.replicate n (-1)).set a 0) [a] 0 where
  ln := by simp
  qn v hv := by simp at hv; subst hv; exact ha
  nd := by simp
  le := Nat.zero_le _
  vis v hv := by
    rw [getD_set']
    by_cases h : a = v
    · subst h; simp [ha]
    · rw [if_neg (fun hh => h hh.1)]
      simp [List.getD_eq_getElem?_getD, List.getElem?_replicate, hv, Ne.symm h]
  neg v hv := by
    rw [getD_set']
    split
    · omega
    · simp [List.getD_eq_getElem?_getD, List.getElem?_replicate, hv]
  one v hv h := by
    rw [getD_set', if_neg (by simp at h; omega)]
    simp [List.getD_eq_getElem?_getD, List.getElem?_replicate, hv]
  src := by rw [getD_set']; simp [ha]
  walk v hv := by
    simp at hv; subst hv
    rw [getD_set', if_pos ⟨rfl, by simpa using ha⟩]
    rfl
  ub v hv := by
    simp at hv; subst hv
    rw [getD_set', if_pos ⟨rfl, by simpa using ha⟩]
    simp
  mono i j u v hij hu hv := by
    have h1 : i = 0 := by
      have := (List.getElem?_eq_some_iff.1 hu).1
      simpa using this
    have h2 : j = 0 := by
      have := (List.getElem?_eq_some_iff.1 hv).1
      simpa using this
    subst h1; subst h2
    rw [hu] at hv; cases hv
    exact Int.le_refl _
  bnd v hv x hx := by
    simp at hv hx; subst hv; subst hx
    omega
  don i u w hi := by omega
theorem BInv.start (h : BInv E n a d q at') (hx : q[at']? = some x) : BMid E n a d q at' x [] := ⟨h, hx, fun w hw => by cases hw⟩
theorem BMid.skip (h : BMid E n a d q at' x T) {w : Nat} (hw : w < n) (hd : 0 ≤ d.getD w (-1)) : BMid E n a d q at' x (T ++ [w]) := by
  refine ⟨h.inv, h.atx, fun u hu => ?_⟩
  rcases List.mem_append.1 hu with hu | hu
  · exact h.mid u hu
  · simp at hu; subst hu
    have hm := (h.inv.vis u hw).2 hd
    exact ⟨hm, h.inv.bnd u hm x h.atx⟩
theorem BMid.add (h : BMid E n a d q at' x T) {w : Nat} (hw : w < n) (he : (x, w) ∈ E) (hd : d.getD w (-1) < 0) : BMid E n a (d.set w (d.getD x (-1) + 1)) (q ++ [w]) at' x (T ++ [w]) := by
  have hv := h.inv
  have hwq : ¬ w ∈ q := fun hm => by have := (hv.vis w hw).1 hm; omega
  have hxq : x ∈ q := List.mem_of_getElem? h.atx
  have hx0 := (hv.vis x (hv.qn x hxq)).1 hxq
  have hxw : w ≠ x := fun e => hwq (e ▸ hxq)
  have hat := (List.getElem?_eq_some_iff.1 h.atx).1
  have hnew : (d.set w (d.getD x (-1) + 1)).getD w (-1) = d.getD x (-1) + 1 := by rw [getD_set', if_pos ⟨rfl, by rw [hv.ln]; exact hw⟩]
  have hold : ∀ v, v ≠ w → (d.set w (d.getD x (-1) + 1)).getD v (-1) = d.getD v (-1) := fun v hv => by rw [getD_set', if_neg (fun hh => hv hh.1.symm)]
  have hold2 : ∀ v, v ∈ q → (d.set w (d.getD x (-1) + 1)).getD v (-1) = d.getD v (-1) := fun v hv => hold v (fun e => hwq (e ▸ hv))
  have get : ∀ i u, (q ++ [w])[i]? = some u → (i < q.length ∧ q[i]? = some u) ∨ (i = q.length ∧ u = w) := fun i u hu => by
    rcases Nat.lt_or_ge i q.length with hi | hi
    · rw [List.getElem?_append_left hi] at hu; exact .inl ⟨hi, hu⟩
    · rw [List.getElem?_append_right hi] at hu
      have : i - q.length = 0 := by
        have := (List.getElem?_eq_some_iff.1 hu).1; simpa using this
      rw [this] at hu; simp at hu
      exact .inr ⟨by omega, hu.symm⟩
  refine ⟨?_, by rw [List.getElem?_append_left hat]; exact h.atx, ?_⟩
  · constructor
    · simp [hv.ln]
    · intro v hm
      rcases List.mem_append.1 hm with hm | hm
      · exact hv.qn v hm
      · simp at hm; subst hm; exact hw
    · rw [List.nodup_append]
      exact ⟨hv.nd, by simp, fun u hu v hm => by simp at hm; subst hm; exact fun e => hwq (e ▸ hu)⟩
    · simp; have := hv.le; omega
    · intro v hvn
      by_cases e : v = w
      · subst e; rw [hnew]; exact ⟨fun _ => by omega, fun _ => by simp⟩
      · rw [hold v e, ← hv.vis v hvn]; simp [e]
    · intro v hvn
      by_cases e : v = w
      · subst e; rw [hnew]; omega
      · rw [hold v e]; exact hv.neg v hvn
    · intro v hvn hm
      simp at hm
      rw [hold v hm.2]; exact hv.one v hvn hm.1
    · exact ⟨by simp [hv.src.1], by rw [hold2 a hv.src.1]; exact hv.src.2⟩
    · intro v hm
      rcases List.mem_append.1 hm with hm | hm
      · rw [hold2 v hm]; exact hv.walk v hm
      · simp at hm; subst hm
        rw [hnew, show (d.getD x (-1) + 1).toNat = (d.getD x (-1)).toNat + 1 by omega]
        exact ⟨x, he, hv.walk x hxq⟩
    · intro v hm
      rcases List.mem_append.1 hm with hm | hm
      · rw [hold2 v hm]; have := hv.ub v hm; simp only [List.length_append, List.length_singleton, Int.natCast_add]; omega
      · simp at hm; subst hm
        rw [hnew]; have := hv.ub x hxq; simp only [List.length_append, List.length_singleton, Int.natCast_add]; omega
    · intro i j u v hij hu hv'
      rcases get i u hu with ⟨h1, h2⟩ | ⟨h1, h2⟩ <;> rcases get j v hv' with ⟨h3, h4⟩ | ⟨h3, h4⟩
      · rw [hold2 u (List.mem_of_getElem? h2), hold2 v (List.mem_of_getElem? h4)]
        exact hv.mono i j u v hij h2 h4
      · subst h4
        rw [hold2 u (List.mem_of_getElem? h2), hnew]
        exact hv.bnd u (List.mem_of_getElem? h2) x h.atx
      · omega
      · subst h2; subst h4; exact Int.le_refl _
    · intro v hm x' hx'
      rw [List.getElem?_append_left hat, h.atx] at hx'
      cases hx'
      rw [hold2 x hxq]
      rcases List.mem_append.1 hm with hm | hm
      · rw [hold2 v hm]; exact hv.bnd v hm x h.atx
      · simp at hm; subst hm
        rw [hnew]; exact Int.le_refl _
    · intro i u w' hi hu he'
      rw [List.getElem?_append_left (by omega)] at hu
      obtain ⟨g1, g2⟩ := hv.don i u w' hi hu he'
      rw [hold2 u (List.mem_of_getElem? hu), hold2 w' g1]
      exact ⟨by simp [g1], g2⟩
  · intro u hu
    rcases List.mem_append.1 hu with hu | hu
    · obtain ⟨g1, g2⟩ := h.mid u hu
      rw [hold2 u g1, hold2 x hxq]
      exact ⟨by simp [g1], g2⟩
    · simp at hu; subst hu
      rw [hnew, hold2 x hxq]
      exact ⟨by simp, Int.le_refl _⟩
theorem BMid.next (h : BMid E n a d q at' x T) (hT : ∀ w, (x, w) ∈ E → w ∈ T) : BInv E n a d q (at' + 1) := by
  have hv := h.inv
  have hat := (List.getElem?_eq_some_iff.1 h.atx).1
  refine { hv with le := hat, bnd := fun v hm x' hx' => ?_, don := fun i u w hi hu he => ?_ }
  · have h1 := hv.bnd v hm x h.atx
    have h2 := hv.mono at' (at' + 1) x x' (by omega) h.atx hx'
    omega
  · by_cases e : i = at'
    · subst e
      rw [h.atx] at hu; cases hu
      exact h.mid w (hT w he)
    · exact hv.don i u w (by omega) hu he
theorem BInv.done (h : BInv E n a d q q.length) (hE : ∀ p ∈ E, p.2 < n) : d = (List.range n).map (sd E a) := by
  have hcl : ∀ u ∈ q, ∀ w, (u, w) ∈ E → w ∈ q ∧ d.getD w (-1) ≤ d.getD u (-1) + 1 := fun u hu w he => by
    obtain ⟨i, hi⟩ := List.mem_iff_getElem?.1 hu
    exact h.don i u w (List.getElem?_eq_some_iff.1 hi).1 hi he
  have hall : ∀ k v, Wk E k a v → v ∈ q ∧ d.getD v (-1) ≤ k := by
    intro k
    induction k with
    | zero => intro v hw; cases hw; exact ⟨h.src.1, by rw [h.src.2]; simp⟩
    | succ k ih =>
      rintro v ⟨u, hu, hw⟩
      obtain ⟨g1, g2⟩ := ih u hw
      obtain ⟨g3, g4⟩ := hcl u g1 v hu
      exact ⟨g3, by omega⟩
  refine List.ext_getElem (by simp [h.ln]) fun v h1 h2 => ?_
  have hvn : v < n := by rw [← h.ln]; exact h1
  have hg : d[v] = d.getD v (-1) := by simp [List.getD_eq_getElem?_getD, List.getElem?_eq_getElem h1]
  rw [List.getElem_map, List.getElem_range, hg]
  refine sd_eq ?_
  by_cases hm : v ∈ q
  · have h0 := (h.vis v hvn).1 hm
    exact .inr ⟨(d.getD v (-1)).toNat, by omega, h.walk v hm, fun j hj => by have := (hall j v hj).2; omega⟩
  · exact .inl ⟨h.one v hvn hm, fun k hk => hm (hall k v hk).1⟩
end
end Go.AM

set_option maxRecDepth 8000
set_option maxHeartbeats 1000000
namespace Go.AM
open Go Go.Proofs

def badE (n : Int) (e : PEdge) : Bool := decide (e.src < 0) || decide (n ≤ e.src) || decide (e.dst < 0) || decide (n ≤ e.dst)
theorem gE_any {n : Int} {l : List PEdge} (h : ¬ (n < 0 ∨ 4096 < n)) : gE n l = if l.any (badE n) = true then 1 else 0 := by
  unfold gE; rw [if_neg h]; rfl
def gchkR (ds : List D) (v : AV) : Prop := ∃ (n : Int) (l : List PEdge), ds = [.int .i64 n, .sl (some 4) (edgesD l)] ∧ l.length ≤ 10000 ∧ v = .dat (.int .i64 (gE n l))
theorem gcheck_ok : OkF Try.prog 52 (dataC gchkR) := by
  refine okF_data Try.func52 rfl (by decide) ?_
  rintro ds v ⟨n, l, rfl, hl, rfl⟩
  generalize hv : gE n l = V
  refine sem_of_awp (Γ := tbl []) okG_nil _ _ _ ?_
  have fin : ∀ s own (b c : Int), b = c → s.getD 4 .top = .dat (.int .i64 b) → post Try.prog Try.f52 (.dat (.int .i64 c)) [] [] .ret ⟨s, own, 0, []⟩ := fun s own b c e h => by
    subst e
    exact post_data (.inl rfl) [4] rfl trivial (by simp only [tmpsOf, h]; rfl)
  by_cases h1 : n < 0
  · simp only [go_sem, Int.reduceEq, Int.reduceLT, Int.reduceLE, eq_self, Int.natCast_nonneg, Int.toNat_natCast, Try.ntmps52, h1]
    refine fin _ _ _ _ ?_ rfl
    rw [← hv]; unfold gE; rw [if_pos (.inl h1)]
  by_cases h2 : 4096 < n
  · simp only [go_sem, Int.reduceEq, Int.reduceLT, Int.reduceLE, eq_self, Int.natCast_nonneg, Int.toNat_natCast, Try.ntmps52, h1, h2]
    refine fin _ _ _ _ ?_ rfl
    rw [← hv]; unfold gE; rw [if_pos (.inr h2)]
  rw [gE_any (by omega)] at hv
  simp only [go_sem, Int.reduceEq, Int.reduceLT, Int.reduceLE, eq_self, Int.natCast_nonneg, Int.toNat_natCast, Try.ntmps52, h1, h2, edges_len]
  refine sem_loop (fun k : Nat => ⟨slotsOf 40 [(0, .dat (.int .i64 n)), (13, .dat (.sl (some 4) (edgesD l))), (14, .dat (.int .i64 l.length)), (15, .dat (.int .i64 k))], [], 0, []⟩)
    (fun k => k ≤ l.length ∧ (if (l.drop k).any (badE n) = true then 1 else 0) = V) (fun k => l.length - k) 0 ⟨Nat.zero_le _, hv⟩ ?_ ?_
  · exact le_slots' (by simp only [go_sem, Int.natCast_zero])
  rintro k ⟨hk, hI⟩
  refine sem_of_awp (Γ := tbl []) okG_nil _ _ _ ?_
  cases hd : l.drop k with
  | nil =>
    have := end_of_drop hd hk
    have hk2 : ¬ (k : Int) < l.length := by omega
    simp only [go_sem, Int.reduceEq, Int.reduceLT, Int.reduceLE, eq_self, Int.natCast_nonneg, Int.toNat_natCast, hk2]
    refine fin _ _ _ _ ?_ rfl
    rw [← hI, hd]; simp
  | cons e q =>
    have hlt := lt_of_drop hd
    have hk2 : (k : Int) < l.length := by omega
    have hk0 : (0 : Int) ≤ k := Int.natCast_nonneg k
    have hn := nth_of_drop (f := edgeD) hd
    rw [hd, List.any_cons] at hI
    obtain ⟨src, dst, cls, stp⟩ := e

    by_cases g1 : src < 0
    · simp only [go_sem, Int.reduceEq, Int.reduceLT, Int.reduceLE, eq_self, Int.natCast_nonneg, Int.toNat_natCast, hk2, hk0, hn, hlt, edges_len, edgeD, g1]
      refine fin _ _ _ _ ?_ rfl
      rw [← hI]; simp [badE, g1]
    by_cases g2 : n ≤ src
    · simp only [go_sem, Int.reduceEq, Int.reduceLT, Int.reduceLE, eq_self, Int.natCast_nonneg, Int.toNat_natCast, hk2, hk0, hn, hlt, edges_len, edgeD, g1, g2]
      refine fin _ _ _ _ ?_ rfl
      rw [← hI]; simp [badE, g2]
    by_cases g3 : dst < 0
    · simp only [go_sem, Int.reduceEq, Int.reduceLT, Int.reduceLE, eq_self, Int.natCast_nonneg, Int.toNat_natCast, hk2, hk0, hn, hlt, edges_len, edgeD, g1, g2, g3]
      refine fin _ _ _ _ ?_ rfl
      rw [← hI]; simp [badE, g3]
    by_cases g4 : n ≤ dst
    · simp only [go_sem, Int.reduceEq, Int.reduceLT, Int.reduceLE, eq_self, Int.natCast_nonneg, Int.toNat_natCast, hk2, hk0, hn, hlt, edges_len, edgeD, g1, g2, g3, g4]
      refine fin _ _ _ _ ?_ rfl
      rw [← hI]; simp [badE, g4]
    have hb : badE n ⟨src, dst, cls, stp⟩ = false := by simp [badE]; omega
    rw [hb, Bool.false_or] at hI
    simp only [go_sem, Int.reduceEq, Int.reduceLT, Int.reduceLE, eq_self, Int.natCast_nonneg, Int.toNat_natCast, hk2, hk0, hn, hlt, edges_len, edgeD, g1, g2, g3, g4]
    refine ⟨inR_i64.2 (by omega), k + 1, ⟨by omega, by rw [drop_cons hd]; exact hI⟩, by omega, ?_⟩
    refine le_end (own := []) (ex := [_]) (Nat.zero_le _) ?_ ?_ ?_
    · simp only [go_sem, Int.natCast_add, Int.cast_ofNat_Int]
    · simp only [go_sem]
    · simp only [go_sem, Obj.under, AV.unders, AV.under, Obj.allUnder]
end Go.AM

set_option maxRecDepth 8000
set_option maxHeartbeats 1000000
namespace Go.AM
open Go Go.Proofs

theorem nats_nth {l : List Nat} {i x : Nat} (h : l[i]? = some x) : D.nth (natsD l) i = .int .i64 (x : Int) := by
  simp [D.nth, h]
def outs (l : List PEdge) (x : Nat) : List Nat := l.filterMap fun e => if e.s = x then some e.t else none
theorem GOk.eFlt {n : Nat} {l : List PEdge} (h : GOk n l) : ∀ p ∈ eF l, p.2 < n := by
  intro p hp
  obtain ⟨e, he, rfl⟩ := List.mem_map.1 hp
  exact (h.dst e he).2

noncomputable def distL (n : Nat) (l : List PEdge) (a : Nat) : List Int := (List.range n).map (sd (eF l) a)
def reachR (ds : List D) (v : AV) : Prop := ∃ (n : Nat) (l : List PEdge) (a : Nat), ds = [.int .i64 n, .sl (some 4) (edgesD l), .int .i64 a] ∧ GOk n l ∧ a < n ∧ v = .dat (.sl none (intsD (distL n l a)))
end Go.AM

set_option maxRecDepth 8000
set_option maxHeartbeats 1000000
namespace Go.AM
open Go Go.Proofs

def mulR (ds : List D) (v : AV) : Prop := ∃ n : Nat, ds = [.int .u64 1, .int .u64 n] ∧ n < 65536 ∧ v = .tup [.dat (.int .u64 0), .dat (.int .u64 n)]
def repR (ds : List D) (v : AV) (ob : List Obj) : Prop := ∃ (z : Int) (n : Nat), ds = [.sl none [.int .i64 z], .int .i64 n] ∧ 0 < n ∧ n ≤ 4096 ∧ v = .sl 0 0 n ∧ ob = [.row none (intsD (List.replicate n z))]
end Go.AM

set_option maxRecDepth 8000
set_option maxHeartbeats 1000000
namespace Go.AM
open Go Go.Proofs

def idxs (f : PEdge → Nat) : Nat → List PEdge → Nat → List Nat
  | _, [], _ => []
  | k, e :: r, v => if f e = v then k :: idxs f (k + 1) r v else idxs f (k + 1) r v
theorem mem_idxs {f : PEdge → Nat} {v i : Nat} : ∀ {k : Nat} {l : List PEdge}, i ∈ idxs f k l v ↔ ∃ j e, l[j]? = some e ∧ f e = v ∧ i = k + j
  | k, [] => by simp [idxs]
  | k, y :: r => by
    have ih := mem_idxs (f := f) (v := v) (i := i) (k := k + 1) (l := r)
    have hs : (∃ j e, (y :: r)[j]? = some e ∧ f e = v ∧ i = k + j) ↔ (f y = v ∧ i = k) ∨ ∃ j e, r[j]? = some e ∧ f e = v ∧ i = k + 1 + j := by
      constructor
      · rintro ⟨j, e, h1, h2, h3⟩
        cases j with
        | zero => simp at h1; subst h1; exact .inl ⟨h2, h3⟩
        | succ j => exact .inr ⟨j, e, by simpa using h1, h2, by omega⟩
      · rintro (⟨h1, h2⟩ | ⟨j, e, h1, h2, h3⟩)
        · exact ⟨0, y, rfl, h1, h2⟩
        · exact ⟨j + 1, e, by simpa using h1, h2, by omega⟩
    rw [hs, ← ih, idxs]
    split
    · rename_i h; simp [h]
    · rename_i h; simp [h]
def idxL (f : PEdge → Nat) (n : Nat) (l : List PEdge) : List (List Nat) := (List.range n).map fun v => idxs f 0 l v
abbrev natsR (r : List Nat) : D := .sl none (natsD r)
abbrev rowsN (M : List (List Nat)) : List (List D) := M.map natsD
theorem rowsN_sl {M : List (List Nat)} : (rowsN M).map (D.sl none) = M.map natsR := by simp [List.map_map, Function.comp_def]
theorem rowsN_len {M : List (List Nat)} : (rowsN M).length = M.length := by simp
theorem rowsN_getD {M : List (List Nat)} {i : Nat} : (rowsN M).getD i [] = natsD (M.getD i []) := by
  simp only [List.getD_eq_getElem?_getD, List.getElem?_map]; cases M[i]? <;> rfl
theorem rowsN_set {M : List (List Nat)} {i : Nat} {r : List Nat} : (rowsN M).set i (natsD r) = rowsN (M.set i r) := by simp [List.map_set]
theorem rows_nth {M : List (List Nat)} {v : Nat} {r : List Nat} (h : M[v]? = some r) : D.nth (M.map natsR) v = .sl none (natsD r) := by
  simp [D.nth, h]

def leavR (ds : List D) (v : AV) : Prop := ∃ (n : Nat) (l : List PEdge), ds = [.int .i64 n, .sl (some 4) (edgesD l)] ∧ GOk n l ∧ v = .dat (.sl none ((idxL PEdge.s n l).map natsR))
end Go.AM

set_option maxRecDepth 8000
set_option maxHeartbeats 1000000
namespace Go.AM
open Go Go.Proofs

noncomputable def distT (n : Nat) (l : List PEdge) (to : Nat) : List Int := (List.range n).map fun v => sd (eF l) v to
def srcs (l : List PEdge) (I : List Nat) : List Nat := I.map fun i => (l.getD i default).s
def distR (ds : List D) (v : AV) : Prop := ∃ (n : Nat) (l : List PEdge) (to : Nat), ds = [.int .i64 n, .sl (some 4) (edgesD l), .sl none ((idxL PEdge.t n l).map natsR), .int .i64 to] ∧ GOk n l ∧ to < n ∧ v = .dat (.sl none (intsD (distT n l to)))
abbrev tabDI : List (Nat × Contract) := [(82, frzC (madeC repR))]
end Go.AM

namespace Go.AM
open Go Go.Proofs

def sOf (l : List PEdge) (i : Nat) : Nat := (l.getD i default).s
def tOf (l : List PEdge) (i : Nat) : Nat := (l.getD i default).t
theorem sOf_get {l : List PEdge} {i : Nat} {e : PEdge} (h : l[i]? = some e) : sOf l i = e.s := by simp [sOf, List.getD_eq_getElem?_getD, h]
theorem tOf_get {l : List PEdge} {i : Nat} {e : PEdge} (h : l[i]? = some e) : tOf l i = e.t := by simp [tOf, List.getD_eq_getElem?_getD, h]
theorem eF_get {l : List PEdge} {i : Nat} (h : i < l.length) : (sOf l i, tOf l i) ∈ eF l := by
  have hg := List.getElem?_eq_getElem h
  rw [sOf_get hg, tOf_get hg]
  exact List.mem_map.2 ⟨_, List.getElem_mem h, rfl⟩
theorem eF_ex {l : List PEdge} {a b : Nat} (h : (a, b) ∈ eF l) : ∃ i, i < l.length ∧ sOf l i = a ∧ tOf l i = b := by
  obtain ⟨e, he, h2⟩ := List.mem_map.1 h
  obtain ⟨i, hi⟩ := List.mem_iff_getElem?.1 he
  cases h2
  exact ⟨i, (List.getElem?_eq_some_iff.1 hi).1, sOf_get hi, tOf_get hi⟩
noncomputable def near (l : List PEdge) (to v : Nat) (i : Nat) : Bool := decide (sd (eF l) (tOf l i) to = sd (eF l) v to - 1)
noncomputable def nxt (l : List PEdge) (to v : Nat) : Option Nat := (idxs PEdge.s 0 l v).find? (near l to v)
theorem nxt_is {l : List PEdge} {to v i : Nat} (h : nxt l to v = some i) : i < l.length ∧ sOf l i = v ∧ sd (eF l) (tOf l i) to = sd (eF l) v to - 1 := by
  have h1 := List.mem_of_find?_eq_some h
  have h2 := List.find?_some h
  obtain ⟨j, e, g1, g2, g3⟩ := mem_idxs.1 h1
  obtain rfl : i = j := by omega
  refine ⟨(List.getElem?_eq_some_iff.1 g1).1, by rw [sOf_get g1, g2], ?_⟩
  simpa [near] using h2
theorem nxt_some {l : List PEdge} {to v : Nat} (h : 0 < sd (eF l) v to) : ∃ i, nxt l to v = some i := by
  obtain ⟨b, hb, h2⟩ := sd_step h
  obtain ⟨i, hi, hs, ht⟩ := eF_ex hb
  have hg := List.getElem?_eq_getElem hi
  cases hn : nxt l to v with
  | some i => exact ⟨i, rfl⟩
  | none =>
    have := List.find?_eq_none.1 hn i (mem_idxs.2 ⟨i, _, hg, by rw [← sOf_get hg]; exact hs, by simp⟩)
    simp only [near, ht, h2, decide_true, not_true] at this
noncomputable def pathL (l : List PEdge) (to : Nat) : Nat → Nat → List Nat
  | 0, _ => []
  | k + 1, v => match nxt l to v with
    | some i => i :: pathL l to k (tOf l i)
    | none => []
theorem pathL_cons {l : List PEdge} {to v i k : Nat} (h : nxt l to v = some i) : pathL l to (k + 1) v = i :: pathL l to k (tOf l i) := by simp [pathL, h]
theorem pathL_len {l : List PEdge} {to : Nat} : ∀ {k v : Nat}, sd (eF l) v to = k → (pathL l to k v).length = k
  | 0, _, _ => rfl
  | k + 1, v, h => by
    obtain ⟨i, hi⟩ := nxt_some (l := l) (to := to) (v := v) (by omega)
    rw [pathL_cons hi, List.length_cons, pathL_len (by have := (nxt_is hi).2.2; omega)]
noncomputable def back (l : List PEdge) (i : Nat) : Int := sd (eF l) (tOf l i) (sOf l i)
noncomputable def cycOf (l : List PEdge) (i : Nat) : List Nat := i :: pathL l (sOf l i) (back l i).toNat (tOf l i)
theorem cycOf_len {l : List PEdge} {i : Nat} (h : 0 ≤ back l i) : ((cycOf l i).length : Int) = back l i + 1 := by
  unfold cycOf
  rw [List.length_cons, pathL_len (by unfold back at h ⊢; omega)]
  omega
noncomputable def cycStep (l : List PEdge) (b : Option (List Nat)) (i : Nat) : Option (List Nat) :=
  if back l i < 0 then b else match b with
  | none => some (cycOf l i)
  | some c => if (c.length : Int) ≤ back l i + 1 then some c else some (cycOf l i)
noncomputable def cycL (l : List PEdge) : Nat → Option (List Nat)
  | 0 => none
  | k + 1 => cycStep l (cycL l k) k
theorem cycL_is {l : List PEdge} : ∀ (k : Nat), match cycL l k with
    | none => ∀ i, i < k → back l i < 0
    | some c => ∃ i, i < k ∧ 0 ≤ back l i ∧ c = cycOf l i ∧ ∀ j, j < k → back l j < 0 ∨ back l i ≤ back l j
  | 0 => by simp [cycL]
  | k + 1 => by
    have ih := cycL_is (l := l) k
    simp only [cycL, cycStep]
    by_cases h : back l k < 0
    · rw [if_pos h]
      cases hc : cycL l k with
      | none =>
        rw [hc] at ih
        simp only at ih ⊢
        intro i hi
        by_cases e : i = k
        · subst e; exact h
        · exact ih i (by omega)
      | some c =>
        rw [hc] at ih
        simp only at ih ⊢
        obtain ⟨i, h1, h2, h3, h4⟩ := ih
        refine ⟨i, by omega, h2, h3, fun j hj => ?_⟩
        by_cases e : j = k
        · subst e; exact .inl h
        · exact h4 j (by omega)
    · rw [if_neg h]
      cases hc : cycL l k with
      | none =>
        rw [hc] at ih
        simp only at ih ⊢
        refine ⟨k, by omega, by omega, rfl, fun j hj => ?_⟩
        by_cases e : j = k
        · subst e; exact .inr (Int.le_refl _)
        · exact .inl (ih j (by omega))
      | some c =>
        rw [hc] at ih
        simp only at ih ⊢
        obtain ⟨i, h1, h2, h3, h4⟩ := ih
        have hl := cycOf_len h2
        rw [← h3] at hl
        by_cases g : (c.length : Int) ≤ back l k + 1
        · rw [if_pos g]
          refine ⟨i, by omega, h2, h3, fun j hj => ?_⟩
          by_cases e : j = k
          · subst e; exact .inr (by omega)
          · exact h4 j (by omega)
        · rw [if_neg g]
          refine ⟨k, by omega, by omega, rfl, fun j hj => ?_⟩
          by_cases e : j = k
          · subst e; exact .inr (Int.le_refl _)
          · rcases h4 j (by omega) with g1 | g1
            · exact .inl g1
            · exact .inr (by omega)
noncomputable def cycV (l : List PEdge) : List Nat := (cycL l l.length).getD []
def idxQ (p : Nat → Bool) : Nat → List Nat → Int
  | _, [] => -1
  | k, y :: r => if p y = true then k else idxQ p (k + 1) r
end Go.AM

