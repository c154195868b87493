/- Own work over the model of the kit. -/
import Derived.Test.YtaecpbaaadpfgaaD15
import Derived.Test.YtaecpbaaadpfgaaD9
import Derived.Test.YtaecpbaaadpfgaaD10
set_option linter.unusedSimpArgs false
set_option linter.unusedVariables false
set_option maxHeartbeats 4000000
set_option maxRecDepth 8000
namespace Go.AM
open Go Go.Proofs
end Go.AM
namespace Go.AM
open Go Go.Proofs
def hasE (l : List PEdge) (a b : Int) : Bool := l.any fun y => decide (y.src = a) && decide (y.dst = b)
def addE (l : List PEdge) (x : PEdge) : List PEdge := if hasE l x.src x.dst = true then l else l ++ [x]
def addR (xs : List AV) (obs : List Obj) (v0 : AV) (obs' ex : List Obj) (mv0 : List Nat) : Prop := ∃ (l : List PEdge) (x : PEdge), l.length <= 10000 /\ xs = [.sl 0 0 l.length, .dat (edgeD x)] /\ obs = [.row (some 4) (edgesD l)] /\
 v0 = .sl 0 0 (addE l x).length /\ obs' = [.row (some 4) (edgesD (addE l x))] /\ ex = [] /\ mv0 = [0]
def addAll (t i k : Int) : List Int -> List PEdge -> List PEdge
 | [], acc => acc
 | f :: r, acc => addAll t i k r (addE acc ⟨f, t, i, k⟩)
def edS (s : PSys) (c : PCls) (i : Nat) : Nat -> List PStep -> List PEdge -> List PEdge
 | _, [], acc => acc
 | k, x :: r, acc => edS s c i (k + 1) r (if waitB s x = true then addAll (targetN s x) i k (holdL s c i (c.steps.take k)) acc else acc)
def edC (s : PSys) : Nat -> List PCls -> List PEdge -> List PEdge
 | _, [], acc => acc
 | i, c :: r, acc => edC s (i + 1) r (edS s c i 0 c.steps acc)
theorem addE_len (l : List PEdge) (x : PEdge) : (addE l x).length <= l.length + 1 := by unfold addE; split <;> simp
theorem holdL_len (s : PSys) (c : PCls) (i : Int) (L : List PStep) : (holdL s c i L).length <= s.pools.length + s.locks.length + 1 := by
 have h1 := hU_len 0 (balU s L)
 have h2 := hB_len s.pools.length 0 (balB s L)
 rw [balU_len] at h1
 rw [balB_len] at h2
 have h3 : (hC s c i).length <= 1 := by unfold hC; split <;> simp
 simp only [holdL, List.length_append]; omega
def edgesV (s : PSys) : AV := if checkE s ≠ 0 then .tup [.dat (.sl none []), .dat (.int .i64 (checkE s))] else .tup [.dat (.sl (some 4) (edgesD (edC s 0 s.classes []))), .dat (.int .i64 0)]
def edgesR (ds : List D) (v : AV) : Prop := ∃ s : PSys, ds = [sysD s] /\ s.fit /\ v = edgesV s
end Go.AM
namespace Go.AM
open Go Go.Proofs
theorem hasE_iff {l : List PEdge} {a b : Int} : hasE l a b = true ↔ ∃ e ∈ l, e.src = a /\ e.dst = b := by
 simp [hasE, List.any_eq_true]
theorem addE_sub {l : List PEdge} {x e : PEdge} (h : e ∈ l) : e ∈ addE l x := by unfold addE; split <;> simp [h]
theorem addE_mem {l : List PEdge} {x e : PEdge} (h : e ∈ addE l x) : e ∈ l ∨ e = x := by
 unfold addE at h; split at h
 ·exact .inl h
 ·simpa using h
theorem addE_has (l : List PEdge) (x : PEdge) : hasE (addE l x) x.src x.dst = true := by
 unfold addE; split
 ·assumption
 ·exact hasE_iff.2 ⟨x, by simp, rfl, rfl⟩
theorem addAll_sub {t i k : Int} : ∀ {H : List Int} {acc : List PEdge} {e : PEdge}, e ∈ acc -> e ∈ addAll t i k H acc
 | [], _, _, h => h
 | _ :: r, _, _, h => addAll_sub (H := r) (addE_sub h)
theorem addAll_mem {t i k : Int} : ∀ {H : List Int} {acc : List PEdge} {e : PEdge}, e ∈ addAll t i k H acc -> e ∈ acc ∨ ∃ f ∈ H, e = ⟨f, t, i, k⟩
 | [], _, _, h => .inl h
 | f :: r, acc, e, h => by
  rcases addAll_mem (H := r) h with h | ⟨g, hg, h⟩
  ·rcases addE_mem h with h | h
   ·exact .inl h
   ·exact .inr ⟨f, by simp, h⟩
  ·exact .inr ⟨g, by simp [hg], h⟩
theorem hasE_sub {l l' : List PEdge} (h : ∀ e ∈ l, e ∈ l') {a b : Int} (hh : hasE l a b = true) : hasE l' a b = true := by
 obtain ⟨e, he, h1⟩ := hasE_iff.1 hh
 exact hasE_iff.2 ⟨e, h e he, h1⟩
theorem addAll_has {t i k : Int} : ∀ {H : List Int} {acc : List PEdge} {f : Int}, f ∈ H -> hasE (addAll t i k H acc) f t = true
 | g :: r, acc, f, h => by
  rcases List.mem_cons.1 h with rfl | h
  ·exact hasE_sub (l := addE acc ⟨f, t, i, k⟩) (fun e he => addAll_sub (H := r) he) (addE_has acc ⟨f, t, i, k⟩)
  ·exact addAll_has (H := r) h
def isEdge (s : PSys) (c : PCls) (i : Nat) (k : Nat) (x : PStep) (e : PEdge) : Prop := waitB s x = true /\ e.cls = i /\ e.step = k /\ e.dst = targetN s x /\ e.src ∈ holdL s c i (c.steps.take k)
theorem edS_sub (s : PSys) (c : PCls) (i : Nat) : ∀ {k : Nat} {L : List PStep} {acc : List PEdge} {e : PEdge}, e ∈ acc -> e ∈ edS s c i k L acc
 | _, [], _, _, h => h
 | k, x :: r, acc, e, h => by
  rw [edS]; refine edS_sub s c i ?_
  split
  ·exact addAll_sub h
  ·exact h
theorem edC_sub (s : PSys) : ∀ {i : Nat} {L : List PCls} {acc : List PEdge} {e : PEdge}, e ∈ acc -> e ∈ edC s i L acc
 | _, [], _, _, h => h
 | i, c :: r, acc, e, h => by rw [edC]; exact edC_sub s (edS_sub s c i h)
theorem edS_mem (s : PSys) (c : PCls) (i : Nat) : ∀ {k : Nat} {L : List PStep} {acc : List PEdge} {e : PEdge}, e ∈ edS s c i k L acc -> e ∈ acc ∨ ∃ j x, L[j]? = some x /\ isEdge s c i (k + j) x e
 | _, [], _, _, h => .inl h
 | k, x :: r, acc, e, h => by
  rw [edS] at h
  rcases edS_mem s c i h with h | ⟨j, y, hy, h⟩
  ·split at h
   ·rename_i hw
    rcases addAll_mem h with h | ⟨f, hf, rfl⟩
    ·exact .inl h
    ·exact .inr ⟨0, x, rfl, hw, rfl, by simp, rfl, by simpa using hf⟩
   ·exact .inl h
  ·refine .inr ⟨j + 1, y, by simpa using hy, ?_⟩
   rwa [Nat.add_right_comm, Nat.add_assoc] at h
theorem edC_mem (s : PSys) : ∀ {i : Nat} {L : List PCls} {acc : List PEdge} {e : PEdge}, e ∈ edC s i L acc -> e ∈ acc ∨ ∃ j c k x, L[j]? = some c /\ c.steps[k]? = some x /\ isEdge s c (i + j) k x e
 | _, [], _, _, h => .inl h
 | i, c :: r, acc, e, h => by
  rw [edC] at h
  rcases edC_mem s h with h | ⟨j, d, k, x, hd, hx, h⟩
  ·rcases edS_mem s c i h with h | ⟨j, x, hx, h⟩
   ·exact .inl h
   ·exact .inr ⟨0, c, j, x, rfl, hx, by simpa using h⟩
  ·refine .inr ⟨j + 1, d, k, x, by simpa using hd, hx, ?_⟩
   rwa [Nat.add_right_comm, Nat.add_assoc] at h
theorem edS_has (s : PSys) (c : PCls) (i : Nat) : ∀ {k : Nat} {L : List PStep} {acc : List PEdge} {j : Nat} {x : PStep} {f : Int}, L[j]? = some x -> waitB s x = true -> f ∈ holdL s c i (c.steps.take (k + j)) -> hasE (edS s c i k L acc) f (targetN s x) = true
 | _, [], _, _, _, _, h, _, _ => by simp at h
 | k, y :: r, acc, 0, x, f, h, hw, hf => by
  simp only [List.getElem?_cons_zero, Option.some.injEq] at h
  subst h
  rw [edS, if_pos hw]
  exact hasE_sub (fun e he => edS_sub s c i he) (addAll_has hf)
 | k, y :: r, acc, j + 1, x, f, h, hw, hf => by
  rw [edS]
  refine edS_has s c i (j := j) (by simpa using h) hw ?_
  rwa [Nat.add_right_comm, Nat.add_assoc]
theorem edC_has (s : PSys) : ∀ {i : Nat} {L : List PCls} {acc : List PEdge} {j k : Nat} {c : PCls} {x : PStep} {f : Int}, L[j]? = some c -> c.steps[k]? = some x -> waitB s x = true -> f ∈ holdL s c ((i + j : Nat) : Int) (c.steps.take k) -> hasE (edC s i L acc) f (targetN s x) = true
 | _, [], _, _, _, _, _, _, h, _, _, _ => by simp at h
 | i, d :: r, acc, 0, k, c, x, f, h, hx, hw, hf => by
  simp only [List.getElem?_cons_zero, Option.some.injEq] at h
  subst h
  rw [edC]
  exact hasE_sub (fun e he => edC_sub s he) (edS_has s d i hx hw (by simpa using hf))
 | i, d :: r, acc, j + 1, k, c, x, f, h, hx, hw, hf => by
  rw [edC]
  refine edC_has s (j := j) (by simpa using h) hx hw ?_
  rwa [Nat.add_right_comm, Nat.add_assoc]
def holdB (s : PSys) (c : PCls) (i : Nat) (L : List PStep) (r : Nat) : Bool :=
 if r < s.pools.length then decide (0 < (balU s L).getD r 0) else
 if r < s.pools.length + s.locks.length then (balB s L).getD (r - s.pools.length) false else
 c.server && decide (r = s.pools.length + s.locks.length + i)
theorem hU_mem {f : Int} : ∀ {i : Nat} {l : List Int}, f ∈ hU i l ↔ ∃ j n, l[j]? = some n /\ 0 < n /\ f = ((i + j : Nat) : Int)
 | _, [] => by simp [hU]
 | i, n :: r => by
  have ih := hU_mem (f := f) (i := i + 1) (l := r)
  have hs : (∃ j m, (n :: r)[j]? = some m /\ 0 < m /\ f = ((i + j : Nat) : Int)) ↔ (0 < n /\ f = (i : Int)) ∨ (∃ j m, r[j]? = some m /\ 0 < m /\ f = ((i + 1 + j : Nat) : Int)) := by
   constructor
   ·rintro ⟨j, m, h1, h2, h3⟩
    cases j with
    | zero => simp only [List.getElem?_cons_zero, Option.some.injEq] at h1; subst h1; exact .inl ⟨h2, by simpa using h3⟩
    | succ j => exact .inr ⟨j, m, by simpa using h1, h2, by rw [h3]; congr 1; omega⟩
   ·rintro (⟨h2, h3⟩ | ⟨j, m, h1, h2, h3⟩)
    ·exact ⟨0, n, rfl, h2, by simpa using h3⟩
    ·exact ⟨j + 1, m, by simpa using h1, h2, by rw [h3]; congr 1; omega⟩
  rw [hs, ← ih, hU]
  split
  ·rename_i h; simp [h]
  ·rename_i h; simp [h]
theorem hB_mem {f off : Int} : ∀ {i : Nat} {l : List Bool}, f ∈ hB off i l ↔ ∃ j : Nat, l[j]? = some true /\ f = off + ((i + j : Nat) : Int)
 | _, [] => by simp [hB]
 | i, b :: r => by
  have ih := hB_mem (f := f) (off := off) (i := i + 1) (l := r)
  have hs : (∃ j : Nat, (b :: r)[j]? = some true /\ f = off + ((i + j : Nat) : Int)) ↔ (b = true /\ f = off + (i : Int)) ∨ (∃ j : Nat, r[j]? = some true /\ f = off + ((i + 1 + j : Nat) : Int)) := by
   constructor
   ·rintro ⟨j, h1, h3⟩
    cases j with
    | zero => simp only [List.getElem?_cons_zero, Option.some.injEq] at h1; exact .inl ⟨h1, by simpa using h3⟩
    | succ j => exact .inr ⟨j, by simpa using h1, by rw [h3]; congr 2; omega⟩
   ·rintro (⟨h2, h3⟩ | ⟨j, h1, h3⟩)
    ·exact ⟨0, by simpa using h2, by simpa using h3⟩
    ·exact ⟨j + 1, by simpa using h1, by rw [h3]; congr 2; omega⟩
  rw [hs, ← ih, hB]
  split
  ·rename_i h; simp [h]
  ·rename_i h; simp [h]
theorem holdL_range {s : PSys} {c : PCls} {i : Nat} {L : List PStep} {f : Int} (hi : i < s.classes.length) (h : f ∈ holdL s c i L) : ∃ r : Nat, f = r /\ r < s.pools.length + s.locks.length + s.classes.length /\ holdB s c i L r = true := by
 simp only [holdL, List.mem_append] at h
 rcases h with (h | h) | h
 ·obtain ⟨j, n, h1, h2, h3⟩ := hU_mem.1 h
  have hj := (List.getElem?_eq_some_iff.1 h1).1
  rw [balU_len] at hj
  refine ⟨j, by simpa using h3, by omega, ?_⟩
  unfold holdB
  rw [if_pos hj, List.getD_eq_getElem?_getD, h1]
  simpa using h2
 ·obtain ⟨j, h1, h3⟩ := hB_mem.1 h
  have hj := (List.getElem?_eq_some_iff.1 h1).1
  rw [balB_len] at hj
  refine ⟨s.pools.length + j, by rw [h3]; omega, by omega, ?_⟩
  unfold holdB
  rw [if_neg (by omega), if_pos (by omega), Nat.add_sub_cancel_left, List.getD_eq_getElem?_getD, h1]
  rfl
 ·unfold hC at h
  split at h
  ·rename_i hs
   refine ⟨s.pools.length + s.locks.length + i, by simp at h; omega, by omega, ?_⟩
   unfold holdB
   rw [if_neg (by omega), if_neg (by omega), hs]
   simp
  ·cases h
theorem targetN_range {s : PSys} {x : PStep} (hg : s.good) (h : preE s x = 0) : 0 <= targetN s x /\ targetN s x <= 100 := by
 have h1 := hg.np
 have h2 := hg.nl
 have h3 := hg.nc
 obtain ⟨_, ⟨o1, o2⟩, _⟩ := preE_0 h
 have : x.on <= 10 := by unfold mostE at o2; (repeat' split at o2) <;> omega
 unfold targetN; (repeat' split) <;> omega
structure PEdge.fit (e : PEdge) : Prop where
 s : 0 <= e.src /\ e.src <= 100
 d : 0 <= e.dst /\ e.dst <= 100
 c : 0 <= e.cls /\ e.cls <= 100
 k : 0 <= e.step /\ e.step <= 100
def metE (i k r j : Nat) (m : Nat) (e : PEdge) : Prop := e.cls < i ∨ (e.cls = i /\ (e.step < k ∨ (e.step = k /\ (e.src < r ∨ (e.src = r /\ m < j)))))
def usedI (E : List PEdge) (used : List Bool) (i k r j : Nat) : Prop := used.length = E.length /\ ∀ m e, E[m]? = some e -> metE i k r j m e -> used.getD m false = true
structure EFacts (s : PSys) (E : List PEdge) : Prop where
 mem : ∀ e ∈ E, ∃ (i k : Nat) (c : PCls) (x : PStep), s.classes[i]? = some c /\ c.steps[k]? = some x /\ isEdge s c i k x e
 has : ∀ (i k : Nat) (c : PCls) (x : PStep) (f : Int), s.classes[i]? = some c -> c.steps[k]? = some x -> waitB s x = true -> f ∈ holdL s c i (c.steps.take k) -> hasE E f (targetN s x) = true
theorem eFacts (s : PSys) : EFacts s (edC s 0 s.classes []) where
 mem e he := by
  rcases edC_mem s he with h | ⟨j, c, k, x, h1, h2, h3⟩
  ·cases h
  ·exact ⟨j, k, c, x, h1, h2, by simpa using h3⟩
 has i k c x f h1 h2 h3 h4 := edC_has s (j := i) h1 h2 h3 (by simpa using h4)
theorem eFit {s : PSys} (hg : s.good) : ∀ e ∈ edC s 0 s.classes [], e.fit := by
 intro e he
 obtain ⟨i, k, c, x, h1, h2, h3, h4, h5, h6, h7⟩ := (eFacts s).mem e he
 have hi := (List.getElem?_eq_some_iff.1 h1).1
 have hk := (List.getElem?_eq_some_iff.1 h2).1
 have hcg := hg.cls c (List.mem_of_getElem? h1)
 have hx := targetN_range hg (hcg.pre x (List.mem_of_getElem? h2))
 have h12 := hcg.l12
 have hnp := hg.np
 have hnl := hg.nl
 have hnc := hg.nc
 obtain ⟨r, hr, hr2, _⟩ := holdL_range hi h7
 exact ⟨by omega, by omega, by omega, by omega⟩
end Go.AM
namespace Go.AM
open Go Go.Proofs
abbrev endD (a b : Int) : D := .agg [.int .i64 a, .int .i64 b]
def keyE (e : PEdge) : D × D := (endD e.src e.dst, .bool true)
abbrev seenM (l : List PEdge) : List (D × D) := l.map keyE
theorem keyEq_end (a b c d : Int) : D.keyEq (endD a b) (endD c d) = (decide (a = c) && decide (b = d)) := by
 simp [D.keyEq, endD, D.flatEqs, D.flatEq]
theorem seen_find : ∀ (l : List PEdge) (a b : Int) (i : Nat), (mapFindI (endD a b) (seenM l) i).map (·.2) = if hasE l a b = true then some (D.bool true) else none
 | [], _, _, _ => rfl
 | e :: r, a, b, i => by
  have hL : mapFindI (endD a b) (seenM (e :: r)) i = if (decide (a = e.src) && decide (b = e.dst)) = true then some (i, D.bool true) else mapFindI (endD a b) (seenM r) (i + 1) := by
   simp only [seenM, List.map_cons, mapFindI, keyE, keyEq_end]
  have hR : hasE (e :: r) a b = ((decide (e.src = a) && decide (e.dst = b)) || hasE r a b) := by simp [hasE]
  rw [hL]
  by_cases h : a = e.src /\ b = e.dst
  ·have h1 : (decide (a = e.src) && decide (b = e.dst)) = true := by simp [h.1, h.2]
   have h2 : hasE (e :: r) a b = true := by rw [hR]; simp [h.1, h.2]
   rw [if_pos h1, if_pos h2]; rfl
  ·have h1 : ¬ (decide (a = e.src) && decide (b = e.dst)) = true := by simpa using h
   have h2 : hasE (e :: r) a b = hasE r a b := by
    rw [hR]
    have : (decide (e.src = a) && decide (e.dst = b)) = false := by
     rw [Bool.and_eq_false_iff, decide_eq_false_iff_not, decide_eq_false_iff_not]
     by_cases ha : a = e.src
     ·exact .inr (fun hb => h ⟨ha, hb.symm⟩)
     ·exact .inl (fun e => ha e.symm)
    rw [this, Bool.false_or]
   rw [if_neg h1, h2]
   exact seen_find r a b (i + 1)
theorem seen_get (l : List PEdge) (a b : Int) : (mapFind (endD a b) (seenM l)).getD (.bool false) = .bool (hasE l a b) := by
 unfold mapFind; rw [seen_find]; cases hasE l a b <;> rfl
theorem seen_set {l : List PEdge} {a b : Int} (h : hasE l a b = false) (x : PEdge) (hx : x.src = a) (hx2 : x.dst = b) : mapSet (endD a b) (.bool true) (seenM l) = seenM (l ++ [x]) := by
 have h0 : mapFindI (endD a b) (seenM l) 0 = none := by
  have := seen_find l a b 0
  rw [h] at this
  cases e : mapFindI (endD a b) (seenM l) 0 with
  | none => rfl
  | some p => rw [e] at this; cases this
 rw [mapSet_none h0]
 simp [keyE, hx, hx2]
theorem wideKey_0 : wideKey Try.prog 102 (.agg [.int .i64 0, .int .i64 0]) = true := by kernel_rfl
theorem isKey_end (t : TypeDesc) {a b : Int} (ha : 0 <= a /\ a <= 100) (hb : 0 <= b /\ b <= 100) : D.isKeyP Try.prog 102 t (endD a b) = true :=
 isKeyP_of wideKey_0 ⟨rfl, inR_i64.2 (by omega), rfl, inR_i64.2 (by omega), trivial⟩
theorem seen_keys (t : TypeDesc) {l : List PEdge} (h : ∀ e ∈ l, e.fit) : ((seenM l).all fun x => D.isKeyP Try.prog 102 t x.1) = true := by
 rw [List.all_eq_true]
 intro x hx
 obtain ⟨e, he, rfl⟩ := List.mem_map.1 hx
 exact isKey_end t (h e he).s (h e he).d
theorem repl2 : (some (Value.agg #[Value.int IntKind.i64 0, Value.int IntKind.i64 0]) = some (Value.agg (Array.replicate 2 (Value.int IntKind.i64 0)))) = True := eq_true rfl
theorem lookupw_end {P : Program} {τ : Option Ty} {own : List Obj} {x : AV} {a b : Int} {c : Bool} {K : AV -> Prop} : lookupw P τ own x (.agg [.dat (.int .i64 a), .dat (.int .i64 b)]) c K = lookupw P τ own x (.dat (endD a b)) c K := rfl
theorem mapUpdatew_end {P : Program} {τ : Option Ty} {own : List Obj} {x v : AV} {a b : Int} {K : AV -> List Obj -> List Nat -> Prop} : mapUpdatew P τ own x (.agg [.dat (.int .i64 a), .dat (.int .i64 b)]) v K = mapUpdatew P τ own x (.dat (endD a b)) v K := rfl
abbrev tabWE : List (Nat × Contract) := [(6, dataC checkR), (41, dataC waitsR), (42, dataC targetR), (43, dataC holdR)]
theorem tabWE_ok : OkG Try.prog (tbl tabWE) := okG_cons check_ok (okG_cons waits_ok (okG_cons resource_ok (okG_cons holdings_ok okG_nil)))
theorem edges_ok : OkF Try.prog 19 (dataC edgesR) := by
 refine okF_data Try.func19 rfl (by decide) ?_
 rintro ds v ⟨s, rfl, hf, rfl⟩
 refine sem_of_awp (Γ := tbl tabWE) tabWE_ok _ _ _ ?_
 simp only [go_sem, Try.ntmps19, sysD]
 refine call_data checkR (by simp) [sysD s] _ rfl ⟨s, rfl, hf, rfl⟩ (.inl rfl) ?_
 by_cases h : checkE s = 0
 case neg =>
  unfold edgesV
  rw [if_pos h]
  simp only [go_sem, h]
  refine post_res (.inl rfl) [.tmp 2, .tmp 3] rfl ?_
  simp only [go_sem]
  exact le_fin (by simp only [go_sem]) (by simp only [go_sem])
 unfold edgesV
 rw [if_neg (by rw [h]; decide)]
 have hg := good_of h
 have hfit := eFit hg
 generalize hv : edC s 0 s.classes [] = V at *
 have hnp := hg.np
 have hnl := hg.nl
 have hnc := hg.nc
 simp only [go_sem, h]
 refine sem_le (le_addnil 5 (some 4) rfl (Nat.zero_le _)) ?_
 simp only [go_sem]
 refine sem_loop (fun p : Nat × List PEdge => ⟨slotsOf 75 [(1, .ptr 0 0 0), (5, .sl 2 0 p.2.length), (6, .map 1), (21, .dat (.sl (some 4) (s.classes.map clsD))), (22, .dat (.int .i64 s.classes.length)), (23, .dat (.int .i64 p.1))], [sysO s, .map (seenM p.2), .row (some 4) (edgesD p.2)], 0, []⟩)
  (fun p => p.1 <= s.classes.length /\ p.2.length <= 144 * p.1 /\ edC s p.1 (s.classes.drop p.1) p.2 = V) (fun p => s.classes.length - p.1) (0, []) ⟨Nat.zero_le _, Nat.zero_le _, hv⟩ ?_ ?_
 ·exact le_slots' (by simp only [go_sem, Int.natCast_zero])
 ·rintro ⟨i, acc⟩ ⟨hi, ha, hI⟩
  simp only at hi ha hI
  refine sem_of_awp (Γ := tbl tabWE) tabWE_ok _ _ _ ?_
  cases hd : s.classes.drop i with
  | nil =>
   have := end_of_drop hd hi
   have hk2 : ¬ (i : Int) < s.classes.length := by omega
   rw [hd, edC] at hI
   subst hI
   simp only [go_sem, hk2]
   refine post_res (.inl rfl) [.tmp 2, .tmp 3] rfl ?_
   simp only [go_sem]
   refine Le.trans (le_freeze 2 (ag := some 4) rfl (Nat.zero_le _)) ?_
   simp only [go_sem, edges_take, edges_len, Nat.le_refl]
   exact le_fin (by simp only [go_sem]) (by simp only [go_sem])
  | cons c q =>
   have hlt := lt_of_drop hd
   have hk2 : (i : Int) < s.classes.length := by omega
   have hk0 : (0 : Int) <= i := Int.natCast_nonneg i
   have hn := nth_of_drop (f := clsD) hd
   have hcg := hg.cls c (mem_of_drop hd)
   have hl12 := hcg.l12
   have hget : s.classes.getD i default = c := by rw [List.getD_eq_getElem?_getD, get_of_drop hd]; rfl
   rw [hd, edC] at hI
   simp only [go_sem, hk2, hk0, hn, hlt, clsD, stepsD]
   refine sem_loop (fun p : Nat × List PEdge => ⟨slotsOf 75 [(1, .ptr 0 0 0), (5, .sl 2 0 p.2.length), (6, .map 1), (21, .dat (.sl (some 4) (s.classes.map clsD))), (22, .dat (.int .i64 s.classes.length)), (23, .dat (.int .i64 i)),
     (7, .dat (.int .i64 i)), (31, .dat (.sl (some 4) (c.steps.map stepD))), (32, .dat (.int .i64 c.steps.length)), (33, .dat (.int .i64 p.1))], [sysO s, .map (seenM p.2), .row (some 4) (edgesD p.2)], 0, []⟩)
    (fun p => p.1 <= c.steps.length /\ p.2.length <= 144 * i + 12 * p.1 /\ edC s (i + 1) q (edS s c i p.1 (c.steps.drop p.1) p.2) = V) (fun p => c.steps.length - p.1) (0, acc) ⟨Nat.zero_le _, by simp only; omega, hI⟩ ?_ ?_
   ·exact le_slots' (by simp only [go_sem, Int.natCast_zero])
   ·rintro ⟨k, acc⟩ ⟨hk, ha, hI⟩
    simp only at hk ha hI
    refine sem_of_awp (Γ := tbl tabWE) tabWE_ok _ _ _ ?_
    cases hd2 : c.steps.drop k with
    | nil =>
     have := end_of_drop hd2 hk
     have hj2 : ¬ (k : Int) < c.steps.length := by omega
     rw [hd2, edS] at hI
     simp only [go_sem, hj2]
     refine ⟨inR_i64.2 (by omega), (i + 1, acc), ⟨by simp only; omega, by simp only; omega, by simp only; rw [drop_cons hd]; exact hI⟩, by simp only; omega, ?_⟩
     exact le_slots' (by simp only [go_sem, Int.natCast_add, Int.cast_ofNat_Int])
    | cons x q2 =>
     have hlt2 := lt_of_drop hd2
     have hj2 : (k : Int) < c.steps.length := by omega
     have hj0 : (0 : Int) <= k := Int.natCast_nonneg k
     have hn2 := nth_of_drop (f := stepD) hd2
     have hxp := hcg.pre x (mem_of_drop hd2)
     rw [hd2, edS] at hI
     simp only [go_sem, hj2, hj0, hlt2, hn2, stepD]
     refine call_data waitsR (by simp) [sysD s, stepD x] _ rfl ⟨s, x, rfl, hg, hxp, rfl⟩ (.inl rfl) ?_
     cases hw : waitB s x with
     | false =>
      rw [hw, if_neg (by decide)] at hI
      simp only [go_sem, hw]
      refine ⟨inR_i64.2 (by omega), (k + 1, acc), ⟨by simp only; omega, by simp only; omega, by simp only; rw [drop_cons hd2]; exact hI⟩, by simp only; omega, ?_⟩
      refine le_end (own := [_, _, _]) (ex := [_]) (Nat.zero_le _) ?_ ?_ ?_
      ·simp only [go_sem, Int.natCast_add, Int.cast_ofNat_Int]
      ·simp only [go_sem]
      ·simp only [go_sem, Obj.under, AV.unders, AV.under]
     | true =>
      rw [hw, if_pos rfl] at hI
      simp only [go_sem, hw]
      refine call_data targetR (by simp) [sysD s, stepD x] _ rfl ⟨s, x, rfl, hg, hxp, rfl⟩ (.inl rfl) ?_
      have hT := targetN_range hg hxp
      generalize targetN s x = T at *
      simp only [go_sem]
      refine call_data holdR (by simp) [sysD s, .int .i64 i, .int .i64 k] _ rfl ⟨s, i, k, rfl, hf, h, hlt, by rw [hget]; omega, rfl⟩ (.inl rfl) ?_
      rw [hget]
      have hHl := holdL_len s c i (c.steps.take k)
      have hHr := fun f => holdL_range (s := s) (c := c) (i := i) (L := c.steps.take k) (f := f) hlt
      generalize holdL s c i (c.steps.take k) = H at *
      simp only [go_sem, ints_len, List.length_map]
      refine sem_loop (fun p : Nat × List PEdge => ⟨slotsOf 75 [(1, .ptr 0 0 0), (5, .sl 2 0 p.2.length), (6, .map 1), (21, .dat (.sl (some 4) (s.classes.map clsD))), (22, .dat (.int .i64 s.classes.length)), (23, .dat (.int .i64 i)),
        (7, .dat (.int .i64 i)), (31, .dat (.sl (some 4) (c.steps.map stepD))), (32, .dat (.int .i64 c.steps.length)), (33, .dat (.int .i64 k)), (8, .dat (.int .i64 k)), (10, .dat (.int .i64 T)),
        (48, .dat (.sl none (intsD H))), (49, .dat (.int .i64 H.length)), (50, .dat (.int .i64 p.1))], [sysO s, .map (seenM p.2), .row (some 4) (edgesD p.2)], 0, []⟩)
       (fun p => p.1 <= H.length /\ p.2.length <= 144 * i + 12 * k + p.1 /\ edC s (i + 1) q (edS s c i (k + 1) q2 (addAll T i k (H.drop p.1) p.2)) = V) (fun p => H.length - p.1) (0, acc) ⟨Nat.zero_le _, by simp only; omega, hI⟩ ?_ ?_
      ·refine le_end (own := [_, _, _]) (ex := [_]) (Nat.zero_le _) ?_ ?_ ?_
       ·simp only [go_sem, Int.natCast_zero]
       ·simp only [go_sem]
       ·simp only [go_sem, Obj.under, AV.unders, AV.under]
      ·rintro ⟨m, acc⟩ ⟨hm, ha, hI⟩
       simp only at hm ha hI
       refine sem_of_awp (Γ := tbl tabWE) tabWE_ok _ _ _ ?_
       cases hd3 : H.drop m with
       | nil =>
        have := end_of_drop hd3 hm
        have hm2 : ¬ (m : Int) < H.length := by omega
        rw [hd3, addAll] at hI
        simp only [go_sem, hm2]
        refine ⟨inR_i64.2 (by omega), (k + 1, acc), ⟨by simp only; omega, by simp only; omega, by simp only; rw [drop_cons hd2]; exact hI⟩, by simp only; omega, ?_⟩
        exact le_slots' (by simp only [go_sem, Int.natCast_add, Int.cast_ofNat_Int])
       | cons f q3 =>
        have hlt3 := lt_of_drop hd3
        have hm2 : (m : Int) < H.length := by omega
        have hm0 : (0 : Int) <= m := Int.natCast_nonneg m
        have hn3 := nth_of_drop (f := D.int .i64) hd3
        have hF : 0 <= f /\ f <= 100 := by
         obtain ⟨r, hr, hr2, _⟩ := hHr f (mem_of_drop hd3)
         omega
        have hkeys := fun t => seen_keys t (l := acc) fun e he => hfit e (by rw [← hI]; exact edC_sub s (edS_sub s c i (addAll_sub he)))
        have hkey := fun t => isKey_end t hF hT
        have hget2 := seen_get acc f T
        have hset := fun hh => seen_set (l := acc) (a := f) (b := T) hh ⟨f, T, i, k⟩ rfl rfl
        rw [hd3, addAll, addE] at hI
        simp only at hI
        simp only [go_sem, hm2, hm0, hn3, hlt3, lookupw_end, hkey, hkeys, hget2, repl2]
        cases hh : hasE acc f T with
        | true =>
         rw [hh, if_pos rfl] at hI
         simp only [go_sem, hh]
         refine ⟨inR_i64.2 (by omega), (m + 1, acc), ⟨by simp only; omega, by simp only; omega, by simp only; rw [drop_cons hd3]; exact hI⟩, by simp only; omega, ?_⟩
         refine le_end (own := [_, _, _]) (ex := [_]) (Nat.zero_le _) ?_ ?_ ?_
         ·simp only [go_sem, Int.natCast_add, Int.cast_ofNat_Int]
         ·simp only [go_sem]
         ·simp only [go_sem, Obj.under, AV.unders, AV.under]
        | false =>
         rw [hh, if_neg (by decide)] at hI
         have hset := hset hh
         simp only [go_sem, hh, mapUpdatew_end, hkey, hkeys, hset, edges_take, edges_len]
         have e : edgesD (acc ++ [(⟨f, T, i, k⟩ : PEdge)]) = edgesD acc ++ [.agg [.int .i64 f, .int .i64 T, .int .i64 i, .int .i64 k]] := by rw [← edges_snoc]; rfl
         refine ⟨by omega, by omega, inR_i64.2 (by omega), (m + 1, acc ++ [⟨f, T, i, k⟩]), ⟨by simp only; omega, by simp; omega, by simp only; rw [drop_cons hd3]; exact hI⟩, by simp only; omega, ?_⟩
         simp only [e]
         refine le_end (own := [_, _, _]) (ex := [_, _]) (Nat.zero_le _) ?_ ?_ ?_
         ·simp only [go_sem, Int.natCast_add, Int.cast_ofNat_Int, List.length_append, List.length_cons, List.length_nil, Nat.zero_add]
         ·simp only [go_sem]
         ·simp only [go_sem, Obj.under, AV.unders, AV.under]
end Go.AM
namespace Go.AM
open Go Go.Proofs
def sameER (ds : List D) (v : AV) : Prop := ∃ (ag : Option Nat) (l : List PEdge), (ag = some 4 ∨ l = []) /\ l.length <= 10000 /\ (∀ e ∈ l, e.fit) /\ ds = [.sl ag (edgesD l), .sl ag (edgesD l)] /\ v = .dat (.bool true)
theorem edS_len (s : PSys) (c : PCls) (i : Nat) : ∀ (k : Nat) (L : List PStep) (acc : List PEdge), (edS s c i k L acc).length <= acc.length + L.length * (s.pools.length + s.locks.length + 1)
 | _, [], acc => by simp [edS]
 | k, x :: r, acc => by
  have hA : ∀ (t i k : Int) (H : List Int) (acc : List PEdge), (addAll t i k H acc).length <= acc.length + H.length := by
   intro t i k H
   induction H with
   | nil => intro acc; exact Nat.le_refl _
   | cons f r ih => intro acc; have := ih (addE acc ⟨f, t, i, k⟩); have := addE_len acc ⟨f, t, i, k⟩; simp only [addAll, List.length_cons]; omega
  rw [edS]
  refine Nat.le_trans (edS_len s c i (k + 1) r _) ?_
  have : (if waitB s x = true then addAll (targetN s x) i k (holdL s c i (c.steps.take k)) acc else acc).length <= acc.length + (s.pools.length + s.locks.length + 1) := by
   split
   ·exact Nat.le_trans (hA _ _ _ _ _) (Nat.add_le_add_left (holdL_len s c i _) _)
   ·omega
  rw [List.length_cons, Nat.succ_mul]; omega
theorem edC_len (s : PSys) (n : Nat) : ∀ (i : Nat) (L : List PCls) (acc : List PEdge), (∀ c ∈ L, c.steps.length <= n) -> (edC s i L acc).length <= acc.length + L.length * (n * (s.pools.length + s.locks.length + 1))
 | _, [], acc, _ => by simp [edC]
 | i, c :: r, acc, h => by
  rw [edC]
  refine Nat.le_trans (edC_len s n (i + 1) r _ (fun c hc => h c (List.mem_cons_of_mem _ hc))) ?_
  have h1 := edS_len s c i 0 c.steps acc
  have h2 := Nat.mul_le_mul_right (s.pools.length + s.locks.length + 1) (h c (List.mem_cons_self ..))
  rw [List.length_cons, Nat.succ_mul]; omega
end Go.AM
namespace Go.AM
open Go Go.Proofs
def impB (s : PSys) (x : PStep) : Bool :=
 if x.kind = 1 then !x.deep && decide ((s.pools.getD x.on.toNat default).size - (s.pools.getD x.on.toNat default).res < x.cnt)
 else if x.kind = 5 then decide ((s.classes.getD x.on.toNat default).workers = 0) else false
def impR (ds : List D) (v : AV) : Prop := ∃ (s : PSys) (x : PStep), ds = [sysD s, stepD x] /\ s.good /\ preE s x = 0 /\ v = .dat (.bool (impB s x))
theorem pool_at {s : PSys} (hg : s.good) {x : PStep} (hp : preE s x = 0) (hk : x.kind = 1) : ∃ i : Nat, x.on = i /\ i < s.pools.length := by
 obtain ⟨⟨k1, k2⟩, ⟨o1, o2⟩, hc, hc0⟩ := preE_0 hp
 rw [hk] at o2
 simp [mostE] at o2
 exact ⟨x.on.toNat, by omega, by omega⟩
theorem cls_at {s : PSys} (hg : s.good) {x : PStep} (hp : preE s x = 0) (hk : x.kind = 5) : ∃ i : Nat, x.on = i /\ i < s.classes.length := by
 obtain ⟨⟨k1, k2⟩, ⟨o1, o2⟩, hc, hc0⟩ := preE_0 hp
 rw [hk] at o2
 simp [mostE] at o2
 exact ⟨x.on.toNat, by omega, by omega⟩
theorem impossible_ok : OkF Try.prog 46 (dataC impR) := by
 refine okF_data Try.func46 rfl (by decide) ?_
 rintro ds v ⟨s, x, rfl, hg, hp, rfl⟩
 refine sem_of_awp (Γ := tbl []) okG_nil _ _ _ ?_
 generalize hv : impB s x = V
 have fin : ∀ s own (b c : Bool), b = c -> s.getD 4 .top = .dat (.bool b) -> post Try.prog Try.f46 (.dat (.bool c)) [] [] .ret ⟨s, own, 0, []⟩ := fun s own b c e h => by
  subst e
  exact post_data (.inl rfl) [4] rfl trivial (by simp only [tmpsOf, h]; rfl)
 have hpa := pool_at hg hp
 have hca := cls_at hg hp
 obtain ⟨⟨k1, k2⟩, ⟨o1, o2⟩, hc, hc0⟩ := preE_0 hp
 obtain ⟨kind, on, cnt, deep⟩ := x
 simp only at *
 unfold impB at hv
 simp only at hv
 have hk : kind = 1 ∨ kind = 2 ∨ kind = 3 ∨ kind = 4 ∨ kind = 5 := by omega
 rcases hk with rfl | rfl | rfl | rfl | rfl
 ·rw [if_pos rfl] at hv
  obtain ⟨i, rfl, hi⟩ := hpa rfl
  have hi2 : (i : Int) < s.pools.length := by omega
  have hnp : D.nth (s.pools.map poolD) i = poolD (s.pools.getD i default) := D.nth_map hi
  rw [Int.toNat_natCast] at hv
  have hpb := hg.pool (s.pools.getD i default) (by rw [List.getD_eq_getElem?_getD, List.getElem?_eq_getElem hi]; exact List.getElem_mem hi)
  generalize s.pools.getD i default = p at *
  unfold PPool.bad at hpb
  simp only [go_sem, Try.ntmps46, sysD, stepD]
  refine sem_draw (pf := []) (Γ := tbl []) mixed okG_nil pureNo [0, 1, 2, 3, 4, 5, 6, 7, 8, 9, 10, 11, 12, 13, 14, 15, 16, 17, 18, 19, 20, 21, 22, 23] (by kernel_rfl) ?_
  cases deep with
  | true =>
   simp only [go_sem, chainI]
   exact fin _ _ _ _ (by rw [← hv]) (by rfl)
  | false =>
   simp only [go_sem, chainI, hi, hi2, hnp, poolD]
   refine ⟨inR_i64.2 (by omega), ?_⟩
   exact fin _ _ _ _ (by rw [← hv, Bool.not_false, Bool.true_and]) (by rfl)
 ·simp only [go_sem, Try.ntmps46, sysD, stepD]
  exact fin _ _ _ _ (by rw [← hv]) (by rfl)
 ·simp only [go_sem, Try.ntmps46, sysD, stepD]
  exact fin _ _ _ _ (by rw [← hv]) (by rfl)
 ·simp only [go_sem, Try.ntmps46, sysD, stepD]
  exact fin _ _ _ _ (by rw [← hv]) (by rfl)
 ·obtain ⟨i, rfl, hi⟩ := hca rfl
  have hi2 : (i : Int) < s.classes.length := by omega
  have hnp : D.nth (s.classes.map clsD) i = clsD (s.classes.getD i default) := D.nth_map hi
  rw [if_neg (by omega), if_pos rfl, Int.toNat_natCast] at hv
  simp only [go_sem, Try.ntmps46, sysD, stepD, hi, hi2, hnp, clsD]
  exact fin _ _ _ _ hv (by rfl)
def fstL {α : Type} (p : α -> Bool) : Nat -> List α -> Option Nat
 | _, [] => none
 | k, x :: r => if p x = true then some k else fstL p (k + 1) r
def fstI : Option Nat -> Int
 | some k => (k : Int)
 | none => -1
theorem fstL_none {α : Type} {p : α -> Bool} : ∀ {k : Nat} {L : List α}, fstL p k L = none ↔ ∀ x ∈ L, p x = false
 | _, [] => by simp [fstL]
 | k, x :: r => by
  cases h : p x with
  | true => simp [fstL, h]
  | false => simp [fstL, h, fstL_none (k := k + 1) (L := r)]
theorem fstL_some {α : Type} {p : α -> Bool} : ∀ {k j : Nat} {L : List α}, fstL p k L = some j -> ∃ i x, j = k + i /\ L[i]? = some x /\ p x = true
 | k, j, [], h => by cases h
 | k, j, x :: r, h => by
  cases hx : p x with
  | true => simp only [fstL, hx, if_true, Option.some.injEq] at h; exact ⟨0, x, h.symm, rfl, hx⟩
  | false =>
   rw [fstL, hx, if_neg (by decide)] at h
   obtain ⟨i, y, h1, h2, h3⟩ := fstL_some h
   exact ⟨i + 1, y, by omega, by simpa using h2, h3⟩
def fstC (s : PSys) : Nat -> List PCls -> Option (Nat × Nat)
 | _, [] => none
 | i, c :: r => match fstL (impB s) 0 c.steps with | some k => some (i, k) | none => fstC s (i + 1) r
def fstV : Option (Nat × Nat) -> AV
 | some (i, k) => .tup [.dat (.int .i64 (i : Int)), .dat (.int .i64 (k : Int)), .dat (.bool true)]
 | none => .tup [.dat (.int .i64 0), .dat (.int .i64 0), .dat (.bool false)]
def impO (s : PSys) : Option (Nat × Nat) := if checkE s ≠ 0 then none else fstC s 0 s.classes
def impVR (ds : List D) (v : AV) : Prop := ∃ s : PSys, ds = [sysD s] /\ s.fit /\ v = fstV (impO s)
def clIR (xs : List AV) (obs : List Obj) (v0 : AV) (obs' ex : List Obj) (mv0 : List Nat) : Prop := ∃ (s : PSys) (x : PStep), s.good /\ preE s x = 0 /\
 xs = [.dat (stepD x), .ptr 0 0 0] /\ obs = [sysO s] /\ v0 = .dat (.bool (impB s x)) /\ obs' = obs /\ ex = [] /\ mv0 = []
theorem imp1_ok : OkF Try.prog 45 (lentC clIR) := by
 refine okF_lent Try.func45 rfl (by decide) ?_
 rintro xs obs v0 obs' ex mv0 ⟨s, x, hg, hp, rfl, rfl, rfl, rfl, rfl, rfl⟩
 refine sem_of_awp (Γ := tbl [(46, dataC impR)]) (okG_cons impossible_ok okG_nil) _ _ _ ?_
 simp only [go_sem, Try.ntmps45, sysO, stepD]
 refine call_data impR (by simp) [sysD s, stepD x] _ rfl ⟨s, x, rfl, hg, hp, rfl⟩ (.inl rfl) ?_
 simp only [go_sem]
 refine post_resO (.inl rfl) [.tmp 3] rfl (fun _ h => h) ?_
 simp only [go_sem]
 refine le_end (own := [_]) (ex := [_]) (Nat.le_refl _) ?_ ?_ ?_
 ·simp only [go_sem]
 ·simp only [go_sem]
 ·simp only [go_sem, Obj.under, AV.unders, AV.under]
def ixIR (xs : List AV) (obs : List Obj) (v0 : AV) (obs' ex : List Obj) (mv0 : List Nat) : Prop := ∃ (s : PSys) (L : List PStep), s.good /\ (∀ x ∈ L, preE s x = 0) /\ L.length <= 100 /\
 xs = [.dat (stepsD L), .fn 45 [.ptr 0 0 0]] /\ obs = [sysO s] /\ v0 = .dat (.int .i64 (fstI (fstL (impB s) 0 L))) /\ obs' = obs /\ ex = [] /\ mv0 = []
abbrev tabIS : List (Nat × Contract) := [(45, pureOf (lentC clIR))]
theorem tabIS_ok : OkG Try.prog (tbl tabIS) := okG_cons (okF_pureOf imp1_ok) okG_nil
theorem indexImp_ok : OkF Try.prog 44 (lentC ixIR) := by
 refine okF_lent Try.func44 rfl (by decide) ?_
 rintro xs obs v0 obs' ex mv0 ⟨s, L, hg, hL, hl, rfl, rfl, rfl, rfl, rfl, rfl⟩
 generalize hV : fstL (impB s) 0 L = V
 refine sem_of_awp (Γ := tbl tabIS) tabIS_ok _ _ _ ?_
 simp only [go_sem, Try.ntmps44, stepsD, List.length_map]
 refine sem_loop (fun k : Nat => ⟨slotsOf 19 [(0, .dat (stepsD L)), (1, .fn 45 [.ptr 0 0 0]), (7, .dat (.int .i64 L.length)), (8, .dat (.int .i64 k))], [sysO s], 1, []⟩)
  (fun k => k <= L.length /\ fstL (impB s) k (L.drop k) = V) (fun k => L.length - k) 0 ⟨Nat.zero_le _, hV⟩ ?_ ?_
 ·exact le_slots' (by simp only [go_sem, Int.natCast_zero, stepsD])
 rintro k ⟨hk, hV⟩
 refine sem_of_awp (Γ := tbl tabIS) tabIS_ok _ _ _ ?_
 cases hd : L.drop k with
 | nil =>
  have := end_of_drop hd hk
  have hk2 : ¬ (k : Int) < L.length := by omega
  rw [hd, fstL] at hV
  simp only [go_sem, hk2]
  exact post_own (.inl rfl) [4] rfl (by rw [← hV]; simp only [tmpsOf]; rfl) (fun _ h => h)
 | cons x r =>
  have hlt := lt_of_drop hd
  have hk2 : (k : Int) < L.length := by omega
  have hk0 : (0 : Int) <= k := Int.natCast_nonneg k
  have hn := nth_of_drop (f := stepD) hd
  have hx := hL x (mem_of_drop hd)
  rw [hd, fstL] at hV
  simp only [go_sem, hk2, hk0, hn, hlt, stepsD, List.length_map]
  refine callw_caps (call_lentP clIR (by simp) [0] ⟨s, x, hg, hx, rfl, rfl, rfl, rfl, rfl, rfl⟩ (by decide) (by simp) rfl rfl (by simp only [go_sem, stepD]) (by simp only [go_sem, List.mem_cons, List.not_mem_nil, or_false, forall_eq_or_imp, forall_eq, Obj.under, AV.unders, AV.under]) (fun j hj => by
   match j, hj with
   | 0, _ => rfl) ?_)
  cases hp : impB s x with
  | true =>
   rw [hp, if_pos rfl] at hV
   simp only [go_sem, hp]
   exact post_own (.inl rfl) [4] rfl (by rw [← hV]; simp only [tmpsOf]; rfl) (fun _ h => h)
  | false =>
   rw [hp, if_neg (by decide)] at hV
   simp only [go_sem, hp]
   refine ⟨inR_i64.2 (by omega), k + 1, ⟨by omega, by rw [drop_cons hd]; exact hV⟩, by omega, ?_⟩
   exact le_slots' (by simp only [go_sem, Int.natCast_add, Int.cast_ofNat_Int, stepsD])
abbrev tabIM : List (Nat × Contract) := [(6, dataC checkR), (44, pureOf (lentC ixIR))]
theorem tabIM_ok : OkG Try.prog (tbl tabIM) := okG_cons check_ok (okG_cons (okF_pureOf indexImp_ok) okG_nil)
theorem Impossible_ok : OkF Try.prog 20 (dataC impVR) := by
 refine okF_data Try.func20 rfl (by decide) ?_
 rintro ds v ⟨s, rfl, hf, rfl⟩
 refine sem_of_awp (Γ := tbl tabIM) tabIM_ok _ _ _ ?_
 simp only [go_sem, Try.ntmps20, sysD]
 refine call_data checkR (by simp) [sysD s] _ rfl ⟨s, rfl, hf, rfl⟩ (.inl rfl) ?_
 unfold impO
 by_cases h : checkE s = 0
 case neg =>
  rw [if_pos h]
  simp only [go_sem, h]
  refine post_res (.inl rfl) [.tmp 2, .tmp 3, .tmp 4] rfl ?_
  simp only [go_sem, fstV]
  exact le_fin (by simp only [go_sem]) (by simp only [go_sem])
 rw [if_neg (by rw [h]; decide)]
 have hg := good_of h
 have hnc := hg.nc
 generalize hV : fstC s 0 s.classes = V
 simp only [go_sem, h, List.length_map]
 refine sem_loop (fun k : Nat => ⟨slotsOf 29 [(1, .ptr 0 0 0), (12, .dat (.int .i64 s.classes.length)), (13, .dat (.int .i64 k))], [sysO s], 0, []⟩)
  (fun k => k <= s.classes.length /\ fstC s k (s.classes.drop k) = V) (fun k => s.classes.length - k) 0 ⟨Nat.zero_le _, hV⟩ ?_ ?_
 ·exact le_slots' (by simp only [go_sem, Int.natCast_zero])
 rintro k ⟨hk, hV⟩
 refine sem_of_awp (Γ := tbl tabIM) tabIM_ok _ _ _ ?_
 cases hd : s.classes.drop k with
 | nil =>
  have := end_of_drop hd hk
  have hk2 : ¬ (k : Int) < s.classes.length := by omega
  rw [hd, fstC] at hV
  rw [← hV]
  simp only [go_sem, hk2]
  refine post_res (.inl rfl) [.tmp 2, .tmp 3, .tmp 4] rfl ?_
  simp only [go_sem, fstV]
  exact le_fin (by simp only [go_sem]) (by simp only [go_sem])
 | cons c r =>
  have hlt := lt_of_drop hd
  have hk2 : (k : Int) < s.classes.length := by omega
  have hk0 : (0 : Int) <= k := Int.natCast_nonneg k
  have hn := nth_of_drop (f := clsD) hd
  have hc := hg.cls c (mem_of_drop hd)
  have h12 := hc.l12
  rw [hd, fstC] at hV
  simp only [go_sem, hk2, hk0, hn, hlt, clsD, List.length_map]
  refine call_lentP ixIR (by simp) [0] ⟨s, c.steps, hg, hc.pre, by omega, rfl, rfl, rfl, rfl, rfl, rfl⟩ (by decide) (by simp) rfl rfl (by simp only [go_sem, stepsD]) (by simp only [go_sem, List.mem_cons, List.not_mem_nil, or_false, forall_eq_or_imp, forall_eq, Obj.under, AV.unders, AV.under]) (fun j hj => by
   match j, hj with
   | 0, _ => rfl) ?_
  cases hp : fstL (impB s) 0 c.steps with
  | some j =>
   rw [hp] at hV
   have hj0 : (0 : Int) <= j := Int.natCast_nonneg j
   simp only [go_sem, fstI, hj0]
   refine post_res (.inl rfl) [.tmp 2, .tmp 3, .tmp 4] rfl ?_
   rw [← hV]
   simp only [go_sem, fstV]
   exact le_fin (by simp only [go_sem]) (by simp only [go_sem])
  | none =>
   rw [hp] at hV
   simp only [go_sem, fstI]
   refine ⟨inR_i64.2 (by omega), k + 1, ⟨by omega, by rw [drop_cons hd]; exact hV⟩, by omega, ?_⟩
   exact le_slots' (by simp only [go_sem, Int.natCast_add, Int.cast_ofNat_Int])
end Go.AM
namespace Go.AM
open Go Go.Proofs
def lotI (n : Int) : Bool := decide (1 < n)
def lotR (ds : List D) (v : AV) : Prop := ∃ n : Int, ds = [.int .i64 n] /\ v = .dat (.bool (lotI n))
theorem lot_ok : OkF Try.prog 52 (dataC lotR) := by
 refine okF_data Try.func52 rfl (by decide) ?_
 rintro ds v ⟨n, rfl, rfl⟩
 refine sem_of_awp (Γ := tbl []) okG_nil _ _ _ ?_
 unfold lotI
 simp only [go_sem, Try.ntmps52]
 exact post_data (.inl rfl) [2] rfl trivial rfl
def ixLR (xs : List AV) (obs : List Obj) (v0 : AV) (obs' ex : List Obj) (mv0 : List Nat) : Prop := ∃ (L : List Int), L.length <= 10000 /\
 xs = [.dat (.sl none (intsD L)), .fn 52 []] /\ obs = [] /\ v0 = .dat (.int .i64 (fstI (fstL lotI 0 L))) /\ obs' = obs /\ ex = [] /\ mv0 = []
abbrev tabIL : List (Nat × Contract) := [(52, dataC lotR)]
theorem tabIL_ok : OkG Try.prog (tbl tabIL) := okG_cons lot_ok okG_nil
theorem indexLot_ok : OkF Try.prog 50 (lentC ixLR) := by
 refine okF_lent Try.func50 rfl (by decide) ?_
 rintro xs obs v0 obs' ex mv0 ⟨L, hl, rfl, rfl, rfl, rfl, rfl, rfl⟩
 generalize hV : fstL lotI 0 L = V
 refine sem_of_awp (Γ := tbl tabIL) tabIL_ok _ _ _ ?_
 simp only [go_sem, Try.ntmps50, ints_len]
 refine sem_loop (fun k : Nat => ⟨slotsOf 19 [(0, .dat (.sl none (intsD L))), (1, .fn 52 []), (7, .dat (.int .i64 L.length)), (8, .dat (.int .i64 k))], [], 0, []⟩)
  (fun k => k <= L.length /\ fstL lotI k (L.drop k) = V) (fun k => L.length - k) 0 ⟨Nat.zero_le _, hV⟩ ?_ ?_
 ·exact le_slots' (by simp only [go_sem, Int.natCast_zero])
 rintro k ⟨hk, hV⟩
 refine sem_of_awp (Γ := tbl tabIL) tabIL_ok _ _ _ ?_
 cases hd : L.drop k with
 | nil =>
  have := end_of_drop hd hk
  have hk2 : ¬ (k : Int) < L.length := by omega
  rw [hd, fstL] at hV
  simp only [go_sem, hk2]
  exact post_own (.inl rfl) [4] rfl (by rw [← hV]; simp only [tmpsOf]; rfl) (fun _ h => h)
 | cons x r =>
  have hlt := lt_of_drop hd
  have hk2 : (k : Int) < L.length := by omega
  have hk0 : (0 : Int) <= k := Int.natCast_nonneg k
  have hn := nth_of_drop (f := .int .i64) hd
  rw [hd, fstL] at hV
  simp only [go_sem, hk2, hk0, hn, hlt, ints_len]
  refine call_data lotR (by simp) _ _ rfl ⟨x, rfl, rfl⟩ (.inl rfl) ?_
  cases hp : lotI x with
  | true =>
   rw [hp, if_pos rfl] at hV
   simp only [go_sem, hp]
   exact post_own (.inl rfl) [4] rfl (by rw [← hV]; simp only [tmpsOf]; rfl) (fun _ h => h)
  | false =>
   rw [hp, if_neg (by decide)] at hV
   simp only [go_sem, hp]
   refine ⟨inR_i64.2 (by omega), k + 1, ⟨by omega, by rw [drop_cons hd]; exact hV⟩, by omega, ?_⟩
   exact le_slots' (by simp only [go_sem, Int.natCast_add, Int.cast_ofNat_Int])
def hasLR (xs : List AV) (obs : List Obj) (v0 : AV) (obs' ex : List Obj) (mv0 : List Nat) : Prop := ∃ (L : List Int), L.length <= 10000 /\
 xs = [.dat (.sl none (intsD L)), .fn 52 []] /\ obs = [] /\ v0 = .dat (.bool (L.any lotI)) /\ obs' = obs /\ ex = [] /\ mv0 = []
theorem fst_anyL {L : List Int} : decide (0 <= fstI (fstL lotI 0 L)) = L.any lotI := by
 cases h : fstL lotI 0 L with
 | none =>
  have := fstL_none.1 h
  rw [Bool.eq_iff_iff, List.any_eq_true, decide_eq_true_eq]
  constructor
  ·intro hh; simp [fstI] at hh
  ·rintro ⟨x, hx, hx2⟩; rw [this x hx] at hx2; cases hx2
 | some j =>
  obtain ⟨i, x, _, h2, h3⟩ := fstL_some h
  rw [Bool.eq_iff_iff, List.any_eq_true, decide_eq_true_eq]
  exact ⟨fun _ => ⟨x, List.mem_of_getElem? h2, h3⟩, fun _ => by simp [fstI]⟩
theorem hasLot_ok : OkF Try.prog 28 (lentC hasLR) := by
 refine okF_lent Try.func28 rfl (by decide) ?_
 rintro xs obs v0 obs' ex mv0 ⟨L, hl, rfl, rfl, rfl, rfl, rfl, rfl⟩
 refine sem_of_awp (Γ := tbl [(50, pureOf (lentC ixLR))]) (okG_cons (okF_pureOf indexLot_ok) okG_nil) _ _ _ ?_
 simp only [go_sem, Try.ntmps28]
 refine call_lentP ixLR (by simp) [] ⟨L, hl, rfl, rfl, rfl, rfl, rfl, rfl⟩ (by decide) (by simp) rfl rfl (by simp only [go_sem]) (by simp) (fun j hj => by simp at hj) ?_
 simp only [go_sem, fst_anyL]
 exact post_own (.inl rfl) [4] rfl (by simp only [tmpsOf]; rfl) (fun _ h => h)
theorem fmd_ok {s : PSys} : ∀ {l : List PFr} {p : Option PFr}, fmd s p l = true -> ∀ f ∈ l, frOk s f = true
 | [], _, _, f, hf => by simp at hf
 | g :: l, p, h, f, hf => by
  rw [fmd_cons, Bool.and_eq_true, Bool.and_eq_true] at h
  rcases List.mem_cons.1 hf with rfl | hf
  ·exact h.1.1
  ·exact fmd_ok h.2 f hf
theorem formedB_ok {s : PSys} {l : List PFr} {c : Nat} (h : formedB s l c = true) : l ≠ [] /\ ∀ f ∈ l, frOk s f = true := by
 cases l with
 | nil => simp [formedB] at h
 | cons f r =>
  unfold formedB at h
  simp only [Bool.and_eq_true] at h
  exact ⟨by simp, fmd_ok h.2⟩
theorem fmdAll_ok {s : PSys} : ∀ {x : PSt} {w : List Nat}, fmdAll s x w = true -> x.length = w.length -> ∀ l ∈ x, l ≠ [] /\ ∀ f ∈ l, frOk s f = true
 | [], _, _, _, l, hl => by simp at hl
 | _ :: _, [], _, h, _, _ => by simp at h
 | m :: x, c :: w, h, hlen, l, hl => by
  simp only [fmdAll, Bool.and_eq_true] at h
  rcases List.mem_cons.1 hl with rfl | hl
  ·exact formedB_ok h.1
  ·exact fmdAll_ok h.2 (by simpa using hlen) l hl
theorem frames_ok {s : PSys} {x : PSt} {w : List Nat} (h : fmdAll s x w = true) (hl : x.length = w.length) : ∀ f ∈ frames x, frOk s f = true := fun f hf => by
 obtain ⟨l, hm, hf⟩ := List.mem_flatten.1 hf
 exact (fmdAll_ok h hl l hm).2 f hf
theorem any_lot {s : PSys} {L : List PFr} : (talL s L).any lotI = (List.range s.locks.length).any fun i => decide (1 < sumI (frL s i) L) := by
 unfold talL
 rw [List.any_map]
 rfl
theorem any_at {n k : Nat} {p : Nat -> Bool} (hk : k < n) (h : p k = true) : (List.range n).any p = true := List.any_eq_true.2 ⟨k, List.mem_range.2 hk, h⟩
theorem any_no {n : Nat} {p : Nat -> Bool} (h : ∀ i, i < n -> p i = false) : (List.range n).any p = false := by
 rw [← Bool.not_eq_true, List.any_eq_true]
 rintro ⟨i, hi, hp⟩
 rw [h i (List.mem_range.1 hi)] at hp; cases hp
def stErrR (ds : List D) (v : AV) : Prop := ∃ (s : PSys) (x : PSt), ds = [sysD s, stD x] /\ s.fit /\ PStFit x /\ v = .dat (.int .i64 (stErr s x))
abbrev tabXC : List (Nat × Contract) := [(6, dataC checkR), (29, dataC wkR), (51, dataC fmR), (33, dataC talR), (28, pureOf (lentC hasLR))]
theorem tabXC_ok : OkG Try.prog (tbl tabXC) := okG_cons check_ok (okG_cons workers_ok (okG_cons formed_ok (okG_cons tally_ok (okG_cons (okF_pureOf hasLot_ok) okG_nil))))
theorem pureXC : PureFns (tbl tabXC) [51] := by
 refine pure_of2 fun g C hm hg => ?_
 simp only [List.mem_cons, List.not_mem_nil, or_false, Prod.mk.injEq] at hm
 rcases hm with ⟨_, rfl⟩ | ⟨_, rfl⟩ | ⟨_, rfl⟩ | ⟨_, rfl⟩ | ⟨_, rfl⟩
 ·exact .inl ⟨_, rfl⟩
 ·exact .inl ⟨_, rfl⟩
 ·exact .inl ⟨_, rfl⟩
 ·exact .inl ⟨_, rfl⟩
 ·exact .inr ⟨_, rfl⟩
theorem xcheck_ok : OkF Try.prog 30 (dataC stErrR) := by
 refine okF_data Try.func30 rfl (by decide) ?_
 rintro ds v ⟨s, x, rfl, hf, hx, rfl⟩
 generalize hv : stErr s x = V
 unfold stErr at hv
 refine sem_of_awp (Γ := tbl tabXC) tabXC_ok _ _ _ ?_
 simp only [go_sem, Try.ntmps30, sysD, stD]
 refine call_data checkR (by simp) [sysD s] _ rfl ⟨s, rfl, hf, rfl⟩ (.inl rfl) ?_
 by_cases he : checkE s = 0
 case neg =>
  rw [if_pos he] at hv
  subst hv
  simp only [go_sem, he]
  exact post_data (.inl rfl) [4] rfl trivial rfl
 have hg := good_of he
 rw [if_neg (by rw [he]; decide)] at hv
 simp only [go_sem, he]
 refine call_data wkR (by simp) [sysD s] _ rfl ⟨s, rfl, hg, rfl⟩ (.inl rfl) ?_
 have hlen := wkL_len hg
 have hxl2 : (stacksD x).length = x.length := by simp
 generalize hW : wkL s = W at *
 by_cases hl : W.length = x.length
 case neg =>
  rw [if_pos hl] at hv
  subst hv
  have hl2 : ¬ (W.length : Int) = x.length := by omega
  simp only [go_sem, nats_len, hxl2, hl2]
  exact post_data (.inl rfl) [4] rfl trivial rfl
 rw [if_neg (by rw [hl]; simp)] at hv
 have hl2 : (W.length : Int) = x.length := by omega
 simp only [go_sem, nats_len, hxl2, hl2]
 refine sem_loop (fun k : Nat => ⟨slotsOf 92 [(2, .ptr 0 0 0), (3, .ptr 1 0 0), (27, .dat (.sl none (natsD W))), (28, .dat (.int .i64 x.length)), (29, .dat (.int .i64 k))], [sysO s, stO x], 0, []⟩)
  (fun k => k <= x.length /\ fmdAll s x W = fmdAll s (x.drop k) (W.drop k)) (fun k => x.length - k) 0 ⟨Nat.zero_le _, rfl⟩ ?_ ?_
 ·exact le_slots' (by simp only [go_sem, Int.natCast_zero])
 rintro k ⟨hk, hA⟩
 refine sem_of_awp (Γ := tbl tabXC) tabXC_ok _ _ _ ?_
 cases hd : x.drop k with
 | cons l r =>
  have hlt := lt_of_drop hd
  have hk2 : (k : Int) < x.length := by omega
  have hk0 : (0 : Int) <= k := Int.natCast_nonneg k
  have hkW : k < W.length := by omega
  have hkW2 : (k : Int) < W.length := by omega
  have hn := nth_of_drop (f := stackD) hd
  have hll := hx.stk l (mem_of_drop hd)
  obtain ⟨c, rW, hdW⟩ : ∃ c rW, W.drop k = c :: rW := by
   cases hdW : W.drop k with
   | nil => have := List.drop_eq_nil_iff.1 hdW; omega
   | cons c rW => exact ⟨c, rW, rfl⟩
  have hnW : D.nth (natsD W) k = .int .i64 c := nth_of_drop hdW
  rw [hd, hdW, fmdAll] at hA
  simp only [go_sem, hk2, hk0, hkW, hkW2, hnW, nats_len]
  refine sem_draw (pf := [51]) (Γ := tbl tabXC) mixed tabXC_ok pureXC [0, 1, 2, 3, 4, 5, 6, 7, 8] (by kernel_rfl) ?_
  simp only [go_sem, chainI, hk2, hk0, hlt, hn, hxl2]
  refine call_data fmR (by simp) [sysD s, stackD l, .int .i64 c] _ rfl ⟨s, l, c, rfl, hg, hll, rfl⟩ (.inl rfl) ?_
  cases hfo : formedB s l c with
  | false =>
   rw [hfo, Bool.false_and] at hA
   rw [if_pos hA] at hv
   subst hv
   simp only [go_sem, chainI]
   exact post_data (.inl rfl) [4] rfl trivial rfl
  | true =>
   rw [hfo, Bool.true_and] at hA
   simp only [go_sem, chainI]
   refine ⟨inR_i64.2 (by omega), k + 1, ⟨by omega, by rw [drop_cons hd, drop_cons hdW]; exact hA⟩, by omega, ?_⟩
   exact le_slots' (by simp only [go_sem, Int.natCast_add, Int.cast_ofNat_Int])
 | nil =>
 obtain rfl : k = x.length := end_of_drop hd hk
 have hk2 : ¬ (x.length : Int) < x.length := by omega
 rw [hd, ← hl, List.drop_length] at hA
 have hA : fmdAll s x W = true := hA.trans rfl
 rw [if_neg (by rw [hA]; decide)] at hv
 have hfr := frames_ok hA hl.symm
 have hfl := frames_len hx
 simp only [go_sem, hk2]
 refine call_data talR (by simp) [sysD s, stD x] _ rfl ⟨s, x, rfl, hg, hx, hfr, rfl⟩ (.inl rfl) ?_
 have hU : (talU s (frames x)).length = s.pools.length := by simp [talU]
 have hLk : (talL s (frames x)).length = s.locks.length := by simp [talL]
 have hE : (talE s (frames x)).length = s.classes.length := by simp [talE]
 unfold overB at hv
 generalize frames x = L at *
 have hnp := hg.np
 have hnc := hg.nc
 have hnl := hg.nl
 simp only [go_sem, useD, ints_len, hU]
 refine sem_loop (fun k : Nat => ⟨slotsOf 92 [(2, .ptr 0 0 0), (3, .ptr 1 0 0), (9, .ptr 2 0 0), (48, .dat (.sl none (intsD (talU s L)))), (49, .dat (.int .i64 s.pools.length)), (50, .dat (.int .i64 k))], [sysO s, stO x, .box [.dat (.sl none (intsD (talU s L))), .dat (.sl none (intsD (talL s L))), .dat (.sl none (intsD (talE s L)))]], 0, []⟩)
  (fun k => k <= s.pools.length /\ ∀ i, i < k -> ¬ (s.pools.getD i default).size < sumI (frU s i) L) (fun k => s.pools.length - k) 0 ⟨Nat.zero_le _, fun i hi => absurd hi (Nat.not_lt_zero i)⟩ ?_ ?_
 ·exact le_slots' (by simp only [go_sem, Int.natCast_zero])
 rintro k ⟨hk, hB⟩
 refine sem_of_awp (Γ := tbl tabXC) tabXC_ok _ _ _ ?_
 rcases Nat.lt_or_ge k s.pools.length with hlt | hge
 ·have hk2 : (k : Int) < s.pools.length := by omega
  have hk0 : (0 : Int) <= k := Int.natCast_nonneg k
  have hUn : D.nth (intsD (talU s L)) k = .int .i64 (sumI (frU s k) L) := rngM_get hlt
  have hpn : D.nth (s.pools.map poolD) k = poolD (s.pools.getD k default) := D.nth_map hlt
  have hpl : (s.pools.map poolD).length = s.pools.length := by simp
  by_cases hb : (s.pools.getD k default).size < sumI (frU s k) L
  ·rw [any_at hlt (by rw [decide_eq_true hb]), Bool.true_or, Bool.true_or, if_pos rfl] at hv
   subst hv
   simp only [go_sem, hk2, hk0, hlt, hUn, hpn, hpl, poolD, ints_len, hU, hb]
   exact post_data (.inl rfl) [4] rfl trivial rfl
  ·simp only [go_sem, hk2, hk0, hlt, hUn, hpn, hpl, poolD, ints_len, hU, hb]
   refine ⟨inR_i64.2 (by omega), k + 1, ⟨by omega, fun i hi => ?_⟩, by omega, ?_⟩
   ·rcases Nat.lt_or_ge i k with h | h
    ·exact hB i h
    ·obtain rfl : i = k := by omega
     exact hb
   ·exact le_slots' (by simp only [go_sem, Int.natCast_add, Int.cast_ofNat_Int])
 obtain rfl : k = s.pools.length := by omega
 have hk2 : ¬ (s.pools.length : Int) < s.pools.length := by omega
 rw [any_no fun i hi => decide_eq_false (hB i hi), Bool.false_or] at hv
 simp only [go_sem, hk2, ints_len, hE]
 refine sem_loop (fun k : Nat => ⟨slotsOf 92 [(2, .ptr 0 0 0), (3, .ptr 1 0 0), (9, .ptr 2 0 0), (65, .dat (.sl none (intsD (talE s L)))), (66, .dat (.int .i64 s.classes.length)), (67, .dat (.int .i64 k))], [sysO s, stO x, .box [.dat (.sl none (intsD (talU s L))), .dat (.sl none (intsD (talL s L))), .dat (.sl none (intsD (talE s L)))]], 0, []⟩)
  (fun k => k <= s.classes.length /\ ∀ i, i < k -> ((s.classes.getD i default).server && decide ((s.classes.getD i default).workers < sumI (frE s i) L)) = false) (fun k => s.classes.length - k) 0 ⟨Nat.zero_le _, fun i hi => absurd hi (Nat.not_lt_zero i)⟩ ?_ ?_
 ·exact le_slots' (by simp only [go_sem, Int.natCast_zero])
 rintro k ⟨hk, hB2⟩
 refine sem_of_awp (Γ := tbl tabXC) tabXC_ok _ _ _ ?_
 rcases Nat.lt_or_ge k s.classes.length with hlt | hge
 ·have hk2 : (k : Int) < s.classes.length := by omega
  have hk0 : (0 : Int) <= k := Int.natCast_nonneg k
  have hUn : D.nth (intsD (talE s L)) k = .int .i64 (sumI (frE s k) L) := rngM_get hlt
  have hpn : D.nth (s.classes.map clsD) k = clsD (s.classes.getD k default) := D.nth_map hlt
  have hpl : (s.classes.map clsD).length = s.classes.length := by simp
  cases hsv : (s.classes.getD k default).server with
  | false =>
   simp only [go_sem, hk2, hk0, hlt, hUn, hpn, hpl, clsD, stepsD, ints_len, hE, hsv]
   refine ⟨inR_i64.2 (by omega), k + 1, ⟨by omega, fun i hi => ?_⟩, by omega, ?_⟩
   ·rcases Nat.lt_or_ge i k with h | h
    ·exact hB2 i h
    ·obtain rfl : i = k := by omega
     rw [hsv, Bool.false_and]
   ·exact le_slots' (by simp only [go_sem, Int.natCast_add, Int.cast_ofNat_Int])
  | true =>
   by_cases hb : (s.classes.getD k default).workers < sumI (frE s k) L
   ·rw [any_at hlt (by rw [hsv, decide_eq_true hb]; rfl), Bool.true_or, if_pos rfl] at hv
    subst hv
    simp only [go_sem, hk2, hk0, hlt, hUn, hpn, hpl, clsD, stepsD, ints_len, hE, hsv, hb]
    exact post_data (.inl rfl) [4] rfl trivial rfl
   ·simp only [go_sem, hk2, hk0, hlt, hUn, hpn, hpl, clsD, stepsD, ints_len, hE, hsv, hb]
    refine ⟨inR_i64.2 (by omega), k + 1, ⟨by omega, fun i hi => ?_⟩, by omega, ?_⟩
    ·rcases Nat.lt_or_ge i k with h | h
     ·exact hB2 i h
     ·obtain rfl : i = k := by omega
      rw [hsv, decide_eq_false hb, Bool.and_false]
    ·exact le_slots' (by simp only [go_sem, Int.natCast_add, Int.cast_ofNat_Int])
 obtain rfl : k = s.classes.length := by omega
 have hk2 : ¬ (s.classes.length : Int) < s.classes.length := by omega
 rw [any_no hB2, Bool.false_or, ← any_lot] at hv
 simp only [go_sem, hk2]
 refine call_lentP hasLR (by simp) [] ⟨talL s L, by rw [hLk]; omega, rfl, rfl, rfl, rfl, rfl, rfl⟩ (by decide) (by simp) rfl rfl (by simp only [go_sem]) (by simp) (fun j hj => by simp at hj) ?_
 cases ho : (talL s L).any lotI with
 | true =>
  rw [ho, if_pos rfl] at hv
  subst hv
  simp only [go_sem]
  exact post_data (.inl rfl) [4] rfl trivial rfl
 | false =>
  rw [ho, if_neg (by decide)] at hv
  subst hv
  simp only [go_sem]
  exact post_data (.inl rfl) [4] rfl trivial rfl
end Go.AM
namespace Go.AM
open Go Go.Proofs
structure Valid (s : PSys) (x : PSt) : Prop where
 good : s.good
 len : x.length = (wkL s).length
 fmd : fmdAll s x (wkL s) = true
 nover : overB s x = false
theorem valid_of {s : PSys} {x : PSt} (h : stErr s x = 0) : Valid s x := by
 unfold stErr at h
 split at h
 ·rename_i h1; exact absurd h h1
 ·rename_i h1
  split at h
  ·cases h
  ·rename_i h2
   split at h
   ·cases h
   ·rename_i h3
    split at h
    ·cases h
    ·rename_i h4
     exact ⟨good_of (Classical.byContradiction h1), (Classical.byContradiction h2 : (wkL s).length = x.length).symm, by simpa using h3, by simpa using h4⟩
theorem Valid.l24 {s : PSys} {x : PSt} (h : Valid s x) : x.length <= 24 := by have := wkL_len h.good; rw [h.len]; exact this
theorem Valid.stk {s : PSys} {x : PSt} (h : Valid s x) {w : Nat} (hw : w < x.length) : x.getD w [] ≠ [] /\ ∀ f ∈ x.getD w [], frOk s f = true := by
 refine fmdAll_ok h.fmd h.len _ ?_
 rw [List.getD_eq_getElem?_getD, List.getElem?_eq_getElem hw]; exact List.getElem_mem _
theorem Valid.frames {s : PSys} {x : PSt} (h : Valid s x) : ∀ f ∈ frames x, frOk s f = true := frames_ok h.fmd h.len
theorem topF_mem {l : List PFr} (h : l ≠ []) : topF l ∈ l := by
 have : 0 < l.length := List.length_pos_iff.2 h
 unfold topF
 rw [List.getD_eq_getElem?_getD, List.getElem?_eq_getElem (by omega)]; exact List.getElem_mem _
theorem Valid.top {s : PSys} {x : PSt} (h : Valid s x) {w : Nat} (hw : w < x.length) : frOk s (topF (x.getD w [])) = true := (h.stk hw).2 _ (topF_mem (h.stk hw).1)
theorem step_mem {s : PSys} (hg : s.good) {f : PFr} (hf : frOk s f = true) : preE s (stepAtF s f) = 0 := by
 obtain ⟨c1, c2, c3, c4⟩ := frOk_iff.1 hf
 have hcm : clsAt s f ∈ s.classes := by
  unfold clsAt; rw [List.getD_eq_getElem?_getD, List.getElem?_eq_getElem (by omega)]; exact List.getElem_mem _
 refine (hg.cls _ hcm).pre _ ?_
 unfold stepAtF
 rw [List.getD_eq_getElem?_getD, List.getElem?_eq_getElem (by omega)]; exact List.getElem_mem _
theorem getD_fit {x : PSt} (hx : PStFit x) {w : Nat} (hw : w < x.length) : (x.getD w []).length <= 1000 := hx.stk _ (by rw [List.getD_eq_getElem?_getD, List.getElem?_eq_getElem hw]; exact List.getElem_mem _)
def availN (s : PSys) (x : PSt) (p : Int) : Int := if stErr s x ≠ 0 then -1 else if p < 0 ∨ (s.pools.length : Int) <= p then -1 else (s.pools.getD p.toNat default).size - sumI (frU s p.toNat) (frames x)
def availR (ds : List D) (v : AV) : Prop := ∃ (s : PSys) (x : PSt) (p : Int), ds = [sysD s, stD x, .int .i64 p] /\ s.fit /\ PStFit x /\ v = .dat (.int .i64 (availN s x p))
abbrev tabXA : List (Nat × Contract) := [(30, dataC stErrR), (33, dataC talR)]
def ableR (ds : List D) (v : AV) : Prop := ∃ (s : PSys) (x : PSt), ds = [sysD s, stD x] /\ Valid s x /\ PStFit x /\ v = .dat (.sl none (natsD (ableL s x)))
abbrev tabXE : List (Nat × Contract) := [(33, dataC talR), (34, dataC topR), (32, dataC possR)]
theorem tabXE_ok : OkG Try.prog (tbl tabXE) := okG_cons tally_ok (okG_cons top_ok (okG_cons possible_ok okG_nil))
theorem pureXE : PureFns (tbl tabXE) [33, 34, 32] := by
 refine pure_of2 fun g C hm hg => ?_
 simp only [List.mem_cons, List.not_mem_nil, or_false, Prod.mk.injEq] at hm
 rcases hm with ⟨_, rfl⟩ | ⟨_, rfl⟩ | ⟨_, rfl⟩
 ·exact .inl ⟨_, rfl⟩
 ·exact .inl ⟨_, rfl⟩
 ·exact .inl ⟨_, rfl⟩
theorem able_len (s : PSys) (x : PSt) (k : Nat) : ((List.range k).filter (ableB s x)).length <= k := by
 have := List.length_filter_le (ableB s x) (List.range k)
 simpa using this
theorem enabled_ok : OkF Try.prog 31 (dataC ableR) := by
 refine okF_data Try.func31 rfl (by decide) ?_
 rintro ds v ⟨s, x, rfl, hV, hx, rfl⟩
 have hg := hV.good
 have hL := hV.frames
 have hLl := frames_len hx
 have hx24 := hV.l24
 have hxl2 : (stacksD x).length = x.length := by simp
 refine sem_of_awpK [3] (Γ := tbl tabXE) tabXE_ok _ _ _ ?_
 simp only [go_sem, Try.ntmps31, sysD, stD]
 refine call_data talR (by simp) [sysD s, stD x] _ rfl ⟨s, x, rfl, hg, hx, hL, rfl⟩ (.inl rfl) ?_
 simp only [go_sem, useD]
 refine sem_le (le_addnil 6 none rfl (Nat.zero_le _)) ?_
 refine sem_of_awp (Γ := tbl tabXE) tabXE_ok _ _ _ ?_
 simp only [go_sem, hxl2]
 refine sem_loop (fun k : Nat => ⟨slotsOf 30 [(2, .ptr 0 0 0), (3, .ptr 1 0 0), (5, .ptr 2 0 0), (6, .sl 3 0 ((List.range k).filter (ableB s x)).length), (13, .dat (.int .i64 x.length)), (14, .dat (.int .i64 k))], [sysO s, stO x, .box [.dat (.sl none (intsD (talU s (frames x)))), .dat (.sl none (intsD (talL s (frames x)))), .dat (.sl none (intsD (talE s (frames x))))], .row none (natsD ((List.range k).filter (ableB s x)))], 0, []⟩)
  (fun k => k <= x.length) (fun k => x.length - k) 0 (Nat.zero_le _) ?_ ?_
 ·exact le_slots' (by simp only [go_sem, Int.natCast_zero, List.range_zero, List.filter_nil, List.length_nil])
 rintro k hk
 rcases Nat.lt_or_ge k x.length with hlt | hge
 ·have hk2 : (k : Int) < x.length := by omega
  have hk0 : (0 : Int) <= k := Int.natCast_nonneg k
  have hal := able_len s x k
  have hsx := (hV.stk hlt).1
  refine sem_of_awp (Γ := tbl tabXE) tabXE_ok _ _ _ ?_
  simp only [go_sem, hk2]
  refine sem_draw (pf := [33, 34, 32]) (Γ := tbl tabXE) mixed tabXE_ok pureXE [0, 1, 2, 3, 4, 5, 6] (by kernel_rfl) ?_
  simp only [go_sem, chainI]
  refine call_data topR (by simp) [sysD s, stD x, .int .i64 k] _ rfl ⟨s, x, k, rfl, hlt, hx.len, List.length_pos_iff.2 hsx, getD_fit hx hlt, hV.top hlt, rfl⟩ (.inl rfl) ?_
  simp only [go_sem, chainI]
  refine call_data possR (by simp) [sysD s, useD s (frames x), stepD (topS s x k)] _ rfl ⟨s, frames x, topS s x k, rfl, hg, hL, hLl, step_mem hg (hV.top hlt), rfl⟩ (.inl rfl) ?_
  have hab : posB s (frames x) (topS s x k) = ableB s x k := rfl
  rw [hab]
  cases hb : ableB s x k with
  | false =>
   have hr : (List.range (k + 1)).filter (ableB s x) = (List.range k).filter (ableB s x) := by rw [List.range_succ, List.filter_append]; simp [hb]
   simp only [go_sem, chainI]
   refine ⟨inR_i64.2 (by omega), k + 1, by omega, by omega, ?_⟩
   rw [hr]
   exact le_slots' (by simp only [go_sem, Int.natCast_add, Int.cast_ofNat_Int])
  | true =>
   have hr : (List.range (k + 1)).filter (ableB s x) = (List.range k).filter (ableB s x) ++ [k] := by rw [List.range_succ, List.filter_append]; simp [hb]
   generalize (List.range k).filter (ableB s x) = A at *
   simp only [go_sem, chainI, nats_len, nats_take, Nat.le_refl, List.take_length]
   refine ⟨by omega, by omega, inR_i64.2 (by omega), k + 1, by omega, by omega, ?_⟩
   rw [hr, show natsD (A ++ [k]) = natsD A ++ [D.int .i64 k] from by simp, List.length_append]
   refine le_end (own := [_, _, _, _]) (ex := [_]) (Nat.zero_le _) ?_ ?_ ?_
   ·simp only [go_sem, Int.natCast_add, Int.cast_ofNat_Int, List.length_append]
   ·simp only [go_sem, natsD, List.map_append]
   ·simp only [go_sem, Obj.under, AV.unders, AV.under]
 ·obtain rfl : k = x.length := by omega
  have hk2 : ¬ (x.length : Int) < x.length := by omega
  have hA : (List.range x.length).filter (ableB s x) = ableL s x := rfl
  rw [hA]
  refine sem_le (le_freeze 3 (ag := none) rfl (Nat.zero_le _)) ?_
  refine sem_of_awp (Γ := tbl tabXE) tabXE_ok _ _ _ ?_
  simp only [go_sem, hk2, nats_take, nats_len, List.drop_zero, Nat.le_refl]
  exact post_data (.inl rfl) [4] rfl trivial rfl
abbrev tabXN : List (Nat × Contract) := [(30, dataC stErrR), (31, dataC ableR)]
theorem tabXN_ok : OkG Try.prog (tbl tabXN) := okG_cons xcheck_ok (okG_cons enabled_ok okG_nil)
def enabL (s : PSys) (x : PSt) : List Nat := if stErr s x ≠ 0 then [] else ableL s x
def enabR (ds : List D) (v : AV) : Prop := ∃ (s : PSys) (x : PSt), ds = [sysD s, stD x] /\ s.fit /\ PStFit x /\ v = .dat (.sl none (natsD (enabL s x)))
theorem xEnabled_ok : OkF Try.prog 13 (dataC enabR) := by
 refine okF_data Try.func13 rfl (by decide) ?_
 rintro ds v ⟨s, x, rfl, hf, hx, rfl⟩
 generalize hv : enabL s x = V
 unfold enabL at hv
 refine sem_of_awp (Γ := tbl tabXN) tabXN_ok _ _ _ ?_
 simp only [go_sem, Try.ntmps13, sysD, stD]
 refine call_data stErrR (by simp) [sysD s, stD x] _ rfl ⟨s, x, rfl, hf, hx, rfl⟩ (.inl rfl) ?_
 by_cases he : stErr s x = 0
 case neg =>
  rw [if_pos he] at hv
  subst hv
  simp only [go_sem, he]
  refine post_res (.inl rfl) [.tmp 4] rfl ?_
  simp only [go_sem]
  exact le_fin (by simp only [go_sem]) (by simp only [go_sem])
 rw [if_neg (by rw [he]; decide)] at hv
 subst hv
 have hV := valid_of he
 simp only [go_sem, he]
 refine call_data ableR (by simp) [sysD s, stD x] _ rfl ⟨s, x, rfl, hV, hx, rfl⟩ (.inl rfl) ?_
 simp only [go_sem]
 exact post_data (.inl rfl) [4] rfl trivial rfl
end Go.AM

