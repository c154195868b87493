/- Systems of code paths as plain data: how they read, and lists that are walked from the front. -/
import Derived.Test.YtcigeonmhefdhaaTypes
import Derived.Test.YtcigeonmhefdhaaLibJ
set_option linter.unusedSimpArgs false
set_option linter.unusedVariables false

namespace Go.AM
open Go Go.Proofs

theorem mixed : Try.prog.follows .mixedOrders = true := by kernel_rfl
theorem noMk {Γ : Nat → Contract} : MakeFns Γ [] := fun g _ _ _ _ _ h => by rcases h with h | h <;> cases h
theorem pureNo {Γ : Nat → Contract} : PureFns Γ [] := fun g _ _ _ _ _ h => by cases h
theorem pure_of {l : List (Nat × Contract)} {pf : List Nat} (h : ∀ g C, (g, C) ∈ l → g ∈ pf → ∃ R, C = dataC R) : PureFns (tbl l) pf := by
  rintro g args own v own' mv hg ⟨C, hm, hC⟩
  obtain ⟨R, rfl⟩ := h g C hm hg
  obtain ⟨_, _, _, h1, h2, _⟩ := hC
  exact ⟨h1, h2⟩
theorem made_of {l : List (Nat × Contract)} {mf : List Nat} (h : ∀ g C, (g, C) ∈ l → (∃ R, C = dataC R) ∨ ∃ R, C = madeC R) : MakeFns (tbl l) mf := by
  rintro g args own v own' mv hg ⟨C, hm, hC⟩
  rcases h g C hm with ⟨R, rfl⟩ | ⟨R, rfl⟩
  · obtain ⟨_, _, _, h1, h2, _⟩ := hC
    exact ⟨⟨[], by rw [h1, List.append_nil]⟩, h2⟩
  · obtain ⟨_, _, ob, _, _, _, _, h1, h2⟩ := hC
    exact ⟨⟨_, h1⟩, h2⟩

/- ### the data -/
abbrev Str := List UInt8
structure PPool where
  name : Str
  size : Int
  res : Int
deriving Inhabited, DecidableEq
structure PStep where
  kind : Int
  on : Int
  cnt : Int
  deep : Bool
deriving Inhabited, DecidableEq
structure PCls where
  name : Str
  workers : Int
  server : Bool
  steps : List PStep
deriving Inhabited, DecidableEq
structure PSys where
  pools : List PPool
  locks : List Str
  classes : List PCls
deriving Inhabited, DecidableEq

abbrev intsD (u : List Int) : List D := u.map (.int .i64)
abbrev boolsD (b : List Bool) : List D := b.map .bool
def poolD (p : PPool) : D := .agg [.str p.name, .int .i64 p.size, .int .i64 p.res]
def stepD (s : PStep) : D := .agg [.int .i64 s.kind, .int .i64 s.on, .int .i64 s.cnt, .bool s.deep]
def stepsD (l : List PStep) : D := .sl (some 4) (l.map stepD)
def clsD (c : PCls) : D := .agg [.str c.name, .int .i64 c.workers, .bool c.server, stepsD c.steps]
def sysD (s : PSys) : D := .agg [.sl (some 3) (s.pools.map poolD), .sl none (s.locks.map .str), .sl (some 4) (s.classes.map clsD)]

/-- All numbers of a step lie where an int lies. -/
def PStep.ok (s : PStep) : Prop := inR .i64 s.kind ∧ inR .i64 s.on ∧ inR .i64 s.cnt
def PPool.ok (p : PPool) : Prop := inR .i64 p.size ∧ inR .i64 p.res
def PCls.ok (c : PCls) : Prop := inR .i64 c.workers ∧ (∀ s ∈ c.steps, s.ok) ∧ c.steps.length < 4611686018427387904
structure PSys.ok (s : PSys) : Prop where
  pools : ∀ p ∈ s.pools, p.ok
  classes : ∀ c ∈ s.classes, c.ok
  np : s.pools.length < 4611686018427387904
  nl : s.locks.length < 4611686018427387904
  nc : s.classes.length < 4611686018427387904
end Go.AM

namespace Go.AM
open Go Go.Proofs

theorem ints_take {l : List Int} : List.take l.length (intsD l) = intsD l := List.take_of_length_le (by simp)
theorem ints_len {l : List Int} : (intsD l).length = l.length := by simp
theorem ints_snoc {l : List Int} {n : Int} : intsD l ++ [.int .i64 n] = intsD (l ++ [n]) := by simp
/- ### edges -/
structure PEdge where
  src : Int
  dst : Int
  cls : Int
  step : Int
deriving Inhabited, DecidableEq
def edgeD (e : PEdge) : D := .agg [.int .i64 e.src, .int .i64 e.dst, .int .i64 e.cls, .int .i64 e.step]
abbrev edgesD (l : List PEdge) : List D := l.map edgeD
theorem edges_take {l : List PEdge} : List.take l.length (edgesD l) = edgesD l := List.take_of_length_le (by simp)
theorem edges_len {l : List PEdge} : (edgesD l).length = l.length := by simp
theorem edges_snoc {l : List PEdge} {n : PEdge} : edgesD l ++ [edgeD n] = edgesD (l ++ [n]) := by simp
def PEdge.s (e : PEdge) : Nat := e.src.toNat
def PEdge.t (e : PEdge) : Nat := e.dst.toNat
abbrev natD (n : Nat) : D := .int .i64 (n : Int)
abbrev natsD (l : List Nat) : List D := l.map natD
theorem nats_len {l : List Nat} : (natsD l).length = l.length := by simp
theorem nats_take {l : List Nat} : List.take l.length (natsD l) = natsD l := List.take_of_length_le (by simp)
theorem nats_snoc {l : List Nat} {n : Nat} : natsD l ++ [.int .i64 (n : Int)] = natsD (l ++ [n]) := by simp
/-- A graph that check lets through. -/
structure GOk (n : Nat) (l : List PEdge) : Prop where
  n4 : n ≤ 4096
  len : l.length ≤ 10000
  src : ∀ e ∈ l, e.src = (e.s : Int) ∧ e.s < n
  dst : ∀ e ∈ l, e.dst = (e.t : Int) ∧ e.t < n
abbrev eF (l : List PEdge) : List (Nat × Nat) := l.map fun e => (e.s, e.t)
/-- The error of a graph. -/
def gE (n : Int) (l : List PEdge) : Int :=
  if n < 0 ∨ 4096 < n then 2 else if (l.any fun e => decide (e.src < 0) || decide (n ≤ e.src) || decide (e.dst < 0) || decide (n ≤ e.dst)) = true then 1 else 0
theorem gOk_of {n : Int} {l : List PEdge} (h : gE n l = 0) (hl : l.length ≤ 10000) : ∃ k : Nat, n = k ∧ GOk k l := by
  unfold gE at h
  split at h
  · omega
  · split at h
    · omega
    · rename_i h1 h2
      refine ⟨n.toNat, by omega, by omega, hl, fun e he => ?_, fun e he => ?_⟩ <;>
      · have : ¬ ((decide (e.src < 0) || decide (n ≤ e.src) || decide (e.dst < 0) || decide (n ≤ e.dst)) = true) := fun hh => h2 (List.any_eq_true.2 ⟨e, he, hh⟩)
        simp only [Bool.or_eq_true, decide_eq_true_eq] at this
        simp only [PEdge.s, PEdge.t]
        omega
theorem gE_ok {n : Nat} {l : List PEdge} (h : GOk n l) : gE n l = 0 := by
  unfold gE
  have := h.n4
  rw [if_neg (by omega), if_neg]
  intro hh
  obtain ⟨e, he, hh⟩ := List.any_eq_true.1 hh
  have h1 := h.src e he
  have h2 := h.dst e he
  simp only [Bool.or_eq_true, decide_eq_true_eq] at hh
  omega
end Go.AM

