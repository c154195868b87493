/- Own work over the model of the kit. -/
import Derived.Test.YtholibdhogbobaaH17
import Derived.Test.YtholibdhogbobaaH8
import Derived.Test.YtholibdhogbobaaProg
import Derived.KernelRfl
import Derived.Test.YtholibdhogbobaaH10
import Derived.Test.YtholibdhogbobaaH13
import Derived.Test.YtholibdhogbobaaH15
import Derived.Test.YtholibdhogbobaaH11
import Derived.Test.YtholibdhogbobaaH14
import Derived.Test.YtholibdhogbobaaH12
import Derived.Test.YtholibdhogbobaaH4
set_option linter.constructorNameAsVariable false
set_option linter.unusedSimpArgs false
set_option linter.unusedVariables false
set_option maxRecDepth 8000
namespace Go.AM
open Go Go.Proofs

theorem fewB_fit {s : PSys} (h : fewB s = true) : s.fit := by
  simp only [fewB, Bool.and_eq_true, Bool.not_eq_true', decide_eq_false_iff_not] at h
  exact ⟨⟨by omega, by omega, by omega⟩⟩
section
variable {s : PSys} {L : List Nat}
theorem makeO_err (h : checkE s ≠ 0) : makeO s = ([], checkE s) := by unfold makeO; rw [if_pos h]
theorem makeO_imp (h : checkE s = 0) (hi : (impO s).isSome = true) : makeO s = ([], 9) := by unfold makeO; rw [if_neg (by simp [h]), if_pos hi]
theorem makeO_ok (h : checkE s = 0) (hi : impO s = none) (hl : levV (nRes s) (sysE s) = some L) : makeO s = (L, 0) := by unfold makeO; rw [if_neg (by simp [h]), if_neg (by simp [hi]), hl]
theorem makeO_dead (h : checkE s = 0) (hi : impO s = none) (hl : levV (nRes s) (sysE s) = none) : makeO s = ([], 20) := by unfold makeO; rw [if_neg (by simp [h]), if_neg (by simp [hi]), hl]
end
theorem lev_lt {n : Nat} {l : List PEdge} {f : Nat → Nat} (hg : GOk n l) (h : IsLev n l f) : ∀ v, v < n → f v < n := by
  have hA := pot_acyc h.down
  have key : ∀ k v, v < n → f v = k → ∃ w, Wk (eF l) k v w := by
    intro k
    induction k with
    | zero => exact fun v _ _ => ⟨v, rfl⟩
    | succ k ih =>
      intro v hv hk
      rcases h.next v hv with h0 | ⟨e, he, hs, ht⟩
      · omega
      · obtain ⟨w, hw⟩ := ih e.t (hg.dst e he).2 (by omega)
        exact ⟨w, Wk_cons (List.mem_map.2 ⟨e, he, by rw [hs]⟩) hw⟩
  intro v hv
  obtain ⟨w, hw⟩ := key _ v hv rfl
  exact wk_short hg.eFlt hA hv hw
abbrev castL (L : List Nat) : List Int := L.map fun n : Nat => (n : Int)
theorem ver_of {s : PSys} (h : checkE s = 0) (hi : impO s = none) {L : List Int} (hl : L.length = nRes s) (h0 : ∀ x ∈ L, 0 ≤ x ∧ x ≤ 4096) (hb : ∀ e ∈ sysE s, L.getD e.t 0 < L.getD e.s 0) : verN s L = 0 := by
  unfold verN
  have h1 : L.any outI = false := by
    rw [Bool.eq_false_iff]; intro hh
    obtain ⟨x, hx, hx2⟩ := List.any_eq_true.1 hh
    have := h0 x hx
    unfold outI at hx2
    simp only [Bool.or_eq_true, decide_eq_true_eq] at hx2
    omega
  have h2 : (sysE s).any (badV L) = false := by
    rw [Bool.eq_false_iff]; intro hh
    obtain ⟨e, he, hx2⟩ := List.any_eq_true.1 hh
    have := hb e he
    unfold badV at hx2
    rw [decide_eq_true_eq] at hx2
    omega
  rw [if_neg (by simp [h]), if_neg (by simp [hl, h1]), if_neg (by simp [hi]), if_neg (by rw [h2]; decide)]
theorem lev_facts {s : PSys} (h : checkE s = 0) {L : List Nat} (hl : levV (nRes s) (sysE s) = some L) : L.length = nRes s ∧ (∀ x ∈ L, x < nRes s) ∧ ∀ e ∈ sysE s, L.getD e.t 0 < L.getD e.s 0 := by
  have hg := sysE_ok h
  obtain ⟨f, hf, rfl⟩ := levV_is hl
  have hlt := lev_lt hg hf
  have hat : ∀ i, i < nRes s → ((List.range (nRes s)).map f).getD i 0 = f i := fun i hi => by simp [List.getD_eq_getElem?_getD, hi]
  refine ⟨by simp, fun x hx => ?_, fun e he => ?_⟩
  · obtain ⟨i, hi, rfl⟩ := List.mem_map.1 hx
    exact hlt i (List.mem_range.1 hi)
  · rw [hat _ (hg.dst e he).2, hat _ (hg.src e he).2]
    exact hf.down e he
theorem nRes_le {s : PSys} (h : checkE s = 0) : nRes s ≤ 16 := by
  have hg := good_of h
  have h1 := hg.np
  have h2 := hg.nl
  have h3 := hg.nc
  unfold nRes; omega
theorem ver_scale {s : PSys} (h : checkE s = 0) (hi : impO s = none) {L : List Nat} (hl : levV (nRes s) (sysE s) = some L) {f : Nat → Int} (hf : ∀ a b, a < b → b < 16 → f a < f b) (h0 : ∀ a, a < 16 → 0 ≤ f a ∧ f a ≤ 4096) : verN s (L.map f) = 0 := by
  obtain ⟨h1, h2, h3⟩ := lev_facts h hl
  have hr := nRes_le h
  have hg := sysE_ok h
  have hat : ∀ i, i < nRes s → (L.map f).getD i 0 = f (L.getD i 0) ∧ L.getD i 0 < 16 := fun i hi => by
    have hil : i < L.length := by omega
    simp only [List.getD_eq_getElem?_getD, List.getElem?_map, List.getElem?_eq_getElem hil]
    have := h2 _ (List.getElem_mem hil)
    exact ⟨rfl, by simp only [Option.getD_some]; omega⟩
  refine ver_of h hi (by simp [h1]) (fun x hx => ?_) (fun e he => ?_)
  · obtain ⟨n, hn, rfl⟩ := List.mem_map.1 hx
    have := h2 n hn
    exact h0 n (by omega)
  · obtain ⟨a1, a2⟩ := hat _ (hg.dst e he).2
    obtain ⟨b1, b2⟩ := hat _ (hg.src e he).2
    rw [a1, b1]
    exact hf _ _ (h3 e he) b2
theorem exp_next {s : PSys} (h : checkE s = 0) {i : Nat} (hi : i < (expL s).length) : (expL s).getD i default ∈ sysE s ∧ ((expL s).getD i default).dst = ((expL s).getD ((i + 1) % (expL s).length) default).src := by
  have hg := sysE_ok h
  have hC := cycV_ok (sysE s)
  have hlen : (expL s).length = (cycV (sysE s)).length := by simp [expL]
  have hj : (i + 1) % (expL s).length < (expL s).length := Nat.mod_lt _ (by omega)
  have hat : ∀ k, k < (expL s).length → ∃ m, (cycV (sysE s))[k]? = some m ∧ m < (sysE s).length ∧ (expL s).getD k default = (sysE s).getD m default := fun k hk => by
    have hk2 : k < (cycV (sysE s)).length := by omega
    have e := List.getElem?_eq_getElem hk2
    refine ⟨_, e, hC.at_ k _ e, ?_⟩
    unfold expL
    rw [List.getD_eq_getElem?_getD, List.getElem?_map, e]
    rfl
  obtain ⟨m, m1, m2, m3⟩ := hat i hi
  obtain ⟨q, q1, q2, q3⟩ := hat _ hj
  rw [hlen] at q1
  have hn := hC.next i m q m1 q1
  have mm : (sysE s).getD m default ∈ sysE s := by rw [List.getD_eq_getElem?_getD, List.getElem?_eq_getElem m2]; exact List.getElem_mem m2
  have qm : (sysE s).getD q default ∈ sysE s := by rw [List.getD_eq_getElem?_getD, List.getElem?_eq_getElem q2]; exact List.getElem_mem q2
  rw [m3, q3]
  refine ⟨mm, ?_⟩
  rw [(hg.dst _ mm).1, (hg.src _ qm).1]
  unfold tOf sOf at hn
  rw [hn]
end Go.AM

set_option maxRecDepth 8000
set_option maxHeartbeats 2000000
namespace Go.AM
open Go Go.Proofs

def noBad (E : List PEdge) (L : List Int) (i k : Nat) (H : List Int) : Prop := ∀ e ∈ E, (e.cls < i ∨ (e.cls = i ∧ (e.step < k ∨ (e.step = k ∧ e.src ∈ H)))) → badV L e = false
section
variable {s : PSys} {E : List PEdge} {L : List Int} {i k : Nat} {c : PCls} {x : PStep}
end
abbrev tabVR : List (Nat × Contract) := [(32, dataC checkR), (35, dataC resR), (15, dataC impVR), (45, dataC waitNR), (46, dataC holdR), (47, dataC targetR)]
end Go.AM

set_option maxRecDepth 100000
namespace Go.AM
open Go Go.Proofs
theorem cev1 : evalM Try.prog [] 1000 24 [(.agg [(.sl (some 3) [(.agg [(.str [102, 114, 97, 109, 101, 115]), (.int .i64 4), (.int .i64 1)])]), (.sl none [(.str [109, 97, 112])]), (.sl (some 4) [(.agg [(.str [102, 97, 117, 108, 116]), (.int .i64 2), (.bool false), (.sl (some 4) [(.agg [(.int .i64 3), (.int .i64 0), (.int .i64 0), (.bool false)]), (.agg [(.int .i64 1), (.int .i64 0), (.int .i64 1), (.bool false)]), (.agg [(.int .i64 1), (.int .i64 0), (.int .i64 1), (.bool false)]), (.agg [(.int .i64 5), (.int .i64 1), (.int .i64 0), (.bool false)]), (.agg [(.int .i64 2), (.int .i64 0), (.int .i64 2), (.bool false)]), (.agg [(.int .i64 4), (.int .i64 0), (.int .i64 0), (.bool false)])])]), (.agg [(.str [101, 118, 105, 99, 116]), (.int .i64 1), (.bool true), (.sl (some 4) [(.agg [(.int .i64 1), (.int .i64 0), (.int .i64 1), (.bool true)]), (.agg [(.int .i64 2), (.int .i64 0), (.int .i64 1), (.bool false)])])])])])] = some ((.tup [(.sl 0 0 4), (.dat (.int .i64 0))]), [(.row (some 4) [(.agg [(.int .i64 1), (.int .i64 0), (.int .i64 0), (.int .i64 1)]), (.agg [(.int .i64 0), (.int .i64 0), (.int .i64 0), (.int .i64 2)]), (.agg [(.int .i64 0), (.int .i64 3), (.int .i64 0), (.int .i64 3)]), (.agg [(.int .i64 1), (.int .i64 3), (.int .i64 0), (.int .i64 3)])])]) := by kernel_rfl
end Go.AM

set_option maxRecDepth 100000
namespace Go.AM
open Go Go.Proofs
theorem cev2 : evalM Try.prog [] 1000 24 [(.agg [(.sl (some 3) [(.agg [(.str [102, 114, 97, 109, 101, 115]), (.int .i64 4), (.int .i64 1)])]), (.sl none [(.str [109, 97, 112])]), (.sl (some 4) [(.agg [(.str [102, 97, 117, 108, 116]), (.int .i64 2), (.bool false), (.sl (some 4) [(.agg [(.int .i64 3), (.int .i64 0), (.int .i64 0), (.bool false)]), (.agg [(.int .i64 1), (.int .i64 0), (.int .i64 1), (.bool false)]), (.agg [(.int .i64 5), (.int .i64 1), (.int .i64 0), (.bool false)]), (.agg [(.int .i64 2), (.int .i64 0), (.int .i64 1), (.bool false)]), (.agg [(.int .i64 4), (.int .i64 0), (.int .i64 0), (.bool false)])])]), (.agg [(.str [101, 118, 105, 99, 116]), (.int .i64 1), (.bool true), (.sl (some 4) [(.agg [(.int .i64 1), (.int .i64 0), (.int .i64 1), (.bool true)]), (.agg [(.int .i64 2), (.int .i64 0), (.int .i64 1), (.bool false)])])])])])] = some ((.tup [(.sl 0 0 2), (.dat (.int .i64 0))]), [(.row (some 4) [(.agg [(.int .i64 0), (.int .i64 3), (.int .i64 0), (.int .i64 2)]), (.agg [(.int .i64 1), (.int .i64 3), (.int .i64 0), (.int .i64 2)])])]) := by kernel_rfl
end Go.AM

set_option maxRecDepth 100000
namespace Go.AM
open Go Go.Proofs
theorem cev3 : evalM Try.prog [] 1000 24 [(.agg [(.sl (some 3) [(.agg [(.str [102, 114, 97, 109, 101, 115]), (.int .i64 4), (.int .i64 1)])]), (.sl none [(.str [109, 97, 112])]), (.sl (some 4) [(.agg [(.str [102, 97, 117, 108, 116]), (.int .i64 2), (.bool false), (.sl (some 4) [(.agg [(.int .i64 3), (.int .i64 0), (.int .i64 0), (.bool false)]), (.agg [(.int .i64 1), (.int .i64 0), (.int .i64 1), (.bool false)]), (.agg [(.int .i64 5), (.int .i64 1), (.int .i64 0), (.bool false)]), (.agg [(.int .i64 2), (.int .i64 0), (.int .i64 1), (.bool false)]), (.agg [(.int .i64 4), (.int .i64 0), (.int .i64 0), (.bool false)])])]), (.agg [(.str [101, 118, 105, 99, 116]), (.int .i64 0), (.bool true), (.sl (some 4) [(.agg [(.int .i64 1), (.int .i64 0), (.int .i64 1), (.bool true)]), (.agg [(.int .i64 2), (.int .i64 0), (.int .i64 1), (.bool false)])])])])])] = some ((.tup [(.sl 0 0 2), (.dat (.int .i64 0))]), [(.row (some 4) [(.agg [(.int .i64 0), (.int .i64 3), (.int .i64 0), (.int .i64 2)]), (.agg [(.int .i64 1), (.int .i64 3), (.int .i64 0), (.int .i64 2)])])]) := by kernel_rfl
end Go.AM

set_option maxRecDepth 100000
namespace Go.AM
open Go Go.Proofs
theorem cev4 : evalM Try.prog [] 1000 31 [(.int .i64 4), (.sl (some 4) [(.agg [(.int .i64 1), (.int .i64 0), (.int .i64 0), (.int .i64 1)]), (.agg [(.int .i64 0), (.int .i64 0), (.int .i64 0), (.int .i64 2)]), (.agg [(.int .i64 0), (.int .i64 3), (.int .i64 0), (.int .i64 3)]), (.agg [(.int .i64 1), (.int .i64 3), (.int .i64 0), (.int .i64 3)])])] = some ((.tup [.nils, (.dat (.int .i64 10))]), []) := by kernel_rfl
theorem cev5 : evalM Try.prog [] 1000 31 [(.int .i64 4), (.sl (some 4) [(.agg [(.int .i64 0), (.int .i64 3), (.int .i64 0), (.int .i64 2)]), (.agg [(.int .i64 1), (.int .i64 3), (.int .i64 0), (.int .i64 2)])])] = some ((.tup [(.sl 0 0 4), (.dat (.int .i64 0))]), [(.row none [(.int .i64 1), (.int .i64 1), (.int .i64 0), (.int .i64 0)])]) := by kernel_rfl
theorem cev6 : evalM Try.prog [] 1000 40 [(.int .i64 4), (.sl (some 4) [(.agg [(.int .i64 1), (.int .i64 0), (.int .i64 0), (.int .i64 1)]), (.agg [(.int .i64 0), (.int .i64 0), (.int .i64 0), (.int .i64 2)]), (.agg [(.int .i64 0), (.int .i64 3), (.int .i64 0), (.int .i64 3)]), (.agg [(.int .i64 1), (.int .i64 3), (.int .i64 0), (.int .i64 3)])])] = some ((.tup [(.sl 0 0 1), (.dat (.int .i64 0))]), [(.row none [(.int .i64 1)])]) := by kernel_rfl
end Go.AM

set_option maxRecDepth 100000
namespace Go.AM
open Go Go.Proofs

theorem mixedP : Try.prog.follows .mixedOrders = true := by kernel_rfl
theorem names : Names Try.prog := by
  have h : (Try.prog.funcs.toList.all fun f => decide (f.name ≠ "runtime.NumGoroutine")) = true := by kernel_rfl
  intro g fn hf
  have := List.all_eq_true.1 h fn (List.mem_of_getElem? (by simpa using hf))
  simpa using this
end Go.AM

set_option maxRecDepth 100000
namespace Go.AM
open Go Go.Proofs
def tabC1 : Tab := (24, [(.agg [(.sl (some 3) [(.agg [(.str [102, 114, 97, 109, 101, 115]), (.int .i64 4), (.int .i64 1)])]), (.sl none [(.str [109, 97, 112])]), (.sl (some 4) [(.agg [(.str [102, 97, 117, 108, 116]), (.int .i64 2), (.bool false), (.sl (some 4) [(.agg [(.int .i64 3), (.int .i64 0), (.int .i64 0), (.bool false)]), (.agg [(.int .i64 1), (.int .i64 0), (.int .i64 1), (.bool false)]), (.agg [(.int .i64 1), (.int .i64 0), (.int .i64 1), (.bool false)]), (.agg [(.int .i64 5), (.int .i64 1), (.int .i64 0), (.bool false)]), (.agg [(.int .i64 2), (.int .i64 0), (.int .i64 2), (.bool false)]), (.agg [(.int .i64 4), (.int .i64 0), (.int .i64 0), (.bool false)])])]), (.agg [(.str [101, 118, 105, 99, 116]), (.int .i64 1), (.bool true), (.sl (some 4) [(.agg [(.int .i64 1), (.int .i64 0), (.int .i64 1), (.bool true)]), (.agg [(.int .i64 2), (.int .i64 0), (.int .i64 1), (.bool false)])])])])])], (.tup [(.sl 0 0 4), (.dat (.int .i64 0))]), [(.row (some 4) [(.agg [(.int .i64 1), (.int .i64 0), (.int .i64 0), (.int .i64 1)]), (.agg [(.int .i64 0), (.int .i64 0), (.int .i64 0), (.int .i64 2)]), (.agg [(.int .i64 0), (.int .i64 3), (.int .i64 0), (.int .i64 3)]), (.agg [(.int .i64 1), (.int .i64 3), (.int .i64 0), (.int .i64 3)])])]) :: []
theorem tabC1_ok : Base Try.prog tabC1 := base_cons base_nil base_nil mixedP names 1000 cev1
def tabC2 : Tab := (24, [(.agg [(.sl (some 3) [(.agg [(.str [102, 114, 97, 109, 101, 115]), (.int .i64 4), (.int .i64 1)])]), (.sl none [(.str [109, 97, 112])]), (.sl (some 4) [(.agg [(.str [102, 97, 117, 108, 116]), (.int .i64 2), (.bool false), (.sl (some 4) [(.agg [(.int .i64 3), (.int .i64 0), (.int .i64 0), (.bool false)]), (.agg [(.int .i64 1), (.int .i64 0), (.int .i64 1), (.bool false)]), (.agg [(.int .i64 5), (.int .i64 1), (.int .i64 0), (.bool false)]), (.agg [(.int .i64 2), (.int .i64 0), (.int .i64 1), (.bool false)]), (.agg [(.int .i64 4), (.int .i64 0), (.int .i64 0), (.bool false)])])]), (.agg [(.str [101, 118, 105, 99, 116]), (.int .i64 1), (.bool true), (.sl (some 4) [(.agg [(.int .i64 1), (.int .i64 0), (.int .i64 1), (.bool true)]), (.agg [(.int .i64 2), (.int .i64 0), (.int .i64 1), (.bool false)])])])])])], (.tup [(.sl 0 0 2), (.dat (.int .i64 0))]), [(.row (some 4) [(.agg [(.int .i64 0), (.int .i64 3), (.int .i64 0), (.int .i64 2)]), (.agg [(.int .i64 1), (.int .i64 3), (.int .i64 0), (.int .i64 2)])])]) :: tabC1
theorem tabC2_ok : Base Try.prog tabC2 := base_cons tabC1_ok base_nil mixedP names 1000 cev2
def tabC3 : Tab := (24, [(.agg [(.sl (some 3) [(.agg [(.str [102, 114, 97, 109, 101, 115]), (.int .i64 4), (.int .i64 1)])]), (.sl none [(.str [109, 97, 112])]), (.sl (some 4) [(.agg [(.str [102, 97, 117, 108, 116]), (.int .i64 2), (.bool false), (.sl (some 4) [(.agg [(.int .i64 3), (.int .i64 0), (.int .i64 0), (.bool false)]), (.agg [(.int .i64 1), (.int .i64 0), (.int .i64 1), (.bool false)]), (.agg [(.int .i64 5), (.int .i64 1), (.int .i64 0), (.bool false)]), (.agg [(.int .i64 2), (.int .i64 0), (.int .i64 1), (.bool false)]), (.agg [(.int .i64 4), (.int .i64 0), (.int .i64 0), (.bool false)])])]), (.agg [(.str [101, 118, 105, 99, 116]), (.int .i64 0), (.bool true), (.sl (some 4) [(.agg [(.int .i64 1), (.int .i64 0), (.int .i64 1), (.bool true)]), (.agg [(.int .i64 2), (.int .i64 0), (.int .i64 1), (.bool false)])])])])])], (.tup [(.sl 0 0 2), (.dat (.int .i64 0))]), [(.row (some 4) [(.agg [(.int .i64 0), (.int .i64 3), (.int .i64 0), (.int .i64 2)]), (.agg [(.int .i64 1), (.int .i64 3), (.int .i64 0), (.int .i64 2)])])]) :: tabC2
theorem tabC3_ok : Base Try.prog tabC3 := base_cons tabC2_ok base_nil mixedP names 1000 cev3
def tabC4 : Tab := (31, [(.int .i64 4), (.sl (some 4) [(.agg [(.int .i64 1), (.int .i64 0), (.int .i64 0), (.int .i64 1)]), (.agg [(.int .i64 0), (.int .i64 0), (.int .i64 0), (.int .i64 2)]), (.agg [(.int .i64 0), (.int .i64 3), (.int .i64 0), (.int .i64 3)]), (.agg [(.int .i64 1), (.int .i64 3), (.int .i64 0), (.int .i64 3)])])], (.tup [.nils, (.dat (.int .i64 10))]), []) :: tabC3
theorem tabC4_ok : Base Try.prog tabC4 := base_cons tabC3_ok base_nil mixedP names 1000 cev4
def tabC5 : Tab := (31, [(.int .i64 4), (.sl (some 4) [(.agg [(.int .i64 0), (.int .i64 3), (.int .i64 0), (.int .i64 2)]), (.agg [(.int .i64 1), (.int .i64 3), (.int .i64 0), (.int .i64 2)])])], (.tup [(.sl 0 0 4), (.dat (.int .i64 0))]), [(.row none [(.int .i64 1), (.int .i64 1), (.int .i64 0), (.int .i64 0)])]) :: tabC4
theorem tabC5_ok : Base Try.prog tabC5 := base_cons tabC4_ok base_nil mixedP names 1000 cev5
def tabC6 : Tab := (40, [(.int .i64 4), (.sl (some 4) [(.agg [(.int .i64 1), (.int .i64 0), (.int .i64 0), (.int .i64 1)]), (.agg [(.int .i64 0), (.int .i64 0), (.int .i64 0), (.int .i64 2)]), (.agg [(.int .i64 0), (.int .i64 3), (.int .i64 0), (.int .i64 3)]), (.agg [(.int .i64 1), (.int .i64 3), (.int .i64 0), (.int .i64 3)])])], (.tup [(.sl 0 0 1), (.dat (.int .i64 0))]), [(.row none [(.int .i64 1)])]) :: tabC5
theorem tabC6_ok : Base Try.prog tabC6 := base_cons tabC5_ok base_nil mixedP names 1000 cev6
end Go.AM

set_option maxRecDepth 100000
namespace Go.AM
open Go Go.Proofs
theorem cev7 : evalM Try.prog tabC6 1000 12 [(.agg [(.sl (some 3) [(.agg [(.str [102, 114, 97, 109, 101, 115]), (.int .i64 4), (.int .i64 1)])]), (.sl none [(.str [109, 97, 112])]), (.sl (some 4) [(.agg [(.str [102, 97, 117, 108, 116]), (.int .i64 2), (.bool false), (.sl (some 4) [(.agg [(.int .i64 3), (.int .i64 0), (.int .i64 0), (.bool false)]), (.agg [(.int .i64 1), (.int .i64 0), (.int .i64 1), (.bool false)]), (.agg [(.int .i64 1), (.int .i64 0), (.int .i64 1), (.bool false)]), (.agg [(.int .i64 5), (.int .i64 1), (.int .i64 0), (.bool false)]), (.agg [(.int .i64 2), (.int .i64 0), (.int .i64 2), (.bool false)]), (.agg [(.int .i64 4), (.int .i64 0), (.int .i64 0), (.bool false)])])]), (.agg [(.str [101, 118, 105, 99, 116]), (.int .i64 1), (.bool true), (.sl (some 4) [(.agg [(.int .i64 1), (.int .i64 0), (.int .i64 1), (.bool true)]), (.agg [(.int .i64 2), (.int .i64 0), (.int .i64 1), (.bool false)])])])])])] = some ((.tup [(.agg [.nils]), (.dat (.int .i64 20))]), []) := by kernel_rfl
theorem cev8 : evalM Try.prog tabC6 1000 12 [(.agg [(.sl (some 3) [(.agg [(.str [102, 114, 97, 109, 101, 115]), (.int .i64 4), (.int .i64 1)])]), (.sl none [(.str [109, 97, 112])]), (.sl (some 4) [(.agg [(.str [102, 97, 117, 108, 116]), (.int .i64 2), (.bool false), (.sl (some 4) [(.agg [(.int .i64 3), (.int .i64 0), (.int .i64 0), (.bool false)]), (.agg [(.int .i64 1), (.int .i64 0), (.int .i64 1), (.bool false)]), (.agg [(.int .i64 5), (.int .i64 1), (.int .i64 0), (.bool false)]), (.agg [(.int .i64 2), (.int .i64 0), (.int .i64 1), (.bool false)]), (.agg [(.int .i64 4), (.int .i64 0), (.int .i64 0), (.bool false)])])]), (.agg [(.str [101, 118, 105, 99, 116]), (.int .i64 1), (.bool true), (.sl (some 4) [(.agg [(.int .i64 1), (.int .i64 0), (.int .i64 1), (.bool true)]), (.agg [(.int .i64 2), (.int .i64 0), (.int .i64 1), (.bool false)])])])])])] = some ((.tup [(.agg [(.sl 0 0 4)]), (.dat (.int .i64 0))]), [(.row none [(.int .i64 1), (.int .i64 1), (.int .i64 0), (.int .i64 0)])]) := by kernel_rfl
theorem cev9 : evalM Try.prog tabC6 1000 12 [(.agg [(.sl (some 3) [(.agg [(.str [102, 114, 97, 109, 101, 115]), (.int .i64 4), (.int .i64 1)])]), (.sl none [(.str [109, 97, 112])]), (.sl (some 4) [(.agg [(.str [102, 97, 117, 108, 116]), (.int .i64 2), (.bool false), (.sl (some 4) [(.agg [(.int .i64 3), (.int .i64 0), (.int .i64 0), (.bool false)]), (.agg [(.int .i64 1), (.int .i64 0), (.int .i64 1), (.bool false)]), (.agg [(.int .i64 5), (.int .i64 1), (.int .i64 0), (.bool false)]), (.agg [(.int .i64 2), (.int .i64 0), (.int .i64 1), (.bool false)]), (.agg [(.int .i64 4), (.int .i64 0), (.int .i64 0), (.bool false)])])]), (.agg [(.str [101, 118, 105, 99, 116]), (.int .i64 0), (.bool true), (.sl (some 4) [(.agg [(.int .i64 1), (.int .i64 0), (.int .i64 1), (.bool true)]), (.agg [(.int .i64 2), (.int .i64 0), (.int .i64 1), (.bool false)])])])])])] = some ((.tup [(.agg [.nils]), (.dat (.int .i64 9))]), []) := by kernel_rfl
theorem cev10 : evalM Try.prog tabC6 1000 16 [(.agg [(.sl (some 3) [(.agg [(.str [102, 114, 97, 109, 101, 115]), (.int .i64 4), (.int .i64 1)])]), (.sl none [(.str [109, 97, 112])]), (.sl (some 4) [(.agg [(.str [102, 97, 117, 108, 116]), (.int .i64 2), (.bool false), (.sl (some 4) [(.agg [(.int .i64 3), (.int .i64 0), (.int .i64 0), (.bool false)]), (.agg [(.int .i64 1), (.int .i64 0), (.int .i64 1), (.bool false)]), (.agg [(.int .i64 1), (.int .i64 0), (.int .i64 1), (.bool false)]), (.agg [(.int .i64 5), (.int .i64 1), (.int .i64 0), (.bool false)]), (.agg [(.int .i64 2), (.int .i64 0), (.int .i64 2), (.bool false)]), (.agg [(.int .i64 4), (.int .i64 0), (.int .i64 0), (.bool false)])])]), (.agg [(.str [101, 118, 105, 99, 116]), (.int .i64 1), (.bool true), (.sl (some 4) [(.agg [(.int .i64 1), (.int .i64 0), (.int .i64 1), (.bool true)]), (.agg [(.int .i64 2), (.int .i64 0), (.int .i64 1), (.bool false)])])])])])] = some ((.tup [(.sl 0 0 1), (.dat (.int .i64 0))]), [(.row (some 4) [(.agg [(.int .i64 0), (.int .i64 0), (.int .i64 0), (.int .i64 2)])])]) := by kernel_rfl
theorem cef1 : evalF2 Try.prog tabC6 1000 14 [(.agg [(.sl (some 3) [(.agg [(.str [102, 114, 97, 109, 101, 115]), (.int .i64 4), (.int .i64 1)])]), (.sl none [(.str [109, 97, 112])]), (.sl (some 4) [(.agg [(.str [102, 97, 117, 108, 116]), (.int .i64 2), (.bool false), (.sl (some 4) [(.agg [(.int .i64 3), (.int .i64 0), (.int .i64 0), (.bool false)]), (.agg [(.int .i64 1), (.int .i64 0), (.int .i64 1), (.bool false)]), (.agg [(.int .i64 5), (.int .i64 1), (.int .i64 0), (.bool false)]), (.agg [(.int .i64 2), (.int .i64 0), (.int .i64 1), (.bool false)]), (.agg [(.int .i64 4), (.int .i64 0), (.int .i64 0), (.bool false)])])]), (.agg [(.str [101, 118, 105, 99, 116]), (.int .i64 0), (.bool true), (.sl (some 4) [(.agg [(.int .i64 1), (.int .i64 0), (.int .i64 1), (.bool true)]), (.agg [(.int .i64 2), (.int .i64 0), (.int .i64 1), (.bool false)])])])])])] = some (.tup [(.dat (.int .i64 0)), (.dat (.int .i64 2)), (.dat (.bool true))]) := by kernel_rfl
theorem cef2 : evalF2 Try.prog tabC6 1000 22 [(.agg [(.sl (some 3) [(.agg [(.str [102, 114, 97, 109, 101, 115]), (.int .i64 4), (.int .i64 1)])]), (.sl none [(.str [109, 97, 112])]), (.sl (some 4) [(.agg [(.str [102, 97, 117, 108, 116]), (.int .i64 2), (.bool false), (.sl (some 4) [(.agg [(.int .i64 3), (.int .i64 0), (.int .i64 0), (.bool false)]), (.agg [(.int .i64 1), (.int .i64 0), (.int .i64 1), (.bool false)]), (.agg [(.int .i64 5), (.int .i64 1), (.int .i64 0), (.bool false)]), (.agg [(.int .i64 2), (.int .i64 0), (.int .i64 1), (.bool false)]), (.agg [(.int .i64 4), (.int .i64 0), (.int .i64 0), (.bool false)])])]), (.agg [(.str [101, 118, 105, 99, 116]), (.int .i64 1), (.bool true), (.sl (some 4) [(.agg [(.int .i64 1), (.int .i64 0), (.int .i64 1), (.bool true)]), (.agg [(.int .i64 2), (.int .i64 0), (.int .i64 1), (.bool false)])])])])]), (.agg [(.sl none [(.int .i64 5), (.int .i64 9), (.int .i64 0), (.int .i64 3)])])] = some (.dat (.int .i64 0)) := by kernel_rfl
theorem cef3 : evalF2 Try.prog tabC6 1000 22 [(.agg [(.sl (some 3) [(.agg [(.str [102, 114, 97, 109, 101, 115]), (.int .i64 4), (.int .i64 1)])]), (.sl none [(.str [109, 97, 112])]), (.sl (some 4) [(.agg [(.str [102, 97, 117, 108, 116]), (.int .i64 2), (.bool false), (.sl (some 4) [(.agg [(.int .i64 3), (.int .i64 0), (.int .i64 0), (.bool false)]), (.agg [(.int .i64 1), (.int .i64 0), (.int .i64 1), (.bool false)]), (.agg [(.int .i64 5), (.int .i64 1), (.int .i64 0), (.bool false)]), (.agg [(.int .i64 2), (.int .i64 0), (.int .i64 1), (.bool false)]), (.agg [(.int .i64 4), (.int .i64 0), (.int .i64 0), (.bool false)])])]), (.agg [(.str [101, 118, 105, 99, 116]), (.int .i64 1), (.bool true), (.sl (some 4) [(.agg [(.int .i64 1), (.int .i64 0), (.int .i64 1), (.bool true)]), (.agg [(.int .i64 2), (.int .i64 0), (.int .i64 1), (.bool false)])])])])]), (.agg [(.sl none [(.int .i64 1), (.int .i64 1), (.int .i64 0), (.int .i64 1)])])] = some (.dat (.int .i64 19)) := by kernel_rfl
theorem cef4 : evalF2 Try.prog tabC6 1000 20 [(.agg [(.sl (some 3) [(.agg [(.str [102, 114, 97, 109, 101, 115]), (.int .i64 4), (.int .i64 1)])]), (.sl none [(.str [109, 97, 112])]), (.sl (some 4) [(.agg [(.str [102, 97, 117, 108, 116]), (.int .i64 2), (.bool false), (.sl (some 4) [(.agg [(.int .i64 3), (.int .i64 0), (.int .i64 0), (.bool false)]), (.agg [(.int .i64 1), (.int .i64 0), (.int .i64 1), (.bool false)]), (.agg [(.int .i64 1), (.int .i64 0), (.int .i64 1), (.bool false)]), (.agg [(.int .i64 5), (.int .i64 1), (.int .i64 0), (.bool false)]), (.agg [(.int .i64 2), (.int .i64 0), (.int .i64 2), (.bool false)]), (.agg [(.int .i64 4), (.int .i64 0), (.int .i64 0), (.bool false)])])]), (.agg [(.str [101, 118, 105, 99, 116]), (.int .i64 1), (.bool true), (.sl (some 4) [(.agg [(.int .i64 1), (.int .i64 0), (.int .i64 1), (.bool true)]), (.agg [(.int .i64 2), (.int .i64 0), (.int .i64 1), (.bool false)])])])])]), (.int .i64 0)] = some (.dat (.int .i64 1)) := by kernel_rfl
def tabD1 : Tab := (12, [(.agg [(.sl (some 3) [(.agg [(.str [102, 114, 97, 109, 101, 115]), (.int .i64 4), (.int .i64 1)])]), (.sl none [(.str [109, 97, 112])]), (.sl (some 4) [(.agg [(.str [102, 97, 117, 108, 116]), (.int .i64 2), (.bool false), (.sl (some 4) [(.agg [(.int .i64 3), (.int .i64 0), (.int .i64 0), (.bool false)]), (.agg [(.int .i64 1), (.int .i64 0), (.int .i64 1), (.bool false)]), (.agg [(.int .i64 1), (.int .i64 0), (.int .i64 1), (.bool false)]), (.agg [(.int .i64 5), (.int .i64 1), (.int .i64 0), (.bool false)]), (.agg [(.int .i64 2), (.int .i64 0), (.int .i64 2), (.bool false)]), (.agg [(.int .i64 4), (.int .i64 0), (.int .i64 0), (.bool false)])])]), (.agg [(.str [101, 118, 105, 99, 116]), (.int .i64 1), (.bool true), (.sl (some 4) [(.agg [(.int .i64 1), (.int .i64 0), (.int .i64 1), (.bool true)]), (.agg [(.int .i64 2), (.int .i64 0), (.int .i64 1), (.bool false)])])])])])], (.tup [(.agg [.nils]), (.dat (.int .i64 20))]), []) :: []
theorem tabD1_ok : Base Try.prog tabD1 := base_cons base_nil tabC6_ok mixedP names 1000 cev7
def tabD2 : Tab := (12, [(.agg [(.sl (some 3) [(.agg [(.str [102, 114, 97, 109, 101, 115]), (.int .i64 4), (.int .i64 1)])]), (.sl none [(.str [109, 97, 112])]), (.sl (some 4) [(.agg [(.str [102, 97, 117, 108, 116]), (.int .i64 2), (.bool false), (.sl (some 4) [(.agg [(.int .i64 3), (.int .i64 0), (.int .i64 0), (.bool false)]), (.agg [(.int .i64 1), (.int .i64 0), (.int .i64 1), (.bool false)]), (.agg [(.int .i64 5), (.int .i64 1), (.int .i64 0), (.bool false)]), (.agg [(.int .i64 2), (.int .i64 0), (.int .i64 1), (.bool false)]), (.agg [(.int .i64 4), (.int .i64 0), (.int .i64 0), (.bool false)])])]), (.agg [(.str [101, 118, 105, 99, 116]), (.int .i64 1), (.bool true), (.sl (some 4) [(.agg [(.int .i64 1), (.int .i64 0), (.int .i64 1), (.bool true)]), (.agg [(.int .i64 2), (.int .i64 0), (.int .i64 1), (.bool false)])])])])])], (.tup [(.agg [(.sl 0 0 4)]), (.dat (.int .i64 0))]), [(.row none [(.int .i64 1), (.int .i64 1), (.int .i64 0), (.int .i64 0)])]) :: tabD1
theorem tabD2_ok : Base Try.prog tabD2 := base_cons tabD1_ok tabC6_ok mixedP names 1000 cev8
def tabD3 : Tab := (12, [(.agg [(.sl (some 3) [(.agg [(.str [102, 114, 97, 109, 101, 115]), (.int .i64 4), (.int .i64 1)])]), (.sl none [(.str [109, 97, 112])]), (.sl (some 4) [(.agg [(.str [102, 97, 117, 108, 116]), (.int .i64 2), (.bool false), (.sl (some 4) [(.agg [(.int .i64 3), (.int .i64 0), (.int .i64 0), (.bool false)]), (.agg [(.int .i64 1), (.int .i64 0), (.int .i64 1), (.bool false)]), (.agg [(.int .i64 5), (.int .i64 1), (.int .i64 0), (.bool false)]), (.agg [(.int .i64 2), (.int .i64 0), (.int .i64 1), (.bool false)]), (.agg [(.int .i64 4), (.int .i64 0), (.int .i64 0), (.bool false)])])]), (.agg [(.str [101, 118, 105, 99, 116]), (.int .i64 0), (.bool true), (.sl (some 4) [(.agg [(.int .i64 1), (.int .i64 0), (.int .i64 1), (.bool true)]), (.agg [(.int .i64 2), (.int .i64 0), (.int .i64 1), (.bool false)])])])])])], (.tup [(.agg [.nils]), (.dat (.int .i64 9))]), []) :: tabD2
theorem tabD3_ok : Base Try.prog tabD3 := base_cons tabD2_ok tabC6_ok mixedP names 1000 cev9
def tabD4 : Tab := (16, [(.agg [(.sl (some 3) [(.agg [(.str [102, 114, 97, 109, 101, 115]), (.int .i64 4), (.int .i64 1)])]), (.sl none [(.str [109, 97, 112])]), (.sl (some 4) [(.agg [(.str [102, 97, 117, 108, 116]), (.int .i64 2), (.bool false), (.sl (some 4) [(.agg [(.int .i64 3), (.int .i64 0), (.int .i64 0), (.bool false)]), (.agg [(.int .i64 1), (.int .i64 0), (.int .i64 1), (.bool false)]), (.agg [(.int .i64 1), (.int .i64 0), (.int .i64 1), (.bool false)]), (.agg [(.int .i64 5), (.int .i64 1), (.int .i64 0), (.bool false)]), (.agg [(.int .i64 2), (.int .i64 0), (.int .i64 2), (.bool false)]), (.agg [(.int .i64 4), (.int .i64 0), (.int .i64 0), (.bool false)])])]), (.agg [(.str [101, 118, 105, 99, 116]), (.int .i64 1), (.bool true), (.sl (some 4) [(.agg [(.int .i64 1), (.int .i64 0), (.int .i64 1), (.bool true)]), (.agg [(.int .i64 2), (.int .i64 0), (.int .i64 1), (.bool false)])])])])])], (.tup [(.sl 0 0 1), (.dat (.int .i64 0))]), [(.row (some 4) [(.agg [(.int .i64 0), (.int .i64 0), (.int .i64 0), (.int .i64 2)])])]) :: tabD3
theorem tabD4_ok : Base Try.prog tabD4 := base_cons tabD3_ok tabC6_ok mixedP names 1000 cev10
end Go.AM

set_option maxRecDepth 8000
set_option maxHeartbeats 4000000
namespace Go.AM
open Go

theorem le_renP {s : List AV} {own own' : List Obj} {mv : List Nat} (π ρ : Nat → Nat) (h1 : ∀ o, ρ (π o) = o) (h2 : ∀ o, π (ρ o) = o) (hlt : ∀ o, o < own.length → ρ o < own.length) (hlt' : ∀ o, o < own.length → π o < own.length)
    (ho : own' = (List.range own.length).map fun o => (own.getD (ρ o) .dead).ren π) : Le ⟨s, own, 0, mv⟩ ⟨AV.rens π s, own', 0, mv⟩ := by
  rintro c a w ⟨hd, hn, F, φ, q2, q3, q4⟩
  have hφ : ∀ o L, φ o = some L → (fun i => φ (ρ i)) (π o) = some L := fun o L h => by simp only [h1]; exact h
  have hl : own'.length = own.length := by rw [ho]; simp
  have hn0 : c.n0 = 0 := hn.symm
  refine ⟨hd, hn, F, fun i => φ (ρ i), ⟨q2.sub, q2.ext, fun o L hlt' hm h => ?_, q2.rest, fun o L' ho' hn' => q2.orig (ρ o) L' ho' hn', q2.frsh⟩, ?_, AV.Rs_ren (π := π) (φ := φ) (φ' := fun i => φ (ρ i)) hφ s _ q4⟩
  · omega
  · refine ⟨q3.fb, fun o L h => q3.live (ρ o) L h, fun o o' L L' h h' n n' hne => q3.inj (ρ o) (ρ o') L L' h h' n n' (fun e => hne (by rw [← h2 o, ← h2 o', e])), fun o obj hob => ?_, fun o hge => ?_, q3.glob⟩
    · have hlt3 : o < own.length := by
        have := (List.getElem?_eq_some_iff.1 hob).1
        simp only [hl] at this
        exact this
      simp only [ho, List.getElem?_map, List.getElem?_range hlt3, Option.map_some, Option.some.injEq] at hob
      subst hob
      have hp := hlt o hlt3
      have := q3.rep (ρ o) (own.getD (ρ o) .dead) (by simp only; rw [List.getD_eq_getElem?_getD, List.getElem?_eq_getElem hp]; rfl)
      exact ObjR_ren (π := π) (φ := φ) (φ' := fun i => φ (ρ i)) hφ this
    · simp only [hl] at hge
      refine q3.out (ρ o) ?_
      simp only
      rcases Nat.lt_or_ge (ρ o) own.length with h | h
      · have := hlt' _ h
        rw [h2] at this
        omega
      · exact h
def pm (l : List Nat) (o : Nat) : Nat := l.getD o o
def pmOk (l m : List Nat) : Bool := decide (m.length = l.length) && (List.range l.length).all fun o => decide (pm m (pm l o) = o) && decide (pm l (pm m o) = o) && decide (pm m o < l.length) && decide (pm l o < l.length)
theorem le_pm {s s' : List AV} {own own' : List Obj} {mv : List Nat} (l m : List Nat) (h : pmOk l m = true) (hl : own.length = l.length) (hs : s' = AV.rens (pm l) s) (ho : own' = (List.range own.length).map fun o => (own.getD (pm m o) .dead).ren (pm l)) :
    Le ⟨s, own, 0, mv⟩ ⟨s', own', 0, mv⟩ := by
  subst hs
  simp only [pmOk, Bool.and_eq_true, decide_eq_true_eq, List.all_eq_true, List.mem_range] at h
  obtain ⟨hml, h⟩ := h
  have hb : ∀ o, l.length ≤ o → pm l o = o ∧ pm m o = o := fun o ho => by
    unfold pm
    rw [List.getD_eq_getElem?_getD, List.getD_eq_getElem?_getD, List.getElem?_eq_none (by omega), List.getElem?_eq_none (by omega)]
    exact ⟨rfl, rfl⟩
  have hc : ∀ o, pm m (pm l o) = o ∧ pm l (pm m o) = o := fun o => by
    rcases Nat.lt_or_ge o l.length with hh | hh
    · exact (h o hh).1.1
    · obtain ⟨e1, e2⟩ := hb o hh; rw [e1, e2, e1]; exact ⟨rfl, rfl⟩
  exact le_renP (pm l) (pm m) (fun o => (hc o).1) (fun o => (hc o).2) (fun o ho => by rw [hl] at ho ⊢; exact (h o ho).1.2) (fun o ho => by rw [hl] at ho ⊢; exact (h o ho).2) ho

def permT : Nat → List Nat → DT → DT
  | 0, _, t => t
  | f + 1, rest, t => rest.foldr (fun x u => .alt x (permT f (rest.erase x) t) u) .stop

end Go.AM

set_option maxRecDepth 8000
set_option maxHeartbeats 2000000
namespace Go.AM
open Go Go.Proofs

def fauS (n : Nat) : List PStep := [⟨3, 0, 0, false⟩] ++ List.replicate n ⟨1, 0, 1, false⟩ ++ [⟨5, 1, 0, false⟩, ⟨2, 0, n, false⟩, ⟨4, 0, 0, false⟩]
def fauE : List PStep := [⟨1, 0, 1, true⟩, ⟨2, 0, 1, false⟩]
def fau (n : Nat) (w : Int) : PSys := ⟨[⟨[102, 114, 97, 109, 101, 115], 4, 1⟩], [[109, 97, 112]], [⟨[102, 97, 117, 108, 116], 2, false, fauS n⟩, ⟨[101, 118, 105, 99, 116], w, true, fauE⟩]⟩
def fauR (ds : List D) (v : AV) (ob : List Obj) : Prop := ∃ n : Nat, n ≤ 10 ∧ ds = [.int .i64 n] ∧ v = .agg [.sl 0 0 1, .sl 1 0 1, .sl 2 0 2] ∧
  ob = [.row (some 3) ((fau n 1).pools.map poolD), .row none ((fau n 1).locks.map .str), .row (some 4) ((fau n 1).classes.map clsD)]
theorem faults_ok : OkF Try.prog 29 (madeC fauR) := by
  refine okF_made Try.func29 rfl (by decide) ?_
  rintro ds v ob ⟨n, hn, rfl, rfl, rfl⟩
  refine sem_of_awpK [8] (Γ := tbl []) okG_nil _ _ _ ?_
  simp only [go_sem, Int.reduceEq, Int.reduceLT, Int.reduceLE, eq_self, Int.natCast_nonneg, Int.toNat_natCast, Try.ntmps29]
  have hS : ∀ k, [stepD ⟨3, 0, 0, false⟩] ++ List.replicate k (stepD ⟨1, 0, 1, false⟩) ++ [stepD ⟨1, 0, 1, false⟩] = [stepD ⟨3, 0, 0, false⟩] ++ List.replicate (k + 1) (stepD ⟨1, 0, 1, false⟩) := fun k => by rw [List.append_assoc, List.replicate_succ']
  refine sem_loop (fun k : Nat => ⟨slotsOf 34 [(0, .dat (.int .i64 n)), (2, .ptr 0 0 0), (3, .sl 1 0 (k + 1)), (7, .dat (.int .i64 n)), (8, .dat (.int .i64 k))], [.box [.nils, .nils, .nils], .row (some 4) ([stepD ⟨3, 0, 0, false⟩] ++ List.replicate k (stepD ⟨1, 0, 1, false⟩))], 0, []⟩)
    (fun k => k ≤ n) (fun k => n - k) 0 (Nat.zero_le _) ?_ ?_
  · exact le_slots' (by simp only [go_sem, Int.natCast_zero])
  rintro k hk
  have hlen : ([stepD ⟨3, 0, 0, false⟩] ++ List.replicate k (stepD ⟨1, 0, 1, false⟩)).length = k + 1 := by simp
  have htk : List.take (k + 1) ([stepD ⟨3, 0, 0, false⟩] ++ List.replicate k (stepD ⟨1, 0, 1, false⟩)) = [stepD ⟨3, 0, 0, false⟩] ++ List.replicate k (stepD ⟨1, 0, 1, false⟩) := List.take_of_length_le (by omega)
  by_cases hkn : k = n
  case neg =>
    refine sem_of_awp (Γ := tbl []) okG_nil _ _ _ ?_
    have hk2 : (k : Int) < n := by omega
    have hs := hS k
    have hag : (stepD ⟨1, 0, 1, false⟩) = .agg [.int .i64 1, .int .i64 0, .int .i64 1, .bool false] := rfl
    rw [hag] at hs hlen htk ⊢
    generalize ([stepD ⟨3, 0, 0, false⟩] ++ List.replicate k (D.agg [.int .i64 1, .int .i64 0, .int .i64 1, .bool false])) = X at *
    simp only [go_sem, Int.reduceEq, Int.reduceLT, Int.reduceLE, eq_self, Int.natCast_nonneg, Int.toNat_natCast, hk2, hlen, htk, hs]
    refine ⟨by omega, by omega, inR_i64.2 (by omega), k + 1, by omega, by omega, ?_⟩
    refine le_end (own := [_, _]) (ex := [_]) (Nat.zero_le _) ?_ ?_ ?_
    · simp only [go_sem, Int.natCast_add, Int.cast_ofNat_Int]
    · simp only [go_sem]
    · simp only [go_sem, Obj.under, AV.unders, AV.under]
  subst hkn
  have hk2 : ¬ (k : Int) < k := by omega
  refine sem_of_awp (Γ := tbl []) okG_nil _ _ _ ?_
  generalize hX : ([stepD ⟨3, 0, 0, false⟩] ++ List.replicate k (stepD ⟨1, 0, 1, false⟩)) = X at *
  simp only [go_sem, Int.reduceEq, Int.reduceLT, Int.reduceLE, eq_self, Int.natCast_nonneg, Int.toNat_natCast, hk2, hlen, htk]
  refine ⟨by omega, by omega, ?_⟩
  refine sem_le (le_freeze 3 (ag := some 4) rfl (Nat.zero_le _)) ?_
  refine sem_le (le_freeze 1 (ag := some 4) rfl (Nat.zero_le _)) ?_
  have hE : List.take (k + 1 + 3) (X ++ [D.agg [.int .i64 5, .int .i64 1, .int .i64 0, .bool false], .agg [.int .i64 2, .int .i64 0, .int .i64 k, .bool false], .agg [.int .i64 4, .int .i64 0, .int .i64 0, .bool false]]) = (fauS k).map stepD := by
    rw [List.take_of_length_le (by simp [hlen]), ← hX]
    simp only [fauS, List.map_append, List.map_replicate, List.map_cons, List.map_nil]
    rfl
  have hEl : ((X ++ [D.agg [.int .i64 5, .int .i64 1, .int .i64 0, .bool false], .agg [.int .i64 2, .int .i64 0, .int .i64 k, .bool false], .agg [.int .i64 4, .int .i64 0, .int .i64 0, .bool false]])).length = k + 1 + 3 := by simp [hlen]
  refine sem_of_awp (Γ := tbl []) okG_nil _ _ _ ?_
  simp only [go_sem, Int.reduceEq, Int.reduceLT, Int.reduceLE, eq_self, Int.natCast_nonneg, Int.toNat_natCast, hE, hEl]
  refine post_resO (.inl rfl) [.cell 2 26] rfl (fun _ h => h) ?_
  simp only [go_sem]
  refine Le.trans (le_pm (s' := [.agg [.sl 0 0 1, .sl 1 0 1, .sl 2 0 2]]) (own' := _) [4, 5, 6, 3, 0, 1, 2] [4, 5, 6, 3, 0, 1, 2] (by decide) rfl rfl rfl) ?_
  refine le_end (own := [_, _, _]) (ex := [_, _, _, _]) (Nat.zero_le _) ?_ ?_ ?_
  · simp only [go_sem]
  · simp only [go_sem]
  · exact ⟨trivial, trivial, trivial, trivial⟩
end Go.AM

set_option maxRecDepth 100000
set_option maxHeartbeats 2000000
namespace Go.AM
open Go Go.Proofs

def knownR (g : Nat) (ds : List D) (v : AV) (ob : List Obj) : Prop := (g, ds, v, ob) ∈ tabD4
theorem known_ok {g : Nat} {fn : Func} {body : Code} (hf : Try.prog.funcs[g]? = some fn) (hb : fn.body = some body) (hname : fn.name ≠ "runtime.NumGoroutine") : OkF Try.prog g (madeC (knownR g)) :=
  okF_made hf hb hname fun ds v ob h => tabD4_ok g ds v ob h fn body hf hb
def impK : List (List D × AV) := [([(.agg [(.sl (some 3) [(.agg [(.str [102, 114, 97, 109, 101, 115]), (.int .i64 4), (.int .i64 1)])]), (.sl none [(.str [109, 97, 112])]), (.sl (some 4) [(.agg [(.str [102, 97, 117, 108, 116]), (.int .i64 2), (.bool false), (.sl (some 4) [(.agg [(.int .i64 3), (.int .i64 0), (.int .i64 0), (.bool false)]), (.agg [(.int .i64 1), (.int .i64 0), (.int .i64 1), (.bool false)]), (.agg [(.int .i64 5), (.int .i64 1), (.int .i64 0), (.bool false)]), (.agg [(.int .i64 2), (.int .i64 0), (.int .i64 1), (.bool false)]), (.agg [(.int .i64 4), (.int .i64 0), (.int .i64 0), (.bool false)])])]), (.agg [(.str [101, 118, 105, 99, 116]), (.int .i64 0), (.bool true), (.sl (some 4) [(.agg [(.int .i64 1), (.int .i64 0), (.int .i64 1), (.bool true)]), (.agg [(.int .i64 2), (.int .i64 0), (.int .i64 1), (.bool false)])])])])])], (.tup [(.dat (.int .i64 0)), (.dat (.int .i64 2)), (.dat (.bool true))]))]
def verK : List (List D × AV) := [([(.agg [(.sl (some 3) [(.agg [(.str [102, 114, 97, 109, 101, 115]), (.int .i64 4), (.int .i64 1)])]), (.sl none [(.str [109, 97, 112])]), (.sl (some 4) [(.agg [(.str [102, 97, 117, 108, 116]), (.int .i64 2), (.bool false), (.sl (some 4) [(.agg [(.int .i64 3), (.int .i64 0), (.int .i64 0), (.bool false)]), (.agg [(.int .i64 1), (.int .i64 0), (.int .i64 1), (.bool false)]), (.agg [(.int .i64 5), (.int .i64 1), (.int .i64 0), (.bool false)]), (.agg [(.int .i64 2), (.int .i64 0), (.int .i64 1), (.bool false)]), (.agg [(.int .i64 4), (.int .i64 0), (.int .i64 0), (.bool false)])])]), (.agg [(.str [101, 118, 105, 99, 116]), (.int .i64 1), (.bool true), (.sl (some 4) [(.agg [(.int .i64 1), (.int .i64 0), (.int .i64 1), (.bool true)]), (.agg [(.int .i64 2), (.int .i64 0), (.int .i64 1), (.bool false)])])])])]), (.agg [(.sl none [(.int .i64 5), (.int .i64 9), (.int .i64 0), (.int .i64 3)])])], (.dat (.int .i64 0))), ([(.agg [(.sl (some 3) [(.agg [(.str [102, 114, 97, 109, 101, 115]), (.int .i64 4), (.int .i64 1)])]), (.sl none [(.str [109, 97, 112])]), (.sl (some 4) [(.agg [(.str [102, 97, 117, 108, 116]), (.int .i64 2), (.bool false), (.sl (some 4) [(.agg [(.int .i64 3), (.int .i64 0), (.int .i64 0), (.bool false)]), (.agg [(.int .i64 1), (.int .i64 0), (.int .i64 1), (.bool false)]), (.agg [(.int .i64 5), (.int .i64 1), (.int .i64 0), (.bool false)]), (.agg [(.int .i64 2), (.int .i64 0), (.int .i64 1), (.bool false)]), (.agg [(.int .i64 4), (.int .i64 0), (.int .i64 0), (.bool false)])])]), (.agg [(.str [101, 118, 105, 99, 116]), (.int .i64 1), (.bool true), (.sl (some 4) [(.agg [(.int .i64 1), (.int .i64 0), (.int .i64 1), (.bool true)]), (.agg [(.int .i64 2), (.int .i64 0), (.int .i64 1), (.bool false)])])])])]), (.agg [(.sl none [(.int .i64 1), (.int .i64 1), (.int .i64 0), (.int .i64 1)])])], (.dat (.int .i64 19)))]
def enoK : List (List D × AV) := [([(.agg [(.sl (some 3) [(.agg [(.str [102, 114, 97, 109, 101, 115]), (.int .i64 4), (.int .i64 1)])]), (.sl none [(.str [109, 97, 112])]), (.sl (some 4) [(.agg [(.str [102, 97, 117, 108, 116]), (.int .i64 2), (.bool false), (.sl (some 4) [(.agg [(.int .i64 3), (.int .i64 0), (.int .i64 0), (.bool false)]), (.agg [(.int .i64 1), (.int .i64 0), (.int .i64 1), (.bool false)]), (.agg [(.int .i64 1), (.int .i64 0), (.int .i64 1), (.bool false)]), (.agg [(.int .i64 5), (.int .i64 1), (.int .i64 0), (.bool false)]), (.agg [(.int .i64 2), (.int .i64 0), (.int .i64 2), (.bool false)]), (.agg [(.int .i64 4), (.int .i64 0), (.int .i64 0), (.bool false)])])]), (.agg [(.str [101, 118, 105, 99, 116]), (.int .i64 1), (.bool true), (.sl (some 4) [(.agg [(.int .i64 1), (.int .i64 0), (.int .i64 1), (.bool true)]), (.agg [(.int .i64 2), (.int .i64 0), (.int .i64 1), (.bool false)])])])])]), (.int .i64 0)], (.dat (.int .i64 1)))]
theorem impK_ok : OkF Try.prog 14 (dataC fun ds v => (ds, v) ∈ impK) := okF_eval2 tabC6_ok mixedP names 1000 _ (fun x hx => by
  simp only [impK, List.mem_singleton] at hx
  subst hx
  exact cef1)
theorem verK_ok : OkF Try.prog 22 (dataC fun ds v => (ds, v) ∈ verK) := okF_eval2 tabC6_ok mixedP names 1000 _ (fun x hx => by
  simp only [verK, List.mem_cons, List.not_mem_nil, or_false] at hx
  rcases hx with rfl | rfl
  · exact cef2
  · exact cef3)
theorem enoK_ok : OkF Try.prog 20 (dataC fun ds v => (ds, v) ∈ enoK) := okF_eval2 tabC6_ok mixedP names 1000 _ (fun x hx => by
  simp only [enoK, List.mem_singleton] at hx
  subst hx
  exact cef4)
abbrev tabAK : List (Nat × Contract) := [(29, madeC fauR), (12, madeC (knownR 12)), (16, madeC (knownR 16)), (14, dataC fun ds v => (ds, v) ∈ impK), (22, dataC fun ds v => (ds, v) ∈ verK), (20, dataC fun ds v => (ds, v) ∈ enoK), (30, dataC sameR)]
theorem tabAK_ok : OkG Try.prog (tbl tabAK) := okG_cons faults_ok (okG_cons (known_ok Try.func12 rfl (by decide)) (okG_cons (known_ok Try.func16 rfl (by decide)) (okG_cons impK_ok (okG_cons verK_ok (okG_cons enoK_ok (okG_cons same_ok okG_nil))))))
theorem bin_eqlW {K : AV → Prop} : binTop Try.prog .eql 46 (.dat (.agg [.int .i64 0, .int .i64 0, .int .i64 0, .int .i64 2])) (.dat (.agg [.int .i64 0, .int .i64 0, .int .i64 0, .int .i64 2])) K = K (.dat (.bool true)) := by
  have h : PEdge.fit ⟨0, 0, 0, 2⟩ := ⟨by decide, by decide, by decide, by decide⟩
  rw [bin_eql_agg eqOk_0 (nums_edge h) (nums_edge h)]
  rfl
abbrev awakeR : List D → AV → Prop := fun ds v => ds = [] ∧ v = .dat (.bool true)
theorem awakeR_true : awakeR [] (.dat (.bool true)) := ⟨rfl, rfl⟩
theorem awake_ok : OkF Try.prog 10 (dataC awakeR) := by
  refine okF_data Try.func10 rfl (by decide) ?_
  rintro ds v ⟨rfl, rfl⟩
  refine sem_of_awpK [2, 4, 9] (Γ := tbl tabAK) tabAK_ok _ _ _ ?_
  simp only [go_sem, Int.reduceEq, Int.reduceLT, Int.reduceLE, eq_self, Int.natCast_nonneg, Int.toNat_natCast, Try.ntmps10]
  refine call_made fauR (by simp) [.int .i64 (2 : Nat)] _ _ rfl rfl ⟨2, by decide, rfl, rfl, rfl⟩ ?_
  simp only [go_sem, Int.reduceEq, Int.reduceLT, Int.reduceLE, eq_self, Int.natCast_nonneg, Int.toNat_natCast, AV.shift, Obj.shift, AV.shifts]
  refine call_made fauR (by simp) [.int .i64 (1 : Nat)] _ _ rfl rfl ⟨1, by decide, rfl, rfl, rfl⟩ ?_
  simp only [go_sem, Int.reduceEq, Int.reduceLT, Int.reduceLE, eq_self, Int.natCast_nonneg, Int.toNat_natCast, AV.shift, Obj.shift, AV.shifts]
  have t1 : ∀ n w, List.take 1 (List.map poolD (fau n w).pools) = List.map poolD (fau n w).pools := fun _ _ => rfl
  have t2 : ∀ n w, List.take 1 (List.map D.str (fau n w).locks) = List.map D.str (fau n w).locks := fun _ _ => rfl
  have t3 : ∀ n w, List.take 2 (List.map clsD (fau n w).classes) = List.map clsD (fau n w).classes := fun _ _ => rfl
  have l1 : ∀ n w, (fau n w).pools.length = 1 := fun _ _ => rfl
  have l2 : ∀ n w, (fau n w).locks.length = 1 := fun _ _ => rfl
  have l3 : ∀ n w, (fau n w).classes.length = 2 := fun _ _ => rfl
  refine sem_le (le_freeze 5 (ag := some 4) rfl (Nat.zero_le _)) ?_
  refine sem_le (le_freeze 4 (ag := none) rfl (Nat.zero_le _)) ?_
  refine sem_le (le_freeze 3 (ag := some 3) rfl (Nat.zero_le _)) ?_
  refine sem_le (le_freeze 2 (ag := some 4) rfl (Nat.zero_le _)) ?_
  refine sem_le (le_freeze 1 (ag := none) rfl (Nat.zero_le _)) ?_
  refine sem_le (le_freeze 0 (ag := some 3) rfl (Nat.zero_le _)) ?_
  refine sem_of_awpK [4] (Γ := tbl tabAK) tabAK_ok _ _ _ ?_
  simp only [go_sem, Int.reduceEq, Int.reduceLT, Int.reduceLE, eq_self, Int.natCast_nonneg, Int.toNat_natCast, t1, t2, t3, l1, l2, l3, List.length_map]
  refine call_made fauR (by simp) [.int .i64 (1 : Nat)] _ _ rfl rfl ⟨1, by decide, rfl, rfl, rfl⟩ ?_
  have hc : List.map clsD (fau 1 1).classes = [clsD ⟨[102, 97, 117, 108, 116], 2, false, fauS 1⟩, clsD ⟨[101, 118, 105, 99, 116], 1, true, fauE⟩] := rfl
  have hn : ∀ a b : D, D.nth [a, b] 1 = b := fun _ _ => rfl
  have hs : D.setPart (clsD ⟨[101, 118, 105, 99, 116], 1, true, fauE⟩) 1 (.int .i64 0) = clsD ⟨[101, 118, 105, 99, 116], 0, true, fauE⟩ := rfl
  have hc2 : [clsD ⟨[102, 97, 117, 108, 116], 2, false, fauS 1⟩, clsD ⟨[101, 118, 105, 99, 116], 0, true, fauE⟩] = List.map clsD (fau 1 0).classes := rfl
  simp only [go_sem, Int.reduceEq, Int.reduceLT, Int.reduceLE, eq_self, Int.natCast_nonneg, Int.toNat_natCast, AV.shift, Obj.shift, AV.shifts, t1, t2, t3, l1, l2, l3, List.length_map, hc, hn, hs, hc2]
  refine sem_le (le_freeze 10 (ag := some 4) rfl (Nat.zero_le _)) ?_
  refine sem_le (le_freeze 9 (ag := none) rfl (Nat.zero_le _)) ?_
  refine sem_le (le_freeze 8 (ag := some 3) rfl (Nat.zero_le _)) ?_
  refine sem_le (σ' := ⟨slotsOf 110 [(1, .ptr 6 0 0), (2, .ptr 7 0 0), (3, .ptr 11 0 0)], [.dead, .dead, .dead, .dead, .dead, .dead, sysO (fau 2 1), sysO (fau 1 1), .dead, .dead, .dead, sysO (fau 1 0)], 0, []⟩) ?_ ?_
  · refine le_slots' ?_
    simp only [go_sem]
  refine sem_of_awp (Γ := tbl tabAK) tabAK_ok _ _ _ ?_
  simp only [go_sem, Int.reduceEq, Int.reduceLT, Int.reduceLE, eq_self, Int.natCast_nonneg, Int.toNat_natCast, sysO]
  refine call_made (knownR 12) (by simp) [sysD (fau 2 1)] _ _ rfl rfl (.tail _ (.tail _ (.tail _ (.head _)))) ?_
  simp only [go_sem, Int.reduceEq, Int.reduceLT, Int.reduceLE, eq_self, Int.natCast_nonneg, Int.toNat_natCast, AV.shift, Obj.shift, AV.shifts]
  refine call_made (knownR 16) (by simp) [sysD (fau 2 1)] _ _ rfl rfl (.head _) ?_
  simp only [go_sem, Int.reduceEq, Int.reduceLT, Int.reduceLE, eq_self, Int.natCast_nonneg, Int.toNat_natCast, AV.shift, Obj.shift, AV.shifts]
  refine call_made (knownR 12) (by simp) [sysD (fau 1 1)] _ _ rfl rfl (.tail _ (.tail _ (.head _))) ?_
  simp only [go_sem, Int.reduceEq, Int.reduceLT, Int.reduceLE, eq_self, Int.natCast_nonneg, Int.toNat_natCast, AV.shift, Obj.shift, AV.shifts]
  refine call_made (knownR 12) (by simp) [sysD (fau 1 0)] _ _ rfl rfl (.tail _ (.head _)) ?_
  simp only [go_sem, Int.reduceEq, Int.reduceLT, Int.reduceLE, eq_self, Int.natCast_nonneg, Int.toNat_natCast, AV.shift, Obj.shift, AV.shifts]
  refine call_data (fun ds v => (ds, v) ∈ impK) (by simp) [sysD (fau 1 0)] _ rfl (.head _) (.inl rfl) ?_
  simp only [go_sem, Int.reduceEq, Int.reduceLT, Int.reduceLE, eq_self, Int.natCast_nonneg, Int.toNat_natCast, decide_true]
  refine sem_cut 24 tabAK_ok ?_
  simp only [go_sem, Int.reduceEq, Int.reduceLT, Int.reduceLE, eq_self, Int.natCast_nonneg, Int.toNat_natCast]
  refine ⟨_, le_normAt 71 (v := .dat (.agg [.int .i64 0, .int .i64 0, .int .i64 0, .int .i64 2])) rfl, ?_⟩
  have hz : D.nth [D.agg [.int .i64 0, .int .i64 0, .int .i64 0, .int .i64 2]] 0 = D.agg [.int .i64 0, .int .i64 0, .int .i64 0, .int .i64 2] := rfl
  simp only [go_sem, Int.reduceEq, Int.reduceLT, Int.reduceLE, eq_self, Int.natCast_nonneg, Int.toNat_natCast, hz, bin_eqlW]
  refine call_data sameR (by simp) [.sl none (natsD [1, 1, 0, 0]), .sl none (natsD [1, 1, 0, 0])] _ rfl ⟨[1, 1, 0, 0], rfl, by decide, rfl⟩ (.inr rfl) ?_
  simp only [go_sem, Int.reduceEq, Int.reduceLT, Int.reduceLE, eq_self, Int.natCast_nonneg, Int.toNat_natCast]
  refine call_data (fun ds v => (ds, v) ∈ verK) (by simp) [sysD (fau 1 1), .agg [.sl none (intsD [5, 9, 0, 3])]] _ rfl (.head _) (.inr rfl) ?_
  simp only [go_sem, Int.reduceEq, Int.reduceLT, Int.reduceLE, eq_self, Int.natCast_nonneg, Int.toNat_natCast, decide_true]
  refine call_data (fun ds v => (ds, v) ∈ verK) (by simp) [sysD (fau 1 1), .agg [.sl none (intsD [1, 1, 0, 1])]] _ rfl (.tail _ (.head _)) (.inr rfl) ?_
  simp only [go_sem, Int.reduceEq, Int.reduceLT, Int.reduceLE, eq_self, Int.natCast_nonneg, Int.toNat_natCast, decide_true]
  refine call_data (fun ds v => (ds, v) ∈ enoK) (by simp) [sysD (fau 2 1), .int .i64 0] _ rfl (.head _) (.inr rfl) ?_
  simp only [go_sem, Int.reduceEq, Int.reduceLT, Int.reduceLE, eq_self, Int.natCast_nonneg, Int.toNat_natCast, decide_true]
  exact post_data (.inl rfl) [0] rfl trivial rfl
end Go.AM

set_option maxRecDepth 8000
set_option maxHeartbeats 2000000
namespace Go.AM
open Go Go.Proofs

abbrev tabK1 : List (Nat × Contract) := [(10, dataC awakeR), (11, dataC fewR), (12, dataC makeR), (13, dataC makeR), (14, dataC impVR), (15, dataC impVR), (16, dataC expR), (17, dataC expR), (18, dataC sameCR), (19, dataC sameER), (20, dataC enoR), (21, dataC enoR), (22, dataC verR), (23, dataC verR)]
abbrev pfK1 : List Nat := [18, 19, 20, 21, 22, 23]
def lawPR (ds : List D) (v : AV) : Prop := ∃ (s : PSys) (pool : Int), ds = [sysD s, .int .i64 pool] ∧ v = .dat (.bool true)
def lawLR (ds : List D) (v : AV) : Prop := ∃ (s : PSys) (L : List Int), ds = [sysD s, .sl none (intsD L)] ∧ v = .dat (.bool true)
theorem exp_fit {s : PSys} (h : checkE s = 0) : (expL s).length ≤ 10000 ∧ ∀ e ∈ expL s, e.fit := by
  have hfit := eFit (good_of h)
  obtain ⟨h1, h2⟩ := cyc_bound (sysE_ok h)
  refine ⟨by simpa [expL] using h1, fun e he => ?_⟩
  obtain ⟨m, hm, rfl⟩ := List.mem_map.1 he
  refine hfit _ ?_
  have := h2 m hm
  rw [List.getD_eq_getElem?_getD, List.getElem?_eq_getElem this]
  exact List.getElem_mem this
end Go.AM

set_option maxRecDepth 100000
namespace Go.AM
open Go Go.Proofs

abbrev byteD (a : Nat) : D := .int .u8 (a : Int)
theorem byte_arg {m : Nat} {d : D} (h : argT Try.prog (m + 1) 5 d) : ∃ a : Nat, d = byteD a ∧ a < 256 := by
  obtain ⟨n, rfl, hn⟩ := arg_int (k := .u8) (by kernel_rfl) h
  have := inR_u8.1 hn
  refine ⟨n.toNat, ?_, by omega⟩
  show D.int .u8 n = D.int .u8 (n.toNat : Int)
  rw [Int.toNat_of_nonneg this.1]
end Go.AM

