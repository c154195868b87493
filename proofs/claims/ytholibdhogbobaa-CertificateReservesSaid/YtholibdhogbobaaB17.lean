/- Own work over the model of the kit. -/
import Derived.Test.YtholibdhogbobaaB16
import Derived.Test.YtholibdhogbobaaB10
import Derived.Test.YtholibdhogbobaaB13
import Derived.Test.YtholibdhogbobaaB11
import Derived.Test.YtholibdhogbobaaB8
import Derived.Test.YtholibdhogbobaaProg
import Derived.KernelRfl
set_option linter.unusedSimpArgs false
set_option linter.unusedVariables false
set_option maxRecDepth 8000
set_option maxHeartbeats 2000000
namespace Go.AM
open Go Go.Proofs

noncomputable def expL (s : PSys) : List PEdge := (cycV (sysE s)).map fun i => (sysE s).getD i default
noncomputable def expV (s : PSys) : AV := if checkE s ≠ 0 then .tup [.dat (.sl none []), .dat (.int .i64 (checkE s))] else .tup [.dat (.sl (some 4) (edgesD (expL s))), .dat (.int .i64 0)]
def expR (ds : List D) (v : AV) : Prop := ∃ s : PSys, ds = [sysD s] ∧ s.fit ∧ v = expV s
abbrev tabEX : List (Nat × Contract) := [(24, dataC edgesR), (26, dataC resR), (40, dataC cycleR)]
abbrev tabXR : List (Nat × Contract) := [(32, dataC checkR), (33, dataC edgesR), (35, dataC resR), (41, dataC cycleR)]
def enoN (s : PSys) (pool : Int) : Int := if checkE s ≠ 0 ∨ pool < 0 ∨ (s.pools.length : Int) ≤ pool then -1 else if (s.pools.getD pool.toNat default).size < demL pool true s.classes then -1 else demL pool true s.classes
def enoR (ds : List D) (v : AV) : Prop := ∃ (s : PSys) (pool : Int), ds = [sysD s, .int .i64 pool] ∧ s.fit ∧ v = .dat (.int .i64 (enoN s pool))
theorem enough_ok : OkF Try.prog 20 (dataC enoR) := by
  refine okF_data Try.func20 rfl (by decide) ?_
  rintro ds v ⟨s, pool, rfl, hf, rfl⟩
  refine sem_of_awp (Γ := tbl [(27, dataC demNR)]) (okG_cons Demand_ok okG_nil) _ _ _ ?_
  simp only [go_sem, Int.reduceEq, Int.reduceLT, Int.reduceLE, eq_self, Int.natCast_nonneg, Int.toNat_natCast, Try.ntmps20, sysD]
  refine call_data demNR (by simp) [sysD s, .int .i64 pool, .bool true] _ rfl ⟨s, pool, true, rfl, hf, rfl⟩ (.inl rfl) ?_
  unfold demN enoN
  by_cases h : checkE s ≠ 0 ∨ pool < 0 ∨ (s.pools.length : Int) ≤ pool
  · rw [if_pos h, if_pos h]
    simp only [go_sem, Int.reduceEq, Int.reduceLT, Int.reduceLE, eq_self, Int.natCast_nonneg, Int.toNat_natCast]
    exact post_data (.inl rfl) [4] rfl trivial rfl
  rw [if_neg h, if_neg h]
  have hg := good_of (Classical.byContradiction fun hh => h (.inl hh))
  obtain ⟨i, rfl⟩ : ∃ i : Nat, pool = i := ⟨pool.toNat, by omega⟩
  have hi : i < s.pools.length := by omega
  have hi2 : (i : Int) < s.pools.length := by omega
  have hnp : D.nth (s.pools.map poolD) i = poolD (s.pools.getD i default) := D.nth_map hi
  have hpb := hg.pool (s.pools.getD i default) (by rw [List.getD_eq_getElem?_getD, List.getElem?_eq_getElem hi]; exact List.getElem_mem hi)
  have hd0 := (demL_le hg i true s.classes.length (Nat.le_refl _)).1
  rw [List.take_length] at hd0
  rw [Int.toNat_natCast]
  generalize s.pools.getD i default = p at *
  generalize demL i true s.classes = d at *
  unfold PPool.bad at hpb
  by_cases h1 : 0 < d
  · by_cases h2 : p.size < d
    · rw [if_pos h2]
      simp only [go_sem, Int.reduceEq, Int.reduceLT, Int.reduceLE, eq_self, Int.natCast_nonneg, Int.toNat_natCast, h1, h2, hi, hi2, hnp, poolD]
      exact post_data (.inl rfl) [4] rfl trivial rfl
    · rw [if_neg h2]
      simp only [go_sem, Int.reduceEq, Int.reduceLT, Int.reduceLE, eq_self, Int.natCast_nonneg, Int.toNat_natCast, h1, h2, hi, hi2, hnp, poolD]
      exact post_data (.inl rfl) [4] rfl trivial rfl
  · rw [if_neg (by omega)]
    simp only [go_sem, Int.reduceEq, Int.reduceLT, Int.reduceLE, eq_self, Int.natCast_nonneg, Int.toNat_natCast, h1]
    exact post_data (.inl rfl) [4] rfl trivial rfl
def sameCR (ds : List D) (v : AV) : Prop := ∃ (L : List Nat), ds = [certD L, certD L] ∧ L.length ≤ 10000 ∧ v = .dat (.bool true)
end Go.AM

set_option maxRecDepth 8000
set_option maxHeartbeats 2000000
namespace Go.AM
open Go Go.Proofs

def outI (n : Int) : Bool := decide (n < 0) || decide (4096 < n)
def outR (ds : List D) (v : AV) : Prop := ∃ n : Int, ds = [.int .i64 n] ∧ v = .dat (.bool (outI n))
def ixVR (xs : List AV) (obs : List Obj) (v0 : AV) (obs' ex : List Obj) (mv0 : List Nat) : Prop := ∃ (L : List Int), L.length ≤ 10000 ∧
  xs = [.dat (.sl none (intsD L)), .fn 43 []] ∧ obs = [] ∧ v0 = .dat (.int .i64 (fstI (fstL outI 0 L))) ∧ obs' = obs ∧ ex = [] ∧ mv0 = []
abbrev tabIV : List (Nat × Contract) := [(43, dataC outR)]
def hasVR (xs : List AV) (obs : List Obj) (v0 : AV) (obs' ex : List Obj) (mv0 : List Nat) : Prop := ∃ (L : List Int), L.length ≤ 10000 ∧
  xs = [.dat (.sl none (intsD L)), .fn 43 []] ∧ obs = [] ∧ v0 = .dat (.bool (L.any outI)) ∧ obs' = obs ∧ ex = [] ∧ mv0 = []
def badV (L : List Int) (e : PEdge) : Bool := decide (L.getD e.s 0 ≤ L.getD e.t 0)
def verN (s : PSys) (L : List Int) : Int :=
  if checkE s ≠ 0 then checkE s else if L.length ≠ nRes s ∨ L.any outI = true then 3 else if (impO s).isSome = true then 9 else if (sysE s).any (badV L) = true then 19 else 0
def verR (ds : List D) (v : AV) : Prop := ∃ (s : PSys) (L : List Int), ds = [sysD s, .agg [.sl none (intsD L)]] ∧ s.fit ∧ L.length ≤ 10000 ∧ v = .dat (.int .i64 (verN s L))
abbrev tabVE : List (Nat × Contract) := [(24, dataC edgesR), (14, dataC impVR), (26, dataC resR), (44, pureOf (lentC hasVR))]
end Go.AM

set_option maxRecDepth 8000
namespace Go.AM
open Go Go.Proofs

theorem fewB_fit {s : PSys} (h : fewB s = true) : s.fit := by
  simp only [fewB, Bool.and_eq_true, Bool.not_eq_true', decide_eq_false_iff_not] at h
  exact ⟨⟨by omega, by omega, by omega⟩⟩
section
variable {s : PSys} {L : List Nat}
theorem makeO_err (h : checkE s ≠ 0) : makeO s = ([], checkE s) := by unfold makeO; rw [if_pos h]
theorem makeO_imp (h : checkE s = 0) (hi : (impO s).isSome = true) : makeO s = ([], 9) := by unfold makeO; rw [if_neg (by simp [h]), if_pos hi]
theorem makeO_ok (h : checkE s = 0) (hi : impO s = none) (hl : levV (nRes s) (sysE s) = some L) : makeO s = (L, 0) := by unfold makeO; rw [if_neg (by simp [h]), if_neg (by simp [hi]), hl]
theorem makeO_dead (h : checkE s = 0) (hi : impO s = none) (hl : levV (nRes s) (sysE s) = none) : makeO s = ([], 20) := by unfold makeO; rw [if_neg (by simp [h]), if_neg (by simp [hi]), hl]
end
theorem lev_lt {n : Nat} {l : List PEdge} {f : Nat → Nat} (hg : GOk n l) (h : IsLev n l f) : ∀ v, v < n → f v < n := by
  have hA := pot_acyc h.down
  have key : ∀ k v, v < n → f v = k → ∃ w, Wk (eF l) k v w := by
    intro k
    induction k with
    | zero => exact fun v _ _ => ⟨v, rfl⟩
    | succ k ih =>
      intro v hv hk
      rcases h.next v hv with h0 | ⟨e, he, hs, ht⟩
      · omega
      · obtain ⟨w, hw⟩ := ih e.t (hg.dst e he).2 (by omega)
        exact ⟨w, Wk_cons (List.mem_map.2 ⟨e, he, by rw [hs]⟩) hw⟩
  intro v hv
  obtain ⟨w, hw⟩ := key _ v hv rfl
  exact wk_short hg.eFlt hA hv hw
abbrev castL (L : List Nat) : List Int := L.map fun n : Nat => (n : Int)
theorem lev_facts {s : PSys} (h : checkE s = 0) {L : List Nat} (hl : levV (nRes s) (sysE s) = some L) : L.length = nRes s ∧ (∀ x ∈ L, x < nRes s) ∧ ∀ e ∈ sysE s, L.getD e.t 0 < L.getD e.s 0 := by
  have hg := sysE_ok h
  obtain ⟨f, hf, rfl⟩ := levV_is hl
  have hlt := lev_lt hg hf
  have hat : ∀ i, i < nRes s → ((List.range (nRes s)).map f).getD i 0 = f i := fun i hi => by simp [List.getD_eq_getElem?_getD, hi]
  refine ⟨by simp, fun x hx => ?_, fun e he => ?_⟩
  · obtain ⟨i, hi, rfl⟩ := List.mem_map.1 hx
    exact hlt i (List.mem_range.1 hi)
  · rw [hat _ (hg.dst e he).2, hat _ (hg.src e he).2]
    exact hf.down e he
theorem lev_ex {s : PSys} (h : checkE s = 0) (hA : acyc (eF (sysE s))) : ∃ L, levV (nRes s) (sysE s) = some L := by
  have := lev_iff (sysE_ok h)
  rw [acyc_cyc.1 hA] at this
  exact Option.isSome_iff_exists.1 this
end Go.AM

set_option maxRecDepth 8000
namespace Go.AM
open Go Go.Proofs

structure Wid (s r : PSys) : Prop where
  names : namesL r = namesL s
  np : r.pools.length = s.pools.length
  nl : r.locks.length = s.locks.length
  nc : r.classes.length = s.classes.length
  size : ∀ i, (s.pools.getD i default).size ≤ (r.pools.getD i default).size
  fine : ∀ p ∈ r.pools, ¬ p.bad
  steps : ∀ i, (r.classes.getD i default).steps = (s.classes.getD i default).steps
  server : ∀ i, (r.classes.getD i default).server = (s.classes.getD i default).server
  work : ∀ i, i < s.classes.length → 0 ≤ (r.classes.getD i default).workers ∧ (r.classes.getD i default).workers ≤ (s.classes.getD i default).workers
section
variable {s r : PSys}
theorem Wid.most (h : Wid s r) (k : Int) : mostE r k = mostE s k := by unfold mostE; rw [h.np, h.nl, h.nc]
theorem Wid.pre (h : Wid s r) {x : PStep} (hp : preE s x = 0) : preE r x = 0 := by
  unfold preE at hp ⊢
  split at hp
  · cases hp
  rename_i h1
  split at hp
  · cases hp
  rename_i h2
  split at hp
  · cases hp
  rename_i h3
  have := h.size x.on.toNat
  rw [if_neg h1, if_neg (by rw [h.most]; exact h2), if_neg (by omega)]
theorem Wid.stepE (h : Wid s r) {u : List Int} {b : List Bool} {x : PStep} (he : stepE s u b x = 0) : Go.AM.stepE r u b x = 0 ∧ stepU r u x = stepU s u x ∧ stepL r b x = stepL s b x := by
  have hp := stepE_0 he
  have hp2 := h.pre hp
  refine ⟨?_, by unfold stepU; rw [hp, hp2], by unfold stepL; rw [hp, hp2]⟩
  unfold Go.AM.stepE at he ⊢
  rw [hp] at he
  rw [hp2]
  simp only [ne_eq, not_true_eq_false, if_false] at he ⊢
  have hf : stepFine s u b x = true := by
    cases hf : stepFine s u b x with
    | true => rfl
    | false => rw [hf] at he; simp at he
  have : stepFine r u b x = true := by
    unfold stepFine at hf ⊢
    have := h.size x.on.toNat
    rw [h.server]
    split at hf
    · rename_i h1; rw [if_pos h1]; simp only [decide_eq_true_eq] at hf ⊢; omega
    · rename_i h1; rw [if_neg h1]; exact hf
  rw [this]; rfl
theorem Wid.run (h : Wid s r) : ∀ {l : List PStep} {q : Hold}, verd (runE s l q) = 0 → verd (runE r l q) = 0
  | [], q, hv => by rw [verd_nil] at hv ⊢; exact hv
  | x :: l, q, hv => by
    by_cases he : Go.AM.stepE s q.units q.locks x = 0
    · obtain ⟨h1, h2, h3⟩ := h.stepE he
      rw [verd_go he] at hv
      rw [verd_go h1, h2, h3]
      exact h.run hv
    · rw [verd_err he] at hv; exact absurd hv he
theorem poolsE_ok : ∀ {l : List PPool}, (∀ p ∈ l, ¬ p.bad) → poolsE l = 0
  | [], _ => rfl
  | p :: l, h => by rw [poolsE, if_neg (h p (by simp))]; exact poolsE_ok fun q hq => h q (by simp [hq])
theorem clssE_ok {r : PSys} : ∀ {l : List PCls}, (∀ c ∈ l, classE r c = 0) → clssE r l = 0
  | [], _ => rfl
  | c :: l, h => by rw [clssE, if_neg (by rw [h c (by simp)]; decide)]; exact clssE_ok fun q hq => h q (by simp [hq])
theorem checkE_parts (h : checkE s = 0) : ¬ (6 < (s.pools.length : Int) ∨ 4 < (s.locks.length : Int) ∨ 6 < (s.classes.length : Int)) ∧ namesE [] (namesL s) = 0 := by
  unfold checkE at h
  split at h
  · cases h
  · rename_i h1
    exact ⟨h1, (thenE_eq0 h).1⟩
theorem Wid.hold0 (h : Wid s r) : hold0 r = Go.AM.hold0 s := by unfold Go.AM.hold0; rw [h.np, h.nl]
theorem Wid.check (h : Wid s r) (hc : checkE s = 0) : checkE r = 0 := by
  obtain ⟨h1, h2⟩ := checkE_parts hc
  have hg := good_of hc
  unfold checkE
  rw [if_neg (by rw [h.np, h.nl, h.nc]; exact h1), h.names, h2, thenE_0, poolsE_ok h.fine, thenE_0]
  refine clssE_ok fun c hcm => ?_
  obtain ⟨i, hi⟩ := List.getElem?_of_mem hcm
  have hil := (List.getElem?_eq_some_iff.1 hi).1
  rw [h.nc] at hil
  have e : r.classes.getD i default = c := by rw [List.getD_eq_getElem?_getD, hi]; rfl
  have hs := hg.cls (s.classes.getD i default) (by rw [List.getD_eq_getElem?_getD, List.getElem?_eq_getElem hil]; exact List.getElem_mem hil)
  have hw := h.work i hil
  have hst := h.steps i
  rw [e] at hw hst
  have w4 := hs.w4
  have l1 := hs.l1
  have l12 := hs.l12
  unfold classE
  rw [hst, if_neg (by omega), if_neg (by omega), h.hold0]
  exact h.run hs.run
theorem Wid.dem (h : Wid s r) (hc : checkE s = 0) (pool : Int) (d : Bool) : demL pool d r.classes ≤ demL pool d s.classes := by
  have hg := good_of hc
  have key : ∀ k, k ≤ s.classes.length → demL pool d (r.classes.take k) ≤ demL pool d (s.classes.take k) := by
    intro k
    induction k with
    | zero => intro _; simp
    | succ k ih =>
      intro hk
      have hkr : k < r.classes.length := by rw [h.nc]; omega
      have hks : k < s.classes.length := by omega
      have er : r.classes.getD k default = r.classes[k] := by rw [List.getD_eq_getElem?_getD, List.getElem?_eq_getElem hkr]; rfl
      have es : s.classes.getD k default = s.classes[k] := by rw [List.getD_eq_getElem?_getD, List.getElem?_eq_getElem hks]; rfl
      have hw := h.work k hks
      have hst := h.steps k
      rw [er, es] at hw hst
      rw [List.take_succ_eq_append_getElem hkr, List.take_succ_eq_append_getElem hks, demL_snoc, demL_snoc, hst]
      have hm := (mx_le hg (hg.cls _ (List.getElem_mem hks)) pool d).1
      have := Int.mul_le_mul_of_nonneg_right hw.2 hm
      have := ih (by omega)
      omega
  have := key s.classes.length (Nat.le_refl _)
  rwa [List.take_length, ← h.nc, List.take_length] at this
end
structure Wid2 (s r : PSys) : Prop extends Wid s r where
  res : ∀ i, (r.pools.getD i default).res = (s.pools.getD i default).res
  zero : ∀ i, i < s.classes.length → (r.classes.getD i default).workers = 0 → (s.classes.getD i default).workers = 0
section
variable {s r : PSys}
theorem fstC_none {s : PSys} : ∀ {i : Nat} {L : List PCls}, fstC s i L = none ↔ ∀ c ∈ L, ∀ x ∈ c.steps, impB s x = false
  | _, [] => by simp [fstC]
  | i, c :: L => by
    rw [fstC]
    cases h : fstL (impB s) 0 c.steps with
    | none =>
      simp only [List.mem_cons, forall_eq_or_imp]
      rw [fstC_none (i := i + 1) (L := L)]
      exact ⟨fun hh => ⟨fstL_none.1 h, hh⟩, fun hh => hh.2⟩
    | some k =>
      simp only [List.mem_cons, forall_eq_or_imp]
      exact ⟨fun hh => (by cases hh), fun hh => by rw [fstL_none.2 hh.1] at h; cases h⟩
theorem Wid.clsOf (h : Wid s r) {c' : PCls} (hc : c' ∈ r.classes) : ∃ i, i < s.classes.length ∧ r.classes.getD i default = c' ∧ r.classes[i]? = some c' ∧ s.classes[i]? = some (s.classes.getD i default) := by
  obtain ⟨i, hi⟩ := List.getElem?_of_mem hc
  have hil := (List.getElem?_eq_some_iff.1 hi).1
  rw [h.nc] at hil
  refine ⟨i, hil, by rw [List.getD_eq_getElem?_getD, hi]; rfl, hi, ?_⟩
  rw [List.getD_eq_getElem?_getD, List.getElem?_eq_getElem hil]; rfl
theorem Wid2.imp (h : Wid2 s r) (hc : checkE s = 0) (hi : impO s = none) : impO r = none := by
  have hcr := h.toWid.check hc
  have hg := good_of hc
  unfold impO at hi ⊢
  rw [if_neg (by simp [hc])] at hi
  rw [if_neg (by simp [hcr])]
  rw [fstC_none] at hi ⊢
  intro c' hc' x hx
  obtain ⟨i, hil, e, _, es⟩ := h.toWid.clsOf hc'
  have hst := h.steps i
  rw [e] at hst
  rw [hst] at hx
  have hcm := List.mem_of_getElem? es
  have hb := hi _ hcm x hx
  have hp := (hg.cls _ hcm).pre x hx
  unfold impB at hb ⊢
  have h1 := h.size x.on.toNat
  have h2 := h.res x.on.toNat
  split at hb
  · rename_i k1
    rw [if_pos k1]
    cases hdp : x.deep with
    | true => rfl
    | false =>
      rw [hdp] at hb
      simp only [Bool.not_false, Bool.true_and, decide_eq_false_iff_not] at hb ⊢
      omega
  · rename_i k1
    rw [if_neg k1]
    split at hb
    · rename_i k5
      rw [if_pos k5]
      obtain ⟨j, hj, hjl⟩ := cls_at hg hp k5
      rw [hj, Int.toNat_natCast] at hb ⊢
      simp only [decide_eq_false_iff_not] at hb ⊢
      exact fun hz => hb (h.zero j hjl hz)
    · rename_i k5
      rw [if_neg k5]
theorem Wid2.wait (h : Wid2 s r) (hc : checkE s = 0) {x : PStep} (hw : waitB r x = true) : waitB s x = true := by
  unfold waitB at hw ⊢
  have h1 := h.size x.on.toNat
  have h2 := h.res x.on.toNat
  have d1 := h.toWid.dem hc x.on false
  have d2 := h.toWid.dem hc x.on true
  split at hw
  · rename_i k; rw [if_pos k]
  rename_i k
  rw [if_neg k]
  split at hw
  · rename_i k1
    rw [if_pos k1]
    simp only [Bool.and_eq_true, decide_eq_true_eq, Bool.not_eq_true', Bool.and_eq_false_iff, decide_eq_false_iff_not] at hw ⊢
    refine ⟨by omega, ?_⟩
    rcases hw.2 with h3 | h3
    · exact .inl h3
    · exact .inr (by omega)
  · cases hw
theorem Wid.hold (h : Wid s r) {c c' : PCls} (hs : c'.server = c.server) (i : Nat) (L : List PStep) : holdL r c' i L = holdL s c i L := by
  unfold holdL balU balB hC
  rw [h.np, h.nl, hs]
theorem Wid.target (h : Wid s r) (x : PStep) : targetN r x = targetN s x := by unfold targetN; rw [h.np, h.nl]
theorem Wid2.edges (h : Wid2 s r) (hc : checkE s = 0) : ∀ e ∈ sysE r, ∃ e' ∈ sysE s, e'.src = e.src ∧ e'.dst = e.dst := by
  intro e he
  obtain ⟨i, k, c', x, g1, g2, g3, g4, g5, g6, g7⟩ := (eFacts r).mem e he
  obtain ⟨j, hjl, ej, ejr, ejs⟩ := h.toWid.clsOf (List.mem_of_getElem? g1)
  have hil : i < s.classes.length := by rw [← h.nc]; exact (List.getElem?_eq_some_iff.1 g1).1
  have er : r.classes.getD i default = c' := by rw [List.getD_eq_getElem?_getD, g1]; rfl
  have es : s.classes[i]? = some (s.classes.getD i default) := by rw [List.getD_eq_getElem?_getD, List.getElem?_eq_getElem hil]; rfl
  have hst := h.steps i
  have hsv := h.server i
  rw [er] at hst hsv
  rw [hst] at g2 g7
  rw [h.toWid.hold hsv] at g7
  have := (eFacts s).has i k _ x e.src es g2 (h.wait hc g3) g7
  obtain ⟨e', h1, h2, h3⟩ := hasE_iff.1 this
  exact ⟨e', h1, h2, by rw [h3, g6, h.toWid.target]⟩
theorem Wid2.make (h : Wid2 s r) (hm : (makeO s).2 = 0) : (makeO r).2 = 0 := by
  by_cases hc : checkE s = 0
  case neg => rw [makeO_err hc] at hm; exact absurd hm hc
  cases hi : impO s with
  | some x => rw [makeO_imp hc (by rw [hi]; rfl)] at hm; cases hm
  | none =>
    cases hl : levV (nRes s) (sysE s) with
    | none => rw [makeO_dead hc hi hl] at hm; cases hm
    | some L =>
      have hcr := h.toWid.check hc
      have hir := h.imp hc hi
      obtain ⟨_, _, h3⟩ := lev_facts hc hl
      have hA : acyc (eF (sysE r)) := pot_acyc (f := fun v => L.getD v 0) fun e he => by
        obtain ⟨e', g1, g2, g3⟩ := h.edges hc e he
        have := h3 e' g1
        unfold PEdge.s PEdge.t at this ⊢
        rw [g2, g3] at this
        exact this
      obtain ⟨L', hl'⟩ := lev_ex hcr hA
      rw [makeO_ok hcr hir hl']
end
def decW (c : PCls) : PCls := if 1 < c.workers then { c with workers := c.workers - 1 } else c
def incP (p : PPool) : PPool := if p.size < 8 then { p with size := p.size + 1 } else p
def lessS (s : PSys) (i : Nat) : PSys := { s with classes := s.classes.set i (decW (s.classes.getD i default)) }
def moreS (s : PSys) (i : Nat) : PSys := { s with pools := s.pools.set i (incP (s.pools.getD i default)) }
def resS (s : PSys) (i : Nat) (n : Int) : PSys := { s with pools := s.pools.set i { s.pools.getD i default with res := n } }
theorem map_set_same {α β : Type} {f : α → β} {l : List α} {i : Nat} {a d : α} (h : i < l.length → f a = f (l.getD i d)) : (l.set i a).map f = l.map f := by
  refine List.ext_getElem? fun j => ?_
  rw [List.getElem?_map, List.getElem?_map, List.getElem?_set]
  by_cases e : i = j
  · subst e
    by_cases hl : i < l.length
    · rw [if_pos rfl, if_pos hl, List.getElem?_eq_getElem hl]
      simp only [Option.map_some, Option.some.injEq]
      rw [h hl, List.getD_eq_getElem?_getD, List.getElem?_eq_getElem hl]; rfl
    · rw [if_pos rfl, if_neg hl, List.getElem?_eq_none (by omega)]
  · rw [if_neg e]
theorem less_wid {s : PSys} (hc : checkE s = 0) (i : Nat) : Wid2 s (lessS s i) := by
  have hg := good_of hc
  have hat : ∀ j, (lessS s i).classes.getD j default = if i = j ∧ i < s.classes.length then decW (s.classes.getD i default) else s.classes.getD j default := fun j => getD_set
  have hd : ∀ c : PCls, (decW c).steps = c.steps ∧ (decW c).server = c.server ∧ (decW c).name = c.name := fun c => by unfold decW; split <;> exact ⟨rfl, rfl, rfl⟩
  refine { names := ?_, np := rfl, nl := rfl, nc := by simp [lessS], size := fun _ => Int.le_refl _, fine := hg.pool, steps := fun j => ?_, server := fun j => ?_, work := fun j hj => ?_, res := fun _ => rfl, zero := fun j hj => ?_ }
  · unfold namesL lessS
    rw [map_set_same (d := default) (fun _ => (hd _).2.2)]
  · rw [hat]; split
    · rename_i h; rw [(hd _).1, h.1]
    · rfl
  · rw [hat]; split
    · rename_i h; rw [(hd _).2.1, h.1]
    · rfl
  · have hw := (hg.cls (s.classes.getD j default) (by rw [List.getD_eq_getElem?_getD, List.getElem?_eq_getElem hj]; exact List.getElem_mem hj)).w0
    rw [hat]; split
    · rename_i h; rw [h.1]; unfold decW; split
      · simp only; omega
      · omega
    · omega
  · rw [hat]; split
    · rename_i h; rw [h.1]; unfold decW; split
      · simp only; omega
      · exact id
    · exact id
theorem more_wid {s : PSys} (hc : checkE s = 0) (i : Nat) : Wid2 s (moreS s i) := by
  have hg := good_of hc
  have hat : ∀ j, (moreS s i).pools.getD j default = if i = j ∧ i < s.pools.length then incP (s.pools.getD i default) else s.pools.getD j default := fun j => getD_set
  have hd : ∀ p : PPool, p.size ≤ (incP p).size ∧ (incP p).res = p.res ∧ (incP p).name = p.name := fun c => by
    unfold incP
    split
    · exact ⟨by simp only; omega, rfl, rfl⟩
    · exact ⟨Int.le_refl _, rfl, rfl⟩
  have hbad : ∀ p : PPool, ¬ p.bad → ¬ (incP p).bad := fun p hp => by
    unfold PPool.bad at *
    unfold incP
    split
    · simp only; omega
    · exact hp
  refine { names := ?_, np := by simp [moreS], nl := rfl, nc := rfl, size := fun j => ?_, fine := fun p hp => ?_, steps := fun j => rfl, server := fun j => rfl, work := fun j hj => ⟨?_, Int.le_refl _⟩, res := fun j => ?_, zero := fun j hj => id }
  · unfold namesL moreS
    rw [map_set_same (d := default) (fun _ => (hd _).2.2)]
  · rw [hat]; split
    · rename_i h; rw [h.1]; exact (hd _).1
    · exact Int.le_refl _
  · obtain ⟨j, hj⟩ := List.getElem?_of_mem hp
    have hjl := (List.getElem?_eq_some_iff.1 hj).1
    have e : (moreS s i).pools.getD j default = p := by rw [List.getD_eq_getElem?_getD, hj]; rfl
    have hjs : j < s.pools.length := by simpa [moreS] using hjl
    have hm : ∀ k, k < s.pools.length → s.pools.getD k default ∈ s.pools := fun k hk => by rw [List.getD_eq_getElem?_getD, List.getElem?_eq_getElem hk]; exact List.getElem_mem hk
    rw [← e, hat]
    split
    · rename_i h; exact hbad _ (hg.pool _ (hm i h.2))
    · exact hg.pool _ (hm j hjs)
  · exact (hg.cls (s.classes.getD j default) (by rw [List.getD_eq_getElem?_getD, List.getElem?_eq_getElem hj]; exact List.getElem_mem hj)).w0
  · rw [hat]; split
    · rename_i h; rw [h.1]; exact (hd _).2.1
    · rfl
theorem res_wid {s : PSys} (hc : checkE s = 0) (i : Nat) {n : Int} (h0 : 0 ≤ n) (hn : n ≤ (s.pools.getD i default).size) : Wid s (resS s i n) := by
  have hg := good_of hc
  have hat : ∀ j, (resS s i n).pools.getD j default = if i = j ∧ i < s.pools.length then { s.pools.getD i default with res := n } else s.pools.getD j default := fun j => getD_set
  refine { names := ?_, np := by simp [resS], nl := rfl, nc := rfl, size := fun j => ?_, fine := fun p hp => ?_, steps := fun j => rfl, server := fun j => rfl, work := fun j hj => ⟨?_, Int.le_refl _⟩ }
  · have := map_set_same (f := fun p : PPool => p.name) (l := s.pools) (i := i) (a := { s.pools.getD i default with res := n }) (d := default) (fun _ => rfl)
    unfold namesL resS
    simp only
    rw [this]
  · rw [hat]; split
    · rename_i h; rw [h.1]; exact Int.le_refl _
    · exact Int.le_refl _
  · obtain ⟨j, hj⟩ := List.getElem?_of_mem hp
    have hjl := (List.getElem?_eq_some_iff.1 hj).1
    have e : (resS s i n).pools.getD j default = p := by rw [List.getD_eq_getElem?_getD, hj]; rfl
    have hjs : j < s.pools.length := by simpa [resS] using hjl
    have hm : ∀ k, k < s.pools.length → s.pools.getD k default ∈ s.pools := fun k hk => by rw [List.getD_eq_getElem?_getD, List.getElem?_eq_getElem hk]; exact List.getElem_mem hk
    rw [← e, hat]
    split
    · rename_i h
      have := hg.pool _ (hm i h.2)
      unfold PPool.bad at this ⊢
      simp only
      omega
    · exact hg.pool _ (hm j hjs)
  · exact (hg.cls (s.classes.getD j default) (by rw [List.getD_eq_getElem?_getD, List.getElem?_eq_getElem hj]; exact List.getElem_mem hj)).w0
end Go.AM

set_option maxRecDepth 8000
set_option maxHeartbeats 4000000
namespace Go.AM
open Go

theorem le_renP {s : List AV} {own own' : List Obj} {mv : List Nat} (π ρ : Nat → Nat) (h1 : ∀ o, ρ (π o) = o) (h2 : ∀ o, π (ρ o) = o) (hlt : ∀ o, o < own.length → ρ o < own.length) (hlt' : ∀ o, o < own.length → π o < own.length)
    (ho : own' = (List.range own.length).map fun o => (own.getD (ρ o) .dead).ren π) : Le ⟨s, own, 0, mv⟩ ⟨AV.rens π s, own', 0, mv⟩ := by
  rintro c a w ⟨hd, hn, F, φ, q2, q3, q4⟩
  have hφ : ∀ o L, φ o = some L → (fun i => φ (ρ i)) (π o) = some L := fun o L h => by simp only [h1]; exact h
  have hl : own'.length = own.length := by rw [ho]; simp
  have hn0 : c.n0 = 0 := hn.symm
  refine ⟨hd, hn, F, fun i => φ (ρ i), ⟨q2.sub, q2.ext, fun o L hlt' hm h => ?_, q2.rest, fun o L' ho' hn' => q2.orig (ρ o) L' ho' hn', q2.frsh⟩, ?_, AV.Rs_ren (π := π) (φ := φ) (φ' := fun i => φ (ρ i)) hφ s _ q4⟩
  · omega
  · refine ⟨q3.fb, fun o L h => q3.live (ρ o) L h, fun o o' L L' h h' n n' hne => q3.inj (ρ o) (ρ o') L L' h h' n n' (fun e => hne (by rw [← h2 o, ← h2 o', e])), fun o obj hob => ?_, fun o hge => ?_, q3.glob⟩
    · have hlt3 : o < own.length := by
        have := (List.getElem?_eq_some_iff.1 hob).1
        simp only [hl] at this
        exact this
      simp only [ho, List.getElem?_map, List.getElem?_range hlt3, Option.map_some, Option.some.injEq] at hob
      subst hob
      have hp := hlt o hlt3
      have := q3.rep (ρ o) (own.getD (ρ o) .dead) (by simp only; rw [List.getD_eq_getElem?_getD, List.getElem?_eq_getElem hp]; rfl)
      exact ObjR_ren (π := π) (φ := φ) (φ' := fun i => φ (ρ i)) hφ this
    · simp only [hl] at hge
      refine q3.out (ρ o) ?_
      simp only
      rcases Nat.lt_or_ge (ρ o) own.length with h | h
      · have := hlt' _ h
        rw [h2] at this
        omega
      · exact h
def pm (l : List Nat) (o : Nat) : Nat := l.getD o o
def pmOk (l m : List Nat) : Bool := decide (m.length = l.length) && (List.range l.length).all fun o => decide (pm m (pm l o) = o) && decide (pm l (pm m o) = o) && decide (pm m o < l.length) && decide (pm l o < l.length)
theorem le_pm {s s' : List AV} {own own' : List Obj} {mv : List Nat} (l m : List Nat) (h : pmOk l m = true) (hl : own.length = l.length) (hs : s' = AV.rens (pm l) s) (ho : own' = (List.range own.length).map fun o => (own.getD (pm m o) .dead).ren (pm l)) :
    Le ⟨s, own, 0, mv⟩ ⟨s', own', 0, mv⟩ := by
  subst hs
  simp only [pmOk, Bool.and_eq_true, decide_eq_true_eq, List.all_eq_true, List.mem_range] at h
  obtain ⟨hml, h⟩ := h
  have hb : ∀ o, l.length ≤ o → pm l o = o ∧ pm m o = o := fun o ho => by
    unfold pm
    rw [List.getD_eq_getElem?_getD, List.getD_eq_getElem?_getD, List.getElem?_eq_none (by omega), List.getElem?_eq_none (by omega)]
    exact ⟨rfl, rfl⟩
  have hc : ∀ o, pm m (pm l o) = o ∧ pm l (pm m o) = o := fun o => by
    rcases Nat.lt_or_ge o l.length with hh | hh
    · exact (h o hh).1.1
    · obtain ⟨e1, e2⟩ := hb o hh; rw [e1, e2, e1]; exact ⟨rfl, rfl⟩
  exact le_renP (pm l) (pm m) (fun o => (hc o).1) (fun o => (hc o).2) (fun o ho => by rw [hl] at ho ⊢; exact (h o ho).1.2) (fun o ho => by rw [hl] at ho ⊢; exact (h o ho).2) ho

def permT : Nat → List Nat → DT → DT
  | 0, _, t => t
  | f + 1, rest, t => rest.foldr (fun x u => .alt x (permT f (rest.erase x) t) u) .stop

end Go.AM

set_option maxRecDepth 8000
set_option maxHeartbeats 2000000
namespace Go.AM
open Go Go.Proofs

def fauS (n : Nat) : List PStep := [⟨3, 0, 0, false⟩] ++ List.replicate n ⟨1, 0, 1, false⟩ ++ [⟨5, 1, 0, false⟩, ⟨2, 0, n, false⟩, ⟨4, 0, 0, false⟩]
def fauE : List PStep := [⟨1, 0, 1, true⟩, ⟨2, 0, 1, false⟩]
def fau (n : Nat) (w : Int) : PSys := ⟨[⟨[102, 114, 97, 109, 101, 115], 4, 1⟩], [[109, 97, 112]], [⟨[102, 97, 117, 108, 116], 2, false, fauS n⟩, ⟨[101, 118, 105, 99, 116], w, true, fauE⟩]⟩
def fauR (ds : List D) (v : AV) (ob : List Obj) : Prop := ∃ n : Nat, n ≤ 10 ∧ ds = [.int .i64 n] ∧ v = .agg [.sl 0 0 1, .sl 1 0 1, .sl 2 0 2] ∧
  ob = [.row (some 3) ((fau n 1).pools.map poolD), .row none ((fau n 1).locks.map .str), .row (some 4) ((fau n 1).classes.map clsD)]
theorem faults_ok : OkF Try.prog 29 (madeC fauR) := by
  refine okF_made Try.func29 rfl (by decide) ?_
  rintro ds v ob ⟨n, hn, rfl, rfl, rfl⟩
  refine sem_of_awpK [8] (Γ := tbl []) okG_nil _ _ _ ?_
  simp only [go_sem, Int.reduceEq, Int.reduceLT, Int.reduceLE, eq_self, Int.natCast_nonneg, Int.toNat_natCast, Try.ntmps29]
  have hS : ∀ k, [stepD ⟨3, 0, 0, false⟩] ++ List.replicate k (stepD ⟨1, 0, 1, false⟩) ++ [stepD ⟨1, 0, 1, false⟩] = [stepD ⟨3, 0, 0, false⟩] ++ List.replicate (k + 1) (stepD ⟨1, 0, 1, false⟩) := fun k => by rw [List.append_assoc, List.replicate_succ']
  refine sem_loop (fun k : Nat => ⟨slotsOf 34 [(0, .dat (.int .i64 n)), (2, .ptr 0 0 0), (3, .sl 1 0 (k + 1)), (7, .dat (.int .i64 n)), (8, .dat (.int .i64 k))], [.box [.nils, .nils, .nils], .row (some 4) ([stepD ⟨3, 0, 0, false⟩] ++ List.replicate k (stepD ⟨1, 0, 1, false⟩))], 0, []⟩)
    (fun k => k ≤ n) (fun k => n - k) 0 (Nat.zero_le _) ?_ ?_
  · exact le_slots' (by simp only [go_sem, Int.natCast_zero])
  rintro k hk
  have hlen : ([stepD ⟨3, 0, 0, false⟩] ++ List.replicate k (stepD ⟨1, 0, 1, false⟩)).length = k + 1 := by simp
  have htk : List.take (k + 1) ([stepD ⟨3, 0, 0, false⟩] ++ List.replicate k (stepD ⟨1, 0, 1, false⟩)) = [stepD ⟨3, 0, 0, false⟩] ++ List.replicate k (stepD ⟨1, 0, 1, false⟩) := List.take_of_length_le (by omega)
  by_cases hkn : k = n
  case neg =>
    refine sem_of_awp (Γ := tbl []) okG_nil _ _ _ ?_
    have hk2 : (k : Int) < n := by omega
    have hs := hS k
    have hag : (stepD ⟨1, 0, 1, false⟩) = .agg [.int .i64 1, .int .i64 0, .int .i64 1, .bool false] := rfl
    rw [hag] at hs hlen htk ⊢
    generalize ([stepD ⟨3, 0, 0, false⟩] ++ List.replicate k (D.agg [.int .i64 1, .int .i64 0, .int .i64 1, .bool false])) = X at *
    simp only [go_sem, Int.reduceEq, Int.reduceLT, Int.reduceLE, eq_self, Int.natCast_nonneg, Int.toNat_natCast, hk2, hlen, htk, hs]
    refine ⟨by omega, by omega, inR_i64.2 (by omega), k + 1, by omega, by omega, ?_⟩
    refine le_end (own := [_, _]) (ex := [_]) (Nat.zero_le _) ?_ ?_ ?_
    · simp only [go_sem, Int.natCast_add, Int.cast_ofNat_Int]
    · simp only [go_sem]
    · simp only [go_sem, Obj.under, AV.unders, AV.under]
  subst hkn
  have hk2 : ¬ (k : Int) < k := by omega
  refine sem_of_awp (Γ := tbl []) okG_nil _ _ _ ?_
  generalize hX : ([stepD ⟨3, 0, 0, false⟩] ++ List.replicate k (stepD ⟨1, 0, 1, false⟩)) = X at *
  simp only [go_sem, Int.reduceEq, Int.reduceLT, Int.reduceLE, eq_self, Int.natCast_nonneg, Int.toNat_natCast, hk2, hlen, htk]
  refine ⟨by omega, by omega, ?_⟩
  refine sem_le (le_freeze 3 (ag := some 4) rfl (Nat.zero_le _)) ?_
  refine sem_le (le_freeze 1 (ag := some 4) rfl (Nat.zero_le _)) ?_
  have hE : List.take (k + 1 + 3) (X ++ [D.agg [.int .i64 5, .int .i64 1, .int .i64 0, .bool false], .agg [.int .i64 2, .int .i64 0, .int .i64 k, .bool false], .agg [.int .i64 4, .int .i64 0, .int .i64 0, .bool false]]) = (fauS k).map stepD := by
    rw [List.take_of_length_le (by simp [hlen]), ← hX]
    simp only [fauS, List.map_append, List.map_replicate, List.map_cons, List.map_nil]
    rfl
  have hEl : ((X ++ [D.agg [.int .i64 5, .int .i64 1, .int .i64 0, .bool false], .agg [.int .i64 2, .int .i64 0, .int .i64 k, .bool false], .agg [.int .i64 4, .int .i64 0, .int .i64 0, .bool false]])).length = k + 1 + 3 := by simp [hlen]
  refine sem_of_awp (Γ := tbl []) okG_nil _ _ _ ?_
  simp only [go_sem, Int.reduceEq, Int.reduceLT, Int.reduceLE, eq_self, Int.natCast_nonneg, Int.toNat_natCast, hE, hEl]
  refine post_resO (.inl rfl) [.cell 2 26] rfl (fun _ h => h) ?_
  simp only [go_sem]
  refine Le.trans (le_pm (s' := [.agg [.sl 0 0 1, .sl 1 0 1, .sl 2 0 2]]) (own' := _) [4, 5, 6, 3, 0, 1, 2] [4, 5, 6, 3, 0, 1, 2] (by decide) rfl rfl rfl) ?_
  refine le_end (own := [_, _, _]) (ex := [_, _, _, _]) (Nat.zero_le _) ?_ ?_ ?_
  · simp only [go_sem]
  · simp only [go_sem]
  · exact ⟨trivial, trivial, trivial, trivial⟩
end Go.AM

set_option maxRecDepth 8000
set_option maxHeartbeats 4000000
namespace Go.AM
open Go Go.Proofs

def copyR (ds : List D) (v : AV) (ob : List Obj) : Prop := ∃ s : PSys, ds = [sysD s] ∧ s.small ∧ (∀ c ∈ s.classes, c.steps.length ≤ 100) ∧ v = .agg [.sl 0 0 s.pools.length, .sl 1 0 s.locks.length, .sl 2 0 s.classes.length] ∧
  ob = [.row (some 3) (s.pools.map poolD), .row none (s.locks.map .str), .row (some 4) (s.classes.map clsD)]
theorem copy_ok : OkF Try.prog 25 (madeC copyR) := by
  refine okF_made Try.func25 rfl (by decide) ?_
  rintro ds v ob ⟨s, rfl, hsm, hst, rfl, rfl⟩
  refine sem_of_awpK [2, 6] (Γ := tbl []) okG_nil _ _ _ ?_
  simp only [go_sem, Int.reduceEq, Int.reduceLT, Int.reduceLE, eq_self, Int.natCast_nonneg, Int.toNat_natCast, Try.ntmps25, sysD]
  refine sem_drawY [] [(3, [2, 3, 4]), (7, [2, 3, 4]), (1, [2, 3, 4]), (2, [2, 3, 4]), (5, [2, 3, 4]), (6, [2, 3, 4])] (pf := []) (mf := []) mixed okG_nil pureNo noMk (.one 1 (.one 2 (.one 5 (.one 6 (.alt 0 (.alt 3 (.alt 4 (.alt 7 (.one 8 (.one 9 (.one 10 .fin))) (.alt 9 (.one 7 (.one 8 (.one 10 .fin))) .stop)) (.alt 9 (.alt 4 (.one 7 (.one 8 (.one 10 .fin))) .stop) .stop)) (.alt 4 (.alt 3 (.alt 7 (.one 8 (.one 9 (.one 10 .fin))) (.alt 9 (.one 7 (.one 8 (.one 10 .fin))) .stop)) (.alt 9 (.one 3 (.one 7 (.one 8 (.one 10 .fin)))) .stop)) (.alt 9 (.alt 3 (.alt 4 (.one 7 (.one 8 (.one 10 .fin))) .stop) (.alt 4 (.one 3 (.one 7 (.one 8 (.one 10 .fin)))) .stop)) .stop))) (.alt 4 (.alt 0 (.alt 3 (.alt 7 (.one 8 (.one 9 (.one 10 .fin))) (.alt 9 (.one 7 (.one 8 (.one 10 .fin))) .stop)) (.alt 9 (.one 3 (.one 7 (.one 8 (.one 10 .fin)))) .stop)) (.alt 9 (.alt 0 (.one 3 (.one 7 (.one 8 (.one 10 .fin)))) .stop) .stop)) (.alt 9 (.alt 0 (.alt 3 (.alt 4 (.one 7 (.one 8 (.one 10 .fin))) .stop) (.alt 4 (.one 3 (.one 7 (.one 8 (.one 10 .fin)))) .stop)) (.alt 4 (.alt 0 (.one 3 (.one 7 (.one 8 (.one 10 .fin)))) .stop) .stop)) .stop))))))) (by kernel_rfl) ?_
  have b1 : s.pools.length ≤ 140737488355328 := by have := hsm.np; omega
  have b2 : s.pools.length * 32 ≤ 140737488355328 := by have := hsm.np; omega
  have b3 : s.locks.length ≤ 140737488355328 := by have := hsm.nl; omega
  have b4 : s.locks.length * 16 ≤ 140737488355328 := by have := hsm.nl; omega
  generalize hK : andThenK [2, 6] Try.prog (tbl []) _ _ = Q
  have hcl : ∀ σ σ', Le σ σ' → Q .normal σ' → Q .normal σ := by
    subst hK
    intro σ σ' h1 h2
    exact sem_le h1 h2
  suffices hQ1 : Q .normal ⟨slotsOf 35 [(1, .ptr 0 0 0), (2, .ptr 1 0 0), (3, .ptr 4 0 0)], [sysO s, .box [.nils, .nils, .nils], .row (some 3) (s.pools.map poolD), .row none (s.locks.map .str), .box [.sl 2 0 s.pools.length, .sl 3 0 s.locks.length, .nils]], 0, []⟩ by
    have hlf : ∀ (c : Nat) (l m : List Nat) {own : List Obj} {sl : List AV}, slotsLe sl (slotsOf 35 [(1, .ptr 0 0 0), (2, .ptr 1 0 0), (3, .ptr c 0 0)]) → pmOk l m = true → own.length = l.length → _ = AV.rens (pm l) (slotsOf 35 [(1, .ptr 0 0 0), (2, .ptr 1 0 0), (3, .ptr c 0 0)]) → _ = (List.range own.length).map (fun o => (own.getD (pm m o) .dead).ren (pm l)) → Q .normal ⟨sl, own, 0, []⟩ := fun c l m {_} {_} h0 h1 h2 h3 h4 => hcl _ _ (Le.trans (le_slots' h0) (le_pm l m h1 h2 h3 h4)) hQ1
    simp only [go_sem, Int.reduceEq, Int.reduceLT, Int.reduceLE, eq_self, Int.natCast_nonneg, Int.toNat_natCast, b1, b2, b3, b4, List.length_map, List.take_length, List.nil_append]
    repeat' apply And.intro
    all_goals first
    | exact hlf 4 [0, 1, 2, 3, 4] [0, 1, 2, 3, 4] (by simp only [go_sem]) (by decide) rfl rfl rfl
    | exact hlf 3 [0, 1, 2, 4, 3] [0, 1, 2, 4, 3] (by simp only [go_sem]) (by decide) rfl rfl rfl
    | exact hlf 4 [0, 1, 3, 2, 4] [0, 1, 3, 2, 4] (by simp only [go_sem]) (by decide) rfl rfl rfl
    | exact hlf 2 [0, 1, 4, 2, 3] [0, 1, 3, 4, 2] (by simp only [go_sem]) (by decide) rfl rfl rfl
    | exact hlf 3 [0, 1, 3, 4, 2] [0, 1, 4, 2, 3] (by simp only [go_sem]) (by decide) rfl rfl rfl
    | exact hlf 2 [0, 1, 4, 3, 2] [0, 1, 4, 3, 2] (by simp only [go_sem]) (by decide) rfl rfl rfl
  subst hK
  refine sem_le (le_addnilR 4 2 (some 4) rfl rfl (Nat.zero_le _)) ?_
  refine sem_of_awpK [6] (Γ := tbl []) okG_nil _ _ _ ?_
  simp only [go_sem, Int.reduceEq, Int.reduceLT, Int.reduceLE, eq_self, Int.natCast_nonneg, Int.toNat_natCast, List.length_map]
  have hnc := hsm.nc
  refine sem_loop (fun k : Nat => ⟨slotsOf 35 [(1, .ptr 0 0 0), (2, .ptr 1 0 0), (3, .ptr 4 0 0), (16, .dat (.sl (some 4) (s.classes.map clsD))), (17, .dat (.int .i64 s.classes.length)), (18, .dat (.int .i64 k))], [sysO s, .box [.nils, .nils, .nils], .row (some 3) (s.pools.map poolD), .row none (s.locks.map .str), .box [.sl 2 0 s.pools.length, .sl 3 0 s.locks.length, .sl 5 0 k], .row (some 4) ((s.classes.take k).map clsD)], 0, []⟩)
    (fun k => k ≤ s.classes.length) (fun k => s.classes.length - k) 0 (Nat.zero_le _) ?_ ?_
  · exact le_slots' (by simp only [go_sem, Int.natCast_zero])
  rintro k hk
  refine sem_of_awpK [6] (Γ := tbl []) okG_nil _ _ _ ?_
  cases hd : s.classes.drop k with
  | nil =>
    obtain rfl : k = s.classes.length := end_of_drop hd hk
    have hk2 : ¬ (s.classes.length : Int) < s.classes.length := by omega
    rw [List.take_length]
    simp only [go_sem, Int.reduceEq, Int.reduceLT, Int.reduceLE, eq_self, Int.natCast_nonneg, Int.toNat_natCast, hk2]
    refine post_resO (.inl rfl) [.cell 2 26] rfl (fun _ h => h) ?_
    simp only [go_sem]
    refine Le.trans (le_pm (s' := [.agg [.sl 0 0 s.pools.length, .sl 1 0 s.locks.length, .sl 2 0 s.classes.length]]) (own' := _) [3, 4, 0, 1, 5, 2] [2, 3, 5, 0, 1, 4] (by decide) rfl rfl rfl) ?_
    refine le_end (own := [_, _, _]) (ex := [_, _, _]) (Nat.zero_le _) ?_ ?_ ?_
    · simp only [go_sem]
    · simp only [go_sem]
    · exact ⟨trivial, trivial, trivial, trivial⟩
  | cons c r =>
    have hlt := lt_of_drop hd
    have hk2 : (k : Int) < s.classes.length := by omega
    have hk0 : (0 : Int) ≤ k := Int.natCast_nonneg k
    have hn := nth_of_drop (f := clsD) hd
    have hcl := hst c (mem_of_drop hd)
    have e1 : List.take c.steps.length (c.steps.map stepD) = c.steps.map stepD := List.take_of_length_le (by simp)
    simp only [go_sem, Int.reduceEq, Int.reduceLT, Int.reduceLE, eq_self, Int.natCast_nonneg, Int.toNat_natCast, hk2, hk0, hlt, hn, clsD, stepsD, List.length_map, List.nil_append]
    refine ⟨by omega, by omega, ?_⟩
    refine sem_le (le_freeze 7 (ag := some 4) rfl (Nat.zero_le _)) ?_
    refine sem_of_awp (Γ := tbl []) okG_nil _ _ _ ?_
    have hlen : ((s.classes.take k).map clsD).length = k := by simp; omega
    have htk : List.take k ((s.classes.take k).map clsD) = (s.classes.take k).map clsD := List.take_of_length_le (by omega)
    have hsn : (s.classes.take k).map clsD ++ [.agg [.str c.name, .int .i64 c.workers, .bool c.server, .sl (some 4) (c.steps.map stepD)]] = (s.classes.take (k + 1)).map clsD := by rw [take_of_drop hd, List.map_append]; rfl
    simp only [go_sem, Int.reduceEq, Int.reduceLT, Int.reduceLE, eq_self, Int.natCast_nonneg, Int.toNat_natCast, e1, List.length_map, hlen, htk, hsn, List.drop_zero, Nat.le_refl]
    refine ⟨by omega, by omega, inR_i64.2 (by omega), k + 1, by omega, by omega, ?_⟩
    refine le_end (own := [_, _, _, _, _, _]) (ex := [_, _, _]) (Nat.zero_le _) ?_ ?_ ?_
    · simp only [go_sem, Int.natCast_add, Int.cast_ofNat_Int]
    · simp only [go_sem]
    · simp only [go_sem, Obj.under, AV.unders, AV.under]
end Go.AM

set_option maxRecDepth 8000
set_option maxHeartbeats 2000000
namespace Go.AM
open Go Go.Proofs

def noBad (E : List PEdge) (L : List Int) (i k : Nat) (H : List Int) : Prop := ∀ e ∈ E, (e.cls < i ∨ (e.cls = i ∧ (e.step < k ∨ (e.step = k ∧ e.src ∈ H)))) → badV L e = false
section
variable {s : PSys} {E : List PEdge} {L : List Int} {i k : Nat} {c : PCls} {x : PStep}
end
theorem waitN_at {s : PSys} {i k : Nat} {c : PCls} {x : PStep} (h : checkE s = 0) (hc : s.classes[i]? = some c) (hx : c.steps[k]? = some x) : waitN s i k = waitB s x := by
  have hi := (List.getElem?_eq_some_iff.1 hc).1
  have hk := (List.getElem?_eq_some_iff.1 hx).1
  have e : s.classes.getD i default = c := by rw [List.getD_eq_getElem?_getD, hc]; rfl
  have hn : ¬ noStep s i k := by rw [noStep_nat hi, e]; omega
  unfold waitN
  rw [if_neg (fun hh => hh.elim (fun h2 => h2 h) hn), stepAt_nat, e, List.getD_eq_getElem?_getD, hx]; rfl
abbrev tabVR : List (Nat × Contract) := [(32, dataC checkR), (35, dataC resR), (15, dataC impVR), (45, dataC waitNR), (46, dataC holdR), (47, dataC targetR)]
end Go.AM

set_option maxRecDepth 100000
namespace Go.AM
open Go Go.Proofs
theorem cev1 : evalM Try.prog [] 1000 24 [(.agg [(.sl (some 3) [(.agg [(.str [102, 114, 97, 109, 101, 115]), (.int .i64 4), (.int .i64 1)])]), (.sl none [(.str [109, 97, 112])]), (.sl (some 4) [(.agg [(.str [102, 97, 117, 108, 116]), (.int .i64 2), (.bool false), (.sl (some 4) [(.agg [(.int .i64 3), (.int .i64 0), (.int .i64 0), (.bool false)]), (.agg [(.int .i64 1), (.int .i64 0), (.int .i64 1), (.bool false)]), (.agg [(.int .i64 1), (.int .i64 0), (.int .i64 1), (.bool false)]), (.agg [(.int .i64 5), (.int .i64 1), (.int .i64 0), (.bool false)]), (.agg [(.int .i64 2), (.int .i64 0), (.int .i64 2), (.bool false)]), (.agg [(.int .i64 4), (.int .i64 0), (.int .i64 0), (.bool false)])])]), (.agg [(.str [101, 118, 105, 99, 116]), (.int .i64 1), (.bool true), (.sl (some 4) [(.agg [(.int .i64 1), (.int .i64 0), (.int .i64 1), (.bool true)]), (.agg [(.int .i64 2), (.int .i64 0), (.int .i64 1), (.bool false)])])])])])] = some ((.tup [(.sl 0 0 4), (.dat (.int .i64 0))]), [(.row (some 4) [(.agg [(.int .i64 1), (.int .i64 0), (.int .i64 0), (.int .i64 1)]), (.agg [(.int .i64 0), (.int .i64 0), (.int .i64 0), (.int .i64 2)]), (.agg [(.int .i64 0), (.int .i64 3), (.int .i64 0), (.int .i64 3)]), (.agg [(.int .i64 1), (.int .i64 3), (.int .i64 0), (.int .i64 3)])])]) := by kernel_rfl
end Go.AM

set_option maxRecDepth 100000
namespace Go.AM
open Go Go.Proofs
theorem cev2 : evalM Try.prog [] 1000 24 [(.agg [(.sl (some 3) [(.agg [(.str [102, 114, 97, 109, 101, 115]), (.int .i64 4), (.int .i64 1)])]), (.sl none [(.str [109, 97, 112])]), (.sl (some 4) [(.agg [(.str [102, 97, 117, 108, 116]), (.int .i64 2), (.bool false), (.sl (some 4) [(.agg [(.int .i64 3), (.int .i64 0), (.int .i64 0), (.bool false)]), (.agg [(.int .i64 1), (.int .i64 0), (.int .i64 1), (.bool false)]), (.agg [(.int .i64 5), (.int .i64 1), (.int .i64 0), (.bool false)]), (.agg [(.int .i64 2), (.int .i64 0), (.int .i64 1), (.bool false)]), (.agg [(.int .i64 4), (.int .i64 0), (.int .i64 0), (.bool false)])])]), (.agg [(.str [101, 118, 105, 99, 116]), (.int .i64 1), (.bool true), (.sl (some 4) [(.agg [(.int .i64 1), (.int .i64 0), (.int .i64 1), (.bool true)]), (.agg [(.int .i64 2), (.int .i64 0), (.int .i64 1), (.bool false)])])])])])] = some ((.tup [(.sl 0 0 2), (.dat (.int .i64 0))]), [(.row (some 4) [(.agg [(.int .i64 0), (.int .i64 3), (.int .i64 0), (.int .i64 2)]), (.agg [(.int .i64 1), (.int .i64 3), (.int .i64 0), (.int .i64 2)])])]) := by kernel_rfl
end Go.AM

set_option maxRecDepth 100000
namespace Go.AM
open Go Go.Proofs
theorem cev3 : evalM Try.prog [] 1000 24 [(.agg [(.sl (some 3) [(.agg [(.str [102, 114, 97, 109, 101, 115]), (.int .i64 4), (.int .i64 1)])]), (.sl none [(.str [109, 97, 112])]), (.sl (some 4) [(.agg [(.str [102, 97, 117, 108, 116]), (.int .i64 2), (.bool false), (.sl (some 4) [(.agg [(.int .i64 3), (.int .i64 0), (.int .i64 0), (.bool false)]), (.agg [(.int .i64 1), (.int .i64 0), (.int .i64 1), (.bool false)]), (.agg [(.int .i64 5), (.int .i64 1), (.int .i64 0), (.bool false)]), (.agg [(.int .i64 2), (.int .i64 0), (.int .i64 1), (.bool false)]), (.agg [(.int .i64 4), (.int .i64 0), (.int .i64 0), (.bool false)])])]), (.agg [(.str [101, 118, 105, 99, 116]), (.int .i64 0), (.bool true), (.sl (some 4) [(.agg [(.int .i64 1), (.int .i64 0), (.int .i64 1), (.bool true)]), (.agg [(.int .i64 2), (.int .i64 0), (.int .i64 1), (.bool false)])])])])])] = some ((.tup [(.sl 0 0 2), (.dat (.int .i64 0))]), [(.row (some 4) [(.agg [(.int .i64 0), (.int .i64 3), (.int .i64 0), (.int .i64 2)]), (.agg [(.int .i64 1), (.int .i64 3), (.int .i64 0), (.int .i64 2)])])]) := by kernel_rfl
end Go.AM

set_option maxRecDepth 100000
namespace Go.AM
open Go Go.Proofs
theorem cev4 : evalM Try.prog [] 1000 31 [(.int .i64 4), (.sl (some 4) [(.agg [(.int .i64 1), (.int .i64 0), (.int .i64 0), (.int .i64 1)]), (.agg [(.int .i64 0), (.int .i64 0), (.int .i64 0), (.int .i64 2)]), (.agg [(.int .i64 0), (.int .i64 3), (.int .i64 0), (.int .i64 3)]), (.agg [(.int .i64 1), (.int .i64 3), (.int .i64 0), (.int .i64 3)])])] = some ((.tup [.nils, (.dat (.int .i64 10))]), []) := by kernel_rfl
theorem cev5 : evalM Try.prog [] 1000 31 [(.int .i64 4), (.sl (some 4) [(.agg [(.int .i64 0), (.int .i64 3), (.int .i64 0), (.int .i64 2)]), (.agg [(.int .i64 1), (.int .i64 3), (.int .i64 0), (.int .i64 2)])])] = some ((.tup [(.sl 0 0 4), (.dat (.int .i64 0))]), [(.row none [(.int .i64 1), (.int .i64 1), (.int .i64 0), (.int .i64 0)])]) := by kernel_rfl
theorem cev6 : evalM Try.prog [] 1000 40 [(.int .i64 4), (.sl (some 4) [(.agg [(.int .i64 1), (.int .i64 0), (.int .i64 0), (.int .i64 1)]), (.agg [(.int .i64 0), (.int .i64 0), (.int .i64 0), (.int .i64 2)]), (.agg [(.int .i64 0), (.int .i64 3), (.int .i64 0), (.int .i64 3)]), (.agg [(.int .i64 1), (.int .i64 3), (.int .i64 0), (.int .i64 3)])])] = some ((.tup [(.sl 0 0 1), (.dat (.int .i64 0))]), [(.row none [(.int .i64 1)])]) := by kernel_rfl
end Go.AM

set_option maxRecDepth 100000
namespace Go.AM
open Go Go.Proofs

theorem mixedP : Try.prog.follows .mixedOrders = true := by kernel_rfl
theorem names : Names Try.prog := by
  have h : (Try.prog.funcs.toList.all fun f => decide (f.name ≠ "runtime.NumGoroutine")) = true := by kernel_rfl
  intro g fn hf
  have := List.all_eq_true.1 h fn (List.mem_of_getElem? (by simpa using hf))
  simpa using this
end Go.AM

set_option maxRecDepth 100000
namespace Go.AM
open Go Go.Proofs
def tabC1 : Tab := (24, [(.agg [(.sl (some 3) [(.agg [(.str [102, 114, 97, 109, 101, 115]), (.int .i64 4), (.int .i64 1)])]), (.sl none [(.str [109, 97, 112])]), (.sl (some 4) [(.agg [(.str [102, 97, 117, 108, 116]), (.int .i64 2), (.bool false), (.sl (some 4) [(.agg [(.int .i64 3), (.int .i64 0), (.int .i64 0), (.bool false)]), (.agg [(.int .i64 1), (.int .i64 0), (.int .i64 1), (.bool false)]), (.agg [(.int .i64 1), (.int .i64 0), (.int .i64 1), (.bool false)]), (.agg [(.int .i64 5), (.int .i64 1), (.int .i64 0), (.bool false)]), (.agg [(.int .i64 2), (.int .i64 0), (.int .i64 2), (.bool false)]), (.agg [(.int .i64 4), (.int .i64 0), (.int .i64 0), (.bool false)])])]), (.agg [(.str [101, 118, 105, 99, 116]), (.int .i64 1), (.bool true), (.sl (some 4) [(.agg [(.int .i64 1), (.int .i64 0), (.int .i64 1), (.bool true)]), (.agg [(.int .i64 2), (.int .i64 0), (.int .i64 1), (.bool false)])])])])])], (.tup [(.sl 0 0 4), (.dat (.int .i64 0))]), [(.row (some 4) [(.agg [(.int .i64 1), (.int .i64 0), (.int .i64 0), (.int .i64 1)]), (.agg [(.int .i64 0), (.int .i64 0), (.int .i64 0), (.int .i64 2)]), (.agg [(.int .i64 0), (.int .i64 3), (.int .i64 0), (.int .i64 3)]), (.agg [(.int .i64 1), (.int .i64 3), (.int .i64 0), (.int .i64 3)])])]) :: []
theorem tabC1_ok : Base Try.prog tabC1 := base_cons base_nil base_nil mixedP names 1000 cev1
def tabC2 : Tab := (24, [(.agg [(.sl (some 3) [(.agg [(.str [102, 114, 97, 109, 101, 115]), (.int .i64 4), (.int .i64 1)])]), (.sl none [(.str [109, 97, 112])]), (.sl (some 4) [(.agg [(.str [102, 97, 117, 108, 116]), (.int .i64 2), (.bool false), (.sl (some 4) [(.agg [(.int .i64 3), (.int .i64 0), (.int .i64 0), (.bool false)]), (.agg [(.int .i64 1), (.int .i64 0), (.int .i64 1), (.bool false)]), (.agg [(.int .i64 5), (.int .i64 1), (.int .i64 0), (.bool false)]), (.agg [(.int .i64 2), (.int .i64 0), (.int .i64 1), (.bool false)]), (.agg [(.int .i64 4), (.int .i64 0), (.int .i64 0), (.bool false)])])]), (.agg [(.str [101, 118, 105, 99, 116]), (.int .i64 1), (.bool true), (.sl (some 4) [(.agg [(.int .i64 1), (.int .i64 0), (.int .i64 1), (.bool true)]), (.agg [(.int .i64 2), (.int .i64 0), (.int .i64 1), (.bool false)])])])])])], (.tup [(.sl 0 0 2), (.dat (.int .i64 0))]), [(.row (some 4) [(.agg [(.int .i64 0), (.int .i64 3), (.int .i64 0), (.int .i64 2)]), (.agg [(.int .i64 1), (.int .i64 3), (.int .i64 0), (.int .i64 2)])])]) :: tabC1
theorem tabC2_ok : Base Try.prog tabC2 := base_cons tabC1_ok base_nil mixedP names 1000 cev2
def tabC3 : Tab := (24, [(.agg [(.sl (some 3) [(.agg [(.str [102, 114, 97, 109, 101, 115]), (.int .i64 4), (.int .i64 1)])]), (.sl none [(.str [109, 97, 112])]), (.sl (some 4) [(.agg [(.str [102, 97, 117, 108, 116]), (.int .i64 2), (.bool false), (.sl (some 4) [(.agg [(.int .i64 3), (.int .i64 0), (.int .i64 0), (.bool false)]), (.agg [(.int .i64 1), (.int .i64 0), (.int .i64 1), (.bool false)]), (.agg [(.int .i64 5), (.int .i64 1), (.int .i64 0), (.bool false)]), (.agg [(.int .i64 2), (.int .i64 0), (.int .i64 1), (.bool false)]), (.agg [(.int .i64 4), (.int .i64 0), (.int .i64 0), (.bool false)])])]), (.agg [(.str [101, 118, 105, 99, 116]), (.int .i64 0), (.bool true), (.sl (some 4) [(.agg [(.int .i64 1), (.int .i64 0), (.int .i64 1), (.bool true)]), (.agg [(.int .i64 2), (.int .i64 0), (.int .i64 1), (.bool false)])])])])])], (.tup [(.sl 0 0 2), (.dat (.int .i64 0))]), [(.row (some 4) [(.agg [(.int .i64 0), (.int .i64 3), (.int .i64 0), (.int .i64 2)]), (.agg [(.int .i64 1), (.int .i64 3), (.int .i64 0), (.int .i64 2)])])]) :: tabC2
theorem tabC3_ok : Base Try.prog tabC3 := base_cons tabC2_ok base_nil mixedP names 1000 cev3
def tabC4 : Tab := (31, [(.int .i64 4), (.sl (some 4) [(.agg [(.int .i64 1), (.int .i64 0), (.int .i64 0), (.int .i64 1)]), (.agg [(.int .i64 0), (.int .i64 0), (.int .i64 0), (.int .i64 2)]), (.agg [(.int .i64 0), (.int .i64 3), (.int .i64 0), (.int .i64 3)]), (.agg [(.int .i64 1), (.int .i64 3), (.int .i64 0), (.int .i64 3)])])], (.tup [.nils, (.dat (.int .i64 10))]), []) :: tabC3
theorem tabC4_ok : Base Try.prog tabC4 := base_cons tabC3_ok base_nil mixedP names 1000 cev4
def tabC5 : Tab := (31, [(.int .i64 4), (.sl (some 4) [(.agg [(.int .i64 0), (.int .i64 3), (.int .i64 0), (.int .i64 2)]), (.agg [(.int .i64 1), (.int .i64 3), (.int .i64 0), (.int .i64 2)])])], (.tup [(.sl 0 0 4), (.dat (.int .i64 0))]), [(.row none [(.int .i64 1), (.int .i64 1), (.int .i64 0), (.int .i64 0)])]) :: tabC4
theorem tabC5_ok : Base Try.prog tabC5 := base_cons tabC4_ok base_nil mixedP names 1000 cev5
def tabC6 : Tab := (40, [(.int .i64 4), (.sl (some 4) [(.agg [(.int .i64 1), (.int .i64 0), (.int .i64 0), (.int .i64 1)]), (.agg [(.int .i64 0), (.int .i64 0), (.int .i64 0), (.int .i64 2)]), (.agg [(.int .i64 0), (.int .i64 3), (.int .i64 0), (.int .i64 3)]), (.agg [(.int .i64 1), (.int .i64 3), (.int .i64 0), (.int .i64 3)])])], (.tup [(.sl 0 0 1), (.dat (.int .i64 0))]), [(.row none [(.int .i64 1)])]) :: tabC5
theorem tabC6_ok : Base Try.prog tabC6 := base_cons tabC5_ok base_nil mixedP names 1000 cev6
end Go.AM

set_option maxRecDepth 100000
namespace Go.AM
open Go Go.Proofs
theorem cev7 : evalM Try.prog tabC6 1000 12 [(.agg [(.sl (some 3) [(.agg [(.str [102, 114, 97, 109, 101, 115]), (.int .i64 4), (.int .i64 1)])]), (.sl none [(.str [109, 97, 112])]), (.sl (some 4) [(.agg [(.str [102, 97, 117, 108, 116]), (.int .i64 2), (.bool false), (.sl (some 4) [(.agg [(.int .i64 3), (.int .i64 0), (.int .i64 0), (.bool false)]), (.agg [(.int .i64 1), (.int .i64 0), (.int .i64 1), (.bool false)]), (.agg [(.int .i64 1), (.int .i64 0), (.int .i64 1), (.bool false)]), (.agg [(.int .i64 5), (.int .i64 1), (.int .i64 0), (.bool false)]), (.agg [(.int .i64 2), (.int .i64 0), (.int .i64 2), (.bool false)]), (.agg [(.int .i64 4), (.int .i64 0), (.int .i64 0), (.bool false)])])]), (.agg [(.str [101, 118, 105, 99, 116]), (.int .i64 1), (.bool true), (.sl (some 4) [(.agg [(.int .i64 1), (.int .i64 0), (.int .i64 1), (.bool true)]), (.agg [(.int .i64 2), (.int .i64 0), (.int .i64 1), (.bool false)])])])])])] = some ((.tup [(.agg [.nils]), (.dat (.int .i64 20))]), []) := by kernel_rfl
theorem cev8 : evalM Try.prog tabC6 1000 12 [(.agg [(.sl (some 3) [(.agg [(.str [102, 114, 97, 109, 101, 115]), (.int .i64 4), (.int .i64 1)])]), (.sl none [(.str [109, 97, 112])]), (.sl (some 4) [(.agg [(.str [102, 97, 117, 108, 116]), (.int .i64 2), (.bool false), (.sl (some 4) [(.agg [(.int .i64 3), (.int .i64 0), (.int .i64 0), (.bool false)]), (.agg [(.int .i64 1), (.int .i64 0), (.int .i64 1), (.bool false)]), (.agg [(.int .i64 5), (.int .i64 1), (.int .i64 0), (.bool false)]), (.agg [(.int .i64 2), (.int .i64 0), (.int .i64 1), (.bool false)]), (.agg [(.int .i64 4), (.int .i64 0), (.int .i64 0), (.bool false)])])]), (.agg [(.str [101, 118, 105, 99, 116]), (.int .i64 1), (.bool true), (.sl (some 4) [(.agg [(.int .i64 1), (.int .i64 0), (.int .i64 1), (.bool true)]), (.agg [(.int .i64 2), (.int .i64 0), (.int .i64 1), (.bool false)])])])])])] = some ((.tup [(.agg [(.sl 0 0 4)]), (.dat (.int .i64 0))]), [(.row none [(.int .i64 1), (.int .i64 1), (.int .i64 0), (.int .i64 0)])]) := by kernel_rfl
theorem cev9 : evalM Try.prog tabC6 1000 12 [(.agg [(.sl (some 3) [(.agg [(.str [102, 114, 97, 109, 101, 115]), (.int .i64 4), (.int .i64 1)])]), (.sl none [(.str [109, 97, 112])]), (.sl (some 4) [(.agg [(.str [102, 97, 117, 108, 116]), (.int .i64 2), (.bool false), (.sl (some 4) [(.agg [(.int .i64 3), (.int .i64 0), (.int .i64 0), (.bool false)]), (.agg [(.int .i64 1), (.int .i64 0), (.int .i64 1), (.bool false)]), (.agg [(.int .i64 5), (.int .i64 1), (.int .i64 0), (.bool false)]), (.agg [(.int .i64 2), (.int .i64 0), (.int .i64 1), (.bool false)]), (.agg [(.int .i64 4), (.int .i64 0), (.int .i64 0), (.bool false)])])]), (.agg [(.str [101, 118, 105, 99, 116]), (.int .i64 0), (.bool true), (.sl (some 4) [(.agg [(.int .i64 1), (.int .i64 0), (.int .i64 1), (.bool true)]), (.agg [(.int .i64 2), (.int .i64 0), (.int .i64 1), (.bool false)])])])])])] = some ((.tup [(.agg [.nils]), (.dat (.int .i64 9))]), []) := by kernel_rfl
theorem cev10 : evalM Try.prog tabC6 1000 16 [(.agg [(.sl (some 3) [(.agg [(.str [102, 114, 97, 109, 101, 115]), (.int .i64 4), (.int .i64 1)])]), (.sl none [(.str [109, 97, 112])]), (.sl (some 4) [(.agg [(.str [102, 97, 117, 108, 116]), (.int .i64 2), (.bool false), (.sl (some 4) [(.agg [(.int .i64 3), (.int .i64 0), (.int .i64 0), (.bool false)]), (.agg [(.int .i64 1), (.int .i64 0), (.int .i64 1), (.bool false)]), (.agg [(.int .i64 1), (.int .i64 0), (.int .i64 1), (.bool false)]), (.agg [(.int .i64 5), (.int .i64 1), (.int .i64 0), (.bool false)]), (.agg [(.int .i64 2), (.int .i64 0), (.int .i64 2), (.bool false)]), (.agg [(.int .i64 4), (.int .i64 0), (.int .i64 0), (.bool false)])])]), (.agg [(.str [101, 118, 105, 99, 116]), (.int .i64 1), (.bool true), (.sl (some 4) [(.agg [(.int .i64 1), (.int .i64 0), (.int .i64 1), (.bool true)]), (.agg [(.int .i64 2), (.int .i64 0), (.int .i64 1), (.bool false)])])])])])] = some ((.tup [(.sl 0 0 1), (.dat (.int .i64 0))]), [(.row (some 4) [(.agg [(.int .i64 0), (.int .i64 0), (.int .i64 0), (.int .i64 2)])])]) := by kernel_rfl
theorem cef1 : evalF2 Try.prog tabC6 1000 14 [(.agg [(.sl (some 3) [(.agg [(.str [102, 114, 97, 109, 101, 115]), (.int .i64 4), (.int .i64 1)])]), (.sl none [(.str [109, 97, 112])]), (.sl (some 4) [(.agg [(.str [102, 97, 117, 108, 116]), (.int .i64 2), (.bool false), (.sl (some 4) [(.agg [(.int .i64 3), (.int .i64 0), (.int .i64 0), (.bool false)]), (.agg [(.int .i64 1), (.int .i64 0), (.int .i64 1), (.bool false)]), (.agg [(.int .i64 5), (.int .i64 1), (.int .i64 0), (.bool false)]), (.agg [(.int .i64 2), (.int .i64 0), (.int .i64 1), (.bool false)]), (.agg [(.int .i64 4), (.int .i64 0), (.int .i64 0), (.bool false)])])]), (.agg [(.str [101, 118, 105, 99, 116]), (.int .i64 0), (.bool true), (.sl (some 4) [(.agg [(.int .i64 1), (.int .i64 0), (.int .i64 1), (.bool true)]), (.agg [(.int .i64 2), (.int .i64 0), (.int .i64 1), (.bool false)])])])])])] = some (.tup [(.dat (.int .i64 0)), (.dat (.int .i64 2)), (.dat (.bool true))]) := by kernel_rfl
theorem cef2 : evalF2 Try.prog tabC6 1000 22 [(.agg [(.sl (some 3) [(.agg [(.str [102, 114, 97, 109, 101, 115]), (.int .i64 4), (.int .i64 1)])]), (.sl none [(.str [109, 97, 112])]), (.sl (some 4) [(.agg [(.str [102, 97, 117, 108, 116]), (.int .i64 2), (.bool false), (.sl (some 4) [(.agg [(.int .i64 3), (.int .i64 0), (.int .i64 0), (.bool false)]), (.agg [(.int .i64 1), (.int .i64 0), (.int .i64 1), (.bool false)]), (.agg [(.int .i64 5), (.int .i64 1), (.int .i64 0), (.bool false)]), (.agg [(.int .i64 2), (.int .i64 0), (.int .i64 1), (.bool false)]), (.agg [(.int .i64 4), (.int .i64 0), (.int .i64 0), (.bool false)])])]), (.agg [(.str [101, 118, 105, 99, 116]), (.int .i64 1), (.bool true), (.sl (some 4) [(.agg [(.int .i64 1), (.int .i64 0), (.int .i64 1), (.bool true)]), (.agg [(.int .i64 2), (.int .i64 0), (.int .i64 1), (.bool false)])])])])]), (.agg [(.sl none [(.int .i64 5), (.int .i64 9), (.int .i64 0), (.int .i64 3)])])] = some (.dat (.int .i64 0)) := by kernel_rfl
theorem cef3 : evalF2 Try.prog tabC6 1000 22 [(.agg [(.sl (some 3) [(.agg [(.str [102, 114, 97, 109, 101, 115]), (.int .i64 4), (.int .i64 1)])]), (.sl none [(.str [109, 97, 112])]), (.sl (some 4) [(.agg [(.str [102, 97, 117, 108, 116]), (.int .i64 2), (.bool false), (.sl (some 4) [(.agg [(.int .i64 3), (.int .i64 0), (.int .i64 0), (.bool false)]), (.agg [(.int .i64 1), (.int .i64 0), (.int .i64 1), (.bool false)]), (.agg [(.int .i64 5), (.int .i64 1), (.int .i64 0), (.bool false)]), (.agg [(.int .i64 2), (.int .i64 0), (.int .i64 1), (.bool false)]), (.agg [(.int .i64 4), (.int .i64 0), (.int .i64 0), (.bool false)])])]), (.agg [(.str [101, 118, 105, 99, 116]), (.int .i64 1), (.bool true), (.sl (some 4) [(.agg [(.int .i64 1), (.int .i64 0), (.int .i64 1), (.bool true)]), (.agg [(.int .i64 2), (.int .i64 0), (.int .i64 1), (.bool false)])])])])]), (.agg [(.sl none [(.int .i64 1), (.int .i64 1), (.int .i64 0), (.int .i64 1)])])] = some (.dat (.int .i64 19)) := by kernel_rfl
theorem cef4 : evalF2 Try.prog tabC6 1000 20 [(.agg [(.sl (some 3) [(.agg [(.str [102, 114, 97, 109, 101, 115]), (.int .i64 4), (.int .i64 1)])]), (.sl none [(.str [109, 97, 112])]), (.sl (some 4) [(.agg [(.str [102, 97, 117, 108, 116]), (.int .i64 2), (.bool false), (.sl (some 4) [(.agg [(.int .i64 3), (.int .i64 0), (.int .i64 0), (.bool false)]), (.agg [(.int .i64 1), (.int .i64 0), (.int .i64 1), (.bool false)]), (.agg [(.int .i64 1), (.int .i64 0), (.int .i64 1), (.bool false)]), (.agg [(.int .i64 5), (.int .i64 1), (.int .i64 0), (.bool false)]), (.agg [(.int .i64 2), (.int .i64 0), (.int .i64 2), (.bool false)]), (.agg [(.int .i64 4), (.int .i64 0), (.int .i64 0), (.bool false)])])]), (.agg [(.str [101, 118, 105, 99, 116]), (.int .i64 1), (.bool true), (.sl (some 4) [(.agg [(.int .i64 1), (.int .i64 0), (.int .i64 1), (.bool true)]), (.agg [(.int .i64 2), (.int .i64 0), (.int .i64 1), (.bool false)])])])])]), (.int .i64 0)] = some (.dat (.int .i64 1)) := by kernel_rfl
def tabD1 : Tab := (12, [(.agg [(.sl (some 3) [(.agg [(.str [102, 114, 97, 109, 101, 115]), (.int .i64 4), (.int .i64 1)])]), (.sl none [(.str [109, 97, 112])]), (.sl (some 4) [(.agg [(.str [102, 97, 117, 108, 116]), (.int .i64 2), (.bool false), (.sl (some 4) [(.agg [(.int .i64 3), (.int .i64 0), (.int .i64 0), (.bool false)]), (.agg [(.int .i64 1), (.int .i64 0), (.int .i64 1), (.bool false)]), (.agg [(.int .i64 1), (.int .i64 0), (.int .i64 1), (.bool false)]), (.agg [(.int .i64 5), (.int .i64 1), (.int .i64 0), (.bool false)]), (.agg [(.int .i64 2), (.int .i64 0), (.int .i64 2), (.bool false)]), (.agg [(.int .i64 4), (.int .i64 0), (.int .i64 0), (.bool false)])])]), (.agg [(.str [101, 118, 105, 99, 116]), (.int .i64 1), (.bool true), (.sl (some 4) [(.agg [(.int .i64 1), (.int .i64 0), (.int .i64 1), (.bool true)]), (.agg [(.int .i64 2), (.int .i64 0), (.int .i64 1), (.bool false)])])])])])], (.tup [(.agg [.nils]), (.dat (.int .i64 20))]), []) :: []
theorem tabD1_ok : Base Try.prog tabD1 := base_cons base_nil tabC6_ok mixedP names 1000 cev7
def tabD2 : Tab := (12, [(.agg [(.sl (some 3) [(.agg [(.str [102, 114, 97, 109, 101, 115]), (.int .i64 4), (.int .i64 1)])]), (.sl none [(.str [109, 97, 112])]), (.sl (some 4) [(.agg [(.str [102, 97, 117, 108, 116]), (.int .i64 2), (.bool false), (.sl (some 4) [(.agg [(.int .i64 3), (.int .i64 0), (.int .i64 0), (.bool false)]), (.agg [(.int .i64 1), (.int .i64 0), (.int .i64 1), (.bool false)]), (.agg [(.int .i64 5), (.int .i64 1), (.int .i64 0), (.bool false)]), (.agg [(.int .i64 2), (.int .i64 0), (.int .i64 1), (.bool false)]), (.agg [(.int .i64 4), (.int .i64 0), (.int .i64 0), (.bool false)])])]), (.agg [(.str [101, 118, 105, 99, 116]), (.int .i64 1), (.bool true), (.sl (some 4) [(.agg [(.int .i64 1), (.int .i64 0), (.int .i64 1), (.bool true)]), (.agg [(.int .i64 2), (.int .i64 0), (.int .i64 1), (.bool false)])])])])])], (.tup [(.agg [(.sl 0 0 4)]), (.dat (.int .i64 0))]), [(.row none [(.int .i64 1), (.int .i64 1), (.int .i64 0), (.int .i64 0)])]) :: tabD1
theorem tabD2_ok : Base Try.prog tabD2 := base_cons tabD1_ok tabC6_ok mixedP names 1000 cev8
def tabD3 : Tab := (12, [(.agg [(.sl (some 3) [(.agg [(.str [102, 114, 97, 109, 101, 115]), (.int .i64 4), (.int .i64 1)])]), (.sl none [(.str [109, 97, 112])]), (.sl (some 4) [(.agg [(.str [102, 97, 117, 108, 116]), (.int .i64 2), (.bool false), (.sl (some 4) [(.agg [(.int .i64 3), (.int .i64 0), (.int .i64 0), (.bool false)]), (.agg [(.int .i64 1), (.int .i64 0), (.int .i64 1), (.bool false)]), (.agg [(.int .i64 5), (.int .i64 1), (.int .i64 0), (.bool false)]), (.agg [(.int .i64 2), (.int .i64 0), (.int .i64 1), (.bool false)]), (.agg [(.int .i64 4), (.int .i64 0), (.int .i64 0), (.bool false)])])]), (.agg [(.str [101, 118, 105, 99, 116]), (.int .i64 0), (.bool true), (.sl (some 4) [(.agg [(.int .i64 1), (.int .i64 0), (.int .i64 1), (.bool true)]), (.agg [(.int .i64 2), (.int .i64 0), (.int .i64 1), (.bool false)])])])])])], (.tup [(.agg [.nils]), (.dat (.int .i64 9))]), []) :: tabD2
theorem tabD3_ok : Base Try.prog tabD3 := base_cons tabD2_ok tabC6_ok mixedP names 1000 cev9
def tabD4 : Tab := (16, [(.agg [(.sl (some 3) [(.agg [(.str [102, 114, 97, 109, 101, 115]), (.int .i64 4), (.int .i64 1)])]), (.sl none [(.str [109, 97, 112])]), (.sl (some 4) [(.agg [(.str [102, 97, 117, 108, 116]), (.int .i64 2), (.bool false), (.sl (some 4) [(.agg [(.int .i64 3), (.int .i64 0), (.int .i64 0), (.bool false)]), (.agg [(.int .i64 1), (.int .i64 0), (.int .i64 1), (.bool false)]), (.agg [(.int .i64 1), (.int .i64 0), (.int .i64 1), (.bool false)]), (.agg [(.int .i64 5), (.int .i64 1), (.int .i64 0), (.bool false)]), (.agg [(.int .i64 2), (.int .i64 0), (.int .i64 2), (.bool false)]), (.agg [(.int .i64 4), (.int .i64 0), (.int .i64 0), (.bool false)])])]), (.agg [(.str [101, 118, 105, 99, 116]), (.int .i64 1), (.bool true), (.sl (some 4) [(.agg [(.int .i64 1), (.int .i64 0), (.int .i64 1), (.bool true)]), (.agg [(.int .i64 2), (.int .i64 0), (.int .i64 1), (.bool false)])])])])])], (.tup [(.sl 0 0 1), (.dat (.int .i64 0))]), [(.row (some 4) [(.agg [(.int .i64 0), (.int .i64 0), (.int .i64 0), (.int .i64 2)])])]) :: tabD3
theorem tabD4_ok : Base Try.prog tabD4 := base_cons tabD3_ok tabC6_ok mixedP names 1000 cev10
end Go.AM

