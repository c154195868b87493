/- Own work over the model of the kit. -/
import Derived.Test.YtcigeonmhefdhaaPathA
import Derived.Test.YtcigeonmhefdhaaGraphB
import Derived.Test.YtcigeonmhefdhaaGraphR
import Derived.Test.YtcigeonmhefdhaaGraphC
set_option linter.unusedSimpArgs false
set_option linter.unusedVariables false
set_option maxRecDepth 8000
namespace Go.AM
open Go Go.Proofs
def idxIR (ds : List D) (v : AV) : Prop := ∃ (l : List Int) (x : Int), ds = [.sl none (l.map (.int .i64)), .int .i64 x] ∧ l.length < 4611686018427387904 ∧ v = .dat (.int .i64 (idxG x 0 l))
theorem idxI_ok : OkF Try.prog 66 (dataC idxIR) := by
  refine okF_data Try.func66 rfl (by decide) ?_
  rintro ds v ⟨l, x, rfl, hl, rfl⟩
  generalize hv : idxG x 0 l = V
  refine sem_of_awp (Γ := tbl []) okG_nil _ _ _ ?_
  have fin : ∀ s own (b c : Int), b = c → s.getD 4 .top = .dat (.int .i64 b) → post Try.prog Try.f66 (.dat (.int .i64 c)) [] [] .ret ⟨s, own, 0, []⟩ := fun s own b c e h => by
    subst e
    exact post_data (.inl rfl) [4] rfl trivial (by simp only [tmpsOf, h]; rfl)
  simp only [go_sem, Try.ntmps66]
  refine sem_loop (fun k : Nat => ⟨slotsOf 19 [(0, .dat (.sl none (l.map (.int .i64)))), (1, .dat (.int .i64 x)), (4, .dat (.int .i64 0)), (7, .dat (.int .i64 l.length)), (8, .dat (.int .i64 k))], [], 0, []⟩)
    (fun k => k ≤ l.length ∧ idxG x k (l.drop k) = V) (fun k => l.length - k) 0 ⟨Nat.zero_le _, hv⟩ ?_ ?_
  · exact le_slots' (by simp only [go_sem, Int.natCast_zero])
  · rintro k ⟨hk, hI⟩
    refine sem_of_awp (Γ := tbl []) okG_nil _ _ _ ?_
    cases hd : l.drop k with
    | nil =>
      have := end_of_drop hd hk
      have hk2 : ¬ (k : Int) < l.length := by omega
      simp only [go_sem, hk2]
      refine fin _ _ _ _ ?_ rfl
      rw [← hI, hd]; rfl
    | cons c q =>
      have hlt := lt_of_drop hd
      have hk2 : (k : Int) < l.length := by omega
      have hk0 : (0 : Int) ≤ k := Int.natCast_nonneg k
      have hn := nth_of_drop (f := .int .i64) hd
      rw [hd, idxG] at hI
      by_cases he : x = c
      · simp only [go_sem, hk2, hk0, hn, he]
        rw [if_pos he] at hI
        exact fin _ _ _ _ hI rfl
      · simp only [go_sem, hk2, hk0, hn, he]
        rw [if_neg he] at hI
        refine ⟨inR_i64.2 (by omega), k + 1, ⟨by omega, by rw [drop_cons hd]; exact hI⟩, by omega, ?_⟩
        exact le_slots' (by simp only [go_sem, Int.natCast_add, Int.cast_ofNat_Int])
end Go.AM

namespace Go.AM
open Go Go.Proofs

/- ### Tarjan's search (plain) -/
structure TS where
  index : List Nat
  low : List Nat
  on : List Bool
  stack : List Nat
  next : Nat
  comp : List Nat
def TS.ix (s : TS) (v : Nat) : Nat := s.index.getD v 0
def TS.lw (s : TS) (v : Nat) : Nat := s.low.getD v 0
def TS.cp (s : TS) (v : Nat) : Nat := s.comp.getD v 0
def TS.onB (s : TS) (v : Nat) : Bool := s.on.getD v false
def TS.push (s : TS) (v : Nat) : TS := ⟨s.index.set v (s.next + 1), s.low.set v (s.next + 1), s.on.set v true, s.stack ++ [v], s.next + 1, s.comp⟩
def TS.lower (s : TS) (v m : Nat) : TS := { s with low := s.low.set v (min (s.lw v) m) }
def minL : List Nat → Nat
  | [] => 0
  | x :: r => r.foldl min x
def clr (on : List Bool) : List Nat → List Bool
  | [] => on
  | w :: r => clr (on.set w false) r
def put (c : Nat) (comp : List Nat) : List Nat → List Nat
  | [] => comp
  | w :: r => put c (comp.set w c) r
def TS.top (s : TS) (v : Nat) : List Nat := s.stack.drop (s.stack.idxOf v)
def TS.pop (s : TS) (v : Nat) : TS := { s with on := clr s.on (s.top v), comp := put (minL (s.top v)) s.comp (s.top v), stack := s.stack.take (s.stack.idxOf v) }
def TS.go (visit : TS → Nat → TS) (v : Nat) (s : TS) (w : Nat) : TS :=
  if s.ix w = 0 then (visit s w).lower v ((visit s w).lw w) else if s.onB w = true then s.lower v (s.ix w) else s
def TS.fin (s : TS) (v : Nat) : TS := if s.lw v ≠ s.ix v then s else s.pop v
def visitF (l : List PEdge) : Nat → TS → Nat → TS
  | 0, s, _ => s
  | f + 1, s, v => (((idxs PEdge.s 0 l v).map (tOf l)).foldl (TS.go (visitF l f) v) (s.push v)).fin v

theorem minL_mem : ∀ {l : List Nat}, l ≠ [] → minL l ∈ l
  | [], h => absurd rfl h
  | x :: r, _ => by
    have key : ∀ (r : List Nat) (x : Nat), r.foldl min x = x ∨ r.foldl min x ∈ r := by
      intro r
      induction r with
      | nil => intro x; exact .inl rfl
      | cons y r ih =>
        intro x
        simp only [List.foldl_cons, List.mem_cons]
        rcases ih (min x y) with h | h
        · rw [h]; omega
        · exact .inr (.inr h)
    rcases key r x with h | h
    · simp only [minL]; rw [h]; simp
    · simp only [minL]; simp [h]
theorem minL_le : ∀ {l : List Nat} {y : Nat}, y ∈ l → minL l ≤ y
  | [], y, h => by cases h
  | x :: r, y, h => by
    have key : ∀ (r : List Nat) (x : Nat), r.foldl min x ≤ x ∧ ∀ y ∈ r, r.foldl min x ≤ y := by
      intro r
      induction r with
      | nil => intro x; exact ⟨Nat.le_refl _, fun y h => by cases h⟩
      | cons z r ih =>
        intro x
        simp only [List.foldl_cons]
        obtain ⟨h1, h2⟩ := ih (min x z)
        refine ⟨by omega, fun y hy => ?_⟩
        rcases List.mem_cons.1 hy with rfl | hy
        · omega
        · exact h2 y hy
    rcases List.mem_cons.1 h with rfl | h
    · exact (key r y).1
    · exact (key r x).2 y h
theorem clr_len : ∀ {M : List Nat} {on : List Bool}, (clr on M).length = on.length
  | [], _ => rfl
  | w :: r, on => by simp [clr, clr_len (M := r)]
theorem clr_get : ∀ {M : List Nat} {on : List Bool} {u : Nat}, (clr on M).getD u false = (on.getD u false && !decide (u ∈ M))
  | [], _, _ => by simp [clr]
  | w :: r, on, u => by
    rw [clr, clr_get (M := r), getD_set']
    by_cases h : w = u
    · subst h
      by_cases h2 : w < on.length
      · simp [h2]
      · have : on.getD w false = false := by rw [List.getD_eq_getElem?_getD, List.getElem?_eq_none (by omega)]; rfl
        rw [this]; simp [h2]
    · rw [if_neg (fun hh => h hh.1)]
      have : decide (u ∈ w :: r) = decide (u ∈ r) := by
        rw [decide_eq_decide]; simp [Ne.symm h]
      rw [this]
theorem put_len {c : Nat} : ∀ {M comp : List Nat}, (put c comp M).length = comp.length
  | [], _ => rfl
  | w :: r, comp => by simp [put, put_len (M := r)]
theorem put_get {c : Nat} : ∀ {M comp : List Nat} {u : Nat}, u < comp.length → (put c comp M).getD u 0 = if u ∈ M then c else comp.getD u 0
  | [], _, _, _ => by simp [put]
  | w :: r, comp, u, hu => by
    rw [put, put_get (M := r) (by simpa using hu), getD_set']
    by_cases h1 : u ∈ r
    · simp [h1]
    · by_cases h : w = u
      · subst h; simp [h1, hu]
      · rw [if_neg h1, if_neg (fun hh => h hh.1), if_neg (by simp [h1, Ne.symm h])]

/- ### reaching -/
def Rr (E : List (Nat × Nat)) (a b : Nat) : Prop := ∃ k, Wk E k a b
theorem Rr.refl {E : List (Nat × Nat)} {a : Nat} : Rr E a a := ⟨0, rfl⟩
theorem Rr.trans {E : List (Nat × Nat)} {a b c : Nat} (h : Rr E a b) (k : Rr E b c) : Rr E a c := by
  obtain ⟨i, hi⟩ := h
  obtain ⟨j, hj⟩ := k
  exact ⟨i + j, Wk_app hi hj⟩
theorem Rr.edge {E : List (Nat × Nat)} {a b : Nat} (h : (a, b) ∈ E) : Rr E a b := ⟨1, a, h, rfl⟩
/-- What is closed under edges holds of all that is reached. -/
theorem Rr.closed {E : List (Nat × Nat)} {P : Nat → Prop} (hP : ∀ a b, P a → (a, b) ∈ E → P b) {a b : Nat} (h : Rr E a b) (ha : P a) : P b := by
  obtain ⟨k, hk⟩ := h
  induction k generalizing b with
  | zero => cases hk; exact ha
  | succ k ih =>
    obtain ⟨u, hu, hw⟩ := hk
    exact hP u b (ih hw) hu
/-- c is the lowest node of u's component. -/
structure IsLow (E : List (Nat × Nat)) (u c : Nat) : Prop where
  to : Rr E u c
  from_ : Rr E c u
  le : ∀ w, Rr E u w → Rr E w u → c ≤ w

/- ### what holds throughout -/
structure WF (n : Nat) (E : List (Nat × Nat)) (s : TS) (G : List Nat) : Prop where
  li : s.index.length = n
  ll : s.low.length = n
  lo : s.on.length = n
  lc : s.comp.length = n
  on : ∀ u, u < n → (s.onB u = true ↔ u ∈ s.stack)
  nd : s.stack.Nodup
  sn : ∀ u ∈ s.stack, u < n
  pos : ∀ u ∈ s.stack, 0 < s.ix u
  inc : s.stack.Pairwise fun a b => s.ix a < s.ix b
  bnd : ∀ u, u < n → s.ix u ≤ s.next
  cnt : s.index.count 0 + s.next = n
  gs : ∀ g ∈ G, g ∈ s.stack
  blk : ∀ u, u < n → 0 < s.ix u → ¬ u ∈ G → ∀ w, (u, w) ∈ E → 0 < s.ix w
  rch : ∀ x ∈ G, ∀ y ∈ s.stack, s.ix x ≤ s.ix y → Rr E x y
  bck : ∀ y ∈ s.stack, ∃ x ∈ G, s.ix x ≤ s.ix y ∧ Rr E y x
  fin : ∀ u, u < n → 0 < s.ix u → ¬ u ∈ s.stack → IsLow E u (s.cp u) ∧ ∀ w, Rr E u w → w < n ∧ 0 < s.ix w ∧ ¬ w ∈ s.stack
/-- What a visit of v has done. -/
structure Post (n : Nat) (E : List (Nat × Nat)) (s s' : TS) (G : List Nat) (v : Nat) : Prop where
  wf : WF n E s' G
  old : ∀ u, u < n → 0 < s.ix u → s'.ix u = s.ix u ∧ s'.lw u = s.lw u
  vis : s.next < s'.ix v
  nxt : s.next < s'.next
  stk : ∃ T, s'.stack = s.stack ++ T ∧ (T = [] → s'.lw v = s'.ix v) ∧ (T ≠ [] → s'.lw v ≤ s'.ix v ∧ ∃ y ∈ s'.stack, s'.ix y = s'.lw v ∧ Rr E v y) ∧
    ∀ a ∈ T, ∀ b ∈ s.stack, (a, b) ∈ E → s'.lw v ≤ s.ix b
/-- Within a visit of v: the successors P are done. -/
structure Lp (n : Nat) (E : List (Nat × Nat)) (s0 : TS) (G : List Nat) (v : Nat) (s : TS) (P : List Nat) : Prop where
  wf0 : WF n E s0 G
  hv : v < n
  h0 : s0.ix v = 0
  wf : WF n E s (v :: G)
  old : ∀ u, u < n → 0 < s0.ix u → s.ix u = s0.ix u ∧ s.lw u = s0.lw u
  vix : s.ix v = s0.next + 1
  nxt : s0.next < s.next
  low : s.lw v ≤ s.ix v ∧ ∃ y ∈ s.stack, s.ix y = s.lw v ∧ Rr E v y
  stk : ∃ T, s.stack = s0.stack ++ v :: T ∧ ∀ a ∈ T, ∀ b ∈ s0.stack, (a, b) ∈ E → s.lw v ≤ s0.ix b
  proc : ∀ w ∈ P, 0 < s.ix w ∧ (w ∈ s0.stack → s.lw v ≤ s0.ix w)

section
variable {n : Nat} {E : List (Nat × Nat)} {s s0 s' : TS} {G P : List Nat} {v w : Nat}
theorem ix_push (hv : v < s.index.length) (u : Nat) : (s.push v).ix u = if v = u then s.next + 1 else s.ix u := by
  unfold TS.ix TS.push
  rw [getD_set']
  by_cases h : v = u
  · rw [if_pos ⟨h, hv⟩, if_pos h]
  · rw [if_neg (fun hh => h hh.1), if_neg h]
theorem lw_push (hv : v < s.low.length) (u : Nat) : (s.push v).lw u = if v = u then s.next + 1 else s.lw u := by
  unfold TS.lw TS.push
  rw [getD_set']
  by_cases h : v = u
  · rw [if_pos ⟨h, hv⟩, if_pos h]
  · rw [if_neg (fun hh => h hh.1), if_neg h]
theorem lw_lower {m : Nat} (hv : v < s.low.length) (u : Nat) : (s.lower v m).lw u = if v = u then min (s.lw v) m else s.lw u := by
  show (s.low.set v (min (s.lw v) m)).getD u 0 = _
  rw [getD_set']
  by_cases h : v = u
  · rw [if_pos ⟨h, hv⟩, if_pos h]
  · rw [if_neg (fun hh => h hh.1), if_neg h]; rfl
theorem WF.lower {m : Nat} (h : WF n E s G) : WF n E (s.lower v m) G := { h with ll := by rw [← h.ll]; simp [TS.lower] }
theorem Lp.init (h : WF n E s0 G) (hv : v < n) (h0 : s0.ix v = 0) (hr : ∀ x ∈ G, Rr E x v) : Lp n E s0 G v (s0.push v) [] := by
  have hi := ix_push (s := s0) (v := v) (by rw [h.li]; exact hv)
  have hl := lw_push (s := s0) (v := v) (by rw [h.ll]; exact hv)
  have hvs : ¬ v ∈ s0.stack := fun hm => by have := h.pos v hm; omega
  have hne : ∀ u, u ∈ s0.stack → v ≠ u := fun u hu e => hvs (e ▸ hu)
  have hiv : (s0.push v).ix v = s0.next + 1 := by rw [hi, if_pos rfl]
  have hio : ∀ u, v ≠ u → (s0.push v).ix u = s0.ix u := fun u e => by rw [hi, if_neg e]
  have hst : (s0.push v).stack = s0.stack ++ [v] := rfl
  have hup : ∀ u, 0 < s0.ix u → 0 < (s0.push v).ix u := fun u hu => by rw [hi]; split <;> omega
  refine ⟨h, hv, h0, ?_, fun u hu hp => ?_, hiv, Nat.lt_succ_self _, ?_, ⟨[], rfl, fun a ha => by cases ha⟩, fun w hw => by cases hw⟩
  · constructor
    · simp [TS.push, h.li]
    · simp [TS.push, h.ll]
    · simp [TS.push, h.lo]
    · exact h.lc
    · intro u hu
      rw [hst]
      show (s0.on.set v true).getD u false = true ↔ _
      rw [getD_set']
      by_cases e : v = u
      · subst e; rw [if_pos ⟨rfl, by rw [h.lo]; exact hv⟩]; simp
      · rw [if_neg (fun hh => e hh.1)]
        have := h.on u hu
        unfold TS.onB at this
        rw [this]; simp [Ne.symm e]
    · rw [hst, List.nodup_append]
      exact ⟨h.nd, by simp, fun a ha b hb => by simp at hb; subst hb; exact (hne a ha).symm⟩
    · intro u hu
      rw [hst] at hu
      rcases List.mem_append.1 hu with hu | hu
      · exact h.sn u hu
      · simp at hu; subst hu; exact hv
    · intro u hu
      rw [hst] at hu
      rcases List.mem_append.1 hu with hu | hu
      · rw [hio u (hne u hu)]; exact h.pos u hu
      · simp at hu; subst hu; rw [hiv]; omega
    · rw [hst, List.pairwise_append]
      refine ⟨?_, by simp, fun a ha b hb => ?_⟩
      · refine List.Pairwise.imp_of_mem ?_ h.inc
        intro a b ha hb hab
        rw [hio a (hne a ha), hio b (hne b hb)]; exact hab
      · simp at hb; subst hb
        rw [hio a (hne a ha), hiv]
        have := h.bnd a (h.sn a ha); omega
    · intro u hu
      rw [hi]
      show _ ≤ s0.next + 1
      have := h.bnd u hu
      split <;> omega
    · show (s0.index.set v (s0.next + 1)).count 0 + (s0.next + 1) = n
      have hlt : v < s0.index.length := by rw [h.li]; exact hv
      have hz : s0.index[v] = 0 := by
        have := h0
        unfold TS.ix at this
        rw [List.getD_eq_getElem?_getD, List.getElem?_eq_getElem hlt] at this
        exact this
      have hpos : 0 < s0.index.count 0 := List.count_pos_iff.2 (hz ▸ List.getElem_mem hlt)
      have hc := h.cnt
      rw [List.count_set hlt, hz]
      simp
      omega
    · intro g hg
      rw [hst]
      rcases List.mem_cons.1 hg with rfl | hg
      · simp
      · simp [h.gs g hg]
    · intro u hu hp hn w hw
      have e : v ≠ u := fun e => hn (by simp [e])
      rw [hio u e] at hp
      exact hup w (h.blk u hu hp (fun hm => hn (by simp [hm])) w hw)
    · intro x hx y hy hxy
      rw [hst] at hy
      rcases List.mem_append.1 hy with hy2 | hy
      · rw [hio y (hne y hy2)] at hxy
        have hyb := h.bnd y (h.sn y hy2)
        rcases List.mem_cons.1 hx with rfl | hx
        · rw [hiv] at hxy
          omega
        · rw [hio x (hne x (h.gs x hx))] at hxy
          exact h.rch x hx y hy2 hxy
      · simp at hy; subst hy
        rcases List.mem_cons.1 hx with rfl | hx
        · exact Rr.refl
        · exact hr x hx
    · intro y hy
      rw [hst] at hy
      rcases List.mem_append.1 hy with hy | hy
      · obtain ⟨x, hx, h1, h2⟩ := h.bck y hy
        refine ⟨x, by simp [hx], ?_, h2⟩
        rw [hio y (hne y hy), hio x (hne x (h.gs x hx))]; exact h1
      · simp at hy; subst hy
        exact ⟨y, by simp, Nat.le_refl _, Rr.refl⟩
    · intro u hu hp hn
      rw [hst] at hn
      have e : v ≠ u := fun e => hn (by simp [e])
      have hn2 : ¬ u ∈ s0.stack := fun hm => hn (by simp [hm])
      rw [hio u e] at hp
      obtain ⟨h1, h2⟩ := h.fin u hu hp hn2
      refine ⟨h1, fun w hw => ?_⟩
      obtain ⟨g1, g2, g3⟩ := h2 w hw
      have ew : v ≠ w := fun e => by subst e; omega
      exact ⟨g1, hup w g2, by rw [hst]; simp [g3, Ne.symm ew]⟩
  · have e : v ≠ u := fun e => by subst e; omega
    rw [hio u e, hl, if_neg e]
    exact ⟨rfl, rfl⟩
  · rw [hl, if_pos rfl, hiv]
    exact ⟨Nat.le_refl _, v, by rw [hst]; simp, hiv, Rr.refl⟩
/-- A successor that has not been seen before. -/
theorem Lp.call (h : Lp n E s0 G v s P) (he : (v, w) ∈ E) (hw : w < n) (hp : Post n E s s' (v :: G) w) : Lp n E s0 G v (s'.lower v (s'.lw w)) (P ++ [w]) := by
  obtain ⟨T, hT, hTe⟩ := h.stk
  obtain ⟨T', hT', hn1, hn2, hn3⟩ := hp.stk
  have hvpos : 0 < s.ix v := by rw [h.vix]; omega
  have hvo := hp.old v h.hv hvpos
  have hll := lw_lower (s := s') (v := v) (m := s'.lw w) (by rw [hp.wf.ll]; exact h.hv)
  have hlv : (s'.lower v (s'.lw w)).lw v = min (s.lw v) (s'.lw w) := by rw [hll, if_pos rfl, hvo.2]
  have hix : ∀ u, (s'.lower v (s'.lw w)).ix u = s'.ix u := fun u => rfl
  have hup : ∀ u, u < n → 0 < s.ix u → 0 < s'.ix u := fun u hu hpu => by rw [(hp.old u hu hpu).1]; exact hpu
  have hs0 : ∀ b ∈ s0.stack, b ∈ s.stack := fun b hb => by rw [hT]; simp [hb]
  have hsx : ∀ b ∈ s0.stack, s.ix b = s0.ix b := fun b hb => (h.old b (h.wf0.sn b hb) (h.wf0.pos b hb)).1
  refine ⟨h.wf0, h.hv, h.h0, hp.wf.lower, fun u hu hpu => ?_, ?_, Nat.lt_trans h.nxt hp.nxt, ?_, ⟨T ++ T', ?_, fun a ha b hb hab => ?_⟩, fun x hx => ?_⟩
  · obtain ⟨g1, g2⟩ := h.old u hu hpu
    obtain ⟨k1, k2⟩ := hp.old u hu (by rw [g1]; exact hpu)
    have e : v ≠ u := fun e => by subst e; have := h.h0; omega
    rw [hix, hll, if_neg e, k1, k2, g1, g2]
    exact ⟨rfl, rfl⟩
  · rw [hix, hvo.1]; exact h.vix
  · rw [hlv, hix, hvo.1]
    obtain ⟨l1, y, hy, l2, l3⟩ := h.low
    have hys : y < n := h.wf.sn y hy
    have hyo := hp.old y hys (h.wf.pos y hy)
    have keep : s.lw v ≤ s'.lw w → min (s.lw v) (s'.lw w) ≤ s.ix v ∧ ∃ y ∈ (s'.lower v (s'.lw w)).stack, s'.ix y = min (s.lw v) (s'.lw w) ∧ Rr E v y := fun hle => by
      rw [Nat.min_eq_left hle]
      exact ⟨l1, y, by show y ∈ s'.stack; rw [hT']; simp [hy], by rw [hyo.1]; exact l2, l3⟩
    by_cases hle : s.lw v ≤ s'.lw w
    · exact keep hle
    · by_cases hT0 : T' = []
      · have h1 := hn1 hT0
        have h2 := hp.vis
        have h3 := h.wf.bnd v h.hv
        exact keep (by omega)
      · obtain ⟨_, y', hy', m2, m3⟩ := hn2 hT0
        rw [Nat.min_eq_right (by omega)]
        exact ⟨by omega, y', hy', m2, (Rr.edge he).trans m3⟩
  · show s'.stack = _
    rw [hT', hT]; simp
  · rw [hlv]
    rcases List.mem_append.1 ha with ha | ha
    · have := hTe a ha b hb hab; omega
    · have := hn3 a ha b (hs0 b hb) hab
      rw [hsx b hb] at this; omega
  · rw [hix, hlv]
    rcases List.mem_append.1 hx with hx | hx
    · obtain ⟨g1, g2⟩ := h.proc x hx
      refine ⟨?_, fun hm => by have := g2 hm; omega⟩
      by_cases hxn : x < n
      · exact hup x hxn g1
      · have : s.ix x = 0 := by unfold TS.ix; rw [List.getD_eq_getElem?_getD, List.getElem?_eq_none (by rw [h.wf.li]; omega)]; rfl
        omega
    · simp at hx; subst hx
      refine ⟨by have := hp.vis; omega, fun hm => ?_⟩
      have h1 := hp.vis
      have h2 := (hp.old x hw (h.wf.pos x (hs0 x hm))).1
      have h3 := h.wf.bnd x hw
      omega
/-- A successor that is on the stack. -/
theorem Lp.seen (h : Lp n E s0 G v s P) (he : (v, w) ∈ E) (hw : w ∈ s.stack) : Lp n E s0 G v (s.lower v (s.ix w)) (P ++ [w]) := by
  obtain ⟨T, hT, hTe⟩ := h.stk
  have hll := lw_lower (s := s) (v := v) (m := s.ix w) (by rw [h.wf.ll]; exact h.hv)
  have hlv : (s.lower v (s.ix w)).lw v = min (s.lw v) (s.ix w) := by rw [hll, if_pos rfl]
  have hix : ∀ u, (s.lower v (s.ix w)).ix u = s.ix u := fun u => rfl
  have hsx : ∀ b ∈ s0.stack, s.ix b = s0.ix b := fun b hb => (h.old b (h.wf0.sn b hb) (h.wf0.pos b hb)).1
  refine ⟨h.wf0, h.hv, h.h0, h.wf.lower, fun u hu hpu => ?_, h.vix, h.nxt, ?_, ⟨T, hT, fun a ha b hb hab => ?_⟩, fun x hx => ?_⟩
  · have e : v ≠ u := fun e => by subst e; have := h.h0; omega
    rw [hix, hll, if_neg e]; exact h.old u hu hpu
  · rw [hlv, hix]
    obtain ⟨l1, y, hy, l2, l3⟩ := h.low
    by_cases hle : s.lw v ≤ s.ix w
    · rw [Nat.min_eq_left hle]; exact ⟨l1, y, hy, l2, l3⟩
    · rw [Nat.min_eq_right (by omega)]
      exact ⟨by omega, w, hw, rfl, Rr.edge he⟩
  · rw [hlv]; have := hTe a ha b hb hab; omega
  · rw [hix, hlv]
    rcases List.mem_append.1 hx with hx | hx
    · obtain ⟨g1, g2⟩ := h.proc x hx
      exact ⟨g1, fun hm => by have := g2 hm; omega⟩
    · simp at hx; subst hx
      exact ⟨h.wf.pos x hw, fun hm => by rw [hsx x hm]; omega⟩
/-- A successor that is done. -/
theorem Lp.gone (h : Lp n E s0 G v s P) (hp : 0 < s.ix w) (hw : ¬ w ∈ s.stack) : Lp n E s0 G v s (P ++ [w]) := by
  obtain ⟨T, hT, _⟩ := h.stk
  refine { h with proc := fun x hx => ?_ }
  rcases List.mem_append.1 hx with hx | hx
  · exact h.proc x hx
  · simp at hx; subst hx
    exact ⟨hp, fun hm => absurd (by rw [hT]; simp [hm]) hw⟩
theorem Lp.end_ (h : Lp n E s0 G v s P) (hE : ∀ p ∈ E, p.2 < n) (hP : ∀ w, (v, w) ∈ E → w ∈ P) : Post n E s0 (s.fin v) G v := by
  obtain ⟨T, hT, hTe⟩ := h.stk
  have hwf := h.wf
  have hblk : ∀ u, u < n → 0 < s.ix u → ¬ u ∈ G → ∀ w, (u, w) ∈ E → 0 < s.ix w := fun u hu hpu hn w hw => by
    by_cases e : u = v
    · subst e; exact (h.proc w (hP w hw)).1
    · exact hwf.blk u hu hpu (by simp [e, hn]) w hw
  have hGs : ∀ x ∈ G, x ∈ s0.stack := h.wf0.gs
  have hsx : ∀ b ∈ s0.stack, s.ix b = s0.ix b := fun b hb => (h.old b (h.wf0.sn b hb) (h.wf0.pos b hb)).1
  have hlt : ∀ b ∈ s0.stack, s.ix b < s.ix v := fun b hb => by
    rw [hsx b hb, h.vix]; have := h.wf0.bnd b (h.wf0.sn b hb); omega
  have hM : ∀ a ∈ v :: T, s.ix v ≤ s.ix a := fun a ha => by
    rcases List.mem_cons.1 ha with rfl | ha
    · exact Nat.le_refl _
    · have := hwf.inc
      rw [hT, List.pairwise_append] at this
      exact Nat.le_of_lt ((List.pairwise_cons.1 this.2.1).1 a ha)
  have hdis : ∀ a ∈ v :: T, ¬ a ∈ s0.stack := fun a ha hm => by have := hlt a hm; have := hM a ha; omega
  have hmem : ∀ y, y ∈ s.stack ↔ y ∈ s0.stack ∨ y ∈ v :: T := fun y => by rw [hT]; simp
  unfold TS.fin
  by_cases hlow : s.lw v = s.ix v
  case neg =>
    rw [if_pos hlow]
    obtain ⟨l1, y0, hy0, l2, l3⟩ := h.low
    refine ⟨{ hwf with gs := fun g hg => hwf.gs g (by simp [hg]), blk := hblk, rch := fun x hx => hwf.rch x (by simp [hx]), bck := fun y hy => ?_ }, h.old, by rw [h.vix]; omega, h.nxt, ⟨v :: T, hT, fun hh => (by cases hh), fun _ => ⟨l1, y0, hy0, l2, l3⟩, fun a ha b hb hab => ?_⟩⟩
    · obtain ⟨x, hx, h1, h2⟩ := hwf.bck y hy
      rcases List.mem_cons.1 hx with rfl | hx
      · obtain ⟨x0, hx0, g1, g2⟩ := hwf.bck y0 hy0
        rcases List.mem_cons.1 hx0 with rfl | hx0
        · omega
        · exact ⟨x0, hx0, by omega, h2.trans (l3.trans g2)⟩
      · exact ⟨x, hx, h1, h2⟩
    · rcases List.mem_cons.1 ha with rfl | ha
      · exact (h.proc b (hP b hab)).2 hb
      · exact hTe a ha b hb hab
  rw [if_neg (fun hh => hh hlow)]
  have hvs : ¬ v ∈ s0.stack := hdis v (by simp)
  have hidx : s.stack.idxOf v = s0.stack.length := by rw [hT, List.idxOf_append, if_neg hvs, List.idxOf_cons_self]; omega
  have htop : s.top v = v :: T := by unfold TS.top; rw [hidx, hT]; simp
  have hstk : (s.pop v).stack = s0.stack := by show s.stack.take (s.stack.idxOf v) = _; rw [hidx, hT]; simp
  have hix : ∀ u, (s.pop v).ix u = s.ix u := fun u => rfl
  have hlw : ∀ u, (s.pop v).lw u = s.lw u := fun u => rfl
  have done : ∀ u, u < n → 0 < s.ix u → ¬ u ∈ s.stack → ∀ w, Rr E u w → w < n ∧ 0 < s.ix w ∧ ¬ w ∈ s.stack := fun u hu hpu hn => (hwf.fin u hu hpu hn).2
  -- nothing but the members and what is done is reached from a member
  have key : ∀ a b, a ∈ v :: T → Rr E a b → b ∈ v :: T ∨ (b < n ∧ 0 < s.ix b ∧ ¬ b ∈ s.stack) := fun a b ha hab => by
    refine Rr.closed (P := fun b => b ∈ v :: T ∨ (b < n ∧ 0 < s.ix b ∧ ¬ b ∈ s.stack)) (fun x y hx hxy => ?_) hab (.inl ha)
    have hyn : y < n := hE _ hxy
    rcases hx with hx | ⟨x1, x2, x3⟩
    · have hxs : x ∈ s.stack := (hmem x).2 (.inr hx)
      have hy : 0 < s.ix y := hblk x (hwf.sn x hxs) (hwf.pos x hxs) (fun hg => hdis x hx (hGs x hg)) y hxy
      by_cases hys : y ∈ s.stack
      · rcases (hmem y).1 hys with hy0 | hyM
        · have hle : s.lw v ≤ s0.ix y := by
            rcases List.mem_cons.1 hx with rfl | hx
            · exact (h.proc y (hP y hxy)).2 hy0
            · exact hTe x hx y hy0 hxy
          have := hlt y hy0
          rw [hsx y hy0] at this
          omega
        · exact .inl hyM
      · exact .inr ⟨hyn, hy, hys⟩
    · exact .inr (done x x1 x2 x3 y (Rr.edge hxy))
  have toV : ∀ y ∈ v :: T, Rr E y v ∧ Rr E v y := fun y hy => by
    have hys : y ∈ s.stack := (hmem y).2 (.inr hy)
    refine ⟨?_, hwf.rch v (by simp) y hys (hM y hy)⟩
    obtain ⟨x, hx, h1, h2⟩ := hwf.bck y hys
    rcases List.mem_cons.1 hx with rfl | hx
    · exact h2
    · have hx0 := hGs x hx
      rcases key y x hy h2 with hk | ⟨_, _, hk⟩
      · exact absurd hx0 (hdis x hk)
      · exact absurd ((hmem x).2 (.inl hx0)) hk
  have hminM : minL (v :: T) ∈ v :: T := minL_mem (by simp)
  have low : ∀ u ∈ v :: T, IsLow E u (minL (v :: T)) := fun u hu => by
    refine ⟨(toV u hu).1.trans (toV _ hminM).2, (toV _ hminM).1.trans (toV u hu).2, fun w h1 h2 => ?_⟩
    rcases key u w hu h1 with hk | ⟨k1, k2, k3⟩
    · exact minL_le hk
    · exact absurd ((hmem u).2 (.inr hu)) (done w k1 k2 k3 u h2).2.2
  have hcp : ∀ u, u < n → (s.pop v).cp u = if u ∈ v :: T then minL (v :: T) else s.cp u := fun u hu => by
    show (put (minL (s.top v)) s.comp (s.top v)).getD u 0 = _
    rw [htop, put_get (by rw [hwf.lc]; exact hu)]; rfl
  refine ⟨?_, h.old, by rw [hix, h.vix]; omega, h.nxt, ⟨[], by rw [hstk]; simp, fun _ => hlow, fun hh => absurd rfl hh, fun a ha => by cases ha⟩⟩
  constructor
  · exact hwf.li
  · exact hwf.ll
  · show (clr s.on (s.top v)).length = n
    rw [clr_len]; exact hwf.lo
  · show (put (minL (s.top v)) s.comp (s.top v)).length = n
    rw [put_len]; exact hwf.lc
  · intro u hu
    rw [hstk]
    show (clr s.on (s.top v)).getD u false = true ↔ _
    rw [htop, clr_get, Bool.and_eq_true]
    have := hwf.on u hu
    unfold TS.onB at this
    rw [this, hmem]
    simp only [Bool.not_eq_true', decide_eq_false_iff_not]
    constructor
    · rintro ⟨h1 | h1, h2⟩
      · exact h1
      · exact absurd h1 h2
    · exact fun hm => ⟨.inl hm, fun hu => hdis u hu hm⟩
  · rw [hstk]; exact h.wf0.nd
  · rw [hstk]; exact h.wf0.sn
  · intro u hu; rw [hstk] at hu; exact hwf.pos u ((hmem u).2 (.inl hu))
  · rw [hstk]
    have := hwf.inc
    rw [hT, List.pairwise_append] at this
    exact this.1
  · exact hwf.bnd
  · exact hwf.cnt
  · intro g hg; rw [hstk]; exact hGs g hg
  · exact hblk
  · intro x hx y hy hxy
    rw [hstk] at hy
    exact hwf.rch x (by simp [hx]) y ((hmem y).2 (.inl hy)) hxy
  · intro y hy
    rw [hstk] at hy
    obtain ⟨x, hx, h1, h2⟩ := hwf.bck y ((hmem y).2 (.inl hy))
    rcases List.mem_cons.1 hx with rfl | hx
    · have := hlt y hy; omega
    · exact ⟨x, hx, h1, h2⟩
  · intro u hu hpu hn
    rw [hstk] at hn
    have hpu2 : 0 < s.ix u := hpu
    rw [hcp u hu]
    by_cases hM2 : u ∈ v :: T
    · rw [if_pos hM2]
      refine ⟨low u hM2, fun w hw => ?_⟩
      rw [hstk, hix]
      rcases key u w hM2 hw with hk | ⟨k1, k2, k3⟩
      · have hws := (hmem w).2 (.inr hk)
        exact ⟨hwf.sn w hws, hwf.pos w hws, hdis w hk⟩
      · exact ⟨k1, k2, fun hm => k3 ((hmem w).2 (.inl hm))⟩
    · rw [if_neg hM2]
      have hns : ¬ u ∈ s.stack := fun hm => by rcases (hmem u).1 hm with hm | hm; exact hn hm; exact hM2 hm
      obtain ⟨f1, f2⟩ := hwf.fin u hu hpu2 hns
      refine ⟨f1, fun w hw => ?_⟩
      obtain ⟨k1, k2, k3⟩ := f2 w hw
      rw [hstk, hix]
      exact ⟨k1, k2, fun hm => k3 ((hmem w).2 (.inl hm))⟩
end
end Go.AM

namespace Go.AM
open Go Go.Proofs

/- ### the search finds the components (plain) -/
section
variable {n : Nat} {l : List PEdge} {s s0 : TS} {G P : List Nat} {v w f : Nat}
theorem WF.lt (h : WF n (eF l) s G) (hv : v < n) (h0 : s.ix v = 0) : s.next < n := by
  have hlt : v < s.index.length := by rw [h.li]; exact hv
  have hz : s.index[v] = 0 := by
    have := h0
    unfold TS.ix at this
    rw [List.getD_eq_getElem?_getD, List.getElem?_eq_getElem hlt] at this
    exact this
  have hpos : 0 < s.index.count 0 := List.count_pos_iff.2 (hz ▸ List.getElem_mem hlt)
  have := h.cnt
  omega
theorem Lp.reach (h : Lp n (eF l) s0 G v s P) (he : (v, w) ∈ eF l) : ∀ x ∈ v :: G, Rr (eF l) x w := by
  intro x hx
  rcases List.mem_cons.1 hx with rfl | hx
  · exact Rr.edge he
  · obtain ⟨T, hT, _⟩ := h.stk
    have hx0 := h.wf0.gs x hx
    have h1 := (h.old x (h.wf0.sn x hx0) (h.wf0.pos x hx0)).1
    have h2 := h.wf0.bnd x (h.wf0.sn x hx0)
    exact (h.wf.rch x (by simp [hx]) v (by rw [hT]; simp) (by rw [h1, h.vix]; omega)).trans (Rr.edge he)
/-- A round of the loop within a visit. -/
theorem Lp.go (h : Lp n (eF l) s0 G v s P) (he : (v, w) ∈ eF l) (hw : w < n) (hf : n - s0.next ≤ f + 1)
    (ih : ∀ s w G, WF n (eF l) s G → w < n → s.ix w = 0 → (∀ x ∈ G, Rr (eF l) x w) → n - s.next ≤ f → Post n (eF l) s (visitF l f s w) G w) :
    Lp n (eF l) s0 G v (TS.go (visitF l f) v s w) (P ++ [w]) := by
  unfold TS.go
  by_cases h0 : s.ix w = 0
  · rw [if_pos h0]
    exact h.call he hw (ih s w (v :: G) h.wf hw h0 (h.reach he) (by have := h.nxt; omega))
  · rw [if_neg h0]
    by_cases ho : s.onB w = true
    · rw [if_pos ho]
      exact h.seen he ((h.wf.on w hw).1 ho)
    · rw [if_neg ho]
      exact h.gone (by omega) (fun hm => ho ((h.wf.on w hw).2 hm))
theorem Lp.loop (hf : n - s0.next ≤ f + 1)
    (ih : ∀ s w G, WF n (eF l) s G → w < n → s.ix w = 0 → (∀ x ∈ G, Rr (eF l) x w) → n - s.next ≤ f → Post n (eF l) s (visitF l f s w) G w) :
    ∀ (Q : List Nat) {s : TS} {P : List Nat}, Lp n (eF l) s0 G v s P → (∀ w ∈ Q, (v, w) ∈ eF l ∧ w < n) → Lp n (eF l) s0 G v (Q.foldl (TS.go (visitF l f) v) s) (P ++ Q)
  | [], s, P, h, _ => by simpa using h
  | w :: r, s, P, h, hQ => by
    obtain ⟨h1, h2⟩ := hQ w (by simp)
    have := Lp.loop hf ih r (h.go h1 h2 hf ih) (fun w hw => hQ w (by simp [hw]))
    simpa [List.append_assoc] using this
theorem succ_mem (hg : GOk n l) : w ∈ (idxs PEdge.s 0 l v).map (tOf l) → (v, w) ∈ eF l ∧ w < n := by
  intro h
  obtain ⟨i, hi, rfl⟩ := List.mem_map.1 h
  obtain ⟨j, e, h1, h2, h3⟩ := mem_idxs.1 hi
  obtain rfl : i = j := by omega
  rw [tOf_get h1]
  exact ⟨List.mem_map.2 ⟨e, List.mem_of_getElem? h1, by rw [h2]⟩, (hg.dst e (List.mem_of_getElem? h1)).2⟩
theorem succ_all (h : (v, w) ∈ eF l) : w ∈ (idxs PEdge.s 0 l v).map (tOf l) := by
  obtain ⟨e, he, h2⟩ := List.mem_map.1 h
  obtain ⟨i, hi⟩ := List.mem_iff_getElem?.1 he
  cases h2
  exact List.mem_map.2 ⟨i, mem_idxs.2 ⟨i, e, hi, rfl, by simp⟩, tOf_get hi⟩
theorem visit_post (hg : GOk n l) : ∀ (f : Nat) (s : TS) (v : Nat) (G : List Nat), WF n (eF l) s G → v < n → s.ix v = 0 → (∀ x ∈ G, Rr (eF l) x v) → n - s.next ≤ f → Post n (eF l) s (visitF l f s v) G v := by
  intro f
  induction f with
  | zero =>
    intro s v G h hv h0 _ hf
    have := h.lt hv h0
    omega
  | succ f ih =>
    intro s v G h hv h0 hr hf
    have h1 := Lp.loop hf ih ((idxs PEdge.s 0 l v).map (tOf l)) (Lp.init h hv h0 hr) (fun w hw => succ_mem hg hw)
    exact h1.end_ hg.eFlt (fun w hw => by simpa using succ_all hw)
end

/- ### all nodes -/
def TS.zero (n : Nat) : TS := ⟨List.replicate n 0, List.replicate n 0, List.replicate n false, [], 0, List.replicate n 0⟩
def compF (l : List PEdge) (n : Nat) : Nat → TS
  | 0 => TS.zero n
  | k + 1 => if (compF l n k).ix k = 0 then visitF l n (compF l n k) k else compF l n k
theorem TS.zero_ix {n v : Nat} : (TS.zero n).ix v = 0 := by
  unfold TS.ix TS.zero
  rw [List.getD_eq_getElem?_getD, List.getElem?_replicate]; split <;> rfl
theorem WF.zero {n : Nat} {E : List (Nat × Nat)} : WF n E (TS.zero n) [] where
  li := by simp [TS.zero]
  ll := by simp [TS.zero]
  lo := by simp [TS.zero]
  lc := by simp [TS.zero]
  on u hu := by
    unfold TS.onB TS.zero
    rw [List.getD_eq_getElem?_getD, List.getElem?_replicate, if_pos hu]; simp
  nd := List.nodup_nil
  sn u hu := by cases hu
  pos u hu := by cases hu
  inc := List.Pairwise.nil
  bnd u hu := by rw [TS.zero_ix]; exact Nat.zero_le _
  cnt := by simp [TS.zero]
  gs g hg := by cases hg
  blk u hu hp := by rw [TS.zero_ix] at hp; omega
  rch x hx := by cases hx
  bck y hy := by cases hy
  fin u hu hp := by rw [TS.zero_ix] at hp; omega
theorem compF_ok {n : Nat} {l : List PEdge} (hg : GOk n l) : ∀ (k : Nat), k ≤ n → WF n (eF l) (compF l n k) [] ∧ ∀ v, v < k → 0 < (compF l n k).ix v
  | 0, _ => ⟨WF.zero, fun v hv => by omega⟩
  | k + 1, hk => by
    obtain ⟨h1, h2⟩ := compF_ok hg k (by omega)
    unfold compF
    by_cases h0 : (compF l n k).ix k = 0
    · rw [if_pos h0]
      have hp := visit_post hg n (compF l n k) k [] h1 (by omega) h0 (fun x hx => by cases hx) (by omega)
      refine ⟨hp.wf, fun v hv => ?_⟩
      by_cases e : v = k
      · subst e; have := hp.vis; omega
      · rw [(hp.old v (by omega) (h2 v (by omega))).1]; exact h2 v (by omega)
    · rw [if_neg h0]
      refine ⟨h1, fun v hv => ?_⟩
      by_cases e : v = k
      · subst e; omega
      · exact h2 v (by omega)
theorem IsLow.one {E : List (Nat × Nat)} {u c d : Nat} (h : IsLow E u c) (k : IsLow E u d) : c = d := Nat.le_antisymm (h.le d k.to k.from_) (k.le c h.to h.from_)
open Classical in
noncomputable def lowC (E : List (Nat × Nat)) (u : Nat) : Nat := if h : ∃ c, IsLow E u c then Classical.choose h else 0
theorem lowC_eq {E : List (Nat × Nat)} {u c : Nat} (h : IsLow E u c) : lowC E u = c := by
  have hh : ∃ c, IsLow E u c := ⟨c, h⟩
  unfold lowC
  rw [dif_pos hh]
  exact (Classical.choose_spec hh).one h
theorem isLow_ex (E : List (Nat × Nat)) (u : Nat) : IsLow E u (lowC E u) := by
  have key : ∀ m k, k ≤ m → Rr E u k → Rr E k u → ∃ c, IsLow E u c := by
    intro m
    induction m with
    | zero => intro k hk h1 h2; exact ⟨k, h1, h2, fun w _ _ => by omega⟩
    | succ m ih =>
      intro k hk h1 h2
      by_cases h : ∃ w, w < k ∧ Rr E u w ∧ Rr E w u
      · obtain ⟨w, h3, h4, h5⟩ := h
        exact ih w (by omega) h4 h5
      · exact ⟨k, h1, h2, fun w h3 h4 => Nat.le_of_not_lt fun hlt => h ⟨w, hlt, h3, h4⟩⟩
  obtain ⟨c, hc⟩ := key u u (Nat.le_refl _) Rr.refl Rr.refl
  rw [lowC_eq hc]; exact hc
noncomputable def compL (n : Nat) (l : List PEdge) : List Nat := (List.range n).map (lowC (eF l))
theorem compF_all {n : Nat} {l : List PEdge} (hg : GOk n l) : (compF l n n).comp = compL n l := by
  obtain ⟨h1, h2⟩ := compF_ok hg n (Nat.le_refl _)
  have hst : ∀ y, ¬ y ∈ (compF l n n).stack := fun y hy => by obtain ⟨x, hx, _⟩ := h1.bck y hy; cases hx
  refine List.ext_getElem (by simp [compL, h1.lc]) fun u g1 g2 => ?_
  have hu : u < n := by rw [← h1.lc]; exact g1
  have := lowC_eq (h1.fin u hu (h2 u hu) (hst u)).1
  simp only [compL, List.getElem_map, List.getElem_range, this]
  unfold TS.cp
  simp [List.getD_eq_getElem?_getD, List.getElem?_eq_getElem g1]
end Go.AM

set_option maxRecDepth 8000
set_option maxHeartbeats 4000000
namespace Go.AM
open Go Go.Proofs

/- ### the least of some numbers -/
def minR (ds : List D) (v : AV) : Prop := ∃ (L : List Nat), ds = [.sl none (natsD L)] ∧ L ≠ [] ∧ L.length ≤ 5000 ∧ v = .dat (.int .i64 (minL L : Nat))
theorem min_ok : OkF Try.prog 67 (dataC minR) := by
  refine okF_data Try.func67 rfl (by decide) ?_
  rintro ds v ⟨L, rfl, hL, hl, rfl⟩
  obtain ⟨x, r, rfl⟩ : ∃ x r, L = x :: r := by cases L with | nil => exact absurd rfl hL | cons x r => exact ⟨x, r, rfl⟩
  have h1 : ¬ ((r.length + 1 : Nat) : Int) < 1 := by omega
  have h2 : (0 : Int) < ((r.length + 1 : Nat) : Int) := by omega
  have h3 : 0 < r.length + 1 := by omega
  have h4 : ∀ ds, D.nth (natD x :: ds) 0 = .int .i64 (x : Int) := fun _ => rfl
  have hll : (x :: r).length = r.length + 1 := rfl
  simp only [minL]
  generalize hV : r.foldl min x = V
  refine sem_of_awp (Γ := tbl []) okG_nil _ _ _ ?_
  simp only [go_sem, Int.reduceEq, Int.reduceLT, Int.reduceLE, eq_self, Int.natCast_nonneg, Int.toNat_natCast, Try.ntmps67, nats_len, h1, h2, h3, h4]
  refine sem_loop (fun p : Nat × Nat => ⟨slotsOf 25 [(0, .dat (.sl none (natsD (x :: r)))), (3, .dat (.int .i64 (p.2 : Nat))), (4, .dat (.int .i64 (p.1 + 1 : Nat)))], [], 0, []⟩)
    (fun p => p.1 ≤ r.length ∧ (r.drop p.1).foldl min p.2 = V) (fun p => r.length - p.1) (0, x) ⟨Nat.zero_le _, hV⟩ ?_ ?_
  · exact le_slots' (by simp only [go_sem])
  rintro ⟨k, m⟩ ⟨hk, hI⟩
  simp only at hk hI
  refine sem_of_awp (Γ := tbl []) okG_nil _ _ _ ?_
  cases hd : r.drop k with
  | nil =>
    have := end_of_drop hd hk
    have hk2 : ¬ ((k + 1 : Nat) : Int) < ((r.length + 1 : Nat) : Int) := by omega
    rw [hd] at hI
    have hI : m = V := hI
    subst hI
    simp only [go_sem, Int.reduceEq, Int.reduceLT, Int.reduceLE, eq_self, Int.natCast_nonneg, Int.toNat_natCast, hk2, nats_len]
    exact post_data (.inl rfl) [2] rfl trivial rfl
  | cons y q =>
    have hlt := lt_of_drop hd
    have hk2 : ((k + 1 : Nat) : Int) < ((r.length + 1 : Nat) : Int) := by omega
    have hk3 : k + 1 < r.length + 1 := by omega
    have hn : D.nth (natsD (x :: r)) (k + 1) = .int .i64 (y : Int) := nats_nth (by simpa using get_of_drop hd)
    have hm : min ((m : Nat) : Int) (y : Int) = ((min m y : Nat) : Int) := by omega
    rw [hd, List.foldl_cons] at hI
    simp only [natsD, List.map_cons] at hn
    simp only [go_sem, Int.reduceEq, Int.reduceLT, Int.reduceLE, eq_self, Int.natCast_nonneg, Int.toNat_natCast, hk2, hk3, hn, nats_len, hm]
    refine ⟨inR_i64.2 (by omega), (k + 1, min m y), ⟨by simp only; omega, by simp only; rw [drop_cons hd]; exact hI⟩, by simp only; omega, ?_⟩
    exact le_slots' (by simp only [go_sem, Int.natCast_add, Int.cast_ofNat_Int])

/- ### a visit -/
def tsO (n : Nat) (l : List PEdge) (s : TS) : List Obj :=
  [.box [.dat (.sl (some 4) (edgesD l)), .dat (.sl none ((idxL PEdge.s n l).map natsR)), .sl 1 0 n, .sl 2 0 n, .sl 3 0 n, .sl 4 0 s.stack.length, .dat (.int .i64 (s.next : Nat)), .sl 5 0 n],
   .row none (natsD s.index), .row none (natsD s.low), .row none (boolsD s.on), .row none (natsD s.stack), .row none (natsD s.comp)]
def visR (f : Nat) (xs : List AV) (obs : List Obj) (v0 : AV) (obs' ex : List Obj) (mv0 : List Nat) : Prop := ∃ (n : Nat) (l : List PEdge) (s : TS) (v : Nat) (G : List Nat), GOk n l ∧ WF n (eF l) s G ∧ v < n ∧ s.ix v = 0 ∧ (∀ x ∈ G, Rr (eF l) x v) ∧ n - s.next ≤ f ∧
  xs = [.ptr 0 0 0, .dat (.int .i64 v)] ∧ obs = tsO n l s ∧ v0 = .tup [] ∧ obs' = tsO n l (visitF l f s v) ∧ ex = [] ∧ mv0 = [4]
abbrev tabVI (f : Nat) : List (Nat × Contract) := [(47, lentC (visR f)), (66, dataC idxIR), (67, dataC minR)]
theorem idxG_nat {x : Nat} : ∀ {k : Nat} {l : List Nat}, x ∈ l → idxG (x : Int) k (l.map fun a : Nat => (a : Int)) = ((k + l.idxOf x : Nat) : Int)
  | _, [], h => by cases h
  | k, y :: r, h => by
    simp only [List.map_cons, idxG]
    by_cases e : x = y
    · subst e; rw [if_pos rfl, List.idxOf_cons_self]; rfl
    · rw [if_neg (fun hh => e (by omega)), idxG_nat (List.mem_of_ne_of_mem e h), List.idxOf_cons, show (y == x) = false from by simpa using fun hh => e hh.symm, cond_false]
      congr 1; omega
theorem clr_snoc : ∀ {M : List Nat} {on : List Bool} {w : Nat}, clr on (M ++ [w]) = (clr on M).set w false
  | [], _, _ => rfl
  | x :: r, on, w => by simp only [List.cons_append, clr]; exact clr_snoc
theorem put_snoc {c : Nat} : ∀ {M comp : List Nat} {w : Nat}, put c comp (M ++ [w]) = (put c comp M).set w c
  | [], _, _ => rfl
  | x :: r, comp, w => by simp only [List.cons_append, put]; exact put_snoc
theorem call_visit {f : Nat} {tb : List (Nat × Contract)} {n : Nat} {l : List PEdge} {s : TS} {v : Nat} {G : List Nat} {K : AV → List Obj → List Nat → Prop} (hm : (47, lentC (visR f)) ∈ tb) (hg : GOk n l) (hW : WF n (eF l) s G) (hv : v < n) (h0 : s.ix v = 0) (hr : ∀ x ∈ G, Rr (eF l) x v) (hf : n - s.next ≤ f)
    (hK : K (.tup []) (tsO n l (visitF l f s v)) [4]) : callw (tbl tb) (.fn 47 []) [.ptr 0 0 0, .dat (.int .i64 v)] (tsO n l s) K := by
  refine call_lent (visR f) hm [0, 1, 2, 3, 4, 5] ⟨n, l, s, v, G, hg, hW, hv, h0, hr, hf, rfl, rfl, rfl, rfl, rfl, rfl⟩ (by decide) (by simp [tsO]) rfl rfl rfl (by simp only [go_sem]) (fun x hx => ?_) (fun j hj => ?_) ?_
  · simp only [tsO, List.mem_cons, List.not_mem_nil, or_false] at hx
    rcases hx with rfl | rfl | rfl | rfl | rfl | rfl
    · exact ⟨trivial, trivial, (by decide : 1 < 6), (by decide : 2 < 6), (by decide : 3 < 6), (by decide : 4 < 6), trivial, (by decide : 5 < 6), trivial⟩
    all_goals trivial
  · match j, hj with
    | 0, _ => rfl
    | 1, _ => rfl
    | 2, _ => rfl
    | 3, _ => rfl
    | 4, _ => rfl
    | 5, _ => rfl
  · exact hK
theorem visit_ok : ∀ f, OkF Try.prog 47 (lentC (visR f)) := by
  intro f
  induction f with
  | zero =>
    refine okF_lent Try.func47 rfl (by decide) ?_
    rintro xs obs v0 obs' ex mv0 ⟨n, l, s, v, G, hg, hW, hv, h0, hr, hf, rfl, rfl, rfl, rfl, rfl, rfl⟩
    have := hW.lt hv h0
    omega
  | succ f ihf =>
  have hΓ : OkG Try.prog (tbl (tabVI f)) := okG_cons ihf (okG_cons idxI_ok (okG_cons min_ok okG_nil))
  have hno : ∀ {pf}, pf = [] → PureFns (tbl (tabVI f)) pf := fun h g _ _ _ _ _ hg => by rw [h] at hg; cases hg
  refine okF_lent Try.func47 rfl (by decide) ?_
  rintro xs obs v0 obs' ex mv0 ⟨n, l, s, v, G, hg, hW, hv, h0, hr, hf, rfl, rfl, rfl, rfl, rfl, rfl⟩
  have hn4 := hg.n4
  have hll := hg.len
  have hlt0 := hW.lt hv h0
  have hv2 : (v : Int) < n := by omega
  have hL0 := Lp.init hW hv h0 hr
  have hend : ∀ s', Lp n (eF l) s G v s' ((idxs PEdge.s 0 l v).map (tOf l)) → visitF l (f + 1) s v = (((idxs PEdge.s 0 l v).map (tOf l)).foldl (TS.go (visitF l f) v) (s.push v)).fin v := fun _ _ => rfl
  have hix : (natsD s.index).length = n := by rw [nats_len, hW.li]
  have hlw : (natsD s.low).length = n := by rw [nats_len, hW.ll]
  have hon : (boolsD s.on).length = n := by rw [boolsD_len, hW.lo]
  have hn1 : ((s.next : Nat) : Int) + 1 = ((s.next + 1 : Nat) : Int) := by omega
  unfold tsO
  refine sem_of_awp (Γ := tbl (tabVI f)) hΓ _ _ _ ?_
  simp only [go_sem, Int.reduceEq, Int.reduceLT, Int.reduceLE, eq_self, Int.natCast_nonneg, Int.toNat_natCast, Try.ntmps47, hn1]
  refine ⟨inR_i64.2 (by omega), ?_⟩
  refine sem_drawM (ob := 1) (pf := []) (mf := []) (ms := [5, 6, 7, 8, 9, 14, 15, 16, 17, 20, 19]) mixed hΓ (hno rfl) noMk [0, 1, 2, 3, 4, 5, 6, 7, 8, 9, 10, 11, 12, 13, 14, 15, 16, 17, 18, 20, 19, 21] (by kernel_rfl) ?_
  have hout := rows_nth (idxL_get (f := PEdge.s) (l := l) hv)
  have hol : (idxL PEdge.s n l).length = n := idxL_len
  have hm1 : addMv 6 [] [4] = [4] := rfl
  have hm2 : addMv 6 [4] [4] = [4] := rfl
  have hIl := idxs_len PEdge.s 0 l v
  have hI : ∀ i ∈ idxs PEdge.s 0 l v, i < l.length := fun i hi => by
    obtain ⟨j, e, h1, h2, h3⟩ := mem_idxs.1 hi
    have := (List.getElem?_eq_some_iff.1 h1).1
    omega
  have hsl : s.stack.length ≤ n := nodup_le hW.nd hW.sn
  simp only [go_sem, Int.reduceEq, Int.reduceLT, Int.reduceLE, eq_self, Int.natCast_nonneg, Int.toNat_natCast, chainM, opm, hv, hv2, hix, hlw, hon, nats_upd, boolsD_upd, boolsD_len, nats_take, nats_len, nats_snoc, List.length_set, List.length_map, hol, hout, hm1]
  refine ⟨by omega, by omega, ?_⟩
  have hfin : visitF l (f + 1) s v = (((idxs PEdge.s 0 l v).map (tOf l)).foldl (TS.go (visitF l f) v) (s.push v)).fin v := rfl
  have hall : ∀ s', Lp n (eF l) s G v s' ((idxs PEdge.s 0 l v).map (tOf l)) → Post n (eF l) s (s'.fin v) G v := fun s' h => h.end_ hg.eFlt (fun w hw => succ_all hw)
  have hsm : ∀ i ∈ idxs PEdge.s 0 l v, (v, tOf l i) ∈ eF l ∧ tOf l i < n := fun i hi => succ_mem hg (List.mem_map.2 ⟨i, hi, rfl⟩)
  have ihp := fun s w G => visit_post hg f s w G
  generalize visitF l (f + 1) s v = V at *
  generalize hIe : idxs PEdge.s 0 l v = I at *
  refine sem_loop (fun p : Nat × TS => ⟨slotsOf 194 [(0, .ptr 0 0 0), (1, .dat (.int .i64 v)), (61, .dat (.sl none (natsD I))), (62, .dat (.int .i64 I.length)), (63, .dat (.int .i64 p.1))], tsO n l p.2, 6, [4]⟩)
    (fun p => p.1 ≤ I.length ∧ Lp n (eF l) s G v p.2 ((I.take p.1).map (tOf l)) ∧ V = (((I.drop p.1).map (tOf l)).foldl (TS.go (visitF l f) v) p.2).fin v) (fun p => I.length - p.1) (0, s.push v) ⟨Nat.zero_le _, hL0, hfin⟩ ?_ ?_
  · have hpush : tsO n l (s.push v) = [.box [.dat (.sl (some 4) (edgesD l)), .dat (.sl none ((idxL PEdge.s n l).map natsR)), .sl 1 0 n, .sl 2 0 n, .sl 3 0 n, .sl 4 0 (s.stack.length + 1), .dat (.int .i64 (s.next + 1 : Nat)), .sl 5 0 n],
        .row none (natsD (s.index.set v (s.next + 1))), .row none (natsD (s.low.set v (s.next + 1))), .row none (boolsD (s.on.set v true)), .row none (natsD (s.stack ++ [v])), .row none (natsD s.comp)] := by
      simp only [tsO, TS.push, List.length_append, List.length_singleton]
    simp only [hpush]
    refine le_end (own := [_, _, _, _, _, _]) (ex := [_]) (Nat.le_refl _) ?_ ?_ ?_
    · simp only [go_sem, Int.natCast_zero]
    · simp only [go_sem]
    · simp only [go_sem, Obj.under, AV.unders, AV.under]
  clear hL0 hfin hix hlw hon hn1 hsl
  rintro ⟨k, t⟩ ⟨hk, hL, hV⟩
  simp only at hk hL hV
  have hW2 := hL.wf
  have hix : (natsD t.index).length = n := by rw [nats_len, hW2.li]
  have hlw : (natsD t.low).length = n := by rw [nats_len, hW2.ll]
  have hon : (boolsD t.on).length = n := by rw [boolsD_len, hW2.lo]
  have hcp : (natsD t.comp).length = n := by rw [nats_len, hW2.lc]
  have hiv : D.nth (natsD t.index) v = .int .i64 (t.ix v : Nat) := nats_at 0 (by rw [hW2.li]; exact hv)
  have hlv : D.nth (natsD t.low) v = .int .i64 (t.lw v : Nat) := nats_at 0 (by rw [hW2.ll]; exact hv)
  have hixn : t.ix v ≤ 4096 := by have := hW2.bnd v hv; have := hW2.cnt; omega
  have hlwn : t.lw v ≤ 4096 := by have := hL.low.1; omega
  refine sem_of_awp (Γ := tbl (tabVI f)) hΓ _ _ _ ?_
  cases hd : I.drop k with
  | cons i r =>
    have hlt := lt_of_drop hd
    have hk2 : (k : Int) < I.length := by omega
    have hk0 : (0 : Int) ≤ k := Int.natCast_nonneg k
    have hn := nth_of_drop (f := natD) hd
    have him := mem_of_drop hd
    have hi := hI i him
    have hi2 : (i : Int) < l.length := by omega
    obtain ⟨he, hw⟩ := hsm i him
    have hge := List.getElem?_eq_getElem hi
    have hni : D.nth (edgesD l) i = edgeD l[i] := by simp [D.nth, hge]
    obtain ⟨ht1, _⟩ := hg.dst l[i] (List.getElem_mem hi)
    rw [← tOf_get hge] at ht1
    have htk : (I.take (k + 1)).map (tOf l) = (I.take k).map (tOf l) ++ [tOf l i] := by rw [take_of_drop hd]; simp
    have hgo := hL.go he hw hf ihp
    rw [← htk] at hgo
    rw [hd, List.map_cons, List.foldl_cons] at hV
    have hreach := hL.reach he
    have hnx := hL.nxt
    generalize tOf l i = w at *
    have hw2 : (w : Int) < n := by omega
    have hiw : D.nth (natsD t.index) w = .int .i64 (t.ix w : Nat) := nats_at 0 (by rw [hW2.li]; exact hw)
    have hixw : t.ix w ≤ 4096 := by have := hW2.bnd w hw; have := hW2.cnt; omega
    have close : ∀ σ t', TS.go (visitF l f) v t w = t' → Le σ ⟨slotsOf 194 [(0, .ptr 0 0 0), (1, .dat (.int .i64 v)), (61, .dat (.sl none (natsD I))), (62, .dat (.int .i64 I.length)), (63, .dat (.int .i64 (k + 1 : Nat)))], tsO n l t', 6, [4]⟩ →
        ∃ x : Nat × TS, (x.1 ≤ I.length ∧ Lp n (eF l) s G v x.2 ((I.take x.1).map (tOf l)) ∧ V = (((I.drop x.1).map (tOf l)).foldl (TS.go (visitF l f) v) x.2).fin v) ∧ I.length - x.1 < I.length - k ∧
          Le σ ⟨slotsOf 194 [(0, .ptr 0 0 0), (1, .dat (.int .i64 v)), (61, .dat (.sl none (natsD I))), (62, .dat (.int .i64 I.length)), (63, .dat (.int .i64 x.1))], tsO n l x.2, 6, [4]⟩ := fun σ t' ht' hσ => by
      refine ⟨(k + 1, t'), ⟨by simp only; omega, by rw [← ht']; exact hgo, ?_⟩, by simp only; omega, hσ⟩
      simp only
      rw [drop_cons hd, ← ht']; exact hV
    unfold tsO at *
    by_cases h00 : t.ix w = 0
    · have h01 : ((t.ix w : Nat) : Int) = 0 := by omega
      have hpost := ihp t w (v :: G) hW2 hw h00 hreach (by omega)
      have hgo2 : TS.go (visitF l f) v t w = (visitF l f t w).lower v ((visitF l f t w).lw w) := by unfold TS.go; rw [if_pos h00]
      simp only [go_sem, Int.reduceEq, Int.reduceLT, Int.reduceLE, eq_self, Int.natCast_nonneg, Int.toNat_natCast, hk2, hk0, hn, hlt, nats_len, hi, hi2, edges_len, hni, edgeD, ht1, hw, hw2, hix, hiw, h01, hW2.li]
      refine call_visit (f := f) (by simp) hg hW2 hw h00 hreach (by omega) ?_
      have hgo3 : TS.go (visitF l f) v t w = (visitF l f t w).lower v ((visitF l f t w).lw w) := hgo2
      generalize visitF l f t w = t' at *
      have hW3 := hpost.wf
      have hlw3 : (natsD t'.low).length = n := by rw [nats_len, hW3.ll]
      have hlv3 : D.nth (natsD t'.low) v = .int .i64 (t'.lw v : Nat) := nats_at 0 (by rw [hW3.ll]; exact hv)
      have hlx3 : D.nth (natsD t'.low) w = .int .i64 (t'.lw w : Nat) := nats_at 0 (by rw [hW3.ll]; exact hw)
      have hmin : min ((t'.lw v : Nat) : Int) ((t'.lw w : Nat) : Int) = ((min (t'.lw v) (t'.lw w) : Nat) : Int) := by omega
      unfold tsO
      simp only [go_sem, Int.reduceEq, Int.reduceLT, Int.reduceLE, eq_self, Int.natCast_nonneg, Int.toNat_natCast, hm2]
      refine sem_drawM (ob := 2) (pf := []) (mf := []) (ms := []) mixed hΓ (hno rfl) noMk [0, 1, 2, 3, 4, 5, 6, 7, 8, 9, 10, 11, 12, 13, 14, 15, 16, 17, 18, 19, 20, 21] (by kernel_rfl) ?_
      simp only [go_sem, Int.reduceEq, Int.reduceLT, Int.reduceLE, eq_self, Int.natCast_nonneg, Int.toNat_natCast, chainM, opm, hv, hv2, hw, hw2, hlw3, hlv3, hlx3, hmin, nats_upd]
      refine ⟨inR_i64.2 (by omega), close _ _ hgo3 ?_⟩
      exact le_slots' (by simp only [go_sem, Int.natCast_add, Int.cast_ofNat_Int])
    · have h01 : ¬ ((t.ix w : Nat) : Int) = 0 := by omega
      have hnw : D.nth (boolsD t.on) w = .bool (t.onB w) := boolsD_nth (by rw [hW2.lo]; exact hw)
      have hgo2 : TS.go (visitF l f) v t w = if t.onB w = true then t.lower v (t.ix w) else t := by unfold TS.go; rw [if_neg h00]
      cases ho : t.onB w with
      | true =>
        rw [ho, if_pos rfl] at hgo2
        rw [ho] at hnw
        have hmin : min ((t.lw v : Nat) : Int) ((t.ix w : Nat) : Int) = ((min (t.lw v) (t.ix w) : Nat) : Int) := by omega
        simp only [go_sem, Int.reduceEq, Int.reduceLT, Int.reduceLE, eq_self, Int.natCast_nonneg, Int.toNat_natCast, hk2, hk0, hn, hlt, nats_len, hi, hi2, edges_len, hni, edgeD, ht1, hw, hw2, hix, hiw, h01, hW2.li, boolsD_len, hW2.lo, hnw]
        refine sem_drawM (ob := 2) (pf := []) (mf := []) (ms := []) mixed hΓ (hno rfl) noMk [0, 1, 2, 3, 4, 5, 6, 7, 8, 9, 10, 11, 12, 13, 14, 15, 16, 17, 18, 19, 20, 21] (by kernel_rfl) ?_
        simp only [go_sem, Int.reduceEq, Int.reduceLT, Int.reduceLE, eq_self, Int.natCast_nonneg, Int.toNat_natCast, chainM, opm, hv, hv2, hw, hw2, nats_len, hW2.li, hW2.ll, hlv, hiw, hmin, nats_upd]
        refine ⟨inR_i64.2 (by omega), close _ _ hgo2 ?_⟩
        exact le_slots' (by simp only [go_sem, Int.natCast_add, Int.cast_ofNat_Int])
      | false =>
        rw [ho, if_neg (by decide)] at hgo2
        rw [ho] at hnw
        simp only [go_sem, Int.reduceEq, Int.reduceLT, Int.reduceLE, eq_self, Int.natCast_nonneg, Int.toNat_natCast, hk2, hk0, hn, hlt, nats_len, hi, hi2, edges_len, hni, edgeD, ht1, hw, hw2, hix, hiw, h01, hW2.li, boolsD_len, hW2.lo, hnw]
        refine ⟨inR_i64.2 (by omega), close _ _ hgo2 ?_⟩
        exact le_slots' (by simp only [go_sem, Int.natCast_add, Int.cast_ofNat_Int])
  | nil =>
    have := end_of_drop hd hk
    have hk2 : ¬ (k : Int) < I.length := by omega
    rw [hd] at hV
    have hV : V = t.fin v := hV
    have hvs : v ∈ t.stack := by obtain ⟨T, hT, _⟩ := hL.stk; rw [hT]; simp
    unfold tsO at *
    simp only [go_sem, Int.reduceEq, Int.reduceLT, Int.reduceLE, eq_self, Int.natCast_nonneg, Int.toNat_natCast, hk2]
    refine sem_draw (pf := []) (Γ := tbl (tabVI f)) mixed hΓ (hno rfl) [0, 1, 2, 3, 4, 5, 6, 7, 8, 9, 10, 11, 12, 13, 14] (by kernel_rfl) ?_
    by_cases hne : t.lw v = t.ix v
    case neg =>
      have hne2 : ¬ ((t.lw v : Nat) : Int) = ((t.ix v : Nat) : Int) := by omega
      have hVt : V = t := by rw [hV]; unfold TS.fin; rw [if_pos hne]
      subst hVt
      simp only [go_sem, Int.reduceEq, Int.reduceLT, Int.reduceLE, eq_self, Int.natCast_nonneg, Int.toNat_natCast, chainI, hv, hv2, nats_len, hW2.li, hW2.ll, hlv, hiv, hne2]
      exact post_own (.inl rfl) [] rfl rfl (fun _ h => h)
    have hVt : V = t.pop v := by rw [hV]; unfold TS.fin; rw [if_neg (fun hh => hh hne)]
    subst hVt
    have hidx := idxG_nat (k := 0) hvs
    rw [Nat.zero_add] at hidx
    have hat := List.idxOf_lt_length_iff.2 hvs
    have hat2 : ((t.stack.idxOf v : Nat) : Int) ≤ (t.stack.length : Nat) := by omega
    have hsl := nodup_le hW2.nd hW2.sn
    have hds : List.take t.stack.length (natsD t.stack) = intsD (t.stack.map fun a : Nat => (a : Int)) := by rw [nats_take]; simp
    have hne2 : ((t.lw v : Nat) : Int) = ((t.ix v : Nat) : Int) := by omega
    simp only [go_sem, Int.reduceEq, Int.reduceLT, Int.reduceLE, eq_self, Int.natCast_nonneg, Int.toNat_natCast, chainI, hv, hv2, nats_len, hW2.li, hW2.ll, hlv, hiv, hne2]
    refine call_data idxIR (by simp) [.sl none (intsD (t.stack.map fun a : Nat => (a : Int))), .int .i64 (v : Int)] _ (by simp only [go_sem, asDL, AV.asD, List.drop_zero, Nat.zero_add, nats_len, hds, Nat.le_refl, if_true]) ⟨_, _, rfl, by rw [List.length_map]; omega, rfl⟩ (.inr rfl) ?_
    rw [hidx]
    generalize hA : t.stack.idxOf v = at' at *
    simp only [go_sem, Int.reduceEq, Int.reduceLT, Int.reduceLE, eq_self, Int.natCast_nonneg, Int.toNat_natCast, hat2]
    have hml : ((t.stack.length : Nat) : Int) - (at' : Nat) = ((t.stack.length - at' : Nat) : Int) := by omega
    have hpop : t.pop v = ⟨t.index, t.low, clr t.on (t.stack.drop at'), t.stack.take at', t.next, put (minL (t.stack.drop at')) t.comp (t.stack.drop at')⟩ := by
      unfold TS.pop TS.top; rw [hA]
    have hMl : (t.stack.drop at').length = t.stack.length - at' := List.length_drop
    have hMn : t.stack.drop at' ≠ [] := fun hh => by rw [hh] at hMl; simp at hMl; omega
    have hds2 : List.take (t.stack.length - at') (List.drop at' (natsD t.stack)) = natsD (t.stack.drop at') := by
      rw [← List.map_drop, List.take_of_length_le (by simp)]
    have hle2 : at' + (t.stack.length - at') ≤ t.stack.length := by omega
    have hMsub : ∀ w ∈ t.stack.drop at', w < n := fun w hw => hW2.sn w (List.mem_of_mem_drop hw)
    have hget : ∀ j, j < t.stack.length - at' → t.stack[at' + j]? = (t.stack.drop at')[j]? := fun j hj => by rw [List.getElem?_drop]
    have hcut : natsD t.stack = natsD (t.stack.take at') ++ natsD (t.stack.drop at') := by rw [← List.map_append, List.take_append_drop]
    have htl : (t.stack.take at').length = at' := by rw [List.length_take]; omega
    rw [hpop]
    refine ⟨Int.le_refl _, ?_⟩
    rw [hml, Int.toNat_natCast]
    generalize t.stack.drop at' = M at *
    refine call_data minR (by simp) [.sl none (natsD M)] _ (by simp only [go_sem, asDL, AV.asD, nats_len, hds2, hle2, if_true]) ⟨M, rfl, hMn, by omega, rfl⟩ (.inr rfl) ?_
    generalize minL M = c at *
    simp only [go_sem, Int.reduceEq, Int.reduceLT, Int.reduceLE, eq_self, Int.natCast_nonneg, Int.toNat_natCast]
    refine sem_loop (fun k : Nat => ⟨slotsOf 194 [(0, .ptr 0 0 0), (1, .dat (.int .i64 v)), (7, .dat (.int .i64 (at' : Nat))), (9, .dat (.int .i64 (c : Nat))), (165, .sl 4 at' (t.stack.length - at')), (166, .dat (.int .i64 (t.stack.length - at' : Nat))), (167, .dat (.int .i64 k))],
        [.box [.dat (.sl (some 4) (edgesD l)), .dat (.sl none ((idxL PEdge.s n l).map natsR)), .sl 1 0 n, .sl 2 0 n, .sl 3 0 n, .sl 4 0 t.stack.length, .dat (.int .i64 (t.next : Nat)), .sl 5 0 n],
          .row none (natsD t.index), .row none (natsD t.low), .row none (boolsD (clr t.on (M.take k))), .row none (natsD t.stack), .row none (natsD (put c t.comp (M.take k)))], 6, [4]⟩)
      (fun k => k ≤ M.length) (fun k => M.length - k) 0 (Nat.zero_le _) ?_ ?_
    · exact le_slots' (by simp only [go_sem, Int.natCast_zero])
    rintro k hk
    refine sem_of_awp (Γ := tbl (tabVI f)) hΓ _ _ _ ?_
    cases hd : M.drop k with
    | nil =>
      have := end_of_drop hd hk
      have hk2 : ¬ (k : Int) < ((t.stack.length - at' : Nat) : Int) := by omega
      have hat3 : (at' : Int) ≤ ((t.stack.length : Nat) : Int) := by omega
      have hat4 : ((at' : Int) - 0).toNat = at' := by omega
      rw [this, List.take_length]
      rw [this] at hk2
      simp only [go_sem, Int.reduceEq, Int.reduceLT, Int.reduceLE, eq_self, Int.natCast_nonneg, Int.toNat_natCast, hk2, hat3, hat4]
      rw [htl]
      refine post_resO (mv' := [4]) (.inr rfl) [] rfl (fun _ h => h) ?_
      exact le_cut 4 (ys := natsD M) (by simp only [List.getElem?_cons_succ, List.getElem?_cons_zero, hcut])
    | cons w r =>
      have hlt := lt_of_drop hd
      have hk2 : (k : Int) < ((t.stack.length - at' : Nat) : Int) := by omega
      have hk3 : k < t.stack.length - at' := by omega
      have hk0 : (0 : Int) ≤ k := Int.natCast_nonneg k
      have hw := hMsub w (mem_of_drop hd)
      have hw2 : (w : Int) < n := by omega
      have hnw : D.nth (natsD t.stack) (at' + k) = .int .i64 (w : Int) := nats_nth (by rw [hget k hk3]; exact get_of_drop hd)
      have hk4 : at' + k < t.stack.length := by omega
      have hcl : (clr t.on (M.take k)).length = n := by rw [clr_len, hW2.lo]
      have hpl : (put c t.comp (M.take k)).length = n := by rw [put_len, hW2.lc]
      have hs1 := clr_snoc (M := M.take k) (on := t.on) (w := w)
      have hs2 := put_snoc (c := c) (M := M.take k) (comp := t.comp) (w := w)
      rw [← take_of_drop hd] at hs1 hs2
      simp only [go_sem, Int.reduceEq, Int.reduceLT, Int.reduceLE, eq_self, Int.natCast_nonneg, Int.toNat_natCast, hk2, hk3, hk0, hnw, hk4, nats_len, hw, hw2, boolsD_len, hcl, hpl, boolsD_upd, nats_upd, ← hs1, ← hs2]
      refine ⟨inR_i64.2 (by omega), k + 1, by omega, by omega, ?_⟩
      exact le_slots' (by simp only [go_sem, Int.natCast_add, Int.cast_ofNat_Int])
end Go.AM

set_option maxRecDepth 8000
set_option maxHeartbeats 4000000
namespace Go.AM
open Go Go.Proofs

/- ### makes in any order -/
theorem le_renP {s : List AV} {own own' : List Obj} {mv : List Nat} (π ρ : Nat → Nat) (h1 : ∀ o, ρ (π o) = o) (h2 : ∀ o, π (ρ o) = o) (hlt : ∀ o, o < own.length → ρ o < own.length) (hlt' : ∀ o, o < own.length → π o < own.length)
    (ho : own' = (List.range own.length).map fun o => (own.getD (ρ o) .dead).ren π) : Le ⟨s, own, 0, mv⟩ ⟨AV.rens π s, own', 0, mv⟩ := by
  rintro c a w ⟨hd, hn, F, φ, q2, q3, q4⟩
  have hφ : ∀ o L, φ o = some L → (fun i => φ (ρ i)) (π o) = some L := fun o L h => by simp only [h1]; exact h
  have hl : own'.length = own.length := by rw [ho]; simp
  have hn0 : c.n0 = 0 := hn.symm
  refine ⟨hd, hn, F, fun i => φ (ρ i), ⟨q2.sub, q2.ext, fun o L hlt' hm h => ?_, q2.rest, fun o L' ho' hn' => q2.orig (ρ o) L' ho' hn', q2.frsh⟩, ?_, AV.Rs_ren (π := π) (φ := φ) (φ' := fun i => φ (ρ i)) hφ s _ q4⟩
  · omega
  · refine ⟨q3.fb, fun o L h => q3.live (ρ o) L h, fun o o' L L' h h' n n' hne => q3.inj (ρ o) (ρ o') L L' h h' n n' (fun e => hne (by rw [← h2 o, ← h2 o', e])), fun o obj hob => ?_, fun o hge => ?_, q3.glob⟩
    · have hlt3 : o < own.length := by
        have := (List.getElem?_eq_some_iff.1 hob).1
        simp only [hl] at this
        exact this
      simp only [ho, List.getElem?_map, List.getElem?_range hlt3, Option.map_some, Option.some.injEq] at hob
      subst hob
      have hp := hlt o hlt3
      have := q3.rep (ρ o) (own.getD (ρ o) .dead) (by simp only; rw [List.getD_eq_getElem?_getD, List.getElem?_eq_getElem hp]; rfl)
      exact ObjR_ren (π := π) (φ := φ) (φ' := fun i => φ (ρ i)) hφ this
    · simp only [hl] at hge
      refine q3.out (ρ o) ?_
      simp only
      rcases Nat.lt_or_ge (ρ o) own.length with h | h
      · have := hlt' _ h
        rw [h2] at this
        omega
      · exact h
def pm (l : List Nat) (o : Nat) : Nat := l.getD o o
def pmOk (l m : List Nat) : Bool := decide (m.length = l.length) && (List.range l.length).all fun o => decide (pm m (pm l o) = o) && decide (pm l (pm m o) = o) && decide (pm m o < l.length) && decide (pm l o < l.length)
theorem le_pm {s s' : List AV} {own own' : List Obj} {mv : List Nat} (l m : List Nat) (h : pmOk l m = true) (hl : own.length = l.length) (hs : s' = AV.rens (pm l) s) (ho : own' = (List.range own.length).map fun o => (own.getD (pm m o) .dead).ren (pm l)) :
    Le ⟨s, own, 0, mv⟩ ⟨s', own', 0, mv⟩ := by
  subst hs
  simp only [pmOk, Bool.and_eq_true, decide_eq_true_eq, List.all_eq_true, List.mem_range] at h
  obtain ⟨hml, h⟩ := h
  have hb : ∀ o, l.length ≤ o → pm l o = o ∧ pm m o = o := fun o ho => by
    unfold pm
    rw [List.getD_eq_getElem?_getD, List.getD_eq_getElem?_getD, List.getElem?_eq_none (by omega), List.getElem?_eq_none (by omega)]
    exact ⟨rfl, rfl⟩
  have hc : ∀ o, pm m (pm l o) = o ∧ pm l (pm m o) = o := fun o => by
    rcases Nat.lt_or_ge o l.length with hh | hh
    · exact (h o hh).1.1
    · obtain ⟨e1, e2⟩ := hb o hh; rw [e1, e2, e1]; exact ⟨rfl, rfl⟩
  exact le_renP (pm l) (pm m) (fun o => (hc o).1) (fun o => (hc o).2) (fun o ho => by rw [hl] at ho ⊢; exact (h o ho).1.2) (fun o ho => by rw [hl] at ho ⊢; exact (h o ho).2) ho

/-- The operations rest in any order, then t. -/
def permT : Nat → List Nat → DT → DT
  | 0, _, t => t
  | f + 1, rest, t => rest.foldr (fun x u => .alt x (permT f (rest.erase x) t) u) .stop

/- ### the components -/
theorem permT_zero {r : List Nat} {t : DT} : permT 0 r t = t := rfl
theorem lf_perm {Q : Exit → S → Prop} {s s1 s' : List AV} {own own' : List Obj} (hcl : ∀ σ σ', Le σ σ' → Q .normal σ' → Q .normal σ) (h : Q .normal ⟨s', own', 0, []⟩) (l m : List Nat) (h0 : Le ⟨s, own, 0, []⟩ ⟨s1, own, 0, []⟩)
    (h1 : pmOk l m = true) (hl : own.length = l.length) (hs : s' = AV.rens (pm l) s1) (ho : own' = (List.range own.length).map fun o => (own.getD (pm m o) .dead).ren (pm l)) : Q .normal ⟨s, own, 0, []⟩ :=
  hcl _ _ (Le.trans h0 (le_pm l m h1 hl hs ho)) h
noncomputable def compVv (n : Int) (l : List PEdge) : AV := if gE n l ≠ 0 then .tup [.dat (.sl none []), .dat (.int .i64 (gE n l))] else .tup [.dat (.sl none (natsD (compL n.toNat l))), .dat (.int .i64 0)]
def compR (ds : List D) (v : AV) : Prop := ∃ (n : Int) (l : List PEdge), ds = [.int .i64 n, .sl (some 4) (edgesD l)] ∧ l.length ≤ 10000 ∧ v = compVv n l
abbrev tabCO : List (Nat × Contract) := [(45, dataC gchkR), (46, dataC leavR)]
theorem tabCO_ok : OkG Try.prog (tbl tabCO) := okG_cons gcheck_ok (okG_cons leaving_ok okG_nil)
theorem pureCO : PureFns (tbl tabCO) [45, 46] := by
  refine pure_of2 fun g C hm hg => ?_
  simp only [List.mem_cons, List.not_mem_nil, or_false, Prod.mk.injEq] at hm
  rcases hm with ⟨_, rfl⟩ | ⟨_, rfl⟩
  · exact .inl ⟨_, rfl⟩
  · exact .inl ⟨_, rfl⟩
theorem components_ok : OkF Try.prog 22 (dataC compR) := by
  refine okF_data Try.func22 rfl (by decide) ?_
  rintro ds v ⟨n, l, rfl, hll, rfl⟩
  refine sem_of_awpK [5] (Γ := tbl tabCO) tabCO_ok _ _ _ ?_
  simp only [go_sem, Int.reduceEq, Int.reduceLT, Int.reduceLE, eq_self, Int.natCast_nonneg, Int.toNat_natCast, Try.ntmps22]
  refine call_data gchkR (by simp) [.int .i64 n, .sl (some 4) (edgesD l)] _ rfl ⟨n, l, rfl, hll, rfl⟩ (.inl rfl) ?_
  by_cases h : gE n l = 0
  case neg =>
    unfold compVv
    rw [if_pos h]
    simp only [go_sem, Int.reduceEq, Int.reduceLT, Int.reduceLE, eq_self, Int.natCast_nonneg, Int.toNat_natCast, h]
    refine post_res (.inl rfl) [.tmp 4, .tmp 5] rfl ?_
    simp only [go_sem]
    exact le_fin (by simp only [go_sem]) (by simp only [go_sem])
  unfold compVv
  rw [if_neg (by rw [h]; decide)]
  obtain ⟨n, rfl, hg⟩ := gOk_of h hll
  have hn4 := hg.n4
  rw [Int.toNat_natCast]
  simp only [go_sem, Int.reduceEq, Int.reduceLT, Int.reduceLE, eq_self, Int.natCast_nonneg, Int.toNat_natCast, h]
  have mkI : ∀ {t : DT} {ops : Array Oper} {x : Nat} {u : DT} {Q : Exit → S → Prop} {σ : S}, (match ops[x]? with | some o => opg Try.prog (tbl tabCO) ops o (chT Try.prog (tbl tabCO) ops 0 0 [] [] Q t) σ | none => False) → chT Try.prog (tbl tabCO) ops 0 0 [] [] Q u σ → chT Try.prog (tbl tabCO) ops 0 0 [] [] Q (.alt x t u) σ := by
    intro t ops x u Q σ h2 h3
    refine ⟨?_, h3⟩
    generalize ops[x]? = oo at h2 ⊢
    cases oo with
    | none => exact h2
    | some o => exact And.intro (And.intro (fun h => by cases h) (fun h => by cases h)) h2
  refine sem_drawT (ob := 0) (ko := 0) (pf := [46]) (mf := []) (ms := []) (ks := []) mixed tabCO_ok (fun g args own v own' mv hg => pureCO g args own v own' mv (by simp at hg; simp [hg])) noMk
    (.one 0 (.one 1 (.one 2 (.one 4 (.one 6 (.one 8 (.one 10 (permT 5 [3, 5, 7, 9, 11] (.one 12 (.one 13 (.one 14 .fin))))))))))) (by kernel_rfl) ?_
  simp only [go_sem, Int.reduceEq, Int.reduceLT, Int.reduceLE, eq_self, Int.natCast_nonneg, Int.toNat_natCast]
  generalize hK : andThenK [5] Try.prog (tbl tabCO) _ _ = Q
  have hcl : ∀ σ σ', Le σ σ' → Q .normal σ' → Q .normal σ := by
    subst hK
    intro σ σ' h1 h2
    exact sem_le h1 h2
  suffices hQ1 : Q .normal ⟨slotsOf 49 [(0, .dat (.int .i64 n)), (7, .ptr 0 0 0)], [.box [.dat (.sl (some 4) (edgesD l)), .dat (.sl none ((idxL PEdge.s n l).map natsR)), .sl 1 0 n, .sl 2 0 n, .sl 3 0 n, .nils, .dat (.int .i64 0), .sl 4 0 n],
      .row none (List.replicate n (.int .i64 0)), .row none (List.replicate n (.int .i64 0)), .row none (List.replicate n (.bool false)), .row none (List.replicate n (.int .i64 0))], 0, []⟩ by
    have hlf : ∀ {own : List Obj} {s1 : List AV} (l m : List Nat), pmOk l m = true → own.length = l.length → _ = AV.rens (pm l) s1 → _ = (List.range own.length).map (fun o => (own.getD (pm m o) .dead).ren (pm l)) → Q .normal ⟨s1, own, 0, []⟩ := fun l m h1 h2 h3 h4 => lf_perm hcl hQ1 l m (Le.refl _) h1 h2 h3 h4
    repeat' first
    | exact True.intro
    | refine mkI ?_ ?_
    | (simp only [go_sem, Int.reduceEq, Int.reduceLT, Int.reduceLE, eq_self, Int.natCast_nonneg, Int.toNat_natCast, permT_zero]; refine ⟨Int.le_refl _, by omega, ?_⟩)
    | (simp only [go_sem, Int.reduceEq, Int.reduceLT, Int.reduceLE, eq_self, Int.natCast_nonneg, Int.toNat_natCast, permT_zero]; refine call_data leavR (by simp) [.int .i64 n, .sl (some 4) (edgesD l)] _ rfl ⟨n, l, rfl, hg, rfl⟩ (.inl rfl) ?_; simp only [go_sem, Int.reduceEq, Int.reduceLT, Int.reduceLE, eq_self, Int.natCast_nonneg, Int.toNat_natCast, permT_zero])
    all_goals refine hcl _ _ (le_slots' (s' := slotsOf 49 [(0, .dat (.int .i64 n)), (7, .ptr 4 0 0)]) (by simp only [go_sem])) ?_
    all_goals first
    | exact hlf [1, 2, 3, 4, 0] [4, 0, 1, 2, 3] (by decide) rfl rfl rfl
    | exact hlf [1, 2, 4, 3, 0] [4, 0, 1, 3, 2] (by decide) rfl rfl rfl
    | exact hlf [1, 3, 2, 4, 0] [4, 0, 2, 1, 3] (by decide) rfl rfl rfl
    | exact hlf [1, 3, 4, 2, 0] [4, 0, 3, 1, 2] (by decide) rfl rfl rfl
    | exact hlf [1, 4, 2, 3, 0] [4, 0, 2, 3, 1] (by decide) rfl rfl rfl
    | exact hlf [1, 4, 3, 2, 0] [4, 0, 3, 2, 1] (by decide) rfl rfl rfl
    | exact hlf [2, 1, 3, 4, 0] [4, 1, 0, 2, 3] (by decide) rfl rfl rfl
    | exact hlf [2, 1, 4, 3, 0] [4, 1, 0, 3, 2] (by decide) rfl rfl rfl
    | exact hlf [2, 3, 1, 4, 0] [4, 2, 0, 1, 3] (by decide) rfl rfl rfl
    | exact hlf [2, 3, 4, 1, 0] [4, 3, 0, 1, 2] (by decide) rfl rfl rfl
    | exact hlf [2, 4, 1, 3, 0] [4, 2, 0, 3, 1] (by decide) rfl rfl rfl
    | exact hlf [2, 4, 3, 1, 0] [4, 3, 0, 2, 1] (by decide) rfl rfl rfl
    | exact hlf [3, 1, 2, 4, 0] [4, 1, 2, 0, 3] (by decide) rfl rfl rfl
    | exact hlf [3, 1, 4, 2, 0] [4, 1, 3, 0, 2] (by decide) rfl rfl rfl
    | exact hlf [3, 2, 1, 4, 0] [4, 2, 1, 0, 3] (by decide) rfl rfl rfl
    | exact hlf [3, 2, 4, 1, 0] [4, 3, 1, 0, 2] (by decide) rfl rfl rfl
    | exact hlf [3, 4, 1, 2, 0] [4, 2, 3, 0, 1] (by decide) rfl rfl rfl
    | exact hlf [3, 4, 2, 1, 0] [4, 3, 2, 0, 1] (by decide) rfl rfl rfl
    | exact hlf [4, 1, 2, 3, 0] [4, 1, 2, 3, 0] (by decide) rfl rfl rfl
    | exact hlf [4, 1, 3, 2, 0] [4, 1, 3, 2, 0] (by decide) rfl rfl rfl
    | exact hlf [4, 2, 1, 3, 0] [4, 2, 1, 3, 0] (by decide) rfl rfl rfl
    | exact hlf [4, 2, 3, 1, 0] [4, 3, 1, 2, 0] (by decide) rfl rfl rfl
    | exact hlf [4, 3, 1, 2, 0] [4, 2, 3, 1, 0] (by decide) rfl rfl rfl
    | exact hlf [4, 3, 2, 1, 0] [4, 3, 2, 1, 0] (by decide) rfl rfl rfl
  subst hK
  simp only [go_sem, Int.reduceEq, Int.reduceLT, Int.reduceLE, eq_self, Int.natCast_nonneg, Int.toNat_natCast]
  refine sem_le (le_addnilR 0 5 none rfl rfl (Nat.zero_le _)) ?_
  refine sem_le (le_pm (s' := slotsOf 49 [(0, .dat (.int .i64 n)), (7, .ptr 0 0 0)]) (own' := tsO n l (TS.zero n)) [0, 1, 2, 3, 5, 4] [0, 1, 2, 3, 5, 4] (by decide) rfl rfl ?_) ?_
  · have e0 : natsD (List.replicate n 0) = List.replicate n (.int .i64 0) := by rw [natsD, List.map_replicate]; rfl
    have e1 : boolsD (List.replicate n false) = List.replicate n (.bool false) := by rw [boolsD, List.map_replicate]
    unfold tsO TS.zero
    simp only [e0, e1]
    rfl
  refine sem_of_awp (Γ := tbl tabCO) tabCO_ok _ _ _ ?_
  simp only [go_sem, Int.reduceEq, Int.reduceLT, Int.reduceLE, eq_self, Int.natCast_nonneg, Int.toNat_natCast]
  refine sem_loop (fun k : Nat => ⟨slotsOf 49 [(0, .dat (.int .i64 n)), (7, .ptr 0 0 0), (29, .dat (.int .i64 n)), (30, .dat (.int .i64 k))], tsO n l (compF l n k), 0, []⟩)
    (fun k => k ≤ n) (fun k => n - k) 0 (Nat.zero_le _) ?_ ?_
  · exact le_slots' (by simp only [go_sem, Int.natCast_zero])
  rintro k hk
  obtain ⟨hW, hall⟩ := compF_ok hg k hk
  have hix : (natsD (compF l n k).index).length = n := by rw [nats_len, hW.li]
  refine sem_of_awp (Γ := tbl [(47, lentC (visR n))]) (okG_cons (visit_ok n) okG_nil) _ _ _ ?_
  by_cases hkn : k = n
  case pos =>
    subst hkn
    have hk2 : ¬ (k : Int) < k := by omega
    have hc := compF_all hg
    unfold tsO
    simp only [go_sem, Int.reduceEq, Int.reduceLT, Int.reduceLE, eq_self, Int.natCast_nonneg, Int.toNat_natCast, hk2]
    rw [← hc]
    refine post_res (.inl rfl) [.tmp 4, .tmp 5] rfl ?_
    simp only [go_sem]
    refine Le.trans (le_freeze 5 (ag := none) rfl (Nat.zero_le _)) ?_
    have hlc : (compF l k k).comp.length = k := hW.lc
    have e1 : List.take k (natsD (compF l k k).comp) = natsD (compF l k k).comp := List.take_of_length_le (by simp [hlc])
    simp only [go_sem, e1, nats_len, hlc, Nat.le_refl]
    exact le_fin (by simp only [go_sem]) (by simp only [go_sem])
  have hkl : k < n := by omega
  have hk2 : (k : Int) < n := by omega
  have hiv : D.nth (natsD (compF l n k).index) k = .int .i64 ((compF l n k).ix k : Nat) := nats_at 0 (by rw [hW.li]; exact hkl)
  have hstep : compF l n (k + 1) = if (compF l n k).ix k = 0 then visitF l n (compF l n k) k else compF l n k := rfl
  generalize hT : compF l n k = t at *
  by_cases h0 : t.ix k = 0
  · rw [if_pos h0] at hstep
    have h02 : ((t.ix k : Nat) : Int) = 0 := by omega
    have hnx := hW.lt hkl h0
    unfold tsO
    simp only [go_sem, Int.reduceEq, Int.reduceLT, Int.reduceLE, eq_self, Int.natCast_nonneg, Int.toNat_natCast, hk2, hkl, nats_len, hW.li, hiv, h02]
    refine call_visit (f := n) (by simp) hg hW hkl h0 (fun x hx => by cases hx) (by omega) ?_
    unfold tsO
    simp only [go_sem, Int.reduceEq, Int.reduceLT, Int.reduceLE, eq_self, Int.natCast_nonneg, Int.toNat_natCast]
    refine ⟨inR_i64.2 (by omega), k + 1, by omega, by omega, ?_⟩
    rw [hstep]
    exact le_slots' (by simp only [go_sem, Int.natCast_add, Int.cast_ofNat_Int])
  · rw [if_neg h0] at hstep
    have h02 : ¬ ((t.ix k : Nat) : Int) = 0 := by omega
    unfold tsO
    simp only [go_sem, Int.reduceEq, Int.reduceLT, Int.reduceLE, eq_self, Int.natCast_nonneg, Int.toNat_natCast, hk2, hkl, nats_len, hW.li, hiv, h02]
    refine ⟨inR_i64.2 (by omega), k + 1, by omega, by omega, ?_⟩
    rw [hstep]
    exact le_slots' (by simp only [go_sem, Int.natCast_add, Int.cast_ofNat_Int])
end Go.AM

