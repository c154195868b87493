/- Own work over the model of the kit. -/
import Derived.Test.YtaecpbaaadpfgaaD20
import Derived.Test.YtaecpbaaadpfgaaD16
set_option linter.unusedSimpArgs false
set_option linter.unusedVariables false
set_option maxHeartbeats 2000000
set_option maxRecDepth 8000
namespace Go.AM
open Go Go.Proofs
def acyc (E : List (Nat × Nat)) : Prop := ∀ k v, ¬ Wk E (k + 1) v v
theorem wk_short {E : List (Nat × Nat)} {n : Nat} (hE : ∀ p ∈ E, p.2 < n) (hA : acyc E) : ∀ {k a v : Nat}, a < n -> Wk E k a v -> k < n := by
 have key : ∀ (k a v : Nat), a < n -> Wk E k a v -> ∃ L : List Nat, L.length = k + 1 /\ L.Nodup /\ v < n /\ ∀ x ∈ L, x < n /\ ∃ m, Wk E m x v := by
  intro k
  induction k with
  | zero => intro a v ha h; cases h; exact ⟨[a], rfl, by simp, ha, fun x hx => by simp at hx; subst hx; exact ⟨ha, 0, rfl⟩⟩
  | succ k ih =>
   rintro a v ha ⟨u, hu, hw⟩
   obtain ⟨L, h1, h2, h3, h4⟩ := ih a u ha hw
   refine ⟨v :: L, by simp [h1], List.nodup_cons.2 ⟨fun hm => ?_, h2⟩, hE _ hu, fun x hx => ?_⟩
   ·obtain ⟨_, m, hm⟩ := h4 v hm
    exact hA m v ⟨u, hu, hm⟩
   ·rcases List.mem_cons.1 hx with rfl | hx
    ·exact ⟨hE _ hu, 0, rfl⟩
    ·obtain ⟨g1, m, g2⟩ := h4 x hx
     exact ⟨g1, m + 1, u, hu, g2⟩
 intro k a v ha h
 obtain ⟨L, h1, h2, _, h4⟩ := key k a v ha h
 have := nodup_le h2 (fun x hx => (h4 x hx).1)
 omega
theorem top_ex (P : Nat -> Prop) : ∀ (n : Nat), P 0 -> ∃ m, P m /\ (m = 0 ∨ m < n) /\ ∀ k, k < n -> P k -> k <= m
 | 0, h => ⟨0, h, .inl rfl, fun k hk => by omega⟩
 | n + 1, h => by
  by_cases hn : P n
  ·exact ⟨n, hn, .inr (by omega), fun k hk _ => by omega⟩
  ·obtain ⟨m, h1, h2, h3⟩ := top_ex P n h
   refine ⟨m, h1, by omega, fun k hk hp => ?_⟩
   by_cases e : k = n
   ·subst e; exact absurd hp hn
   ·exact h3 k (by omega) hp
theorem isLev_of_acyc {n : Nat} {l : List PEdge} (hg : GOk n l) (hA : acyc (eF l)) : ∃ f, IsLev n l f := by
 let f : Nat -> Nat := fun v => Classical.choose (top_ex (fun k => ∃ u, Wk (eF l) k v u) n ⟨v, rfl⟩)
 have hf : ∀ v, (∃ u, Wk (eF l) (f v) v u) /\ ∀ k, k < n -> (∃ u, Wk (eF l) k v u) -> k <= f v := fun v => by
  have := Classical.choose_spec (top_ex (fun k => ∃ u, Wk (eF l) k v u) n ⟨v, rfl⟩)
  exact ⟨this.1, this.2.2⟩
 have hdown : ∀ e ∈ l, f e.t < f e.s := fun e he => by
  obtain ⟨u, hu⟩ := (hf e.t).1
  have hw := Wk_cons (List.mem_map.2 ⟨e, he, rfl⟩ : (e.s, e.t) ∈ eF l) hu
  have := (hf e.s).2 _ (wk_short hg.eFlt hA (hg.src e he).2 hw) ⟨u, hw⟩
  omega
 refine ⟨f, hdown, fun v hv => ?_⟩
 by_cases h0 : f v = 0
 ·exact .inl h0
 ·obtain ⟨u, hu⟩ := (hf v).1
  obtain ⟨m, hm⟩ : ∃ m, f v = m + 1 := ⟨f v - 1, by omega⟩
  rw [hm] at hu
  obtain ⟨b, hb, hw⟩ := Wk_first hu
  obtain ⟨e, he, h2⟩ := List.mem_map.1 hb
  cases h2
  refine .inr ⟨e, he, rfl, ?_⟩
  have h1 := hdown e he
  have h3 := (hf e.t).2 m (by have := wk_short hg.eFlt hA (hg.dst e he).2 hw; omega) ⟨u, hw⟩
  omega
theorem pot_acyc {l : List PEdge} {f : Nat -> Nat} (hf : ∀ e ∈ l, f e.t < f e.s) : acyc (eF l) := by
 have key : ∀ k a v, Wk (eF l) k a v -> f v + k <= f a := by
  intro k
  induction k with
  | zero => intro a v h; cases h; omega
  | succ k ih =>
   rintro a v ⟨u, hu, hw⟩
   obtain ⟨e, he, h2⟩ := List.mem_map.1 hu
   cases h2
   have := ih a e.s hw
   have := hf e he
   omega
 intro k v h
 have := key _ _ _ h
 omega
theorem acyc_cyc {l : List PEdge} : acyc (eF l) ↔ cycL l l.length = none := by
 have hc := cycL_is (l := l) l.length
 constructor
 ·intro hA
  cases h : cycL l l.length with
  | none => rfl
  | some c =>
   rw [h] at hc
   obtain ⟨i, h1, h2, _⟩ := hc
   exact absurd (Wk_cons (eF_get h1) (sd_wk h2)) (hA _ _)
 ·intro h k v hw
  rw [h] at hc
  simp only at hc
  obtain ⟨b, hb, hw⟩ := Wk_first hw
  obtain ⟨i, h1, h2, h3⟩ := eF_ex hb
  have := hc i h1
  unfold back at this
  rw [h2, h3] at this
  exact (sd_neg this).2 k hw
theorem lev_iff {n : Nat} {l : List PEdge} (hg : GOk n l) : (levV n l).isSome = (cycL l l.length).isNone := by
 have hEt : ∀ e ∈ l, e.t < n := fun e he => (hg.dst e he).2
 by_cases hA : acyc (eF l)
 ·obtain ⟨f, hf⟩ := isLev_of_acyc hg hA
  rw [levV_some hEt hf, acyc_cyc.1 hA]; rfl
 ·have h1 : levV n l = none := levV_none fun ⟨f, hf⟩ => hA (pot_acyc hf)
  have h2 : cycL l l.length ≠ none := fun h => hA (acyc_cyc.2 h)
  rw [h1]
  cases h : cycL l l.length with
  | none => exact absurd h h2
  | some c => rfl
end Go.AM
namespace Go.AM
open Go Go.Proofs
structure LR (n : Nat) (l : List PEdge) (out : List Nat) (r : Nat) (P : List PEdge) (more : Bool) : Prop where
 len : out.length = n
 walk : ∀ v, v < n -> ∃ u, Wk (eF l) (out.getD v 0) v u
 comp : ∀ v j u, v < n -> j <= r -> Wk (eF l) j v u -> j <= out.getD v 0
 done : ∀ e ∈ P, ∀ j u, j <= r -> Wk (eF l) j e.t u -> j + 1 <= out.getD e.s 0
 flat : more = false -> ∀ e ∈ P, out.getD e.t 0 < out.getD e.s 0
 cyc : more = true -> n <= r -> ¬ acyc (eF l)
 ub : ∀ v, v < n -> out.getD v 0 <= r * l.length + P.length
theorem LR.init {n : Nat} {l : List PEdge} : LR n l (List.replicate n 0) 0 [] false where
 len := by simp
 walk v hv := ⟨v, by simp [List.getD_eq_getElem?_getD, List.getElem?_replicate, hv]; rfl⟩
 comp v j u hv hj h := by omega
 done e he := by cases he
 flat _ e he := by cases he
 cyc h := by cases h
 ub v hv := by simp [List.getD_eq_getElem?_getD, List.getElem?_replicate, hv]
section
variable {n r : Nat} {l P : List PEdge} {out : List Nat} {more : Bool} {e : PEdge}
theorem LR.keep (h : LR n l out r P more) (hg : GOk n l) (he : e ∈ l) (hlt : ¬ out.getD e.s 0 < out.getD e.t 0 + 1) : LR n l out r (P ++ [e]) more := by
 refine { h with done := fun x hx j u hj hw => ?_, flat := fun hm x hx => ?_, ub := fun v hv => ?_ }
 ·rcases List.mem_append.1 hx with hx | hx
  ·exact h.done x hx j u hj hw
  ·simp at hx; subst hx
   have := h.comp x.t j u (hg.dst x he).2 hj hw
   omega
 ·rcases List.mem_append.1 hx with hx | hx
  ·exact h.flat hm x hx
  ·simp at hx; subst hx; omega
 ·have := h.ub v hv; rw [List.length_append]; omega
theorem LR.lift (h : LR n l out r P more) (hg : GOk n l) (he : e ∈ l) (hlt : out.getD e.s 0 < out.getD e.t 0 + 1) : LR n l (out.set e.s (out.getD e.t 0 + 1)) r (P ++ [e]) true := by
 have hs := (hg.src e he).2
 have ht := (hg.dst e he).2
 have hgv : ∀ v, (out.set e.s (out.getD e.t 0 + 1)).getD v 0 = if e.s = v then out.getD e.t 0 + 1 else out.getD v 0 := fun v => by
  rw [getD_set']
  by_cases h2 : e.s = v
  ·rw [if_pos ⟨h2, by rw [h.len]; exact hs⟩, if_pos h2]
  ·rw [if_neg (fun hh => h2 hh.1), if_neg h2]
 have hup : ∀ v, out.getD v 0 <= (out.set e.s (out.getD e.t 0 + 1)).getD v 0 := fun v => by
  rw [hgv]; split
  ·rename_i h2; subst h2; omega
  ·omega
 have hmem : (e.s, e.t) ∈ eF l := List.mem_map.2 ⟨e, he, rfl⟩
 refine ⟨by simp [h.len], fun v hv => ?_, fun v j u hv hj hw => Nat.le_trans (h.comp v j u hv hj hw) (hup v), fun x hx j u hj hw => ?_, fun hm => (by cases hm), fun _ hr hA => ?_, fun v hv => ?_⟩
 ·rw [hgv]
  split
  ·rename_i h2; subst h2
   obtain ⟨u, hu⟩ := h.walk e.t ht
   exact ⟨u, Wk_cons hmem hu⟩
  ·exact h.walk v hv
 ·rcases List.mem_append.1 hx with hx | hx
  ·exact Nat.le_trans (h.done x hx j u hj hw) (hup x.s)
  ·simp at hx; subst hx
   rw [hgv, if_pos rfl]
   have := h.comp x.t j u ht hj hw
   omega
 ·obtain ⟨u, hu⟩ := h.walk e.t ht
  have hw := Wk_cons hmem hu
  have h1 := wk_short hg.eFlt hA hs hw
  have := h.comp e.s _ u hs (by omega) hw
  omega
 ·rw [hgv]
  have h1 := h.ub e.t ht
  have h2 := h.ub v hv
  rw [List.length_append, List.length_singleton]
  split <;> omega
theorem LR.next (h : LR n l out r l more) (hE : ∀ e ∈ l, e.s < n) : LR n l out (r + 1) [] false where
 len := h.len
 walk := h.walk
 comp v j u hv hj hw := by
  cases j with
  | zero => omega
  | succ j =>
   obtain ⟨b, hb, hw⟩ := Wk_first hw
   obtain ⟨e, he, h2⟩ := List.mem_map.1 hb
   cases h2
   exact h.done e he j u (by omega) hw
 done e he := by cases he
 flat _ e he := by cases he
 cyc h := by cases h
 ub v hv := by have := h.ub v hv; rw [Nat.succ_mul, List.length_nil]; omega
theorem LR.stop (h : LR n l out r l false) (hg : GOk n l) : levV n l = some out := by
 have hd := h.flat rfl
 have hA := pot_acyc (f := fun v => out.getD v 0) hd
 have pot : ∀ k a v, Wk (eF l) k a v -> k <= out.getD a 0 := by
  have key : ∀ k a v, Wk (eF l) k a v -> out.getD v 0 + k <= out.getD a 0 := by
   intro k
   induction k with
   | zero => intro a v h; cases h; omega
   | succ k ih =>
    rintro a v ⟨u, hu, hw⟩
    obtain ⟨e, he, h2⟩ := List.mem_map.1 hu
    cases h2
    have := ih a e.s hw
    have := hd e he
    omega
  intro k a v hw
  have := key k a v hw
  omega
 have hl : IsLev n l fun v => out.getD v 0 := ⟨hd, fun v hv => by
  by_cases h0 : out.getD v 0 = 0
  ·exact .inl h0
  ·obtain ⟨u, hu⟩ := h.walk v hv
   obtain ⟨m, hm⟩ : ∃ m, out.getD v 0 = m + 1 := ⟨out.getD v 0 - 1, by omega⟩
   rw [hm] at hu
   obtain ⟨b, hb, hw⟩ := Wk_first hu
   obtain ⟨e, he, h2⟩ := List.mem_map.1 hb
   cases h2
   have h3 := pot m e.t u hw
   have h4 := hd e he
   exact .inr ⟨e, he, rfl, by omega⟩⟩
 rw [levV_some (fun e he => (hg.dst e he).2) hl]
 congr 1
 refine List.ext_getElem (by simp [h.len]) fun i h1 h2 => ?_
 simp [List.getD_eq_getElem?_getD, List.getElem?_eq_getElem h2]
end
end Go.AM
namespace Go.AM
open Go Go.Proofs
end Go.AM
namespace Go.AM
open Go Go.Proofs
abbrev sysE (s : PSys) : List PEdge := edC s 0 s.classes []
def nRes (s : PSys) : Nat := s.pools.length + s.locks.length + s.classes.length
theorem sysE_ok {s : PSys} (h : checkE s = 0) : GOk (nRes s) (sysE s) := by
 have hg := good_of h
 have hlen := edC_len s 12 0 s.classes [] (fun c hc => (hg.cls c hc).l12)
 have h1 := hg.np
 have h2 := hg.nl
 have h3 := hg.nc
 have hl2 : s.classes.length * (12 * (s.pools.length + s.locks.length + 1)) <= 6 * (12 * 11) := Nat.mul_le_mul h3 (by omega)
 have key : ∀ e ∈ sysE s, (∃ r : Nat, e.src = r /\ r < nRes s) /\ ∃ r : Nat, e.dst = r /\ r < nRes s := by
  intro e he
  obtain ⟨i, k, c, x, h1, h2, h3, h4, h5, h6, h7⟩ := (eFacts s).mem e he
  have hi := (List.getElem?_eq_some_iff.1 h1).1
  obtain ⟨r, hr, hr2, _⟩ := holdL_range hi h7
  refine ⟨⟨r, hr, hr2⟩, ?_⟩
  have hp := (hg.cls c (List.mem_of_getElem? h1)).pre x (List.mem_of_getElem? h2)
  obtain ⟨_, ⟨o1, o2⟩, _⟩ := preE_0 hp
  rw [h6]
  unfold mostE at o2
  unfold nRes targetN
  by_cases k3 : x.kind = 3
  ·rw [if_pos (.inl k3)] at o2
   rw [if_pos k3]
   exact ⟨s.pools.length + x.on.toNat, by omega, by omega⟩
  ·rw [if_neg k3]
   by_cases k5 : x.kind = 5
   ·rw [if_neg (by omega), if_pos k5] at o2
    rw [if_pos k5]
    exact ⟨s.pools.length + s.locks.length + x.on.toNat, by omega, by omega⟩
   ·rw [if_neg k5]
    have k1 : x.kind = 1 := Classical.byContradiction fun hk => by
     unfold waitB at h3
     rw [if_neg (by omega), if_neg hk] at h3
     cases h3
    rw [if_neg (by omega), if_neg k5] at o2
    exact ⟨x.on.toNat, by omega, by omega⟩
 refine ⟨by unfold nRes; omega, by simp only [List.length_nil] at hlen; show (edC s 0 s.classes []).length <= 10000; omega, fun e he => ?_, fun e he => ?_⟩
 ·obtain ⟨⟨r, hr, hr2⟩, _⟩ := key e he
  unfold PEdge.s; rw [hr, Int.toNat_natCast]; exact ⟨rfl, hr2⟩
 ·obtain ⟨_, r, hr, hr2⟩ := key e he
  unfold PEdge.t; rw [hr, Int.toNat_natCast]; exact ⟨rfl, hr2⟩
theorem resN_ok {s : PSys} (h : checkE s = 0) : resN s = (nRes s : Nat) := by unfold resN nRes; rw [if_neg (by rw [h]; decide)]; omega
theorem edgesV_ok {s : PSys} (h : checkE s = 0) : edgesV s = .tup [.dat (.sl (some 4) (edgesD (sysE s))), .dat (.int .i64 0)] := by unfold edgesV; rw [if_neg (by rw [h]; decide)]
theorem edgesV_err {s : PSys} (h : checkE s ≠ 0) : edgesV s = .tup [.dat (.sl none []), .dat (.int .i64 (checkE s))] := by unfold edgesV; rw [if_pos h]
def certD (L : List Nat) : D := .agg [.sl none (natsD L)]
noncomputable def makeO (s : PSys) : List Nat × Int := if checkE s ≠ 0 then ([], checkE s) else if (impO s).isSome = true then ([], 9) else match levV (nRes s) (sysE s) with
 | some L => (L, 0)
 | none => ([], 20)
noncomputable def makeV (s : PSys) : AV := .tup [.dat (certD (makeO s).1), .dat (.int .i64 (makeO s).2)]
def makeR (ds : List D) (v : AV) : Prop := ∃ s : PSys, ds = [sysD s] /\ s.fit /\ v = makeV s
abbrev tabMA : List (Nat × Contract) := [(19, dataC edgesR), (20, dataC impVR), (22, dataC resR), (21, dataC levelsR)]
theorem tabMA_ok : OkG Try.prog (tbl tabMA) := okG_cons edges_ok (okG_cons Impossible_ok (okG_cons resources_ok (okG_cons levels_ok okG_nil)))
theorem levelsVv_ok {s : PSys} (h : checkE s = 0) : levelsVv (nRes s : Nat) (sysE s) = match levV (nRes s) (sysE s) with
 | some L => .tup [.dat (.sl none (natsD L)), .dat (.int .i64 0)]
 | none => .tup [.dat (.sl none []), .dat (.int .i64 10)] := by
 unfold levelsVv; rw [if_neg (by rw [gE_ok (sysE_ok h)]; decide), Int.toNat_natCast]
 all_goals (cases levV (nRes s) (sysE s) <;> rfl)
theorem make_ok : OkF Try.prog 7 (dataC makeR) := by
 refine okF_data Try.func7 rfl (by decide) ?_
 rintro ds v ⟨s, rfl, hf, rfl⟩
 refine sem_of_awp (Γ := tbl tabMA) tabMA_ok _ _ _ ?_
 simp only [go_sem, Try.ntmps7, sysD]
 refine call_data edgesR (by simp) [sysD s] _ rfl ⟨s, rfl, hf, rfl⟩ (.inl rfl) ?_
 unfold makeV makeO
 by_cases h : checkE s = 0
 case neg =>
  rw [edgesV_err h, if_pos h]
  simp only [go_sem, h]
  refine post_res (.inl rfl) [.cell 2 32, .tmp 3] rfl ?_
  simp only [go_sem, certD]
  exact le_fin (by simp only [go_sem]) (by simp only [go_sem])
 rw [edgesV_ok h, if_neg (by rw [h]; decide)]
 have hgk := sysE_ok h
 have hgl := hgk.len
 simp only [go_sem, h]
 refine call_data impVR (by simp) [sysD s] _ rfl ⟨s, rfl, hf, rfl⟩ (.inl rfl) ?_
 cases hi : impO s with
 | some q =>
  obtain ⟨i, k⟩ := q
  simp only [go_sem, fstV]
  refine post_res (.inl rfl) [.cell 2 32, .tmp 3] rfl ?_
  simp only [go_sem, certD]
  exact le_fin (by simp only [go_sem]) (by simp only [go_sem])
 | none =>
 simp only [go_sem, fstV]
 refine call_data resR (by simp) [sysD s] _ rfl ⟨s, rfl, hf, rfl⟩ (.inl rfl) ?_
 rw [resN_ok h]
 simp only [go_sem]
 refine call_data levelsR (by simp) [.int .i64 (nRes s : Nat), .sl (some 4) (edgesD (sysE s))] _ rfl ⟨_, _, rfl, by omega, rfl⟩ (.inl rfl) ?_
 rw [levelsVv_ok h]
 cases hl : levV (nRes s) (sysE s) with
 | none =>
  simp only [go_sem]
  refine post_res (.inl rfl) [.cell 2 32, .tmp 3] rfl ?_
  simp only [go_sem, certD]
  exact le_fin (by simp only [go_sem]) (by simp only [go_sem])
 | some L =>
  simp only [go_sem]
  refine post_res (.inl rfl) [.cell 2 32, .tmp 3] rfl ?_
  simp only [go_sem, certD]
  exact le_fin (by simp only [go_sem]) (by simp only [go_sem])
end Go.AM
namespace Go.AM
open Go Go.Proofs
def outI (n : Int) : Bool := decide (n < 0) || decide (4096 < n)
def outR (ds : List D) (v : AV) : Prop := ∃ n : Int, ds = [.int .i64 n] /\ v = .dat (.bool (outI n))
def ixVR (xs : List AV) (obs : List Obj) (v0 : AV) (obs' ex : List Obj) (mv0 : List Nat) : Prop := ∃ (L : List Int), L.length <= 10000 /\
 xs = [.dat (.sl none (intsD L)), .fn 27 []] /\ obs = [] /\ v0 = .dat (.int .i64 (fstI (fstL outI 0 L))) /\ obs' = obs /\ ex = [] /\ mv0 = []
abbrev tabIV : List (Nat × Contract) := [(27, dataC outR)]
def hasVR (xs : List AV) (obs : List Obj) (v0 : AV) (obs' ex : List Obj) (mv0 : List Nat) : Prop := ∃ (L : List Int), L.length <= 10000 /\
 xs = [.dat (.sl none (intsD L)), .fn 27 []] /\ obs = [] /\ v0 = .dat (.bool (L.any outI)) /\ obs' = obs /\ ex = [] /\ mv0 = []
def badV (L : List Int) (e : PEdge) : Bool := decide (L.getD e.s 0 <= L.getD e.t 0)
def verN (s : PSys) (L : List Int) : Int :=
 if checkE s ≠ 0 then checkE s else if L.length ≠ nRes s ∨ L.any outI = true then 3 else if (impO s).isSome = true then 9 else if (sysE s).any (badV L) = true then 19 else 0
def verR (ds : List D) (v : AV) : Prop := ∃ (s : PSys) (L : List Int), ds = [sysD s, .agg [.sl none (intsD L)]] /\ s.fit /\ L.length <= 10000 /\ v = .dat (.int .i64 (verN s L))
abbrev tabVE : List (Nat × Contract) := [(19, dataC edgesR), (20, dataC impVR), (22, dataC resR), (28, pureOf (lentC hasVR))]
end Go.AM
namespace Go.AM
open Go Go.Proofs
noncomputable def lenV (l : List PEdge) (i : Nat) : Int := if back l i < 0 then -1 else back l i + 1
def lenR (ds : List D) (v : AV) : Prop := ∃ (n : Nat) (l : List PEdge) (i : Nat), ds = [.int .i64 n, .sl (some 4) (edgesD l), .int .i64 i] /\ GOk n l /\ i < l.length /\ v = .dat (.int .i64 (lenV l i))
def fstOf : Option (List Nat) -> Int
 | none => -1
 | some c => (c.headD 0 : Nat)
def lenOf : Option (List Nat) -> Int
 | none => -1
 | some c => c.length
def nxI : Option Nat -> Int
 | none => -1
 | some i => i
def scan (p : Nat -> Bool) (v : Nat) : Nat -> List PEdge -> Option Nat
 | _, [] => none
 | k, e :: r => if e.s = v /\ p k = true then some k else scan p v (k + 1) r
end Go.AM
namespace Go.AM
open Go Go.Proofs
def Via (E : List (Nat × Nat)) : Nat -> Nat -> Nat -> Prop
 | 0, i, j => (i, j) ∈ E
 | k + 1, i, j => Via E k i j ∨ (Via E k i k /\ Via E k k j)
theorem Via_trans {E : List (Nat × Nat)} : ∀ {k i m j : Nat}, m < k -> Via E k i m -> Via E k m j -> Via E k i j
 | 0, _, _, _, h, _, _ => by omega
 | k + 1, i, m, j, h, h1, h2 => by
  by_cases e : m = k
  ·subst e
   have g1 : Via E m i m := by rcases h1 with h1 | ⟨h1, _⟩ <;> exact h1
   have g2 : Via E m m j := by rcases h2 with h2 | ⟨_, h2⟩ <;> exact h2
   exact .inr ⟨g1, g2⟩
  ·have hm : m < k := by omega
   rcases h1 with h1 | ⟨h1, h1'⟩ <;> rcases h2 with h2 | ⟨h2, h2'⟩
   ·exact .inl (Via_trans hm h1 h2)
   ·exact .inr ⟨Via_trans hm h1 h2, h2'⟩
   ·exact .inr ⟨h1, Via_trans hm h1' h2⟩
   ·exact .inr ⟨h1, h2'⟩
theorem Via_mono {E : List (Nat × Nat)} {i j : Nat} : ∀ {n : Nat}, (i, j) ∈ E -> Via E n i j
 | 0, h => h
 | n + 1, h => .inl (Via_mono h)
theorem Via_of {E : List (Nat × Nat)} {n : Nat} (hE : ∀ p ∈ E, p.2 < n) : ∀ {k i j : Nat}, Wk E (k + 1) i j -> Via E n i j
 | 0, i, j, ⟨u, hu, hw⟩ => by cases hw; exact Via_mono hu
 | k + 1, i, j, ⟨u, hu, hw⟩ => by
  have hun : u < n := by obtain ⟨x, hx, _⟩ := hw; exact hE _ hx
  exact Via_trans hun (Via_of hE hw) (Via_mono hu)
def GRch (E : List (Nat × Nat)) (i j : Nat) : Prop := ∃ k, Wk E (k + 1) i j
theorem Rch_trans {E : List (Nat × Nat)} {i m j : Nat} (h1 : GRch E i m) (h2 : GRch E m j) : GRch E i j := by
 obtain ⟨a, ha⟩ := h1
 obtain ⟨b, hb⟩ := h2
 exact ⟨a + 1 + b, by have := Wk_app ha hb; rwa [show a + 1 + (b + 1) = a + 1 + b + 1 by omega] at this⟩
def get2 (B : List (List Bool)) (i j : Nat) : Bool := (B.getD i []).getD j false
def set2 (B : List (List Bool)) (i j : Nat) (v : Bool) : List (List Bool) := B.set i ((B.getD i []).set j v)
structure Sq (n : Nat) (B : List (List Bool)) : Prop where
 len : B.length = n
 row : ∀ i, i < n -> (B.getD i []).length = n
theorem get2_set2 {n : Nat} {B : List (List Bool)} (h : Sq n B) {i j a b : Nat} {v : Bool} (hi : i < n) (hj : j < n) : get2 (set2 B i j v) a b = if i = a /\ j = b then v else get2 B a b := by
 unfold get2 set2
 rw [getD_set']
 by_cases e : i = a
 ·subst e
  rw [if_pos ⟨rfl, by rw [h.len]; exact hi⟩, getD_set']
  by_cases e2 : j = b
  ·subst e2; rw [if_pos ⟨rfl, by rw [h.row i hi]; exact hj⟩, if_pos ⟨rfl, rfl⟩]
  ·rw [if_neg (fun hh => e2 hh.1), if_neg (fun hh => e2 hh.2)]
 ·rw [if_neg (fun hh => e hh.1), if_neg (fun hh => e hh.1)]
theorem Sq.set {n : Nat} {B : List (List Bool)} (h : Sq n B) {i j : Nat} {v : Bool} (hi : i < n) : Sq n (set2 B i j v) where
 len := by simp [set2, h.len]
 row a ha := by
  unfold set2
  rw [getD_set']
  split
  ·rw [List.length_set]; exact h.row i hi
  ·exact h.row a ha
theorem Sq.rep {n : Nat} : Sq n (List.replicate n (List.replicate n false)) where
 len := by simp
 row i hi := by simp [List.getD_eq_getElem?_getD, List.getElem?_replicate, hi]
theorem get2_rep {n i j : Nat} : get2 (List.replicate n (List.replicate n false)) i j = false := by
 unfold get2
 by_cases hi : i < n
 ·by_cases hj : j < n <;> simp [List.getD_eq_getElem?_getD, List.getElem?_replicate, hi, hj]
 ·simp [List.getD_eq_getElem?_getD, List.getElem?_replicate, hi]
theorem Sq.ext {n : Nat} {B C : List (List Bool)} (hB : Sq n B) (hC : Sq n C) (h : ∀ i j, i < n -> j < n -> get2 B i j = get2 C i j) : B = C := by
 refine List.ext_getElem (by rw [hB.len, hC.len]) fun i h1 h2 => ?_
 have hi : i < n := by rw [← hB.len]; exact h1
 have e1 : B.getD i [] = B[i] := by simp [List.getD_eq_getElem?_getD, List.getElem?_eq_getElem h1]
 have e2 : C.getD i [] = C[i] := by simp [List.getD_eq_getElem?_getD, List.getElem?_eq_getElem h2]
 have r1 := hB.row i hi
 have r2 := hC.row i hi
 rw [e1] at r1; rw [e2] at r2
 refine List.ext_getElem (by rw [r1, r2]) fun j g1 g2 => ?_
 have := h i j hi (by omega)
 unfold get2 at this
 rw [e1, e2] at this
 simpa [List.getD_eq_getElem?_getD, List.getElem?_eq_getElem g1, List.getElem?_eq_getElem g2] using this
open Classical in
noncomputable def reachB (n : Nat) (l : List PEdge) : List (List Bool) := (List.range n).map fun i => (List.range n).map fun j => decide (GRch (eF l) i j)
theorem reachB_sq {n : Nat} {l : List PEdge} : Sq n (reachB n l) where
 len := by simp [reachB]
 row i hi := by simp [reachB, List.getD_eq_getElem?_getD, hi]
theorem reachB_get {n : Nat} {l : List PEdge} {i j : Nat} (hi : i < n) (hj : j < n) : get2 (reachB n l) i j = true ↔ GRch (eF l) i j := by
 simp [get2, reachB, List.getD_eq_getElem?_getD, hi, hj]
structure FW (n : Nat) (l : List PEdge) (B : List (List Bool)) (k i j : Nat) : Prop where
 sq : Sq n B
 sound : ∀ a b, get2 B a b = true -> GRch (eF l) a b
 comp : ∀ a b, a < n -> b < n -> Via (eF l) k a b -> get2 B a b = true
 done : ∀ a b, a < n -> b < n -> (a < i ∨ (a = i /\ b < j)) -> Via (eF l) (k + 1) a b -> get2 B a b = true
theorem FW.set {n : Nat} {l : List PEdge} {B : List (List Bool)} {k i j : Nat} (h : FW n l B k i j) (hk : k < n) (hi : i < n) (hj : j < n) :
  FW n l (set2 B i j (get2 B i j || (get2 B i k && get2 B k j))) k i (j + 1) := by
 have up : ∀ a b, get2 B a b = true -> get2 (set2 B i j (get2 B i j || (get2 B i k && get2 B k j))) a b = true := fun a b hab => by
  rw [get2_set2 h.sq hi hj]
  split
  ·rename_i e; rw [e.1, e.2, hab]; rfl
  ·exact hab
 refine ⟨h.sq.set hi, fun a b hab => ?_, fun a b ha hb hv => up a b (h.comp a b ha hb hv), fun a b ha hb ho hv => ?_⟩
 ·rw [get2_set2 h.sq hi hj] at hab
  split at hab
  ·rename_i e
   rw [← e.1, ← e.2]
   simp only [Bool.or_eq_true, Bool.and_eq_true] at hab
   rcases hab with hab | ⟨h1, h2⟩
   ·exact h.sound _ _ hab
   ·exact Rch_trans (h.sound _ _ h1) (h.sound _ _ h2)
  ·exact h.sound a b hab
 ·by_cases e : i = a /\ j = b
  ·rw [get2_set2 h.sq hi hj, if_pos e]
   simp only [Bool.or_eq_true, Bool.and_eq_true]
   rw [e.1, e.2]
   rcases hv with hv | ⟨h1, h2⟩
   ·exact .inl (h.comp a b ha hb hv)
   ·exact .inr ⟨h.comp a k ha hk h1, h.comp k b hk hb h2⟩
  ·exact up a b (h.done a b ha hb (by omega) hv)
theorem FW.row {n : Nat} {l : List PEdge} {B : List (List Bool)} {k i : Nat} (h : FW n l B k i n) : FW n l B k (i + 1) 0 :=
 ⟨h.sq, h.sound, h.comp, fun a b ha hb ho hv => h.done a b ha hb (by omega) hv⟩
theorem FW.all {n : Nat} {l : List PEdge} {B : List (List Bool)} (hg : GOk n l) (h : FW n l B n 0 0) : B = reachB n l := by
 refine h.sq.ext reachB_sq fun i j hi hj => ?_
 rw [Bool.eq_iff_iff, reachB_get hi hj]
 exact ⟨h.sound i j, fun ⟨k, hk⟩ => h.comp i j hi hj (Via_of hg.eFlt hk)⟩
structure FW0 (n : Nat) (l : List PEdge) (P : List PEdge) (B : List (List Bool)) : Prop where
 sq : Sq n B
 sound : ∀ a b, get2 B a b = true -> (a, b) ∈ eF l
 comp : ∀ e ∈ P, get2 B e.s e.t = true
theorem FW0.init {n : Nat} {l : List PEdge} : FW0 n l [] (List.replicate n (List.replicate n false)) :=
 ⟨Sq.rep, fun a b h => (by rw [get2_rep] at h; cases h), fun e he => (by cases he)⟩
theorem FW0.step {n : Nat} {l P : List PEdge} {B : List (List Bool)} {e : PEdge} (h : FW0 n l P B) (hg : GOk n l) (he : e ∈ l) : FW0 n l (P ++ [e]) (set2 B e.s e.t true) := by
 have hs := (hg.src e he).2
 have ht := (hg.dst e he).2
 refine ⟨h.sq.set hs, fun a b hab => ?_, fun x hx => ?_⟩
 ·rw [get2_set2 h.sq hs ht] at hab
  split at hab
  ·rename_i e'; exact List.mem_map.2 ⟨e, he, by rw [e'.1, e'.2]⟩
  ·exact h.sound a b hab
 ·rw [get2_set2 h.sq hs ht]
  split
  ·rfl
  ·rcases List.mem_append.1 hx with hx | hx
   ·exact h.comp x hx
   ·simp at hx; subst hx
    rename_i e'; exact absurd ⟨rfl, rfl⟩ e'
end Go.AM
namespace Go.AM
open Go Go.Proofs
def Chain (l : List PEdge) : Nat -> Nat -> List Nat -> Prop
 | v, w, [] => v = w
 | v, w, i :: r => i < l.length /\ sOf l i = v /\ Chain l (tOf l i) w r
structure CycOk (l : List PEdge) (c : List Nat) : Prop where
 at_ : ∀ (j i : Nat), c[j]? = some i -> i < l.length
 next : ∀ (j i m : Nat), c[j]? = some i -> c[(j + 1) % c.length]? = some m -> tOf l i = sOf l m
 min : ∀ (r i : Nat), 0 < c.length -> r + 1 < c.length -> ¬ Wk (eF l) (r + 1) i i
 none : c.length = 0 ↔ acyc (eF l)
noncomputable def diag (n : Nat) (l : List PEdge) (k : Nat) : Bool := (List.range k).any fun i => get2 (reachB n l) i i
open Classical in
noncomputable def rowW (n : Nat) (l : List PEdge) (r i : Nat) : List Bool := (List.range n).map fun j => decide (Wk (eF l) r i j)
noncomputable def walkB (n : Nat) (l : List PEdge) (r : Nat) : List (List Bool) := (List.range n).map (rowW n l r)
open Classical in
noncomputable def rowP (n : Nat) (l : List PEdge) (r i k : Nat) : List Bool := (List.range n).map fun j => decide (∃ e ∈ l.take k, e.t = j /\ Wk (eF l) r i e.s)
end Go.AM
namespace Go.AM
open Go Go.Proofs
noncomputable def expL (s : PSys) : List PEdge := (cycV (sysE s)).map fun i => (sysE s).getD i default
noncomputable def expV (s : PSys) : AV := if checkE s ≠ 0 then .tup [.dat (.sl none []), .dat (.int .i64 (checkE s))] else .tup [.dat (.sl (some 4) (edgesD (expL s))), .dat (.int .i64 0)]
def expR (ds : List D) (v : AV) : Prop := ∃ s : PSys, ds = [sysD s] /\ s.fit /\ v = expV s
def enoN (s : PSys) (pool : Int) : Int := if checkE s ≠ 0 ∨ pool < 0 ∨ (s.pools.length : Int) <= pool then -1 else if (s.pools.getD pool.toNat default).size < demL pool true s.classes then -1 else demL pool true s.classes
def enoR (ds : List D) (v : AV) : Prop := ∃ (s : PSys) (pool : Int), ds = [sysD s, .int .i64 pool] /\ s.fit /\ v = .dat (.int .i64 (enoN s pool))
def sameCR (ds : List D) (v : AV) : Prop := ∃ (L : List Nat), ds = [certD L, certD L] /\ L.length <= 10000 /\ v = .dat (.bool true)
end Go.AM
namespace Go.AM
open Go Go.Proofs
theorem fewB_fit {s : PSys} (h : fewB s = true) : s.fit := by
 simp only [fewB, Bool.and_eq_true, Bool.not_eq_true', decide_eq_false_iff_not] at h
 exact ⟨⟨by omega, by omega, by omega⟩⟩
section
variable {s : PSys} {L : List Nat}
theorem makeO_err (h : checkE s ≠ 0) : makeO s = ([], checkE s) := by unfold makeO; rw [if_pos h]
theorem makeO_imp (h : checkE s = 0) (hi : (impO s).isSome = true) : makeO s = ([], 9) := by unfold makeO; rw [if_neg (by simp [h]), if_pos hi]
theorem makeO_ok (h : checkE s = 0) (hi : impO s = none) (hl : levV (nRes s) (sysE s) = some L) : makeO s = (L, 0) := by unfold makeO; rw [if_neg (by simp [h]), if_neg (by simp [hi]), hl]
theorem makeO_dead (h : checkE s = 0) (hi : impO s = none) (hl : levV (nRes s) (sysE s) = none) : makeO s = ([], 20) := by unfold makeO; rw [if_neg (by simp [h]), if_neg (by simp [hi]), hl]
end
theorem lev_lt {n : Nat} {l : List PEdge} {f : Nat -> Nat} (hg : GOk n l) (h : IsLev n l f) : ∀ v, v < n -> f v < n := by
 have hA := pot_acyc h.down
 have key : ∀ k v, v < n -> f v = k -> ∃ w, Wk (eF l) k v w := by
  intro k
  induction k with
  | zero => exact fun v _ _ => ⟨v, rfl⟩
  | succ k ih =>
   intro v hv hk
   rcases h.next v hv with h0 | ⟨e, he, hs, ht⟩
   ·omega
   ·obtain ⟨w, hw⟩ := ih e.t (hg.dst e he).2 (by omega)
    exact ⟨w, Wk_cons (List.mem_map.2 ⟨e, he, by rw [hs]⟩) hw⟩
 intro v hv
 obtain ⟨w, hw⟩ := key _ v hv rfl
 exact wk_short hg.eFlt hA hv hw
abbrev castL (L : List Nat) : List Int := L.map fun n : Nat => (n : Int)
theorem ver_of {s : PSys} (h : checkE s = 0) (hi : impO s = none) {L : List Int} (hl : L.length = nRes s) (h0 : ∀ x ∈ L, 0 <= x /\ x <= 4096) (hb : ∀ e ∈ sysE s, L.getD e.t 0 < L.getD e.s 0) : verN s L = 0 := by
 unfold verN
 have h1 : L.any outI = false := by
  rw [Bool.eq_false_iff]; intro hh
  obtain ⟨x, hx, hx2⟩ := List.any_eq_true.1 hh
  have := h0 x hx
  unfold outI at hx2
  simp only [Bool.or_eq_true, decide_eq_true_eq] at hx2
  omega
 have h2 : (sysE s).any (badV L) = false := by
  rw [Bool.eq_false_iff]; intro hh
  obtain ⟨e, he, hx2⟩ := List.any_eq_true.1 hh
  have := hb e he
  unfold badV at hx2
  rw [decide_eq_true_eq] at hx2
  omega
 rw [if_neg (by simp [h]), if_neg (by simp [hl, h1]), if_neg (by simp [hi]), if_neg (by rw [h2]; decide)]
theorem lev_facts {s : PSys} (h : checkE s = 0) {L : List Nat} (hl : levV (nRes s) (sysE s) = some L) : L.length = nRes s /\ (∀ x ∈ L, x < nRes s) /\ ∀ e ∈ sysE s, L.getD e.t 0 < L.getD e.s 0 := by
 have hg := sysE_ok h
 obtain ⟨f, hf, rfl⟩ := levV_is hl
 have hlt := lev_lt hg hf
 have hat : ∀ i, i < nRes s -> ((List.range (nRes s)).map f).getD i 0 = f i := fun i hi => by simp [List.getD_eq_getElem?_getD, hi]
 refine ⟨by simp, fun x hx => ?_, fun e he => ?_⟩
 ·obtain ⟨i, hi, rfl⟩ := List.mem_map.1 hx
  exact hlt i (List.mem_range.1 hi)
 ·rw [hat _ (hg.dst e he).2, hat _ (hg.src e he).2]
  exact hf.down e he
theorem nRes_le {s : PSys} (h : checkE s = 0) : nRes s <= 16 := by
 have hg := good_of h
 have h1 := hg.np
 have h2 := hg.nl
 have h3 := hg.nc
 unfold nRes; omega
theorem cast_getD {L : List Nat} {i : Nat} : (castL L).getD i 0 = (L.getD i 0 : Nat) := by
 simp only [List.getD_eq_getElem?_getD, List.getElem?_map]
 cases L[i]? <;> rfl
theorem ver_make {s : PSys} (h : checkE s = 0) (hi : impO s = none) {L : List Nat} (hl : levV (nRes s) (sysE s) = some L) : verN s (castL L) = 0 := by
 obtain ⟨h1, h2, h3⟩ := lev_facts h hl
 have hr := nRes_le h
 refine ver_of h hi (by simp [h1]) (fun x hx => ?_) (fun e he => ?_)
 ·obtain ⟨n, hn, rfl⟩ := List.mem_map.1 hx
  have := h2 n hn
  omega
 ·rw [cast_getD, cast_getD]
  have := h3 e he
  omega
theorem lev_ex {s : PSys} (h : checkE s = 0) (hA : acyc (eF (sysE s))) : ∃ L, levV (nRes s) (sysE s) = some L := by
 have := lev_iff (sysE_ok h)
 rw [acyc_cyc.1 hA] at this
 exact Option.isSome_iff_exists.1 this
theorem ver_only {s : PSys} {L : List Int} (hv : verN s L = 0) : checkE s = 0 /\ impO s = none /\ ∃ L', levV (nRes s) (sysE s) = some L' := by
 unfold verN at hv
 split at hv
 ·rename_i h; exact absurd hv h
 rename_i h
 split at hv
 ·cases hv
 rename_i h1
 split at hv
 ·cases hv
 rename_i h2
 split at hv
 ·cases hv
 rename_i h3
 have hc : checkE s = 0 := Classical.byContradiction h
 have hi : impO s = none := by cases hi : impO s with | none => rfl | some x => rw [hi] at h2; simp at h2
 have hg := sysE_ok hc
 simp only [not_or, Decidable.not_not] at h1
 have h0 : ∀ x ∈ L, 0 <= x := fun x hx => by
  have : outI x = false := by
   cases ho : outI x with
   | false => rfl
   | true => exact absurd (List.any_eq_true.2 ⟨x, hx, ho⟩) h1.2
  unfold outI at this
  simp only [Bool.or_eq_false_iff, decide_eq_false_iff_not] at this
  omega
 refine ⟨hc, hi, lev_ex hc ?_⟩
 refine pot_acyc (f := fun v => (L.getD v 0).toNat) fun e he => ?_
 have hb : badV L e = false := by
  cases hb : badV L e with
  | false => rfl
  | true => exact absurd (List.any_eq_true.2 ⟨e, he, hb⟩) h3
 unfold badV at hb
 rw [decide_eq_false_iff_not] at hb
 have hn : ∀ i, 0 <= L.getD i 0 := fun i => by
  rw [List.getD_eq_getElem?_getD]
  cases e : L[i]? with
  | none => simp
  | some n => exact h0 n (List.mem_of_getElem? e)
 have := hn e.s
 have := hn e.t
 show (L.getD e.t 0).toNat < (L.getD e.s 0).toNat
 omega
end Go.AM
namespace Go.AM
open Go Go.Proofs
structure Wid (s r : PSys) : Prop where
 names : namesL r = namesL s
 np : r.pools.length = s.pools.length
 nl : r.locks.length = s.locks.length
 nc : r.classes.length = s.classes.length
 size : ∀ i, (s.pools.getD i default).size <= (r.pools.getD i default).size
 fine : ∀ p ∈ r.pools, ¬ p.bad
 steps : ∀ i, (r.classes.getD i default).steps = (s.classes.getD i default).steps
 server : ∀ i, (r.classes.getD i default).server = (s.classes.getD i default).server
 work : ∀ i, i < s.classes.length -> 0 <= (r.classes.getD i default).workers /\ (r.classes.getD i default).workers <= (s.classes.getD i default).workers
section
variable {s r : PSys}
theorem Wid.most (h : Wid s r) (k : Int) : mostE r k = mostE s k := by unfold mostE; rw [h.np, h.nl, h.nc]
theorem Wid.pre (h : Wid s r) {x : PStep} (hp : preE s x = 0) : preE r x = 0 := by
 unfold preE at hp ⊢
 split at hp
 ·cases hp
 rename_i h1
 split at hp
 ·cases hp
 rename_i h2
 split at hp
 ·cases hp
 rename_i h3
 have := h.size x.on.toNat
 rw [if_neg h1, if_neg (by rw [h.most]; exact h2), if_neg (by omega)]
theorem Wid.stepE (h : Wid s r) {u : List Int} {b : List Bool} {x : PStep} (he : stepE s u b x = 0) : Go.AM.stepE r u b x = 0 /\ stepU r u x = stepU s u x /\ stepL r b x = stepL s b x := by
 have hp := stepE_0 he
 have hp2 := h.pre hp
 refine ⟨?_, by unfold stepU; rw [hp, hp2], by unfold stepL; rw [hp, hp2]⟩
 unfold Go.AM.stepE at he ⊢
 rw [hp] at he
 rw [hp2]
 simp only [ne_eq, not_true_eq_false, if_false] at he ⊢
 have hf : stepFine s u b x = true := by
  cases hf : stepFine s u b x with
  | true => rfl
  | false => rw [hf] at he; simp at he
 have : stepFine r u b x = true := by
  unfold stepFine at hf ⊢
  have := h.size x.on.toNat
  rw [h.server]
  split at hf
  ·rename_i h1; rw [if_pos h1]; simp only [decide_eq_true_eq] at hf ⊢; omega
  ·rename_i h1; rw [if_neg h1]; exact hf
 rw [this]; rfl
theorem Wid.run (h : Wid s r) : ∀ {l : List PStep} {q : Hold}, verd (runE s l q) = 0 -> verd (runE r l q) = 0
 | [], q, hv => by rw [verd_nil] at hv ⊢; exact hv
 | x :: l, q, hv => by
  by_cases he : Go.AM.stepE s q.units q.locks x = 0
  ·obtain ⟨h1, h2, h3⟩ := h.stepE he
   rw [verd_go he] at hv
   rw [verd_go h1, h2, h3]
   exact h.run hv
  ·rw [verd_err he] at hv; exact absurd hv he
theorem poolsE_ok : ∀ {l : List PPool}, (∀ p ∈ l, ¬ p.bad) -> poolsE l = 0
 | [], _ => rfl
 | p :: l, h => by rw [poolsE, if_neg (h p (by simp))]; exact poolsE_ok fun q hq => h q (by simp [hq])
theorem clssE_ok {r : PSys} : ∀ {l : List PCls}, (∀ c ∈ l, classE r c = 0) -> clssE r l = 0
 | [], _ => rfl
 | c :: l, h => by rw [clssE, if_neg (by rw [h c (by simp)]; decide)]; exact clssE_ok fun q hq => h q (by simp [hq])
theorem checkE_parts (h : checkE s = 0) : ¬ (6 < (s.pools.length : Int) ∨ 4 < (s.locks.length : Int) ∨ 6 < (s.classes.length : Int)) /\ namesE [] (namesL s) = 0 := by
 unfold checkE at h
 split at h
 ·cases h
 ·rename_i h1
  exact ⟨h1, (thenE_eq0 h).1⟩
theorem Wid.hold0 (h : Wid s r) : hold0 r = Go.AM.hold0 s := by unfold Go.AM.hold0; rw [h.np, h.nl]
theorem Wid.check (h : Wid s r) (hc : checkE s = 0) : checkE r = 0 := by
 obtain ⟨h1, h2⟩ := checkE_parts hc
 have hg := good_of hc
 unfold checkE
 rw [if_neg (by rw [h.np, h.nl, h.nc]; exact h1), h.names, h2, thenE_0, poolsE_ok h.fine, thenE_0]
 refine clssE_ok fun c hcm => ?_
 obtain ⟨i, hi⟩ := List.getElem?_of_mem hcm
 have hil := (List.getElem?_eq_some_iff.1 hi).1
 rw [h.nc] at hil
 have e : r.classes.getD i default = c := by rw [List.getD_eq_getElem?_getD, hi]; rfl
 have hs := hg.cls (s.classes.getD i default) (by rw [List.getD_eq_getElem?_getD, List.getElem?_eq_getElem hil]; exact List.getElem_mem hil)
 have hw := h.work i hil
 have hst := h.steps i
 rw [e] at hw hst
 have w4 := hs.w4
 have l1 := hs.l1
 have l12 := hs.l12
 unfold classE
 rw [hst, if_neg (by omega), if_neg (by omega), h.hold0]
 exact h.run hs.run
theorem Wid.dem (h : Wid s r) (hc : checkE s = 0) (pool : Int) (d : Bool) : demL pool d r.classes <= demL pool d s.classes := by
 have hg := good_of hc
 have key : ∀ k, k <= s.classes.length -> demL pool d (r.classes.take k) <= demL pool d (s.classes.take k) := by
  intro k
  induction k with
  | zero => intro _; simp
  | succ k ih =>
   intro hk
   have hkr : k < r.classes.length := by rw [h.nc]; omega
   have hks : k < s.classes.length := by omega
   have er : r.classes.getD k default = r.classes[k] := by rw [List.getD_eq_getElem?_getD, List.getElem?_eq_getElem hkr]; rfl
   have es : s.classes.getD k default = s.classes[k] := by rw [List.getD_eq_getElem?_getD, List.getElem?_eq_getElem hks]; rfl
   have hw := h.work k hks
   have hst := h.steps k
   rw [er, es] at hw hst
   rw [List.take_succ_eq_append_getElem hkr, List.take_succ_eq_append_getElem hks, demL_snoc, demL_snoc, hst]
   have hm := (mx_le hg (hg.cls _ (List.getElem_mem hks)) pool d).1
   have := Int.mul_le_mul_of_nonneg_right hw.2 hm
   have := ih (by omega)
   omega
 have := key s.classes.length (Nat.le_refl _)
 rwa [List.take_length, ← h.nc, List.take_length] at this
end
structure Wid2 (s r : PSys) : Prop extends Wid s r where
 res : ∀ i, (r.pools.getD i default).res = (s.pools.getD i default).res
 zero : ∀ i, i < s.classes.length -> (r.classes.getD i default).workers = 0 -> (s.classes.getD i default).workers = 0
section
variable {s r : PSys}
theorem fstC_none {s : PSys} : ∀ {i : Nat} {L : List PCls}, fstC s i L = none ↔ ∀ c ∈ L, ∀ x ∈ c.steps, impB s x = false
 | _, [] => by simp [fstC]
 | i, c :: L => by
  rw [fstC]
  cases h : fstL (impB s) 0 c.steps with
  | none =>
   simp only [List.mem_cons, forall_eq_or_imp]
   rw [fstC_none (i := i + 1) (L := L)]
   exact ⟨fun hh => ⟨fstL_none.1 h, hh⟩, fun hh => hh.2⟩
  | some k =>
   simp only [List.mem_cons, forall_eq_or_imp]
   exact ⟨fun hh => (by cases hh), fun hh => by rw [fstL_none.2 hh.1] at h; cases h⟩
theorem Wid.clsOf (h : Wid s r) {c' : PCls} (hc : c' ∈ r.classes) : ∃ i, i < s.classes.length /\ r.classes.getD i default = c' /\ r.classes[i]? = some c' /\ s.classes[i]? = some (s.classes.getD i default) := by
 obtain ⟨i, hi⟩ := List.getElem?_of_mem hc
 have hil := (List.getElem?_eq_some_iff.1 hi).1
 rw [h.nc] at hil
 refine ⟨i, hil, by rw [List.getD_eq_getElem?_getD, hi]; rfl, hi, ?_⟩
 rw [List.getD_eq_getElem?_getD, List.getElem?_eq_getElem hil]; rfl
theorem Wid2.imp (h : Wid2 s r) (hc : checkE s = 0) (hi : impO s = none) : impO r = none := by
 have hcr := h.toWid.check hc
 have hg := good_of hc
 unfold impO at hi ⊢
 rw [if_neg (by simp [hc])] at hi
 rw [if_neg (by simp [hcr])]
 rw [fstC_none] at hi ⊢
 intro c' hc' x hx
 obtain ⟨i, hil, e, _, es⟩ := h.toWid.clsOf hc'
 have hst := h.steps i
 rw [e] at hst
 rw [hst] at hx
 have hcm := List.mem_of_getElem? es
 have hb := hi _ hcm x hx
 have hp := (hg.cls _ hcm).pre x hx
 unfold impB at hb ⊢
 have h1 := h.size x.on.toNat
 have h2 := h.res x.on.toNat
 split at hb
 ·rename_i k1
  rw [if_pos k1]
  cases hdp : x.deep with
  | true => rfl
  | false =>
   rw [hdp] at hb
   simp only [Bool.not_false, Bool.true_and, decide_eq_false_iff_not] at hb ⊢
   omega
 ·rename_i k1
  rw [if_neg k1]
  split at hb
  ·rename_i k5
   rw [if_pos k5]
   obtain ⟨j, hj, hjl⟩ := cls_at hg hp k5
   rw [hj, Int.toNat_natCast] at hb ⊢
   simp only [decide_eq_false_iff_not] at hb ⊢
   exact fun hz => hb (h.zero j hjl hz)
  ·rename_i k5
   rw [if_neg k5]
theorem Wid2.wait (h : Wid2 s r) (hc : checkE s = 0) {x : PStep} (hw : waitB r x = true) : waitB s x = true := by
 unfold waitB at hw ⊢
 have h1 := h.size x.on.toNat
 have h2 := h.res x.on.toNat
 have d1 := h.toWid.dem hc x.on false
 have d2 := h.toWid.dem hc x.on true
 split at hw
 ·rename_i k; rw [if_pos k]
 rename_i k
 rw [if_neg k]
 split at hw
 ·rename_i k1
  rw [if_pos k1]
  simp only [Bool.and_eq_true, decide_eq_true_eq, Bool.not_eq_true', Bool.and_eq_false_iff, decide_eq_false_iff_not] at hw ⊢
  refine ⟨by omega, ?_⟩
  rcases hw.2 with h3 | h3
  ·exact .inl h3
  ·exact .inr (by omega)
 ·cases hw
theorem Wid.hold (h : Wid s r) {c c' : PCls} (hs : c'.server = c.server) (i : Nat) (L : List PStep) : holdL r c' i L = holdL s c i L := by
 unfold holdL balU balB hC
 rw [h.np, h.nl, hs]
theorem Wid.target (h : Wid s r) (x : PStep) : targetN r x = targetN s x := by unfold targetN; rw [h.np, h.nl]
theorem Wid2.edges (h : Wid2 s r) (hc : checkE s = 0) : ∀ e ∈ sysE r, ∃ e' ∈ sysE s, e'.src = e.src /\ e'.dst = e.dst := by
 intro e he
 obtain ⟨i, k, c', x, g1, g2, g3, g4, g5, g6, g7⟩ := (eFacts r).mem e he
 obtain ⟨j, hjl, ej, ejr, ejs⟩ := h.toWid.clsOf (List.mem_of_getElem? g1)
 have hil : i < s.classes.length := by rw [← h.nc]; exact (List.getElem?_eq_some_iff.1 g1).1
 have er : r.classes.getD i default = c' := by rw [List.getD_eq_getElem?_getD, g1]; rfl
 have es : s.classes[i]? = some (s.classes.getD i default) := by rw [List.getD_eq_getElem?_getD, List.getElem?_eq_getElem hil]; rfl
 have hst := h.steps i
 have hsv := h.server i
 rw [er] at hst hsv
 rw [hst] at g2 g7
 rw [h.toWid.hold hsv] at g7
 have := (eFacts s).has i k _ x e.src es g2 (h.wait hc g3) g7
 obtain ⟨e', h1, h2, h3⟩ := hasE_iff.1 this
 exact ⟨e', h1, h2, by rw [h3, g6, h.toWid.target]⟩
theorem Wid2.make (h : Wid2 s r) (hm : (makeO s).2 = 0) : (makeO r).2 = 0 := by
 by_cases hc : checkE s = 0
 case neg => rw [makeO_err hc] at hm; exact absurd hm hc
 cases hi : impO s with
 | some x => rw [makeO_imp hc (by rw [hi]; rfl)] at hm; cases hm
 | none =>
  cases hl : levV (nRes s) (sysE s) with
  | none => rw [makeO_dead hc hi hl] at hm; cases hm
  | some L =>
   have hcr := h.toWid.check hc
   have hir := h.imp hc hi
   obtain ⟨_, _, h3⟩ := lev_facts hc hl
   have hA : acyc (eF (sysE r)) := pot_acyc (f := fun v => L.getD v 0) fun e he => by
    obtain ⟨e', g1, g2, g3⟩ := h.edges hc e he
    have := h3 e' g1
    unfold PEdge.s PEdge.t at this ⊢
    rw [g2, g3] at this
    exact this
   obtain ⟨L', hl'⟩ := lev_ex hcr hA
   rw [makeO_ok hcr hir hl']
end
def decW (c : PCls) : PCls := if 1 < c.workers then { c with workers := c.workers - 1 } else c
def incP (p : PPool) : PPool := if p.size < 8 then { p with size := p.size + 1 } else p
def lessS (s : PSys) (i : Nat) : PSys := { s with classes := s.classes.set i (decW (s.classes.getD i default)) }
def moreS (s : PSys) (i : Nat) : PSys := { s with pools := s.pools.set i (incP (s.pools.getD i default)) }
def resS (s : PSys) (i : Nat) (n : Int) : PSys := { s with pools := s.pools.set i { s.pools.getD i default with res := n } }
end Go.AM
namespace Go.AM
open Go Go.Proofs
abbrev lvl (L : List Int) (r : Int) : Int := L.getD r.toNat 0
structure Cert (s : PSys) (L : List Int) : Prop where
 ok : checkE s = 0
 lo : ∀ r, 0 <= lvl L r /\ lvl L r <= 4096
 imp : ∀ c ∈ s.classes, ∀ x ∈ c.steps, impB s x = false
 fall : ∀ {i k : Nat} {c : PCls} {x : PStep} {f : Int}, s.classes[i]? = some c -> c.steps[k]? = some x -> waitB s x = true -> f ∈ holdL s c (i : Nat) (c.steps.take k) -> lvl L (targetN s x) < lvl L f
theorem cert_of {s : PSys} {L : List Int} (h : verN s L = 0) : Cert s L := by
 unfold verN at h
 by_cases h1 : checkE s = 0
 case neg => rw [if_pos h1] at h; exact absurd h h1
 rw [if_neg (by omega)] at h
 by_cases h2 : L.length ≠ nRes s ∨ L.any outI = true
 ·rw [if_pos h2] at h; simp at h
 rw [if_neg h2] at h
 by_cases h3 : (impO s).isSome = true
 ·rw [if_pos h3] at h; simp at h
 rw [if_neg h3] at h
 by_cases h4 : (sysE s).any (badV L) = true
 ·rw [if_pos h4] at h; simp at h
 have h5 : L.any outI = false := by
  rw [Bool.eq_false_iff]; exact fun h => h2 (.inr h)
 refine ⟨h1, fun r => ?_, ?_, ?_⟩
 ·unfold lvl
  rcases Nat.lt_or_ge r.toNat L.length with hr | hr
  ·have := List.any_eq_false.1 h5 (L.getD r.toNat 0) (by rw [List.getD_eq_getElem?_getD, List.getElem?_eq_getElem hr]; exact List.getElem_mem hr)
   unfold outI at this
   simp only [Bool.or_eq_true, decide_eq_true_eq] at this
   omega
  ·rw [List.getD_eq_getElem?_getD, List.getElem?_eq_none hr]; simp
 ·have h6 : impO s = none := by
   cases h7 : impO s with
   | none => rfl
   | some v => rw [h7] at h3; simp at h3
  unfold impO at h6
  rw [if_neg (by omega)] at h6
  exact fstC_none.1 h6
 ·intro i k c x f hc hx hw hf
  have h6 := edC_has s (i := 0) (L := s.classes) (acc := []) (j := i) hc hx hw (by simpa using hf)
  obtain ⟨e, he, e1, e2⟩ := hasE_iff.1 h6
  have h7 : badV L e = false := by
   rw [Bool.eq_false_iff]
   exact fun h => h4 (List.any_eq_true.2 ⟨e, he, h⟩)
  unfold badV at h7
  have h8 := of_decide_eq_false h7
  unfold PEdge.s PEdge.t at h8
  rw [e1, e2] at h8
  unfold lvl; omega
def hldF (s : PSys) (f : PFr) (r : Int) : Prop := r ∈ holdL s (clsAt s f) f.c ((clsAt s f).steps.take f.a.toNat)
theorem hld_unit {s : PSys} {f : PFr} {i : Nat} (hi : i < s.pools.length) (h : 0 < frU s i f) : hldF s f i := by
 unfold hldF holdL
 refine List.mem_append.2 (.inl (List.mem_append.2 (.inl (hU_mem.2 ⟨i, frU s i f, ?_, h, by simp⟩))))
 unfold balU
 rw [List.getElem?_map, List.getElem?_range hi]; rfl
theorem hld_lock {s : PSys} {f : PFr} {i : Nat} (hi : i < s.locks.length) (h : 0 < frL s i f) : hldF s f ((s.pools.length : Int) + i) := by
 unfold hldF holdL
 refine List.mem_append.2 (.inl (List.mem_append.2 (.inr (hB_mem.2 ⟨i, ?_, by simp⟩))))
 have h' : 0 < bal ((clsAt s f).steps.take f.a.toNat) (i : Int) 1 := h
 unfold balB
 rw [List.getElem?_map, List.getElem?_range hi, Option.map_some, decide_eq_true h']
theorem hld_cls {s : PSys} {f : PFr} (h : (clsAt s f).server = true) : hldF s f ((s.pools.length : Int) + s.locks.length + f.c) := by
 unfold hldF holdL hC
 rw [if_pos h]
 exact List.mem_append.2 (.inr (by simp))
theorem frm_at {s : PSys} {f : PFr} (h : frOk s f = true) : s.classes[f.c.toNat]? = some (clsAt s f) /\ (clsAt s f).steps[f.a.toNat]? = some (stepAtF s f) /\ ((f.c.toNat : Nat) : Int) = f.c := by
 obtain ⟨c1, c2, c3, c4⟩ := frOk_iff.1 h
 refine ⟨?_, ?_, by omega⟩
 ·unfold clsAt; rw [List.getD_eq_getElem?_getD, List.getElem?_eq_getElem (by omega)]; rfl
 ·unfold stepAtF; rw [List.getD_eq_getElem?_getD, List.getElem?_eq_getElem (by omega)]; rfl
theorem fall_fr {s : PSys} {L : List Int} (hC : Cert s L) {f : PFr} (h : frOk s f = true) {r : Int} (hr : hldF s f r) (hw : waitB s (stepAtF s f) = true) : lvl L (targetN s (stepAtF s f)) < lvl L r := by
 obtain ⟨h1, h2, h3⟩ := frm_at h
 exact hC.fall h1 h2 hw (by rw [h3]; exact hr)
theorem call_target {s : PSys} {y : PStep} (h : y.kind = 5) : waitB s y = true /\ targetN s y = (s.pools.length : Int) + s.locks.length + y.on := by
 unfold waitB targetN
 rw [if_pos (.inr h), if_neg (by omega), if_pos h]
 exact ⟨rfl, rfl⟩
end Go.AM
namespace Go.AM
open Go Go.Proofs
theorem calls_iff {s : PSys} {g f : PFr} (h : callsB s g f = true) : (stepAtF s g).kind = 5 /\ (stepAtF s g).on = f.c := by
 unfold callsB at h
 rw [Bool.and_eq_true, decide_eq_true_eq, decide_eq_true_eq] at h
 exact h
theorem srv_true {s : PSys} {f : PFr} (h : srv s f = 1) : (clsAt s f).server = true := by
 unfold srv at h
 split at h
 ·assumption
 ·cases h
theorem chain_lev {s : PSys} {L : List Int} (hC : Cert s L) (hg : s.good) : ∀ (r : List PFr) (f : PFr), chn s (f :: r) -> waitB s (stepAtF s f) = true -> ∀ q ∈ f :: r, ∀ ρ, hldF s q ρ -> lvl L (targetN s (stepAtF s f)) < lvl L ρ
 | [], f, h, hw, q, hq, ρ, hr => by
  rw [List.mem_singleton.1 hq] at hr
  exact fall_fr hC (chn_ok h f (by simp)) hr hw
 | g :: r, f, h, hw, q, hq, ρ, hr => by
  have hfo : frOk s f = true := chn_ok h f (by simp)
  rcases List.mem_cons.1 hq with rfl | hq
  ·exact fall_fr hC hfo hr hw
  ·have hgo : frOk s g = true := chn_ok h.2.2 g (by simp)
   obtain ⟨k1, k2⟩ := calls_iff h.2.1
   obtain ⟨t1, t2⟩ := call_target (s := s) k1
   have h1 := chain_lev hC hg r g h.2.2 t1 q hq ρ hr
   have h2 := fall_fr hC hfo (hld_cls (srv_true (call_srv hg hgo h.2.1))) hw
   rw [t2, k2] at h1
   exact Int.lt_trans h2 h1
def flev (s : PSys) (L : List Int) (f : PFr) : Nat := if (clsAt s f).server = true then (lvl L ((s.pools.length : Int) + s.locks.length + f.c)).toNat else 4097
theorem flev_lt {s : PSys} {L : List Int} (hC : Cert s L) (hg : s.good) {g f : PFr} (hgo : frOk s g = true) (h : callsB s g f = true) : flev s L f < flev s L g := by
 obtain ⟨k1, k2⟩ := calls_iff h
 obtain ⟨t1, t2⟩ := call_target (s := s) k1
 have hs := srv_true (call_srv hg hgo h)
 have h1 := hC.lo ((s.pools.length : Int) + s.locks.length + f.c)
 unfold flev
 rw [if_pos hs]
 by_cases h2 : (clsAt s g).server = true
 ·rw [if_pos h2]
  have h3 := fall_fr hC hgo (hld_cls h2) t1
  rw [t2, k2] at h3
  omega
 ·rw [if_neg h2]; omega
def lft (s : PSys) (k : Nat) (f : PFr) : Nat := (clsAt s f).steps.length - f.a.toNat - k
def remR (s : PSys) (L : List Int) : Nat -> List PFr -> Nat
 | _, [] => 0
 | k, f :: r => lft s k f * 13 ^ flev s L f + remR s L 1 r
def staB (l : List PFr) : Bool := match l with
 | [f] => decide (f.a = 0)
 | _ => false
def remS (s : PSys) (L : List Int) (l : List PFr) : Nat := if staB l = true then 0 else remR s L 0 l.reverse
theorem len12 {s : PSys} (hg : s.good) {f : PFr} (h : frOk s f = true) : (clsAt s f).steps.length <= 12 := (hg.cls _ (cls_mem h)).l12
theorem up_less {s : PSys} {L : List Int} (hg : s.good) : ∀ (r : List PFr) (f : PFr), chn s (f :: r) -> (∃ c, upR s (f :: r) = [⟨c, 0⟩]) ∨ remR s L 0 (upR s (f :: r)) < remR s L 0 (f :: r)
 | [], f, h => by
  have hfo : frOk s f = true := chn_ok h f (by simp)
  obtain ⟨c1, c2, c3, c4⟩ := frOk_iff.1 hfo
  unfold upR
  split
  ·rename_i h1
   refine .inr ?_
   simp only [remR, Nat.add_zero]
   have e : flev s L ⟨f.c, f.a + 1⟩ = flev s L f := rfl
   rw [e]
   refine Nat.mul_lt_mul_of_pos_right ?_ (Nat.pow_pos (by decide))
   show (clsAt s f).steps.length - (f.a + 1).toNat - 0 < (clsAt s f).steps.length - f.a.toNat - 0
   omega
  ·exact .inl ⟨f.c, rfl⟩
 | g :: r, f, h => by
  have hfo : frOk s f = true := chn_ok h f (by simp)
  have hgo : frOk s g = true := chn_ok h.2.2 g (by simp)
  obtain ⟨c1, c2, c3, c4⟩ := frOk_iff.1 hfo
  have hpf : 0 < 13 ^ flev s L f := Nat.pow_pos (by decide)
  unfold upR
  split
  ·rename_i h1
   refine .inr ?_
   simp only [remR]
   have e : flev s L ⟨f.c, f.a + 1⟩ = flev s L f := rfl
   rw [e]
   refine Nat.add_lt_add_right (Nat.mul_lt_mul_of_pos_right ?_ hpf) _
   show (clsAt s f).steps.length - (f.a + 1).toNat - 0 < (clsAt s f).steps.length - f.a.toNat - 0
   omega
  ·have hpos : 0 < lft s 0 f * 13 ^ flev s L f := Nat.mul_pos (by unfold lft; omega) hpf
   have low : ∀ (r : List PFr) (g : PFr), chn s (g :: r) -> (∃ c, upR s (g :: r) = [⟨c, 0⟩]) ∨ remR s L 0 (upR s (g :: r)) <= remR s L 1 (g :: r) := by
    intro r
    induction r with
    | nil =>
     intro g hc
     obtain ⟨d1, d2, d3, d4⟩ := frOk_iff.1 (chn_ok hc g (by simp))
     unfold upR
     split
     ·refine .inr ?_
      simp only [remR, Nat.add_zero]
      have e : flev s L ⟨g.c, g.a + 1⟩ = flev s L g := rfl
      rw [e]
      refine Nat.mul_le_mul_right _ ?_
      show (clsAt s g).steps.length - (g.a + 1).toNat - 0 <= (clsAt s g).steps.length - g.a.toNat - 1
      omega
     ·exact .inl ⟨g.c, rfl⟩
    | cons g' r ih =>
     intro g hc
     obtain ⟨d1, d2, d3, d4⟩ := frOk_iff.1 (chn_ok hc g (by simp))
     unfold upR
     split
     ·refine .inr ?_
      simp only [remR]
      have e : flev s L ⟨g.c, g.a + 1⟩ = flev s L g := rfl
      rw [e]
      refine Nat.add_le_add_right (Nat.mul_le_mul_right _ ?_) _
      show (clsAt s g).steps.length - (g.a + 1).toNat - 0 <= (clsAt s g).steps.length - g.a.toNat - 1
      omega
     ·rcases ih g' hc.2.2 with h2 | h2
      ·exact .inl h2
      ·exact .inr (Nat.le_trans h2 (Nat.le_add_left _ _))
   rcases low r g h.2.2 with h2 | h2
   ·exact .inl h2
   ·refine .inr ?_
    show remR s L 0 (upR s (g :: r)) < lft s 0 f * 13 ^ flev s L f + remR s L 1 (g :: r)
    omega
theorem call_less {s : PSys} {L : List Int} (hC : Cert s L) (hg : s.good) {f : PFr} {r : List PFr} (h : chn s (f :: r)) (hk : (stepAtF s f).kind = 5) : remR s L 0 (⟨(stepAtF s f).on, 0⟩ :: f :: r) < remR s L 0 (f :: r) := by
 have hfo : frOk s f = true := chn_ok h f (by simp)
 obtain ⟨c1, c2, c3, c4⟩ := frOk_iff.1 hfo
 have hn := frOk_call hg (step_mem hg hfo) hk
 have hb : callsB s f ⟨(stepAtF s f).on, 0⟩ = true := by unfold callsB; rw [hk]; simp
 have hl := flev_lt hC hg hfo hb
 have h12 := len12 hg hn
 simp only [remR]
 generalize hn' : (⟨(stepAtF s f).on, 0⟩ : PFr) = n at *
 have hpn : 0 < 13 ^ flev s L n := Nat.pow_pos (by decide)
 have h1 : lft s 0 n * 13 ^ flev s L n < 13 ^ flev s L f := by
  refine Nat.lt_of_lt_of_le (m := 13 ^ (flev s L n + 1)) ?_ (Nat.pow_le_pow_right (by decide) hl)
  rw [Nat.pow_succ, Nat.mul_comm (13 ^ flev s L n) 13]
  refine Nat.mul_lt_mul_of_pos_right ?_ hpn
  unfold lft; omega
 have h2 : lft s 0 f = lft s 1 f + 1 := by unfold lft; omega
 rw [h2, Nat.add_mul, Nat.one_mul]
 omega
theorem take_less {s : PSys} {L : List Int} (hC : Cert s L) (hg : s.good) {l : List PFr} {c : Nat} (h : formedB s l c = true) (hs : staB l = false) : remS s L (takeS s l) < remS s L l := by
 obtain ⟨h0, _, hc⟩ := formed_iff.1 h
 obtain ⟨r, hr⟩ := rv_top h0
 rw [hr] at hc
 unfold remS
 rw [show (if staB l = true then 0 else remR s L 0 l.reverse) = remR s L 0 l.reverse from if_neg (by rw [hs]; decide)]
 split
 ·
  rw [hr]
  have hfo : frOk s (topF l) = true := chn_ok hc _ (by simp)
  obtain ⟨c1, c2, c3, c4⟩ := frOk_iff.1 hfo
  simp only [remR]
  have : 0 < lft s 0 (topF l) * 13 ^ flev s L (topF l) := Nat.mul_pos (by unfold lft; omega) (Nat.pow_pos (by decide))
  omega
 ·rename_i hst
  unfold takeS at hst ⊢
  by_cases hk : (stepAtF s (topF l)).kind = 5
  ·rw [if_pos hk, List.reverse_append, List.reverse_singleton, List.singleton_append, hr]
   exact call_less hC hg hc hk
  ·rw [if_neg hk] at hst ⊢
   rw [hr] at hst ⊢
   rcases up_less (L := L) hg r (topF l) hc with ⟨c', h2⟩ | h2
   ·rw [h2] at hst; simp [staB] at hst
   ·rw [List.reverse_reverse]; exact h2
end Go.AM
namespace Go.AM
open Go Go.Proofs
theorem deep_ok {s : PSys} {c : PCls} (hc : c.good s) (i : Nat) : ∀ k, k <= c.steps.length -> 0 <= (ownU i (c.steps.take k)).2 /\ (ownU i (c.steps.take k)).2 <= (ownU i (c.steps.take k)).1
 | 0, _ => by simp [ownU]
 | k + 1, h => by
  have ih := deep_ok hc i k (by omega)
  have hu := run_unit hc h i
  rw [← ownU_bal] at hu
  have hsn : c.steps.take (k + 1) = c.steps.take k ++ [c.steps[k]'(by omega)] := by rw [List.take_succ_eq_append_getElem]
  rw [hsn, ownU_snoc] at hu ⊢
  have hp := hc.pre _ (List.getElem_mem (l := c.steps) (n := k) (by omega))
  obtain ⟨_, _, hcnt, hcnt0⟩ := preE_0 hp
  generalize c.steps[k]'(by omega) = x at *
  generalize ownU i (c.steps.take k) = p at *
  unfold ustep at *
  by_cases h1 : x.on = (i : Int)
  ·rw [if_pos h1] at *
   by_cases h2 : x.kind = 1
   ·rw [if_pos h2] at *
    have := hcnt (.inl h2)
    simp only at *
    split <;> omega
   ·rw [if_neg h2] at *
    by_cases h3 : x.kind = 2
    ·rw [if_pos h3] at *
     have := hcnt (.inr h3)
     simp only at *
     omega
    ·rw [if_neg h3] at *; exact ih
  ·rw [if_neg h1] at *; exact ih
def shl (s : PSys) (i : Nat) (f : PFr) : Int := (ownU i ((clsAt s f).steps.take f.a.toNat)).1 - (ownU i ((clsAt s f).steps.take f.a.toNat)).2
def effS (i : Nat) (y : PStep) : Int := if y.on = i /\ y.kind = 1 /\ y.deep = false then y.cnt else 0
theorem shl_next {s : PSys} (hg : s.good) {f : PFr} (h : frOk s f = true) (i : Nat) : 0 <= shl s i ⟨f.c, f.a + 1⟩ /\ shl s i ⟨f.c, f.a + 1⟩ <= shl s i f + effS i (stepAtF s f) := by
 obtain ⟨c1, c2, c3, c4⟩ := frOk_iff.1 h
 have hd := deep_ok (hg.cls _ (cls_mem h)) i (f.a + 1).toNat (by omega)
 refine ⟨by show 0 <= (ownU i ((clsAt s f).steps.take (f.a + 1).toNat)).1 - (ownU i ((clsAt s f).steps.take (f.a + 1).toNat)).2; omega, ?_⟩
 show (ownU i ((clsAt s f).steps.take (f.a + 1).toNat)).1 - (ownU i ((clsAt s f).steps.take (f.a + 1).toNat)).2 <= _
 rw [take_next h, ownU_snoc]
 unfold shl
 have hp := preE_0 (step_mem hg h)
 generalize ownU i ((clsAt s f).steps.take f.a.toNat) = p at *
 generalize stepAtF s f = x at *
 unfold ustep effS
 by_cases h1 : x.on = (i : Int)
 ·rw [if_pos h1]
  by_cases h2 : x.kind = 1
  ·rw [if_pos h2]
   cases h3 : x.deep with
   | true =>
    have e2 : (if x.on = (i : Int) /\ x.kind = 1 /\ true = false then x.cnt else 0) = 0 := if_neg (fun h => by cases h.2.2)
    rw [e2]
    simp only [if_true]
    omega
   | false =>
    have e2 : (if x.on = (i : Int) /\ x.kind = 1 /\ false = false then x.cnt else 0) = x.cnt := if_pos ⟨h1, h2, rfl⟩
    rw [e2]
    simp only [Bool.false_eq_true, if_false]
    omega
  ·have e2 : (if x.on = (i : Int) /\ x.kind = 1 /\ x.deep = false then x.cnt else 0) = 0 := if_neg (fun h => h2 h.2.1)
   rw [e2, if_neg h2]
   by_cases h3 : x.kind = 2
   ·rw [if_pos h3]
    have := hp.2.2.1 (.inr h3)
    simp only
    omega
   ·rw [if_neg h3]; omega
 ·have e2 : (if x.on = (i : Int) /\ x.kind = 1 /\ x.deep = false then x.cnt else 0) = 0 := if_neg (fun h => h1 h.1)
  rw [e2, if_neg h1]; omega
theorem up_leS {s : PSys} {G : PFr -> Int} {E : PStep -> Int} (hnext : ∀ f, frOk s f = true -> 0 <= G ⟨f.c, f.a + 1⟩ /\ G ⟨f.c, f.a + 1⟩ <= G f + E (stepAtF s f)) (hzero : ∀ c, G ⟨c, 0⟩ = 0) (hcall : ∀ y : PStep, y.kind = 5 -> E y = 0) :
  ∀ (r : List PFr) (f : PFr), chn s (f :: r) -> sumI G (upR s (f :: r)) <= sumI G (f :: r) + E (stepAtF s f)
 | [], f, h => by
  obtain ⟨h1, h2⟩ := hnext f (chn_ok h f (by simp))
  unfold upR
  split
  ·rw [sumI_cons, sumI_cons]; omega
  ·rw [sumI_cons, sumI_cons, hzero]; omega
 | g :: r, f, h => by
  obtain ⟨h1, h2⟩ := hnext f (chn_ok h f (by simp))
  unfold upR
  split
  ·have e1 := sumI_cons G ⟨f.c, f.a + 1⟩ (g :: r)
   have e2 := sumI_cons G f (g :: r)
   omega
  ·have ih := up_leS hnext hzero hcall r g h.2.2
   rw [hcall _ (calls_iff h.2.1).1] at ih
   have e := sumI_cons G f (g :: r)
   show sumI G (upR s (g :: r)) <= _
   omega
theorem sumI_rv (G : PFr -> Int) : ∀ l : List PFr, sumI G l.reverse = sumI G l
 | [] => rfl
 | f :: l => by rw [List.reverse_cons, sumI_snoc, sumI_rv G l, sumI_cons]; omega
theorem takeS_leS {s : PSys} {G : PFr -> Int} {E : PStep -> Int} (hnext : ∀ f, frOk s f = true -> 0 <= G ⟨f.c, f.a + 1⟩ /\ G ⟨f.c, f.a + 1⟩ <= G f + E (stepAtF s f)) (hzero : ∀ c, G ⟨c, 0⟩ = 0) (hcall : ∀ y : PStep, y.kind = 5 -> E y = 0)
  {l : List PFr} {c : Nat} (h : formedB s l c = true) : sumI G (takeS s l) <= sumI G l + E (stepAtF s (topF l)) := by
 obtain ⟨h0, _, hc⟩ := formed_iff.1 h
 obtain ⟨r, hr⟩ := rv_top h0
 rw [hr] at hc
 unfold takeS
 split
 ·rename_i hk
  rw [sumI_snoc, hzero, hcall _ hk]; omega
 ·rw [sumI_rv, hr, ← sumI_rv G l, hr]
  exact up_leS hnext hzero hcall r (topF l) hc
def DpInv (s : PSys) (x : PSt) : Prop := ∀ i, i < s.pools.length -> sumI (shl s i) (frames x) <= (s.pools.getD i default).size - (s.pools.getD i default).res
theorem pool_ok {s : PSys} (hg : s.good) {i : Nat} (hi : i < s.pools.length) : ¬ (s.pools.getD i default).bad := hg.pool _ (by rw [List.getD_eq_getElem?_getD, List.getElem?_eq_getElem hi]; exact List.getElem_mem _)
theorem dp_ini {s : PSys} (hc : checkE s = 0) : DpInv s (iniX s) := by
 intro i hi
 have hb := pool_ok (good_of hc) hi
 unfold PPool.bad at hb
 have : sumI (shl s i) (frames (iniX s)) = 0 := by
  unfold iniX
  rw [sum_ini (fun c _ => by simp [shl, ownU]) _ fun c hc => hc]
 rw [this]; omega
theorem sumI_leM {G M : PFr -> Int} : ∀ {L : List PFr}, (∀ f ∈ L, G f <= M f) -> sumI G L <= sumI M L
 | [], _ => Int.le_refl _
 | f :: L, h => by
  rw [sumI_cons, sumI_cons]
  have h1 := h f (List.mem_cons_self ..)
  have h2 := sumI_leM (L := L) fun g hg => h g (List.mem_cons_of_mem _ hg)
  omega
theorem own_frU (s : PSys) (i : Nat) (f : PFr) : (ownU i ((clsAt s f).steps.take f.a.toNat)).1 = frU s i f := ownU_bal _ _
theorem dp_take {s : PSys} {x : PSt} (hc : checkE s = 0) (hV : Valid s x) (hD : DpInv s x) {w : Nat} (hw : w < x.length) (ha : ableB s x w = true) : DpInv s (takeX s x w) := by
 intro i hi
 have hV2 := val_take hV hw ha
 obtain ⟨c, _, hfm⟩ := val_formed hV hw
 have htop : stepAtF s (topF (x.getD w [])) = topS s x w := rfl
 by_cases hy : (topS s x w).on = i /\ (topS s x w).kind = 1 /\ (topS s x w).deep = false
 ·
  obtain ⟨h1, h2, h3⟩ := hy
  have hs := val_sumU hV hw hi
  have hle : sumI (shl s i) (frames (takeX s x w)) <= sumI (frU s i) (frames (takeX s x w)) := sumI_leM fun f hf => by
   have hfo := hV2.frames f hf
   obtain ⟨c1, c2, c3, c4⟩ := frOk_iff.1 hfo
   have hd := deep_ok (hV.good.cls _ (cls_mem hfo)) i f.a.toNat (by omega)
   unfold shl
   rw [own_frU] at *
   omega
  unfold ableB posB at ha
  rw [if_pos h2] at ha
  simp only [h3, Bool.false_and, Bool.false_or, decide_eq_true_eq, h1, Int.toNat_natCast] at ha
  have he : effU i (topS s x w) = (topS s x w).cnt := by unfold effU; rw [if_pos h1, if_pos h2]
  omega
 ·have he : effS i (topS s x w) = 0 := if_neg hy
  have h1 := takeS_leS (G := shl s i) (E := effS i) (fun f h => shl_next hV.good h i) (fun c => by simp [shl, ownU]) (fun y h => by unfold effS; rw [if_neg (by rw [h]; intro h; exact absurd h.2.1 (by decide))]) hfm
  rw [htop, he] at h1
  have h2 := hD i hi
  unfold takeX
  rw [frames_set _ _ _ _ hw]
  omega
end Go.AM

