/- Own work over the model of the kit. -/
import Derived.Test.YtholibdhogbobaaC18
import Derived.Test.YtholibdhogbobaaC17
set_option linter.unusedSimpArgs false
set_option linter.unusedVariables false
namespace Go.AM
open Go Go.Proofs

def acyc (E : List (Nat × Nat)) : Prop := ∀ k v, ¬ Wk E (k + 1) v v
theorem wk_short {E : List (Nat × Nat)} {n : Nat} (hE : ∀ p ∈ E, p.2 < n) (hA : acyc E) : ∀ {k a v : Nat}, a < n → Wk E k a v → k < n := by
  have key : ∀ (k a v : Nat), a < n → Wk E k a v → ∃ L : List Nat, L.length = k + 1 ∧ L.Nodup ∧ v < n ∧ ∀ x ∈ L, x < n ∧ ∃ m, Wk E m x v := by
    intro k
    induction k with
    | zero => intro a v ha h; cases h; exact ⟨[a], rfl, by simp, ha, fun x hx => by simp at hx; subst hx; exact ⟨ha, 0, rfl⟩⟩
    | succ k ih =>
      rintro a v ha ⟨u, hu, hw⟩
      obtain ⟨L, h1, h2, h3, h4⟩ := ih a u ha hw
      refine ⟨v :: L, by simp [h1], List.nodup_cons.2 ⟨fun hm => ?_, h2⟩, hE _ hu, fun x hx => ?_⟩
      · obtain ⟨_, m, hm⟩ := h4 v hm
        exact hA m v ⟨u, hu, hm⟩
      · rcases List.mem_cons.1 hx with rfl | hx
        · exact ⟨hE _ hu, 0, rfl⟩
        · obtain ⟨g1, m, g2⟩ := h4 x hx
          exact ⟨g1, m + 1, u, hu, g2⟩
  intro k a v ha h
  obtain ⟨L, h1, h2, _, h4⟩ := key k a v ha h
  have := nodup_le h2 (fun x hx => (h4 x hx).1)
  omega
theorem top_ex (P : Nat → Prop) : ∀ (n : Nat), P 0 → ∃ m, P m ∧ (m = 0 ∨ m < n) ∧ ∀ k, k < n → P k → k ≤ m
  | 0, h => ⟨0, h, .inl rfl, fun k hk => by omega⟩
  | n + 1, h => by
    by_cases hn : P n
    · exact ⟨n, hn, .inr (by omega), fun k hk _ => by omega⟩
    · obtain ⟨m, h1, h2, h3⟩ := top_ex P n h
      refine ⟨m, h1, by omega, fun k hk hp => ?_⟩
      by_cases e : k = n
      · subst e; exact absurd hp hn
      · exact h3 k (by omega) hp
theorem isLev_of_acyc {n : Nat} {l : List PEdge} (hg : GOk n l) (hA : acyc (eF l)) : ∃ f, IsLev n l f := by
  let f : Nat → Nat := fun v => Classical.choose (top_ex (fun k => ∃ u, Wk (eF l) k v u) n ⟨v, rfl⟩)
  have hf : ∀ v, (∃ u, Wk (eF l) (f v) v u) ∧ ∀ k, k < n → (∃ u, Wk (eF l) k v u) → k ≤ f v := fun v => by
    have := Classical.choose_spec (top_ex (fun k => ∃ u, Wk (eF l) k v u) n ⟨v, rfl⟩)
    exact ⟨this.1, this.2.2⟩
  have hdown : ∀ e ∈ l, f e.t < f e.s := fun e he => by
    obtain ⟨u, hu⟩ := (hf e.t).1
    have hw := Wk_cons (List.mem_map.2 ⟨e, he, rfl⟩ : (e.s, e.t) ∈ eF l) hu
    have := (hf e.s).2 _ (wk_short hg.eFlt hA (hg.src e he).2 hw) ⟨u, hw⟩
    omega
  refine ⟨f, hdown, fun v hv => ?_⟩
  by_cases h0 : f v = 0
  · exact .inl h0
  · obtain ⟨u, hu⟩ := (hf v).1
    obtain ⟨m, hm⟩ : ∃ m, f v = m + 1 := ⟨f v - 1, by omega⟩
    rw [hm] at hu
    obtain ⟨b, hb, hw⟩ := Wk_first hu
    obtain ⟨e, he, h2⟩ := List.mem_map.1 hb
    cases h2
    refine .inr ⟨e, he, rfl, ?_⟩
    have h1 := hdown e he
    have h3 := (hf e.t).2 m (by have := wk_short hg.eFlt hA (hg.dst e he).2 hw; omega) ⟨u, hw⟩
    omega
theorem pot_acyc {l : List PEdge} {f : Nat → Nat} (hf : ∀ e ∈ l, f e.t < f e.s) : acyc (eF l) := by
  have key : ∀ k a v, Wk (eF l) k a v → f v + k ≤ f a := by
    intro k
    induction k with
    | zero => intro a v h; cases h; omega
    | succ k ih =>
      rintro a v ⟨u, hu, hw⟩
      obtain ⟨e, he, h2⟩ := List.mem_map.1 hu
      cases h2
      have := ih a e.s hw
      have := hf e he
      omega
  intro k v h
  have := key _ _ _ h
  omega
theorem acyc_cyc {l : List PEdge} : acyc (eF l) ↔ cycL l l.length = none := by
  have hc := cycL_is (l := l) l.length
  constructor
  · intro hA
    cases h : cycL l l.length with
    | none => rfl
    | some c =>
      rw [h] at hc
      obtain ⟨i, h1, h2, _⟩ := hc
      exact absurd (Wk_cons (eF_get h1) (sd_wk h2)) (hA _ _)
  · intro h k v hw
    rw [h] at hc
    simp only at hc
    obtain ⟨b, hb, hw⟩ := Wk_first hw
    obtain ⟨i, h1, h2, h3⟩ := eF_ex hb
    have := hc i h1
    unfold back at this
    rw [h2, h3] at this
    exact (sd_neg this).2 k hw
theorem lev_iff {n : Nat} {l : List PEdge} (hg : GOk n l) : (levV n l).isSome = (cycL l l.length).isNone := by
  have hEt : ∀ e ∈ l, e.t < n := fun e he => (hg.dst e he).2
  by_cases hA : acyc (eF l)
  · obtain ⟨f, hf⟩ := isLev_of_acyc hg hA
    rw [levV_some hEt hf, acyc_cyc.1 hA]; rfl
  · have h1 : levV n l = none := levV_none fun ⟨f, hf⟩ => hA (pot_acyc hf)
    have h2 : cycL l l.length ≠ none := fun h => hA (acyc_cyc.2 h)
    rw [h1]
    cases h : cycL l l.length with
    | none => exact absurd h h2
    | some c => rfl
theorem cycV_len {l : List PEdge} : (cycV l).length = 0 ↔ cycL l l.length = none := by
  unfold cycV
  have hc := cycL_is (l := l) l.length
  cases h : cycL l l.length with
  | none => simp
  | some c =>
    rw [h] at hc
    obtain ⟨i, h1, h2, h3, _⟩ := hc
    have := cycOf_len h2
    simp only [Option.getD_some, reduceCtorEq, iff_false]
    rw [h3]; omega
end Go.AM

namespace Go.AM
open Go Go.Proofs

structure LR (n : Nat) (l : List PEdge) (out : List Nat) (r : Nat) (P : List PEdge) (more : Bool) : Prop where
  len : out.length = n
  walk : ∀ v, v < n → ∃ u, Wk (eF l) (out.getD v 0) v u
  comp : ∀ v j u, v < n → j ≤ r → Wk (eF l) j v u → j ≤ out.getD v 0
  done : ∀ e ∈ P, ∀ j u, j ≤ r → Wk (eF l) j e.t u → j + 1 ≤ out.getD e.s 0
  flat : more = false → ∀ e ∈ P, out.getD e.t 0 < out.getD e.s 0
  cyc : more = true → n ≤ r → ¬ acyc (eF l)
  ub : ∀ v, v < n → out.getD v 0 ≤ r * l.length + P.length
theorem LR.init {n : Nat} {l : List PEdge} : LR n l (List.replicate n 0) 0 [] false where
  len := by simp
  walk v hv := ⟨v, by simp [List.getD_eq_getElem?_getD, List.getElem?_replicate, hv]; rfl⟩
  comp v j u hv hj h := by omega
  done e he := by cases he
  flat _ e he := by cases he
  cyc h := by cases h
  ub v hv := by simp [List.getD_eq_getElem?_getD, List.getElem?_replicate, hv]
section
variable {n r : Nat} {l P : List PEdge} {out : List Nat} {more : Bool} {e : PEdge}
theorem LR.keep (h : LR n l out r P more) (hg : GOk n l) (he : e ∈ l) (hlt : ¬ out.getD e.s 0 < out.getD e.t 0 + 1) : LR n l out r (P ++ [e]) more := by
  refine { h with done := fun x hx j u hj hw => ?_, flat := fun hm x hx => ?_, ub := fun v hv => ?_ }
  · rcases List.mem_append.1 hx with hx | hx
    · exact h.done x hx j u hj hw
    · simp at hx; subst hx
      have := h.comp x.t j u (hg.dst x he).2 hj hw
      omega
  · rcases List.mem_append.1 hx with hx | hx
    · exact h.flat hm x hx
    · simp at hx; subst hx; omega
  · have := h.ub v hv; rw [List.length_append]; omega
theorem LR.lift (h : LR n l out r P more) (hg : GOk n l) (he : e ∈ l) (hlt : out.getD e.s 0 < out.getD e.t 0 + 1) : LR n l (out.set e.s (out.getD e.t 0 + 1)) r (P ++ [e]) true := by
  have hs := (hg.src e he).2
  have ht := (hg.dst e he).2
  have hgv : ∀ v, (out.set e.s (out.getD e.t 0 + 1)).getD v 0 = if e.s = v then out.getD e.t 0 + 1 else out.getD v 0 := fun v => by
    rw [getD_set']
    by_cases h2 : e.s = v
    · rw [if_pos ⟨h2, by rw [h.len]; exact hs⟩, if_pos h2]
    · rw [if_neg (fun hh => h2 hh.1), if_neg h2]
  have hup : ∀ v, out.getD v 0 ≤ (out.set e.s (out.getD e.t 0 + 1)).getD v 0 := fun v => by
    rw [hgv]; split
    · rename_i h2; subst h2; omega
    · omega
  have hmem : (e.s, e.t) ∈ eF l := List.mem_map.2 ⟨e, he, rfl⟩
  refine ⟨by simp [h.len], fun v hv => ?_, fun v j u hv hj hw => Nat.le_trans (h.comp v j u hv hj hw) (hup v), fun x hx j u hj hw => ?_, fun hm => (by cases hm), fun _ hr hA => ?_, fun v hv => ?_⟩
  · rw [hgv]
    split
    · rename_i h2; subst h2
      obtain ⟨u, hu⟩ := h.walk e.t ht
      exact ⟨u, Wk_cons hmem hu⟩
    · exact h.walk v hv
  · rcases List.mem_append.1 hx with hx | hx
    · exact Nat.le_trans (h.done x hx j u hj hw) (hup x.s)
    · simp at hx; subst hx
      rw [hgv, if_pos rfl]
      have := h.comp x.t j u ht hj hw
      omega
  · obtain ⟨u, hu⟩ := h.walk e.t ht
    have hw := Wk_cons hmem hu
    have h1 := wk_short hg.eFlt hA hs hw
    have := h.comp e.s _ u hs (by omega) hw
    omega
  · rw [hgv]
    have h1 := h.ub e.t ht
    have h2 := h.ub v hv
    rw [List.length_append, List.length_singleton]
    split <;> omega
theorem LR.next (h : LR n l out r l more) (hE : ∀ e ∈ l, e.s < n) : LR n l out (r + 1) [] false where
  len := h.len
  walk := h.walk
  comp v j u hv hj hw := by
    cases j with
    | zero => omega
    | succ j =>
      obtain ⟨b, hb, hw⟩ := Wk_first hw
      obtain ⟨e, he, h2⟩ := List.mem_map.1 hb
      cases h2
      exact h.done e he j u (by omega) hw
  done e he := by cases he
  flat _ e he := by cases he
  cyc h := by cases h
  ub v hv := by have := h.ub v hv; rw [Nat.succ_mul, List.length_nil]; omega
theorem LR.stop (h : LR n l out r l false) (hg : GOk n l) : levV n l = some out := by
  have hd := h.flat rfl
  have hA := pot_acyc (f := fun v => out.getD v 0) hd
  have pot : ∀ k a v, Wk (eF l) k a v → k ≤ out.getD a 0 := by
    have key : ∀ k a v, Wk (eF l) k a v → out.getD v 0 + k ≤ out.getD a 0 := by
      intro k
      induction k with
      | zero => intro a v h; cases h; omega
      | succ k ih =>
        rintro a v ⟨u, hu, hw⟩
        obtain ⟨e, he, h2⟩ := List.mem_map.1 hu
        cases h2
        have := ih a e.s hw
        have := hd e he
        omega
    intro k a v hw
    have := key k a v hw
    omega
  have hl : IsLev n l fun v => out.getD v 0 := ⟨hd, fun v hv => by
    by_cases h0 : out.getD v 0 = 0
    · exact .inl h0
    · obtain ⟨u, hu⟩ := h.walk v hv
      obtain ⟨m, hm⟩ : ∃ m, out.getD v 0 = m + 1 := ⟨out.getD v 0 - 1, by omega⟩
      rw [hm] at hu
      obtain ⟨b, hb, hw⟩ := Wk_first hu
      obtain ⟨e, he, h2⟩ := List.mem_map.1 hb
      cases h2
      have h3 := pot m e.t u hw
      have h4 := hd e he
      exact .inr ⟨e, he, rfl, by omega⟩⟩
  rw [levV_some (fun e he => (hg.dst e he).2) hl]
  congr 1
  refine List.ext_getElem (by simp [h.len]) fun i h1 h2 => ?_
  simp [List.getD_eq_getElem?_getD, List.getElem?_eq_getElem h2]
theorem levV_cyc {n : Nat} {l : List PEdge} (h : ¬ acyc (eF l)) : levV n l = none := levV_none fun ⟨f, hf⟩ => h (pot_acyc hf)
end
end Go.AM

set_option maxRecDepth 8000
set_option maxHeartbeats 2000000
namespace Go.AM
open Go Go.Proofs

abbrev tabRV : List (Nat × Contract) := [(58, dataC gchkR)]
theorem tabRV_ok : OkG Try.prog (tbl tabRV) := okG_cons rgcheck_ok okG_nil
theorem rlevels_ok : OkF Try.prog 34 (dataC levelsR) := by
  refine okF_data Try.func34 rfl (by decide) ?_
  rintro ds v ⟨n, l, rfl, hll, rfl⟩
  refine sem_of_awp (Γ := tbl tabRV) tabRV_ok _ _ _ ?_
  simp only [go_sem, Int.reduceEq, Int.reduceLT, Int.reduceLE, eq_self, Int.natCast_nonneg, Int.toNat_natCast, Try.ntmps34]
  refine call_data gchkR (by simp) [.int .i64 n, .sl (some 4) (edgesD l)] _ rfl ⟨n, l, rfl, hll, rfl⟩ (.inl rfl) ?_
  by_cases h : gE n l = 0
  case neg =>
    unfold levelsVv
    rw [if_pos h]
    simp only [go_sem, Int.reduceEq, Int.reduceLT, Int.reduceLE, eq_self, Int.natCast_nonneg, Int.toNat_natCast, h]
    refine post_res (.inl rfl) [.tmp 4, .tmp 5] rfl ?_
    simp only [go_sem]
    exact le_fin (by simp only [go_sem]) (by simp only [go_sem])
  unfold levelsVv
  rw [if_neg (by rw [h]; decide)]
  obtain ⟨n, rfl, hg⟩ := gOk_of h hll
  have hn4 := hg.n4
  have hEs : ∀ e ∈ l, e.s < n := fun e he => (hg.src e he).2
  rw [Int.toNat_natCast]
  simp only [go_sem, Int.reduceEq, Int.reduceLT, Int.reduceLE, eq_self, Int.natCast_nonneg, Int.toNat_natCast, h]
  refine sem_le (le_addnil 7 none rfl (Nat.zero_le _)) ?_
  simp only [go_sem, Int.reduceEq, Int.reduceLT, Int.reduceLE, eq_self, Int.natCast_nonneg, Int.toNat_natCast]
  refine sem_loop (fun k : Nat => ⟨slotsOf 74 [(0, .dat (.int .i64 n)), (1, .dat (.sl (some 4) (edgesD l))), (7, .sl 0 0 k), (8, .dat (.int .i64 k))], [.row none (List.replicate k (.int .i64 0))], 0, []⟩)
    (fun k => k ≤ n) (fun k => n - k) 0 (Nat.zero_le _) ?_ ?_
  · exact le_slots' (by simp only [go_sem, Int.natCast_zero])
  rintro k hk
  refine sem_of_awp (Γ := tbl tabRV) tabRV_ok _ _ _ ?_
  by_cases hkn : k = n
  case neg =>
    have hk2 : (k : Int) < n := by omega
    have e : List.replicate k (D.int .i64 0) ++ [D.int .i64 0] = List.replicate (k + 1) (D.int .i64 0) := List.replicate_succ'.symm
    simp only [go_sem, Int.reduceEq, Int.reduceLT, Int.reduceLE, eq_self, Int.natCast_nonneg, Int.toNat_natCast, hk2, List.length_replicate, List.take_replicate, Nat.min_self, e]
    refine ⟨by omega, by omega, inR_i64.2 (by omega), k + 1, by omega, by omega, ?_⟩
    refine le_end (own := [_]) (ex := [_]) (Nat.zero_le _) ?_ ?_ ?_
    · simp only [go_sem, Int.natCast_add, Int.cast_ofNat_Int]
    · simp only [go_sem]
    · simp only [go_sem, Obj.under, AV.unders, AV.under]
  subst hkn
  have hk2 : ¬ (k : Int) < k := by omega
  have e0 : List.replicate k (D.int .i64 0) = natsD (List.replicate k 0) := by rw [nats_rep]; rfl
  rw [e0]
  simp only [go_sem, Int.reduceEq, Int.reduceLT, Int.reduceLE, eq_self, Int.natCast_nonneg, Int.toNat_natCast, hk2]
  refine sem_loop (fun p : Nat × List Nat => ⟨slotsOf 74 [(0, .dat (.int .i64 k)), (1, .dat (.sl (some 4) (edgesD l))), (7, .sl 0 0 k), (9, .dat (.int .i64 p.1))], [.row none (natsD p.2)], 0, []⟩)
    (fun p => (p.1 ≤ k ∧ LR k l p.2 p.1 [] false) ∨ (p.1 = k + 1 ∧ ¬ acyc (eF l))) (fun p => k + 1 - p.1) (0, List.replicate k 0) (.inl ⟨Nat.zero_le _, LR.init⟩) ?_ ?_
  · exact le_slots' (by simp only [go_sem, Int.natCast_zero])
  rintro ⟨r, out⟩ hor
  simp only at hor
  refine sem_of_awp (Γ := tbl tabRV) tabRV_ok _ _ _ ?_
  rcases hor with ⟨hr, hI⟩ | ⟨hr, hA⟩
  case inr =>
    have hr2 : ¬ (r : Int) ≤ k := by omega
    rw [levV_cyc hA]
    simp only [go_sem, Int.reduceEq, Int.reduceLT, Int.reduceLE, eq_self, Int.natCast_nonneg, Int.toNat_natCast, hr2]
    refine post_res (.inl rfl) [.tmp 4, .tmp 5] rfl ?_
    simp only [go_sem]
    exact le_fin (by simp only [go_sem]) (by simp only [go_sem])
  have hr2 : (r : Int) ≤ k := by omega
  simp only [go_sem, Int.reduceEq, Int.reduceLT, Int.reduceLE, eq_self, Int.natCast_nonneg, Int.toNat_natCast, hr2]
  refine sem_loop (fun p : Nat × List Nat × Bool => ⟨slotsOf 74 [(0, .dat (.int .i64 k)), (1, .dat (.sl (some 4) (edgesD l))), (7, .sl 0 0 k), (9, .dat (.int .i64 r)), (10, .dat (.bool p.2.2)), (11, .dat (.int .i64 p.1))], [.row none (natsD p.2.1)], 0, []⟩)
    (fun p => p.1 ≤ l.length ∧ LR k l p.2.1 r (l.take p.1) p.2.2) (fun p => l.length - p.1) (0, out, false) ⟨Nat.zero_le _, hI⟩ ?_ ?_
  · exact le_slots' (by simp only [go_sem, Int.natCast_zero])
  clear hI out
  rintro ⟨i, out, more⟩ ⟨hi, hI⟩
  simp only at hi hI
  refine sem_of_awp (Γ := tbl tabRV) tabRV_ok _ _ _ ?_
  cases hd : l.drop i with
  | nil =>
    have := end_of_drop hd hi
    have hi2 : ¬ (i : Int) < l.length := by omega
    rw [this, List.take_length] at hI
    have hol := hI.len
    cases more with
    | false =>
      rw [hI.stop hg]
      simp only [go_sem, Int.reduceEq, Int.reduceLT, Int.reduceLE, eq_self, Int.natCast_nonneg, Int.toNat_natCast, hi2, edges_len]
      refine post_res (.inl rfl) [.tmp 4, .tmp 5] rfl ?_
      simp only [go_sem]
      refine Le.trans (le_freeze 0 (ag := none) rfl (Nat.zero_le _)) ?_
      have e1 : List.take k (natsD out) = natsD out := List.take_of_length_le (by simp [hol])
      simp only [go_sem, e1, nats_len, hol, Nat.le_refl]
      exact le_fin (by simp only [go_sem]) (by simp only [go_sem])
    | true =>
      simp only [go_sem, Int.reduceEq, Int.reduceLT, Int.reduceLE, eq_self, Int.natCast_nonneg, Int.toNat_natCast, hi2, edges_len]
      refine ⟨inR_i64.2 (by omega), (r + 1, out), ?_, by simp only; omega, ?_⟩
      · by_cases hrk : r = k
        · exact .inr ⟨by simp only; omega, hI.cyc rfl (by omega)⟩
        · exact .inl ⟨by simp only; omega, hI.next hEs⟩
      · exact le_slots' (by simp only [go_sem, Int.natCast_add, Int.cast_ofNat_Int])
  | cons e q =>
    have hlt := lt_of_drop hd
    have hi2 : (i : Int) < l.length := by omega
    have hi0 : (0 : Int) ≤ i := Int.natCast_nonneg i
    have hn := nth_of_drop (f := edgeD) hd
    have hem := mem_of_drop hd
    obtain ⟨hs1, hs2⟩ := hg.src e hem
    obtain ⟨ht1, ht2⟩ := hg.dst e hem
    have hsn : (e.s : Int) < k := by omega
    have htn : (e.t : Int) < k := by omega
    have hol := hI.len
    have gs := nats_at (l := out) 0 (show e.s < out.length by omega)
    have gt := nats_at (l := out) 0 (show e.t < out.length by omega)
    have hub := hI.ub e.t ht2
    have hmul : r * l.length ≤ 4096 * 10000 := Nat.mul_le_mul (by omega) hll
    have htl : (l.take i).length ≤ 10000 := by rw [List.length_take]; omega
    have hadd : ((out.getD e.t 0 : Nat) : Int) + 1 = ((out.getD e.t 0 + 1 : Nat) : Int) := by omega
    simp only [go_sem, Int.reduceEq, Int.reduceLT, Int.reduceLE, eq_self, Int.natCast_nonneg, Int.toNat_natCast, hi2, edges_len]
    refine sem_draw (pf := []) (Γ := tbl tabRV) mixed tabRV_ok (fun g _ _ _ _ _ h => by cases h) [0, 1, 2, 3, 4, 5, 6, 7, 8, 9, 10, 11, 12, 13, 14, 15, 16, 17] (by kernel_rfl) ?_
    by_cases hlt2 : out.getD e.s 0 < out.getD e.t 0 + 1
    · have hlt3 : ((out.getD e.s 0 : Nat) : Int) < ((out.getD e.t 0 + 1 : Nat) : Int) := by omega
      have hL := hI.lift hg hem hlt2
      rw [← take_of_drop hd] at hL
      simp only [go_sem, Int.reduceEq, Int.reduceLT, Int.reduceLE, eq_self, Int.natCast_nonneg, Int.toNat_natCast, chainI, hi2, hi0, edges_len, hn, hlt, edgeD, hs1, ht1, hsn, hs2, htn, ht2, nats_len, hol, gs, gt, hadd, hlt3]
      refine ⟨inR_i64.2 (by omega), ?_⟩
      refine sem_drawM (ob := 0) (pf := []) (mf := []) (ms := []) mixed tabRV_ok (fun g _ _ _ _ _ h => by cases h) noMk [0, 1, 2, 3, 4, 5, 6, 7, 8, 9, 10, 11, 12, 13, 14, 15, 16] (by kernel_rfl) ?_
      simp only [go_sem, Int.reduceEq, Int.reduceLT, Int.reduceLE, eq_self, Int.natCast_nonneg, Int.toNat_natCast, chainM, opm, hi2, hi0, edges_len, hn, hlt, edgeD, hs1, ht1, hsn, hs2, htn, ht2, nats_len, hol, gs, gt, hadd, nats_upd]
      refine ⟨inR_i64.2 (by omega), inR_i64.2 (by omega), (i + 1, _, true), ⟨by simp only; omega, hL⟩, by simp only; omega, ?_⟩
      exact le_slots' (by simp only [go_sem, Int.natCast_add, Int.cast_ofNat_Int])
    · have hlt3 : ¬ ((out.getD e.s 0 : Nat) : Int) < ((out.getD e.t 0 + 1 : Nat) : Int) := by omega
      have hL := hI.keep hg hem hlt2
      rw [← take_of_drop hd] at hL
      simp only [go_sem, Int.reduceEq, Int.reduceLT, Int.reduceLE, eq_self, Int.natCast_nonneg, Int.toNat_natCast, chainI, hi2, hi0, edges_len, hn, hlt, edgeD, hs1, ht1, hsn, hs2, htn, ht2, nats_len, hol, gs, gt, hadd, hlt3]
      refine ⟨inR_i64.2 (by omega), inR_i64.2 (by omega), (i + 1, out, more), ⟨by simp only; omega, hL⟩, by simp only; omega, ?_⟩
      exact le_slots' (by simp only [go_sem, Int.natCast_add, Int.cast_ofNat_Int])
end Go.AM

set_option maxRecDepth 8000
set_option maxHeartbeats 2000000
namespace Go.AM
open Go Go.Proofs

abbrev sysE (s : PSys) : List PEdge := edC s 0 s.classes []
def nRes (s : PSys) : Nat := s.pools.length + s.locks.length + s.classes.length
theorem sysE_ok {s : PSys} (h : checkE s = 0) : GOk (nRes s) (sysE s) := by
  have hg := good_of h
  have hlen := edC_len s 12 0 s.classes [] (fun c hc => (hg.cls c hc).l12)
  have h1 := hg.np
  have h2 := hg.nl
  have h3 := hg.nc
  have hl2 : s.classes.length * (12 * (s.pools.length + s.locks.length + 1)) ≤ 6 * (12 * 11) := Nat.mul_le_mul h3 (by omega)
  have key : ∀ e ∈ sysE s, (∃ r : Nat, e.src = r ∧ r < nRes s) ∧ ∃ r : Nat, e.dst = r ∧ r < nRes s := by
    intro e he
    obtain ⟨i, k, c, x, h1, h2, h3, h4, h5, h6, h7⟩ := (eFacts s).mem e he
    have hi := (List.getElem?_eq_some_iff.1 h1).1
    obtain ⟨r, hr, hr2, _⟩ := holdL_range hi h7
    refine ⟨⟨r, hr, hr2⟩, ?_⟩
    have hp := (hg.cls c (List.mem_of_getElem? h1)).pre x (List.mem_of_getElem? h2)
    obtain ⟨_, ⟨o1, o2⟩, _⟩ := preE_0 hp
    rw [h6]
    unfold mostE at o2
    unfold nRes targetN
    by_cases k3 : x.kind = 3
    · rw [if_pos (.inl k3)] at o2
      rw [if_pos k3]
      exact ⟨s.pools.length + x.on.toNat, by omega, by omega⟩
    · rw [if_neg k3]
      by_cases k5 : x.kind = 5
      · rw [if_neg (by omega), if_pos k5] at o2
        rw [if_pos k5]
        exact ⟨s.pools.length + s.locks.length + x.on.toNat, by omega, by omega⟩
      · rw [if_neg k5]
        have k1 : x.kind = 1 := Classical.byContradiction fun hk => by
          unfold waitB at h3
          rw [if_neg (by omega), if_neg hk] at h3
          cases h3
        rw [if_neg (by omega), if_neg k5] at o2
        exact ⟨x.on.toNat, by omega, by omega⟩
  refine ⟨by unfold nRes; omega, by simp only [List.length_nil] at hlen; show (edC s 0 s.classes []).length ≤ 10000; omega, fun e he => ?_, fun e he => ?_⟩
  · obtain ⟨⟨r, hr, hr2⟩, _⟩ := key e he
    unfold PEdge.s; rw [hr, Int.toNat_natCast]; exact ⟨rfl, hr2⟩
  · obtain ⟨_, r, hr, hr2⟩ := key e he
    unfold PEdge.t; rw [hr, Int.toNat_natCast]; exact ⟨rfl, hr2⟩
theorem resN_ok {s : PSys} (h : checkE s = 0) : resN s = (nRes s : Nat) := by unfold resN nRes; rw [if_neg (by rw [h]; decide)]; omega
theorem edgesV_ok {s : PSys} (h : checkE s = 0) : edgesV s = .tup [.dat (.sl (some 4) (edgesD (sysE s))), .dat (.int .i64 0)] := by unfold edgesV; rw [if_neg (by rw [h]; decide)]
theorem edgesV_err {s : PSys} (h : checkE s ≠ 0) : edgesV s = .tup [.dat (.sl none []), .dat (.int .i64 (checkE s))] := by unfold edgesV; rw [if_pos h]

def certD (L : List Nat) : D := .agg [.sl none (natsD L)]
noncomputable def makeO (s : PSys) : List Nat × Int := if checkE s ≠ 0 then ([], checkE s) else if (impO s).isSome = true then ([], 9) else match levV (nRes s) (sysE s) with
  | some L => (L, 0)
  | none => ([], 20)
noncomputable def makeV (s : PSys) : AV := .tup [.dat (certD (makeO s).1), .dat (.int .i64 (makeO s).2)]
def makeR (ds : List D) (v : AV) : Prop := ∃ s : PSys, ds = [sysD s] ∧ s.fit ∧ v = makeV s
abbrev tabMA : List (Nat × Contract) := [(24, dataC edgesR), (14, dataC impVR), (26, dataC resR), (31, dataC levelsR)]
theorem tabMA_ok : OkG Try.prog (tbl tabMA) := okG_cons edges_ok (okG_cons Impossible_ok (okG_cons resources_ok (okG_cons levels_ok okG_nil)))
theorem levelsVv_ok {s : PSys} (h : checkE s = 0) : levelsVv (nRes s : Nat) (sysE s) = match levV (nRes s) (sysE s) with
  | some L => .tup [.dat (.sl none (natsD L)), .dat (.int .i64 0)]
  | none => .tup [.dat (.sl none []), .dat (.int .i64 10)] := by
  unfold levelsVv; rw [if_neg (by rw [gE_ok (sysE_ok h)]; decide), Int.toNat_natCast]
  cases levV (nRes s) (sysE s) <;> rfl
theorem make_ok : OkF Try.prog 12 (dataC makeR) := by
  refine okF_data Try.func12 rfl (by decide) ?_
  rintro ds v ⟨s, rfl, hf, rfl⟩
  refine sem_of_awp (Γ := tbl tabMA) tabMA_ok _ _ _ ?_
  simp only [go_sem, Int.reduceEq, Int.reduceLT, Int.reduceLE, eq_self, Int.natCast_nonneg, Int.toNat_natCast, Try.ntmps12, sysD]
  refine call_data edgesR (by simp) [sysD s] _ rfl ⟨s, rfl, hf, rfl⟩ (.inl rfl) ?_
  unfold makeV makeO
  by_cases h : checkE s = 0
  case neg =>
    rw [edgesV_err h, if_pos h]
    simp only [go_sem, Int.reduceEq, Int.reduceLT, Int.reduceLE, eq_self, Int.natCast_nonneg, Int.toNat_natCast, h]
    refine post_res (.inl rfl) [.cell 2 31, .tmp 3] rfl ?_
    simp only [go_sem, certD]
    exact le_fin (by simp only [go_sem]) (by simp only [go_sem])
  rw [edgesV_ok h, if_neg (by rw [h]; decide)]
  have hgk := sysE_ok h
  have hgl := hgk.len
  simp only [go_sem, Int.reduceEq, Int.reduceLT, Int.reduceLE, eq_self, Int.natCast_nonneg, Int.toNat_natCast, h]
  refine call_data impVR (by simp) [sysD s] _ rfl ⟨s, rfl, hf, rfl⟩ (.inl rfl) ?_
  cases hi : impO s with
  | some q =>
    obtain ⟨i, k⟩ := q
    simp only [go_sem, Int.reduceEq, Int.reduceLT, Int.reduceLE, eq_self, Int.natCast_nonneg, Int.toNat_natCast, fstV]
    refine post_res (.inl rfl) [.cell 2 31, .tmp 3] rfl ?_
    simp only [go_sem, certD]
    exact le_fin (by simp only [go_sem]) (by simp only [go_sem])
  | none =>
  simp only [go_sem, Int.reduceEq, Int.reduceLT, Int.reduceLE, eq_self, Int.natCast_nonneg, Int.toNat_natCast, fstV]
  refine call_data resR (by simp) [sysD s] _ rfl ⟨s, rfl, hf, rfl⟩ (.inl rfl) ?_
  rw [resN_ok h]
  simp only [go_sem, Int.reduceEq, Int.reduceLT, Int.reduceLE, eq_self, Int.natCast_nonneg, Int.toNat_natCast]
  refine call_data levelsR (by simp) [.int .i64 (nRes s : Nat), .sl (some 4) (edgesD (sysE s))] _ rfl ⟨_, _, rfl, by omega, rfl⟩ (.inl rfl) ?_
  rw [levelsVv_ok h]
  cases hl : levV (nRes s) (sysE s) with
  | none =>
    simp only [go_sem, Int.reduceEq, Int.reduceLT, Int.reduceLE, eq_self, Int.natCast_nonneg, Int.toNat_natCast]
    refine post_res (.inl rfl) [.cell 2 31, .tmp 3] rfl ?_
    simp only [go_sem, certD]
    exact le_fin (by simp only [go_sem]) (by simp only [go_sem])
  | some L =>
    simp only [go_sem, Int.reduceEq, Int.reduceLT, Int.reduceLE, eq_self, Int.natCast_nonneg, Int.toNat_natCast]
    refine post_res (.inl rfl) [.cell 2 31, .tmp 3] rfl ?_
    simp only [go_sem, certD]
    exact le_fin (by simp only [go_sem]) (by simp only [go_sem])
abbrev tabMR : List (Nat × Contract) := [(32, dataC checkR), (33, dataC edgesR), (15, dataC impVR), (35, dataC resR), (34, dataC levelsR)]
theorem tabMR_ok : OkG Try.prog (tbl tabMR) := okG_cons rcheck_ok (okG_cons redges_ok (okG_cons rImpossible_ok (okG_cons rresources_ok (okG_cons rlevels_ok okG_nil))))
theorem rmake_ok : OkF Try.prog 13 (dataC makeR) := by
  refine okF_data Try.func13 rfl (by decide) ?_
  rintro ds v ⟨s, rfl, hf, rfl⟩
  refine sem_of_awp (Γ := tbl tabMR) tabMR_ok _ _ _ ?_
  simp only [go_sem, Int.reduceEq, Int.reduceLT, Int.reduceLE, eq_self, Int.natCast_nonneg, Int.toNat_natCast, Try.ntmps13, sysD]
  refine call_data checkR (by simp) [sysD s] _ rfl ⟨s, rfl, hf, rfl⟩ (.inl rfl) ?_
  unfold makeV makeO
  by_cases h : checkE s = 0
  case neg =>
    rw [if_pos h]
    simp only [go_sem, Int.reduceEq, Int.reduceLT, Int.reduceLE, eq_self, Int.natCast_nonneg, Int.toNat_natCast, h]
    refine post_res (.inl rfl) [.cell 2 31, .tmp 3] rfl ?_
    simp only [go_sem, certD]
    exact le_fin (by simp only [go_sem]) (by simp only [go_sem])
  rw [if_neg (by rw [h]; decide)]
  have hgk := sysE_ok h
  have hgl := hgk.len
  simp only [go_sem, Int.reduceEq, Int.reduceLT, Int.reduceLE, eq_self, Int.natCast_nonneg, Int.toNat_natCast, h]
  refine call_data impVR (by simp) [sysD s] _ rfl ⟨s, rfl, hf, rfl⟩ (.inl rfl) ?_
  cases hi : impO s with
  | some q =>
    obtain ⟨i, k⟩ := q
    simp only [go_sem, Int.reduceEq, Int.reduceLT, Int.reduceLE, eq_self, Int.natCast_nonneg, Int.toNat_natCast, fstV]
    refine post_res (.inl rfl) [.cell 2 31, .tmp 3] rfl ?_
    simp only [go_sem, certD]
    exact le_fin (by simp only [go_sem]) (by simp only [go_sem])
  | none =>
  simp only [go_sem, Int.reduceEq, Int.reduceLT, Int.reduceLE, eq_self, Int.natCast_nonneg, Int.toNat_natCast, fstV]
  refine call_data edgesR (by simp) [sysD s] _ rfl ⟨s, rfl, hf, rfl⟩ (.inl rfl) ?_
  rw [edgesV_ok h]
  simp only [go_sem, Int.reduceEq, Int.reduceLT, Int.reduceLE, eq_self, Int.natCast_nonneg, Int.toNat_natCast]
  refine call_data resR (by simp) [sysD s] _ rfl ⟨s, rfl, hf, rfl⟩ (.inl rfl) ?_
  rw [resN_ok h]
  simp only [go_sem, Int.reduceEq, Int.reduceLT, Int.reduceLE, eq_self, Int.natCast_nonneg, Int.toNat_natCast]
  refine call_data levelsR (by simp) [.int .i64 (nRes s : Nat), .sl (some 4) (edgesD (sysE s))] _ rfl ⟨_, _, rfl, by omega, rfl⟩ (.inl rfl) ?_
  rw [levelsVv_ok h]
  cases hl : levV (nRes s) (sysE s) with
  | none =>
    simp only [go_sem, Int.reduceEq, Int.reduceLT, Int.reduceLE, eq_self, Int.natCast_nonneg, Int.toNat_natCast]
    refine post_res (.inl rfl) [.cell 2 31, .tmp 3] rfl ?_
    simp only [go_sem, certD]
    exact le_fin (by simp only [go_sem]) (by simp only [go_sem])
  | some L =>
    simp only [go_sem, Int.reduceEq, Int.reduceLT, Int.reduceLE, eq_self, Int.natCast_nonneg, Int.toNat_natCast]
    refine post_res (.inl rfl) [.cell 2 31, .tmp 3] rfl ?_
    simp only [go_sem, certD]
    exact le_fin (by simp only [go_sem]) (by simp only [go_sem])
end Go.AM

set_option maxRecDepth 8000
set_option maxHeartbeats 2000000
namespace Go.AM
open Go Go.Proofs

theorem distL_len {n : Nat} {l : List PEdge} {a : Nat} : (distL n l a).length = n := by simp [distL]
theorem distL_nth {n : Nat} {l : List PEdge} {a v : Nat} (h : v < n) : D.nth (intsD (distL n l a)) v = .int .i64 (sd (eF l) a v) := by
  rw [ints_nth (-1) (by rw [distL_len]; exact h)]; simp [distL, List.getD_eq_getElem?_getD, h]
noncomputable def lenV (l : List PEdge) (i : Nat) : Int := if back l i < 0 then -1 else back l i + 1
def lenR (ds : List D) (v : AV) : Prop := ∃ (n : Nat) (l : List PEdge) (i : Nat), ds = [.int .i64 n, .sl (some 4) (edgesD l), .int .i64 i] ∧ GOk n l ∧ i < l.length ∧ v = .dat (.int .i64 (lenV l i))
abbrev tabRL : List (Nat × Contract) := [(68, dataC reachR)]
theorem tabRL_ok : OkG Try.prog (tbl tabRL) := okG_cons reach_ok okG_nil
theorem pureRL : PureFns (tbl tabRL) [68] := by
  refine pure_of2 fun g C hm hg => ?_
  simp only [List.mem_cons, List.not_mem_nil, or_false, Prod.mk.injEq] at hm
  exact .inl ⟨_, hm.2⟩
theorem rlength_ok : OkF Try.prog 67 (dataC lenR) := by
  refine okF_data Try.func67 rfl (by decide) ?_
  rintro ds v ⟨n, l, i, rfl, hg, hi, rfl⟩
  have hn4 := hg.n4
  have hge := List.getElem?_eq_getElem hi
  generalize he : l[i] = e at *
  have hem := List.mem_of_getElem? hge
  obtain ⟨hs1, hs2⟩ := hg.src e hem
  obtain ⟨ht1, ht2⟩ := hg.dst e hem
  have hne : D.nth (edgesD l) i = edgeD e := by simp [D.nth, hge]
  have hi2 : (i : Int) < l.length := by omega
  have hsn : (e.s : Int) < n := by omega
  have hB : back l i = sd (eF l) e.t e.s := by unfold back; rw [sOf_get hge, tOf_get hge]
  have hB1 : back l i < n := by rw [hB]; exact hg.sdlt ht2
  have hB2 : -1 ≤ back l i := by rw [hB]; exact sd_ge
  have hnd := distL_nth (l := l) (a := e.t) hs2
  rw [← hB] at hnd
  have hdl := distL_len (n := n) (l := l) (a := e.t)
  unfold lenV
  refine sem_of_awp (Γ := tbl tabRL) tabRL_ok _ _ _ ?_
  simp only [go_sem, Int.reduceEq, Int.reduceLT, Int.reduceLE, eq_self, Int.natCast_nonneg, Int.toNat_natCast, Try.ntmps67]
  refine sem_draw (pf := [68]) (Γ := tbl tabRL) mixed tabRL_ok pureRL [0, 1, 2, 3, 4, 5, 6, 7, 8, 9, 10, 11, 12, 13, 14, 15] (by kernel_rfl) ?_
  simp only [go_sem, Int.reduceEq, Int.reduceLT, Int.reduceLE, eq_self, Int.natCast_nonneg, Int.toNat_natCast, chainI, hi, hi2, edges_len, hne, edgeD, hs1, ht1]
  refine call_data reachR (by simp) [.int .i64 n, .sl (some 4) (edgesD l), .int .i64 (e.t : Int)] _ rfl ⟨n, l, e.t, rfl, hg, ht2, rfl⟩ (.inl rfl) ?_
  by_cases hneg : back l i < 0
  · rw [if_pos hneg]
    simp only [go_sem, Int.reduceEq, Int.reduceLT, Int.reduceLE, eq_self, Int.natCast_nonneg, Int.toNat_natCast, chainI, hi, hi2, edges_len, hne, edgeD, hs1, ht1, hsn, hs2, ints_len, hdl, hnd, hneg]
    exact post_data (.inl rfl) [6] rfl trivial rfl
  · rw [if_neg hneg]
    simp only [go_sem, Int.reduceEq, Int.reduceLT, Int.reduceLE, eq_self, Int.natCast_nonneg, Int.toNat_natCast, chainI, hi, hi2, edges_len, hne, edgeD, hs1, ht1, hsn, hs2, ints_len, hdl, hnd, hneg]
    refine ⟨inR_i64.2 (by omega), ?_⟩
    exact post_data (.inl rfl) [6] rfl trivial rfl
def fstOf : Option (List Nat) → Int
  | none => -1
  | some c => (c.headD 0 : Nat)
def lenOf : Option (List Nat) → Int
  | none => -1
  | some c => c.length
def nxI : Option Nat → Int
  | none => -1
  | some i => i
def scan (p : Nat → Bool) (v : Nat) : Nat → List PEdge → Option Nat
  | _, [] => none
  | k, e :: r => if e.s = v ∧ p k = true then some k else scan p v (k + 1) r
theorem scan_find {p : Nat → Bool} {v : Nat} : ∀ {k : Nat} {l : List PEdge}, scan p v k l = (idxs PEdge.s k l v).find? p
  | _, [] => rfl
  | k, e :: r => by
    have ih := scan_find (p := p) (v := v) (k := k + 1) (l := r)
    simp only [scan, idxs]
    by_cases h : e.s = v
    · rw [if_pos h, List.find?_cons]
      cases hp : p k with
      | true => rw [if_pos ⟨h, rfl⟩]
      | false => rw [if_neg (fun hh => by cases hh.2)]; exact ih
    · rw [if_neg h, if_neg (fun hh => h hh.1)]; exact ih
abbrev tabQC : List (Nat × Contract) := [(58, dataC gchkR), (67, dataC lenR), (68, dataC reachR)]
theorem tabQC_ok : OkG Try.prog (tbl tabQC) := okG_cons rgcheck_ok (okG_cons rlength_ok (okG_cons reach_ok okG_nil))
theorem pureQC : PureFns (tbl tabQC) [68] := by
  refine pure_of2 fun g C hm hg => ?_
  simp only [List.mem_cons, List.not_mem_nil, or_false, Prod.mk.injEq] at hm
  rcases hm with ⟨_, rfl⟩ | ⟨_, rfl⟩ | ⟨_, rfl⟩ <;> exact .inl ⟨_, rfl⟩
theorem rcycle_ok : OkF Try.prog 41 (dataC cycleR) := by
  refine okF_data Try.func41 rfl (by decide) ?_
  rintro ds v ⟨n, l, rfl, hll, rfl⟩
  refine sem_of_awp (Γ := tbl tabQC) tabQC_ok _ _ _ ?_
  simp only [go_sem, Int.reduceEq, Int.reduceLT, Int.reduceLE, eq_self, Int.natCast_nonneg, Int.toNat_natCast, Try.ntmps41]
  refine call_data gchkR (by simp) [.int .i64 n, .sl (some 4) (edgesD l)] _ rfl ⟨n, l, rfl, hll, rfl⟩ (.inl rfl) ?_
  by_cases h : gE n l = 0
  case neg =>
    unfold cycleVv
    rw [if_pos h]
    simp only [go_sem, Int.reduceEq, Int.reduceLT, Int.reduceLE, eq_self, Int.natCast_nonneg, Int.toNat_natCast, h]
    refine post_res (.inl rfl) [.tmp 4, .tmp 5] rfl ?_
    simp only [go_sem]
    exact le_fin (by simp only [go_sem]) (by simp only [go_sem])
  unfold cycleVv
  rw [if_neg (by rw [h]; decide)]
  obtain ⟨n, rfl, hg⟩ := gOk_of h hll
  have hn4 := hg.n4
  generalize hV : cycV l = V
  simp only [go_sem, Int.reduceEq, Int.reduceLT, Int.reduceLE, eq_self, Int.natCast_nonneg, Int.toNat_natCast, h]
  have hF1 : fstOf none = -1 := rfl
  have hF2 : lenOf none = -1 := rfl
  have hF3 : ∀ c, lenOf (some c) = (c.length : Int) := fun _ => rfl
  refine sem_loop (fun k : Nat => ⟨slotsOf 111 [(0, .dat (.int .i64 n)), (1, .dat (.sl (some 4) (edgesD l))), (7, .dat (.int .i64 (fstOf (cycL l k)))), (8, .dat (.int .i64 (lenOf (cycL l k)))), (9, .dat (.int .i64 k))], [], 0, []⟩)
    (fun k => k ≤ l.length) (fun k => l.length - k) 0 (Nat.zero_le _) ?_ ?_
  · exact le_slots' (by simp only [go_sem, Int.natCast_zero, cycL, fstOf, lenOf])
  rintro k hk
  have hcyc := cycL_is (l := l) k
  refine sem_of_awp (Γ := tbl tabQC) tabQC_ok _ _ _ ?_
  cases hd : l.drop k with
  | cons e r =>
    have hlt := lt_of_drop hd
    have hk2 : (k : Int) < l.length := by omega
    have hB1 : back l k < n := by unfold back; rw [tOf_get (get_of_drop hd)]; exact hg.sdlt (hg.dst e (mem_of_drop hd)).2
    have hB2 : -1 ≤ back l k := sd_ge
    have hstep : cycL l (k + 1) = cycStep l (cycL l k) k := rfl
    unfold cycStep at hstep
    simp only [go_sem, Int.reduceEq, Int.reduceLT, Int.reduceLE, eq_self, Int.natCast_nonneg, Int.toNat_natCast, hk2, edges_len]
    refine call_data lenR (by simp) [.int .i64 n, .sl (some 4) (edgesD l), .int .i64 k] _ rfl ⟨n, l, k, rfl, hg, hlt, rfl⟩ (.inl rfl) ?_
    unfold lenV
    by_cases hneg : back l k < 0
    · rw [if_pos hneg] at hstep ⊢
      simp only [go_sem, Int.reduceEq, Int.reduceLT, Int.reduceLE, eq_self, Int.natCast_nonneg, Int.toNat_natCast]
      refine ⟨inR_i64.2 (by omega), k + 1, by omega, by omega, ?_⟩
      rw [hstep]
      exact le_slots' (by simp only [go_sem, Int.natCast_add, Int.cast_ofNat_Int])
    rw [if_neg hneg] at hstep ⊢
    have hpos : 0 < back l k + 1 := by omega
    have hcl := cycOf_len (l := l) (i := k) (by omega)
    cases hc : cycL l k with
    | none =>
      rw [hc] at hstep
      simp only at hstep
      simp only [go_sem, Int.reduceEq, Int.reduceLT, Int.reduceLE, eq_self, Int.natCast_nonneg, Int.toNat_natCast, hpos, hF1, hF2]
      refine ⟨inR_i64.2 (by omega), k + 1, by omega, by omega, ?_⟩
      rw [hstep, show fstOf (some (cycOf l k)) = (k : Int) from rfl, show lenOf (some (cycOf l k)) = back l k + 1 from hcl]
      exact le_slots' (by simp only [go_sem, Int.natCast_add, Int.cast_ofNat_Int])
    | some c =>
      rw [hc] at hstep
      simp only at hstep
      have hc0 : ¬ ((c.length : Nat) : Int) < 0 := by omega
      by_cases hle : (c.length : Int) ≤ back l k + 1
      · rw [if_pos hle] at hstep
        have hle2 : ¬ back l k + 1 < (c.length : Int) := by omega
        simp only [go_sem, Int.reduceEq, Int.reduceLT, Int.reduceLE, eq_self, Int.natCast_nonneg, Int.toNat_natCast, hpos, hF3, hc0, hle2]
        refine ⟨inR_i64.2 (by omega), k + 1, by omega, by omega, ?_⟩
        rw [hstep]
        try rw [hF3]
        exact le_slots' (by simp only [go_sem, Int.natCast_add, Int.cast_ofNat_Int])
      · rw [if_neg hle] at hstep
        have hle2 : back l k + 1 < (c.length : Int) := by omega
        simp only [go_sem, Int.reduceEq, Int.reduceLT, Int.reduceLE, eq_self, Int.natCast_nonneg, Int.toNat_natCast, hpos, hF3, hc0, hle2]
        refine ⟨inR_i64.2 (by omega), k + 1, by omega, by omega, ?_⟩
        rw [hstep, show fstOf (some (cycOf l k)) = (k : Int) from rfl, show lenOf (some (cycOf l k)) = back l k + 1 from hcl]
        exact le_slots' (by simp only [go_sem, Int.natCast_add, Int.cast_ofNat_Int])
  | nil =>
  have := end_of_drop hd hk
  have hk2 : ¬ (k : Int) < l.length := by omega
  rw [this] at hcyc hk2 ⊢
  clear hd hk this k
  unfold cycV at hV
  cases hc : cycL l l.length with
  | none =>
    rw [hc] at hV
    simp only [Option.getD_none] at hV
    subst hV
    simp only [go_sem, Int.reduceEq, Int.reduceLT, Int.reduceLE, eq_self, Int.natCast_nonneg, Int.toNat_natCast, hk2, edges_len, hF1, hF2]
    refine post_res (.inl rfl) [.tmp 4, .tmp 5] rfl ?_
    simp only [go_sem]
    exact le_fin (by simp only [go_sem]) (by simp only [go_sem])
  | some c =>
  rw [hc] at hV hcyc
  simp only [Option.getD_some] at hV hcyc
  obtain ⟨i, hi, hb0, rfl, _⟩ := hcyc
  have hcl := cycOf_len hb0
  have hge := List.getElem?_eq_getElem hi
  generalize he : l[i] = e at *
  have hem := List.mem_of_getElem? hge
  obtain ⟨hs1, hs2⟩ := hg.src e hem
  obtain ⟨ht1, ht2⟩ := hg.dst e hem
  have hne : D.nth (edgesD l) i = edgeD e := by simp [D.nth, hge]
  have hi2 : (i : Int) < l.length := by omega
  have hi0 : ¬ (i : Int) < 0 := by omega
  have hB : back l i = sd (eF l) e.t e.s := by unfold back; rw [sOf_get hge, tOf_get hge]
  have hB1 : back l i < n := by rw [hB]; exact hg.sdlt ht2
  have hf : fstOf (some (cycOf l i)) = (i : Int) := rfl
  have hlo : lenOf (some (cycOf l i)) = back l i + 1 := hcl
  have hsub : back l i + 1 - 1 = back l i := by omega
  rw [hf, hlo]
  simp only [go_sem, Int.reduceEq, Int.reduceLT, Int.reduceLE, eq_self, Int.natCast_nonneg, Int.toNat_natCast, hk2, edges_len, hi0, hi, hi2, hne, edgeD, ht1, hsub]
  refine ⟨inR_i64.2 (by omega), ?_⟩
  refine sem_loop (fun p : Nat × List Nat => ⟨slotsOf 111 [(0, .dat (.int .i64 n)), (1, .dat (.sl (some 4) (edgesD l))), (7, .dat (.int .i64 i)), (11, .sl 0 0 p.2.length), (12, .dat (.int .i64 p.1)), (13, .dat (.int .i64 (sd (eF l) p.1 e.s)))], [.row none (natsD p.2)], 0, []⟩)
    (fun p => p.1 < n ∧ 0 ≤ sd (eF l) p.1 e.s ∧ p.2 ++ pathL l e.s (sd (eF l) p.1 e.s).toNat p.1 = V) (fun p => (sd (eF l) p.1 e.s).toNat) (e.t, [i]) ⟨ht2, by rw [← hB]; exact hb0, ?_⟩ ?_ ?_
  · rw [← hV]; unfold cycOf; rw [hB, sOf_get hge, tOf_get hge]; rfl
  · simp only [← hB]
    exact le_slots' (by simp only [go_sem])
  rintro ⟨v, acc⟩ ⟨hv, hv0, hacc⟩
  simp only at hv hv0 hacc
  have hal : acc.length ≤ V.length := by rw [← hacc]; simp
  have hVl : V.length ≤ 5000 := by rw [← hV]; omega
  have hsb := hg.sdlt (to := e.s) hv
  refine sem_of_awp (Γ := tbl tabQC) tabQC_ok _ _ _ ?_
  by_cases hpos : 0 < sd (eF l) v e.s
  case neg =>
    have h0 : sd (eF l) v e.s = 0 := by omega
    rw [h0] at hacc
    have hacc2 : acc = V := by rw [← hacc]; simp [pathL]
    subst hacc2
    simp only [go_sem, Int.reduceEq, Int.reduceLT, Int.reduceLE, eq_self, Int.natCast_nonneg, Int.toNat_natCast, hpos]
    refine post_res (.inl rfl) [.tmp 4, .tmp 5] rfl ?_
    simp only [go_sem]
    refine Le.trans (le_freeze 0 (ag := none) rfl (Nat.zero_le _)) ?_
    simp only [go_sem, nats_take, nats_len, Nat.le_refl]
    exact le_fin (by simp only [go_sem]) (by simp only [go_sem])
  obtain ⟨m, hm⟩ := nxt_some hpos
  obtain ⟨m1, m2, m3⟩ := nxt_is hm
  have hscan : scan (near l e.s v) v 0 l = some m := by rw [scan_find]; exact hm
  simp only [go_sem, Int.reduceEq, Int.reduceLT, Int.reduceLE, eq_self, Int.natCast_nonneg, Int.toNat_natCast, hpos]
  refine sem_loop (fun p : Nat × Option Nat => ⟨slotsOf 111 [(0, .dat (.int .i64 n)), (1, .dat (.sl (some 4) (edgesD l))), (7, .dat (.int .i64 i)), (11, .sl 0 0 acc.length), (12, .dat (.int .i64 v)), (13, .dat (.int .i64 (sd (eF l) v e.s))), (14, .dat (.int .i64 (nxI p.2))), (15, .dat (.int .i64 p.1))], [.row none (natsD acc)], 0, []⟩)
    (fun p => p.1 ≤ l.length ∧ ((p.2 = none ∧ scan (near l e.s v) v p.1 (l.drop p.1) = some m) ∨ p.2 = some m)) (fun p => l.length - p.1) (0, none) ⟨Nat.zero_le _, .inl ⟨rfl, hscan⟩⟩ ?_ ?_
  · exact le_slots' (by simp only [go_sem, Int.natCast_zero, nxI])
  rintro ⟨k, nx⟩ ⟨hk, hor⟩
  simp only at hk hor
  refine sem_of_awp (Γ := tbl tabQC) tabQC_ok _ _ _ ?_
  rcases hor with ⟨rfl, hsc⟩ | rfl
  · cases hd : l.drop k with
    | nil => rw [hd] at hsc; cases hsc
    | cons x r =>
      have hlt := lt_of_drop hd
      have hk2 : (k : Int) < l.length := by omega
      have hk0 : (0 : Int) ≤ k := Int.natCast_nonneg k
      have hn := nth_of_drop (f := edgeD) hd
      have hxm := mem_of_drop hd
      obtain ⟨xs1, xs2⟩ := hg.src x hxm
      obtain ⟨xt1, xt2⟩ := hg.dst x hxm
      have hnear : near l e.s v k = decide (sd (eF l) x.t e.s = sd (eF l) v e.s - 1) := by unfold near; rw [tOf_get (get_of_drop hd)]
      rw [hd, scan] at hsc
      have hsn : (e.s : Int) < n := by omega
      have hdl := distL_len (n := n) (l := l) (a := x.t)
      have hnd := distL_nth (l := l) (a := x.t) hs2
      by_cases hxv : x.s = v
      · have hxv2 : (x.s : Int) = v := by omega
        simp only [go_sem, Int.reduceEq, Int.reduceLT, Int.reduceLE, eq_self, Int.natCast_nonneg, Int.toNat_natCast, hk2, edges_len, nxI, hk0, hn, hlt, edgeD, xs1, hxv2]
        refine sem_draw (pf := [68]) (Γ := tbl tabQC) mixed tabQC_ok pureQC [0, 1, 2, 3, 4, 5, 6, 7, 8, 9, 10, 11, 12, 13, 14, 15, 16, 17, 18, 19, 20, 21, 22, 23, 24, 25, 26] (by kernel_rfl) ?_
        simp only [go_sem, Int.reduceEq, Int.reduceLT, Int.reduceLE, eq_self, Int.natCast_nonneg, Int.toNat_natCast, chainI, hk2, edges_len, nxI, hk0, hn, hlt, edgeD, xs1, hxv2, xt1]
        refine call_data reachR (by simp) [.int .i64 n, .sl (some 4) (edgesD l), .int .i64 (x.t : Int)] _ rfl ⟨n, l, x.t, rfl, hg, xt2, rfl⟩ (.inl rfl) ?_
        cases hp : near l e.s v k with
        | true =>
          rw [if_pos ⟨hxv, hp⟩] at hsc
          cases hsc
          rw [hp] at hnear
          simp only [go_sem, Int.reduceEq, Int.reduceLT, Int.reduceLE, eq_self, Int.natCast_nonneg, Int.toNat_natCast, chainI, hi, hi2, edges_len, hne, edgeD, hs1, hsn, hs2, ints_len, hdl, hnd, ← hnear]
          refine ⟨inR_i64.2 (by omega), inR_i64.2 (by omega), (m + 1, some m), ⟨by simp only; omega, .inr rfl⟩, by simp only; omega, ?_⟩
          exact le_slots' (by simp only [go_sem, Int.natCast_add, Int.cast_ofNat_Int, nxI])
        | false =>
          rw [if_neg (fun hh => by rw [hp] at hh; cases hh.2)] at hsc
          rw [hp] at hnear
          simp only [go_sem, Int.reduceEq, Int.reduceLT, Int.reduceLE, eq_self, Int.natCast_nonneg, Int.toNat_natCast, chainI, hi, hi2, edges_len, hne, edgeD, hs1, hsn, hs2, ints_len, hdl, hnd, ← hnear]
          refine ⟨inR_i64.2 (by omega), inR_i64.2 (by omega), (k + 1, none), ⟨by simp only; omega, .inl ⟨rfl, by rw [drop_cons hd]; exact hsc⟩⟩, by simp only; omega, ?_⟩
          exact le_slots' (by simp only [go_sem, Int.natCast_add, Int.cast_ofNat_Int, nxI])
      · have hxv2 : ¬ (x.s : Int) = v := by omega
        rw [if_neg (fun hh => hxv hh.1)] at hsc
        simp only [go_sem, Int.reduceEq, Int.reduceLT, Int.reduceLE, eq_self, Int.natCast_nonneg, Int.toNat_natCast, hk2, edges_len, nxI]
        refine sem_draw (pf := [68]) (Γ := tbl tabQC) mixed tabQC_ok pureQC [0, 1, 2, 3, 4, 5, 6, 7, 8, 9, 10, 11, 12, 13, 14, 15, 16, 17, 18, 19, 20, 21, 22, 23, 24, 25, 26] (by kernel_rfl) ?_
        simp only [go_sem, Int.reduceEq, Int.reduceLT, Int.reduceLE, eq_self, Int.natCast_nonneg, Int.toNat_natCast, chainI, hk2, edges_len, nxI, hk0, hn, hlt, edgeD, xs1, hxv2]
        refine ⟨inR_i64.2 (by omega), (k + 1, none), ⟨by simp only; omega, .inl ⟨rfl, by rw [drop_cons hd]; exact hsc⟩⟩, by simp only; omega, ?_⟩
        exact le_slots' (by simp only [go_sem, Int.natCast_add, Int.cast_ofNat_Int, nxI])
  · have hm0 : ¬ (m : Int) < 0 := by omega
    have hge2 := List.getElem?_eq_getElem m1
    have hmt := tOf_get hge2
    have hnm : D.nth (edgesD l) m = edgeD l[m] := by simp [D.nth, hge2]
    have hm2 : (m : Int) < l.length := by omega
    obtain ⟨t1, t2⟩ := hg.dst l[m] (List.getElem_mem m1)
    rw [hmt] at m3
    have hdone : ∃ x : Nat × List Nat, (x.1 < n ∧ 0 ≤ sd (eF l) x.1 e.s ∧ x.2 ++ pathL l e.s (sd (eF l) x.1 e.s).toNat x.1 = V) ∧ (sd (eF l) x.1 e.s).toNat < (sd (eF l) v e.s).toNat ∧ x = (l[m].t, acc ++ [m]) := by
      refine ⟨(l[m].t, acc ++ [m]), ⟨t2, by simp only; omega, ?_⟩, by simp only; omega, rfl⟩
      rw [← hacc]
      obtain ⟨q, hq⟩ : ∃ q : Nat, (sd (eF l) v e.s).toNat = q + 1 := ⟨(sd (eF l) v e.s).toNat - 1, by omega⟩
      have hq2 : (sd (eF l) l[m].t e.s).toNat = q := by omega
      rw [hq, pathL_cons hm, hmt]
      simp only [hq2, List.append_assoc, List.cons_append, List.nil_append]
    obtain ⟨x, x1, x2, rfl⟩ := hdone
    by_cases hkl : k < l.length
    · have hk2 : (k : Int) < l.length := by omega
      simp only [go_sem, Int.reduceEq, Int.reduceLT, Int.reduceLE, eq_self, Int.natCast_nonneg, Int.toNat_natCast, hk2, edges_len, nxI, hm0, nats_take, nats_len, nats_snoc, m1, hm2, hnm, edgeD, t1]
      refine ⟨by omega, by omega, inR_i64.2 (by omega), _, x1, x2, ?_⟩
      simp only [m3]
      refine le_end (own := [_]) (ex := [_]) (Nat.zero_le _) ?_ ?_ ?_
      · simp only [go_sem, List.length_append, List.length_cons, List.length_nil, Nat.zero_add]
      · simp only [go_sem]
      · simp only [go_sem, Obj.under, AV.unders, AV.under]
    · have hk2 : ¬ (k : Int) < l.length := by omega
      simp only [go_sem, Int.reduceEq, Int.reduceLT, Int.reduceLE, eq_self, Int.natCast_nonneg, Int.toNat_natCast, hk2, edges_len, nxI, hm0, nats_take, nats_len, nats_snoc, m1, hm2, hnm, edgeD, t1]
      refine ⟨by omega, by omega, inR_i64.2 (by omega), _, x1, x2, ?_⟩
      simp only [m3]
      refine le_end (own := [_]) (ex := [_]) (Nat.zero_le _) ?_ ?_ ?_
      · simp only [go_sem, List.length_append, List.length_cons, List.length_nil, Nat.zero_add]
      · simp only [go_sem]
      · simp only [go_sem, Obj.under, AV.unders, AV.under]
end Go.AM

namespace Go.AM
open Go Go.Proofs

def Via (E : List (Nat × Nat)) : Nat → Nat → Nat → Prop
  | 0, i, j => (i, j) ∈ E
  | k + 1, i, j => Via E k i j ∨ (Via E k i k ∧ Via E k k j)
theorem Via_trans {E : List (Nat × Nat)} : ∀ {k i m j : Nat}, m < k → Via E k i m → Via E k m j → Via E k i j
  | 0, _, _, _, h, _, _ => by omega
  | k + 1, i, m, j, h, h1, h2 => by
    by_cases e : m = k
    · subst e
      have g1 : Via E m i m := by rcases h1 with h1 | ⟨h1, _⟩ <;> exact h1
      have g2 : Via E m m j := by rcases h2 with h2 | ⟨_, h2⟩ <;> exact h2
      exact .inr ⟨g1, g2⟩
    · have hm : m < k := by omega
      rcases h1 with h1 | ⟨h1, h1'⟩ <;> rcases h2 with h2 | ⟨h2, h2'⟩
      · exact .inl (Via_trans hm h1 h2)
      · exact .inr ⟨Via_trans hm h1 h2, h2'⟩
      · exact .inr ⟨h1, Via_trans hm h1' h2⟩
      · exact .inr ⟨h1, h2'⟩
theorem Via_mono {E : List (Nat × Nat)} {i j : Nat} : ∀ {n : Nat}, (i, j) ∈ E → Via E n i j
  | 0, h => h
  | n + 1, h => .inl (Via_mono h)
theorem Via_of {E : List (Nat × Nat)} {n : Nat} (hE : ∀ p ∈ E, p.2 < n) : ∀ {k i j : Nat}, Wk E (k + 1) i j → Via E n i j
  | 0, i, j, ⟨u, hu, hw⟩ => by cases hw; exact Via_mono hu
  | k + 1, i, j, ⟨u, hu, hw⟩ => by
    have hun : u < n := by obtain ⟨x, hx, _⟩ := hw; exact hE _ hx
    exact Via_trans hun (Via_of hE hw) (Via_mono hu)
def Rch (E : List (Nat × Nat)) (i j : Nat) : Prop := ∃ k, Wk E (k + 1) i j
theorem Rch_trans {E : List (Nat × Nat)} {i m j : Nat} (h1 : Rch E i m) (h2 : Rch E m j) : Rch E i j := by
  obtain ⟨a, ha⟩ := h1
  obtain ⟨b, hb⟩ := h2
  exact ⟨a + 1 + b, by have := Wk_app ha hb; rwa [show a + 1 + (b + 1) = a + 1 + b + 1 by omega] at this⟩

def get2 (B : List (List Bool)) (i j : Nat) : Bool := (B.getD i []).getD j false
def set2 (B : List (List Bool)) (i j : Nat) (v : Bool) : List (List Bool) := B.set i ((B.getD i []).set j v)
structure Sq (n : Nat) (B : List (List Bool)) : Prop where
  len : B.length = n
  row : ∀ i, i < n → (B.getD i []).length = n
theorem get2_set2 {n : Nat} {B : List (List Bool)} (h : Sq n B) {i j a b : Nat} {v : Bool} (hi : i < n) (hj : j < n) : get2 (set2 B i j v) a b = if i = a ∧ j = b then v else get2 B a b := by
  unfold get2 set2
  rw [getD_set']
  by_cases e : i = a
  · subst e
    rw [if_pos ⟨rfl, by rw [h.len]; exact hi⟩, getD_set']
    by_cases e2 : j = b
    · subst e2; rw [if_pos ⟨rfl, by rw [h.row i hi]; exact hj⟩, if_pos ⟨rfl, rfl⟩]
    · rw [if_neg (fun hh => e2 hh.1), if_neg (fun hh => e2 hh.2)]
  · rw [if_neg (fun hh => e hh.1), if_neg (fun hh => e hh.1)]
theorem Sq.set {n : Nat} {B : List (List Bool)} (h : Sq n B) {i j : Nat} {v : Bool} (hi : i < n) : Sq n (set2 B i j v) where
  len := by simp [set2, h.len]
  row a ha := by
    unfold set2
    rw [getD_set']
    split
    · rw [List.length_set]; exact h.row i hi
    · exact h.row a ha
theorem Sq.rep {n : Nat} : Sq n (List.replicate n (List.replicate n false)) where
  len := by simp
  row i hi := by simp [List.getD_eq_getElem?_getD, List.getElem?_replicate, hi]
theorem get2_rep {n i j : Nat} : get2 (List.replicate n (List.replicate n false)) i j = false := by
  unfold get2
  by_cases hi : i < n
  · by_cases hj : j < n <;> simp [List.getD_eq_getElem?_getD, List.getElem?_replicate, hi, hj]
  · simp [List.getD_eq_getElem?_getD, List.getElem?_replicate, hi]
theorem Sq.ext {n : Nat} {B C : List (List Bool)} (hB : Sq n B) (hC : Sq n C) (h : ∀ i j, i < n → j < n → get2 B i j = get2 C i j) : B = C := by
  refine List.ext_getElem (by rw [hB.len, hC.len]) fun i h1 h2 => ?_
  have hi : i < n := by rw [← hB.len]; exact h1
  have e1 : B.getD i [] = B[i] := by simp [List.getD_eq_getElem?_getD, List.getElem?_eq_getElem h1]
  have e2 : C.getD i [] = C[i] := by simp [List.getD_eq_getElem?_getD, List.getElem?_eq_getElem h2]
  have r1 := hB.row i hi
  have r2 := hC.row i hi
  rw [e1] at r1; rw [e2] at r2
  refine List.ext_getElem (by rw [r1, r2]) fun j g1 g2 => ?_
  have := h i j hi (by omega)
  unfold get2 at this
  rw [e1, e2] at this
  simpa [List.getD_eq_getElem?_getD, List.getElem?_eq_getElem g1, List.getElem?_eq_getElem g2] using this
open Classical in
noncomputable def reachB (n : Nat) (l : List PEdge) : List (List Bool) := (List.range n).map fun i => (List.range n).map fun j => decide (Rch (eF l) i j)
theorem reachB_sq {n : Nat} {l : List PEdge} : Sq n (reachB n l) where
  len := by simp [reachB]
  row i hi := by simp [reachB, List.getD_eq_getElem?_getD, hi]
theorem reachB_get {n : Nat} {l : List PEdge} {i j : Nat} (hi : i < n) (hj : j < n) : get2 (reachB n l) i j = true ↔ Rch (eF l) i j := by
  simp [get2, reachB, List.getD_eq_getElem?_getD, hi, hj]

structure FW (n : Nat) (l : List PEdge) (B : List (List Bool)) (k i j : Nat) : Prop where
  sq : Sq n B
  sound : ∀ a b, get2 B a b = true → Rch (eF l) a b
  comp : ∀ a b, a < n → b < n → Via (eF l) k a b → get2 B a b = true
  done : ∀ a b, a < n → b < n → (a < i ∨ (a = i ∧ b < j)) → Via (eF l) (k + 1) a b → get2 B a b = true
theorem FW.set {n : Nat} {l : List PEdge} {B : List (List Bool)} {k i j : Nat} (h : FW n l B k i j) (hk : k < n) (hi : i < n) (hj : j < n) :
    FW n l (set2 B i j (get2 B i j || (get2 B i k && get2 B k j))) k i (j + 1) := by
  have up : ∀ a b, get2 B a b = true → get2 (set2 B i j (get2 B i j || (get2 B i k && get2 B k j))) a b = true := fun a b hab => by
    rw [get2_set2 h.sq hi hj]
    split
    · rename_i e; rw [e.1, e.2, hab]; rfl
    · exact hab
  refine ⟨h.sq.set hi, fun a b hab => ?_, fun a b ha hb hv => up a b (h.comp a b ha hb hv), fun a b ha hb ho hv => ?_⟩
  · rw [get2_set2 h.sq hi hj] at hab
    split at hab
    · rename_i e
      rw [← e.1, ← e.2]
      simp only [Bool.or_eq_true, Bool.and_eq_true] at hab
      rcases hab with hab | ⟨h1, h2⟩
      · exact h.sound _ _ hab
      · exact Rch_trans (h.sound _ _ h1) (h.sound _ _ h2)
    · exact h.sound a b hab
  · by_cases e : i = a ∧ j = b
    · rw [get2_set2 h.sq hi hj, if_pos e]
      simp only [Bool.or_eq_true, Bool.and_eq_true]
      rw [e.1, e.2]
      rcases hv with hv | ⟨h1, h2⟩
      · exact .inl (h.comp a b ha hb hv)
      · exact .inr ⟨h.comp a k ha hk h1, h.comp k b hk hb h2⟩
    · exact up a b (h.done a b ha hb (by omega) hv)
theorem FW.row {n : Nat} {l : List PEdge} {B : List (List Bool)} {k i : Nat} (h : FW n l B k i n) : FW n l B k (i + 1) 0 :=
  ⟨h.sq, h.sound, h.comp, fun a b ha hb ho hv => h.done a b ha hb (by omega) hv⟩
theorem FW.all {n : Nat} {l : List PEdge} {B : List (List Bool)} (hg : GOk n l) (h : FW n l B n 0 0) : B = reachB n l := by
  refine h.sq.ext reachB_sq fun i j hi hj => ?_
  rw [Bool.eq_iff_iff, reachB_get hi hj]
  exact ⟨h.sound i j, fun ⟨k, hk⟩ => h.comp i j hi hj (Via_of hg.eFlt hk)⟩
structure FW0 (n : Nat) (l : List PEdge) (P : List PEdge) (B : List (List Bool)) : Prop where
  sq : Sq n B
  sound : ∀ a b, get2 B a b = true → (a, b) ∈ eF l
  comp : ∀ e ∈ P, get2 B e.s e.t = true
theorem FW0.init {n : Nat} {l : List PEdge} : FW0 n l [] (List.replicate n (List.replicate n false)) :=
  ⟨Sq.rep, fun a b h => (by rw [get2_rep] at h; cases h), fun e he => (by cases he)⟩
theorem FW0.step {n : Nat} {l P : List PEdge} {B : List (List Bool)} {e : PEdge} (h : FW0 n l P B) (hg : GOk n l) (he : e ∈ l) : FW0 n l (P ++ [e]) (set2 B e.s e.t true) := by
  have hs := (hg.src e he).2
  have ht := (hg.dst e he).2
  refine ⟨h.sq.set hs, fun a b hab => ?_, fun x hx => ?_⟩
  · rw [get2_set2 h.sq hs ht] at hab
    split at hab
    · rename_i e'; exact List.mem_map.2 ⟨e, he, by rw [e'.1, e'.2]⟩
    · exact h.sound a b hab
  · rw [get2_set2 h.sq hs ht]
    split
    · rfl
    · rcases List.mem_append.1 hx with hx | hx
      · exact h.comp x hx
      · simp at hx; subst hx
        rename_i e'; exact absurd ⟨rfl, rfl⟩ e'
end Go.AM

namespace Go.AM
open Go Go.Proofs

def Chain (l : List PEdge) : Nat → Nat → List Nat → Prop
  | v, w, [] => v = w
  | v, w, i :: r => i < l.length ∧ sOf l i = v ∧ Chain l (tOf l i) w r
theorem Chain_path {l : List PEdge} {to : Nat} : ∀ {k v : Nat}, sd (eF l) v to = k → Chain l v to (pathL l to k v)
  | 0, v, h => sd_zero h
  | k + 1, v, h => by
    obtain ⟨i, hi⟩ := nxt_some (l := l) (to := to) (v := v) (by omega)
    obtain ⟨h1, h2, h3⟩ := nxt_is hi
    rw [pathL_cons hi]
    exact ⟨h1, h2, Chain_path (by omega)⟩
theorem Chain_at {l : List PEdge} : ∀ {v w : Nat} {L : List Nat} {j i : Nat}, Chain l v w L → L[j]? = some i → i < l.length ∧ (L.length = j + 1 → tOf l i = w) ∧ (∀ m, L[j + 1]? = some m → tOf l i = sOf l m)
  | v, w, [], j, i, _, h => by simp at h
  | v, w, x :: r, 0, i, ⟨h1, h2, h3⟩, h => by
    simp at h; subst h
    refine ⟨h1, fun hl => ?_, fun m hm => ?_⟩
    · have : r = [] := List.eq_nil_of_length_eq_zero (by simpa using hl)
      subst this; exact h3
    · cases r with
      | nil => simp at hm
      | cons y r => simp at hm; subst hm; exact h3.2.1.symm
  | v, w, x :: r, j + 1, i, ⟨h1, h2, h3⟩, h => by
    obtain ⟨g1, g2, g3⟩ := Chain_at (j := j) h3 (by simpa using h)
    exact ⟨g1, fun hl => g2 (by simpa using hl), fun m hm => g3 m (by simpa using hm)⟩
structure CycOk (l : List PEdge) (c : List Nat) : Prop where
  at_ : ∀ (j i : Nat), c[j]? = some i → i < l.length
  next : ∀ (j i m : Nat), c[j]? = some i → c[(j + 1) % c.length]? = some m → tOf l i = sOf l m
  min : ∀ (r i : Nat), 0 < c.length → r + 1 < c.length → ¬ Wk (eF l) (r + 1) i i
  none : c.length = 0 ↔ acyc (eF l)
theorem cycV_ok (l : List PEdge) : CycOk l (cycV l) := by
  have hc := cycL_is (l := l) l.length
  have hA := acyc_cyc (l := l)
  cases h : cycL l l.length with
  | none =>
    have e : cycV l = [] := by unfold cycV; rw [h]; rfl
    rw [e]
    exact ⟨fun j i hj => by simp at hj, fun j i m hj => by simp at hj, fun r i h0 => by simp at h0, by simp; exact hA.2 h⟩
  | some c =>
    have e : cycV l = c := by unfold cycV; rw [h]; rfl
    rw [h] at hc
    rw [e]
    obtain ⟨i, h1, h2, h3, h4⟩ := hc
    have hlen := cycOf_len h2
    have hch : Chain l (sOf l i) (sOf l i) (cycOf l i) := ⟨h1, rfl, Chain_path (by unfold back at h2 ⊢; omega)⟩
    subst h3
    refine ⟨fun j m hj => (Chain_at hch hj).1, fun j a m hj hm => ?_, fun r v h0 hr hw => ?_, ⟨fun h0 => by omega, fun hac => by rw [hA.1 hac] at h; cases h⟩⟩
    · obtain ⟨_, g2, g3⟩ := Chain_at hch hj
      have hjl := (List.getElem?_eq_some_iff.1 hj).1
      by_cases hlast : j + 1 = (cycOf l i).length
      · rw [hlast, Nat.mod_self] at hm
        rw [g2 hlast.symm]
        have : (cycOf l i)[0]? = some i := rfl
        rw [this] at hm; cases hm; rfl
      · rw [Nat.mod_eq_of_lt (by omega)] at hm
        exact g3 m hm
    · obtain ⟨b, hb, hw⟩ := Wk_first hw
      obtain ⟨m, m1, m2, m3⟩ := eF_ex hb
      have hbk : 0 ≤ back l m ∧ back l m ≤ r := by unfold back; rw [m2, m3]; exact sd_le hw
      rcases h4 m m1 with g | g <;> omega
noncomputable def diag (n : Nat) (l : List PEdge) (k : Nat) : Bool := (List.range k).any fun i => get2 (reachB n l) i i
open Classical in
noncomputable def rowW (n : Nat) (l : List PEdge) (r i : Nat) : List Bool := (List.range n).map fun j => decide (Wk (eF l) r i j)
noncomputable def walkB (n : Nat) (l : List PEdge) (r : Nat) : List (List Bool) := (List.range n).map (rowW n l r)
open Classical in
noncomputable def rowP (n : Nat) (l : List PEdge) (r i k : Nat) : List Bool := (List.range n).map fun j => decide (∃ e ∈ l.take k, e.t = j ∧ Wk (eF l) r i e.s)
end Go.AM

set_option maxRecDepth 8000
set_option maxHeartbeats 2000000
namespace Go.AM
open Go Go.Proofs

def sameR (ds : List D) (v : AV) : Prop := ∃ (L : List Nat), ds = [.sl none (natsD L), .sl none (natsD L)] ∧ L.length ≤ 10000 ∧ v = .dat (.bool true)
theorem same_ok : OkF Try.prog 30 (dataC sameR) := by
  refine okF_data Try.func30 rfl (by decide) ?_
  rintro ds v ⟨L, rfl, hL, rfl⟩
  refine sem_of_awp (Γ := tbl []) okG_nil _ _ _ ?_
  simp only [go_sem, Int.reduceEq, Int.reduceLT, Int.reduceLE, eq_self, Int.natCast_nonneg, Int.toNat_natCast, Try.ntmps30, nats_len]
  refine sem_loop (fun k : Nat => ⟨slotsOf 26 [(0, .dat (.sl none (natsD L))), (1, .dat (.sl none (natsD L))), (5, .dat (.int .i64 k))], [], 0, []⟩)
    (fun k => k ≤ L.length) (fun k => L.length - k) 0 (Nat.zero_le _) ?_ ?_
  · exact le_slots' (by simp only [go_sem, Int.natCast_zero])
  rintro k hk
  refine sem_of_awp (Γ := tbl []) okG_nil _ _ _ ?_
  cases hd : L.drop k with
  | nil =>
    have := end_of_drop hd hk
    have hk2 : ¬ (k : Int) < L.length := by omega
    simp only [go_sem, Int.reduceEq, Int.reduceLT, Int.reduceLE, eq_self, Int.natCast_nonneg, Int.toNat_natCast, hk2, nats_len]
    exact post_data (.inl rfl) [4] rfl trivial rfl
  | cons x r =>
    have hlt := lt_of_drop hd
    have hk2 : (k : Int) < L.length := by omega
    have hk0 : (0 : Int) ≤ k := Int.natCast_nonneg k
    have hn := nth_of_drop (f := natD) hd
    simp only [go_sem, Int.reduceEq, Int.reduceLT, Int.reduceLE, eq_self, Int.natCast_nonneg, Int.toNat_natCast, hk2, nats_len]
    refine sem_draw (pf := []) (Γ := tbl []) mixed okG_nil pureNo [0, 1, 2, 3, 4, 5, 6, 7, 8] (by kernel_rfl) ?_
    simp only [go_sem, Int.reduceEq, Int.reduceLT, Int.reduceLE, eq_self, Int.natCast_nonneg, Int.toNat_natCast, chainI, hk2, hlt, hk0, hn, nats_len]
    refine ⟨inR_i64.2 (by omega), k + 1, by omega, by omega, ?_⟩
    exact le_slots' (by simp only [go_sem, Int.natCast_add, Int.cast_ofNat_Int])
end Go.AM

