/- Own work over the model of the kit. -/
import Derived.Test.YtfiojoacbomncaaD21
import Derived.Test.YtfiojoacbomncaaE0
set_option linter.unusedSimpArgs false
set_option linter.unusedVariables false
set_option linter.constructorNameAsVariable false
set_option maxRecDepth 8000
set_option maxHeartbeats 4000000
namespace Go.AM
open Go Go.Proofs
theorem reach_none {s : PSys} {x : PSt} (hV : Valid s x) (h : reachG s x = none) : ∃ L : List PSt, L.length = 4097 ∧ L.Nodup ∧ ∀ z ∈ L, Rch s x z := by
 have := outG_ok (s := s) (x := x) 4097 0 (g0 x) [] [] rfl (ginv0 hV) (Nat.zero_le _) rfl rfl (by simp)
 unfold reachG at h
 rw [h] at this
 exact this
theorem reach_all {s : PSys} {x : PSt} (hV : Valid s x) {g : Gr} {ab nx : List (List Nat)} (h : reachG s x = some (g, ab, nx)) {y : PSt} : y ∈ g.st ↔ Rch s x y := by
 obtain ⟨h1, h2, _, _⟩ := reach_inv hV h
 refine ⟨h1.rch y, fun hr => ?_⟩
 induction hr with
 | refl => obtain ⟨T, hT⟩ := h1.hd; rw [hT]; simp
 | step hr hw ha ih => exact h2 _ ih _ (mem_able.2 ⟨hw, ha⟩)
theorem nodup_sub {α : Type} [DecidableEq α] : ∀ {L S : List α}, L.Nodup → (∀ x ∈ L, x ∈ S) → L.length ≤ S.length
 | [], S, _, _ => Nat.zero_le _
 | a :: L, S, hn, hs => by
  obtain ⟨h1, h2⟩ := List.nodup_cons.1 hn
  have := nodup_sub (L := L) (S := S.erase a) h2 fun x hx => by
   have hne : x ≠ a := fun e => h1 (e ▸ hx)
   exact (List.mem_erase_of_ne hne).2 (hs x (by simp [hx]))
  rw [List.length_erase_of_mem (hs a (by simp))] at this
  have hp := List.length_pos_of_mem (hs a (by simp))
  simp only [List.length_cons]; omega
theorem reach_from {s : PSys} {x : PSt} (hV : Valid s x) {r : Gr × List (List Nat) × List (List Nat)} (h : reachG s x = some r) {y : PSt} (hy : Rch s x y) : ∃ r', reachG s y = some r' := by
 cases e : reachG s y with
 | some r' => exact ⟨r', rfl⟩
 | none =>
  obtain ⟨g, ab, nx⟩ := r
  obtain ⟨L, h1, h2, h3⟩ := reach_none (hy.val hV) e
  have := nodup_sub h2 fun z hz => (reach_all hV h).2 (hy.trans (h3 z hz))
  have := (reach_inv hV h).1.ok.le
  omega
theorem idxS_nd {S : List PSt} {t : PSt} {i : Nat} (hn : S.Nodup) (hi : i < S.length) (h : S.getD i [] = t) : idxS S t = some i := by
 have hg : S[i] = t := by rw [← h, List.getD_eq_getElem?_getD, List.getElem?_eq_getElem hi]; rfl
 obtain ⟨j, hj⟩ := idxS_some (S := S) (t := t) (hg ▸ List.getElem_mem hi)
 obtain ⟨hj1, hj2⟩ := idxS_lt hj
 have : j = i := (List.getElem_inj hn).1 (hj2.trans hg.symm)
 rw [hj, this]
theorem fre_any {ab nx : List (List Nat)} {w i : Nat} (h : Fre ab nx w i) : ∃ k, w ∈ ab.getD k [] := by
 induction h with
 | here hw => exact ⟨_, hw⟩
 | next _ _ ih => exact ih
theorem fre_first {s : PSys} {x : PSt} (hV : Valid s x) {g : Gr} {ab nx : List (List Nat)} (h : reachG s x = some (g, ab, nx)) {w : Nat} : ∀ i, i < g.st.length → Fre ab nx w i → Fre ab nx w 0 := by
 obtain ⟨hG, hcl, rfl, rfl⟩ := reach_inv hV h
 intro i
 induction i using Nat.strongRecOn with
 | _ i ih =>
  intro hi hf
  rcases Nat.eq_zero_or_pos i with rfl | hp
  ·exact hf
  ·obtain ⟨a, v, _, _, h3, h4, h5, h6⟩ := hG.prov i hp hi
   refine ih a h3 (by omega) (.next (j := i) ?_ hf)
   rw [show (g.st.map (nxRow s g.st)).getD a [] = nxRow s g.st (g.st.getD a []) from map_getD (e := []) (by omega)]
   unfold nxRow
   refine List.mem_map.2 ⟨v, mem_able.2 ⟨h4, h5⟩, ?_⟩
   rw [idxS_nd hG.nd hi h6]; rfl
theorem fre_0 {s : PSys} {x : PSt} (hV : Valid s x) {g : Gr} {ab nx : List (List Nat)} (h : reachG s x = some (g, ab, nx)) {w : Nat} : Fre ab nx w 0 ↔ anyW ab w = true := by
 have hF := frok_of hV h
 unfold anyW
 rw [List.any_eq_true]
 constructor
 ·intro hf
  obtain ⟨k, hk⟩ := fre_any hf
  rcases Nat.lt_or_ge k ab.length with h1 | h1
  ·refine ⟨ab.getD k [], ?_, by simpa using hk⟩
   rw [List.getD_eq_getElem?_getD, List.getElem?_eq_getElem h1]; exact List.getElem_mem h1
  ·rw [List.getD_eq_getElem?_getD, List.getElem?_eq_none h1] at hk
   simp at hk
 ·rintro ⟨l, hl, hw⟩
  obtain ⟨k, hk, rfl⟩ := List.getElem_of_mem hl
  refine fre_first hV h k (by rw [← hF.la]; exact hk) (.here ?_)
  rw [List.getD_eq_getElem?_getD, List.getElem?_eq_getElem hk]
  simpa using hw
theorem idxG_spec : ∀ (l : List Bool) (k : Nat), (idxG false k l = -1 ∧ ∀ i, i < l.length → l.getD i true = true) ∨ ∃ j, j < l.length ∧ idxG false k l = (k + j : Nat) ∧ l.getD j true = false ∧ ∀ i, i < j → l.getD i true = true
 | [], k => .inl ⟨rfl, fun i h => by simp at h⟩
 | b :: l, k => by
  cases b with
  | false => exact .inr ⟨0, by simp, by simp [idxG], by simp, fun i h => by omega⟩
  | true =>
   simp only [idxG, Bool.false_eq_true, if_false]
   rcases idxG_spec l (k + 1) with ⟨h1, h2⟩ | ⟨j, h1, h2, h3, h4⟩
   ·refine .inl ⟨h1, fun i hi => ?_⟩
    cases i with
    | zero => rfl
    | succ i => simp only [List.length_cons] at hi; simpa using h2 i (by omega)
   ·refine .inr ⟨j + 1, by simp only [List.length_cons]; omega, by rw [h2]; congr 1; omega, by simpa using h3, fun i hi => ?_⟩
    cases i with
    | zero => rfl
    | succ i => simpa using h4 i (by omega)
theorem rngB_at {n i : Nat} {f : Nat → Bool} (h : i < n) : (rngB n f).getD i true = f i := by
 simp [rngB, List.getD_eq_getElem?_getD, h]
end Go.AM
set_option maxRecDepth 8000
set_option maxHeartbeats 4000000
namespace Go.AM
open Go Go.Proofs

theorem ex_tab2 (s : PSys) (x : PSt) : ∃ B : Nat → Nat → Bool, TabOk s x B := by
 refine ⟨fun w i => @decide (∀ g ab nx, reachG s x = some (g, ab, nx) → Fre ab nx w i) (Classical.propDecidable _), fun g ab nx hr w i _ => ?_⟩
 refine Iff.trans (@decide_eq_true_iff _ (Classical.propDecidable _)) ?_
 exact ⟨fun h => h g ab nx hr, fun h g' ab' nx' hr' => by rw [hr] at hr'; cases hr'; exact h⟩
theorem stuck_len (s : PSys) (x : PSt) : (stuckX s x).1.length ≤ x.length := by
 unfold stuckX
 split
 ·simp
 ·split
  ·simp
  ·unfold stuckL
   refine Nat.le_trans (List.length_filter_le _ _) ?_
   rw [List.length_range]; exact Nat.le_refl _
abbrev tabZ2 : List (Nat × Contract) := [(11, dataC awakeXR), (12, dataC few4R), (21, dataC reachNR), (22, dataC reachNR), (23, dataC deadR), (24, dataC deadR), (25, dataC startXR), (14, dataC stepXR), (26, dataC stuckR), (27, dataC stuckR), (18, dataC sameR)]
def lawRhR (ds : List D) (v : AV) : Prop := ∃ (s : PSys) (ws : List Int), ds = [sysD s, .sl none (intsD ws)] ∧ v = .dat (.bool true)
end Go.AM

set_option maxRecDepth 8000
namespace Go.AM
open Go Go.Proofs

theorem err_val {s : PSys} {x : PSt} (hc : checkE s = 0) (hV : Valid s x) : stErr s x = 0 := by
 unfold stErr
 rw [if_neg (by omega), if_neg (by rw [hV.len]; simp), if_neg (by rw [hV.fmd]; simp), if_neg (by rw [hV.nover]; simp)]
theorem step_able {s : PSys} {x : PSt} {w : Nat} (hc : checkE s = 0) (hV : Valid s x) (hw : w < x.length) (ha : ableB s x w = true) : stepX s x w = (takeX s x w, 0) := by
 unfold stepX
 rw [if_neg (by rw [err_val hc hV]; simp), if_neg (by omega), if_neg (by simp [ha])]
 simp
theorem step_rch {s : PSys} {x : PSt} {w : Int} (h : (stepX s x w).2 = 0) : Rch s x (stepX s x w).1 := by
 unfold stepX at *
 by_cases h1 : stErr s x ≠ 0
 ·rw [if_pos h1] at h; exact absurd h h1
 rw [if_neg h1] at h ⊢
 by_cases h2 : w < 0 ∨ (x.length : Int) ≤ w
 ·rw [if_pos h2] at h; simp at h
 rw [if_neg h2] at h ⊢
 by_cases h3 : ableB s x w.toNat = false
 ·rw [if_pos h3] at h; simp at h
 rw [if_neg h3]
 exact .step .refl (by omega) (by simpa using h3)
theorem nx_mem {s : PSys} {x : PSt} {g : Gr} (hI : GInv s x g) {i j u : Nat} (hi : i < g.st.length) (hj : j < g.st.length) (hu : u ∈ ableL s (g.st.getD i [])) (h : g.st.getD j [] = takeX s (g.st.getD i []) u) : j ∈ (g.st.map (nxRow s g.st)).getD i [] := by
 rw [show (g.st.map (nxRow s g.st)).getD i [] = nxRow s g.st (g.st.getD i []) from map_getD (e := []) hi]
 unfold nxRow
 refine List.mem_map.2 ⟨u, hu, ?_⟩
 rw [idxS_nd hI.nd hj h]; rfl
theorem st_idx {S : List PSt} {y : PSt} (h : y ∈ S) : ∃ j, j < S.length ∧ S.getD j [] = y := by
 obtain ⟨j, hj, rfl⟩ := List.getElem_of_mem h
 exact ⟨j, hj, by simp [List.getD_eq_getElem?_getD, hj]⟩
theorem fre_rch {s : PSys} {x : PSt} (hV : Valid s x) {g : Gr} {ab nx : List (List Nat)} (h : reachG s x = some (g, ab, nx)) {w i : Nat} (hi : i < g.st.length) : Fre ab nx w i ↔ ∃ y, Rch s (g.st.getD i []) y ∧ w ∈ ableL s y := by
 obtain ⟨hG, hcl, rfl, rfl⟩ := reach_inv hV h
 have hab : ∀ i, i < g.st.length → (g.st.map (ableL s)).getD i [] = ableL s (g.st.getD i []) := fun i hi => map_getD hi
 have hmem : ∀ i, i < g.st.length → g.st.getD i [] ∈ g.st := fun i hi => getD_memS hi
 constructor
 ·intro hf
  induction hf with
  | @here i hw => exact ⟨_, .refl, by rw [← hab i hi]; exact hw⟩
  | @next i j hj _ ih =>
   rw [show (g.st.map (nxRow s g.st)).getD i [] = nxRow s g.st (g.st.getD i []) from map_getD (e := []) hi] at hj
   unfold nxRow at hj
   obtain ⟨u, hu, hj⟩ := List.mem_map.1 hj
   obtain ⟨k, hk, hk2⟩ := st_idx (hcl _ (hmem i hi) u hu)
   rw [idxS_nd hG.nd hk hk2] at hj
   have hkj : k = j := hj
   subst hkj
   obtain ⟨y, h1, h2⟩ := ih hk
   obtain ⟨hu1, hu2⟩ := mem_able.1 hu
   refine ⟨y, Rch.trans (.step .refl hu1 hu2) ?_, h2⟩
   rw [← hk2]; exact h1
 ·rintro ⟨y, hr, hw⟩
  have key : ∀ z, Rch s (g.st.getD i []) z → (∀ j, j < g.st.length → g.st.getD j [] = z → Fre (g.st.map (ableL s)) (g.st.map (nxRow s g.st)) w j) → Fre (g.st.map (ableL s)) (g.st.map (nxRow s g.st)) w i := by
   intro z hz
   induction hz with
   | refl => intro hF; exact hF i hi rfl
   | @step z u hz hu ha ih =>
    intro hF
    refine ih fun j hj hjz => ?_
    have hu2 : u ∈ ableL s (g.st.getD j []) := by rw [hjz]; exact mem_able.2 ⟨hu, ha⟩
    obtain ⟨k, hk, hk2⟩ := st_idx (hcl _ (hmem j hj) u hu2)
    exact .next (nx_mem hG hj hk hu2 hk2) (hF k hk (by rw [hk2, hjz]))
  refine key y hr fun j hj hjy => .here ?_
  rw [hab j hj, hjy]; exact hw
theorem stuck_spec {s : PSys} {x : PSt} (hc : checkE s = 0) (hV : Valid s x) {r : Gr × List (List Nat) × List (List Nat)} (h : reachG s x = some r) : (stuckX s x).2 = 0 ∧ ∃ p : Nat → Bool, (stuckX s x).1 = (List.range x.length).filter p ∧ ∀ w, p w = true ↔ ¬ ∃ y, Rch s x y ∧ w ∈ ableL s y := by
 obtain ⟨g, ab, nx⟩ := r
 have he : stuckX s x = (stuckL x.length ab, 0) := by
  unfold stuckX
  rw [if_neg (by rw [err_val hc hV]; simp), h]
 rw [he]
 refine ⟨rfl, fun w => !(ab.any fun l => l.contains w), rfl, fun w => ?_⟩
 have h0 : 0 < g.st.length := by obtain ⟨T, hT⟩ := (reach_inv hV h).1.hd; rw [hT]; simp
 have hx0 : g.st.getD 0 [] = x := by obtain ⟨T, hT⟩ := (reach_inv hV h).1.hd; rw [hT]; rfl
 have hf := fre_rch hV h (w := w) h0
 rw [hx0, fre_0 hV h] at hf
 rw [← hf]
 unfold anyW
 simp
theorem filter_head : ∀ {n m : Nat} {p : Nat → Bool}, m < n → p m = true → (∀ w, w < m → p w = false) → ∃ r, (List.range n).filter p = m :: r
 | n, m, p, hm, hp, hl => by
  obtain ⟨k, rfl⟩ : ∃ k, n = m + (k + 1) := ⟨n - m - 1, by omega⟩
  rw [List.range_add, List.filter_append, List.filter_eq_nil_iff.2 fun w hw => by rw [hl w (List.mem_range.1 hw)]; simp, List.nil_append, List.range_succ_eq_map, List.map_cons, List.filter_cons_of_pos (by simpa using hp)]
  exact ⟨_, rfl⟩
theorem best_spec (n : Nat) (B : Nat → Nat → Bool) : ∀ m, (∀ w, w < m → ∀ i : Nat, (i : Int) < (bestF n B m).1 → B w i = true) ∧ ((bestF n B m).1 ≠ n → ∃ j : Nat, (bestF n B m).1 = j ∧ j < n ∧ (bestF n B m).2 < m ∧ B (bestF n B m).2 j = false ∧ ∀ w, w < (bestF n B m).2 → B w j = true)
 | 0 => ⟨fun w h => by omega, fun h => absurd rfl h⟩
 | m + 1 => by
  obtain ⟨h1, h2⟩ := best_spec n B m
  have hle := bestF_le n B m
  unfold bestF
  by_cases hb : 0 ≤ idxG false 0 (rngB n (B m)) ∧ idxG false 0 (rngB n (B m)) < (bestF n B m).1
  ·rw [if_pos hb]
   rcases idxG_spec (rngB n (B m)) 0 with ⟨e1, _⟩ | ⟨j, e1, e2, e3, e4⟩
   ·rw [e1] at hb; omega
   ·rw [rngB_len] at e1
    rw [rngB_at e1] at e3
    rw [Nat.zero_add] at e2
    rw [e2] at hb ⊢
    refine ⟨fun w hw i hi => ?_, fun _ => ⟨j, rfl, e1, Nat.lt_succ_self m, e3, fun w hw => h1 w hw j hb.2⟩⟩
    simp only at hi
    rcases Nat.lt_or_ge w m with h3 | h3
    ·exact h1 w h3 i (by omega)
    ·obtain rfl : w = m := by omega
     have := e4 i (by omega)
     rwa [rngB_at (by omega)] at this
  ·rw [if_neg hb]
   refine ⟨fun w hw i hi => ?_, fun hne => ?_⟩
   ·rcases Nat.lt_or_ge w m with h3 | h3
    ·exact h1 w h3 i hi
    ·obtain rfl : w = m := by omega
     rcases idxG_spec (rngB n (B w)) 0 with ⟨_, e1⟩ | ⟨j, e1, e2, e3, e4⟩
     ·have := e1 i (by rw [rngB_len]; omega)
      rwa [rngB_at (by omega)] at this
     ·rw [rngB_len] at e1
      rw [e2] at hb
      have := e4 i (by omega)
      rwa [rngB_at (by omega)] at this
   ·obtain ⟨j, e1, e2, e3, e4, e5⟩ := h2 hne
    exact ⟨j, e1, e2, by omega, e4, e5⟩
inductive Pth (s : PSys) (g : Gr) : Nat → List Int → Nat → Prop
 | nil {b : Nat} : Pth s g b [] b
 | cons {i k b w : Nat} {r : List Int} : i < k → k < g.st.length → w < (g.st.getD i []).length → ableB s (g.st.getD i []) w = true → g.st.getD k [] = takeX s (g.st.getD i []) w → Pth s g k r b → Pth s g i ((w : Int) :: r) b
theorem pth_snoc {s : PSys} {g : Gr} {i a b w : Nat} {l : List Int} (h : Pth s g i l a) (h1 : a < b) (h2 : b < g.st.length) (h3 : w < (g.st.getD a []).length) (h4 : ableB s (g.st.getD a []) w = true) (h5 : g.st.getD b [] = takeX s (g.st.getD a []) w) : Pth s g i (l ++ [(w : Int)]) b := by
 induction h with
 | nil => exact .cons h1 h2 h3 h4 h5 .nil
 | cons a1 a2 a3 a4 a5 _ ih => exact .cons a1 a2 a3 a4 a5 (ih h1 h3 h4 h5)
theorem pth_le {s : PSys} {g : Gr} {i b : Nat} {l : List Int} (h : Pth s g i l b) : i + l.length ≤ b := by
 induction h with
 | nil => simp
 | cons a1 _ _ _ _ _ ih => simp only [List.length_cons]; omega
theorem chain_pth {s : PSys} {x : PSt} {g : Gr} (hI : GInv s x g) : ∀ f b, b ≤ f → b < g.st.length → Pth s g 0 (chainF g f b).reverse b
 | 0, b, h, _ => by
  obtain rfl : b = 0 := by omega
  exact .nil
 | f + 1, b, h, hb => by
  unfold chainF
  by_cases h0 : b = 0
  ·rw [if_pos h0, h0]; exact .nil
  ·rw [if_neg h0, List.reverse_cons]
   obtain ⟨a, w, e1, e2, e3, e4, e5, e6⟩ := hI.prov b (by omega) hb
   rw [e1, e2]
   exact pth_snoc (chain_pth hI f a (by omega) (by omega)) e3 hb e4 e5 e6
theorem dead_spec {s : PSys} {B : Nat → Nat → Bool} (hB : TabOk s (iniX s) B) : ((deadV s B).2.2 ≠ 0 ∧ (deadV s B).1 = []) ∨ (checkE s = 0 ∧ ∃ (g : Gr) (b u : Nat) (W : List Int) (L : List Nat), deadV s B = (W, (u : Int), 0) ∧ GInv s (iniX s) g ∧ (∀ y ∈ g.st, ∃ r', reachG s y = some r') ∧ b < g.st.length ∧ Pth s g 0 W b ∧ (∀ i, i < b → stuckX s (g.st.getD i []) = ([], 0)) ∧ stuckX s (g.st.getD b []) = (u :: L, 0)) := by
 by_cases hc : checkE s = 0
 case neg =>
  refine .inl ?_
  unfold deadV
  rw [if_pos hc]; exact ⟨hc, rfl⟩
 have hV := iniX_valid hc
 cases hr : reachG s (iniX s) with
 | none =>
  refine .inl ?_
  unfold deadV
  rw [if_neg (by omega), hr]; exact ⟨by simp, rfl⟩
 | some r =>
  obtain ⟨g, ab, nx⟩ := r
  obtain ⟨hI, hcl, hab, hnx⟩ := reach_inv hV hr
  obtain ⟨b1, b2⟩ := best_spec g.st.length B (iniX s).length
  by_cases hb : (bestF g.st.length B (iniX s).length).1 = g.st.length
  ·refine .inl ?_
   unfold deadV
   rw [if_neg (by omega), hr]
   simp only
   rw [if_pos hb]; exact ⟨by decide, rfl⟩
  ·obtain ⟨b, e1, e2, e3, e4, e5⟩ := b2 hb
   have hdv : deadV s B = ((chainF g 5000 b).reverse, ((bestF g.st.length B (iniX s).length).2 : Int), 0) := by
    unfold deadV
    rw [if_neg (by omega), hr]
    simp only
    rw [if_neg hb, e1]
    rfl
   have hle := hI.ok.le
   have hfrom : ∀ y ∈ g.st, ∃ r', reachG s y = some r' := fun y hy => reach_from hV hr (hI.rch y hy)
   have hT := fun w i hi => (hB g ab nx hr w i hi).trans (fre_rch hV hr (w := w) hi)
   have hlen : ∀ i, i < g.st.length → (g.st.getD i []).length = (iniX s).length := fun i hi => (hI.rch _ (getD_memS hi)).len
   refine .inr ⟨hc, g, b, (bestF g.st.length B (iniX s).length).2, (chainF g 5000 b).reverse, ?_⟩
   have hsp : ∀ i, i < g.st.length → (stuckX s (g.st.getD i [])).2 = 0 ∧ ∃ p : Nat → Bool, (stuckX s (g.st.getD i [])).1 = (List.range (iniX s).length).filter p ∧ ∀ w, p w = !B w i := fun i hi => by
    obtain ⟨r', hr'⟩ := hfrom _ (getD_memS hi)
    obtain ⟨q1, p, q2, q3⟩ := stuck_spec hc (hI.ok.val _ (getD_memS hi)) hr'
    refine ⟨q1, p, by rw [q2, hlen i hi], fun w => ?_⟩
    have h1 := q3 w
    rw [← hT w i hi] at h1
    cases hp : p w <;> cases hb : B w i <;> simp_all
   obtain ⟨q1, p, q2, q3⟩ := hsp b e2
   obtain ⟨L, hL⟩ := filter_head (n := (iniX s).length) (m := (bestF g.st.length B (iniX s).length).2) (p := p) e3 (by rw [q3, e4]; rfl) (fun w hw => by rw [q3, e5 w hw]; rfl)
   refine ⟨L, hdv, hI, hfrom, e2, chain_pth hI 5000 b (by omega) e2, fun i hi => ?_, ?_⟩
   ·obtain ⟨q1, p, q2, q3⟩ := hsp i (by omega)
    refine Prod.ext ?_ q1
    rw [q2]
    exact List.filter_eq_nil_iff.2 fun w hw => by
     rw [q3, b1 w (List.mem_range.1 hw) i (by omega)]; simp
   ·exact Prod.ext (by rw [q2, hL]) q1
end Go.AM

set_option maxRecDepth 8000
set_option maxHeartbeats 4000000
namespace Go.AM
open Go Go.Proofs

abbrev tabZ7 : List (Nat × Contract) := [(11, dataC awakeXR), (12, dataC few4R), (23, dataC deadR), (28, dataC startXR), (13, dataC stepXR), (26, dataC stuckR), (19, dataC enabR)]
theorem tabZ7_ok : OkG Try.prog (tbl tabZ7) := okG_cons awakeX_ok (okG_cons few4_ok (okG_cons xDeadlock_ok (okG_cons xstart_ok (okG_cons xStep_ok (okG_cons xStuck_ok (okG_cons xEnabled_ok okG_nil))))))
theorem lawReplays_ok : OkF Try.prog 5 (dataC lawRhR) := by
 refine okF_data Try.func5 rfl (by decide) ?_
 rintro ds v ⟨s, ws, rfl, rfl⟩
 have hwl : (intsD ws).length = ws.length := by simp
 refine sem_of_awp (Γ := tbl tabZ7) tabZ7_ok _ _ _ ?_
 simp only [go_sem, Int.reduceEq, Int.reduceLT, Int.reduceLE, eq_self, Int.natCast_nonneg, Int.toNat_natCast, Try.ntmps5, sysD]
 refine call_data awakeXR (by simp) [] _ rfl awakeXR_true (.inl rfl) ?_
 simp only [go_sem, Int.reduceEq, Int.reduceLT, Int.reduceLE, eq_self, Int.natCast_nonneg, Int.toNat_natCast]
 refine call_data few4R (by simp) [sysD s] _ rfl ⟨s, rfl, rfl⟩ (.inl rfl) ?_
 cases hf : few4B s with
 | false =>
  simp only [go_sem, Int.reduceEq, Int.reduceLT, Int.reduceLE, eq_self, Int.natCast_nonneg, Int.toNat_natCast, hf]
  refine call_data awakeXR (by simp) [] _ rfl awakeXR_true (.inl rfl) ?_
  simp only [go_sem, Int.reduceEq, Int.reduceLT, Int.reduceLE, eq_self, Int.natCast_nonneg, Int.toNat_natCast]
  exact post_data (.inl rfl) [4] rfl trivial rfl
 | true =>
 have hs := few4_fit hf
 by_cases hl : (20 : Int) < ws.length
 ·simp only [go_sem, Int.reduceEq, Int.reduceLT, Int.reduceLE, eq_self, Int.natCast_nonneg, Int.toNat_natCast, hf, hwl, hl]
  refine call_data awakeXR (by simp) [] _ rfl awakeXR_true (.inl rfl) ?_
  simp only [go_sem, Int.reduceEq, Int.reduceLT, Int.reduceLE, eq_self, Int.natCast_nonneg, Int.toNat_natCast]
  exact post_data (.inl rfl) [4] rfl trivial rfl
 obtain ⟨B, hB⟩ := ex_tab2 s (iniX s)
 have hdd : deadR [sysD s] (.tup [.dat (.sl none (intsD (deadV s B).1)), .dat (.int .i64 (deadV s B).2.1), .dat (.int .i64 (deadV s B).2.2)]) := ⟨s, B, rfl, hs, hB, rfl⟩
 rcases dead_spec hB with ⟨hd2, hd1⟩ | ⟨hc, g, b, u, W, L, hdv, hI, hfrom, hb, hP, hlow, hat⟩
 case inl =>
  rw [hd1] at hdd
  generalize (deadV s B).2.1 = d1 at *
  generalize (deadV s B).2.2 = d2 at *
  simp only [go_sem, Int.reduceEq, Int.reduceLT, Int.reduceLE, eq_self, Int.natCast_nonneg, Int.toNat_natCast, hf, hwl, hl]
  refine call_data deadR (by simp) [sysD s] _ rfl hdd (.inl rfl) ?_
  simp only [go_sem, Int.reduceEq, Int.reduceLT, Int.reduceLE, eq_self, Int.natCast_nonneg, Int.toNat_natCast, hd2, List.map_nil, List.length_nil, Int.natCast_zero, decide_true]
  exact post_data (.inl rfl) [4] rfl trivial rfl
 rw [hdv] at hdd
 simp only at hdd
 have hWl : (intsD W).length = W.length := by simp
 have hle := hI.ok.le
 have hW1 := pth_le hP
 have hst : startXR [sysD s] (.tup [.dat (stD (iniX s)), .dat (.int .i64 0)]) := ⟨s, rfl, hs, by rw [if_pos hc, hc]⟩
 have hx0 : iniX s = g.st.getD 0 [] := by obtain ⟨T, hT⟩ := hI.hd; rw [hT]; rfl
 have hval : ∀ i, i < g.st.length → Valid s (g.st.getD i []) := fun i hi => hI.ok.val _ (getD_memS hi)
 have hfit : ∀ x, Valid s x → PStFit x := fun x hV => kfit_st (val_kfit hV)
 rw [hx0] at hst
 simp only [go_sem, Int.reduceEq, Int.reduceLT, Int.reduceLE, eq_self, Int.natCast_nonneg, Int.toNat_natCast, hf, hwl, hl]
 refine call_data deadR (by simp) [sysD s] _ rfl hdd (.inl rfl) ?_
 simp only [go_sem, Int.reduceEq, Int.reduceLT, Int.reduceLE, eq_self, Int.natCast_nonneg, Int.toNat_natCast, eq_self, not_true, decide_false]
 refine call_data startXR (by simp) [sysD s] _ rfl hst (.inl rfl) ?_
 simp only [go_sem, Int.reduceEq, Int.reduceLT, Int.reduceLE, eq_self, Int.natCast_nonneg, Int.toNat_natCast, stD, hWl]
 refine sem_loop (fun q : Nat × Nat => ⟨slotsOf 147 [(1, .dat (.sl none (intsD ws))), (2, .ptr 0 0 0), (6, .dat (.int .i64 u)), (8, .ptr 1 0 0), (9, .dat (.int .i64 0)), (53, .dat (.sl none (intsD W))), (54, .dat (.int .i64 W.length)), (55, .dat (.int .i64 q.1))], [sysO s, stO (g.st.getD q.2 [])], 0, []⟩)
  (fun q => q.1 ≤ W.length ∧ Pth s g q.2 (W.drop q.1) b) (fun q => W.length - q.1) (0, 0) ⟨Nat.zero_le _, hP⟩ ?_ ?_
 ·exact le_slots' (by simp only [go_sem, Int.natCast_zero])
 rintro ⟨j, i⟩ ⟨hj, hPi⟩
 simp only at hj hPi
 refine sem_of_awp (Γ := tbl tabZ7) tabZ7_ok _ _ _ ?_
 have hPl := pth_le hPi
 cases hd : W.drop j with
 | cons w r =>
  have hlt := lt_of_drop hd
  have hk2 : (j : Int) < W.length := by omega
  have hkz : (0 : Int) ≤ j := Int.natCast_nonneg j
  have hn := nth_of_drop (f := fun a => D.int .i64 a) hd
  rw [hd] at hPi hPl
  cases hPi with
  | @cons _ k _ w' _ a1 a2 a3 a4 a5 hPr =>
  have hib : i < b := by simp only [List.length_cons] at hPl; omega
  have hVi := hval i (by omega)
  have hsk : stuckR [sysD s, stD (g.st.getD i [])] (.tup [.dat (natlD []), .dat (.int .i64 0)]) := ⟨s, _, rfl, hs, hfit _ hVi, by rw [hlow i hib]⟩
  have hsp : stepXR [sysD s, stD (g.st.getD i []), .int .i64 (w' : Int)] (.tup [.dat (stD (g.st.getD k [])), .dat (.int .i64 0)]) := ⟨s, _, _, rfl, hs, hfit _ hVi, by rw [step_able hc hVi a3 a4, a5]⟩
  have h40 : ¬ (4096 : Int) < j := by omega
  generalize g.st.getD i [] = x at *
  simp only [go_sem, Int.reduceEq, Int.reduceLT, Int.reduceLE, eq_self, Int.natCast_nonneg, Int.toNat_natCast, hk2, hkz, hlt, hWl, hn, eq_self, not_true, decide_false]
  refine call_data stuckR (by simp) [sysD s, stD x] _ rfl hsk (.inl rfl) ?_
  simp only [go_sem, Int.reduceEq, Int.reduceLT, Int.reduceLE, eq_self, Int.natCast_nonneg, Int.toNat_natCast, stD, eq_self, not_true, decide_false, List.map_nil, List.length_nil, Int.natCast_zero, h40, Int.lt_irrefl]
  refine call_data stepXR (by simp) [sysD s, stD x, .int .i64 (w' : Int)] _ rfl hsp (.inl rfl) ?_
  simp only [go_sem, Int.reduceEq, Int.reduceLT, Int.reduceLE, eq_self, Int.natCast_nonneg, Int.toNat_natCast, stD]
  refine ⟨inR_i64.2 (by omega), (j + 1, k), ⟨by simp only; omega, by simp only; rw [drop_cons hd]; exact hPr⟩, by simp only; omega, ?_⟩
  exact le_slots' (by simp only [go_sem, Int.natCast_add, Int.cast_ofNat_Int])
 | nil =>
 obtain rfl : j = W.length := end_of_drop hd hj
 rw [hd] at hPi
 have hib : i = b := by cases hPi; rfl
 subst hib
 have hk2 : ¬ (W.length : Int) < W.length := by omega
 have hVi := hval i hb
 obtain ⟨r', hr'⟩ := hfrom _ (getD_memS hb)
 have hsk : stuckR [sysD s, stD (g.st.getD i [])] (.tup [.dat (natlD (u :: L)), .dat (.int .i64 0)]) := ⟨s, _, rfl, hs, hfit _ hVi, by rw [hat]⟩
 have hL : ∀ w ∈ u :: L, ∀ y, Rch s (g.st.getD i []) y → w ∉ ableL s y := by
  obtain ⟨_, p, q2, q3⟩ := stuck_spec hc hVi hr'
  rw [hat] at q2
  intro w hw y hy hwa
  have hq : u :: L = (List.range (g.st.getD i []).length).filter p := q2
  rw [hq] at hw
  exact (q3 w).1 (List.mem_filter.1 hw).2 ⟨y, hy, hwa⟩
 have hLl : (u :: L).length ≤ 1000 := by
  have h1 := stuck_len s (g.st.getD i [])
  rw [hat] at h1
  have h2 := (hfit _ hVi).len
  exact Nat.le_trans h1 h2
 generalize g.st.getD i [] = xb at *
 have hn0 : D.nth (natsD (u :: L)) 0 = .int .i64 u := rfl
 have hpos : 0 < (u :: L).length := Nat.succ_pos _
 generalize u :: L = SL at *
 have hSl : (natsD SL).length = SL.length := by simp
 have hSl0 : ¬ (SL.length : Int) = 0 := by omega
 have hpos2 : (0 : Int) < SL.length := by omega
 simp only [go_sem, Int.reduceEq, Int.reduceLT, Int.reduceLE, eq_self, Int.natCast_nonneg, Int.toNat_natCast, hk2]
 refine call_data stuckR (by simp) [sysD s, stD xb] _ rfl hsk (.inl rfl) ?_
 simp only [go_sem, Int.reduceEq, Int.reduceLT, Int.reduceLE, eq_self, Int.natCast_nonneg, Int.toNat_natCast, stD, eq_self, not_true, decide_false, hSl, hSl0, hpos, hpos2, hn0, hwl, Int.le_refl, Int.toNat_zero]
 refine sem_loop (fun q : Nat × PSt => ⟨slotsOf 147 [(2, .ptr 0 0 0), (8, .ptr 1 0 0), (14, .dat (.sl none (natsD SL))), (111, .dat (.sl none (intsD ws))), (112, .dat (.int .i64 ws.length)), (113, .dat (.int .i64 q.1))], [sysO s, stO q.2], 0, []⟩)
  (fun q => q.1 ≤ ws.length ∧ Rch s xb q.2) (fun q => ws.length - q.1) (0, xb) ⟨Nat.zero_le _, .refl⟩ ?_ ?_
 ·exact le_slots' (by simp only [go_sem, Int.natCast_zero])
 rintro ⟨k, x⟩ ⟨hk, hrx⟩
 simp only at hk hrx
 refine sem_of_awpK [26] (Γ := tbl tabZ7) tabZ7_ok _ _ _ ?_
 cases hd' : ws.drop k with
 | nil =>
  obtain rfl : k = ws.length := end_of_drop hd' hk
  have hk2 : ¬ (ws.length : Int) < ws.length := by omega
  simp only [go_sem, Int.reduceEq, Int.reduceLT, Int.reduceLE, eq_self, Int.natCast_nonneg, Int.toNat_natCast, hk2]
  exact post_data (.inl rfl) [4] rfl trivial rfl
 | cons w r =>
 have hlt := lt_of_drop hd'
 have hk2 : (k : Int) < ws.length := by omega
 have hkz : (0 : Int) ≤ k := Int.natCast_nonneg k
 have hn := nth_of_drop (f := fun a => D.int .i64 a) hd'
 have hVx := hrx.val hVi
 have hsp : stepXR [sysD s, stD x, .int .i64 w] (.tup [.dat (stD (stepX s x w).1), .dat (.int .i64 (stepX s x w).2)]) := ⟨s, x, w, rfl, hs, hfit _ hVx, rfl⟩
 have hnext : (stepX s x w).2 = 0 → Rch s xb (stepX s x w).1 := fun h => hrx.trans (step_rch h)
 generalize stepX s x w = y at *
 obtain ⟨y, e⟩ := y
 simp only at hnext
 simp only [go_sem, Int.reduceEq, Int.reduceLT, Int.reduceLE, eq_self, Int.natCast_nonneg, Int.toNat_natCast, hk2, hkz, hlt, hwl, hn, stD]
 refine call_data stepXR (by simp) [sysD s, stD x, .int .i64 w] _ rfl hsp (.inl rfl) ?_
 by_cases he : e = 0
 ·simp only [go_sem, Int.reduceEq, Int.reduceLT, Int.reduceLE, eq_self, Int.natCast_nonneg, Int.toNat_natCast, stD, he, eq_self, decide_true]
  refine sem_le (σ' := ⟨slotsOf 147 [(2, .ptr 0 0 0), (8, .ptr 1 0 0), (14, .dat (.sl none (natsD SL))), (111, .dat (.sl none (intsD ws))), (112, .dat (.int .i64 ws.length)), (113, .dat (.int .i64 k))], [sysO s, stO y], 0, []⟩) ?_ ?_
  ·refine le_end (own := [_, _]) (ex := [_]) (Nat.zero_le _) ?_ ?_ ?_
   ·simp only [go_sem]
   ·simp only [go_sem]
   ·simp only [go_sem, Obj.under, AV.unders, AV.under]
  have hz := hnext he
  clear hnext hsp hrx hVx
  generalize y = z at *
  have hVz := hz.val hVi
  have hEl : (ableL s z).length ≤ 1000 := by
   have h1 := able_len s z z.length
   have h2 := (hfit _ hVz).len
   unfold ableL; omega
  have hen : enabR [sysD s, stD z] (.dat (.sl none (natsD (ableL s z)))) := ⟨s, z, rfl, hs, hfit _ hVz, by unfold enabL; rw [if_neg (by rw [err_val hc hVz]; simp)]⟩
  have hEd : ∀ m ∈ ableL s z, m ∉ SL := fun m hm h => hL m h z hz hm
  generalize ableL s z = E at *
  have hEl2 : (natsD E).length = E.length := by simp
  refine sem_of_awp (Γ := tbl tabZ7) tabZ7_ok _ _ _ ?_
  simp only [go_sem, Int.reduceEq, Int.reduceLT, Int.reduceLE, eq_self, Int.natCast_nonneg, Int.toNat_natCast, stD]
  refine call_data enabR (by simp) [sysD s, stD z] _ rfl hen (.inl rfl) ?_
  simp only [go_sem, Int.reduceEq, Int.reduceLT, Int.reduceLE, eq_self, Int.natCast_nonneg, Int.toNat_natCast, hEl2]
  refine sem_loop (fun m : Nat => ⟨slotsOf 147 [(2, .ptr 0 0 0), (8, .ptr 1 0 0), (14, .dat (.sl none (natsD SL))), (111, .dat (.sl none (intsD ws))), (112, .dat (.int .i64 ws.length)), (113, .dat (.int .i64 k)), (129, .dat (.sl none (natsD E))), (130, .dat (.int .i64 E.length)), (131, .dat (.int .i64 m))], [sysO s, stO z], 0, []⟩)
   (fun m => m ≤ E.length) (fun m => E.length - m) 0 (Nat.zero_le _) ?_ ?_
  ·exact le_slots' (by simp only [go_sem, Int.natCast_zero])
  rintro m hm
  refine sem_of_awp (Γ := tbl tabZ7) tabZ7_ok _ _ _ ?_
  cases hd3 : E.drop m with
  | nil =>
   obtain rfl : m = E.length := end_of_drop hd3 hm
   have hk3 : ¬ (E.length : Int) < E.length := by omega
   simp only [go_sem, Int.reduceEq, Int.reduceLT, Int.reduceLE, eq_self, Int.natCast_nonneg, Int.toNat_natCast, hk3]
   refine ⟨inR_i64.2 (by omega), (k + 1, z), ⟨by simp only; omega, hz⟩, by simp only; omega, ?_⟩
   exact le_slots' (by simp only [go_sem, Int.natCast_add, Int.cast_ofNat_Int])
  | cons a r3 =>
  have hlt3 := lt_of_drop hd3
  have hk3 : (m : Int) < E.length := by omega
  have hkz3 : (0 : Int) ≤ m := Int.natCast_nonneg m
  have hn3 := nth_of_drop (f := natD) hd3
  have haS := hEd a (mem_of_drop hd3)
  simp only [go_sem, Int.reduceEq, Int.reduceLT, Int.reduceLE, eq_self, Int.natCast_nonneg, Int.toNat_natCast, hk3, hkz3, hlt3, hEl2, hn3, hSl]
  refine sem_loop (fun n : Nat => ⟨slotsOf 147 [(2, .ptr 0 0 0), (8, .ptr 1 0 0), (14, .dat (.sl none (natsD SL))), (21, .dat (.int .i64 a)), (111, .dat (.sl none (intsD ws))), (112, .dat (.int .i64 ws.length)), (113, .dat (.int .i64 k)), (129, .dat (.sl none (natsD E))), (130, .dat (.int .i64 E.length)), (131, .dat (.int .i64 m)), (135, .dat (.sl none (natsD SL))), (136, .dat (.int .i64 SL.length)), (137, .dat (.int .i64 n))], [sysO s, stO z], 0, []⟩)
   (fun n => n ≤ SL.length) (fun n => SL.length - n) 0 (Nat.zero_le _) ?_ ?_
  ·exact le_slots' (by simp only [go_sem, Int.natCast_zero])
  rintro n hn'
  refine sem_of_awp (Γ := tbl tabZ7) tabZ7_ok _ _ _ ?_
  cases hd4 : SL.drop n with
  | nil =>
   obtain rfl : n = SL.length := end_of_drop hd4 hn'
   have hk4 : ¬ (SL.length : Int) < SL.length := by omega
   simp only [go_sem, Int.reduceEq, Int.reduceLT, Int.reduceLE, eq_self, Int.natCast_nonneg, Int.toNat_natCast, hk4]
   refine ⟨inR_i64.2 (by omega), m + 1, by omega, by omega, ?_⟩
   exact le_slots' (by simp only [go_sem, Int.natCast_add, Int.cast_ofNat_Int])
  | cons a2 r4 =>
  have hlt4 := lt_of_drop hd4
  have hk4 : (n : Int) < SL.length := by omega
  have hkz4 : (0 : Int) ≤ n := Int.natCast_nonneg n
  have hn4 := nth_of_drop (f := natD) hd4
  have hne : ¬ (a : Int) = (a2 : Int) := fun h => haS (by
   have : a = a2 := by omega
   rw [this]; exact mem_of_drop hd4)
  simp only [go_sem, Int.reduceEq, Int.reduceLT, Int.reduceLE, eq_self, Int.natCast_nonneg, Int.toNat_natCast, hk4, hkz4, hlt4, hSl, hn4, hne]
  refine ⟨inR_i64.2 (by omega), n + 1, by omega, by omega, ?_⟩
  exact le_slots' (by simp only [go_sem, Int.natCast_add, Int.cast_ofNat_Int])
 ·simp only [go_sem, Int.reduceEq, Int.reduceLT, Int.reduceLE, eq_self, Int.natCast_nonneg, Int.toNat_natCast, stD, he, decide_false]
  refine sem_le (σ' := ⟨slotsOf 147 [(2, .ptr 0 0 0), (8, .ptr 1 0 0), (14, .dat (.sl none (natsD SL))), (111, .dat (.sl none (intsD ws))), (112, .dat (.int .i64 ws.length)), (113, .dat (.int .i64 k))], [sysO s, stO x], 0, []⟩) ?_ ?_
  ·refine le_end (own := [_, _]) (ex := [_]) (Nat.zero_le _) ?_ ?_ ?_
   ·simp only [go_sem]
   ·simp only [go_sem]
   ·simp only [go_sem, Obj.under, AV.unders, AV.under]
  have hz := hrx
  clear hnext hsp hrx hVx
  generalize x = z at *
  have hVz := hz.val hVi
  have hEl : (ableL s z).length ≤ 1000 := by
   have h1 := able_len s z z.length
   have h2 := (hfit _ hVz).len
   unfold ableL; omega
  have hen : enabR [sysD s, stD z] (.dat (.sl none (natsD (ableL s z)))) := ⟨s, z, rfl, hs, hfit _ hVz, by unfold enabL; rw [if_neg (by rw [err_val hc hVz]; simp)]⟩
  have hEd : ∀ m ∈ ableL s z, m ∉ SL := fun m hm h => hL m h z hz hm
  generalize ableL s z = E at *
  have hEl2 : (natsD E).length = E.length := by simp
  refine sem_of_awp (Γ := tbl tabZ7) tabZ7_ok _ _ _ ?_
  simp only [go_sem, Int.reduceEq, Int.reduceLT, Int.reduceLE, eq_self, Int.natCast_nonneg, Int.toNat_natCast, stD]
  refine call_data enabR (by simp) [sysD s, stD z] _ rfl hen (.inl rfl) ?_
  simp only [go_sem, Int.reduceEq, Int.reduceLT, Int.reduceLE, eq_self, Int.natCast_nonneg, Int.toNat_natCast, hEl2]
  refine sem_loop (fun m : Nat => ⟨slotsOf 147 [(2, .ptr 0 0 0), (8, .ptr 1 0 0), (14, .dat (.sl none (natsD SL))), (111, .dat (.sl none (intsD ws))), (112, .dat (.int .i64 ws.length)), (113, .dat (.int .i64 k)), (129, .dat (.sl none (natsD E))), (130, .dat (.int .i64 E.length)), (131, .dat (.int .i64 m))], [sysO s, stO z], 0, []⟩)
   (fun m => m ≤ E.length) (fun m => E.length - m) 0 (Nat.zero_le _) ?_ ?_
  ·exact le_slots' (by simp only [go_sem, Int.natCast_zero])
  rintro m hm
  refine sem_of_awp (Γ := tbl tabZ7) tabZ7_ok _ _ _ ?_
  cases hd3 : E.drop m with
  | nil =>
   obtain rfl : m = E.length := end_of_drop hd3 hm
   have hk3 : ¬ (E.length : Int) < E.length := by omega
   simp only [go_sem, Int.reduceEq, Int.reduceLT, Int.reduceLE, eq_self, Int.natCast_nonneg, Int.toNat_natCast, hk3]
   refine ⟨inR_i64.2 (by omega), (k + 1, z), ⟨by simp only; omega, hz⟩, by simp only; omega, ?_⟩
   exact le_slots' (by simp only [go_sem, Int.natCast_add, Int.cast_ofNat_Int])
  | cons a r3 =>
  have hlt3 := lt_of_drop hd3
  have hk3 : (m : Int) < E.length := by omega
  have hkz3 : (0 : Int) ≤ m := Int.natCast_nonneg m
  have hn3 := nth_of_drop (f := natD) hd3
  have haS := hEd a (mem_of_drop hd3)
  simp only [go_sem, Int.reduceEq, Int.reduceLT, Int.reduceLE, eq_self, Int.natCast_nonneg, Int.toNat_natCast, hk3, hkz3, hlt3, hEl2, hn3, hSl]
  refine sem_loop (fun n : Nat => ⟨slotsOf 147 [(2, .ptr 0 0 0), (8, .ptr 1 0 0), (14, .dat (.sl none (natsD SL))), (21, .dat (.int .i64 a)), (111, .dat (.sl none (intsD ws))), (112, .dat (.int .i64 ws.length)), (113, .dat (.int .i64 k)), (129, .dat (.sl none (natsD E))), (130, .dat (.int .i64 E.length)), (131, .dat (.int .i64 m)), (135, .dat (.sl none (natsD SL))), (136, .dat (.int .i64 SL.length)), (137, .dat (.int .i64 n))], [sysO s, stO z], 0, []⟩)
   (fun n => n ≤ SL.length) (fun n => SL.length - n) 0 (Nat.zero_le _) ?_ ?_
  ·exact le_slots' (by simp only [go_sem, Int.natCast_zero])
  rintro n hn'
  refine sem_of_awp (Γ := tbl tabZ7) tabZ7_ok _ _ _ ?_
  cases hd4 : SL.drop n with
  | nil =>
   obtain rfl : n = SL.length := end_of_drop hd4 hn'
   have hk4 : ¬ (SL.length : Int) < SL.length := by omega
   simp only [go_sem, Int.reduceEq, Int.reduceLT, Int.reduceLE, eq_self, Int.natCast_nonneg, Int.toNat_natCast, hk4]
   refine ⟨inR_i64.2 (by omega), m + 1, by omega, by omega, ?_⟩
   exact le_slots' (by simp only [go_sem, Int.natCast_add, Int.cast_ofNat_Int])
  | cons a2 r4 =>
  have hlt4 := lt_of_drop hd4
  have hk4 : (n : Int) < SL.length := by omega
  have hkz4 : (0 : Int) ≤ n := Int.natCast_nonneg n
  have hn4 := nth_of_drop (f := natD) hd4
  have hne : ¬ (a : Int) = (a2 : Int) := fun h => haS (by
   have : a = a2 := by omega
   rw [this]; exact mem_of_drop hd4)
  simp only [go_sem, Int.reduceEq, Int.reduceLT, Int.reduceLE, eq_self, Int.natCast_nonneg, Int.toNat_natCast, hk4, hkz4, hlt4, hSl, hn4, hne]
  refine ⟨inR_i64.2 (by omega), n + 1, by omega, by omega, ?_⟩
  exact le_slots' (by simp only [go_sem, Int.natCast_add, Int.cast_ofNat_Int])
end Go.AM

