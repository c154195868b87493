/- Own work over the model of the kit. -/
import Derived.Test.YtfiojoacbomncaaG18
import Derived.Test.YtfiojoacbomncaaG13
import Derived.Test.YtfiojoacbomncaaG9
import Derived.Test.YtfiojoacbomncaaG16
import Derived.Test.YtfiojoacbomncaaG15
set_option linter.unusedSimpArgs false
set_option linter.unusedVariables false
set_option maxRecDepth 8000
set_option maxHeartbeats 4000000
namespace Go.AM
open Go Go.Proofs

abbrev tabRH4 : List (Nat × Contract) := [(25, dataC startXR), (59, dataC rReachR)]
structure Rnd (n m : Nat) (ab nx : List (List Nat)) (N : List (List Int)) (w : Nat) (B : Nat → Bool) : Prop where
 snd : ∀ i, B i = true → i < n ∧ Fre ab nx w i
 able : ∀ i, i < n → w ∈ ab.getD i [] → B i = true
theorem Rnd.done {n m : Nat} {ab nx : List (List Nat)} {N : List (List Int)} {w : Nat} {B : Nat → Bool} (hN : NOk n m ab nx N) (h : Rnd n m ab nx N w B) (hc : ∀ i, i < n → ∀ j, j ∈ nx.getD i [] → B j = true → B i = true) (hab0 : ∀ i, n ≤ i → ab.getD i [] = []) (hnx0 : ∀ i, n ≤ i → nx.getD i [] = []) (i : Nat) : B i = true ↔ Fre ab nx w i := by
 refine ⟨fun hi => (h.snd i hi).2, fun hf => ?_⟩
 induction hf with
 | @here i hw =>
  rcases Nat.lt_or_ge i n with h1 | h1
  ·exact h.able i h1 hw
  ·rw [hab0 i h1] at hw; cases hw
 | @next i j hj _ ih =>
  rcases Nat.lt_or_ge i n with h1 | h1
  ·exact hc i h1 j hj ih
  ·rw [hnx0 i h1] at hj; cases hj
def canR (aa : List AV) (obs : List Obj) (v : AV) (obs' ex : List Obj) (mv : List Nat) : Prop := ∃ (g : Gr) (ab nx : List (List Nat)) (N : List (List Int)) (m w : Nat) (B : Nat → Bool), aa = [.rptr (some 7) (rgD g N), .dat (.int .i64 w)] ∧ NOk g.st.length m ab nx N ∧ g.st.length ≤ 4096 ∧ m ≤ 24 ∧ w < m ∧ (∀ i, i < g.st.length → (B i = true ↔ Fre ab nx w i)) ∧
 (∀ i, g.st.length ≤ i → ab.getD i [] = []) ∧ (∀ i, g.st.length ≤ i → nx.getD i [] = []) ∧ obs = [] ∧ obs' = [] ∧ ex = [] ∧ mv = [] ∧ v = .dat (.sl none (boolsD (rngB g.st.length B)))
end Go.AM

set_option maxRecDepth 8000
set_option maxHeartbeats 4000000
namespace Go.AM
open Go Go.Proofs

theorem fre_any {ab nx : List (List Nat)} {w i : Nat} (h : Fre ab nx w i) : ∃ k, w ∈ ab.getD k [] := by
 induction h with
 | here hw => exact ⟨_, hw⟩
 | next _ _ ih => exact ih
theorem fre_first {s : PSys} {x : PSt} (hV : Valid s x) {g : Gr} {ab nx : List (List Nat)} (h : reachG s x = some (g, ab, nx)) {w : Nat} : ∀ i, i < g.st.length → Fre ab nx w i → Fre ab nx w 0 := by
 obtain ⟨hG, hcl, rfl, rfl⟩ := reach_inv hV h
 intro i
 induction i using Nat.strongRecOn with
 | _ i ih =>
  intro hi hf
  rcases Nat.eq_zero_or_pos i with rfl | hp
  ·exact hf
  ·obtain ⟨a, v, _, _, h3, h4, h5, h6⟩ := hG.prov i hp hi
   refine ih a h3 (by omega) (.next (j := i) ?_ hf)
   rw [show (g.st.map (nxRow s g.st)).getD a [] = nxRow s g.st (g.st.getD a []) from map_getD (e := []) (by omega)]
   unfold nxRow
   refine List.mem_map.2 ⟨v, mem_able.2 ⟨h4, h5⟩, ?_⟩
   rw [idxS_nd hG.nd hi h6]; rfl
theorem fre_0 {s : PSys} {x : PSt} (hV : Valid s x) {g : Gr} {ab nx : List (List Nat)} (h : reachG s x = some (g, ab, nx)) {w : Nat} : Fre ab nx w 0 ↔ anyW ab w = true := by
 have hF := frok_of hV h
 unfold anyW
 rw [List.any_eq_true]
 constructor
 ·intro hf
  obtain ⟨k, hk⟩ := fre_any hf
  rcases Nat.lt_or_ge k ab.length with h1 | h1
  ·refine ⟨ab.getD k [], ?_, by simpa using hk⟩
   rw [List.getD_eq_getElem?_getD, List.getElem?_eq_getElem h1]; exact List.getElem_mem h1
  ·rw [List.getD_eq_getElem?_getD, List.getElem?_eq_none h1] at hk
   simp at hk
 ·rintro ⟨l, hl, hw⟩
  obtain ⟨k, hk, rfl⟩ := List.getElem_of_mem hl
  refine fre_first hV h k (by rw [← hF.la]; exact hk) (.here ?_)
  rw [List.getD_eq_getElem?_getD, List.getElem?_eq_getElem hk]
  simpa using hw
theorem idxG_spec : ∀ (l : List Bool) (k : Nat), (idxG false k l = -1 ∧ ∀ i, i < l.length → l.getD i true = true) ∨ ∃ j, j < l.length ∧ idxG false k l = (k + j : Nat) ∧ l.getD j true = false ∧ ∀ i, i < j → l.getD i true = true
 | [], k => .inl ⟨rfl, fun i h => by simp at h⟩
 | b :: l, k => by
  cases b with
  | false => exact .inr ⟨0, by simp, by simp [idxG], by simp, fun i h => by omega⟩
  | true =>
   simp only [idxG, Bool.false_eq_true, if_false]
   rcases idxG_spec l (k + 1) with ⟨h1, h2⟩ | ⟨j, h1, h2, h3, h4⟩
   ·refine .inl ⟨h1, fun i hi => ?_⟩
    cases i with
    | zero => rfl
    | succ i => simp only [List.length_cons] at hi; simpa using h2 i (by omega)
   ·refine .inr ⟨j + 1, by simp only [List.length_cons]; omega, by rw [h2]; congr 1; omega, by simpa using h3, fun i hi => ?_⟩
    cases i with
    | zero => rfl
    | succ i => simpa using h4 i (by omega)
theorem rngB_at {n i : Nat} {f : Nat → Bool} (h : i < n) : (rngB n f).getD i true = f i := by
 simp [rngB, List.getD_eq_getElem?_getD, h]
abbrev tabRS5 : List (Nat × Contract) := [(25, dataC startXR), (16, dataC stErrR), (59, dataC rReachR), (63, lentC canR)]
end Go.AM

set_option maxRecDepth 8000
namespace Go.AM
open Go Go.Proofs

def freStep (nx : List (List Nat)) (B : List Bool) : List Bool := List.zipWith (fun b l => b || l.any fun j => B.getD j false) B nx
def freL (ab nx : List (List Nat)) (w : Nat) : Nat → List Bool
 | 0 => ab.map (·.contains w)
 | n + 1 => freStep nx (freL ab nx w n)
theorem freL_len {ab nx : List (List Nat)} {w : Nat} (h : ab.length = nx.length) : ∀ n, (freL ab nx w n).length = ab.length
 | 0 => by simp [freL]
 | n + 1 => by unfold freL freStep; rw [List.length_zipWith, freL_len h n, h, Nat.min_self]
theorem zip_getD {B : List Bool} {nx : List (List Nat)} {i : Nat} (h1 : i < B.length) (h2 : i < nx.length) : (freStep nx B).getD i false = (B.getD i false || (nx.getD i []).any fun j => B.getD j false) := by
 unfold freStep
 rw [List.getD_eq_getElem?_getD, List.getElem?_zipWith, List.getElem?_eq_getElem h1, List.getElem?_eq_getElem h2]
 simp [List.getD_eq_getElem?_getD, List.getElem?_eq_getElem h1, List.getElem?_eq_getElem h2]
theorem getD_ge {α : Type} {l : List α} {d : α} {i : Nat} (h : l.length ≤ i) : l.getD i d = d := by
 rw [List.getD_eq_getElem?_getD, List.getElem?_eq_none h]; rfl
theorem freL_sound {ab nx : List (List Nat)} {w : Nat} (h : ab.length = nx.length) : ∀ n i, (freL ab nx w n).getD i false = true → Fre ab nx w i
 | 0, i, hi => by
  unfold freL at hi
  rcases Nat.lt_or_ge i ab.length with h1 | h1
  ·rw [map_getD (e := []) h1] at hi
   exact .here (by simpa using hi)
  ·rw [getD_ge (by simpa using h1)] at hi; cases hi
 | n + 1, i, hi => by
  unfold freL at hi
  rcases Nat.lt_or_ge i ab.length with h1 | h1
  ·rw [zip_getD (by rw [freL_len h]; exact h1) (by omega), Bool.or_eq_true] at hi
   rcases hi with hi | hi
   ·exact freL_sound h n i hi
   ·obtain ⟨j, hj, hb⟩ := List.any_eq_true.1 hi
    exact .next hj (freL_sound h n j hb)
  ·rw [getD_ge (by unfold freStep; rw [List.length_zipWith, freL_len h]; omega)] at hi; cases hi
theorem freL_base {ab nx : List (List Nat)} {w : Nat} (h : ab.length = nx.length) : ∀ n i, w ∈ ab.getD i [] → (freL ab nx w n).getD i false = true
 | 0, i, hi => by
  unfold freL
  rcases Nat.lt_or_ge i ab.length with h1 | h1
  ·rw [map_getD (e := []) h1]; simpa using hi
  ·rw [getD_ge h1] at hi; cases hi
 | n + 1, i, hi => by
  unfold freL
  rcases Nat.lt_or_ge i ab.length with h1 | h1
  ·rw [zip_getD (by rw [freL_len h]; exact h1) (by omega), freL_base h n i hi]; rfl
  ·rw [getD_ge h1] at hi; cases hi
theorem freL_done {ab nx : List (List Nat)} {w n : Nat} (h : ab.length = nx.length) (hs : freStep nx (freL ab nx w n) = freL ab nx w n) (i : Nat) : (freL ab nx w n).getD i false = true ↔ Fre ab nx w i := by
 refine ⟨freL_sound h n i, fun hf => ?_⟩
 induction hf with
 | here hw => exact freL_base h n _ hw
 | @next i j hj _ ih =>
  rcases Nat.lt_or_ge i ab.length with h1 | h1
  ·rw [← hs, zip_getD (by rw [freL_len h]; exact h1) (by omega), Bool.or_eq_true]
   exact .inr (List.any_eq_true.2 ⟨j, hj, ih⟩)
  ·rw [getD_ge (by omega)] at hj; cases hj
theorem bestF_congr {n : Nat} {B C : Nat → Nat → Bool} : ∀ m, (∀ w, w < m → B w = C w) → bestF n B m = bestF n C m
 | 0, _ => rfl
 | m + 1, h => by
  unfold bestF
  rw [bestF_congr m (fun w hw => h w (by omega)), h m (Nat.lt_succ_self m)]
def deadC (s : PSys) (K : Nat) : Option (List Int × Int × Int) := match reachG s (iniX s) with
 | none => none
 | some (g, ab, nx) => if (List.range (iniX s).length).all (fun w => decide (freStep nx (freL ab nx w K) = freL ab nx w K)) then
   (let b := bestF g.st.length (fun w i => (freL ab nx w K).getD i false) (iniX s).length
   some (if b.1 = g.st.length then ([], 0, 6) else ((chainF g 5000 b.1.toNat).reverse, b.2, 0))) else none
theorem deadR_of {s : PSys} {K : Nat} {v : List Int × Int × Int} (hc : checkE s = 0) (h : deadC s K = some v) : deadR [sysD s] (.tup [.dat (.sl none (intsD v.1)), .dat (.int .i64 v.2.1), .dat (.int .i64 v.2.2)]) := by
 have hV := iniX_valid hc
 unfold deadC at h
 cases hr : reachG s (iniX s) with
 | none => rw [hr] at h; cases h
 | some r =>
  obtain ⟨g, ab, nx⟩ := r
  rw [hr] at h
  simp only at h
  split at h
  ·rename_i hst
   have hF := frok_of hV hr
   have hl : ab.length = nx.length := by rw [hF.la, hF.ln]
   let B : Nat → Nat → Bool := fun w i => if w < (iniX s).length then (freL ab nx w K).getD i false else @decide (Fre ab nx w i) (Classical.propDecidable _)
   refine ⟨s, B, rfl, ⟨(good_of hc).small⟩, ?_, ?_⟩
   ·intro g' ab' nx' hr' w i _
    rw [hr] at hr'
    cases hr'
    simp only [B]
    split
    ·rename_i hw
     have := List.all_eq_true.1 hst w (List.mem_range.2 hw)
     exact freL_done hl (by simpa using this) i
    ·simp
   ·have hb : bestF g.st.length B (iniX s).length = bestF g.st.length (fun w i => (freL ab nx w K).getD i false) (iniX s).length := bestF_congr _ fun w hw => by
     funext i; simp only [B, if_pos hw]
    have : deadV s B = v := by
     unfold deadV
     rw [if_neg (by rw [hc]; decide), hr]
     simp only
     rw [hb]
     simpa using h
    rw [this]
  ·cases h
end Go.AM

set_option maxRecDepth 8000
set_option maxHeartbeats 4000000
namespace Go.AM
open Go Go.Proofs

def takP (n k s : Nat) : PSys := ⟨[⟨[117], s, 0⟩], [], [⟨[119], n, false, List.replicate k ⟨1, 0, 1, false⟩ ++ [⟨2, 0, k, false⟩]⟩]⟩
def takPR (ds : List D) (v : AV) : Prop := ∃ n k s : Nat, ds = [.int .i64 n, .int .i64 k, .int .i64 s] ∧ k ≤ 1000 ∧ v = .dat (sysD (takP n k s))
theorem takers_ok : OkF Try.prog 29 (dataC takPR) := by
 refine okF_data Try.func29 rfl (by decide) ?_
 rintro ds v ⟨n, k, s, rfl, hk, rfl⟩
 refine sem_of_awpK [2, 7] (Γ := tbl []) okG_nil _ _ _ ?_
 simp only [go_sem, Int.reduceEq, Int.reduceLT, Int.reduceLE, eq_self, Int.natCast_nonneg, Int.toNat_natCast, Try.ntmps29]
 refine sem_le (le_addnil 7 (some 4) rfl (Nat.zero_le _)) ?_
 refine sem_of_awpK [7] (Γ := tbl []) okG_nil _ _ _ ?_
 have hRl : ∀ i, (List.map stepD (List.replicate i (⟨1, 0, 1, false⟩ : PStep))).length = i := fun i => by simp
 have hRt : ∀ i, List.take i (List.map stepD (List.replicate i (⟨1, 0, 1, false⟩ : PStep))) = List.map stepD (List.replicate i (⟨1, 0, 1, false⟩ : PStep)) := fun i => List.take_of_length_le (by rw [hRl]; exact Nat.le_refl _)
 have hRs : ∀ i, List.map stepD (List.replicate i (⟨1, 0, 1, false⟩ : PStep)) ++ [.agg [.int .i64 1, .int .i64 0, .int .i64 1, .bool false]] = List.map stepD (List.replicate (i + 1) (⟨1, 0, 1, false⟩ : PStep)) := fun i => by rw [List.replicate_succ', List.map_append]; rfl
 refine sem_loop (fun i : Nat => ⟨slotsOf 29 [(0, .dat (.int .i64 n)), (1, .dat (.int .i64 k)), (2, .dat (.int .i64 s)), (6, .ptr 0 0 0), (7, .sl 1 0 i), (8, .dat (.int .i64 k)), (9, .dat (.int .i64 i))], [.box [.nils, .nils, .nils], .row (some 4) (List.map stepD (List.replicate i (⟨1, 0, 1, false⟩ : PStep)))], 0, []⟩)
  (fun i => i ≤ k) (fun i => k - i) 0 (Nat.zero_le _) ?_ ?_
 ·exact le_slots' (by simp only [go_sem, Int.natCast_zero, List.replicate, List.map_nil])
 intro i hi
 refine sem_of_awpK [7] (Γ := tbl []) okG_nil _ _ _ ?_
 by_cases hlt : i < k
 ·have hk2 : (i : Int) < k := by omega
  simp only [go_sem, Int.reduceEq, Int.reduceLT, Int.reduceLE, eq_self, Int.natCast_nonneg, Int.toNat_natCast, hk2, hRl, hRt, hRs, List.drop_zero, Nat.le_refl]
  refine ⟨by omega, by omega, inR_i64.2 (by omega), i + 1, by omega, by omega, ?_⟩
  refine le_end (own := [_, _]) (ex := [_]) (Nat.zero_le _) ?_ ?_ ?_
  ·simp only [go_sem, Int.natCast_add, Int.cast_ofNat_Int]
  ·simp only [go_sem]
  ·simp only [go_sem, Obj.under, AV.unders, AV.under]
 obtain rfl : i = k := by omega
 have hk2 : ¬ (i : Int) < i := by omega
 simp only [go_sem, Int.reduceEq, Int.reduceLT, Int.reduceLE, eq_self, Int.natCast_nonneg, Int.toNat_natCast, hk2, hRl, hRt, List.drop_zero, Nat.le_refl]
 refine ⟨by omega, by omega, ?_⟩
 refine sem_le (le_freeze 1 (ag := some 4) rfl (Nat.zero_le _)) ?_
 refine sem_of_awp (Γ := tbl []) okG_nil _ _ _ ?_
 have hal : (List.map stepD (List.replicate i (⟨1, 0, 1, false⟩ : PStep)) ++ [D.agg [.int .i64 2, .int .i64 0, .int .i64 i, .bool false]]).length = i + 1 := by simp
 have hat : List.take (i + 1) (List.map stepD (List.replicate i (⟨1, 0, 1, false⟩ : PStep)) ++ [D.agg [.int .i64 2, .int .i64 0, .int .i64 i, .bool false]]) = List.map stepD (takP n i s).classes.head!.steps := by
  rw [List.take_of_length_le (by rw [hal]; exact Nat.le_refl _)]
  show _ = List.map stepD (List.replicate i (⟨1, 0, 1, false⟩ : PStep) ++ [⟨2, 0, i, false⟩])
  rw [List.map_append]; rfl
 simp only [go_sem, Int.reduceEq, Int.reduceLT, Int.reduceLE, eq_self, Int.natCast_nonneg, Int.toNat_natCast, hal, hat, Nat.le_refl]
 refine post_res (.inl rfl) [.cell 6 26] rfl ?_
 simp only [go_sem]
 refine Le.trans (le_freeze 3 (ag := some 3) rfl (Nat.zero_le _)) ?_
 refine Le.trans (le_freeze 4 (ag := some 4) rfl (Nat.zero_le _)) ?_
 simp only [go_sem, List.length_cons, List.length_nil, Nat.le_refl, List.take_succ_cons, List.take_zero]
 exact le_fin (by simp only [go_sem]; rfl) (by simp only [go_sem])

theorem runeS_len4 (n : Int) : (runeS n).length ≤ 4 := by
 unfold runeS Utf8.encode
 simp only
 repeat' split
 all_goals simp
def phiAB (n i : Nat) (rev : Bool) : Int × Int := if rev && decide (i + 1 = n) then (((i + 1) % n : Nat), i) else (i, ((i + 1) % n : Nat))
def phiL (i : Nat) : List UInt8 := 102 :: runeS (48 + i)
def phiC (n : Nat) (rev : Bool) (i : Nat) : PCls := ⟨112 :: runeS (48 + i), 1, false, [⟨3, (phiAB n i rev).1, 0, false⟩, ⟨3, (phiAB n i rev).2, 0, false⟩, ⟨4, (phiAB n i rev).1, 0, false⟩, ⟨4, (phiAB n i rev).2, 0, false⟩]⟩
def phiP (n : Nat) (rev : Bool) : PSys := ⟨[], (List.range n).map phiL, (List.range n).map (phiC n rev)⟩
def phLD (i : Nat) : List D := (List.range i).map fun j => .str (phiL j)
def phCD (n : Nat) (rev : Bool) (i : Nat) : List D := (List.range i).map fun j => clsD (phiC n rev j)
theorem phL_len (i : Nat) : (phLD i).length = i := by simp [phLD]
theorem phC_len (n : Nat) (rev : Bool) (i : Nat) : (phCD n rev i).length = i := by simp [phCD]
theorem phL_take (i : Nat) : List.take i (phLD i) = phLD i := List.take_of_length_le (by rw [phL_len]; exact Nat.le_refl _)
theorem phC_take (n : Nat) (rev : Bool) (i : Nat) : List.take i (phCD n rev i) = phCD n rev i := List.take_of_length_le (by rw [phC_len]; exact Nat.le_refl _)
theorem phL_succ (i : Nat) : phLD i ++ [.str (102 :: runeS (48 + i))] = phLD (i + 1) := by unfold phLD; rw [List.range_succ, List.map_append]; rfl
theorem phC_succ (n : Nat) (rev : Bool) (i : Nat) : phCD n rev i ++ [clsD (phiC n rev i)] = phCD n rev (i + 1) := by unfold phCD; rw [List.range_succ, List.map_append]; rfl
theorem phC_succ' {n : Nat} {rev : Bool} {i : Nat} {a b : Int} (h : phiAB n i rev = (a, b)) : phCD n rev i ++ [.agg [.str (112 :: runeS (48 + i)), .int .i64 1, .bool false, .sl (some 4) [.agg [.int .i64 3, .int .i64 a, .int .i64 0, .bool false], .agg [.int .i64 3, .int .i64 b, .int .i64 0, .bool false], .agg [.int .i64 4, .int .i64 a, .int .i64 0, .bool false], .agg [.int .i64 4, .int .i64 b, .int .i64 0, .bool false]]]] = phCD n rev (i + 1) := by
 rw [← phC_succ]
 have : phiC n rev i = ⟨112 :: runeS (48 + i), 1, false, [⟨3, a, 0, false⟩, ⟨3, b, 0, false⟩, ⟨4, a, 0, false⟩, ⟨4, b, 0, false⟩]⟩ := by unfold phiC; rw [h]
 rw [this]; rfl
def phiPR (ds : List D) (v : AV) : Prop := ∃ (n : Nat) (rev : Bool), ds = [.int .i64 n, .bool rev] ∧ n ≤ 1000 ∧ v = .dat (sysD (phiP n rev))
theorem sysD_phi (n : Nat) (rev : Bool) : sysD (phiP n rev) = .agg [.sl (some 3) [], .sl none (phLD n), .sl (some 4) (phCD n rev n)] := by
 simp [sysD, phiP, phLD, phCD, List.map_map, Function.comp_def]
theorem philosophers_ok : OkF Try.prog 30 (dataC phiPR) := by
 refine okF_data Try.func30 rfl (by decide) ?_
 rintro ds v ⟨n, rev, rfl, hn, rfl⟩
 rw [sysD_phi]
 refine sem_of_awpK [2, 11] (Γ := tbl []) okG_nil _ _ _ ?_
 simp only [go_sem, Int.reduceEq, Int.reduceLT, Int.reduceLE, eq_self, Int.natCast_nonneg, Int.toNat_natCast, Try.ntmps30]
 refine sem_le (le_addnilR 1 0 (some 3) rfl rfl (Nat.zero_le _)) ?_
 refine sem_le (le_addnilR 1 1 none rfl rfl (Nat.zero_le _)) ?_
 refine sem_le (le_addnilR 1 2 (some 4) rfl rfl (Nat.zero_le _)) ?_
 refine sem_of_awpK [11] (Γ := tbl []) okG_nil _ _ _ ?_
 simp only [go_sem, Int.reduceEq, Int.reduceLT, Int.reduceLE, eq_self, Int.natCast_nonneg, Int.toNat_natCast]
 refine sem_loop (fun i : Nat => ⟨slotsOf 59 [(0, .dat (.int .i64 n)), (1, .dat (.bool rev)), (4, .ptr 0 0 0), (5, .ptr 1 0 0), (9, .dat (.int .i64 n)), (10, .dat (.int .i64 i))], [.box [.nils, .nils, .nils], .box [.sl 2 0 0, .sl 3 0 i, .sl 4 0 i], .row (some 3) [], .row none (phLD i), .row (some 4) (phCD n rev i)], 0, []⟩)
  (fun i => i ≤ n) (fun i => n - i) 0 (Nat.zero_le _) ?_ ?_
 ·exact le_slots' (by simp only [go_sem, Int.natCast_zero])
 intro i hi
 refine sem_of_awpK [9, 11] (Γ := tbl []) okG_nil _ _ _ ?_
 by_cases hlt : i < n
 ·have hk2 : (i : Int) < n := by omega
  have hm : (i + 1 : Int).tmod n = ((i + 1) % n : Nat) := by
   rw [Int.tmod_eq_emod_of_nonneg (by omega)]; norm_cast
  have hml : (i + 1) % n < n := Nat.mod_lt _ (by omega)
  have hn0 : ¬ (n : Int) = 0 := by omega
  have hr4 := runeS_len4 (48 + i)
  have hm4 : 5 ≤ maxLen := by decide
  simp only [go_sem, Int.reduceEq, Int.reduceLT, Int.reduceLE, eq_self, Int.natCast_nonneg, Int.toNat_natCast, hk2, phL_len, phL_take, phL_succ]
  refine ⟨inR_i64.2 (by omega), inR_i32.2 (by omega), by omega, by omega, by omega, ?_⟩
  refine sem_draw (pf := []) mixed okG_nil pureNo [0, 1, 2, 3, 4, 5, 6] (by kernel_rfl) ?_
  have hab : phiAB n i rev = if rev && decide (i + 1 = n) then ((((i + 1) % n : Nat) : Int), (i : Int)) else ((i : Int), (((i + 1) % n : Nat) : Int)) := rfl
  cases rev with
  | false =>
   rw [Bool.false_and, if_neg (by decide)] at hab
   simp only [go_sem, Int.reduceEq, Int.reduceLT, Int.reduceLE, eq_self, Int.natCast_nonneg, Int.toNat_natCast, chainI, hn0, hm]
   refine ⟨inR_i64.2 (by omega), inR_i64.2 (by omega), ?_⟩
   have hfin := phC_succ' hab
   refine sem_cut 16 okG_nil ?_
   simp only [go_sem, Int.reduceEq, Int.reduceLT, Int.reduceLE, eq_self, Int.natCast_nonneg, Int.toNat_natCast]
   refine ⟨inR_i64.2 (by omega), inR_i32.2 (by omega), by omega, _, le_freeze 6 (ag := some 4) rfl (Nat.zero_le _), ?_⟩
   simp only [go_sem, Int.reduceEq, Int.reduceLT, Int.reduceLE, eq_self, Int.natCast_nonneg, Int.toNat_natCast, phC_len, phC_take, hfin, List.length_cons, List.length_nil, List.take_succ_cons, List.take_zero, Nat.le_refl]
   refine ⟨by omega, by omega, inR_i64.2 (by omega), i + 1, by omega, by omega, ?_⟩
   refine le_end (own := [_, _, _, _, _]) (ex := [_, _, _]) (Nat.zero_le _) ?_ ?_ ?_
   ·simp only [go_sem, Int.natCast_add, Int.cast_ofNat_Int]
   ·simp only [go_sem]
   ·simp only [go_sem, Obj.under, AV.unders, AV.under]
  | true =>
   rw [Bool.true_and] at hab
   by_cases hi1 : i + 1 = n
   ·rw [if_pos (by simpa using hi1)] at hab
    have hi2 : ((i : Int) = n - 1) = True := eq_true (by omega)
    simp only [go_sem, Int.reduceEq, Int.reduceLT, Int.reduceLE, eq_self, Int.natCast_nonneg, Int.toNat_natCast, chainI, hn0, hm, hi2, decide_true]
    refine ⟨inR_i64.2 (by omega), inR_i64.2 (by omega), inR_i64.2 (by omega), ?_⟩
    have hfin := phC_succ' hab
    refine sem_cut 16 okG_nil ?_
    simp only [go_sem, Int.reduceEq, Int.reduceLT, Int.reduceLE, eq_self, Int.natCast_nonneg, Int.toNat_natCast]
    refine ⟨inR_i64.2 (by omega), inR_i32.2 (by omega), by omega, _, le_freeze 6 (ag := some 4) rfl (Nat.zero_le _), ?_⟩
    simp only [go_sem, Int.reduceEq, Int.reduceLT, Int.reduceLE, eq_self, Int.natCast_nonneg, Int.toNat_natCast, phC_len, phC_take, hfin, List.length_cons, List.length_nil, List.take_succ_cons, List.take_zero, Nat.le_refl]
    refine ⟨by omega, by omega, inR_i64.2 (by omega), i + 1, by omega, by omega, ?_⟩
    refine le_end (own := [_, _, _, _, _]) (ex := [_, _, _]) (Nat.zero_le _) ?_ ?_ ?_
    ·simp only [go_sem, Int.natCast_add, Int.cast_ofNat_Int]
    ·simp only [go_sem]
    ·simp only [go_sem, Obj.under, AV.unders, AV.under]
   ·rw [if_neg (by simpa using hi1)] at hab
    have hi2 : ((i : Int) = n - 1) = False := eq_false (by omega)
    simp only [go_sem, Int.reduceEq, Int.reduceLT, Int.reduceLE, eq_self, Int.natCast_nonneg, Int.toNat_natCast, chainI, hn0, hm, hi2, decide_false]
    refine ⟨inR_i64.2 (by omega), inR_i64.2 (by omega), inR_i64.2 (by omega), ?_⟩
    have hfin := phC_succ' hab
    refine sem_cut 16 okG_nil ?_
    simp only [go_sem, Int.reduceEq, Int.reduceLT, Int.reduceLE, eq_self, Int.natCast_nonneg, Int.toNat_natCast]
    refine ⟨inR_i64.2 (by omega), inR_i32.2 (by omega), by omega, _, le_freeze 6 (ag := some 4) rfl (Nat.zero_le _), ?_⟩
    simp only [go_sem, Int.reduceEq, Int.reduceLT, Int.reduceLE, eq_self, Int.natCast_nonneg, Int.toNat_natCast, phC_len, phC_take, hfin, List.length_cons, List.length_nil, List.take_succ_cons, List.take_zero, Nat.le_refl]
    refine ⟨by omega, by omega, inR_i64.2 (by omega), i + 1, by omega, by omega, ?_⟩
    refine le_end (own := [_, _, _, _, _]) (ex := [_, _, _]) (Nat.zero_le _) ?_ ?_ ?_
    ·simp only [go_sem, Int.natCast_add, Int.cast_ofNat_Int]
    ·simp only [go_sem]
    ·simp only [go_sem, Obj.under, AV.unders, AV.under]
 obtain rfl : i = n := by omega
 have hk2 : ¬ (i : Int) < i := by omega
 simp only [go_sem, Int.reduceEq, Int.reduceLT, Int.reduceLE, eq_self, Int.natCast_nonneg, Int.toNat_natCast, hk2]
 refine sem_le (le_freeze 2 (ag := some 3) rfl (Nat.zero_le _)) ?_
 refine sem_le (le_freeze 3 (ag := none) rfl (Nat.zero_le _)) ?_
 refine sem_le (le_freeze 4 (ag := some 4) rfl (Nat.zero_le _)) ?_
 refine sem_of_awp (Γ := tbl []) okG_nil _ _ _ ?_
 simp only [go_sem, Int.reduceEq, Int.reduceLT, Int.reduceLE, eq_self, Int.natCast_nonneg, Int.toNat_natCast, phL_len, phL_take, phC_len, phC_take, Nat.le_refl, List.length_nil, List.take_nil]
 refine post_res (.inl rfl) [.cell 4 26] rfl ?_
 simp only [go_sem, phL_len, phL_take, phC_len, phC_take, Nat.le_refl, List.length_nil, List.take_nil]
 exact le_fin (by simp only [go_sem]) (by simp only [go_sem])
end Go.AM

namespace Go.AM

def Wk (E : List (Nat × Nat)) : Nat → Nat → Nat → Prop
 | 0, a, v => a = v
 | k + 1, a, v => ∃ u, (u, v) ∈ E ∧ Wk E k a u
theorem Wk_cons {E : List (Nat × Nat)} {a b : Nat} (h : (a, b) ∈ E) : ∀ {k v : Nat}, Wk E k b v → Wk E (k + 1) a v
 | 0, v, hw => ⟨a, by cases hw; exact h, rfl⟩
 | k + 1, v, ⟨u, hu, hw⟩ => ⟨u, hu, Wk_cons h hw⟩
theorem Wk_first {E : List (Nat × Nat)} {a : Nat} : ∀ {k v : Nat}, Wk E (k + 1) a v → ∃ b, (a, b) ∈ E ∧ Wk E k b v
 | 0, v, ⟨u, hu, hw⟩ => by cases hw; exact ⟨v, hu, rfl⟩
 | k + 1, v, ⟨u, hu, hw⟩ => by
  obtain ⟨b, hb, hw⟩ := Wk_first hw
  exact ⟨b, hb, u, hu, hw⟩
theorem Wk_app {E : List (Nat × Nat)} {a b : Nat} {j : Nat} (h : Wk E j a b) : ∀ {k v : Nat}, Wk E k b v → Wk E (j + k) a v
 | 0, v, hw => by cases hw; exact h
 | k + 1, v, ⟨u, hu, hw⟩ => ⟨u, hu, Wk_app h hw⟩
abbrev flip (E : List (Nat × Nat)) : List (Nat × Nat) := E.map fun p => (p.2, p.1)
def isSd (E : List (Nat × Nat)) (a v : Nat) (r : Int) : Prop := (r = -1 ∧ ∀ k, ¬ Wk E k a v) ∨ ∃ k : Nat, r = k ∧ Wk E k a v ∧ ∀ j, Wk E j a v → k ≤ j
theorem isSd_ex (E : List (Nat × Nat)) (a v : Nat) : ∃ r, isSd E a v r := by
 have key : ∀ n k, k ≤ n → Wk E k a v → ∃ k : Nat, Wk E k a v ∧ ∀ j, Wk E j a v → k ≤ j := by
  intro n
  induction n with
  | zero => intro k hk h; exact ⟨k, h, fun j _ => by omega⟩
  | succ n ih =>
   intro k hk h
   by_cases hh : ∃ j, j < k ∧ Wk E j a v
   ·obtain ⟨j, hj, hw⟩ := hh
    exact ih j (by omega) hw
   ·exact ⟨k, h, fun j hj => Nat.le_of_not_lt fun hlt => hh ⟨j, hlt, hj⟩⟩
 by_cases h : ∃ k, Wk E k a v
 ·obtain ⟨k, hk⟩ := h
  obtain ⟨k, h1, h2⟩ := key k k (Nat.le_refl _) hk
  exact ⟨k, .inr ⟨k, rfl, h1, h2⟩⟩
 ·exact ⟨-1, .inl ⟨rfl, fun k hk => h ⟨k, hk⟩⟩⟩
noncomputable def sd (E : List (Nat × Nat)) (a v : Nat) : Int := Classical.choose (isSd_ex E a v)
theorem sd_is (E : List (Nat × Nat)) (a v : Nat) : isSd E a v (sd E a v) := Classical.choose_spec (isSd_ex E a v)
theorem isSd_one {E : List (Nat × Nat)} {a v : Nat} {r r' : Int} (h : isSd E a v r) (h' : isSd E a v r') : r = r' := by
 rcases h with ⟨h1, h2⟩ | ⟨k, h1, h2, h3⟩ <;> rcases h' with ⟨g1, g2⟩ | ⟨j, g1, g2, g3⟩
 ·rw [h1, g1]
 ·exact absurd g2 (h2 j)
 ·exact absurd h2 (g2 k)
 ·have := h3 j g2; have := g3 k h2; omega
theorem sd_eq {E : List (Nat × Nat)} {a v : Nat} {r : Int} (h : isSd E a v r) : r = sd E a v := isSd_one h (sd_is E a v)
theorem sd_le {E : List (Nat × Nat)} {a v k : Nat} (h : Wk E k a v) : 0 ≤ sd E a v ∧ sd E a v ≤ k := by
 rcases sd_is E a v with ⟨h1, h2⟩ | ⟨j, h1, h2, h3⟩
 ·exact absurd h (h2 k)
 ·have := h3 k h; omega
theorem sd_wk {E : List (Nat × Nat)} {a v : Nat} (h : 0 ≤ sd E a v) : Wk E (sd E a v).toNat a v := by
 rcases sd_is E a v with ⟨h1, h2⟩ | ⟨j, h1, h2, h3⟩
 ·omega
 ·rw [h1]; exact h2
theorem sd_neg {E : List (Nat × Nat)} {a v : Nat} (h : sd E a v < 0) : sd E a v = -1 ∧ ∀ k, ¬ Wk E k a v := by
 rcases sd_is E a v with ⟨h1, h2⟩ | ⟨j, h1, h2, h3⟩
 ·exact ⟨h1, h2⟩
 ·omega
theorem sd_step {E : List (Nat × Nat)} {a v : Nat} (h : 0 < sd E a v) : ∃ b, (a, b) ∈ E ∧ sd E b v = sd E a v - 1 := by
 rcases sd_is E a v with ⟨h1, _⟩ | ⟨k, h1, h2, h3⟩
 ·omega
 ·obtain ⟨j, rfl⟩ : ∃ j, k = j + 1 := ⟨k - 1, by omega⟩
  obtain ⟨b, hb, hw⟩ := Wk_first h2
  refine ⟨b, hb, ?_⟩
  have h4 := sd_le hw
  have h5 := h3 _ (Wk_cons hb (sd_wk h4.1))
  omega
theorem nodup_le {q : List Nat} {n : Nat} (h : q.Nodup) (hn : ∀ v ∈ q, v < n) : q.length ≤ n := by
 have := List.Nodup.length_le_of_subset h (l₂ := List.range n) (fun v hv => List.mem_range.2 (hn v hv))
 simpa using this
theorem getD_set' {α : Type} {l : List α} {i j : Nat} {a d : α} : (l.set i a).getD j d = if i = j ∧ i < l.length then a else l.getD j d := by
 simp only [List.getD_eq_getElem?_getD, List.getElem?_set]
 by_cases h : i = j
 ·subst h
  by_cases h2 : i < l.length
  ·simp [h2]
  ·simp [h2, List.getElem?_eq_none (Nat.le_of_not_lt h2)]
 ·simp [h]

structure BInv (E : List (Nat × Nat)) (n a : Nat) (d : List Int) (q : List Nat) (at' : Nat) : Prop where
 ln : d.length = n
 qn : ∀ v ∈ q, v < n
 nd : q.Nodup
 le : at' ≤ q.length
 vis : ∀ v, v < n → (v ∈ q ↔ 0 ≤ d.getD v (-1))
 neg : ∀ v, v < n → -1 ≤ d.getD v (-1)
 one : ∀ v, v < n → ¬ v ∈ q → d.getD v (-1) = -1
 src : a ∈ q ∧ d.getD a (-1) = 0
 walk : ∀ v ∈ q, Wk E (d.getD v (-1)).toNat a v
 ub : ∀ v ∈ q, d.getD v (-1) < q.length
 mono : ∀ (i j u v : Nat), i ≤ j → q[i]? = some u → q[j]? = some v → d.getD u (-1) ≤ d.getD v (-1)
 bnd : ∀ v ∈ q, ∀ (x : Nat), q[at']? = some x → d.getD v (-1) ≤ d.getD x (-1) + 1
 don : ∀ (i u w : Nat), i < at' → q[i]? = some u → (u, w) ∈ E → w ∈ q ∧ d.getD w (-1) ≤ d.getD u (-1) + 1
structure BMid (E : List (Nat × Nat)) (n a : Nat) (d : List Int) (q : List Nat) (at' x : Nat) (T : List Nat) : Prop where
 inv : BInv E n a d q at'
 atx : q[at']? = some x
 mid : ∀ w ∈ T, w ∈ q ∧ d.getD w (-1) ≤ d.getD x (-1) + 1

section
variable {E : List (Nat × Nat)} {n a : Nat} {d : List Int} {q : List Nat} {at' x : Nat} {T : List Nat}

theorem BInv.qle (h : BInv E n a d q at') : q.length ≤ n := nodup_le h.nd h.qn
theorem BInv.init (ha : a < n) : BInv E n a ((List.replicate n (-1)).set a 0) [a] 0 where
 ln := by simp
 qn v hv := by simp at hv; subst hv; exact ha
 nd := by simp
 le := Nat.zero_le _
 vis v hv := by
  rw [getD_set']
  by_cases h : a = v
  ·subst h; simp [ha]
  ·rw [if_neg (fun hh => h hh.1)]
   simp [List.getD_eq_getElem?_getD, List.getElem?_replicate, hv, Ne.symm h]
 neg v hv := by
  rw [getD_set']
  split
  ·omega
  ·simp [List.getD_eq_getElem?_getD, List.getElem?_replicate, hv]
 one v hv h := by
  rw [getD_set', if_neg (by simp at h; omega)]
  simp [List.getD_eq_getElem?_getD, List.getElem?_replicate, hv]
 src := by rw [getD_set']; simp [ha]
 walk v hv := by
  simp at hv; subst hv
  rw [getD_set', if_pos ⟨rfl, by simpa using ha⟩]
  rfl
 ub v hv := by
  simp at hv; subst hv
  rw [getD_set', if_pos ⟨rfl, by simpa using ha⟩]
  simp
 mono i j u v hij hu hv := by
  have h1 : i = 0 := by
   have := (List.getElem?_eq_some_iff.1 hu).1
   simpa using this
  have h2 : j = 0 := by
   have := (List.getElem?_eq_some_iff.1 hv).1
   simpa using this
  subst h1; subst h2
  rw [hu] at hv; cases hv
  exact Int.le_refl _
 bnd v hv x hx := by
  simp at hv hx; subst hv; subst hx
  omega
 don i u w hi := by omega
theorem BInv.start (h : BInv E n a d q at') (hx : q[at']? = some x) : BMid E n a d q at' x [] := ⟨h, hx, fun w hw => by cases hw⟩
theorem BMid.skip (h : BMid E n a d q at' x T) {w : Nat} (hw : w < n) (hd : 0 ≤ d.getD w (-1)) : BMid E n a d q at' x (T ++ [w]) := by
 refine ⟨h.inv, h.atx, fun u hu => ?_⟩
 rcases List.mem_append.1 hu with hu | hu
 ·exact h.mid u hu
 ·simp at hu; subst hu
  have hm := (h.inv.vis u hw).2 hd
  exact ⟨hm, h.inv.bnd u hm x h.atx⟩
theorem BMid.add (h : BMid E n a d q at' x T) {w : Nat} (hw : w < n) (he : (x, w) ∈ E) (hd : d.getD w (-1) < 0) : BMid E n a (d.set w (d.getD x (-1) + 1)) (q ++ [w]) at' x (T ++ [w]) := by
 have hv := h.inv
 have hwq : ¬ w ∈ q := fun hm => by have := (hv.vis w hw).1 hm; omega
 have hxq : x ∈ q := List.mem_of_getElem? h.atx
 have hx0 := (hv.vis x (hv.qn x hxq)).1 hxq
 have hxw : w ≠ x := fun e => hwq (e ▸ hxq)
 have hat := (List.getElem?_eq_some_iff.1 h.atx).1
 have hnew : (d.set w (d.getD x (-1) + 1)).getD w (-1) = d.getD x (-1) + 1 := by rw [getD_set', if_pos ⟨rfl, by rw [hv.ln]; exact hw⟩]
 have hold : ∀ v, v ≠ w → (d.set w (d.getD x (-1) + 1)).getD v (-1) = d.getD v (-1) := fun v hv => by rw [getD_set', if_neg (fun hh => hv hh.1.symm)]
 have hold2 : ∀ v, v ∈ q → (d.set w (d.getD x (-1) + 1)).getD v (-1) = d.getD v (-1) := fun v hv => hold v (fun e => hwq (e ▸ hv))
 have get : ∀ i u, (q ++ [w])[i]? = some u → (i < q.length ∧ q[i]? = some u) ∨ (i = q.length ∧ u = w) := fun i u hu => by
  rcases Nat.lt_or_ge i q.length with hi | hi
  ·rw [List.getElem?_append_left hi] at hu; exact .inl ⟨hi, hu⟩
  ·rw [List.getElem?_append_right hi] at hu
   have : i - q.length = 0 := by
    have := (List.getElem?_eq_some_iff.1 hu).1; simpa using this
   rw [this] at hu; simp at hu
   exact .inr ⟨by omega, hu.symm⟩
 refine ⟨?_, by rw [List.getElem?_append_left hat]; exact h.atx, ?_⟩
 ·constructor
  ·simp [hv.ln]
  ·intro v hm
   rcases List.mem_append.1 hm with hm | hm
   ·exact hv.qn v hm
   ·simp at hm; subst hm; exact hw
  ·rw [List.nodup_append]
   exact ⟨hv.nd, by simp, fun u hu v hm => by simp at hm; subst hm; exact fun e => hwq (e ▸ hu)⟩
  ·simp; have := hv.le; omega
  ·intro v hvn
   by_cases e : v = w
   ·subst e; rw [hnew]; exact ⟨fun _ => by omega, fun _ => by simp⟩
   ·rw [hold v e, ← hv.vis v hvn]; simp [e]
  ·intro v hvn
   by_cases e : v = w
   ·subst e; rw [hnew]; omega
   ·rw [hold v e]; exact hv.neg v hvn
  ·intro v hvn hm
   simp at hm
   rw [hold v hm.2]; exact hv.one v hvn hm.1
  ·exact ⟨by simp [hv.src.1], by rw [hold2 a hv.src.1]; exact hv.src.2⟩
  ·intro v hm
   rcases List.mem_append.1 hm with hm | hm
   ·rw [hold2 v hm]; exact hv.walk v hm
   ·simp at hm; subst hm
    rw [hnew, show (d.getD x (-1) + 1).toNat = (d.getD x (-1)).toNat + 1 by omega]
    exact ⟨x, he, hv.walk x hxq⟩
  ·intro v hm
   rcases List.mem_append.1 hm with hm | hm
   ·rw [hold2 v hm]; have := hv.ub v hm; simp only [List.length_append, List.length_singleton, Int.natCast_add]; omega
   ·simp at hm; subst hm
    rw [hnew]; have := hv.ub x hxq; simp only [List.length_append, List.length_singleton, Int.natCast_add]; omega
  ·intro i j u v hij hu hv'
   rcases get i u hu with ⟨h1, h2⟩ | ⟨h1, h2⟩ <;> rcases get j v hv' with ⟨h3, h4⟩ | ⟨h3, h4⟩
   ·rw [hold2 u (List.mem_of_getElem? h2), hold2 v (List.mem_of_getElem? h4)]
    exact hv.mono i j u v hij h2 h4
   ·subst h4
    rw [hold2 u (List.mem_of_getElem? h2), hnew]
    exact hv.bnd u (List.mem_of_getElem? h2) x h.atx
   ·omega
   ·subst h2; subst h4; exact Int.le_refl _
  ·intro v hm x' hx'
   rw [List.getElem?_append_left hat, h.atx] at hx'
   cases hx'
   rw [hold2 x hxq]
   rcases List.mem_append.1 hm with hm | hm
   ·rw [hold2 v hm]; exact hv.bnd v hm x h.atx
   ·simp at hm; subst hm
    rw [hnew]; exact Int.le_refl _
  ·intro i u w' hi hu he'
   rw [List.getElem?_append_left (by omega)] at hu
   obtain ⟨g1, g2⟩ := hv.don i u w' hi hu he'
   rw [hold2 u (List.mem_of_getElem? hu), hold2 w' g1]
   exact ⟨by simp [g1], g2⟩
 ·intro u hu
  rcases List.mem_append.1 hu with hu | hu
  ·obtain ⟨g1, g2⟩ := h.mid u hu
   rw [hold2 u g1, hold2 x hxq]
   exact ⟨by simp [g1], g2⟩
  ·simp at hu; subst hu
   rw [hnew, hold2 x hxq]
   exact ⟨by simp, Int.le_refl _⟩
theorem BMid.next (h : BMid E n a d q at' x T) (hT : ∀ w, (x, w) ∈ E → w ∈ T) : BInv E n a d q (at' + 1) := by
 have hv := h.inv
 have hat := (List.getElem?_eq_some_iff.1 h.atx).1
 refine { hv with le := hat, bnd := fun v hm x' hx' => ?_, don := fun i u w hi hu he => ?_ }
 ·have h1 := hv.bnd v hm x h.atx
  have h2 := hv.mono at' (at' + 1) x x' (by omega) h.atx hx'
  omega
 ·by_cases e : i = at'
  ·subst e
   rw [h.atx] at hu; cases hu
   exact h.mid w (hT w he)
  ·exact hv.don i u w (by omega) hu he
theorem BInv.done (h : BInv E n a d q q.length) (hE : ∀ p ∈ E, p.2 < n) : d = (List.range n).map (sd E a) := by
 have hcl : ∀ u ∈ q, ∀ w, (u, w) ∈ E → w ∈ q ∧ d.getD w (-1) ≤ d.getD u (-1) + 1 := fun u hu w he => by
  obtain ⟨i, hi⟩ := List.mem_iff_getElem?.1 hu
  exact h.don i u w (List.getElem?_eq_some_iff.1 hi).1 hi he
 have hall : ∀ k v, Wk E k a v → v ∈ q ∧ d.getD v (-1) ≤ k := by
  intro k
  induction k with
  | zero => intro v hw; cases hw; exact ⟨h.src.1, by rw [h.src.2]; simp⟩
  | succ k ih =>
   rintro v ⟨u, hu, hw⟩
   obtain ⟨g1, g2⟩ := ih u hw
   obtain ⟨g3, g4⟩ := hcl u g1 v hu
   exact ⟨g3, by omega⟩
 refine List.ext_getElem (by simp [h.ln]) fun v h1 h2 => ?_
 have hvn : v < n := by rw [← h.ln]; exact h1
 have hg : d[v] = d.getD v (-1) := by simp [List.getD_eq_getElem?_getD, List.getElem?_eq_getElem h1]
 rw [List.getElem_map, List.getElem_range, hg]
 refine sd_eq ?_
 by_cases hm : v ∈ q
 ·have h0 := (h.vis v hvn).1 hm
  exact .inr ⟨(d.getD v (-1)).toNat, by omega, h.walk v hm, fun j hj => by have := (hall j v hj).2; omega⟩
 ·exact .inl ⟨h.one v hvn hm, fun k hk => hm (hall k v hk).1⟩
end
end Go.AM

set_option maxRecDepth 8000
set_option maxHeartbeats 1000000
namespace Go.AM
open Go Go.Proofs

def badE (n : Int) (e : PEdge) : Bool := decide (e.src < 0) || decide (n ≤ e.src) || decide (e.dst < 0) || decide (n ≤ e.dst)
theorem gE_any {n : Int} {l : List PEdge} (h : ¬ (n < 0 ∨ 4096 < n)) : gE n l = if l.any (badE n) = true then 1 else 0 := by
 unfold gE; rw [if_neg h]; rfl
def gchkR (ds : List D) (v : AV) : Prop := ∃ (n : Int) (l : List PEdge), ds = [.int .i64 n, .sl (some 4) (edgesD l)] ∧ l.length ≤ 10000 ∧ v = .dat (.int .i64 (gE n l))
theorem gcheck_ok : OkF Try.prog 93 (dataC gchkR) := by
 refine okF_data Try.func93 rfl (by decide) ?_
 rintro ds v ⟨n, l, rfl, hl, rfl⟩
 generalize hv : gE n l = V
 refine sem_of_awp (Γ := tbl []) okG_nil _ _ _ ?_
 have fin : ∀ s own (b c : Int), b = c → s.getD 4 .top = .dat (.int .i64 b) → post Try.prog Try.f93 (.dat (.int .i64 c)) [] [] .ret ⟨s, own, 0, []⟩ := fun s own b c e h => by
  subst e
  exact post_data (.inl rfl) [4] rfl trivial (by simp only [tmpsOf, h]; rfl)
 by_cases h1 : n < 0
 ·simp only [go_sem, Int.reduceEq, Int.reduceLT, Int.reduceLE, eq_self, Int.natCast_nonneg, Int.toNat_natCast, Try.ntmps93, h1]
  refine fin _ _ _ _ ?_ rfl
  rw [← hv]; unfold gE; rw [if_pos (.inl h1)]
 by_cases h2 : 4096 < n
 ·simp only [go_sem, Int.reduceEq, Int.reduceLT, Int.reduceLE, eq_self, Int.natCast_nonneg, Int.toNat_natCast, Try.ntmps93, h1, h2]
  refine fin _ _ _ _ ?_ rfl
  rw [← hv]; unfold gE; rw [if_pos (.inr h2)]
 rw [gE_any (by omega)] at hv
 simp only [go_sem, Int.reduceEq, Int.reduceLT, Int.reduceLE, eq_self, Int.natCast_nonneg, Int.toNat_natCast, Try.ntmps93, h1, h2, edges_len]
 refine sem_loop (fun k : Nat => ⟨slotsOf 40 [(0, .dat (.int .i64 n)), (13, .dat (.sl (some 4) (edgesD l))), (14, .dat (.int .i64 l.length)), (15, .dat (.int .i64 k))], [], 0, []⟩)
  (fun k => k ≤ l.length ∧ (if (l.drop k).any (badE n) = true then 1 else 0) = V) (fun k => l.length - k) 0 ⟨Nat.zero_le _, hv⟩ ?_ ?_
 ·exact le_slots' (by simp only [go_sem, Int.natCast_zero])
 rintro k ⟨hk, hI⟩
 refine sem_of_awp (Γ := tbl []) okG_nil _ _ _ ?_
 cases hd : l.drop k with
 | nil =>
  have := end_of_drop hd hk
  have hk2 : ¬ (k : Int) < l.length := by omega
  simp only [go_sem, Int.reduceEq, Int.reduceLT, Int.reduceLE, eq_self, Int.natCast_nonneg, Int.toNat_natCast, hk2]
  refine fin _ _ _ _ ?_ rfl
  rw [← hI, hd]; simp
 | cons e q =>
  have hlt := lt_of_drop hd
  have hk2 : (k : Int) < l.length := by omega
  have hk0 : (0 : Int) ≤ k := Int.natCast_nonneg k
  have hn := nth_of_drop (f := edgeD) hd
  rw [hd, List.any_cons] at hI
  obtain ⟨src, dst, cls, stp⟩ := e

  by_cases g1 : src < 0
  ·simp only [go_sem, Int.reduceEq, Int.reduceLT, Int.reduceLE, eq_self, Int.natCast_nonneg, Int.toNat_natCast, hk2, hk0, hn, hlt, edges_len, edgeD, g1]
   refine fin _ _ _ _ ?_ rfl
   rw [← hI]; simp [badE, g1]
  by_cases g2 : n ≤ src
  ·simp only [go_sem, Int.reduceEq, Int.reduceLT, Int.reduceLE, eq_self, Int.natCast_nonneg, Int.toNat_natCast, hk2, hk0, hn, hlt, edges_len, edgeD, g1, g2]
   refine fin _ _ _ _ ?_ rfl
   rw [← hI]; simp [badE, g2]
  by_cases g3 : dst < 0
  ·simp only [go_sem, Int.reduceEq, Int.reduceLT, Int.reduceLE, eq_self, Int.natCast_nonneg, Int.toNat_natCast, hk2, hk0, hn, hlt, edges_len, edgeD, g1, g2, g3]
   refine fin _ _ _ _ ?_ rfl
   rw [← hI]; simp [badE, g3]
  by_cases g4 : n ≤ dst
  ·simp only [go_sem, Int.reduceEq, Int.reduceLT, Int.reduceLE, eq_self, Int.natCast_nonneg, Int.toNat_natCast, hk2, hk0, hn, hlt, edges_len, edgeD, g1, g2, g3, g4]
   refine fin _ _ _ _ ?_ rfl
   rw [← hI]; simp [badE, g4]
  have hb : badE n ⟨src, dst, cls, stp⟩ = false := by simp [badE]; omega
  rw [hb, Bool.false_or] at hI
  simp only [go_sem, Int.reduceEq, Int.reduceLT, Int.reduceLE, eq_self, Int.natCast_nonneg, Int.toNat_natCast, hk2, hk0, hn, hlt, edges_len, edgeD, g1, g2, g3, g4]
  refine ⟨inR_i64.2 (by omega), k + 1, ⟨by omega, by rw [drop_cons hd]; exact hI⟩, by omega, ?_⟩
  refine le_end (own := []) (ex := [_]) (Nat.zero_le _) ?_ ?_ ?_
  ·simp only [go_sem, Int.natCast_add, Int.cast_ofNat_Int]
  ·simp only [go_sem]
  ·simp only [go_sem, Obj.under, AV.unders, AV.under, Obj.allUnder]
end Go.AM

set_option maxRecDepth 8000
set_option maxHeartbeats 1000000
namespace Go.AM
open Go Go.Proofs

theorem gints_nth {l : List Int} {i : Nat} (z : Int) (h : i < l.length) : D.nth (intsD l) i = .int .i64 (l.getD i z) := by
 rw [D.nth_map h]; simp [List.getD_eq_getElem?_getD, List.getElem?_eq_getElem h]
theorem nats_nth {l : List Nat} {i x : Nat} (h : l[i]? = some x) : D.nth (natsD l) i = .int .i64 (x : Int) := by
 simp [D.nth, h]
def outs (l : List PEdge) (x : Nat) : List Nat := l.filterMap fun e => if e.s = x then some e.t else none
theorem GOk.eFlt {n : Nat} {l : List PEdge} (h : GOk n l) : ∀ p ∈ eF l, p.2 < n := by
 intro p hp
 obtain ⟨e, he, rfl⟩ := List.mem_map.1 hp
 exact (h.dst e he).2

noncomputable def distL (n : Nat) (l : List PEdge) (a : Nat) : List Int := (List.range n).map (sd (eF l) a)
def greachR (ds : List D) (v : AV) : Prop := ∃ (n : Nat) (l : List PEdge) (a : Nat), ds = [.int .i64 n, .sl (some 4) (edgesD l), .int .i64 a] ∧ GOk n l ∧ a < n ∧ v = .dat (.sl none (intsD (distL n l a)))
end Go.AM

set_option maxRecDepth 8000
set_option maxHeartbeats 1000000
namespace Go.AM
open Go Go.Proofs

def mulR (ds : List D) (v : AV) : Prop := ∃ n : Nat, ds = [.int .u64 1, .int .u64 n] ∧ n < 65536 ∧ v = .tup [.dat (.int .u64 0), .dat (.int .u64 n)]
def repR (ds : List D) (v : AV) (ob : List Obj) : Prop := ∃ (z : Int) (n : Nat), ds = [.sl none [.int .i64 z], .int .i64 n] ∧ 0 < n ∧ n ≤ 4096 ∧ v = .sl 0 0 n ∧ ob = [.row none (intsD (List.replicate n z))]
end Go.AM

set_option maxRecDepth 8000
set_option maxHeartbeats 1000000
namespace Go.AM
open Go Go.Proofs

def idxs (f : PEdge → Nat) : Nat → List PEdge → Nat → List Nat
 | _, [], _ => []
 | k, e :: r, v => if f e = v then k :: idxs f (k + 1) r v else idxs f (k + 1) r v
theorem mem_idxs {f : PEdge → Nat} {v i : Nat} : ∀ {k : Nat} {l : List PEdge}, i ∈ idxs f k l v ↔ ∃ j e, l[j]? = some e ∧ f e = v ∧ i = k + j
 | k, [] => by simp [idxs]
 | k, y :: r => by
  have ih := mem_idxs (f := f) (v := v) (i := i) (k := k + 1) (l := r)
  have hs : (∃ j e, (y :: r)[j]? = some e ∧ f e = v ∧ i = k + j) ↔ (f y = v ∧ i = k) ∨ ∃ j e, r[j]? = some e ∧ f e = v ∧ i = k + 1 + j := by
   constructor
   ·rintro ⟨j, e, h1, h2, h3⟩
    cases j with
    | zero => simp at h1; subst h1; exact .inl ⟨h2, h3⟩
    | succ j => exact .inr ⟨j, e, by simpa using h1, h2, by omega⟩
   ·rintro (⟨h1, h2⟩ | ⟨j, e, h1, h2, h3⟩)
    ·exact ⟨0, y, rfl, h1, h2⟩
    ·exact ⟨j + 1, e, by simpa using h1, h2, by omega⟩
  rw [hs, ← ih, idxs]
  split
  ·rename_i h; simp [h]
  ·rename_i h; simp [h]
def idxL (f : PEdge → Nat) (n : Nat) (l : List PEdge) : List (List Nat) := (List.range n).map fun v => idxs f 0 l v
abbrev natsR (r : List Nat) : D := .sl none (natsD r)
abbrev rowsN (M : List (List Nat)) : List (List D) := M.map natsD
theorem rowsN_sl {M : List (List Nat)} : (rowsN M).map (D.sl none) = M.map natsR := by simp [List.map_map, Function.comp_def]
theorem rowsN_len {M : List (List Nat)} : (rowsN M).length = M.length := by simp
theorem rowsN_getD {M : List (List Nat)} {i : Nat} : (rowsN M).getD i [] = natsD (M.getD i []) := by
 simp only [List.getD_eq_getElem?_getD, List.getElem?_map]; cases M[i]? <;> rfl
theorem rowsN_set {M : List (List Nat)} {i : Nat} {r : List Nat} : (rowsN M).set i (natsD r) = rowsN (M.set i r) := by simp [List.map_set]
theorem rows_nth {M : List (List Nat)} {v : Nat} {r : List Nat} (h : M[v]? = some r) : D.nth (M.map natsR) v = .sl none (natsD r) := by
 simp [D.nth, h]

def leavR (ds : List D) (v : AV) : Prop := ∃ (n : Nat) (l : List PEdge), ds = [.int .i64 n, .sl (some 4) (edgesD l)] ∧ GOk n l ∧ v = .dat (.sl none ((idxL PEdge.s n l).map natsR))
end Go.AM

set_option maxRecDepth 8000
set_option maxHeartbeats 2000000
namespace Go.AM
open Go Go.Proofs

def sameR (ds : List D) (v : AV) : Prop := ∃ (L : List Nat), ds = [.sl none (natsD L), .sl none (natsD L)] ∧ L.length ≤ 10000 ∧ v = .dat (.bool true)
theorem same_ok : OkF Try.prog 18 (dataC sameR) := by
 refine okF_data Try.func18 rfl (by decide) ?_
 rintro ds v ⟨L, rfl, hL, rfl⟩
 refine sem_of_awp (Γ := tbl []) okG_nil _ _ _ ?_
 simp only [go_sem, Int.reduceEq, Int.reduceLT, Int.reduceLE, eq_self, Int.natCast_nonneg, Int.toNat_natCast, Try.ntmps18, nats_len]
 refine sem_loop (fun k : Nat => ⟨slotsOf 26 [(0, .dat (.sl none (natsD L))), (1, .dat (.sl none (natsD L))), (5, .dat (.int .i64 k))], [], 0, []⟩)
  (fun k => k ≤ L.length) (fun k => L.length - k) 0 (Nat.zero_le _) ?_ ?_
 ·exact le_slots' (by simp only [go_sem, Int.natCast_zero])
 rintro k hk
 refine sem_of_awp (Γ := tbl []) okG_nil _ _ _ ?_
 cases hd : L.drop k with
 | nil =>
  have := end_of_drop hd hk
  have hk2 : ¬ (k : Int) < L.length := by omega
  simp only [go_sem, Int.reduceEq, Int.reduceLT, Int.reduceLE, eq_self, Int.natCast_nonneg, Int.toNat_natCast, hk2, nats_len]
  exact post_data (.inl rfl) [4] rfl trivial rfl
 | cons x r =>
  have hlt := lt_of_drop hd
  have hk2 : (k : Int) < L.length := by omega
  have hk0 : (0 : Int) ≤ k := Int.natCast_nonneg k
  have hn := nth_of_drop (f := natD) hd
  simp only [go_sem, Int.reduceEq, Int.reduceLT, Int.reduceLE, eq_self, Int.natCast_nonneg, Int.toNat_natCast, hk2, nats_len]
  refine sem_draw (pf := []) (Γ := tbl []) mixed okG_nil pureNo [0, 1, 2, 3, 4, 5, 6, 7, 8] (by kernel_rfl) ?_
  simp only [go_sem, Int.reduceEq, Int.reduceLT, Int.reduceLE, eq_self, Int.natCast_nonneg, Int.toNat_natCast, chainI, hk2, hlt, hk0, hn, nats_len]
  refine ⟨inR_i64.2 (by omega), k + 1, by omega, by omega, ?_⟩
  exact le_slots' (by simp only [go_sem, Int.natCast_add, Int.cast_ofNat_Int])
end Go.AM

set_option maxRecDepth 8000
set_option maxHeartbeats 4000000
namespace Go.AM
open Go Go.Proofs

abbrev awakeXR : List D → AV → Prop := fun ds v => ds = [] ∧ v = .dat (.bool true)
theorem awakeXR_true : awakeXR [] (.dat (.bool true)) := ⟨rfl, rfl⟩
def phiS2 : PSt := [[⟨0, 1⟩], [⟨1, 1⟩]]
theorem phi2_ok : checkE (phiP 2 false) = 0 := by kernel_rfl
theorem phi2_dead : deadC (phiP 2 false) 12 = some ([0, 1], 0, 0) := by kernel_rfl
theorem tak222_ok : checkE (takP 2 2 2) = 0 := by kernel_rfl
theorem tak222_dead : deadC (takP 2 2 2) 12 = some ([0, 1], 0, 0) := by kernel_rfl
theorem tak223_ok : checkE (takP 2 2 3) = 0 := by kernel_rfl
theorem tak223_dead : deadC (takP 2 2 3) 12 = some ([], 0, 6) := by kernel_rfl
theorem phi2_reach : reachN (phiP 2 false) = (8, 0) := by kernel_rfl
theorem phi2_replay : replayX (phiP 2 false) [0, 1] = (phiS2, 0) := by kernel_rfl
theorem phi2_stuck : stuckX (phiP 2 false) phiS2 = ([0, 1], 0) := by kernel_rfl
theorem phi2_en : enabL (phiP 2 false) phiS2 = [] := by kernel_rfl
theorem phi2_err : stErr (phiP 2 false) phiS2 = 0 := by kernel_rfl
theorem phi2_fit : (phiP 2 false).fit := ⟨⟨by decide, by decide, by decide⟩⟩
theorem phiS2_fit : PStFit phiS2 := ⟨by decide, by decide⟩
abbrev tabAw : List (Nat × Contract) := [(30, dataC phiPR), (29, dataC takPR), (23, dataC deadR), (21, dataC reachNR), (31, dataC replayXR), (26, dataC stuckR), (19, dataC enabR), (15, dataC stErrR), (31, frzC (dataC replayXR)), (18, frzC (dataC sameR))]
theorem tabAw_ok : OkG Try.prog (tbl tabAw) := okG_cons philosophers_ok (okG_cons takers_ok (okG_cons xDeadlock_ok (okG_cons xReach_ok (okG_cons xReplay_ok (okG_cons xStuck_ok (okG_cons xEnabled_ok (okG_cons xcheck_ok (okG_cons (okF_frz xReplay_ok) (okG_cons (okF_frz same_ok) okG_nil)))))))))
theorem awakeX_ok : OkF Try.prog 11 (dataC awakeXR) := by
 refine okF_data Try.func11 rfl (by decide) ?_
 rintro ds v ⟨rfl, rfl⟩
 have d1 := deadR_of phi2_ok phi2_dead
 have d2 := deadR_of tak222_ok tak222_dead
 have d3 := deadR_of tak223_ok tak223_dead
 have r1 : reachNR [sysD (phiP 2 false)] (.tup [.dat (.int .i64 8), .dat (.int .i64 0)]) := ⟨_, rfl, phi2_fit, by rw [phi2_reach]⟩
 have r2 : replayXR [sysD (phiP 2 false), .sl none (intsD [0, 1])] (.tup [.dat (stD phiS2), .dat (.int .i64 0)]) := ⟨_, _, rfl, phi2_fit, by decide, by rw [phi2_replay]⟩
 have r3 : stuckR [sysD (phiP 2 false), stD phiS2] (.tup [.dat (natlD [0, 1]), .dat (.int .i64 0)]) := ⟨_, _, rfl, phi2_fit, phiS2_fit, by rw [phi2_stuck]⟩
 have r4 : enabR [sysD (phiP 2 false), stD phiS2] (.dat (.sl none [])) := ⟨_, _, rfl, phi2_fit, phiS2_fit, by rw [phi2_en]; rfl⟩
 have r5 : stErrR [sysD (phiP 2 false), stD phiS2] (.dat (.int .i64 0)) := ⟨_, _, rfl, phi2_fit, phiS2_fit, by rw [phi2_err]⟩
 have p1 : phiPR [.int .i64 2, .bool false] (.dat (sysD (phiP 2 false))) := ⟨2, false, rfl, by decide, rfl⟩
 have p2 : takPR [.int .i64 2, .int .i64 2, .int .i64 2] (.dat (sysD (takP 2 2 2))) := ⟨2, 2, 2, rfl, by decide, rfl⟩
 have p3 : takPR [.int .i64 2, .int .i64 2, .int .i64 3] (.dat (sysD (takP 2 2 3))) := ⟨2, 2, 3, rfl, by decide, rfl⟩
 have s1 : sameR [.sl none (natsD [0, 1]), .sl none (natsD [0, 1])] (.dat (.bool true)) := ⟨[0, 1], rfl, by decide, rfl⟩
 refine sem_of_awp (Γ := tbl tabAw) tabAw_ok _ _ _ ?_
 simp only [go_sem, Int.reduceEq, Int.reduceLT, Int.reduceLE, eq_self, Int.natCast_nonneg, Int.toNat_natCast, Try.ntmps11]
 refine call_data phiPR (by simp) [.int .i64 2, .bool false] _ rfl p1 (.inl rfl) ?_
 generalize hP : phiP 2 false = P at *
 simp only [go_sem, Int.reduceEq, Int.reduceLT, Int.reduceLE, eq_self, Int.natCast_nonneg, Int.toNat_natCast, sysD]
 refine call_data deadR (by simp) [sysD P] _ rfl d1 (.inl rfl) ?_
 simp only [go_sem, Int.reduceEq, Int.reduceLT, Int.reduceLE, eq_self, Int.natCast_nonneg, Int.toNat_natCast, sysD]
 refine call_data reachNR (by simp) [sysD P] _ rfl r1 (.inl rfl) ?_
 simp only [go_sem, Int.reduceEq, Int.reduceLT, Int.reduceLE, eq_self, Int.natCast_nonneg, Int.toNat_natCast, sysD]
 refine call_data takPR (by simp) [.int .i64 2, .int .i64 2, .int .i64 2] _ rfl p2 (.inl rfl) ?_
 simp only [go_sem, Int.reduceEq, Int.reduceLT, Int.reduceLE, eq_self, Int.natCast_nonneg, Int.toNat_natCast]
 refine call_data deadR (by simp) [sysD (takP 2 2 2)] _ rfl d2 (.inl rfl) ?_
 simp only [go_sem, Int.reduceEq, Int.reduceLT, Int.reduceLE, eq_self, Int.natCast_nonneg, Int.toNat_natCast]
 refine call_data takPR (by simp) [.int .i64 2, .int .i64 2, .int .i64 3] _ rfl p3 (.inl rfl) ?_
 simp only [go_sem, Int.reduceEq, Int.reduceLT, Int.reduceLE, eq_self, Int.natCast_nonneg, Int.toNat_natCast]
 refine call_data deadR (by simp) [sysD (takP 2 2 3)] _ rfl d3 (.inl rfl) ?_
 simp only [go_sem, Int.reduceEq, Int.reduceLT, Int.reduceLE, eq_self, Int.natCast_nonneg, Int.toNat_natCast]
 refine call_frzdata replayXR (by simp) 1 rfl [sysD P, .sl none (intsD [0, 1])] _ rfl r2 (.inl rfl) ?_
 simp only [go_sem, Int.reduceEq, Int.reduceLT, Int.reduceLE, eq_self, Int.natCast_nonneg, Int.toNat_natCast, sysD, stD]
 refine call_data stuckR (by simp) [sysD P, stD phiS2] _ rfl r3 (.inl rfl) ?_
 simp only [go_sem, Int.reduceEq, Int.reduceLT, Int.reduceLE, eq_self, Int.natCast_nonneg, Int.toNat_natCast, sysD, stD, eq_self, decide_true]
 refine call_frzdata sameR (by simp) 3 rfl [.sl none (natsD [0, 1]), .sl none (natsD [0, 1])] _ rfl s1 (.inl rfl) ?_
 simp only [go_sem, Int.reduceEq, Int.reduceLT, Int.reduceLE, eq_self, Int.natCast_nonneg, Int.toNat_natCast, sysD, stD, eq_self, decide_true]
 refine call_frzdata sameR (by simp) 4 rfl [.sl none (natsD [0, 1]), .sl none (natsD [0, 1])] _ rfl s1 (.inl rfl) ?_
 simp only [go_sem, Int.reduceEq, Int.reduceLT, Int.reduceLE, eq_self, Int.natCast_nonneg, Int.toNat_natCast, sysD, stD, eq_self, decide_true]
 refine call_data enabR (by simp) [sysD P, stD phiS2] _ rfl r4 (.inl rfl) ?_
 simp only [go_sem, Int.reduceEq, Int.reduceLT, Int.reduceLE, eq_self, Int.natCast_nonneg, Int.toNat_natCast, sysD, stD, eq_self, decide_true]
 refine call_frzdata sameR (by simp) 5 rfl [.sl none (natsD [0, 1]), .sl none (natsD [0, 1])] _ rfl s1 (.inl rfl) ?_
 simp only [go_sem, Int.reduceEq, Int.reduceLT, Int.reduceLE, eq_self, Int.natCast_nonneg, Int.toNat_natCast, sysD, stD, eq_self, decide_true]
 refine call_data stErrR (by simp) [sysD P, stD phiS2] _ rfl r5 (.inl rfl) ?_
 simp only [go_sem, Int.reduceEq, Int.reduceLT, Int.reduceLE, eq_self, Int.natCast_nonneg, Int.toNat_natCast, sysD, stD, eq_self, decide_true]
 exact post_data (.inl rfl) [0] rfl trivial rfl
end Go.AM

set_option maxRecDepth 8000
set_option maxHeartbeats 4000000
namespace Go.AM
open Go Go.Proofs

abbrev tabZ1 : List (Nat × Contract) := [(11, dataC awakeXR), (12, dataC few4R), (28, dataC startXR), (25, dataC startXR), (13, dataC stepXR), (14, dataC stepXR), (31, dataC replayXR), (32, dataC replayXR), (15, dataC stErrR), (16, dataC stErrR), (19, dataC enabR), (20, dataC enabR), (33, dataC availR), (34, dataC availR), (17, dataC sameXR), (18, dataC sameR)]
abbrev pfZ1 : List Nat := [15, 16, 19, 20, 33, 34, 17, 18]
def lawChR (ds : List D) (v : AV) : Prop := ∃ (s : PSys) (x : PSt) (w : Int), ds = [sysD s, stD x, .int .i64 w] ∧ v = .dat (.bool true)
def lawStR (ds : List D) (v : AV) : Prop := ∃ (s : PSys) (ws : List Int) (p : Int), ds = [sysD s, .sl none (intsD ws), .int .i64 p] ∧ v = .dat (.bool true)
end Go.AM

set_option maxRecDepth 8000
set_option maxHeartbeats 4000000
namespace Go.AM
open Go Go.Proofs

theorem ex_tab2 (s : PSys) (x : PSt) : ∃ B : Nat → Nat → Bool, TabOk s x B := by
 refine ⟨fun w i => @decide (∀ g ab nx, reachG s x = some (g, ab, nx) → Fre ab nx w i) (Classical.propDecidable _), fun g ab nx hr w i _ => ?_⟩
 refine Iff.trans (@decide_eq_true_iff _ (Classical.propDecidable _)) ?_
 exact ⟨fun h => h g ab nx hr, fun h g' ab' nx' hr' => by rw [hr] at hr'; cases hr'; exact h⟩
abbrev tabZ2 : List (Nat × Contract) := [(11, dataC awakeXR), (12, dataC few4R), (21, dataC reachNR), (22, dataC reachNR), (23, dataC deadR), (24, dataC deadR), (25, dataC startXR), (14, dataC stepXR), (26, dataC stuckR), (27, dataC stuckR), (18, dataC sameR)]
def lawRhR (ds : List D) (v : AV) : Prop := ∃ (s : PSys) (ws : List Int), ds = [sysD s, .sl none (intsD ws)] ∧ v = .dat (.bool true)
end Go.AM

set_option maxRecDepth 8000
namespace Go.AM
open Go Go.Proofs

theorem err_val {s : PSys} {x : PSt} (hc : checkE s = 0) (hV : Valid s x) : stErr s x = 0 := by
 unfold stErr
 rw [if_neg (by omega), if_neg (by rw [hV.len]; simp), if_neg (by rw [hV.fmd]; simp), if_neg (by rw [hV.nover]; simp)]
theorem nx_mem {s : PSys} {x : PSt} {g : Gr} (hI : GInv s x g) {i j u : Nat} (hi : i < g.st.length) (hj : j < g.st.length) (hu : u ∈ ableL s (g.st.getD i [])) (h : g.st.getD j [] = takeX s (g.st.getD i []) u) : j ∈ (g.st.map (nxRow s g.st)).getD i [] := by
 rw [show (g.st.map (nxRow s g.st)).getD i [] = nxRow s g.st (g.st.getD i []) from map_getD (e := []) hi]
 unfold nxRow
 refine List.mem_map.2 ⟨u, hu, ?_⟩
 rw [idxS_nd hI.nd hj h]; rfl
theorem st_idx {S : List PSt} {y : PSt} (h : y ∈ S) : ∃ j, j < S.length ∧ S.getD j [] = y := by
 obtain ⟨j, hj, rfl⟩ := List.getElem_of_mem h
 exact ⟨j, hj, by simp [List.getD_eq_getElem?_getD, hj]⟩
theorem fre_rch {s : PSys} {x : PSt} (hV : Valid s x) {g : Gr} {ab nx : List (List Nat)} (h : reachG s x = some (g, ab, nx)) {w i : Nat} (hi : i < g.st.length) : Fre ab nx w i ↔ ∃ y, Rch s (g.st.getD i []) y ∧ w ∈ ableL s y := by
 obtain ⟨hG, hcl, rfl, rfl⟩ := reach_inv hV h
 have hab : ∀ i, i < g.st.length → (g.st.map (ableL s)).getD i [] = ableL s (g.st.getD i []) := fun i hi => map_getD hi
 have hmem : ∀ i, i < g.st.length → g.st.getD i [] ∈ g.st := fun i hi => getD_memS hi
 constructor
 ·intro hf
  induction hf with
  | @here i hw => exact ⟨_, .refl, by rw [← hab i hi]; exact hw⟩
  | @next i j hj _ ih =>
   rw [show (g.st.map (nxRow s g.st)).getD i [] = nxRow s g.st (g.st.getD i []) from map_getD (e := []) hi] at hj
   unfold nxRow at hj
   obtain ⟨u, hu, hj⟩ := List.mem_map.1 hj
   obtain ⟨k, hk, hk2⟩ := st_idx (hcl _ (hmem i hi) u hu)
   rw [idxS_nd hG.nd hk hk2] at hj
   have hkj : k = j := hj
   subst hkj
   obtain ⟨y, h1, h2⟩ := ih hk
   obtain ⟨hu1, hu2⟩ := mem_able.1 hu
   refine ⟨y, Rch.trans (.step .refl hu1 hu2) ?_, h2⟩
   rw [← hk2]; exact h1
 ·rintro ⟨y, hr, hw⟩
  have key : ∀ z, Rch s (g.st.getD i []) z → (∀ j, j < g.st.length → g.st.getD j [] = z → Fre (g.st.map (ableL s)) (g.st.map (nxRow s g.st)) w j) → Fre (g.st.map (ableL s)) (g.st.map (nxRow s g.st)) w i := by
   intro z hz
   induction hz with
   | refl => intro hF; exact hF i hi rfl
   | @step z u hz hu ha ih =>
    intro hF
    refine ih fun j hj hjz => ?_
    have hu2 : u ∈ ableL s (g.st.getD j []) := by rw [hjz]; exact mem_able.2 ⟨hu, ha⟩
    obtain ⟨k, hk, hk2⟩ := st_idx (hcl _ (hmem j hj) u hu2)
    exact .next (nx_mem hG hj hk hu2 hk2) (hF k hk (by rw [hk2, hjz]))
  refine key y hr fun j hj hjy => .here ?_
  rw [hab j hj, hjy]; exact hw
theorem stuck_spec {s : PSys} {x : PSt} (hc : checkE s = 0) (hV : Valid s x) {r : Gr × List (List Nat) × List (List Nat)} (h : reachG s x = some r) : (stuckX s x).2 = 0 ∧ ∃ p : Nat → Bool, (stuckX s x).1 = (List.range x.length).filter p ∧ ∀ w, p w = true ↔ ¬ ∃ y, Rch s x y ∧ w ∈ ableL s y := by
 obtain ⟨g, ab, nx⟩ := r
 have he : stuckX s x = (stuckL x.length ab, 0) := by
  unfold stuckX
  rw [if_neg (by rw [err_val hc hV]; simp), h]
 rw [he]
 refine ⟨rfl, fun w => !(ab.any fun l => l.contains w), rfl, fun w => ?_⟩
 have h0 : 0 < g.st.length := by obtain ⟨T, hT⟩ := (reach_inv hV h).1.hd; rw [hT]; simp
 have hx0 : g.st.getD 0 [] = x := by obtain ⟨T, hT⟩ := (reach_inv hV h).1.hd; rw [hT]; rfl
 have hf := fre_rch hV h (w := w) h0
 rw [hx0, fre_0 hV h] at hf
 rw [← hf]
 unfold anyW
 simp
theorem filter_head : ∀ {n m : Nat} {p : Nat → Bool}, m < n → p m = true → (∀ w, w < m → p w = false) → ∃ r, (List.range n).filter p = m :: r
 | n, m, p, hm, hp, hl => by
  obtain ⟨k, rfl⟩ : ∃ k, n = m + (k + 1) := ⟨n - m - 1, by omega⟩
  rw [List.range_add, List.filter_append, List.filter_eq_nil_iff.2 fun w hw => by rw [hl w (List.mem_range.1 hw)]; simp, List.nil_append, List.range_succ_eq_map, List.map_cons, List.filter_cons_of_pos (by simpa using hp)]
  exact ⟨_, rfl⟩
theorem best_spec (n : Nat) (B : Nat → Nat → Bool) : ∀ m, (∀ w, w < m → ∀ i : Nat, (i : Int) < (bestF n B m).1 → B w i = true) ∧ ((bestF n B m).1 ≠ n → ∃ j : Nat, (bestF n B m).1 = j ∧ j < n ∧ (bestF n B m).2 < m ∧ B (bestF n B m).2 j = false ∧ ∀ w, w < (bestF n B m).2 → B w j = true)
 | 0 => ⟨fun w h => by omega, fun h => absurd rfl h⟩
 | m + 1 => by
  obtain ⟨h1, h2⟩ := best_spec n B m
  have hle := bestF_le n B m
  unfold bestF
  by_cases hb : 0 ≤ idxG false 0 (rngB n (B m)) ∧ idxG false 0 (rngB n (B m)) < (bestF n B m).1
  ·rw [if_pos hb]
   rcases idxG_spec (rngB n (B m)) 0 with ⟨e1, _⟩ | ⟨j, e1, e2, e3, e4⟩
   ·rw [e1] at hb; omega
   ·rw [rngB_len] at e1
    rw [rngB_at e1] at e3
    rw [Nat.zero_add] at e2
    rw [e2] at hb ⊢
    refine ⟨fun w hw i hi => ?_, fun _ => ⟨j, rfl, e1, Nat.lt_succ_self m, e3, fun w hw => h1 w hw j hb.2⟩⟩
    simp only at hi
    rcases Nat.lt_or_ge w m with h3 | h3
    ·exact h1 w h3 i (by omega)
    ·obtain rfl : w = m := by omega
     have := e4 i (by omega)
     rwa [rngB_at (by omega)] at this
  ·rw [if_neg hb]
   refine ⟨fun w hw i hi => ?_, fun hne => ?_⟩
   ·rcases Nat.lt_or_ge w m with h3 | h3
    ·exact h1 w h3 i hi
    ·obtain rfl : w = m := by omega
     rcases idxG_spec (rngB n (B w)) 0 with ⟨_, e1⟩ | ⟨j, e1, e2, e3, e4⟩
     ·have := e1 i (by rw [rngB_len]; omega)
      rwa [rngB_at (by omega)] at this
     ·rw [rngB_len] at e1
      rw [e2] at hb
      have := e4 i (by omega)
      rwa [rngB_at (by omega)] at this
   ·obtain ⟨j, e1, e2, e3, e4, e5⟩ := h2 hne
    exact ⟨j, e1, e2, by omega, e4, e5⟩
inductive Pth (s : PSys) (g : Gr) : Nat → List Int → Nat → Prop
 | nil {b : Nat} : Pth s g b [] b
 | cons {i k b w : Nat} {r : List Int} : i < k → k < g.st.length → w < (g.st.getD i []).length → ableB s (g.st.getD i []) w = true → g.st.getD k [] = takeX s (g.st.getD i []) w → Pth s g k r b → Pth s g i ((w : Int) :: r) b
theorem pth_snoc {s : PSys} {g : Gr} {i a b w : Nat} {l : List Int} (h : Pth s g i l a) (h1 : a < b) (h2 : b < g.st.length) (h3 : w < (g.st.getD a []).length) (h4 : ableB s (g.st.getD a []) w = true) (h5 : g.st.getD b [] = takeX s (g.st.getD a []) w) : Pth s g i (l ++ [(w : Int)]) b := by
 induction h with
 | nil => exact .cons h1 h2 h3 h4 h5 .nil
 | cons a1 a2 a3 a4 a5 _ ih => exact .cons a1 a2 a3 a4 a5 (ih h1 h3 h4 h5)
theorem chain_pth {s : PSys} {x : PSt} {g : Gr} (hI : GInv s x g) : ∀ f b, b ≤ f → b < g.st.length → Pth s g 0 (chainF g f b).reverse b
 | 0, b, h, _ => by
  obtain rfl : b = 0 := by omega
  exact .nil
 | f + 1, b, h, hb => by
  unfold chainF
  by_cases h0 : b = 0
  ·rw [if_pos h0, h0]; exact .nil
  ·rw [if_neg h0, List.reverse_cons]
   obtain ⟨a, w, e1, e2, e3, e4, e5, e6⟩ := hI.prov b (by omega) hb
   rw [e1, e2]
   exact pth_snoc (chain_pth hI f a (by omega) (by omega)) e3 hb e4 e5 e6
theorem dead_spec {s : PSys} {B : Nat → Nat → Bool} (hB : TabOk s (iniX s) B) : ((deadV s B).2.2 ≠ 0 ∧ (deadV s B).1 = []) ∨ (checkE s = 0 ∧ ∃ (g : Gr) (b u : Nat) (W : List Int) (L : List Nat), deadV s B = (W, (u : Int), 0) ∧ GInv s (iniX s) g ∧ (∀ y ∈ g.st, ∃ r', reachG s y = some r') ∧ b < g.st.length ∧ Pth s g 0 W b ∧ (∀ i, i < b → stuckX s (g.st.getD i []) = ([], 0)) ∧ stuckX s (g.st.getD b []) = (u :: L, 0)) := by
 by_cases hc : checkE s = 0
 case neg =>
  refine .inl ?_
  unfold deadV
  rw [if_pos hc]; exact ⟨hc, rfl⟩
 have hV := iniX_valid hc
 cases hr : reachG s (iniX s) with
 | none =>
  refine .inl ?_
  unfold deadV
  rw [if_neg (by omega), hr]; exact ⟨by simp, rfl⟩
 | some r =>
  obtain ⟨g, ab, nx⟩ := r
  obtain ⟨hI, hcl, hab, hnx⟩ := reach_inv hV hr
  obtain ⟨b1, b2⟩ := best_spec g.st.length B (iniX s).length
  by_cases hb : (bestF g.st.length B (iniX s).length).1 = g.st.length
  ·refine .inl ?_
   unfold deadV
   rw [if_neg (by omega), hr]
   simp only
   rw [if_pos hb]; exact ⟨by decide, rfl⟩
  ·obtain ⟨b, e1, e2, e3, e4, e5⟩ := b2 hb
   have hdv : deadV s B = ((chainF g 5000 b).reverse, ((bestF g.st.length B (iniX s).length).2 : Int), 0) := by
    unfold deadV
    rw [if_neg (by omega), hr]
    simp only
    rw [if_neg hb, e1]
    rfl
   have hle := hI.ok.le
   have hfrom : ∀ y ∈ g.st, ∃ r', reachG s y = some r' := fun y hy => reach_from hV hr (hI.rch y hy)
   have hT := fun w i hi => (hB g ab nx hr w i hi).trans (fre_rch hV hr (w := w) hi)
   have hlen : ∀ i, i < g.st.length → (g.st.getD i []).length = (iniX s).length := fun i hi => (hI.rch _ (getD_memS hi)).len
   refine .inr ⟨hc, g, b, (bestF g.st.length B (iniX s).length).2, (chainF g 5000 b).reverse, ?_⟩
   have hsp : ∀ i, i < g.st.length → (stuckX s (g.st.getD i [])).2 = 0 ∧ ∃ p : Nat → Bool, (stuckX s (g.st.getD i [])).1 = (List.range (iniX s).length).filter p ∧ ∀ w, p w = !B w i := fun i hi => by
    obtain ⟨r', hr'⟩ := hfrom _ (getD_memS hi)
    obtain ⟨q1, p, q2, q3⟩ := stuck_spec hc (hI.ok.val _ (getD_memS hi)) hr'
    refine ⟨q1, p, by rw [q2, hlen i hi], fun w => ?_⟩
    have h1 := q3 w
    rw [← hT w i hi] at h1
    cases hp : p w <;> cases hb : B w i <;> simp_all
   obtain ⟨q1, p, q2, q3⟩ := hsp b e2
   obtain ⟨L, hL⟩ := filter_head (n := (iniX s).length) (m := (bestF g.st.length B (iniX s).length).2) (p := p) e3 (by rw [q3, e4]; rfl) (fun w hw => by rw [q3, e5 w hw]; rfl)
   refine ⟨L, hdv, hI, hfrom, e2, chain_pth hI 5000 b (by omega) e2, fun i hi => ?_, ?_⟩
   ·obtain ⟨q1, p, q2, q3⟩ := hsp i (by omega)
    refine Prod.ext ?_ q1
    rw [q2]
    exact List.filter_eq_nil_iff.2 fun w hw => by
     rw [q3, b1 w (List.mem_range.1 hw) i (by omega)]; simp
   ·exact Prod.ext (by rw [q2, hL]) q1
end Go.AM

set_option maxRecDepth 8000
namespace Go.AM
open Go Go.Proofs

theorem take_len {s : PSys} {x : PSt} {w : Nat} : (takeX s x w).length = x.length := by unfold takeX; rw [List.length_set]
def mvI (d : Bool) (w k : Nat) : Int := if d = true ∧ w < k then w else -1
end Go.AM

set_option maxRecDepth 8000
set_option maxHeartbeats 2000000
namespace Go.AM
open Go Go.Proofs

abbrev tabRI : List (Nat × Contract) := [(51, dataC checkR)]
end Go.AM

set_option maxRecDepth 8000
set_option maxHeartbeats 1000000
namespace Go.AM
open Go Go.Proofs

noncomputable def distT (n : Nat) (l : List PEdge) (to : Nat) : List Int := (List.range n).map fun v => sd (eF l) v to
def srcs (l : List PEdge) (I : List Nat) : List Nat := I.map fun i => (l.getD i default).s
def distR (ds : List D) (v : AV) : Prop := ∃ (n : Nat) (l : List PEdge) (to : Nat), ds = [.int .i64 n, .sl (some 4) (edgesD l), .sl none ((idxL PEdge.t n l).map natsR), .int .i64 to] ∧ GOk n l ∧ to < n ∧ v = .dat (.sl none (intsD (distT n l to)))
end Go.AM

