/- Own work over the model of the kit. -/
import Derived.Test.YtcigeonmhefdhaaGraphC
import Derived.Test.YtcigeonmhefdhaaGraphA
set_option linter.unusedSimpArgs false
set_option linter.unusedVariables false
namespace Go.AM
open Go Go.Proofs

/- ### which node reaches which (plain) -/
/-- A walk of at least one edge, the nodes within it below k. -/
def Via (E : List (Nat × Nat)) : Nat → Nat → Nat → Prop
  | 0, i, j => (i, j) ∈ E
  | k + 1, i, j => Via E k i j ∨ (Via E k i k ∧ Via E k k j)
theorem Via_trans {E : List (Nat × Nat)} : ∀ {k i m j : Nat}, m < k → Via E k i m → Via E k m j → Via E k i j
  | 0, _, _, _, h, _, _ => by omega
  | k + 1, i, m, j, h, h1, h2 => by
    by_cases e : m = k
    · subst e
      have g1 : Via E m i m := by rcases h1 with h1 | ⟨h1, _⟩ <;> exact h1
      have g2 : Via E m m j := by rcases h2 with h2 | ⟨_, h2⟩ <;> exact h2
      exact .inr ⟨g1, g2⟩
    · have hm : m < k := by omega
      rcases h1 with h1 | ⟨h1, h1'⟩ <;> rcases h2 with h2 | ⟨h2, h2'⟩
      · exact .inl (Via_trans hm h1 h2)
      · exact .inr ⟨Via_trans hm h1 h2, h2'⟩
      · exact .inr ⟨h1, Via_trans hm h1' h2⟩
      · exact .inr ⟨h1, h2'⟩
theorem Via_mono {E : List (Nat × Nat)} {i j : Nat} : ∀ {n : Nat}, (i, j) ∈ E → Via E n i j
  | 0, h => h
  | n + 1, h => .inl (Via_mono h)
theorem Via_of {E : List (Nat × Nat)} {n : Nat} (hE : ∀ p ∈ E, p.2 < n) : ∀ {k i j : Nat}, Wk E (k + 1) i j → Via E n i j
  | 0, i, j, ⟨u, hu, hw⟩ => by cases hw; exact Via_mono hu
  | k + 1, i, j, ⟨u, hu, hw⟩ => by
    have hun : u < n := by obtain ⟨x, hx, _⟩ := hw; exact hE _ hx
    exact Via_trans hun (Via_of hE hw) (Via_mono hu)
/-- i reaches j by at least one edge. -/
def Rch (E : List (Nat × Nat)) (i j : Nat) : Prop := ∃ k, Wk E (k + 1) i j
theorem Rch_trans {E : List (Nat × Nat)} {i m j : Nat} (h1 : Rch E i m) (h2 : Rch E m j) : Rch E i j := by
  obtain ⟨a, ha⟩ := h1
  obtain ⟨b, hb⟩ := h2
  exact ⟨a + 1 + b, by have := Wk_app ha hb; rwa [show a + 1 + (b + 1) = a + 1 + b + 1 by omega] at this⟩

/- ### tables of truth values -/
def get2 (B : List (List Bool)) (i j : Nat) : Bool := (B.getD i []).getD j false
def set2 (B : List (List Bool)) (i j : Nat) (v : Bool) : List (List Bool) := B.set i ((B.getD i []).set j v)
structure Sq (n : Nat) (B : List (List Bool)) : Prop where
  len : B.length = n
  row : ∀ i, i < n → (B.getD i []).length = n
theorem get2_set2 {n : Nat} {B : List (List Bool)} (h : Sq n B) {i j a b : Nat} {v : Bool} (hi : i < n) (hj : j < n) : get2 (set2 B i j v) a b = if i = a ∧ j = b then v else get2 B a b := by
  unfold get2 set2
  rw [getD_set']
  by_cases e : i = a
  · subst e
    rw [if_pos ⟨rfl, by rw [h.len]; exact hi⟩, getD_set']
    by_cases e2 : j = b
    · subst e2; rw [if_pos ⟨rfl, by rw [h.row i hi]; exact hj⟩, if_pos ⟨rfl, rfl⟩]
    · rw [if_neg (fun hh => e2 hh.1), if_neg (fun hh => e2 hh.2)]
  · rw [if_neg (fun hh => e hh.1), if_neg (fun hh => e hh.1)]
theorem Sq.set {n : Nat} {B : List (List Bool)} (h : Sq n B) {i j : Nat} {v : Bool} (hi : i < n) : Sq n (set2 B i j v) where
  len := by simp [set2, h.len]
  row a ha := by
    unfold set2
    rw [getD_set']
    split
    · rw [List.length_set]; exact h.row i hi
    · exact h.row a ha
theorem Sq.rep {n : Nat} : Sq n (List.replicate n (List.replicate n false)) where
  len := by simp
  row i hi := by simp [List.getD_eq_getElem?_getD, List.getElem?_replicate, hi]
theorem get2_rep {n i j : Nat} : get2 (List.replicate n (List.replicate n false)) i j = false := by
  unfold get2
  by_cases hi : i < n
  · by_cases hj : j < n <;> simp [List.getD_eq_getElem?_getD, List.getElem?_replicate, hi, hj]
  · simp [List.getD_eq_getElem?_getD, List.getElem?_replicate, hi]
theorem Sq.ext {n : Nat} {B C : List (List Bool)} (hB : Sq n B) (hC : Sq n C) (h : ∀ i j, i < n → j < n → get2 B i j = get2 C i j) : B = C := by
  refine List.ext_getElem (by rw [hB.len, hC.len]) fun i h1 h2 => ?_
  have hi : i < n := by rw [← hB.len]; exact h1
  have e1 : B.getD i [] = B[i] := by simp [List.getD_eq_getElem?_getD, List.getElem?_eq_getElem h1]
  have e2 : C.getD i [] = C[i] := by simp [List.getD_eq_getElem?_getD, List.getElem?_eq_getElem h2]
  have r1 := hB.row i hi
  have r2 := hC.row i hi
  rw [e1] at r1; rw [e2] at r2
  refine List.ext_getElem (by rw [r1, r2]) fun j g1 g2 => ?_
  have := h i j hi (by omega)
  unfold get2 at this
  rw [e1, e2] at this
  simpa [List.getD_eq_getElem?_getD, List.getElem?_eq_getElem g1, List.getElem?_eq_getElem g2] using this
open Classical in
noncomputable def reachB (n : Nat) (l : List PEdge) : List (List Bool) := (List.range n).map fun i => (List.range n).map fun j => decide (Rch (eF l) i j)
theorem reachB_sq {n : Nat} {l : List PEdge} : Sq n (reachB n l) where
  len := by simp [reachB]
  row i hi := by simp [reachB, List.getD_eq_getElem?_getD, hi]
theorem reachB_get {n : Nat} {l : List PEdge} {i j : Nat} (hi : i < n) (hj : j < n) : get2 (reachB n l) i j = true ↔ Rch (eF l) i j := by
  simp [get2, reachB, List.getD_eq_getElem?_getD, hi, hj]

/-- The nodes below k have been tried as stations, and k itself for the pairs ahead of (i, j). -/
structure FW (n : Nat) (l : List PEdge) (B : List (List Bool)) (k i j : Nat) : Prop where
  sq : Sq n B
  sound : ∀ a b, get2 B a b = true → Rch (eF l) a b
  comp : ∀ a b, a < n → b < n → Via (eF l) k a b → get2 B a b = true
  done : ∀ a b, a < n → b < n → (a < i ∨ (a = i ∧ b < j)) → Via (eF l) (k + 1) a b → get2 B a b = true
theorem FW.set {n : Nat} {l : List PEdge} {B : List (List Bool)} {k i j : Nat} (h : FW n l B k i j) (hk : k < n) (hi : i < n) (hj : j < n) :
    FW n l (set2 B i j (get2 B i j || (get2 B i k && get2 B k j))) k i (j + 1) := by
  have up : ∀ a b, get2 B a b = true → get2 (set2 B i j (get2 B i j || (get2 B i k && get2 B k j))) a b = true := fun a b hab => by
    rw [get2_set2 h.sq hi hj]
    split
    · rename_i e; rw [e.1, e.2, hab]; rfl
    · exact hab
  refine ⟨h.sq.set hi, fun a b hab => ?_, fun a b ha hb hv => up a b (h.comp a b ha hb hv), fun a b ha hb ho hv => ?_⟩
  · rw [get2_set2 h.sq hi hj] at hab
    split at hab
    · rename_i e
      rw [← e.1, ← e.2]
      simp only [Bool.or_eq_true, Bool.and_eq_true] at hab
      rcases hab with hab | ⟨h1, h2⟩
      · exact h.sound _ _ hab
      · exact Rch_trans (h.sound _ _ h1) (h.sound _ _ h2)
    · exact h.sound a b hab
  · by_cases e : i = a ∧ j = b
    · rw [get2_set2 h.sq hi hj, if_pos e]
      simp only [Bool.or_eq_true, Bool.and_eq_true]
      rw [e.1, e.2]
      rcases hv with hv | ⟨h1, h2⟩
      · exact .inl (h.comp a b ha hb hv)
      · exact .inr ⟨h.comp a k ha hk h1, h.comp k b hk hb h2⟩
    · exact up a b (h.done a b ha hb (by omega) hv)
theorem FW.row {n : Nat} {l : List PEdge} {B : List (List Bool)} {k i : Nat} (h : FW n l B k i n) : FW n l B k (i + 1) 0 :=
  ⟨h.sq, h.sound, h.comp, fun a b ha hb ho hv => h.done a b ha hb (by omega) hv⟩
theorem FW.phase {n : Nat} {l : List PEdge} {B : List (List Bool)} {k : Nat} (h : FW n l B k n 0) : FW n l B (k + 1) 0 0 :=
  ⟨h.sq, h.sound, fun a b ha hb hv => h.done a b ha hb (by omega) hv, fun a b ha hb ho hv => by omega⟩
theorem FW.all {n : Nat} {l : List PEdge} {B : List (List Bool)} (hg : GOk n l) (h : FW n l B n 0 0) : B = reachB n l := by
  refine h.sq.ext reachB_sq fun i j hi hj => ?_
  rw [Bool.eq_iff_iff, reachB_get hi hj]
  exact ⟨h.sound i j, fun ⟨k, hk⟩ => h.comp i j hi hj (Via_of hg.eFlt hk)⟩
/-- The edges P are in the table. -/
structure FW0 (n : Nat) (l : List PEdge) (P : List PEdge) (B : List (List Bool)) : Prop where
  sq : Sq n B
  sound : ∀ a b, get2 B a b = true → (a, b) ∈ eF l
  comp : ∀ e ∈ P, get2 B e.s e.t = true
theorem FW0.init {n : Nat} {l : List PEdge} : FW0 n l [] (List.replicate n (List.replicate n false)) :=
  ⟨Sq.rep, fun a b h => (by rw [get2_rep] at h; cases h), fun e he => (by cases he)⟩
theorem FW0.step {n : Nat} {l P : List PEdge} {B : List (List Bool)} {e : PEdge} (h : FW0 n l P B) (hg : GOk n l) (he : e ∈ l) : FW0 n l (P ++ [e]) (set2 B e.s e.t true) := by
  have hs := (hg.src e he).2
  have ht := (hg.dst e he).2
  refine ⟨h.sq.set hs, fun a b hab => ?_, fun x hx => ?_⟩
  · rw [get2_set2 h.sq hs ht] at hab
    split at hab
    · rename_i e'; exact List.mem_map.2 ⟨e, he, by rw [e'.1, e'.2]⟩
    · exact h.sound a b hab
  · rw [get2_set2 h.sq hs ht]
    split
    · rfl
    · rcases List.mem_append.1 hx with hx | hx
      · exact h.comp x hx
      · simp at hx; subst hx
        rename_i e'; exact absurd ⟨rfl, rfl⟩ e'
theorem FW0.fw {n : Nat} {l : List PEdge} {B : List (List Bool)} (h : FW0 n l l B) : FW n l B 0 0 0 :=
  ⟨h.sq, fun a b hab => ⟨0, a, h.sound a b hab, rfl⟩, fun a b ha hb hv => by
    obtain ⟨e, he, h2⟩ := List.mem_map.1 (show (a, b) ∈ eF l from hv)
    cases h2
    exact h.comp e he, fun a b ha hb ho hv => by omega⟩
end Go.AM

set_option maxRecDepth 8000
set_option maxHeartbeats 2000000
namespace Go.AM
open Go Go.Proofs

/- ### tables of truth values in memory -/
abbrev rowsB (B : List (List Bool)) : List (List D) := B.map boolsD
abbrev boolR (r : List Bool) : D := .sl none (boolsD r)
theorem rowsB_len {B : List (List Bool)} : (rowsB B).length = B.length := by simp
theorem rowsB_getD {B : List (List Bool)} {i : Nat} : (rowsB B).getD i [] = boolsD (B.getD i []) := by
  simp only [List.getD_eq_getElem?_getD, List.getElem?_map]; cases B[i]? <;> rfl
theorem rowsB_set {B : List (List Bool)} {i : Nat} {r : List Bool} : (rowsB B).set i (boolsD r) = rowsB (B.set i r) := by simp [List.map_set]
theorem rowsB_sl {B : List (List Bool)} : (rowsB B).map (D.sl none) = B.map boolR := by simp [List.map_map, Function.comp_def]
theorem boolsD_len {l : List Bool} : (boolsD l).length = l.length := by simp
theorem boolsD_nth {l : List Bool} {i : Nat} (h : i < l.length) : D.nth (boolsD l) i = .bool (l.getD i false) := by
  rw [D.nth_map h]; simp [List.getD_eq_getElem?_getD, List.getElem?_eq_getElem h]
theorem boolsD_upd {l : List Bool} {m : Nat} {b : Bool} : (boolsD l).set m (.bool b) = boolsD (l.set m b) := by simp [boolsD, List.map_set]
theorem boolsD_rep {n : Nat} : List.replicate n (D.bool false) = boolsD (List.replicate n false) := by simp [boolsD]
/-- Rows that are made one after the other. -/
theorem famR_fill {b : Nat} {R : List D} {i n m : Nat} (hi : i < n) (hm : m = R.length) : (famR b (List.replicate i R) ++ List.replicate (n - i) AV.nils).set i (.sl (i + b) 0 m) = famR b (List.replicate (i + 1) R) ++ List.replicate (n - (i + 1)) AV.nils := by
  rw [List.set_append_right _ _ (by simp [famR_length]), List.replicate_succ', famR_snoc, famR_length]
  simp only [List.length_replicate, Nat.sub_self, List.append_assoc, List.cons_append, List.nil_append]
  congr 1
  obtain ⟨k, hk⟩ : ∃ k, n - i = k + 1 := ⟨n - i - 1, by omega⟩
  rw [hk, List.replicate_succ, List.set_cons_zero, show n - (i + 1) = k by omega, hm, Nat.add_comm]
theorem famO_fill {ag : Option Nat} {R : List D} {i : Nat} : famO ag (List.replicate i R) ++ [.row ag R] = famO ag (List.replicate (i + 1) R) := by rw [← famO_snoc, ← List.replicate_succ']

theorem famR_same : ∀ {b : Nat} {M M' : List (List D)}, M.map List.length = M'.map List.length → famR b M = famR b M'
  | _, [], [], _ => rfl
  | _, [], _ :: _, h => by simp at h
  | _, _ :: _, [], h => by simp at h
  | b, x :: M, y :: M', h => by
    simp only [List.map_cons, List.cons.injEq] at h
    simp only [famR, h.1, famR_same (b := b + 1) h.2]
/-- The references to the rows of a table of n times n. -/
def sqR (b n : Nat) : List AV := famR b (List.replicate n (List.replicate n (D.bool false)))
theorem famR_sq {n b : Nat} {B : List (List Bool)} (h : Sq n B) : famR b (rowsB B) = sqR b n := by
  refine famR_same ?_
  refine List.ext_getElem (by simp [h.len]) fun i h1 h2 => ?_
  have hi : i < n := by simpa using h2
  have := h.row i hi
  rw [List.getD_eq_getElem?_getD, List.getElem?_eq_getElem (by rw [h.len]; exact hi)] at this
  simpa using this
theorem sqR_len {b n : Nat} : (sqR b n).length = n := by simp [sqR, famR_length]
theorem sqR_get {b n i : Nat} (h : i < n) : (sqR b n).getD i .top = .sl (i + b) 0 n := by
  unfold sqR
  rw [famR_at (by simpa using h)]
  congr 1
  simp [List.getD_eq_getElem?_getD, List.getElem?_replicate, h]
theorem famO_sqG {n i : Nat} {B : List (List Bool)} {t : List Obj} (h : Sq n B) (hi : i < n) : (famO none (rowsB B) ++ t).getD i .dead = .row none (boolsD (B.getD i [])) := by
  rw [famO_getP (by rw [rowsB_len, h.len]; exact hi), rowsB_getD]
theorem famO_sqG0 {n i : Nat} {B : List (List Bool)} (h : Sq n B) (hi : i < n) : (famO none (rowsB B)).getD i .dead = .row none (boolsD (B.getD i [])) := by
  rw [famO_get0 (by rw [rowsB_len, h.len]; exact hi), rowsB_getD]
theorem famO_sqS {n i j : Nat} {B : List (List Bool)} {v : Bool} {t : List Obj} (h : Sq n B) (hi : i < n) : (famO none (rowsB B) ++ t).set i (.row none (boolsD ((B.getD i []).set j v))) = famO none (rowsB (set2 B i j v)) ++ t := by
  rw [famO_setP (by rw [rowsB_len, h.len]; exact hi), rowsB_set]; rfl
theorem famO_sqS0 {n i j : Nat} {B : List (List Bool)} {v : Bool} (h : Sq n B) (hi : i < n) : (famO none (rowsB B)).set i (.row none (boolsD ((B.getD i []).set j v))) = famO none (rowsB (set2 B i j v)) := by
  rw [famO_setA (by rw [rowsB_len, h.len]; exact hi), rowsB_set]; rfl
theorem sqR_under {b n m : Nat} (h : b + n ≤ m) : AV.unders m (sqR b n) := famR_under _ _ _ (by simpa using h)

def reachesR (ds : List D) (v : AV) : Prop := ∃ (n : Nat) (l : List PEdge), ds = [.int .i64 n, .sl (some 4) (edgesD l)] ∧ GOk n l ∧ v = .dat (.sl none ((reachB n l).map boolR))
theorem reaches_ok : OkF Try.prog 30 (dataC reachesR) := by
  refine okF_data Try.func30 rfl (by decide) ?_
  rintro ds v ⟨n, l, rfl, hg, rfl⟩
  have hn4 := hg.n4
  have hll := hg.len
  refine sem_of_awp (Γ := tbl []) okG_nil _ _ _ ?_
  simp only [go_sem, Int.reduceEq, Int.reduceLT, Int.reduceLE, eq_self, Int.natCast_nonneg, Int.toNat_natCast, Try.ntmps30, List.length_replicate]
  refine ⟨Int.le_refl _, by omega, ?_⟩
  refine sem_loop (fun i : Nat => ⟨slotsOf 87 [(0, .dat (.int .i64 n)), (1, .dat (.sl (some 4) (edgesD l))), (5, .sl 0 0 n), (14, .sl 0 0 n), (15, .dat (.int .i64 n)), (16, .dat (.int .i64 i))],
      .vec (famR 1 (List.replicate i (List.replicate n (D.bool false))) ++ List.replicate (n - i) AV.nils) :: famO none (List.replicate i (List.replicate n (D.bool false))), 0, []⟩)
    (fun i => i ≤ n) (fun i => n - i) 0 (Nat.zero_le _) ?_ ?_
  · simp only [List.replicate_zero, famR, List.nil_append, Nat.sub_zero, famO, List.map_nil]
    exact le_slots' (by simp only [go_sem, Int.natCast_zero])
  rintro i hi
  refine sem_of_awp (Γ := tbl []) okG_nil _ _ _ ?_
  by_cases hin : i = n
  case neg =>
    have hi2 : (i : Int) < n := by omega
    have hi3 : i < n := by omega
    have hi0 : (0 : Int) ≤ i := Int.natCast_nonneg i
    have hl1 : (famR 1 (List.replicate i (List.replicate n (D.bool false))) ++ List.replicate (n - i) AV.nils).length = n := by simp [famR_length]; omega
    have hl2 : (famO none (List.replicate i (List.replicate n (D.bool false)))).length = i := by simp [famO]
    have hf := famR_fill (b := 1) (R := List.replicate n (D.bool false)) (i := i) (n := n) (m := n) hi3 (by simp)
    simp only [go_sem, Int.reduceEq, Int.reduceLT, Int.reduceLE, eq_self, Int.natCast_nonneg, Int.toNat_natCast, hi2, hi3, hl1, hl2]
    refine ⟨Int.le_refl _, by omega, inR_i64.2 (by omega), i + 1, by omega, by omega, ?_⟩
    rw [hf, famO_fill]
    exact le_slots' (by simp only [go_sem, Int.natCast_add, Int.cast_ofNat_Int])
  subst hin
  have hi2 : ¬ (i : Int) < i := by omega
  have e0 : List.replicate i (List.replicate i (D.bool false)) = rowsB (List.replicate i (List.replicate i false)) := by simp
  rw [e0, Nat.sub_self, List.replicate_zero, List.append_nil, famR_sq Sq.rep]
  simp only [go_sem, Int.reduceEq, Int.reduceLT, Int.reduceLE, eq_self, Int.natCast_nonneg, Int.toNat_natCast, hi2, edges_len]
  refine sem_loop (fun p : Nat × List (List Bool) => ⟨slotsOf 87 [(0, .dat (.int .i64 i)), (5, .sl 0 0 i), (25, .dat (.sl (some 4) (edgesD l))), (26, .dat (.int .i64 l.length)), (27, .dat (.int .i64 p.1))],
      .vec (sqR 1 i) :: famO none (rowsB p.2), 0, []⟩)
    (fun p => p.1 ≤ l.length ∧ FW0 i l (l.take p.1) p.2) (fun p => l.length - p.1) (0, List.replicate i (List.replicate i false)) ⟨Nat.zero_le _, FW0.init⟩ ?_ ?_
  · exact le_slots' (by simp only [go_sem, Int.natCast_zero])
  rintro ⟨k, B⟩ ⟨hk, hF⟩
  simp only at hk hF
  refine sem_of_awp (Γ := tbl []) okG_nil _ _ _ ?_
  cases hd : l.drop k with
  | cons e r =>
    have hlt := lt_of_drop hd
    have hk2 : (k : Int) < l.length := by omega
    have hk0 : (0 : Int) ≤ k := Int.natCast_nonneg k
    have hn := nth_of_drop (f := edgeD) hd
    have hem := mem_of_drop hd
    obtain ⟨hs1, hs2⟩ := hg.src e hem
    obtain ⟨ht1, ht2⟩ := hg.dst e hem
    have hsn : (e.s : Int) < i := by omega
    have htn : (e.t : Int) < i := by omega
    have hB := hF.sq
    have hrow := hB.row e.s hs2
    have hnew := hF.step hg hem
    rw [← take_of_drop hd] at hnew
    have hG := fun t => famO_sqG (t := t) hB hs2
    have hS := fun j v t => famO_sqS (j := j) (v := v) (t := t) hB hs2
    have hA := sqR_get (b := 1) hs2
    simp only [go_sem, Int.reduceEq, Int.reduceLT, Int.reduceLE, eq_self, Int.natCast_nonneg, Int.toNat_natCast, hk2, hk0, hn, hlt, edges_len, edgeD, hs1, ht1, getA0, setA0]
    refine sem_drawM (ob := e.s + 1) (pf := []) (mf := []) (ms := []) mixed okG_nil pureNo noMk [0, 1, 2, 3, 4, 5, 6, 7, 8] (by kernel_rfl) ?_
    simp only [go_sem, Int.reduceEq, Int.reduceLT, Int.reduceLE, eq_self, Int.natCast_nonneg, Int.toNat_natCast, chainM, opm, hsn, hs2, htn, ht2, sqR_len, hA, getA0, hG, boolsD_len, hrow, boolsD_upd, hS]
    refine ⟨inR_i64.2 (by omega), (k + 1, _), ⟨by simp only; omega, hnew⟩, by simp only; omega, ?_⟩
    refine le_endF (pre := [_]) (Nat.zero_le _) ?_ ?_ ?_
    · simp only [go_sem, Int.natCast_add, Int.cast_ofNat_Int]
    · simp only [go_sem]
    · exact ⟨sqR_under (by rw [rowsB_len, (hB.set hs2).len]; exact Nat.le_refl _), trivial⟩
  | nil =>
  have := end_of_drop hd hk
  have hk2 : ¬ (k : Int) < l.length := by omega
  rw [this, List.take_length] at hF
  have hW := hF.fw
  clear hF hd hk this
  simp only [go_sem, Int.reduceEq, Int.reduceLT, Int.reduceLE, eq_self, Int.natCast_nonneg, Int.toNat_natCast, hk2]
  refine sem_loop (fun p : Nat × List (List Bool) => ⟨slotsOf 87 [(0, .dat (.int .i64 i)), (5, .sl 0 0 i), (40, .dat (.int .i64 i)), (41, .dat (.int .i64 p.1))], .vec (sqR 1 i) :: famO none (rowsB p.2), 0, []⟩)
    (fun p => p.1 ≤ i ∧ FW i l p.2 p.1 0 0) (fun p => i - p.1) (0, B) ⟨Nat.zero_le _, hW⟩ ?_ ?_
  · exact le_slots' (by simp only [go_sem, Int.natCast_zero])
  clear hW B
  rintro ⟨k, B⟩ ⟨hk, hW⟩
  simp only at hk hW
  by_cases hke : k = i
  case pos =>
    subst hke
    have hk2 : ¬ (k : Int) < k := by omega
    have hB := hW.sq
    have hall := hW.all hg
    rw [← hall, ← famR_sq hB]
    have hrl : (B.map boolR).length = k := by simp [hB.len]
    have hrt : List.take k (B.map boolR) = B.map boolR := List.take_of_length_le (by rw [hrl]; exact Nat.le_refl _)
    refine sem_le (le_famEnd (pre := [.vec (famR 1 (rowsB B))]) (s' := slotsOf 87 [(5, .dat (.sl none (B.map boolR))), (40, .dat (.int .i64 k)), (41, .dat (.int .i64 k))]) 0 rfl (Nat.zero_le _) rfl ?_ ?_ ?_) ?_
    · rw [rowsB_sl]
      simp only [go_sem, frzFs, frzF_dat, frzF_top, frzF_nils, frzF_sl, AV.frzs, AV.frz, Nat.lt_irrefl, Nat.zero_lt_one, true_or, List.drop_zero, hrl, hrt, Nat.zero_add, Nat.le_refl, if_true]
    · simp only [go_sem]
    · simp only [go_sem, frzFo, frzFs_famR, Obj.frz, Obj.under, List.set_cons_zero]
    refine sem_of_awp (Γ := tbl []) okG_nil _ _ _ ?_
    simp only [go_sem, Int.reduceEq, Int.reduceLT, Int.reduceLE, eq_self, Int.natCast_nonneg, Int.toNat_natCast, hk2]
    exact post_data (.inl rfl) [4] rfl trivial rfl
  have hk2 : (k : Int) < i := by omega
  have hk3 : k < i := by omega
  refine sem_of_awp (Γ := tbl []) okG_nil _ _ _ ?_
  simp only [go_sem, Int.reduceEq, Int.reduceLT, Int.reduceLE, eq_self, Int.natCast_nonneg, Int.toNat_natCast, hk2]
  refine sem_loop (fun p : Nat × List (List Bool) => ⟨slotsOf 87 [(0, .dat (.int .i64 i)), (5, .sl 0 0 i), (40, .dat (.int .i64 i)), (41, .dat (.int .i64 k)), (9, .dat (.int .i64 k)), (44, .dat (.int .i64 i)), (45, .dat (.int .i64 p.1))], .vec (sqR 1 i) :: famO none (rowsB p.2), 0, []⟩)
    (fun p => p.1 ≤ i ∧ FW i l p.2 k p.1 0) (fun p => i - p.1) (0, B) ⟨Nat.zero_le _, hW⟩ ?_ ?_
  · exact le_slots' (by simp only [go_sem, Int.natCast_zero])
  clear hW B
  rintro ⟨a, B⟩ ⟨ha, hW⟩
  simp only at ha hW
  refine sem_of_awp (Γ := tbl []) okG_nil _ _ _ ?_
  by_cases hae : a = i
  case pos =>
    subst hae
    have ha2 : ¬ (a : Int) < a := by omega
    simp only [go_sem, Int.reduceEq, Int.reduceLT, Int.reduceLE, eq_self, Int.natCast_nonneg, Int.toNat_natCast, ha2]
    refine ⟨inR_i64.2 (by omega), (k + 1, B), ⟨by simp only; omega, hW.phase⟩, by simp only; omega, ?_⟩
    exact le_slots' (by simp only [go_sem, Int.natCast_add, Int.cast_ofNat_Int])
  have ha2 : (a : Int) < i := by omega
  have ha3 : a < i := by omega
  simp only [go_sem, Int.reduceEq, Int.reduceLT, Int.reduceLE, eq_self, Int.natCast_nonneg, Int.toNat_natCast, ha2]
  refine sem_loop (fun p : Nat × List (List Bool) => ⟨slotsOf 87 [(0, .dat (.int .i64 i)), (5, .sl 0 0 i), (40, .dat (.int .i64 i)), (41, .dat (.int .i64 k)), (9, .dat (.int .i64 k)), (44, .dat (.int .i64 i)), (45, .dat (.int .i64 a)),
      (10, .dat (.int .i64 a)), (48, .dat (.int .i64 i)), (49, .dat (.int .i64 p.1))], .vec (sqR 1 i) :: famO none (rowsB p.2), 0, []⟩)
    (fun p => p.1 ≤ i ∧ FW i l p.2 k a p.1) (fun p => i - p.1) (0, B) ⟨Nat.zero_le _, hW⟩ ?_ ?_
  · exact le_slots' (by simp only [go_sem, Int.natCast_zero])
  clear hW B
  rintro ⟨b, B⟩ ⟨hb, hW⟩
  simp only at hb hW
  refine sem_of_awp (Γ := tbl []) okG_nil _ _ _ ?_
  by_cases hbe : b = i
  case pos =>
    subst hbe
    have hb2 : ¬ (b : Int) < b := by omega
    simp only [go_sem, Int.reduceEq, Int.reduceLT, Int.reduceLE, eq_self, Int.natCast_nonneg, Int.toNat_natCast, hb2]
    refine ⟨inR_i64.2 (by omega), (a + 1, B), ⟨by simp only; omega, hW.row⟩, by simp only; omega, ?_⟩
    exact le_slots' (by simp only [go_sem, Int.natCast_add, Int.cast_ofNat_Int])
  have hb2 : (b : Int) < i := by omega
  have hb3 : b < i := by omega
  have hB := hW.sq
  have hnew := hW.set hk3 ha3 hb3
  have ra := hB.row a ha3
  have rk := hB.row k hk3
  have hGa := famO_sqG0 hB ha3
  have hGk := famO_sqG0 hB hk3
  have hS := fun v => famO_sqS0 (j := b) (v := v) hB ha3
  have hAa := sqR_get (b := 1) ha3
  have hAk := sqR_get (b := 1) hk3
  have nab : D.nth (boolsD (B.getD a [])) b = .bool (get2 B a b) := boolsD_nth (by rw [ra]; exact hb3)
  have nak : D.nth (boolsD (B.getD a [])) k = .bool (get2 B a k) := boolsD_nth (by rw [ra]; exact hk3)
  have nkb : D.nth (boolsD (B.getD k [])) b = .bool (get2 B k b) := boolsD_nth (by rw [rk]; exact hb3)
  have next : ∀ v, (get2 B a b || (get2 B a k && get2 B k b)) = v → ∃ x : Nat × List (List Bool), (x.1 ≤ i ∧ FW i l x.2 k a x.1) ∧ i - x.1 < i - b ∧ x = (b + 1, set2 B a b v) := fun v hv =>
    ⟨(b + 1, set2 B a b v), ⟨by simp only; omega, by rw [← hv]; exact hnew⟩, by simp only; omega, rfl⟩
  simp only [go_sem, Int.reduceEq, Int.reduceLT, Int.reduceLE, eq_self, Int.natCast_nonneg, Int.toNat_natCast, hb2]
  refine sem_drawM (ob := a + 1) (pf := []) (mf := []) (ms := []) mixed okG_nil pureNo noMk [0, 1, 2, 3, 4, 5, 6, 7, 8, 9, 10, 11, 12, 13, 14, 15, 16, 17, 18, 19, 20, 21, 22, 23, 24, 25, 26, 27, 28, 29, 30, 31] (by kernel_rfl) ?_
  cases h1 : get2 B a b with
  | true =>
    rw [h1] at nab
    obtain ⟨x, n1, n2, rfl⟩ := next true (by rw [h1]; rfl)
    simp only [go_sem, Int.reduceEq, Int.reduceLT, Int.reduceLE, eq_self, Int.natCast_nonneg, Int.toNat_natCast, chainM, opm, ha2, ha3, hb2, hb3, sqR_len, hAa, hGa, ra, boolsD_len, nab, boolsD_upd, hS]
    refine ⟨inR_i64.2 (by omega), _, n1, n2, ?_⟩
    exact le_slots' (by simp only [go_sem, Int.natCast_add, Int.cast_ofNat_Int])
  | false =>
    rw [h1] at nab
    cases h2 : get2 B a k with
    | false =>
      rw [h2] at nak
      obtain ⟨x, n1, n2, rfl⟩ := next false (by rw [h1, h2]; rfl)
      simp only [go_sem, Int.reduceEq, Int.reduceLT, Int.reduceLE, eq_self, Int.natCast_nonneg, Int.toNat_natCast, chainM, opm, ha2, ha3, hb2, hb3, hk2, hk3, sqR_len, hAa, hGa, ra, boolsD_len, nab, nak, boolsD_upd, hS]
      refine ⟨inR_i64.2 (by omega), _, n1, n2, ?_⟩
      exact le_slots' (by simp only [go_sem, Int.natCast_add, Int.cast_ofNat_Int])
    | true =>
      rw [h2] at nak
      obtain ⟨x, n1, n2, rfl⟩ := next (get2 B k b) (by rw [h1, h2]; rfl)
      simp only [go_sem, Int.reduceEq, Int.reduceLT, Int.reduceLE, eq_self, Int.natCast_nonneg, Int.toNat_natCast, chainM, opm, ha2, ha3, hb2, hb3, hk2, hk3, sqR_len, hAa, hAk, hGa, hGk, ra, rk, boolsD_len, nab, nak, nkb, boolsD_upd, hS]
      refine ⟨inR_i64.2 (by omega), _, n1, n2, ?_⟩
      exact le_slots' (by simp only [go_sem, Int.natCast_add, Int.cast_ofNat_Int])
end Go.AM

namespace Go.AM
open Go Go.Proofs

/- ### a chain of edges (plain) -/
def Chain (l : List PEdge) : Nat → Nat → List Nat → Prop
  | v, w, [] => v = w
  | v, w, i :: r => i < l.length ∧ sOf l i = v ∧ Chain l (tOf l i) w r
theorem Chain_path {l : List PEdge} {to : Nat} : ∀ {k v : Nat}, sd (eF l) v to = k → Chain l v to (pathL l to k v)
  | 0, v, h => sd_zero h
  | k + 1, v, h => by
    obtain ⟨i, hi⟩ := nxt_some (l := l) (to := to) (v := v) (by omega)
    obtain ⟨h1, h2, h3⟩ := nxt_is hi
    rw [pathL_cons hi]
    exact ⟨h1, h2, Chain_path (by omega)⟩
theorem Chain_at {l : List PEdge} : ∀ {v w : Nat} {L : List Nat} {j i : Nat}, Chain l v w L → L[j]? = some i → i < l.length ∧ (L.length = j + 1 → tOf l i = w) ∧ (∀ m, L[j + 1]? = some m → tOf l i = sOf l m)
  | v, w, [], j, i, _, h => by simp at h
  | v, w, x :: r, 0, i, ⟨h1, h2, h3⟩, h => by
    simp at h; subst h
    refine ⟨h1, fun hl => ?_, fun m hm => ?_⟩
    · have : r = [] := List.eq_nil_of_length_eq_zero (by simpa using hl)
      subst this; exact h3
    · cases r with
      | nil => simp at hm
      | cons y r => simp at hm; subst hm; exact h3.2.1.symm
  | v, w, x :: r, j + 1, i, ⟨h1, h2, h3⟩, h => by
    obtain ⟨g1, g2, g3⟩ := Chain_at (j := j) h3 (by simpa using h)
    exact ⟨g1, fun hl => g2 (by simpa using hl), fun m hm => g3 m (by simpa using hm)⟩
/-- What is known of the cycle. -/
structure CycOk (l : List PEdge) (c : List Nat) : Prop where
  at_ : ∀ (j i : Nat), c[j]? = some i → i < l.length
  next : ∀ (j i m : Nat), c[j]? = some i → c[(j + 1) % c.length]? = some m → tOf l i = sOf l m
  min : ∀ (r i : Nat), 0 < c.length → r + 1 < c.length → ¬ Wk (eF l) (r + 1) i i
  none : c.length = 0 ↔ acyc (eF l)
theorem cycV_ok (l : List PEdge) : CycOk l (cycV l) := by
  have hc := cycL_is (l := l) l.length
  have hA := acyc_cyc (l := l)
  cases h : cycL l l.length with
  | none =>
    have e : cycV l = [] := by unfold cycV; rw [h]; rfl
    rw [e]
    exact ⟨fun j i hj => by simp at hj, fun j i m hj => by simp at hj, fun r i h0 => by simp at h0, by simp; exact hA.2 h⟩
  | some c =>
    have e : cycV l = c := by unfold cycV; rw [h]; rfl
    rw [h] at hc
    rw [e]
    obtain ⟨i, h1, h2, h3, h4⟩ := hc
    have hlen := cycOf_len h2
    have hch : Chain l (sOf l i) (sOf l i) (cycOf l i) := ⟨h1, rfl, Chain_path (by unfold back at h2 ⊢; omega)⟩
    subst h3
    refine ⟨fun j m hj => (Chain_at hch hj).1, fun j a m hj hm => ?_, fun r v h0 hr hw => ?_, ⟨fun h0 => by omega, fun hac => by rw [hA.1 hac] at h; cases h⟩⟩
    · obtain ⟨_, g2, g3⟩ := Chain_at hch hj
      have hjl := (List.getElem?_eq_some_iff.1 hj).1
      by_cases hlast : j + 1 = (cycOf l i).length
      · rw [hlast, Nat.mod_self] at hm
        rw [g2 hlast.symm]
        have : (cycOf l i)[0]? = some i := rfl
        rw [this] at hm; cases hm; rfl
      · rw [Nat.mod_eq_of_lt (by omega)] at hm
        exact g3 m hm
    · obtain ⟨b, hb, hw⟩ := Wk_first hw
      obtain ⟨m, m1, m2, m3⟩ := eF_ex hb
      have hbk : 0 ≤ back l m ∧ back l m ≤ r := by unfold back; rw [m2, m3]; exact sd_le hw
      rcases h4 m m1 with g | g <;> omega
/-- Is any of the first k nodes on a cycle. -/
noncomputable def diag (n : Nat) (l : List PEdge) (k : Nat) : Bool := (List.range k).any fun i => get2 (reachB n l) i i
theorem diag_succ {n : Nat} {l : List PEdge} {k : Nat} : diag n l (k + 1) = (diag n l k || get2 (reachB n l) k k) := by
  unfold diag; rw [List.range_succ, List.any_append]; simp
theorem diag_all {n : Nat} {l : List PEdge} (hg : GOk n l) : diag n l n = true ↔ ¬ (cycV l).length = 0 := by
  rw [(cycV_ok l).none]
  unfold diag
  rw [List.any_eq_true]
  constructor
  · rintro ⟨i, hi, h⟩ hA
    obtain ⟨k, hk⟩ := (reachB_get (List.mem_range.1 hi) (List.mem_range.1 hi)).1 h
    exact hA k i hk
  · intro hA
    refine Classical.byContradiction fun hn => hA fun k v hw => hn ?_
    have hv : v < n := by obtain ⟨u, hu, _⟩ := hw; exact hg.eFlt _ hu
    exact ⟨v, List.mem_range.2 hv, (reachB_get hv hv).2 ⟨k, hw⟩⟩

/- ### walks of r edges -/
open Classical in
noncomputable def rowW (n : Nat) (l : List PEdge) (r i : Nat) : List Bool := (List.range n).map fun j => decide (Wk (eF l) r i j)
noncomputable def walkB (n : Nat) (l : List PEdge) (r : Nat) : List (List Bool) := (List.range n).map (rowW n l r)
open Classical in
noncomputable def rowP (n : Nat) (l : List PEdge) (r i k : Nat) : List Bool := (List.range n).map fun j => decide (∃ e ∈ l.take k, e.t = j ∧ Wk (eF l) r i e.s)
theorem rowW_len {n : Nat} {l : List PEdge} {r i : Nat} : (rowW n l r i).length = n := by simp [rowW]
theorem rowP_len {n : Nat} {l : List PEdge} {r i k : Nat} : (rowP n l r i k).length = n := by simp [rowP]
theorem walkB_len {n : Nat} {l : List PEdge} {r : Nat} : (walkB n l r).length = n := by simp [walkB]
theorem rowW_get {n : Nat} {l : List PEdge} {r i j : Nat} (hj : j < n) : (rowW n l r i).getD j false = true ↔ Wk (eF l) r i j := by
  simp [rowW, List.getD_eq_getElem?_getD, hj]
theorem rowP_get {n : Nat} {l : List PEdge} {r i k j : Nat} (hj : j < n) : (rowP n l r i k).getD j false = true ↔ ∃ e ∈ l.take k, e.t = j ∧ Wk (eF l) r i e.s := by
  unfold rowP; rw [List.getD_eq_getElem?_getD, List.getElem?_map, List.getElem?_range hj]; simp only [Option.map_some, Option.getD_some, decide_eq_true_eq]
theorem walkB_get {n : Nat} {l : List PEdge} {r i : Nat} (hi : i < n) : (walkB n l r)[i]? = some (rowW n l r i) := by simp [walkB, hi]
theorem walkB_take {n : Nat} {l : List PEdge} {r i : Nat} (hi : i < n) : (walkB n l r).take (i + 1) = (walkB n l r).take i ++ [rowW n l r i] := by
  rw [List.take_add_one, walkB_get hi]; rfl
theorem bools_ext {n : Nat} {x y : List Bool} (hx : x.length = n) (hy : y.length = n) (h : ∀ j, j < n → (x.getD j false = true ↔ y.getD j false = true)) : x = y := by
  refine List.ext_getElem (by rw [hx, hy]) fun j h1 h2 => ?_
  have := h j (by omega)
  rw [List.getD_eq_getElem?_getD, List.getD_eq_getElem?_getD, List.getElem?_eq_getElem h1, List.getElem?_eq_getElem h2] at this
  simp only [Option.getD_some] at this
  exact Bool.eq_iff_iff.2 this
theorem rep_getD {n j : Nat} : (List.replicate n false).getD j false = false := by
  rw [List.getD_eq_getElem?_getD, List.getElem?_replicate]; split <;> rfl
theorem rowP_zero {n : Nat} {l : List PEdge} {r i : Nat} : rowP n l r i 0 = List.replicate n false :=
  bools_ext rowP_len (by simp) fun j hj => by
    rw [rowP_get hj, rep_getD]
    exact ⟨fun ⟨e, he, _⟩ => (by simp at he), fun h => (by cases h)⟩
theorem rowP_succ {n : Nat} {l : List PEdge} {r i k : Nat} {e : PEdge} (hg : GOk n l) (he : l[k]? = some e) :
    rowP n l r i (k + 1) = (rowP n l r i k).set e.t ((rowP n l r i k).getD e.t false || (rowW n l r i).getD e.s false) := by
  have hem := List.mem_of_getElem? he
  have ht := (hg.dst e hem).2
  have hs := (hg.src e hem).2
  refine bools_ext rowP_len (by simp [rowP_len]) fun j hj => ?_
  rw [rowP_get hj, getD_set', List.take_add_one, he]
  simp only [Option.toList_some, List.mem_append, List.mem_singleton]
  split
  · rename_i h
    obtain ⟨rfl, _⟩ := h
    rw [Bool.or_eq_true, rowP_get ht, rowW_get hs]
    constructor
    · rintro ⟨x, hx | rfl, h1, h2⟩
      · exact .inl ⟨x, hx, h1, h2⟩
      · exact .inr h2
    · rintro (⟨x, hx, h1, h2⟩ | h)
      · exact ⟨x, .inl hx, h1, h2⟩
      · exact ⟨e, .inr rfl, rfl, h⟩
  · rename_i h
    rw [rowP_get hj]
    constructor
    · rintro ⟨x, hx | rfl, h1, h2⟩
      · exact ⟨x, hx, h1, h2⟩
      · exact absurd ⟨h1, by rw [rowP_len]; exact ht⟩ h
    · rintro ⟨x, hx, h1, h2⟩
      exact ⟨x, .inl hx, h1, h2⟩
theorem rowP_all {n : Nat} {l : List PEdge} {r i : Nat} : rowP n l r i l.length = rowW n l (r + 1) i :=
  bools_ext rowP_len rowW_len fun j hj => by
    rw [rowP_get hj, rowW_get hj, List.take_length]
    constructor
    · rintro ⟨e, he, rfl, h⟩; exact ⟨e.s, List.mem_map.2 ⟨e, he, rfl⟩, h⟩
    · rintro ⟨u, hu, h⟩
      obtain ⟨e, he, h2⟩ := List.mem_map.1 hu
      cases h2
      exact ⟨e, he, rfl, h⟩
theorem rowW_zero {n : Nat} {l : List PEdge} {i : Nat} (hi : i < n) : (List.replicate n false).set i true = rowW n l 0 i :=
  bools_ext (by simp) rowW_len fun j hj => by
    rw [rowW_get hj, getD_set']
    by_cases e : i = j
    · subst e; simp [hi, Wk]
    · rw [if_neg (fun hh => e hh.1), rep_getD]
      exact ⟨fun h => (by cases h), fun h => absurd h e⟩
end Go.AM

