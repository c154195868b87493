/- Own work over the model of the kit. -/
import Derived.Test.YtcigeonmhefdhaaGraphA
import Derived.Test.YtcigeonmhefdhaaLibD
set_option linter.constructorNameAsVariable false
set_option linter.unusedSimpArgs false
set_option linter.unusedVariables false
set_option maxRecDepth 8000
set_option maxHeartbeats 2000000
namespace Go.AM
open Go Go.Proofs

/- ### small graphs out of numbers -/
abbrev u8D (a : Nat) : D := .int .u8 (a : Int)
def pairD (p : Nat × Nat) : D := .agg [u8D p.1, u8D p.2]
/-- The number of nodes. -/
def nN (a : Nat) : Nat := 1 + a % 12
def edgeN (k : Nat) (p : Nat × Nat) : PEdge := ⟨(p.1 % k : Nat), (p.2 % k : Nat), 0, 0⟩
def edgesN (a : Nat) (L : List (Nat × Nat)) : List PEdge := L.map (edgeN (nN a))
theorem nN_pos {a : Nat} : 0 < nN a := by unfold nN; omega
theorem nN_le {a : Nat} : nN a ≤ 12 := by unfold nN; omega
theorem edgesN_ok {a : Nat} {L : List (Nat × Nat)} (h : L.length ≤ 40) : GOk (nN a) (edgesN a L) where
  n4 := by have := nN_le (a := a); omega
  len := by simp [edgesN]; omega
  src e he := by
    obtain ⟨p, hp, rfl⟩ := List.mem_map.1 he
    have e : PEdge.s (edgeN (nN a) p) = p.1 % nN a := Int.toNat_natCast _
    exact ⟨by rw [e]; rfl, by rw [e]; exact Nat.mod_lt _ nN_pos⟩
  dst e he := by
    obtain ⟨p, hp, rfl⟩ := List.mem_map.1 he
    have e : PEdge.t (edgeN (nN a) p) = p.2 % nN a := Int.toNat_natCast _
    exact ⟨by rw [e]; rfl, by rw [e]; exact Nat.mod_lt _ nN_pos⟩
def nodesR (ds : List D) (v : AV) : Prop := ∃ (a : Nat) (L : List (Nat × Nat)), ds = [u8D a, .sl (some 2) (L.map pairD)] ∧ a < 256 ∧ (∀ p ∈ L, p.1 < 256 ∧ p.2 < 256) ∧ L.length ≤ 40 ∧ v = .tup [.dat (.int .i64 (nN a)), .dat (.sl (some 4) (edgesD (edgesN a L)))]
theorem nodes_ok : OkF Try.prog 29 (dataC nodesR) := by
  refine okF_data Try.func29 rfl (by decide) ?_
  rintro ds v ⟨a, L, rfl, ha, hL, hl, rfl⟩
  refine sem_of_awp (Γ := tbl []) okG_nil _ _ _ ?_
  have m1 : ((a : Int)).tmod 12 = ((a % 12 : Nat) : Int) := by rw [show (12 : Int) = ((12 : Nat) : Int) from rfl, ← Int.ofNat_tmod]
  have m2 : (1 : Int) + ((a % 12 : Nat) : Int) = ((nN a : Nat) : Int) := by unfold nN; omega
  simp only [go_sem, Int.reduceEq, Int.reduceLT, Int.reduceLE, eq_self, Int.natCast_nonneg, Int.toNat_natCast, Try.ntmps29, m1, m2]
  have hk := nN_le (a := a)
  have hk0 := nN_pos (a := a)
  refine ⟨inR_i64.2 (by omega), inR_i64.2 (by omega), inR_i64.2 (by omega), ?_⟩
  refine sem_le (le_addnil 7 (some 4) rfl (Nat.zero_le _)) ?_
  simp only [go_sem, Int.reduceEq, Int.reduceLT, Int.reduceLE, eq_self, Int.natCast_nonneg, Int.toNat_natCast]
  unfold edgesN
  generalize nN a = k at *
  refine sem_loop (fun j : Nat => ⟨slotsOf 37 [(6, .dat (.int .i64 k)), (7, .sl 0 0 j), (14, .dat (.sl (some 2) (L.map pairD))), (15, .dat (.int .i64 L.length)), (16, .dat (.int .i64 j))], [.row (some 4) (edgesD ((L.take j).map (edgeN k)))], 0, []⟩)
    (fun j => j ≤ L.length) (fun j => L.length - j) 0 (Nat.zero_le _) ?_ ?_
  · exact le_slots' (by simp only [go_sem, Int.natCast_zero])
  rintro j hj
  refine sem_of_awp (Γ := tbl []) okG_nil _ _ _ ?_
  cases hd : L.drop j with
  | nil =>
    have := end_of_drop hd hj
    have hj2 : ¬ (j : Int) < L.length := by omega
    subst this
    rw [List.take_length]
    have e1 : ((L.map (edgeN k)).map edgeD).length = L.length := by simp
    have e2 : List.take L.length ((L.map (edgeN k)).map edgeD) = (L.map (edgeN k)).map edgeD := List.take_of_length_le (by rw [e1]; exact Nat.le_refl _)
    simp only [go_sem, Int.reduceEq, Int.reduceLT, Int.reduceLE, eq_self, Int.natCast_nonneg, Int.toNat_natCast, hj2]
    refine post_res (.inl rfl) [.tmp 4, .tmp 5] rfl ?_
    simp only [go_sem]
    refine Le.trans (le_freeze 0 (ag := some 4) rfl (Nat.zero_le _)) ?_
    simp only [go_sem, e1, e2, Nat.le_refl]
    exact le_fin (by simp only [go_sem]) (by simp only [go_sem])
  | cons p r =>
    have hlt := lt_of_drop hd
    have hj2 : (j : Int) < L.length := by omega
    have hj0 : (0 : Int) ≤ j := Int.natCast_nonneg j
    have hn := nth_of_drop (f := pairD) hd
    obtain ⟨p1, p2⟩ := hL p (mem_of_drop hd)
    have r1 : ((p.1 : Int)).tmod k = ((p.1 % k : Nat) : Int) := (Int.ofNat_tmod _ _).symm
    have r2 : ((p.2 : Int)).tmod k = ((p.2 % k : Nat) : Int) := (Int.ofNat_tmod _ _).symm
    have l1 : ((L.take j).map (edgeN k)).length = j := by rw [List.length_map, List.length_take]; omega
    have l2 : (edgesD ((L.take j).map (edgeN k))).length = j := by rw [edges_len, l1]
    have l3 : List.take j (edgesD ((L.take j).map (edgeN k))) = edgesD ((L.take j).map (edgeN k)) := List.take_of_length_le (by rw [l2]; exact Nat.le_refl _)
    simp only [go_sem, Int.reduceEq, Int.reduceLT, Int.reduceLE, eq_self, Int.natCast_nonneg, Int.toNat_natCast, hj2, hj0, hn, hlt, List.length_map, pairD]
    refine ⟨rfl, ?_⟩
    refine sem_drawK (ko := 0) (pf := []) (mf := []) (ms := []) mixed okG_nil pureNo noMk [0, 1, 2, 3, 4, 5, 6, 7, 8, 9, 10, 11, 12, 13, 14] (by kernel_rfl) ?_
    have d0 : D.nth [u8D p.1, u8D p.2] 0 = u8D p.1 := rfl
    have d1 : D.nth [u8D p.1, u8D p.2] 1 = u8D p.2 := rfl
    simp only [go_sem, Int.reduceEq, Int.reduceLT, Int.reduceLE, eq_self, Int.natCast_nonneg, Int.toNat_natCast, r1, r2, l2, l3, d0, d1]
    have q1 : p.1 % k < k := Nat.mod_lt _ hk0
    have q2 : p.2 % k < k := Nat.mod_lt _ hk0
    have e : edgesD ((L.take j).map (edgeN k)) ++ [D.agg [.int .i64 ((p.1 % k : Nat) : Int), .int .i64 ((p.2 % k : Nat) : Int), .int .i64 0, .int .i64 0]] = edgesD ((L.take (j + 1)).map (edgeN k)) := by
      rw [take_of_drop hd, List.map_append]; simp [edgeN, edgeD]
    rw [e]
    refine ⟨inR_i64.2 (by omega), by omega, inR_i64.2 (by omega), inR_i64.2 (by omega), by omega, inR_i64.2 (by omega), by omega, by omega, inR_i64.2 (by omega), j + 1, by omega, by omega, ?_⟩
    refine le_end (own := [_]) (ex := [_, _]) (Nat.zero_le _) ?_ ?_ ?_
    · simp only [go_sem, Int.natCast_add, Int.cast_ofNat_Int]
    · simp only [go_sem]
    · simp only [go_sem, Obj.under, AV.unders, AV.under]
end Go.AM

set_option maxRecDepth 100000
namespace Go.AM
open Go Go.Proofs

/- ### arguments: a small number, a list of pairs -/
theorem inR_u8' {n : Int} (h : inR .u8 n) : 0 ≤ n ∧ n ≤ 255 := inR_u8.1 h
theorem u8_arg {m : Nat} {d : D} (h : argT Try.prog (m + 1) 5 d) : ∃ a : Nat, d = u8D a ∧ a < 256 := by
  obtain ⟨n, rfl, hn⟩ := arg_int (k := .u8) (by kernel_rfl) h
  have := inR_u8' hn
  refine ⟨n.toNat, ?_, by omega⟩
  show D.int .u8 n = D.int .u8 (n.toNat : Int)
  rw [Int.toNat_of_nonneg this.1]
theorem want82 : wantT Try.prog 82 = some 2 := by kernel_rfl
theorem pair_arg {m : Nat} {d : D} (h : argT Try.prog (m + 2) 82 d) : ∃ p : Nat × Nat, d = pairD p ∧ p.1 < 256 ∧ p.2 < 256 := by
  obtain ⟨ds, h1, rfl⟩ := h
  rw [dataT_array (k := 2) (e := 5) (by kernel_rfl)] at h1
  obtain ⟨a, r, rfl, ha, h1⟩ := h1
  obtain ⟨b, r, rfl, hb, rfl⟩ := h1
  rw [dataT_int (k := .u8) (by kernel_rfl)] at ha hb
  obtain ⟨a, rfl, ha⟩ := ha
  obtain ⟨b, rfl, hb⟩ := hb
  have ha := inR_u8' ha
  have hb := inR_u8' hb
  have hag : aggT Try.prog 82 = true := by kernel_rfl
  refine ⟨(a.toNat, b.toNat), ?_, by simp only; omega, by simp only; omega⟩
  simp only [packD, hag, if_true, pairD, u8D]
  rw [Int.toNat_of_nonneg ha.1, Int.toNat_of_nonneg hb.1]
  rfl
theorem pairs_arg {m : Nat} {d : D} (h : argT Try.prog (m + 3) 43 d) : ∃ L : List (Nat × Nat), d = .sl (some 2) (L.map pairD) ∧ ∀ p ∈ L, p.1 < 256 ∧ p.2 < 256 := by
  obtain ⟨xs, rfl, _, hx⟩ := arg_slice (e := 82) (by kernel_rfl) h
  rw [want82]
  obtain ⟨L, rfl, hL⟩ := list_of pairD (Q := fun p => p.1 < 256 ∧ p.2 < 256) (fun x hx' => pair_arg (hx x hx'))
  exact ⟨L, rfl, hL⟩
end Go.AM

