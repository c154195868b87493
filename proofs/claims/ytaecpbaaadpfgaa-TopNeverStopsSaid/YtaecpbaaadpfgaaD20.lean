/- Own work over the model of the kit. -/
import Derived.Test.YtaecpbaaadpfgaaD14
import Derived.Test.YtaecpbaaadpfgaaD19
import Derived.Test.YtaecpbaaadpfgaaD10
import Derived.Test.YtaecpbaaadpfgaaD17
import Derived.Test.YtaecpbaaadpfgaaD16
set_option linter.unusedSimpArgs false
set_option linter.unusedVariables false
set_option maxHeartbeats 4000000
set_option maxRecDepth 8000
namespace Go.AM
open Go Go.Proofs
def badE (n : Int) (e : PEdge) : Bool := decide (e.src < 0) || decide (n <= e.src) || decide (e.dst < 0) || decide (n <= e.dst)
theorem gE_any {n : Int} {l : List PEdge} (h : ¬ (n < 0 ∨ 4096 < n)) : gE n l = if l.any (badE n) = true then 1 else 0 := by
 unfold gE; rw [if_neg h]; rfl
def gchkR (ds : List D) (v : AV) : Prop := ∃ (n : Int) (l : List PEdge), ds = [.int .i64 n, .sl (some 4) (edgesD l)] /\ l.length <= 10000 /\ v = .dat (.int .i64 (gE n l))
theorem gcheck_ok : OkF Try.prog 47 (dataC gchkR) := by
 refine okF_data Try.func47 rfl (by decide) ?_
 rintro ds v ⟨n, l, rfl, hl, rfl⟩
 generalize hv : gE n l = V
 refine sem_of_awp (Γ := tbl []) okG_nil _ _ _ ?_
 have fin : ∀ s own (b c : Int), b = c -> s.getD 4 .top = .dat (.int .i64 b) -> post Try.prog Try.f47 (.dat (.int .i64 c)) [] [] .ret ⟨s, own, 0, []⟩ := fun s own b c e h => by
  subst e
  exact post_data (.inl rfl) [4] rfl trivial (by simp only [tmpsOf, h]; rfl)
 by_cases h1 : n < 0
 ·simp only [go_sem, Try.ntmps47, h1]
  refine fin _ _ _ _ ?_ rfl
  rw [← hv]; unfold gE; rw [if_pos (.inl h1)]
 by_cases h2 : 4096 < n
 ·simp only [go_sem, Try.ntmps47, h1, h2]
  refine fin _ _ _ _ ?_ rfl
  rw [← hv]; unfold gE; rw [if_pos (.inr h2)]
 rw [gE_any (by omega)] at hv
 simp only [go_sem, Try.ntmps47, h1, h2, edges_len]
 refine sem_loop (fun k : Nat => ⟨slotsOf 40 [(0, .dat (.int .i64 n)), (13, .dat (.sl (some 4) (edgesD l))), (14, .dat (.int .i64 l.length)), (15, .dat (.int .i64 k))], [], 0, []⟩)
  (fun k => k <= l.length /\ (if (l.drop k).any (badE n) = true then 1 else 0) = V) (fun k => l.length - k) 0 ⟨Nat.zero_le _, hv⟩ ?_ ?_
 ·exact le_slots' (by simp only [go_sem, Int.natCast_zero])
 rintro k ⟨hk, hI⟩
 refine sem_of_awp (Γ := tbl []) okG_nil _ _ _ ?_
 cases hd : l.drop k with
 | nil =>
  have := end_of_drop hd hk
  have hk2 : ¬ (k : Int) < l.length := by omega
  simp only [go_sem, hk2]
  refine fin _ _ _ _ ?_ rfl
  rw [← hI, hd]; simp
 | cons e q =>
  have hlt := lt_of_drop hd
  have hk2 : (k : Int) < l.length := by omega
  have hk0 : (0 : Int) <= k := Int.natCast_nonneg k
  have hn := nth_of_drop (f := edgeD) hd
  rw [hd, List.any_cons] at hI
  obtain ⟨src, dst, cls, stp⟩ := e
  by_cases g1 : src < 0
  ·simp only [go_sem, hk2, hk0, hn, hlt, edges_len, edgeD, g1]
   refine fin _ _ _ _ ?_ rfl
   rw [← hI]; simp [badE, g1]
  by_cases g2 : n <= src
  ·simp only [go_sem, hk2, hk0, hn, hlt, edges_len, edgeD, g1, g2]
   refine fin _ _ _ _ ?_ rfl
   rw [← hI]; simp [badE, g2]
  by_cases g3 : dst < 0
  ·simp only [go_sem, hk2, hk0, hn, hlt, edges_len, edgeD, g1, g2, g3]
   refine fin _ _ _ _ ?_ rfl
   rw [← hI]; simp [badE, g3]
  by_cases g4 : n <= dst
  ·simp only [go_sem, hk2, hk0, hn, hlt, edges_len, edgeD, g1, g2, g3, g4]
   refine fin _ _ _ _ ?_ rfl
   rw [← hI]; simp [badE, g4]
  have hb : badE n ⟨src, dst, cls, stp⟩ = false := by simp [badE]; omega
  rw [hb, Bool.false_or] at hI
  simp only [go_sem, hk2, hk0, hn, hlt, edges_len, edgeD, g1, g2, g3, g4]
  refine ⟨inR_i64.2 (by omega), k + 1, ⟨by omega, by rw [drop_cons hd]; exact hI⟩, by omega, ?_⟩
  refine le_end (own := []) (ex := [_]) (Nat.zero_le _) ?_ ?_ ?_
  ·simp only [go_sem, Int.natCast_add, Int.cast_ofNat_Int]
  ·simp only [go_sem]
  ·simp only [go_sem, Obj.under, AV.unders, AV.under, Obj.allUnder]
end Go.AM
namespace Go.AM
open Go Go.Proofs
theorem nats_nth {l : List Nat} {i x : Nat} (h : l[i]? = some x) : D.nth (natsD l) i = .int .i64 (x : Int) := by
 simp [D.nth, h]
def outs (l : List PEdge) (x : Nat) : List Nat := l.filterMap fun e => if e.s = x then some e.t else none
theorem GOk.eFlt {n : Nat} {l : List PEdge} (h : GOk n l) : ∀ p ∈ eF l, p.2 < n := by
 intro p hp
 obtain ⟨e, he, rfl⟩ := List.mem_map.1 hp
 exact (h.dst e he).2
noncomputable def distL (n : Nat) (l : List PEdge) (a : Nat) : List Int := (List.range n).map (sd (eF l) a)
def greachR (ds : List D) (v : AV) : Prop := ∃ (n : Nat) (l : List PEdge) (a : Nat), ds = [.int .i64 n, .sl (some 4) (edgesD l), .int .i64 a] /\ GOk n l /\ a < n /\ v = .dat (.sl none (intsD (distL n l a)))
end Go.AM
namespace Go.AM
open Go Go.Proofs
def mulR (ds : List D) (v : AV) : Prop := ∃ n : Nat, ds = [.int .u64 1, .int .u64 n] /\ n < 65536 /\ v = .tup [.dat (.int .u64 0), .dat (.int .u64 n)]
def repR (ds : List D) (v : AV) (ob : List Obj) : Prop := ∃ (z : Int) (n : Nat), ds = [.sl none [.int .i64 z], .int .i64 n] /\ 0 < n /\ n <= 4096 /\ v = .sl 0 0 n /\ ob = [.row none (intsD (List.replicate n z))]
end Go.AM
namespace Go.AM
open Go Go.Proofs
def idxs (f : PEdge -> Nat) : Nat -> List PEdge -> Nat -> List Nat
 | _, [], _ => []
 | k, e :: r, v => if f e = v then k :: idxs f (k + 1) r v else idxs f (k + 1) r v
theorem mem_idxs {f : PEdge -> Nat} {v i : Nat} : ∀ {k : Nat} {l : List PEdge}, i ∈ idxs f k l v ↔ ∃ j e, l[j]? = some e /\ f e = v /\ i = k + j
 | k, [] => by simp [idxs]
 | k, y :: r => by
  have ih := mem_idxs (f := f) (v := v) (i := i) (k := k + 1) (l := r)
  have hs : (∃ j e, (y :: r)[j]? = some e /\ f e = v /\ i = k + j) ↔ (f y = v /\ i = k) ∨ ∃ j e, r[j]? = some e /\ f e = v /\ i = k + 1 + j := by
   constructor
   ·rintro ⟨j, e, h1, h2, h3⟩
    cases j with
    | zero => simp at h1; subst h1; exact .inl ⟨h2, h3⟩
    | succ j => exact .inr ⟨j, e, by simpa using h1, h2, by omega⟩
   ·rintro (⟨h1, h2⟩ | ⟨j, e, h1, h2, h3⟩)
    ·exact ⟨0, y, rfl, h1, h2⟩
    ·exact ⟨j + 1, e, by simpa using h1, h2, by omega⟩
  rw [hs, ← ih, idxs]
  split
  ·rename_i h; simp [h]
  ·rename_i h; simp [h]
def idxL (f : PEdge -> Nat) (n : Nat) (l : List PEdge) : List (List Nat) := (List.range n).map fun v => idxs f 0 l v
abbrev natsR (r : List Nat) : D := .sl none (natsD r)
abbrev rowsN (M : List (List Nat)) : List (List D) := M.map natsD
theorem rowsN_sl {M : List (List Nat)} : (rowsN M).map (D.sl none) = M.map natsR := by simp [List.map_map, Function.comp_def]
theorem rowsN_len {M : List (List Nat)} : (rowsN M).length = M.length := by simp
theorem rowsN_getD {M : List (List Nat)} {i : Nat} : (rowsN M).getD i [] = natsD (M.getD i []) := by
 simp only [List.getD_eq_getElem?_getD, List.getElem?_map]; cases M[i]? <;> rfl
theorem rowsN_set {M : List (List Nat)} {i : Nat} {r : List Nat} : (rowsN M).set i (natsD r) = rowsN (M.set i r) := by simp [List.map_set]
theorem rows_nth {M : List (List Nat)} {v : Nat} {r : List Nat} (h : M[v]? = some r) : D.nth (M.map natsR) v = .sl none (natsD r) := by
 simp [D.nth, h]
def leavR (ds : List D) (v : AV) : Prop := ∃ (n : Nat) (l : List PEdge), ds = [.int .i64 n, .sl (some 4) (edgesD l)] /\ GOk n l /\ v = .dat (.sl none ((idxL PEdge.s n l).map natsR))
end Go.AM
namespace Go.AM
open Go Go.Proofs
def sameR (ds : List D) (v : AV) : Prop := ∃ (L : List Nat), ds = [.sl none (natsD L), .sl none (natsD L)] /\ L.length <= 10000 /\ v = .dat (.bool true)
end Go.AM
namespace Go.AM
open Go Go.Proofs
abbrev awakeXR : List D -> AV -> Prop := fun ds v => ds = [] /\ v = .dat (.bool true)
def phiS2 : PSt := [[⟨0, 1⟩], [⟨1, 1⟩]]
end Go.AM
namespace Go.AM
open Go Go.Proofs
def lawChR (ds : List D) (v : AV) : Prop := ∃ (s : PSys) (x : PSt) (w : Int), ds = [sysD s, stD x, .int .i64 w] /\ v = .dat (.bool true)
def lawStR (ds : List D) (v : AV) : Prop := ∃ (s : PSys) (ws : List Int) (p : Int), ds = [sysD s, .sl none (intsD ws), .int .i64 p] /\ v = .dat (.bool true)
end Go.AM
namespace Go.AM
open Go Go.Proofs
def lawRhR (ds : List D) (v : AV) : Prop := ∃ (s : PSys) (ws : List Int), ds = [sysD s, .sl none (intsD ws)] /\ v = .dat (.bool true)
end Go.AM
namespace Go.AM
open Go Go.Proofs
theorem err_val {s : PSys} {x : PSt} (hc : checkE s = 0) (hV : Valid s x) : stErr s x = 0 := by
 unfold stErr
 rw [if_neg (by omega), if_neg (by rw [hV.len]; simp), if_neg (by rw [hV.fmd]; simp), if_neg (by rw [hV.nover]; simp)]
theorem step_able {s : PSys} {x : PSt} {w : Nat} (hc : checkE s = 0) (hV : Valid s x) (hw : w < x.length) (ha : ableB s x w = true) : stepX s x w = (takeX s x w, 0) := by
 unfold stepX
 rw [if_neg (by rw [err_val hc hV]; simp), if_neg (by omega), if_neg (by simp [ha])]
 simp
theorem nx_mem {s : PSys} {x : PSt} {g : Gr} (hI : GInv s x g) {i j u : Nat} (hi : i < g.st.length) (hj : j < g.st.length) (hu : u ∈ ableL s (g.st.getD i [])) (h : g.st.getD j [] = takeX s (g.st.getD i []) u) : j ∈ (g.st.map (nxRow s g.st)).getD i [] := by
 rw [show (g.st.map (nxRow s g.st)).getD i [] = nxRow s g.st (g.st.getD i []) from map_getD (e := []) hi]
 unfold nxRow
 refine List.mem_map.2 ⟨u, hu, ?_⟩
 rw [idxS_nd hI.nd hj h]; rfl
theorem st_idx {S : List PSt} {y : PSt} (h : y ∈ S) : ∃ j, j < S.length /\ S.getD j [] = y := by
 obtain ⟨j, hj, rfl⟩ := List.getElem_of_mem h
 exact ⟨j, hj, by simp [List.getD_eq_getElem?_getD, hj]⟩
theorem fre_rch {s : PSys} {x : PSt} (hV : Valid s x) {g : Gr} {ab nx : List (List Nat)} (h : reachG s x = some (g, ab, nx)) {w i : Nat} (hi : i < g.st.length) : Fre ab nx w i ↔ ∃ y, Rch s (g.st.getD i []) y /\ w ∈ ableL s y := by
 obtain ⟨hG, hcl, rfl, rfl⟩ := reach_inv hV h
 have hab : ∀ i, i < g.st.length -> (g.st.map (ableL s)).getD i [] = ableL s (g.st.getD i []) := fun i hi => map_getD hi
 have hmem : ∀ i, i < g.st.length -> g.st.getD i [] ∈ g.st := fun i hi => getD_memS hi
 constructor
 ·intro hf
  induction hf with
  | @here i hw => exact ⟨_, .refl, by rw [← hab i hi]; exact hw⟩
  | @next i j hj _ ih =>
   rw [show (g.st.map (nxRow s g.st)).getD i [] = nxRow s g.st (g.st.getD i []) from map_getD (e := []) hi] at hj
   unfold nxRow at hj
   obtain ⟨u, hu, hj⟩ := List.mem_map.1 hj
   obtain ⟨k, hk, hk2⟩ := st_idx (hcl _ (hmem i hi) u hu)
   rw [idxS_nd hG.nd hk hk2] at hj
   have hkj : k = j := hj
   subst hkj
   obtain ⟨y, h1, h2⟩ := ih hk
   obtain ⟨hu1, hu2⟩ := mem_able.1 hu
   refine ⟨y, Rch.trans (.step .refl hu1 hu2) ?_, h2⟩
   rw [← hk2]; exact h1
 ·rintro ⟨y, hr, hw⟩
  have key : ∀ z, Rch s (g.st.getD i []) z -> (∀ j, j < g.st.length -> g.st.getD j [] = z -> Fre (g.st.map (ableL s)) (g.st.map (nxRow s g.st)) w j) -> Fre (g.st.map (ableL s)) (g.st.map (nxRow s g.st)) w i := by
   intro z hz
   induction hz with
   | refl => intro hF; exact hF i hi rfl
   | @step z u hz hu ha ih =>
    intro hF
    refine ih fun j hj hjz => ?_
    have hu2 : u ∈ ableL s (g.st.getD j []) := by rw [hjz]; exact mem_able.2 ⟨hu, ha⟩
    obtain ⟨k, hk, hk2⟩ := st_idx (hcl _ (hmem j hj) u hu2)
    exact .next (nx_mem hG hj hk hu2 hk2) (hF k hk (by rw [hk2, hjz]))
  refine key y hr fun j hj hjy => .here ?_
  rw [hab j hj, hjy]; exact hw
theorem stuck_spec {s : PSys} {x : PSt} (hc : checkE s = 0) (hV : Valid s x) {r : Gr × List (List Nat) × List (List Nat)} (h : reachG s x = some r) : (stuckX s x).2 = 0 /\ ∃ p : Nat -> Bool, (stuckX s x).1 = (List.range x.length).filter p /\ ∀ w, p w = true ↔ ¬ ∃ y, Rch s x y /\ w ∈ ableL s y := by
 obtain ⟨g, ab, nx⟩ := r
 have he : stuckX s x = (stuckL x.length ab, 0) := by
  unfold stuckX
  rw [if_neg (by rw [err_val hc hV]; simp), h]
 rw [he]
 refine ⟨rfl, fun w => !(ab.any fun l => l.contains w), rfl, fun w => ?_⟩
 have h0 : 0 < g.st.length := by obtain ⟨T, hT⟩ := (reach_inv hV h).1.hd; rw [hT]; simp
 have hx0 : g.st.getD 0 [] = x := by obtain ⟨T, hT⟩ := (reach_inv hV h).1.hd; rw [hT]; rfl
 have hf := fre_rch hV h (w := w) h0
 rw [hx0, fre_0 hV h] at hf
 rw [← hf]
 unfold anyW
 simp
theorem filter_head : ∀ {n m : Nat} {p : Nat -> Bool}, m < n -> p m = true -> (∀ w, w < m -> p w = false) -> ∃ r, (List.range n).filter p = m :: r
 | n, m, p, hm, hp, hl => by
  obtain ⟨k, rfl⟩ : ∃ k, n = m + (k + 1) := ⟨n - m - 1, by omega⟩
  rw [List.range_add, List.filter_append, List.filter_eq_nil_iff.2 fun w hw => by rw [hl w (List.mem_range.1 hw)]; simp, List.nil_append, List.range_succ_eq_map, List.map_cons, List.filter_cons_of_pos (by simpa using hp)]
  exact ⟨_, rfl⟩
theorem best_spec (n : Nat) (B : Nat -> Nat -> Bool) : ∀ m, (∀ w, w < m -> ∀ i : Nat, (i : Int) < (bestF n B m).1 -> B w i = true) /\ ((bestF n B m).1 ≠ n -> ∃ j : Nat, (bestF n B m).1 = j /\ j < n /\ (bestF n B m).2 < m /\ B (bestF n B m).2 j = false /\ ∀ w, w < (bestF n B m).2 -> B w j = true)
 | 0 => ⟨fun w h => by omega, fun h => absurd rfl h⟩
 | m + 1 => by
  obtain ⟨h1, h2⟩ := best_spec n B m
  have hle := bestF_le n B m
  unfold bestF
  by_cases hb : 0 <= idxG false 0 (rngB n (B m)) /\ idxG false 0 (rngB n (B m)) < (bestF n B m).1
  ·rw [if_pos hb]
   rcases idxG_spec (rngB n (B m)) 0 with ⟨e1, _⟩ | ⟨j, e1, e2, e3, e4⟩
   ·rw [e1] at hb; omega
   ·rw [rngB_len] at e1
    rw [rngB_at e1] at e3
    rw [Nat.zero_add] at e2
    rw [e2] at hb ⊢
    refine ⟨fun w hw i hi => ?_, fun _ => ⟨j, rfl, e1, Nat.lt_succ_self m, e3, fun w hw => h1 w hw j hb.2⟩⟩
    simp only at hi
    rcases Nat.lt_or_ge w m with h3 | h3
    ·exact h1 w h3 i (by omega)
    ·obtain rfl : w = m := by omega
     have := e4 i (by omega)
     rwa [rngB_at (by omega)] at this
  ·rw [if_neg hb]
   refine ⟨fun w hw i hi => ?_, fun hne => ?_⟩
   ·rcases Nat.lt_or_ge w m with h3 | h3
    ·exact h1 w h3 i hi
    ·obtain rfl : w = m := by omega
     rcases idxG_spec (rngB n (B w)) 0 with ⟨_, e1⟩ | ⟨j, e1, e2, e3, e4⟩
     ·have := e1 i (by rw [rngB_len]; omega)
      rwa [rngB_at (by omega)] at this
     ·rw [rngB_len] at e1
      rw [e2] at hb
      have := e4 i (by omega)
      rwa [rngB_at (by omega)] at this
   ·obtain ⟨j, e1, e2, e3, e4, e5⟩ := h2 hne
    exact ⟨j, e1, e2, by omega, e4, e5⟩
inductive Pth (s : PSys) (g : Gr) : Nat -> List Int -> Nat -> Prop
 | nil {b : Nat} : Pth s g b [] b
 | cons {i k b w : Nat} {r : List Int} : i < k -> k < g.st.length -> w < (g.st.getD i []).length -> ableB s (g.st.getD i []) w = true -> g.st.getD k [] = takeX s (g.st.getD i []) w -> Pth s g k r b -> Pth s g i ((w : Int) :: r) b
theorem pth_snoc {s : PSys} {g : Gr} {i a b w : Nat} {l : List Int} (h : Pth s g i l a) (h1 : a < b) (h2 : b < g.st.length) (h3 : w < (g.st.getD a []).length) (h4 : ableB s (g.st.getD a []) w = true) (h5 : g.st.getD b [] = takeX s (g.st.getD a []) w) : Pth s g i (l ++ [(w : Int)]) b := by
 induction h with
 | nil => exact .cons h1 h2 h3 h4 h5 .nil
 | cons a1 a2 a3 a4 a5 _ ih => exact .cons a1 a2 a3 a4 a5 (ih h1 h3 h4 h5)
theorem chain_pth {s : PSys} {x : PSt} {g : Gr} (hI : GInv s x g) : ∀ f b, b <= f -> b < g.st.length -> Pth s g 0 (chainF g f b).reverse b
 | 0, b, h, _ => by
  obtain rfl : b = 0 := by omega
  exact .nil
 | f + 1, b, h, hb => by
  unfold chainF
  by_cases h0 : b = 0
  ·rw [if_pos h0, h0]; exact .nil
  ·rw [if_neg h0, List.reverse_cons]
   obtain ⟨a, w, e1, e2, e3, e4, e5, e6⟩ := hI.prov b (by omega) hb
   rw [e1, e2]
   exact pth_snoc (chain_pth hI f a (by omega) (by omega)) e3 hb e4 e5 e6
theorem dead_spec {s : PSys} {B : Nat -> Nat -> Bool} (hB : TabOk s (iniX s) B) : ((deadV s B).2.2 ≠ 0 /\ (deadV s B).1 = []) ∨ (checkE s = 0 /\ ∃ (g : Gr) (b u : Nat) (W : List Int) (L : List Nat), deadV s B = (W, (u : Int), 0) /\ GInv s (iniX s) g /\ (∀ y ∈ g.st, ∃ r', reachG s y = some r') /\ b < g.st.length /\ Pth s g 0 W b /\ (∀ i, i < b -> stuckX s (g.st.getD i []) = ([], 0)) /\ stuckX s (g.st.getD b []) = (u :: L, 0)) := by
 by_cases hc : checkE s = 0
 case neg =>
  refine .inl ?_
  unfold deadV
  rw [if_pos hc]; exact ⟨hc, rfl⟩
 have hV := iniX_valid hc
 cases hr : reachG s (iniX s) with
 | none =>
  refine .inl ?_
  unfold deadV
  rw [if_neg (by omega), hr]; exact ⟨by simp, rfl⟩
 | some r =>
  obtain ⟨g, ab, nx⟩ := r
  obtain ⟨hI, hcl, hab, hnx⟩ := reach_inv hV hr
  obtain ⟨b1, b2⟩ := best_spec g.st.length B (iniX s).length
  by_cases hb : (bestF g.st.length B (iniX s).length).1 = g.st.length
  ·refine .inl ?_
   unfold deadV
   rw [if_neg (by omega), hr]
   simp only
   rw [if_pos hb]; exact ⟨by decide, rfl⟩
  ·obtain ⟨b, e1, e2, e3, e4, e5⟩ := b2 hb
   have hdv : deadV s B = ((chainF g 5000 b).reverse, ((bestF g.st.length B (iniX s).length).2 : Int), 0) := by
    unfold deadV
    rw [if_neg (by omega), hr]
    simp only
    rw [if_neg hb, e1]
    rfl
   have hle := hI.ok.le
   have hfrom : ∀ y ∈ g.st, ∃ r', reachG s y = some r' := fun y hy => reach_from hV hr (hI.rch y hy)
   have hT := fun w i hi => (hB g ab nx hr w i hi).trans (fre_rch hV hr (w := w) hi)
   have hlen : ∀ i, i < g.st.length -> (g.st.getD i []).length = (iniX s).length := fun i hi => (hI.rch _ (getD_memS hi)).len
   refine .inr ⟨hc, g, b, (bestF g.st.length B (iniX s).length).2, (chainF g 5000 b).reverse, ?_⟩
   have hsp : ∀ i, i < g.st.length -> (stuckX s (g.st.getD i [])).2 = 0 /\ ∃ p : Nat -> Bool, (stuckX s (g.st.getD i [])).1 = (List.range (iniX s).length).filter p /\ ∀ w, p w = !B w i := fun i hi => by
    obtain ⟨r', hr'⟩ := hfrom _ (getD_memS hi)
    obtain ⟨q1, p, q2, q3⟩ := stuck_spec hc (hI.ok.val _ (getD_memS hi)) hr'
    refine ⟨q1, p, by rw [q2, hlen i hi], fun w => ?_⟩
    have h1 := q3 w
    rw [← hT w i hi] at h1
    cases hp : p w <;> cases hb : B w i <;> simp_all
   obtain ⟨q1, p, q2, q3⟩ := hsp b e2
   obtain ⟨L, hL⟩ := filter_head (n := (iniX s).length) (m := (bestF g.st.length B (iniX s).length).2) (p := p) e3 (by rw [q3, e4]; rfl) (fun w hw => by rw [q3, e5 w hw]; rfl)
   refine ⟨L, hdv, hI, hfrom, e2, chain_pth hI 5000 b (by omega) e2, fun i hi => ?_, ?_⟩
   ·obtain ⟨q1, p, q2, q3⟩ := hsp i (by omega)
    refine Prod.ext ?_ q1
    rw [q2]
    exact List.filter_eq_nil_iff.2 fun w hw => by
     rw [q3, b1 w (List.mem_range.1 hw) i (by omega)]; simp
   ·exact Prod.ext (by rw [q2, hL]) q1
end Go.AM
namespace Go.AM
open Go Go.Proofs
theorem take_len {s : PSys} {x : PSt} {w : Nat} : (takeX s x w).length = x.length := by unfold takeX; rw [List.length_set]
def mvI (d : Bool) (w k : Nat) : Int := if d = true /\ w < k then w else -1
end Go.AM
namespace Go.AM
open Go Go.Proofs
end Go.AM
namespace Go.AM
open Go Go.Proofs
noncomputable def distT (n : Nat) (l : List PEdge) (to : Nat) : List Int := (List.range n).map fun v => sd (eF l) v to
def srcs (l : List PEdge) (I : List Nat) : List Nat := I.map fun i => (l.getD i default).s
def distR (ds : List D) (v : AV) : Prop := ∃ (n : Nat) (l : List PEdge) (to : Nat), ds = [.int .i64 n, .sl (some 4) (edgesD l), .sl none ((idxL PEdge.t n l).map natsR), .int .i64 to] /\ GOk n l /\ to < n /\ v = .dat (.sl none (intsD (distT n l to)))
end Go.AM
namespace Go.AM
open Go Go.Proofs
def sOf (l : List PEdge) (i : Nat) : Nat := (l.getD i default).s
def tOf (l : List PEdge) (i : Nat) : Nat := (l.getD i default).t
theorem sOf_get {l : List PEdge} {i : Nat} {e : PEdge} (h : l[i]? = some e) : sOf l i = e.s := by simp [sOf, List.getD_eq_getElem?_getD, h]
theorem tOf_get {l : List PEdge} {i : Nat} {e : PEdge} (h : l[i]? = some e) : tOf l i = e.t := by simp [tOf, List.getD_eq_getElem?_getD, h]
theorem eF_get {l : List PEdge} {i : Nat} (h : i < l.length) : (sOf l i, tOf l i) ∈ eF l := by
 have hg := List.getElem?_eq_getElem h
 rw [sOf_get hg, tOf_get hg]
 exact List.mem_map.2 ⟨_, List.getElem_mem h, rfl⟩
theorem eF_ex {l : List PEdge} {a b : Nat} (h : (a, b) ∈ eF l) : ∃ i, i < l.length /\ sOf l i = a /\ tOf l i = b := by
 obtain ⟨e, he, h2⟩ := List.mem_map.1 h
 obtain ⟨i, hi⟩ := List.mem_iff_getElem?.1 he
 cases h2
 exact ⟨i, (List.getElem?_eq_some_iff.1 hi).1, sOf_get hi, tOf_get hi⟩
noncomputable def near (l : List PEdge) (to v : Nat) (i : Nat) : Bool := decide (sd (eF l) (tOf l i) to = sd (eF l) v to - 1)
noncomputable def nxt (l : List PEdge) (to v : Nat) : Option Nat := (idxs PEdge.s 0 l v).find? (near l to v)
theorem nxt_is {l : List PEdge} {to v i : Nat} (h : nxt l to v = some i) : i < l.length /\ sOf l i = v /\ sd (eF l) (tOf l i) to = sd (eF l) v to - 1 := by
 have h1 := List.mem_of_find?_eq_some h
 have h2 := List.find?_some h
 obtain ⟨j, e, g1, g2, g3⟩ := mem_idxs.1 h1
 obtain rfl : i = j := by omega
 refine ⟨(List.getElem?_eq_some_iff.1 g1).1, by rw [sOf_get g1, g2], ?_⟩
 simpa [near] using h2
theorem nxt_some {l : List PEdge} {to v : Nat} (h : 0 < sd (eF l) v to) : ∃ i, nxt l to v = some i := by
 obtain ⟨b, hb, h2⟩ := sd_step h
 obtain ⟨i, hi, hs, ht⟩ := eF_ex hb
 have hg := List.getElem?_eq_getElem hi
 cases hn : nxt l to v with
 | some i => exact ⟨i, rfl⟩
 | none =>
  have := List.find?_eq_none.1 hn i (mem_idxs.2 ⟨i, _, hg, by rw [← sOf_get hg]; exact hs, by simp⟩)
  simp only [near, ht, h2, decide_true, not_true] at this
noncomputable def pathL (l : List PEdge) (to : Nat) : Nat -> Nat -> List Nat
 | 0, _ => []
 | k + 1, v => match nxt l to v with
  | some i => i :: pathL l to k (tOf l i)
  | none => []
theorem pathL_cons {l : List PEdge} {to v i k : Nat} (h : nxt l to v = some i) : pathL l to (k + 1) v = i :: pathL l to k (tOf l i) := by simp [pathL, h]
theorem pathL_len {l : List PEdge} {to : Nat} : ∀ {k v : Nat}, sd (eF l) v to = k -> (pathL l to k v).length = k
 | 0, _, _ => rfl
 | k + 1, v, h => by
  obtain ⟨i, hi⟩ := nxt_some (l := l) (to := to) (v := v) (by omega)
  rw [pathL_cons hi, List.length_cons, pathL_len (by have := (nxt_is hi).2.2; omega)]
noncomputable def back (l : List PEdge) (i : Nat) : Int := sd (eF l) (tOf l i) (sOf l i)
noncomputable def cycOf (l : List PEdge) (i : Nat) : List Nat := i :: pathL l (sOf l i) (back l i).toNat (tOf l i)
theorem cycOf_len {l : List PEdge} {i : Nat} (h : 0 <= back l i) : ((cycOf l i).length : Int) = back l i + 1 := by
 unfold cycOf
 rw [List.length_cons, pathL_len (by unfold back at h ⊢; omega)]
 omega
noncomputable def cycStep (l : List PEdge) (b : Option (List Nat)) (i : Nat) : Option (List Nat) :=
 if back l i < 0 then b else match b with
 | none => some (cycOf l i)
 | some c => if (c.length : Int) <= back l i + 1 then some c else some (cycOf l i)
noncomputable def cycL (l : List PEdge) : Nat -> Option (List Nat)
 | 0 => none
 | k + 1 => cycStep l (cycL l k) k
theorem cycL_is {l : List PEdge} : ∀ (k : Nat), match cycL l k with
  | none => ∀ i, i < k -> back l i < 0
  | some c => ∃ i, i < k /\ 0 <= back l i /\ c = cycOf l i /\ ∀ j, j < k -> back l j < 0 ∨ back l i <= back l j
 | 0 => by simp [cycL]
 | k + 1 => by
  have ih := cycL_is (l := l) k
  simp only [cycL, cycStep]
  by_cases h : back l k < 0
  ·rw [if_pos h]
   cases hc : cycL l k with
   | none =>
    rw [hc] at ih
    simp only at ih ⊢
    intro i hi
    by_cases e : i = k
    ·subst e; exact h
    ·exact ih i (by omega)
   | some c =>
    rw [hc] at ih
    simp only at ih ⊢
    obtain ⟨i, h1, h2, h3, h4⟩ := ih
    refine ⟨i, by omega, h2, h3, fun j hj => ?_⟩
    by_cases e : j = k
    ·subst e; exact .inl h
    ·exact h4 j (by omega)
  ·rw [if_neg h]
   cases hc : cycL l k with
   | none =>
    rw [hc] at ih
    simp only at ih ⊢
    refine ⟨k, by omega, by omega, rfl, fun j hj => ?_⟩
    by_cases e : j = k
    ·subst e; exact .inr (Int.le_refl _)
    ·exact .inl (ih j (by omega))
   | some c =>
    rw [hc] at ih
    simp only at ih ⊢
    obtain ⟨i, h1, h2, h3, h4⟩ := ih
    have hl := cycOf_len h2
    rw [← h3] at hl
    by_cases g : (c.length : Int) <= back l k + 1
    ·rw [if_pos g]
     refine ⟨i, by omega, h2, h3, fun j hj => ?_⟩
     by_cases e : j = k
     ·subst e; exact .inr (by omega)
     ·exact h4 j (by omega)
    ·rw [if_neg g]
     refine ⟨k, by omega, by omega, rfl, fun j hj => ?_⟩
     by_cases e : j = k
     ·subst e; exact .inr (Int.le_refl _)
     ·rcases h4 j (by omega) with g1 | g1
      ·exact .inl g1
      ·exact .inr (by omega)
noncomputable def cycV (l : List PEdge) : List Nat := (cycL l l.length).getD []
def idxQ (p : Nat -> Bool) : Nat -> List Nat -> Int
 | _, [] => -1
 | k, y :: r => if p y = true then k else idxQ p (k + 1) r
end Go.AM
namespace Go.AM
open Go Go.Proofs
noncomputable abbrev cycO (n : Nat) (l : List PEdge) (to v : Nat) : List Obj := [.box [.dat (.sl none (intsD (distT n l to)))], .box [.dat (.sl (some 4) (edgesD l))], .box [.dat (.int .i64 v)]]
def clR (xs : List AV) (obs : List Obj) (v0 : AV) (obs' ex : List Obj) (mv0 : List Nat) : Prop := ∃ (n : Nat) (l : List PEdge) (to v i : Nat), GOk n l /\ to < n /\ v < n /\ i < l.length /\
 xs = [.dat (.int .i64 i), .ptr 0 0 0, .ptr 1 0 0, .ptr 2 0 0] /\ obs = cycO n l to v /\ v0 = .dat (.bool (near l to v i)) /\ obs' = obs /\ ex = [] /\ mv0 = []
end Go.AM
namespace Go.AM
open Go Go.Proofs
noncomputable def cycleVv (n : Int) (l : List PEdge) : AV := if gE n l ≠ 0 then .tup [.dat (.sl none []), .dat (.int .i64 (gE n l))] else .tup [.dat (.sl none (natsD (cycV l))), .dat (.int .i64 0)]
def cycleR (ds : List D) (v : AV) : Prop := ∃ (n : Int) (l : List PEdge), ds = [.int .i64 n, .sl (some 4) (edgesD l)] /\ l.length <= 10000 /\ v = cycleVv n l
abbrev edgO (l : List PEdge) : Obj := .box [.dat (.sl (some 4) (edgesD l))]
abbrev edge1O (e : PEdge) : Obj := .box [.dat (.int .i64 (e.s : Int)), .dat (.int .i64 (e.t : Int)), .dat (.int .i64 e.cls), .dat (.int .i64 e.step)]
noncomputable def cyHead (n : Nat) (l : List PEdge) (k : Nat) : Option (List Nat) -> S
 | none => ⟨slotsOf 114 [(0, .dat (.int .i64 n)), (3, .ptr 0 0 0), (7, .dat (.sl none ((idxL PEdge.s n l).map natsR))), (8, .dat (.sl none ((idxL PEdge.t n l).map natsR))), (11, .nils), (48, .dat (.sl (some 4) (edgesD l))), (49, .dat (.int .i64 l.length)), (50, .dat (.int .i64 k))], [edgO l, .dead], 0, []⟩
 | some c => ⟨slotsOf 114 [(0, .dat (.int .i64 n)), (3, .ptr 0 0 0), (7, .dat (.sl none ((idxL PEdge.s n l).map natsR))), (8, .dat (.sl none ((idxL PEdge.t n l).map natsR))), (11, .sl 1 0 c.length), (48, .dat (.sl (some 4) (edgesD l))), (49, .dat (.int .i64 l.length)), (50, .dat (.int .i64 k))], [edgO l, .row none (natsD c)], 0, []⟩
end Go.AM
namespace Go.AM
open Go Go.Proofs
structure IsLev (n : Nat) (l : List PEdge) (f : Nat -> Nat) : Prop where
 down : ∀ e ∈ l, f e.t < f e.s
 next : ∀ v, v < n -> f v = 0 ∨ ∃ e ∈ l, e.s = v /\ f v = f e.t + 1
theorem IsLev.le {n : Nat} {l : List PEdge} {f g : Nat -> Nat} (hE : ∀ e ∈ l, e.t < n) (hf : IsLev n l f) (hg : ∀ e ∈ l, g e.t < g e.s) : ∀ (k v : Nat), v < n -> f v = k -> f v <= g v := by
 intro k
 induction k with
 | zero => intro v _ h; omega
 | succ k ih =>
  intro v hv h
  rcases hf.next v hv with h0 | ⟨e, he, h1, h2⟩
  ·omega
  ·have := ih e.t (hE e he) (by omega)
   have := hg e he
   rw [h1] at this
   omega
theorem IsLev.one {n : Nat} {l : List PEdge} {f g : Nat -> Nat} (hE : ∀ e ∈ l, e.t < n) (hf : IsLev n l f) (hg : IsLev n l g) {v : Nat} (hv : v < n) : f v = g v :=
 Nat.le_antisymm (hf.le hE hg.down _ v hv rfl) (hg.le hE hf.down _ v hv rfl)
open Classical in
noncomputable def levV (n : Nat) (l : List PEdge) : Option (List Nat) := if h : ∃ f, IsLev n l f then some ((List.range n).map (Classical.choose h)) else none
theorem levV_some {n : Nat} {l : List PEdge} {f : Nat -> Nat} (hE : ∀ e ∈ l, e.t < n) (hf : IsLev n l f) : levV n l = some ((List.range n).map f) := by
 have h : ∃ f, IsLev n l f := ⟨f, hf⟩
 unfold levV
 rw [dif_pos h]
 congr 1
 exact List.map_congr_left fun v hv => (Classical.choose_spec h).one hE hf (List.mem_range.1 hv)
theorem levV_none {n : Nat} {l : List PEdge} (h : ¬ ∃ f : Nat -> Nat, ∀ e ∈ l, f e.t < f e.s) : levV n l = none := by
 unfold levV
 rw [dif_neg]
 rintro ⟨f, hf⟩
 exact h ⟨f, hf.down⟩
theorem levV_is {n : Nat} {l : List PEdge} {L : List Nat} (h : levV n l = some L) : ∃ f, IsLev n l f /\ L = (List.range n).map f := by
 unfold levV at h
 split at h
 ·rename_i hf
  cases h
  exact ⟨_, Classical.choose_spec hf, rfl⟩
 ·cases h
def ins (l : List PEdge) (w : Nat) : List Nat := l.filterMap fun e => if e.t = w then some e.s else none
theorem ins_snoc {l : List PEdge} {e : PEdge} {x : Nat} : ins (l ++ [e]) x = if e.t = x then ins l x ++ [e.s] else ins l x := by
 unfold ins; rw [List.filterMap_append]; by_cases h : e.t = x <;> simp [h]
theorem mem_ins {l : List PEdge} {v w : Nat} : v ∈ ins l w ↔ ∃ e ∈ l, e.s = v /\ e.t = w := by
 simp only [ins, List.mem_filterMap]
 constructor
 ·rintro ⟨e, he, h⟩
  split at h
  ·rename_i hx; cases h; exact ⟨e, he, rfl, hx⟩
  ·cases h
 ·rintro ⟨e, he, rfl, rfl⟩; exact ⟨e, he, by simp⟩
def rest (l : List PEdge) (P : List Nat) (v : Nat) : Nat := l.countP fun e => decide (e.s = v) && !P.contains e.t
theorem rest_add {P : List Nat} {w : Nat} (hw : ¬ w ∈ P) (v : Nat) : ∀ (l : List PEdge), rest l P v = rest l (P ++ [w]) v + (ins l w).count v
 | [] => rfl
 | e :: r => by
  have ih := rest_add hw v r
  unfold rest ins at ih ⊢
  simp only [List.countP_cons, List.filterMap_cons]
  by_cases h1 : e.s = v <;> by_cases h2 : e.t = w
  ·have h3 : ¬ e.t ∈ P := by rw [h2]; exact hw
   have h4 : e.t ∈ P ++ [w] := by simp [h2]
   simp only [h1, h2, decide_true, Bool.true_and, List.contains_eq_mem] at ih ⊢
   simp only [h2] at h3 h4
   simp [h3, h4, List.count_cons] at ih ⊢
   omega
  ·have h4 : (P ++ [w]).contains e.t = P.contains e.t := by simp [h2]
   simp only [h1, decide_true, Bool.true_and, h4, if_neg h2] at ih ⊢
   omega
  ·simp only [h1, decide_false, Bool.false_and, h2, if_true, Bool.false_eq_true, if_false, List.count_cons] at ih ⊢
   simp [h1] at ih ⊢
   omega
  ·have h4 : (P ++ [w]).contains e.t = P.contains e.t := by simp [h2]
   simp only [h1, decide_false, Bool.false_and, if_neg h2, Bool.false_eq_true, if_false] at ih ⊢
   omega
theorem rest_pos {l : List PEdge} {P : List Nat} {v : Nat} (h : 0 < rest l P v) : ∃ e ∈ l, e.s = v /\ ¬ e.t ∈ P := by
 obtain ⟨e, he, h2⟩ := List.countP_pos_iff.1 h
 simp only [Bool.and_eq_true, decide_eq_true_eq, Bool.not_eq_true', List.contains_eq_mem, decide_eq_false_iff_not] at h2
 exact ⟨e, he, h2.1, h2.2⟩
structure KI (n : Nat) (l : List PEdge) (left lev q : List Nat) (P : List Nat) (w : Option Nat) (T : List Nat) : Prop where
 ll : left.length = n
 lv : lev.length = n
 qn : ∀ v ∈ q, v < n
 nd : q.Nodup
 sub : ∀ v ∈ P, v ∈ q
 cnt : ∀ v, v < n -> left.getD v 0 = rest l P v + T.count v
 free : ∀ v, v < n -> (v ∈ q ↔ left.getD v 0 = 0)
 down : ∀ e ∈ l, e.t ∈ P -> (w = some e.t -> e.s ∈ T ∨ lev.getD e.t 0 < lev.getD e.s 0) /\ (w ≠ some e.t -> lev.getD e.t 0 < lev.getD e.s 0)
 next : ∀ v, v < n -> lev.getD v 0 = 0 ∨ ∃ e ∈ l, e.s = v /\ e.t ∈ P /\ lev.getD v 0 = lev.getD e.t 0 + 1
 ub : ∀ v, v < n -> lev.getD v 0 <= P.length
 uw : ∀ x, w = some x -> lev.getD x 0 < P.length
section
variable {n : Nat} {l : List PEdge} {left lev q P T : List Nat} {w : Nat}
theorem KI.qle (h : KI n l left lev q P none []) : q.length <= n := nodup_le h.nd h.qn
theorem KI.start (h : KI n l left lev q P none []) (hw : w ∈ q) (hwP : ¬ w ∈ P) : KI n l left lev q (P ++ [w]) (some w) (ins l w) := by
 refine { h with sub := fun v hv => ?_, cnt := fun v hv => ?_, down := fun e he ht => ?_, next := fun v hv => ?_, ub := fun v hv => ?_, uw := fun x hx => ?_ }
 ·rcases List.mem_append.1 hv with hv | hv
  ·exact h.sub v hv
  ·simp at hv; rw [hv]; exact hw
 ·rw [h.cnt v hv, rest_add hwP v l]; simp
 ·by_cases e1 : e.t = w
  ·exact ⟨fun _ => .inl (mem_ins.2 ⟨e, he, rfl, e1⟩), fun hn => absurd (by rw [e1]) hn⟩
  ·have hp : e.t ∈ P := by simpa [e1] using ht
   exact ⟨fun hn => absurd (Option.some.inj hn).symm e1, fun _ => ((h.down e he hp).2 (by simp))⟩
 ·rcases h.next v hv with h0 | ⟨e, he, h1, h2, h3⟩
  ·exact .inl h0
  ·exact .inr ⟨e, he, h1, by simp [h2], h3⟩
 ·have := h.ub v hv; rw [List.length_append]; omega
 ·cases hx; have := h.ub w (h.qn w hw); rw [List.length_append, List.length_singleton]; omega
theorem KI.stop (h : KI n l left lev q P (some w) []) : KI n l left lev q P none [] := by
 refine { h with down := fun e he ht => ⟨fun hn => (by cases hn), fun _ => ?_⟩, uw := fun x hx => by cases hx }
 obtain ⟨h1, h2⟩ := h.down e he ht
 by_cases e1 : w = e.t
 ·rcases h1 (by rw [e1]) with h | h
  ·cases h
  ·exact h
 ·exact h2 (by simpa using e1)
theorem KI.step {v : Nat} (h : KI n l left lev q P (some w) (v :: T)) (hv : v < n) (hw : w ∈ P) (hE : ∃ e ∈ l, e.s = v /\ e.t = w) :
  KI n l (left.set v (left.getD v 0 - 1)) (lev.set v (max (lev.getD v 0) (lev.getD w 0 + 1))) (if left.getD v 0 - 1 = 0 then q ++ [v] else q) P (some w) T := by
 have hcnt := h.cnt v hv
 rw [List.count_cons_self] at hcnt
 have hvq : ¬ v ∈ q := fun hm => by have := (h.free v hv).1 hm; omega
 have hwq : w ∈ q := h.sub w hw
 have hwv : w ≠ v := fun e => hvq (e ▸ hwq)
 have gl : ∀ u, (left.set v (left.getD v 0 - 1)).getD u 0 = if v = u then left.getD v 0 - 1 else left.getD u 0 := fun u => by
  rw [getD_set']
  by_cases e : v = u
  ·rw [if_pos ⟨e, by rw [h.ll]; exact hv⟩, if_pos e]
  ·rw [if_neg (fun hh => e hh.1), if_neg e]
 have gv : ∀ u, (lev.set v (max (lev.getD v 0) (lev.getD w 0 + 1))).getD u 0 = if v = u then max (lev.getD v 0) (lev.getD w 0 + 1) else lev.getD u 0 := fun u => by
  rw [getD_set']
  by_cases e : v = u
  ·rw [if_pos ⟨e, by rw [h.lv]; exact hv⟩, if_pos e]
  ·rw [if_neg (fun hh => e hh.1), if_neg e]
 have hP : ∀ u ∈ P, v ≠ u := fun u hu e => hvq (e ▸ h.sub u hu)
 have memq : ∀ u, u ∈ (if left.getD v 0 - 1 = 0 then q ++ [v] else q) ↔ u ∈ q ∨ (u = v /\ left.getD v 0 - 1 = 0) := fun u => by
  split
  ·rename_i h0; simp only [List.mem_append, List.mem_singleton, h0, and_true]
  ·rename_i h0
   constructor
   ·exact fun hm => .inl hm
   ·rintro (hm | ⟨_, hm⟩)
    ·exact hm
    ·exact absurd hm h0
 constructor
 ·simp [h.ll]
 ·simp [h.lv]
 ·intro u hu
  rcases (memq u).1 hu with hu | ⟨rfl, _⟩
  ·exact h.qn u hu
  ·exact hv
 ·split
  ·rw [List.nodup_append]
   exact ⟨h.nd, by simp, fun u hu x hx => by simp at hx; subst hx; exact fun e => hvq (e ▸ hu)⟩
  ·exact h.nd
 ·intro u hu
  exact (memq u).2 (.inl (h.sub u hu))
 ·intro u hu
  rw [gl]
  by_cases e : v = u
  ·subst e; rw [if_pos rfl]; omega
  ·rw [if_neg e, h.cnt u hu, List.count_cons_of_ne e]
 ·intro u hu
  rw [memq, gl]
  by_cases e : v = u
  ·subst e; rw [if_pos rfl]; simp [hvq]
  ·rw [if_neg e, ← h.free u hu]
   constructor
   ·rintro (hm | ⟨hm, _⟩)
    ·exact hm
    ·exact absurd hm.symm e
   ·exact fun hm => .inl hm
 ·intro e he ht
  rw [gv, gv, if_neg (hP _ ht)]
  obtain ⟨h1, h2⟩ := h.down e he ht
  refine ⟨fun hw' => ?_, fun hw' => ?_⟩
  ·have hw2 : w = e.t := Option.some.inj hw'
   by_cases e1 : v = e.s
   ·rw [if_pos e1, ← hw2]; exact .inr (by omega)
   ·rw [if_neg e1]
    rcases h1 hw' with hm | hm
    ·rcases List.mem_cons.1 hm with hm | hm
     ·exact absurd hm.symm e1
     ·exact .inl hm
    ·exact .inr hm
  ·have h3 := h2 hw'
   by_cases e1 : v = e.s
   ·rw [if_pos e1]; rw [← e1] at h3; omega
   ·rw [if_neg e1]; exact h3
 ·intro u hu
  rw [gv]
  by_cases e : v = u
  ·subst e
   rw [if_pos rfl]
   by_cases hmx : lev.getD v 0 <= lev.getD w 0 + 1
   ·obtain ⟨e, he, h1, h2⟩ := hE
    refine .inr ⟨e, he, h1, by rw [h2]; exact hw, ?_⟩
    rw [gv, h2, if_neg (fun hh => hwv hh.symm)]; omega
   ·rcases h.next v hv with h0 | ⟨e, he, h1, h2, h3⟩
    ·omega
    ·refine .inr ⟨e, he, h1, h2, ?_⟩
     rw [gv, if_neg (hP _ h2)]; omega
  ·rw [if_neg e]
   rcases h.next u hu with h0 | ⟨e', he, h1, h2, h3⟩
   ·exact .inl h0
   ·refine .inr ⟨e', he, h1, h2, ?_⟩
    rw [gv, if_neg (hP _ h2)]; exact h3
 ·intro u hu
  rw [gv]
  have h1 := h.uw w rfl
  by_cases e : v = u
  ·rw [if_pos e]; have := h.ub v hv; omega
  ·rw [if_neg e]; exact h.ub u hu
 ·intro x hx
  cases hx
  rw [gv, if_neg (fun hh => hwv hh.symm)]; exact h.uw w rfl
theorem KI.all (h : KI n l left lev q q none []) (hq : n <= q.length) (hE : ∀ e ∈ l, e.t < n) : levV n l = some lev := by
 have hall : ∀ v, v < n -> v ∈ q := fun v hv => by
  by_cases hm : v ∈ q
  ·exact hm
  ·have := nodup_le (q := v :: q) (n := n) (List.nodup_cons.2 ⟨hm, h.nd⟩) (fun u hu => by rcases List.mem_cons.1 hu with rfl | hu; exact hv; exact h.qn u hu)
   simp at this; omega
 have hl : IsLev n l fun v => lev.getD v 0 := ⟨fun e he => (h.down e he (hall _ (hE e he))).2 (by simp), fun v hv => by
  rcases h.next v hv with h0 | ⟨e, he, h1, _, h3⟩
  ·exact .inl h0
  ·exact .inr ⟨e, he, h1, h3⟩⟩
 rw [levV_some hE hl]
 congr 1
 refine List.ext_getElem (by simp [h.lv]) fun i h1 h2 => ?_
 simp [List.getD_eq_getElem?_getD, List.getElem?_eq_getElem h2]
theorem KI.stuck (h : KI n l left lev q q none []) (hq : q.length < n) (hE : ∀ e ∈ l, e.t < n) : levV n l = none := by
 refine levV_none ?_
 rintro ⟨f, hf⟩
 have hex : ∃ v, v < n /\ ¬ v ∈ q := by
  refine Classical.byContradiction fun hne => ?_
  have hsub : List.range n ⊆ q := fun v hv => Classical.byContradiction fun hm => hne ⟨v, List.mem_range.1 hv, hm⟩
  have := List.Nodup.length_le_of_subset List.nodup_range hsub
  simp at this; omega
 have key : ∀ k v, f v = k -> v < n -> v ∈ q := by
  intro k
  induction k using Nat.strongRecOn with
  | _ k ih =>
   intro v hk hv
   refine Classical.byContradiction fun hm => ?_
   have hpos : 0 < rest l q v := by
    have h1 := h.cnt v hv
    simp only [List.count_nil, Nat.add_zero] at h1
    have h2 : ¬ left.getD v 0 = 0 := fun hh => hm ((h.free v hv).2 hh)
    omega
   obtain ⟨e, he, h1, h2⟩ := rest_pos hpos
   have := hf e he
   rw [h1] at this
   exact h2 (ih (f e.t) (by omega) e.t rfl (hE e he))
 obtain ⟨v, hv, hm⟩ := hex
 exact hm (key _ v rfl hv)
end
end Go.AM
namespace Go.AM
open Go Go.Proofs
noncomputable def levelsVv (n : Int) (l : List PEdge) : AV := if gE n l ≠ 0 then .tup [.dat (.sl none []), .dat (.int .i64 (gE n l))] else match levV n.toNat l with
 | some L => .tup [.dat (.sl none (natsD L)), .dat (.int .i64 0)]
 | none => .tup [.dat (.sl none []), .dat (.int .i64 10)]
def levelsR (ds : List D) (v : AV) : Prop := ∃ (n : Int) (l : List PEdge), ds = [.int .i64 n, .sl (some 4) (edgesD l)] /\ l.length <= 10000 /\ v = levelsVv n l
def insL (n : Nat) (l : List PEdge) : List (List Nat) := (List.range n).map (ins l)
theorem insL_len {n : Nat} {l : List PEdge} : (insL n l).length = n := by simp [insL]
theorem insL_nil {n : Nat} : insL n [] = List.replicate n [] := List.ext_getElem (by simp [insL]) fun i h1 h2 => by simp [insL, ins]
theorem insL_getD {n : Nat} {l : List PEdge} {v : Nat} (h : v < n) : (insL n l).getD v [] = ins l v := by simp [insL, List.getD_eq_getElem?_getD, h]
theorem insL_get {n : Nat} {l : List PEdge} {v : Nat} (h : v < n) : (insL n l)[v]? = some (ins l v) := by simp [insL, h]
theorem insL_snoc {n : Nat} {l : List PEdge} {e : PEdge} : insL n (l ++ [e]) = (insL n l).set e.t (ins l e.t ++ [e.s]) := by
 refine List.ext_getElem (by simp [insL]) fun i h1 h2 => ?_
 rw [List.getElem_set]
 simp only [insL, List.getElem_map, List.getElem_range, ins_snoc]
 by_cases h : e.t = i
 ·subst h; simp
 ·simp [h]
theorem ins_len (l : List PEdge) (v : Nat) : (ins l v).length <= l.length := List.length_filterMap_le _ _
def outN (n : Nat) (l : List PEdge) : List Nat := (List.range n).map (rest l [])
theorem outN_len {n : Nat} {l : List PEdge} : (outN n l).length = n := by simp [outN]
theorem rest_snoc {l : List PEdge} {e : PEdge} {v : Nat} : rest (l ++ [e]) [] v = if e.s = v then rest l [] v + 1 else rest l [] v := by
 unfold rest; rw [List.countP_append]; by_cases h : e.s = v <;> simp [h]
theorem rest_le (l : List PEdge) (v : Nat) : rest l [] v <= l.length := List.countP_le_length
theorem outN_nil {n : Nat} : outN n [] = List.replicate n 0 := List.ext_getElem (by simp [outN]) fun i h1 h2 => by simp [outN, rest]
theorem outN_getD {n : Nat} {l : List PEdge} {v : Nat} (h : v < n) : (outN n l).getD v 0 = rest l [] v := by simp [outN, List.getD_eq_getElem?_getD, h]
theorem outN_snoc {n : Nat} {l : List PEdge} {e : PEdge} : outN n (l ++ [e]) = (outN n l).set e.s (rest l [] e.s + 1) := by
 refine List.ext_getElem (by simp [outN]) fun i h1 h2 => ?_
 rw [List.getElem_set]
 simp only [outN, List.getElem_map, List.getElem_range, rest_snoc]
 by_cases h : e.s = i
 ·subst h; simp
 ·simp [h]
theorem nats_at {l : List Nat} {i : Nat} (z : Nat) (h : i < l.length) : D.nth (natsD l) i = .int .i64 (l.getD i z : Nat) := by
 rw [D.nth_map h]; simp [List.getD_eq_getElem?_getD, List.getElem?_eq_getElem h]
theorem nats_upd {l : List Nat} {i n : Nat} : (natsD l).set i (.int .i64 (n : Int)) = natsD (l.set i n) := by simp [List.map_set]
theorem nats_rep {n z : Nat} : natsD (List.replicate n z) = List.replicate n (.int .i64 (z : Int)) := by simp
def freeL (left : List Nat) (k : Nat) : List Nat := (List.range k).filter fun v => left.getD v 0 == 0
theorem freeL_succ {left : List Nat} {k : Nat} : freeL left (k + 1) = if left.getD k 0 = 0 then freeL left k ++ [k] else freeL left k := by
 unfold freeL
 rw [List.range_succ, List.filter_append]
 by_cases h : left.getD k 0 = 0
 ·rw [if_pos h]; simp only [List.filter_cons, h, beq_self_eq_true, if_true, List.filter_nil]
 ·have : (left.getD k 0 == 0) = false := by simpa using h
  rw [if_neg h]; simp only [List.filter_cons, this, Bool.false_eq_true, if_false, List.filter_nil, List.append_nil]
theorem freeL_len {left : List Nat} {k : Nat} : (freeL left k).length <= k := by
 have := List.length_filter_le (fun v => left.getD v 0 == 0) (List.range k); simpa [freeL] using this
theorem ki_init {n : Nat} {l : List PEdge} : KI n l (outN n l) (List.replicate n 0) (freeL (outN n l) n) [] none [] where
 ll := outN_len
 lv := by simp
 qn v hv := by simp [freeL] at hv; exact hv.1
 nd := List.Nodup.sublist List.filter_sublist List.nodup_range
 sub v hv := by cases hv
 cnt v hv := by rw [outN_getD hv]; simp
 free v hv := by simp [freeL, hv]
 down e he ht := by cases ht
 next v hv := .inl (by simp [List.getD_eq_getElem?_getD, List.getElem?_replicate, hv])
 ub v hv := by simp [List.getD_eq_getElem?_getD, List.getElem?_replicate, hv]
 uw x hx := by cases hx
abbrev tabLV : List (Nat × Contract) := [(47, dataC gchkR)]
theorem tabLV_ok : OkG Try.prog (tbl tabLV) := okG_cons gcheck_ok okG_nil
theorem levels_ok : OkF Try.prog 21 (dataC levelsR) := by
 refine okF_data Try.func21 rfl (by decide) ?_
 rintro ds v ⟨n, l, rfl, hll, rfl⟩
 refine sem_of_awpK [5] (Γ := tbl tabLV) tabLV_ok _ _ _ ?_
 simp only [go_sem, Try.ntmps21]
 refine call_data gchkR (by simp) [.int .i64 n, .sl (some 4) (edgesD l)] _ rfl ⟨n, l, rfl, hll, rfl⟩ (.inl rfl) ?_
 by_cases h : gE n l = 0
 case neg =>
  unfold levelsVv
  rw [if_pos h]
  simp only [go_sem, h]
  refine post_res (.inl rfl) [.tmp 4, .tmp 5] rfl ?_
  simp only [go_sem]
  exact le_fin (by simp only [go_sem]) (by simp only [go_sem])
 unfold levelsVv
 rw [if_neg (by rw [h]; decide)]
 obtain ⟨n, rfl, hg⟩ := gOk_of h hll
 have hn4 := hg.n4
 have hEt : ∀ e ∈ l, e.t < n := fun e he => (hg.dst e he).2
 rw [Int.toNat_natCast]
 simp only [go_sem, h]
 refine sem_drawT (ob := 0) (ko := 0) (pf := []) (mf := []) (ms := []) (ks := []) mixed tabLV_ok (fun g _ _ _ _ _ h => by cases h) noMk
  (.one 0 (.one 2 (.alt 1 (.one 4 (.one 3 (.one 5 .fin))) (.alt 3 (.one 1 (.one 4 (.one 5 .fin))) .stop)))) (by kernel_rfl) ?_
 simp only [go_sem, and_true]
 apply both_of
 ·intro hQ
  exact ⟨Int.le_refl _, by omega, Int.le_refl _, by omega, hQ⟩
 ·intro hQ
  refine ⟨Int.le_refl _, by omega, Int.le_refl _, by omega, ?_⟩
  refine sem_le (le_swp (own' := [.row none (List.replicate n (.int .i64 0)), .vec (List.replicate n .nils)]) 0 1 (by decide : (0 : Nat) < 2) (by decide : (1 : Nat) < 2) rfl ?_) hQ
  show _ = [Obj.ren (swp 0 1) (.row none (List.replicate n (.int .i64 0))), Obj.ren (swp 0 1) (.vec (List.replicate n .nils))]
  simp only [Obj.ren, rens_nils]
 refine sem_le (le_nilsF 1 none n rfl (Nat.zero_le _)) ?_
 have hpre : ∀ x M, (List.set [x, Obj.vec (List.replicate n AV.nils)] 1 (Obj.vec M)) ++ famO none (List.replicate n []) = x :: .vec M :: famO none (List.replicate n []) := fun x M => rfl
 rw [hpre]
 refine sem_of_awp (Γ := tbl tabLV) tabLV_ok _ _ _ ?_
 simp only [go_sem, edges_len]
 refine sem_loop (fun k : Nat => ⟨slotsOf 125 [(0, .dat (.int .i64 n)), (7, .sl 0 0 n), (8, .sl 1 0 n), (28, .dat (.sl (some 4) (edgesD l))), (29, .dat (.int .i64 l.length)), (30, .dat (.int .i64 k))],
   .row none (natsD (outN n (l.take k))) :: .vec (famR 2 (rowsN (insL n (l.take k)))) :: famO none (rowsN (insL n (l.take k))), 0, []⟩)
  (fun k => k <= l.length) (fun k => l.length - k) 0 (Nat.zero_le _) ?_ ?_
 ·rw [List.take_zero, insL_nil, outN_nil, nats_rep]
  simp only [rowsN, List.map_replicate, natsD, List.map_nil, List.length_cons, List.length_nil]
  exact le_slots' (by simp only [go_sem, Int.natCast_zero])
 rintro k hk
 cases hd : l.drop k with
 | cons e r =>
  have hlt := lt_of_drop hd
  have hk2 : (k : Int) < l.length := by omega
  have hk0 : (0 : Int) <= k := Int.natCast_nonneg k
  have hn := nth_of_drop (f := edgeD) hd
  have hem := mem_of_drop hd
  obtain ⟨hs1, hs2⟩ := hg.src e hem
  obtain ⟨ht1, ht2⟩ := hg.dst e hem
  have hsn : (e.s : Int) < n := by omega
  have htn : (e.t : Int) < n := by omega
  have hsnoc := insL_snoc (n := n) (l := l.take k) (e := e)
  have hosn := outN_snoc (n := n) (l := l.take k) (e := e)
  rw [← take_of_drop hd] at hsnoc hosn
  have hrow := rowsN_getD (M := insL n (l.take k)) (i := e.t)
  rw [insL_getD ht2] at hrow
  have hlen := ins_len (l.take k) e.t
  have hrl := rest_le (l.take k) e.s
  rw [List.length_take] at hlen hrl
  have hol := outN_len (n := n) (l := l.take k)
  have hol2 : e.s < (outN n (l.take k)).length := by omega
  have hog := nats_at 0 hol2
  rw [outN_getD hs2] at hog
  have hadd : ((rest (l.take k) [] e.s : Nat) : Int) + 1 = ((rest (l.take k) [] e.s + 1 : Nat) : Int) := by omega
  have hM : (rowsN (insL n (l.take k))).length = n := by rw [rowsN_len, insL_len]
  have hMl : e.t < (rowsN (insL n (l.take k))).length := by rw [hM]; exact ht2
  have hR := famR_at (b := 2) hMl
  rw [hrow] at hR
  have hO := famO_get0 (ag := none) hMl
  rw [hrow] at hO
  have hK := famR_killA (b := 2) hMl
  have hS := fun l' => famO_setA (ag := none) (l := l') hMl
  have hFl := famR_length 2 (rowsN (insL n (l.take k)))
  rw [hM] at hFl
  refine sem_of_awp (Γ := tbl tabLV) tabLV_ok _ _ _ ?_
  have hne : ¬ (famO none (rowsN (insL n (l.take k)))).length = e.t := by rw [famO_length, hM]; omega
  have hne0 : ¬ 0 = e.t + 2 := by omega
  have hne1 : ¬ 1 = e.t + 2 := by omega
  simp only [go_sem, hk2, hk0, hn, hlt, edges_len, edgeD, hs1, ht1, getA0, setA0, hsn, hs2, nats_len, hol, hog, hadd, nats_upd]
  refine ⟨inR_i64.2 (by omega), ?_⟩
  refine sem_drawK (ko := e.t + 2) (pf := []) (mf := []) (ms := [0, 1, 2, 12, 11]) mixed tabLV_ok (fun g _ _ _ _ _ h => by cases h) noMk [0, 1, 2, 12, 3, 4, 5, 6, 7, 8, 9, 10, 11, 13] (by kernel_rfl) ?_
  simp only [go_sem, hR, hFl, hO, hK, hS, hne, hne0, hne1, getA0, getA1, setA0, lenA1, htn, ht2, famO_getP hMl, famO_setP hMl, hrow, famO_kill, famO_killP, List.append_assoc, List.cons_append, List.nil_append, List.set_set, nats_take, nats_len, nats_snoc, if_false]
  refine ⟨by omega, by omega, inR_i64.2 (by omega), k + 1, by omega, by omega, ?_⟩
  rw [famR_setA (l := natsD (ins (l.take k) e.t ++ [e.s])) (by simp), rowsN_set, ← hsnoc, ← hosn]
  refine le_endF (pre := [_, _]) (Nat.zero_le _) ?_ ?_ ?_
  ·simp only [go_sem, Int.natCast_add, Int.cast_ofNat_Int]
  ·simp only [go_sem]
  ·exact ⟨trivial, famR_under _ _ _ (Nat.le_refl _), trivial⟩
 | nil =>
 have := end_of_drop hd hk
 have hk2 : ¬ (k : Int) < l.length := by omega
 subst this
 rw [List.take_length]
 have hrl : ((insL n l).map natsR).length = n := by simp [insL_len]
 have hrt : List.take n ((insL n l).map natsR) = (insL n l).map natsR := List.take_of_length_le (by rw [hrl]; exact Nat.le_refl _)
 refine sem_le (le_famEnd (pre := [.row none (natsD (outN n l)), .vec (famR 2 (rowsN (insL n l)))]) (s' := slotsOf 125 [(0, .dat (.int .i64 n)), (7, .sl 0 0 n), (8, .dat (.sl none ((insL n l).map natsR))), (29, .dat (.int .i64 l.length)), (30, .dat (.int .i64 l.length))]) (pre' := [.row none (natsD (outN n l)), .dead]) 1 rfl (Nat.zero_le _) ?_ ?_ ?_ ?_) ?_
 ·simp only [List.map_cons, List.map_nil, frzFo, frzFs, frzF_dat, AV.frzs, AV.frz, Obj.frz]; rfl
 ·rw [rowsN_sl]
  simp only [go_sem, frzFs, frzF_dat, frzF_top, frzF_nils, frzF_sl, frzF_ptr, AV.frzs, AV.frz, Nat.lt_irrefl, Nat.reduceLT, Nat.zero_lt_one, true_or, List.drop_zero, hrl, hrt, Nat.zero_add, Nat.le_refl, if_true, Nat.reduceEqDiff, ↓reduceIte, Nat.zero_ne_one]
 ·simp only [go_sem]
 ·simp only [go_sem, Obj.under, AV.unders, AV.under]
 refine sem_of_awp (Γ := tbl tabLV) tabLV_ok _ _ _ ?_
 simp only [go_sem, hk2, edges_len]
 refine ⟨Int.le_refl _, by omega, ?_⟩
 refine sem_le (le_addnil 12 none rfl (Nat.zero_le _)) ?_
 simp only [go_sem]
 have hol := outN_len (n := n) (l := l)
 have e0 : List.replicate n (D.int .i64 0) = natsD (List.replicate n 0) := by rw [nats_rep]; rfl
 rw [e0]
 refine sem_loop (fun k : Nat => ⟨slotsOf 125 [(0, .dat (.int .i64 n)), (7, .sl 0 0 n), (8, .dat (.sl none ((insL n l).map natsR))), (11, .sl 2 0 n), (12, .sl 3 0 (freeL (outN n l) k).length), (57, .sl 0 0 n), (58, .dat (.int .i64 n)), (59, .dat (.int .i64 k))],
   [.row none (natsD (outN n l)), .dead, .row none (natsD (List.replicate n 0)), .row none (natsD (freeL (outN n l) k))], 0, []⟩)
  (fun k => k <= n) (fun k => n - k) 0 (Nat.zero_le _) ?_ ?_
 ·exact le_slots' (by simp only [go_sem, Int.natCast_zero, freeL, List.range_zero, List.filter_nil])
 rintro k hk
 by_cases hkn : k = n
 case neg =>
  have hk2' : (k : Int) < n := by omega
  have hk3 : k < n := by omega
  have hk4 : k < (outN n l).length := by omega
  have hog := nats_at 0 hk4
  have hfs := freeL_succ (left := outN n l) (k := k)
  have hfl := freeL_len (left := outN n l) (k := k)
  refine sem_of_awp (Γ := tbl tabLV) tabLV_ok _ _ _ ?_
  by_cases hz : (outN n l).getD k 0 = 0
  ·rw [if_pos hz] at hfs
   have hz2 : (((outN n l).getD k 0 : Nat) : Int) = 0 := by omega
   simp only [go_sem, hk2', hk3, nats_len, hol, hog, hz2, nats_take, nats_snoc]
   refine ⟨by omega, by omega, inR_i64.2 (by omega), k + 1, by omega, by omega, ?_⟩
   rw [hfs]
   refine le_end (own := [_, _, _, _]) (ex := [_]) (Nat.zero_le _) ?_ ?_ ?_
   ·simp only [go_sem, Int.natCast_add, Int.cast_ofNat_Int, List.length_append, List.length_cons, List.length_nil, Nat.zero_add]
   ·simp only [go_sem]
   ·simp only [go_sem, Obj.under, AV.unders, AV.under]
  ·rw [if_neg hz] at hfs
   have hz2 : ¬ (((outN n l).getD k 0 : Nat) : Int) = 0 := by omega
   simp only [go_sem, hk2', hk3, nats_len, hol, hog, hz2]
   refine ⟨inR_i64.2 (by omega), k + 1, by omega, by omega, ?_⟩
   rw [hfs]
   exact le_slots' (by simp only [go_sem, Int.natCast_add, Int.cast_ofNat_Int])
 subst hkn
 have hk2' : ¬ (k : Int) < k := by omega
 refine sem_of_awp (Γ := tbl tabLV) tabLV_ok _ _ _ ?_
 simp only [go_sem, hk2']
 refine sem_loop (fun p : List Nat × List Nat × List Nat × Nat => ⟨slotsOf 125 [(0, .dat (.int .i64 k)), (7, .sl 0 0 k), (8, .dat (.sl none ((insL k l).map natsR))), (11, .sl 2 0 k), (12, .sl 3 0 p.2.2.1.length), (15, .dat (.int .i64 p.2.2.2))],
   [.row none (natsD p.1), .dead, .row none (natsD p.2.1), .row none (natsD p.2.2.1)], 0, []⟩)
  (fun p => p.2.2.2 <= p.2.2.1.length /\ KI k l p.1 p.2.1 p.2.2.1 (p.2.2.1.take p.2.2.2) none []) (fun p => k - p.2.2.2) (outN k l, List.replicate k 0, freeL (outN k l) k, 0) ⟨Nat.zero_le _, by simpa using ki_init⟩ ?_ ?_
 ·exact le_slots' (by simp only [go_sem, Int.natCast_zero])
 rintro ⟨left, lev, q, d⟩ ⟨hdq, hI⟩
 simp only at hdq hI
 have hql := hI.qle
 refine sem_of_awp (Γ := tbl tabLV) tabLV_ok _ _ _ ?_
 by_cases hde : d = q.length
 case pos =>
  subst hde
  rw [List.take_length] at hI
  have hd2 : ¬ (q.length : Int) < q.length := by omega
  have hlv := hI.lv
  by_cases hqn : q.length < k
  ·have hqn2 : (q.length : Int) < k := by omega
   rw [hI.stuck hqn hEt]
   simp only [go_sem, hd2, hqn2]
   refine post_res (.inl rfl) [.tmp 4, .tmp 5] rfl ?_
   simp only [go_sem]
   exact le_fin (by simp only [go_sem]) (by simp only [go_sem])
  ·have hqn2 : ¬ (q.length : Int) < k := by omega
   rw [hI.all (by omega) hEt]
   simp only [go_sem, hd2, hqn2]
   refine post_res (.inl rfl) [.tmp 4, .tmp 5] rfl ?_
   simp only [go_sem]
   refine Le.trans (le_freeze 2 (ag := none) rfl (Nat.zero_le _)) ?_
   have e1 : List.take k (natsD lev) = natsD lev := List.take_of_length_le (by simp [hlv])
   simp only [go_sem, e1, nats_len, hlv, Nat.le_refl]
   exact le_fin (by simp only [go_sem]) (by simp only [go_sem])
 have hdl : d < q.length := by omega
 obtain ⟨w, hw⟩ : ∃ w, q[d]? = some w := ⟨_, List.getElem?_eq_getElem hdl⟩
 have hwq := List.mem_of_getElem? hw
 have hwn := hI.qn w hwq
 have hwn2 : (w : Int) < k := by omega
 have hd2 : (d : Int) < q.length := by omega
 have hd0 : (0 : Int) <= d := Int.natCast_nonneg d
 have hnw := nats_nth hw
 have hent := rows_nth (insL_get (l := l) hwn)
 have hML : ((insL k l).map natsR).length = k := by simp [insL_len]
 have htk : q.take (d + 1) = q.take d ++ [w] := by rw [List.take_add_one, hw]; rfl
 have hwT : ¬ w ∈ q.take d := fun hm => by
  have hnd := hI.nd
  rw [← List.take_append_drop (d + 1) q, htk, List.append_assoc, List.nodup_append] at hnd
  exact hnd.2.2 w hm w (by simp) rfl
 have hS := hI.start hwq hwT
 rw [← htk] at hS
 simp only [go_sem, hd2, hd0, hdl, nats_len, hnw, hwn, hwn2, hML, hent]
 refine sem_loop (fun p : List Nat × List Nat × List Nat × Nat => ⟨slotsOf 125 [(0, .dat (.int .i64 k)), (7, .sl 0 0 k), (8, .dat (.sl none ((insL k l).map natsR))), (11, .sl 2 0 k), (12, .sl 3 0 p.2.2.1.length), (15, .dat (.int .i64 d)),
   (83, .dat (.sl none (natsD (ins l w)))), (84, .dat (.int .i64 (ins l w).length)), (85, .dat (.int .i64 p.2.2.2))],
   [.row none (natsD p.1), .dead, .row none (natsD p.2.1), .row none (natsD p.2.2.1)], 0, []⟩)
  (fun p => p.2.2.2 <= (ins l w).length /\ d < p.2.2.1.length /\ p.2.2.1[d]? = some w /\ p.2.2.1.length <= k /\ KI k l p.1 p.2.1 p.2.2.1 (p.2.2.1.take (d + 1)) (some w) ((ins l w).drop p.2.2.2)) (fun p => (ins l w).length - p.2.2.2) (left, lev, q, 0) ⟨Nat.zero_le _, hdl, hw, hql, hS⟩ ?_ ?_
 ·exact le_slots' (by simp only [go_sem, Int.natCast_zero])
 clear hS hwT htk hnw hd2 hw hwq hdl hde hql hI hdq left lev q
 rintro ⟨left, lev, q, j⟩ ⟨hj, hdl, hw, hql, hI⟩
 simp only at hj hdl hw hql hI
 refine sem_of_awp (Γ := tbl tabLV) tabLV_ok _ _ _ ?_
 cases hd3 : (ins l w).drop j with
 | nil =>
  have := end_of_drop hd3 hj
  have hj2 : ¬ (j : Int) < (ins l w).length := by omega
  rw [hd3] at hI
  simp only [go_sem, hj2]
  refine ⟨inR_i64.2 (by omega), (left, lev, q, d + 1), ⟨by simp only; omega, hI.stop⟩, by simp only; omega, ?_⟩
  exact le_slots' (by simp only [go_sem, Int.natCast_add, Int.cast_ofNat_Int])
 | cons v r =>
  have hlt := lt_of_drop hd3
  have hil := ins_len l w
  have hj2 : (j : Int) < (ins l w).length := by omega
  have hj0 : (0 : Int) <= j := Int.natCast_nonneg j
  have hn := nth_of_drop (f := natD) hd3
  have hvm := mem_of_drop hd3
  obtain ⟨e, he, hes, het⟩ := mem_ins.1 hvm
  have hvn : v < k := by rw [← hes]; exact (hg.src e he).2
  have hvn2 : (v : Int) < k := by omega
  rw [hd3] at hI
  have hcnt := hI.cnt v hvn
  rw [List.count_cons_self] at hcnt
  have hnew := hI.step hvn (by rw [List.take_add_one, hw]; simp) ⟨e, he, hes, het⟩
  have hll2 := hI.ll
  have hlv2 := hI.lv
  have gl := nats_at (l := left) 0 (show v < left.length by omega)
  have gv := nats_at (l := lev) 0 (show v < lev.length by omega)
  have gw := nats_at (l := lev) 0 (show w < lev.length by omega)
  have hnw := nats_nth hw
  have hd2 : (d : Int) < q.length := by omega
  have hmx : max ((lev.getD v 0 : Nat) : Int) (((lev.getD w 0 : Nat) : Int) + 1) = ((max (lev.getD v 0) (lev.getD w 0 + 1) : Nat) : Int) := by omega
  have hsb : ((left.getD v 0 : Nat) : Int) - 1 = ((left.getD v 0 - 1 : Nat) : Int) := by omega
  have gl2 := nats_at (l := left.set v (left.getD v 0 - 1)) 0 (i := v) (by rw [List.length_set]; omega)
  rw [getD_set', if_pos ⟨rfl, by omega⟩] at gl2
  simp only [go_sem, hj2, hj0, hn, hlt, nats_len]
  refine sem_drawM (ob := 2) (pf := []) (mf := []) (ms := []) mixed tabLV_ok (fun g _ _ _ _ _ h => by cases h) noMk [0, 1, 2, 3, 4, 5, 6, 7, 8, 9, 10, 11, 12, 13, 14, 15, 16] (by kernel_rfl) ?_
  simp only [go_sem, chainM, opm, hvn, hvn2, hwn, hwn2, nats_len, hlv2, hll2, gv, gw, gl, hnw, hd2, hdl, hmx, hsb, nats_upd, List.length_set, gl2]
  have huw := hI.uw w rfl
  rw [List.length_take] at huw
  have hrl := rest_le l v
  have hlb : left.getD v 0 <= 30000 := by
   have h1 : rest l (q.take (d + 1)) v <= l.length := List.countP_le_length
   have h2 : r.length <= (ins l w).length := by have := congrArg List.length hd3; simp at this; omega
   have h3 := List.count_le_length (a := v) (l := r)
   omega
  refine ⟨inR_i64.2 (by omega), inR_i64.2 (by omega), ?_⟩
  have hdr := drop_cons hd3
  by_cases hz : left.getD v 0 - 1 = 0
  ·have hz2 : ((left.getD v 0 - 1 : Nat) : Int) = 0 := by omega
   rw [if_pos hz] at hnew
   have hql2 : (q ++ [v]).length <= k := nodup_le hnew.nd hnew.qn
   rw [List.length_append, List.length_singleton] at hql2
   simp only [go_sem, hz2, nats_take, nats_len, nats_snoc]
   refine ⟨by omega, by omega, inR_i64.2 (by omega), (left.set v (left.getD v 0 - 1), lev.set v (max (lev.getD v 0) (lev.getD w 0 + 1)), q ++ [v], j + 1), ⟨by simp only; omega, by simp; omega, by simp only; rw [List.getElem?_append_left hdl]; exact hw, by simp; omega, ?_⟩, by simp only; omega, ?_⟩
   ·simp only [hdr]
    rw [List.take_append_of_le_length (by omega)]
    exact hnew
   ·refine le_end (own := [_, _, _, _]) (ex := [_]) (Nat.zero_le _) ?_ ?_ ?_
    ·simp only [go_sem, Int.natCast_add, Int.cast_ofNat_Int, List.length_append, List.length_cons, List.length_nil, Nat.zero_add]
    ·simp only [go_sem]
    ·simp only [go_sem, Obj.under, AV.unders, AV.under]
  ·have hz2 : ¬ ((left.getD v 0 - 1 : Nat) : Int) = 0 := by omega
   rw [if_neg hz] at hnew
   simp only [go_sem, hz2]
   refine ⟨inR_i64.2 (by omega), (left.set v (left.getD v 0 - 1), lev.set v (max (lev.getD v 0) (lev.getD w 0 + 1)), q, j + 1), ⟨by simp only; omega, hdl, hw, hql, by simp only [hdr]; exact hnew⟩, by simp only; omega, ?_⟩
   exact le_slots' (by simp only [go_sem, Int.natCast_add, Int.cast_ofNat_Int])
end Go.AM

