/- Own work over the model of the kit. -/
import Derived.Test.YtaecpbaaadpfgaaD18
import Derived.Test.YtaecpbaaadpfgaaD11
set_option linter.unusedSimpArgs false
set_option linter.unusedVariables false
set_option maxHeartbeats 4000000
set_option maxRecDepth 8000
namespace Go.AM
open Go Go.Proofs
def idxBoR (ds : List D) (v : AV) : Prop := ∃ (l : List Bool) (x : Bool), ds = [.sl none (boolsD l), .bool x] /\ l.length < 4611686018427387904 /\ v = .dat (.int .i64 (idxG x 0 l))
theorem idxBo_ok : OkF Try.prog 24 (dataC idxBoR) := by
 refine okF_data Try.func24 rfl (by decide) ?_
 rintro ds v ⟨l, x, rfl, hl, rfl⟩
 generalize hv : idxG x 0 l = V
 refine sem_of_awp (Γ := tbl []) okG_nil _ _ _ ?_
 have fin : ∀ s own (b c : Int), b = c -> s.getD 4 .top = .dat (.int .i64 b) -> post Try.prog Try.f24 (.dat (.int .i64 c)) [] [] .ret ⟨s, own, 0, []⟩ := fun s own b c e h => by
  subst e
  exact post_data (.inl rfl) [4] rfl trivial (by simp only [tmpsOf, h]; rfl)
 simp only [go_sem, Try.ntmps24]
 refine sem_loop (fun k : Nat => ⟨slotsOf 19 [(0, .dat (.sl none (boolsD l))), (1, .dat (.bool x)), (4, .dat (.int .i64 0)), (7, .dat (.int .i64 l.length)), (8, .dat (.int .i64 k))], [], 0, []⟩)
  (fun k => k <= l.length /\ idxG x k (l.drop k) = V) (fun k => l.length - k) 0 ⟨Nat.zero_le _, hv⟩ ?_ ?_
 ·exact le_slots' (by simp only [go_sem, Int.natCast_zero])
 ·rintro k ⟨hk, hI⟩
  refine sem_of_awp (Γ := tbl []) okG_nil _ _ _ ?_
  cases hd : l.drop k with
  | nil =>
   have := end_of_drop hd hk
   have hk2 : ¬ (k : Int) < l.length := by omega
   simp only [go_sem, hk2]
   refine fin _ _ _ _ ?_ rfl
   rw [← hI, hd]; rfl
  | cons c q =>
   have hlt := lt_of_drop hd
   have hk2 : (k : Int) < l.length := by omega
   have hk0 : (0 : Int) <= k := Int.natCast_nonneg k
   have hn := nth_of_drop (f := .bool) hd
   rw [hd, idxG] at hI
   by_cases he : x = c
   ·have hb : (x == c) = true := by simp [he]
    simp only [go_sem, hk2, hk0, hn, hb]
    rw [if_pos he] at hI
    exact fin _ _ _ _ hI rfl
   ·have hb : (x == c) = false := by simp [he]
    simp only [go_sem, hk2, hk0, hn, hb]
    rw [if_neg he] at hI
    refine ⟨inR_i64.2 (by omega), k + 1, ⟨by omega, by rw [drop_cons hd]; exact hI⟩, by omega, ?_⟩
    exact le_slots' (by simp only [go_sem, Int.natCast_add, Int.cast_ofNat_Int])
def contIR (ds : List D) (v : AV) : Prop := ∃ (l : List Nat) (x : Nat), ds = [natlD l, .int .i64 x] /\ l.length <= 10000 /\ v = .dat (.bool (l.contains x))
abbrev tabCI : List (Nat × Contract) := [(57, dataC idxIR)]
theorem tabCI_ok : OkG Try.prog (tbl tabCI) := okG_cons idxI_ok okG_nil
theorem idxG_ge {l : List Nat} {x : Nat} {i : Nat} : decide (0 <= idxG (x : Int) i (l.map Int.ofNat)) = l.contains x := by
 rw [Bool.eq_iff_iff, decide_eq_true_iff, idxG_mem]
 simp only [List.mem_map, List.contains_iff_mem]
 constructor
 ·rintro ⟨a, h1, h2⟩
  have : a = x := by have h2' : (a : Int) = x := h2; omega
  exact this ▸ h1
 ·exact fun h => ⟨x, h, rfl⟩
theorem contI_ok : OkF Try.prog 49 (dataC contIR) := by
 refine okF_data Try.func49 rfl (by decide) ?_
 rintro ds v ⟨l, x, rfl, hl, rfl⟩
 refine sem_of_awp (Γ := tbl tabCI) tabCI_ok _ _ _ ?_
 simp only [go_sem, Try.ntmps49, natlD]
 have e : natsD l = (l.map Int.ofNat).map (.int .i64) := by simp [natD]
 refine call_data idxIR (by simp) [natlD l, .int .i64 x] _ rfl ⟨l.map Int.ofNat, x, by rw [← e], by rw [List.length_map]; omega, rfl⟩ (.inl rfl) ?_
 simp only [go_sem, idxG_ge]
 exact post_data (.inl rfl) [4] rfl trivial rfl
abbrev natsR' (l : List Nat) : D := .sl none (natsD l)
abbrev rowsN' (M : List (List Nat)) : List (List D) := M.map natsD
theorem rowsN'_len {M : List (List Nat)} : (rowsN' M).length = M.length := by simp
theorem rowsN'_sl {M : List (List Nat)} : (rowsN' M).map (D.sl none) = natssD M := by simp [List.map_map, Function.comp_def]
theorem rowsN'_getD {M : List (List Nat)} {i : Nat} : (rowsN' M).getD i [] = natsD (M.getD i []) := by
 simp only [List.getD_eq_getElem?_getD, List.getElem?_map]; cases M[i]? <;> rfl
theorem rowsN'_set {M : List (List Nat)} {i : Nat} {r : List Nat} : (rowsN' M).set i (natsD r) = rowsN' (M.set i r) := by simp [List.map_set]
theorem natss_nth {M : List (List Nat)} {i : Nat} (h : i < M.length) : D.nth (natssD M) i = natlD (M.getD i []) := D.nth_map h
def freeR (aa : List AV) (obs : List Obj) (v : AV) (obs' ex : List Obj) (mv : List Nat) : Prop := ∃ (g : Gr) (ab nx : List (List Nat)) (w : Nat) (B : Nat -> Bool), aa = [.rptr (some 5) (grD g ab nx), .dat (.int .i64 w)] /\ FrOk g.st.length ab nx /\ w < 1000 /\ (∀ i, i < g.st.length -> (B i = true ↔ Fre ab nx w i)) /\
 obs = [] /\ obs' = [] /\ ex = [] /\ mv = [] /\ v = .dat (.sl none (boolsD (rngB g.st.length B)))
abbrev tabFR : List (Nat × Contract) := [(49, dataC contIR)]
theorem tabFR_ok : OkG Try.prog (tbl tabFR) := okG_cons contI_ok okG_nil
theorem free_ok : OkF Try.prog 25 (lentC freeR) := by
 refine okF_lent Try.func25 rfl (by decide) ?_
 rintro aa obs v0 obs' ex mv0 ⟨g, ab, nx, w, B, rfl, hF, hw, hB, rfl, rfl, rfl, rfl, rfl⟩
 generalize hn : g.st.length = n at *
 have hn4 := hF.n4
 have hla := hF.la
 have hln := hF.ln
 refine sem_of_awpK [4] (Γ := tbl tabFR) tabFR_ok _ _ _ ?_
 simp only [go_sem, Try.ntmps25, grD, sts_len, hn]
 refine ⟨Int.le_refl _, by omega, Int.le_refl _, by omega, ?_⟩
 rw [rngB_rep]
 refine sem_le (le_addnil 7 none rfl (Nat.zero_le _)) ?_
 refine sem_le (le_nilsF 0 none n rfl (Nat.zero_le _)) ?_
 have hpre : ∀ (x y z : Obj) (M : List AV), (([x, y] ++ [z]).set 0 (Obj.vec (famR ([x, y] ++ [z]).length (List.replicate n [])))) ++ famO none (List.replicate n []) = .vec (famR 3 (List.replicate n [])) :: y :: z :: famO none (List.replicate n []) := fun _ _ _ _ => rfl
 rw [hpre _ _ _ []]
 refine sem_of_awp (Γ := tbl tabFR) tabFR_ok _ _ _ ?_
 simp only [go_sem, natss_len, hln]
 generalize hGD : D.agg [D.sl (some 1) (stsD g.st), D.sl none (natssD ab), D.sl none (natssD nx), D.sl none (intsD g.frm), D.sl none (intsD g.who)] = GD
 refine sem_loop (fun p : Nat × List (List Nat) × (Nat -> Bool) × List Nat => ⟨slotsOf 100 [(0, .rptr (some 5) GD), (1, .dat (.int .i64 w)), (5, .sl 0 0 n), (6, .sl 1 0 n), (7, .sl 2 0 p.2.2.2.length), (29, .dat (.sl none (natssD nx))), (30, .dat (.int .i64 n)), (31, .dat (.int .i64 p.1))],
   .vec (famR 3 (rowsN' p.2.1)) :: .row none (boolsD (rngB n p.2.2.1)) :: .row none (natsD p.2.2.2) :: famO none (rowsN' p.2.1), 0, []⟩)
  (fun p => p.1 <= n /\ BefOk n nx p.1 [] p.2.1 /\ Fst n p.1 ab w p.2.2.1 p.2.2.2) (fun p => n - p.1) (0, List.replicate n [], fun _ => false, []) ⟨Nat.zero_le _, bef0, fst0⟩ ?_ ?_
 ·simp only [rowsN', List.map_replicate, natsD, List.map_nil, List.length_nil]
  exact le_slots' (by simp only [go_sem, Int.natCast_zero])
 rintro ⟨k, M, B1, q⟩ ⟨hk, hM, hB1⟩
 simp only at hk hM hB1 ⊢
 rcases Nat.lt_or_ge k n with hlt | hge
 case inr =>
  obtain rfl : k = n := by omega
  have hk2 : ¬ (k : Int) < k := by omega
  have hMn : (natssD M).length = k := by rw [natss_len, hM.len]
  have hMt : List.take k (natssD M) = natssD M := List.take_of_length_le (by rw [hMn]; exact Nat.le_refl _)
  have hS := hB1.fin hla (nx := nx)
  have hcnt := hB1.cnt
  have hMk := hM
  have hS0 := hS
  have hcnt0 := hcnt
  refine sem_le (le_famEnd (pre := [.vec (famR 3 (rowsN' M)), .row none (boolsD (rngB k B1)), .row none (natsD q)]) (s' := slotsOf 100 [(0, .rptr (some 5) GD), (1, .dat (.int .i64 w)), (5, .dat (.sl none (natssD M))), (6, .sl 1 0 k), (7, .sl 2 0 q.length), (30, .dat (.int .i64 k)), (31, .dat (.int .i64 k))]) (pre' := [.dead, .row none (boolsD (rngB k B1)), .row none (natsD q)]) 0 rfl (Nat.zero_le _) rfl ?_ ?_ ?_) ?_
  ·rw [rowsN'_sl]
   have f1 : ∀ x : AV, x = .rptr (some 5) GD -> frzF none 3 (rowsN' M) x = .rptr (some 5) GD := fun x hx => by subst hx; exact frzF_other none _ _ _ (fun _ _ _ _ => rfl)
   simp only [go_sem, frzFs, frzF_dat, frzF_top, frzF_nils, frzF_sl, f1, AV.frzs, AV.frz, Nat.lt_irrefl, Nat.zero_lt_succ, true_or, List.drop_zero, hMn, hMt, Nat.zero_add, Nat.le_refl, if_true, List.length_cons, List.length_nil, Nat.reduceAdd, Nat.reduceLT]
  ·simp only [go_sem]
  ·simp only [go_sem, Obj.allUnder, Obj.under]
  clear hM hB1 hcnt hS hk
  have hM : BefOk k nx k [] M := hMk
  have hS : Snd k ab nx w B1 q none [] := hS0
  have hcnt : 2 * cntF k B1 + q.length <= 2 * k := hcnt0
  refine sem_of_awp (Γ := tbl tabFR) tabFR_ok _ _ _ ?_
  simp only [go_sem, hk2]
  refine sem_loop (fun p : List Nat × List Nat × (Nat -> Bool) => ⟨slotsOf 100 [(5, .dat (.sl none (natssD M))), (6, .sl 1 0 k), (7, .sl 2 p.1.length p.2.1.length)], [.dead, .row none (boolsD (rngB k p.2.2)), .row none (natsD (p.1 ++ p.2.1))], 0, []⟩)
   (fun p => Snd k ab nx w p.2.2 p.2.1 none [] /\ 2 * cntF k p.2.2 + p.2.1.length <= 2 * k /\ p.1.length + p.2.1.length <= 100000) (fun p => 2 * cntF k p.2.2 + p.2.1.length) ([], q, B1) ⟨hS, hcnt, by simp only [List.length_nil]; omega⟩ ?_ ?_
  ·exact le_slots' (by simp only [go_sem])
  clear hS hcnt hS0 hcnt0 hMk
  rintro ⟨pre, qq, B2⟩ ⟨hS, hcnt, hlen⟩
  simp only at hS hcnt hlen ⊢
  cases qq with
  | nil =>
   have hfin : rngB k B2 = rngB k B := rngB_congr fun j hj => by
    rw [Bool.eq_iff_iff, hS.done j, hB j hj]
   rw [hfin]
   refine sem_le (le_freeze 1 (ag := none) rfl (Nat.zero_le _)) ?_
   refine sem_of_awp (Γ := tbl tabFR) tabFR_ok _ _ _ ?_
   have h1 : List.take k (boolsD (rngB k B)) = boolsD (rngB k B) := List.take_of_length_le (by simp)
   have h0 : ¬ (0 : Int) < 0 := by omega
   simp only [go_sem, h0, h1, bools_len, rngB_len, Nat.le_refl, List.drop_zero, List.length_nil, Int.natCast_zero]
   exact post_data (.inl rfl) [4] rfl trivial rfl
  | cons v r =>
  have hv := (hS.snd v (hS.qm v (by simp))).1
  have hv2 : (v : Int) < k := by omega
  have hv0 : (0 : Int) <= v := Int.natCast_nonneg v
  have hp1 : (0 : Int) < ((r.length + 1 : Nat) : Int) := by omega
  have hp2 : 0 < r.length + 1 := by omega
  have hp3 : pre.length < (natsD (pre ++ v :: r)).length := by simp
  have hqn : D.nth (natsD (pre ++ v :: r)) pre.length = .int .i64 v := by simp [D.nth, natD]
  have hMv : D.nth (natssD M) v = natlD (M.getD v []) := natss_nth (by rw [hM.len]; exact hv)
  have hlb := hM.bnd v
  simp only [List.length_nil, Nat.add_zero] at hlb
  have hlm := hM.mem v
  generalize M.getD v [] = l at *
  refine sem_of_awp (Γ := tbl tabFR) tabFR_ok _ _ _ ?_
  simp only [go_sem, hp1, hp2, hqn, hv2, hv0, hMn, hMv, natlD, nats_len]
  refine ⟨by omega, ?_⟩
  refine sem_loop (fun p : Nat × List Nat × List Nat × (Nat -> Bool) => ⟨slotsOf 100 [(5, .dat (.sl none (natssD M))), (6, .sl 1 0 k), (7, .sl 2 p.2.1.length (p.2.2.1.length + 1)), (80, .dat (.sl none (natsD l))), (81, .dat (.int .i64 l.length)), (82, .dat (.int .i64 p.1))], [.dead, .row none (boolsD (rngB k p.2.2.2)), .row none (natsD (p.2.1 ++ v :: p.2.2.1))], 0, []⟩)
   (fun p => p.1 <= l.length /\ Snd k ab nx w p.2.2.2 p.2.2.1 (some v) (l.take p.1) /\ 2 * cntF k p.2.2.2 + (p.2.2.1.length + 1) <= 2 * cntF k B2 + (r.length + 1) /\ p.2.1.length + (p.2.2.1.length + 1) <= 100000) (fun p => l.length - p.1) (0, pre, r, B2) ⟨Nat.zero_le _, by simpa using hS.start, by simp only; omega, by simp only [List.length_cons] at hlen ⊢; omega⟩ ?_ ?_
  ·exact le_slots' (by simp only [go_sem, Int.natCast_zero])
  rintro ⟨j, pre2, r2, B3⟩ ⟨hj, hS3, hcnt3, hlen3⟩
  simp only at hj hS3 hcnt3 hlen3 ⊢
  simp only [List.length_cons] at hcnt hlen
  refine sem_of_awp (Γ := tbl tabFR) tabFR_ok _ _ _ ?_
  cases hd : l.drop j with
  | nil =>
   obtain rfl : j = l.length := end_of_drop hd hj
   have hj2 : ¬ (l.length : Int) < l.length := by omega
   rw [List.take_length] at hS3
   have hs1 : (1 : Int) <= ((r2.length + 1 : Nat) : Int) := by omega
   have hs2 : (((r2.length + 1 : Nat) : Int) - 1).toNat = r2.length := by omega
   simp only [go_sem, hj2, hs1, hs2, Int.le_refl]
   have hst := hS3.stop fun i hi => (hlm i hv).2 (.inl ⟨by
    rcases Nat.lt_or_ge i k with h1 | h1
    ·exact h1
    ·rw [List.getD_eq_getElem?_getD, List.getElem?_eq_none (by omega)] at hi
     simp at hi, hi⟩)
   refine ⟨(pre2 ++ [v], r2, B3), ⟨hst, by simp only; omega, by simp only [List.length_append, List.length_cons, List.length_nil]; omega⟩, by simp only [List.length_cons]; omega, ?_⟩
   simp only [List.append_assoc, List.cons_append, List.nil_append, List.length_append, List.length_cons, List.length_nil]
   exact le_slots' (by simp only [go_sem])
  | cons i r3 =>
  have hltj := lt_of_drop hd
  have hj2 : (j : Int) < l.length := by omega
  have hj0 : (0 : Int) <= j := Int.natCast_nonneg j
  have hin : D.nth (natsD l) j = .int .i64 i := nth_of_drop hd
  have hi := (hlm i hv).1 (mem_of_drop hd)
  simp only [List.not_mem_nil, and_false, or_false] at hi
  obtain ⟨hik, hiv⟩ := hi
  have hi2 : (i : Int) < k := by omega
  have hi0 : (0 : Int) <= i := Int.natCast_nonneg i
  have hbn : D.nth (boolsD (rngB k B3)) i = .bool (B3 i) := rngB_get hik
  cases hb : B3 i with
  | true =>
   rw [hb] at hbn
   have hS4 := hS3.old hb
   rw [← take_of_drop hd] at hS4
   simp only [go_sem, hj2, hj0, hltj, hin, nats_len, hik, hi2, hi0, hbn, bools_len, rngB_len]
   refine ⟨inR_i64.2 (by omega), (j + 1, pre2, r2, B3), ⟨hltj, hS4, hcnt3, hlen3⟩, by simp only; omega, ?_⟩
   exact le_slots' (by simp only [go_sem, Int.natCast_add, Int.cast_ofNat_Int])
  | false =>
   rw [hb] at hbn
   have hS4 := hS3.new hiv hik
   rw [← take_of_drop hd] at hS4
   have hset := rngB_upd (B := B3) hik
   have hcu := cntF_upd hik hb
   have hdt : List.take (r2.length + 1) (List.drop pre2.length (natsD (pre2 ++ v :: r2))) = natsD (v :: r2) := by
    rw [natsD, List.map_append, List.drop_left' (by simp)]
    exact List.take_of_length_le (by simp)
   have hln3 : (natsD (pre2 ++ v :: r2)).length = pre2.length + (r2.length + 1) := by simp
   simp only [go_sem, hj2, hj0, hltj, hin, nats_len, hik, hi2, hi0, hbn, bools_len, rngB_len, hset, hdt, hln3, Nat.le_refl]
   refine ⟨by omega, by omega, inR_i64.2 (by omega), (j + 1, [], r2 ++ [i], updB B3 i), ⟨hltj, hS4, by simp only [List.length_append, List.length_cons, List.length_nil]; omega, by simp only [List.length_append, List.length_cons, List.length_nil]; omega⟩, by simp only; omega, ?_⟩
   have hqa : natsD ([] ++ v :: (r2 ++ [i])) = natD v :: (List.map natD r2 ++ [D.int .i64 i]) := by simp
   simp only [hqa, List.length_append, List.length_cons, List.length_nil]
   refine le_end (own := [_, _, _]) (ex := [_]) (Nat.zero_le _) ?_ ?_ ?_
   ·simp only [go_sem, Int.natCast_add, Int.cast_ofNat_Int]
   ·simp only [go_sem]
   ·simp only [go_sem, Obj.allUnder, Obj.under, AV.unders, AV.under]
 have hk2 : (k : Int) < n := by omega
 have hk0 : (0 : Int) <= k := Int.natCast_nonneg k
 obtain ⟨hl24, hlw⟩ := hF.rn (nx.getD k []) (by rw [List.getD_eq_getElem?_getD, List.getElem?_eq_getElem (by omega)]; exact List.getElem_mem _)
 have hln2 : D.nth (natssD nx) k = natlD (nx.getD k []) := natss_nth (by omega)
 generalize hl : nx.getD k [] = l at *
 refine sem_of_awp (Γ := tbl tabFR) tabFR_ok _ _ _ ?_
 simp only [go_sem, hk2, hk0, hlt, hln2, natlD, natss_len, nats_len, hln]
 refine sem_loop (fun p : Nat × List (List Nat) => ⟨slotsOf 100 [(0, .rptr (some 5) GD), (1, .dat (.int .i64 w)), (5, .sl 0 0 n), (6, .sl 1 0 n), (7, .sl 2 0 q.length), (8, .dat (.int .i64 k)), (29, .dat (.sl none (natssD nx))), (30, .dat (.int .i64 n)), (31, .dat (.int .i64 k)), (36, .dat (.sl none (natsD l))), (37, .dat (.int .i64 l.length)), (38, .dat (.int .i64 p.1))],
   .vec (famR 3 (rowsN' p.2)) :: .row none (boolsD (rngB n B1)) :: .row none (natsD q) :: famO none (rowsN' p.2), 0, []⟩)
  (fun p => p.1 <= l.length /\ BefOk n nx k (l.take p.1) p.2) (fun p => l.length - p.1) (0, M) ⟨Nat.zero_le _, by rw [List.take_zero]; exact hM⟩ ?_ ?_
 ·exact le_slots' (by simp only [go_sem, Int.natCast_zero])
 clear hM
 rintro ⟨j, M⟩ ⟨hj, hM⟩
 simp only at hj hM ⊢
 refine sem_of_awp (Γ := tbl tabFR) tabFR_ok _ _ _ ?_
 cases hd : l.drop j with
 | nil =>
  obtain rfl : j = l.length := end_of_drop hd hj
  have hj2 : ¬ (l.length : Int) < l.length := by omega
  rw [List.take_length] at hM
  have hab1 : D.nth (natssD ab) k = natlD (ab.getD k []) := natss_nth (by omega)
  have hab2 : (ab.getD k []).length <= 24 := hF.ra _ (by rw [List.getD_eq_getElem?_getD, List.getElem?_eq_getElem (by omega)]; exact List.getElem_mem _)
  simp only [go_sem, hj2, hab1, hk2, hk0, hlt, natss_len, hla, ← hGD]
  refine call_data contIR (by simp) [natlD (ab.getD k []), .int .i64 w] _ rfl ⟨_, w, rfl, by omega, rfl⟩ (.inl rfl) ?_
  cases hc : (ab.getD k []).contains w with
  | true =>
   have hmem : w ∈ ab.getD k [] := by simpa using hc
   have hB1' : B1 k = false := by
    cases hb : B1 k with
    | false => rfl
    | true => have := ((hB1.b k).1 hb).1; omega
   have hq1 := hB1.cnt
   have hset := rngB_upd (B := B1) hlt
   have hqt : List.take q.length (natsD q) = natsD q := nats_take
   have hqa : natsD (q ++ [k]) = natsD q ++ [D.int .i64 k] := by simp
   have hkR := famR_kills 3 (rowsN' M) 2 (.inl (by omega))
   simp only [go_sem, hk2, hk0, hlt, bools_len, rngB_len, hset, hqt, nats_len, Nat.le_refl, hkR, famO_kill, famO_killP, getA0, lenA1]
   refine ⟨by omega, by omega, inR_i64.2 (by omega), (k + 1, M, updB B1 k, q ++ [k]), ⟨hlt, hM.next hl hl24, hB1.yes hlt hmem⟩, by simp only; omega, ?_⟩
   simp only [hqa, List.length_append, List.length_cons, List.length_nil]
   refine le_endF (pre := [_, _, _]) (Nat.zero_le _) ?_ ?_ ?_
   ·simp only [go_sem, Int.natCast_add, Int.cast_ofNat_Int]
   ·simp only [go_sem]
   ·refine ⟨famR_under _ _ _ (by simp only [List.length_cons, List.length_nil]; omega), trivial, trivial, trivial⟩
  | false =>
   have hmem : ¬ w ∈ ab.getD k [] := by simpa using hc
   simp only [go_sem]
   refine ⟨inR_i64.2 (by omega), (k + 1, M, B1, q), ⟨hlt, hM.next hl hl24, hB1.no hmem⟩, by simp only; omega, ?_⟩
   exact le_slots' (by simp only [go_sem, Int.natCast_add, Int.cast_ofNat_Int])
 | cons v r =>
 have hltj := lt_of_drop hd
 have hj2 : (j : Int) < l.length := by omega
 have hj0 : (0 : Int) <= j := Int.natCast_nonneg j
 have hvn : D.nth (natsD l) j = .int .i64 v := nth_of_drop hd
 have hv := hlw v (mem_of_drop hd)
 have hv2 : (v : Int) < n := by omega
 have hv0 : (0 : Int) <= v := Int.natCast_nonneg v
 have hMl : v < (rowsN' M).length := by rw [rowsN'_len, hM.len]; exact hv
 have hrow := rowsN'_getD (M := M) (i := v)
 have hR := famR_at (b := 3) hMl
 rw [hrow] at hR
 have hO := famO_get0 (ag := none) hMl
 rw [hrow] at hO
 have hK := famR_killA (b := 3) hMl
 have hS := fun l' => famO_setA (ag := none) (l := l') hMl
 have hFl := famR_length 3 (rowsN' M)
 rw [rowsN'_len, hM.len] at hFl
 have hne : ¬ (famO none (rowsN' M)).length = v := by rw [famO_length, rowsN'_len, hM.len]; omega
 have hne0 : ¬ 0 = v + 3 := by omega
 have hne1 : ¬ 1 = v + 3 := by omega
 have hne2 : ¬ 2 = v + 3 := by omega
 have hbnd := hM.bnd v
 have hMp := hM.push hv
 rw [← take_of_drop hd] at hMp
 have hltj24 : (l.take j).length <= 24 := by rw [List.length_take]; omega
 simp only [go_sem, hj2, hj0, hltj, hvn, nats_len, hv, hv2, hv0, hR, hFl, hO, hK, hS, hne, hne0, hne1, hne2, getA0, getA1, setA0, lenA1, famO_getP hMl, famO_setP hMl, hrow, famO_kill, famO_killP, List.append_assoc, List.cons_append, List.nil_append, List.set_set, nats_take, if_false]
 refine ⟨by omega, by omega, inR_i64.2 (by omega), (j + 1, M.set v (M.getD v [] ++ [k])), ⟨by simp only; omega, hMp⟩, by simp only; omega, ?_⟩
 have hnk : natsD (M.getD v []) ++ [D.int .i64 k] = natsD (M.getD v [] ++ [k]) := by simp
 rw [hnk, famR_setA (l := natsD (M.getD v [] ++ [k])) (by simp), rowsN'_set]
 refine le_endF (pre := [_, _, _]) (Nat.zero_le _) ?_ ?_ ?_
 ·simp only [go_sem, Int.natCast_add, Int.cast_ofNat_Int]
 ·simp only [go_sem]
 ·refine ⟨famR_under _ _ _ (by simp only [List.length_cons, List.length_nil]; omega), trivial, trivial, trivial⟩
end Go.AM
namespace Go.AM
open Go Go.Proofs
def revG (l : List Int) (k p : Nat) : Int := if p < k ∨ l.length <= p + k then l.getD (l.length - 1 - p) 0 else l.getD p 0
theorem rngM_of (l : List Int) : rngM l.length (fun p => l.getD p 0) = l := by
 refine List.ext_getElem (by simp) fun i h1 h2 => ?_
 simp [List.getD_eq_getElem?_getD, h2]
theorem revG_0 (l : List Int) : rngM l.length (revG l 0) = l := by
 refine (rngM_congr fun p hp => ?_).trans (rngM_of l)
 unfold revG; rw [if_neg (by omega)]
theorem revG_end (l : List Int) {k : Nat} (h : l.length <= 2 * k + 1) : rngM l.length (revG l k) = l.reverse := by
 refine List.ext_getElem (by simp) fun i h1 h2 => ?_
 simp only [List.length_reverse] at h2
 simp only [List.getElem_map, List.getElem_range, List.getElem_reverse, revG]
 split
 ·rw [List.getD_eq_getElem?_getD, List.getElem?_eq_getElem (by omega)]; rfl
 ·rw [List.getD_eq_getElem?_getD, List.getElem?_eq_getElem (by omega), Option.getD_some]
  congr 1; omega
def revR (aa : List AV) (obs : List Obj) (v : AV) (obs' ex : List Obj) (mv : List Nat) : Prop := ∃ l : List Int, aa = [.sl 0 0 l.length] /\ obs = [.row none (intsD l)] /\ l.length <= 100000 /\ obs' = [.row none (intsD l.reverse)] /\ ex = [] /\ mv = [] /\ v = .tup []
theorem reverse_ok : OkF Try.prog 26 (lentC revR) := by
 refine okF_lent Try.func26 rfl (by decide) ?_
 rintro aa obs v0 obs' ex mv0 ⟨l, rfl, rfl, hl, rfl, rfl, rfl, rfl⟩
 refine sem_of_awp (Γ := tbl []) okG_nil _ _ _ ?_
 simp only [go_sem, Try.ntmps26]
 refine ⟨inR_i64.2 (by omega), ?_⟩
 refine sem_loop (fun k : Nat => ⟨slotsOf 28 [(0, .sl 0 0 l.length), (2, .dat (.int .i64 k)), (3, .dat (.int .i64 ((l.length : Int) - 1 - k)))], [.row none (intsD (rngM l.length (revG l k)))], 1, []⟩)
  (fun k => k <= l.length) (fun k => l.length - k) 0 (Nat.zero_le _) ?_ ?_
 ·rw [revG_0]
  exact le_slots' (by simp only [go_sem, Int.natCast_zero, Int.sub_zero])
 rintro k hk
 refine sem_of_awp (Γ := tbl []) okG_nil _ _ _ ?_
 by_cases hlt : (k : Int) < (l.length : Int) - 1 - k
 case neg =>
  simp only [go_sem, hlt]
  rw [revG_end l (by omega)]
  refine post_resO (.inr rfl) [] rfl (fun _ h => h) ?_
  simp only [go_sem]
  exact Le.refl _
 have hk0 : (0 : Int) <= k := Int.natCast_nonneg k
 have hk1 : k < l.length := by omega
 have hk1' : (k : Int) < l.length := by omega
 obtain ⟨j, hj⟩ : ∃ j : Nat, (l.length : Int) - 1 - k = j := ⟨l.length - 1 - k, by omega⟩
 have hj0 : (0 : Int) <= j := Int.natCast_nonneg j
 have hj1 : j < l.length := by omega
 have hj1' : (j : Int) < l.length := by omega
 rw [hj] at hlt ⊢
 have hgk : D.nth (intsD (rngM l.length (revG l k))) k = .int .i64 (l.getD k 0) := by
  rw [rngM_get hk1, revG, if_neg (by omega)]
 have hgj : D.nth (intsD (rngM l.length (revG l k))) j = .int .i64 (l.getD j 0) := by
  rw [rngM_get hj1, revG, if_neg (by omega)]
 have hs1 : ((intsD (rngM l.length (revG l k))).set k (.int .i64 (l.getD j 0))).set j (.int .i64 (l.getD k 0)) = intsD (rngM l.length (revG l (k + 1))) := by
  rw [rngM_set (g' := fun p => if p = k then l.getD j 0 else revG l k p) hk1 (by simp) (fun i _ hne => by simp [hne])]
  refine rngM_set hj1 ?_ ?_
  ·unfold revG; rw [if_pos (by omega)]
   congr 1; omega
  ·intro i hi hne
   by_cases e : i = k
   ·subst e
    rw [if_pos rfl, revG, if_pos (by omega)]
    congr 1; omega
   ·rw [if_neg e]
    unfold revG
    by_cases h1 : i < k ∨ l.length <= i + k
    ·rw [if_pos (by omega), if_pos h1]
    ·rw [if_neg (by omega), if_neg h1]
 simp only [go_sem, hlt]
 refine sem_drawV [(13, [0]), (15, [0])] [] (pf := []) (mf := []) mixed okG_nil pureNo noMk (ones [0, 1, 2, 3, 4, 5, 6, 7, 8, 9, 10, 11, 12, 13, 14, 15]) (by kernel_rfl) ?_
 simp only [go_sem, hk0, hk1, hk1', hj0, hj1, hj1', hgk, hgj, hs1, ints_len, rngM_len]
 refine ⟨inR_i64.2 (by omega), inR_i64.2 (by omega), k + 1, by omega, by omega, ?_⟩
 rw [show (j : Int) - 1 = (l.length : Int) - 1 - (k + 1 : Nat) by omega]
 exact le_slots' (by simp only [go_sem, Int.natCast_add, Int.cast_ofNat_Int])
theorem frok_of {s : PSys} {x : PSt} (hV : Valid s x) {g : Gr} {ab nx : List (List Nat)} (h : reachG s x = some (g, ab, nx)) : FrOk g.st.length ab nx := by
 obtain ⟨hG, hcl, hab, hnx⟩ := reach_inv hV h
 have h24 : ∀ z ∈ g.st, (ableL s z).length <= 24 := fun z hz => by
  have h1 := able_len s z z.length
  have h2 := (hG.ok.val z hz).l24
  unfold ableL; omega
 refine ⟨hG.ok.le, by rw [hab, List.length_map], by rw [hnx, List.length_map], fun l hl => ?_, fun l hl => ?_⟩
 ·rw [hab] at hl
  obtain ⟨z, hz, rfl⟩ := List.mem_map.1 hl
  exact h24 z hz
 ·rw [hnx] at hl
  obtain ⟨z, hz, rfl⟩ := List.mem_map.1 hl
  refine ⟨by unfold nxRow; rw [List.length_map]; exact h24 z hz, fun v hv => ?_⟩
  unfold nxRow at hv
  obtain ⟨w, hw, rfl⟩ := List.mem_map.1 hv
  obtain ⟨i, hi⟩ := idxS_some (hcl z hz w hw)
  rw [hi, Option.getD_some]
  exact (idxS_lt hi).1
def bestF (n : Nat) (B : Nat -> Nat -> Bool) : Nat -> Int × Nat
 | 0 => (n, 0)
 | m + 1 => if 0 <= idxG false 0 (rngB n (B m)) /\ idxG false 0 (rngB n (B m)) < (bestF n B m).1 then (idxG false 0 (rngB n (B m)), m) else bestF n B m
theorem bestF_le (n : Nat) (B : Nat -> Nat -> Bool) : ∀ m, 0 <= (bestF n B m).1 /\ (bestF n B m).1 <= n
 | 0 => ⟨Int.natCast_nonneg n, Int.le_refl _⟩
 | m + 1 => by
  have ih := bestF_le n B m
  unfold bestF
  split
  ·rename_i h; exact ⟨h.1, by simp only; omega⟩
  ·exact ih
def chainF (g : Gr) : Nat -> Nat -> List Int
 | 0, _ => []
 | f + 1, i => if i = 0 then [] else g.who.getD i 0 :: chainF g f (g.frm.getD i 0).toNat
theorem chainF_len (g : Gr) : ∀ f i, (chainF g f i).length <= f
 | 0, _ => Nat.le_refl _
 | f + 1, i => by
  unfold chainF
  split
  ·exact Nat.zero_le _
  ·rw [List.length_cons]; have := chainF_len g f (g.frm.getD i 0).toNat; omega
def deadV (s : PSys) (B : Nat -> Nat -> Bool) : List Int × Int × Int := if checkE s ≠ 0 then ([], 0, checkE s) else match reachG s (iniX s) with
 | none => ([], 0, 9)
 | some (g, _, _) => if (bestF g.st.length B (iniX s).length).1 = g.st.length then ([], 0, 6) else ((chainF g 5000 (bestF g.st.length B (iniX s).length).1.toNat).reverse, (bestF g.st.length B (iniX s).length).2, 0)
def TabOk (s : PSys) (x : PSt) (B : Nat -> Nat -> Bool) : Prop := ∀ g ab nx, reachG s x = some (g, ab, nx) -> ∀ w i, i < g.st.length -> (B w i = true ↔ Fre ab nx w i)
def deadR (ds : List D) (v : AV) : Prop := ∃ (s : PSys) (B : Nat -> Nat -> Bool), ds = [sysD s] /\ s.fit /\ TabOk s (iniX s) B /\ v = .tup [.dat (.sl none (intsD (deadV s B).1)), .dat (.int .i64 (deadV s B).2.1), .dat (.int .i64 (deadV s B).2.2)]
abbrev tabXD : List (Nat × Contract) := [(12, dataC startXR), (23, dataC reachR), (25, lentC freeR), (24, dataC idxBoR), (26, lentC revR)]
theorem tabXD_ok : OkG Try.prog (tbl tabXD) := okG_cons xstart_ok (okG_cons xreach_ok (okG_cons free_ok (okG_cons idxBo_ok (okG_cons reverse_ok okG_nil))))
theorem xDeadlock_ok : OkF Try.prog 8 (dataC deadR) := by
 refine okF_data Try.func8 rfl (by decide) ?_
 rintro ds v ⟨s, B, rfl, hf, hB, rfl⟩
 generalize hv : deadV s B = V
 unfold deadV at hv
 refine sem_of_awp (Γ := tbl tabXD) tabXD_ok _ _ _ ?_
 simp only [go_sem, Try.ntmps8, sysD]
 refine call_data startXR (by simp) [sysD s] _ rfl ⟨s, rfl, hf, rfl⟩ (.inl rfl) ?_
 by_cases he : checkE s = 0
 case neg =>
  rw [if_pos he] at hv
  subst hv
  simp only [go_sem, he, stD]
  refine post_res (.inl rfl) [.tmp 2, .tmp 3, .tmp 4] rfl ?_
  simp only [go_sem, List.map_nil]
  exact le_fin (by simp only [go_sem]) (by simp only [go_sem])
 have hV := iniX_valid he
 rw [if_neg (by rw [he]; decide)] at hv
 rw [if_pos he, he]
 generalize iniX s = x at *
 have hx24 := hV.l24
 have hxl2 : (stacksD x).length = x.length := by simp
 simp only [go_sem, stD]
 refine call_data reachR (by simp) [sysD s, stD x] _ rfl ⟨s, x, rfl, hV, rfl⟩ (.inl rfl) ?_
 cases hr : reachG s x with
 | none =>
  rw [hr] at hv
  subst hv
  simp only [reachV, hr]
  simp only [go_sem]
  refine post_res (.inl rfl) [.tmp 2, .tmp 3, .tmp 4] rfl ?_
  simp only [go_sem, List.map_nil]
  exact le_fin (by simp only [go_sem]) (by simp only [go_sem])
 | some r =>
 obtain ⟨g, ab, nx⟩ := r
 rw [hr] at hv
 simp only at hv
 have hF := frok_of hV hr
 have hG := (reach_inv hV hr).1
 have hB := hB g ab nx hr
 have hn4 := hF.n4
 simp only [reachV, hr, grD]
 simp only [go_sem, sts_len, hxl2]
 generalize hGD : D.agg [D.sl (some 1) (stsD g.st), D.sl none (natssD ab), D.sl none (natssD nx), D.sl none (intsD g.frm), D.sl none (intsD g.who)] = GD
 refine sem_loop (fun k : Nat => ⟨slotsOf 87 [(7, .rptr (some 5) GD), (9, .dat (.int .i64 (bestF g.st.length B k).1)), (10, .dat (.int .i64 (bestF g.st.length B k).2)), (38, .dat (.int .i64 x.length)), (39, .dat (.int .i64 k))], [sysO s, stO x], 0, []⟩)
  (fun k => k <= x.length) (fun k => x.length - k) 0 (Nat.zero_le _) ?_ ?_
 ·exact le_slots' (by simp only [go_sem, Int.natCast_zero, bestF])
 rintro k hk
 refine sem_of_awp (Γ := tbl tabXD) tabXD_ok _ _ _ ?_
 rcases Nat.lt_or_ge k x.length with hlt | hge
 ·have hk2 : (k : Int) < x.length := by omega
  have hbl := bestF_le g.st.length B k
  simp only [go_sem, hk2]
  have hfr : freeR [.rptr (some 5) GD, .dat (.int .i64 k)] [] (.dat (.sl none (boolsD (rngB g.st.length (B k))))) [] [] [] := ⟨g, ab, nx, k, B k, by rw [← hGD]; rfl, hF, by omega, fun i hi => hB k i hi, rfl, rfl, rfl, rfl, rfl⟩
  refine call_lent freeR (by simp) [] hfr List.nodup_nil (by simp) rfl rfl rfl (by simp only [AV.unders, AV.under, and_self]) (by simp) (by simp) ?_
  simp only [go_sem]
  refine call_data idxBoR (by simp) [.sl none (boolsD (rngB g.st.length (B k))), .bool false] _ rfl ⟨_, false, rfl, by rw [rngB_len]; omega, rfl⟩ (.inl rfl) ?_
  generalize hat : idxG false 0 (rngB g.st.length (B k)) = a
  by_cases h1 : 0 <= a
  ·by_cases h2 : a < (bestF g.st.length B k).1
   ·have hb : bestF g.st.length B (k + 1) = (a, k) := by rw [bestF, hat, if_pos ⟨h1, h2⟩]
    simp only [go_sem, h1, h2]
    refine ⟨inR_i64.2 (by omega), k + 1, by omega, by omega, ?_⟩
    rw [hb]
    exact le_slots' (by simp only [go_sem, Int.natCast_add, Int.cast_ofNat_Int])
   ·have hb : bestF g.st.length B (k + 1) = bestF g.st.length B k := by rw [bestF, hat, if_neg (by omega)]
    simp only [go_sem, h1, h2]
    refine ⟨inR_i64.2 (by omega), k + 1, by omega, by omega, ?_⟩
    rw [hb]
    exact le_slots' (by simp only [go_sem, Int.natCast_add, Int.cast_ofNat_Int])
  ·have hb : bestF g.st.length B (k + 1) = bestF g.st.length B k := by rw [bestF, hat, if_neg (by omega)]
   simp only [go_sem, h1]
   refine ⟨inR_i64.2 (by omega), k + 1, by omega, by omega, ?_⟩
   rw [hb]
   exact le_slots' (by simp only [go_sem, Int.natCast_add, Int.cast_ofNat_Int])
 obtain rfl : k = x.length := by omega
 have hk2 : ¬ (x.length : Int) < x.length := by omega
 have hbl := bestF_le g.st.length B x.length
 generalize bestF g.st.length B x.length = b at *
 obtain ⟨b, who⟩ := b
 simp only at hv hbl
 by_cases hbn : b = g.st.length
 ·rw [if_pos hbn] at hv
  subst hv
  subst hbn
  simp only [go_sem, hk2, ← hGD, sts_len]
  refine post_res (.inl rfl) [.tmp 2, .tmp 3, .tmp 4] rfl ?_
  simp only [go_sem, List.map_nil]
  exact le_fin (by simp only [go_sem]) (by simp only [go_sem])
 rw [if_neg hbn] at hv
 simp only [go_sem, hk2, ← hGD, sts_len, hbn]
 obtain ⟨b, rfl⟩ : ∃ q : Nat, b = q := ⟨b.toNat, by omega⟩
 rw [Int.toNat_natCast] at hv
 have hg1 := hG.ok.l1
 have hg2 := hG.ok.l2
 refine sem_le (le_addnil 13 none rfl (Nat.zero_le _)) ?_
 rw [hGD]
 simp only [go_sem]
 refine sem_loop (fun p : List Int × Nat × Nat => ⟨slotsOf 87 [(7, .rptr (some 5) GD), (10, .dat (.int .i64 who)), (13, .sl 2 0 p.1.length), (14, .dat (.int .i64 p.2.1))], [sysO s, stO x, .row none (intsD p.1)], 0, []⟩)
  (fun p => p.2.1 < g.st.length /\ p.1 ++ chainF g p.2.2 p.2.1 = chainF g 5000 b /\ p.2.1 < p.2.2 /\ p.1.length + p.2.2 <= 5000) (fun p => p.2.1) ([], b, 5000) ⟨by simp only; omega, rfl, by simp only; omega, by simp only [List.length_nil]; omega⟩ ?_ ?_
 ·exact le_slots' (by simp only [go_sem])
 rintro ⟨l, i, f⟩ ⟨hi, hch, hif, hlf⟩
 simp only at hi hch hif hlf ⊢
 obtain ⟨f, rfl⟩ : ∃ f', f = f' + 1 := ⟨f - 1, by omega⟩
 rw [chainF] at hch
 by_cases h0 : i = 0
 ·subst h0
  rw [if_pos rfl, List.append_nil] at hch
  subst hch
  subst hv
  have hz : ¬ (0 : Int) < 0 := by omega
  refine sem_of_awp (Γ := tbl tabXD) tabXD_ok _ _ _ ?_
  simp only [go_sem, Int.natCast_zero, hz]
  have hrv : revR [.sl 0 0 (chainF g 5000 b).length] [.row none (intsD (chainF g 5000 b))] (.tup []) [.row none (intsD (chainF g 5000 b).reverse)] [] [] := ⟨_, rfl, rfl, by have := chainF_len g 5000 b; omega, rfl, rfl, rfl, rfl⟩
  refine call_lent revR (by simp) [2] hrv (by simp) (by simp) rfl rfl rfl (by simp only [AV.unders, AV.under, List.length_cons, List.length_nil]; exact ⟨by omega, trivial⟩) (by simp [Obj.under]) (fun j hj => by
   have : j = 0 := by simp only [List.length_cons, List.length_nil] at hj; omega
   subst this; rfl) ?_
  simp only [go_sem]
  have h1 : List.take (chainF g 5000 b).length (intsD (chainF g 5000 b).reverse) = intsD (chainF g 5000 b).reverse := List.take_of_length_le (by simp)
  have h2 : (chainF g 5000 b).length <= (intsD (chainF g 5000 b).reverse).length := by simp
  refine post_res (.inl rfl) [.tmp 2, .tmp 3, .tmp 4] rfl ?_
  simp only [go_sem]
  refine Le.trans (le_freeze 2 (ag := none) rfl (Nat.zero_le _)) ?_
  simp only [go_sem, h1, h2, ints_len, List.drop_zero, List.length_reverse, Nat.le_refl, resV, if_true]
  exact le_fin (by simp only [go_sem]) (by simp only [go_sem])
 ·rw [if_neg h0] at hch
  obtain ⟨a, w, e1, e2, e3, _, _, _⟩ := hG.prov i (by omega) hi
  rw [e1, e2, Int.toNat_natCast] at hch
  have hi1 : (0 : Int) < i := by omega
  have hi0 : (0 : Int) <= i := by omega
  have hi2 : (i : Int) < g.st.length := by omega
  have hw1 : D.nth (intsD g.who) i = .int .i64 w := (D.nth_map (f := D.int .i64) (by omega)).trans (by rw [show (default : Int) = 0 from rfl, e2])
  have hf1 : D.nth (intsD g.frm) i = .int .i64 a := (D.nth_map (f := D.int .i64) (by omega)).trans (by rw [show (default : Int) = 0 from rfl, e1])
  have hlt1 : List.take l.length (intsD l) = intsD l := ints_take
  refine sem_of_awp (Γ := tbl tabXD) tabXD_ok _ _ _ ?_
  simp only [go_sem, hi1, hi0, hi2, hi, ← hGD, hw1, hf1, ints_len, hg1, hg2, hlt1, Nat.le_refl]
  refine ⟨by omega, by omega, (l ++ [(w : Int)], a, f), ⟨by simp only; omega, by simp only [List.append_assoc, List.cons_append, List.nil_append]; exact hch, by simp only; omega, by simp only [List.length_append, List.length_cons, List.length_nil]; omega⟩, by simp only; omega, ?_⟩
  have hla : intsD (l ++ [(w : Int)]) = intsD l ++ [D.int .i64 w] := by simp
  simp only [hla, List.length_append, List.length_cons, List.length_nil]
  refine le_end (own := [_, _, _]) (ex := [_]) (Nat.zero_le _) ?_ ?_ ?_
  ·simp only [go_sem, Int.natCast_add, Int.cast_ofNat_Int]
  ·simp only [go_sem]
  ·simp only [go_sem, Obj.allUnder, Obj.under, AV.unders, AV.under]
end Go.AM
namespace Go.AM
open Go Go.Proofs
abbrev hshX (x : PSt) : Int := hashN (rkeyX x)
def lastH (S : List PSt) (h : Int) : Nat -> Int
 | 0 => -1
 | i + 1 => if hshX (S.getD i []) = h then (i : Int) else lastH S h i
theorem idxS_nd {S : List PSt} {t : PSt} {i : Nat} (hn : S.Nodup) (hi : i < S.length) (h : S.getD i [] = t) : idxS S t = some i := by
 have hg : S[i] = t := by rw [← h, List.getD_eq_getElem?_getD, List.getElem?_eq_getElem hi]; rfl
 obtain ⟨j, hj⟩ := idxS_some (S := S) (t := t) (hg ▸ List.getElem_mem hi)
 obtain ⟨hj1, hj2⟩ := idxS_lt hj
 have : j = i := (List.getElem_inj hn).1 (hj2.trans hg.symm)
 rw [hj, this]
abbrev headsL (S : List PSt) : List Int := rngM 1021 fun h => lastH S h S.length
abbrev chainL (S : List PSt) : List Int := rngM S.length fun i => lastH S (hshX (S.getD i [])) i
abbrev keysD (S : List PSt) : List D := S.map fun x => .str (rkeyX x)
abbrev intlD (l : List Int) : D := .sl none (intsD l)
abbrev intssD (L : List (List Int)) : List D := L.map intlD
abbrev rgB (n k : Nat) : Obj := .box [.sl 1 0 n, .sl 2 0 n, .sl 3 0 n, .sl 4 0 1021, .sl 5 0 k, .sl 6 0 n, .sl 7 0 n]
abbrev rgO (g : Gr) (nx : List (List Int)) : List Obj := [rgB g.st.length nx.length, .row (some 1) (stsD g.st), .row none (keysD g.st), .row none (intsD (chainL g.st)), .row none (intsD (headsL g.st)), .row none (intssD nx), .row none (intsD g.frm), .row none (intsD g.who)]
structure RgFit (g : Gr) : Prop where
 l1 : g.frm.length = g.st.length
 l2 : g.who.length = g.st.length
 le : g.st.length <= 5000
 nd : g.st.Nodup
 kf : ∀ x ∈ g.st, KFit x
def putF (g : Gr) (t : PSt) (a w : Int) : Gr × Nat := match idxS g.st t with
 | some i => (g, i)
 | none => (⟨g.st ++ [t], g.frm ++ [a], g.who ++ [w]⟩, g.st.length)
def putR (aa : List AV) (obs : List Obj) (v : AV) (obs' ex : List Obj) (mv : List Nat) : Prop := ∃ (g : Gr) (t : PSt) (a w : Int) (nx : List (List Int)), aa = [.ptr 0 0 0, .dat (stD t), .dat (.int .i64 a), .dat (.int .i64 w)] /\ RgFit g /\ KFit t /\ nx.length <= 5000 /\
 obs = rgO g nx /\ obs' = rgO (putF g t a w).1 nx /\ ex = [] /\ mv = [1, 2, 3, 6, 7] /\ v = .dat (.int .i64 (putF g t a w).2)
end Go.AM
namespace Go.AM
open Go Go.Proofs
def rInG (s : PSys) (k : Nat) (y : PSt) : List Nat -> Gr -> List Int -> Gr × List Int
 | [], g, nx => (g, nx)
 | w :: ws, g, nx => if ableB s y w = true then rInG s k y ws (putF g (takeX s y w) k w).1 (nx ++ [((putF g (takeX s y w) k w).2 : Int)]) else rInG s k y ws g (nx ++ [-1])
def rOutG (s : PSys) (n : Nat) : Nat -> Nat -> Gr -> List (List Int) -> Option (Gr × List (List Int))
 | 0, _, g, N => some (g, N)
 | f + 1, k, g, N => if k < g.st.length then
   (if 4096 < (rInG s k (g.st.getD k []) (List.range n) g []).1.st.length then none else rOutG s n f (k + 1) (rInG s k (g.st.getD k []) (List.range n) g []).1 (N ++ [(rInG s k (g.st.getD k []) (List.range n) g []).2]))
  else some (g, N)
def rReachG (s : PSys) (x : PSt) : Option (Gr × List (List Int)) := rOutG s x.length 4200 0 (g0 x) []
def rgD (g : Gr) (N : List (List Int)) : D := .agg [.sl (some 1) (stsD g.st), .sl none (keysD g.st), .sl none (intsD (chainL g.st)), .sl none (intsD (headsL g.st)), .sl none (intssD N), .sl none (intsD g.frm), .sl none (intsD g.who)]
def rReachV (s : PSys) (x : PSt) : AV := match rReachG s x with
 | none => .tup [.top, .dat (.bool false)]
 | some (g, N) => .tup [.rptr (some 7) (rgD g N), .dat (.bool true)]
def rReachR (ds : List D) (v : AV) : Prop := ∃ (s : PSys) (x : PSt), ds = [sysD s, stD x] /\ Valid s x /\ v = rReachV s x
structure RInv (s : PSys) (n : Nat) (g : Gr) : Prop where
 l1 : g.frm.length = g.st.length
 l2 : g.who.length = g.st.length
 nd : g.st.Nodup
 val : ∀ x ∈ g.st, Valid s x /\ x.length = n
theorem RInv.fit {s : PSys} {n : Nat} {g : Gr} (h : RInv s n g) (hl : g.st.length <= 5000) : RgFit g := ⟨h.l1, h.l2, hl, h.nd, fun x hx => val_kfit (h.val x hx).1⟩
theorem RInv.put {s : PSys} {n : Nat} {g : Gr} (h : RInv s n g) {t : PSt} (ht : Valid s t) (hn : t.length = n) (a w : Int) : RInv s n (putF g t a w).1 := by
 unfold putF
 cases hi : idxS g.st t with
 | some i => exact h
 | none =>
  refine ⟨by simp [h.l1], by simp [h.l2], ?_, ?_⟩
  ·simp only
   rw [List.nodup_append]
   refine ⟨h.nd, by simp, fun a ha b hb => ?_⟩
   rw [List.mem_singleton] at hb
   subst hb
   rintro rfl
   exact idxS_none.1 hi ha
  ·intro y hy
   rcases List.mem_append.1 hy with hy | hy
   ·exact h.val y hy
   ·rw [List.mem_singleton.1 hy]; exact ⟨ht, hn⟩
abbrev rgB2 (n k : Nat) : Obj := .box [.sl 3 0 n, .sl 4 0 n, .sl 5 0 n, .sl 6 0 1021, .sl 7 0 k, .sl 8 0 n, .sl 9 0 n]
abbrev rgO2 (s : PSys) (x : PSt) (g : Gr) (N : List (List Int)) : List Obj := [sysO s, stO x, rgB2 g.st.length N.length, .row (some 1) (stsD g.st), .row none (keysD g.st), .row none (intsD (chainL g.st)), .row none (intsD (headsL g.st)), .row none (intssD N), .row none (intsD g.frm), .row none (intsD g.who)]
end Go.AM
namespace Go.AM
open Go Go.Proofs
def rEnt (s : PSys) (S : List PSt) (y : PSt) (w : Nat) : Int := if ableB s y w = true then (((idxS S (takeX s y w)).getD 0 : Nat) : Int) else -1
def rRow (s : PSys) (S : List PSt) (y : PSt) : List Int := (List.range y.length).map (rEnt s S y)
structure NOk (n m : Nat) (ab nx : List (List Nat)) (N : List (List Int)) : Prop where
 len : N.length = n
 row : ∀ i, i < n -> (N.getD i []).length = m
 ent : ∀ i u, i < n -> u < m -> -1 <= (N.getD i []).getD u 0 /\ (N.getD i []).getD u 0 < n
 abl : ∀ i w, i < n -> w < m -> (0 <= (N.getD i []).getD w 0 ↔ w ∈ ab.getD i [])
 nxt : ∀ i (j : Nat), i < n -> ((∃ u, u < m /\ (N.getD i []).getD u 0 = j) ↔ j ∈ nx.getD i [])
theorem map_getD {α β : Type} {f : α -> β} {l : List α} {i : Nat} {d : β} {e : α} (h : i < l.length) : (l.map f).getD i d = f (l.getD i e) := by
 simp [List.getD_eq_getElem?_getD, List.getElem?_eq_getElem h]
end Go.AM
namespace Go.AM
open Go Go.Proofs
structure Rnd (n m : Nat) (ab nx : List (List Nat)) (N : List (List Int)) (w : Nat) (B : Nat -> Bool) : Prop where
 snd : ∀ i, B i = true -> i < n /\ Fre ab nx w i
 able : ∀ i, i < n -> w ∈ ab.getD i [] -> B i = true
theorem Rnd.done {n m : Nat} {ab nx : List (List Nat)} {N : List (List Int)} {w : Nat} {B : Nat -> Bool} (hN : NOk n m ab nx N) (h : Rnd n m ab nx N w B) (hc : ∀ i, i < n -> ∀ j, j ∈ nx.getD i [] -> B j = true -> B i = true) (hab0 : ∀ i, n <= i -> ab.getD i [] = []) (hnx0 : ∀ i, n <= i -> nx.getD i [] = []) (i : Nat) : B i = true ↔ Fre ab nx w i := by
 refine ⟨fun hi => (h.snd i hi).2, fun hf => ?_⟩
 induction hf with
 | @here i hw =>
  rcases Nat.lt_or_ge i n with h1 | h1
  ·exact h.able i h1 hw
  ·rw [hab0 i h1] at hw; cases hw
 | @next i j hj _ ih =>
  rcases Nat.lt_or_ge i n with h1 | h1
  ·exact hc i h1 j hj ih
  ·rw [hnx0 i h1] at hj; cases hj
def canR (aa : List AV) (obs : List Obj) (v : AV) (obs' ex : List Obj) (mv : List Nat) : Prop := ∃ (g : Gr) (ab nx : List (List Nat)) (N : List (List Int)) (m w : Nat) (B : Nat -> Bool), aa = [.rptr (some 7) (rgD g N), .dat (.int .i64 w)] /\ NOk g.st.length m ab nx N /\ g.st.length <= 4096 /\ m <= 24 /\ w < m /\ (∀ i, i < g.st.length -> (B i = true ↔ Fre ab nx w i)) /\
 (∀ i, g.st.length <= i -> ab.getD i [] = []) /\ (∀ i, g.st.length <= i -> nx.getD i [] = []) /\ obs = [] /\ obs' = [] /\ ex = [] /\ mv = [] /\ v = .dat (.sl none (boolsD (rngB g.st.length B)))
end Go.AM
namespace Go.AM
open Go Go.Proofs
theorem fre_any {ab nx : List (List Nat)} {w i : Nat} (h : Fre ab nx w i) : ∃ k, w ∈ ab.getD k [] := by
 induction h with
 | here hw => exact ⟨_, hw⟩
 | next _ _ ih => exact ih
theorem fre_first {s : PSys} {x : PSt} (hV : Valid s x) {g : Gr} {ab nx : List (List Nat)} (h : reachG s x = some (g, ab, nx)) {w : Nat} : ∀ i, i < g.st.length -> Fre ab nx w i -> Fre ab nx w 0 := by
 obtain ⟨hG, hcl, rfl, rfl⟩ := reach_inv hV h
 intro i
 induction i using Nat.strongRecOn with
 | _ i ih =>
  intro hi hf
  rcases Nat.eq_zero_or_pos i with rfl | hp
  ·exact hf
  ·obtain ⟨a, v, _, _, h3, h4, h5, h6⟩ := hG.prov i hp hi
   refine ih a h3 (by omega) (.next (j := i) ?_ hf)
   rw [show (g.st.map (nxRow s g.st)).getD a [] = nxRow s g.st (g.st.getD a []) from map_getD (e := []) (by omega)]
   unfold nxRow
   refine List.mem_map.2 ⟨v, mem_able.2 ⟨h4, h5⟩, ?_⟩
   rw [idxS_nd hG.nd hi h6]; rfl
theorem fre_0 {s : PSys} {x : PSt} (hV : Valid s x) {g : Gr} {ab nx : List (List Nat)} (h : reachG s x = some (g, ab, nx)) {w : Nat} : Fre ab nx w 0 ↔ anyW ab w = true := by
 have hF := frok_of hV h
 unfold anyW
 rw [List.any_eq_true]
 constructor
 ·intro hf
  obtain ⟨k, hk⟩ := fre_any hf
  rcases Nat.lt_or_ge k ab.length with h1 | h1
  ·refine ⟨ab.getD k [], ?_, by simpa using hk⟩
   rw [List.getD_eq_getElem?_getD, List.getElem?_eq_getElem h1]; exact List.getElem_mem h1
  ·rw [List.getD_eq_getElem?_getD, List.getElem?_eq_none h1] at hk
   simp at hk
 ·rintro ⟨l, hl, hw⟩
  obtain ⟨k, hk, rfl⟩ := List.getElem_of_mem hl
  refine fre_first hV h k (by rw [← hF.la]; exact hk) (.here ?_)
  rw [List.getD_eq_getElem?_getD, List.getElem?_eq_getElem hk]
  simpa using hw
theorem idxG_spec : ∀ (l : List Bool) (k : Nat), (idxG false k l = -1 /\ ∀ i, i < l.length -> l.getD i true = true) ∨ ∃ j, j < l.length /\ idxG false k l = (k + j : Nat) /\ l.getD j true = false /\ ∀ i, i < j -> l.getD i true = true
 | [], k => .inl ⟨rfl, fun i h => by simp at h⟩
 | b :: l, k => by
  cases b with
  | false => exact .inr ⟨0, by simp, by simp [idxG], by simp, fun i h => by omega⟩
  | true =>
   simp only [idxG, Bool.false_eq_true, if_false]
   rcases idxG_spec l (k + 1) with ⟨h1, h2⟩ | ⟨j, h1, h2, h3, h4⟩
   ·refine .inl ⟨h1, fun i hi => ?_⟩
    cases i with
    | zero => rfl
    | succ i => simp only [List.length_cons] at hi; simpa using h2 i (by omega)
   ·refine .inr ⟨j + 1, by simp only [List.length_cons]; omega, by rw [h2]; congr 1; omega, by simpa using h3, fun i hi => ?_⟩
    cases i with
    | zero => rfl
    | succ i => simpa using h4 i (by omega)
theorem rngB_at {n i : Nat} {f : Nat -> Bool} (h : i < n) : (rngB n f).getD i true = f i := by
 simp [rngB, List.getD_eq_getElem?_getD, h]
end Go.AM
namespace Go.AM
open Go Go.Proofs
def freStep (nx : List (List Nat)) (B : List Bool) : List Bool := List.zipWith (fun b l => b || l.any fun j => B.getD j false) B nx
def freL (ab nx : List (List Nat)) (w : Nat) : Nat -> List Bool
 | 0 => ab.map (·.contains w)
 | n + 1 => freStep nx (freL ab nx w n)
theorem freL_len {ab nx : List (List Nat)} {w : Nat} (h : ab.length = nx.length) : ∀ n, (freL ab nx w n).length = ab.length
 | 0 => by simp [freL]
 | n + 1 => by unfold freL freStep; rw [List.length_zipWith, freL_len h n, h, Nat.min_self]
theorem zip_getD {B : List Bool} {nx : List (List Nat)} {i : Nat} (h1 : i < B.length) (h2 : i < nx.length) : (freStep nx B).getD i false = (B.getD i false || (nx.getD i []).any fun j => B.getD j false) := by
 unfold freStep
 rw [List.getD_eq_getElem?_getD, List.getElem?_zipWith, List.getElem?_eq_getElem h1, List.getElem?_eq_getElem h2]
 simp [List.getD_eq_getElem?_getD, List.getElem?_eq_getElem h1, List.getElem?_eq_getElem h2]
theorem getD_ge {α : Type} {l : List α} {d : α} {i : Nat} (h : l.length <= i) : l.getD i d = d := by
 rw [List.getD_eq_getElem?_getD, List.getElem?_eq_none h]; rfl
theorem freL_sound {ab nx : List (List Nat)} {w : Nat} (h : ab.length = nx.length) : ∀ n i, (freL ab nx w n).getD i false = true -> Fre ab nx w i
 | 0, i, hi => by
  unfold freL at hi
  rcases Nat.lt_or_ge i ab.length with h1 | h1
  ·rw [map_getD (e := []) h1] at hi
   exact .here (by simpa using hi)
  ·rw [getD_ge (by simpa using h1)] at hi; cases hi
 | n + 1, i, hi => by
  unfold freL at hi
  rcases Nat.lt_or_ge i ab.length with h1 | h1
  ·rw [zip_getD (by rw [freL_len h]; exact h1) (by omega), Bool.or_eq_true] at hi
   rcases hi with hi | hi
   ·exact freL_sound h n i hi
   ·obtain ⟨j, hj, hb⟩ := List.any_eq_true.1 hi
    exact .next hj (freL_sound h n j hb)
  ·rw [getD_ge (by unfold freStep; rw [List.length_zipWith, freL_len h]; omega)] at hi; cases hi
theorem freL_base {ab nx : List (List Nat)} {w : Nat} (h : ab.length = nx.length) : ∀ n i, w ∈ ab.getD i [] -> (freL ab nx w n).getD i false = true
 | 0, i, hi => by
  unfold freL
  rcases Nat.lt_or_ge i ab.length with h1 | h1
  ·rw [map_getD (e := []) h1]; simpa using hi
  ·rw [getD_ge h1] at hi; cases hi
 | n + 1, i, hi => by
  unfold freL
  rcases Nat.lt_or_ge i ab.length with h1 | h1
  ·rw [zip_getD (by rw [freL_len h]; exact h1) (by omega), freL_base h n i hi]; rfl
  ·rw [getD_ge h1] at hi; cases hi
theorem freL_done {ab nx : List (List Nat)} {w n : Nat} (h : ab.length = nx.length) (hs : freStep nx (freL ab nx w n) = freL ab nx w n) (i : Nat) : (freL ab nx w n).getD i false = true ↔ Fre ab nx w i := by
 refine ⟨freL_sound h n i, fun hf => ?_⟩
 induction hf with
 | here hw => exact freL_base h n _ hw
 | @next i j hj _ ih =>
  rcases Nat.lt_or_ge i ab.length with h1 | h1
  ·rw [← hs, zip_getD (by rw [freL_len h]; exact h1) (by omega), Bool.or_eq_true]
   exact .inr (List.any_eq_true.2 ⟨j, hj, ih⟩)
  ·rw [getD_ge (by omega)] at hj; cases hj
theorem bestF_congr {n : Nat} {B C : Nat -> Nat -> Bool} : ∀ m, (∀ w, w < m -> B w = C w) -> bestF n B m = bestF n C m
 | 0, _ => rfl
 | m + 1, h => by
  unfold bestF
  rw [bestF_congr m (fun w hw => h w (by omega)), h m (Nat.lt_succ_self m)]
def deadC (s : PSys) (K : Nat) : Option (List Int × Int × Int) := match reachG s (iniX s) with
 | none => none
 | some (g, ab, nx) => if (List.range (iniX s).length).all (fun w => decide (freStep nx (freL ab nx w K) = freL ab nx w K)) then
   (let b := bestF g.st.length (fun w i => (freL ab nx w K).getD i false) (iniX s).length
   some (if b.1 = g.st.length then ([], 0, 6) else ((chainF g 5000 b.1.toNat).reverse, b.2, 0))) else none
theorem deadR_of {s : PSys} {K : Nat} {v : List Int × Int × Int} (hc : checkE s = 0) (h : deadC s K = some v) : deadR [sysD s] (.tup [.dat (.sl none (intsD v.1)), .dat (.int .i64 v.2.1), .dat (.int .i64 v.2.2)]) := by
 have hV := iniX_valid hc
 unfold deadC at h
 cases hr : reachG s (iniX s) with
 | none => rw [hr] at h; cases h
 | some r =>
  obtain ⟨g, ab, nx⟩ := r
  rw [hr] at h
  simp only at h
  split at h
  ·rename_i hst
   have hF := frok_of hV hr
   have hl : ab.length = nx.length := by rw [hF.la, hF.ln]
   let B : Nat -> Nat -> Bool := fun w i => if w < (iniX s).length then (freL ab nx w K).getD i false else @decide (Fre ab nx w i) (Classical.propDecidable _)
   refine ⟨s, B, rfl, ⟨(good_of hc).small⟩, ?_, ?_⟩
   ·intro g' ab' nx' hr' w i _
    rw [hr] at hr'
    cases hr'
    simp only [B]
    split
    ·rename_i hw
     have := List.all_eq_true.1 hst w (List.mem_range.2 hw)
     exact freL_done hl (by simpa using this) i
    ·simp
   ·have hb : bestF g.st.length B (iniX s).length = bestF g.st.length (fun w i => (freL ab nx w K).getD i false) (iniX s).length := bestF_congr _ fun w hw => by
     funext i; simp only [B, if_pos hw]
    have : deadV s B = v := by
     unfold deadV
     rw [if_neg (by rw [hc]; decide), hr]
     simp only
     rw [hb]
     simpa using h
    rw [this]
  ·cases h
end Go.AM
namespace Go.AM
open Go Go.Proofs
def takP (n k s : Nat) : PSys := ⟨[⟨[117], s, 0⟩], [], [⟨[119], n, false, List.replicate k ⟨1, 0, 1, false⟩ ++ [⟨2, 0, k, false⟩]⟩]⟩
def takPR (ds : List D) (v : AV) : Prop := ∃ n k s : Nat, ds = [.int .i64 n, .int .i64 k, .int .i64 s] /\ k <= 1000 /\ v = .dat (sysD (takP n k s))
theorem runeS_len4 (n : Int) : (runeS n).length <= 4 := by
 unfold runeS Utf8.encode
 simp only
 repeat' split
 all_goals simp
def phiAB (n i : Nat) (rev : Bool) : Int × Int := if rev && decide (i + 1 = n) then (((i + 1) % n : Nat), i) else (i, ((i + 1) % n : Nat))
def phiL (i : Nat) : List UInt8 := 102 :: runeS (48 + i)
def phiC (n : Nat) (rev : Bool) (i : Nat) : PCls := ⟨112 :: runeS (48 + i), 1, false, [⟨3, (phiAB n i rev).1, 0, false⟩, ⟨3, (phiAB n i rev).2, 0, false⟩, ⟨4, (phiAB n i rev).1, 0, false⟩, ⟨4, (phiAB n i rev).2, 0, false⟩]⟩
def phiP (n : Nat) (rev : Bool) : PSys := ⟨[], (List.range n).map phiL, (List.range n).map (phiC n rev)⟩
def phLD (i : Nat) : List D := (List.range i).map fun j => .str (phiL j)
def phCD (n : Nat) (rev : Bool) (i : Nat) : List D := (List.range i).map fun j => clsD (phiC n rev j)
def phiPR (ds : List D) (v : AV) : Prop := ∃ (n : Nat) (rev : Bool), ds = [.int .i64 n, .bool rev] /\ n <= 1000 /\ v = .dat (sysD (phiP n rev))
end Go.AM
namespace Go.AM
def Wk (E : List (Nat × Nat)) : Nat -> Nat -> Nat -> Prop
 | 0, a, v => a = v
 | k + 1, a, v => ∃ u, (u, v) ∈ E /\ Wk E k a u
theorem Wk_cons {E : List (Nat × Nat)} {a b : Nat} (h : (a, b) ∈ E) : ∀ {k v : Nat}, Wk E k b v -> Wk E (k + 1) a v
 | 0, v, hw => ⟨a, by cases hw; exact h, rfl⟩
 | k + 1, v, ⟨u, hu, hw⟩ => ⟨u, hu, Wk_cons h hw⟩
theorem Wk_first {E : List (Nat × Nat)} {a : Nat} : ∀ {k v : Nat}, Wk E (k + 1) a v -> ∃ b, (a, b) ∈ E /\ Wk E k b v
 | 0, v, ⟨u, hu, hw⟩ => by cases hw; exact ⟨v, hu, rfl⟩
 | k + 1, v, ⟨u, hu, hw⟩ => by
  obtain ⟨b, hb, hw⟩ := Wk_first hw
  exact ⟨b, hb, u, hu, hw⟩
theorem Wk_app {E : List (Nat × Nat)} {a b : Nat} {j : Nat} (h : Wk E j a b) : ∀ {k v : Nat}, Wk E k b v -> Wk E (j + k) a v
 | 0, v, hw => by cases hw; exact h
 | k + 1, v, ⟨u, hu, hw⟩ => ⟨u, hu, Wk_app h hw⟩
abbrev flip (E : List (Nat × Nat)) : List (Nat × Nat) := E.map fun p => (p.2, p.1)
def isSd (E : List (Nat × Nat)) (a v : Nat) (r : Int) : Prop := (r = -1 /\ ∀ k, ¬ Wk E k a v) ∨ ∃ k : Nat, r = k /\ Wk E k a v /\ ∀ j, Wk E j a v -> k <= j
theorem isSd_ex (E : List (Nat × Nat)) (a v : Nat) : ∃ r, isSd E a v r := by
 have key : ∀ n k, k <= n -> Wk E k a v -> ∃ k : Nat, Wk E k a v /\ ∀ j, Wk E j a v -> k <= j := by
  intro n
  induction n with
  | zero => intro k hk h; exact ⟨k, h, fun j _ => by omega⟩
  | succ n ih =>
   intro k hk h
   by_cases hh : ∃ j, j < k /\ Wk E j a v
   ·obtain ⟨j, hj, hw⟩ := hh
    exact ih j (by omega) hw
   ·exact ⟨k, h, fun j hj => Nat.le_of_not_lt fun hlt => hh ⟨j, hlt, hj⟩⟩
 by_cases h : ∃ k, Wk E k a v
 ·obtain ⟨k, hk⟩ := h
  obtain ⟨k, h1, h2⟩ := key k k (Nat.le_refl _) hk
  exact ⟨k, .inr ⟨k, rfl, h1, h2⟩⟩
 ·exact ⟨-1, .inl ⟨rfl, fun k hk => h ⟨k, hk⟩⟩⟩
noncomputable def sd (E : List (Nat × Nat)) (a v : Nat) : Int := Classical.choose (isSd_ex E a v)
theorem sd_is (E : List (Nat × Nat)) (a v : Nat) : isSd E a v (sd E a v) := Classical.choose_spec (isSd_ex E a v)
theorem isSd_one {E : List (Nat × Nat)} {a v : Nat} {r r' : Int} (h : isSd E a v r) (h' : isSd E a v r') : r = r' := by
 rcases h with ⟨h1, h2⟩ | ⟨k, h1, h2, h3⟩ <;> rcases h' with ⟨g1, g2⟩ | ⟨j, g1, g2, g3⟩
 ·rw [h1, g1]
 ·exact absurd g2 (h2 j)
 ·exact absurd h2 (g2 k)
 ·have := h3 j g2; have := g3 k h2; omega
theorem sd_eq {E : List (Nat × Nat)} {a v : Nat} {r : Int} (h : isSd E a v r) : r = sd E a v := isSd_one h (sd_is E a v)
theorem sd_le {E : List (Nat × Nat)} {a v k : Nat} (h : Wk E k a v) : 0 <= sd E a v /\ sd E a v <= k := by
 rcases sd_is E a v with ⟨h1, h2⟩ | ⟨j, h1, h2, h3⟩
 ·exact absurd h (h2 k)
 ·have := h3 k h; omega
theorem sd_wk {E : List (Nat × Nat)} {a v : Nat} (h : 0 <= sd E a v) : Wk E (sd E a v).toNat a v := by
 rcases sd_is E a v with ⟨h1, h2⟩ | ⟨j, h1, h2, h3⟩
 ·omega
 ·rw [h1]; exact h2
theorem sd_neg {E : List (Nat × Nat)} {a v : Nat} (h : sd E a v < 0) : sd E a v = -1 /\ ∀ k, ¬ Wk E k a v := by
 rcases sd_is E a v with ⟨h1, h2⟩ | ⟨j, h1, h2, h3⟩
 ·exact ⟨h1, h2⟩
 ·omega
theorem sd_step {E : List (Nat × Nat)} {a v : Nat} (h : 0 < sd E a v) : ∃ b, (a, b) ∈ E /\ sd E b v = sd E a v - 1 := by
 rcases sd_is E a v with ⟨h1, _⟩ | ⟨k, h1, h2, h3⟩
 ·omega
 ·obtain ⟨j, rfl⟩ : ∃ j, k = j + 1 := ⟨k - 1, by omega⟩
  obtain ⟨b, hb, hw⟩ := Wk_first h2
  refine ⟨b, hb, ?_⟩
  have h4 := sd_le hw
  have h5 := h3 _ (Wk_cons hb (sd_wk h4.1))
  omega
theorem nodup_le {q : List Nat} {n : Nat} (h : q.Nodup) (hn : ∀ v ∈ q, v < n) : q.length <= n := by
 have := List.Nodup.length_le_of_subset h (l₂ := List.range n) (fun v hv => List.mem_range.2 (hn v hv))
 simpa using this
theorem getD_set' {α : Type} {l : List α} {i j : Nat} {a d : α} : (l.set i a).getD j d = if i = j /\ i < l.length then a else l.getD j d := by
 simp only [List.getD_eq_getElem?_getD, List.getElem?_set]
 by_cases h : i = j
 ·subst h
  by_cases h2 : i < l.length
  ·simp [h2]
  ·simp [h2, List.getElem?_eq_none (Nat.le_of_not_lt h2)]
 ·simp [h]
structure BInv (E : List (Nat × Nat)) (n a : Nat) (d : List Int) (q : List Nat) (at' : Nat) : Prop where
 ln : d.length = n
 qn : ∀ v ∈ q, v < n
 nd : q.Nodup
 le : at' <= q.length
 vis : ∀ v, v < n -> (v ∈ q ↔ 0 <= d.getD v (-1))
 neg : ∀ v, v < n -> -1 <= d.getD v (-1)
 one : ∀ v, v < n -> ¬ v ∈ q -> d.getD v (-1) = -1
 src : a ∈ q /\ d.getD a (-1) = 0
 walk : ∀ v ∈ q, Wk E (d.getD v (-1)).toNat a v
 ub : ∀ v ∈ q, d.getD v (-1) < q.length
 mono : ∀ (i j u v : Nat), i <= j -> q[i]? = some u -> q[j]? = some v -> d.getD u (-1) <= d.getD v (-1)
 bnd : ∀ v ∈ q, ∀ (x : Nat), q[at']? = some x -> d.getD v (-1) <= d.getD x (-1) + 1
 don : ∀ (i u w : Nat), i < at' -> q[i]? = some u -> (u, w) ∈ E -> w ∈ q /\ d.getD w (-1) <= d.getD u (-1) + 1
structure BMid (E : List (Nat × Nat)) (n a : Nat) (d : List Int) (q : List Nat) (at' x : Nat) (T : List Nat) : Prop where
 inv : BInv E n a d q at'
 atx : q[at']? = some x
 mid : ∀ w ∈ T, w ∈ q /\ d.getD w (-1) <= d.getD x (-1) + 1
section
variable {E : List (Nat × Nat)} {n a : Nat} {d : List Int} {q : List Nat} {at' x : Nat} {T : List Nat}
theorem BInv.qle (h : BInv E n a d q at') : q.length <= n := nodup_le h.nd h.qn
theorem BInv.init (ha : a < n) : BInv E n a ((List.replicate n (-1)).set a 0) [a] 0 where
 ln := by simp
 qn v hv := by simp at hv; subst hv; exact ha
 nd := by simp
 le := Nat.zero_le _
 vis v hv := by
  rw [getD_set']
  by_cases h : a = v
  ·subst h; simp [ha]
  ·rw [if_neg (fun hh => h hh.1)]
   simp [List.getD_eq_getElem?_getD, List.getElem?_replicate, hv, Ne.symm h]
 neg v hv := by
  rw [getD_set']
  split
  ·omega
  ·simp [List.getD_eq_getElem?_getD, List.getElem?_replicate, hv]
 one v hv h := by
  rw [getD_set', if_neg (by simp at h; omega)]
  simp [List.getD_eq_getElem?_getD, List.getElem?_replicate, hv]
 src := by rw [getD_set']; simp [ha]
 walk v hv := by
  simp at hv; subst hv
  rw [getD_set', if_pos ⟨rfl, by simpa using ha⟩]
  rfl
 ub v hv := by
  simp at hv; subst hv
  rw [getD_set', if_pos ⟨rfl, by simpa using ha⟩]
  simp
 mono i j u v hij hu hv := by
  have h1 : i = 0 := by
   have := (List.getElem?_eq_some_iff.1 hu).1
   simpa using this
  have h2 : j = 0 := by
   have := (List.getElem?_eq_some_iff.1 hv).1
   simpa using this
  subst h1; subst h2
  rw [hu] at hv; cases hv
  exact Int.le_refl _
 bnd v hv x hx := by
  simp at hv hx; subst hv; subst hx
  omega
 don i u w hi := by omega
theorem BInv.start (h : BInv E n a d q at') (hx : q[at']? = some x) : BMid E n a d q at' x [] := ⟨h, hx, fun w hw => by cases hw⟩
theorem BMid.skip (h : BMid E n a d q at' x T) {w : Nat} (hw : w < n) (hd : 0 <= d.getD w (-1)) : BMid E n a d q at' x (T ++ [w]) := by
 refine ⟨h.inv, h.atx, fun u hu => ?_⟩
 rcases List.mem_append.1 hu with hu | hu
 ·exact h.mid u hu
 ·simp at hu; subst hu
  have hm := (h.inv.vis u hw).2 hd
  exact ⟨hm, h.inv.bnd u hm x h.atx⟩
theorem BMid.add (h : BMid E n a d q at' x T) {w : Nat} (hw : w < n) (he : (x, w) ∈ E) (hd : d.getD w (-1) < 0) : BMid E n a (d.set w (d.getD x (-1) + 1)) (q ++ [w]) at' x (T ++ [w]) := by
 have hv := h.inv
 have hwq : ¬ w ∈ q := fun hm => by have := (hv.vis w hw).1 hm; omega
 have hxq : x ∈ q := List.mem_of_getElem? h.atx
 have hx0 := (hv.vis x (hv.qn x hxq)).1 hxq
 have hxw : w ≠ x := fun e => hwq (e ▸ hxq)
 have hat := (List.getElem?_eq_some_iff.1 h.atx).1
 have hnew : (d.set w (d.getD x (-1) + 1)).getD w (-1) = d.getD x (-1) + 1 := by rw [getD_set', if_pos ⟨rfl, by rw [hv.ln]; exact hw⟩]
 have hold : ∀ v, v ≠ w -> (d.set w (d.getD x (-1) + 1)).getD v (-1) = d.getD v (-1) := fun v hv => by rw [getD_set', if_neg (fun hh => hv hh.1.symm)]
 have hold2 : ∀ v, v ∈ q -> (d.set w (d.getD x (-1) + 1)).getD v (-1) = d.getD v (-1) := fun v hv => hold v (fun e => hwq (e ▸ hv))
 have get : ∀ i u, (q ++ [w])[i]? = some u -> (i < q.length /\ q[i]? = some u) ∨ (i = q.length /\ u = w) := fun i u hu => by
  rcases Nat.lt_or_ge i q.length with hi | hi
  ·rw [List.getElem?_append_left hi] at hu; exact .inl ⟨hi, hu⟩
  ·rw [List.getElem?_append_right hi] at hu
   have : i - q.length = 0 := by
    have := (List.getElem?_eq_some_iff.1 hu).1; simpa using this
   rw [this] at hu; simp at hu
   exact .inr ⟨by omega, hu.symm⟩
 refine ⟨?_, by rw [List.getElem?_append_left hat]; exact h.atx, ?_⟩
 ·constructor
  ·simp [hv.ln]
  ·intro v hm
   rcases List.mem_append.1 hm with hm | hm
   ·exact hv.qn v hm
   ·simp at hm; subst hm; exact hw
  ·rw [List.nodup_append]
   exact ⟨hv.nd, by simp, fun u hu v hm => by simp at hm; subst hm; exact fun e => hwq (e ▸ hu)⟩
  ·simp; have := hv.le; omega
  ·intro v hvn
   by_cases e : v = w
   ·subst e; rw [hnew]; exact ⟨fun _ => by omega, fun _ => by simp⟩
   ·rw [hold v e, ← hv.vis v hvn]; simp [e]
  ·intro v hvn
   by_cases e : v = w
   ·subst e; rw [hnew]; omega
   ·rw [hold v e]; exact hv.neg v hvn
  ·intro v hvn hm
   simp at hm
   rw [hold v hm.2]; exact hv.one v hvn hm.1
  ·exact ⟨by simp [hv.src.1], by rw [hold2 a hv.src.1]; exact hv.src.2⟩
  ·intro v hm
   rcases List.mem_append.1 hm with hm | hm
   ·rw [hold2 v hm]; exact hv.walk v hm
   ·simp at hm; subst hm
    rw [hnew, show (d.getD x (-1) + 1).toNat = (d.getD x (-1)).toNat + 1 by omega]
    exact ⟨x, he, hv.walk x hxq⟩
  ·intro v hm
   rcases List.mem_append.1 hm with hm | hm
   ·rw [hold2 v hm]; have := hv.ub v hm; simp only [List.length_append, List.length_singleton, Int.natCast_add]; omega
   ·simp at hm; subst hm
    rw [hnew]; have := hv.ub x hxq; simp only [List.length_append, List.length_singleton, Int.natCast_add]; omega
  ·intro i j u v hij hu hv'
   rcases get i u hu with ⟨h1, h2⟩ | ⟨h1, h2⟩ <;> rcases get j v hv' with ⟨h3, h4⟩ | ⟨h3, h4⟩
   ·rw [hold2 u (List.mem_of_getElem? h2), hold2 v (List.mem_of_getElem? h4)]
    exact hv.mono i j u v hij h2 h4
   ·subst h4
    rw [hold2 u (List.mem_of_getElem? h2), hnew]
    exact hv.bnd u (List.mem_of_getElem? h2) x h.atx
   ·omega
   ·subst h2; subst h4; exact Int.le_refl _
  ·intro v hm x' hx'
   rw [List.getElem?_append_left hat, h.atx] at hx'
   cases hx'
   rw [hold2 x hxq]
   rcases List.mem_append.1 hm with hm | hm
   ·rw [hold2 v hm]; exact hv.bnd v hm x h.atx
   ·simp at hm; subst hm
    rw [hnew]; exact Int.le_refl _
  ·intro i u w' hi hu he'
   rw [List.getElem?_append_left (by omega)] at hu
   obtain ⟨g1, g2⟩ := hv.don i u w' hi hu he'
   rw [hold2 u (List.mem_of_getElem? hu), hold2 w' g1]
   exact ⟨by simp [g1], g2⟩
 ·intro u hu
  rcases List.mem_append.1 hu with hu | hu
  ·obtain ⟨g1, g2⟩ := h.mid u hu
   rw [hold2 u g1, hold2 x hxq]
   exact ⟨by simp [g1], g2⟩
  ·simp at hu; subst hu
   rw [hnew, hold2 x hxq]
   exact ⟨by simp, Int.le_refl _⟩
theorem BMid.next (h : BMid E n a d q at' x T) (hT : ∀ w, (x, w) ∈ E -> w ∈ T) : BInv E n a d q (at' + 1) := by
 have hv := h.inv
 have hat := (List.getElem?_eq_some_iff.1 h.atx).1
 refine { hv with le := hat, bnd := fun v hm x' hx' => ?_, don := fun i u w hi hu he => ?_ }
 ·have h1 := hv.bnd v hm x h.atx
  have h2 := hv.mono at' (at' + 1) x x' (by omega) h.atx hx'
  omega
 ·by_cases e : i = at'
  ·subst e
   rw [h.atx] at hu; cases hu
   exact h.mid w (hT w he)
  ·exact hv.don i u w (by omega) hu he
theorem BInv.done (h : BInv E n a d q q.length) (hE : ∀ p ∈ E, p.2 < n) : d = (List.range n).map (sd E a) := by
 have hcl : ∀ u ∈ q, ∀ w, (u, w) ∈ E -> w ∈ q /\ d.getD w (-1) <= d.getD u (-1) + 1 := fun u hu w he => by
  obtain ⟨i, hi⟩ := List.mem_iff_getElem?.1 hu
  exact h.don i u w (List.getElem?_eq_some_iff.1 hi).1 hi he
 have hall : ∀ k v, Wk E k a v -> v ∈ q /\ d.getD v (-1) <= k := by
  intro k
  induction k with
  | zero => intro v hw; cases hw; exact ⟨h.src.1, by rw [h.src.2]; simp⟩
  | succ k ih =>
   rintro v ⟨u, hu, hw⟩
   obtain ⟨g1, g2⟩ := ih u hw
   obtain ⟨g3, g4⟩ := hcl u g1 v hu
   exact ⟨g3, by omega⟩
 refine List.ext_getElem (by simp [h.ln]) fun v h1 h2 => ?_
 have hvn : v < n := by rw [← h.ln]; exact h1
 have hg : d[v] = d.getD v (-1) := by simp [List.getD_eq_getElem?_getD, List.getElem?_eq_getElem h1]
 rw [List.getElem_map, List.getElem_range, hg]
 refine sd_eq ?_
 by_cases hm : v ∈ q
 ·have h0 := (h.vis v hvn).1 hm
  exact .inr ⟨(d.getD v (-1)).toNat, by omega, h.walk v hm, fun j hj => by have := (hall j v hj).2; omega⟩
 ·exact .inl ⟨h.one v hvn hm, fun k hk => hm (hall k v hk).1⟩
end
end Go.AM

