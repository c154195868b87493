/- Own work over the model of the kit. -/
import Derived.Test.YtfiojoacbomncaaF20
set_option linter.unusedSimpArgs false
set_option linter.unusedVariables false
set_option maxRecDepth 8000
namespace Go.AM
open Go Go.Proofs

def rEnt (s : PSys) (S : List PSt) (y : PSt) (w : Nat) : Int := if ableB s y w = true then (((idxS S (takeX s y w)).getD 0 : Nat) : Int) else -1
def rRow (s : PSys) (S : List PSt) (y : PSt) : List Int := (List.range y.length).map (rEnt s S y)
theorem rEnt_app {s : PSys} {S T : List PSt} {y : PSt} {w : Nat} (h : ableB s y w = true → takeX s y w ∈ S) : rEnt s (S ++ T) y w = rEnt s S y w := by
 unfold rEnt
 split
 ·rename_i ha
  obtain ⟨i, hi⟩ := idxS_some (h ha)
  rw [idxS_app hi, hi]
 ·rfl
theorem rRow_app {s : PSys} {S T : List PSt} {y : PSt} (h : Closed1 s S y) : rRow s (S ++ T) y = rRow s S y := by
 unfold rRow
 refine List.map_congr_left fun w hw => rEnt_app fun ha => h w (mem_able.2 ⟨List.mem_range.1 hw, ha⟩)
theorem rIn_mono {s : PSys} {k : Nat} {y : PSt} : ∀ (ws : List Nat) (g : Gr) (nr : List Int), g.st.length ≤ (rInG s k y ws g nr).1.st.length
 | [], g, nr => Nat.le_refl _
 | w :: ws, g, nr => by
  simp only [rInG]
  split
  ·exact Nat.le_trans (putF_len g _ _ _).1 (rIn_mono ws _ _)
  ·exact rIn_mono ws _ _
theorem rIn_sim {s : PSys} {x : PSt} {k : Nat} {y : PSt} : ∀ (ws : List Nat) (g : Gr) (nx : List Nat) (nr : List Int), (∀ w ∈ ws, w < y.length) → GInv s x g → k < g.st.length → g.st.getD k [] = y →
  match inG s k y (ws.filter (ableB s y)) g nx with
  | some (g', _) => rInG s k y ws g nr = (g', nr ++ ws.map (rEnt s g'.st y)) ∧ ∃ T, g'.st = g.st ++ T
  | none => 4096 < (rInG s k y ws g nr).1.st.length
 | [], g, nx, nr, _, _, _, _ => by
  simp only [List.filter_nil, inG, rInG, List.map_nil, List.append_nil]
  exact ⟨trivial, [], by simp⟩
 | w :: ws, g, nx, nr, hws, hG, hk, hy => by
  have hw := hws w (by simp)
  have hws' : ∀ v ∈ ws, v < y.length := fun v hv => hws v (by simp [hv])
  by_cases ha : ableB s y w = true
  ·rw [List.filter_cons_of_pos ha]
   simp only [inG, rInG, if_pos ha]
   cases hi : idxS g.st (takeX s y w) with
   | some i =>
    have hp : putF g (takeX s y w) k w = (g, i) := by unfold putF; rw [hi]
    rw [hp]
    simp only
    have ih := rIn_sim ws g (nx ++ [i]) (nr ++ [(i : Int)]) hws' hG hk hy
    revert ih
    cases inG s k y (ws.filter (ableB s y)) g (nx ++ [i]) with
    | none => exact id
    | some p =>
     obtain ⟨g', nx'⟩ := p
     simp only
     rintro ⟨h1, T, hT⟩
     refine ⟨?_, T, hT⟩
     rw [h1, List.map_cons, List.append_assoc]
     congr 1
     simp only [List.cons_append, List.nil_append, List.cons.injEq, and_true]
     unfold rEnt
     rw [if_pos ha, hT, idxS_app hi]; rfl
   | none =>
    have hp : putF g (takeX s y w) k w = (⟨g.st ++ [takeX s y w], g.frm ++ [(k : Int)], g.who ++ [(w : Int)]⟩, g.st.length) := by unfold putF; rw [hi]
    rw [hp]
    simp only
    subst hy
    by_cases h4 : g.st.length = 4096
    ·rw [if_pos h4]
     have := rIn_mono (s := s) (k := k) (y := g.st.getD k []) ws ⟨g.st ++ [takeX s (g.st.getD k []) w], g.frm ++ [(k : Int)], g.who ++ [(w : Int)]⟩ (nr ++ [(g.st.length : Int)])
     simp only [List.length_append, List.length_singleton] at this
     show 4096 < _
     omega
    ·rw [if_neg h4]
     have hG' := hG.push hk hw ha hi h4
     have ih := rIn_sim (y := g.st.getD k []) ws _ (nx ++ [g.st.length]) (nr ++ [(g.st.length : Int)]) hws' hG' (show k < (g.st ++ [takeX s (g.st.getD k []) w]).length by rw [List.length_append]; omega) (by simp only; exact getD_app hk)
     revert ih
     cases inG s k (g.st.getD k []) (ws.filter (ableB s (g.st.getD k []))) ⟨g.st ++ [takeX s (g.st.getD k []) w], g.frm ++ [(k : Int)], g.who ++ [(w : Int)]⟩ (nx ++ [g.st.length]) with
     | none => exact id
     | some p =>
      obtain ⟨g', nx'⟩ := p
      simp only
      rintro ⟨h1, T, hT⟩
      refine ⟨?_, takeX s (g.st.getD k []) w :: T, by rw [hT]; simp only [List.append_assoc, List.cons_append, List.nil_append]⟩
      rw [h1, List.map_cons, List.append_assoc]
      congr 1
      simp only [List.cons_append, List.nil_append, List.cons.injEq, and_true]
      unfold rEnt
      rw [if_pos ha, hT, idxS_app (idxS_new hi)]; rfl
  ·rw [List.filter_cons_of_neg ha]
   simp only [rInG, if_neg ha]
   have ih := rIn_sim ws g nx (nr ++ [-1]) hws' hG hk hy
   revert ih
   cases inG s k y (ws.filter (ableB s y)) g nx with
   | none => exact id
   | some p =>
    obtain ⟨g', nx'⟩ := p
    simp only
    rintro ⟨h1, T, hT⟩
    refine ⟨?_, T, hT⟩
    rw [h1, List.map_cons, List.append_assoc]
    congr 1
    simp only [List.cons_append, List.nil_append, List.cons.injEq, and_true]
    unfold rEnt
    rw [if_neg ha]
theorem rOut_sim {s : PSys} {x : PSt} : ∀ (n k : Nat) (g : Gr) (ab nx : List (List Nat)) (N : List (List Int)) (f : Nat), n + k = 4097 → f + k = 4200 → GInv s x g → k ≤ g.st.length → N = (g.st.take k).map (rRow s g.st) → (∀ y ∈ g.st.take k, Closed1 s g.st y) →
  match outG s n k g ab nx with
  | some (g', _, _) => rOutG s x.length f k g N = some (g', g'.st.map (rRow s g'.st))
  | none => rOutG s x.length f k g N = none
 | 0, k, g, ab, nx, N, f, hn, hf, hG, hk, hN, hcl => by
  have := hG.ok.le
  omega
 | n + 1, k, g, ab, nx, N, f, hn, hf, hG, hk, hN, hcl => by
  obtain ⟨f, rfl⟩ : ∃ f', f = f' + 1 := ⟨f - 1, by omega⟩
  simp only [outG, rOutG]
  by_cases hlt : k < g.st.length
  ·rw [if_pos hlt, if_pos hlt]
   have hyl : (g.st.getD k []).length = x.length := (hG.rch _ (getD_memS hlt)).len
   have h1 := inG_ok (s := s) (x := x) (k := k) (y := g.st.getD k []) (ableL s (g.st.getD k [])) g [] (fun w hw => mem_able.1 hw) hG hlt rfl
   have h2 := rIn_sim (s := s) (x := x) (k := k) (y := g.st.getD k []) (List.range (g.st.getD k []).length) g [] [] (fun w hw => List.mem_range.1 hw) hG hlt rfl
   have e : (List.range (g.st.getD k []).length).filter (ableB s (g.st.getD k [])) = ableL s (g.st.getD k []) := rfl
   rw [e, hyl] at h2
   revert h1 h2
   cases inG s k (g.st.getD k []) (ableL s (g.st.getD k [])) g [] with
   | none =>
    intro _ h2
    simp only at h2 ⊢
    rw [if_pos h2]
   | some p =>
    obtain ⟨g', l⟩ := p
    simp only
    rintro ⟨h1, ⟨T, hT⟩, h3, h4⟩ ⟨h5, _⟩
    rw [h5]
    simp only
    have hle := h1.ok.le
    rw [if_neg (by omega)]
    have hlt' : k < g'.st.length := by rw [hT, List.length_append]; omega
    have htk : g'.st.take k = g.st.take k := by rw [hT, List.take_append_of_le_length hk]
    have hgd : g'.st.getD k [] = g.st.getD k [] := by rw [hT, List.getD_eq_getElem?_getD, List.getElem?_append_left hlt, ← List.getD_eq_getElem?_getD]
    refine rOut_sim n (k + 1) g' _ _ _ f (by omega) (by omega) h1 hlt' ?_ ?_
    ·rw [take_succ_getD hlt', htk, hgd, List.map_append, hN]
     congr 1
     ·refine List.map_congr_left fun y hy => ?_
      rw [hT]; exact (rRow_app (hcl y hy)).symm
     ·simp only [List.map_cons, List.map_nil, List.nil_append, List.cons.injEq, and_true]
      unfold rRow
      rw [hyl]
    ·rw [take_succ_getD hlt', htk, hgd]
     intro y hy
     rcases List.mem_append.1 hy with hy | hy
     ·rw [hT]; exact (hcl y hy).app
     ·rw [List.mem_singleton.1 hy]; exact h3
  ·rw [if_neg hlt, if_neg hlt]
   have e : g.st.take k = g.st := List.take_of_length_le (by omega)
   rw [e] at hN
   simp only
   rw [hN]
theorem rReach_sim {s : PSys} {x : PSt} (hV : Valid s x) : rReachG s x = match reachG s x with
  | some (g, _, _) => some (g, g.st.map (rRow s g.st))
  | none => none := by
 have := rOut_sim (s := s) (x := x) 4097 0 (g0 x) [] [] [] 4200 rfl rfl (ginv0 hV) (Nat.zero_le _) rfl (by simp)
 unfold rReachG reachG
 revert this
 cases outG s 4097 0 (g0 x) [] [] with
 | none => exact id
 | some p => obtain ⟨g, ab, nx⟩ := p; exact id
structure NOk (n m : Nat) (ab nx : List (List Nat)) (N : List (List Int)) : Prop where
 len : N.length = n
 row : ∀ i, i < n → (N.getD i []).length = m
 ent : ∀ i u, i < n → u < m → -1 ≤ (N.getD i []).getD u 0 ∧ (N.getD i []).getD u 0 < n
 abl : ∀ i w, i < n → w < m → (0 ≤ (N.getD i []).getD w 0 ↔ w ∈ ab.getD i [])
 nxt : ∀ i (j : Nat), i < n → ((∃ u, u < m ∧ (N.getD i []).getD u 0 = j) ↔ j ∈ nx.getD i [])
theorem map_getD {α β : Type} {f : α → β} {l : List α} {i : Nat} {d : β} {e : α} (h : i < l.length) : (l.map f).getD i d = f (l.getD i e) := by
 simp [List.getD_eq_getElem?_getD, List.getElem?_eq_getElem h]
theorem nok_of {s : PSys} {x : PSt} (hV : Valid s x) {g : Gr} {ab nx : List (List Nat)} (h : reachG s x = some (g, ab, nx)) : NOk g.st.length x.length ab nx (g.st.map (rRow s g.st)) := by
 obtain ⟨hG, hcl, rfl, rfl⟩ := reach_inv hV h
 have hrow : ∀ i, i < g.st.length → (g.st.map (rRow s g.st)).getD i [] = rRow s g.st (g.st.getD i []) := fun i hi => map_getD hi
 have hlen : ∀ i, i < g.st.length → (g.st.getD i []).length = x.length := fun i hi => (hG.rch _ (getD_memS hi)).len
 have hent : ∀ i u, i < g.st.length → u < x.length → ((g.st.map (rRow s g.st)).getD i []).getD u 0 = rEnt s g.st (g.st.getD i []) u := fun i u hi hu => by
  rw [hrow i hi, rRow, map_getD (e := 0) (by rw [List.length_range, hlen i hi]; exact hu)]
  congr 1
  rw [List.getD_eq_getElem?_getD, List.getElem?_range (by rw [hlen i hi]; exact hu)]; rfl
 have hidx : ∀ i u, i < g.st.length → u < x.length → ableB s (g.st.getD i []) u = true → ∃ j, idxS g.st (takeX s (g.st.getD i []) u) = some j ∧ j < g.st.length := fun i u hi hu ha => by
  obtain ⟨j, hj⟩ := idxS_some (hcl _ (getD_memS hi) u (mem_able.2 ⟨by rw [hlen i hi]; exact hu, ha⟩))
  exact ⟨j, hj, (idxS_lt hj).1⟩
 refine ⟨by rw [List.length_map], fun i hi => ?_, fun i u hi hu => ?_, fun i w hi hw => ?_, fun i j hi => ?_⟩
 ·rw [hrow i hi, rRow, List.length_map, List.length_range, hlen i hi]
 ·rw [hent i u hi hu]
  unfold rEnt
  split
  ·rename_i ha
   obtain ⟨j, hj, hjl⟩ := hidx i u hi hu ha
   rw [hj, Option.getD_some]; omega
  ·omega
 ·rw [hent i w hi hw, map_getD (e := []) hi, mem_able, hlen i hi]
  unfold rEnt
  split
  ·rename_i ha
   exact ⟨fun _ => ⟨hw, ha⟩, fun _ => Int.natCast_nonneg _⟩
  ·rename_i ha
   exact ⟨fun h => by omega, fun h => absurd h.2 ha⟩
 ·rw [show (g.st.map (nxRow s g.st)).getD i [] = nxRow s g.st (g.st.getD i []) from map_getD (e := []) hi]
  unfold nxRow
  rw [List.mem_map]
  constructor
  ·rintro ⟨u, hu, he⟩
   rw [hent i u hi hu] at he
   unfold rEnt at he
   split at he
   ·rename_i ha
    exact ⟨u, mem_able.2 ⟨by rw [hlen i hi]; exact hu, ha⟩, by omega⟩
   ·omega
  ·rintro ⟨u, hu, he⟩
   obtain ⟨h1, ha⟩ := mem_able.1 hu
   rw [hlen i hi] at h1
   refine ⟨u, h1, ?_⟩
   rw [hent i u hi h1]
   unfold rEnt
   rw [if_pos ha, he]
end Go.AM

set_option maxRecDepth 8000
set_option maxHeartbeats 4000000
namespace Go.AM
open Go Go.Proofs

abbrev tabRH4 : List (Nat × Contract) := [(25, dataC startXR), (59, dataC rReachR)]
theorem tabRH4_ok : OkG Try.prog (tbl tabRH4) := okG_cons rStart_ok (okG_cons rExplore_ok okG_nil)
theorem rReach_ok : OkF Try.prog 22 (dataC reachNR) := by
 refine okF_data Try.func22 rfl (by decide) ?_
 rintro ds v ⟨s, rfl, hf, rfl⟩
 generalize hv : reachN s = V
 unfold reachN at hv
 refine sem_of_awp (Γ := tbl tabRH4) tabRH4_ok _ _ _ ?_
 simp only [go_sem, Int.reduceEq, Int.reduceLT, Int.reduceLE, eq_self, Int.natCast_nonneg, Int.toNat_natCast, Try.ntmps22, sysD]
 refine call_data startXR (by simp) [sysD s] _ rfl ⟨s, rfl, hf, rfl⟩ (.inl rfl) ?_
 by_cases he : checkE s = 0
 case neg =>
  rw [if_pos he] at hv
  subst hv
  simp only [go_sem, Int.reduceEq, Int.reduceLT, Int.reduceLE, eq_self, Int.natCast_nonneg, Int.toNat_natCast, he, stD]
  exact post_data (.inl rfl) [2, 3] rfl (by simp only [AV.under, AV.unders, and_self]) rfl
 have hV := iniX_valid he
 rw [if_neg (by rw [he]; decide)] at hv
 rw [if_pos he, he]
 simp only [go_sem, Int.reduceEq, Int.reduceLT, Int.reduceLE, eq_self, Int.natCast_nonneg, Int.toNat_natCast, stD]
 refine call_data rReachR (by simp) [sysD s, stD (iniX s)] _ rfl ⟨s, iniX s, rfl, hV, rfl⟩ (.inl rfl) ?_
 cases hr : reachG s (iniX s) with
 | none =>
  rw [hr] at hv
  subst hv
  simp only [rReachV, rReach_sim hV, hr]
  simp only [go_sem, Int.reduceEq, Int.reduceLT, Int.reduceLE, eq_self, Int.natCast_nonneg, Int.toNat_natCast]
  exact post_data (.inl rfl) [2, 3] rfl (by simp only [AV.under, AV.unders, and_self]) rfl
 | some r =>
  obtain ⟨g, ab, nx⟩ := r
  rw [hr] at hv
  subst hv
  simp only [rReachV, rReach_sim hV, hr, rgD]
  simp only [go_sem, Int.reduceEq, Int.reduceLT, Int.reduceLE, eq_self, Int.natCast_nonneg, Int.toNat_natCast, sts_len]
  exact post_data (.inl rfl) [2, 3] rfl (by simp only [AV.under, AV.unders, and_self]) rfl

structure Rnd (n m : Nat) (ab nx : List (List Nat)) (N : List (List Int)) (w : Nat) (B : Nat → Bool) : Prop where
 snd : ∀ i, B i = true → i < n ∧ Fre ab nx w i
 able : ∀ i, i < n → w ∈ ab.getD i [] → B i = true
theorem Rnd.upd {n m : Nat} {ab nx : List (List Nat)} {N : List (List Int)} {w : Nat} {B : Nat → Bool} (hN : NOk n m ab nx N) (h : Rnd n m ab nx N w B) {i u : Nat} (hi : i < n) (hu : u < m) {j : Nat} (hj : (N.getD i []).getD u 0 = j) (hb : B j = true) : Rnd n m ab nx N w (updB B i) := by
 refine ⟨fun k hk => ?_, fun k hk hw => updB_mono (h.able k hk hw)⟩
 unfold updB at hk
 split at hk
 ·rename_i e; subst e
  exact ⟨hi, .next ((hN.nxt k j hi).1 ⟨u, hu, hj⟩) (h.snd j hb).2⟩
 ·exact h.snd k hk
theorem Rnd.done {n m : Nat} {ab nx : List (List Nat)} {N : List (List Int)} {w : Nat} {B : Nat → Bool} (hN : NOk n m ab nx N) (h : Rnd n m ab nx N w B) (hc : ∀ i, i < n → ∀ j, j ∈ nx.getD i [] → B j = true → B i = true) (hab0 : ∀ i, n ≤ i → ab.getD i [] = []) (hnx0 : ∀ i, n ≤ i → nx.getD i [] = []) (i : Nat) : B i = true ↔ Fre ab nx w i := by
 refine ⟨fun hi => (h.snd i hi).2, fun hf => ?_⟩
 induction hf with
 | @here i hw =>
  rcases Nat.lt_or_ge i n with h1 | h1
  ·exact h.able i h1 hw
  ·rw [hab0 i h1] at hw; cases hw
 | @next i j hj _ ih =>
  rcases Nat.lt_or_ge i n with h1 | h1
  ·exact hc i h1 j hj ih
  ·rw [hnx0 i h1] at hj; cases hj
def canR (aa : List AV) (obs : List Obj) (v : AV) (obs' ex : List Obj) (mv : List Nat) : Prop := ∃ (g : Gr) (ab nx : List (List Nat)) (N : List (List Int)) (m w : Nat) (B : Nat → Bool), aa = [.rptr (some 7) (rgD g N), .dat (.int .i64 w)] ∧ NOk g.st.length m ab nx N ∧ g.st.length ≤ 4096 ∧ m ≤ 24 ∧ w < m ∧ (∀ i, i < g.st.length → (B i = true ↔ Fre ab nx w i)) ∧
 (∀ i, g.st.length ≤ i → ab.getD i [] = []) ∧ (∀ i, g.st.length ≤ i → nx.getD i [] = []) ∧ obs = [] ∧ obs' = [] ∧ ex = [] ∧ mv = [] ∧ v = .dat (.sl none (boolsD (rngB g.st.length B)))
theorem rngB_snoc {k : Nat} {B : Nat → Bool} : boolsD (rngB (k + 1) B) = boolsD (rngB k B) ++ [.bool (B k)] := by
 unfold rngB; rw [List.range_succ, List.map_append, boolsD, List.map_append]; rfl
theorem intss_nth {N : List (List Int)} {i : Nat} (h : i < N.length) : D.nth (intssD N) i = intlD (N.getD i []) := D.nth_map h
theorem ints_nth {l : List Int} {i : Nat} (h : i < l.length) : D.nth (intsD l) i = .int .i64 (l.getD i 0) := D.nth_map h
theorem can_ok : OkF Try.prog 63 (lentC canR) := by
 refine okF_lent Try.func63 rfl (by decide) ?_
 rintro aa obs v0 obs' ex mv0 ⟨g, ab, nx, N, m, w, B, rfl, hN, hn4, hm24, hwm, hB, hab0, hnx0, rfl, rfl, rfl, rfl, rfl⟩
 generalize hn : g.st.length = n at *
 refine sem_of_awpK [2] (Γ := tbl []) okG_nil _ _ _ ?_
 simp only [go_sem, Int.reduceEq, Int.reduceLT, Int.reduceLE, eq_self, Int.natCast_nonneg, Int.toNat_natCast, Try.ntmps63]
 refine sem_le (le_addnil 5 none rfl (Nat.zero_le _)) ?_
 refine sem_of_awp (Γ := tbl []) okG_nil _ _ _ ?_
 simp only [go_sem, Int.reduceEq, Int.reduceLT, Int.reduceLE, eq_self, Int.natCast_nonneg, Int.toNat_natCast]
 unfold rgD
 let B0 := fun i : Nat => decide (i < n) && decide (0 ≤ (N.getD i []).getD w 0)
 refine sem_loop (fun k : Nat => ⟨slotsOf 93 [(0, .rptr (some 7) (D.agg [D.sl (some 1) (stsD g.st), D.sl none (keysD g.st), D.sl none (intsD (chainL g.st)), D.sl none (intsD (headsL g.st)), D.sl none (intssD N), D.sl none (intsD g.frm), D.sl none (intsD g.who)])), (1, .dat (.int .i64 w)), (5, .sl 0 0 k), (6, .dat (.int .i64 k))], [.row none (boolsD (rngB k B0))], 0, []⟩)
  (fun k => k ≤ n) (fun k => n - k) 0 (Nat.zero_le _) ?_ ?_
 ·exact le_slots' (by simp only [go_sem, Int.natCast_zero])
 rintro k hk
 refine sem_of_awp (Γ := tbl []) okG_nil _ _ _ ?_
 rcases Nat.lt_or_ge k n with hlt | hge
 ·have hk2 : (k : Int) < n := by omega
  have hk0 : (0 : Int) ≤ k := Int.natCast_nonneg k
  have hw0 : (0 : Int) ≤ w := Int.natCast_nonneg w
  have hNl := hN.len
  have hr := hN.row k hlt
  have hw2 : (w : Int) < m := by omega
  have hnk := intss_nth (N := N) (i := k) (by omega)
  have hnw := ints_nth (l := N.getD k []) (i := w) (by omega)
  have hsn := rngB_snoc (k := k) (B := B0)
  have hbl : (boolsD (rngB k B0)).length = k := by simp
  have hbt : List.take k (boolsD (rngB k B0)) = boolsD (rngB k B0) := List.take_of_length_le (by simp)
  have hb0 : B0 k = decide (0 ≤ (N.getD k []).getD w 0) := by simp [B0, hlt]
  generalize N.getD k [] = l at *
  generalize boolsD (rngB k B0) = BB at *
  simp only [go_sem, Int.reduceEq, Int.reduceLT, Int.reduceLE, eq_self, Int.natCast_nonneg, Int.toNat_natCast, sts_len, hn, hk2, hk0, hw0, hw2, hwm, hNl, hr, hnk, hnw, hlt, intss_len, ints_len, intlD, hbl, hbt, Nat.le_refl]
  refine ⟨by omega, by omega, inR_i64.2 (by omega), k + 1, by omega, by omega, ?_⟩
  rw [hsn, hb0]
  refine le_end (own := [_]) (ex := [_]) (Nat.zero_le _) ?_ ?_ ?_
  ·simp only [go_sem, Int.natCast_add, Int.cast_ofNat_Int]
  ·simp only [go_sem]
  ·simp only [go_sem, Obj.allUnder, Obj.under, AV.unders, AV.under]
 obtain rfl : k = n := by omega
 have hk2 : ¬ (k : Int) < k := by omega
 have hR0 : Rnd k m ab nx N w B0 := by
  refine ⟨fun i hi => ?_, fun i hi hw => ?_⟩
  ·simp only [B0, Bool.and_eq_true, decide_eq_true_eq] at hi
   exact ⟨hi.1, .here ((hN.abl i w hi.1 hwm).1 hi.2)⟩
  ·simp only [B0, Bool.and_eq_true, decide_eq_true_eq]
   exact ⟨hi, (hN.abl i w hi hwm).2 hw⟩
 simp only [go_sem, Int.reduceEq, Int.reduceLT, Int.reduceLE, eq_self, Int.natCast_nonneg, Int.toNat_natCast, sts_len, hn, hk2]
 generalize hB0 : B0 = B1 at *
 refine sem_loop (fun p : (Nat → Bool) × Bool => ⟨slotsOf 93 [(0, .rptr (some 7) (D.agg [D.sl (some 1) (stsD g.st), D.sl none (keysD g.st), D.sl none (intsD (chainL g.st)), D.sl none (intsD (headsL g.st)), D.sl none (intssD N), D.sl none (intsD g.frm), D.sl none (intsD g.who)])), (5, .sl 0 0 k), (7, .dat (.bool p.2))], [.row none (boolsD (rngB k p.1))], 0, []⟩)
  (fun p => Rnd k m ab nx N w p.1 ∧ (p.2 = false → ∀ i, i < k → ∀ j, j ∈ nx.getD i [] → p.1 j = true → p.1 i = true)) (fun p => 2 * cntF k p.1 + p.2.toNat) (B1, true) ⟨hR0, fun h => by cases h⟩ ?_ ?_
 ·exact le_slots' (by simp only [go_sem])
 clear hR0
 rintro ⟨B2, mo⟩ ⟨hR2, hc2⟩
 simp only at hR2 hc2 ⊢
 refine sem_of_awp (Γ := tbl []) okG_nil _ _ _ ?_
 cases mo with
 | false =>
  have hfin : rngB k B2 = rngB k B := rngB_congr fun i hi => by
   rw [Bool.eq_iff_iff, hB i hi]
   exact hR2.done hN (hc2 rfl) hab0 hnx0 i
  rw [hfin]
  simp only [go_sem, Int.reduceEq, Int.reduceLT, Int.reduceLE, eq_self, Int.natCast_nonneg, Int.toNat_natCast]
  refine post_res (.inl rfl) [.tmp 4] rfl ?_
  have h1 : List.take k (boolsD (rngB k B)) = boolsD (rngB k B) := List.take_of_length_le (by simp)
  simp only [go_sem]
  refine Le.trans (le_freeze 0 (ag := none) rfl (Nat.zero_le _)) ?_
  simp only [go_sem, h1, bools_len, rngB_len, List.drop_zero, Nat.le_refl, resV, if_true]
  exact le_fin (by simp only [go_sem]) (by simp only [go_sem])
 | true =>
 clear hc2
 simp only [go_sem, Int.reduceEq, Int.reduceLT, Int.reduceLE, eq_self, Int.natCast_nonneg, Int.toNat_natCast, sts_len, hn]
 refine ⟨inR_i64.2 (by omega), ?_⟩
 generalize hc0 : cntF k B2 = c0
 refine sem_loop (fun p : Nat × (Nat → Bool) × Bool => ⟨slotsOf 93 [(0, .rptr (some 7) (D.agg [D.sl (some 1) (stsD g.st), D.sl none (keysD g.st), D.sl none (intsD (chainL g.st)), D.sl none (intsD (headsL g.st)), D.sl none (intssD N), D.sl none (intsD g.frm), D.sl none (intsD g.who)])), (5, .sl 0 0 k), (7, .dat (.bool p.2.2)), (8, .dat (.int .i64 ((p.1 : Int) - 1)))], [.row none (boolsD (rngB k p.2.1))], 0, []⟩)
  (fun p => p.1 ≤ k ∧ Rnd k m ab nx N w p.2.1 ∧ cntF k p.2.1 ≤ c0 ∧ (p.2.2 = true → cntF k p.2.1 < c0) ∧ (p.2.2 = false → ∀ i, p.1 ≤ i → i < k → ∀ j, j ∈ nx.getD i [] → p.2.1 j = true → p.2.1 i = true)) (fun p => p.1) (k, B2, false) ⟨Nat.le_refl _, hR2, by simp only; omega, (fun h => by cases h), (fun _ i h1 h2 => by simp only at h1; omega)⟩ ?_ ?_
 ·exact le_slots' (by simp only [go_sem])
 clear hR2
 rintro ⟨i, B3, mo⟩ ⟨hi, hR3, hc3, hm3, hcl3⟩
 simp only at hi hR3 hc3 hm3 hcl3 ⊢
 refine sem_of_awp (Γ := tbl []) okG_nil _ _ _ ?_
 rcases Nat.eq_zero_or_pos i with rfl | hip
 ·have hz : ¬ (0 : Int) ≤ ((0 : Nat) : Int) - 1 := by omega
  simp only [go_sem, Int.reduceEq, Int.reduceLT, Int.reduceLE, eq_self, Int.natCast_nonneg, Int.toNat_natCast, hz]
  refine ⟨(B3, mo), ⟨hR3, fun h i h2 => hcl3 h i (Nat.zero_le _) h2⟩, ?_, ?_⟩
  ·simp only
   cases mo with
   | true => have := hm3 rfl; simp only [Bool.toNat_true]; omega
   | false => simp only [Bool.toNat_true, Bool.toNat_false]; omega
  ·exact le_slots' (by simp only [go_sem])
 obtain ⟨i, rfl⟩ : ∃ i', i = i' + 1 := ⟨i - 1, by omega⟩
 have hii : ((i + 1 : Nat) : Int) - 1 = i := by omega
 rw [hii]
 have hi0 : (0 : Int) ≤ i := Int.natCast_nonneg i
 have hi2 : (i : Int) < k := by omega
 have hi3 : i < k := by omega
 have hNl := hN.len
 have hr := hN.row i hi3
 have hnk := intss_nth (N := N) (i := i) (by omega)
 simp only [go_sem, Int.reduceEq, Int.reduceLT, Int.reduceLE, eq_self, Int.natCast_nonneg, Int.toNat_natCast, hi0]
 have hent := fun u (hu : u < m) => hN.ent i u hi3 hu
 have hnxt := fun j => hN.nxt i j hi3
 have hupd := fun (B : Nat → Bool) (h : Rnd k m ab nx N w B) u (hu : u < m) (j : Nat) hj hb => Rnd.upd hN h (i := i) (u := u) hi3 hu (j := j) hj hb
 generalize hl : N.getD i [] = l at *
 refine sem_loop (fun p : Nat × (Nat → Bool) × Bool => ⟨slotsOf 93 [(0, .rptr (some 7) (D.agg [D.sl (some 1) (stsD g.st), D.sl none (keysD g.st), D.sl none (intsD (chainL g.st)), D.sl none (intsD (headsL g.st)), D.sl none (intssD N), D.sl none (intsD g.frm), D.sl none (intsD g.who)])), (5, .sl 0 0 k), (7, .dat (.bool p.2.2)), (8, .dat (.int .i64 i)), (9, .dat (.int .i64 p.1))], [.row none (boolsD (rngB k p.2.1))], 0, []⟩)
  (fun p => p.1 ≤ m ∧ Rnd k m ab nx N w p.2.1 ∧ cntF k p.2.1 ≤ c0 ∧ (p.2.2 = true → cntF k p.2.1 < c0) ∧ (p.2.2 = false → ∀ i', i + 1 ≤ i' → i' < k → ∀ j, j ∈ nx.getD i' [] → p.2.1 j = true → p.2.1 i' = true) ∧ (p.2.2 = false → ∀ u, u < p.1 → ∀ j : Nat, l.getD u 0 = j → p.2.1 j = true → p.2.1 i = true)) (fun p => m - p.1) (0, B3, mo) ⟨Nat.zero_le _, hR3, hc3, hm3, hcl3, (fun _ u h => by simp only at h; omega)⟩ ?_ ?_
 ·exact le_slots' (by simp only [go_sem, Int.natCast_zero])
 clear hR3 hc3 hm3 hcl3
 rintro ⟨u, B4, mo⟩ ⟨hu, hR4, hc4, hm4, hcl4, hcu4⟩
 simp only at hu hR4 hc4 hm4 hcl4 hcu4 ⊢
 refine sem_of_awp (Γ := tbl []) okG_nil _ _ _ ?_
 have hbi : D.nth (boolsD (rngB k B4)) i = .bool (B4 i) := rngB_get hi3
 rcases Nat.lt_or_ge u m with hum | hum
 case inr =>
  obtain rfl : u = m := by omega
  have hu2 : ¬ (u : Int) < u := by omega
  simp only [go_sem, Int.reduceEq, Int.reduceLT, Int.reduceLE, eq_self, Int.natCast_nonneg, Int.toNat_natCast, hi0, hi2, hi3, hNl, hr, hnk, intss_len, ints_len, intlD, hu2]
  refine ⟨inR_i64.2 (by omega), (i, B4, mo), ⟨by omega, hR4, hc4, hm4, fun h i' h1 h2 j hj hb => ?_⟩, by simp only; omega, ?_⟩
  ·simp only at h h1 hb ⊢
   rcases Nat.lt_or_ge i i' with h3 | h3
   ·exact hcl4 h i' h3 h2 j hj hb
   ·obtain rfl : i = i' := by omega
    obtain ⟨u', hu', he⟩ := (hnxt j).2 hj
    exact hcu4 h u' hu' j he hb
  ·exact le_slots' (by simp only [go_sem])
 have hu2 : (u : Int) < m := by omega
 have hu0 : (0 : Int) ≤ u := Int.natCast_nonneg u
 have hnu := ints_nth (l := l) (i := u) (by omega)
 cases hb : B4 i with
 | true =>
  rw [hb] at hbi
  simp only [go_sem, Int.reduceEq, Int.reduceLT, Int.reduceLE, eq_self, Int.natCast_nonneg, Int.toNat_natCast, hi0, hi2, hi3, hNl, hr, hnk, intss_len, ints_len, intlD, hu2, hbi, bools_len, rngB_len]
  refine ⟨inR_i64.2 (by omega), (i, B4, mo), ⟨by omega, hR4, hc4, hm4, fun h i' h1 h2 j hj hb' => ?_⟩, by simp only; omega, ?_⟩
  ·simp only at h h1 hb' ⊢
   rcases Nat.lt_or_ge i i' with h3 | h3
   ·exact hcl4 h i' h3 h2 j hj hb'
   ·obtain rfl : i = i' := by omega
    exact hb
  ·exact le_slots' (by simp only [go_sem])
 | false =>
 rw [hb] at hbi
 obtain ⟨he1, he2⟩ := hent u hum
 generalize he : l.getD u 0 = e at *
 by_cases he0 : 0 ≤ e
 case neg =>
  simp only [go_sem, Int.reduceEq, Int.reduceLT, Int.reduceLE, eq_self, Int.natCast_nonneg, Int.toNat_natCast, hi0, hi2, hi3, hNl, hr, hnk, intss_len, ints_len, intlD, hu2, hbi, bools_len, rngB_len, hu0, hum, hnu, he0]
  refine ⟨inR_i64.2 (by omega), (u + 1, B4, mo), ⟨hum, hR4, hc4, hm4, hcl4, fun h u' h1 j hj hb' => ?_⟩, by simp only; omega, ?_⟩
  ·simp only at h h1 hb' ⊢
   by_cases hu' : u' = u
   ·subst hu'; rw [he] at hj; omega
   ·exact hcu4 h u' (by omega) j hj hb'
  ·exact le_slots' (by simp only [go_sem, Int.natCast_add, Int.cast_ofNat_Int])
 obtain ⟨j, rfl⟩ : ∃ j : Nat, e = j := ⟨e.toNat, by omega⟩
 have hj1 : j < k := by omega
 have hbj : D.nth (boolsD (rngB k B4)) j = .bool (B4 j) := rngB_get hj1
 cases hbjj : B4 j with
 | false =>
  rw [hbjj] at hbj
  simp only [go_sem, Int.reduceEq, Int.reduceLT, Int.reduceLE, eq_self, Int.natCast_nonneg, Int.toNat_natCast, hi0, hi2, hi3, hNl, hr, hnk, intss_len, ints_len, intlD, hu2, hbi, bools_len, rngB_len, hu0, hum, hnu, he0, he2, hj1, hbj]
  refine ⟨inR_i64.2 (by omega), (u + 1, B4, mo), ⟨hum, hR4, hc4, hm4, hcl4, fun h u' h1 j' hj' hb' => ?_⟩, by simp only; omega, ?_⟩
  ·simp only at h h1 hb' ⊢
   by_cases hu' : u' = u
   ·subst hu'
    have : j = j' := by rw [he] at hj'; omega
    subst this
    rw [hbjj] at hb'; cases hb'
   ·exact hcu4 h u' (by omega) j' hj' hb'
  ·exact le_slots' (by simp only [go_sem, Int.natCast_add, Int.cast_ofNat_Int])
 | true =>
  rw [hbjj] at hbj
  have hset := rngB_upd (B := B4) hi3
  have hcu := cntF_upd hi3 hb
  have hR5 := hupd B4 hR4 u hum j he hbjj
  simp only [go_sem, Int.reduceEq, Int.reduceLT, Int.reduceLE, eq_self, Int.natCast_nonneg, Int.toNat_natCast, hi0, hi2, hi3, hNl, hr, hnk, intss_len, ints_len, intlD, hu2, hbi, bools_len, rngB_len, hu0, hum, hnu, he0, he2, hj1, hbj, hset]
  refine ⟨inR_i64.2 (by omega), (u + 1, updB B4 i, true), ⟨hum, hR5, by simp only; omega, (fun _ => by simp only; omega), (fun h => by cases h), (fun h => by cases h)⟩, by simp only; omega, ?_⟩
  exact le_slots' (by simp only [go_sem, Int.natCast_add, Int.cast_ofNat_Int])
end Go.AM

set_option maxRecDepth 8000
set_option maxHeartbeats 4000000
namespace Go.AM
open Go Go.Proofs

theorem fre_any {ab nx : List (List Nat)} {w i : Nat} (h : Fre ab nx w i) : ∃ k, w ∈ ab.getD k [] := by
 induction h with
 | here hw => exact ⟨_, hw⟩
 | next _ _ ih => exact ih
theorem fre_first {s : PSys} {x : PSt} (hV : Valid s x) {g : Gr} {ab nx : List (List Nat)} (h : reachG s x = some (g, ab, nx)) {w : Nat} : ∀ i, i < g.st.length → Fre ab nx w i → Fre ab nx w 0 := by
 obtain ⟨hG, hcl, rfl, rfl⟩ := reach_inv hV h
 intro i
 induction i using Nat.strongRecOn with
 | _ i ih =>
  intro hi hf
  rcases Nat.eq_zero_or_pos i with rfl | hp
  ·exact hf
  ·obtain ⟨a, v, _, _, h3, h4, h5, h6⟩ := hG.prov i hp hi
   refine ih a h3 (by omega) (.next (j := i) ?_ hf)
   rw [show (g.st.map (nxRow s g.st)).getD a [] = nxRow s g.st (g.st.getD a []) from map_getD (e := []) (by omega)]
   unfold nxRow
   refine List.mem_map.2 ⟨v, mem_able.2 ⟨h4, h5⟩, ?_⟩
   rw [idxS_nd hG.nd hi h6]; rfl
theorem fre_0 {s : PSys} {x : PSt} (hV : Valid s x) {g : Gr} {ab nx : List (List Nat)} (h : reachG s x = some (g, ab, nx)) {w : Nat} : Fre ab nx w 0 ↔ anyW ab w = true := by
 have hF := frok_of hV h
 unfold anyW
 rw [List.any_eq_true]
 constructor
 ·intro hf
  obtain ⟨k, hk⟩ := fre_any hf
  rcases Nat.lt_or_ge k ab.length with h1 | h1
  ·refine ⟨ab.getD k [], ?_, by simpa using hk⟩
   rw [List.getD_eq_getElem?_getD, List.getElem?_eq_getElem h1]; exact List.getElem_mem h1
  ·rw [List.getD_eq_getElem?_getD, List.getElem?_eq_none h1] at hk
   simp at hk
 ·rintro ⟨l, hl, hw⟩
  obtain ⟨k, hk, rfl⟩ := List.getElem_of_mem hl
  refine fre_first hV h k (by rw [← hF.la]; exact hk) (.here ?_)
  rw [List.getD_eq_getElem?_getD, List.getElem?_eq_getElem hk]
  simpa using hw
theorem idxG_spec : ∀ (l : List Bool) (k : Nat), (idxG false k l = -1 ∧ ∀ i, i < l.length → l.getD i true = true) ∨ ∃ j, j < l.length ∧ idxG false k l = (k + j : Nat) ∧ l.getD j true = false ∧ ∀ i, i < j → l.getD i true = true
 | [], k => .inl ⟨rfl, fun i h => by simp at h⟩
 | b :: l, k => by
  cases b with
  | false => exact .inr ⟨0, by simp, by simp [idxG], by simp, fun i h => by omega⟩
  | true =>
   simp only [idxG, Bool.false_eq_true, if_false]
   rcases idxG_spec l (k + 1) with ⟨h1, h2⟩ | ⟨j, h1, h2, h3, h4⟩
   ·refine .inl ⟨h1, fun i hi => ?_⟩
    cases i with
    | zero => rfl
    | succ i => simp only [List.length_cons] at hi; simpa using h2 i (by omega)
   ·refine .inr ⟨j + 1, by simp only [List.length_cons]; omega, by rw [h2]; congr 1; omega, by simpa using h3, fun i hi => ?_⟩
    cases i with
    | zero => rfl
    | succ i => simpa using h4 i (by omega)
theorem rngB_at {n i : Nat} {f : Nat → Bool} (h : i < n) : (rngB n f).getD i true = f i := by
 simp [rngB, List.getD_eq_getElem?_getD, h]
theorem best_no {n b : Nat} {f : Nat → Bool} (h : ∀ i, i < b → f i = true) (hb : b ≤ n) : ¬ (0 ≤ idxG false 0 (rngB n f) ∧ idxG false 0 (rngB n f) < (b : Int)) := by
 rcases idxG_spec (rngB n f) 0 with ⟨h1, _⟩ | ⟨j, h1, h2, h3, _⟩
 ·rw [h1]; omega
 ·rw [h2]
  rintro ⟨_, h4⟩
  rw [rngB_len] at h1
  rw [rngB_at h1, h j (by omega)] at h3
  cases h3
theorem best_yes {n j : Nat} {f : Nat → Bool} (h : ∀ i, i < j → f i = true) (hj : j < n) (hf : f j = false) : idxG false 0 (rngB n f) = j := by
 rcases idxG_spec (rngB n f) 0 with ⟨_, h1⟩ | ⟨k, h1, h2, h3, h4⟩
 ·have := h1 j (by rw [rngB_len]; exact hj)
  rw [rngB_at hj, hf] at this; cases this
 ·rw [h2, Nat.zero_add]
  rw [rngB_len] at h1
  rw [rngB_at h1] at h3
  have h5 : ¬ k < j := fun h6 => by rw [h k h6] at h3; cases h3
  have h6 : ¬ j < k := fun h7 => by have := h4 j h7; rw [rngB_at hj, hf] at this; cases this
  have : k = j := by omega
  rw [this]
theorem ex_tab (p : Nat → Prop) : ∃ B : Nat → Bool, ∀ i, B i = true ↔ p i := ⟨fun i => @decide (p i) (Classical.propDecidable _), fun i => by simp⟩
abbrev tabRS5 : List (Nat × Contract) := [(25, dataC startXR), (16, dataC stErrR), (59, dataC rReachR), (63, lentC canR)]
theorem tabRS5_ok : OkG Try.prog (tbl tabRS5) := okG_cons rStart_ok (okG_cons rCheck44_ok (okG_cons rExplore_ok (okG_cons can_ok okG_nil)))
theorem out_nil {n : Nat} {ab : List (List Nat)} (h : ab.length = n) (i : Nat) (hi : n ≤ i) : ab.getD i [] = [] := by
 rw [List.getD_eq_getElem?_getD, List.getElem?_eq_none (by omega)]; rfl
theorem rStuck_ok : OkF Try.prog 27 (dataC stuckR) := by
 refine okF_data Try.func27 rfl (by decide) ?_
 rintro ds v ⟨s, x, rfl, hf, hx, rfl⟩
 generalize hv : stuckX s x = V
 unfold stuckX at hv
 have hxl2 : (stacksD x).length = x.length := by simp
 refine sem_of_awpK [8] (Γ := tbl tabRS5) tabRS5_ok _ _ _ ?_
 simp only [go_sem, Int.reduceEq, Int.reduceLT, Int.reduceLE, eq_self, Int.natCast_nonneg, Int.toNat_natCast, Try.ntmps27, sysD, stD]
 refine call_data stErrR (by simp) [sysD s, stD x] _ rfl ⟨s, x, rfl, hf, hx, rfl⟩ (.inl rfl) ?_
 by_cases he : stErr s x = 0
 case neg =>
  rw [if_pos he] at hv
  subst hv
  simp only [go_sem, Int.reduceEq, Int.reduceLT, Int.reduceLE, eq_self, Int.natCast_nonneg, Int.toNat_natCast, he]
  refine post_res (.inl rfl) [.tmp 4, .tmp 5] rfl ?_
  simp only [go_sem, List.map_nil, natlD]
  exact le_fin (by simp only [go_sem]) (by simp only [go_sem])
 have hV := valid_of he
 rw [if_neg (by rw [he]; decide)] at hv
 simp only [go_sem, Int.reduceEq, Int.reduceLT, Int.reduceLE, eq_self, Int.natCast_nonneg, Int.toNat_natCast, he]
 refine call_data rReachR (by simp) [sysD s, stD x] _ rfl ⟨s, x, rfl, hV, rfl⟩ (.inl rfl) ?_
 cases hr : reachG s x with
 | none =>
  rw [hr] at hv
  subst hv
  simp only [rReachV, rReach_sim hV, hr]
  simp only [go_sem, Int.reduceEq, Int.reduceLT, Int.reduceLE, eq_self, Int.natCast_nonneg, Int.toNat_natCast]
  refine post_res (.inl rfl) [.tmp 4, .tmp 5] rfl ?_
  simp only [go_sem, List.map_nil, natlD]
  exact le_fin (by simp only [go_sem]) (by simp only [go_sem])
 | some r =>
 obtain ⟨g, ab, nx⟩ := r
 rw [hr] at hv
 simp only at hv
 subst hv
 have hx24 := hV.l24
 have hF := frok_of hV hr
 have hNO := nok_of hV hr
 obtain ⟨hG, hcl, _, _⟩ := reach_inv hV hr
 have hpos : 0 < g.st.length := by obtain ⟨T, hT⟩ := hG.hd; rw [hT]; simp
 have hf0 := fun w => fre_0 (w := w) hV hr
 simp only [rReachV, rReach_sim hV, hr]
 generalize g.st.map (rRow s g.st) = N at *
 simp only [go_sem, Int.reduceEq, Int.reduceLT, Int.reduceLE, eq_self, Int.natCast_nonneg, Int.toNat_natCast]
 refine sem_le (le_addnil 9 none rfl (Nat.zero_le _)) ?_
 refine sem_of_awp (Γ := tbl tabRS5) tabRS5_ok _ _ _ ?_
 simp only [go_sem, Int.reduceEq, Int.reduceLT, Int.reduceLE, eq_self, Int.natCast_nonneg, Int.toNat_natCast]
 let F := fun j : Nat => (List.range j).filter fun w => !anyW ab w
 have hFl : ∀ j, (F j).length ≤ j := by
  intro j
  have := List.length_filter_le (fun w => !anyW ab w) (List.range j)
  simpa using this
 refine sem_loop (fun j : Nat => ⟨slotsOf 43 [(3, .ptr 1 0 0), (7, .rptr (some 7) (rgD g N)), (9, .sl 2 0 (F j).length), (10, .dat (.int .i64 j))], [sysO s, stO x, .row none (natsD (F j))], 0, []⟩)
  (fun j => j ≤ x.length) (fun j => x.length - j) 0 (Nat.zero_le _) ?_ ?_
 ·exact le_slots' (by simp only [go_sem, Int.natCast_zero, F, List.range_zero, List.filter_nil, List.length_nil])
 rintro j hj
 have hFj := hFl j
 refine sem_of_awp (Γ := tbl tabRS5) tabRS5_ok _ _ _ ?_
 rcases Nat.lt_or_ge j x.length with hlt | hge
 ·have hj2 : (j : Int) < x.length := by omega
  have hFs : F (j + 1) = if anyW ab j = true then F j else F j ++ [j] := by
   simp only [F]; rw [List.range_succ, List.filter_append]
   cases hb : anyW ab j <;> simp [hb]
  simp only [go_sem, Int.reduceEq, Int.reduceLT, Int.reduceLE, eq_self, Int.natCast_nonneg, Int.toNat_natCast, hj2, hxl2]
  obtain ⟨B, hB⟩ := ex_tab (fun i => Fre ab nx j i)
  have hcr : canR [.rptr (some 7) (rgD g N), .dat (.int .i64 j)] [] (.dat (.sl none (boolsD (rngB g.st.length B)))) [] [] [] := ⟨g, ab, nx, N, x.length, j, B, rfl, hNO, hF.n4, hx24, hlt, fun i _ => hB i, out_nil hF.la, out_nil hF.ln, rfl, rfl, rfl, rfl, rfl⟩
  refine call_lent canR (by simp) [] hcr List.nodup_nil (by simp) rfl rfl rfl (by simp only [AV.unders, AV.under, and_self]) (by simp) (by simp) ?_
  have hb0 : D.nth (boolsD (rngB g.st.length B)) 0 = .bool (B 0) := rngB_get hpos
  have hB0 : B 0 = anyW ab j := by rw [Bool.eq_iff_iff, hB 0]; exact hf0 j
  rw [hB0] at hb0
  have hp2 : (0 : Int) < g.st.length := by omega
  cases hb : anyW ab j with
  | true =>
   rw [hb, if_pos rfl] at hFs
   rw [hb] at hb0
   simp only [go_sem, Int.reduceEq, Int.reduceLT, Int.reduceLE, eq_self, Int.natCast_nonneg, Int.toNat_natCast, hp2, hpos, hb0, bools_len, rngB_len]
   refine ⟨inR_i64.2 (by omega), j + 1, by omega, by omega, ?_⟩
   rw [hFs]
   exact le_slots' (by simp only [go_sem, Int.natCast_add, Int.cast_ofNat_Int])
  | false =>
   rw [hb, if_neg (by decide)] at hFs
   rw [hb] at hb0
   have h1 : List.take (F j).length (natsD (F j)) = natsD (F j) := nats_take
   simp only [go_sem, Int.reduceEq, Int.reduceLT, Int.reduceLE, eq_self, Int.natCast_nonneg, Int.toNat_natCast, hp2, hpos, hb0, bools_len, rngB_len, nats_len, Nat.le_refl, h1]
   refine ⟨by omega, by omega, inR_i64.2 (by omega), j + 1, by omega, by omega, ?_⟩
   rw [hFs, show natsD (F j ++ [j]) = natsD (F j) ++ [D.int .i64 j] from by simp, List.length_append]
   refine le_end (own := [_, _, _]) (ex := [_]) (Nat.zero_le _) ?_ ?_ ?_
   ·simp only [go_sem, Int.natCast_add, Int.cast_ofNat_Int]
   ·simp only [go_sem]
   ·simp only [go_sem, Obj.allUnder, Obj.under, AV.unders, AV.under]
 obtain rfl : j = x.length := by omega
 have hj2 : ¬ (x.length : Int) < x.length := by omega
 simp only [go_sem, Int.reduceEq, Int.reduceLT, Int.reduceLE, eq_self, Int.natCast_nonneg, Int.toNat_natCast, hj2, hxl2]
 refine post_res (.inl rfl) [.tmp 4, .tmp 5] rfl ?_
 have h1 : List.take (F x.length).length (natsD (F x.length)) = natsD (F x.length) := nats_take
 simp only [go_sem]
 refine Le.trans (le_freeze 2 (ag := none) rfl (Nat.zero_le _)) ?_
 simp only [go_sem, h1, nats_len, List.drop_zero, Nat.le_refl, resV, if_true]
 exact le_fin (by simp only [go_sem]; rfl) (by simp only [go_sem])
theorem rDeadlock_ok : OkF Try.prog 24 (dataC deadR) := by
 refine okF_data Try.func24 rfl (by decide) ?_
 rintro ds v ⟨s, B, rfl, hf, hB, rfl⟩
 generalize hv : deadV s B = V
 unfold deadV at hv
 refine sem_of_awp (Γ := tbl tabRS5) tabRS5_ok _ _ _ ?_
 simp only [go_sem, Int.reduceEq, Int.reduceLT, Int.reduceLE, eq_self, Int.natCast_nonneg, Int.toNat_natCast, Try.ntmps24, sysD]
 refine call_data startXR (by simp) [sysD s] _ rfl ⟨s, rfl, hf, rfl⟩ (.inl rfl) ?_
 by_cases he : checkE s = 0
 case neg =>
  rw [if_pos he] at hv
  subst hv
  simp only [go_sem, Int.reduceEq, Int.reduceLT, Int.reduceLE, eq_self, Int.natCast_nonneg, Int.toNat_natCast, he, stD]
  refine post_res (.inl rfl) [.tmp 2, .tmp 3, .tmp 4] rfl ?_
  simp only [go_sem, List.map_nil]
  exact le_fin (by simp only [go_sem]) (by simp only [go_sem])
 have hV := iniX_valid he
 rw [if_neg (by rw [he]; decide)] at hv
 rw [if_pos he, he]
 generalize iniX s = x at *
 have hx24 := hV.l24
 have hxl2 : (stacksD x).length = x.length := by simp
 simp only [go_sem, Int.reduceEq, Int.reduceLT, Int.reduceLE, eq_self, Int.natCast_nonneg, Int.toNat_natCast, stD]
 refine call_data rReachR (by simp) [sysD s, stD x] _ rfl ⟨s, x, rfl, hV, rfl⟩ (.inl rfl) ?_
 cases hr : reachG s x with
 | none =>
  rw [hr] at hv
  subst hv
  simp only [rReachV, rReach_sim hV, hr]
  simp only [go_sem, Int.reduceEq, Int.reduceLT, Int.reduceLE, eq_self, Int.natCast_nonneg, Int.toNat_natCast]
  refine post_res (.inl rfl) [.tmp 2, .tmp 3, .tmp 4] rfl ?_
  simp only [go_sem, List.map_nil]
  exact le_fin (by simp only [go_sem]) (by simp only [go_sem])
 | some r =>
 obtain ⟨g, ab, nx⟩ := r
 rw [hr] at hv
 simp only at hv
 have hF := frok_of hV hr
 have hNO := nok_of hV hr
 have hG := (reach_inv hV hr).1
 have hB := hB g ab nx hr
 have hn4 := hF.n4
 simp only [rReachV, rReach_sim hV, hr]
 generalize g.st.map (rRow s g.st) = N at *
 generalize hn : g.st.length = n at *
 simp only [go_sem, Int.reduceEq, Int.reduceLT, Int.reduceLE, eq_self, Int.natCast_nonneg, Int.toNat_natCast]
 simp only [rgD]
 simp only [go_sem, Int.reduceEq, Int.reduceLT, Int.reduceLE, eq_self, Int.natCast_nonneg, Int.toNat_natCast, sts_len, hn]
 refine sem_loop (fun k : Nat => ⟨slotsOf 110 [(5, .ptr 1 0 0), (7, .rptr (some 7) (D.agg [D.sl (some 1) (stsD g.st), D.sl none (keysD g.st), D.sl none (intsD (chainL g.st)), D.sl none (intsD (headsL g.st)), D.sl none (intssD N), D.sl none (intsD g.frm), D.sl none (intsD g.who)])), (9, .dat (.int .i64 (bestF n B k).1)), (10, .dat (.int .i64 (bestF n B k).2)), (11, .dat (.int .i64 k))], [sysO s, stO x], 0, []⟩)
  (fun k => k ≤ x.length) (fun k => x.length - k) 0 (Nat.zero_le _) ?_ ?_
 ·exact le_slots' (by simp only [go_sem, Int.natCast_zero, bestF])
 rintro k hk
 refine sem_of_awp (Γ := tbl tabRS5) tabRS5_ok _ _ _ ?_
 rcases Nat.lt_or_ge k x.length with hlt | hge
 ·have hk2 : (k : Int) < x.length := by omega
  have hbl := bestF_le n B k
  simp only [go_sem, Int.reduceEq, Int.reduceLT, Int.reduceLE, eq_self, Int.natCast_nonneg, Int.toNat_natCast, hk2, hxl2]
  have hcr : canR [.rptr (some 7) (D.agg [D.sl (some 1) (stsD g.st), D.sl none (keysD g.st), D.sl none (intsD (chainL g.st)), D.sl none (intsD (headsL g.st)), D.sl none (intssD N), D.sl none (intsD g.frm), D.sl none (intsD g.who)]), .dat (.int .i64 k)] [] (.dat (.sl none (boolsD (rngB n (B k))))) [] [] [] := ⟨g, ab, nx, N, x.length, k, B k, rfl, by rw [hn]; exact hNO, by rw [hn]; exact hF.n4, hx24, hlt, fun i hi => hB k i (by rw [← hn]; exact hi), by rw [hn]; exact out_nil hF.la, by rw [hn]; exact out_nil hF.ln, rfl, rfl, rfl, rfl, by rw [hn]⟩
  refine call_lent canR (by simp) [] hcr List.nodup_nil (by simp) rfl rfl rfl (by simp only [AV.unders, AV.under, and_self]) (by simp) (by simp) ?_
  simp only [go_sem, Int.reduceEq, Int.reduceLT, Int.reduceLE, eq_self, Int.natCast_nonneg, Int.toNat_natCast]
  clear hcr
  obtain ⟨b0, hb0⟩ : ∃ b0 : Nat, (bestF n B k).1 = b0 := ⟨(bestF n B k).1.toNat, by omega⟩
  rw [hb0]
  refine sem_loop (fun p : Nat × Nat × Nat => ⟨slotsOf 110 [(5, .ptr 1 0 0), (7, .rptr (some 7) (D.agg [D.sl (some 1) (stsD g.st), D.sl none (keysD g.st), D.sl none (intsD (chainL g.st)), D.sl none (intsD (headsL g.st)), D.sl none (intssD N), D.sl none (intsD g.frm), D.sl none (intsD g.who)])), (9, .dat (.int .i64 p.2.1)), (10, .dat (.int .i64 p.2.2)), (11, .dat (.int .i64 k)), (12, .dat (.sl none (boolsD (rngB n (B k))))), (13, .dat (.int .i64 p.1))], [sysO s, stO x], 0, []⟩)
   (fun p => p.1 ≤ n ∧ p.2.1 ≤ n ∧ (((p.2.1 : Int), p.2.2) = bestF n B k ∧ (∀ i, i < p.1 → B k i = true) ∧ p.1 ≤ p.2.1 ∨ (((p.2.1 : Int), p.2.2) = bestF n B (k + 1) ∧ p.2.1 < p.1))) (fun p => n - p.1) (0, b0, (bestF n B k).2) ⟨Nat.zero_le _, by simp only; omega, .inl ⟨by rw [← hb0], (fun i h => by simp only at h; omega), Nat.zero_le _⟩⟩ ?_ ?_
  ·exact le_slots' (by simp only [go_sem, Int.natCast_zero])
  rintro ⟨i, b, who⟩ ⟨hi, hbn, hcase⟩
  simp only at hi hbn hcase ⊢
  refine sem_of_awp (Γ := tbl tabRS5) tabRS5_ok _ _ _ ?_
  rcases Nat.lt_or_ge i b with hib | hib
  ·have hib2 : (i : Int) < b := by omega
   have hi0 : (0 : Int) ≤ i := Int.natCast_nonneg i
   have hin : i < n := by omega
   have hin2 : (i : Int) < n := by omega
   have hbi : D.nth (boolsD (rngB n (B k))) i = .bool (B k i) := rngB_get hin
   obtain ⟨h1, h2, h3⟩ : ((b : Int), who) = bestF n B k ∧ (∀ i', i' < i → B k i' = true) ∧ i ≤ b := by
    rcases hcase with h | h
    ·exact h
    ·omega
   cases hb : B k i with
   | true =>
    rw [hb] at hbi
    simp only [go_sem, Int.reduceEq, Int.reduceLT, Int.reduceLE, eq_self, Int.natCast_nonneg, Int.toNat_natCast, hib2, hi0, hin, hin2, hbi, bools_len, rngB_len]
    refine ⟨inR_i64.2 (by omega), (i + 1, b, who), ⟨hin, hbn, .inl ⟨h1, fun i' hi' => ?_, hib⟩⟩, by simp only; omega, ?_⟩
    ·simp only at hi'
     by_cases e : i' = i
     ·subst e; exact hb
     ·exact h2 i' (by omega)
    ·exact le_slots' (by simp only [go_sem, Int.natCast_add, Int.cast_ofNat_Int])
   | false =>
    rw [hb] at hbi
    have hbest : bestF n B (k + 1) = ((i : Int), k) := by
     have e := best_yes h2 hin hb
     unfold bestF
     rw [e, ← h1, if_pos ⟨hi0, hib2⟩]
    simp only [go_sem, Int.reduceEq, Int.reduceLT, Int.reduceLE, eq_self, Int.natCast_nonneg, Int.toNat_natCast, hib2, hi0, hin, hin2, hbi, bools_len, rngB_len]
    refine ⟨inR_i64.2 (by omega), (i + 1, i, k), ⟨hin, by simp only; omega, .inr ⟨hbest.symm, Nat.lt_succ_self i⟩⟩, by simp only; omega, ?_⟩
    exact le_slots' (by simp only [go_sem, Int.natCast_add, Int.cast_ofNat_Int])
  ·have hib2 : ¬ (i : Int) < b := by omega
   have hbest : bestF n B (k + 1) = ((b : Int), who) := by
    rcases hcase with ⟨h1, h2, h3⟩ | ⟨h1, _⟩
    ·have := best_no (n := n) (b := b) (f := B k) (fun i' hi' => h2 i' (by omega)) hbn
     unfold bestF
     rw [← h1, if_neg this]
    ·exact h1.symm
   simp only [go_sem, Int.reduceEq, Int.reduceLT, Int.reduceLE, eq_self, Int.natCast_nonneg, Int.toNat_natCast, hib2]
   refine ⟨inR_i64.2 (by omega), k + 1, by omega, by omega, ?_⟩
   rw [hbest]
   exact le_slots' (by simp only [go_sem, Int.natCast_add, Int.cast_ofNat_Int])
 obtain rfl : k = x.length := by omega
 have hk2 : ¬ (x.length : Int) < x.length := by omega
 have hbl := bestF_le n B x.length
 generalize bestF n B x.length = b at *
 obtain ⟨b, who⟩ := b
 simp only at hv hbl
 by_cases hbn : b = n
 ·rw [if_pos hbn] at hv
  subst hv
  subst hbn
  simp only [go_sem, Int.reduceEq, Int.reduceLT, Int.reduceLE, eq_self, Int.natCast_nonneg, Int.toNat_natCast, hk2, hxl2, sts_len, hn]
  refine post_res (.inl rfl) [.tmp 2, .tmp 3, .tmp 4] rfl ?_
  simp only [go_sem, List.map_nil]
  exact le_fin (by simp only [go_sem]) (by simp only [go_sem])
 rw [if_neg hbn] at hv
 obtain ⟨b, rfl⟩ : ∃ q : Nat, b = q := ⟨b.toNat, by omega⟩
 rw [Int.toNat_natCast] at hv
 have hg1 := hG.ok.l1
 have hg2 := hG.ok.l2
 rw [hn] at hg1 hg2
 simp only [go_sem, Int.reduceEq, Int.reduceLT, Int.reduceLE, eq_self, Int.natCast_nonneg, Int.toNat_natCast, hk2, hxl2, sts_len, hn, hbn]
 refine sem_le (le_addnil 14 none rfl (Nat.zero_le _)) ?_
 refine sem_le (le_addnil 15 none rfl (Nat.zero_le _)) ?_
 simp only [go_sem, Int.reduceEq, Int.reduceLT, Int.reduceLE, eq_self, Int.natCast_nonneg, Int.toNat_natCast]
 refine sem_loop (fun p : List Int × Nat × Nat => ⟨slotsOf 110 [(7, .rptr (some 7) (D.agg [D.sl (some 1) (stsD g.st), D.sl none (keysD g.st), D.sl none (intsD (chainL g.st)), D.sl none (intsD (headsL g.st)), D.sl none (intssD N), D.sl none (intsD g.frm), D.sl none (intsD g.who)])), (10, .dat (.int .i64 who)), (14, .sl 2 0 p.1.length), (15, .sl 3 0 0), (16, .dat (.int .i64 p.2.1))], [sysO s, stO x, .row none (intsD p.1), .row none []], 0, []⟩)
  (fun p => p.2.1 < n ∧ p.1 ++ chainF g p.2.2 p.2.1 = chainF g 5000 b ∧ p.2.1 < p.2.2 ∧ p.1.length + p.2.2 ≤ 5000) (fun p => p.2.1) ([], b, 5000) ⟨by simp only; omega, rfl, by simp only; omega, by simp only [List.length_nil]; omega⟩ ?_ ?_
 ·exact le_slots' (by simp only [go_sem])
 rintro ⟨l, i, f⟩ ⟨hi, hch, hif, hlf⟩
 simp only at hi hch hif hlf ⊢
 obtain ⟨f, rfl⟩ : ∃ f', f = f' + 1 := ⟨f - 1, by omega⟩
 rw [chainF] at hch
 have hi0 : (0 : Int) ≤ i := by omega
 have hi2 : (i : Int) < n := by omega
 by_cases h0 : i = 0
 ·subst h0
  rw [if_pos rfl, List.append_nil] at hch
  subst hch
  subst hv
  have hf1 : D.nth (intsD g.frm) 0 = .int .i64 (-1) := (D.nth_map (f := D.int .i64) (by omega)).trans (by rw [show (default : Int) = 0 from rfl, hG.hd2.1])
  refine sem_of_awp (Γ := tbl tabRS5) tabRS5_ok _ _ _ ?_
  have hz2 : (0 : Int) < n := hi2
  have hcl := chainF_len g 5000 b
  generalize chainF g 5000 b = l at *
  simp only [go_sem, Int.reduceEq, Int.reduceLT, Int.reduceLE, eq_self, Int.natCast_nonneg, Int.toNat_natCast, Int.natCast_zero, hz2, hi, hf1, ints_len, hg1]
  refine ⟨inR_i64.2 (by omega), ?_⟩
  refine sem_loop (fun c : Nat => ⟨slotsOf 110 [(10, .dat (.int .i64 who)), (14, .sl 2 0 l.length), (15, .sl 3 0 c), (17, .dat (.int .i64 ((l.length : Int) - 1 - c)))], [sysO s, stO x, .row none (intsD l), .row none (intsD (l.reverse.take c))], 0, []⟩)
   (fun c => c ≤ l.length) (fun c => l.length - c) 0 (Nat.zero_le _) ?_ ?_
  ·exact le_slots' (by simp only [go_sem, Int.natCast_zero, Int.sub_zero])
  rintro c hc
  refine sem_of_awp (Γ := tbl tabRS5) tabRS5_ok _ _ _ ?_
  rcases Nat.lt_or_ge c l.length with hcl2 | hcl2
  ·obtain ⟨q, hq⟩ : ∃ q : Nat, (l.length : Int) - 1 - c = q := ⟨l.length - 1 - c, by omega⟩
   have hq0 : (0 : Int) ≤ q := Int.natCast_nonneg q
   have hq1 : q < l.length := by omega
   have hq2 : (q : Int) < l.length := by omega
   have hnq := ints_nth (l := l) hq1
   have htl : (intsD (l.reverse.take c)).length = c := by simp; omega
   have htt : List.take c (intsD (l.reverse.take c)) = intsD (l.reverse.take c) := List.take_of_length_le (by rw [htl]; exact Nat.le_refl _)
   have hts : l.reverse.take (c + 1) = l.reverse.take c ++ [l.getD q 0] := by
    rw [List.take_add_one, List.getElem?_eq_getElem (by simpa using hcl2), List.getElem_reverse, List.getD_eq_getElem?_getD, List.getElem?_eq_getElem hq1]
    simp only [Option.toList_some, Option.getD_some, List.append_cancel_left_eq, List.cons.injEq, and_true]
    congr 1; omega
   rw [hq]
   generalize hTd : intsD (l.reverse.take c) = TT at *
   simp only [go_sem, Int.reduceEq, Int.reduceLT, Int.reduceLE, eq_self, Int.natCast_nonneg, Int.toNat_natCast, hq0, hq1, hq2, hnq, ints_len, htl, htt, Nat.le_refl]
   refine ⟨by omega, by omega, inR_i64.2 (by omega), c + 1, hcl2, by omega, ?_⟩
   have hTT : intsD (l.reverse.take (c + 1)) = TT ++ [.int .i64 (l.getD q 0)] := by rw [hts, ← hTd]; simp
   rw [hTT, show (q : Int) - 1 = (l.length : Int) - 1 - (c + 1 : Nat) by omega]
   refine le_end (own := [_, _, _, _]) (ex := [_]) (Nat.zero_le _) ?_ ?_ ?_
   ·simp only [go_sem, Int.natCast_add, Int.cast_ofNat_Int]
   ·simp only [go_sem]
   ·simp only [go_sem, Obj.allUnder, Obj.under, AV.unders, AV.under]
  ·obtain rfl : c = l.length := by omega
   have hz : ¬ (0 : Int) ≤ (l.length : Int) - 1 - l.length := by omega
   rw [show List.take l.length l.reverse = l.reverse from List.take_of_length_le (by simp)]
   simp only [go_sem, Int.reduceEq, Int.reduceLT, Int.reduceLE, eq_self, Int.natCast_nonneg, Int.toNat_natCast, hz]
   refine post_res (.inl rfl) [.tmp 2, .tmp 3, .tmp 4] rfl ?_
   have h1 : List.take l.length (intsD l.reverse) = intsD l.reverse := List.take_of_length_le (by simp)
   simp only [go_sem]
   refine Le.trans (le_freeze 3 (ag := none) rfl (Nat.zero_le _)) ?_
   simp only [go_sem, h1, ints_len, List.drop_zero, List.length_reverse, Nat.le_refl, resV, if_true]
   exact le_fin (by simp only [go_sem]) (by simp only [go_sem])
 ·rw [if_neg h0] at hch
  obtain ⟨a, w, e1, e2, e3, _, _, _⟩ := hG.prov i (by omega) (by omega)
  rw [e1, e2, Int.toNat_natCast] at hch
  have hw1 : D.nth (intsD g.who) i = .int .i64 w := (D.nth_map (f := D.int .i64) (by omega)).trans (by rw [show (default : Int) = 0 from rfl, e2])
  have hf1 : D.nth (intsD g.frm) i = .int .i64 a := (D.nth_map (f := D.int .i64) (by omega)).trans (by rw [show (default : Int) = 0 from rfl, e1])
  have hlt1 : List.take l.length (intsD l) = intsD l := ints_take
  have ha0 : (0 : Int) ≤ a := Int.natCast_nonneg a
  refine sem_of_awp (Γ := tbl tabRS5) tabRS5_ok _ _ _ ?_
  simp only [go_sem, Int.reduceEq, Int.reduceLT, Int.reduceLE, eq_self, Int.natCast_nonneg, Int.toNat_natCast, hi0, hi2, hi, hw1, hf1, ints_len, hg1, hg2, hlt1, ha0, Nat.le_refl]
  refine ⟨by omega, by omega, (l ++ [(w : Int)], a, f), ⟨by simp only; omega, by simp only [List.append_assoc, List.cons_append, List.nil_append]; exact hch, by simp only; omega, by simp only [List.length_append, List.length_cons, List.length_nil]; omega⟩, by simp only; omega, ?_⟩
  have hla : intsD (l ++ [(w : Int)]) = intsD l ++ [D.int .i64 w] := by simp
  simp only [hla, List.length_append, List.length_cons, List.length_nil]
  refine le_end (own := [_, _, _, _]) (ex := [_]) (Nat.zero_le _) ?_ ?_ ?_
  ·simp only [go_sem, Int.natCast_add, Int.cast_ofNat_Int]
  ·simp only [go_sem]
  ·simp only [go_sem, Obj.allUnder, Obj.under, AV.unders, AV.under]
end Go.AM

set_option maxRecDepth 8000
namespace Go.AM
open Go Go.Proofs

def freStep (nx : List (List Nat)) (B : List Bool) : List Bool := List.zipWith (fun b l => b || l.any fun j => B.getD j false) B nx
def freL (ab nx : List (List Nat)) (w : Nat) : Nat → List Bool
 | 0 => ab.map (·.contains w)
 | n + 1 => freStep nx (freL ab nx w n)
theorem freL_len {ab nx : List (List Nat)} {w : Nat} (h : ab.length = nx.length) : ∀ n, (freL ab nx w n).length = ab.length
 | 0 => by simp [freL]
 | n + 1 => by unfold freL freStep; rw [List.length_zipWith, freL_len h n, h, Nat.min_self]
theorem zip_getD {B : List Bool} {nx : List (List Nat)} {i : Nat} (h1 : i < B.length) (h2 : i < nx.length) : (freStep nx B).getD i false = (B.getD i false || (nx.getD i []).any fun j => B.getD j false) := by
 unfold freStep
 rw [List.getD_eq_getElem?_getD, List.getElem?_zipWith, List.getElem?_eq_getElem h1, List.getElem?_eq_getElem h2]
 simp [List.getD_eq_getElem?_getD, List.getElem?_eq_getElem h1, List.getElem?_eq_getElem h2]
theorem getD_ge {α : Type} {l : List α} {d : α} {i : Nat} (h : l.length ≤ i) : l.getD i d = d := by
 rw [List.getD_eq_getElem?_getD, List.getElem?_eq_none h]; rfl
theorem freL_sound {ab nx : List (List Nat)} {w : Nat} (h : ab.length = nx.length) : ∀ n i, (freL ab nx w n).getD i false = true → Fre ab nx w i
 | 0, i, hi => by
  unfold freL at hi
  rcases Nat.lt_or_ge i ab.length with h1 | h1
  ·rw [map_getD (e := []) h1] at hi
   exact .here (by simpa using hi)
  ·rw [getD_ge (by simpa using h1)] at hi; cases hi
 | n + 1, i, hi => by
  unfold freL at hi
  rcases Nat.lt_or_ge i ab.length with h1 | h1
  ·rw [zip_getD (by rw [freL_len h]; exact h1) (by omega), Bool.or_eq_true] at hi
   rcases hi with hi | hi
   ·exact freL_sound h n i hi
   ·obtain ⟨j, hj, hb⟩ := List.any_eq_true.1 hi
    exact .next hj (freL_sound h n j hb)
  ·rw [getD_ge (by unfold freStep; rw [List.length_zipWith, freL_len h]; omega)] at hi; cases hi
theorem freL_base {ab nx : List (List Nat)} {w : Nat} (h : ab.length = nx.length) : ∀ n i, w ∈ ab.getD i [] → (freL ab nx w n).getD i false = true
 | 0, i, hi => by
  unfold freL
  rcases Nat.lt_or_ge i ab.length with h1 | h1
  ·rw [map_getD (e := []) h1]; simpa using hi
  ·rw [getD_ge h1] at hi; cases hi
 | n + 1, i, hi => by
  unfold freL
  rcases Nat.lt_or_ge i ab.length with h1 | h1
  ·rw [zip_getD (by rw [freL_len h]; exact h1) (by omega), freL_base h n i hi]; rfl
  ·rw [getD_ge h1] at hi; cases hi
theorem freL_done {ab nx : List (List Nat)} {w n : Nat} (h : ab.length = nx.length) (hs : freStep nx (freL ab nx w n) = freL ab nx w n) (i : Nat) : (freL ab nx w n).getD i false = true ↔ Fre ab nx w i := by
 refine ⟨freL_sound h n i, fun hf => ?_⟩
 induction hf with
 | here hw => exact freL_base h n _ hw
 | @next i j hj _ ih =>
  rcases Nat.lt_or_ge i ab.length with h1 | h1
  ·rw [← hs, zip_getD (by rw [freL_len h]; exact h1) (by omega), Bool.or_eq_true]
   exact .inr (List.any_eq_true.2 ⟨j, hj, ih⟩)
  ·rw [getD_ge (by omega)] at hj; cases hj
theorem bestF_congr {n : Nat} {B C : Nat → Nat → Bool} : ∀ m, (∀ w, w < m → B w = C w) → bestF n B m = bestF n C m
 | 0, _ => rfl
 | m + 1, h => by
  unfold bestF
  rw [bestF_congr m (fun w hw => h w (by omega)), h m (Nat.lt_succ_self m)]
def deadC (s : PSys) (K : Nat) : Option (List Int × Int × Int) := match reachG s (iniX s) with
 | none => none
 | some (g, ab, nx) => if (List.range (iniX s).length).all (fun w => decide (freStep nx (freL ab nx w K) = freL ab nx w K)) then
   (let b := bestF g.st.length (fun w i => (freL ab nx w K).getD i false) (iniX s).length
   some (if b.1 = g.st.length then ([], 0, 6) else ((chainF g 5000 b.1.toNat).reverse, b.2, 0))) else none
theorem deadR_of {s : PSys} {K : Nat} {v : List Int × Int × Int} (hc : checkE s = 0) (h : deadC s K = some v) : deadR [sysD s] (.tup [.dat (.sl none (intsD v.1)), .dat (.int .i64 v.2.1), .dat (.int .i64 v.2.2)]) := by
 have hV := iniX_valid hc
 unfold deadC at h
 cases hr : reachG s (iniX s) with
 | none => rw [hr] at h; cases h
 | some r =>
  obtain ⟨g, ab, nx⟩ := r
  rw [hr] at h
  simp only at h
  split at h
  ·rename_i hst
   have hF := frok_of hV hr
   have hl : ab.length = nx.length := by rw [hF.la, hF.ln]
   let B : Nat → Nat → Bool := fun w i => if w < (iniX s).length then (freL ab nx w K).getD i false else @decide (Fre ab nx w i) (Classical.propDecidable _)
   refine ⟨s, B, rfl, ⟨(good_of hc).small⟩, ?_, ?_⟩
   ·intro g' ab' nx' hr' w i _
    rw [hr] at hr'
    cases hr'
    simp only [B]
    split
    ·rename_i hw
     have := List.all_eq_true.1 hst w (List.mem_range.2 hw)
     exact freL_done hl (by simpa using this) i
    ·simp
   ·have hb : bestF g.st.length B (iniX s).length = bestF g.st.length (fun w i => (freL ab nx w K).getD i false) (iniX s).length := bestF_congr _ fun w hw => by
     funext i; simp only [B, if_pos hw]
    have : deadV s B = v := by
     unfold deadV
     rw [if_neg (by rw [hc]; decide), hr]
     simp only
     rw [hb]
     simpa using h
    rw [this]
  ·cases h
end Go.AM

set_option maxRecDepth 8000
set_option maxHeartbeats 4000000
namespace Go.AM
open Go Go.Proofs

def takP (n k s : Nat) : PSys := ⟨[⟨[117], s, 0⟩], [], [⟨[119], n, false, List.replicate k ⟨1, 0, 1, false⟩ ++ [⟨2, 0, k, false⟩]⟩]⟩
def takPR (ds : List D) (v : AV) : Prop := ∃ n k s : Nat, ds = [.int .i64 n, .int .i64 k, .int .i64 s] ∧ k ≤ 1000 ∧ v = .dat (sysD (takP n k s))
theorem takers_ok : OkF Try.prog 29 (dataC takPR) := by
 refine okF_data Try.func29 rfl (by decide) ?_
 rintro ds v ⟨n, k, s, rfl, hk, rfl⟩
 refine sem_of_awpK [2, 7] (Γ := tbl []) okG_nil _ _ _ ?_
 simp only [go_sem, Int.reduceEq, Int.reduceLT, Int.reduceLE, eq_self, Int.natCast_nonneg, Int.toNat_natCast, Try.ntmps29]
 refine sem_le (le_addnil 7 (some 4) rfl (Nat.zero_le _)) ?_
 refine sem_of_awpK [7] (Γ := tbl []) okG_nil _ _ _ ?_
 have hRl : ∀ i, (List.map stepD (List.replicate i (⟨1, 0, 1, false⟩ : PStep))).length = i := fun i => by simp
 have hRt : ∀ i, List.take i (List.map stepD (List.replicate i (⟨1, 0, 1, false⟩ : PStep))) = List.map stepD (List.replicate i (⟨1, 0, 1, false⟩ : PStep)) := fun i => List.take_of_length_le (by rw [hRl]; exact Nat.le_refl _)
 have hRs : ∀ i, List.map stepD (List.replicate i (⟨1, 0, 1, false⟩ : PStep)) ++ [.agg [.int .i64 1, .int .i64 0, .int .i64 1, .bool false]] = List.map stepD (List.replicate (i + 1) (⟨1, 0, 1, false⟩ : PStep)) := fun i => by rw [List.replicate_succ', List.map_append]; rfl
 refine sem_loop (fun i : Nat => ⟨slotsOf 29 [(0, .dat (.int .i64 n)), (1, .dat (.int .i64 k)), (2, .dat (.int .i64 s)), (6, .ptr 0 0 0), (7, .sl 1 0 i), (8, .dat (.int .i64 k)), (9, .dat (.int .i64 i))], [.box [.nils, .nils, .nils], .row (some 4) (List.map stepD (List.replicate i (⟨1, 0, 1, false⟩ : PStep)))], 0, []⟩)
  (fun i => i ≤ k) (fun i => k - i) 0 (Nat.zero_le _) ?_ ?_
 ·exact le_slots' (by simp only [go_sem, Int.natCast_zero, List.replicate, List.map_nil])
 intro i hi
 refine sem_of_awpK [7] (Γ := tbl []) okG_nil _ _ _ ?_
 by_cases hlt : i < k
 ·have hk2 : (i : Int) < k := by omega
  simp only [go_sem, Int.reduceEq, Int.reduceLT, Int.reduceLE, eq_self, Int.natCast_nonneg, Int.toNat_natCast, hk2, hRl, hRt, hRs, List.drop_zero, Nat.le_refl]
  refine ⟨by omega, by omega, inR_i64.2 (by omega), i + 1, by omega, by omega, ?_⟩
  refine le_end (own := [_, _]) (ex := [_]) (Nat.zero_le _) ?_ ?_ ?_
  ·simp only [go_sem, Int.natCast_add, Int.cast_ofNat_Int]
  ·simp only [go_sem]
  ·simp only [go_sem, Obj.under, AV.unders, AV.under]
 obtain rfl : i = k := by omega
 have hk2 : ¬ (i : Int) < i := by omega
 simp only [go_sem, Int.reduceEq, Int.reduceLT, Int.reduceLE, eq_self, Int.natCast_nonneg, Int.toNat_natCast, hk2, hRl, hRt, List.drop_zero, Nat.le_refl]
 refine ⟨by omega, by omega, ?_⟩
 refine sem_le (le_freeze 1 (ag := some 4) rfl (Nat.zero_le _)) ?_
 refine sem_of_awp (Γ := tbl []) okG_nil _ _ _ ?_
 have hal : (List.map stepD (List.replicate i (⟨1, 0, 1, false⟩ : PStep)) ++ [D.agg [.int .i64 2, .int .i64 0, .int .i64 i, .bool false]]).length = i + 1 := by simp
 have hat : List.take (i + 1) (List.map stepD (List.replicate i (⟨1, 0, 1, false⟩ : PStep)) ++ [D.agg [.int .i64 2, .int .i64 0, .int .i64 i, .bool false]]) = List.map stepD (takP n i s).classes.head!.steps := by
  rw [List.take_of_length_le (by rw [hal]; exact Nat.le_refl _)]
  show _ = List.map stepD (List.replicate i (⟨1, 0, 1, false⟩ : PStep) ++ [⟨2, 0, i, false⟩])
  rw [List.map_append]; rfl
 simp only [go_sem, Int.reduceEq, Int.reduceLT, Int.reduceLE, eq_self, Int.natCast_nonneg, Int.toNat_natCast, hal, hat, Nat.le_refl]
 refine post_res (.inl rfl) [.cell 6 26] rfl ?_
 simp only [go_sem]
 refine Le.trans (le_freeze 3 (ag := some 3) rfl (Nat.zero_le _)) ?_
 refine Le.trans (le_freeze 4 (ag := some 4) rfl (Nat.zero_le _)) ?_
 simp only [go_sem, List.length_cons, List.length_nil, Nat.le_refl, List.take_succ_cons, List.take_zero]
 exact le_fin (by simp only [go_sem]; rfl) (by simp only [go_sem])

theorem runeS_len4 (n : Int) : (runeS n).length ≤ 4 := by
 unfold runeS Utf8.encode
 simp only
 repeat' split
 all_goals simp
def phiAB (n i : Nat) (rev : Bool) : Int × Int := if rev && decide (i + 1 = n) then (((i + 1) % n : Nat), i) else (i, ((i + 1) % n : Nat))
def phiL (i : Nat) : List UInt8 := 102 :: runeS (48 + i)
def phiC (n : Nat) (rev : Bool) (i : Nat) : PCls := ⟨112 :: runeS (48 + i), 1, false, [⟨3, (phiAB n i rev).1, 0, false⟩, ⟨3, (phiAB n i rev).2, 0, false⟩, ⟨4, (phiAB n i rev).1, 0, false⟩, ⟨4, (phiAB n i rev).2, 0, false⟩]⟩
def phiP (n : Nat) (rev : Bool) : PSys := ⟨[], (List.range n).map phiL, (List.range n).map (phiC n rev)⟩
def phLD (i : Nat) : List D := (List.range i).map fun j => .str (phiL j)
def phCD (n : Nat) (rev : Bool) (i : Nat) : List D := (List.range i).map fun j => clsD (phiC n rev j)
theorem phL_len (i : Nat) : (phLD i).length = i := by simp [phLD]
theorem phC_len (n : Nat) (rev : Bool) (i : Nat) : (phCD n rev i).length = i := by simp [phCD]
theorem phL_take (i : Nat) : List.take i (phLD i) = phLD i := List.take_of_length_le (by rw [phL_len]; exact Nat.le_refl _)
theorem phC_take (n : Nat) (rev : Bool) (i : Nat) : List.take i (phCD n rev i) = phCD n rev i := List.take_of_length_le (by rw [phC_len]; exact Nat.le_refl _)
theorem phL_succ (i : Nat) : phLD i ++ [.str (102 :: runeS (48 + i))] = phLD (i + 1) := by unfold phLD; rw [List.range_succ, List.map_append]; rfl
theorem phC_succ (n : Nat) (rev : Bool) (i : Nat) : phCD n rev i ++ [clsD (phiC n rev i)] = phCD n rev (i + 1) := by unfold phCD; rw [List.range_succ, List.map_append]; rfl
theorem phC_succ' {n : Nat} {rev : Bool} {i : Nat} {a b : Int} (h : phiAB n i rev = (a, b)) : phCD n rev i ++ [.agg [.str (112 :: runeS (48 + i)), .int .i64 1, .bool false, .sl (some 4) [.agg [.int .i64 3, .int .i64 a, .int .i64 0, .bool false], .agg [.int .i64 3, .int .i64 b, .int .i64 0, .bool false], .agg [.int .i64 4, .int .i64 a, .int .i64 0, .bool false], .agg [.int .i64 4, .int .i64 b, .int .i64 0, .bool false]]]] = phCD n rev (i + 1) := by
 rw [← phC_succ]
 have : phiC n rev i = ⟨112 :: runeS (48 + i), 1, false, [⟨3, a, 0, false⟩, ⟨3, b, 0, false⟩, ⟨4, a, 0, false⟩, ⟨4, b, 0, false⟩]⟩ := by unfold phiC; rw [h]
 rw [this]; rfl
def phiPR (ds : List D) (v : AV) : Prop := ∃ (n : Nat) (rev : Bool), ds = [.int .i64 n, .bool rev] ∧ n ≤ 1000 ∧ v = .dat (sysD (phiP n rev))
theorem sysD_phi (n : Nat) (rev : Bool) : sysD (phiP n rev) = .agg [.sl (some 3) [], .sl none (phLD n), .sl (some 4) (phCD n rev n)] := by
 simp [sysD, phiP, phLD, phCD, List.map_map, Function.comp_def]
theorem philosophers_ok : OkF Try.prog 30 (dataC phiPR) := by
 refine okF_data Try.func30 rfl (by decide) ?_
 rintro ds v ⟨n, rev, rfl, hn, rfl⟩
 rw [sysD_phi]
 refine sem_of_awpK [2, 11] (Γ := tbl []) okG_nil _ _ _ ?_
 simp only [go_sem, Int.reduceEq, Int.reduceLT, Int.reduceLE, eq_self, Int.natCast_nonneg, Int.toNat_natCast, Try.ntmps30]
 refine sem_le (le_addnilR 1 0 (some 3) rfl rfl (Nat.zero_le _)) ?_
 refine sem_le (le_addnilR 1 1 none rfl rfl (Nat.zero_le _)) ?_
 refine sem_le (le_addnilR 1 2 (some 4) rfl rfl (Nat.zero_le _)) ?_
 refine sem_of_awpK [11] (Γ := tbl []) okG_nil _ _ _ ?_
 simp only [go_sem, Int.reduceEq, Int.reduceLT, Int.reduceLE, eq_self, Int.natCast_nonneg, Int.toNat_natCast]
 refine sem_loop (fun i : Nat => ⟨slotsOf 59 [(0, .dat (.int .i64 n)), (1, .dat (.bool rev)), (4, .ptr 0 0 0), (5, .ptr 1 0 0), (9, .dat (.int .i64 n)), (10, .dat (.int .i64 i))], [.box [.nils, .nils, .nils], .box [.sl 2 0 0, .sl 3 0 i, .sl 4 0 i], .row (some 3) [], .row none (phLD i), .row (some 4) (phCD n rev i)], 0, []⟩)
  (fun i => i ≤ n) (fun i => n - i) 0 (Nat.zero_le _) ?_ ?_
 ·exact le_slots' (by simp only [go_sem, Int.natCast_zero])
 intro i hi
 refine sem_of_awpK [9, 11] (Γ := tbl []) okG_nil _ _ _ ?_
 by_cases hlt : i < n
 ·have hk2 : (i : Int) < n := by omega
  have hm : (i + 1 : Int).tmod n = ((i + 1) % n : Nat) := by
   rw [Int.tmod_eq_emod_of_nonneg (by omega)]; norm_cast
  have hml : (i + 1) % n < n := Nat.mod_lt _ (by omega)
  have hn0 : ¬ (n : Int) = 0 := by omega
  have hr4 := runeS_len4 (48 + i)
  have hm4 : 5 ≤ maxLen := by decide
  simp only [go_sem, Int.reduceEq, Int.reduceLT, Int.reduceLE, eq_self, Int.natCast_nonneg, Int.toNat_natCast, hk2, phL_len, phL_take, phL_succ]
  refine ⟨inR_i64.2 (by omega), inR_i32.2 (by omega), by omega, by omega, by omega, ?_⟩
  refine sem_draw (pf := []) mixed okG_nil pureNo [0, 1, 2, 3, 4, 5, 6] (by kernel_rfl) ?_
  have hab : phiAB n i rev = if rev && decide (i + 1 = n) then ((((i + 1) % n : Nat) : Int), (i : Int)) else ((i : Int), (((i + 1) % n : Nat) : Int)) := rfl
  cases rev with
  | false =>
   rw [Bool.false_and, if_neg (by decide)] at hab
   simp only [go_sem, Int.reduceEq, Int.reduceLT, Int.reduceLE, eq_self, Int.natCast_nonneg, Int.toNat_natCast, chainI, hn0, hm]
   refine ⟨inR_i64.2 (by omega), inR_i64.2 (by omega), ?_⟩
   have hfin := phC_succ' hab
   refine sem_cut 16 okG_nil ?_
   simp only [go_sem, Int.reduceEq, Int.reduceLT, Int.reduceLE, eq_self, Int.natCast_nonneg, Int.toNat_natCast]
   refine ⟨inR_i64.2 (by omega), inR_i32.2 (by omega), by omega, _, le_freeze 6 (ag := some 4) rfl (Nat.zero_le _), ?_⟩
   simp only [go_sem, Int.reduceEq, Int.reduceLT, Int.reduceLE, eq_self, Int.natCast_nonneg, Int.toNat_natCast, phC_len, phC_take, hfin, List.length_cons, List.length_nil, List.take_succ_cons, List.take_zero, Nat.le_refl]
   refine ⟨by omega, by omega, inR_i64.2 (by omega), i + 1, by omega, by omega, ?_⟩
   refine le_end (own := [_, _, _, _, _]) (ex := [_, _, _]) (Nat.zero_le _) ?_ ?_ ?_
   ·simp only [go_sem, Int.natCast_add, Int.cast_ofNat_Int]
   ·simp only [go_sem]
   ·simp only [go_sem, Obj.under, AV.unders, AV.under]
  | true =>
   rw [Bool.true_and] at hab
   by_cases hi1 : i + 1 = n
   ·rw [if_pos (by simpa using hi1)] at hab
    have hi2 : ((i : Int) = n - 1) = True := eq_true (by omega)
    simp only [go_sem, Int.reduceEq, Int.reduceLT, Int.reduceLE, eq_self, Int.natCast_nonneg, Int.toNat_natCast, chainI, hn0, hm, hi2, decide_true]
    refine ⟨inR_i64.2 (by omega), inR_i64.2 (by omega), inR_i64.2 (by omega), ?_⟩
    have hfin := phC_succ' hab
    refine sem_cut 16 okG_nil ?_
    simp only [go_sem, Int.reduceEq, Int.reduceLT, Int.reduceLE, eq_self, Int.natCast_nonneg, Int.toNat_natCast]
    refine ⟨inR_i64.2 (by omega), inR_i32.2 (by omega), by omega, _, le_freeze 6 (ag := some 4) rfl (Nat.zero_le _), ?_⟩
    simp only [go_sem, Int.reduceEq, Int.reduceLT, Int.reduceLE, eq_self, Int.natCast_nonneg, Int.toNat_natCast, phC_len, phC_take, hfin, List.length_cons, List.length_nil, List.take_succ_cons, List.take_zero, Nat.le_refl]
    refine ⟨by omega, by omega, inR_i64.2 (by omega), i + 1, by omega, by omega, ?_⟩
    refine le_end (own := [_, _, _, _, _]) (ex := [_, _, _]) (Nat.zero_le _) ?_ ?_ ?_
    ·simp only [go_sem, Int.natCast_add, Int.cast_ofNat_Int]
    ·simp only [go_sem]
    ·simp only [go_sem, Obj.under, AV.unders, AV.under]
   ·rw [if_neg (by simpa using hi1)] at hab
    have hi2 : ((i : Int) = n - 1) = False := eq_false (by omega)
    simp only [go_sem, Int.reduceEq, Int.reduceLT, Int.reduceLE, eq_self, Int.natCast_nonneg, Int.toNat_natCast, chainI, hn0, hm, hi2, decide_false]
    refine ⟨inR_i64.2 (by omega), inR_i64.2 (by omega), inR_i64.2 (by omega), ?_⟩
    have hfin := phC_succ' hab
    refine sem_cut 16 okG_nil ?_
    simp only [go_sem, Int.reduceEq, Int.reduceLT, Int.reduceLE, eq_self, Int.natCast_nonneg, Int.toNat_natCast]
    refine ⟨inR_i64.2 (by omega), inR_i32.2 (by omega), by omega, _, le_freeze 6 (ag := some 4) rfl (Nat.zero_le _), ?_⟩
    simp only [go_sem, Int.reduceEq, Int.reduceLT, Int.reduceLE, eq_self, Int.natCast_nonneg, Int.toNat_natCast, phC_len, phC_take, hfin, List.length_cons, List.length_nil, List.take_succ_cons, List.take_zero, Nat.le_refl]
    refine ⟨by omega, by omega, inR_i64.2 (by omega), i + 1, by omega, by omega, ?_⟩
    refine le_end (own := [_, _, _, _, _]) (ex := [_, _, _]) (Nat.zero_le _) ?_ ?_ ?_
    ·simp only [go_sem, Int.natCast_add, Int.cast_ofNat_Int]
    ·simp only [go_sem]
    ·simp only [go_sem, Obj.under, AV.unders, AV.under]
 obtain rfl : i = n := by omega
 have hk2 : ¬ (i : Int) < i := by omega
 simp only [go_sem, Int.reduceEq, Int.reduceLT, Int.reduceLE, eq_self, Int.natCast_nonneg, Int.toNat_natCast, hk2]
 refine sem_le (le_freeze 2 (ag := some 3) rfl (Nat.zero_le _)) ?_
 refine sem_le (le_freeze 3 (ag := none) rfl (Nat.zero_le _)) ?_
 refine sem_le (le_freeze 4 (ag := some 4) rfl (Nat.zero_le _)) ?_
 refine sem_of_awp (Γ := tbl []) okG_nil _ _ _ ?_
 simp only [go_sem, Int.reduceEq, Int.reduceLT, Int.reduceLE, eq_self, Int.natCast_nonneg, Int.toNat_natCast, phL_len, phL_take, phC_len, phC_take, Nat.le_refl, List.length_nil, List.take_nil]
 refine post_res (.inl rfl) [.cell 4 26] rfl ?_
 simp only [go_sem, phL_len, phL_take, phC_len, phC_take, Nat.le_refl, List.length_nil, List.take_nil]
 exact le_fin (by simp only [go_sem]) (by simp only [go_sem])
end Go.AM

