/- Own work over the model of the kit. -/
import Derived.Test.YtfiojoacbomncaaG21
import Derived.Test.YtfiojoacbomncaaG20
import Derived.Test.YtfiojoacbomncaaG11
import Derived.Test.YtfiojoacbomncaaG4
import Derived.Test.YtfiojoacbomncaaG13
set_option linter.constructorNameAsVariable false
set_option linter.unusedSimpArgs false
set_option linter.unusedVariables false
set_option maxRecDepth 8000
namespace Go.AM
open Go Go.Proofs

theorem step_in {s : PSys} {f : PFr} (h : frOk s f = true) : stepAtF s f ∈ (clsAt s f).steps := by
 obtain ⟨c1, c2, c3, c4⟩ := frOk_iff.1 h
 unfold stepAtF
 rw [List.getD_eq_getElem?_getD, List.getElem?_eq_getElem (by omega)]; exact List.getElem_mem _
theorem take_dem {s : PSys} {x : PSt} (hV : Valid s x) {w : Nat} (hw : w < x.length) {i : Nat} (hk : (topS s x w).kind = 1) (hon : (topS s x w).on = i) (d : Bool) (hd : d = true → (topS s x w).deep = true) :
  sumI (fun f => selU d (ownU i ((clsAt s f).steps.take f.a.toNat))) (frames x) + (topS s x w).cnt ≤ demL i d s.classes := by
 have hg := hV.good
 have hM : ∀ c ∈ s.classes, 0 ≤ mxN i d c.steps c.steps.length := fun c hc => (mx_le hg (hg.cls c hc) i d).1
 have hgrp := grp hV (fun c hc => (hg.cls c hc).w0) i d hM s.classes.length (Nat.le_refl _)
 rw [List.take_length] at hgrp
 have h1 : sumI (fun f => mxN i d (clsAt s f).steps (clsAt s f).steps.length) (frames x) ≤ sumI (fun f => if f.c < (s.classes.length : Nat) then mxN i d (clsAt s f).steps (clsAt s f).steps.length else 0) (frames x) := sumI_leM fun f hf => by
  obtain ⟨c1, c2, c3, c4⟩ := frOk_iff.1 (hV.frames f hf)
  rw [if_pos c2]; exact Int.le_refl _
 have htop := hV.top hw
 have htm : topF (x.getD w []) ∈ frames x := List.mem_flatten.2 ⟨x.getD w [], by rw [List.getD_eq_getElem?_getD, List.getElem?_eq_getElem hw]; exact List.getElem_mem _, topF_mem (hV.stk hw).1⟩
 have h2 : sumI (fun f => selU d (ownU i ((clsAt s f).steps.take f.a.toNat))) (frames x) + (topS s x w).cnt ≤ sumI (fun f => mxN i d (clsAt s f).steps (clsAt s f).steps.length) (frames x) := by
  refine sum_pt htm (fun f hf => ?_) ?_
  ·obtain ⟨c1, c2, c3, c4⟩ := frOk_iff.1 (hV.frames f hf)
   exact Int.le_trans (ownU_le_mxN i d (clsAt s f).steps f.a.toNat) (mxN_mono i d _ (by omega))
  ·obtain ⟨c1, c2, c3, c4⟩ := frOk_iff.1 htop
   have h3 := Int.le_trans (ownU_le_mxN i d (clsAt s (topF (x.getD w []))).steps ((topF (x.getD w [])).a + 1).toNat) (mxN_mono i d _ (n := (clsAt s (topF (x.getD w []))).steps.length) (by omega))
   rw [take_next htop, ownU_snoc] at h3
   have hy : stepAtF s (topF (x.getD w [])) = topS s x w := rfl
   rw [hy] at h3
   unfold ustep at h3
   rw [if_pos hon, if_pos hk] at h3
   cases d with
   | false => exact h3
   | true =>
    rw [hd rfl] at h3
    simpa [selU] using h3
 omega
theorem sum_pos {G : PFr → Int} : ∀ {L : List PFr}, 0 < sumI G L → ∃ f ∈ L, 0 < G f
 | [], h => by simp [sumI] at h
 | f :: L, h => by
  rw [sumI_cons] at h
  by_cases h1 : 0 < G f
  ·exact ⟨f, by simp, h1⟩
  ·obtain ⟨g, h2, h3⟩ := sum_pos (G := G) (L := L) (by omega)
   exact ⟨g, by simp [h2], h3⟩
theorem sum_ne {G : PFr → Int} : ∀ {L : List PFr}, sumI G L ≠ 0 → ∃ f ∈ L, G f ≠ 0
 | [], h => by simp [sumI] at h
 | f :: L, h => by
  rw [sumI_cons] at h
  by_cases h1 : G f = 0
  ·obtain ⟨g, h2, h3⟩ := sum_ne (G := G) (L := L) (by omega)
   exact ⟨g, by simp [h2], h3⟩
  ·exact ⟨f, by simp, h1⟩
theorem blk {s : PSys} {L : List Int} {x : PSt} (hC : Cert s L) (hV : Valid s x) (hD : DpInv s x) {w : Nat} (hw : w < x.length) (hb : ableB s x w = false) : waitB s (topS s x w) = true ∧ ∃ f ∈ frames x, hldF s f (targetN s (topS s x w)) := by
 have hg := hV.good
 have htop := hV.top hw
 have hp : preE s (topS s x w) = 0 := step_mem hg htop
 have himp : impB s (topS s x w) = false := hC.imp _ (cls_mem htop) _ (step_in htop)
 obtain ⟨_, ⟨o1, o2⟩, hcnt, _⟩ := preE_0 hp
 have hdem := fun i hk hon d hd => take_dem hV hw (i := i) hk hon d hd
 unfold ableB posB at hb
 generalize hy : topS s x w = y at *
 by_cases k1 : y.kind = 1
 ·obtain ⟨i, hon, hi⟩ := pool_at hg hp k1
  rw [if_pos k1, hon] at hb
  simp only [Int.toNat_natCast, Bool.or_eq_false_iff, Bool.and_eq_false_iff, decide_eq_false_iff_not] at hb
  have hc := hcnt (.inl k1)
  rw [hon] at hc
  simp only [Int.toNat_natCast] at hc
  unfold impB at himp
  rw [if_pos k1, hon] at himp
  simp only [Int.toNat_natCast, Bool.and_eq_false_iff, Bool.not_eq_false', decide_eq_false_iff_not] at himp
  have d0 := hdem i k1 hon false (by simp)
  have e0 : sumI (fun f => selU false (ownU i ((clsAt s f).steps.take f.a.toNat))) (frames x) = sumI (frU s i) (frames x) := by
   congr 1; funext f; exact own_frU s i f
  rw [e0] at d0
  have hDi := hD i hi
  have hS : 0 < sumI (frU s i) (frames x) := by
   rcases himp with h | h
   ·rcases hb.1 with h' | h'
    ·rw [h] at h'; cases h'
    ·omega
   ·omega
  refine ⟨?_, ?_⟩
  ·unfold waitB
   rw [if_neg (by omega), if_pos k1, hon]
   simp only [Int.toNat_natCast, Bool.and_eq_true, Bool.not_eq_true', Bool.and_eq_false_iff, decide_eq_true_eq, decide_eq_false_iff_not]
   refine ⟨by
    rcases himp with h | h
    ·rcases hb.1 with h' | h'
     ·rw [h] at h'; cases h'
     ·omega
    ·omega, ?_⟩
   cases hdp : y.deep with
   | false => exact .inl rfl
   | true =>
    refine .inr ?_
    have d1 := hdem i k1 hon true (fun _ => hdp)
    have e1 : sumI (frU s i) (frames x) = sumI (shl s i) (frames x) + sumI (fun f => selU true (ownU i ((clsAt s f).steps.take f.a.toNat))) (frames x) := by
     rw [← sumI_add2]
     congr 1; funext f
     unfold shl selU
     rw [own_frU]; simp
    rcases hb.1 with h' | h'
    ·rw [hdp] at h'; cases h'
    ·omega
  ·obtain ⟨f, hf, hf2⟩ := sum_pos hS
   refine ⟨f, hf, ?_⟩
   have ht : targetN s y = (i : Int) := by unfold targetN; rw [if_neg (by omega), if_neg (by omega), hon]
   rw [ht]; exact hld_unit hi hf2
 ·rw [if_neg k1] at hb
  by_cases k3 : y.kind = 3
  ·rw [if_pos k3] at hb
   have hi : y.on.toNat < s.locks.length := by
    unfold mostE at o2
    rw [k3] at o2
    simp at o2
    omega
   have hne := of_decide_eq_false hb
   obtain ⟨f, hf, hf2⟩ := sum_ne hne
   have hfo := hV.frames f hf
   obtain ⟨c1, c2, c3, c4⟩ := frOk_iff.1 hfo
   have hl := run_lock (hg.cls _ (cls_mem hfo)) (k := f.a.toNat) (by omega) hi
   have hf3 : 0 < frL s y.on.toNat f := by
    unfold frL at hf2 ⊢
    rcases hl with h | h
    ·exact absurd h hf2
    ·rw [h]; decide
   refine ⟨by unfold waitB; rw [if_pos (.inl k3)], f, hf, ?_⟩
   have ht : targetN s y = (s.pools.length : Int) + (y.on.toNat : Nat) := by unfold targetN; rw [if_pos k3]; omega
   rw [ht]; exact hld_lock hi hf3
  ·rw [if_neg k3] at hb
   by_cases k5 : y.kind = 5
   ·rw [if_pos k5] at hb
    have hn := of_decide_eq_false hb
    obtain ⟨ci, hci, hcl⟩ := cls_at hg hp k5
    rw [hci] at hn
    simp only [Int.toNat_natCast] at hn
    unfold impB at himp
    rw [if_neg (by omega), if_pos k5, hci] at himp
    have hw0 := of_decide_eq_false himp
    simp only [Int.toNat_natCast] at hw0
    have hm : s.classes.getD ci default ∈ s.classes := by rw [List.getD_eq_getElem?_getD, List.getElem?_eq_getElem hcl]; exact List.getElem_mem _
    have hw1 := (hg.cls _ hm).w0
    obtain ⟨f, hf, hf2⟩ := sum_pos (G := frE s ci) (L := frames x) (by omega)
    unfold frE at hf2
    split at hf2
    ·rename_i h
     obtain ⟨t1, t2⟩ := call_target (s := s) k5
     refine ⟨t1, f, hf, ?_⟩
     rw [t2, hci, ← h.1]; exact hld_cls h.2
    ·omega
   ·rw [if_neg k5] at hb; cases hb
end Go.AM

set_option maxRecDepth 8000
namespace Go.AM
open Go Go.Proofs

theorem sta_none {s : PSys} {l : List PFr} {c : Nat} (h : formedB s l c = true) (hc : c ∈ wkL s) (hs : staB l = true) : ∀ f ∈ l, ∀ ρ, ¬ hldF s f ρ := by
 intro f hf ρ hr
 unfold staB at hs
 split at hs
 ·rename_i g
  rw [List.mem_singleton.1 hf] at hr
  have ha : g.a = 0 := of_decide_eq_true hs
  obtain ⟨_, h1, _⟩ := formed_iff.1 h
  have hgc : g.c = c := by simpa using h1
  have hsv : (clsAt s g).server = false := by rw [cls_n hgc]; exact (wkL_mem hc).2
  unfold hldF holdL at hr
  rw [ha] at hr
  simp only [Int.toNat_zero, List.take_zero] at hr
  rcases List.mem_append.1 hr with hr | hr
  ·rcases List.mem_append.1 hr with hr | hr
   ·obtain ⟨j, n, h2, h3, _⟩ := hU_mem.1 hr
    have : n ∈ balU s [] := List.mem_of_getElem? h2
    unfold balU at this
    obtain ⟨i, _, rfl⟩ := List.mem_map.1 this
    simp [bal] at h3
   ·obtain ⟨j, h2, _⟩ := hB_mem.1 hr
    have : true ∈ balB s [] := List.mem_of_getElem? h2
    unfold balB at this
    obtain ⟨i, _, h3⟩ := List.mem_map.1 this
    simp [bal] at h3
  ·unfold hC at hr
   rw [hsv] at hr
   simp at hr
 ·cases hs
theorem wk_of {s : PSys} {x : PSt} (hV : Valid s x) {w : Nat} (hw : w < x.length) : ∃ c, c ∈ wkL s ∧ formedB s (x.getD w []) c = true := by
 obtain ⟨c, h1, h2⟩ := val_formed hV hw
 exact ⟨c, List.mem_of_getElem? h1, h2⟩
theorem prog {s : PSys} {L : List Int} {x : PSt} (hC : Cert s L) (hV : Valid s x) (hD : DpInv s x) : ∀ (n : Nat) (w : Nat), (lvl L (targetN s (topS s x w))).toNat ≤ n → w < x.length → ableB s x w = false → ∃ u, u < x.length ∧ ableB s x u = true ∧ staB (x.getD u []) = false := by
 intro n
 induction n using Nat.strongRecOn with
 | _ n ih =>
 intro w hn hw hb
 obtain ⟨_, f, hf, hfr⟩ := blk hC hV hD hw hb
 obtain ⟨l, hl, hfl⟩ := List.mem_flatten.1 hf
 obtain ⟨u, hu, rfl⟩ := List.getElem_of_mem hl
 have hgu : x.getD u [] = x[u] := by rw [List.getD_eq_getElem?_getD, List.getElem?_eq_getElem hu]; rfl
 rw [← hgu] at hfl
 cases hbu : ableB s x u with
 | true =>
  obtain ⟨c, hc1, hc2⟩ := wk_of hV hu
  refine ⟨u, hu, hbu, ?_⟩
  cases hst : staB (x.getD u []) with
  | false => rfl
  | true => exact absurd hfr (sta_none hc2 hc1 hst f hfl _)
 | false =>
  obtain ⟨hwu, _⟩ := blk hC hV hD hu hbu
  obtain ⟨c, hc1, hc2⟩ := wk_of hV hu
  obtain ⟨h0, _, hch⟩ := formed_iff.1 hc2
  obtain ⟨r, hr⟩ := rv_top h0
  have hfm : f ∈ (x.getD u []).reverse := List.mem_reverse.2 hfl
  rw [hr] at hch hfm
  have hlt := chain_lev hC hV.good r (topF (x.getD u [])) hch hwu f hfm _ hfr
  have hlo1 := hC.lo (targetN s (topS s x u))
  have hlt' : lvl L (targetN s (topS s x u)) < lvl L (targetN s (topS s x w)) := hlt
  refine ih (lvl L (targetN s (topS s x u))).toNat (by omega) u (Nat.le_refl _) hu hbu
def remX (s : PSys) (L : List Int) (x : PSt) : Nat := (x.map (remS s L)).sum
theorem rem_set {s : PSys} {L : List Int} {l : List PFr} : ∀ {x : PSt} {u : Nat}, u < x.length → remS s L l < remS s L (x.getD u []) → remX s L (x.set u l) < remX s L x
 | [], _, h, _ => by simp at h
 | m :: x, 0, _, h => by
  simp only [remX, List.set_cons_zero, List.map_cons, List.sum_cons]
  have : remS s L l < remS s L m := h
  omega
 | m :: x, u + 1, hu, h => by
  have ih := rem_set (s := s) (L := L) (l := l) (x := x) (u := u) (by simpa using hu) (by simpa using h)
  simp only [remX, List.set_cons_succ, List.map_cons, List.sum_cons] at *
  omega
theorem can_all {s : PSys} {L : List Int} (hC : Cert s L) : ∀ (n : Nat) (x : PSt), remX s L x ≤ n → Valid s x → DpInv s x → ∀ w, w < x.length → ∃ y, Rch s x y ∧ w ∈ ableL s y := by
 intro n
 induction n using Nat.strongRecOn with
 | _ n ih =>
 intro x hn hV hD w hw
 cases hb : ableB s x w with
 | true => exact ⟨x, .refl, mem_able.2 ⟨hw, hb⟩⟩
 | false =>
  obtain ⟨u, hu, hbu, hst⟩ := prog hC hV hD _ w (Nat.le_refl _) hw hb
  obtain ⟨c, hc1, hc2⟩ := wk_of hV hu
  have hlt : remX s L (takeX s x u) < remX s L x := rem_set hu (take_less hC hV.good hc2 hst)
  obtain ⟨y, h1, h2⟩ := ih (remX s L (takeX s x u)) (by omega) _ (Nat.le_refl _) (val_take hV hu hbu) (dp_take hC.ok hV hD hu hbu) w (by rw [take_len]; exact hw)
  exact ⟨y, Rch.trans (.step .refl hu hbu) h1, h2⟩
theorem dp_rch {s : PSys} {x y : PSt} (hc : checkE s = 0) (hV : Valid s x) (hD : DpInv s x) (h : Rch s x y) : DpInv s y := by
 induction h with
 | refl => exact hD
 | step h1 hw ha ih => exact dp_take hc (h1.val hV) ih hw ha
theorem dead_cert {s : PSys} {L : List Int} {B : Nat → Nat → Bool} (hC : Cert s L) (hB : TabOk s (iniX s) B) : (deadV s B).2.2 = 6 ∨ (deadV s B).2.2 = 9 := by
 have hc := hC.ok
 have hV := iniX_valid hc
 cases hr : reachG s (iniX s) with
 | none =>
  refine .inr ?_
  unfold deadV
  rw [if_neg (by omega), hr]
 | some r =>
  obtain ⟨g, ab, nx⟩ := r
  by_cases hb : (bestF g.st.length B (iniX s).length).1 = g.st.length
  ·refine .inl ?_
   unfold deadV
   rw [if_neg (by omega), hr]
   simp only
   rw [if_pos hb]
  ·exfalso
   rcases dead_spec hB with ⟨h1, _⟩ | ⟨_, g', b, u, W, S, hdv, hI, hfrom, hb', hP, _, hat⟩
   ·refine h1 ?_
    unfold deadV
    rw [if_neg (by omega), hr]
    simp only
    rw [if_neg hb]
   ·have hmem := getD_memS hb'
    obtain ⟨r', hr'⟩ := hfrom _ hmem
    have hVb := hI.ok.val _ hmem
    obtain ⟨_, p, q2, q3⟩ := stuck_spec hc hVb hr'
    rw [hat] at q2
    have hq : u :: S = (List.range (g'.st.getD b []).length).filter p := q2
    have hu : u ∈ (List.range (g'.st.getD b []).length).filter p := by rw [← hq]; simp
    obtain ⟨hu1, hu2⟩ := List.mem_filter.1 hu
    refine (q3 u).1 hu2 ?_
    exact can_all hC _ _ (Nat.le_refl _) hVb (dp_rch hc hV (dp_ini hc) (hI.rch _ hmem)) u (List.mem_range.1 hu1)
end Go.AM

set_option maxRecDepth 8000
set_option maxHeartbeats 4000000
namespace Go.AM
open Go Go.Proofs

theorem makeO_ln (s : PSys) : (makeO s).1.length ≤ 10000 := by
 by_cases h : checkE s = 0
 ·cases hi : impO s with
  | some x => rw [makeO_imp h (by rw [hi]; rfl)]; simp
  | none =>
   cases hl : levV (nRes s) (sysE s) with
   | none => rw [makeO_dead h hi hl]; simp
   | some L =>
    rw [makeO_ok h hi hl]
    have := (lev_facts h hl).1
    have := nRes_le h
    show L.length ≤ 10000
    omega
 ·rw [makeO_err h]; simp
abbrev tabZ9 : List (Nat × Contract) := [(11, dataC awakeXR), (12, dataC few4R), (23, dataC deadR), (37, dataC makeR), (38, dataC verR)]
theorem tabZ9_ok : OkG Try.prog (tbl tabZ9) := okG_cons awakeX_ok (okG_cons few4_ok (okG_cons xDeadlock_ok (okG_cons make_ok (okG_cons verify_ok okG_nil))))
theorem lawCertified_ok : OkF Try.prog 10 (dataC lawRhR) := by
 refine okF_data Try.func10 rfl (by decide) ?_
 rintro ds v ⟨s, ws, rfl, rfl⟩
 have hwl : (intsD ws).length = ws.length := by simp
 refine sem_of_awpK [6] (Γ := tbl tabZ9) tabZ9_ok _ _ _ ?_
 simp only [go_sem, Int.reduceEq, Int.reduceLT, Int.reduceLE, eq_self, Int.natCast_nonneg, Int.toNat_natCast, Try.ntmps10, sysD]
 refine call_data awakeXR (by simp) [] _ rfl awakeXR_true (.inl rfl) ?_
 simp only [go_sem, Int.reduceEq, Int.reduceLT, Int.reduceLE, eq_self, Int.natCast_nonneg, Int.toNat_natCast]
 refine call_data few4R (by simp) [sysD s] _ rfl ⟨s, rfl, rfl⟩ (.inl rfl) ?_
 cases hf : few4B s with
 | false =>
  simp only [go_sem, Int.reduceEq, Int.reduceLT, Int.reduceLE, eq_self, Int.natCast_nonneg, Int.toNat_natCast, hf]
  refine call_data awakeXR (by simp) [] _ rfl awakeXR_true (.inl rfl) ?_
  simp only [go_sem, Int.reduceEq, Int.reduceLT, Int.reduceLE, eq_self, Int.natCast_nonneg, Int.toNat_natCast]
  exact post_data (.inl rfl) [4] rfl trivial rfl
 | true =>
 have hs := few4_fit hf
 by_cases hl : (40 : Int) < ws.length
 ·simp only [go_sem, Int.reduceEq, Int.reduceLT, Int.reduceLE, eq_self, Int.natCast_nonneg, Int.toNat_natCast, hf, hwl, hl]
  refine call_data awakeXR (by simp) [] _ rfl awakeXR_true (.inl rfl) ?_
  simp only [go_sem, Int.reduceEq, Int.reduceLT, Int.reduceLE, eq_self, Int.natCast_nonneg, Int.toNat_natCast]
  exact post_data (.inl rfl) [4] rfl trivial rfl
 obtain ⟨B, hB⟩ := ex_tab2 s (iniX s)
 have hdd : deadR [sysD s] (.tup [.dat (.sl none (intsD (deadV s B).1)), .dat (.int .i64 (deadV s B).2.1), .dat (.int .i64 (deadV s B).2.2)]) := ⟨s, B, rfl, hs, hB, rfl⟩
 have hml := makeO_ln s
 have hmk : makeR [sysD s] (.tup [.dat (certD (makeO s).1), .dat (.int .i64 (makeO s).2)]) := ⟨s, rfl, hs, rfl⟩
 generalize makeO s = mo at *
 obtain ⟨ML, me⟩ := mo
 simp only at hml
 have rest : ∀ (CL : List Int), CL.length ≤ 10000 → verR [sysD s, .agg [.sl none (intsD CL)]] (.dat (.int .i64 (verN s CL))) := fun CL h => ⟨s, CL, rfl, hs, h, rfl⟩
 have hdead : ∀ CL, verN s CL = 0 → (deadV s B).2.2 = 6 ∨ (deadV s B).2.2 = 9 := fun CL h => dead_cert (cert_of h) hB
 generalize (deadV s B).1 = d0 at *
 generalize (deadV s B).2.1 = d1 at *
 generalize (deadV s B).2.2 = d2 at *
 by_cases h0 : (ws.length : Int) = 0
 ·simp only [go_sem, Int.reduceEq, Int.reduceLT, Int.reduceLE, eq_self, Int.natCast_nonneg, Int.toNat_natCast, hf, hwl, hl, h0]
  refine call_data makeR (by simp) [sysD s] _ rfl hmk (.inl rfl) ?_
  simp only [go_sem, Int.reduceEq, Int.reduceLT, Int.reduceLE, eq_self, Int.natCast_nonneg, Int.toNat_natCast, certD]
  have hnat : intsD (ML.map fun n : Nat => (n : Int)) = natsD ML := by simp [List.map_map, Function.comp_def]
  have hv := rest (ML.map fun n : Nat => (n : Int)) (by simpa using hml)
  have hd6 := hdead (ML.map fun n : Nat => (n : Int))
  rw [hnat] at hv
  generalize verN s (ML.map fun n : Nat => (n : Int)) = e at *
  refine sem_of_awp (Γ := tbl tabZ9) tabZ9_ok _ _ _ ?_
  simp only [go_sem, Int.reduceEq, Int.reduceLT, Int.reduceLE, eq_self, Int.natCast_nonneg, Int.toNat_natCast]
  refine call_data verR (by simp) [sysD s, .agg [.sl none (natsD ML)]] _ rfl hv (.inl rfl) ?_
  by_cases he : e = 0
  ·simp only [go_sem, Int.reduceEq, Int.reduceLT, Int.reduceLE, eq_self, Int.natCast_nonneg, Int.toNat_natCast, he, eq_self, not_true, decide_false]
   refine call_data deadR (by simp) [sysD s] _ rfl hdd (.inl rfl) ?_
   rcases hd6 he with h6 | h6
   ·simp only [go_sem, Int.reduceEq, Int.reduceLT, Int.reduceLE, eq_self, Int.natCast_nonneg, Int.toNat_natCast, h6, decide_true]
    exact post_data (.inl rfl) [4] rfl trivial rfl
   ·simp only [go_sem, Int.reduceEq, Int.reduceLT, Int.reduceLE, eq_self, Int.natCast_nonneg, Int.toNat_natCast, h6, decide_true]
    exact post_data (.inl rfl) [4] rfl trivial rfl
  ·simp only [go_sem, Int.reduceEq, Int.reduceLT, Int.reduceLE, eq_self, Int.natCast_nonneg, Int.toNat_natCast, he]
   exact post_data (.inl rfl) [4] rfl trivial rfl
 ·simp only [go_sem, Int.reduceEq, Int.reduceLT, Int.reduceLE, eq_self, Int.natCast_nonneg, Int.toNat_natCast, hf, hwl, hl, h0]
  have hv := rest ws (by omega)
  have hd6 := hdead ws
  generalize verN s ws = e at *
  refine sem_of_awp (Γ := tbl tabZ9) tabZ9_ok _ _ _ ?_
  simp only [go_sem, Int.reduceEq, Int.reduceLT, Int.reduceLE, eq_self, Int.natCast_nonneg, Int.toNat_natCast]
  refine call_data verR (by simp) [sysD s, .agg [.sl none (intsD ws)]] _ rfl hv (.inl rfl) ?_
  by_cases he : e = 0
  ·simp only [go_sem, Int.reduceEq, Int.reduceLT, Int.reduceLE, eq_self, Int.natCast_nonneg, Int.toNat_natCast, he, eq_self, not_true, decide_false]
   refine call_data deadR (by simp) [sysD s] _ rfl hdd (.inl rfl) ?_
   rcases hd6 he with h6 | h6
   ·simp only [go_sem, Int.reduceEq, Int.reduceLT, Int.reduceLE, eq_self, Int.natCast_nonneg, Int.toNat_natCast, h6, decide_true]
    exact post_data (.inl rfl) [4] rfl trivial rfl
   ·simp only [go_sem, Int.reduceEq, Int.reduceLT, Int.reduceLE, eq_self, Int.natCast_nonneg, Int.toNat_natCast, h6, decide_true]
    exact post_data (.inl rfl) [4] rfl trivial rfl
  ·simp only [go_sem, Int.reduceEq, Int.reduceLT, Int.reduceLE, eq_self, Int.natCast_nonneg, Int.toNat_natCast, he]
   exact post_data (.inl rfl) [4] rfl trivial rfl
end Go.AM

set_option maxRecDepth 100000
namespace Go.AM
open Go Go.Proofs

theorem want87 : wantT Try.prog 60 = some 3 := by kernel_rfl
theorem want9 : wantT Try.prog 9 = none := by kernel_rfl
theorem want54 : wantT Try.prog 63 = some 4 := by kernel_rfl
theorem want56 : wantT Try.prog 65 = some 4 := by kernel_rfl
theorem int_arg {m : Nat} {d : D} (h : argT Try.prog (m + 1) 3 d) : ∃ n : Int, d = .int .i64 n ∧ inR .i64 n := arg_int (by kernel_rfl) h
theorem pool_arg {m : Nat} {d : D} (h : argT Try.prog (m + 3) 60 d) : ∃ p : PPool, d = poolD p ∧ True := by
 obtain ⟨ds, rfl, hf⟩ := arg_fields (ts := [9, 3, 3]) (by kernel_rfl) h
 obtain ⟨a, r, rfl, ha, hf⟩ := hf
 obtain ⟨b, r, rfl, hb, hf⟩ := hf
 obtain ⟨c, r, rfl, hc, rfl⟩ := hf
 rw [dataT_str (by kernel_rfl)] at ha
 rw [dataT_int (k := .i64) (by kernel_rfl)] at hb hc
 obtain ⟨a, rfl, _⟩ := ha
 obtain ⟨b, rfl, _⟩ := hb
 obtain ⟨c, rfl, _⟩ := hc
 exact ⟨⟨a, b, c⟩, rfl, trivial⟩
theorem step_arg {m : Nat} {d : D} (h : argT Try.prog (m + 3) 65 d) : ∃ p : PStep, d = stepD p ∧ True := by
 obtain ⟨ds, rfl, hf⟩ := arg_fields (ts := [3, 3, 3, 4]) (by kernel_rfl) h
 obtain ⟨a, r, rfl, ha, hf⟩ := hf
 obtain ⟨b, r, rfl, hb, hf⟩ := hf
 obtain ⟨c, r, rfl, hc, hf⟩ := hf
 obtain ⟨e, r, rfl, he, rfl⟩ := hf
 rw [dataT_int (k := .i64) (by kernel_rfl)] at ha hb hc
 rw [dataT_bool (by kernel_rfl)] at he
 obtain ⟨a, rfl, _⟩ := ha
 obtain ⟨b, rfl, _⟩ := hb
 obtain ⟨c, rfl, _⟩ := hc
 obtain ⟨e, rfl⟩ := he
 exact ⟨⟨a, b, c, e⟩, rfl, trivial⟩
theorem cls_arg {m : Nat} {d : D} (h : argT Try.prog (m + 6) 63 d) : ∃ p : PCls, d = clsD p ∧ True := by
 obtain ⟨ds, rfl, hf⟩ := arg_fields (ts := [9, 3, 4, 61]) (by kernel_rfl) h
 obtain ⟨a, r, rfl, ha, hf⟩ := hf
 obtain ⟨b, r, rfl, hb, hf⟩ := hf
 obtain ⟨c, r, rfl, hc, hf⟩ := hf
 obtain ⟨e, r, rfl, he, rfl⟩ := hf
 rw [dataT_str (by kernel_rfl)] at ha
 rw [dataT_int (k := .i64) (by kernel_rfl)] at hb
 rw [dataT_bool (by kernel_rfl)] at hc
 rw [dataT_slice (e := 65) (by kernel_rfl), want56] at he
 obtain ⟨a, rfl, _⟩ := ha
 obtain ⟨b, rfl, _⟩ := hb
 obtain ⟨c, rfl⟩ := hc
 obtain ⟨e, rfl, _, hx⟩ := he
 obtain ⟨l, rfl, _⟩ := list_of stepD (Q := fun _ => True) (fun x hx' => step_arg (hx x hx'))
 exact ⟨⟨a, b, c, l⟩, rfl, trivial⟩
theorem sys_arg {m : Nat} {d : D} (h : argT Try.prog (m + 9) 26 d) : ∃ s : PSys, d = sysD s := by
 obtain ⟨ds, rfl, hf⟩ := arg_fields (ts := [22, 23, 24]) (by kernel_rfl) h
 obtain ⟨a, r, rfl, ha, hf⟩ := hf
 obtain ⟨b, r, rfl, hb, hf⟩ := hf
 obtain ⟨c, r, rfl, hc, rfl⟩ := hf
 rw [dataT_slice (e := 60) (by kernel_rfl), want87] at ha
 rw [dataT_slice (e := 9) (by kernel_rfl), want9] at hb
 rw [dataT_slice (e := 63) (by kernel_rfl), want54] at hc
 obtain ⟨a, rfl, _, ha⟩ := ha
 obtain ⟨b, rfl, _, hb⟩ := hb
 obtain ⟨c, rfl, _, hc⟩ := hc
 obtain ⟨a, rfl, _⟩ := list_of poolD (Q := fun _ => True) (fun x hx' => pool_arg (ha x hx'))
 obtain ⟨b, rfl, _⟩ := list_of D.str (Q := fun _ => True) (fun x hx' => by
  obtain ⟨s, h, _⟩ := arg_str (by kernel_rfl) (hb x hx')
  exact ⟨s, h, trivial⟩)
 obtain ⟨c, rfl, _⟩ := list_of clsD (Q := fun _ => True) (fun x hx' => cls_arg (hc x hx'))
 exact ⟨⟨a, b, c⟩, rfl⟩
theorem wantI : wantT Try.prog 3 = none := by kernel_rfl
theorem ints_arg {m : Nat} {d : D} (h : argT Try.prog (m + 2) 38 d) : ∃ L : List Int, d = .sl none (intsD L) ∧ ∀ n ∈ L, inR .i64 n := by
 obtain ⟨xs, rfl, _, hx⟩ := arg_slice (e := 3) (by kernel_rfl) h
 rw [wantI]
 obtain ⟨L, rfl, hL⟩ := list_of (D.int .i64) (Q := fun n => inR .i64 n) (fun x hx' => by
  obtain ⟨n, h1, h2⟩ := int_arg (hx x hx')
  exact ⟨n, h1, h2⟩)
 exact ⟨L, rfl, hL⟩
end Go.AM

set_option maxRecDepth 100000
namespace Go.AM
open Go Go.Proofs

abbrev byteD (a : Nat) : D := .int .u8 (a : Int)
end Go.AM

set_option maxRecDepth 100000
namespace Go.AM
open Go Go.Proofs

end Go.AM

