/- Own work over the model of the kit. -/
import Derived.Test.YtfiojoacbomncaaG16
import Derived.Test.YtfiojoacbomncaaG10
set_option linter.unusedSimpArgs false
set_option linter.unusedVariables false
set_option maxRecDepth 8000
namespace Go.AM
open Go Go.Proofs

theorem frOk_call {s : PSys} (hg : s.good) {y : PStep} (hp : preE s y = 0) (hk : y.kind = 5) : frOk s ⟨y.on, 0⟩ = true := by
 obtain ⟨_, ⟨o1, o2⟩, _, _⟩ := preE_0 hp
 unfold mostE at o2
 rw [hk, if_neg (by decide), if_pos rfl] at o2
 refine frOk_iff.2 ⟨o1, o2, Int.le_refl 0, ?_⟩
 have hm : clsAt s ⟨y.on, 0⟩ ∈ s.classes := by
  unfold clsAt; rw [List.getD_eq_getElem?_getD, List.getElem?_eq_getElem (by simp only; omega)]; exact List.getElem_mem _
 have := (hg.cls _ hm).l1
 simp only; omega
theorem takeS_formed {s : PSys} (hg : s.good) {l : List PFr} {c : Nat} (h : formedB s l c = true) : formedB s (takeS s l) c = true := by
 obtain ⟨h0, hb, hc⟩ := formed_iff.1 h
 obtain ⟨r, hr⟩ := rv_top h0
 have htop := topF_mem h0
 have hfo : frOk s (topF l) = true := (formedB_ok h).2 _ htop
 unfold takeS
 split
 ·rename_i hk
  refine formed_iff.2 ⟨by simp, ?_, ?_⟩
  ·rw [List.reverse_append, List.reverse_singleton, List.singleton_append, hr, List.getLast?_cons_cons, ← hr]; exact hb
  ·rw [List.reverse_append, List.reverse_singleton, List.singleton_append, hr]
   refine ⟨frOk_call hg (step_mem hg hfo) hk, ?_, by rw [← hr]; exact hc⟩
   unfold callsB; rw [hk]; simp
 ·rw [hr] at hb hc ⊢
  obtain ⟨u1, u2, u3⟩ := upR_chn hg r (topF l) hc
  refine formed_iff.2 ⟨by simpa using u2, ?_, ?_⟩
  ·rw [List.reverse_reverse, u3]; exact hb
  ·rw [List.reverse_reverse]; exact u1
theorem take_sum {s : PSys} {l : List PFr} {c : Nat} {G : PFr → Int} {E : PStep → Int} (h : formedB s l c = true) (hnext : ∀ f, frOk s f = true → G ⟨f.c, f.a + 1⟩ = G f + E (stepAtF s f))
  (hend : ∀ f, frOk s f = true → ¬ f.a + 1 < (clsAt s f).steps.length → G f + E (stepAtF s f) = 0) (hzero : ∀ c, G ⟨c, 0⟩ = 0) (hcall : ∀ y : PStep, y.kind = 5 → E y = 0) :
  sumI G (takeS s l) = sumI G l + E (stepAtF s (topF l)) := by
 obtain ⟨h0, hb, hc⟩ := formed_iff.1 h
 obtain ⟨r, hr⟩ := rv_top h0
 unfold takeS
 split
 ·rename_i hk
  rw [sumI_snoc, hzero, hcall _ hk]
 ·rw [hr] at hc ⊢
  rw [sumI_rev, upR_sum hnext hend hzero hcall r (topF l) hc, ← hr, sumI_rev]
theorem take_sumE {s : PSys} {l : List PFr} {c : Nat} (h : formedB s l c = true) (i : Nat) : sumI (frE s i) (takeS s l) ≤ sumI (frE s i) l + (if (stepAtF s (topF l)).kind = 5 ∧ (stepAtF s (topF l)).on = i then 1 else 0) := by
 obtain ⟨h0, hb, hc⟩ := formed_iff.1 h
 obtain ⟨r, hr⟩ := rv_top h0
 unfold takeS
 by_cases hk : (stepAtF s (topF l)).kind = 5
 ·rw [if_pos hk, sumI_snoc]
  have : frE s i ⟨(stepAtF s (topF l)).on, 0⟩ ≤ (if (stepAtF s (topF l)).kind = 5 ∧ (stepAtF s (topF l)).on = i then 1 else 0) := by
   unfold frE
   by_cases ho : (stepAtF s (topF l)).on = i
   ·rw [if_pos (c := (stepAtF s (topF l)).kind = 5 ∧ _) ⟨hk, ho⟩]; split <;> omega
   ·rw [if_neg (fun h => ho h.1), if_neg (fun h => ho h.2)]; exact Int.le_refl _
  omega
 ·rw [if_neg hk, sumI_rev, if_neg (fun h => hk h.1)]
  have := upR_E (s := s) i r (topF l)
  rw [← hr, sumI_rev] at this
  omega
theorem any_false {n : Nat} {p : Nat → Bool} (h : (List.range n).any p = false) {i : Nat} (hi : i < n) : p i = false := by
 rw [List.any_eq_false] at h
 have := h i (List.mem_range.2 hi)
 simpa using this
theorem over_iff {s : PSys} {x : PSt} : overB s x = false ↔ (∀ i, i < s.pools.length → ¬ (s.pools.getD i default).size < sumI (frU s i) (frames x)) ∧ (∀ i, i < s.classes.length → (s.classes.getD i default).server = true → ¬ (s.classes.getD i default).workers < sumI (frE s i) (frames x)) ∧ (∀ i, i < s.locks.length → ¬ 1 < sumI (frL s i) (frames x)) := by
 unfold overB
 rw [Bool.or_eq_false_iff, Bool.or_eq_false_iff]
 constructor
 ·rintro ⟨⟨h1, h2⟩, h3⟩
  refine ⟨fun i hi => of_decide_eq_false (any_false h1 hi), fun i hi hs => ?_, fun i hi => of_decide_eq_false (any_false (n := s.locks.length) h3 hi)⟩
  have := any_false h2 hi
  rw [hs, Bool.true_and] at this
  exact of_decide_eq_false this
 ·rintro ⟨h1, h2, h3⟩
  refine ⟨⟨any_no fun i hi => decide_eq_false (h1 i hi), any_no fun i hi => ?_⟩, any_no fun i hi => decide_eq_false (h3 i hi)⟩
  cases hs : (s.classes.getD i default).server with
  | false => rfl
  | true => rw [Bool.true_and]; exact decide_eq_false (h2 i hi hs)
theorem val_formed {s : PSys} {x : PSt} (hV : Valid s x) {w : Nat} (hw : w < x.length) : ∃ c, (wkL s)[w]? = some c ∧ formedB s (x.getD w []) c = true := by
 have hl : w < (wkL s).length := by rw [← hV.len]; exact hw
 exact ⟨(wkL s)[w], List.getElem?_eq_getElem hl, fmdAll_at hV.fmd (List.getElem?_eq_getElem hl)⟩
theorem val_sumU {s : PSys} {x : PSt} (hV : Valid s x) {w : Nat} (hw : w < x.length) {i : Nat} (hi : i < s.pools.length) : sumI (frU s i) (frames (takeX s x w)) = sumI (frU s i) (frames x) + effU i (topS s x w) := by
 obtain ⟨c, _, hc⟩ := val_formed hV hw
 unfold takeX
 rw [frames_set _ _ _ _ hw, take_sum (E := effU i) hc (fun f h => frU_next h i) (fun f h hn => frU_end hV.good h hn hi) (fun c => (fr_zero i).1) (fun y h => (eff_call h).1)]
 unfold topS; omega
theorem val_sumL {s : PSys} {x : PSt} (hV : Valid s x) {w : Nat} (hw : w < x.length) {i : Nat} (hi : i < s.locks.length) : sumI (frL s i) (frames (takeX s x w)) = sumI (frL s i) (frames x) + effL i (topS s x w) := by
 obtain ⟨c, _, hc⟩ := val_formed hV hw
 unfold takeX
 rw [frames_set _ _ _ _ hw, take_sum (E := effL i) hc (fun f h => frL_next h i) (fun f h hn => frL_end hV.good h hn hi) (fun c => (fr_zero i).2) (fun y h => (eff_call h).2)]
 unfold topS; omega
theorem val_sumE {s : PSys} {x : PSt} (hV : Valid s x) {w : Nat} (hw : w < x.length) (i : Nat) : sumI (frE s i) (frames (takeX s x w)) ≤ sumI (frE s i) (frames x) + (if (topS s x w).kind = 5 ∧ (topS s x w).on = i then 1 else 0) := by
 obtain ⟨c, _, hc⟩ := val_formed hV hw
 have := take_sumE hc i
 unfold takeX topS
 rw [frames_set _ _ _ _ hw]
 omega
theorem val_take {s : PSys} {x : PSt} (hV : Valid s x) {w : Nat} (hw : w < x.length) (ha : ableB s x w = true) : Valid s (takeX s x w) := by
 have hg := hV.good
 obtain ⟨c, hc1, hc2⟩ := val_formed hV hw
 obtain ⟨o1, o2, o3⟩ := over_iff.1 hV.nover
 have hp := step_mem hg (hV.top hw)
 refine ⟨hg, by rw [takeX_len]; exact hV.len, ?_, over_iff.2 ⟨fun i hi => ?_, fun i hi hs => ?_, fun i hi => ?_⟩⟩
 ·unfold takeX
  refine fmdAll_set hV.fmd fun d hd => ?_
  rw [hc1] at hd; cases hd
  exact takeS_formed hg hc2
 ·rw [val_sumU hV hw hi]
  have h1 := o1 i hi
  have hpk := hg.pool (s.pools.getD i default) (by rw [List.getD_eq_getElem?_getD, List.getElem?_eq_getElem hi]; exact List.getElem_mem _)
  unfold PPool.bad at hpk
  unfold ableB at ha
  have hp' : preE s (topS s x w) = 0 := hp
  generalize topS s x w = y at *
  obtain ⟨⟨k1, k2⟩, ⟨on1, on2⟩, hcn, hc0⟩ := preE_0 hp'
  unfold effU
  by_cases ho : y.on = i
  ·rw [if_pos ho]
   by_cases hk : y.kind = 1
   ·rw [if_pos hk]
    unfold posB at ha
    rw [if_pos hk, ho, Int.toNat_natCast] at ha
    simp only [Bool.or_eq_true, Bool.and_eq_true, decide_eq_true_eq] at ha
    omega
   ·rw [if_neg hk]
    by_cases hk2 : y.kind = 2
    ·rw [if_pos hk2]; have := hcn (.inr hk2); omega
    ·rw [if_neg hk2]; omega
  ·rw [if_neg ho]; omega
 ·have h1 := o2 i hi hs
  have h2 := val_sumE hV hw i
  unfold ableB at ha
  generalize topS s x w = y at *
  by_cases hk : y.kind = 5 ∧ y.on = i
  ·rw [if_pos hk] at h2
   unfold posB at ha
   rw [if_neg (by rw [hk.1]; decide), if_neg (by rw [hk.1]; decide), if_pos hk.1, hk.2, Int.toNat_natCast] at ha
   have := of_decide_eq_true ha
   omega
  ·rw [if_neg hk] at h2; omega
 ·rw [val_sumL hV hw hi]
  have h1 := o3 i hi
  unfold ableB at ha
  generalize topS s x w = y at *
  unfold effL
  by_cases ho : y.on = i
  ·rw [if_pos ho]
   by_cases hk : y.kind = 3
   ·rw [if_pos hk]
    unfold posB at ha
    rw [if_neg (by rw [hk]; decide), if_pos hk, ho, Int.toNat_natCast] at ha
    have := of_decide_eq_true ha
    omega
   ·rw [if_neg hk]
    by_cases hk2 : y.kind = 4
    ·rw [if_pos hk2]; omega
    ·rw [if_neg hk2]; omega
  ·rw [if_neg ho]; omega
end Go.AM

set_option maxRecDepth 8000
namespace Go.AM
open Go Go.Proofs

theorem wkC_mem : ∀ {l : List PCls} {i c : Nat}, c ∈ wkC i l → ∃ j, c = i + j ∧ j < l.length ∧ (l.getD j default).server = false
 | [], _, _, h => by simp [wkC] at h
 | k :: l, i, c, h => by
  rw [wkC] at h
  rcases List.mem_append.1 h with h | h
  ·cases hs : k.server with
   | true => rw [hs, if_pos rfl] at h; simp at h
   | false =>
    rw [hs, if_neg (by decide)] at h
    have := List.eq_of_mem_replicate h
    exact ⟨0, by omega, by simp, by simpa using hs⟩
  ·obtain ⟨j, h1, h2, h3⟩ := wkC_mem h
   exact ⟨j + 1, by omega, by simp; omega, by simpa using h3⟩
theorem wkL_mem {s : PSys} {c : Nat} (h : c ∈ wkL s) : c < s.classes.length ∧ (s.classes.getD c default).server = false := by
 obtain ⟨j, h1, h2, h3⟩ := wkC_mem h
 have : c = j := by omega
 subst this
 exact ⟨h2, h3⟩
theorem frOk_ini {s : PSys} (hg : s.good) {c : Nat} (h : c < s.classes.length) : frOk s ⟨c, 0⟩ = true := by
 refine frOk_iff.2 ⟨Int.natCast_nonneg _, by simp only; omega, Int.le_refl 0, ?_⟩
 have hm : clsAt s ⟨c, 0⟩ ∈ s.classes := by
  unfold clsAt; rw [List.getD_eq_getElem?_getD, List.getElem?_eq_getElem (by simp only; omega)]; exact List.getElem_mem _
 have := (hg.cls _ hm).l1
 simp only; omega
theorem fmdAll_ini {s : PSys} (hg : s.good) : ∀ ws : List Nat, (∀ c ∈ ws, c < s.classes.length) → fmdAll s (ws.map fun c : Nat => [(⟨(c : Int), 0⟩ : PFr)]) ws = true
 | [], _ => rfl
 | c :: ws, h => by
  rw [List.map_cons, fmdAll, Bool.and_eq_true]
  refine ⟨?_, fmdAll_ini hg ws fun d hd => h d (by simp [hd])⟩
  unfold formedB
  rw [fmd_cons, fmd, frOk_ini hg (h c (by simp))]
  simp
theorem sum_ini {s : PSys} {G : PFr → Int} (hG : ∀ c, c ∈ wkL s → G ⟨c, 0⟩ = 0) : ∀ ws : List Nat, (∀ c ∈ ws, c ∈ wkL s) → sumI G (frames (ws.map fun c : Nat => [(⟨(c : Int), 0⟩ : PFr)])) = 0
 | [], _ => rfl
 | c :: ws, h => by
  have ih := sum_ini hG ws fun d hd => h d (by simp [hd])
  unfold frames at ih ⊢
  rw [List.map_cons, List.flatten_cons, sumI_app, ih, sumI_cons, hG c (h c (by simp))]; rfl
theorem valid_ini {s : PSys} (hg : s.good) : Valid s (iniX s) := by
 refine ⟨hg, by unfold iniX; rw [List.length_map], fmdAll_ini hg _ fun c hc => (wkL_mem hc).1, over_iff.2 ⟨fun i hi => ?_, fun i hi hs => ?_, fun i hi => ?_⟩⟩
 ·unfold iniX
  rw [sum_ini (fun c _ => (fr_zero i).1) _ fun c hc => hc]
  have hpk := hg.pool (s.pools.getD i default) (by rw [List.getD_eq_getElem?_getD, List.getElem?_eq_getElem hi]; exact List.getElem_mem _)
  unfold PPool.bad at hpk
  omega
 ·unfold iniX
  have h0 : ∀ c, c ∈ wkL s → frE s i ⟨c, 0⟩ = 0 := fun c hc => by
   unfold frE clsAt
   rw [if_neg]
   rintro ⟨h1, h2⟩
   rw [Int.toNat_natCast, (wkL_mem hc).2] at h2; cases h2
  rw [sum_ini h0 _ fun c hc => hc]
  have := (hg.cls (s.classes.getD i default) (by rw [List.getD_eq_getElem?_getD, List.getElem?_eq_getElem hi]; exact List.getElem_mem _)).w0
  omega
 ·unfold iniX
  rw [sum_ini (fun c _ => (fr_zero i).2) _ fun c hc => hc]
  omega
def srv (s : PSys) (f : PFr) : Int := if (clsAt s f).server = true then 1 else 0
theorem call_srv {s : PSys} (hg : s.good) {q f : PFr} (hq : frOk s q = true) (h : callsB s q f = true) : srv s f = 1 := by
 unfold callsB at h
 rw [Bool.and_eq_true, decide_eq_true_eq, decide_eq_true_eq] at h
 obtain ⟨c1, c2, c3, c4⟩ := frOk_iff.1 hq
 have hf := run_fine (hg.cls _ (cls_mem hq)) (k := q.a.toNat) (by omega)
 have he : (clsAt s q).steps[q.a.toNat]'(by omega) = stepAtF s q := by
  unfold stepAtF; rw [List.getD_eq_getElem?_getD, List.getElem?_eq_getElem (by omega)]; rfl
 rw [he] at hf
 unfold refBad at hf
 rw [h.1, if_neg (by decide), if_neg (by decide), if_neg (by decide), if_neg (by decide), h.2] at hf
 unfold srv clsAt
 rw [if_pos (by simpa using hf)]
theorem chn_srv {s : PSys} (hg : s.good) : ∀ (r : List PFr) (f : PFr), chn s (f :: r) → (r.length : Int) ≤ sumI (srv s) (f :: r)
 | [], f, _ => by
  rw [sumI_cons]
  have : 0 ≤ srv s f := by unfold srv; split <;> omega
  simp only [List.length_nil]
  show ((0 : Nat) : Int) ≤ srv s f + 0
  omega
 | g :: r, f, h => by
  have ih := chn_srv hg r g h.2.2
  have hfo : frOk s g = true := chn_ok h.2.2 g (by simp)
  rw [sumI_cons, call_srv hg hfo h.2.1, List.length_cons]
  omega
theorem srv_sum {s : PSys} : ∀ {L : List PFr}, (∀ f ∈ L, frOk s f = true) → sumI (srv s) L ≤ ((List.range s.classes.length).map fun i => sumI (frE s i) L).sum
 | [], _ => by
  have : ∀ n : Nat, ((List.range n).map fun i => sumI (frE s i) []).sum = 0 := by
   intro n
   induction n with
   | zero => rfl
   | succ n ih => rw [List.range_succ, List.map_append, List.sum_append, ih]; rfl
  rw [this]; exact Int.le_refl _
 | f :: L, h => by
  have ih := srv_sum (L := L) fun q hq => h q (by simp [hq])
  obtain ⟨c1, c2, c3, c4⟩ := frOk_iff.1 (h f (by simp))
  have e : ∀ n : Nat, ((List.range n).map fun i => sumI (frE s i) (f :: L)).sum = ((List.range n).map fun i => frE s i f).sum + ((List.range n).map fun i => sumI (frE s i) L).sum := by
   intro n
   induction n with
   | zero => rfl
   | succ n ih => rw [List.range_succ]; simp only [List.map_append, List.sum_append, List.map_cons, List.map_nil, List.sum_cons, List.sum_nil]; rw [ih]; have := sumI_cons (frE s n) f L; omega
  have k : ∀ n : Nat, (if f.c.toNat < n then srv s f else 0) ≤ ((List.range n).map fun i => frE s i f).sum := by
   intro n
   induction n with
   | zero => simp
   | succ n ih =>
    rw [List.range_succ]
    simp only [List.map_append, List.sum_append, List.map_cons, List.map_nil, List.sum_cons, List.sum_nil]
    by_cases hn : f.c.toNat = n
    ·have : frE s n f = srv s f := by
      unfold frE srv
      have : f.c = (n : Int) := by omega
      rw [this]; simp
     rw [if_neg (by omega)] at ih
     rw [if_pos (by omega), this]; omega
    ·have h0 : 0 ≤ frE s n f := by unfold frE; split <;> omega
     by_cases hlt : f.c.toNat < n
     ·rw [if_pos hlt] at ih; rw [if_pos (by omega)]; omega
     ·rw [if_neg hlt] at ih; rw [if_neg (by omega)]; omega
  have := k s.classes.length
  rw [if_pos (by omega)] at this
  rw [e, sumI_cons]
  omega
theorem frE_le_frames {s : PSys} (i : Nat) : ∀ {x : PSt} {l : List PFr}, l ∈ x → sumI (frE s i) l ≤ sumI (frE s i) (frames x)
 | m :: x, l, h => by
  have h0 : ∀ L : List PFr, 0 ≤ sumI (frE s i) L := by
   intro L
   induction L with
   | nil => exact Int.le_refl _
   | cons f L ih =>
    have : 0 ≤ frE s i f := by unfold frE; split <;> omega
    rw [sumI_cons]; omega
  simp only [frames, List.flatten_cons, sumI_app]
  rcases List.mem_cons.1 h with rfl | h
  ·have := h0 x.flatten; omega
  ·have := frE_le_frames (s := s) i h
   have := h0 m
   simp only [frames] at *
   omega
theorem val_deep {s : PSys} {x : PSt} (hV : Valid s x) : Deep 25 x := by
 have hg := hV.good
 refine ⟨hV.l24, fun l hl => ?_⟩
 obtain ⟨w, hw, rfl⟩ := List.getElem_of_mem hl
 obtain ⟨c, _, hc⟩ := val_formed hV hw
 have hgd : x.getD w [] = x[w] := by rw [List.getD_eq_getElem?_getD, List.getElem?_eq_getElem hw]; rfl
 rw [hgd] at hc
 obtain ⟨h0, hb, hch⟩ := formed_iff.1 hc
 obtain ⟨r, hr⟩ := rv_top h0
 rw [hr] at hch
 have h1 := chn_srv hg r _ hch
 rw [← hr, sumI_rev] at h1
 have h2 := srv_sum (s := s) (formedB_ok hc).2
 obtain ⟨_, o2, _⟩ := over_iff.1 hV.nover
 have h3 : ∀ n : Nat, n ≤ s.classes.length → ((List.range n).map fun i => sumI (frE s i) x[w]).sum ≤ 4 * n := by
  intro n
  induction n with
  | zero => simp
  | succ n ih =>
   intro hn
   have ih := ih (by omega)
   rw [List.range_succ]
   simp only [List.map_append, List.sum_append, List.map_cons, List.map_nil, List.sum_cons, List.sum_nil]
   have : sumI (frE s n) x[w] ≤ 4 := by
    have hm := frE_le_frames (s := s) n hl
    cases hs : (s.classes.getD n default).server with
    | false => rw [frE_serv hs]; omega
    | true =>
     have := o2 n (by omega) hs
     have hw4 := (hg.cls (s.classes.getD n default) (by rw [List.getD_eq_getElem?_getD, List.getElem?_eq_getElem (by omega)]; exact List.getElem_mem _)).w4
     omega
   omega
 have h4 := h3 s.classes.length (Nat.le_refl _)
 have hnc := hg.nc
 have hlen : x[w].length = r.length + 1 := by rw [← List.length_reverse, hr]; rfl
 omega
end Go.AM

set_option maxRecDepth 8000
set_option maxHeartbeats 4000000
namespace Go.AM
open Go Go.Proofs

theorem wrap_u8 (n : Int) : IntKind.u8.wrap n = n % 256 := by simp [IntKind.wrap, IntKind.signed, IntKind.bits]
abbrev u8D (n : Nat) : D := .int .u8 n
abbrev u8sD (l : List Nat) : List D := l.map u8D
def kfr (f : PFr) : List Nat := [f.c.toNat, f.a.toNat]
def kst (l : List PFr) : List Nat := l.length :: l.flatMap kfr
def kX (x : PSt) : List Nat := x.flatMap kst
def keyX (x : PSt) : List UInt8 := bytesD (u8sD (kX x))
structure KFit (x : PSt) : Prop where
 len : x.length ≤ 24
 stk : ∀ l ∈ x, l.length ≤ 25
 fr : ∀ l ∈ x, ∀ f ∈ l, 0 ≤ f.c ∧ f.c < 100 ∧ 0 ≤ f.a ∧ f.a < 100
theorem val_kfit {s : PSys} {x : PSt} (hV : Valid s x) : KFit x := by
 have hd := val_deep hV
 refine ⟨hd.len, hd.stk, fun l hl f hf => ?_⟩
 have hfo := hV.frames f (List.mem_flatten.2 ⟨l, hl, hf⟩)
 obtain ⟨c1, c2, c3, c4⟩ := frOk_iff.1 hfo
 have h12 := (hV.good.cls _ (cls_mem hfo)).l12
 have hnc := hV.good.nc
 omega
theorem bytesOk_u8 (l : List Nat) : bytesOk (u8sD l) = true := by simp [bytesOk, List.all_eq_true]
theorem kX_snoc {x : PSt} {k : Nat} {l : List PFr} {r : PSt} (hd : x.drop k = l :: r) : kX (x.take (k + 1)) = kX (x.take k) ++ kst l := by
 rw [take_of_drop hd]; simp [kX]
theorem kX_len {x : PSt} (hx : KFit x) : ∀ k, (kX (x.take k)).length ≤ 51 * k := by
 intro k
 have key : ∀ y : PSt, (∀ l ∈ y, l.length ≤ 25) → (kX y).length ≤ 51 * y.length := by
  intro y
  induction y with
  | nil => intro _; simp [kX]
  | cons l y ih =>
   intro h
   have h1 := h l (by simp)
   have h2 := ih fun q hq => h q (by simp [hq])
   have h3 : (kst l).length = 1 + 2 * l.length := by
    unfold kst
    rw [List.length_cons]
    have : ∀ m : List PFr, (m.flatMap kfr).length = 2 * m.length := by
     intro m
     induction m with
     | nil => rfl
     | cons f m ih => rw [List.flatMap_cons, List.length_append, ih]; simp [kfr]; omega
    rw [this]; omega
   have h4 : kX (l :: y) = kst l ++ kX y := by simp [kX]
   rw [h4, List.length_append, List.length_cons]
   omega
 have := key (x.take k) fun l hl => hx.stk l (List.mem_of_mem_take hl)
 rw [List.length_take] at this
 omega
def keyR (ds : List D) (v : AV) : Prop := ∃ x : PSt, ds = [stD x] ∧ KFit x ∧ v = .dat (.str (keyX x))
theorem key_ok : OkF Try.prog 84 (dataC keyR) := by
 refine okF_data Try.func84 rfl (by decide) ?_
 rintro ds v ⟨x, rfl, hx, rfl⟩
 have hxl := hx.len
 have hxl2 : (stacksD x).length = x.length := by simp
 refine sem_of_awpK [2] (Γ := tbl []) okG_nil _ _ _ ?_
 simp only [go_sem, Int.reduceEq, Int.reduceLT, Int.reduceLE, eq_self, Int.natCast_nonneg, Int.toNat_natCast, Try.ntmps84, stD]
 refine sem_le (le_addnil 3 none rfl (Nat.zero_le _)) ?_
 refine sem_of_awp (Γ := tbl []) okG_nil _ _ _ ?_
 simp only [go_sem, Int.reduceEq, Int.reduceLT, Int.reduceLE, eq_self, Int.natCast_nonneg, Int.toNat_natCast, hxl2]
 refine sem_loop (fun k : Nat => ⟨slotsOf 40 [(1, .ptr 0 0 0), (3, .sl 1 0 (kX (x.take k)).length), (9, .dat (.sl none (stacksD x))), (10, .dat (.int .i64 x.length)), (11, .dat (.int .i64 k))], [stO x, .row none (u8sD (kX (x.take k)))], 0, []⟩)
  (fun k => k ≤ x.length) (fun k => x.length - k) 0 (Nat.zero_le _) ?_ ?_
 ·rw [List.take_zero]
  exact le_slots' (by simp only [go_sem, Int.natCast_zero, kX, List.flatMap_nil, List.length_nil])
 rintro k hk
 cases hd : x.drop k with
 | nil =>
  obtain rfl : k = x.length := end_of_drop hd hk
  have hk2 : ¬ (x.length : Int) < x.length := by omega
  rw [List.take_length]
  refine sem_le (le_freeze 1 (ag := none) rfl (Nat.zero_le _)) ?_
  refine sem_of_awp (Γ := tbl []) okG_nil _ _ _ ?_
  have hW : List.take (kX x).length (u8sD (kX x)) = u8sD (kX x) := List.take_of_length_le (by simp)
  have hLL : (kX x).length ≤ (u8sD (kX x)).length := by simp
  have hb := bytesOk_u8 (kX x)
  simp only [go_sem, Int.reduceEq, Int.reduceLT, Int.reduceLE, eq_self, Int.natCast_nonneg, Int.toNat_natCast, hk2, hW, hLL, List.drop_zero, hb]
  exact post_data (.inl rfl) [2] rfl trivial rfl
 | cons l r =>
 have hlt := lt_of_drop hd
 have hk2 : (k : Int) < x.length := by omega
 have hk0 : (0 : Int) ≤ k := Int.natCast_nonneg k
 have hn := nth_of_drop (f := stackD) hd
 have hll := hx.stk l (mem_of_drop hd)
 have hff := hx.fr l (mem_of_drop hd)
 have hfl : (frsD l).length = l.length := by simp
 have hkl := kX_len hx k
 have hsn := kX_snoc hd
 have hwr : IntKind.u8.wrap (l.length : Int) = l.length := by rw [wrap_u8]; omega
 refine sem_of_awp (Γ := tbl []) okG_nil _ _ _ ?_
 generalize kX (x.take k) = A at *
 have hAl : (u8sD A).length = A.length := by simp
 have hAt : List.take A.length (u8sD A) = u8sD A := List.take_of_length_le (by simp)
 simp only [go_sem, Int.reduceEq, Int.reduceLT, Int.reduceLE, eq_self, Int.natCast_nonneg, Int.toNat_natCast, hk2, hk0, hlt, hn, hxl2, stackD, hfl, hAl, hAt, Nat.le_refl, hwr]
 refine ⟨by omega, by omega, ?_⟩
 let P := fun j : Nat => A ++ (l.length :: (l.take j).flatMap kfr)
 have hP0 : P 0 = A ++ [l.length] := by simp [P]
 have hPl : P l.length = A ++ kst l := by simp only [P, List.take_length, kst]
 have hPn : ∀ j, (P j).length ≤ A.length + 1 + 2 * j := by
  intro j
  have : ∀ m : List PFr, (m.flatMap kfr).length = 2 * m.length := by
   intro m
   induction m with
   | nil => rfl
   | cons f m ih => rw [List.flatMap_cons, List.length_append, ih]; simp [kfr]; omega
  simp only [P, List.length_append, List.length_cons, this, List.length_take]
  omega
 have hPs : ∀ j f r2, l.drop j = f :: r2 → P (j + 1) = P j ++ kfr f := by
  intro j f r2 hd2
  simp only [P]
  rw [take_of_drop hd2]; simp
 refine sem_loop (fun j : Nat => ⟨slotsOf 40 [(1, .ptr 0 0 0), (3, .sl 1 0 (P j).length), (9, .dat (.sl none (stacksD x))), (10, .dat (.int .i64 x.length)), (11, .dat (.int .i64 k)), (21, .dat (.sl (some 2) (frsD l))), (22, .dat (.int .i64 l.length)), (23, .dat (.int .i64 j))], [stO x, .row none (u8sD (P j))], 0, []⟩)
  (fun j => j ≤ l.length) (fun j => l.length - j) 0 (Nat.zero_le _) ?_ ?_
 ·rw [hP0, show u8sD (A ++ [l.length]) = u8sD A ++ [u8D l.length] from by simp, List.length_append]
  refine le_end (own := [_, _]) (ex := [_]) (Nat.zero_le _) ?_ ?_ ?_
  ·simp only [go_sem, Int.natCast_zero]
  ·simp only [go_sem]
  ·simp only [go_sem, Obj.under, AV.unders, AV.under]
 rintro j hj
 refine sem_of_awp (Γ := tbl []) okG_nil _ _ _ ?_
 have hPj := hPn j
 cases hd2 : l.drop j with
 | nil =>
  obtain rfl : j = l.length := end_of_drop hd2 hj
  have hj2 : ¬ (l.length : Int) < l.length := by omega
  simp only [go_sem, Int.reduceEq, Int.reduceLT, Int.reduceLE, eq_self, Int.natCast_nonneg, Int.toNat_natCast, hj2]
  refine ⟨inR_i64.2 (by omega), k + 1, by omega, by omega, ?_⟩
  rw [hPl, hsn]
  exact le_slots' (by simp only [go_sem, Int.natCast_add, Int.cast_ofNat_Int])
 | cons f r2 =>
 have hlt2 := lt_of_drop hd2
 have hj2 : (j : Int) < l.length := by omega
 have hj0 : (0 : Int) ≤ j := Int.natCast_nonneg j
 have hn2 := nth_of_drop (f := frD) hd2
 obtain ⟨f1, f2, f3, f4⟩ := hff f (mem_of_drop hd2)
 have hw1 : IntKind.u8.wrap f.c = f.c := by rw [wrap_u8]; omega
 have hw2 : IntKind.u8.wrap f.a = f.a := by rw [wrap_u8]; omega
 have hPs := hPs j f r2 hd2
 have e1 : u8sD (P (j + 1)) = u8sD (P j) ++ [.int .u8 f.c, .int .u8 f.a] := by
  rw [hPs]; simp [kfr, Int.toNat_of_nonneg f1, Int.toNat_of_nonneg f3]
 have e2 : (P (j + 1)).length = (P j).length + 2 := by rw [hPs]; simp [kfr]
 have hPjl : (u8sD (P j)).length = (P j).length := by simp
 have hPjt : List.take (P j).length (u8sD (P j)) = u8sD (P j) := List.take_of_length_le (by simp)
 simp only [go_sem, Int.reduceEq, Int.reduceLT, Int.reduceLE, eq_self, Int.natCast_nonneg, Int.toNat_natCast, hj2, hj0, hlt2, hn2, frD, hfl, hw1, hw2, hPjl, hPjt, Nat.le_refl]
 refine ⟨by omega, by omega, inR_i64.2 (by omega), j + 1, by omega, by omega, ?_⟩
 rw [e1, e2]
 refine le_end (own := [_, _]) (ex := [_, _]) (Nat.zero_le _) ?_ ?_ ?_
 ·simp only [go_sem, Int.natCast_add, Int.cast_ofNat_Int]
 ·simp only [go_sem]
 ·simp only [go_sem, Obj.under, AV.unders, AV.under]
end Go.AM

set_option maxRecDepth 8000
namespace Go.AM
open Go Go.Proofs

theorem kfr_inj : ∀ {l m : List PFr} {A B : List Nat}, l.length = m.length → (∀ f ∈ l, 0 ≤ f.c ∧ 0 ≤ f.a) → (∀ f ∈ m, 0 ≤ f.c ∧ 0 ≤ f.a) → l.flatMap kfr ++ A = m.flatMap kfr ++ B → l = m ∧ A = B
 | [], [], A, B, _, _, _, h => ⟨rfl, by simpa using h⟩
 | f :: l, g :: m, A, B, hl, h1, h2, h => by
  simp only [List.flatMap_cons, kfr, List.cons_append, List.nil_append, List.cons.injEq] at h
  obtain ⟨e1, e2, e3⟩ := h
  have hf := h1 f (by simp)
  have hg := h2 g (by simp)
  obtain ⟨r1, r2⟩ := kfr_inj (by simpa using hl) (fun q hq => h1 q (by simp [hq])) (fun q hq => h2 q (by simp [hq])) e3
  refine ⟨?_, r2⟩
  obtain ⟨a, b⟩ := f
  obtain ⟨c, d⟩ := g
  simp only at e1 e2 hf hg
  have : a = c := by omega
  have : b = d := by omega
  subst_vars
  rfl
theorem kX_inj : ∀ {x y : PSt}, (∀ l ∈ x, ∀ f ∈ l, 0 ≤ f.c ∧ 0 ≤ f.a) → (∀ l ∈ y, ∀ f ∈ l, 0 ≤ f.c ∧ 0 ≤ f.a) → kX x = kX y → x = y
 | [], [], _, _, _ => rfl
 | [], m :: y, _, _, h => by simp [kX, kst] at h
 | l :: x, [], _, _, h => by simp [kX, kst] at h
 | l :: x, m :: y, h1, h2, h => by
  have e : ∀ (l : List PFr) (x : PSt), kX (l :: x) = l.length :: (l.flatMap kfr ++ kX x) := fun l x => by simp [kX, kst]
  rw [e, e, List.cons.injEq] at h
  obtain ⟨r1, r2⟩ := kfr_inj h.1 (h1 l (by simp)) (h2 m (by simp)) h.2
  rw [r1, kX_inj (fun q hq => h1 q (by simp [hq])) (fun q hq => h2 q (by simp [hq])) r2]
theorem u8_inj : ∀ {a b : List Nat}, (∀ n ∈ a, n < 256) → (∀ n ∈ b, n < 256) → bytesD (u8sD a) = bytesD (u8sD b) → a = b
 | [], [], _, _, _ => rfl
 | [], _ :: _, _, _, h => by simp [bytesD] at h
 | _ :: _, [], _, _, h => by simp [bytesD] at h
 | n :: a, m :: b, h1, h2, h => by
  simp only [bytesD, u8sD, List.map_cons, List.cons.injEq] at h
  have hn := h1 n (by simp)
  have hm := h2 m (by simp)
  have e : n = m := by
   have := congrArg UInt8.toNat h.1
   simp only [Int.toNat_natCast, UInt8.toNat_ofNat'] at this
   omega
  rw [e, u8_inj (fun q hq => h1 q (by simp [hq])) (fun q hq => h2 q (by simp [hq])) h.2]
theorem kX_lt {x : PSt} (hx : KFit x) : ∀ n ∈ kX x, n < 256 := by
 intro n hn
 unfold kX at hn
 obtain ⟨l, hl, hn⟩ := List.mem_flatMap.1 hn
 have h25 := hx.stk l hl
 unfold kst at hn
 rcases List.mem_cons.1 hn with rfl | hn
 ·omega
 ·obtain ⟨f, hf, hn⟩ := List.mem_flatMap.1 hn
  have := hx.fr l hl f hf
  unfold kfr at hn
  simp only [List.mem_cons, List.not_mem_nil, or_false] at hn
  rcases hn with rfl | rfl <;> omega
theorem keyX_inj {x y : PSt} (hx : KFit x) (hy : KFit y) (h : keyX x = keyX y) : x = y :=
 kX_inj (fun l hl f hf => by have := hx.fr l hl f hf; omega) (fun l hl f hf => by have := hy.fr l hl f hf; omega) (u8_inj (kX_lt hx) (kX_lt hy) h)
end Go.AM

set_option maxRecDepth 8000
set_option maxHeartbeats 4000000
namespace Go.AM
open Go Go.Proofs

def qfr (f : PFr) : List Nat := [f.c.toNat + 1, f.a.toNat + 1]
def qX (x : PSt) : List Nat := x.flatMap fun l => l.flatMap qfr ++ [0]
def rkeyX (x : PSt) : List UInt8 := bytesD (u8sD (qX x))
def rkeyR (ds : List D) (v : AV) : Prop := ∃ x : PSt, ds = [stD x] ∧ KFit x ∧ v = .dat (.str (rkeyX x))
end Go.AM

set_option maxRecDepth 8000
set_option maxHeartbeats 4000000
namespace Go.AM
open Go Go.Proofs

def hstep (h : Int) (b : UInt8) : Int := (h * 31 + b.toNat).tmod 1021
def hashN (l : List UInt8) : Int := l.foldl hstep 0
def hashR (ds : List D) (v : AV) : Prop := ∃ l : List UInt8, ds = [.str l] ∧ l.length ≤ 100000 ∧ v = .dat (.int .i64 (hashN l))
end Go.AM

set_option maxRecDepth 8000
namespace Go.AM
open Go Go.Proofs

end Go.AM

set_option maxRecDepth 8000
namespace Go.AM
open Go Go.Proofs

structure Gr where
 st : List PSt
 frm : List Int
 who : List Int
deriving Inhabited
def idxS (S : List PSt) (t : PSt) : Option Nat := S.findIdx? fun y => decide (y = t)
def inG (s : PSys) (at' : Nat) (x : PSt) : List Nat → Gr → List Nat → Option (Gr × List Nat)
 | [], g, nx => some (g, nx)
 | w :: ws, g, nx => match idxS g.st (takeX s x w) with
  | some i => inG s at' x ws g (nx ++ [i])
  | none => if g.st.length = 4096 then none else inG s at' x ws ⟨g.st ++ [takeX s x w], g.frm ++ [(at' : Int)], g.who ++ [(w : Int)]⟩ (nx ++ [g.st.length])
def outG (s : PSys) : Nat → Nat → Gr → List (List Nat) → List (List Nat) → Option (Gr × List (List Nat) × List (List Nat))
 | 0, _, g, ab, nx => some (g, ab, nx)
 | n + 1, k, g, ab, nx => if k < g.st.length then
   (match inG s k (g.st.getD k []) (ableL s (g.st.getD k [])) g [] with
   | none => none
   | some (g', l) => outG s n (k + 1) g' (ab ++ [ableL s (g.st.getD k [])]) (nx ++ [l]))
  else some (g, ab, nx)
def g0 (x : PSt) : Gr := ⟨[x], [-1], [-1]⟩
def reachG (s : PSys) (x : PSt) : Option (Gr × List (List Nat) × List (List Nat)) := outG s 4097 0 (g0 x) [] []
end Go.AM

set_option maxRecDepth 8000
namespace Go.AM
open Go Go.Proofs

def mpF : Nat → List PSt → List (D × D)
 | _, [] => []
 | i, x :: r => (.str (keyX x), .int .i64 i) :: mpF (i + 1) r
theorem mpF_snoc : ∀ {S : List PSt} {i : Nat} {t : PSt}, mpF i (S ++ [t]) = mpF i S ++ [(.str (keyX t), .int .i64 (i + S.length : Nat))]
 | [], i, t => by simp [mpF]
 | x :: S, i, t => by
  rw [List.cons_append, mpF, mpF_snoc, mpF]
  simp [Nat.add_assoc, Nat.add_comm 1]
theorem mpF_findI {t : PSt} (ht : KFit t) : ∀ {S : List PSt} {i : Nat} {n : Nat}, (∀ x ∈ S, KFit x) → mapFindI (.str (keyX t)) (mpF i S) n = (idxS S t).map fun j => (n + j, .int .i64 (i + j : Nat))
 | [], _, _, _ => rfl
 | x :: S, i, n, h => by
  rw [mpF, mapFindI]
  by_cases e : x = t
  ·subst e
   simp [D.keyEq, idxS, List.findIdx?_cons]
  ·have hne : keyX t ≠ keyX x := fun he => e (keyX_inj (h x (by simp)) ht he.symm)
   have ih := mpF_findI ht (S := S) (i := i + 1) (n := n + 1) fun y hy => h y (by simp [hy])
   rw [if_neg (by simpa [D.keyEq] using hne), ih]
   simp only [idxS, List.findIdx?_cons, e, decide_false, Bool.false_eq_true, if_false]
   cases List.findIdx? (fun y => decide (y = t)) S with
   | none => rfl
   | some j => simp [Nat.add_assoc, Nat.add_comm 1]
theorem mpF_find {t : PSt} (ht : KFit t) {S : List PSt} (h : ∀ x ∈ S, KFit x) : mapFind (.str (keyX t)) (mpF 0 S) = (idxS S t).map fun j => .int .i64 (j : Nat) := by
 unfold mapFind
 rw [mpF_findI ht h]
 cases idxS S t <;> simp
theorem mpF_set {t : PSt} (ht : KFit t) : ∀ {S : List PSt} {i : Nat} {v : D}, (∀ x ∈ S, KFit x) → idxS S t = none → mapSet (.str (keyX t)) v (mpF i S) = mpF i S ++ [(.str (keyX t), v)]
 | [], _, _, _, _ => rfl
 | x :: S, i, v, h, hn => by
  simp only [idxS, List.findIdx?_cons] at hn
  by_cases e : x = t
  ·simp [e] at hn
  ·have hne : keyX t ≠ keyX x := fun he => e (keyX_inj (h x (by simp)) ht he.symm)
   have hn2 : idxS S t = none := by
    unfold idxS
    simp only [e, decide_false, Bool.false_eq_true, if_false] at hn
    simpa using hn
   rw [mpF, mapSet, if_neg (by simpa [D.keyEq] using hne), mpF_set ht (fun y hy => h y (by simp [hy])) hn2]
   rfl
end Go.AM

set_option maxRecDepth 8000
set_option maxHeartbeats 4000000
namespace Go.AM
open Go Go.Proofs

abbrev stsD (S : List PSt) : List D := S.map stD
abbrev natlD (l : List Nat) : D := .sl none (natsD l)
abbrev natssD (L : List (List Nat)) : List D := L.map natlD
def grD (g : Gr) (ab nx : List (List Nat)) : D := .agg [.sl (some 1) (stsD g.st), .sl none (natssD ab), .sl none (natssD nx), .sl none (intsD g.frm), .sl none (intsD g.who)]
structure GrOk (s : PSys) (g : Gr) : Prop where
 l1 : g.frm.length = g.st.length
 l2 : g.who.length = g.st.length
 le : g.st.length ≤ 4096
 val : ∀ x ∈ g.st, Valid s x
theorem mem_able {s : PSys} {x : PSt} {w : Nat} : w ∈ ableL s x ↔ w < x.length ∧ ableB s x w = true := by
 unfold ableL; rw [List.mem_filter, List.mem_range]
theorem gok_push {s : PSys} {g : Gr} (h : GrOk s g) {t : PSt} (ht : Valid s t) (hl : g.st.length ≠ 4096) (a w : Int) : GrOk s ⟨g.st ++ [t], g.frm ++ [a], g.who ++ [w]⟩ := by
 have h1 := h.l1; have h2 := h.l2; have h3 := h.le
 refine ⟨by simp [h1], by simp [h2], by simp; omega, fun x hx => ?_⟩
 rcases List.mem_append.1 hx with hx | hx
 ·exact h.val x hx
 ·rw [List.mem_singleton.1 hx]; exact ht
theorem mpF_keys {P : Program} {t : TypeId} : ∀ {S : List PSt} {i : Nat}, (mpF i S).all (fun x => D.isKeyP P t .string x.1) = true
 | [], _ => rfl
 | x :: S, i => by rw [mpF, List.all_cons, mpF_keys]; simp [D.isKeyP, D.isKey]
theorem sts_len {S : List PSt} : (stsD S).length = S.length := by simp
theorem sts_take {S : List PSt} : List.take S.length (stsD S) = stsD S := List.take_of_length_le (by simp)
theorem natss_len {S : List (List Nat)} : (natssD S).length = S.length := by simp
theorem natss_take {S : List (List Nat)} : List.take S.length (natssD S) = natssD S := List.take_of_length_le (by simp)
theorem val_stfit {s : PSys} {x : PSt} (hV : Valid s x) : PStFit x := (val_deep hV).fit (by decide)
abbrev tabXG : List (Nat × Contract) := [(84, dataC keyR), (57, dataC ableR), (43, dataC takeR)]
theorem tabXG_ok : OkG Try.prog (tbl tabXG) := okG_cons key_ok (okG_cons enabled_ok (okG_cons take_ok okG_nil))
theorem pureXG : PureFns (tbl tabXG) [84, 57, 43] := by
 refine pure_of2 fun g C hm hg => ?_
 simp only [List.mem_cons, List.not_mem_nil, or_false, Prod.mk.injEq] at hm
 rcases hm with ⟨_, rfl⟩ | ⟨_, rfl⟩ | ⟨_, rfl⟩ <;> exact .inl ⟨_, rfl⟩
def reachV (s : PSys) (x : PSt) : AV := match reachG s x with
 | none => .tup [.top, .dat (.bool false)]
 | some (g, ab, nx) => .tup [.rptr (some 5) (grD g ab nx), .dat (.bool true)]
def reachR (ds : List D) (v : AV) : Prop := ∃ (s : PSys) (x : PSt), ds = [sysD s, stD x] ∧ Valid s x ∧ v = reachV s x
abbrev grB (n k : Nat) : Obj := .box [.sl 2 0 n, .sl 7 0 k, .sl 8 0 k, .sl 3 0 n, .sl 4 0 n]
abbrev ownG (s : PSys) (x : PSt) (g : Gr) (ab nx : List (List Nat)) (k : Nat) : List Obj := [sysO s, stO x, .row (some 1) (stsD g.st), .row none (intsD g.frm), .row none (intsD g.who), grB g.st.length k, .map (mpF 0 g.st), .row none (natssD ab), .row none (natssD nx)]
theorem xreach_ok : OkF Try.prog 58 (dataC reachR) := by
 refine okF_data Try.func58 rfl (by decide) ?_
 rintro ds v ⟨s, x, rfl, hV, rfl⟩
 refine sem_of_awpK [3] (Γ := tbl tabXG) tabXG_ok _ _ _ ?_
 simp only [go_sem, Int.reduceEq, Int.reduceLT, Int.reduceLE, eq_self, Int.natCast_nonneg, Int.toNat_natCast, Try.ntmps58, sysD, stD]
 refine call_data keyR (by simp) [stD x] _ rfl ⟨x, rfl, val_kfit hV, rfl⟩ (.inl rfl) ?_
 simp only [go_sem, Int.reduceEq, Int.reduceLT, Int.reduceLE, eq_self, Int.natCast_nonneg, Int.toNat_natCast]
 refine sem_le (le_addnilR 5 1 none rfl rfl (Nat.zero_le _)) ?_
 refine sem_le (le_addnilR 5 2 none rfl rfl (Nat.zero_le _)) ?_
 refine sem_of_awp (Γ := tbl tabXG) tabXG_ok _ _ _ ?_
 simp only [go_sem, Int.reduceEq, Int.reduceLT, Int.reduceLE, eq_self, Int.natCast_nonneg, Int.toNat_natCast]
 generalize hRV : reachV s x = V
 refine sem_loop (fun p : Nat × Gr × List (List Nat) × List (List Nat) => ⟨slotsOf 141 [(2, .ptr 0 0 0), (3, .ptr 1 0 0), (6, .ptr 5 0 0), (7, .map 6), (8, .dat (.int .i64 p.1))], ownG s x p.2.1 p.2.2.1 p.2.2.2 p.1, 0, []⟩)
  (fun p => GrOk s p.2.1 ∧ p.1 ≤ p.2.1.st.length ∧ p.2.2.1.length = p.1 ∧ p.2.2.2.length = p.1 ∧ outG s (4097 - p.1) p.1 p.2.1 p.2.2.1 p.2.2.2 = reachG s x) (fun p => 4097 - p.1) (0, g0 x, [], []) ⟨⟨rfl, rfl, by simp [g0], by simpa [g0] using hV⟩, Nat.zero_le _, rfl, rfl, rfl⟩ ?_ ?_
 ·exact le_slots' (by simp only [go_sem, Int.natCast_zero])
 rintro ⟨k, g, ab, nx⟩ ⟨hG, hk, hab, hnx, hout⟩
 simp only at hG hk hab hnx hout ⊢
 have g1 := hG.l1
 have g2 := hG.l2
 have g3 := hG.le
 have hk0 : (0 : Int) ≤ k := Int.natCast_nonneg k
 obtain ⟨m, hm⟩ : ∃ m, 4097 - k = m + 1 := ⟨4096 - k, by omega⟩
 rw [hm, outG] at hout
 rcases Nat.lt_or_ge k g.st.length with hlt | hge
 case inr =>
  obtain rfl : k = g.st.length := by omega
  rw [if_neg (by omega)] at hout
  have hk2 : ¬ (g.st.length : Int) < g.st.length := by omega
  have hV2 : V = .tup [.rptr (some 5) (grD g ab nx), .dat (.bool true)] := by rw [← hRV]; unfold reachV; rw [← hout]
  subst hV2
  have t1 : List.take g.st.length (stsD g.st) = stsD g.st := sts_take
  have t2 : List.take g.st.length (intsD g.frm) = intsD g.frm := List.take_of_length_le (by simp [g1])
  have t3 : List.take g.st.length (intsD g.who) = intsD g.who := List.take_of_length_le (by simp [g2])
  have t4 : List.take g.st.length (natssD ab) = natssD ab := List.take_of_length_le (by simp [hab])
  have t5 : List.take g.st.length (natssD nx) = natssD nx := List.take_of_length_le (by simp [hnx])
  refine sem_le (le_freeze 2 (ag := some 1) rfl (Nat.zero_le _)) ?_
  simp only [go_sem, Int.reduceEq, Int.reduceLT, Int.reduceLE, eq_self, Int.natCast_nonneg, Int.toNat_natCast, sts_len, Nat.le_refl, t1]
  refine sem_le (le_freeze 3 (ag := none) rfl (Nat.zero_le _)) ?_
  simp only [go_sem, Int.reduceEq, Int.reduceLT, Int.reduceLE, eq_self, Int.natCast_nonneg, Int.toNat_natCast, ints_len, g1, Nat.le_refl, t2]
  refine sem_le (le_freeze 4 (ag := none) rfl (Nat.zero_le _)) ?_
  simp only [go_sem, Int.reduceEq, Int.reduceLT, Int.reduceLE, eq_self, Int.natCast_nonneg, Int.toNat_natCast, ints_len, g2, Nat.le_refl, t3]
  refine sem_le (le_freeze 7 (ag := none) rfl (Nat.zero_le _)) ?_
  simp only [go_sem, Int.reduceEq, Int.reduceLT, Int.reduceLE, eq_self, Int.natCast_nonneg, Int.toNat_natCast, natss_len, hab, Nat.le_refl, t4]
  refine sem_le (le_freeze 8 (ag := none) rfl (Nat.zero_le _)) ?_
  simp only [go_sem, Int.reduceEq, Int.reduceLT, Int.reduceLE, eq_self, Int.natCast_nonneg, Int.toNat_natCast, natss_len, hnx, Nat.le_refl, t5]
  refine sem_le (le_freezeB 5 (ds := [.sl (some 1) (stsD g.st), .sl none (natssD ab), .sl none (natssD nx), .sl none (intsD g.frm), .sl none (intsD g.who)]) rfl (Nat.zero_le _)) ?_
  simp only [go_sem, Int.reduceEq, Int.reduceLT, Int.reduceLE, eq_self, Int.natCast_nonneg, Int.toNat_natCast]
  refine sem_of_awp (Γ := tbl tabXG) tabXG_ok _ _ _ ?_
  simp only [go_sem, Int.reduceEq, Int.reduceLT, Int.reduceLE, eq_self, Int.natCast_nonneg, Int.toNat_natCast, hk2]
  exact post_data (.inl rfl) [4, 5] rfl (by simp only [AV.under, AV.unders, and_self]) rfl
 rw [if_pos hlt] at hout
 have hk2 : (k : Int) < g.st.length := by omega
 refine sem_of_awpK [8, 23] (Γ := tbl tabXG) tabXG_ok _ _ _ ?_
 simp only [go_sem, Int.reduceEq, Int.reduceLT, Int.reduceLE, eq_self, Int.natCast_nonneg, Int.toNat_natCast, hk2]
 generalize hy : g.st.getD k [] = y at *
 have hVy : Valid s y := hG.val y (by rw [← hy, List.getD_eq_getElem?_getD, List.getElem?_eq_getElem hlt]; exact List.getElem_mem _)
 have hyn : D.nth (stsD g.st) k = stD y := by rw [← hy]; exact D.nth_map hlt
 have hyf := val_stfit hVy
 have hy24 := hVy.l24
 have hal : (ableL s y).length ≤ y.length := able_len s y y.length
 refine sem_drawY [] [] (pf := [84, 57, 43]) (mf := []) mixed tabXG_ok pureXG noMk (ones [0, 1, 2, 3, 4, 5, 6, 7, 8, 9]) (by kernel_rfl) ?_
 simp only [go_sem, Int.reduceEq, Int.reduceLT, Int.reduceLE, eq_self, Int.natCast_nonneg, Int.toNat_natCast, hk0, hlt, hk2, sts_len, hyn, stD]
 refine call_data ableR (by simp) [sysD s, stD y] _ rfl ⟨s, y, rfl, hVy, hyf, rfl⟩ (.inl rfl) ?_
 simp only [go_sem, Int.reduceEq, Int.reduceLT, Int.reduceLE, eq_self, Int.natCast_nonneg, Int.toNat_natCast]
 refine sem_le (le_addnil 10 none rfl (Nat.zero_le _)) ?_
 refine sem_of_awpK [23] (Γ := tbl tabXG) tabXG_ok _ _ _ ?_
 have hA : ∀ w ∈ ableL s y, w < y.length ∧ ableB s y w = true := fun w hw => mem_able.1 hw
 generalize ableL s y = A at *
 simp only [go_sem, Int.reduceEq, Int.reduceLT, Int.reduceLE, eq_self, Int.natCast_nonneg, Int.toNat_natCast, nats_len]
 generalize hin : inG s k y A g [] = R at hout
 refine sem_loop (fun p : Nat × Gr × List Nat => ⟨slotsOf 141 [(2, .ptr 0 0 0), (3, .ptr 1 0 0), (6, .ptr 5 0 0), (7, .map 6), (8, .dat (.int .i64 k)), (9, .dat (.sl none (natsD A))), (10, .sl 9 0 p.2.2.length), (45, .dat (.sl none (natsD A))), (46, .dat (.int .i64 A.length)), (47, .dat (.int .i64 p.1))], ownG s x p.2.1 ab nx k ++ [.row none (natsD p.2.2)], 0, []⟩)
  (fun p => GrOk s p.2.1 ∧ k < p.2.1.st.length ∧ p.2.1.st.getD k [] = y ∧ p.1 ≤ A.length ∧ p.2.2.length = p.1 ∧ inG s k y (A.drop p.1) p.2.1 p.2.2 = R) (fun p => A.length - p.1) (0, g, []) ⟨hG, hlt, hy, Nat.zero_le _, rfl, by rw [List.drop_zero]; exact hin⟩ ?_ ?_
 ·exact le_slots' (by simp only [go_sem, Int.natCast_zero])
 clear hin
 clear hG hlt hy hk2 hk g1 g2 g3
 rintro ⟨j, g, l⟩ ⟨hG, hlt, hy, hj, hl, hin⟩
 simp only at hG hlt hy hj hl hin ⊢
 have g1 := hG.l1
 have g2 := hG.l2
 have g3 := hG.le
 have hk2 : (k : Int) < g.st.length := by omega
 have hyn : D.nth (stsD g.st) k = stD y := by rw [← hy]; exact D.nth_map hlt
 cases hd : A.drop j with
 | nil =>
  obtain rfl : j = A.length := end_of_drop hd hj
  have hj2 : ¬ (A.length : Int) < A.length := by omega
  rw [hd, inG] at hin
  subst hin
  simp only at hout
  refine sem_of_awpK [23] (Γ := tbl tabXG) tabXG_ok _ _ _ ?_
  simp only [go_sem, Int.reduceEq, Int.reduceLT, Int.reduceLE, eq_self, Int.natCast_nonneg, Int.toNat_natCast, hj2]
  refine sem_le (le_freeze 9 (ag := none) rfl (Nat.zero_le _)) ?_
  have q1 : List.take l.length (natsD l) = natsD l := nats_take
  simp only [go_sem, Int.reduceEq, Int.reduceLT, Int.reduceLE, eq_self, Int.natCast_nonneg, Int.toNat_natCast, nats_len, Nat.le_refl, q1]
  refine sem_le (σ' := ⟨slotsOf 141 [(2, .ptr 0 0 0), (3, .ptr 1 0 0), (6, .ptr 5 0 0), (7, .map 6), (8, .dat (.int .i64 k)), (9, .dat (.sl none (natsD A))), (10, .dat (.sl none (natsD l)))], ownG s x g ab nx k, 0, []⟩) ?_ ?_
  ·refine le_end (own := [_, _, _, _, _, _, _, _, _]) (ex := [_]) (Nat.zero_le _) ?_ ?_ ?_
   ·simp only [go_sem]
   ·simp only [go_sem]
   ·simp only [go_sem, Obj.allUnder, Obj.under, AV.unders, AV.under]
  have q2 : List.take k (natssD ab) = natssD ab := by rw [← hab]; exact natss_take
  have q3 : List.take k (natssD nx) = natssD nx := by rw [← hnx]; exact natss_take
  have q4 : (natssD ab).length = k := by simp [hab]
  have q5 : (natssD nx).length = k := by simp [hnx]
  have q6 : natssD (ab ++ [A]) = natssD ab ++ [natlD A] := by simp
  have q7 : natssD (nx ++ [l]) = natssD nx ++ [natlD l] := by simp
  refine sem_drawV [(18, [5]), (21, [5])] [(8, [7]), (15, [8]), (0, [7]), (0, [8]), (1, [7]), (1, [8]), (2, [7]), (2, [8]), (3, [7]), (3, [8]), (4, [7]), (4, [8]), (5, [8]), (6, [7]), (6, [8]), (9, [7]), (9, [8]), (10, [7]), (10, [8]), (11, [7]), (11, [8]), (12, [7]), (13, [7]), (13, [8])] (pf := []) (mf := []) mixed tabXG_ok pureNo noMk (.one 0 (.one 1 (.one 2 (.one 3 (.one 4 (.one 5 (.one 6 (.one 9 (.one 10 (.one 11 (.one 12 (.one 13 (.alt 7 (.alt 8 (.alt 14 (.one 15 (.one 16 (.one 17 (.one 18 (.one 19 (.one 20 (.one 21 .fin))))))) .stop) (.alt 14 (.one 8 (.one 15 (.one 16 (.one 17 (.one 18 (.one 19 (.one 20 (.one 21 .fin)))))))) .stop)) (.alt 14 (.alt 7 (.one 8 (.one 15 (.one 16 (.one 17 (.one 18 (.one 19 (.one 20 (.one 21 .fin)))))))) .stop) .stop)))))))))))))) (by kernel_rfl) ?_
  simp only [go_sem, Int.reduceEq, Int.reduceLT, Int.reduceLE, eq_self, Int.natCast_nonneg, Int.toNat_natCast, q2, q3, q4, q5, Nat.le_refl]
  refine ⟨?_, ?_⟩ <;>
  ·refine ⟨by omega, by omega, by omega, by omega, inR_i64.2 (by omega), (k + 1, g, ab ++ [A], nx ++ [l]), ⟨hG, by simp only; omega, by simp [hab], by simp [hnx], ?_⟩, by simp only; omega, ?_⟩
   ·simp only
    rw [show 4097 - (k + 1) = m by omega]
    exact hout
   ·simp only [ownG, q6, q7]
    refine le_end (own := [_, _, _, _, _, _, _, _, _]) (ex := [_, _]) (Nat.zero_le _) ?_ ?_ ?_
    ·simp only [go_sem, Int.natCast_add, Int.cast_ofNat_Int]
    ·simp only [go_sem]
    ·simp only [go_sem, Obj.allUnder, Obj.under, AV.unders, AV.under]
 | cons w r =>
 have hltj := lt_of_drop hd
 have hj2 : (j : Int) < A.length := by omega
 have hj0 : (0 : Int) ≤ j := Int.natCast_nonneg j
 have hwn : D.nth (natsD A) j = .int .i64 w := nth_of_drop hd
 obtain ⟨hw, hwa⟩ := hA w (mem_of_drop hd)
 have hVt := val_take hVy hw hwa
 rw [hd, inG] at hin
 generalize ht : takeX s y w = t at *
 have hsn : mpF 0 (g.st ++ [t]) = mpF 0 g.st ++ [(.str (keyX t), .int .i64 (g.st.length : Nat))] := by rw [mpF_snoc, Nat.zero_add]
 have hKt := val_kfit hVt
 have hKS : ∀ z ∈ g.st, KFit z := fun z hz => val_kfit (hG.val z hz)
 have hfind := mpF_find hKt hKS
 have hkeys : ∀ τ : TypeId, ((mpF 0 g.st).all fun x => D.isKeyP Try.prog τ .string x.1) = true := fun τ => mpF_keys
 refine sem_of_awpK [11, 12] (Γ := tbl tabXG) tabXG_ok _ _ _ ?_
 simp only [go_sem, Int.reduceEq, Int.reduceLT, Int.reduceLE, eq_self, Int.natCast_nonneg, Int.toNat_natCast, hj2, hj0, hltj, hwn, nats_len]
 refine sem_drawY [(11, [10])] [] (pf := [84, 57, 43]) (mf := []) mixed tabXG_ok pureXG noMk (.one 0 (.one 1 (.one 2 (.one 3 (.one 4 (.one 5 (.one 6 (.one 7 (.one 8 (.alt 9 (.one 10 (.one 11 .fin)) (.alt 10 (.one 9 (.one 11 .fin)) .stop))))))))))) (by kernel_rfl) ?_
 generalize hK : andThenK [11, 12] Try.prog (tbl tabXG) _ _ = Q
 have hcl : ∀ σ σ', Le σ σ' → Q .normal σ' → Q .normal σ := by
  subst hK
  intro σ σ' h1 h2
  exact sem_le h1 h2
 suffices hQ1 : Q .normal ⟨slotsOf 141 [(2, .ptr 0 0 0), (3, .ptr 1 0 0), (6, .ptr 5 0 0), (7, .map 6), (8, .dat (.int .i64 k)), (9, .dat (.sl none (natsD A))), (10, .sl 9 0 l.length), (12, .dat (.int .i64 w)), (13, .ptr 10 0 0), (45, .dat (.sl none (natsD A))), (46, .dat (.int .i64 A.length)), (47, .dat (.int .i64 j))], ownG s x g ab nx k ++ [.row none (natsD l), stO t], 0, []⟩ by
  simp only [go_sem, Int.reduceEq, Int.reduceLT, Int.reduceLE, eq_self, Int.natCast_nonneg, Int.toNat_natCast, hk0, hlt, hk2, sts_len, hyn, stD]
  refine ⟨?_, ?_⟩ <;>
  ·refine call_data takeR (by simp) [sysD s, stD y, .int .i64 w] _ rfl ⟨s, y, w, rfl, hVy, hyf, hw, rfl⟩ (.inl rfl) ?_
   simp only [go_sem, Int.reduceEq, Int.reduceLT, Int.reduceLE, eq_self, Int.natCast_nonneg, Int.toNat_natCast, ht, stD]
   exact hcl _ _ (le_slots' (by simp only [go_sem])) hQ1
 subst hK
 clear hcl
 refine sem_of_awp (Γ := tbl tabXG) tabXG_ok _ _ _ ?_
 simp only [go_sem, Int.reduceEq, Int.reduceLT, Int.reduceLE, eq_self, Int.natCast_nonneg, Int.toNat_natCast]
 refine call_data keyR (by simp) [stD t] _ rfl ⟨t, rfl, hKt, rfl⟩ (.inl rfl) ?_
 cases hix : idxS g.st t with
 | some i =>
  rw [hix] at hin hfind
  simp only at hin
  simp only [go_sem, Int.reduceEq, Int.reduceLT, Int.reduceLE, eq_self, Int.natCast_nonneg, Int.toNat_natCast, hkeys, hfind, Option.map_some]
  refine ⟨by omega, by omega, inR_i64.2 (by omega), (j + 1, g, l ++ [i]), ⟨hG, hlt, hy, by simp only; omega, by simp [hl], ?_⟩, by simp only; omega, ?_⟩
  ·simp only
   rw [drop_cons hd]
   exact hin
  ·have q1 : natsD (l ++ [i]) = natsD l ++ [D.int .i64 i] := by simp
   have q2 : List.take l.length (natsD l) = natsD l := nats_take
   simp only [q1, q2, List.length_append, List.length_cons, List.length_nil]
   refine le_end (own := [_, _, _, _, _, _, _, _, _, _]) (ex := [_, _]) (Nat.zero_le _) ?_ ?_ ?_
   ·simp only [go_sem, Int.natCast_add, Int.cast_ofNat_Int]
   ·simp only [go_sem]
   ·simp only [go_sem, Obj.allUnder, Obj.under, AV.unders, AV.under]
 | none =>
  rw [hix] at hin hfind
  simp only at hin
  simp only [go_sem, Int.reduceEq, Int.reduceLT, Int.reduceLE, eq_self, Int.natCast_nonneg, Int.toNat_natCast, hkeys, hfind, Option.map_none]
  by_cases h4 : g.st.length = 4096
  ·rw [if_pos h4] at hin
   have h4i : (g.st.length : Int) = 4096 := by omega
   subst hin
   simp only at hout
   have hV2 : V = .tup [.top, .dat (.bool false)] := by rw [← hRV]; unfold reachV; rw [← hout]
   subst hV2
   simp only [go_sem, Int.reduceEq, Int.reduceLT, Int.reduceLE, eq_self, Int.natCast_nonneg, Int.toNat_natCast, h4i]
   exact post_data (.inl rfl) [4, 5] rfl (by simp only [AV.under, AV.unders, and_self]) rfl
  rw [if_neg h4] at hin
  have h4i : ¬ (g.st.length : Int) = 4096 := by omega
  have hset : mapSet (.str (keyX t)) (.int .i64 (g.st.length : Nat)) (mpF 0 g.st) = mpF 0 (g.st ++ [t]) := by rw [mpF_set hKt hKS hix, hsn]
  have q1 : List.take g.st.length (stsD g.st) = stsD g.st := sts_take
  have q2 : List.take g.st.length (intsD g.frm) = intsD g.frm := by rw [← g1]; exact ints_take
  have q3 : List.take g.st.length (intsD g.who) = intsD g.who := by rw [← g2]; exact ints_take
  have q4 : stsD (g.st ++ [t]) = stsD g.st ++ [D.agg [.sl none (stacksD t)]] := by simp [stD]
  have q5 : intsD (g.frm ++ [(k : Int)]) = intsD g.frm ++ [D.int .i64 k] := by simp
  have q6 : intsD (g.who ++ [(w : Int)]) = intsD g.who ++ [D.int .i64 w] := by simp
  have q7 : natsD (l ++ [g.st.length]) = natsD l ++ [D.int .i64 g.st.length] := by simp
  have q8 : List.take l.length (natsD l) = natsD l := nats_take
  simp only [go_sem, Int.reduceEq, Int.reduceLT, Int.reduceLE, eq_self, Int.natCast_nonneg, Int.toNat_natCast, h4i, hkeys, hset]
  refine sem_drawV [(10, [5])] [(7, [2]), (0, [2]), (1, [2]), (2, [2]), (3, [2]), (5, [2])] (pf := []) (mf := []) mixed tabXG_ok pureNo noMk (.one 0 (.one 1 (.one 2 (.one 3 (.one 4 (.one 5 (.one 6 (.one 7 (.one 8 (.one 9 (.one 10 .fin))))))))))) (by kernel_rfl) ?_
  simp only [go_sem, Int.reduceEq, Int.reduceLT, Int.reduceLE, eq_self, Int.natCast_nonneg, Int.toNat_natCast, sts_len, q1, Nat.le_refl]
  refine ⟨by omega, by omega, ?_⟩
  refine sem_drawV [(18, [5]), (21, [5])] [(8, [3]), (15, [4]), (0, [3]), (0, [4]), (1, [3]), (1, [4]), (2, [3]), (2, [4]), (3, [3]), (3, [4]), (4, [3]), (4, [4]), (5, [4]), (6, [3]), (6, [4]), (9, [3]), (9, [4]), (10, [3]), (10, [4]), (11, [3]), (11, [4]), (12, [3]), (13, [3]), (13, [4])] (pf := []) (mf := []) mixed tabXG_ok pureNo noMk (.one 0 (.one 1 (.one 2 (.one 3 (.one 4 (.one 5 (.one 6 (.one 9 (.one 10 (.one 11 (.one 12 (.one 13 (.alt 7 (.alt 8 (.alt 14 (.one 15 (.one 16 (.one 17 (.one 18 (.one 19 (.one 20 (.one 21 .fin))))))) .stop) (.alt 14 (.one 8 (.one 15 (.one 16 (.one 17 (.one 18 (.one 19 (.one 20 (.one 21 .fin)))))))) .stop)) (.alt 14 (.alt 7 (.one 8 (.one 15 (.one 16 (.one 17 (.one 18 (.one 19 (.one 20 (.one 21 .fin)))))))) .stop) .stop)))))))))))))) (by kernel_rfl) ?_
  simp only [go_sem, Int.reduceEq, Int.reduceLT, Int.reduceLE, eq_self, Int.natCast_nonneg, Int.toNat_natCast, ints_len, q2, q3, g1, g2, Nat.le_refl, nats_len, q8]
  refine ⟨?_, ?_⟩ <;>
  ·refine ⟨by omega, by omega, by omega, by omega, by omega, by omega, inR_i64.2 (by omega), (j + 1, ⟨g.st ++ [t], g.frm ++ [(k : Int)], g.who ++ [(w : Int)]⟩, l ++ [g.st.length]), ⟨gok_push hG hVt h4 _ _, by simp only [List.length_append]; omega, ?_, by simp only; omega, by simp [hl], ?_⟩, by simp only; omega, ?_⟩
   ·simp only
    rw [List.getD_eq_getElem?_getD, List.getElem?_append_left hlt, ← List.getD_eq_getElem?_getD]
    exact hy
   ·simp only
    rw [drop_cons hd]
    exact hin
   ·simp only [q4, q5, q6, q7, ownG, List.length_append, List.length_cons, List.length_nil]
    refine le_end (own := [_, _, _, _, _, _, _, _, _, _]) (ex := [_, _, _, _, _]) (Nat.zero_le _) ?_ ?_ ?_
    ·simp only [go_sem, Int.natCast_add, Int.cast_ofNat_Int]
    ·simp only [go_sem]
    ·simp only [go_sem, Obj.allUnder, Obj.under, AV.unders, AV.under]
end Go.AM

set_option maxRecDepth 8000
namespace Go.AM
open Go Go.Proofs

inductive Rch (s : PSys) (x : PSt) : PSt → Prop
 | refl : Rch s x x
 | step {y : PSt} {w : Nat} : Rch s x y → w < y.length → ableB s y w = true → Rch s x (takeX s y w)
theorem Rch.trans {s : PSys} {x y z : PSt} (h : Rch s x y) (k : Rch s y z) : Rch s x z := by
 induction k with
 | refl => exact h
 | step _ h1 h2 ih => exact .step ih h1 h2
theorem Rch.val {s : PSys} {x y : PSt} (h : Rch s x y) (hV : Valid s x) : Valid s y := by
 induction h with
 | refl => exact hV
 | step _ h1 h2 ih => exact val_take ih h1 h2
theorem Rch.len {s : PSys} {x y : PSt} (h : Rch s x y) : y.length = x.length := by
 induction h with
 | refl => rfl
 | step _ h1 h2 ih => rw [takeX_len]; exact ih
theorem idxS_lt {S : List PSt} {t : PSt} {i : Nat} (h : idxS S t = some i) : ∃ hi : i < S.length, S[i] = t := by
 unfold idxS at h
 rw [List.findIdx?_eq_some_iff_getElem] at h
 obtain ⟨hi, h1, _⟩ := h
 exact ⟨hi, by simpa using h1⟩
theorem idxS_mem {S : List PSt} {t : PSt} {i : Nat} (h : idxS S t = some i) : t ∈ S := by
 obtain ⟨hi, rfl⟩ := idxS_lt h
 exact List.getElem_mem hi
theorem idxS_none {S : List PSt} {t : PSt} : idxS S t = none ↔ t ∉ S := by
 unfold idxS
 rw [List.findIdx?_eq_none_iff]
 constructor
 ·intro h hm; simpa using h t hm
 ·intro h y hy
  simp only [decide_eq_false_iff_not]
  rintro rfl; exact h hy
theorem idxS_some {S : List PSt} {t : PSt} (h : t ∈ S) : ∃ i, idxS S t = some i := by
 cases e : idxS S t with
 | none => exact absurd h (idxS_none.1 e)
 | some i => exact ⟨i, rfl⟩
theorem idxS_app {S T : List PSt} {t : PSt} {i : Nat} (h : idxS S t = some i) : idxS (S ++ T) t = some i := by
 unfold idxS at h ⊢
 rw [List.findIdx?_append, h]; rfl
theorem idxS_new {S : List PSt} {t : PSt} (h : idxS S t = none) : idxS (S ++ [t]) t = some S.length := by
 unfold idxS at h ⊢
 rw [List.findIdx?_append, h]
 simp [List.findIdx?_cons]
def nxRow (s : PSys) (S : List PSt) (y : PSt) : List Nat := (ableL s y).map fun w => (idxS S (takeX s y w)).getD 0
def Closed1 (s : PSys) (S : List PSt) (y : PSt) : Prop := ∀ w ∈ ableL s y, takeX s y w ∈ S
theorem Closed1.app {s : PSys} {S T : List PSt} {y : PSt} (h : Closed1 s S y) : Closed1 s (S ++ T) y := fun w hw => List.mem_append_left _ (h w hw)
theorem nxRow_app {s : PSys} {S T : List PSt} {y : PSt} (h : Closed1 s S y) : nxRow s (S ++ T) y = nxRow s S y := by
 unfold nxRow
 refine List.map_congr_left fun w hw => ?_
 obtain ⟨i, hi⟩ := idxS_some (h w hw)
 rw [idxS_app hi, hi]
structure GInv (s : PSys) (x : PSt) (g : Gr) : Prop where
 ok : GrOk s g
 hd : ∃ T, g.st = x :: T
 nd : g.st.Nodup
 rch : ∀ y ∈ g.st, Rch s x y
 prov : ∀ i, 0 < i → i < g.st.length → ∃ a w : Nat, g.frm.getD i 0 = a ∧ g.who.getD i 0 = w ∧ a < i ∧ w < (g.st.getD a []).length ∧ ableB s (g.st.getD a []) w = true ∧ g.st.getD i [] = takeX s (g.st.getD a []) w
 hd2 : g.frm.getD 0 0 = -1 ∧ g.who.getD 0 0 = -1
theorem ginv0 {s : PSys} {x : PSt} (hV : Valid s x) : GInv s x (g0 x) where
 ok := ⟨rfl, rfl, by simp [g0], by simpa [g0] using hV⟩
 hd := ⟨[], rfl⟩
 nd := by simp [g0]
 rch := by simp only [g0, List.mem_singleton]; rintro y rfl; exact .refl
 prov := by simp only [g0, List.length_singleton]; intro i h1 h2; omega
 hd2 := ⟨rfl, rfl⟩
theorem getD_app {α : Type} {S : List α} {d t : α} {i : Nat} (h : i < S.length) : (S ++ [t]).getD i d = S.getD i d := by
 rw [List.getD_eq_getElem?_getD, List.getElem?_append_left h, ← List.getD_eq_getElem?_getD]
theorem getD_end {α : Type} {S : List α} {d t : α} : (S ++ [t]).getD S.length d = t := by
 rw [List.getD_eq_getElem?_getD, List.getElem?_append_right (Nat.le_refl _)]; simp
theorem getD_memS {S : List PSt} {i : Nat} (h : i < S.length) : S.getD i [] ∈ S := by
 rw [List.getD_eq_getElem?_getD, List.getElem?_eq_getElem h]; exact List.getElem_mem h
theorem GInv.push {s : PSys} {x : PSt} {g : Gr} (h : GInv s x g) {k w : Nat} (hk : k < g.st.length) (hw : w < (g.st.getD k []).length) (ha : ableB s (g.st.getD k []) w = true)
  (hn : idxS g.st (takeX s (g.st.getD k []) w) = none) (hl : g.st.length ≠ 4096) : GInv s x ⟨g.st ++ [takeX s (g.st.getD k []) w], g.frm ++ [(k : Int)], g.who ++ [(w : Int)]⟩ := by
 have hVk := h.ok.val _ (getD_memS hk)
 refine ⟨gok_push h.ok (val_take hVk hw ha) hl _ _, ?_, ?_, ?_, ?_, ?_⟩
 ·obtain ⟨T, hT⟩ := h.hd
  exact ⟨T ++ [takeX s (g.st.getD k []) w], by simp only [hT, List.cons_append]⟩
 ·simp only
  rw [List.nodup_append]
  refine ⟨h.nd, by simp, fun a ha b hb => ?_⟩
  rw [List.mem_singleton] at hb
  subst hb
  rintro rfl
  exact idxS_none.1 hn ha
 ·intro y hy
  rcases List.mem_append.1 hy with hy | hy
  ·exact h.rch y hy
  ·rw [List.mem_singleton.1 hy]
   exact .step (h.rch _ (getD_memS hk)) hw ha
 ·intro i h0 hi
  simp only [List.length_append, List.length_singleton] at hi ⊢
  rcases Nat.lt_or_ge i g.st.length with hlt | hge
  ·obtain ⟨a, v, e1, e2, e3, e4, e5, e6⟩ := h.prov i h0 hlt
   refine ⟨a, v, ?_, ?_, e3, ?_⟩
   ·rw [getD_app (by rw [h.ok.l1]; exact hlt)]; exact e1
   ·rw [getD_app (by rw [h.ok.l2]; exact hlt)]; exact e2
   ·rw [getD_app (i := a) (by omega), getD_app hlt]; exact ⟨e4, e5, e6⟩
  ·obtain rfl : i = g.st.length := by omega
   refine ⟨k, w, ?_, ?_, hk, ?_⟩
   ·rw [← h.ok.l1]; exact getD_end
   ·rw [← h.ok.l2]; exact getD_end
   ·rw [getD_app hk, getD_end]; exact ⟨hw, ha, rfl⟩
 ·have hp : 0 < g.st.length := by omega
  have h1 := h.ok.l1
  have h2 := h.ok.l2
  simp only
  rw [getD_app (by omega), getD_app (by omega)]
  exact h.hd2
theorem inG_ok {s : PSys} {x : PSt} {k : Nat} {y : PSt} : ∀ (ws : List Nat) (g : Gr) (nx : List Nat), (∀ w ∈ ws, w < y.length ∧ ableB s y w = true) → GInv s x g → k < g.st.length → g.st.getD k [] = y →
  match inG s k y ws g nx with
  | some (g', nx') => GInv s x g' ∧ (∃ T, g'.st = g.st ++ T) ∧ (∀ w ∈ ws, takeX s y w ∈ g'.st) ∧ nx' = nx ++ ws.map fun w => (idxS g'.st (takeX s y w)).getD 0
  | none => ∃ L : List PSt, L.length = 4097 ∧ L.Nodup ∧ ∀ z ∈ L, Rch s x z
 | [], g, nx, _, hG, _, _ => by
  simp only [inG]
  exact ⟨hG, ⟨[], by simp⟩, by simp, by simp⟩
 | w :: ws, g, nx, hws, hG, hk, hy => by
  obtain ⟨hw, ha⟩ := hws w (by simp)
  have hws' : ∀ v ∈ ws, v < y.length ∧ ableB s y v = true := fun v hv => hws v (by simp [hv])
  simp only [inG]
  cases hi : idxS g.st (takeX s y w) with
  | some i =>
   simp only
   have ih := inG_ok ws g (nx ++ [i]) hws' hG hk hy
   revert ih
   cases inG s k y ws g (nx ++ [i]) with
   | none => exact id
   | some p =>
    obtain ⟨g', nx'⟩ := p
    simp only
    rintro ⟨h1, ⟨T, hT⟩, h3, h4⟩
    refine ⟨h1, ⟨T, hT⟩, ?_, ?_⟩
    ·intro v hv
     rcases List.mem_cons.1 hv with rfl | hv
     ·rw [hT]; exact List.mem_append_left _ (idxS_mem hi)
     ·exact h3 v hv
    ·rw [h4, List.map_cons, hT, idxS_app hi]; simp
  | none =>
   simp only
   subst hy
   by_cases h4 : g.st.length = 4096
   ·rw [if_pos h4]
    refine ⟨g.st ++ [takeX s (g.st.getD k []) w], by simp [h4], ?_, ?_⟩
    ·rw [List.nodup_append]
     refine ⟨hG.nd, by simp, fun a ha b hb => ?_⟩
     rw [List.mem_singleton] at hb
     subst hb
     rintro rfl
     exact idxS_none.1 hi ha
    ·intro z hz
     rcases List.mem_append.1 hz with hz | hz
     ·exact hG.rch z hz
     ·rw [List.mem_singleton.1 hz]
      exact .step (hG.rch _ (getD_memS hk)) hw ha
   ·rw [if_neg h4]
    have hG' := hG.push hk hw ha hi h4
    have ih := inG_ok (y := g.st.getD k []) ws _ (nx ++ [g.st.length]) hws' hG' (show k < (g.st ++ [takeX s (g.st.getD k []) w]).length by rw [List.length_append]; omega) (by simp only; exact getD_app hk)
    revert ih
    cases inG s k (g.st.getD k []) ws ⟨g.st ++ [takeX s (g.st.getD k []) w], g.frm ++ [(k : Int)], g.who ++ [(w : Int)]⟩ (nx ++ [g.st.length]) with
    | none => exact id
    | some p =>
     obtain ⟨g', nx'⟩ := p
     simp only
     rintro ⟨h1, ⟨T, hT⟩, h3, h5⟩
     refine ⟨h1, ⟨takeX s (g.st.getD k []) w :: T, by rw [hT]; simp only [List.append_assoc, List.cons_append, List.nil_append]⟩, ?_, ?_⟩
     ·intro v hv
      rcases List.mem_cons.1 hv with rfl | hv
      ·rw [hT]; simp
      ·exact h3 v hv
     ·rw [h5, List.map_cons, hT, idxS_app (idxS_new hi)]; simp
theorem take_succ_getD {S : List PSt} {k : Nat} (h : k < S.length) : S.take (k + 1) = S.take k ++ [S.getD k []] := by
 rw [List.take_add_one, List.getElem?_eq_getElem h, List.getD_eq_getElem?_getD, List.getElem?_eq_getElem h]; rfl
theorem outG_ok {s : PSys} {x : PSt} : ∀ (n k : Nat) (g : Gr) (ab nx : List (List Nat)), n + k = 4097 → GInv s x g → k ≤ g.st.length → ab = (g.st.take k).map (ableL s) → nx = (g.st.take k).map (nxRow s g.st) → (∀ y ∈ g.st.take k, Closed1 s g.st y) →
  match outG s n k g ab nx with
  | some (g', ab', nx') => GInv s x g' ∧ (∀ y ∈ g'.st, Closed1 s g'.st y) ∧ ab' = g'.st.map (ableL s) ∧ nx' = g'.st.map (nxRow s g'.st)
  | none => ∃ L : List PSt, L.length = 4097 ∧ L.Nodup ∧ ∀ z ∈ L, Rch s x z
 | 0, k, g, ab, nx, hn, hG, hk, _, _, _ => by
  have := hG.ok.le
  omega
 | n + 1, k, g, ab, nx, hn, hG, hk, hab, hnx, hcl => by
  simp only [outG]
  by_cases hlt : k < g.st.length
  ·rw [if_pos hlt]
   have h1 := inG_ok (s := s) (x := x) (k := k) (y := g.st.getD k []) (ableL s (g.st.getD k [])) g [] (fun w hw => mem_able.1 hw) hG hlt rfl
   revert h1
   cases inG s k (g.st.getD k []) (ableL s (g.st.getD k [])) g [] with
   | none => exact id
   | some p =>
    obtain ⟨g', l⟩ := p
    simp only
    rintro ⟨h1, ⟨T, hT⟩, h3, h4⟩
    have hlt' : k < g'.st.length := by rw [hT, List.length_append]; omega
    have htk : g'.st.take k = g.st.take k := by rw [hT, List.take_append_of_le_length hk]
    have hgd : g'.st.getD k [] = g.st.getD k [] := by rw [hT, List.getD_eq_getElem?_getD, List.getElem?_append_left hlt, ← List.getD_eq_getElem?_getD]
    refine outG_ok n (k + 1) g' _ _ (by omega) h1 hlt' ?_ ?_ ?_
    ·rw [take_succ_getD hlt', htk, hgd, List.map_append, hab]; rfl
    ·rw [take_succ_getD hlt', htk, hgd, List.map_append, hnx, h4]
     congr 1
     refine List.map_congr_left fun y hy => ?_
     rw [hT]; exact (nxRow_app (hcl y hy)).symm
    ·rw [take_succ_getD hlt', htk, hgd]
     intro y hy
     rcases List.mem_append.1 hy with hy | hy
     ·rw [hT]; exact (hcl y hy).app
     ·rw [List.mem_singleton.1 hy]; exact h3
  ·rw [if_neg hlt]
   have e : g.st.take k = g.st := List.take_of_length_le (by omega)
   rw [e] at hab hnx hcl
   simp only
   exact ⟨hG, hcl, hab, hnx⟩
theorem reach_inv {s : PSys} {x : PSt} (hV : Valid s x) {g : Gr} {ab nx : List (List Nat)} (h : reachG s x = some (g, ab, nx)) : GInv s x g ∧ (∀ y ∈ g.st, Closed1 s g.st y) ∧ ab = g.st.map (ableL s) ∧ nx = g.st.map (nxRow s g.st) := by
 have := outG_ok (s := s) (x := x) 4097 0 (g0 x) [] [] rfl (ginv0 hV) (Nat.zero_le _) rfl rfl (by simp)
 unfold reachG at h
 rw [h] at this
 exact this
theorem reach_none {s : PSys} {x : PSt} (hV : Valid s x) (h : reachG s x = none) : ∃ L : List PSt, L.length = 4097 ∧ L.Nodup ∧ ∀ z ∈ L, Rch s x z := by
 have := outG_ok (s := s) (x := x) 4097 0 (g0 x) [] [] rfl (ginv0 hV) (Nat.zero_le _) rfl rfl (by simp)
 unfold reachG at h
 rw [h] at this
 exact this
theorem reach_all {s : PSys} {x : PSt} (hV : Valid s x) {g : Gr} {ab nx : List (List Nat)} (h : reachG s x = some (g, ab, nx)) {y : PSt} : y ∈ g.st ↔ Rch s x y := by
 obtain ⟨h1, h2, _, _⟩ := reach_inv hV h
 refine ⟨h1.rch y, fun hr => ?_⟩
 induction hr with
 | refl => obtain ⟨T, hT⟩ := h1.hd; rw [hT]; simp
 | step hr hw ha ih => exact h2 _ ih _ (mem_able.2 ⟨hw, ha⟩)
theorem nodup_sub {α : Type} [DecidableEq α] : ∀ {L S : List α}, L.Nodup → (∀ x ∈ L, x ∈ S) → L.length ≤ S.length
 | [], S, _, _ => Nat.zero_le _
 | a :: L, S, hn, hs => by
  obtain ⟨h1, h2⟩ := List.nodup_cons.1 hn
  have := nodup_sub (L := L) (S := S.erase a) h2 fun x hx => by
   have hne : x ≠ a := fun e => h1 (e ▸ hx)
   exact (List.mem_erase_of_ne hne).2 (hs x (by simp [hx]))
  rw [List.length_erase_of_mem (hs a (by simp))] at this
  have hp := List.length_pos_of_mem (hs a (by simp))
  simp only [List.length_cons]; omega
theorem reach_from {s : PSys} {x : PSt} (hV : Valid s x) {r : Gr × List (List Nat) × List (List Nat)} (h : reachG s x = some r) {y : PSt} (hy : Rch s x y) : ∃ r', reachG s y = some r' := by
 cases e : reachG s y with
 | some r' => exact ⟨r', rfl⟩
 | none =>
  obtain ⟨g, ab, nx⟩ := r
  obtain ⟨L, h1, h2, h3⟩ := reach_none (hy.val hV) e
  have := nodup_sub h2 fun z hz => (reach_all hV h).2 (hy.trans (h3 z hz))
  have := (reach_inv hV h).1.ok.le
  omega
end Go.AM

