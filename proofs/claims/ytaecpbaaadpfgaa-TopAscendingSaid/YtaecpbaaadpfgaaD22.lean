/- Own work over the model of the kit. -/
import Derived.Test.YtaecpbaaadpfgaaD21
import Derived.Test.YtaecpbaaadpfgaaD19
set_option linter.unusedSimpArgs false
set_option linter.unusedVariables false
set_option maxHeartbeats 4000000
set_option maxRecDepth 100000
namespace Go.AM
open Go Go.Proofs
theorem deep_ok {s : PSys} {c : PCls} (hc : c.good s) (i : Nat) : ∀ k, k <= c.steps.length -> 0 <= (ownU i (c.steps.take k)).2 /\ (ownU i (c.steps.take k)).2 <= (ownU i (c.steps.take k)).1
 | 0, _ => by simp [ownU]
 | k + 1, h => by
  have ih := deep_ok hc i k (by omega)
  have hu := run_unit hc h i
  rw [← ownU_bal] at hu
  have hsn : c.steps.take (k + 1) = c.steps.take k ++ [c.steps[k]'(by omega)] := by rw [List.take_succ_eq_append_getElem]
  rw [hsn, ownU_snoc] at hu ⊢
  have hp := hc.pre _ (List.getElem_mem (l := c.steps) (n := k) (by omega))
  obtain ⟨_, _, hcnt, hcnt0⟩ := preE_0 hp
  generalize c.steps[k]'(by omega) = x at *
  generalize ownU i (c.steps.take k) = p at *
  unfold ustep at *
  by_cases h1 : x.on = (i : Int)
  ·rw [if_pos h1] at *
   by_cases h2 : x.kind = 1
   ·rw [if_pos h2] at *
    have := hcnt (.inl h2)
    simp only at *
    split <;> omega
   ·rw [if_neg h2] at *
    by_cases h3 : x.kind = 2
    ·rw [if_pos h3] at *
     have := hcnt (.inr h3)
     simp only at *
     omega
    ·rw [if_neg h3] at *; exact ih
  ·rw [if_neg h1] at *; exact ih
def shl (s : PSys) (i : Nat) (f : PFr) : Int := (ownU i ((clsAt s f).steps.take f.a.toNat)).1 - (ownU i ((clsAt s f).steps.take f.a.toNat)).2
def effS (i : Nat) (y : PStep) : Int := if y.on = i /\ y.kind = 1 /\ y.deep = false then y.cnt else 0
theorem shl_next {s : PSys} (hg : s.good) {f : PFr} (h : frOk s f = true) (i : Nat) : 0 <= shl s i ⟨f.c, f.a + 1⟩ /\ shl s i ⟨f.c, f.a + 1⟩ <= shl s i f + effS i (stepAtF s f) := by
 obtain ⟨c1, c2, c3, c4⟩ := frOk_iff.1 h
 have hd := deep_ok (hg.cls _ (cls_mem h)) i (f.a + 1).toNat (by omega)
 refine ⟨by show 0 <= (ownU i ((clsAt s f).steps.take (f.a + 1).toNat)).1 - (ownU i ((clsAt s f).steps.take (f.a + 1).toNat)).2; omega, ?_⟩
 show (ownU i ((clsAt s f).steps.take (f.a + 1).toNat)).1 - (ownU i ((clsAt s f).steps.take (f.a + 1).toNat)).2 <= _
 rw [take_next h, ownU_snoc]
 unfold shl
 have hp := preE_0 (step_mem hg h)
 generalize ownU i ((clsAt s f).steps.take f.a.toNat) = p at *
 generalize stepAtF s f = x at *
 unfold ustep effS
 by_cases h1 : x.on = (i : Int)
 ·rw [if_pos h1]
  by_cases h2 : x.kind = 1
  ·rw [if_pos h2]
   cases h3 : x.deep with
   | true =>
    have e2 : (if x.on = (i : Int) /\ x.kind = 1 /\ true = false then x.cnt else 0) = 0 := if_neg (fun h => by cases h.2.2)
    rw [e2]
    simp only [if_true]
    omega
   | false =>
    have e2 : (if x.on = (i : Int) /\ x.kind = 1 /\ false = false then x.cnt else 0) = x.cnt := if_pos ⟨h1, h2, rfl⟩
    rw [e2]
    simp only [Bool.false_eq_true, if_false]
    omega
  ·have e2 : (if x.on = (i : Int) /\ x.kind = 1 /\ x.deep = false then x.cnt else 0) = 0 := if_neg (fun h => h2 h.2.1)
   rw [e2, if_neg h2]
   by_cases h3 : x.kind = 2
   ·rw [if_pos h3]
    have := hp.2.2.1 (.inr h3)
    simp only
    omega
   ·rw [if_neg h3]; omega
 ·have e2 : (if x.on = (i : Int) /\ x.kind = 1 /\ x.deep = false then x.cnt else 0) = 0 := if_neg (fun h => h1 h.1)
  rw [e2, if_neg h1]; omega
theorem up_leS {s : PSys} {G : PFr -> Int} {E : PStep -> Int} (hnext : ∀ f, frOk s f = true -> 0 <= G ⟨f.c, f.a + 1⟩ /\ G ⟨f.c, f.a + 1⟩ <= G f + E (stepAtF s f)) (hzero : ∀ c, G ⟨c, 0⟩ = 0) (hcall : ∀ y : PStep, y.kind = 5 -> E y = 0) :
  ∀ (r : List PFr) (f : PFr), chn s (f :: r) -> sumI G (upR s (f :: r)) <= sumI G (f :: r) + E (stepAtF s f)
 | [], f, h => by
  obtain ⟨h1, h2⟩ := hnext f (chn_ok h f (by simp))
  unfold upR
  split
  ·rw [sumI_cons, sumI_cons]; omega
  ·rw [sumI_cons, sumI_cons, hzero]; omega
 | g :: r, f, h => by
  obtain ⟨h1, h2⟩ := hnext f (chn_ok h f (by simp))
  unfold upR
  split
  ·have e1 := sumI_cons G ⟨f.c, f.a + 1⟩ (g :: r)
   have e2 := sumI_cons G f (g :: r)
   omega
  ·have ih := up_leS hnext hzero hcall r g h.2.2
   rw [hcall _ (calls_iff h.2.1).1] at ih
   have e := sumI_cons G f (g :: r)
   show sumI G (upR s (g :: r)) <= _
   omega
theorem sumI_rv (G : PFr -> Int) : ∀ l : List PFr, sumI G l.reverse = sumI G l
 | [] => rfl
 | f :: l => by rw [List.reverse_cons, sumI_snoc, sumI_rv G l, sumI_cons]; omega
theorem takeS_leS {s : PSys} {G : PFr -> Int} {E : PStep -> Int} (hnext : ∀ f, frOk s f = true -> 0 <= G ⟨f.c, f.a + 1⟩ /\ G ⟨f.c, f.a + 1⟩ <= G f + E (stepAtF s f)) (hzero : ∀ c, G ⟨c, 0⟩ = 0) (hcall : ∀ y : PStep, y.kind = 5 -> E y = 0)
  {l : List PFr} {c : Nat} (h : formedB s l c = true) : sumI G (takeS s l) <= sumI G l + E (stepAtF s (topF l)) := by
 obtain ⟨h0, _, hc⟩ := formed_iff.1 h
 obtain ⟨r, hr⟩ := rv_top h0
 rw [hr] at hc
 unfold takeS
 split
 ·rename_i hk
  rw [sumI_snoc, hzero, hcall _ hk]; omega
 ·rw [sumI_rv, hr, ← sumI_rv G l, hr]
  exact up_leS hnext hzero hcall r (topF l) hc
def DpInv (s : PSys) (x : PSt) : Prop := ∀ i, i < s.pools.length -> sumI (shl s i) (frames x) <= (s.pools.getD i default).size - (s.pools.getD i default).res
theorem pool_ok {s : PSys} (hg : s.good) {i : Nat} (hi : i < s.pools.length) : ¬ (s.pools.getD i default).bad := hg.pool _ (by rw [List.getD_eq_getElem?_getD, List.getElem?_eq_getElem hi]; exact List.getElem_mem _)
theorem dp_ini {s : PSys} (hc : checkE s = 0) : DpInv s (iniX s) := by
 intro i hi
 have hb := pool_ok (good_of hc) hi
 unfold PPool.bad at hb
 have : sumI (shl s i) (frames (iniX s)) = 0 := by
  unfold iniX
  rw [sum_ini (fun c _ => by simp [shl, ownU]) _ fun c hc => hc]
 rw [this]; omega
theorem sumI_leM {G M : PFr -> Int} : ∀ {L : List PFr}, (∀ f ∈ L, G f <= M f) -> sumI G L <= sumI M L
 | [], _ => Int.le_refl _
 | f :: L, h => by
  rw [sumI_cons, sumI_cons]
  have h1 := h f (List.mem_cons_self ..)
  have h2 := sumI_leM (L := L) fun g hg => h g (List.mem_cons_of_mem _ hg)
  omega
theorem own_frU (s : PSys) (i : Nat) (f : PFr) : (ownU i ((clsAt s f).steps.take f.a.toNat)).1 = frU s i f := ownU_bal _ _
theorem dp_take {s : PSys} {x : PSt} (hc : checkE s = 0) (hV : Valid s x) (hD : DpInv s x) {w : Nat} (hw : w < x.length) (ha : ableB s x w = true) : DpInv s (takeX s x w) := by
 intro i hi
 have hV2 := val_take hV hw ha
 obtain ⟨c, _, hfm⟩ := val_formed hV hw
 have htop : stepAtF s (topF (x.getD w [])) = topS s x w := rfl
 by_cases hy : (topS s x w).on = i /\ (topS s x w).kind = 1 /\ (topS s x w).deep = false
 ·
  obtain ⟨h1, h2, h3⟩ := hy
  have hs := val_sumU hV hw hi
  have hle : sumI (shl s i) (frames (takeX s x w)) <= sumI (frU s i) (frames (takeX s x w)) := sumI_leM fun f hf => by
   have hfo := hV2.frames f hf
   obtain ⟨c1, c2, c3, c4⟩ := frOk_iff.1 hfo
   have hd := deep_ok (hV.good.cls _ (cls_mem hfo)) i f.a.toNat (by omega)
   unfold shl
   rw [own_frU] at *
   omega
  unfold ableB posB at ha
  rw [if_pos h2] at ha
  simp only [h3, Bool.false_and, Bool.false_or, decide_eq_true_eq, h1, Int.toNat_natCast] at ha
  have he : effU i (topS s x w) = (topS s x w).cnt := by unfold effU; rw [if_pos h1, if_pos h2]
  omega
 ·have he : effS i (topS s x w) = 0 := if_neg hy
  have h1 := takeS_leS (G := shl s i) (E := effS i) (fun f h => shl_next hV.good h i) (fun c => by simp [shl, ownU]) (fun y h => by unfold effS; rw [if_neg (by rw [h]; intro h; exact absurd h.2.1 (by decide))]) hfm
  rw [htop, he] at h1
  have h2 := hD i hi
  unfold takeX
  rw [frames_set _ _ _ _ hw]
  omega
end Go.AM
namespace Go.AM
open Go Go.Proofs
def cI (n : Nat) (f : PFr) : Int := if f.c = n then 1 else 0
theorem sum_pt {G M : PFr -> Int} {f0 : PFr} {e : Int} : ∀ {L : List PFr}, f0 ∈ L -> (∀ f ∈ L, G f <= M f) -> G f0 + e <= M f0 -> sumI G L + e <= sumI M L
 | [], h, _, _ => by simp at h
 | f :: L, h, h1, h2 => by
  rw [sumI_cons, sumI_cons]
  have h3 := h1 f (List.mem_cons_self ..)
  have h4 : ∀ g ∈ L, G g <= M g := fun g hg => h1 g (List.mem_cons_of_mem _ hg)
  rcases List.mem_cons.1 h with rfl | h
  ·have := sumI_leM h4; omega
  ·have := sum_pt h h4 h2; omega
theorem sumI_add2 (G H : PFr -> Int) : ∀ L, sumI (fun f => G f + H f) L = sumI G L + sumI H L
 | [] => rfl
 | f :: L => by rw [sumI_cons, sumI_cons, sumI_cons, sumI_add2 G H L]; omega
theorem sumI_mul (G : PFr -> Int) (m : Int) : ∀ L, sumI (fun f => G f * m) L = sumI G L * m
 | [] => by simp [sumI]
 | f :: L => by rw [sumI_cons, sumI_cons, sumI_mul G m L, Int.add_mul]
theorem cls_n {s : PSys} {f : PFr} {n : Nat} (h : f.c = n) : clsAt s f = s.classes.getD n default := by unfold clsAt; rw [h]; rfl
theorem chn_cli {s : PSys} (hg : s.good) {n : Nat} (hn : (s.classes.getD n default).server = false) : ∀ (r : List PFr) (f : PFr), chn s (f :: r) -> sumI (cI n) (f :: r) <= if ((f :: r).getLast?.map (·.c)) = some (n : Int) then 1 else 0
 | [], f, h => by
  rw [sumI_cons]
  show cI n f + 0 <= if some f.c = some (n : Int) then 1 else 0
  unfold cI
  by_cases h1 : f.c = n
  ·rw [if_pos h1, if_pos (by rw [h1])]; omega
  ·rw [if_neg h1, if_neg (fun h => h1 (Option.some.inj h))]; omega
 | g :: r, f, h => by
  have ih := chn_cli hg hn r g h.2.2
  have hs := srv_true (call_srv hg (chn_ok h.2.2 g (by simp)) h.2.1)
  rw [sumI_cons, List.getLast?_cons_cons]
  have h0 : cI n f = 0 := by
   unfold cI
   refine if_neg fun h1 => ?_
   rw [cls_n h1, hn] at hs; cases hs
  rw [h0]; omega
theorem fmd_cnt {s : PSys} (hg : s.good) {n : Nat} (hn : (s.classes.getD n default).server = false) : ∀ (x : List (List PFr)) (ws : List Nat), x.length = ws.length -> fmdAll s x ws = true -> sumI (cI n) (frames x) <= (ws.count n : Nat)
 | [], [], _, _ => by simp [frames, sumI]
 | [], _ :: _, h, _ => by simp at h
 | _ :: _, [], h, _ => by simp at h
 | l :: x, c :: ws, h, hf => by
  unfold fmdAll at hf
  rw [Bool.and_eq_true] at hf
  have ih := fmd_cnt hg hn x ws (by simpa using h) hf.2
  obtain ⟨h0, h1, h2⟩ := formed_iff.1 hf.1
  obtain ⟨r, hr⟩ := rv_top h0
  rw [hr] at h1 h2
  have h3 := chn_cli hg hn r (topF l) h2
  rw [h1, ← hr, sumI_rv] at h3
  simp only [frames, List.flatten_cons, sumI_app, List.count_cons] at *
  by_cases hcn : c = n
  ·subst hcn
   simp only [if_true, beq_self_eq_true] at *
   omega
  ·have e1 : ¬ (some (c : Int) = some (n : Int)) := fun h => hcn (by have := Option.some.inj h; omega)
   have e2 : (c == n) = false := by simpa using hcn
   rw [if_neg e1] at h3
   rw [e2]
   simp only [Bool.false_eq_true, if_false]
   omega
theorem wkC_count : ∀ (L : List PCls) (k n : Nat), (wkC k L).count n <= if k <= n then (L.getD (n - k) default).workers.toNat else 0
 | [], k, n => by simp [wkC]
 | c :: L, k, n => by
  have ih := wkC_count L (k + 1) n
  rw [wkC_cons, List.count_append]
  have h1 : (if c.server = true then [] else List.replicate c.workers.toNat k).count n <= if k = n then c.workers.toNat else 0 := by
   split
   ·simp
   ·rw [List.count_replicate]
    by_cases h : k = n
    ·simp [h]
    ·have : (k == n) = false := by simpa using h
     rw [this]; simp
  by_cases h2 : k = n
  ·subst h2
   rw [if_neg (by omega)] at ih
   rw [if_pos rfl] at h1
   rw [if_pos (Nat.le_refl k), Nat.sub_self]
   show _ <= c.workers.toNat
   omega
  ·rw [if_neg h2] at h1
   by_cases h3 : k <= n
   ·rw [if_pos (by omega)] at ih
    rw [if_pos h3, show n - k = (n - (k + 1)) + 1 by omega]
    show _ <= (L.getD (n - (k + 1)) default).workers.toNat
    omega
   ·rw [if_neg (by omega)] at ih
    rw [if_neg h3]; omega
theorem cnt_le {s : PSys} {x : PSt} (hV : Valid s x) {n : Nat} (hn : n < s.classes.length) (hw0 : 0 <= (s.classes.getD n default).workers) : sumI (cI n) (frames x) <= (s.classes.getD n default).workers := by
 cases hs : (s.classes.getD n default).server with
 | true =>
  have h1 := (over_iff.1 hV.nover).2.1 n hn hs
  have h2 : sumI (cI n) (frames x) <= sumI (frE s n) (frames x) := sumI_leM fun f _ => by
   unfold cI frE
   by_cases h : f.c = n
   ·rw [if_pos h, if_pos ⟨h, by rw [cls_n h]; exact hs⟩]; exact Int.le_refl _
   ·rw [if_neg h, if_neg (fun h' => h h'.1)]; exact Int.le_refl _
  omega
 | false =>
  have h1 := fmd_cnt hV.good hs x (wkL s) hV.len hV.fmd
  have h2 := wkC_count s.classes 0 n
  rw [if_pos (Nat.zero_le n), Nat.sub_zero] at h2
  unfold wkL at h1
  omega
theorem grp {s : PSys} {x : PSt} (hV : Valid s x) (hw0 : ∀ c ∈ s.classes, 0 <= c.workers) (pool : Int) (d : Bool) (h0 : ∀ c ∈ s.classes, 0 <= mxN pool d c.steps c.steps.length) : ∀ n, n <= s.classes.length ->
  sumI (fun f => if f.c < (n : Nat) then mxN pool d (clsAt s f).steps (clsAt s f).steps.length else 0) (frames x) <= demL pool d (s.classes.take n)
 | 0, _ => by
  have h1 : sumI (fun f => if f.c < ((0 : Nat) : Int) then mxN pool d (clsAt s f).steps (clsAt s f).steps.length else 0) (frames x) <= sumI (fun _ => (0 : Int) * 0) (frames x) := sumI_leM fun f hf => by
   obtain ⟨c1, _⟩ := frOk_iff.1 (hV.frames f hf)
   rw [if_neg (by omega)]; exact Int.le_refl _
  rw [sumI_mul] at h1
  simpa [demL] using h1
 | n + 1, h => by
  have ih := grp hV hw0 pool d h0 n (by omega)
  have hlt : n < s.classes.length := by omega
  have hm : s.classes.getD n default ∈ s.classes := by rw [List.getD_eq_getElem?_getD, List.getElem?_eq_getElem hlt]; exact List.getElem_mem _
  have htk : s.classes.take (n + 1) = s.classes.take n ++ [s.classes.getD n default] := by
   rw [List.take_succ_eq_append_getElem hlt, List.getD_eq_getElem?_getD, List.getElem?_eq_getElem hlt]; rfl
  rw [htk, demL_snoc]
  have hc := cnt_le hV hlt (hw0 _ hm)
  have hM := h0 _ hm
  generalize hMd : mxN pool d (s.classes.getD n default).steps (s.classes.getD n default).steps.length = M at *
  have h1 : sumI (fun f => if f.c < ((n + 1 : Nat) : Int) then mxN pool d (clsAt s f).steps (clsAt s f).steps.length else 0) (frames x) <= sumI (fun f => (if f.c < (n : Nat) then mxN pool d (clsAt s f).steps (clsAt s f).steps.length else 0) + cI n f * M) (frames x) := sumI_leM fun f _ => by
   unfold cI
   by_cases h2 : f.c < (n : Int)
   ·rw [if_pos (by omega), if_pos h2, if_neg (by omega)]; omega
   ·by_cases h3 : f.c = n
    ·rw [if_pos (by omega), if_neg h2, if_pos h3, cls_n h3, hMd]; omega
    ·rw [if_neg (by omega), if_neg h2, if_neg h3]; omega
  rw [sumI_add2, sumI_mul] at h1
  have h4 := Int.mul_le_mul_of_nonneg_right hc hM
  omega
theorem mxN_mono (pool : Int) (d : Bool) (l : List PStep) : ∀ {k n : Nat}, k <= n -> mxN pool d l k <= mxN pool d l n
 | k, 0, h => by
  obtain rfl : k = 0 := by omega
  exact Int.le_refl _
 | k, n + 1, h => by
  rcases Nat.lt_or_ge k (n + 1) with h1 | h1
  ·have := mxN_mono pool d l (k := k) (n := n) (by omega)
   simp only [mxN]
   omega
  ·obtain rfl : k = n + 1 := by omega
   exact Int.le_refl _
end Go.AM
namespace Go.AM
open Go Go.Proofs
theorem step_in {s : PSys} {f : PFr} (h : frOk s f = true) : stepAtF s f ∈ (clsAt s f).steps := by
 obtain ⟨c1, c2, c3, c4⟩ := frOk_iff.1 h
 unfold stepAtF
 rw [List.getD_eq_getElem?_getD, List.getElem?_eq_getElem (by omega)]; exact List.getElem_mem _
theorem take_dem {s : PSys} {x : PSt} (hV : Valid s x) {w : Nat} (hw : w < x.length) {i : Nat} (hk : (topS s x w).kind = 1) (hon : (topS s x w).on = i) (d : Bool) (hd : d = true -> (topS s x w).deep = true) :
  sumI (fun f => selU d (ownU i ((clsAt s f).steps.take f.a.toNat))) (frames x) + (topS s x w).cnt <= demL i d s.classes := by
 have hg := hV.good
 have hM : ∀ c ∈ s.classes, 0 <= mxN i d c.steps c.steps.length := fun c hc => (mx_le hg (hg.cls c hc) i d).1
 have hgrp := grp hV (fun c hc => (hg.cls c hc).w0) i d hM s.classes.length (Nat.le_refl _)
 rw [List.take_length] at hgrp
 have h1 : sumI (fun f => mxN i d (clsAt s f).steps (clsAt s f).steps.length) (frames x) <= sumI (fun f => if f.c < (s.classes.length : Nat) then mxN i d (clsAt s f).steps (clsAt s f).steps.length else 0) (frames x) := sumI_leM fun f hf => by
  obtain ⟨c1, c2, c3, c4⟩ := frOk_iff.1 (hV.frames f hf)
  rw [if_pos c2]; exact Int.le_refl _
 have htop := hV.top hw
 have htm : topF (x.getD w []) ∈ frames x := List.mem_flatten.2 ⟨x.getD w [], by rw [List.getD_eq_getElem?_getD, List.getElem?_eq_getElem hw]; exact List.getElem_mem _, topF_mem (hV.stk hw).1⟩
 have h2 : sumI (fun f => selU d (ownU i ((clsAt s f).steps.take f.a.toNat))) (frames x) + (topS s x w).cnt <= sumI (fun f => mxN i d (clsAt s f).steps (clsAt s f).steps.length) (frames x) := by
  refine sum_pt htm (fun f hf => ?_) ?_
  ·obtain ⟨c1, c2, c3, c4⟩ := frOk_iff.1 (hV.frames f hf)
   exact Int.le_trans (ownU_le_mxN i d (clsAt s f).steps f.a.toNat) (mxN_mono i d _ (by omega))
  ·obtain ⟨c1, c2, c3, c4⟩ := frOk_iff.1 htop
   have h3 := Int.le_trans (ownU_le_mxN i d (clsAt s (topF (x.getD w []))).steps ((topF (x.getD w [])).a + 1).toNat) (mxN_mono i d _ (n := (clsAt s (topF (x.getD w []))).steps.length) (by omega))
   rw [take_next htop, ownU_snoc] at h3
   have hy : stepAtF s (topF (x.getD w [])) = topS s x w := rfl
   rw [hy] at h3
   unfold ustep at h3
   rw [if_pos hon, if_pos hk] at h3
   cases d with
   | false => exact h3
   | true =>
    rw [hd rfl] at h3
    simpa [selU] using h3
 omega
theorem sum_pos {G : PFr -> Int} : ∀ {L : List PFr}, 0 < sumI G L -> ∃ f ∈ L, 0 < G f
 | [], h => by simp [sumI] at h
 | f :: L, h => by
  rw [sumI_cons] at h
  by_cases h1 : 0 < G f
  ·exact ⟨f, by simp, h1⟩
  ·obtain ⟨g, h2, h3⟩ := sum_pos (G := G) (L := L) (by omega)
   exact ⟨g, by simp [h2], h3⟩
theorem sum_ne {G : PFr -> Int} : ∀ {L : List PFr}, sumI G L ≠ 0 -> ∃ f ∈ L, G f ≠ 0
 | [], h => by simp [sumI] at h
 | f :: L, h => by
  rw [sumI_cons] at h
  by_cases h1 : G f = 0
  ·obtain ⟨g, h2, h3⟩ := sum_ne (G := G) (L := L) (by omega)
   exact ⟨g, by simp [h2], h3⟩
  ·exact ⟨f, by simp, h1⟩
theorem blk {s : PSys} {L : List Int} {x : PSt} (hC : Cert s L) (hV : Valid s x) (hD : DpInv s x) {w : Nat} (hw : w < x.length) (hb : ableB s x w = false) : waitB s (topS s x w) = true /\ ∃ f ∈ frames x, hldF s f (targetN s (topS s x w)) := by
 have hg := hV.good
 have htop := hV.top hw
 have hp : preE s (topS s x w) = 0 := step_mem hg htop
 have himp : impB s (topS s x w) = false := hC.imp _ (cls_mem htop) _ (step_in htop)
 obtain ⟨_, ⟨o1, o2⟩, hcnt, _⟩ := preE_0 hp
 have hdem := fun i hk hon d hd => take_dem hV hw (i := i) hk hon d hd
 unfold ableB posB at hb
 generalize hy : topS s x w = y at *
 by_cases k1 : y.kind = 1
 ·obtain ⟨i, hon, hi⟩ := pool_at hg hp k1
  rw [if_pos k1, hon] at hb
  simp only [Int.toNat_natCast, Bool.or_eq_false_iff, Bool.and_eq_false_iff, decide_eq_false_iff_not] at hb
  have hc := hcnt (.inl k1)
  rw [hon] at hc
  simp only [Int.toNat_natCast] at hc
  unfold impB at himp
  rw [if_pos k1, hon] at himp
  simp only [Int.toNat_natCast, Bool.and_eq_false_iff, Bool.not_eq_false', decide_eq_false_iff_not] at himp
  have d0 := hdem i k1 hon false (by simp)
  have e0 : sumI (fun f => selU false (ownU i ((clsAt s f).steps.take f.a.toNat))) (frames x) = sumI (frU s i) (frames x) := by
   congr 1; funext f; exact own_frU s i f
  rw [e0] at d0
  have hDi := hD i hi
  have hS : 0 < sumI (frU s i) (frames x) := by
   rcases himp with h | h
   ·rcases hb.1 with h' | h'
    ·rw [h] at h'; cases h'
    ·omega
   ·omega
  refine ⟨?_, ?_⟩
  ·unfold waitB
   rw [if_neg (by omega), if_pos k1, hon]
   simp only [Int.toNat_natCast, Bool.and_eq_true, Bool.not_eq_true', Bool.and_eq_false_iff, decide_eq_true_eq, decide_eq_false_iff_not]
   refine ⟨by
    rcases himp with h | h
    ·rcases hb.1 with h' | h'
     ·rw [h] at h'; cases h'
     ·omega
    ·omega, ?_⟩
   cases hdp : y.deep with
   | false => exact .inl rfl
   | true =>
    refine .inr ?_
    have d1 := hdem i k1 hon true (fun _ => hdp)
    have e1 : sumI (frU s i) (frames x) = sumI (shl s i) (frames x) + sumI (fun f => selU true (ownU i ((clsAt s f).steps.take f.a.toNat))) (frames x) := by
     rw [← sumI_add2]
     congr 1; funext f
     unfold shl selU
     rw [own_frU]; simp
    rcases hb.1 with h' | h'
    ·rw [hdp] at h'; cases h'
    ·omega
  ·obtain ⟨f, hf, hf2⟩ := sum_pos hS
   refine ⟨f, hf, ?_⟩
   have ht : targetN s y = (i : Int) := by unfold targetN; rw [if_neg (by omega), if_neg (by omega), hon]
   rw [ht]; exact hld_unit hi hf2
 ·rw [if_neg k1] at hb
  by_cases k3 : y.kind = 3
  ·rw [if_pos k3] at hb
   have hi : y.on.toNat < s.locks.length := by
    unfold mostE at o2
    rw [k3] at o2
    simp at o2
    omega
   have hne := of_decide_eq_false hb
   obtain ⟨f, hf, hf2⟩ := sum_ne hne
   have hfo := hV.frames f hf
   obtain ⟨c1, c2, c3, c4⟩ := frOk_iff.1 hfo
   have hl := run_lock (hg.cls _ (cls_mem hfo)) (k := f.a.toNat) (by omega) hi
   have hf3 : 0 < frL s y.on.toNat f := by
    unfold frL at hf2 ⊢
    rcases hl with h | h
    ·exact absurd h hf2
    ·rw [h]; decide
   refine ⟨by unfold waitB; rw [if_pos (.inl k3)], f, hf, ?_⟩
   have ht : targetN s y = (s.pools.length : Int) + (y.on.toNat : Nat) := by unfold targetN; rw [if_pos k3]; omega
   rw [ht]; exact hld_lock hi hf3
  ·rw [if_neg k3] at hb
   by_cases k5 : y.kind = 5
   ·rw [if_pos k5] at hb
    have hn := of_decide_eq_false hb
    obtain ⟨ci, hci, hcl⟩ := cls_at hg hp k5
    rw [hci] at hn
    simp only [Int.toNat_natCast] at hn
    unfold impB at himp
    rw [if_neg (by omega), if_pos k5, hci] at himp
    have hw0 := of_decide_eq_false himp
    simp only [Int.toNat_natCast] at hw0
    have hm : s.classes.getD ci default ∈ s.classes := by rw [List.getD_eq_getElem?_getD, List.getElem?_eq_getElem hcl]; exact List.getElem_mem _
    have hw1 := (hg.cls _ hm).w0
    obtain ⟨f, hf, hf2⟩ := sum_pos (G := frE s ci) (L := frames x) (by omega)
    unfold frE at hf2
    split at hf2
    ·rename_i h
     obtain ⟨t1, t2⟩ := call_target (s := s) k5
     refine ⟨t1, f, hf, ?_⟩
     rw [t2, hci, ← h.1]; exact hld_cls h.2
    ·omega
   ·rw [if_neg k5] at hb; cases hb
end Go.AM
namespace Go.AM
open Go Go.Proofs
theorem sta_none {s : PSys} {l : List PFr} {c : Nat} (h : formedB s l c = true) (hc : c ∈ wkL s) (hs : staB l = true) : ∀ f ∈ l, ∀ ρ, ¬ hldF s f ρ := by
 intro f hf ρ hr
 unfold staB at hs
 split at hs
 ·rename_i g
  rw [List.mem_singleton.1 hf] at hr
  have ha : g.a = 0 := of_decide_eq_true hs
  obtain ⟨_, h1, _⟩ := formed_iff.1 h
  have hgc : g.c = c := by simpa using h1
  have hsv : (clsAt s g).server = false := by rw [cls_n hgc]; exact (wkL_mem hc).2
  unfold hldF holdL at hr
  rw [ha] at hr
  simp only [Int.toNat_zero, List.take_zero] at hr
  rcases List.mem_append.1 hr with hr | hr
  ·rcases List.mem_append.1 hr with hr | hr
   ·obtain ⟨j, n, h2, h3, _⟩ := hU_mem.1 hr
    have : n ∈ balU s [] := List.mem_of_getElem? h2
    unfold balU at this
    obtain ⟨i, _, rfl⟩ := List.mem_map.1 this
    simp [bal] at h3
   ·obtain ⟨j, h2, _⟩ := hB_mem.1 hr
    have : true ∈ balB s [] := List.mem_of_getElem? h2
    unfold balB at this
    obtain ⟨i, _, h3⟩ := List.mem_map.1 this
    simp [bal] at h3
  ·unfold hC at hr
   rw [hsv] at hr
   simp at hr
 ·cases hs
theorem wk_of {s : PSys} {x : PSt} (hV : Valid s x) {w : Nat} (hw : w < x.length) : ∃ c, c ∈ wkL s /\ formedB s (x.getD w []) c = true := by
 obtain ⟨c, h1, h2⟩ := val_formed hV hw
 exact ⟨c, List.mem_of_getElem? h1, h2⟩
theorem prog {s : PSys} {L : List Int} {x : PSt} (hC : Cert s L) (hV : Valid s x) (hD : DpInv s x) : ∀ (n : Nat) (w : Nat), (lvl L (targetN s (topS s x w))).toNat <= n -> w < x.length -> ableB s x w = false -> ∃ u, u < x.length /\ ableB s x u = true /\ staB (x.getD u []) = false := by
 intro n
 induction n using Nat.strongRecOn with
 | _ n ih =>
 intro w hn hw hb
 obtain ⟨_, f, hf, hfr⟩ := blk hC hV hD hw hb
 obtain ⟨l, hl, hfl⟩ := List.mem_flatten.1 hf
 obtain ⟨u, hu, rfl⟩ := List.getElem_of_mem hl
 have hgu : x.getD u [] = x[u] := by rw [List.getD_eq_getElem?_getD, List.getElem?_eq_getElem hu]; rfl
 rw [← hgu] at hfl
 cases hbu : ableB s x u with
 | true =>
  obtain ⟨c, hc1, hc2⟩ := wk_of hV hu
  refine ⟨u, hu, hbu, ?_⟩
  cases hst : staB (x.getD u []) with
  | false => rfl
  | true => exact absurd hfr (sta_none hc2 hc1 hst f hfl _)
 | false =>
  obtain ⟨hwu, _⟩ := blk hC hV hD hu hbu
  obtain ⟨c, hc1, hc2⟩ := wk_of hV hu
  obtain ⟨h0, _, hch⟩ := formed_iff.1 hc2
  obtain ⟨r, hr⟩ := rv_top h0
  have hfm : f ∈ (x.getD u []).reverse := List.mem_reverse.2 hfl
  rw [hr] at hch hfm
  have hlt := chain_lev hC hV.good r (topF (x.getD u [])) hch hwu f hfm _ hfr
  have hlo1 := hC.lo (targetN s (topS s x u))
  have hlt' : lvl L (targetN s (topS s x u)) < lvl L (targetN s (topS s x w)) := hlt
  refine ih (lvl L (targetN s (topS s x u))).toNat (by omega) u (Nat.le_refl _) hu hbu
def remX (s : PSys) (L : List Int) (x : PSt) : Nat := (x.map (remS s L)).sum
theorem rem_set {s : PSys} {L : List Int} {l : List PFr} : ∀ {x : PSt} {u : Nat}, u < x.length -> remS s L l < remS s L (x.getD u []) -> remX s L (x.set u l) < remX s L x
 | [], _, h, _ => by simp at h
 | m :: x, 0, _, h => by
  simp only [remX, List.set_cons_zero, List.map_cons, List.sum_cons]
  have : remS s L l < remS s L m := h
  omega
 | m :: x, u + 1, hu, h => by
  have ih := rem_set (s := s) (L := L) (l := l) (x := x) (u := u) (by simpa using hu) (by simpa using h)
  simp only [remX, List.set_cons_succ, List.map_cons, List.sum_cons] at *
  omega
theorem can_all {s : PSys} {L : List Int} (hC : Cert s L) : ∀ (n : Nat) (x : PSt), remX s L x <= n -> Valid s x -> DpInv s x -> ∀ w, w < x.length -> ∃ y, Rch s x y /\ w ∈ ableL s y := by
 intro n
 induction n using Nat.strongRecOn with
 | _ n ih =>
 intro x hn hV hD w hw
 cases hb : ableB s x w with
 | true => exact ⟨x, .refl, mem_able.2 ⟨hw, hb⟩⟩
 | false =>
  obtain ⟨u, hu, hbu, hst⟩ := prog hC hV hD _ w (Nat.le_refl _) hw hb
  obtain ⟨c, hc1, hc2⟩ := wk_of hV hu
  have hlt : remX s L (takeX s x u) < remX s L x := rem_set hu (take_less hC hV.good hc2 hst)
  obtain ⟨y, h1, h2⟩ := ih (remX s L (takeX s x u)) (by omega) _ (Nat.le_refl _) (val_take hV hu hbu) (dp_take hC.ok hV hD hu hbu) w (by rw [take_len]; exact hw)
  exact ⟨y, Rch.trans (.step .refl hu hbu) h1, h2⟩
theorem dp_rch {s : PSys} {x y : PSt} (hc : checkE s = 0) (hV : Valid s x) (hD : DpInv s x) (h : Rch s x y) : DpInv s y := by
 induction h with
 | refl => exact hD
 | step h1 hw ha ih => exact dp_take hc (h1.val hV) ih hw ha
theorem dead_cert {s : PSys} {L : List Int} {B : Nat -> Nat -> Bool} (hC : Cert s L) (hB : TabOk s (iniX s) B) : (deadV s B).2.2 = 6 ∨ (deadV s B).2.2 = 9 := by
 have hc := hC.ok
 have hV := iniX_valid hc
 cases hr : reachG s (iniX s) with
 | none =>
  refine .inr ?_
  unfold deadV
  rw [if_neg (by omega), hr]
 | some r =>
  obtain ⟨g, ab, nx⟩ := r
  by_cases hb : (bestF g.st.length B (iniX s).length).1 = g.st.length
  ·refine .inl ?_
   unfold deadV
   rw [if_neg (by omega), hr]
   simp only
   rw [if_pos hb]
  ·exfalso
   rcases dead_spec hB with ⟨h1, _⟩ | ⟨_, g', b, u, W, S, hdv, hI, hfrom, hb', hP, _, hat⟩
   ·refine h1 ?_
    unfold deadV
    rw [if_neg (by omega), hr]
    simp only
    rw [if_neg hb]
   ·have hmem := getD_memS hb'
    obtain ⟨r', hr'⟩ := hfrom _ hmem
    have hVb := hI.ok.val _ hmem
    obtain ⟨_, p, q2, q3⟩ := stuck_spec hc hVb hr'
    rw [hat] at q2
    have hq : u :: S = (List.range (g'.st.getD b []).length).filter p := q2
    have hu : u ∈ (List.range (g'.st.getD b []).length).filter p := by rw [← hq]; simp
    obtain ⟨hu1, hu2⟩ := List.mem_filter.1 hu
    refine (q3 u).1 hu2 ?_
    exact can_all hC _ _ (Nat.le_refl _) hVb (dp_rch hc hV (dp_ini hc) (hI.rch _ hmem)) u (List.mem_range.1 hu1)
end Go.AM
namespace Go.AM
open Go Go.Proofs
theorem make_cert {s : PSys} (h : (makeO s).2 = 0) : ∃ L, Cert s L := by
 by_cases hc : checkE s = 0
 ·cases hi : impO s with
  | some x => rw [makeO_imp hc (by rw [hi]; rfl)] at h; simp at h
  | none =>
   cases hl : levV (nRes s) (sysE s) with
   | none => rw [makeO_dead hc hi hl] at h; simp at h
   | some L => exact ⟨castL L, cert_of (ver_make hc hi hl)⟩
 ·rw [makeO_err hc] at h; exact absurd h hc
theorem some_able {s : PSys} {L : List Int} {x : PSt} (hC : Cert s L) (hV : Valid s x) (hD : DpInv s x) (h : 0 < x.length) : ableL s x ≠ [] := by
 cases hb : ableB s x 0 with
 | true => exact List.ne_nil_of_mem (mem_able.2 ⟨h, hb⟩)
 | false =>
  obtain ⟨u, hu, hbu, _⟩ := prog hC hV hD _ 0 (Nat.le_refl _) h hb
  exact List.ne_nil_of_mem (mem_able.2 ⟨hu, hbu⟩)
end Go.AM
namespace Go.AM
open Go Go.Proofs
def bitN (n k : Nat) : Bool := decide (n / 2 ^ k % 2 = 1)
def ordS (n : Nat) : List PStep := ((List.range 4).filter (bitN n)).map (fun k : Nat => (⟨3, k, 0, false⟩ : PStep)) ++ (((List.range 4).map fun k => if 128 <= n then 3 - k else k).filter (bitN n)).map (fun k : Nat => (⟨4, k, 0, false⟩ : PStep))
def ordC (n i : Nat) : PCls := ⟨119 :: runeS (48 + i), ((1 + n / 16 % 2 : Nat) : Int), false, ordS n⟩
abbrev ordK : List Str := [[97], [98], [99], [100]]
def ordCs : Nat -> List Nat -> List PCls
 | _, [] => []
 | i, n :: r => if n % 16 = 0 then ordCs (i + 1) r else ordC n i :: ordCs (i + 1) r
def ordP (l : List Nat) : PSys := ⟨[], ordK, ordCs 0 (l.take 3)⟩
def runOk (cls : List PCls) (n : Nat) : Bool := decide (n % 16 = 0) || decide (verd (runE ⟨[], ordK, cls⟩ (ordS n) (hold0 ⟨[], ordK, cls⟩)) = 0)
theorem run_all (cls : List PCls) : (List.range 256).all (runOk cls) = true := by kernel_rfl
def lenOk (n : Nat) : Bool := decide (n % 16 = 0) || (decide (1 <= (ordS n).length) && decide ((ordS n).length <= 12))
theorem len_all : (List.range 256).all lenOk = true := by kernel_rfl
def impOk (cls : List PCls) (n : Nat) : Bool := (ordS n).all fun x => !impB ⟨[], ordK, cls⟩ x
theorem imp_all (cls : List PCls) : (List.range 256).all (impOk cls) = true := by kernel_rfl
def edgOk (cls : List PCls) (X : List Int) (i n : Nat) : Bool := (List.range (ordS n).length).all fun k => !waitB ⟨[], ordK, cls⟩ ((ordS n).getD k default) ||
 (holdL ⟨[], ordK, cls⟩ (ordC n i) i ((ordS n).take k)).all fun f => decide (((8 :: 7 :: 6 :: 5 :: X : List Int)).getD (targetN ⟨[], ordK, cls⟩ ((ordS n).getD k default)).toNat 0 < ((8 :: 7 :: 6 :: 5 :: X : List Int)).getD f.toNat 0)
theorem edg_all (cls : List PCls) (X : List Int) (i : Nat) : (List.range 256).all (edgOk cls X i) = true := by kernel_rfl
theorem nm_all : ((List.range 2).all fun a => (List.range 2).all fun b => (List.range 2).all fun c => decide (namesE [] (ordK ++ ((if a = 0 then [] else [119 :: runeS (48 + (0 : Nat))]) ++ (if b = 0 then [] else [119 :: runeS (48 + (1 : Nat))]) ++ (if c = 0 then [] else [119 :: runeS (48 + (2 : Nat))]))) = 0)) = true := by kernel_rfl
end Go.AM
namespace Go.AM
open Go Go.Proofs
theorem ord_mem {c : PCls} : ∀ {i : Nat} {l : List Nat}, c ∈ ordCs i l -> ∃ n ∈ l, ∃ j, c = ordC n j /\ n % 16 ≠ 0
 | _, [], h => by simp [ordCs] at h
 | i, n :: r, h => by
  unfold ordCs at h
  split at h
  ·obtain ⟨m, h1, h2⟩ := ord_mem h
   exact ⟨m, List.mem_cons_of_mem _ h1, h2⟩
  ·rename_i hn
   rcases List.mem_cons.1 h with rfl | h
   ·exact ⟨n, List.mem_cons_self .., i, rfl, hn⟩
   ·obtain ⟨m, h1, h2⟩ := ord_mem h
    exact ⟨m, List.mem_cons_of_mem _ h1, h2⟩
theorem ord_len : ∀ (i : Nat) (l : List Nat), (ordCs i l).length <= l.length
 | _, [] => by simp [ordCs]
 | i, n :: r => by
  have := ord_len (i + 1) r
  unfold ordCs
  split
  ·simp only [List.length_cons]; omega
  ·simp only [List.length_cons]; omega
theorem ord_names (l : List Nat) : ∃ a b c : Nat, a < 2 /\ b < 2 /\ c < 2 /\ (ordCs 0 (l.take 3)).map (·.name) = (if a = 0 then [] else [119 :: runeS (48 + (0 : Nat))]) ++ (if b = 0 then [] else [119 :: runeS (48 + (1 : Nat))]) ++ (if c = 0 then [] else [119 :: runeS (48 + (2 : Nat))]) := by
 rcases l with _ | ⟨x, _ | ⟨y, _ | ⟨z, r⟩⟩⟩
 ·exact ⟨0, 0, 0, by decide, by decide, by decide, rfl⟩
 ·by_cases hx : x % 16 = 0
  ·exact ⟨0, 0, 0, by decide, by decide, by decide, by simp [ordCs, hx]⟩
  ·exact ⟨1, 0, 0, by decide, by decide, by decide, by simp [ordCs, hx, ordC]⟩
 ·by_cases hx : x % 16 = 0 <;> by_cases hy : y % 16 = 0
  ·exact ⟨0, 0, 0, by decide, by decide, by decide, by simp [ordCs, hx, hy]⟩
  ·exact ⟨0, 1, 0, by decide, by decide, by decide, by simp [ordCs, hx, hy, ordC]⟩
  ·exact ⟨1, 0, 0, by decide, by decide, by decide, by simp [ordCs, hx, hy, ordC]⟩
  ·exact ⟨1, 1, 0, by decide, by decide, by decide, by simp [ordCs, hx, hy, ordC]⟩
 ·by_cases hx : x % 16 = 0 <;> by_cases hy : y % 16 = 0 <;> by_cases hz : z % 16 = 0
  ·exact ⟨0, 0, 0, by decide, by decide, by decide, by simp [ordCs, hx, hy, hz]⟩
  ·exact ⟨0, 0, 1, by decide, by decide, by decide, by simp [ordCs, hx, hy, hz, ordC]⟩
  ·exact ⟨0, 1, 0, by decide, by decide, by decide, by simp [ordCs, hx, hy, hz, ordC]⟩
  ·exact ⟨0, 1, 1, by decide, by decide, by decide, by simp [ordCs, hx, hy, hz, ordC]⟩
  ·exact ⟨1, 0, 0, by decide, by decide, by decide, by simp [ordCs, hx, hy, hz, ordC]⟩
  ·exact ⟨1, 0, 1, by decide, by decide, by decide, by simp [ordCs, hx, hy, hz, ordC]⟩
  ·exact ⟨1, 1, 0, by decide, by decide, by decide, by simp [ordCs, hx, hy, hz, ordC]⟩
  ·exact ⟨1, 1, 1, by decide, by decide, by decide, by simp [ordCs, hx, hy, hz, ordC]⟩
theorem clss_0 {s : PSys} : ∀ {l : List PCls}, (∀ c ∈ l, classE s c = 0) -> clssE s l = 0
 | [], _ => rfl
 | c :: r, h => by
  unfold clssE
  rw [if_neg (by rw [h c (by simp)]; decide)]
  exact clss_0 fun d hd => h d (by simp [hd])
theorem byte_all {p : Nat -> Bool} (h : (List.range 256).all p = true) {n : Nat} (hn : n < 256) : p n = true := List.all_eq_true.1 h n (List.mem_range.2 hn)
theorem ord_check (l : List Nat) (hl : ∀ n ∈ l, n < 256) : checkE (ordP l) = 0 := by
 have hln := ord_len 0 (l.take 3)
 have h3 : (l.take 3).length <= 3 := by rw [List.length_take]; omega
 obtain ⟨a, b, c, ha, hb, hc, hnm⟩ := ord_names l
 have hnames : namesE [] (namesL (ordP l)) = 0 := by
  have h1 := List.all_eq_true.1 (List.all_eq_true.1 (List.all_eq_true.1 nm_all a (List.mem_range.2 ha)) b (List.mem_range.2 hb)) c (List.mem_range.2 hc)
  have h2 : namesL (ordP l) = ordK ++ ((if a = 0 then [] else [119 :: runeS (48 + (0 : Nat))]) ++ (if b = 0 then [] else [119 :: runeS (48 + (1 : Nat))]) ++ (if c = 0 then [] else [119 :: runeS (48 + (2 : Nat))])) := by
   rw [← hnm]; rfl
  rw [h2]
  exact of_decide_eq_true h1
 unfold checkE
 rw [if_neg (by
  show ¬ (6 < (([] : List PPool).length : Int) ∨ 4 < (ordK.length : Int) ∨ 6 < ((ordCs 0 (l.take 3)).length : Int))
  simp only [List.length_nil, List.length_cons]
  omega), hnames, thenE_0]
 show thenE 0 (clssE (ordP l) (ordCs 0 (l.take 3))) = 0
 rw [thenE_0]
 refine clss_0 fun d hd => ?_
 obtain ⟨n, hn, j, rfl, hne⟩ := ord_mem hd
 have hnb := hl n (List.mem_of_mem_take hn)
 have h1 := byte_all (run_all (ordCs 0 (l.take 3))) hnb
 have h2 := byte_all len_all hnb
 unfold runOk at h1
 unfold lenOk at h2
 rw [decide_eq_false hne, Bool.false_or] at h1 h2
 rw [Bool.and_eq_true, decide_eq_true_eq, decide_eq_true_eq] at h2
 unfold classE
 rw [if_neg (by show ¬ (((1 + n / 16 % 2 : Nat) : Int) < 0 ∨ 4 < ((1 + n / 16 % 2 : Nat) : Int)); omega), if_neg (by show ¬ (((ordS n).length : Int) < 1 ∨ 12 < ((ordS n).length : Int)); omega)]
 exact of_decide_eq_true h1
theorem ord_ver (l : List Nat) (hl : ∀ n ∈ l, n < 256) : verN (ordP l) (8 :: 7 :: 6 :: 5 :: List.replicate (ordCs 0 (l.take 3)).length 0) = 0 := by
 have hc := ord_check l hl
 refine ver_of hc ?_ ?_ ?_ ?_
 ·unfold impO
  rw [if_neg (by omega)]
  refine fstC_none.2 fun d hd x hx => ?_
  obtain ⟨n, hn, j, rfl, hne⟩ := ord_mem hd
  have h1 := byte_all (imp_all (ordCs 0 (l.take 3))) (hl n (List.mem_of_mem_take hn))
  have h2 : (!impB (ordP l) x) = true := List.all_eq_true.1 h1 x hx
  simpa using h2
 ·show _ = 0 + 4 + (ordCs 0 (l.take 3)).length
  simp only [List.length_cons, List.length_replicate]
  omega
 ·intro x hx
  simp only [List.mem_cons, List.mem_replicate] at hx
  omega
 ·intro e he
  rcases edC_mem (ordP l) he with h | ⟨j, c, k, x, h1, h2, h3, h4, h5, h6, h7⟩
  ·simp at h
  obtain ⟨n, hn, j', rfl, hne⟩ := ord_mem (List.mem_of_getElem? h1)
  have hk : k < (ordS n).length := (List.getElem?_eq_some_iff.1 h2).1
  have hx : (ordS n).getD k default = x := by rw [List.getD_eq_getElem?_getD, show (ordS n)[k]? = some x from h2]; rfl
  have g1 := byte_all (edg_all (ordCs 0 (l.take 3)) (List.replicate (ordCs 0 (l.take 3)).length 0) j') (hl n (List.mem_of_mem_take hn))
  have g2 := List.all_eq_true.1 g1 k (List.mem_range.2 hk)
  rw [hx, show waitB ⟨[], ordK, ordCs 0 (l.take 3)⟩ x = true from h3, Bool.not_true, Bool.false_or] at g2
  have g3 := List.all_eq_true.1 g2 e.src h7
  have g4 := of_decide_eq_true g3
  unfold PEdge.s PEdge.t
  rw [h6]
  exact g4
end Go.AM
namespace Go.AM
open Go Go.Proofs
def bitG (n k : Nat) : Bool := decide (0 <= shrV .u8 n k /\ shrV .u8 n k <= 255) && decide (bitsV .and .u8 (shrV .u8 n k) 1 = if bitN n k then 1 else 0)
theorem bit_all : ((List.range 256).all fun n => (List.range 4).all fun k => bitG n k) = true := by kernel_rfl
theorem bit_get {n k : Nat} (hn : n < 256) (hk : k < 4) : inR .u8 (shrV .u8 n k) /\ bitsV .and .u8 (shrV .u8 n k) 1 = if bitN n k then 1 else 0 := by
 have h1 := List.all_eq_true.1 (List.all_eq_true.1 bit_all n (List.mem_range.2 hn)) k (List.mem_range.2 hk)
 rw [bitG, Bool.and_eq_true, decide_eq_true_iff, decide_eq_true_iff] at h1
 exact ⟨inR_u8.2 h1.1, h1.2⟩
def ordA (n k : Nat) : List PStep := ((List.range k).filter (bitN n)).map (fun k : Nat => (⟨3, k, 0, false⟩ : PStep))
def ordB (n k : Nat) : List PStep := (((List.range k).map fun k => if 128 <= n then 3 - k else k).filter (bitN n)).map (fun k : Nat => (⟨4, k, 0, false⟩ : PStep))
theorem ordA_succ (n k : Nat) : ordA n (k + 1) = ordA n k ++ if bitN n k then [⟨3, k, 0, false⟩] else [] := by
 unfold ordA; rw [List.range_succ, List.filter_append, List.map_append, List.filter_cons]
 cases bitN n k <;> rfl
theorem ordB_succ (n k : Nat) : ordB n (k + 1) = ordB n k ++ if bitN n (if 128 <= n then 3 - k else k) then [⟨4, ((if 128 <= n then 3 - k else k : Nat) : Int), 0, false⟩] else [] := by
 unfold ordB; rw [List.range_succ, List.map_append, List.filter_append, List.map_append, List.map_singleton, List.filter_cons]
 cases bitN n (if 128 <= n then 3 - k else k) <;> rfl
def ordQ (n k : Nat) : List PStep := ordA n 4 ++ ordB n k
theorem ordQ_succ (n k : Nat) : ordQ n (k + 1) = ordQ n k ++ if bitN n (if 128 <= n then 3 - k else k) then [⟨4, ((if 128 <= n then 3 - k else k : Nat) : Int), 0, false⟩] else [] := by
 rw [ordQ, ordQ, ordB_succ, List.append_assoc]
def bitC (n : Nat) : Bool := decide ((ordS n).length = 0 ↔ n % 16 = 0)
theorem bitC_all : ((List.range 256).all bitC) = true := by kernel_rfl
theorem ordS_nil {n : Nat} (hn : n < 256) : (ordS n).length = 0 ↔ n % 16 = 0 := by
 have := List.all_eq_true.1 bitC_all n (List.mem_range.2 hn)
 rwa [bitC, decide_eq_true_iff] at this
theorem ordCs_app (i : Nat) (l : List Nat) (n : Nat) : ordCs i (l ++ [n]) = ordCs i l ++ if n % 16 = 0 then [] else [ordC n (i + l.length)] := by
 induction l generalizing i with
 | nil => simp only [List.nil_append, List.length_nil, Nat.add_zero, ordCs]
 | cons x r ih =>
  simp only [List.cons_append, ordCs, ih, List.length_cons]
  rw [show i + 1 + r.length = i + (r.length + 1) by omega]
  by_cases hx : x % 16 = 0
  ·rw [if_pos hx, if_pos hx]
  ·rw [if_neg hx, if_neg hx]; rfl
theorem ordCs_take (l : List Nat) {i : Nat} (h : i < l.length) : ordCs 0 (l.take (i + 1)) = ordCs 0 (l.take i) ++ if l.getD i 0 % 16 = 0 then [] else [ordC (l.getD i 0) i] := by
 rw [List.take_succ_eq_append_getElem h, List.getElem_eq_getD 0, ordCs_app, Nat.zero_add, List.length_take_of_le (Nat.le_of_lt h)]
abbrev ou8D (l : List Nat) : List D := l.map fun n : Nat => .int .u8 (n : Int)
def ordR (ds : List D) (v : AV) : Prop := ∃ (ag : Option Nat) (l : List Nat), (∀ n ∈ l, n < 256) /\ l.length < 9223372036854775808 /\ ds = [.sl none (ou8D l)] /\ v = .dat (sysD (ordP l))
theorem sysD_ord (l : List Nat) : sysD (ordP l) = .agg [.sl (some 3) [], .sl none [.str [97], .str [98], .str [99], .str [100]], .sl (some 4) ((ordCs 0 (l.take 3)).map clsD)] := rfl
theorem bOrdered_ok : OkF Try.prog 5 (dataC ordR) := by
 refine okF_data Try.func5 rfl (by decide) ?_
 rintro ds v ⟨ag, l, hl, hlen, rfl, rfl⟩
 rw [sysD_ord]
 refine sem_of_awpK [2] (Γ := tbl []) okG_nil _ _ _ ?_
 simp only [go_sem, Int.reduceEq, Int.reduceLT, Int.reduceLE, Try.ntmps5]
 refine sem_le (le_addnilR 2 0 (some 3) rfl rfl (Nat.zero_le _)) ?_
 refine sem_le (le_addnilR 2 2 (some 4) rfl rfl (Nat.zero_le _)) ?_
 refine sem_of_awp (Γ := tbl []) okG_nil _ _ _ ?_
 simp only [go_sem, Int.reduceEq, Int.reduceLT, Int.reduceLE]
 refine sem_loop (fun i : Nat => ⟨slotsOf 92 [(0, .dat (.sl none (ou8D l))), (2, .ptr 0 0 0), (3, .ptr 2 0 0), (4, .dat (.int .i64 i))], [.box [.nils, .nils, .nils], .row none [.str [97], .str [98], .str [99], .str [100]], .box [.sl 3 0 0, .sl 1 0 4, .sl 4 0 (ordCs 0 (l.take i)).length], .row (some 3) [], .row (some 4) ((ordCs 0 (l.take i)).map clsD)], 0, []⟩)
  (fun i => i <= l.length /\ i <= 3) (fun i => l.length - i) 0 ⟨Nat.zero_le _, Nat.zero_le _⟩ ?_ ?_
 ·exact le_slots' (by simp only [go_sem, Int.natCast_zero])
 rintro i ⟨hi, hi3⟩
 refine sem_of_awpK [6, 12, 21, 22, 23] (Γ := tbl []) okG_nil _ _ _ ?_
 have hcl : (ordCs 0 (l.take i)).length <= 3 := by have := ord_len 0 (l.take i); rw [List.length_take] at this; omega
 have ho8 : (ou8D l).length = l.length := List.length_map _
 by_cases hlt : i < l.length /\ i < 3
 ·obtain ⟨hlt, hlt3⟩ := hlt
  have hk2 : (i : Int) < l.length := by omega
  have hk3 : (i : Int) < 3 := by omega
  have hr4 := runeS_len4 (48 + i)
  have hnth : D.nth (ou8D l) i = .int .u8 (l.getD i 0 : Nat) := by
   show (ou8D l).getD i default = _
   rw [List.getD_eq_getElem?_getD, List.getElem?_map, List.getD_eq_getElem?_getD, List.getElem?_eq_getElem hlt]; rfl
  have hn : l.getD i 0 < 256 := by
   refine hl _ ?_
   rw [List.getD_eq_getElem?_getD, List.getElem?_eq_getElem hlt]
   exact List.getElem_mem hlt
  have hsc := ordCs_take l hlt
  generalize l.getD i 0 = n at hn hnth hsc
  have hq1 : (n : Int).tdiv 16 = (n / 16 : Nat) := by rw [Int.tdiv_eq_ediv_of_nonneg (Int.natCast_nonneg n)]; rfl
  have hq2 : ((n / 16 : Nat) : Int).tmod 2 = (n / 16 % 2 : Nat) := by rw [Int.tmod_eq_emod_of_nonneg (Int.natCast_nonneg _)]; rfl
  have hq3 : n / 16 % 2 < 2 := Nat.mod_lt _ (by decide)
  have hq4 : n / 16 < 16 := by omega
  have hm4 : 5 <= maxLen := by decide
  simp only [go_sem, Int.reduceEq, Int.reduceLT, Int.reduceLE, hk2, hk3, ho8, hnth, hq1, hq2]
  refine ⟨inR_i64.2 (by omega), inR_i32.2 (by omega), by omega, inR_i64.2 (by omega), inR_i64.2 (by omega), inR_i64.2 (by omega), inR_i64.2 (by omega), ?_⟩
  refine sem_le (le_addnilR 5 3 (some 4) rfl rfl (Nat.zero_le _)) ?_
  refine sem_of_awpK [12, 21, 22] (Γ := tbl []) okG_nil _ _ _ ?_
  simp only [go_sem, Int.reduceEq, Int.reduceLT, Int.reduceLE]
  generalize hNM : D.str (119 :: runeS (48 + (i : Int))) = NM
  generalize hWK : D.int .i64 (1 + ((n / 16 % 2 : Nat) : Int)) = WK
  generalize hCC : ordCs 0 (l.take i) = CC at hsc hcl
  have hAl : ∀ k, ((ordA n k).map stepD).length = (ordA n k).length := fun k => List.length_map _
  have hAt : ∀ k, List.take (ordA n k).length ((ordA n k).map stepD) = (ordA n k).map stepD := fun k => List.take_of_length_le (by rw [hAl]; exact Nat.le_refl _)
  have hA4 : ∀ k, (ordA n k).length <= k := fun k => by
   rw [ordA, List.length_map]; exact Nat.le_trans (List.length_filter_le _ _) (by rw [List.length_range]; exact Nat.le_refl _)
  refine sem_loop (fun k : Nat => ⟨slotsOf 92 [(0, .dat (.sl none (ou8D l))), (2, .ptr 0 0 0), (3, .ptr 2 0 0), (4, .dat (.int .i64 i)), (5, .ptr 5 0 0), (35, .dat (.int .i64 k))], [.box [.nils, .nils, .nils], .row none [.str [97], .str [98], .str [99], .str [100]], .box [.sl 3 0 0, .sl 1 0 4, .sl 4 0 CC.length], .row (some 3) [], .row (some 4) (CC.map clsD), .box [.dat NM, .dat WK, .dat (.bool false), .sl 6 0 (ordA n k).length], .row (some 4) ((ordA n k).map stepD)], 0, []⟩)
   (fun k => k <= 4) (fun k => 4 - k) 0 (Nat.zero_le _) ?_ ?_
  ·exact le_slots' (by simp only [go_sem, Int.natCast_zero])
  ·intro k hk
   refine sem_of_awpK [12, 21, 22] (Γ := tbl []) okG_nil _ _ _ ?_
   rcases Nat.lt_or_ge k 4 with hk4 | hk4
   ·have hkk : (k : Int) < 4 := by omega
    obtain ⟨hb1, hb2⟩ := bit_get hn hk4
    have hAs := ordA_succ n k
    have hA4k := hA4 k
    cases hb : bitN n k with
    | false =>
     rw [hb, if_neg (by decide)] at hb2
     rw [hb, if_neg (by decide), List.append_nil] at hAs
     have hkl : ¬ ((0 : Int) = 1) := by decide
     simp only [go_sem, Int.reduceEq, Int.reduceLT, Int.reduceLE, hkk, ho8, hk2, hnth, hb2, decide_false]
     refine ⟨hb1, inR_i64.2 (by omega), k + 1, by omega, by omega, ?_⟩
     rw [hAs]
     exact le_slots' (by simp only [go_sem, Int.natCast_add, Int.cast_ofNat_Int])
    | true =>
     rw [hb, if_pos rfl] at hb2
     rw [hb, if_pos rfl] at hAs
     have hAe : (ordA n k).map stepD ++ [.agg [.int .i64 3, .int .i64 k, .int .i64 0, .bool false]] = (ordA n (k + 1)).map stepD := by rw [hAs, List.map_append]; rfl
     have hAn : (ordA n k).length + 1 = (ordA n (k + 1)).length := by rw [hAs, List.length_append]; rfl
     simp only [go_sem, Int.reduceEq, Int.reduceLT, Int.reduceLE, hkk, ho8, hk2, hnth, hb2, decide_true, hAt, hAe, hAn]
     refine ⟨hb1, by omega, by omega, inR_i64.2 (by omega), k + 1, by omega, by omega, ?_⟩
     refine le_end (own := [_, _, _, _, _, _, _]) (ex := [_]) (Nat.zero_le _) ?_ ?_ ?_
     ·simp only [go_sem, Int.natCast_add, Int.cast_ofNat_Int]
     ·simp only [go_sem]
     ·simp only [go_sem, Obj.under, AV.unders, AV.under]
   obtain rfl : k = 4 := by omega
   have hkk : ¬ ((4 : Nat) : Int) < 4 := by decide
   simp only [go_sem, Int.reduceEq, Int.reduceLT, Int.reduceLE, hkk]
   refine sem_of_awpK [21, 22] (Γ := tbl []) okG_nil _ _ _ ?_
   simp only [go_sem, Int.reduceEq, Int.reduceLT, Int.reduceLE]
   have hBl : ∀ k, ((ordQ n k).map stepD).length = (ordQ n k).length := fun k => List.length_map _
   have hBt : ∀ k, List.take (ordQ n k).length ((ordQ n k).map stepD) = (ordQ n k).map stepD := fun k => List.take_of_length_le (by rw [hBl]; exact Nat.le_refl _)
   have hB4 : ∀ k, (ordQ n k).length <= 4 + k := fun k => by
    have := hA4 4
    have : (ordB n k).length <= k := by
     rw [ordB, List.length_map]; exact Nat.le_trans (List.length_filter_le _ _) (by rw [List.length_map, List.length_range]; exact Nat.le_refl _)
    rw [ordQ, List.length_append]; omega
   have hB0 : ordQ n 0 = ordA n 4 := List.append_nil _
   refine sem_loop (fun k : Nat => ⟨slotsOf 92 [(0, .dat (.sl none (ou8D l))), (2, .ptr 0 0 0), (3, .ptr 2 0 0), (4, .dat (.int .i64 i)), (5, .ptr 5 0 0), (54, .dat (.int .i64 k))], [.box [.nils, .nils, .nils], .row none [.str [97], .str [98], .str [99], .str [100]], .box [.sl 3 0 0, .sl 1 0 4, .sl 4 0 CC.length], .row (some 3) [], .row (some 4) (CC.map clsD), .box [.dat NM, .dat WK, .dat (.bool false), .sl 6 0 (ordQ n k).length], .row (some 4) ((ordQ n k).map stepD)], 0, []⟩)
    (fun k => k <= 4) (fun k => 4 - k) 0 (Nat.zero_le _) ?_ ?_
   ·rw [hB0]
    exact le_slots' (by simp only [go_sem, Int.natCast_zero])
   intro k hk
   refine sem_of_awpK [21, 22] (Γ := tbl []) okG_nil _ _ _ ?_
   rcases Nat.lt_or_ge k 4 with hk4 | hk4
   ·have hkk : (k : Int) < 4 := by omega
    have hBs := ordQ_succ n k
    have hB4k := hB4 k
    by_cases hn8 : 128 <= n
    case' pos =>
     have hj : ((if 128 <= n then 3 - k else k : Nat) : Int) = 3 - k := by rw [if_pos hn8]; omega
    case' neg =>
     have hj : ((if 128 <= n then 3 - k else k : Nat) : Int) = k := by rw [if_neg hn8]
    all_goals have hn8i : (128 <= (n : Int)) = (128 <= n) := propext (by omega)
    all_goals have hj4 : (if 128 <= n then 3 - k else k) < 4 := by split <;> omega
    all_goals generalize (if 128 <= n then 3 - k else k) = j at hj hj4 hBs
    all_goals obtain ⟨hb1, hb2⟩ := bit_get hn hj4
    all_goals rw [hj] at hb1 hb2
    all_goals rw [hj] at hBs
    all_goals cases hb : bitN n j
    all_goals rw [hb] at hb2 hBs
    all_goals first | rw [if_neg (by decide)] at hb2 | rw [if_pos rfl] at hb2
    all_goals first | rw [if_neg (by decide), List.append_nil] at hBs | rw [if_pos rfl] at hBs
    all_goals simp only [go_sem, Int.reduceEq, Int.reduceLT, Int.reduceLE, hkk, ho8, hk2, hnth, hb2, hn8, hn8i, decide_true, decide_false, hBt]
    case pos.false =>
     refine ⟨inR_i64.2 (by omega), by omega, hb1, inR_i64.2 (by omega), k + 1, by omega, by omega, ?_⟩
     rw [hBs]
     exact le_slots' (by simp only [go_sem, Int.natCast_add, Int.cast_ofNat_Int])
    case neg.false =>
     refine ⟨hb1, inR_i64.2 (by omega), k + 1, by omega, by omega, ?_⟩
     rw [hBs]
     exact le_slots' (by simp only [go_sem, Int.natCast_add, Int.cast_ofNat_Int])
    all_goals have hBn : (ordQ n k).length + 1 = (ordQ n (k + 1)).length := by rw [hBs, List.length_append]; rfl
    case' pos.true =>
     have hBe : (ordQ n k).map stepD ++ [.agg [.int .i64 4, .int .i64 (3 - k), .int .i64 0, .bool false]] = (ordQ n (k + 1)).map stepD := by rw [hBs, List.map_append]; rfl
    case' neg.true =>
     have hBe : (ordQ n k).map stepD ++ [.agg [.int .i64 4, .int .i64 k, .int .i64 0, .bool false]] = (ordQ n (k + 1)).map stepD := by rw [hBs, List.map_append]; rfl
    all_goals simp only [hBe, hBn]
    case pos.true =>
     refine ⟨inR_i64.2 (by omega), by omega, hb1, by omega, by omega, inR_i64.2 (by omega), k + 1, by omega, by omega, ?_⟩
     refine le_end (own := [_, _, _, _, _, _, _]) (ex := [_]) (Nat.zero_le _) ?_ ?_ ?_
     ·simp only [go_sem, Int.natCast_add, Int.cast_ofNat_Int]
     ·simp only [go_sem]
     ·simp only [go_sem, Obj.under, AV.unders, AV.under]
    case neg.true =>
     refine ⟨hb1, by omega, by omega, inR_i64.2 (by omega), k + 1, by omega, by omega, ?_⟩
     refine le_end (own := [_, _, _, _, _, _, _]) (ex := [_]) (Nat.zero_le _) ?_ ?_ ?_
     ·simp only [go_sem, Int.natCast_add, Int.cast_ofNat_Int]
     ·simp only [go_sem]
     ·simp only [go_sem, Obj.under, AV.unders, AV.under]
   obtain rfl : k = 4 := by omega
   have hkk : ¬ ((4 : Nat) : Int) < 4 := by decide
   simp only [go_sem, Int.reduceEq, Int.reduceLT, Int.reduceLE, hkk]
   have hQ4 : ordQ n 4 = ordS n := rfl
   rw [hQ4]
   refine sem_of_awpK [22] (Γ := tbl []) okG_nil _ _ _ ?_
   by_cases hz : (ordS n).length = 0
   ·have hz16 : n % 16 = 0 := (ordS_nil hn).1 hz
    rw [if_pos hz16, List.append_nil] at hsc
    have hz0 : ¬ (0 : Int) < ((ordS n).length : Nat) := by omega
    simp only [go_sem, Int.reduceEq, Int.reduceLT, Int.reduceLE, hz0]
    refine ⟨inR_i64.2 (by omega), i + 1, ⟨by omega, by omega⟩, by omega, ?_⟩
    rw [hsc]
    refine le_end (own := [_, _, _, _, _]) (ex := [_, _]) (Nat.zero_le _) ?_ ?_ ?_
    ·simp only [go_sem, Int.natCast_add, Int.cast_ofNat_Int]
    ·simp only [go_sem]
    ·simp only [go_sem, Obj.under, AV.unders, AV.under]
   ·have hz16 : ¬ n % 16 = 0 := fun h => hz ((ordS_nil hn).2 h)
    rw [if_neg hz16] at hsc
    have hz0 : (0 : Int) < ((ordS n).length : Nat) := by omega
    simp only [go_sem, Int.reduceEq, Int.reduceLT, Int.reduceLE, hz0]
    refine sem_le (le_freeze 6 (ag := some 4) rfl (Nat.zero_le _)) ?_
    refine sem_of_awpK [] (Γ := tbl []) okG_nil _ _ _ ?_
    have hSl : ((ordS n).map stepD).length = (ordS n).length := List.length_map _
    have hSt : List.take (ordS n).length ((ordS n).map stepD) = (ordS n).map stepD := List.take_of_length_le (by rw [hSl]; exact Nat.le_refl _)
    have hCl : (CC.map clsD).length = CC.length := List.length_map _
    have hCt : List.take CC.length (CC.map clsD) = CC.map clsD := List.take_of_length_le (by rw [hCl]; exact Nat.le_refl _)
    have hCn : CC.length + 1 = (ordCs 0 (l.take (i + 1))).length := by rw [hsc, List.length_append]; rfl
    have hCe : CC.map clsD ++ [.agg [NM, WK, .bool false, .sl (some 4) ((ordS n).map stepD)]] = (ordCs 0 (l.take (i + 1))).map clsD := by
     rw [hsc, List.map_append, ← hNM, ← hWK]
     rfl
    simp only [go_sem, Int.reduceEq, Int.reduceLT, Int.reduceLE, hSl, hSt, hCl, hCt, hCe, hCn, Nat.le_refl]
    refine ⟨by omega, by omega, inR_i64.2 (by omega), i + 1, ⟨by omega, by omega⟩, by omega, ?_⟩
    refine le_end (own := [_, _, _, _, _]) (ex := [_, _, _]) (Nat.zero_le _) ?_ ?_ ?_
    ·simp only [go_sem, Int.natCast_add, Int.cast_ofNat_Int]
    ·simp only [go_sem]
    ·simp only [go_sem, Obj.under, AV.unders, AV.under]
 have h3 : l.take i = l.take 3 := by
  rcases Nat.lt_or_ge i 3 with h | h
  ·have : i = l.length := by omega
   rw [this, List.take_of_length_le (Nat.le_refl _), List.take_of_length_le (by omega)]
  ·rw [show i = 3 by omega]
 rw [h3]
 rw [h3] at hcl
 have hCl : ((ordCs 0 (l.take 3)).map clsD).length = (ordCs 0 (l.take 3)).length := List.length_map _
 have hCt : List.take (ordCs 0 (l.take 3)).length ((ordCs 0 (l.take 3)).map clsD) = (ordCs 0 (l.take 3)).map clsD := List.take_of_length_le (by rw [hCl]; exact Nat.le_refl _)
 generalize ordCs 0 (l.take 3) = CC at *
 by_cases hk2 : (i : Int) < l.length
 all_goals have hk3 : (i : Int) < l.length -> ¬ (i : Int) < 3 := fun _ => by omega
 case' pos => have hk3 := hk3 hk2
 all_goals simp only [go_sem, Int.reduceEq, Int.reduceLT, Int.reduceLE, hk2, hk3, ho8, decide_true, decide_false]
 all_goals refine post_res (.inl rfl) [.cell 2 27] rfl ?_
 all_goals simp only [go_sem]
 all_goals refine Le.trans (le_freeze 1 (ag := none) rfl (Nat.zero_le _)) ?_
 all_goals refine Le.trans (le_freeze 3 (ag := some 3) rfl (Nat.zero_le _)) ?_
 all_goals refine Le.trans (le_freeze 4 (ag := some 4) rfl (Nat.zero_le _)) ?_
 all_goals simp only [go_sem, hCl, hCt, Nat.le_refl, List.length_nil, List.take_nil, List.length_cons, List.take_succ_cons, List.take_zero]
 all_goals exact le_fin (by simp only [go_sem]) (by simp only [go_sem])
end Go.AM

