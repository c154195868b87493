/- Own work over the model of the kit. -/
import Derived.Test.YtaecpbaaadpfgaaD16
import Derived.Test.YtaecpbaaadpfgaaD13
import Derived.Test.YtaecpbaaadpfgaaD14
import Derived.Test.YtaecpbaaadpfgaaD15
set_option linter.unusedSimpArgs false
set_option linter.unusedVariables false
set_option maxHeartbeats 4000000
set_option maxRecDepth 8000
namespace Go.AM
open Go Go.Proofs
def clone1R (ds : List D) (v : AV) (ob : List Obj) : Prop := ∃ l : List PFr, ds = [stackD l] /\ l ≠ [] /\ l.length <= 1000 /\ v = .sl 0 0 l.length /\ ob = [.row (some 2) (frsD l)]
theorem clone1_ok : OkF Try.prog 54 (madeC clone1R) := by
 refine okF_made Try.func54 rfl (by decide) ?_
 rintro ds v ob ⟨l, rfl, hl0, hl, rfl, rfl⟩
 cases l with
 | nil => exact absurd rfl hl0
 | cons f r =>
 have hfl : (frsD (f :: r)).length = r.length + 1 := by simp
 have b1 : r.length + 1 <= 1000 := hl
 refine sem_of_awp (Γ := tbl []) okG_nil _ _ _ ?_
 simp only [go_sem, Try.ntmps54, stackD]
 refine ⟨by omega, by omega, ?_⟩
 refine post_resO (.inl rfl) [.tmp 2] rfl (fun _ h => h) ?_
 simp only [go_sem]
 exact le_slots' (by simp only [go_sem])
def clone0R (ds : List D) (v : AV) (ob : List Obj) : Prop := ∃ x : PSt, ds = [.sl none (stacksD x)] /\ x ≠ [] /\ x.length <= 1000 /\ v = .sl 0 0 x.length /\ ob = [.row none (stacksD x)]
theorem clone0_ok : OkF Try.prog 53 (madeC clone0R) := by
 refine okF_made Try.func53 rfl (by decide) ?_
 rintro ds v ob ⟨x, rfl, hl0, hl, rfl, rfl⟩
 cases x with
 | nil => exact absurd rfl hl0
 | cons f r =>
 have b1 : r.length + 1 <= 1000 := hl
 refine sem_of_awp (Γ := tbl []) okG_nil _ _ _ ?_
 simp only [go_sem, Try.ntmps53]
 refine ⟨by omega, by omega, ?_⟩
 refine post_resO (.inl rfl) [.tmp 2] rfl (fun _ h => h) ?_
 simp only [go_sem]
 exact le_slots' (by simp only [go_sem])
theorem dat_get {xs : List D} {k : Nat} (h : k < xs.length) : (xs.map AV.dat).getD k .top = .dat (D.nth xs k) := by
 simp [D.nth, List.getD_eq_getElem?_getD, h]
theorem dat_set {xs : List D} {k : Nat} (h : k < xs.length) : (xs.map AV.dat).set k (.dat (D.nth xs k)) = xs.map .dat := by
 refine List.ext_getElem? fun j => ?_
 rw [List.getElem?_set]
 split
 ·rename_i e; subst e; simp [D.nth, List.getD_eq_getElem?_getD, h]
 ·rfl
theorem unders_set {n : Nat} {v : AV} : ∀ {l : List AV} {i : Nat}, AV.unders n l -> AV.under n v -> AV.unders n (l.set i v)
 | [], _, h, _ => by simpa using h
 | a :: l, 0, h, hv => by simp only [List.set_cons_zero, AV.unders] at h ⊢; exact ⟨hv, h.2⟩
 | a :: l, i + 1, h, hv => by simp only [List.set_cons_succ, AV.unders] at h ⊢; exact ⟨h.1, unders_set h.2 hv⟩
theorem stacks_set {x : PSt} {w : Nat} {l : List PFr} : ((stacksD x).map AV.dat).set w (.dat (.sl (some 2) (frsD l))) = (stacksD (x.set w l)).map .dat := by
 simp only [stacksD, List.map_set]; rfl
theorem getD_setA {l : List AV} {i j : Nat} {a d : AV} : (l.set i a).getD j d = if i = j /\ i < l.length then a else l.getD j d := getD_set
theorem upR_go {s : PSys} {f : PFr} {r : List PFr} (h : f.a + 1 < (clsAt s f).steps.length) : upR s (f :: r) = ⟨f.c, f.a + 1⟩ :: r := by
 cases r <;> (simp only [upR]; rw [if_pos h])
theorem upR_1 {s : PSys} {f : PFr} (h : ¬ f.a + 1 < (clsAt s f).steps.length) : upR s [f] = [⟨f.c, 0⟩] := by simp only [upR]; rw [if_neg h]
theorem upR_2 {s : PSys} {f g : PFr} {r : List PFr} (h : ¬ f.a + 1 < (clsAt s f).steps.length) : upR s (f :: g :: r) = upR s (g :: r) := by rw [show upR s (f :: g :: r) = if f.a + 1 < (clsAt s f).steps.length then ⟨f.c, f.a + 1⟩ :: g :: r else upR s (g :: r) from rfl, if_neg h]
theorem rv_nth {r j : List PFr} {f : PFr} : D.nth (frsD ((f :: r).reverse ++ j)) r.length = frD f := by
 have : (f :: r).reverse ++ j = r.reverse ++ f :: j := by simp
 rw [this, D.nth, List.getD_eq_getElem?_getD]
 simp [List.getElem?_append_right]
theorem rv_set {r j : List PFr} {f f' : PFr} : (frsD ((f :: r).reverse ++ j)).set r.length (frD f') = frsD ((f' :: r).reverse ++ j) := by
 have h1 : ∀ g : PFr, (g :: r).reverse ++ j = r.reverse ++ g :: j := fun g => by simp
 rw [h1, h1, frsD, frsD, List.map_append, List.map_append, List.set_append_right _ _ (by simp)]
 simp
def takeR (ds : List D) (v : AV) : Prop := ∃ (s : PSys) (x : PSt) (w : Nat), ds = [sysD s, stD x, .int .i64 w] /\ Valid s x /\ PStFit x /\ w < x.length /\ v = .dat (stD (takeX s x w))
abbrev tabXK : List (Nat × Contract) := [(53, madeC clone0R), (54, madeC clone1R), (34, dataC topR)]
theorem tabXK_ok : OkG Try.prog (tbl tabXK) := okG_cons clone0_ok (okG_cons clone1_ok (okG_cons top_ok okG_nil))
theorem pureXK : PureFns (tbl tabXK) [34] := by
 intro g args own v own' mv hg hC
 obtain ⟨C, hm, hC⟩ := hC
 simp only [List.mem_cons, List.not_mem_nil, or_false, Prod.mk.injEq] at hm hg
 subst hg
 rcases hm with ⟨h, _⟩ | ⟨h, _⟩ | ⟨_, rfl⟩
 ·exact absurd h (by decide)
 ·exact absurd h (by decide)
 ·obtain ⟨_, _, _, h1, h2, _⟩ := hC
  exact ⟨h1, h2⟩
theorem take_ok : OkF Try.prog 35 (dataC takeR) := by
 refine okF_data Try.func35 rfl (by decide) ?_
 rintro ds v ⟨s, x, w, rfl, hV, hx, hw, rfl⟩
 have hg := hV.good
 have hx24 := hV.l24
 have hxl2 : (stacksD x).length = x.length := by simp
 have hx0 : x ≠ [] := by rintro rfl; simp at hw
 have hsw := hV.stk hw
 have hlw := getD_fit hx hw
 refine sem_of_awpK [2, 8, 10, 17, 18] (Γ := tbl tabXK) tabXK_ok _ _ _ ?_
 simp only [go_sem, Try.ntmps35, sysD, stD]
 refine call_made clone0R (by simp) [.sl none (stacksD x)] _ _ rfl rfl ⟨x, rfl, hx0, hx.len, rfl, rfl⟩ ?_
 simp only [go_sem]
 simp only [AV.shift, AV.shifts, Obj.shift, Nat.add_zero, Nat.zero_add]
 refine sem_le (le_vec 3 rfl) ?_
 refine sem_of_awp (Γ := tbl tabXK) tabXK_ok _ _ _ ?_
 simp only [go_sem]
 generalize hl : x.getD w [] = l at *
 let own := fun k : Nat => if k <= w then ([sysO s, stO x, .box [.nils], .vec ((stacksD x).map .dat)] : List Obj) else [sysO s, stO x, .box [.nils], .vec (((stacksD x).map .dat).set w (.sl 4 0 l.length)), .row (some 2) (frsD l)]
 refine sem_loop (fun k : Nat => ⟨slotsOf 95 [(2, .dat (.int .i64 w)), (3, .ptr 0 0 0), (4, .ptr 1 0 0), (6, .ptr 2 0 0), (7, .sl 3 0 x.length), (16, .dat (.int .i64 x.length)), (17, .dat (.int .i64 k))], own k, 0, []⟩)
  (fun k => k <= x.length) (fun k => x.length - k) 0 (Nat.zero_le _) ?_ ?_
 ·exact le_slots' (by simp only [go_sem, Int.natCast_zero])
 rintro k hk
 rcases Nat.lt_or_ge k x.length with hlt | hge
 ·have hk2 : (k : Int) < x.length := by omega
  have hk0 : (0 : Int) <= k := Int.natCast_nonneg k
  have hn : D.nth (stacksD x) k = stackD (x.getD k []) := D.nth_map hlt
  have hgk : ((stacksD x).map AV.dat).getD k .top = .dat (stackD (x.getD k [])) := by rw [dat_get (by simpa using hlt), hn]
  have htkk : List.take (x.getD k []).length (frsD (x.getD k [])) = frsD (x.getD k []) := List.take_of_length_le (by simp)
  have hsk2 : ((stacksD x).map AV.dat).set k (.dat (.sl (some 2) (frsD (x.getD k [])))) = (stacksD x).map .dat := by
   have : D.sl (some 2) (frsD (x.getD k [])) = D.nth (stacksD x) k := hn.symm
   rw [this]; exact dat_set (by simpa using hlt)
  have hsk := (hV.stk hlt).1
  have hlk := getD_fit hx hlt
  rcases Nat.lt_trichotomy k w with hkw | rfl | hkw
  ·simp only [own, if_pos (show k <= w by omega)]
   refine sem_of_awp (Γ := tbl tabXK) tabXK_ok _ _ _ ?_
   simp only [go_sem, hk2, hk0, hlt, hxl2, hgk]
   refine call_made clone1R (by simp) [stackD (x.getD k [])] _ _ rfl rfl ⟨x.getD k [], rfl, hsk, hlk, rfl, rfl⟩ ?_
   simp only [go_sem, AV.shift, AV.shifts, Obj.shift, hk2, hk0, hlt, hxl2]
   refine ⟨inR_i64.2 (by omega), k + 1, by omega, by omega, ?_⟩
   simp only [own, if_pos (show k + 1 <= w by omega)]
   refine Le.trans (le_freeze 4 (ag := some 2) rfl (Nat.zero_le _)) ?_
   simp only [go_sem, frzs_set, htkk, hsk2]
   refine le_end (own := [_, _, _, _]) (ex := [_]) (Nat.zero_le _) ?_ ?_ ?_
   ·simp only [go_sem, Int.natCast_add, Int.cast_ofNat_Int]
   ·simp only [go_sem]
   ·simp only [go_sem, Obj.under, AV.unders, AV.under]
  ·simp only [own, if_pos (Nat.le_refl k)]
   refine sem_of_awp (Γ := tbl tabXK) tabXK_ok _ _ _ ?_
   simp only [go_sem, hk2, hk0, hlt, hxl2, hgk]
   refine call_made clone1R (by simp) [stackD (x.getD k [])] _ _ rfl rfl ⟨x.getD k [], rfl, hsk, hlk, rfl, rfl⟩ ?_
   simp only [go_sem, AV.shift, AV.shifts, Obj.shift, hk2, hk0, hlt, hxl2]
   refine ⟨inR_i64.2 (by omega), k + 1, by omega, by omega, ?_⟩
   simp only [own, if_neg (show ¬ k + 1 <= k by omega), hl]
   exact le_slots' (by simp only [go_sem, Int.natCast_add, Int.cast_ofNat_Int])
  ·simp only [own, if_neg (show ¬ k <= w by omega)]
   have hgk2 : (((stacksD x).map AV.dat).set w (.sl 4 0 l.length)).getD k .top = .dat (stackD (x.getD k [])) := by
    rw [getD_setA, if_neg (by omega)]; exact hgk
   refine sem_of_awp (Γ := tbl tabXK) tabXK_ok _ _ _ ?_
   simp only [go_sem, hk2, hk0, hlt, hxl2, hgk2]
   refine call_made clone1R (by simp) [stackD (x.getD k [])] _ _ rfl rfl ⟨x.getD k [], rfl, hsk, hlk, rfl, rfl⟩ ?_
   simp only [go_sem, AV.shift, AV.shifts, Obj.shift, hk2, hk0, hlt, hxl2]
   refine ⟨inR_i64.2 (by omega), k + 1, by omega, by omega, ?_⟩
   simp only [own, if_neg (show ¬ k + 1 <= w by omega)]
   refine Le.trans (le_freeze 5 (ag := some 2) rfl (Nat.zero_le _)) ?_
   have hcm : ∀ v v' : AV, (((stacksD x).map AV.dat).set w v).set k v' = (((stacksD x).map AV.dat).set k v').set w v := fun v v' => List.set_comm _ _ (by omega)
   simp only [go_sem, frzs_set, htkk, hcm, hsk2]
   refine le_end (own := [_, _, _, _, _]) (ex := [_]) (Nat.zero_le _) ?_ ?_ ?_
   ·simp only [go_sem, Int.natCast_add, Int.cast_ofNat_Int]
   ·simp only [go_sem]
   ·simp only [go_sem, Obj.under, AV.unders, AV.under]
    exact unders_set (by rw [unders_dats]; trivial) (by simp only [AV.under]; omega)
 ·obtain rfl : k = x.length := by omega
  have hk2 : ¬ (x.length : Int) < x.length := by omega
  simp only [own, if_neg (show ¬ x.length <= w by omega)]
  refine sem_of_awp (Γ := tbl tabXK) tabXK_ok _ _ _ ?_
  simp only [go_sem, hk2]
  refine sem_drawY [(6, [5]), (7, [5]), (9, [5])] [] (pf := [34]) (mf := []) mixed tabXK_ok pureXK noMk (.one 0 (.one 1 (.one 2 (.one 4 (.one 5 (.one 6 (.one 7 (.alt 3 (.one 8 (.one 9 (.one 10 .fin))) (.alt 8 (.one 3 (.one 9 (.one 10 .fin))) .stop))))))))) (by kernel_rfl) ?_
  have hw1 : (w : Int) < x.length := by omega
  have hw0 : (0 : Int) <= w := Int.natCast_nonneg w
  have hgw : (((stacksD x).map AV.dat).set w (.sl 4 0 l.length)).getD w .top = .sl 4 0 l.length := by rw [getD_setA, if_pos ⟨rfl, by simpa using hw⟩]
  have htop := hV.top hw
  have hl1 : 0 < (x.getD w []).length := by rw [hl]; exact List.length_pos_iff.2 hsw.1
  have hl2 := getD_fit hx hw
  generalize hy : topS s x w = y
  obtain ⟨kind, on, cnt, deep⟩ := y
  generalize hK : andThenK [2, 8, 10, 17, 18] Try.prog (tbl tabXK) _ _ = Q
  have hcl : ∀ σ σ', Le σ σ' -> Q .normal σ' -> Q .normal σ := by
   subst hK
   intro σ σ' h1 h2
   exact sem_le h1 h2
  suffices hQ1 : Q .normal ⟨slotsOf 95 [(2, .dat (.int .i64 w)), (3, .ptr 0 0 0), (4, .ptr 1 0 0), (6, .ptr 2 0 0), (7, .sl 3 0 x.length), (9, .ptr 5 0 0), (10, .sl 4 0 l.length)], [sysO s, stO x, .box [.nils], .vec (((stacksD x).map .dat).set w (.sl 4 0 l.length)), .row (some 2) (frsD l), .box [.dat (.int .i64 kind), .dat (.int .i64 on), .dat (.int .i64 cnt), .dat (.bool deep)]], 0, []⟩ by
   simp only [go_sem, hw1, hw0, hw, hxl2, hgw]
   refine ⟨?_, ?_⟩
   ·refine call_data topR (by simp) [sysD s, stD x, .int .i64 w] _ rfl ⟨s, x, w, rfl, hw, hx.len, hl1, hl2, htop, rfl⟩ (.inl rfl) ?_
    simp only [go_sem, hy, stepD]
    exact hcl _ _ (le_slots' (by simp only [go_sem])) hQ1
   ·refine call_data topR (by simp) [sysD s, stD x, .int .i64 w] _ rfl ⟨s, x, w, rfl, hw, hx.len, hl1, hl2, htop, rfl⟩ (.inl rfl) ?_
    simp only [go_sem, hy, stepD]
    exact hcl _ _ (le_slots' (by simp only [go_sem])) hQ1
  subst hK
  clear hcl
  refine sem_of_awp (Γ := tbl tabXK) tabXK_ok _ _ _ ?_
  by_cases hk : kind = 5
  ·have hkl : AV.kills 4 (((stacksD x).map AV.dat).set w (.sl 4 0 l.length)) = ((stacksD x).map AV.dat).set w .top := by rw [kills_put, kills_dats]; simp only [AV.kill, if_true]
   have hlt : List.take l.length (frsD l) = frsD l := List.take_of_length_le (by simp)
   have hsl : (((stacksD x).map AV.dat).set w AV.top).length = x.length := by simp
   simp only [go_sem, hk, hkl, hlt, hsl, hw1, hw0, hw, List.set_set]
   refine ⟨by omega, by omega, ?_⟩
   have htx : takeX s x w = x.set w (l ++ [⟨on, 0⟩]) := by
    have hyt : stepAtF s (topF l) = ⟨kind, on, cnt, deep⟩ := by rw [← hl]; exact hy
    unfold takeX takeS
    rw [hl, hyt, if_pos hk]
   rw [htx]
   refine sem_le (le_freeze 4 (ag := some 2) rfl (Nat.zero_le _)) ?_
   have hfa : frsD l ++ [D.agg [D.int .i64 on, D.int .i64 0]] = frsD (l ++ [⟨on, 0⟩]) := by simp [frD]
   have htk : ∀ m, (frsD (l ++ [⟨on, 0⟩])).length <= m -> List.take m (frsD (l ++ [⟨on, 0⟩])) = frsD (l ++ [⟨on, 0⟩]) := fun m h => List.take_of_length_le h
   have htk2 : List.take (l.length + 1) (frsD (l ++ [⟨on, 0⟩])) = frsD (l ++ [⟨on, 0⟩]) := htk _ (by simp)
   simp only [go_sem, frzs_set, hfa, htk2, stacks_set, List.drop_zero]
   refine sem_le (le_freezeV 3 (ds := stacksD (x.set w (l ++ [⟨on, 0⟩]))) rfl (norm1_dats _) (Nat.zero_le _)) ?_
   refine sem_of_awp (Γ := tbl tabXK) tabXK_ok _ _ _ ?_
   have hW : List.take x.length (stacksD (x.set w (l ++ [⟨on, 0⟩]))) = stacksD (x.set w (l ++ [⟨on, 0⟩])) := List.take_of_length_le (by simp)
   simp only [go_sem, hW]
   refine post_res (.inl rfl) [.cell 6 43] rfl ?_
   simp only [go_sem, stD, hW]
   exact le_fin (by simp only [go_sem]) (by simp only [go_sem])
  ·simp only [go_sem, hk]
   have hyt : stepAtF s (topF l) = ⟨kind, on, cnt, deep⟩ := by rw [← hl]; exact hy
   have htx : takeX s x w = x.set w (upR s l.reverse).reverse := by
    unfold takeX takeS
    rw [hl, hyt, if_neg hk]
   rw [htx]
   have hsl0 : (((stacksD x).map AV.dat).set w (.sl 4 0 l.length)).length = x.length := by simp
   generalize hR : upR s l.reverse = R
   refine sem_loop (fun p : List PFr × List PFr => ⟨slotsOf 95 [(2, .dat (.int .i64 w)), (3, .ptr 0 0 0), (4, .ptr 1 0 0), (6, .ptr 2 0 0), (7, .sl 3 0 x.length), (10, .sl 4 0 p.1.length)], [sysO s, stO x, .box [.nils], .vec (((stacksD x).map .dat).set w (.sl 4 0 l.length)), .row (some 2) (frsD (p.1.reverse ++ p.2))], 0, []⟩)
    (fun p => p.1 ≠ [] /\ (∀ f ∈ p.1, frOk s f = true) /\ upR s p.1 = R /\ p.1.length + p.2.length = l.length) (fun p => p.1.length) (l.reverse, []) ⟨by simpa using hsw.1, fun f hf => hsw.2 f (by simpa using hf), hR, by simp⟩ ?_ ?_
   ·simp only [List.reverse_reverse, List.append_nil, List.length_reverse]
    refine le_end (own := [_, _, _, _, _]) (ex := [_]) (Nat.zero_le _) ?_ ?_ ?_
    ·simp only [go_sem]
    ·simp only [go_sem]
    ·simp only [go_sem, Obj.under, AV.unders, AV.under]
     exact unders_set (by rw [unders_dats]; trivial) (by simp only [AV.under]; omega)
   rintro ⟨c, j⟩ ⟨hc0, hcf, hcR, hcl⟩
   cases c with
   | nil => exact absurd rfl hc0
   | cons f r =>
   simp only at hcf hcR hcl ⊢
   have hfo := hcf f (by simp)
   obtain ⟨c1, c2, c3, c4⟩ := frOk_iff.1 hfo
   obtain ⟨i, hi, hil, hin⟩ := cls_nth (s := s) (f := f) c1 c2
   have hi2 : (i : Int) < s.classes.length := by omega
   have hi0 : (0 : Int) <= i := Int.natCast_nonneg i
   have hrl : (frsD ((f :: r).reverse ++ j)).length = l.length := by simp only [List.length_map, List.length_append, List.length_reverse]; exact hcl
   have hq1 : ((f :: r).length : Int) - 1 = (r.length : Nat) := by simp
   have hq2 : (r.length : Int) < (f :: r).length := by simp only [List.length_cons]; omega
   have hq3 : r.length < (f :: r).length := by simp
   have hq5 : r.length < l.length := by rw [← hcl]; simp only [List.length_cons]; omega
   have hq4 : (0 : Int) <= (r.length : Nat) := Int.natCast_nonneg _
   have hn := rv_nth (r := r) (j := j) (f := f)
   have hs1 : (frsD ((f :: r).reverse ++ j)).set r.length (.agg [.int .i64 f.c, .int .i64 (f.a + 1)]) = frsD ((⟨f.c, f.a + 1⟩ :: r).reverse ++ j) := rv_set (f' := ⟨f.c, f.a + 1⟩)
   have hn2 : D.nth (frsD ((⟨f.c, f.a + 1⟩ :: r).reverse ++ j)) r.length = .agg [.int .i64 f.c, .int .i64 (f.a + 1)] := rv_nth
   have hrl2 : (frsD ((⟨f.c, f.a + 1⟩ :: r).reverse ++ j)).length = l.length := by simp only [List.length_map, List.length_append, List.length_reverse]; exact hcl
   have hcg := hg.cls (clsAt s f) (by unfold clsAt; rw [List.getD_eq_getElem?_getD, List.getElem?_eq_getElem (by omega)]; exact List.getElem_mem _)
   have h12 := hcg.l12
   refine sem_of_awpK [17] (Γ := tbl tabXK) tabXK_ok _ _ _ ?_
   generalize hFR : frsD ((f :: r).reverse ++ j) = FR at *
   generalize hLL : (f :: r).length = LL at *
   simp only [go_sem, hq1, hq2, hq3, hq4, hq5, hn, frD, hrl, hs1]
   refine ⟨inR_i64.2 (by omega), inR_i64.2 (by omega), ?_⟩
   generalize hFR2 : frsD ((⟨f.c, f.a + 1⟩ :: r).reverse ++ j) = FR2 at *
   refine sem_drawY [] [] (pf := []) (mf := []) mixed tabXK_ok pureNo noMk (ones [0, 1, 2, 3, 4, 5, 6, 7, 8, 9, 10, 11, 12, 13, 14]) (by kernel_rfl) ?_
   by_cases ha : f.a + 1 < (clsAt s f).steps.length
   ·have hRR : R = ⟨f.c, f.a + 1⟩ :: r := by rw [← hcR, upR_go ha]
    simp only [go_sem, hq4, hq5, hn2, hrl2, hi, hi2, hi0, hil, hin, clsD, stepsD, List.length_map, ha]
    refine sem_of_awpK [18] (Γ := tbl tabXK) tabXK_ok _ _ _ ?_
    simp only [go_sem, hsl0, hw1, hw0, hw, List.set_set]
    subst hFR2
    have hfs : frsD ((⟨f.c, f.a + 1⟩ :: r).reverse ++ j) = frsD R.reverse ++ frsD j := by rw [hRR]; simp
    rw [hfs]
    refine sem_le (le_cut 4 (ag := some 2) rfl) ?_
    refine sem_le (le_freeze 4 (ag := some 2) rfl (Nat.zero_le _)) ?_
    have htk : List.take LL (frsD R.reverse) = frsD R.reverse := List.take_of_length_le (by rw [hRR, ← hLL]; simp)
    have hLR : LL <= R.reverse.length := by rw [hRR, ← hLL]; simp
    simp only [go_sem, frzs_set, htk, hLR, if_true, stacks_set, List.drop_zero]
    refine sem_le (le_freezeV 3 (ds := stacksD (x.set w R.reverse)) rfl (norm1_dats _) (Nat.zero_le _)) ?_
    refine sem_of_awp (Γ := tbl tabXK) tabXK_ok _ _ _ ?_
    have hW : List.take x.length (stacksD (x.set w R.reverse)) = stacksD (x.set w R.reverse) := List.take_of_length_le (by simp)
    simp only [go_sem, hW]
    refine post_res (.inl rfl) [.cell 6 43] rfl ?_
    simp only [go_sem, stD, hW]
    exact le_fin (by simp only [go_sem]) (by simp only [go_sem])
   simp only [go_sem, hq4, hq5, hn2, hrl2, hi, hi2, hi0, hil, hin, clsD, stepsD, List.length_map, ha]
   cases r with
   | nil =>
    have hRR : R = [⟨f.c, 0⟩] := by rw [← hcR, upR_1 ha]
    have hL1 : (LL : Int) = 1 := by rw [← hLL]; rfl
    have hs2 : (frsD (([⟨f.c, f.a + 1⟩] : List PFr).reverse ++ j)).set 0 (.agg [.int .i64 f.c, .int .i64 0]) = frsD (([⟨f.c, 0⟩] : List PFr).reverse ++ j) := rv_set (r := []) (f' := ⟨f.c, 0⟩)
    rw [hFR2, hi] at hs2
    have hLz : 0 < l.length := hq5
    have hn3 : D.nth FR2 0 = .agg [.int .i64 f.c, .int .i64 (f.a + 1)] := hn2
    have hz : 0 < FR2.length := by rw [hrl2]; exact hLz
    simp only [go_sem, hL1, hq4, hq5, hrl2, hn3, hs2, hLz, hz, List.length_nil, hi]
    refine sem_of_awpK [18] (Γ := tbl tabXK) tabXK_ok _ _ _ ?_
    simp only [go_sem, hsl0, hw1, hw0, hw, List.set_set]
    have hfs : frsD (([⟨(i : Int), 0⟩] : List PFr).reverse ++ j) = frsD R.reverse ++ frsD j := by rw [hRR, hi]; simp
    rw [hfs]
    refine sem_le (le_cut 4 (ag := some 2) rfl) ?_
    refine sem_le (le_freeze 4 (ag := some 2) rfl (Nat.zero_le _)) ?_
    have htk : List.take LL (frsD R.reverse) = frsD R.reverse := List.take_of_length_le (by rw [hRR, ← hLL]; simp)
    have hLR : LL <= R.reverse.length := by rw [hRR, ← hLL]; simp
    simp only [go_sem, frzs_set, htk, hLR, if_true, stacks_set, List.drop_zero]
    refine sem_le (le_freezeV 3 (ds := stacksD (x.set w R.reverse)) rfl (norm1_dats _) (Nat.zero_le _)) ?_
    refine sem_of_awp (Γ := tbl tabXK) tabXK_ok _ _ _ ?_
    have hW : List.take x.length (stacksD (x.set w R.reverse)) = stacksD (x.set w R.reverse) := List.take_of_length_le (by simp)
    simp only [go_sem, hW]
    refine post_res (.inl rfl) [.cell 6 43] rfl ?_
    simp only [go_sem, stD, hW]
    exact le_fin (by simp only [go_sem]) (by simp only [go_sem])
   | cons g r2 =>
    have hRR : upR s (g :: r2) = R := by rw [← hcR, upR_2 ha]
    have hLL1 : ¬ (LL : Int) = 1 := by rw [← hLL]; simp only [List.length_cons]; omega
    have hLL2 : ((g :: r2).length : Int) <= LL := by omega
    have hLL3 : (LL : Int) - 1 = ((g :: r2).length : Nat) := hq1
    have hLL4 : (g :: r2).length <= LL := by omega
    simp only [go_sem, hLL1, hLL3, hLL2]
    subst hFR2
    have hq6 : r2.length + 1 < l.length := hq5
    have hq7 : r2.length + 1 < LL := hq3
    refine ⟨inR_i64.2 (by omega), by omega, (g :: r2, ⟨f.c, f.a + 1⟩ :: j), ⟨by simp, fun q hq => hcf q (by simp at hq ⊢; exact .inr hq), hRR, ?_⟩, ?_, ?_⟩
    ·rw [← hcl, ← hLL]; simp only [List.length_cons]; omega
    ·simp only [List.length_cons]; omega
    ·simp only [Int.sub_zero, Int.toNat_natCast, List.reverse_cons, List.append_assoc, List.cons_append, List.nil_append, hi]
     exact le_slots' (by simp only [go_sem])
end Go.AM
namespace Go.AM
open Go Go.Proofs
def stepXR (ds : List D) (v : AV) : Prop := ∃ (s : PSys) (x : PSt) (w : Int), ds = [sysD s, stD x, .int .i64 w] /\ s.fit /\ PStFit x /\ v = .tup [.dat (stD (stepX s x w).1), .dat (.int .i64 (stepX s x w).2)]
abbrev tabXP : List (Nat × Contract) := [(30, dataC stErrR), (33, dataC talR), (34, dataC topR), (32, dataC possR), (35, dataC takeR)]
theorem tabXP_ok : OkG Try.prog (tbl tabXP) := okG_cons xcheck_ok (okG_cons tally_ok (okG_cons top_ok (okG_cons possible_ok (okG_cons take_ok okG_nil))))
theorem pureXP : PureFns (tbl tabXP) [33, 34, 32] := by
 refine pure_of2 fun g C hm hg => ?_
 simp only [List.mem_cons, List.not_mem_nil, or_false, Prod.mk.injEq] at hm
 rcases hm with ⟨_, rfl⟩ | ⟨_, rfl⟩ | ⟨_, rfl⟩ | ⟨_, rfl⟩ | ⟨_, rfl⟩ <;> exact .inl ⟨_, rfl⟩
theorem xStep_ok : OkF Try.prog 14 (dataC stepXR) := by
 refine okF_data Try.func14 rfl (by decide) ?_
 rintro ds v ⟨s, x, w, rfl, hf, hx, rfl⟩
 generalize hv : stepX s x w = V
 unfold stepX at hv
 have hxl2 : (stacksD x).length = x.length := by simp
 refine sem_of_awp (Γ := tbl tabXP) tabXP_ok _ _ _ ?_
 simp only [go_sem, Try.ntmps14, sysD, stD]
 refine call_data stErrR (by simp) [sysD s, stD x] _ rfl ⟨s, x, rfl, hf, hx, rfl⟩ (.inl rfl) ?_
 by_cases he : stErr s x = 0
 case neg =>
  rw [if_pos he] at hv
  subst hv
  simp only [go_sem, he]
  refine post_res (.inl rfl) [.cell 6 43, .tmp 7] rfl ?_
  simp only [go_sem, List.map_nil]
  exact le_fin (by simp only [go_sem]) (by simp only [go_sem])
 rw [if_neg (by rw [he]; decide)] at hv
 have hV := valid_of he
 by_cases h1 : w < 0
 ·rw [if_pos (.inl h1)] at hv
  subst hv
  simp only [go_sem, he, h1]
  refine post_res (.inl rfl) [.cell 6 43, .tmp 7] rfl ?_
  simp only [go_sem, List.map_nil]
  exact le_fin (by simp only [go_sem]) (by simp only [go_sem])
 by_cases h2 : (x.length : Int) <= w
 ·rw [if_pos (.inr h2)] at hv
  subst hv
  simp only [go_sem, he, h1, h2, hxl2]
  refine post_res (.inl rfl) [.cell 6 43, .tmp 7] rfl ?_
  simp only [go_sem, List.map_nil]
  exact le_fin (by simp only [go_sem]) (by simp only [go_sem])
 rw [if_neg (by omega)] at hv
 obtain ⟨q, rfl⟩ : ∃ q : Nat, w = q := ⟨w.toNat, by omega⟩
 rw [Int.toNat_natCast] at hv
 have hq : q < x.length := by omega
 have hsx := (hV.stk hq).1
 have hL := hV.frames
 have hLl := frames_len hx
 simp only [go_sem, he, h1, h2, hxl2]
 refine sem_draw (pf := [33, 34, 32]) (Γ := tbl tabXP) mixed tabXP_ok pureXP [0, 1, 2, 3, 4, 5, 6, 7, 8, 9] (by kernel_rfl) ?_
 simp only [go_sem, chainI]
 refine call_data talR (by simp) [sysD s, stD x] _ rfl ⟨s, x, rfl, hV.good, hx, hL, rfl⟩ (.inl rfl) ?_
 simp only [go_sem, chainI]
 refine call_data topR (by simp) [sysD s, stD x, .int .i64 q] _ rfl ⟨s, x, q, rfl, hq, hx.len, List.length_pos_iff.2 hsx, getD_fit hx hq, hV.top hq, rfl⟩ (.inl rfl) ?_
 simp only [go_sem, chainI]
 refine call_data possR (by simp) [sysD s, useD s (frames x), stepD (topS s x q)] _ rfl ⟨s, frames x, topS s x q, rfl, hV.good, hL, hLl, step_mem hV.good (hV.top hq), rfl⟩ (.inl rfl) ?_
 have hab : posB s (frames x) (topS s x q) = ableB s x q := rfl
 rw [hab]
 cases hb : ableB s x q with
 | false =>
  rw [if_pos hb] at hv
  subst hv
  simp only [go_sem, chainI]
  refine post_res (.inl rfl) [.cell 6 43, .tmp 7] rfl ?_
  simp only [go_sem, List.map_nil]
  exact le_fin (by simp only [go_sem]) (by simp only [go_sem])
 | true =>
  rw [if_neg (by rw [hb]; decide)] at hv
  subst hv
  simp only [go_sem, chainI]
  refine call_data takeR (by simp) [sysD s, stD x, .int .i64 q] _ rfl ⟨s, x, q, rfl, hV, hx, hq, rfl⟩ (.inl rfl) ?_
  simp only [go_sem, chainI, stD]
  refine post_res (.inl rfl) [.cell 6 43, .tmp 7] rfl ?_
  simp only [go_sem]
  exact le_fin (by simp only [go_sem]) (by simp only [go_sem])
def replayF (s : PSys) : PSt -> List Int -> PSt × Int
 | x, [] => (x, 0)
 | x, w :: ws => if (stepX s x w).2 ≠ 0 then ([], (stepX s x w).2) else replayF s (stepX s x w).1 ws
def replayX (s : PSys) (ws : List Int) : PSt × Int := if checkE s ≠ 0 then ([], checkE s) else replayF s (iniX s) ws
def replayXR (ds : List D) (v : AV) : Prop := ∃ (s : PSys) (ws : List Int), ds = [sysD s, .sl none (intsD ws)] /\ s.fit /\ ws.length <= 500 /\ v = .tup [.dat (stD (replayX s ws).1), .dat (.int .i64 (replayX s ws).2)]
structure Deep (n : Nat) (x : PSt) : Prop where
 len : x.length <= 24
 stk : ∀ l ∈ x, l.length <= n
theorem Deep.fit {n : Nat} {x : PSt} (h : Deep n x) (hn : n <= 1000) : PStFit x := ⟨by have := h.len; omega, fun l hl => by have := h.stk l hl; omega⟩
theorem upR_len (s : PSys) : ∀ l : List PFr, (upR s l).length <= l.length
 | [] => by simp [upR]
 | f :: r => by
  by_cases h : f.a + 1 < (clsAt s f).steps.length
  ·rw [upR_go h]; simp
  ·cases r with
   | nil => rw [upR_1 h]; simp
   | cons g r => rw [upR_2 h]; have := upR_len s (g :: r); simp only [List.length_cons] at this ⊢; omega
theorem takeS_len (s : PSys) (l : List PFr) : (takeS s l).length <= l.length + 1 := by
 unfold takeS
 split
 ·simp
 ·have := upR_len s l.reverse
  simp only [List.length_reverse] at this ⊢
  omega
theorem takeX_len (s : PSys) (x : PSt) (w : Nat) : (takeX s x w).length = x.length := by simp [takeX]
theorem Deep.take {n : Nat} {x : PSt} (h : Deep n x) (s : PSys) (w : Nat) : Deep (n + 1) (takeX s x w) := by
 refine ⟨by rw [takeX_len]; exact h.len, fun l hl => ?_⟩
 unfold takeX at hl
 rcases List.mem_or_eq_of_mem_set hl with hl | rfl
 ·have := h.stk l hl; omega
 ·have := takeS_len s (x.getD w [])
  by_cases hw : w < x.length
  ·have := h.stk (x.getD w []) (by rw [List.getD_eq_getElem?_getD, List.getElem?_eq_getElem hw]; exact List.getElem_mem _)
   omega
  ·rw [List.set_eq_of_length_le (by omega)] at hl
   have := h.stk _ hl; omega
theorem Deep.step {n : Nat} {x : PSt} (h : Deep n x) (s : PSys) (w : Int) : Deep (n + 1) (stepX s x w).1 := by
 unfold stepX
 (repeat' split) <;> first | exact h.take s _ | exact ⟨by simp, by simp⟩
abbrev tabXRp : List (Nat × Contract) := [(12, dataC startXR), (14, dataC stepXR)]
end Go.AM
namespace Go.AM
open Go Go.Proofs
theorem stepE_pre {s : PSys} {u : List Int} {b : List Bool} {x : PStep} (h : stepE s u b x = 0) : preE s x = 0 /\ stepFine s u b x = true := by
 unfold stepE at h
 split at h
 ·rename_i h1; exact absurd h h1
 ·rename_i h1
  split at h
  ·rename_i h2; exact ⟨Classical.byContradiction h1, h2⟩
  ·cases h
theorem run_at {s : PSys} {c : PCls} (hc : c.good s) : ∀ k, k <= c.steps.length -> ∃ h, Tr s (c.steps.take k) h /\ verd (runE s (c.steps.drop k) h) = 0
 | 0, _ => ⟨hold0 s, by rw [List.take_zero]; exact tr_nil s, by rw [List.drop_zero]; exact hc.run⟩
 | k + 1, hk => by
  obtain ⟨h, h1, h2⟩ := run_at hc k (by omega)
  have hd : c.steps.drop k = c.steps[k] :: c.steps.drop (k + 1) := List.drop_eq_getElem_cons (by omega)
  rw [hd] at h2
  by_cases he : stepE s h.units h.locks c.steps[k] = 0
  ·rw [verd_go he] at h2
   refine ⟨_, ?_, h2⟩
   rw [List.take_succ_eq_append_getElem (by omega)]
   exact tr_step h1 he
  ·rw [verd_err he] at h2; exact absurd h2 he
theorem run_step {s : PSys} {c : PCls} (hc : c.good s) {k : Nat} (hk : k < c.steps.length) : ∃ h, Tr s (c.steps.take k) h /\ stepE s h.units h.locks (c.steps[k]'hk) = 0 := by
 obtain ⟨h, h1, h2⟩ := run_at hc k (by omega)
 have hd : c.steps.drop k = c.steps[k] :: c.steps.drop (k + 1) := List.drop_eq_getElem_cons (by omega)
 rw [hd] at h2
 by_cases he : stepE s h.units h.locks c.steps[k] = 0
 ·exact ⟨h, h1, he⟩
 ·rw [verd_err he] at h2; exact absurd h2 he
theorem run_fine {s : PSys} {c : PCls} (hc : c.good s) {k : Nat} (hk : k < c.steps.length) : refBad s (c.steps.take k) (c.steps[k]'hk) = false := by
 obtain ⟨h, h1, h2⟩ := run_step hc hk
 have h3 := tr_E (x := c.steps[k]) h1
 rw [h2] at h3
 obtain ⟨hp, _⟩ := stepE_pre h2
 unfold refE at h3
 rw [if_neg (by rw [hp]; decide)] at h3
 cases hb : refBad s (c.steps.take k) c.steps[k] with
 | false => rfl
 | true => rw [hb] at h3; cases h3
theorem run_lock {s : PSys} {c : PCls} (hc : c.good s) {k : Nat} (hk : k <= c.steps.length) {i : Nat} (hi : i < s.locks.length) : bal (c.steps.take k) i 1 = 0 ∨ bal (c.steps.take k) i 1 = 1 := by
 obtain ⟨h, h1, _⟩ := run_at hc k hk
 exact (h1.lo i hi).2
theorem run_unit {s : PSys} {c : PCls} (hc : c.good s) : ∀ {k : Nat}, k <= c.steps.length -> ∀ i : Nat, 0 <= bal (c.steps.take k) i 0
 | 0, _, i => by simp [bal]
 | k + 1, hk, i => by
  have ih := run_unit hc (k := k) (by omega) i
  have hf := run_fine hc (k := k) (by omega)
  have hp := hc.pre c.steps[k] (List.getElem_mem _)
  obtain ⟨⟨k1, k2⟩, ⟨o1, o2⟩, hcn, hc0⟩ := preE_0 hp
  rw [List.take_succ_eq_append_getElem (by omega), bal_snoc]
  generalize c.steps[k] = x at *
  unfold bstep
  by_cases ho : x.on = i
  ·rw [if_pos ho]
   by_cases h1 : x.kind = 1
   ·rw [if_pos h1, if_pos rfl]; have := hcn (.inl h1); omega
   ·rw [if_neg h1]
    by_cases h2 : x.kind = 2
    ·rw [if_pos h2, if_pos rfl]
     unfold refBad at hf
     rw [if_neg h1, if_pos h2, ho] at hf
     have := of_decide_eq_false hf
     omega
    ·rw [if_neg h2]
     (repeat' split) <;> first | exact ih | omega
  ·rw [if_neg ho]; exact ih
theorem run_end {s : PSys} {c : PCls} (hc : c.good s) : (∀ i : Nat, i < s.pools.length -> bal c.steps i 0 = 0) /\ (∀ i : Nat, i < s.locks.length -> bal c.steps i 1 = 0) := by
 obtain ⟨h, h1, h2⟩ := run_at hc c.steps.length (Nat.le_refl _)
 rw [List.drop_length, verd_nil] at h2
 rw [List.take_length] at h1
 have h3 := tr_end h1
 rw [h2] at h3
 have h4 : ¬ ((∃ i : Nat, i < s.pools.length /\ 0 < bal c.steps i 0) ∨ (∃ i : Nat, i < s.locks.length /\ 0 < bal c.steps i 1)) := by
  intro hh; rw [if_pos hh] at h3; cases h3
 constructor
 ·intro i hi
  have := run_unit hc (k := c.steps.length) (Nat.le_refl _) i
  rw [List.take_length] at this
  have : ¬ 0 < bal c.steps i 0 := fun hh => h4 (.inl ⟨i, hi, hh⟩)
  omega
 ·intro i hi
  have := run_lock hc (k := c.steps.length) (Nat.le_refl _) hi
  rw [List.take_length] at this
  have : ¬ 0 < bal c.steps i 1 := fun hh => h4 (.inr ⟨i, hi, hh⟩)
  omega
def lkstep (i : Int) (b : Bool) (x : PStep) : Bool := if x.on = i /\ x.kind = 4 then false else if x.on = i /\ x.kind = 3 then true else b
def lkB (i : Int) (l : List PStep) : Bool := l.foldl (lkstep i) false
end Go.AM
namespace Go.AM
open Go Go.Proofs
def lkR (ds : List D) (v : AV) : Prop := ∃ (c : PCls) (i : Int) (k : Nat), ds = [clsD c, .int .i64 i, .int .i64 k] /\ c.steps.length <= 1000 /\ k <= c.steps.length /\ v = .dat (.bool (lkB i (c.steps.take k)))
def hdR (ds : List D) (v : AV) : Prop := ∃ (s : PSys) (x : PSt) (i : Nat), ds = [sysD s, stD x, .int .i64 i] /\ s.good /\ PStFit x /\ (∀ f ∈ frames x, frOk s f = true) /\ v = .dat (.int .i64 (sumI (frU s i) (frames x)))
def hsR (ds : List D) (v : AV) : Prop := ∃ (s : PSys) (x : PSt) (i : Nat), ds = [sysD s, stD x, .int .i64 i] /\ i < s.locks.length /\ s.good /\ PStFit x /\ (∀ f ∈ frames x, frOk s f = true) /\ v = .dat (.int .i64 (sumI (frL s i) (frames x)))
def egR (ds : List D) (v : AV) : Prop := ∃ (s : PSys) (x : PSt) (i : Nat), ds = [sysD s, stD x, .int .i64 i] /\ i < s.classes.length /\ s.good /\ PStFit x /\ (∀ f ∈ frames x, frOk s f = true) /\ v = .dat (.int .i64 (sumI (frE s i) (frames x)))
end Go.AM
namespace Go.AM
open Go Go.Proofs
theorem frE_serv {s : PSys} {i : Nat} (h : (s.classes.getD i default).server = false) : ∀ L : List PFr, sumI (frE s i) L = 0
 | [] => rfl
 | f :: L => by
  rw [sumI_cons, frE_serv h L]
  unfold frE clsAt
  rw [if_neg]; · rfl
  rintro ⟨h1, h2⟩
  rw [h1, Int.toNat_natCast, h] at h2; cases h2
end Go.AM
namespace Go.AM
open Go Go.Proofs
def rposR (ds : List D) (v : AV) : Prop := ∃ (s : PSys) (x : PSt) (w : Nat), ds = [sysD s, stD x, .int .i64 w] /\ Valid s x /\ PStFit x /\ w < x.length /\ v = .dat (.bool (ableB s x w))
end Go.AM
namespace Go.AM
open Go Go.Proofs
def FrFit (x : PSt) : Prop := ∀ f ∈ frames x, inR .i64 f.c /\ inR .i64 f.a
def sameXR (ds : List D) (v : AV) : Prop := ∃ x : PSt, ds = [stD x, stD x] /\ PStFit x /\ FrFit x /\ v = .dat (.bool true)
def copyXR (ds : List D) (v : AV) (ob : List Obj) : Prop := ∃ (x : PSt) (w : Nat), ds = [stD x] /\ w < x.length /\ PStFit x /\ v = .agg [.sl 0 0 x.length] /\ ob = [.vec (((stacksD x).map .dat).set w (.sl 1 0 (x.getD w []).length)), .row (some 2) (frsD (x.getD w []))]
end Go.AM
namespace Go.AM
open Go Go.Proofs
def adv (s : PSys) : List PFr -> List PFr
 | [] => []
 | f :: r => if f.a < (clsAt s f).steps.length then f :: r else match r with
  | [] => [⟨f.c, 0⟩]
  | g :: r' => advN s g r'
where advN (s : PSys) (g : PFr) : List PFr -> List PFr
 | [] => if g.a + 1 < (clsAt s g).steps.length then [⟨g.c, g.a + 1⟩] else [⟨g.c, 0⟩]
 | h :: r => if g.a + 1 < (clsAt s g).steps.length then ⟨g.c, g.a + 1⟩ :: h :: r else advN s h r
theorem rv_top {l : List PFr} (h : l ≠ []) : ∃ r, l.reverse = topF l :: r := by
 cases hr : l.reverse with
 | nil => exact absurd (List.reverse_eq_nil_iff.1 hr) h
 | cons f r =>
  refine ⟨r, ?_⟩
  have : l = r.reverse ++ [f] := by rw [← List.reverse_reverse l, hr]; simp
  subst this
  simp [topF, List.getD_eq_getElem?_getD]
end Go.AM
namespace Go.AM
open Go Go.Proofs
end Go.AM
namespace Go.AM
open Go Go.Proofs
def chn (s : PSys) : List PFr -> Prop
 | [] => True
 | [f] => frOk s f = true
 | f :: g :: r => frOk s f = true /\ callsB s g f = true /\ chn s (g :: r)
theorem fmd_snoc {s : PSys} : ∀ {l : List PFr} {p : Option PFr} {f : PFr}, fmd s p (l ++ [f]) = (fmd s p l && (frOk s f && (match l.getLast?.or p with | none => true | some q => callsB s q f)))
 | [], p, f => by
  rw [List.nil_append, fmd_cons, fmd, fmd]
  cases p <;> simp
 | g :: l, p, f => by
  rw [List.cons_append, fmd_cons, fmd_cons, fmd_snoc (l := l)]
  have : (g :: l).getLast?.or p = l.getLast?.or (some g) := by
   cases l with
   | nil => rfl
   | cons h r => rw [List.getLast?_cons_cons]; cases hh : (h :: r).getLast? with
    | none => simp at hh
    | some q => rfl
  rw [this]
  simp only [Bool.and_assoc]
theorem chn_iff {s : PSys} : ∀ {l : List PFr}, fmd s none l.reverse = true ↔ chn s l
 | [] => by simp [fmd, chn]
 | [f] => by
  rw [List.reverse_singleton, fmd_cons, fmd, chn]
  simp
 | f :: g :: r => by
  have ih := chn_iff (s := s) (l := g :: r)
  rw [List.reverse_cons, fmd_snoc, Bool.and_eq_true, ih, chn, Bool.and_eq_true]
  have : (g :: r).reverse.getLast?.or none = some g := by rw [List.getLast?_reverse]; rfl
  rw [this]
  constructor
  ·rintro ⟨h1, h2, h3⟩; exact ⟨h2, h3, h1⟩
  ·rintro ⟨h1, h2, h3⟩; exact ⟨h3, h1, h2⟩
theorem chn_ok {s : PSys} : ∀ {l : List PFr}, chn s l -> ∀ f ∈ l, frOk s f = true
 | [], _, f, hf => by simp at hf
 | [g], h, f, hf => by
  rcases List.mem_cons.1 hf with rfl | hf
  ·exact h
  ·simp at hf
 | g :: k :: r, h, f, hf => by
  rcases List.mem_cons.1 hf with rfl | hf
  ·exact h.1
  ·exact chn_ok h.2.2 f hf
theorem formed_iff {s : PSys} {l : List PFr} {c : Nat} : formedB s l c = true ↔ l ≠ [] /\ (l.reverse.getLast?.map (·.c)) = some (c : Int) /\ chn s l.reverse := by
 rw [← chn_iff, List.reverse_reverse, List.getLast?_reverse]
 cases l with
 | nil => simp [formedB]
 | cons f r =>
  unfold formedB
  simp
def effU (i : Nat) (y : PStep) : Int := if y.on = i then (if y.kind = 1 then y.cnt else if y.kind = 2 then -y.cnt else 0) else 0
def effL (i : Nat) (y : PStep) : Int := if y.on = i then (if y.kind = 3 then 1 else if y.kind = 4 then -1 else 0) else 0
theorem bstep_U (i : Nat) (a : Int) (y : PStep) : bstep i 0 a y = a + effU i y := by
 unfold bstep effU
 (repeat' split) <;> first | rfl | omega | (simp_all)
theorem bstep_L (i : Nat) (a : Int) (y : PStep) : bstep i 1 a y = a + effL i y := by
 unfold bstep effL
 (repeat' split) <;> first | rfl | omega | (simp_all)
theorem cls_mem {s : PSys} {f : PFr} (h : frOk s f = true) : clsAt s f ∈ s.classes := by
 obtain ⟨c1, c2, c3, c4⟩ := frOk_iff.1 h
 unfold clsAt; rw [List.getD_eq_getElem?_getD, List.getElem?_eq_getElem (by omega)]; exact List.getElem_mem _
theorem take_next {s : PSys} {f : PFr} (h : frOk s f = true) : (clsAt s f).steps.take (f.a + 1).toNat = (clsAt s f).steps.take f.a.toNat ++ [stepAtF s f] := by
 obtain ⟨c1, c2, c3, c4⟩ := frOk_iff.1 h
 have e : (f.a + 1).toNat = f.a.toNat + 1 := by omega
 rw [e, List.take_succ_eq_append_getElem (by omega)]
 congr 2
 unfold stepAtF
 rw [List.getD_eq_getElem?_getD, List.getElem?_eq_getElem (by omega)]; rfl
theorem frU_next {s : PSys} {f : PFr} (h : frOk s f = true) (i : Nat) : frU s i ⟨f.c, f.a + 1⟩ = frU s i f + effU i (stepAtF s f) := by
 show bal ((clsAt s f).steps.take (f.a + 1).toNat) i 0 = _
 rw [take_next h, bal_snoc, bstep_U]; rfl
theorem frL_next {s : PSys} {f : PFr} (h : frOk s f = true) (i : Nat) : frL s i ⟨f.c, f.a + 1⟩ = frL s i f + effL i (stepAtF s f) := by
 show bal ((clsAt s f).steps.take (f.a + 1).toNat) i 1 = _
 rw [take_next h, bal_snoc, bstep_L]; rfl
theorem take_end {s : PSys} {f : PFr} (h : frOk s f = true) (hn : ¬ f.a + 1 < (clsAt s f).steps.length) : (clsAt s f).steps.take (f.a + 1).toNat = (clsAt s f).steps := by
 obtain ⟨c1, c2, c3, c4⟩ := frOk_iff.1 h
 exact List.take_of_length_le (by omega)
theorem frU_end {s : PSys} (hg : s.good) {f : PFr} (h : frOk s f = true) (hn : ¬ f.a + 1 < (clsAt s f).steps.length) {i : Nat} (hi : i < s.pools.length) : frU s i f + effU i (stepAtF s f) = 0 := by
 rw [← frU_next h]
 show bal ((clsAt s f).steps.take (f.a + 1).toNat) i 0 = 0
 rw [take_end h hn]
 exact (run_end (hg.cls _ (cls_mem h))).1 i hi
theorem frL_end {s : PSys} (hg : s.good) {f : PFr} (h : frOk s f = true) (hn : ¬ f.a + 1 < (clsAt s f).steps.length) {i : Nat} (hi : i < s.locks.length) : frL s i f + effL i (stepAtF s f) = 0 := by
 rw [← frL_next h]
 show bal ((clsAt s f).steps.take (f.a + 1).toNat) i 1 = 0
 rw [take_end h hn]
 exact (run_end (hg.cls _ (cls_mem h))).2 i hi
theorem fr_zero {s : PSys} {c : Int} (i : Nat) : frU s i ⟨c, 0⟩ = 0 /\ frL s i ⟨c, 0⟩ = 0 := by simp [frU, frL, bal]
theorem calls_kind {s : PSys} {g f : PFr} (h : callsB s g f = true) : (stepAtF s g).kind = 5 := by
 unfold callsB at h
 rw [Bool.and_eq_true] at h
 exact of_decide_eq_true h.1
theorem eff_call {i : Nat} {y : PStep} (h : y.kind = 5) : effU i y = 0 /\ effL i y = 0 := by simp [effU, effL, h]
theorem upR_sum {s : PSys} {G : PFr -> Int} {E : PStep -> Int} (hnext : ∀ f, frOk s f = true -> G ⟨f.c, f.a + 1⟩ = G f + E (stepAtF s f))
  (hend : ∀ f, frOk s f = true -> ¬ f.a + 1 < (clsAt s f).steps.length -> G f + E (stepAtF s f) = 0) (hzero : ∀ c, G ⟨c, 0⟩ = 0) (hcall : ∀ y : PStep, y.kind = 5 -> E y = 0) :
  ∀ (r : List PFr) (f : PFr), chn s (f :: r) -> sumI G (upR s (f :: r)) = sumI G (f :: r) + E (stepAtF s f)
 | [], f, h => by
  have e1 := sumI_cons G f []
  by_cases hn : f.a + 1 < (clsAt s f).steps.length
  ·have e2 := sumI_cons G ⟨f.c, f.a + 1⟩ []
   rw [upR_go hn, e2, e1, hnext f h]; omega
  ·have e2 := sumI_cons G ⟨f.c, 0⟩ []
   rw [upR_1 hn, e2, e1, hzero]
   have := hend f h hn
   omega
 | g :: r, f, h => by
  have e1 := sumI_cons G f (g :: r)
  by_cases hn : f.a + 1 < (clsAt s f).steps.length
  ·have e2 := sumI_cons G ⟨f.c, f.a + 1⟩ (g :: r)
   rw [upR_go hn, e2, e1, hnext f h.1]; omega
  ·have := hend f h.1 hn
   rw [upR_2 hn, upR_sum hnext hend hzero hcall r g h.2.2, hcall _ (calls_kind h.2.1), e1]
   omega
theorem upR_chn {s : PSys} (hg : s.good) : ∀ (r : List PFr) (f : PFr), chn s (f :: r) -> chn s (upR s (f :: r)) /\ upR s (f :: r) ≠ [] /\ (upR s (f :: r)).getLast?.map (·.c) = (f :: r).getLast?.map (·.c)
 | [], f, h => by
  have hfo : frOk s f = true := h
  obtain ⟨c1, c2, c3, c4⟩ := frOk_iff.1 hfo
  by_cases hn : f.a + 1 < (clsAt s f).steps.length
  ·rw [upR_go hn]
   exact ⟨frOk_iff.2 ⟨c1, c2, by simp only; omega, hn⟩, by simp, rfl⟩
  ·rw [upR_1 hn]
   exact ⟨frOk_iff.2 ⟨c1, c2, Int.le_refl 0, by have := (hg.cls _ (cls_mem hfo)).l1; show (0 : Int) < (clsAt s f).steps.length; omega⟩, by simp, rfl⟩
 | g :: r, f, h => by
  obtain ⟨c1, c2, c3, c4⟩ := frOk_iff.1 h.1
  by_cases hn : f.a + 1 < (clsAt s f).steps.length
  ·rw [upR_go hn]
   refine ⟨⟨frOk_iff.2 ⟨c1, c2, by simp only; omega, hn⟩, h.2.1, h.2.2⟩, by simp, ?_⟩
   rw [List.getLast?_cons_cons, List.getLast?_cons_cons]
  ·rw [upR_2 hn]
   have ih := upR_chn hg r g h.2.2
   refine ⟨ih.1, ih.2.1, ?_⟩
   rw [ih.2.2, List.getLast?_cons_cons]
theorem upR_E {s : PSys} (i : Nat) : ∀ (r : List PFr) (f : PFr), sumI (frE s i) (upR s (f :: r)) <= sumI (frE s i) (f :: r)
 | [], f => by
  by_cases hn : f.a + 1 < (clsAt s f).steps.length
  ·rw [upR_go hn]; exact Int.le_refl _
  ·rw [upR_1 hn]; exact Int.le_refl _
 | g :: r, f => by
  have e1 := sumI_cons (frE s i) f (g :: r)
  by_cases hn : f.a + 1 < (clsAt s f).steps.length
  ·rw [upR_go hn]; exact Int.le_refl _
  ·have ih := upR_E (s := s) i r g
   have h0 : 0 <= frE s i f := by unfold frE; split <;> omega
   rw [upR_2 hn, e1]; omega
theorem sumI_rev (G : PFr -> Int) : ∀ l : List PFr, sumI G l.reverse = sumI G l
 | [] => rfl
 | f :: l => by rw [List.reverse_cons, sumI_snoc, sumI_rev G l, sumI_cons]; omega
theorem frames_set (G : PFr -> Int) : ∀ (x : PSt) (w : Nat) (l : List PFr), w < x.length -> sumI G (frames (x.set w l)) = sumI G (frames x) - sumI G (x.getD w []) + sumI G l
 | [], _, _, h => by simp at h
 | m :: x, 0, l, _ => by
  simp only [frames, List.set_cons_zero, List.flatten_cons, sumI_app, List.getD_cons_zero]; omega
 | m :: x, w + 1, l, h => by
  have ih := frames_set G x w l (by simpa using h)
  simp only [frames] at ih
  simp only [frames, List.set_cons_succ, List.flatten_cons, sumI_app, List.getD_cons_succ]; omega
theorem fmdAll_set {s : PSys} : ∀ {x : PSt} {ws : List Nat} {w : Nat} {l : List PFr}, fmdAll s x ws = true -> (∀ c, ws[w]? = some c -> formedB s l c = true) -> fmdAll s (x.set w l) ws = true
 | [], ws, w, l, h, _ => by simpa using h
 | m :: x, [], w, l, _, _ => by cases w <;> rfl
 | m :: x, c :: ws, 0, l, h, hl => by
  simp only [fmdAll, List.set_cons_zero, Bool.and_eq_true] at h ⊢
  exact ⟨hl c rfl, h.2⟩
 | m :: x, c :: ws, w + 1, l, h, hl => by
  simp only [fmdAll, List.set_cons_succ, Bool.and_eq_true] at h ⊢
  exact ⟨h.1, fmdAll_set h.2 fun c hc => hl c (by simpa using hc)⟩
theorem fmdAll_at {s : PSys} : ∀ {x : PSt} {ws : List Nat} {w : Nat} {c : Nat}, fmdAll s x ws = true -> ws[w]? = some c -> formedB s (x.getD w []) c = true
 | [], [], w, c, _, hc => by simp at hc
 | [], _ :: _, _, _, h, _ => by simp [fmdAll] at h
 | m :: x, [], w, c, _, hc => by simp at hc
 | m :: x, d :: ws, 0, c, h, hc => by
  simp only [fmdAll, Bool.and_eq_true] at h
  simp at hc; subst hc; exact h.1
 | m :: x, d :: ws, w + 1, c, h, hc => by
  simp only [fmdAll, Bool.and_eq_true] at h
  rw [List.getD_cons_succ]
  exact fmdAll_at h.2 (by simpa using hc)
end Go.AM
namespace Go.AM
open Go Go.Proofs
theorem frOk_call {s : PSys} (hg : s.good) {y : PStep} (hp : preE s y = 0) (hk : y.kind = 5) : frOk s ⟨y.on, 0⟩ = true := by
 obtain ⟨_, ⟨o1, o2⟩, _, _⟩ := preE_0 hp
 unfold mostE at o2
 rw [hk, if_neg (by decide), if_pos rfl] at o2
 refine frOk_iff.2 ⟨o1, o2, Int.le_refl 0, ?_⟩
 have hm : clsAt s ⟨y.on, 0⟩ ∈ s.classes := by
  unfold clsAt; rw [List.getD_eq_getElem?_getD, List.getElem?_eq_getElem (by simp only; omega)]; exact List.getElem_mem _
 have := (hg.cls _ hm).l1
 simp only; omega
theorem takeS_formed {s : PSys} (hg : s.good) {l : List PFr} {c : Nat} (h : formedB s l c = true) : formedB s (takeS s l) c = true := by
 obtain ⟨h0, hb, hc⟩ := formed_iff.1 h
 obtain ⟨r, hr⟩ := rv_top h0
 have htop := topF_mem h0
 have hfo : frOk s (topF l) = true := (formedB_ok h).2 _ htop
 unfold takeS
 split
 ·rename_i hk
  refine formed_iff.2 ⟨by simp, ?_, ?_⟩
  ·rw [List.reverse_append, List.reverse_singleton, List.singleton_append, hr, List.getLast?_cons_cons, ← hr]; exact hb
  ·rw [List.reverse_append, List.reverse_singleton, List.singleton_append, hr]
   refine ⟨frOk_call hg (step_mem hg hfo) hk, ?_, by rw [← hr]; exact hc⟩
   unfold callsB; rw [hk]; simp
 ·rw [hr] at hb hc ⊢
  obtain ⟨u1, u2, u3⟩ := upR_chn hg r (topF l) hc
  refine formed_iff.2 ⟨by simpa using u2, ?_, ?_⟩
  ·rw [List.reverse_reverse, u3]; exact hb
  ·rw [List.reverse_reverse]; exact u1
theorem take_sum {s : PSys} {l : List PFr} {c : Nat} {G : PFr -> Int} {E : PStep -> Int} (h : formedB s l c = true) (hnext : ∀ f, frOk s f = true -> G ⟨f.c, f.a + 1⟩ = G f + E (stepAtF s f))
  (hend : ∀ f, frOk s f = true -> ¬ f.a + 1 < (clsAt s f).steps.length -> G f + E (stepAtF s f) = 0) (hzero : ∀ c, G ⟨c, 0⟩ = 0) (hcall : ∀ y : PStep, y.kind = 5 -> E y = 0) :
  sumI G (takeS s l) = sumI G l + E (stepAtF s (topF l)) := by
 obtain ⟨h0, hb, hc⟩ := formed_iff.1 h
 obtain ⟨r, hr⟩ := rv_top h0
 unfold takeS
 split
 ·rename_i hk
  rw [sumI_snoc, hzero, hcall _ hk]
 ·rw [hr] at hc ⊢
  rw [sumI_rev, upR_sum hnext hend hzero hcall r (topF l) hc, ← hr, sumI_rev]
theorem take_sumE {s : PSys} {l : List PFr} {c : Nat} (h : formedB s l c = true) (i : Nat) : sumI (frE s i) (takeS s l) <= sumI (frE s i) l + (if (stepAtF s (topF l)).kind = 5 /\ (stepAtF s (topF l)).on = i then 1 else 0) := by
 obtain ⟨h0, hb, hc⟩ := formed_iff.1 h
 obtain ⟨r, hr⟩ := rv_top h0
 unfold takeS
 by_cases hk : (stepAtF s (topF l)).kind = 5
 ·rw [if_pos hk, sumI_snoc]
  have : frE s i ⟨(stepAtF s (topF l)).on, 0⟩ <= (if (stepAtF s (topF l)).kind = 5 /\ (stepAtF s (topF l)).on = i then 1 else 0) := by
   unfold frE
   by_cases ho : (stepAtF s (topF l)).on = i
   ·rw [if_pos (c := (stepAtF s (topF l)).kind = 5 /\ _) ⟨hk, ho⟩]; split <;> omega
   ·rw [if_neg (fun h => ho h.1), if_neg (fun h => ho h.2)]; exact Int.le_refl _
  omega
 ·rw [if_neg hk, sumI_rev, if_neg (fun h => hk h.1)]
  have := upR_E (s := s) i r (topF l)
  rw [← hr, sumI_rev] at this
  omega
theorem any_false {n : Nat} {p : Nat -> Bool} (h : (List.range n).any p = false) {i : Nat} (hi : i < n) : p i = false := by
 rw [List.any_eq_false] at h
 have := h i (List.mem_range.2 hi)
 simpa using this
theorem over_iff {s : PSys} {x : PSt} : overB s x = false ↔ (∀ i, i < s.pools.length -> ¬ (s.pools.getD i default).size < sumI (frU s i) (frames x)) /\ (∀ i, i < s.classes.length -> (s.classes.getD i default).server = true -> ¬ (s.classes.getD i default).workers < sumI (frE s i) (frames x)) /\ (∀ i, i < s.locks.length -> ¬ 1 < sumI (frL s i) (frames x)) := by
 unfold overB
 rw [Bool.or_eq_false_iff, Bool.or_eq_false_iff]
 constructor
 ·rintro ⟨⟨h1, h2⟩, h3⟩
  refine ⟨fun i hi => of_decide_eq_false (any_false h1 hi), fun i hi hs => ?_, fun i hi => of_decide_eq_false (any_false (n := s.locks.length) h3 hi)⟩
  have := any_false h2 hi
  rw [hs, Bool.true_and] at this
  exact of_decide_eq_false this
 ·rintro ⟨h1, h2, h3⟩
  refine ⟨⟨any_no fun i hi => decide_eq_false (h1 i hi), any_no fun i hi => ?_⟩, any_no fun i hi => decide_eq_false (h3 i hi)⟩
  cases hs : (s.classes.getD i default).server with
  | false => rfl
  | true => rw [Bool.true_and]; exact decide_eq_false (h2 i hi hs)
theorem val_formed {s : PSys} {x : PSt} (hV : Valid s x) {w : Nat} (hw : w < x.length) : ∃ c, (wkL s)[w]? = some c /\ formedB s (x.getD w []) c = true := by
 have hl : w < (wkL s).length := by rw [← hV.len]; exact hw
 exact ⟨(wkL s)[w], List.getElem?_eq_getElem hl, fmdAll_at hV.fmd (List.getElem?_eq_getElem hl)⟩
theorem val_sumU {s : PSys} {x : PSt} (hV : Valid s x) {w : Nat} (hw : w < x.length) {i : Nat} (hi : i < s.pools.length) : sumI (frU s i) (frames (takeX s x w)) = sumI (frU s i) (frames x) + effU i (topS s x w) := by
 obtain ⟨c, _, hc⟩ := val_formed hV hw
 unfold takeX
 rw [frames_set _ _ _ _ hw, take_sum (E := effU i) hc (fun f h => frU_next h i) (fun f h hn => frU_end hV.good h hn hi) (fun c => (fr_zero i).1) (fun y h => (eff_call h).1)]
 unfold topS; omega
theorem val_sumL {s : PSys} {x : PSt} (hV : Valid s x) {w : Nat} (hw : w < x.length) {i : Nat} (hi : i < s.locks.length) : sumI (frL s i) (frames (takeX s x w)) = sumI (frL s i) (frames x) + effL i (topS s x w) := by
 obtain ⟨c, _, hc⟩ := val_formed hV hw
 unfold takeX
 rw [frames_set _ _ _ _ hw, take_sum (E := effL i) hc (fun f h => frL_next h i) (fun f h hn => frL_end hV.good h hn hi) (fun c => (fr_zero i).2) (fun y h => (eff_call h).2)]
 unfold topS; omega
theorem val_sumE {s : PSys} {x : PSt} (hV : Valid s x) {w : Nat} (hw : w < x.length) (i : Nat) : sumI (frE s i) (frames (takeX s x w)) <= sumI (frE s i) (frames x) + (if (topS s x w).kind = 5 /\ (topS s x w).on = i then 1 else 0) := by
 obtain ⟨c, _, hc⟩ := val_formed hV hw
 have := take_sumE hc i
 unfold takeX topS
 rw [frames_set _ _ _ _ hw]
 omega
theorem val_take {s : PSys} {x : PSt} (hV : Valid s x) {w : Nat} (hw : w < x.length) (ha : ableB s x w = true) : Valid s (takeX s x w) := by
 have hg := hV.good
 obtain ⟨c, hc1, hc2⟩ := val_formed hV hw
 obtain ⟨o1, o2, o3⟩ := over_iff.1 hV.nover
 have hp := step_mem hg (hV.top hw)
 refine ⟨hg, by rw [takeX_len]; exact hV.len, ?_, over_iff.2 ⟨fun i hi => ?_, fun i hi hs => ?_, fun i hi => ?_⟩⟩
 ·unfold takeX
  refine fmdAll_set hV.fmd fun d hd => ?_
  rw [hc1] at hd; cases hd
  exact takeS_formed hg hc2
 ·rw [val_sumU hV hw hi]
  have h1 := o1 i hi
  have hpk := hg.pool (s.pools.getD i default) (by rw [List.getD_eq_getElem?_getD, List.getElem?_eq_getElem hi]; exact List.getElem_mem _)
  unfold PPool.bad at hpk
  unfold ableB at ha
  have hp' : preE s (topS s x w) = 0 := hp
  generalize topS s x w = y at *
  obtain ⟨⟨k1, k2⟩, ⟨on1, on2⟩, hcn, hc0⟩ := preE_0 hp'
  unfold effU
  by_cases ho : y.on = i
  ·rw [if_pos ho]
   by_cases hk : y.kind = 1
   ·rw [if_pos hk]
    unfold posB at ha
    rw [if_pos hk, ho, Int.toNat_natCast] at ha
    simp only [Bool.or_eq_true, Bool.and_eq_true, decide_eq_true_eq] at ha
    omega
   ·rw [if_neg hk]
    by_cases hk2 : y.kind = 2
    ·rw [if_pos hk2]; have := hcn (.inr hk2); omega
    ·rw [if_neg hk2]; omega
  ·rw [if_neg ho]; omega
 ·have h1 := o2 i hi hs
  have h2 := val_sumE hV hw i
  unfold ableB at ha
  generalize topS s x w = y at *
  by_cases hk : y.kind = 5 /\ y.on = i
  ·rw [if_pos hk] at h2
   unfold posB at ha
   rw [if_neg (by rw [hk.1]; decide), if_neg (by rw [hk.1]; decide), if_pos hk.1, hk.2, Int.toNat_natCast] at ha
   have := of_decide_eq_true ha
   omega
  ·rw [if_neg hk] at h2; omega
 ·rw [val_sumL hV hw hi]
  have h1 := o3 i hi
  unfold ableB at ha
  generalize topS s x w = y at *
  unfold effL
  by_cases ho : y.on = i
  ·rw [if_pos ho]
   by_cases hk : y.kind = 3
   ·rw [if_pos hk]
    unfold posB at ha
    rw [if_neg (by rw [hk]; decide), if_pos hk, ho, Int.toNat_natCast] at ha
    have := of_decide_eq_true ha
    omega
   ·rw [if_neg hk]
    by_cases hk2 : y.kind = 4
    ·rw [if_pos hk2]; omega
    ·rw [if_neg hk2]; omega
  ·rw [if_neg ho]; omega
end Go.AM
namespace Go.AM
open Go Go.Proofs
theorem wkC_mem : ∀ {l : List PCls} {i c : Nat}, c ∈ wkC i l -> ∃ j, c = i + j /\ j < l.length /\ (l.getD j default).server = false
 | [], _, _, h => by simp [wkC] at h
 | k :: l, i, c, h => by
  rw [wkC] at h
  rcases List.mem_append.1 h with h | h
  ·cases hs : k.server with
   | true => rw [hs, if_pos rfl] at h; simp at h
   | false =>
    rw [hs, if_neg (by decide)] at h
    have := List.eq_of_mem_replicate h
    exact ⟨0, by omega, by simp, by simpa using hs⟩
  ·obtain ⟨j, h1, h2, h3⟩ := wkC_mem h
   exact ⟨j + 1, by omega, by simp; omega, by simpa using h3⟩
theorem wkL_mem {s : PSys} {c : Nat} (h : c ∈ wkL s) : c < s.classes.length /\ (s.classes.getD c default).server = false := by
 obtain ⟨j, h1, h2, h3⟩ := wkC_mem h
 have : c = j := by omega
 subst this
 exact ⟨h2, h3⟩
theorem frOk_ini {s : PSys} (hg : s.good) {c : Nat} (h : c < s.classes.length) : frOk s ⟨c, 0⟩ = true := by
 refine frOk_iff.2 ⟨Int.natCast_nonneg _, by simp only; omega, Int.le_refl 0, ?_⟩
 have hm : clsAt s ⟨c, 0⟩ ∈ s.classes := by
  unfold clsAt; rw [List.getD_eq_getElem?_getD, List.getElem?_eq_getElem (by simp only; omega)]; exact List.getElem_mem _
 have := (hg.cls _ hm).l1
 simp only; omega
theorem fmdAll_ini {s : PSys} (hg : s.good) : ∀ ws : List Nat, (∀ c ∈ ws, c < s.classes.length) -> fmdAll s (ws.map fun c : Nat => [(⟨(c : Int), 0⟩ : PFr)]) ws = true
 | [], _ => rfl
 | c :: ws, h => by
  rw [List.map_cons, fmdAll, Bool.and_eq_true]
  refine ⟨?_, fmdAll_ini hg ws fun d hd => h d (by simp [hd])⟩
  unfold formedB
  rw [fmd_cons, fmd, frOk_ini hg (h c (by simp))]
  simp
theorem sum_ini {s : PSys} {G : PFr -> Int} (hG : ∀ c, c ∈ wkL s -> G ⟨c, 0⟩ = 0) : ∀ ws : List Nat, (∀ c ∈ ws, c ∈ wkL s) -> sumI G (frames (ws.map fun c : Nat => [(⟨(c : Int), 0⟩ : PFr)])) = 0
 | [], _ => rfl
 | c :: ws, h => by
  have ih := sum_ini hG ws fun d hd => h d (by simp [hd])
  unfold frames at ih ⊢
  rw [List.map_cons, List.flatten_cons, sumI_app, ih, sumI_cons, hG c (h c (by simp))]; rfl
theorem valid_ini {s : PSys} (hg : s.good) : Valid s (iniX s) := by
 refine ⟨hg, by unfold iniX; rw [List.length_map], fmdAll_ini hg _ fun c hc => (wkL_mem hc).1, over_iff.2 ⟨fun i hi => ?_, fun i hi hs => ?_, fun i hi => ?_⟩⟩
 ·unfold iniX
  rw [sum_ini (fun c _ => (fr_zero i).1) _ fun c hc => hc]
  have hpk := hg.pool (s.pools.getD i default) (by rw [List.getD_eq_getElem?_getD, List.getElem?_eq_getElem hi]; exact List.getElem_mem _)
  unfold PPool.bad at hpk
  omega
 ·unfold iniX
  have h0 : ∀ c, c ∈ wkL s -> frE s i ⟨c, 0⟩ = 0 := fun c hc => by
   unfold frE clsAt
   rw [if_neg]
   rintro ⟨h1, h2⟩
   rw [Int.toNat_natCast, (wkL_mem hc).2] at h2; cases h2
  rw [sum_ini h0 _ fun c hc => hc]
  have := (hg.cls (s.classes.getD i default) (by rw [List.getD_eq_getElem?_getD, List.getElem?_eq_getElem hi]; exact List.getElem_mem _)).w0
  omega
 ·unfold iniX
  rw [sum_ini (fun c _ => (fr_zero i).2) _ fun c hc => hc]
  omega
def srv (s : PSys) (f : PFr) : Int := if (clsAt s f).server = true then 1 else 0
theorem call_srv {s : PSys} (hg : s.good) {q f : PFr} (hq : frOk s q = true) (h : callsB s q f = true) : srv s f = 1 := by
 unfold callsB at h
 rw [Bool.and_eq_true, decide_eq_true_eq, decide_eq_true_eq] at h
 obtain ⟨c1, c2, c3, c4⟩ := frOk_iff.1 hq
 have hf := run_fine (hg.cls _ (cls_mem hq)) (k := q.a.toNat) (by omega)
 have he : (clsAt s q).steps[q.a.toNat]'(by omega) = stepAtF s q := by
  unfold stepAtF; rw [List.getD_eq_getElem?_getD, List.getElem?_eq_getElem (by omega)]; rfl
 rw [he] at hf
 unfold refBad at hf
 rw [h.1, if_neg (by decide), if_neg (by decide), if_neg (by decide), if_neg (by decide), h.2] at hf
 unfold srv clsAt
 rw [if_pos (by simpa using hf)]
theorem chn_srv {s : PSys} (hg : s.good) : ∀ (r : List PFr) (f : PFr), chn s (f :: r) -> (r.length : Int) <= sumI (srv s) (f :: r)
 | [], f, _ => by
  rw [sumI_cons]
  have : 0 <= srv s f := by unfold srv; split <;> omega
  simp only [List.length_nil]
  show ((0 : Nat) : Int) <= srv s f + 0
  omega
 | g :: r, f, h => by
  have ih := chn_srv hg r g h.2.2
  have hfo : frOk s g = true := chn_ok h.2.2 g (by simp)
  rw [sumI_cons, call_srv hg hfo h.2.1, List.length_cons]
  omega
theorem srv_sum {s : PSys} : ∀ {L : List PFr}, (∀ f ∈ L, frOk s f = true) -> sumI (srv s) L <= ((List.range s.classes.length).map fun i => sumI (frE s i) L).sum
 | [], _ => by
  have : ∀ n : Nat, ((List.range n).map fun i => sumI (frE s i) []).sum = 0 := by
   intro n
   induction n with
   | zero => rfl
   | succ n ih => rw [List.range_succ, List.map_append, List.sum_append, ih]; rfl
  rw [this]; exact Int.le_refl _
 | f :: L, h => by
  have ih := srv_sum (L := L) fun q hq => h q (by simp [hq])
  obtain ⟨c1, c2, c3, c4⟩ := frOk_iff.1 (h f (by simp))
  have e : ∀ n : Nat, ((List.range n).map fun i => sumI (frE s i) (f :: L)).sum = ((List.range n).map fun i => frE s i f).sum + ((List.range n).map fun i => sumI (frE s i) L).sum := by
   intro n
   induction n with
   | zero => rfl
   | succ n ih => rw [List.range_succ]; simp only [List.map_append, List.sum_append, List.map_cons, List.map_nil, List.sum_cons, List.sum_nil]; rw [ih]; have := sumI_cons (frE s n) f L; omega
  have k : ∀ n : Nat, (if f.c.toNat < n then srv s f else 0) <= ((List.range n).map fun i => frE s i f).sum := by
   intro n
   induction n with
   | zero => simp
   | succ n ih =>
    rw [List.range_succ]
    simp only [List.map_append, List.sum_append, List.map_cons, List.map_nil, List.sum_cons, List.sum_nil]
    by_cases hn : f.c.toNat = n
    ·have : frE s n f = srv s f := by
      unfold frE srv
      have : f.c = (n : Int) := by omega
      rw [this]; simp
     rw [if_neg (by omega)] at ih
     rw [if_pos (by omega), this]; omega
    ·have h0 : 0 <= frE s n f := by unfold frE; split <;> omega
     by_cases hlt : f.c.toNat < n
     ·rw [if_pos hlt] at ih; rw [if_pos (by omega)]; omega
     ·rw [if_neg hlt] at ih; rw [if_neg (by omega)]; omega
  have := k s.classes.length
  rw [if_pos (by omega)] at this
  rw [e, sumI_cons]
  omega
theorem frE_le_frames {s : PSys} (i : Nat) : ∀ {x : PSt} {l : List PFr}, l ∈ x -> sumI (frE s i) l <= sumI (frE s i) (frames x)
 | m :: x, l, h => by
  have h0 : ∀ L : List PFr, 0 <= sumI (frE s i) L := by
   intro L
   induction L with
   | nil => exact Int.le_refl _
   | cons f L ih =>
    have : 0 <= frE s i f := by unfold frE; split <;> omega
    rw [sumI_cons]; omega
  simp only [frames, List.flatten_cons, sumI_app]
  rcases List.mem_cons.1 h with rfl | h
  ·have := h0 x.flatten; omega
  ·have := frE_le_frames (s := s) i h
   have := h0 m
   simp only [frames] at *
   omega
theorem val_deep {s : PSys} {x : PSt} (hV : Valid s x) : Deep 25 x := by
 have hg := hV.good
 refine ⟨hV.l24, fun l hl => ?_⟩
 obtain ⟨w, hw, rfl⟩ := List.getElem_of_mem hl
 obtain ⟨c, _, hc⟩ := val_formed hV hw
 have hgd : x.getD w [] = x[w] := by rw [List.getD_eq_getElem?_getD, List.getElem?_eq_getElem hw]; rfl
 rw [hgd] at hc
 obtain ⟨h0, hb, hch⟩ := formed_iff.1 hc
 obtain ⟨r, hr⟩ := rv_top h0
 rw [hr] at hch
 have h1 := chn_srv hg r _ hch
 rw [← hr, sumI_rev] at h1
 have h2 := srv_sum (s := s) (formedB_ok hc).2
 obtain ⟨_, o2, _⟩ := over_iff.1 hV.nover
 have h3 : ∀ n : Nat, n <= s.classes.length -> ((List.range n).map fun i => sumI (frE s i) x[w]).sum <= 4 * n := by
  intro n
  induction n with
  | zero => simp
  | succ n ih =>
   intro hn
   have ih := ih (by omega)
   rw [List.range_succ]
   simp only [List.map_append, List.sum_append, List.map_cons, List.map_nil, List.sum_cons, List.sum_nil]
   have : sumI (frE s n) x[w] <= 4 := by
    have hm := frE_le_frames (s := s) n hl
    cases hs : (s.classes.getD n default).server with
    | false => rw [frE_serv hs]; omega
    | true =>
     have := o2 n (by omega) hs
     have hw4 := (hg.cls (s.classes.getD n default) (by rw [List.getD_eq_getElem?_getD, List.getElem?_eq_getElem (by omega)]; exact List.getElem_mem _)).w4
     omega
   omega
 have h4 := h3 s.classes.length (Nat.le_refl _)
 have hnc := hg.nc
 have hlen : x[w].length = r.length + 1 := by rw [← List.length_reverse, hr]; rfl
 omega
end Go.AM

