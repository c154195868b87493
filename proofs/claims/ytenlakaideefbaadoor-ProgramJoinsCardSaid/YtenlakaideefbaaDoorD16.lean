/- Own work over the model of the kit. -/
import Derived.Test.YtenlakaideefbaaDoorD15
import Derived.Test.YtenlakaideefbaaDoorD13
import Derived.Test.YtenlakaideefbaaDoorD11
set_option linter.unnecessarySimpa false
set_option linter.unusedSimpArgs false
set_option linter.unusedVariables false
set_option maxHeartbeats 4000000
set_option maxRecDepth 8000
namespace Go.AM
open Go Go.Proofs
def chkL : List Int -> List Int -> List Int -> Int -> Option Int
 | n :: ns, l :: ls, h :: hs, e => if n < l ∨ h < n then (if h = 0 then none else chkL ns ls hs 2) else chkL ns ls hs e
 | _, _, _, e => some e
def chkX (x : Ins) : Bool := (decide ((ofL x.op).2.prot = 3) && !(decide (x.prot = 1) || decide (x.prot = 3))) || (decide (x.op = 1) && decide (x.file = -1) && !decide (x.index = 0))
def chkE (x : Ins) : Int :=
 if 1 <= x.op /\ x.op <= 12 then
  match chkL x.fs (ofL x.op).1.fs (ofL x.op).2.fs 0 with
  | none => 1
  | some e => if chkX x then 2 else e
 else 1
def inB (n lo hi : Int) : Bool := decide (lo <= n) && decide (n <= hi)
def memI (x : Ins) : Bool :=
 if x.op = 1 then inB x.page (-1) 511 && inB x.count 1 512 && (decide (x.prot = 1) || decide (x.prot = 3)) && inB x.flags 0 15 && (inB x.file (-1) 3 && inB x.index 0 15 && (decide (0 <= x.file) || decide (x.index = 0)))
 else if x.op = 2 then inB x.page 0 511 && inB x.count 1 512
 else if x.op = 3 then inB x.page 0 511 && inB x.count 1 512 && (decide (x.prot = 1) || decide (x.prot = 3))
 else if x.op = 4 then inB x.page 0 511 && inB x.count 1 512 && inB x.value 0 1
 else if x.op = 5 then inB x.page 0 511 && inB x.index 0 31
 else inB x.page 0 511 && inB x.index 0 31 && inB x.value 0 255
def rngI (x : Ins) : Bool :=
 if x.op = 7 then inB x.file 0 3 && inB x.page 0 15 && inB x.index 0 31
 else if x.op = 8 then inB x.file 0 3 && inB x.page 0 15 && inB x.index 0 31 && inB x.value 0 255
 else if x.op = 9 then inB x.file 0 3 && inB x.count 0 16
 else if x.op = 10 then inB x.file 0 3
 else if x.op = 11 then inB x.value 0 48
 else if x.op = 12 then true
 else memI x
def rchkE (x : Ins) : Int := if ¬ inB x.op 1 12 ∨ usedI x ≠ x then 1 else if rngI x then 0 else 2
def badB (p : Int × Int × Int) : Bool := decide (p.1 < p.2.1) || decide (p.2.2 < p.1)
def bad0 (p : Int × Int × Int) : Bool := badB p && decide (p.2.2 = 0)
theorem chkL_eq : ∀ (ns ls hs : List Int) (e : Int), ns.length = ls.length -> ns.length = hs.length ->
  chkL ns ls hs e = if (ns.zip (ls.zip hs)).any bad0 = true then none else if (ns.zip (ls.zip hs)).any badB = true then some 2 else some e
 | [], [], [], e, _, _ => by simp [chkL]
 | n :: ns, l :: ls, h :: hs, e, h1, h2 => by
  have ih := fun e => chkL_eq ns ls hs e (by simpa using h1) (by simpa using h2)
  unfold chkL
  rw [List.zip_cons_cons, List.zip_cons_cons, List.any_cons, List.any_cons]
  by_cases ho : n < l ∨ h < n
  ·have hb : badB (n, l, h) = true := by simpa [badB] using ho
   by_cases h0 : h = 0
   ·have hb0 : bad0 (n, l, h) = true := by unfold bad0; rw [hb]; simp [h0]
    rw [if_pos ho, if_pos h0, hb0, Bool.true_or, if_pos rfl]
   ·have hb0 : bad0 (n, l, h) = false := by unfold bad0; rw [hb]; simp [h0]
    rw [if_pos ho, if_neg h0, ih 2, hb0, hb, Bool.true_or, Bool.false_or, if_pos rfl]
    split
    ·rfl
    ·split <;> rfl
  ·have hb : badB (n, l, h) = false := by
    rw [Bool.eq_false_iff]; intro hc; exact ho (by simpa [badB] using hc)
   have hb0 : bad0 (n, l, h) = false := by unfold bad0; rw [hb, Bool.false_and]
   rw [if_neg ho, ih e, hb, hb0, Bool.false_or, Bool.false_or]
 | [], _ :: _, _, _, h, _ => by simp at h
 | [], [], _ :: _, _, _, h => by simp at h
 | _ :: _, [], _, _, h, _ => by simp at h
 | _ :: _, _ :: _, [], _, _, h => by simp at h
theorem ite4 {A B A' B' : Prop} [Decidable A] [Decidable B] [Decidable A'] [Decidable B'] (h1 : A ↔ A') (h2 : ¬ A -> (B ↔ B')) : (if A then (1 : Int) else if B then 2 else 0) = if A' then 1 else if B' then 2 else 0 := by
 by_cases h : A
 ·rw [if_pos h, if_pos (h1.1 h)]
 ·have h' : ¬ A' := fun k => h (h1.2 k)
  rw [if_neg h, if_neg h']
  by_cases k : B
  ·rw [if_pos k, if_pos ((h2 h).1 k)]
  ·rw [if_neg k, if_neg (fun k' => k ((h2 h).2 k'))]
theorem chk_form (x : Ins) (h : 1 <= x.op /\ x.op <= 12) : chkE x = if (x.fs.zip ((ofL x.op).1.fs.zip (ofL x.op).2.fs)).any bad0 = true then (1 : Int)
  else if chkX x = true ∨ (x.fs.zip ((ofL x.op).1.fs.zip (ofL x.op).2.fs)).any badB = true then 2 else 0 := by
 unfold chkE
 rw [if_pos h, chkL_eq x.fs (ofL x.op).1.fs (ofL x.op).2.fs 0 rfl rfl]
 generalize (x.fs.zip ((ofL x.op).1.fs.zip (ofL x.op).2.fs)).any bad0 = A
 generalize (x.fs.zip ((ofL x.op).1.fs.zip (ofL x.op).2.fs)).any badB = B
 generalize chkX x = C
 cases A <;> cases B <;> cases C <;> simp
theorem rchk_form (x : Ins) (h : 1 <= x.op /\ x.op <= 12) : rchkE x = if usedI x ≠ x then (1 : Int) else if ¬ rngI x = true then 2 else 0 := by
 unfold rchkE
 have hb : inB x.op 1 12 = true := by simp [inB, h]
 simp only [hb, not_true_eq_false, false_or]
 by_cases hu : usedI x ≠ x
 ·rw [if_pos hu, if_pos hu]
 ·rw [if_neg hu, if_neg hu]
  cases rngI x <;> simp
theorem chk_eq (x : Ins) : chkE x = rchkE x := by
 by_cases h : 1 <= x.op /\ x.op <= 12
 ·rw [chk_form x h, rchk_form x h]
  obtain ⟨op, page, count, index, value, file, prot, flags⟩ := x
  simp only at h
  have hc : op = 1 ∨ op = 2 ∨ op = 3 ∨ op = 4 ∨ op = 5 ∨ op = 6 ∨ op = 7 ∨ op = 8 ∨ op = 9 ∨ op = 10 ∨ op = 11 ∨ op = 12 := by omega
  rcases hc with rfl | rfl | rfl | rfl | rfl | rfl | rfl | rfl | rfl | rfl | rfl | rfl
  all_goals
   refine ite4 ?_ ?_
   ·simp [Ins.fs, ofL, zI, usedI, bad0, badB]
    omega
   ·intro hn
    simp [Ins.fs, ofL, zI, usedI, bad0, badB] at hn
    simp [Ins.fs, ofL, zI, chkX, rngI, memI, inB, badB]
    omega
 ·have hb : ¬ inB x.op 1 12 = true := by simp [inB]; omega
  unfold chkE rchkE
  rw [if_neg h, if_pos (.inl hb)]
end Go.AM
namespace Go.AM
open Go Go.Proofs
def protsR (ds : List D) (v : AV) : Prop := ∃ n : Int, ds = [.int .i64 n] /\ v = .dat (.bool (decide (n = 1) || decide (n = 3)))
def chkR (ds : List D) (v : AV) : Prop := ∃ x : Ins, ds = [insD x] /\ v = .dat (.int .i64 (chkE x))
abbrev tabCk : List (Nat × Contract) := [(31, dataC ofR), (32, dataC fieldsR), (33, dataC protsR)]
theorem tabCk_ok : OkG Tryd.prog (tbl tabCk) := okG_cons of_ok (okG_cons fields_ok (okG_cons prots_ok okG_nil))
theorem tabCk_data : ∀ g C, (g, C) ∈ tabCk -> g ∈ [32] -> ∃ R, C = dataC R := by
 intro g C h _
 simp only [tabCk, List.mem_cons, Prod.mk.injEq, List.not_mem_nil, or_false] at h
 rcases h with ⟨_, rfl⟩ | ⟨_, rfl⟩ | ⟨_, rfl⟩ <;> exact ⟨_, rfl⟩
def insL (x : Ins) : List D := ([x.op, x.page, x.count, x.index, x.value, x.file, x.prot, x.flags] : List Int).map (D.int .i64)
def limL (p : Ins × Ins) : List D := insL p.1 ++ insL p.2
def cSl (i j k : Nat) : List AV := slotsOf 75 [(1, .ptr 0 0 0), (3, .ptr 1 0 0), (5, .ptr i 0 0), (6, .ptr j 0 0), (7, .ptr k 0 0)]
theorem chkL_drop (N L H : List Int) (k : Nat) (e : Int) (h1 : k < N.length) (h2 : k < L.length) (h3 : k < H.length) : chkL (N.drop k) (L.drop k) (H.drop k) e =
  if N.getD k 0 < L.getD k 0 ∨ H.getD k 0 < N.getD k 0 then (if H.getD k 0 = 0 then none else chkL (N.drop (k + 1)) (L.drop (k + 1)) (H.drop (k + 1)) 2) else chkL (N.drop (k + 1)) (L.drop (k + 1)) (H.drop (k + 1)) e := by
 rw [List.drop_eq_getElem_cons h1, List.drop_eq_getElem_cons h2, List.drop_eq_getElem_cons h3]
 simp only [List.getD_eq_getElem?_getD, List.getElem?_eq_getElem h1, List.getElem?_eq_getElem h2, List.getElem?_eq_getElem h3, Option.getD_some]
 rfl
theorem check_ok : OkF Tryd.prog 19 (dataC chkR) := by
 refine okF_data Tryd.func19 rfl (by decide) ?_
 rintro ds v ⟨X, rfl, rfl⟩
 refine sem_of_awpK [6, 14] (Γ := tbl tabCk) tabCk_ok _ _ _ ?_
 simp only [go_sem, Tryd.ntmps19, List.map_cons, List.map_nil]
 refine call_data ofR (by simp) [.int .i64 X.op] _ rfl ⟨_, rfl, rfl⟩ (.inl rfl) ?_
 by_cases h : 1 <= X.op /\ X.op <= 12
 ·have hd : (decide (1 <= X.op) && decide (X.op <= 12)) = true := by simp [h]
  simp only [go_sem, limD, hd, List.map_cons, List.map_nil]
  refine sem_to ⟨cSl 2 3 4, [.box ((insL X).map .dat), .box ((limL (ofL X.op)).map .dat), .row none (X.fs.map (D.int .i64)), .row none ((ofL X.op).1.fs.map (D.int .i64)), .row none ((ofL X.op).2.fs.map (D.int .i64))], 0, []⟩ ?_ ?_
  ·refine sem_drawU [] [] (pf := [32]) (mf := []) mixed tabCk_ok (pure_of tabCk_data) (grow_of tabCk_data) noMk (.one 0 (.one 1 (.one 2 (.one 3 (.one 4 (.one 5 (.one 6 (.one 7 (.alt 8 (.alt 9 (.one 10 (.one 11 (.one 12 (.one 13 .fin)))) (.alt 10 (.one 9 (.one 11 (.one 12 (.one 13 .fin)))) .stop)) (.alt 9 (.alt 8 (.one 10 (.one 11 (.one 12 (.one 13 .fin)))) (.alt 10 (.one 8 (.one 11 (.one 12 (.one 13 .fin)))) .stop)) (.alt 10 (.alt 8 (.one 9 (.one 11 (.one 12 (.one 13 .fin)))) (.alt 9 (.one 8 (.one 11 (.one 12 (.one 13 .fin)))) .stop)) .stop))))))))))) (by kernel_rfl) ?_
   simp only [go_sem]
   refine call_data fieldsR (by simp) [insD X] _ rfl ⟨_, rfl, rfl⟩ (.inl rfl) ?_
   simp only [go_sem]
   refine call_data fieldsR (by simp) [insD (ofL X.op).1] _ rfl ⟨_, rfl, rfl⟩ (.inl rfl) ?_
   simp only [go_sem]
   refine call_data fieldsR (by simp) [insD (ofL X.op).2] _ rfl ⟨_, rfl, rfl⟩ (.inl rfl) ?_
   simp only [go_sem, true_and, and_true]
   repeat' (first | exact rfl | refine And.intro ?_ ?_)
   ·exact le_slots' (s' := cSl 2 3 4) (by simp only [go_sem, cSl])
   ·exact Le.trans (le_slots' (s' := cSl 2 4 3) (by simp only [go_sem, cSl])) (le_swp 3 4 (by decide : (3 : Nat) < 5) (by decide : (4 : Nat) < 5) rfl rfl)
   ·exact Le.trans (le_slots' (s' := cSl 3 2 4) (by simp only [go_sem, cSl])) (le_swp 2 3 (by decide : (2 : Nat) < 5) (by decide : (3 : Nat) < 5) rfl rfl)
   ·exact Le.trans (Le.trans (le_slots' (s' := cSl 4 2 3) (by simp only [go_sem, cSl])) (le_swp 2 4 (by decide : (2 : Nat) < 5) (by decide : (4 : Nat) < 5) rfl rfl)) (le_swp 3 4 (by decide : (3 : Nat) < 5) (by decide : (4 : Nat) < 5) rfl rfl)
   ·exact Le.trans (Le.trans (le_slots' (s' := cSl 3 4 2) (by simp only [go_sem, cSl])) (le_swp 2 3 (by decide : (2 : Nat) < 5) (by decide : (3 : Nat) < 5) rfl rfl)) (le_swp 3 4 (by decide : (3 : Nat) < 5) (by decide : (4 : Nat) < 5) rfl rfl)
   ·exact Le.trans (le_slots' (s' := cSl 4 3 2) (by simp only [go_sem, cSl])) (le_swp 2 4 (by decide : (2 : Nat) < 5) (by decide : (4 : Nat) < 5) rfl rfl)
  refine sem_of_awp (Γ := tbl tabCk) tabCk_ok _ _ _ ?_
  simp only [go_sem, cSl, insL, limL, List.map_cons, List.map_nil, List.cons_append, List.nil_append]
  have nths : ∀ (l : List Int) (k : Nat), k < l.length -> D.nth (l.map (D.int .i64)) k = .int .i64 (l.getD k 0) := fun l k h => by
   simp [D.nth, List.getD_eq_getElem?_getD, List.getElem?_eq_getElem h]
  have hlN : X.fs.length = 7 := rfl
  have hlL : (ofL X.op).1.fs.length = 7 := rfl
  have hlH : (ofL X.op).2.fs.length = 7 := rfl
  have hE : chkE X = match chkL X.fs (ofL X.op).1.fs (ofL X.op).2.fs 0 with | none => 1 | some e => if chkX X then 2 else e := by unfold chkE; rw [if_pos h]; try rfl
  generalize hN : X.fs = N at *
  generalize hL : (ofL X.op).1.fs = L at *
  generalize hH : (ofL X.op).2.fs = H at *
  refine ⟨hlN, sem_loop (fun p : Nat × Int => ⟨slotsOf 75 [(1, .ptr 0 0 0), (3, .ptr 1 0 0), (5, .ptr 2 0 0), (6, .ptr 3 0 0), (7, .ptr 4 0 0), (8, .dat (.int .i64 p.2)), (27, .dat (.agg (N.map (D.int .i64)))), (28, .dat (.int .i64 p.1))], [.box ((insL X).map .dat), .box ((limL (ofL X.op)).map .dat), .row none (N.map (D.int .i64)), .row none (L.map (D.int .i64)), .row none (H.map (D.int .i64))], 0, []⟩)
   (fun p => p.1 <= 7 /\ chkL (N.drop p.1) (L.drop p.1) (H.drop p.1) p.2 = chkL N L H 0) (fun p => 7 - p.1) (0, 0) ⟨by omega, rfl⟩ (le_slots' (by simp only [go_sem, Int.natCast_zero])) ?_⟩
  rintro ⟨k, e⟩ ⟨hk, hI⟩
  simp only at hk hI ⊢
  refine sem_of_awpK [14] (Γ := tbl tabCk) tabCk_ok _ _ _ ?_
  by_cases hlt : k < 7
  ·have k1 : (k : Int) < 7 := by omega
   have k2 : (0 : Int) <= (k : Int) := by omega
   have e0 : ((N.map (D.int .i64)).map AV.dat).getD k .top = .dat (.int .i64 (N.getD k 0)) := by simp [List.getD_eq_getElem?_getD, List.getElem?_eq_getElem (show k < N.length by omega)]
   have e1 := nths N k (by omega)
   have e2 := nths L k (by omega)
   have e3 := nths H k (by omega)
   rw [chkL_drop N L H k e (by omega) (by omega) (by omega)] at hI
   generalize N.getD k 0 = n at *
   generalize L.getD k 0 = lo at *
   generalize H.getD k 0 = hi at *
   by_cases o3 : hi = 0
   ·subst o3
    by_cases o1 : n < lo
    ·simp only [go_sem, k1, k2, hlt, e0, e1, e2, e3, o1, List.length_map, hlN, hlL, hlH, eq_self, decide_true, decide_false, Int.toNat_natCast]
     have hz : chkE X = 1 := by rw [hE, ← hI, if_pos (.inl o1), if_pos rfl]
     rw [hz]
     exact post_data (.inl rfl) [2] rfl trivial rfl
    by_cases o2 : 0 < n
    ·simp only [go_sem, k1, k2, hlt, e0, e1, e2, e3, o1, o2, List.length_map, hlN, hlL, hlH, eq_self, decide_true, decide_false, Int.toNat_natCast]
     have hz : chkE X = 1 := by rw [hE, ← hI, if_pos (.inr o2), if_pos rfl]
     rw [hz]
     exact post_data (.inl rfl) [2] rfl trivial rfl
    ·rw [if_neg (by omega)] at hI
     simp only [go_sem, k1, k2, hlt, e0, e1, e2, e3, o1, o2, List.length_map, hlN, hlL, hlH, eq_self, decide_true, decide_false, Int.toNat_natCast]
     exact ⟨inR_i64.2 (by omega), (k + 1, e), ⟨by omega, hI⟩, by omega, le_slots' (by simp only [go_sem, Int.natCast_add, Int.natCast_one, Int.cast_ofNat_Int])⟩
   ·by_cases o1 : n < lo
    ·rw [if_pos (.inl o1), if_neg o3] at hI
     simp only [go_sem, k1, k2, hlt, e0, e1, e2, e3, o1, o3, List.length_map, hlN, hlL, hlH, eq_self, decide_true, decide_false, Int.toNat_natCast]
     exact ⟨inR_i64.2 (by omega), (k + 1, 2), ⟨by omega, hI⟩, by omega, le_slots' (by simp only [go_sem, Int.natCast_add, Int.natCast_one, Int.cast_ofNat_Int])⟩
    by_cases o2 : hi < n
    ·rw [if_pos (.inr o2), if_neg o3] at hI
     simp only [go_sem, k1, k2, hlt, e0, e1, e2, e3, o1, o2, o3, List.length_map, hlN, hlL, hlH, eq_self, decide_true, decide_false, Int.toNat_natCast]
     exact ⟨inR_i64.2 (by omega), (k + 1, 2), ⟨by omega, hI⟩, by omega, le_slots' (by simp only [go_sem, Int.natCast_add, Int.natCast_one, Int.cast_ofNat_Int])⟩
    ·rw [if_neg (by omega)] at hI
     simp only [go_sem, k1, k2, hlt, e0, e1, e2, e3, o1, o2, o3, List.length_map, hlN, hlL, hlH, eq_self, decide_true, decide_false, Int.toNat_natCast]
     exact ⟨inR_i64.2 (by omega), (k + 1, e), ⟨by omega, hI⟩, by omega, le_slots' (by simp only [go_sem, Int.natCast_add, Int.natCast_one, Int.cast_ofNat_Int])⟩
  ·have k1 : ¬ (k : Int) < 7 := by omega
   have hke : k = 7 := by omega
   subst hke
   have hd7 : N.drop 7 = [] := List.drop_eq_nil_of_le (by omega)
   rw [hd7] at hI
   simp only [chkL] at hI
   rw [← hI] at hE
   simp only at hE
   simp only [go_sem, k1, decide_false]
   refine sem_to ⟨slotsOf 75 [(1, .ptr 0 0 0), (8, .dat (.int .i64 e)), (73, .dat (.bool (chkX X)))], [.box ((insL X).map .dat), .box ((limL (ofL X.op)).map .dat), .row none (N.map (D.int .i64)), .row none (L.map (D.int .i64)), .row none (H.map (D.int .i64))], 0, []⟩ ?_ ?_
   ·refine sem_of_awp (Γ := tbl tabCk) tabCk_ok _ _ _ ?_
    unfold chkX
    generalize ofL X.op = LH
    by_cases c1 : LH.2.prot = 3
    ·simp only [go_sem, insL, limL, List.map_cons, List.map_nil, List.cons_append, List.nil_append, c1, eq_self, decide_true]
     refine call_data protsR (by simp) [.int .i64 X.prot] _ rfl ⟨_, rfl, rfl⟩ (.inl rfl) ?_
     cases c2 : (decide (X.prot = 1) || decide (X.prot = 3))
     ·simp only [go_sem, Bool.not_false, Bool.true_and, Bool.true_or]
      exact le_slots' (by simp only [go_sem])
     by_cases c3 : X.op = 1
     ·by_cases c4 : X.file = -1
      ·simp only [go_sem, c3, c4, eq_self, decide_true, Bool.not_true, Bool.and_false, Bool.true_and, Bool.false_or]
       exact le_slots' (by simp only [go_sem])
      ·simp only [go_sem, c3, c4, eq_self, decide_true, decide_false, Bool.not_true, Bool.and_false, Bool.false_and, Bool.true_and, Bool.false_or]
       exact le_slots' (by simp only [go_sem])
     ·simp only [go_sem, c3, decide_true, decide_false, Bool.not_true, Bool.and_false, Bool.false_and, Bool.true_and, Bool.false_or]
      exact le_slots' (by simp only [go_sem])
    ·by_cases c3 : X.op = 1
     ·by_cases c4 : X.file = -1
      ·simp only [go_sem, insL, limL, List.map_cons, List.map_nil, List.cons_append, List.nil_append, c1, c3, c4, eq_self, decide_true, decide_false, Bool.not_true, Bool.and_false, Bool.true_and, Bool.false_and, Bool.false_or]
       exact le_slots' (by simp only [go_sem])
      ·simp only [go_sem, insL, limL, List.map_cons, List.map_nil, List.cons_append, List.nil_append, c1, c3, c4, eq_self, decide_true, decide_false, Bool.not_true, Bool.and_false, Bool.false_and, Bool.true_and, Bool.false_or]
       exact le_slots' (by simp only [go_sem])
     ·simp only [go_sem, insL, limL, List.map_cons, List.map_nil, List.cons_append, List.nil_append, c1, c3, decide_true, decide_false, Bool.not_true, Bool.and_false, Bool.false_and, Bool.true_and, Bool.false_or]
      exact le_slots' (by simp only [go_sem])
   ·cases hX : chkX X
    ·simp only [go_sem, hX]
     rw [hE, hX]
     exact post_data (.inl rfl) [2] rfl trivial rfl
    ·simp only [go_sem, hX]
     rw [hE, hX]
     exact post_data (.inl rfl) [2] rfl trivial rfl
 ·have hd : (decide (1 <= X.op) && decide (X.op <= 12)) = false := by simp; omega
  have hz : chkE X = 1 := by unfold chkE; rw [if_neg h]
  rw [hz]
  simp only [go_sem, limD, hd]
  exact post_data (.inl rfl) [2] rfl trivial rfl
end Go.AM
namespace Go.AM
open Go Go.Proofs
def chkA : List Ins -> Int
 | [] => 0
 | x :: r => if chkE x = 0 then chkA r else chkE x
def ChkP (code : List Ins) : Int := if 48 < code.length then 9 else chkA code
abbrev codeD (c : List Ins) : D := .sl (some 8) (c.map insD)
def ChkR (ds : List D) (v : AV) : Prop := ∃ c : List Ins, ds = [codeD c] /\ v = .dat (.int .i64 (ChkP c))
abbrev tabCx : List (Nat × Contract) := [(19, dataC chkR)]
theorem tabCx_ok : OkG Tryd.prog (tbl tabCx) := okG_cons check_ok okG_nil
theorem Check_ok : OkF Tryd.prog 11 (dataC ChkR) := by
 refine okF_data Tryd.func11 rfl (by decide) ?_
 rintro ds v ⟨c, rfl, rfl⟩
 refine sem_of_awp (Γ := tbl tabCx) tabCx_ok _ _ _ ?_
 by_cases hl : 48 < c.length
 ·have hl' : (48 : Int) < (c.length : Int) := by omega
  have hz : ChkP c = 9 := by unfold ChkP; rw [if_pos hl]
  rw [hz]
  simp only [go_sem, Tryd.ntmps11, List.length_map, hl', decide_true]
  exact post_data (.inl rfl) [2] rfl trivial rfl
 have hl' : ¬ (48 : Int) < (c.length : Int) := by omega
 have hz : ChkP c = chkA c := by unfold ChkP; rw [if_neg hl]
 rw [hz]
 simp only [go_sem, Tryd.ntmps11, List.length_map, hl', decide_false]
 refine sem_loop (fun k : Nat => ⟨slotsOf 21 [(9, .dat (codeD c)), (10, .dat (.int .i64 c.length)), (11, .dat (.int .i64 k))], [], 0, []⟩)
  (fun k => k <= c.length /\ chkA (c.drop k) = chkA c) (fun k => c.length - k) 0 ⟨Nat.zero_le _, rfl⟩ (le_slots' (by simp only [go_sem, Int.natCast_zero])) ?_
 rintro k ⟨hk, hI⟩
 refine sem_of_awp (Γ := tbl tabCx) tabCx_ok _ _ _ ?_
 cases hd : c.drop k with
 | nil =>
  have hke := end_of_drop hd hk
  have k1 : ¬ (k : Int) < (c.length : Int) := by omega
  rw [hd] at hI
  rw [← hI]
  simp only [go_sem, k1, decide_false, chkA]
  exact post_data (.inl rfl) [2] rfl trivial rfl
 | cons x r =>
  have hlt := lt_of_drop hd
  have k1 : (k : Int) < (c.length : Int) := by omega
  have hx : D.nth (c.map insD) k = insD x := nth_of_drop hd
  rw [hd] at hI
  simp only [chkA] at hI
  simp only [go_sem, k1, decide_true, List.length_map, Int.toNat_natCast, hx]
  refine call_data chkR (by simp) [insD x] _ rfl ⟨x, rfl, rfl⟩ (.inl rfl) ?_
  by_cases h0 : chkE x = 0
  ·rw [if_pos h0, ← drop_cons hd] at hI
   simp only [go_sem, h0, decide_true]
   exact ⟨inR_i64.2 (by omega), k + 1, ⟨by omega, hI⟩, by omega, le_end (own := []) (ex := [_]) (Nat.le_refl _) (by simp only [go_sem, Int.natCast_add, Int.natCast_one, Int.cast_ofNat_Int]) (by simp only [go_sem, AV.unders, AV.under, and_self]) (by simp only [go_sem])⟩
  ·rw [if_neg h0] at hI
   simp only [go_sem, h0, decide_false]
   rw [← hI]
   refine post_resO (mv' := []) (.inl rfl) [.tmp 2] rfl (fun _ h => h) ?_
   simp only [go_sem]
   exact le_fin (by rfl) (by simp only [AV.under])
end Go.AM
namespace Go.AM
open Go Go.Proofs
def inBR (ds : List D) (v : AV) : Prop := ∃ n lo hi : Int, ds = [.int .i64 n, .int .i64 lo, .int .i64 hi] /\ v = .dat (.bool (inB n lo hi))
theorem call_in {l : List (Nat × Contract)} (hm : (20, dataC inBR) ∈ l) {n lo hi : Int} {own : List Obj} {K : AV -> List Obj -> List Nat -> Prop} (h : K (.dat (.bool (inB n lo hi))) own []) :
  callw (tbl l) (.fn 20 []) [.dat (.int .i64 n), .dat (.int .i64 lo), .dat (.int .i64 hi)] own K := call_data inBR hm [.int .i64 n, .int .i64 lo, .int .i64 hi] _ rfl ⟨n, lo, hi, rfl, rfl⟩ (.inl rfl) h
abbrev tabIn : List (Nat × Contract) := [(20, dataC inBR)]
theorem tabIn_ok : OkG Tryd.prog (tbl tabIn) := okG_cons in_ok okG_nil
def protB (x : Ins) : Bool := decide (x.prot = 1) || decide (x.prot = 3)
def fileB (x : Ins) : Bool := inB x.file (-1) 3 && inB x.index 0 15 && (decide (0 <= x.file) || decide (x.index = 0))
def memR (ds : List D) (v : AV) : Prop := ∃ x : Ins, ds = [insD x] /\ v = .dat (.bool (memI x))
theorem memory_ok : OkF Tryd.prog 34 (dataC memR) := by
 refine okF_data Tryd.func34 rfl (by decide) ?_
 rintro ds v ⟨X, rfl, rfl⟩
 refine sem_of_awpK [3, 6] (Γ := tbl tabIn) tabIn_ok _ _ _ ?_
 simp only [go_sem, Tryd.ntmps34]
 refine call_in (by simp) ?_
 simp only [go_sem]
 refine call_in (by simp) ?_
 simp only [go_sem]
 refine sem_to ⟨slotsOf 105 [(1, .ptr 0 0 0), (3, .dat (.bool (inB X.page 0 511))), (4, .dat (.bool (inB X.count 1 512))), (5, .dat (.bool (protB X)))], [.box ((insL X).map .dat)], 0, []⟩ ?_ ?_
 ·refine sem_of_awp (Γ := tbl tabIn) tabIn_ok _ _ _ ?_
  unfold protB
  by_cases h1 : X.prot = 1
  ·simp only [go_sem, insL, List.map_cons, List.map_nil, h1, eq_self, decide_true, Bool.true_or]
   exact le_slots' (by simp only [go_sem])
  ·simp only [go_sem, insL, List.map_cons, List.map_nil, h1, decide_false, Bool.false_or]
   exact le_slots' (by simp only [go_sem])
 by_cases h1 : X.op = 1
 ·have hm : memI X = (inB X.page (-1) 511 && inB X.count 1 512 && protB X && inB X.flags 0 15 && fileB X) := by unfold memI; rw [if_pos h1] <;> rfl
  rw [hm]
  simp only [go_sem, insL, List.map_cons, List.map_nil, h1, eq_self, decide_true]
  refine sem_to ⟨slotsOf 105 [(1, .ptr 0 0 0), (3, .dat (.bool (inB X.page 0 511))), (4, .dat (.bool (inB X.count 1 512))), (5, .dat (.bool (protB X))), (6, .dat (.bool (fileB X)))], [.box ((insL X).map .dat)], 0, []⟩ ?_ ?_
  ·refine sem_of_awp (Γ := tbl tabIn) tabIn_ok _ _ _ ?_
   unfold fileB
   simp only [go_sem, insL, List.map_cons, List.map_nil, h1]
   refine call_in (by simp) ?_
   generalize inB X.file (-1) 3 = b1
   cases b1
   ·simp only [go_sem, Bool.true_and, Bool.false_and, Bool.and_true, Bool.and_false, Bool.and_self, Bool.true_or, Bool.false_or]
    exact le_slots' (by simp only [go_sem])
   ·simp only [go_sem, Bool.true_and, Bool.false_and, Bool.and_true, Bool.and_false, Bool.and_self, Bool.true_or, Bool.false_or]
    refine call_in (by simp) ?_
    generalize inB X.index 0 15 = b2
    cases b2
    ·simp only [go_sem, Bool.true_and, Bool.false_and, Bool.and_true, Bool.and_false, Bool.and_self, Bool.true_or, Bool.false_or]
     exact le_slots' (by simp only [go_sem])
    ·by_cases h3 : 0 <= X.file
     ·simp only [go_sem, Bool.true_and, Bool.false_and, Bool.and_true, Bool.and_false, Bool.and_self, Bool.true_or, Bool.false_or, h3, decide_true]
      exact le_slots' (by simp only [go_sem])
     ·simp only [go_sem, Bool.true_and, Bool.false_and, Bool.and_true, Bool.and_false, Bool.and_self, Bool.true_or, Bool.false_or, h3, decide_false]
      exact le_slots' (by simp only [go_sem])
  simp only [go_sem, insL, List.map_cons, List.map_nil]
  refine call_in (by simp) ?_
  generalize inB X.page (-1) 511 = b5
  cases b5
  ·simp only [go_sem, Bool.true_and, Bool.false_and, Bool.and_true, Bool.and_false, Bool.and_self, Bool.true_or, Bool.false_or]
   exact post_data (.inl rfl) [2] rfl trivial rfl
  ·simp only [go_sem, Bool.true_and, Bool.false_and, Bool.and_true, Bool.and_false, Bool.and_self, Bool.true_or, Bool.false_or]
   generalize inB X.count 1 512 = b4
   cases b4
   ·simp only [go_sem, Bool.true_and, Bool.false_and, Bool.and_true, Bool.and_false, Bool.and_self, Bool.true_or, Bool.false_or]
    exact post_data (.inl rfl) [2] rfl trivial rfl
   ·simp only [go_sem, Bool.true_and, Bool.false_and, Bool.and_true, Bool.and_false, Bool.and_self, Bool.true_or, Bool.false_or]
    generalize protB X = b3
    cases b3
    ·simp only [go_sem, Bool.true_and, Bool.false_and, Bool.and_true, Bool.and_false, Bool.and_self, Bool.true_or, Bool.false_or]
     exact post_data (.inl rfl) [2] rfl trivial rfl
    ·simp only [go_sem, Bool.true_and, Bool.false_and, Bool.and_true, Bool.and_false, Bool.and_self, Bool.true_or, Bool.false_or]
     refine call_in (by simp) ?_
     generalize inB X.flags 0 15 = b2
     cases b2
     ·simp only [go_sem, Bool.true_and, Bool.false_and, Bool.and_true, Bool.and_false, Bool.and_self, Bool.true_or, Bool.false_or]
      exact post_data (.inl rfl) [2] rfl trivial rfl
     ·simp only [go_sem, Bool.true_and, Bool.false_and, Bool.and_true, Bool.and_false, Bool.and_self, Bool.true_or, Bool.false_or]
      exact post_data (.inl rfl) [2] rfl trivial rfl
 by_cases h2 : X.op = 2
 ·have hm : memI X = (inB X.page 0 511 && inB X.count 1 512) := by unfold memI; rw [if_neg h1, if_pos h2] <;> rfl
  rw [hm]
  simp only [go_sem, insL, List.map_cons, List.map_nil, h1, h2, eq_self, decide_true, decide_false]
  generalize inB X.page 0 511 = b2
  cases b2
  ·simp only [go_sem, Bool.true_and, Bool.false_and, Bool.and_true, Bool.and_false, Bool.and_self, Bool.true_or, Bool.false_or]
   exact post_data (.inl rfl) [2] rfl trivial rfl
  ·simp only [go_sem, Bool.true_and, Bool.false_and, Bool.and_true, Bool.and_false, Bool.and_self, Bool.true_or, Bool.false_or]
   exact post_data (.inl rfl) [2] rfl trivial rfl
 by_cases h3 : X.op = 3
 ·have hm : memI X = (inB X.page 0 511 && inB X.count 1 512 && protB X) := by unfold memI; rw [if_neg h1, if_neg h2, if_pos h3] <;> rfl
  rw [hm]
  simp only [go_sem, insL, List.map_cons, List.map_nil, h1, h2, h3, eq_self, decide_true, decide_false]
  generalize inB X.page 0 511 = b3
  cases b3
  ·simp only [go_sem, Bool.true_and, Bool.false_and, Bool.and_true, Bool.and_false, Bool.and_self, Bool.true_or, Bool.false_or]
   exact post_data (.inl rfl) [2] rfl trivial rfl
  ·simp only [go_sem, Bool.true_and, Bool.false_and, Bool.and_true, Bool.and_false, Bool.and_self, Bool.true_or, Bool.false_or]
   generalize inB X.count 1 512 = b2
   cases b2
   ·simp only [go_sem, Bool.true_and, Bool.false_and, Bool.and_true, Bool.and_false, Bool.and_self, Bool.true_or, Bool.false_or]
    exact post_data (.inl rfl) [2] rfl trivial rfl
   ·simp only [go_sem, Bool.true_and, Bool.false_and, Bool.and_true, Bool.and_false, Bool.and_self, Bool.true_or, Bool.false_or]
    exact post_data (.inl rfl) [2] rfl trivial rfl
 by_cases h4 : X.op = 4
 ·have hm : memI X = (inB X.page 0 511 && inB X.count 1 512 && inB X.value 0 1) := by unfold memI; rw [if_neg h1, if_neg h2, if_neg h3, if_pos h4] <;> rfl
  rw [hm]
  simp only [go_sem, insL, List.map_cons, List.map_nil, h1, h2, h3, h4, eq_self, decide_true, decide_false]
  generalize inB X.page 0 511 = b3
  cases b3
  ·simp only [go_sem, Bool.true_and, Bool.false_and, Bool.and_true, Bool.and_false, Bool.and_self, Bool.true_or, Bool.false_or]
   exact post_data (.inl rfl) [2] rfl trivial rfl
  ·simp only [go_sem, Bool.true_and, Bool.false_and, Bool.and_true, Bool.and_false, Bool.and_self, Bool.true_or, Bool.false_or]
   generalize inB X.count 1 512 = b2
   cases b2
   ·simp only [go_sem, Bool.true_and, Bool.false_and, Bool.and_true, Bool.and_false, Bool.and_self, Bool.true_or, Bool.false_or]
    exact post_data (.inl rfl) [2] rfl trivial rfl
   ·simp only [go_sem, Bool.true_and, Bool.false_and, Bool.and_true, Bool.and_false, Bool.and_self, Bool.true_or, Bool.false_or]
    refine call_in (by simp) ?_
    simp only [go_sem, Bool.true_and, Bool.false_and, Bool.and_true, Bool.and_false, Bool.and_self, Bool.true_or, Bool.false_or]
    exact post_data (.inl rfl) [2] rfl trivial rfl
 by_cases h5 : X.op = 5
 ·have hm : memI X = (inB X.page 0 511 && inB X.index 0 31) := by unfold memI; rw [if_neg h1, if_neg h2, if_neg h3, if_neg h4, if_pos h5] <;> rfl
  rw [hm]
  simp only [go_sem, insL, List.map_cons, List.map_nil, h1, h2, h3, h4, h5, eq_self, decide_true, decide_false]
  generalize inB X.page 0 511 = b2
  cases b2
  ·simp only [go_sem, Bool.true_and, Bool.false_and, Bool.and_true, Bool.and_false, Bool.and_self, Bool.true_or, Bool.false_or]
   exact post_data (.inl rfl) [2] rfl trivial rfl
  ·simp only [go_sem, Bool.true_and, Bool.false_and, Bool.and_true, Bool.and_false, Bool.and_self, Bool.true_or, Bool.false_or]
   refine call_in (by simp) ?_
   simp only [go_sem, Bool.true_and, Bool.false_and, Bool.and_true, Bool.and_false, Bool.and_self, Bool.true_or, Bool.false_or]
   exact post_data (.inl rfl) [2] rfl trivial rfl
 have hm : memI X = (inB X.page 0 511 && inB X.index 0 31 && inB X.value 0 255) := by unfold memI; rw [if_neg h1, if_neg h2, if_neg h3, if_neg h4, if_neg h5] <;> rfl
 rw [hm]
 simp only [go_sem, insL, List.map_cons, List.map_nil, h1, h2, h3, h4, h5, eq_self, decide_true, decide_false]
 generalize inB X.page 0 511 = b3
 cases b3
 ·simp only [go_sem, Bool.true_and, Bool.false_and, Bool.and_true, Bool.and_false, Bool.and_self, Bool.true_or, Bool.false_or]
  exact post_data (.inl rfl) [2] rfl trivial rfl
 ·simp only [go_sem, Bool.true_and, Bool.false_and, Bool.and_true, Bool.and_false, Bool.and_self, Bool.true_or, Bool.false_or]
  refine call_in (by simp) ?_
  generalize inB X.index 0 31 = b2
  cases b2
  ·simp only [go_sem, Bool.true_and, Bool.false_and, Bool.and_true, Bool.and_false, Bool.and_self, Bool.true_or, Bool.false_or]
   exact post_data (.inl rfl) [2] rfl trivial rfl
  ·simp only [go_sem, Bool.true_and, Bool.false_and, Bool.and_true, Bool.and_false, Bool.and_self, Bool.true_or, Bool.false_or]
   refine call_in (by simp) ?_
   simp only [go_sem, Bool.true_and, Bool.false_and, Bool.and_true, Bool.and_false, Bool.and_self, Bool.true_or, Bool.false_or]
   exact post_data (.inl rfl) [2] rfl trivial rfl
def rngR (ds : List D) (v : AV) : Prop := ∃ x : Ins, ds = [insD x] /\ v = .dat (.bool (rngI x))
abbrev tabRg : List (Nat × Contract) := [(20, dataC inBR), (34, dataC memR)]
theorem tabRg_ok : OkG Tryd.prog (tbl tabRg) := okG_cons in_ok (okG_cons memory_ok okG_nil)
def placeB (x : Ins) : Bool := inB x.file 0 3 && inB x.page 0 15 && inB x.index 0 31
theorem ranges_ok : OkF Tryd.prog 22 (dataC rngR) := by
 refine okF_data Tryd.func22 rfl (by decide) ?_
 rintro ds v ⟨X, rfl, rfl⟩
 refine sem_of_awpK [2] (Γ := tbl tabRg) tabRg_ok _ _ _ ?_
 simp only [go_sem, Tryd.ntmps22]
 refine call_in (by simp) ?_
 simp only [go_sem]
 refine sem_to ⟨slotsOf 52 [(1, .ptr 0 0 0), (3, .dat (.bool (inB X.file 0 3))), (4, .dat (.bool (placeB X)))], [.box ((insL X).map .dat)], 0, []⟩ ?_ ?_
 ·refine sem_of_awp (Γ := tbl tabRg) tabRg_ok _ _ _ ?_
  unfold placeB
  generalize inB X.file 0 3 = b1
  cases b1
  ·simp only [go_sem, insL, List.map_cons, List.map_nil, Bool.true_and, Bool.false_and, Bool.and_true, Bool.and_false, Bool.and_self, Bool.true_or, Bool.false_or]
   exact le_slots' (by simp only [go_sem])
  ·simp only [go_sem, insL, List.map_cons, List.map_nil, Bool.true_and, Bool.false_and, Bool.and_true, Bool.and_false, Bool.and_self, Bool.true_or, Bool.false_or]
   refine call_in (by simp) ?_
   generalize inB X.page 0 15 = b2
   cases b2
   ·simp only [go_sem, Bool.true_and, Bool.false_and, Bool.and_true, Bool.and_false, Bool.and_self, Bool.true_or, Bool.false_or]
    exact le_slots' (by simp only [go_sem])
   ·simp only [go_sem, Bool.true_and, Bool.false_and, Bool.and_true, Bool.and_false, Bool.and_self, Bool.true_or, Bool.false_or]
    refine call_in (by simp) ?_
    simp only [go_sem, Bool.true_and, Bool.false_and, Bool.and_true, Bool.and_false, Bool.and_self, Bool.true_or, Bool.false_or]
    exact le_slots' (by simp only [go_sem])
 by_cases h7 : X.op = 7
 ·have hm : rngI X = (placeB X) := by unfold rngI; rw [if_pos h7] <;> rfl
  rw [hm]
  simp only [go_sem, insL, List.map_cons, List.map_nil, h7, eq_self, decide_true, decide_false]
  exact post_data (.inl rfl) [2] rfl trivial rfl
 by_cases h8 : X.op = 8
 ·have hm : rngI X = (placeB X && inB X.value 0 255) := by unfold rngI; rw [if_neg h7, if_pos h8] <;> rfl
  rw [hm]
  simp only [go_sem, insL, List.map_cons, List.map_nil, h7, h8, eq_self, decide_true, decide_false]
  generalize placeB X = b2
  cases b2
  ·simp only [go_sem, Bool.true_and, Bool.false_and, Bool.and_true, Bool.and_false, Bool.and_self, Bool.true_or, Bool.false_or]
   exact post_data (.inl rfl) [2] rfl trivial rfl
  ·simp only [go_sem, Bool.true_and, Bool.false_and, Bool.and_true, Bool.and_false, Bool.and_self, Bool.true_or, Bool.false_or]
   refine call_in (by simp) ?_
   simp only [go_sem, Bool.true_and, Bool.false_and, Bool.and_true, Bool.and_false, Bool.and_self, Bool.true_or, Bool.false_or]
   exact post_data (.inl rfl) [2] rfl trivial rfl
 by_cases h9 : X.op = 9
 ·have hm : rngI X = (inB X.file 0 3 && inB X.count 0 16) := by unfold rngI; rw [if_neg h7, if_neg h8, if_pos h9] <;> rfl
  rw [hm]
  simp only [go_sem, insL, List.map_cons, List.map_nil, h7, h8, h9, eq_self, decide_true, decide_false]
  generalize inB X.file 0 3 = b2
  cases b2
  ·simp only [go_sem, Bool.true_and, Bool.false_and, Bool.and_true, Bool.and_false, Bool.and_self, Bool.true_or, Bool.false_or]
   exact post_data (.inl rfl) [2] rfl trivial rfl
  ·simp only [go_sem, Bool.true_and, Bool.false_and, Bool.and_true, Bool.and_false, Bool.and_self, Bool.true_or, Bool.false_or]
   refine call_in (by simp) ?_
   simp only [go_sem, Bool.true_and, Bool.false_and, Bool.and_true, Bool.and_false, Bool.and_self, Bool.true_or, Bool.false_or]
   exact post_data (.inl rfl) [2] rfl trivial rfl
 by_cases h10 : X.op = 10
 ·have hm : rngI X = (inB X.file 0 3) := by unfold rngI; rw [if_neg h7, if_neg h8, if_neg h9, if_pos h10] <;> rfl
  rw [hm]
  simp only [go_sem, insL, List.map_cons, List.map_nil, h7, h8, h9, h10, eq_self, decide_true, decide_false]
  exact post_data (.inl rfl) [2] rfl trivial rfl
 by_cases h11 : X.op = 11
 ·have hm : rngI X = (inB X.value 0 48) := by unfold rngI; rw [if_neg h7, if_neg h8, if_neg h9, if_neg h10, if_pos h11] <;> rfl
  rw [hm]
  simp only [go_sem, insL, List.map_cons, List.map_nil, h7, h8, h9, h10, h11, eq_self, decide_true, decide_false]
  refine call_in (by simp) ?_
  simp only [go_sem, Bool.true_and, Bool.false_and, Bool.and_true, Bool.and_false, Bool.and_self, Bool.true_or, Bool.false_or]
  exact post_data (.inl rfl) [2] rfl trivial rfl
 by_cases h12 : X.op = 12
 ·have hm : rngI X = (true) := by unfold rngI; rw [if_neg h7, if_neg h8, if_neg h9, if_neg h10, if_neg h11, if_pos h12] <;> rfl
  rw [hm]
  simp only [go_sem, insL, List.map_cons, List.map_nil, h7, h8, h9, h10, h11, h12, eq_self, decide_true, decide_false]
  exact post_data (.inl rfl) [2] rfl trivial rfl
 have hm : rngI X = (memI X) := by unfold rngI; rw [if_neg h7, if_neg h8, if_neg h9, if_neg h10, if_neg h11, if_neg h12] <;> rfl
 rw [hm]
 simp only [go_sem, insL, List.map_cons, List.map_nil, h7, h8, h9, h10, h11, h12, eq_self, decide_true, decide_false]
 refine call_data memR (by simp) [insD X] _ rfl ⟨X, rfl, rfl⟩ (.inl rfl) ?_
 simp only [go_sem]
 exact post_data (.inl rfl) [2] rfl trivial rfl
end Go.AM
namespace Go.AM
open Go Go.Proofs
def rchkA : List Ins -> Int
 | [] => 0
 | x :: r => if rchkE x = 0 then rchkA r else rchkE x
def RChkP (code : List Ins) : Int := if 48 < code.length then 9 else rchkA code
theorem RChk_eq (code : List Ins) : RChkP code = ChkP code := by
 unfold RChkP ChkP
 have : rchkA code = chkA code := by
  induction code with
  | nil => rfl
  | cons x r ih => simp only [rchkA, chkA, chk_eq, ih]
 rw [this]
def Ins.ok (x : Ins) : Prop := inR .i64 x.op /\ inR .i64 x.page /\ inR .i64 x.count /\ inR .i64 x.index /\ inR .i64 x.value /\ inR .i64 x.file /\ inR .i64 x.prot /\ inR .i64 x.flags
theorem inR_0 : inR .i64 0 := inR_i64.2 (by decide)
theorem ok_ite {p : Prop} [Decidable p] {a b : Ins} (ha : a.ok) (hb : b.ok) : (if p then a else b).ok := by
 by_cases h : p
 ·rw [if_pos h]; exact ha
 ·rw [if_neg h]; exact hb
theorem used_ok' {x : Ins} (h : x.ok) : (usedI x).ok := by
 obtain ⟨h1, h2, h3, h4, h5, h6, h7, h8⟩ := h
 unfold usedI
 repeat' refine ok_ite ?_ ?_
 all_goals
  refine ⟨?_, ?_, ?_, ?_, ?_, ?_, ?_, ?_⟩ <;> first | assumption | exact inR_0
theorem ok_nums {x : Ins} (h : x.ok) : numsD (insL x) (insL zI) := by
 obtain ⟨h1, h2, h3, h4, h5, h6, h7, h8⟩ := h
 simp only [insL, zI, List.map_cons, List.map_nil, numsD, true_and, and_true]
 exact ⟨h1, h2, h3, h4, h5, h6, h7, h8⟩
theorem insEq0 : eqOk Tryd.prog 36 (.dat (.agg (insL zI))) (.dat (.agg (insL zI))) = true := by kernel_rfl
theorem flat_ins (x y : Ins) : D.flatEqs (insL x) (insL y) = decide (x = y) := by
 cases x; cases y
 simp only [insL, List.map_cons, List.map_nil, D.flatEqs, D.flatEq, Bool.and_true, Ins.mk.injEq]
 simp only [Bool.decide_and, beq_self_eq_true, Bool.true_and, decide_true, ← Bool.beq_eq_decide_eq]
theorem bin_neq_ins {x y : Ins} {K : AV -> Prop} (hx : x.ok) (hy : y.ok) : binTop Tryd.prog .neq 36 (.dat (insD x)) (.dat (insD y)) K = K (.dat (.bool (!decide (x = y)))) := by
 have := bin_neq_agg (K := K) insEq0 (ok_nums hx) (ok_nums hy)
 rw [flat_ins] at this
 exact this
def RChkR (ds : List D) (v : AV) : Prop := ∃ c : List Ins, ds = [codeD c] /\ (∀ x ∈ c, x.ok) /\ v = .dat (.int .i64 (RChkP c))
abbrev tabRx : List (Nat × Contract) := [(20, dataC inBR), (21, dataC usedR), (22, dataC rngR)]
theorem tabRx_ok : OkG Tryd.prog (tbl tabRx) := okG_cons in_ok (okG_cons used_ok (okG_cons ranges_ok okG_nil))
theorem tabRx_data : ∀ g C, (g, C) ∈ tabRx -> g ∈ [20, 21] -> ∃ R, C = dataC R := by
 intro g C h _
 simp only [tabRx, List.mem_cons, Prod.mk.injEq, List.not_mem_nil, or_false] at h
 rcases h with ⟨_, rfl⟩ | ⟨_, rfl⟩ | ⟨_, rfl⟩ <;> exact ⟨_, rfl⟩
theorem RCheck_ok : OkF Tryd.prog 12 (dataC RChkR) := by
 refine okF_data Tryd.func12 rfl (by decide) ?_
 rintro ds v ⟨c, rfl, hok, rfl⟩
 refine sem_of_awp (Γ := tbl tabRx) tabRx_ok _ _ _ ?_
 by_cases hl : 48 < c.length
 ·have hl' : (48 : Int) < (c.length : Int) := by omega
  have hz : RChkP c = 9 := by unfold RChkP; rw [if_pos hl]
  rw [hz]
  simp only [go_sem, Tryd.ntmps12, List.length_map, hl', decide_true]
  exact post_data (.inl rfl) [2] rfl trivial rfl
 have hl' : ¬ (48 : Int) < (c.length : Int) := by omega
 have hz : RChkP c = rchkA c := by unfold RChkP; rw [if_neg hl]
 rw [hz]
 simp only [go_sem, Tryd.ntmps12, List.length_map, hl', decide_false]
 refine sem_loop (fun k : Nat => ⟨slotsOf 38 [(0, .dat (codeD c)), (3, .dat (.int .i64 k))], [], 0, []⟩)
  (fun k => k <= c.length /\ rchkA (c.drop k) = rchkA c) (fun k => c.length - k) 0 ⟨Nat.zero_le _, rfl⟩ (le_slots' (by simp only [go_sem, Int.natCast_zero])) ?_
 rintro k ⟨hk, hI⟩
 refine sem_of_awp (Γ := tbl tabRx) tabRx_ok _ _ _ ?_
 cases hd : c.drop k with
 | nil =>
  have hke := end_of_drop hd hk
  have k1 : ¬ (k : Int) < (c.length : Int) := by omega
  rw [hd] at hI
  rw [← hI]
  simp only [go_sem, List.length_map, k1, decide_false, rchkA]
  exact post_data (.inl rfl) [2] rfl trivial rfl
 | cons x r =>
  have hlt := lt_of_drop hd
  have k1 : (k : Int) < (c.length : Int) := by omega
  have hx : D.nth (c.map insD) k = insD x := nth_of_drop hd
  rw [hd] at hI
  simp only [rchkA] at hI
  simp only [go_sem, k1, decide_true, List.length_map, Int.toNat_natCast, hx]
  refine sem_to ⟨slotsOf 38 [(0, .dat (codeD c)), (3, .dat (.int .i64 k)), (31, .dat (.bool (!inB x.op 1 12 || !decide (usedI x = x))))], [], 0, []⟩ ?_ ?_
  ·refine sem_drawU [] [] (pf := [20, 21]) (mf := []) mixed tabRx_ok (pure_of tabRx_data) (grow_of tabRx_data) noMk (ones [0, 1, 2, 3, 4, 5, 6, 7, 8, 9, 10, 11, 12, 13, 14, 15, 16, 17, 18]) (by kernel_rfl) ?_
   simp only [go_sem, k1, decide_true, List.length_map, Int.toNat_natCast, hx]
   refine call_in (by simp) ?_
   cases hb : inB x.op 1 12
   ·simp only [go_sem, hb, Bool.not_false, Bool.true_or]
    exact le_slots' (by simp only [go_sem])
   ·simp only [go_sem, hb, Bool.not_true, Bool.false_or, k1, List.length_map, Int.toNat_natCast, hx]
    refine call_data usedR (by simp) [insD x] _ rfl ⟨x, rfl, rfl⟩ (.inl rfl) ?_
    have hxo := hok x (mem_of_drop hd)
    simp only [go_sem, k1, List.length_map, Int.toNat_natCast, hx, bin_neq_ins (used_ok' hxo) hxo]
    exact le_slots' (by simp only [go_sem])
  ·by_cases h1 : (!inB x.op 1 12 || !decide (usedI x = x)) = true
   ·have hz : rchkE x = 1 := by
     unfold rchkE
     rw [if_pos]
     simpa using h1
    rw [hz, if_neg (by decide)] at hI
    rw [← hI, h1]
    simp only [go_sem]
    exact post_data (.inl rfl) [2] rfl trivial rfl
   ·have h1' : (!inB x.op 1 12 || !decide (usedI x = x)) = false := by simpa using h1
    have hz : rchkE x = if rngI x then 0 else 2 := by
     unfold rchkE
     rw [if_neg]
     simpa using h1
    rw [h1']
    simp only [go_sem, k1, List.length_map, Int.toNat_natCast, hx]
    refine call_data rngR (by simp) [insD x] _ rfl ⟨x, rfl, rfl⟩ (.inl rfl) ?_
    cases hr : rngI x
    ·rw [hr] at hz
     rw [hz] at hI
     simp only [go_sem, Bool.not_false]
     rw [← hI]
     exact post_data (.inl rfl) [2] rfl trivial rfl
    ·rw [hr] at hz
     rw [hz, if_pos (by rfl), ← drop_cons hd] at hI
     simp only [go_sem, Bool.not_true]
     exact ⟨inR_i64.2 (by omega), k + 1, ⟨by omega, hI⟩, by omega, le_slots' (by simp only [go_sem, Int.natCast_add, Int.natCast_one, Int.cast_ofNat_Int])⟩
end Go.AM
namespace Go.AM
open Go Go.Proofs
def flagW : List Str := [[115, 104, 97, 114, 101, 100], [103, 114, 111, 119, 115], [108, 111, 99, 107, 101, 100], [104, 117, 103, 101]]
theorem flags_ok : OkF Tryd.prog 59 (dataC fun ds v => ds = [] /\ v = .dat (.agg (flagW.map D.str))) := by
 refine okF_data Tryd.func59 rfl (by decide) ?_
 rintro ds v ⟨rfl, rfl⟩
 refine sem_of_awp (Γ := tbl []) okG_nil _ _ _ ?_
 simp only [go_sem, Tryd.ntmps59]
 refine ⟨rfl, ?_⟩
 refine post_resO (mv' := []) (.inl rfl) [.cell 0 81] rfl (fun _ h => h) ?_
 simp only [go_sem, flagW, List.map_cons, List.map_nil]
 exact le_data (by simp only [AV.under])
end Go.AM
namespace Go.AM
open Go Go.Proofs
def spJ (w : Str) (ts : List Str) : Str := ts.foldl (fun a t => a ++ ([32] ++ t)) w
def wAny : Str := [97, 110, 121]
def wMap : Str := [109, 97, 112]
def wUnmap : Str := [117, 110, 109, 97, 112]
def wProtect : Str := [112, 114, 111, 116, 101, 99, 116]
def wLock : Str := [108, 111, 99, 107]
def wUnlock : Str := [117, 110, 108, 111, 99, 107]
def wLoad : Str := [108, 111, 97, 100]
def wStore : Str := [115, 116, 111, 114, 101]
def wRead : Str := [114, 101, 97, 100]
def wWrite : Str := [119, 114, 105, 116, 101]
def wTruncate : Str := [116, 114, 117, 110, 99, 97, 116, 101]
def wSync : Str := [115, 121, 110, 99]
def wFork : Str := [102, 111, 114, 107]
def wExit : Str := [101, 120, 105, 116]
def wFile : Str := [102, 105, 108, 101]
def protT (n : Int) : Str := if n = 1 then [114] else [114, 119]
def flagT (f : Int) : List Str := (if f % 2 = 1 then [flagW.getD 0 []] else []) ++ (if f / 2 % 2 = 1 then [flagW.getD 1 []] else []) ++ (if f / 4 % 2 = 1 then [flagW.getD 2 []] else []) ++ (if f / 8 % 2 = 1 then [flagW.getD 3 []] else [])
def tokI (x : Ins) : Str × List Str :=
 if x.op = 1 then (wMap, [if x.page = -1 then wAny else Lib.itoa x.page, Lib.itoa x.count, protT x.prot] ++ flagT x.flags ++ (if x.file = -1 then [] else [wFile, Lib.itoa x.file, Lib.itoa x.index]))
 else if x.op = 2 then (wUnmap, [Lib.itoa x.page, Lib.itoa x.count])
 else if x.op = 3 then (wProtect, [Lib.itoa x.page, Lib.itoa x.count, protT x.prot])
 else if x.op = 4 then (if x.value = 0 then wUnlock else wLock, [Lib.itoa x.page, Lib.itoa x.count])
 else if x.op = 5 then (wLoad, [Lib.itoa x.page, Lib.itoa x.index])
 else if x.op = 6 then (wStore, [Lib.itoa x.page, Lib.itoa x.index, Lib.itoa x.value])
 else if x.op = 7 then (wRead, [Lib.itoa x.file, Lib.itoa x.page, Lib.itoa x.index])
 else if x.op = 8 then (wWrite, [Lib.itoa x.file, Lib.itoa x.page, Lib.itoa x.index, Lib.itoa x.value])
 else if x.op = 9 then (wTruncate, [Lib.itoa x.file, Lib.itoa x.count])
 else if x.op = 10 then (wSync, [Lib.itoa x.file])
 else if x.op = 11 then (wFork, [Lib.itoa x.value])
 else (wExit, [])
def lineI (x : Ins) : Str := spJ (tokI x).1 (tokI x).2
theorem spJ_app (w : Str) (a b : List Str) : spJ w (a ++ b) = spJ (spJ w a) b := by simp [spJ, List.foldl_append]
theorem spJ_cons (w t : Str) (b : List Str) : spJ w (t :: b) = spJ (w ++ ([32] ++ t)) b := rfl
theorem spJ_nil (w : Str) : spJ w [] = w := rfl
theorem spJ_out (u w : Str) : ∀ ts, spJ (u ++ w) ts = u ++ spJ w ts := fun ts => by
 induction ts generalizing w with
 | nil => rfl
 | cons t ts ih => rw [spJ_cons, spJ_cons, List.append_assoc, ih]
theorem spJ_len : ∀ (ts : List Str) (w : Str) (k : Nat), (∀ t ∈ ts, t.length <= k) -> (spJ w ts).length <= w.length + (k + 1) * ts.length
 | [], w, k, _ => by simp [spJ]
 | t :: ts, w, k, h => by
  have h1 := spJ_len ts (w ++ ([32] ++ t)) k (fun m hm => h m (by simp [hm]))
  have h2 := h t (by simp)
  rw [spJ_cons, List.length_cons, Nat.mul_add]
  simp only [List.length_append, List.length_cons, List.length_nil] at h1
  omega
theorem spJ_join (w : Str) (ns : List Int) : joinS w ns = spJ w (ns.map Lib.itoa) := by
 induction ns generalizing w with
 | nil => rfl
 | cons n ns ih => simp only [joinS, List.foldl_cons, List.map_cons, spJ_cons] at ih ⊢; exact ih _
end Go.AM
namespace Go.AM
open Go Go.Proofs
def buildI (o p : Int) (n : List Int) (first : Str) : Ins :=
 if o = 1 then { zI with op := o, page := n.getD 1 0, count := n.getD 2 0, prot := p, file := -1 }
 else if o = 3 then { zI with op := o, page := n.getD 1 0, count := n.getD 2 0, prot := p }
 else if o = 4 then { zI with op := o, page := n.getD 1 0, count := n.getD 2 0, value := if first = wLock then 1 else 0 }
 else if o = 5 ∨ o = 6 then { zI with op := o, page := n.getD 1 0, index := n.getD 2 0, value := n.getD 3 0 }
 else if o = 7 ∨ o = 8 then { zI with op := o, file := n.getD 1 0, page := n.getD 2 0, index := n.getD 3 0, value := n.getD 4 0 }
 else if o = 9 ∨ o = 10 then { zI with op := o, file := n.getD 1 0, count := n.getD 2 0 }
 else if o = 11 then { zI with op := o, value := n.getD 1 0 }
 else { zI with op := o, page := n.getD 1 0, count := n.getD 2 0 }
def buildR (ds : List D) (v : AV) : Prop := ∃ (o p a b c d e : Int) (first : Str), ds = [.int .i64 o, .int .i64 p, .agg (([a, b, c, d, e] : List Int).map (D.int .i64)), .str first] /\ v = .dat (insD (buildI o p [a, b, c, d, e] first))
theorem build_ok : OkF Tryd.prog 43 (dataC buildR) := by
 refine okF_data Tryd.func43 rfl (by decide) ?_
 rintro ds v ⟨o, p, a, b, c, d, e, first, rfl, rfl⟩
 refine sem_of_awp (Γ := tbl []) okG_nil _ _ _ ?_
 by_cases h1 : o = 1
 ·subst h1
  simp only [go_sem, Tryd.ntmps43, List.map_cons, List.map_nil, eq_self, decide_true]
  refine post_resO (mv' := []) (.inl rfl) [.cell 8 36] rfl (fun _ h => h) ?_
  simp only [go_sem]
  exact le_fin (by rfl) (by simp only [AV.under])
 by_cases h3 : o = 3
 ·subst h3
  simp only [go_sem, Tryd.ntmps43, List.map_cons, List.map_nil, eq_self, decide_true]
  refine post_resO (mv' := []) (.inl rfl) [.cell 8 36] rfl (fun _ h => h) ?_
  simp only [go_sem]
  exact le_fin (by rfl) (by simp only [AV.under])
 by_cases h5 : o = 5
 ·subst h5
  simp only [go_sem, Tryd.ntmps43, List.map_cons, List.map_nil, eq_self, decide_true]
  refine post_resO (mv' := []) (.inl rfl) [.cell 8 36] rfl (fun _ h => h) ?_
  simp only [go_sem]
  exact le_fin (by rfl) (by simp only [AV.under])
 by_cases h6 : o = 6
 ·subst h6
  simp only [go_sem, Tryd.ntmps43, List.map_cons, List.map_nil, eq_self, decide_true]
  refine post_resO (mv' := []) (.inl rfl) [.cell 8 36] rfl (fun _ h => h) ?_
  simp only [go_sem]
  exact le_fin (by rfl) (by simp only [AV.under])
 by_cases h7 : o = 7
 ·subst h7
  simp only [go_sem, Tryd.ntmps43, List.map_cons, List.map_nil, eq_self, decide_true]
  refine post_resO (mv' := []) (.inl rfl) [.cell 8 36] rfl (fun _ h => h) ?_
  simp only [go_sem]
  exact le_fin (by rfl) (by simp only [AV.under])
 by_cases h8 : o = 8
 ·subst h8
  simp only [go_sem, Tryd.ntmps43, List.map_cons, List.map_nil, eq_self, decide_true]
  refine post_resO (mv' := []) (.inl rfl) [.cell 8 36] rfl (fun _ h => h) ?_
  simp only [go_sem]
  exact le_fin (by rfl) (by simp only [AV.under])
 by_cases h9 : o = 9
 ·subst h9
  simp only [go_sem, Tryd.ntmps43, List.map_cons, List.map_nil, eq_self, decide_true]
  refine post_resO (mv' := []) (.inl rfl) [.cell 8 36] rfl (fun _ h => h) ?_
  simp only [go_sem]
  exact le_fin (by rfl) (by simp only [AV.under])
 by_cases h10 : o = 10
 ·subst h10
  simp only [go_sem, Tryd.ntmps43, List.map_cons, List.map_nil, eq_self, decide_true]
  refine post_resO (mv' := []) (.inl rfl) [.cell 8 36] rfl (fun _ h => h) ?_
  simp only [go_sem]
  exact le_fin (by rfl) (by simp only [AV.under])
 by_cases h11 : o = 11
 ·subst h11
  simp only [go_sem, Tryd.ntmps43, List.map_cons, List.map_nil, eq_self, decide_true]
  refine post_resO (mv' := []) (.inl rfl) [.cell 8 36] rfl (fun _ h => h) ?_
  simp only [go_sem]
  exact le_fin (by rfl) (by simp only [AV.under])
 by_cases h4 : o = 4
 ·subst h4
  by_cases hf : first = wLock
  ·have hb : buildI 4 p [a, b, c, d, e] first = ⟨4, b, c, 0, 1, 0, 0, 0⟩ := by subst hf; rfl
   rw [hb]
   unfold wLock at hf
   simp only [go_sem, Tryd.ntmps43, List.map_cons, List.map_nil, hf, eq_self, decide_true]
   refine post_resO (mv' := []) (.inl rfl) [.cell 8 36] rfl (fun _ h => h) ?_
   simp only [go_sem]
   exact le_fin (by rfl) (by simp only [AV.under])
  ·have hb : buildI 4 p [a, b, c, d, e] first = ⟨4, b, c, 0, 0, 0, 0, 0⟩ := by
    show (⟨4, b, c, 0, if first = wLock then 1 else 0, 0, 0, 0⟩ : Ins) = _
    rw [if_neg hf]
   rw [hb]
   unfold wLock at hf
   simp only [go_sem, Tryd.ntmps43, List.map_cons, List.map_nil, hf, eq_self, decide_true, decide_false]
   refine post_resO (mv' := []) (.inl rfl) [.cell 8 36] rfl (fun _ h => h) ?_
   simp only [go_sem]
   exact le_fin (by rfl) (by simp only [AV.under])
 have hb : buildI o p [a, b, c, d, e] first = ⟨o, b, c, 0, 0, 0, 0, 0⟩ := by
  unfold buildI
  simp only [h1, h3, h4, h5, h6, h7, h8, h9, h10, h11, or_self, if_false]
  rfl
 rw [hb]
 simp only [go_sem, Tryd.ntmps43, List.map_cons, List.map_nil, h1, h3, h4, h5, h6, h7, h8, h9, h10, h11, decide_false]
 refine post_resO (mv' := []) (.inl rfl) [.cell 8 36] rfl (fun _ h => h) ?_
 simp only [go_sem]
 exact le_fin (by rfl) (by simp only [AV.under])
end Go.AM
namespace Go.AM
open Go Go.Proofs
def flg : List Str -> Int -> Int -> List Str -> Int × List Str
 | [], _, fl, w => (fl, w)
 | _ :: ns, bit, fl, [] => flg ns (bit + bit) fl []
 | n :: ns, bit, fl, h :: t => if h = n then flg ns (bit + bit) (fl + bit) t else flg ns (bit + bit) fl (h :: t)
def optE (y : Ins) : List Str -> Ins × Bool
 | [] => (y, true)
 | [a, b, c] => if a = wFile /\ ¬ numN b < 0 /\ ¬ numN c < 0 then ({ y with file := numN b, index := numN c }, true) else (y, false)
 | _ => (y, false)
def optI (x : Ins) (w : List Str) : Ins × Bool := optE { x with flags := (flg flagW 1 0 w).1 } (flg flagW 1 0 w).2
theorem optE_bad (y : Ins) (w : List Str) (h0 : w.length ≠ 0) (h3 : w.length ≠ 3) : optE y w = (y, false) := by
 match w with
 | [] => exact absurd rfl h0
 | [_] => rfl
 | [_, _] => rfl
 | [_, _, _] => exact absurd rfl h3
 | _ :: _ :: _ :: _ :: _ => rfl
def optR (ds : List D) (v : AV) : Prop := ∃ (x : Ins) (w : List Str), ds = [insD x, .sl none (w.map .str)] /\ x.flags = 0 /\ w.length <= 1000000 /\ (∀ s ∈ w, s.length <= 1000000) /\ v = .tup [.dat (insD (optI x w).1), .dat (.bool (optI x w).2)]
abbrev tabNum : List (Nat × Contract) := [(41, dataC numR)]
theorem tabNum_ok : OkG Tryd.prog (tbl tabNum) := okG_cons number_ok okG_nil
def hitB (n : Str) : List Str -> Bool
 | [] => false
 | h :: _ => decide (h = n)
theorem flg_step (n : Str) (ns : List Str) (bit fl : Int) (w : List Str) : flg (n :: ns) bit fl w = if hitB n w then flg ns (bit + bit) (fl + bit) w.tail else flg ns (bit + bit) fl w := by
 cases w with
 | nil => rfl
 | cons h t => simp only [flg, hitB, decide_eq_true_eq, List.tail_cons]
theorem flg_len : ∀ (ns : List Str) (bit fl : Int) (w : List Str), (flg ns bit fl w).2.length <= w.length
 | [], _, _, w => Nat.le_refl _
 | _ :: ns, bit, fl, [] => flg_len ns _ _ []
 | n :: ns, bit, fl, h :: t => by
  unfold flg
  split
  ·exact Nat.le_trans (flg_len ns _ _ t) (Nat.le_succ _)
  ·exact flg_len ns _ _ _
theorem flg_mem : ∀ (ns : List Str) (bit fl : Int) (w : List Str), ∀ s ∈ (flg ns bit fl w).2, s ∈ w
 | [], _, _, w => fun s h => h
 | _ :: ns, bit, fl, [] => flg_mem ns _ _ []
 | n :: ns, bit, fl, h :: t => by
  unfold flg
  split
  ·exact fun s hs => List.mem_cons_of_mem _ (flg_mem ns _ _ t s hs)
  ·exact flg_mem ns _ _ _
theorem options_ok : OkF Tryd.prog 44 (dataC optR) := by
 refine okF_data Tryd.func44 rfl (by decide) ?_
 rintro ds v ⟨x, w0, rfl, hx, hw0, hws, rfl⟩
 refine sem_of_awpK [12] (Γ := tbl tabNum) tabNum_ok _ _ _ ?_
 simp only [go_sem, Tryd.ntmps44]
 refine sem_loop (fun p : Nat × Int × Int × List Str => ⟨slotsOf 78 [(1, .dat (.sl none (p.2.2.2.map .str))), (2, .ptr 0 0 0), (4, .ptr 1 0 0), (6, .sl 2 0 4), (7, .dat (.int .i64 p.2.1)), (8, .dat (.int .i64 p.1))], [.box ((insL { x with flags := p.2.2.1 }).map .dat), .box ((insL zI).map .dat), .row none (flagW.map D.str)], 0, []⟩)
  (fun p => ((p.1 = 0 /\ p.2.1 = 1) ∨ (p.1 = 1 /\ p.2.1 = 2) ∨ (p.1 = 2 /\ p.2.1 = 4) ∨ (p.1 = 3 /\ p.2.1 = 8) ∨ (p.1 = 4 /\ p.2.1 = 16)) /\ 0 <= p.2.2.1 /\ p.2.2.1 < p.2.1 /\ p.2.2.2.length <= w0.length /\ flg (flagW.drop p.1) p.2.1 p.2.2.1 p.2.2.2 = flg flagW 1 0 w0) (fun p => 4 - p.1) (0, 1, 0, w0) ⟨.inl ⟨rfl, rfl⟩, Int.le_refl _, by show (0 : Int) < 1; decide, Nat.le_refl _, rfl⟩ ?_ ?_
 ·obtain ⟨op, page, count, index, value, file, prot, flags⟩ := x
  simp only at hx
  subst hx
  exact le_slots' (by simp only [go_sem, List.map_cons, List.map_nil])
 rintro ⟨k, bit, fl, w⟩ ⟨hkb, hf0, hf1, hwl, hI⟩
 simp only at hkb hf0 hf1 hwl hI ⊢
 refine sem_of_awpK [12] (Γ := tbl tabNum) tabNum_ok _ _ _ ?_
 by_cases hlt : k < 4
 ·have k1 : (k : Int) < 4 := by omega
  have k0 : (0 : Int) <= (k : Int) := by omega
  obtain ⟨n, ns, hd⟩ : ∃ n ns, flagW.drop k = n :: ns := ⟨_, _, List.drop_eq_getElem_cons (by show k < 4; omega)⟩
  have hn : D.nth (flagW.map D.str) k = .str n := nth_of_drop hd
  rw [hd] at hI
  rw [flg_step, ← drop_cons hd] at hI
  simp only [go_sem, k1, decide_true]
  refine sem_to ⟨slotsOf 78 [(1, .dat (.sl none (w.map .str))), (2, .ptr 0 0 0), (4, .ptr 1 0 0), (6, .sl 2 0 4), (7, .dat (.int .i64 bit)), (8, .dat (.int .i64 k)), (28, .dat (.bool (hitB n w)))], [.box ((insL { x with flags := fl }).map .dat), .box ((insL zI).map .dat), .row none (flagW.map D.str)], 0, []⟩ ?_ ?_
  ·refine sem_drawU [] [] (pf := []) (mf := []) mixed tabNum_ok pureNo growNo noMk (ones [0, 1, 2, 3, 4, 5, 6, 7, 8, 9, 10, 11, 12]) (by kernel_rfl) ?_
   cases w with
   | nil =>
    simp only [go_sem, List.map_nil, List.length_nil, hitB, Int.natCast_zero]
    exact le_slots' (by simp only [go_sem])
   | cons h t =>
    have hl1 : (0 : Int) < ((t.length + 1 : Nat) : Int) := by omega
    have hn0 : D.nth (D.str h :: t.map D.str) 0 = .str h := rfl
    simp only [go_sem, List.map_cons, List.length_cons, List.length_map, hl1, hitB, hn0, hn, k0, k1, decide_true, Int.toNat_natCast]
    exact ⟨by show k < 4; omega, le_slots' (by simp only [go_sem])⟩
  ·cases hh : hitB n w with
   | true =>
    obtain ⟨h, t, rfl⟩ : ∃ h t, w = h :: t := by cases w with | nil => cases hh | cons h t => exact ⟨h, t, rfl⟩
    rw [hh, if_pos rfl, List.tail_cons] at hI
    have h1 : (1 : Int) <= ((t.length + 1 : Nat) : Int) := by omega
    have ht : (t.map D.str).take (((t.length + 1 : Nat) : Int) - 1).toNat = t.map D.str := List.take_of_length_le (by rw [List.length_map]; omega)
    simp only [go_sem, insL, List.map_cons, List.map_nil, List.length_cons, List.length_map, ht]
    simp only [List.length_cons] at hwl
    refine ⟨inR_i64.2 (by omega), by omega, Int.le_refl _, inR_i64.2 (by omega), inR_i64.2 (by omega), (k + 1, bit + bit, fl + bit, t), ⟨by simp only; omega, by show 0 <= fl + bit; omega, by show fl + bit < bit + bit; omega, by show t.length <= _; omega, hI⟩, by show 4 - (k + 1) < _; omega, ?_⟩
    exact le_slots' (by simp only [go_sem, Int.natCast_add, Int.natCast_one, Int.cast_ofNat_Int])
   | false =>
    rw [hh, if_neg (by decide)] at hI
    simp only [go_sem]
    refine ⟨inR_i64.2 (by omega), inR_i64.2 (by omega), (k + 1, bit + bit, fl, w), ⟨by simp only; omega, by show 0 <= fl; omega, by show fl < bit + bit; omega, hwl, hI⟩, by show 4 - (k + 1) < _; omega, ?_⟩
    exact le_slots' (by simp only [go_sem, Int.natCast_add, Int.natCast_one, Int.cast_ofNat_Int])
 ·have hk4 : k = 4 := by omega
  subst hk4
  have hd4 : flagW.drop 4 = [] := rfl
  rw [hd4] at hI
  simp only [flg] at hI
  have hmem : ∀ s ∈ w, s.length <= 1000000 := fun s hs => hws s (flg_mem flagW 1 0 w0 s (by rw [← hI]; exact hs))
  unfold optI
  rw [← hI]
  simp only
  have hy : ({ x with flags := fl } : Ins) = ⟨x.op, x.page, x.count, x.index, x.value, x.file, x.prot, fl⟩ := rfl
  generalize ({ x with flags := fl } : Ins) = y at *
  obtain ⟨op, page, count, index, value, file, prot, flags⟩ := y
  by_cases hw3 : w.length = 0
  ·have : w = [] := List.eq_nil_of_length_eq_zero hw3
   subst this
   simp only [go_sem, insL, List.map_cons, List.map_nil, List.length_nil, Int.natCast_zero]
   refine post_resO (mv' := []) (.inl rfl) [.cell 4 36, .tmp 5] rfl (fun _ h => h) ?_
   simp only [go_sem]
   exact le_fin (by rfl) (by simp only [AV.under, AV.unders, and_self])
  have z0 : ¬ (w.length : Int) = 0 := by omega
  by_cases hw33 : w.length = 3
  ·match w, hw33 with
   | [a, b, c], _ =>
    simp only [go_sem, insL, List.map_cons, List.map_nil, List.length_cons, List.length_nil]
    have ha := hmem a (by simp)
    have hb := hmem b (by simp)
    have hc := hmem c (by simp)
    have e0 : D.nth [D.str a, D.str b, D.str c] 0 = .str a := rfl
    have e1 : D.nth [D.str a, D.str b, D.str c] 1 = .str b := rfl
    have e2 : D.nth [D.str a, D.str b, D.str c] 2 = .str c := rfl
    refine sem_to ⟨slotsOf 78 [(1, .dat (.sl none [D.str a, D.str b, D.str c])), (2, .ptr 0 0 0), (4, .ptr 1 0 0), (65, .dat (.bool (!decide (a = wFile /\ ¬ numN b < 0 /\ ¬ numN c < 0))))], [.box ((insL ⟨op, page, count, index, value, file, prot, flags⟩).map .dat), .box ((insL zI).map .dat), .row none (flagW.map D.str)], 0, []⟩ ?_ ?_
    ·refine sem_of_awp (Γ := tbl tabNum) tabNum_ok _ _ _ ?_
     unfold wFile
     by_cases c1 : a = [102, 105, 108, 101]
     ·subst c1
      simp only [go_sem, insL, List.map_cons, List.map_nil, List.length_cons, List.length_nil, e0, e1, e2, eq_self, decide_true, true_and]
      refine call_data numR (by simp) [.str b] _ rfl ⟨b, rfl, hb, rfl⟩ (.inl rfl) ?_
      by_cases c2 : numN b < 0
      ·simp only [go_sem, c2, decide_true, not_true, false_and, decide_false]
       exact le_slots' (by simp only [go_sem])
      ·simp only [go_sem, c2, decide_false, not_false, true_and, e0, e1, e2]
       refine call_data numR (by simp) [.str c] _ rfl ⟨c, rfl, hc, rfl⟩ (.inl rfl) ?_
       by_cases c3 : numN c < 0
       ·simp only [go_sem, c3, decide_true, not_true, decide_false]
        exact le_slots' (by simp only [go_sem])
       ·simp only [go_sem, c3, decide_false, not_false, decide_true]
        exact le_slots' (by simp only [go_sem])
     ·simp only [go_sem, insL, List.map_cons, List.map_nil, List.length_cons, List.length_nil, e0, c1, false_and, decide_false]
      exact le_slots' (by simp only [go_sem])
    ·by_cases hg : a = wFile /\ ¬ numN b < 0 /\ ¬ numN c < 0
     ·have ho : optE ⟨op, page, count, index, value, file, prot, flags⟩ [a, b, c] = (⟨op, page, count, numN c, value, numN b, prot, flags⟩, true) := if_pos hg
      rw [ho, decide_eq_true hg]
      simp only [go_sem, insL, List.map_cons, List.map_nil, e0, e1, e2, Bool.not_true, List.length_cons, List.length_nil]
      refine call_data numR (by simp) [.str b] _ rfl ⟨b, rfl, hb, rfl⟩ (.inl rfl) ?_
      simp only [go_sem, e0, e1, e2, List.length_cons, List.length_nil]
      refine call_data numR (by simp) [.str c] _ rfl ⟨c, rfl, hc, rfl⟩ (.inl rfl) ?_
      simp only [go_sem]
      refine post_resO (mv' := []) (.inl rfl) [.cell 4 36, .tmp 5] rfl (fun _ h => h) ?_
      simp only [go_sem]
      exact le_fin (by rfl) (by simp only [AV.under, AV.unders, and_self])
     ·have ho : optE ⟨op, page, count, index, value, file, prot, flags⟩ [a, b, c] = (⟨op, page, count, index, value, file, prot, flags⟩, false) := if_neg hg
      rw [ho, decide_eq_false hg]
      simp only [go_sem, insL, List.map_cons, List.map_nil, Bool.not_false]
      refine post_resO (mv' := []) (.inl rfl) [.cell 4 36, .tmp 5] rfl (fun _ h => h) ?_
      simp only [go_sem]
      exact le_fin (by rfl) (by simp only [AV.under, AV.unders, and_self])
  ·have z3 : ¬ (w.length : Int) = 3 := by omega
   rw [optE_bad _ w hw3 hw33]
   simp only [go_sem, insL, List.map_cons, List.map_nil, List.length_map, z0, z3]
   refine sem_of_awp (Γ := tbl tabNum) tabNum_ok _ _ _ ?_
   simp only [go_sem, List.length_map, z3]
   refine post_resO (mv' := []) (.inl rfl) [.cell 4 36, .tmp 5] rfl (fun _ h => h) ?_
   simp only [go_sem]
   exact le_fin (by rfl) (by simp only [AV.under, AV.unders, and_self])
end Go.AM

