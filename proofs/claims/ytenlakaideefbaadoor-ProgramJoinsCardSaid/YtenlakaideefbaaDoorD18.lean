/- Own work over the model of the kit. -/
import Derived.Test.YtenlakaideefbaaDoorD17
import Derived.Test.YtenlakaideefbaaDoorD15
import Derived.Test.YtenlakaideefbaaDoorD13
import Derived.Test.YtenlakaideefbaaDoorD16
import Derived.Test.YtenlakaideefbaaDoorD10
set_option linter.unnecessarySimpa false
set_option linter.unusedSimpArgs false
set_option linter.unusedVariables false
set_option maxHeartbeats 4000000
set_option maxRecDepth 8000
namespace Go.AM
open Go Go.Proofs
def splitC (c : UInt8) : Str -> List Str
 | [] => [[]]
 | b :: t => if b = c then [] :: splitC c t else match splitC c t with
  | [] => [[b]]
  | x :: r => (b :: x) :: r
theorem splitC_cons (c b : UInt8) (t : Str) : splitC c (b :: t) = if b = c then [] :: splitC c t else match splitC c t with
  | [] => [[b]]
  | x :: r => (b :: x) :: r := rfl
theorem splitC_ne (c : UInt8) : ∀ s : Str, splitC c s ≠ []
 | [] => by simp [splitC]
 | b :: t => by
  unfold splitC
  split
  ·simp
  ·split <;> simp
theorem splitC_none {c : UInt8} : ∀ {s : Str}, idxB s c < 0 -> splitC c s = [s]
 | [], _ => rfl
 | b :: t, h => by
  unfold idxB Lib.indexByte at h
  have hge := Lib.indexByte_ge t c
  split at h
  ·omega
  ·rename_i hb
   split at h
   ·rename_i h1
    have h1' : Lib.indexByte t c = -1 := by simpa using h1
    have ih := splitC_none (c := c) (s := t) (by unfold idxB; omega)
    have hb' : b ≠ c := by simpa using hb
    unfold splitC
    rw [if_neg hb', ih]
   ·rename_i h1
    have : Lib.indexByte t c ≠ -1 := by simpa using h1
    omega
theorem splitC_some {c : UInt8} : ∀ {s : Str} {i : Nat}, idxB s c = i -> splitC c s = s.take i :: splitC c (s.drop (i + 1))
 | [], i, h => by unfold idxB Lib.indexByte at h; omega
 | b :: t, i, h => by
  unfold idxB Lib.indexByte at h
  have hge := Lib.indexByte_ge t c
  split at h
  ·rename_i hb
   have hb' : b = c := by simpa using hb
   have : i = 0 := by omega
   subst this
   rw [splitC_cons, if_pos hb']
   rfl
  ·rename_i hb
   have hb' : b ≠ c := by simpa using hb
   split at h
   ·omega
   ·rename_i h1
    have h2 : Lib.indexByte t c ≠ -1 := by simpa using h1
    obtain ⟨j, rfl⟩ : ∃ j, i = j + 1 := ⟨i - 1, by omega⟩
    have ih := splitC_some (c := c) (s := t) (i := j) (show Lib.indexByte t c = j by omega)
    rw [splitC_cons, if_neg hb', ih]
    rfl
def iterRun {ε : Type} (f : Str -> ε -> ε ⊕ List Obj) : List Str -> ε -> ε ⊕ List Obj
 | [], E => .inl E
 | p :: ps, E => match f p E with
  | .inl E' => iterRun f ps E'
  | .inr o => .inr o
structure IterW (P : Program) (n : Nat) (c : UInt8) {ε : Type} (W : ε -> Str -> List Obj) (M : List Nat) (f : Str -> ε -> ε ⊕ List Obj) (J : List Str -> ε -> Prop) : Prop where
 g0 : ∀ E s, (W E s).getD n .dead = .box [.dat (.str s)]
 g1 : ∀ E s, (W E s).getD (n + 1) .dead = .box [.dat (.str [c])]
 g2 : ∀ E s, (W E s).getD (n + 2) .dead = .box [.dat (.int .i64 0)]
 s0 : ∀ E s s', (W E s).set n (.box [.dat (.str s')]) = W E s'
 nM : ∀ o ∈ M, o < n ∨ n + 3 < o
 step : ∀ E s p ps, J (p :: ps) E -> ∃ r cs b own' mv, (W E s).getD (n + 3) .dead = .lp r cs /\ r.params.size = 1 /\ RoundW P (n + 3) r [.dat (.str p)] (W E s) b own' mv /\ (∀ o ∈ mv, o ∈ M) /\
  (match f p E with
   | .inl E' => b = true /\ own' = W E' s /\ J ps E'
   | .inr O => b = false /\ own'.set n .dead = O)
def iterOut {ε : Type} (W : ε -> Str -> List Obj) (n : Nat) : ε ⊕ List Obj -> List Obj
 | .inl E => (W E []).set n .dead
 | .inr O => O
def iterC : Contract := fun args own v own' mv => ∃ (n : Nat) (c : UInt8) (ε : Type) (W : ε -> Str -> List Obj) (M : List Nat) (f : Str -> ε -> ε ⊕ List Obj) (J : List Str -> ε -> Prop) (E : ε) (s : Str), IterW Tryd.prog n c W M f J /\
 args = [.yld (n + 3), .ptr (n + 1) 0 0, .ptr n 0 0, .ptr (n + 2) 0 0] /\ s.length <= 9000000000000000000 /\ own = W E s /\ J (splitC c s) E /\ v = .tup [] /\ mv = M /\
 own' = iterOut W n (iterRun f (splitC c s) E)
theorem PutE_eff {d : Tmp} {K : S -> Prop} {sl : List AV} {own own' : List Obj} {n : Nat} {m kl : List Nat} {v : AV} : PutE (some d) K ⟨sl, own, n, m⟩ v own' kl = K ⟨(killAll kl sl).set d v, own', n, addMv n m kl⟩ := rfl
theorem mem_addMv2 : ∀ (kl mv : List Nat) (n0 o : Nat), o ∈ addMv n0 mv kl -> o ∈ mv ∨ o ∈ kl
 | [], mv, n0, o, h => .inl (by simpa [addMv] using h)
 | k :: kl, mv, n0, o, h => by
  simp only [addMv] at h
  rcases mem_addMv2 kl _ n0 o h with h1 | h1
  ·split at h1
   ·split at h1
    ·exact .inl h1
    ·rcases List.mem_append.1 h1 with h2 | h2
     ·exact .inl h2
     ·exact .inr (by simp at h2; simp [h2])
   ·exact .inl h1
  ·exact .inr (List.mem_cons_of_mem _ h1)
theorem killAll_same : ∀ (kl : List Nat) (s : List AV), (∀ a ∈ s, ∀ o ∈ kl, a.kill o = a) -> killAll kl s = s
 | [], _, _ => rfl
 | o :: kl, s, h => by
  simp only [killAll]
  have e : AV.kills o s = s := by
   have : ∀ l : List AV, (∀ a ∈ l, a.kill o = a) -> AV.kills o l = l := by
    intro l
    induction l with
    | nil => intro _; rfl
    | cons a l ih => intro hl; simp only [AV.kills]; rw [hl a (by simp), ih (fun b hb => hl b (by simp [hb]))]
   exact this s fun a ha => h a ha o (by simp)
  rw [e]
  exact killAll_same kl s fun a ha k hk => h a ha k (by simp [hk])
theorem iter_len {ε : Type} {W : ε -> Str -> List Obj} {n : Nat} (s0 : ∀ E s s', (W E s).set n (.box [.dat (.str s')]) = W E s') (E : ε) (s s' : Str) : (W E s).set n .dead = (W E s').set n .dead := by
 rw [← s0 E s' s, List.set_set]
def okA (n : Nat) : AV -> Bool
 | .top => true
 | .dat _ => true
 | .yld m => m == n + 3
 | .ptr m _ _ => m == n || m == n + 1 || m == n + 2
 | _ => false
theorem okA_kill {n : Nat} {kl : List Nat} (h : ∀ o ∈ kl, o < n ∨ n + 3 < o) {sl : List AV} (hs : sl.all (okA n) = true) : killAll kl sl = sl := by
 refine killAll_same kl sl fun a ha o ho => ?_
 have h1 := List.all_eq_true.1 hs a ha
 have h2 := h o ho
 cases a <;> simp only [okA, Bool.or_eq_true, beq_iff_eq, Bool.false_eq_true] at h1 <;> simp only [AV.kill]
 ·rw [if_neg]; omega
 ·rw [if_neg]; omega
abbrev tabIt : List (Nat × Contract) := [(57, dataC idxSR)]
theorem tabIt_ok : OkG Tryd.prog (tbl tabIt) := okG_cons strIndex_ok okG_nil
theorem iter_ok : OkF Tryd.prog 55 iterC := by
 refine okF_of_sem Tryd.func55 rfl (by decide) ?_
 rintro args own v own' mv ⟨n, c, ε, W, M, f, J, E, s, hW, rfl, hsl, rfl, hJ, rfl, rfl, rfl⟩
 obtain ⟨g0, g1, g2, s0, nM, step⟩ := hW
 generalize hR : iterRun f (splitC c s) E = R
 generalize hN : (W E s).length = N
 refine sem_of_awpK [8, 10] (Γ := tbl tabIt) tabIt_ok _ _ _ ?_
 simp only [go_sem, Tryd.ntmps55, g1, List.length_cons, List.length_nil]
 have M1 : ∀ kl : List Nat, (∀ o ∈ kl, o ∈ mv) -> ∀ o ∈ kl, o < n ∨ n + 3 < o := fun kl h o ho => nM o (h o ho)
 refine sem_loop (fun p : ε × Str => ⟨slotsOf 52 [(0, .yld (n + 3)), (1, .ptr (n + 1) 0 0), (2, .ptr n 0 0), (3, .ptr (n + 2) 0 0)], W p.1 p.2, N, mv⟩)
  (fun p => p.2.length <= 9000000000000000000 /\ J (splitC c p.2) p.1 /\ iterRun f (splitC c p.2) p.1 = R) (fun p => p.2.length) (E, s) ⟨hsl, hJ, hR⟩ ?_ ?_
 ·exact Le.trans (le_mvs (by simp)) (le_slots' (by simp only [go_sem]))
 rintro ⟨E, s⟩ ⟨hsl, hJ, hR⟩
 simp only at hsl hJ hR ⊢
 refine sem_of_awpK [8, 10] (Γ := tbl tabIt) tabIt_ok _ _ _ ?_
 simp only [go_sem, g0, g1, g2]
 refine call_data idxSR (by simp) [.str s, .str [c]] _ rfl ⟨s, c, rfl, rfl⟩ (.inl rfl) ?_
 have hi := idxB_le s c
 generalize hidx : idxB s c = i at hi
 by_cases hneg : i < 0
 ·have hsp := splitC_none (c := c) (s := s) (by rw [hidx]; exact hneg)
  rw [hsp] at hJ hR
  obtain ⟨r, cs, b, ow, kl, y1, y2, y3, y4, y5⟩ := step E s s [] hJ
  have hk1 := M1 kl y4
  simp only [go_sem, hneg]
  refine sem_regionY tabIt_ok ?_
  refine .inr ?_
  simp only [go_sem]
  refine .inr ?_
  simp only [go_sem, g0]
  refine .inl ?_
  simp only [go_sem]
  refine ⟨r, cs, b, ow, kl, y1, y2, y3, ?_⟩
  rw [PutE_eff, okA_kill hk1 (by simp [okA])]
  have hmv2 : ∀ o ∈ addMv N mv kl, o ∈ mv := fun o ho => (mem_addMv2 _ _ _ _ ho).elim id (y4 o)
  generalize addMv N mv kl = mv2 at hmv2
  simp only [go_sem]
  refine post_resO (mv' := mv) (.inr rfl) [] rfl (fun _ h => h) ?_
  simp only [go_sem]
  have hfin : ow.set n .dead = iterOut W n R := by
   rw [← hR]
   simp only [iterRun]
   cases hf : f s E with
   | inl E' =>
    rw [hf] at y5
    obtain ⟨_, rfl, _⟩ := y5
    exact iter_len s0 _ _ _
   | inr O =>
    rw [hf] at y5
    exact y5.2
  rw [← hfin]
  exact Le.trans (le_dead n) (le_mvs hmv2)
 ·obtain ⟨j, rfl⟩ : ∃ j : Nat, i = j := ⟨i.toNat, by omega⟩
  have hsp := splitC_some (c := c) (s := s) hidx
  rw [hsp] at hJ hR
  obtain ⟨r, cs, b, ow, kl, y1, y2, y3, y4, y5⟩ := step E s _ _ hJ
  have hk1 := M1 kl y4
  have hj0 : (0 : Int) <= (j : Int) := by omega
  have hj1 : (j : Int) <= s.length := by omega
  simp only [go_sem, hneg, g0, g1, g2, Int.add_zero, Int.sub_zero, List.drop_zero, hj0, hj1]
  refine ⟨inR_i64.2 (by omega), ?_⟩
  refine sem_regionY tabIt_ok ?_
  refine .inr ?_
  simp only [go_sem]
  refine .inr ?_
  simp only [go_sem, g0]
  refine .inl ?_
  simp only [go_sem]
  refine ⟨r, cs, b, ow, kl, y1, y2, y3, ?_⟩
  rw [PutE_eff, okA_kill hk1 (by simp [okA])]
  have hmv2 : ∀ o ∈ addMv N mv kl, o ∈ mv := fun o ho => (mem_addMv2 _ _ _ _ ho).elim id (y4 o)
  generalize addMv N mv kl = mv2 at hmv2
  refine .inr ?_
  cases hf : f (s.take j) E with
  | inr O =>
   rw [hf] at y5
   obtain ⟨rfl, y6⟩ := y5
   simp only [go_sem]
   refine post_resO (mv' := mv) (.inl rfl) [] rfl (fun _ h => h) ?_
   simp only [go_sem]
   have hfin : ow.set n .dead = iterOut W n R := by
    rw [← hR]
    simp only [iterRun, hf]
    exact y6
   rw [← hfin]
   exact Le.trans (le_dead n) (le_mvs hmv2)
  | inl E' =>
   rw [hf] at y5
   obtain ⟨rfl, rfl, y6⟩ := y5
   have e1 : ((j : Int) + 1).toNat = j + 1 := by omega
   have e2 : ((s.length : Int) - ((j : Int) + 1)).toNat = s.length - (j + 1) := by omega
   have e3 : (s.drop (j + 1)).take (s.length - (j + 1)) = s.drop (j + 1) := List.take_of_length_le (by rw [List.length_drop]; exact Nat.le_refl _)
   have hjlt : j < s.length := by
    rcases idxB_lt c s with h | ⟨_, h⟩
    ·rw [hidx] at h; omega
    ·rw [hidx] at h; omega
   simp only [go_sem, g0, g1, List.length_cons, List.length_nil, e1, e2, e3, s0]
   refine ⟨inR_i64.2 (by omega), by omega, by omega, Int.le_refl _, (E', s.drop (j + 1)), ⟨by simp only [List.length_drop]; omega, y6, ?_⟩, by simp only [List.length_drop]; omega, ?_⟩
   ·rw [← hR]; simp only [iterRun, hf]
   ·exact Le.trans (le_mvs hmv2) (le_slots' (by simp only [go_sem]))
end Go.AM
namespace Go.AM
open Go Go.Proofs
def wRun : Str -> Str -> List Str
 | w, [] => if w = [] then [] else [w]
 | w, b :: t => if b = 32 then (if w = [] then wRun [] t else w :: wRun [] t) else wRun (w ++ [b]) t
def wordsW (s : Str) : List Str := (splitC 32 s).filter fun w => !decide (w = [])
theorem wRun_eq : ∀ (s w : Str), wRun w s = (match splitC 32 s with | [] => [] | x :: r => (w ++ x) :: r).filter fun w => !decide (w = [])
 | [], w => by
  unfold wRun
  by_cases h : w = []
  ·simp [splitC, h]
  ·simp [splitC, h]
 | b :: t, w => by
  have h0 := splitC_ne 32 t
  have h1 := wRun_eq t
  unfold wRun
  rw [splitC_cons]
  by_cases hb : b = 32
  ·rw [if_pos hb, if_pos hb]
   have h2 := h1 []
   cases hs : splitC 32 t with
   | nil => exact absurd hs h0
   | cons x r =>
    rw [hs] at h2
    simp only [List.nil_append] at h2
    by_cases hw : w = []
    ·rw [if_pos hw, h2, hw]; simp
    ·rw [if_neg hw, h2]; simp [hw]
  ·rw [if_neg hb, if_neg hb]
   have h2 := h1 (w ++ [b])
   cases hs : splitC 32 t with
   | nil => exact absurd hs h0
   | cons x r =>
    rw [hs] at h2
    simp only [List.append_assoc] at h2
    rw [h2]; simp
theorem wordsW_run (s : Str) : wRun [] s = wordsW s := by
 rw [wRun_eq]
 unfold wordsW
 cases hs : splitC 32 s with
 | nil => rfl
 | cons x r => rfl
def lRun : Str -> Str -> List Str
 | c, [] => if c = [] then [] else [c]
 | c, b :: t => if b = 10 then c :: lRun [] t else lRun (c ++ [b]) t
def linesW (s : Str) : List Str := lRun [] s
theorem wRun_cons (w : Str) (b : UInt8) (t : Str) : wRun w (b :: t) = if b = 32 then (if w = [] then wRun [] t else w :: wRun [] t) else wRun (w ++ [b]) t := rfl
theorem lRun_cons (w : Str) (b : UInt8) (t : Str) : lRun w (b :: t) = if b = 10 then w :: lRun [] t else lRun (w ++ [b]) t := rfl
theorem byte_eq (b c : UInt8) (k : Int) (hc : (c.toNat : Int) = k) : ((b.toNat : Int) = k) = (b = c) := by
 apply propext
 constructor
 ·intro h
  exact UInt8.toNat_inj.1 (by omega)
 ·rintro rfl; exact hc
def strsR (f : Str -> List Str) (ds : List D) (v : AV) : Prop := ∃ s : Str, ds = [.str s] /\ s.length <= 1000000 /\ v = .dat (.sl none ((f s).map .str))
theorem words41_ok : OkF Tryd.prog 25 (dataC (strsR wordsW)) := by
 refine okF_data Tryd.func25 rfl (by decide) ?_
 rintro ds v ⟨s, rfl, hmx, rfl⟩
 rw [← wordsW_run]
 generalize hV : wRun [] s = V
 refine sem_of_awp (Γ := tbl []) okG_nil _ _ _ ?_
 simp only [go_sem, Tryd.ntmps25]
 refine sem_le (le_addnil 3 none rfl (Nat.zero_le _)) ?_
 simp only [go_sem]
 refine sem_loop (fun p : Nat × Str × List Str => ⟨slotsOf 36 [(0, .dat (.str s)), (3, .sl 0 0 p.2.2.length), (4, .dat (.str p.2.1)), (5, .dat (.int .i64 p.1))], [.row none (p.2.2.map D.str)], 0, []⟩)
  (fun p => p.1 <= s.length + 1 /\ p.2.1.length <= p.1 /\ p.2.2.length <= p.1 /\ (if p.1 <= s.length then p.2.2 ++ wRun p.2.1 (s.drop p.1) = V else p.2.2 = V)) (fun p => s.length + 1 - p.1) (0, [], []) ⟨Nat.zero_le _, Nat.le_refl _, Nat.le_refl _, by simpa using hV⟩ ?_ ?_
 ·exact le_slots' (by simp only [go_sem, List.length_nil])
 rintro ⟨i, w, O⟩ ⟨hi, hw, hO, hI⟩
 simp only at hi hw hO hI ⊢
 refine sem_of_awp (Γ := tbl []) okG_nil _ _ _ ?_
 have tkO : (O.map D.str).take O.length = O.map D.str := List.take_of_length_le (by simp)
 by_cases hle : i <= s.length
 ·have k1 : (i : Int) <= (s.length : Int) := by omega
  have k0 : (0 : Int) <= (i : Int) := by omega
  rw [if_pos hle] at hI
  cases hd : s.drop i with
  | nil =>
   have hie : i = s.length := by have := nil_of_drop hd; omega
   have k2 : ¬ (i : Int) < (s.length : Int) := by omega
   rw [hd] at hI
   unfold wRun at hI
   by_cases hw0 : w = []
   ·rw [if_pos hw0, List.append_nil] at hI
    simp only [go_sem, k1, k2, hw0, eq_self, decide_true, decide_false]
    refine ⟨inR_i64.2 (by omega), (i + 1, [], O), ⟨by show i + 1 <= _; omega, by simp, by show O.length <= i + 1; omega, ?_⟩, by show _ - (i + 1) < _; omega, le_slots' (by simp only [go_sem, Int.natCast_add, Int.cast_ofNat_Int])⟩
    rw [if_neg (by show ¬ i + 1 <= _; omega)]; exact hI
   ·rw [if_neg hw0] at hI
    simp only [go_sem, k1, k2, hw0, decide_true, decide_false, List.length_map, tkO]
    refine ⟨by omega, by omega, inR_i64.2 (by omega), (i + 1, [], O ++ [w]), ⟨by show i + 1 <= _; omega, by simp, by simp; omega, ?_⟩, by show _ - (i + 1) < _; omega, ?_⟩
    ·rw [if_neg (by show ¬ i + 1 <= _; omega)]; exact hI
    ·simp only [List.map_append, List.map_cons, List.map_nil]
     refine le_end (own := [_]) (ex := [_]) (Nat.zero_le _) ?_ ?_ ?_
     ·simp only [go_sem, List.length_append, List.length_cons, List.length_nil, Int.natCast_add, Int.cast_ofNat_Int]
     ·simp only [go_sem]
     ·simp only [go_sem, Obj.under, AV.unders, AV.under]
  | cons b t =>
   have hlt := lt_of_drop hd
   have k2 : (i : Int) < (s.length : Int) := by omega
   have hb : s.getD i 0 = b := getD_of_drop hd
   rw [hd, wRun_cons] at hI
   by_cases h32 : b = 32
   ·have hb32 : ((b.toNat : Int) = 32) = True := by subst h32; simp
    rw [if_pos h32] at hI
    by_cases hw0 : w = []
    ·rw [if_pos hw0, ← drop_cons hd] at hI
     simp only [go_sem, k0, k1, k2, hw0, hb, hb32, Int.toNat_natCast, eq_self, decide_true, decide_false]
     refine ⟨inR_i64.2 (by omega), (i + 1, [], O), ⟨by show i + 1 <= _; omega, by simp, by show O.length <= i + 1; omega, ?_⟩, by show _ - (i + 1) < _; omega, le_slots' (by simp only [go_sem, Int.natCast_add, Int.cast_ofNat_Int])⟩
     rw [if_pos (by show i + 1 <= _; omega)]; exact hI
    ·rw [if_neg hw0, ← drop_cons hd] at hI
     simp only [go_sem, k0, k1, k2, hw0, hb, hb32, Int.toNat_natCast, decide_true, decide_false, List.length_map, tkO]
     refine ⟨by omega, by omega, inR_i64.2 (by omega), (i + 1, [], O ++ [w]), ⟨by show i + 1 <= _; omega, by simp, by simp; omega, ?_⟩, by show _ - (i + 1) < _; omega, ?_⟩
     ·rw [if_pos (by show i + 1 <= _; omega)]; rw [← hI]; simp
     ·simp only [List.map_append, List.map_cons, List.map_nil]
      refine le_end (own := [_]) (ex := [_]) (Nat.zero_le _) ?_ ?_ ?_
      ·simp only [go_sem, List.length_append, List.length_cons, List.length_nil, Int.natCast_add, Int.cast_ofNat_Int]
      ·simp only [go_sem]
      ·simp only [go_sem, Obj.under, AV.unders, AV.under]
   ·have hb32 : ((b.toNat : Int) = 32) = False := by
     rw [byte_eq b 32 32 rfl]; exact eq_false h32
    rw [if_neg h32, ← drop_cons hd] at hI
    have hsl : (s.drop i).take ((i : Int) + 1 - (i : Int)).toNat = [b] := by
     rw [hd, show ((i : Int) + 1 - (i : Int)).toNat = 1 by omega]; rfl
    simp only [go_sem, k0, k1, k2, hb, hb32, hsl, Int.toNat_natCast, decide_true, decide_false, List.length_cons, List.length_nil]
    refine ⟨inR_i64.2 (by omega), by omega, by omega, by simp only [maxLen]; omega, inR_i64.2 (by omega), (i + 1, w ++ [b], O), ⟨by show i + 1 <= _; omega, by simp; omega, by show O.length <= i + 1; omega, ?_⟩, by show _ - (i + 1) < _; omega, le_slots' (by simp only [go_sem, Int.natCast_add, Int.cast_ofNat_Int])⟩
    rw [if_pos (by show i + 1 <= _; omega)]; exact hI
 ·have hie : i = s.length + 1 := by omega
  have k1 : ¬ (i : Int) <= (s.length : Int) := by omega
  rw [if_neg hle] at hI
  subst hI
  simp only [go_sem, k1, decide_false]
  refine post_res (.inl rfl) [.tmp 2] rfl ?_
  simp only [go_sem]
  refine Le.trans (le_freeze 0 (ag := none) rfl (Nat.zero_le _)) ?_
  simp only [go_sem, tkO]
  exact le_fin (by simp only [go_sem]) (by simp only [go_sem])
theorem lines41_ok : OkF Tryd.prog 18 (dataC (strsR linesW)) := by
 refine okF_data Tryd.func18 rfl (by decide) ?_
 rintro ds v ⟨s, rfl, hmx, rfl⟩
 unfold linesW
 generalize hV : lRun [] s = V
 refine sem_of_awp (Γ := tbl []) okG_nil _ _ _ ?_
 simp only [go_sem, Tryd.ntmps18]
 refine sem_le (le_addnil 3 none rfl (Nat.zero_le _)) ?_
 simp only [go_sem]
 refine sem_loop (fun p : Nat × Nat × List Str => ⟨slotsOf 36 [(0, .dat (.str s)), (3, .sl 0 0 p.2.2.length), (4, .dat (.int .i64 p.2.1)), (5, .dat (.int .i64 p.1))], [.row none (p.2.2.map D.str)], 0, []⟩)
  (fun p => p.1 <= s.length /\ p.2.1 <= p.1 /\ p.2.2.length <= p.1 /\ p.2.2 ++ lRun ((s.take p.1).drop p.2.1) (s.drop p.1) = V) (fun p => s.length - p.1) (0, 0, []) ⟨Nat.zero_le _, Nat.le_refl _, Nat.le_refl _, by simpa using hV⟩ ?_ ?_
 ·exact le_slots' (by simp only [go_sem, List.length_nil, Int.natCast_zero])
 rintro ⟨i, f, O⟩ ⟨hi, hf, hO, hI⟩
 simp only at hi hf hO hI ⊢
 refine sem_of_awp (Γ := tbl []) okG_nil _ _ _ ?_
 have tkO : (O.map D.str).take O.length = O.map D.str := List.take_of_length_le (by simp)
 have k0 : (0 : Int) <= (i : Int) := by omega
 have kf : (0 : Int) <= (f : Int) := by omega
 have kfi : (f : Int) <= (i : Int) := by omega
 have kis : (i : Int) <= (s.length : Int) := by omega
 cases hd : s.drop i with
 | nil =>
  have hie : i = s.length := by have := nil_of_drop hd; omega
  have k2 : ¬ (i : Int) < (s.length : Int) := by omega
  rw [hd, List.take_of_length_le (by omega)] at hI
  unfold lRun at hI
  by_cases hfl : f < s.length
  ·have k3 : (f : Int) < (s.length : Int) := by omega
   have kfs : (f : Int) <= (s.length : Int) := by omega
   have hne : ¬ s.drop f = [] := fun h => by have := nil_of_drop h; omega
   have hsl : (s.drop f).take ((s.length : Int) - (f : Int)).toNat = s.drop f := List.take_of_length_le (by rw [List.length_drop]; omega)
   rw [if_neg hne] at hI
   subst hI
   simp only [go_sem, k0, kf, k2, k3, kfs, hsl, Int.toNat_natCast, decide_true, decide_false, List.length_map, tkO]
   refine ⟨Int.le_refl _, by omega, by omega, ?_⟩
   refine post_res (.inl rfl) [.tmp 2] rfl ?_
   simp only [go_sem]
   refine Le.trans (le_freeze 0 (ag := none) rfl (Nat.zero_le _)) ?_
   have e3 : (O.map D.str ++ [D.str (s.drop f)]).take (O.length + 1) = O.map D.str ++ [D.str (s.drop f)] := List.take_of_length_le (by simp)
   simp only [go_sem, e3, List.map_append, List.map_cons, List.map_nil]
   exact le_fin (by simp only [go_sem]) (by simp only [go_sem])
  ·have k3 : ¬ (f : Int) < (s.length : Int) := by omega
   have hne : s.drop f = [] := List.drop_eq_nil_of_le (by omega)
   rw [if_pos hne, List.append_nil] at hI
   subst hI
   simp only [go_sem, k0, k2, k3, Int.toNat_natCast, decide_true, decide_false]
   refine post_res (.inl rfl) [.tmp 2] rfl ?_
   simp only [go_sem]
   refine Le.trans (le_freeze 0 (ag := none) rfl (Nat.zero_le _)) ?_
   simp only [go_sem, tkO]
   exact le_fin (by simp only [go_sem]) (by simp only [go_sem])
 | cons b t =>
  have hlt := lt_of_drop hd
  have k2 : (i : Int) < (s.length : Int) := by omega
  have hb : s.getD i 0 = b := getD_of_drop hd
  rw [hd, lRun_cons] at hI
  by_cases h10 : b = 10
  ·have hb10 : ((b.toNat : Int) = 10) = True := by subst h10; simp
   have hsl : (s.drop f).take ((i : Int) - (f : Int)).toNat = (s.take i).drop f := by
    rw [List.drop_take, show ((i : Int) - (f : Int)).toNat = i - f by omega]
   rw [if_pos h10, ← drop_cons hd] at hI
   simp only [go_sem, k0, kf, kfi, kis, k2, hb, hb10, hsl, Int.toNat_natCast, decide_true, List.length_map, tkO]
   refine ⟨by omega, by omega, inR_i64.2 (by omega), inR_i64.2 (by omega), (i + 1, i + 1, O ++ [(s.take i).drop f]), ⟨by show i + 1 <= _; omega, Nat.le_refl _, by simp; omega, ?_⟩, by show _ - (i + 1) < _; omega, ?_⟩
   ·have e : ((s.take (i + 1)).drop (i + 1)) = [] := List.drop_eq_nil_of_le (by rw [List.length_take]; omega)
    simp only [e]
    rw [← hI]; simp
   ·simp only [List.map_append, List.map_cons, List.map_nil]
    refine le_end (own := [_]) (ex := [_]) (Nat.zero_le _) ?_ ?_ ?_
    ·simp only [go_sem, List.length_append, List.length_cons, List.length_nil, Int.natCast_add, Int.cast_ofNat_Int]
    ·simp only [go_sem]
    ·simp only [go_sem, Obj.under, AV.unders, AV.under]
  ·have hb10 : ((b.toNat : Int) = 10) = False := by
    rw [byte_eq b 10 10 rfl]; exact eq_false h10
   rw [if_neg h10, ← drop_cons hd] at hI
   simp only [go_sem, k0, k2, hb, hb10, Int.toNat_natCast, decide_true, decide_false]
   refine ⟨inR_i64.2 (by omega), (i + 1, f, O), ⟨by show i + 1 <= _; omega, by show f <= i + 1; omega, by show O.length <= i + 1; omega, ?_⟩, by show _ - (i + 1) < _; omega, le_slots' (by simp only [go_sem, Int.natCast_add, Int.cast_ofNat_Int])⟩
   have e : (s.take (i + 1)).drop f = (s.take i).drop f ++ [b] := by
    rw [take_of_drop hd, List.drop_append_of_le_length (by rw [List.length_take]; omega)]
   simp only [e]
   exact hI
end Go.AM
namespace Go.AM
open Go Go.Proofs
inductive LO where
 | skip
 | bad (e : Int)
 | ins (x : Ins)
deriving DecidableEq
def skipW (w : List Str) : Bool := decide (w = []) || decide ((w.getD 0 []).getD 0 0 = 35)
def lineR (s : Str) : LO :=
 if skipW (wordsW s) then .skip
 else if (rinsW (wordsW s)).2 then (if rngI (rinsW (wordsW s)).1 then .ins (rinsW (wordsW s)).1 else .bad 2)
 else .bad 4
def runL (f : Str -> LO) : List Str -> Nat -> List Ins -> List Ins × Int × Int
 | [], _, out => if 48 < out.length then ([], 0, 9) else (out, 0, 0)
 | s :: r, i, out => match f s with
  | .skip => runL f r (i + 1) out
  | .bad e => ([], (i + 1 : Nat), e)
  | .ins x => runL f r (i + 1) (out ++ [x])
def parseW (f : Str -> LO) (lines : Str -> List Str) (text : Str) : List Ins × Int × Int := if 4000 < text.length then ([], 0, 9) else runL f (lines text) 0 []
theorem runL_cons (f : Str -> LO) (s : Str) (r : List Str) (i : Nat) (out : List Ins) : runL f (s :: r) i out = match f s with
  | .skip => runL f r (i + 1) out
  | .bad e => ([], (i + 1 : Nat), e)
  | .ins x => runL f r (i + 1) (out ++ [x]) := rfl
abbrev parD (q : List Ins × Int × Int) : AV := .tup [.dat (codeD q.1), .dat (.int .i64 q.2.1), .dat (.int .i64 q.2.2)]
def parR (p : Str -> List Ins × Int × Int) (ds : List D) (v : AV) : Prop := ∃ s : Str, ds = [.str s] /\ s.length <= 1000000 /\ v = parD (p s)
theorem splitC_len (c : UInt8) : ∀ s : Str, (splitC c s).length <= s.length + 1 /\ ∀ x ∈ splitC c s, x.length <= s.length
 | [] => by simp [splitC]
 | b :: t => by
  have ih := splitC_len c t
  rw [splitC_cons]
  by_cases h : b = c
  ·rw [if_pos h]
   refine ⟨by simp only [List.length_cons]; omega, fun x hx => ?_⟩
   rcases List.mem_cons.1 hx with rfl | hx
   ·simp
   ·have := ih.2 x hx; simp only [List.length_cons]; omega
  ·rw [if_neg h]
   cases hs : splitC c t with
   | nil => exact absurd hs (splitC_ne c t)
   | cons y r =>
    rw [hs] at ih
    simp only [List.length_cons] at ih ⊢
    refine ⟨by omega, fun x hx => ?_⟩
    rcases List.mem_cons.1 hx with rfl | hx
    ·have := ih.2 y (by simp); simp only [List.length_cons]; omega
    ·have := ih.2 x (by simp [hx]); omega
theorem wordsW_len (s : Str) : (wordsW s).length <= s.length + 1 /\ ∀ x ∈ wordsW s, x.length <= s.length /\ x ≠ [] := by
 have h := splitC_len 32 s
 refine ⟨Nat.le_trans (List.length_filter_le _ _) h.1, fun x hx => ?_⟩
 obtain ⟨h1, h2⟩ := List.mem_filter.1 hx
 exact ⟨h.2 x h1, by simpa using h2⟩
theorem lRun_len : ∀ (s c : Str), (lRun c s).length <= s.length + 1 /\ ∀ x ∈ lRun c s, x.length <= c.length + s.length
 | [], c => by
  unfold lRun
  split <;> simp
 | b :: t, c => by
  rw [lRun_cons]
  split
  ·have ih := lRun_len t []
   refine ⟨by simp only [List.length_cons]; omega, fun x hx => ?_⟩
   rcases List.mem_cons.1 hx with rfl | hx
   ·simp only [List.length_cons]; omega
   ·have := ih.2 x hx; simp only [List.length_cons, List.length_nil] at this ⊢; omega
  ·have ih := lRun_len t (c ++ [b])
   refine ⟨by simp only [List.length_cons]; omega, fun x hx => ?_⟩
   have := ih.2 x hx
   simp only [List.length_append, List.length_cons, List.length_nil] at this ⊢
   omega
end Go.AM
namespace Go.AM
open Go Go.Proofs
def seqRun {ε α : Type} (f : Str -> ε -> ε ⊕ α) : List Str -> ε -> ε ⊕ α
 | [], E => .inl E
 | p :: ps, E => match f p E with
  | .inl E' => seqRun f ps E'
  | .inr o => .inr o
def inrMap {ε α β : Type} (h : α -> β) : ε ⊕ α -> ε ⊕ β
 | .inl E => .inl E
 | .inr a => .inr (h a)
theorem seqRun_iter {ε α : Type} (f : Str -> ε -> ε ⊕ α) (h : α -> List Obj) : ∀ (l : List Str) (E : ε), iterRun (fun x E => inrMap h (f x E)) l E = inrMap h (seqRun f l E)
 | [], E => rfl
 | p :: ps, E => by
  simp only [iterRun, seqRun]
  cases hf : f p E with
  | inl E' => exact seqRun_iter f h ps E'
  | inr a => rfl
theorem seqRun_inr {ε α : Type} (f : Str -> ε -> ε ⊕ α) (J : List Str -> ε -> Prop) (hJ : ∀ E x ps E', J (x :: ps) E -> f x E = .inl E' -> J ps E') : ∀ (l : List Str) (E : ε) (a : α), J l E -> seqRun f l E = .inr a -> ∃ E' x ps, J (x :: ps) E' /\ f x E' = .inr a
 | [], E, a, _, h => by cases h
 | p :: ps, E, a, hj, h => by
  simp only [seqRun] at h
  cases hf : f p E with
  | inl E' => rw [hf] at h; exact seqRun_inr f J hJ ps E' a (hJ E p ps E' hj hf) h
  | inr o =>
   rw [hf] at h
   cases h
   exact ⟨E, p, ps, hj, hf⟩
theorem seqRun_inl {ε α : Type} (f : Str -> ε -> ε ⊕ α) (J : List Str -> ε -> Prop) (hJ : ∀ E x ps E', J (x :: ps) E -> f x E = .inl E' -> J ps E') : ∀ (l : List Str) (E E' : ε), J l E -> seqRun f l E = .inl E' -> J [] E'
 | [], E, E', hj, h => by cases h; exact hj
 | p :: ps, E, E', hj, h => by
  simp only [seqRun] at h
  cases hf : f p E with
  | inl E2 => rw [hf] at h; exact seqRun_inl f J hJ ps E2 E' (hJ E p ps E2 hj hf) h
  | inr o => rw [hf] at h; cases h
abbrev sqT (s : Str) (c : UInt8) (x : Obj) : List Obj := [.box [.dat (.str s)], .box [.dat (.str [c])], .box [.dat (.int .i64 0)], x]
def sqEnd {ε : Type} (pre : ε -> List Obj) (M : List Nat) (s : Str) (c : UInt8) : ε ⊕ (List Obj × Code) -> Exit -> S -> Prop
 | .inl E' => roundQ true (pre E' ++ sqT s c .dead) M none
 | .inr (O, jc) => roundQ false (O ++ sqT s c .dead) M (some jc)
theorem sqT_kill (s : Str) (c : UInt8) (x : Obj) (o : Nat) : (sqT s c x).map (Obj.killAll [o]) = sqT s c (Obj.killAll [o] x) := by
 simp only [sqT, List.map_cons, List.map_nil, Obj.killAll, killAll, AV.kills, AV.kill]
theorem sqT_set (A : List Obj) (s : Str) (c : UInt8) (x y : Obj) : (A ++ sqT s c x).set (A.length + 3) y = A ++ sqT s c y := by
 rw [List.set_append_right _ _ (by omega)]
 simp [sqT]
theorem sem_splitSeq {l : List (Nat × Contract)} (hΓ : OkG Tryd.prog (tbl l)) (hm : (55, iterC) ∈ l) {g : Operand} {p : Tmp} {assign body : Code} {Q : Exit -> S -> Prop} {sl : List AV} {own : List Obj} {n0 : Nat} {mv0 : List Nat}
  {ε : Type} (n : Nat) (c : UInt8) (s : Str) (pre : ε -> List Obj) (E0 : ε) (M : List Nat) (f : Str -> ε -> ε ⊕ (List Obj × Code)) (J : List Str -> ε -> Prop)
  (hg : ev sl g = .fn 55 [.ptr (n + 1) 0 0, .ptr n 0 0, .ptr (n + 2) 0 0]) (hs : s.length <= 9000000000000000000)
  (hown : own = pre E0 ++ [.box [.dat (.str s)], .box [.dat (.str [c])], .box [.dat (.int .i64 0)]])
  (hpre : ∀ E, (pre E).length = n /\ (pre E).map (Obj.killAll [n + 3]) = pre E)
  (hsl : ∀ kl : List Nat, (∀ o ∈ kl, o ∈ M ∨ o = n + 3) -> killAll kl sl = sl)
  (hM : ∀ o ∈ M, o < n ∨ n + 3 < o)
  (hJ0 : J (splitC c s) E0)
  (hJ : ∀ E x ps E', J (x :: ps) E -> f x E = .inl E' -> J ps E')
  (hO : ∀ E x ps O jc, J (x :: ps) E -> f x E = .inr (O, jc) -> O.length = n /\ O.map (Obj.killAll [n + 3]) = O)
  (hstep : ∀ E s' x ps, J (x :: ps) E -> sem Tryd.prog assign (fun e σ => e = .normal /\ σ.mv = [] /\ sem Tryd.prog body (sqEnd pre M s' c (f x E)) σ) ⟨sl.set p (.dat (.str x)), pre E ++ sqT s' c .dead, n + 4, []⟩)
  (hQ : match seqRun f (splitC c s) E0 with
   | .inl E => Q .normal ⟨sl, pre E ++ [.dead, .box [.dat (.str [c])], .box [.dat (.int .i64 0)], .dead], n0, addMv n0 mv0 M⟩
   | .inr (O, jc) => jumpQ Q (some jc) ⟨sl, O ++ [.dead, .box [.dat (.str [c])], .box [.dat (.int .i64 0)], .dead], n0, addMv n0 mv0 M⟩) :
  sem Tryd.prog (.rangeFunc g #[p] assign body) Q ⟨sl, own, n0, mv0⟩ := by
 refine sem_range hΓ hg ?_
 intro fn dfr
 have hlen : own.length = n + 3 := by rw [hown]; simp [(hpre E0).1]
 simp only [hlen]
 let r : Loop := newLoop fn dfr #[p] assign body
 have hr : newLoop fn dfr #[p] assign body = r := rfl
 simp only [hr]
 have hslk : ∀ kl : List Nat, (∀ o ∈ kl, o ∈ M) -> killAll kl sl = sl := fun kl h => hsl kl fun o ho => .inl (h o ho)
 have hsl1 : killAll [n + 3] sl = sl := hsl _ fun o ho => .inr (by simpa using ho)
 have hslM : killAll M sl = sl := hslk M fun o h => h
 have hslX : killAll ((n + 3) :: M) sl = sl := hsl _ fun o ho => by (rcases List.mem_cons.1 ho with h | h); exact .inr h; exact .inl h
 let W : ε -> Str -> List Obj := fun E s => pre E ++ sqT s c (.lp r sl)
 let h' : List Obj × Code -> List Obj := fun a => a.1 ++ [.dead, .box [.dat (.str [c])], .box [.dat (.int .i64 0)], .lp { r with state := .done, pending := some a.2 } sl]
 have hW : ∀ E s, W E s = pre E ++ sqT s c (.lp r sl) := fun _ _ => rfl
 have nd : ∀ (A : List Obj) (s : Str) (x : Obj), A.length = n -> (A ++ sqT s c x).set n .dead = A ++ [.dead, .box [.dat (.str [c])], .box [.dat (.int .i64 0)], x] := fun A s x h => by
  rw [List.set_append_right _ _ (by omega), h, Nat.sub_self]
  rfl
 have hget : ∀ (A B : List Obj) (k : Nat), A.length = n -> (A ++ B).getD (n + k) .dead = B.getD k .dead := fun A B k h => by
  simp only [List.getD_eq_getElem?_getD]
  rw [List.getElem?_append_right (by omega), h, Nat.add_sub_cancel_left]
 have hit : IterW Tryd.prog n c W M (fun x E => inrMap h' (f x E)) J := by
  refine ⟨fun E s => hget _ _ 0 (hpre E).1, fun E s => hget _ _ 1 (hpre E).1, fun E s => hget _ _ 2 (hpre E).1, fun E s s' => ?_, hM, fun E s' x ps hj => ?_⟩
  ·simp only [hW]
   rw [List.set_append_right _ _ (by have := (hpre E).1; omega), (hpre E).1, Nat.sub_self]
   rfl
  ·have hE := hpre E
   have hstart : ((W E s').map (Obj.killAll [n + 3])).set (n + 3) .dead = pre E ++ sqT s' c .dead := by
    rw [hW, List.map_append, hE.2, sqT_kill]
    have := sqT_set (pre E) s' c (Obj.killAll [n + 3] (.lp r sl)) .dead
    rwa [hE.1] at this
   have hWl : (W E s').length = n + 4 := by rw [hW, List.length_append, hE.1]; rfl
   have hst := hstep E s' x ps hj
   have key : ∀ b ownB pend, ownB.length = n -> ownB.map (Obj.killAll [n + 3]) = ownB -> sqEnd pre M s' c (f x E) = roundQ b (ownB ++ sqT s' c .dead) M pend ->
     RoundW Tryd.prog (n + 3) r [.dat (.str x)] (W E s') b (ownB ++ sqT s' c (.lp (if b then r else { r with state := .done, pending := pend }) sl)) M := by
    intro b ownB pend h1 h2 h3
    have h := round_ok (P := Tryd.prog) (o := n + 3) (r := r) (cs := sl) (args := [.dat (.str x)]) (own := W E s') (b := b) (ownB := ownB ++ sqT s' c .dead) (mvB := M) (pend := pend) (hget _ _ 3 hE.1) rfl rfl (by rw [List.length_append, h1]; show n + 3 < n + 4; omega) (by
     rw [hstart, hsl1, hWl]
     rw [h3] at hst
     exact hst)
    rw [hslM, List.map_append, h2, sqT_kill] at h
    have e := sqT_set ownB s' c (Obj.killAll [n + 3] .dead) (.lp (if b then r else { r with state := .done, pending := pend }) sl)
    rw [h1] at e
    rw [e] at h
    exact h
   cases hf : f x E with
   | inl E' =>
    refine ⟨r, sl, true, W E' s', M, hget _ _ 3 hE.1, rfl, ?_, fun o h => h, rfl, rfl, hJ E x ps E' hj hf⟩
    have h := key true (pre E') none (hpre E').1 (hpre E').2 (by rw [hf]; rfl)
    exact h
   | inr a =>
    obtain ⟨O, jc⟩ := a
    obtain ⟨o1, o2⟩ := hO E x ps O jc hj hf
    refine ⟨r, sl, false, O ++ sqT s' c (.lp { r with state := .done, pending := some jc } sl), M, hget _ _ 3 hE.1, rfl, ?_, fun o h => h, rfl, ?_⟩
    ·exact key false O (some jc) o1 o2 (by rw [hf]; rfl)
    ·exact nd O s' _ o1
 have hcall : tbl l 55 (.yld (n + 3) :: [.ptr (n + 1) 0 0, .ptr n 0 0, .ptr (n + 2) 0 0]) (own ++ [.lp r sl]) (.tup []) (iterOut W n (iterRun (fun x E => inrMap h' (f x E)) (splitC c s) E0)) M :=
  ⟨iterC, hm, n, c, ε, W, M, _, J, E0, s, hit, rfl, hs, by rw [hown, hW, List.append_assoc]; rfl, hJ0, rfl, rfl, rfl⟩
 rw [seqRun_iter] at hcall
 have hMn : n + 3 ∉ M := fun h => by have := hM _ h; omega
 have fin : ∀ (A : List Obj) (x : Obj), A.length = n -> A.map (Obj.killAll [n + 3]) = A -> (((A ++ [.dead, .box [.dat (.str [c])], .box [.dat (.int .i64 0)], x]).map (Obj.killAll [n + 3])).set (n + 3) .dead) = A ++ [.dead, .box [.dat (.str [c])], .box [.dat (.int .i64 0)], .dead] := fun A x h1 h2 => by
  rw [List.map_append, h2, List.set_append_right _ _ (by omega), h1, Nat.add_sub_cancel_left]
  simp only [List.map_cons, List.map_nil, Obj.killAll, killAll, AV.kills, AV.kill, List.set_cons_succ, List.set_cons_zero]
 cases hR : seqRun f (splitC c s) E0 with
 | inl E =>
  rw [hR] at hcall hQ
  have e : iterOut W n (.inl E) = pre E ++ [.dead, .box [.dat (.str [c])], .box [.dat (.int .i64 0)], .lp r sl] := nd (pre E) [] _ (hpre E).1
  replace hcall : tbl l _ _ _ _ (iterOut W n (.inl E)) M := hcall
  rw [e] at hcall
  refine ⟨.tup [], _, M, r, sl, hcall, hget _ _ 3 (hpre E).1, (fun h => by cases h), by simp [(hpre E).1], hMn, ?_⟩
  rw [fin _ _ (hpre E).1 (hpre E).2, hslX]
  exact hQ
 | inr a =>
  obtain ⟨O, jc⟩ := a
  obtain ⟨E', x, ps, hj, hfx⟩ := seqRun_inr f J hJ _ _ _ hJ0 hR
  obtain ⟨o1, o2⟩ := hO E' x ps O jc hj hfx
  rw [hR] at hcall hQ
  replace hcall : tbl l _ _ _ _ (O ++ [.dead, .box [.dat (.str [c])], .box [.dat (.int .i64 0)], .lp { r with state := .done, pending := some jc } sl]) M := hcall
  refine ⟨.tup [], _, M, { r with state := .done, pending := some jc }, sl, hcall, hget _ _ 3 o1, (fun h => by cases h), by simp [o1], hMn, ?_⟩
  rw [fin _ _ o1 o2, hslX]
  exact hQ
end Go.AM
namespace Go.AM
open Go Go.Proofs
def lineP (s : Str) : LO :=
 if skipW (wordsW s) then .skip
 else if (insS (wordsW s, true)).2.2 && decide ((insS (wordsW s, true)).2.1 = []) then (if chkE (insS (wordsW s, true)).1 = 0 then .ins (insS (wordsW s, true)).1 else .bad 2)
 else .bad 4
abbrev parseP : Str -> List Ins × Int × Int := parseW lineP (splitC 10)
def insG : LP -> AV × LP := fun p => (.dat (insD (insS p).1), (insS p).2)
theorem killAll_of {s : List AV} {L : List Nat} (h : ∀ o ∈ L, AV.kills o s = s) : ∀ kl, (∀ o ∈ kl, o ∈ L) -> killAll kl s = s
 | [], _ => rfl
 | o :: kl, hk => by
  simp only [killAll]
  rw [h o (hk o (by simp))]
  exact killAll_of h kl fun k hk' => hk k (by simp [hk'])
abbrev tabPa : List (Nat × Contract) := [(23, madeC sqR), (55, iterC), (24, lentC (lnR insG)), (19, dataC chkR)]
theorem tabPa_ok : OkG Tryd.prog (tbl tabPa) := okG_cons splitSeq_ok (okG_cons iter_ok (okG_cons linstr_ok (okG_cons check_ok okG_nil)))
def pPre (E : Nat × List Ins) : List Obj := [.box [.sl 3 0 E.2.length], .box [.dat (.int .i64 E.1)], .box [.dat (.int .i64 0)], .row (some 8) (E.2.map insD)]
def pF (x : Str) (E : Nat × List Ins) : (Nat × List Ins) ⊕ (List Obj × Code) := match lineP x with
 | .skip => .inl (E.1 + 1, E.2)
 | .bad e => .inr ([.box [.nils], .box [.dat (.int .i64 ((E.1 + 1 : Nat) : Int))], .box [.dat (.int .i64 e)], .row (some 8) (E.2.map insD)], .ret)
 | .ins x => .inl (E.1 + 1, E.2 ++ [x])
def pJ (R : List Ins × Int × Int) (ps : List Str) (E : Nat × List Ins) : Prop := runL lineP ps E.1 E.2 = R /\ (∀ x ∈ ps, x.length <= 4000) /\ E.1 + ps.length <= 4001 /\ E.2.length <= E.1
theorem pJ_step (R : List Ins × Int × Int) : ∀ E x ps E', pJ R (x :: ps) E -> pF x E = .inl E' -> pJ R ps E' := by
 rintro ⟨at0, O⟩ x ps E' ⟨j1, j2, j3, j4⟩ hf
 simp only at j1 j2 j3 j4
 rw [runL_cons] at j1
 simp only [pF] at hf
 cases hx : lineP x with
 | skip =>
  rw [hx] at hf j1
  simp only [Sum.inl.injEq] at hf
  subst hf
  exact ⟨j1, fun y hy => j2 y (by simp [hy]), by simp only [List.length_cons] at j3 ⊢; omega, by simp only; omega⟩
 | bad e => rw [hx] at hf; cases hf
 | ins y =>
  rw [hx] at hf j1
  simp only [Sum.inl.injEq] at hf
  subst hf
  exact ⟨j1, fun y hy => j2 y (by simp [hy]), by simp only [List.length_cons] at j3 ⊢; omega, by simp only [List.length_append, List.length_cons, List.length_nil]; omega⟩
def qPre (at1 : Int) (O : List Ins) (s' : Str) (W : List Str) : List Obj := [.box [.sl 3 0 O.length], .box [.dat (.int .i64 at1)], .box [.dat (.int .i64 0)], .row (some 8) (O.map insD), .box [.dat (.str s')], .box [.dat (.str [10])], .box [.dat (.int .i64 0)], .dead, .box [.sl 9 0 W.length, .dat (.bool true)], .row none (W.map D.str)]
def qF (x : Str) (W : List Str) : List Str ⊕ (List Obj × Code) := .inl (if x = [] then W else W ++ [x])
theorem qRun : ∀ (l W : List Str), seqRun qF l W = .inl (W ++ l.filter fun w => !decide (w = []))
 | [], W => by simp [seqRun]
 | x :: l, W => by
  simp only [seqRun, qF]
  rw [qRun l]
  by_cases h : x = [] <;> simp [h]
theorem Parse_ok : OkF Tryd.prog 13 (dataC (parR parseP)) := by
 refine okF_data Tryd.func13 rfl (by decide) ?_
 rintro ds v ⟨s, rfl, hs, rfl⟩
 refine sem_of_awpK [1, 3] (Γ := tbl tabPa) tabPa_ok _ _ _ ?_
 unfold parseP parseW
 simp only [go_sem, Tryd.ntmps13]
 refine sem_le (le_addnilR 0 0 (some 8) rfl rfl (Nat.zero_le _)) ?_
 refine sem_of_awpK [3] (Γ := tbl tabPa) tabPa_ok _ _ _ ?_
 by_cases hl : 4000 < s.length
 ·have hl' : (4000 : Int) < (s.length : Int) := by omega
  rw [if_pos hl]
  simp only [go_sem, hl', decide_true]
  refine post_resO (mv' := []) (.inl rfl) [.cell 2 22, .cell 3 3, .cell 4 3] rfl (fun _ h => h) ?_
  simp only [go_sem]
  exact Le.trans (le_tupnil (some 8)) (le_fin (by rfl) (by simp only [AV.under, AV.unders, and_self]))
 have hl' : ¬ (4000 : Int) < (s.length : Int) := by omega
 rw [if_neg hl]
 simp only [go_sem, hl', decide_false]
 refine sem_of_awpK [18] (Γ := tbl tabPa) tabPa_ok _ _ _ ?_
 simp only [go_sem]
 refine call_made sqR (mem_at 0 rfl) [.str s, .str [10]] _ _ rfl rfl ⟨s, 10, rfl, rfl, rfl⟩ ?_
 simp only [go_sem, AV.shift, Obj.shift, AV.shifts]
 obtain ⟨hsl1, hsl2⟩ := splitC_len 10 s
 generalize hR : runL lineP (splitC 10 s) 0 [] = R
 refine sem_le (le_slots' (s' := slotsOf 64 [(2, .ptr 0 0 0), (3, .ptr 1 0 0), (4, .ptr 2 0 0), (13, .fn 55 [.ptr 5 0 0, .ptr 4 0 0, .ptr 6 0 0])]) (by simp only [go_sem])) ?_
 refine sem_splitSeq tabPa_ok (mem_at 1 rfl) 4 10 s pPre (0, []) [3] pF (pJ R) rfl (by omega) rfl (fun E => ⟨rfl, ?_⟩) (fun kl hk => ?_) (by simp) ⟨hR, fun x hx => by have := hsl2 x hx; omega, by show 0 + _ <= _; omega, Nat.le_refl _⟩ ?_ ?_ ?_ ?_
 ·simp [pPre, Obj.killAll, killAll, AV.kills, AV.kill]
 ·refine killAll_of (L := [3, 7]) (fun o ho => ?_) kl fun o ho => ?_
  ·rcases List.mem_cons.1 ho with rfl | ho
   ·rfl
   ·rcases List.mem_cons.1 ho with rfl | ho
    ·rfl
    ·cases ho
  ·rcases hk o ho with h | h
   ·simp at h; simp [h]
   ·simp [h]
 ·exact pJ_step R
 ·rintro ⟨at0, O⟩ x ps O' jc _ hf
  simp only [pF] at hf
  cases hx : lineP x with
  | bad e =>
   rw [hx] at hf
   simp only [Sum.inr.injEq, Prod.mk.injEq] at hf
   obtain ⟨rfl, rfl⟩ := hf
   exact ⟨rfl, by simp [Obj.killAll, killAll, AV.kills, AV.kill]⟩
  | _ => rw [hx] at hf; cases hf
 ·rintro ⟨at0, O⟩ s' x ps ⟨j1, j2, j3, j4⟩
  simp only at j1 j2 j3 j4
  have hx4 := j2 x (by simp)
  refine sem_of_awp (Γ := tbl tabPa) tabPa_ok _ _ _ ?_
  simp only [go_sem, true_and]
  refine sem_of_awpK [7, 11, 13] (Γ := tbl tabPa) tabPa_ok _ _ _ ?_
  simp only [go_sem, pPre, List.cons_append, List.nil_append]
  refine ⟨inR_i64.2 (by simp only [List.length_cons] at j3; omega), ?_⟩
  refine sem_le (le_addnilR 8 0 none rfl rfl (by show 8 <= 9; decide)) ?_
  simp only [go_sem, List.length_cons, List.length_nil]
  refine sem_of_awpK [11, 13] (Γ := tbl tabPa) tabPa_ok _ _ _ ?_
  simp only [go_sem]
  refine call_made sqR (mem_at 0 rfl) [.str x, .str [32]] _ _ rfl rfl ⟨x, 32, rfl, rfl, rfl⟩ ?_
  simp only [go_sem, AV.shift, Obj.shift, AV.shifts, List.length_cons, List.length_nil]
  refine sem_le (le_slots' (s' := slotsOf 64 [(2, .ptr 0 0 0), (3, .ptr 1 0 0), (4, .ptr 2 0 0), (6, .ptr 8 0 0), (19, .fn 55 [.ptr 11 0 0, .ptr 10 0 0, .ptr 12 0 0])]) (by simp only [go_sem])) ?_
  refine sem_splitSeq tabPa_ok (mem_at 1 rfl) 10 32 x (qPre (at0 + 1) O s') [] [9] qF (fun ps W => (∀ y ∈ ps, y.length <= 4000) /\ W.length + ps.length <= 4001) rfl (by omega) rfl (fun E => ⟨rfl, ?_⟩) (fun kl hk => ?_) (by simp) ?_ ?_ ?_ ?_ ?_
  ·simp [qPre, Obj.killAll, killAll, AV.kills, AV.kill]
  ·refine killAll_of (L := [9, 13]) (fun o ho => ?_) kl fun o ho => ?_
   ·rcases List.mem_cons.1 ho with rfl | ho
    ·rfl
    ·rcases List.mem_cons.1 ho with rfl | ho
     ·rfl
     ·cases ho
   ·rcases hk o ho with h | h
    ·simp at h; simp [h]
    ·simp [h]
  ·obtain ⟨q1, q2⟩ := splitC_len 32 x
   exact ⟨fun y hy => by have := q2 y hy; omega, by simp only [List.length_nil]; omega⟩
  ·rintro W y ps W' ⟨q1, q2⟩ hf
   simp only [qF, Sum.inl.injEq] at hf
   subst hf
   refine ⟨fun z hz => q1 z (by simp [hz]), ?_⟩
   simp only [List.length_cons] at q2
   split
   ·omega
   ·simp only [List.length_append, List.length_cons, List.length_nil]; omega
  ·rintro W y ps O' jc _ hf
   cases hf
  ·rintro W s2 y ps ⟨q1, q2⟩
   have tkW : (W.map D.str).take W.length = W.map D.str := List.take_of_length_le (by simp)
   refine sem_of_awp (Γ := tbl tabPa) tabPa_ok _ _ _ ?_
   simp only [go_sem, true_and]
   refine sem_of_awp (Γ := tbl tabPa) tabPa_ok _ _ _ ?_
   by_cases hy : y = []
   ·have hqf : qF y W = .inl W := by simp only [qF, if_pos hy]
    rw [hqf]
    simp only [go_sem, hy, qPre, List.cons_append, List.nil_append]
    exact ⟨⟨rfl, rfl⟩, le_mvs (by simp)⟩
   ·have hqf : qF y W = .inl (W ++ [y]) := by simp only [qF, if_neg hy]
    rw [hqf]
    simp only [go_sem, hy, qPre, List.cons_append, List.nil_append, tkW, List.length_map]
    simp only [List.length_cons] at q2
    refine ⟨by omega, by omega, ⟨rfl, rfl⟩, ?_⟩
    simp only [qPre, List.cons_append, List.nil_append, List.map_append, List.map_cons, List.map_nil, List.length_append, List.length_cons, List.length_nil]
    refine le_end (own := [_, _, _, _, _, _, _, _, _, _, _, _, _, _]) (ex := [_]) (Nat.le_refl _) ?_ ?_ ?_
    ·simp only [slotsLe]
    ·simp only [AV.unders]
    ·simp only [go_sem, List.length_cons, List.length_nil, AV.unders, AV.under]
  ·rw [qRun]
   simp only [List.nil_append]
   have hwd : ((splitC 32 x).filter fun w => !decide (w = [])) = wordsW x := rfl
   rw [hwd]
   obtain ⟨w1, w2⟩ := wordsW_len x
   have hm : addMv 8 [] [9] = [] := rfl
   have tkW : ((wordsW x).map D.str).take (wordsW x).length = (wordsW x).map D.str := List.take_of_length_le (by simp)
   rw [hm]
   simp only [go_sem, qPre, List.cons_append, List.nil_append]
   refine sem_le (le_freeze 9 (ag := none) (xs := (wordsW x).map D.str) rfl (by decide)) ?_
   simp only [go_sem, tkW]
   unfold pF lineP
   rw [runL_cons] at j1
   unfold lineP at j1
   generalize wordsW x = w at *
   have hsw : ∀ f r, w = f :: r -> f ≠ [] := fun f r h => (w2 f (by rw [h]; simp)).2
   refine sem_to ⟨slotsOf 64 [(2, .ptr 0 0 0), (3, .ptr 1 0 0), (4, .ptr 2 0 0), (6, .ptr 8 0 0), (40, .dat (.bool (skipW w)))], [.box [.sl 3 0 O.length], .box [.dat (.int .i64 ((at0 : Int) + 1))], .box [.dat (.int .i64 0)], .row (some 8) (O.map insD), .box [.dat (.str s')], .box [.dat (.str [10])], .box [.dat (.int .i64 0)], .dead, lineB w true], 8, []⟩ ?_ ?_
   ·refine sem_of_awp (Γ := tbl tabPa) tabPa_ok _ _ _ ?_
    unfold skipW
    cases w with
    | nil =>
     simp only [go_sem, List.map_nil, List.length_nil, Int.natCast_zero, eq_self, decide_true, Bool.true_or]
     refine le_end (own := [_, _, _, _, _, _, _, _, _]) (ex := [_, _, _, _, _]) (by show 8 <= 9; decide) ?_ ?_ ?_
     ·simp only [go_sem]
     ·simp only [go_sem, AV.unders, AV.under, List.length_cons, List.length_nil]
     ·simp only [go_sem, AV.unders, AV.under, List.length_cons, List.length_nil]
    | cons f r =>
     have hf := hsw f r rfl
     have z1 : ¬ ((r.length + 1 : Nat) : Int) = 0 := by omega
     have z2 : (0 : Int) < ((r.length + 1 : Nat) : Int) := by omega
     have z3 : D.nth (D.str f :: r.map D.str) 0 = .str f := rfl
     have z4 : (0 : Int) < (f.length : Int) := by
      have : f.length ≠ 0 := fun h => hf (List.eq_nil_of_length_eq_zero h)
      omega
     have hnil : (f :: r = []) = False := by simp
     have hb := byte_eq (f.getD 0 0) 35 35 rfl
     simp only [go_sem, List.map_cons, List.length_cons, List.length_map, z1, z2, z3, z4, decide_true, decide_false, hnil, Bool.false_or, List.getD_cons_zero, hb]
     refine le_end (own := [_, _, _, _, _, _, _, _, _]) (ex := [_, _, _, _, _]) (by show 8 <= 9; decide) ?_ ?_ ?_
     ·simp only [go_sem]
     ·simp only [go_sem, AV.unders, AV.under, List.length_cons, List.length_nil]
     ·simp only [go_sem, AV.unders, AV.under, List.length_cons, List.length_nil]
   cases hsk : skipW w with
   | true =>
    simp only [if_true]
    simp only [go_sem]
    refine ⟨⟨rfl, rfl⟩, Le.trans (le_mvs (mv' := [3]) (by simp)) ?_⟩
    simp only [pPre, sqT, List.cons_append, List.nil_append, List.map_append, List.map_cons, List.map_nil, List.length_append, List.length_cons, List.length_nil, Int.natCast_add, Int.cast_ofNat_Int, Int.natCast_one]
    refine le_end (own := [_, _, _, _, _, _, _, _]) (ex := [_]) (Nat.le_refl _) ?_ ?_ ?_
    ·simp only [slotsLe]
    ·simp only [AV.unders]
    ·simp only [go_sem, List.length_cons, List.length_nil, AV.unders, AV.under]
   | false =>
    simp only [Bool.false_eq_true, if_false]
    simp only [go_sem]
    refine call_lent (lnR insG) (mem_at 2 rfl) [8] ⟨w, true, rfl, rfl, by omega, rfl, rfl, rfl, rfl⟩ (by decide) (by simp) rfl rfl rfl (by simp only [go_sem, AV.unders, AV.under, List.length_cons, List.length_nil]) (by simp [Obj.under, AV.unders, AV.under]) (fun j hj => by
     match j, hj with
     | 0, _ => rfl) ?_
    simp only [insG]
    generalize insS (w, true) = M at *
    obtain ⟨y, ws1, f1⟩ := M
    simp only [go_sem]
    refine sem_to ⟨slotsOf 64 [(2, .ptr 0 0 0), (3, .ptr 1 0 0), (4, .ptr 2 0 0), (6, .ptr 8 0 0), (8, .ptr 9 0 0), (50, .dat (.bool (!(f1 && decide (ws1 = [])))))], [.box [.sl 3 0 O.length], .box [.dat (.int .i64 ((at0 : Int) + 1))], .box [.dat (.int .i64 0)], .row (some 8) (O.map insD), .box [.dat (.str s')], .box [.dat (.str [10])], .box [.dat (.int .i64 0)], .dead, lineB ws1 f1, .box ((insL y).map .dat)], 8, []⟩ ?_ ?_
    ·refine sem_of_awp (Γ := tbl tabPa) tabPa_ok _ _ _ ?_
     cases f1 with
     | false =>
      simp only [go_sem, Bool.false_and, Bool.not_false]
      exact le_slots' (by simp only [go_sem])
     | true =>
      cases ws1 with
      | nil =>
       simp only [go_sem, List.map_nil, List.length_nil, Int.natCast_zero, eq_self, decide_true, Bool.and_self, Bool.not_true]
       exact le_slots' (by simp only [go_sem])
      | cons a b =>
       have z : (0 : Int) < ((b.length + 1 : Nat) : Int) := by omega
       have hnil : (a :: b = []) = False := by simp
       simp only [go_sem, List.map_cons, List.length_cons, List.length_map, z, hnil, decide_true, decide_false, Bool.and_false, Bool.not_true, Bool.not_false]
       exact le_slots' (by simp only [go_sem])
    cases hok : (f1 && decide (ws1 = [])) with
    | false =>
     simp only [Bool.false_eq_true, if_false]
     simp only [go_sem, insL, List.map_cons, List.map_nil, Bool.not_false]
     refine sem_drawU [] [] (pf := []) (mf := []) mixed tabPa_ok pureNo growNo noMk (.alt 0 (.one 1 (.one 2 (.one 3 .fin))) (.alt 1 (.one 0 (.one 2 (.one 3 .fin))) .stop)) (by kernel_rfl) ?_
     simp only [go_sem, and_true, and_self]
     refine ⟨⟨rfl, rfl⟩, Le.trans (le_mvs (mv' := [3]) (by simp)) ?_⟩
     simp only [pPre, sqT, List.cons_append, List.nil_append, List.map_append, List.map_cons, List.map_nil, List.length_append, List.length_cons, List.length_nil, Int.natCast_add, Int.cast_ofNat_Int, Int.natCast_one]
     refine le_end (own := [_, _, _, _, _, _, _, _]) (ex := [_, _]) (Nat.le_refl _) ?_ ?_ ?_
     ·simp only [slotsLe]
     ·simp only [AV.unders]
     ·simp only [go_sem, List.length_cons, List.length_nil, AV.unders, AV.under]
    | true =>
     simp only [if_true]
     simp only [go_sem, insL, List.map_cons, List.map_nil, Bool.not_true]
     refine call_data chkR (mem_at 3 rfl) [insD y] _ rfl ⟨y, rfl, rfl⟩ (.inl rfl) ?_
     by_cases hc : chkE y = 0
     ·simp only [hc, if_true]
      have tkO : (O.map insD).take O.length = O.map insD := List.take_of_length_le (by simp)
      simp only [go_sem, decide_true, Bool.not_true, tkO, List.length_map]
      simp only [List.length_cons] at j3
      refine ⟨by omega, by omega, ⟨rfl, rfl⟩, ?_⟩
      simp only [pPre, sqT, List.cons_append, List.nil_append, List.map_append, List.map_cons, List.map_nil, List.length_append, List.length_cons, List.length_nil, Int.natCast_add, Int.cast_ofNat_Int, Int.natCast_one]
      refine le_end (own := [_, _, _, _, _, _, _, _]) (ex := [_, _, _]) (Nat.le_refl _) ?_ ?_ ?_
      ·simp only [slotsLe]
      ·simp only [AV.unders]
      ·simp only [go_sem, List.length_cons, List.length_nil, AV.unders, AV.under]
     ·simp only [hc, if_false]
      simp only [go_sem, hc, decide_false, Bool.not_false]
      refine sem_drawU [] [] (pf := []) (mf := []) mixed tabPa_ok pureNo growNo noMk (.alt 0 (.one 1 (.one 2 (.one 3 .fin))) (.alt 1 (.one 0 (.one 2 (.one 3 .fin))) .stop)) (by kernel_rfl) ?_
      simp only [go_sem, and_true, and_self]
      refine ⟨⟨rfl, rfl⟩, Le.trans (le_mvs (mv' := [3]) (by simp)) ?_⟩
      simp only [pPre, sqT, List.cons_append, List.nil_append, List.map_append, List.map_cons, List.map_nil, List.length_append, List.length_cons, List.length_nil, Int.natCast_add, Int.cast_ofNat_Int, Int.natCast_one]
      refine le_end (own := [_, _, _, _, _, _, _, _]) (ex := [_, _]) (Nat.le_refl _) ?_ ?_ ?_
      ·simp only [slotsLe]
      ·simp only [AV.unders]
      ·simp only [go_sem, List.length_cons, List.length_nil, AV.unders, AV.under]
 ·have hJ0 : pJ R (splitC 10 s) (0, []) := ⟨hR, fun x hx => by have := hsl2 x hx; omega, by show 0 + _ <= _; omega, Nat.le_refl _⟩
  cases hq : seqRun pF (splitC 10 s) (0, []) with
  | inl E =>
   obtain ⟨j1, _, j3, j4⟩ := seqRun_inl pF (pJ R) (pJ_step R) _ _ _ hJ0 hq
   obtain ⟨at0, O⟩ := E
   simp only [runL] at j1
   simp only [List.length_nil] at j3 j4
   have tkO : (O.map insD).take O.length = O.map insD := List.take_of_length_le (by simp)
   simp only [go_sem, pPre, List.cons_append, List.nil_append]
   by_cases ho : 48 < O.length
   ·have ho' : (48 : Int) < (O.length : Int) := by omega
    rw [if_pos ho] at j1
    rw [← j1]
    simp only [go_sem, ho', decide_true]
    refine post_resO (mv' := []) (.inl rfl) [.cell 2 22, .cell 3 3, .cell 4 3] rfl (fun _ h => h) ?_
    simp only [go_sem]
    exact Le.trans (le_tupnil (some 8)) (Le.trans le_mv0 (le_fin (by rfl) (by simp only [AV.under, AV.unders, and_self])))
   ·have ho' : ¬ (48 : Int) < (O.length : Int) := by omega
    rw [if_neg ho] at j1
    rw [← j1]
    simp only [go_sem, ho', decide_false]
    refine post_resO (mv' := []) (.inl rfl) [.cell 2 22, .cell 3 3, .cell 4 3] rfl (fun _ h => h) ?_
    simp only [go_sem]
    refine Le.trans (le_freeze 3 (ag := some 8) rfl (Nat.zero_le _)) ?_
    simp only [go_sem, tkO]
    exact Le.trans le_mv0 (le_fin (by rfl) (by simp only [AV.under, AV.unders, and_self]))
  | inr a =>
   obtain ⟨E', x, ps, ⟨j1, j2, j3, j4⟩, hf⟩ := seqRun_inr pF (pJ R) (pJ_step R) _ _ _ hJ0 hq
   obtain ⟨at0, O⟩ := E'
   simp only at j1 j2 j3 j4
   simp only [pF] at hf
   cases hx : lineP x with
   | bad e =>
    rw [runL_cons, hx] at j1
    rw [hx] at hf
    simp only [Sum.inr.injEq] at hf
    subst hf
    rw [← j1]
    simp only [jumpQ]
    simp only [go_sem, List.cons_append, List.nil_append]
    refine post_resO (mv' := []) (.inl rfl) [.cell 2 22, .cell 3 3, .cell 4 3] rfl (fun _ h => h) ?_
    simp only [go_sem]
    exact Le.trans (le_tupnil (some 8)) (Le.trans le_mv0 (le_fin (by rfl) (by simp only [AV.under, AV.unders, and_self])))
   | _ => rw [hx] at hf; cases hf
end Go.AM
namespace Go.AM
open Go Go.Proofs
abbrev tabRp : List (Nat × Contract) := [(18, dataC (strsR linesW)), (25, dataC (strsR wordsW)), (26, dataC rinsR), (22, dataC rngR)]
theorem tabRp_ok : OkG Tryd.prog (tbl tabRp) := okG_cons lines41_ok (okG_cons words41_ok (okG_cons rinstr_ok (okG_cons ranges_ok okG_nil)))
abbrev parseR : Str -> List Ins × Int × Int := parseW lineR linesW
theorem RParse_ok : OkF Tryd.prog 14 (dataC (parR parseR)) := by
 refine okF_data Tryd.func14 rfl (by decide) ?_
 rintro ds v ⟨s, rfl, hs, rfl⟩
 refine sem_of_awpK [9] (Γ := tbl tabRp) tabRp_ok _ _ _ ?_
 unfold parseR parseW
 by_cases hl : 4000 < s.length
 ·have hl' : (4000 : Int) < (s.length : Int) := by omega
  rw [if_pos hl]
  simp only [go_sem, Tryd.ntmps14, hl', decide_true]
  refine post_resO (mv' := []) (.inl rfl) [.tmp 2, .tmp 3, .tmp 4] rfl (fun _ h => h) ?_
  simp only [go_sem]
  exact Le.trans (le_tupnil (some 8)) (le_fin (by rfl) (by simp only [AV.under, AV.unders, and_self]))
 have hl' : ¬ (4000 : Int) < (s.length : Int) := by omega
 rw [if_neg hl]
 simp only [go_sem, Tryd.ntmps14, hl', decide_false]
 refine call_data (strsR linesW) (by simp) [.str s] _ rfl ⟨s, rfl, hs, rfl⟩ (.inl rfl) ?_
 have hLb := lRun_len s []
 have hL : linesW s = lRun [] s := rfl
 rw [← hL] at hLb
 generalize linesW s = L at *
 obtain ⟨hL1, hL2⟩ := hLb
 generalize hR : runL lineR L 0 [] = R
 simp only [go_sem]
 refine sem_le (le_addnil 6 (some 8) rfl (Nat.zero_le _)) ?_
 simp only [go_sem]
 refine sem_loop (fun p : Nat × List Ins => ⟨slotsOf 59 [(0, .dat (.str s)), (5, .dat (.sl none (L.map .str))), (6, .sl 0 0 p.2.length), (7, .dat (.int .i64 p.1))], [.row (some 8) (p.2.map insD)], 0, []⟩)
  (fun p => p.1 <= L.length /\ p.2.length <= p.1 /\ runL lineR (L.drop p.1) p.1 p.2 = R) (fun p => L.length - p.1) (0, []) ⟨Nat.zero_le _, Nat.le_refl _, hR⟩ ?_ ?_
 ·exact le_slots' (by simp only [go_sem, List.length_nil, Int.natCast_zero])
 rintro ⟨i, O⟩ ⟨hi, hO, hI⟩
 simp only at hi hO hI ⊢
 refine sem_of_awpK [9] (Γ := tbl tabRp) tabRp_ok _ _ _ ?_
 have tkO : (O.map insD).take O.length = O.map insD := List.take_of_length_le (by simp)
 have hk0 : (0 : Int) <= (i : Int) := by omega
 cases hd : L.drop i with
 | nil =>
  have hie := end_of_drop hd hi
  have k1 : ¬ (i : Int) < (L.length : Int) := by omega
  rw [hd] at hI
  simp only [runL] at hI
  by_cases ho : 48 < O.length
  ·have ho' : (48 : Int) < (O.length : Int) := by omega
   rw [if_pos ho] at hI
   rw [← hI]
   simp only [go_sem, k1, ho', decide_true, decide_false, List.length_map]
   refine post_resO (mv' := []) (.inl rfl) [.tmp 2, .tmp 3, .tmp 4] rfl (fun _ h => h) ?_
   simp only [go_sem]
   exact Le.trans (le_tupnil (some 8)) (le_fin (by rfl) (by simp only [AV.under, AV.unders, and_self]))
  ·have ho' : ¬ (48 : Int) < (O.length : Int) := by omega
   rw [if_neg ho] at hI
   rw [← hI]
   simp only [go_sem, k1, ho', decide_false, List.length_map]
   refine post_resO (mv' := []) (.inl rfl) [.tmp 2, .tmp 3, .tmp 4] rfl (fun _ h => h) ?_
   simp only [go_sem]
   refine Le.trans (le_freeze 0 (ag := some 8) rfl (Nat.zero_le _)) ?_
   simp only [go_sem, tkO]
   exact le_fin (by rfl) (by simp only [AV.under, AV.unders, and_self])
 | cons l t =>
  have hlt := lt_of_drop hd
  have k1 : (i : Int) < (L.length : Int) := by omega
  have hn : D.nth (L.map D.str) i = .str l := nth_of_drop hd
  have hll : l.length <= 4000 := by have := hL2 l (mem_of_drop hd); simp only [List.length_nil] at this; omega
  rw [hd, runL_cons] at hI
  simp only [go_sem, k1, hk0, hn, decide_true, List.length_map, Int.toNat_natCast]
  refine call_data (strsR wordsW) (by simp) [.str l] _ rfl ⟨l, rfl, by omega, rfl⟩ (.inl rfl) ?_
  unfold lineR at hI
  obtain ⟨hw1, hw2⟩ := wordsW_len l
  generalize wordsW l = w at *
  simp only [go_sem]
  refine sem_to ⟨slotsOf 59 [(0, .dat (.str s)), (5, .dat (.sl none (L.map .str))), (6, .sl 0 0 O.length), (7, .dat (.int .i64 i)), (8, .dat (.sl none (w.map .str))), (36, .dat (.bool (skipW w)))], [.row (some 8) (O.map insD)], 0, []⟩ ?_ ?_
  ·refine sem_of_awp (Γ := tbl tabRp) tabRp_ok _ _ _ ?_
   unfold skipW
   cases w with
   | nil =>
    simp only [go_sem, List.map_nil, List.length_nil, Int.natCast_zero, eq_self, decide_true, Bool.true_or]
    exact le_slots' (by simp only [go_sem])
   | cons f r =>
    have hf := hw2 f (by simp)
    have z1 : ¬ ((r.length + 1 : Nat) : Int) = 0 := by omega
    have z2 : (0 : Int) < ((r.length + 1 : Nat) : Int) := by omega
    have z3 : D.nth (D.str f :: r.map D.str) 0 = .str f := rfl
    have z4 : (0 : Int) < (f.length : Int) := by
     have : f.length ≠ 0 := fun h => hf.2 (List.eq_nil_of_length_eq_zero h)
     omega
    have hnil : (f :: r = []) = False := by simp
    have hb := byte_eq (f.getD 0 0) 35 35 rfl
    simp only [go_sem, List.map_cons, List.length_cons, List.length_map, z1, z2, z3, z4, decide_true, decide_false, hnil, Bool.false_or, List.getD_cons_zero, hb]
    exact le_slots' (by simp only [go_sem])
  cases hsk : skipW w with
  | true =>
   rw [hsk, if_pos rfl, ← drop_cons hd] at hI
   simp only at hI
   simp only [go_sem]
   refine ⟨inR_i64.2 (by omega), (i + 1, O), ⟨by show i + 1 <= _; omega, by show O.length <= i + 1; omega, hI⟩, by show L.length - (i + 1) < _; omega, le_slots' (by simp only [go_sem, Int.natCast_add, Int.cast_ofNat_Int])⟩
  | false =>
   rw [hsk, if_neg (by decide)] at hI
   have hwn : w ≠ [] := by rintro rfl; simp [skipW] at hsk
   simp only [go_sem]
   refine call_data rinsR (by simp) [.sl none (w.map .str)] _ rfl ⟨w, rfl, hwn, by omega, fun s hs => by have := (hw2 s hs).1; omega, rfl⟩ (.inl rfl) ?_
   generalize rinsW w = q at *
   obtain ⟨x, ok⟩ := q
   simp only at hI
   cases ok with
   | false =>
    rw [if_neg (by decide)] at hI
    simp only at hI
    rw [← hI]
    simp only [go_sem, Bool.not_false]
    refine ⟨inR_i64.2 (by omega), ?_⟩
    refine post_resO (mv' := []) (.inl rfl) [.tmp 2, .tmp 3, .tmp 4] rfl (fun _ h => h) ?_
    simp only [go_sem]
    exact Le.trans (le_tupnil (some 8)) (le_fin (by rfl) (by simp only [AV.under, AV.unders, and_self]))
   | true =>
    rw [if_pos rfl] at hI
    simp only [go_sem, Bool.not_true]
    refine call_data rngR (by simp) [insD x] _ rfl ⟨x, rfl, rfl⟩ (.inl rfl) ?_
    cases hr : rngI x with
    | false =>
     rw [hr, if_neg (by decide)] at hI
     simp only at hI
     rw [← hI]
     simp only [go_sem, Bool.not_false]
     refine ⟨inR_i64.2 (by omega), ?_⟩
     refine post_resO (mv' := []) (.inl rfl) [.tmp 2, .tmp 3, .tmp 4] rfl (fun _ h => h) ?_
     simp only [go_sem]
     exact Le.trans (le_tupnil (some 8)) (le_fin (by rfl) (by simp only [AV.under, AV.unders, and_self]))
    | true =>
     rw [hr, if_pos rfl, ← drop_cons hd] at hI
     simp only at hI
     simp only [go_sem, Bool.not_true, List.length_map, tkO]
     refine ⟨by omega, by omega, inR_i64.2 (by omega), (i + 1, O ++ [x]), ⟨by show i + 1 <= _; omega, by simp; omega, hI⟩, by show L.length - (i + 1) < _; omega, ?_⟩
     simp only [List.map_append, List.map_cons, List.map_nil]
     refine le_end (own := [_]) (ex := [_, _]) (Nat.zero_le _) ?_ ?_ ?_
     ·simp only [go_sem, List.length_append, List.length_cons, List.length_nil, Int.natCast_add, Int.cast_ofNat_Int]
     ·simp only [go_sem]
     ·simp only [go_sem, Obj.under, AV.unders, AV.under]
def sameR45 (ds : List D) (v : AV) : Prop := ∃ a b : List Ins, ds = [codeD a, codeD b] /\ a.length <= 1000000 /\ (∀ x ∈ a, x.ok) /\ (∀ x ∈ b, x.ok) /\ v = .dat (.bool (decide (a = b)))
theorem same45_ok : OkF Tryd.prog 15 (dataC sameR45) := by
 refine okF_data Tryd.func15 rfl (by decide) ?_
 rintro ds v ⟨a, b, rfl, hal, ha, hb, rfl⟩
 refine sem_of_awp (Γ := tbl []) okG_nil _ _ _ ?_
 by_cases hl : a.length = b.length
 ·have hl' : (a.length : Int) = (b.length : Int) := by omega
  simp only [go_sem, Tryd.ntmps15, List.length_map, hl', eq_self, decide_true, Bool.not_true]
  refine sem_loop (fun k : Nat => ⟨slotsOf 26 [(0, .dat (codeD a)), (1, .dat (codeD b)), (5, .dat (.int .i64 k))], [], 0, []⟩)
   (fun k => k <= a.length /\ a.take k = b.take k) (fun k => a.length - k) 0 ⟨Nat.zero_le _, rfl⟩ ?_ ?_
  ·exact le_slots' (by simp only [go_sem, Int.natCast_zero])
  rintro k ⟨hk, hI⟩
  refine sem_of_awp (Γ := tbl []) okG_nil _ _ _ ?_
  cases hd : a.drop k with
  | nil =>
   have hke := end_of_drop hd hk
   have k1 : ¬ (k : Int) < (b.length : Int) := by omega
   have he : a = b := by
    rw [List.take_of_length_le (by omega), List.take_of_length_le (by omega)] at hI
    exact hI
   rw [decide_eq_true he]
   simp only [go_sem, List.length_map, hl', k1, decide_false]
   exact post_data (.inl rfl) [4] rfl trivial rfl
  | cons x r =>
   have hlt := lt_of_drop hd
   cases hd2 : b.drop k with
   | nil => have := nil_of_drop hd2; omega
   | cons y q =>
    have k1 : (k : Int) < (b.length : Int) := by omega
    have hx : D.nth (a.map insD) k = insD x := nth_of_drop hd
    have hy : D.nth (b.map insD) k = insD y := nth_of_drop hd2
    simp only [go_sem, k1, hl', decide_true, List.length_map, Int.toNat_natCast]
    refine sem_draw (pf := []) mixed okG_nil pureNo [0, 1, 2, 3, 4, 5, 6, 7, 8] (by kernel_rfl) ?_
    simp only [go_sem, chainI, k1, hl', decide_true, List.length_map, Int.toNat_natCast, hx, hy, bin_neq_ins (ha x (mem_of_drop hd)) (hb y (mem_of_drop hd2))]
    by_cases he : x = y
    ·simp only [go_sem, chainI, he, eq_self, decide_true, Bool.not_true]
     refine ⟨inR_i64.2 (by omega), k + 1, ⟨by omega, ?_⟩, by omega, le_slots' (by simp only [go_sem, Int.natCast_add, Int.cast_ofNat_Int])⟩
     rw [take_of_drop hd, take_of_drop hd2, hI, he]
    ·have hne : ¬ a = b := fun h => by
      rw [h, hd2] at hd
      exact he (List.cons.inj hd).1.symm
     rw [decide_eq_false hne]
     simp only [go_sem, chainI, he, decide_false, Bool.not_false]
     exact post_data (.inl rfl) [4] rfl trivial rfl
 ·have hl' : ¬ (a.length : Int) = (b.length : Int) := by omega
  have hne : ¬ a = b := fun h => hl (by rw [h])
  rw [decide_eq_false hne]
  simp only [go_sem, Tryd.ntmps15, List.length_map, hl', decide_false, Bool.not_false]
  exact post_data (.inl rfl) [4] rfl trivial rfl
end Go.AM

