/- Own work over the model of the kit. -/
import Derived.Test.YtaecpbaaadpfgaaD17
import Derived.Test.YtaecpbaaadpfgaaD11
import Derived.Test.YtaecpbaaadpfgaaD12
set_option linter.unusedSimpArgs false
set_option linter.unusedVariables false
set_option maxHeartbeats 4000000
set_option maxRecDepth 8000
namespace Go.AM
open Go Go.Proofs
theorem wrap_u8 (n : Int) : IntKind.u8.wrap n = n % 256 := by simp [IntKind.wrap, IntKind.signed, IntKind.bits]
abbrev u8D (n : Nat) : D := .int .u8 n
abbrev u8sD (l : List Nat) : List D := l.map u8D
def kfr (f : PFr) : List Nat := [f.c.toNat, f.a.toNat]
def kst (l : List PFr) : List Nat := l.length :: l.flatMap kfr
def kX (x : PSt) : List Nat := x.flatMap kst
def keyX (x : PSt) : List UInt8 := bytesD (u8sD (kX x))
structure KFit (x : PSt) : Prop where
 len : x.length <= 24
 stk : ∀ l ∈ x, l.length <= 25
 fr : ∀ l ∈ x, ∀ f ∈ l, 0 <= f.c /\ f.c < 100 /\ 0 <= f.a /\ f.a < 100
theorem val_kfit {s : PSys} {x : PSt} (hV : Valid s x) : KFit x := by
 have hd := val_deep hV
 refine ⟨hd.len, hd.stk, fun l hl f hf => ?_⟩
 have hfo := hV.frames f (List.mem_flatten.2 ⟨l, hl, hf⟩)
 obtain ⟨c1, c2, c3, c4⟩ := frOk_iff.1 hfo
 have h12 := (hV.good.cls _ (cls_mem hfo)).l12
 have hnc := hV.good.nc
 omega
theorem bytesOk_u8 (l : List Nat) : bytesOk (u8sD l) = true := by simp [bytesOk, List.all_eq_true]
theorem kX_snoc {x : PSt} {k : Nat} {l : List PFr} {r : PSt} (hd : x.drop k = l :: r) : kX (x.take (k + 1)) = kX (x.take k) ++ kst l := by
 rw [take_of_drop hd]; simp [kX]
theorem kX_len {x : PSt} (hx : KFit x) : ∀ k, (kX (x.take k)).length <= 51 * k := by
 intro k
 have key : ∀ y : PSt, (∀ l ∈ y, l.length <= 25) -> (kX y).length <= 51 * y.length := by
  intro y
  induction y with
  | nil => intro _; simp [kX]
  | cons l y ih =>
   intro h
   have h1 := h l (by simp)
   have h2 := ih fun q hq => h q (by simp [hq])
   have h3 : (kst l).length = 1 + 2 * l.length := by
    unfold kst
    rw [List.length_cons]
    have : ∀ m : List PFr, (m.flatMap kfr).length = 2 * m.length := by
     intro m
     induction m with
     | nil => rfl
     | cons f m ih => rw [List.flatMap_cons, List.length_append, ih]; simp [kfr]; omega
    rw [this]; omega
   have h4 : kX (l :: y) = kst l ++ kX y := by simp [kX]
   rw [h4, List.length_append, List.length_cons]
   omega
 have := key (x.take k) fun l hl => hx.stk l (List.mem_of_mem_take hl)
 rw [List.length_take] at this
 omega
def keyR (ds : List D) (v : AV) : Prop := ∃ x : PSt, ds = [stD x] /\ KFit x /\ v = .dat (.str (keyX x))
theorem key_ok : OkF Try.prog 48 (dataC keyR) := by
 refine okF_data Try.func48 rfl (by decide) ?_
 rintro ds v ⟨x, rfl, hx, rfl⟩
 have hxl := hx.len
 have hxl2 : (stacksD x).length = x.length := by simp
 refine sem_of_awpK [2] (Γ := tbl []) okG_nil _ _ _ ?_
 simp only [go_sem, Try.ntmps48, stD]
 refine sem_le (le_addnil 3 none rfl (Nat.zero_le _)) ?_
 refine sem_of_awp (Γ := tbl []) okG_nil _ _ _ ?_
 simp only [go_sem, hxl2]
 refine sem_loop (fun k : Nat => ⟨slotsOf 40 [(1, .ptr 0 0 0), (3, .sl 1 0 (kX (x.take k)).length), (9, .dat (.sl none (stacksD x))), (10, .dat (.int .i64 x.length)), (11, .dat (.int .i64 k))], [stO x, .row none (u8sD (kX (x.take k)))], 0, []⟩)
  (fun k => k <= x.length) (fun k => x.length - k) 0 (Nat.zero_le _) ?_ ?_
 ·rw [List.take_zero]
  exact le_slots' (by simp only [go_sem, Int.natCast_zero, kX, List.flatMap_nil, List.length_nil])
 rintro k hk
 cases hd : x.drop k with
 | nil =>
  obtain rfl : k = x.length := end_of_drop hd hk
  have hk2 : ¬ (x.length : Int) < x.length := by omega
  rw [List.take_length]
  refine sem_le (le_freeze 1 (ag := none) rfl (Nat.zero_le _)) ?_
  refine sem_of_awp (Γ := tbl []) okG_nil _ _ _ ?_
  have hW : List.take (kX x).length (u8sD (kX x)) = u8sD (kX x) := List.take_of_length_le (by simp)
  have hLL : (kX x).length <= (u8sD (kX x)).length := by simp
  have hb := bytesOk_u8 (kX x)
  simp only [go_sem, hk2, hW, hLL, List.drop_zero, hb]
  exact post_data (.inl rfl) [2] rfl trivial rfl
 | cons l r =>
 have hlt := lt_of_drop hd
 have hk2 : (k : Int) < x.length := by omega
 have hk0 : (0 : Int) <= k := Int.natCast_nonneg k
 have hn := nth_of_drop (f := stackD) hd
 have hll := hx.stk l (mem_of_drop hd)
 have hff := hx.fr l (mem_of_drop hd)
 have hfl : (frsD l).length = l.length := by simp
 have hkl := kX_len hx k
 have hsn := kX_snoc hd
 have hwr : IntKind.u8.wrap (l.length : Int) = l.length := by rw [wrap_u8]; omega
 refine sem_of_awp (Γ := tbl []) okG_nil _ _ _ ?_
 generalize kX (x.take k) = A at *
 have hAl : (u8sD A).length = A.length := by simp
 have hAt : List.take A.length (u8sD A) = u8sD A := List.take_of_length_le (by simp)
 simp only [go_sem, hk2, hk0, hlt, hn, hxl2, stackD, hfl, hAl, hAt, Nat.le_refl, hwr]
 refine ⟨by omega, by omega, ?_⟩
 let P := fun j : Nat => A ++ (l.length :: (l.take j).flatMap kfr)
 have hP0 : P 0 = A ++ [l.length] := by simp [P]
 have hPl : P l.length = A ++ kst l := by simp only [P, List.take_length, kst]
 have hPn : ∀ j, (P j).length <= A.length + 1 + 2 * j := by
  intro j
  have : ∀ m : List PFr, (m.flatMap kfr).length = 2 * m.length := by
   intro m
   induction m with
   | nil => rfl
   | cons f m ih => rw [List.flatMap_cons, List.length_append, ih]; simp [kfr]; omega
  simp only [P, List.length_append, List.length_cons, this, List.length_take]
  omega
 have hPs : ∀ j f r2, l.drop j = f :: r2 -> P (j + 1) = P j ++ kfr f := by
  intro j f r2 hd2
  simp only [P]
  rw [take_of_drop hd2]; simp
 refine sem_loop (fun j : Nat => ⟨slotsOf 40 [(1, .ptr 0 0 0), (3, .sl 1 0 (P j).length), (9, .dat (.sl none (stacksD x))), (10, .dat (.int .i64 x.length)), (11, .dat (.int .i64 k)), (21, .dat (.sl (some 2) (frsD l))), (22, .dat (.int .i64 l.length)), (23, .dat (.int .i64 j))], [stO x, .row none (u8sD (P j))], 0, []⟩)
  (fun j => j <= l.length) (fun j => l.length - j) 0 (Nat.zero_le _) ?_ ?_
 ·rw [hP0, show u8sD (A ++ [l.length]) = u8sD A ++ [u8D l.length] from by simp, List.length_append]
  refine le_end (own := [_, _]) (ex := [_]) (Nat.zero_le _) ?_ ?_ ?_
  ·simp only [go_sem, Int.natCast_zero]
  ·simp only [go_sem]
  ·simp only [go_sem, Obj.under, AV.unders, AV.under]
 rintro j hj
 refine sem_of_awp (Γ := tbl []) okG_nil _ _ _ ?_
 have hPj := hPn j
 cases hd2 : l.drop j with
 | nil =>
  obtain rfl : j = l.length := end_of_drop hd2 hj
  have hj2 : ¬ (l.length : Int) < l.length := by omega
  simp only [go_sem, hj2]
  refine ⟨inR_i64.2 (by omega), k + 1, by omega, by omega, ?_⟩
  rw [hPl, hsn]
  exact le_slots' (by simp only [go_sem, Int.natCast_add, Int.cast_ofNat_Int])
 | cons f r2 =>
 have hlt2 := lt_of_drop hd2
 have hj2 : (j : Int) < l.length := by omega
 have hj0 : (0 : Int) <= j := Int.natCast_nonneg j
 have hn2 := nth_of_drop (f := frD) hd2
 obtain ⟨f1, f2, f3, f4⟩ := hff f (mem_of_drop hd2)
 have hw1 : IntKind.u8.wrap f.c = f.c := by rw [wrap_u8]; omega
 have hw2 : IntKind.u8.wrap f.a = f.a := by rw [wrap_u8]; omega
 have hPs := hPs j f r2 hd2
 have e1 : u8sD (P (j + 1)) = u8sD (P j) ++ [.int .u8 f.c, .int .u8 f.a] := by
  rw [hPs]; simp [kfr, Int.toNat_of_nonneg f1, Int.toNat_of_nonneg f3]
 have e2 : (P (j + 1)).length = (P j).length + 2 := by rw [hPs]; simp [kfr]
 have hPjl : (u8sD (P j)).length = (P j).length := by simp
 have hPjt : List.take (P j).length (u8sD (P j)) = u8sD (P j) := List.take_of_length_le (by simp)
 simp only [go_sem, hj2, hj0, hlt2, hn2, frD, hfl, hw1, hw2, hPjl, hPjt, Nat.le_refl]
 refine ⟨by omega, by omega, inR_i64.2 (by omega), j + 1, by omega, by omega, ?_⟩
 rw [e1, e2]
 refine le_end (own := [_, _]) (ex := [_, _]) (Nat.zero_le _) ?_ ?_ ?_
 ·simp only [go_sem, Int.natCast_add, Int.cast_ofNat_Int]
 ·simp only [go_sem]
 ·simp only [go_sem, Obj.under, AV.unders, AV.under]
end Go.AM
namespace Go.AM
open Go Go.Proofs
theorem kfr_inj : ∀ {l m : List PFr} {A B : List Nat}, l.length = m.length -> (∀ f ∈ l, 0 <= f.c /\ 0 <= f.a) -> (∀ f ∈ m, 0 <= f.c /\ 0 <= f.a) -> l.flatMap kfr ++ A = m.flatMap kfr ++ B -> l = m /\ A = B
 | [], [], A, B, _, _, _, h => ⟨rfl, by simpa using h⟩
 | f :: l, g :: m, A, B, hl, h1, h2, h => by
  simp only [List.flatMap_cons, kfr, List.cons_append, List.nil_append, List.cons.injEq] at h
  obtain ⟨e1, e2, e3⟩ := h
  have hf := h1 f (by simp)
  have hg := h2 g (by simp)
  obtain ⟨r1, r2⟩ := kfr_inj (by simpa using hl) (fun q hq => h1 q (by simp [hq])) (fun q hq => h2 q (by simp [hq])) e3
  refine ⟨?_, r2⟩
  obtain ⟨a, b⟩ := f
  obtain ⟨c, d⟩ := g
  simp only at e1 e2 hf hg
  have : a = c := by omega
  have : b = d := by omega
  subst_vars
  rfl
theorem kX_inj : ∀ {x y : PSt}, (∀ l ∈ x, ∀ f ∈ l, 0 <= f.c /\ 0 <= f.a) -> (∀ l ∈ y, ∀ f ∈ l, 0 <= f.c /\ 0 <= f.a) -> kX x = kX y -> x = y
 | [], [], _, _, _ => rfl
 | [], m :: y, _, _, h => by simp [kX, kst] at h
 | l :: x, [], _, _, h => by simp [kX, kst] at h
 | l :: x, m :: y, h1, h2, h => by
  have e : ∀ (l : List PFr) (x : PSt), kX (l :: x) = l.length :: (l.flatMap kfr ++ kX x) := fun l x => by simp [kX, kst]
  rw [e, e, List.cons.injEq] at h
  obtain ⟨r1, r2⟩ := kfr_inj h.1 (h1 l (by simp)) (h2 m (by simp)) h.2
  rw [r1, kX_inj (fun q hq => h1 q (by simp [hq])) (fun q hq => h2 q (by simp [hq])) r2]
theorem u8_inj : ∀ {a b : List Nat}, (∀ n ∈ a, n < 256) -> (∀ n ∈ b, n < 256) -> bytesD (u8sD a) = bytesD (u8sD b) -> a = b
 | [], [], _, _, _ => rfl
 | [], _ :: _, _, _, h => by simp [bytesD] at h
 | _ :: _, [], _, _, h => by simp [bytesD] at h
 | n :: a, m :: b, h1, h2, h => by
  simp only [bytesD, u8sD, List.map_cons, List.cons.injEq] at h
  have hn := h1 n (by simp)
  have hm := h2 m (by simp)
  have e : n = m := by
   have := congrArg UInt8.toNat h.1
   simp only [Int.toNat_natCast, UInt8.toNat_ofNat'] at this
   omega
  rw [e, u8_inj (fun q hq => h1 q (by simp [hq])) (fun q hq => h2 q (by simp [hq])) h.2]
theorem kX_lt {x : PSt} (hx : KFit x) : ∀ n ∈ kX x, n < 256 := by
 intro n hn
 unfold kX at hn
 obtain ⟨l, hl, hn⟩ := List.mem_flatMap.1 hn
 have h25 := hx.stk l hl
 unfold kst at hn
 rcases List.mem_cons.1 hn with rfl | hn
 ·omega
 ·obtain ⟨f, hf, hn⟩ := List.mem_flatMap.1 hn
  have := hx.fr l hl f hf
  unfold kfr at hn
  simp only [List.mem_cons, List.not_mem_nil, or_false] at hn
  rcases hn with rfl | rfl <;> omega
theorem keyX_inj {x y : PSt} (hx : KFit x) (hy : KFit y) (h : keyX x = keyX y) : x = y :=
 kX_inj (fun l hl f hf => by have := hx.fr l hl f hf; omega) (fun l hl f hf => by have := hy.fr l hl f hf; omega) (u8_inj (kX_lt hx) (kX_lt hy) h)
end Go.AM
namespace Go.AM
open Go Go.Proofs
def qfr (f : PFr) : List Nat := [f.c.toNat + 1, f.a.toNat + 1]
def qX (x : PSt) : List Nat := x.flatMap fun l => l.flatMap qfr ++ [0]
def rkeyX (x : PSt) : List UInt8 := bytesD (u8sD (qX x))
def rkeyR (ds : List D) (v : AV) : Prop := ∃ x : PSt, ds = [stD x] /\ KFit x /\ v = .dat (.str (rkeyX x))
end Go.AM
namespace Go.AM
open Go Go.Proofs
def hstep (h : Int) (b : UInt8) : Int := (h * 31 + b.toNat).tmod 1021
def hashN (l : List UInt8) : Int := l.foldl hstep 0
def hashR (ds : List D) (v : AV) : Prop := ∃ l : List UInt8, ds = [.str l] /\ l.length <= 100000 /\ v = .dat (.int .i64 (hashN l))
end Go.AM
namespace Go.AM
open Go Go.Proofs
end Go.AM
namespace Go.AM
open Go Go.Proofs
structure Gr where
 st : List PSt
 frm : List Int
 who : List Int
deriving Inhabited
def idxS (S : List PSt) (t : PSt) : Option Nat := S.findIdx? fun y => decide (y = t)
def inG (s : PSys) (at' : Nat) (x : PSt) : List Nat -> Gr -> List Nat -> Option (Gr × List Nat)
 | [], g, nx => some (g, nx)
 | w :: ws, g, nx => match idxS g.st (takeX s x w) with
  | some i => inG s at' x ws g (nx ++ [i])
  | none => if g.st.length = 4096 then none else inG s at' x ws ⟨g.st ++ [takeX s x w], g.frm ++ [(at' : Int)], g.who ++ [(w : Int)]⟩ (nx ++ [g.st.length])
def outG (s : PSys) : Nat -> Nat -> Gr -> List (List Nat) -> List (List Nat) -> Option (Gr × List (List Nat) × List (List Nat))
 | 0, _, g, ab, nx => some (g, ab, nx)
 | n + 1, k, g, ab, nx => if k < g.st.length then
   (match inG s k (g.st.getD k []) (ableL s (g.st.getD k [])) g [] with
   | none => none
   | some (g', l) => outG s n (k + 1) g' (ab ++ [ableL s (g.st.getD k [])]) (nx ++ [l]))
  else some (g, ab, nx)
def g0 (x : PSt) : Gr := ⟨[x], [-1], [-1]⟩
def reachG (s : PSys) (x : PSt) : Option (Gr × List (List Nat) × List (List Nat)) := outG s 4097 0 (g0 x) [] []
end Go.AM
namespace Go.AM
open Go Go.Proofs
def mpF : Nat -> List PSt -> List (D × D)
 | _, [] => []
 | i, x :: r => (.str (keyX x), .int .i64 i) :: mpF (i + 1) r
theorem mpF_snoc : ∀ {S : List PSt} {i : Nat} {t : PSt}, mpF i (S ++ [t]) = mpF i S ++ [(.str (keyX t), .int .i64 (i + S.length : Nat))]
 | [], i, t => by simp [mpF]
 | x :: S, i, t => by
  rw [List.cons_append, mpF, mpF_snoc, mpF]
  simp [Nat.add_assoc, Nat.add_comm 1]
theorem mpF_findI {t : PSt} (ht : KFit t) : ∀ {S : List PSt} {i : Nat} {n : Nat}, (∀ x ∈ S, KFit x) -> mapFindI (.str (keyX t)) (mpF i S) n = (idxS S t).map fun j => (n + j, .int .i64 (i + j : Nat))
 | [], _, _, _ => rfl
 | x :: S, i, n, h => by
  rw [mpF, mapFindI]
  by_cases e : x = t
  ·subst e
   simp [D.keyEq, idxS, List.findIdx?_cons]
  ·have hne : keyX t ≠ keyX x := fun he => e (keyX_inj (h x (by simp)) ht he.symm)
   have ih := mpF_findI ht (S := S) (i := i + 1) (n := n + 1) fun y hy => h y (by simp [hy])
   rw [if_neg (by simpa [D.keyEq] using hne), ih]
   simp only [idxS, List.findIdx?_cons, e, decide_false, Bool.false_eq_true, if_false]
   cases List.findIdx? (fun y => decide (y = t)) S with
   | none => rfl
   | some j => simp [Nat.add_assoc, Nat.add_comm 1]
theorem mpF_find {t : PSt} (ht : KFit t) {S : List PSt} (h : ∀ x ∈ S, KFit x) : mapFind (.str (keyX t)) (mpF 0 S) = (idxS S t).map fun j => .int .i64 (j : Nat) := by
 unfold mapFind
 rw [mpF_findI ht h]
 cases idxS S t <;> simp
theorem mpF_set {t : PSt} (ht : KFit t) : ∀ {S : List PSt} {i : Nat} {v : D}, (∀ x ∈ S, KFit x) -> idxS S t = none -> mapSet (.str (keyX t)) v (mpF i S) = mpF i S ++ [(.str (keyX t), v)]
 | [], _, _, _, _ => rfl
 | x :: S, i, v, h, hn => by
  simp only [idxS, List.findIdx?_cons] at hn
  by_cases e : x = t
  ·simp [e] at hn
  ·have hne : keyX t ≠ keyX x := fun he => e (keyX_inj (h x (by simp)) ht he.symm)
   have hn2 : idxS S t = none := by
    unfold idxS
    simp only [e, decide_false, Bool.false_eq_true, if_false] at hn
    simpa using hn
   rw [mpF, mapSet, if_neg (by simpa [D.keyEq] using hne), mpF_set ht (fun y hy => h y (by simp [hy])) hn2]
   rfl
end Go.AM
namespace Go.AM
open Go Go.Proofs
abbrev stsD (S : List PSt) : List D := S.map stD
abbrev natlD (l : List Nat) : D := .sl none (natsD l)
abbrev natssD (L : List (List Nat)) : List D := L.map natlD
def grD (g : Gr) (ab nx : List (List Nat)) : D := .agg [.sl (some 1) (stsD g.st), .sl none (natssD ab), .sl none (natssD nx), .sl none (intsD g.frm), .sl none (intsD g.who)]
structure GrOk (s : PSys) (g : Gr) : Prop where
 l1 : g.frm.length = g.st.length
 l2 : g.who.length = g.st.length
 le : g.st.length <= 4096
 val : ∀ x ∈ g.st, Valid s x
theorem mem_able {s : PSys} {x : PSt} {w : Nat} : w ∈ ableL s x ↔ w < x.length /\ ableB s x w = true := by
 unfold ableL; rw [List.mem_filter, List.mem_range]
theorem gok_push {s : PSys} {g : Gr} (h : GrOk s g) {t : PSt} (ht : Valid s t) (hl : g.st.length ≠ 4096) (a w : Int) : GrOk s ⟨g.st ++ [t], g.frm ++ [a], g.who ++ [w]⟩ := by
 have h1 := h.l1; have h2 := h.l2; have h3 := h.le
 refine ⟨by simp [h1], by simp [h2], by simp; omega, fun x hx => ?_⟩
 rcases List.mem_append.1 hx with hx | hx
 ·exact h.val x hx
 ·rw [List.mem_singleton.1 hx]; exact ht
theorem mpF_keys {P : Program} {t : TypeId} : ∀ {S : List PSt} {i : Nat}, (mpF i S).all (fun x => D.isKeyP P t .string x.1) = true
 | [], _ => rfl
 | x :: S, i => by rw [mpF, List.all_cons, mpF_keys]; simp [D.isKeyP, D.isKey]
theorem sts_len {S : List PSt} : (stsD S).length = S.length := by simp
theorem sts_take {S : List PSt} : List.take S.length (stsD S) = stsD S := List.take_of_length_le (by simp)
theorem natss_len {S : List (List Nat)} : (natssD S).length = S.length := by simp
theorem natss_take {S : List (List Nat)} : List.take S.length (natssD S) = natssD S := List.take_of_length_le (by simp)
theorem val_stfit {s : PSys} {x : PSt} (hV : Valid s x) : PStFit x := (val_deep hV).fit (by decide)
abbrev tabXG : List (Nat × Contract) := [(48, dataC keyR), (31, dataC ableR), (35, dataC takeR)]
theorem tabXG_ok : OkG Try.prog (tbl tabXG) := okG_cons key_ok (okG_cons enabled_ok (okG_cons take_ok okG_nil))
theorem pureXG : PureFns (tbl tabXG) [48, 31, 35] := by
 refine pure_of2 fun g C hm hg => ?_
 simp only [List.mem_cons, List.not_mem_nil, or_false, Prod.mk.injEq] at hm
 rcases hm with ⟨_, rfl⟩ | ⟨_, rfl⟩ | ⟨_, rfl⟩ <;> exact .inl ⟨_, rfl⟩
def reachV (s : PSys) (x : PSt) : AV := match reachG s x with
 | none => .tup [.top, .dat (.bool false)]
 | some (g, ab, nx) => .tup [.rptr (some 5) (grD g ab nx), .dat (.bool true)]
def reachR (ds : List D) (v : AV) : Prop := ∃ (s : PSys) (x : PSt), ds = [sysD s, stD x] /\ Valid s x /\ v = reachV s x
abbrev grB (n k : Nat) : Obj := .box [.sl 2 0 n, .sl 7 0 k, .sl 8 0 k, .sl 3 0 n, .sl 4 0 n]
abbrev ownG (s : PSys) (x : PSt) (g : Gr) (ab nx : List (List Nat)) (k : Nat) : List Obj := [sysO s, stO x, .row (some 1) (stsD g.st), .row none (intsD g.frm), .row none (intsD g.who), grB g.st.length k, .map (mpF 0 g.st), .row none (natssD ab), .row none (natssD nx)]
theorem xreach_ok : OkF Try.prog 23 (dataC reachR) := by
 refine okF_data Try.func23 rfl (by decide) ?_
 rintro ds v ⟨s, x, rfl, hV, rfl⟩
 refine sem_of_awpK [3] (Γ := tbl tabXG) tabXG_ok _ _ _ ?_
 simp only [go_sem, Try.ntmps23, sysD, stD]
 refine call_data keyR (by simp) [stD x] _ rfl ⟨x, rfl, val_kfit hV, rfl⟩ (.inl rfl) ?_
 simp only [go_sem]
 refine sem_le (le_addnilR 5 1 none rfl rfl (Nat.zero_le _)) ?_
 refine sem_le (le_addnilR 5 2 none rfl rfl (Nat.zero_le _)) ?_
 refine sem_of_awp (Γ := tbl tabXG) tabXG_ok _ _ _ ?_
 simp only [go_sem]
 generalize hRV : reachV s x = V
 refine sem_loop (fun p : Nat × Gr × List (List Nat) × List (List Nat) => ⟨slotsOf 141 [(2, .ptr 0 0 0), (3, .ptr 1 0 0), (6, .ptr 5 0 0), (7, .map 6), (8, .dat (.int .i64 p.1))], ownG s x p.2.1 p.2.2.1 p.2.2.2 p.1, 0, []⟩)
  (fun p => GrOk s p.2.1 /\ p.1 <= p.2.1.st.length /\ p.2.2.1.length = p.1 /\ p.2.2.2.length = p.1 /\ outG s (4097 - p.1) p.1 p.2.1 p.2.2.1 p.2.2.2 = reachG s x) (fun p => 4097 - p.1) (0, g0 x, [], []) ⟨⟨rfl, rfl, by simp [g0], by simpa [g0] using hV⟩, Nat.zero_le _, rfl, rfl, rfl⟩ ?_ ?_
 ·exact le_slots' (by simp only [go_sem, Int.natCast_zero])
 rintro ⟨k, g, ab, nx⟩ ⟨hG, hk, hab, hnx, hout⟩
 simp only at hG hk hab hnx hout ⊢
 have g1 := hG.l1
 have g2 := hG.l2
 have g3 := hG.le
 have hk0 : (0 : Int) <= k := Int.natCast_nonneg k
 obtain ⟨m, hm⟩ : ∃ m, 4097 - k = m + 1 := ⟨4096 - k, by omega⟩
 rw [hm, outG] at hout
 rcases Nat.lt_or_ge k g.st.length with hlt | hge
 case inr =>
  obtain rfl : k = g.st.length := by omega
  rw [if_neg (by omega)] at hout
  have hk2 : ¬ (g.st.length : Int) < g.st.length := by omega
  have hV2 : V = .tup [.rptr (some 5) (grD g ab nx), .dat (.bool true)] := by rw [← hRV]; unfold reachV; rw [← hout]
  subst hV2
  have t1 : List.take g.st.length (stsD g.st) = stsD g.st := sts_take
  have t2 : List.take g.st.length (intsD g.frm) = intsD g.frm := List.take_of_length_le (by simp [g1])
  have t3 : List.take g.st.length (intsD g.who) = intsD g.who := List.take_of_length_le (by simp [g2])
  have t4 : List.take g.st.length (natssD ab) = natssD ab := List.take_of_length_le (by simp [hab])
  have t5 : List.take g.st.length (natssD nx) = natssD nx := List.take_of_length_le (by simp [hnx])
  refine sem_le (le_freeze 2 (ag := some 1) rfl (Nat.zero_le _)) ?_
  simp only [go_sem, sts_len, Nat.le_refl, t1]
  refine sem_le (le_freeze 3 (ag := none) rfl (Nat.zero_le _)) ?_
  simp only [go_sem, ints_len, g1, Nat.le_refl, t2]
  refine sem_le (le_freeze 4 (ag := none) rfl (Nat.zero_le _)) ?_
  simp only [go_sem, ints_len, g2, Nat.le_refl, t3]
  refine sem_le (le_freeze 7 (ag := none) rfl (Nat.zero_le _)) ?_
  simp only [go_sem, natss_len, hab, Nat.le_refl, t4]
  refine sem_le (le_freeze 8 (ag := none) rfl (Nat.zero_le _)) ?_
  simp only [go_sem, natss_len, hnx, Nat.le_refl, t5]
  refine sem_le (le_freezeB 5 (ds := [.sl (some 1) (stsD g.st), .sl none (natssD ab), .sl none (natssD nx), .sl none (intsD g.frm), .sl none (intsD g.who)]) rfl (Nat.zero_le _)) ?_
  simp only [go_sem]
  refine sem_of_awp (Γ := tbl tabXG) tabXG_ok _ _ _ ?_
  simp only [go_sem, hk2]
  exact post_data (.inl rfl) [4, 5] rfl (by simp only [AV.under, AV.unders, and_self]) rfl
 rw [if_pos hlt] at hout
 have hk2 : (k : Int) < g.st.length := by omega
 refine sem_of_awpK [8, 23] (Γ := tbl tabXG) tabXG_ok _ _ _ ?_
 simp only [go_sem, hk2]
 generalize hy : g.st.getD k [] = y at *
 have hVy : Valid s y := hG.val y (by rw [← hy, List.getD_eq_getElem?_getD, List.getElem?_eq_getElem hlt]; exact List.getElem_mem _)
 have hyn : D.nth (stsD g.st) k = stD y := by rw [← hy]; exact D.nth_map hlt
 have hyf := val_stfit hVy
 have hy24 := hVy.l24
 have hal : (ableL s y).length <= y.length := able_len s y y.length
 refine sem_drawY [] [] (pf := [48, 31, 35]) (mf := []) mixed tabXG_ok pureXG noMk (ones [0, 1, 2, 3, 4, 5, 6, 7, 8, 9]) (by kernel_rfl) ?_
 simp only [go_sem, hk0, hlt, hk2, sts_len, hyn, stD]
 refine call_data ableR (by simp) [sysD s, stD y] _ rfl ⟨s, y, rfl, hVy, hyf, rfl⟩ (.inl rfl) ?_
 simp only [go_sem]
 refine sem_le (le_addnil 10 none rfl (Nat.zero_le _)) ?_
 refine sem_of_awpK [23] (Γ := tbl tabXG) tabXG_ok _ _ _ ?_
 have hA : ∀ w ∈ ableL s y, w < y.length /\ ableB s y w = true := fun w hw => mem_able.1 hw
 generalize ableL s y = A at *
 simp only [go_sem, nats_len]
 generalize hin : inG s k y A g [] = R at hout
 refine sem_loop (fun p : Nat × Gr × List Nat => ⟨slotsOf 141 [(2, .ptr 0 0 0), (3, .ptr 1 0 0), (6, .ptr 5 0 0), (7, .map 6), (8, .dat (.int .i64 k)), (9, .dat (.sl none (natsD A))), (10, .sl 9 0 p.2.2.length), (45, .dat (.sl none (natsD A))), (46, .dat (.int .i64 A.length)), (47, .dat (.int .i64 p.1))], ownG s x p.2.1 ab nx k ++ [.row none (natsD p.2.2)], 0, []⟩)
  (fun p => GrOk s p.2.1 /\ k < p.2.1.st.length /\ p.2.1.st.getD k [] = y /\ p.1 <= A.length /\ p.2.2.length = p.1 /\ inG s k y (A.drop p.1) p.2.1 p.2.2 = R) (fun p => A.length - p.1) (0, g, []) ⟨hG, hlt, hy, Nat.zero_le _, rfl, by rw [List.drop_zero]; exact hin⟩ ?_ ?_
 ·exact le_slots' (by simp only [go_sem, Int.natCast_zero])
 clear hin
 clear hG hlt hy hk2 hk g1 g2 g3
 rintro ⟨j, g, l⟩ ⟨hG, hlt, hy, hj, hl, hin⟩
 simp only at hG hlt hy hj hl hin ⊢
 have g1 := hG.l1
 have g2 := hG.l2
 have g3 := hG.le
 have hk2 : (k : Int) < g.st.length := by omega
 have hyn : D.nth (stsD g.st) k = stD y := by rw [← hy]; exact D.nth_map hlt
 cases hd : A.drop j with
 | nil =>
  obtain rfl : j = A.length := end_of_drop hd hj
  have hj2 : ¬ (A.length : Int) < A.length := by omega
  rw [hd, inG] at hin
  subst hin
  simp only at hout
  refine sem_of_awpK [23] (Γ := tbl tabXG) tabXG_ok _ _ _ ?_
  simp only [go_sem, hj2]
  refine sem_le (le_freeze 9 (ag := none) rfl (Nat.zero_le _)) ?_
  have q1 : List.take l.length (natsD l) = natsD l := nats_take
  simp only [go_sem, nats_len, Nat.le_refl, q1]
  refine sem_le (σ' := ⟨slotsOf 141 [(2, .ptr 0 0 0), (3, .ptr 1 0 0), (6, .ptr 5 0 0), (7, .map 6), (8, .dat (.int .i64 k)), (9, .dat (.sl none (natsD A))), (10, .dat (.sl none (natsD l)))], ownG s x g ab nx k, 0, []⟩) ?_ ?_
  ·refine le_end (own := [_, _, _, _, _, _, _, _, _]) (ex := [_]) (Nat.zero_le _) ?_ ?_ ?_
   ·simp only [go_sem]
   ·simp only [go_sem]
   ·simp only [go_sem, Obj.allUnder, Obj.under, AV.unders, AV.under]
  have q2 : List.take k (natssD ab) = natssD ab := by rw [← hab]; exact natss_take
  have q3 : List.take k (natssD nx) = natssD nx := by rw [← hnx]; exact natss_take
  have q4 : (natssD ab).length = k := by simp [hab]
  have q5 : (natssD nx).length = k := by simp [hnx]
  have q6 : natssD (ab ++ [A]) = natssD ab ++ [natlD A] := by simp
  have q7 : natssD (nx ++ [l]) = natssD nx ++ [natlD l] := by simp
  refine sem_drawV [(18, [5]), (21, [5])] [(8, [7]), (15, [8]), (0, [7]), (0, [8]), (1, [7]), (1, [8]), (2, [7]), (2, [8]), (3, [7]), (3, [8]), (4, [7]), (4, [8]), (5, [8]), (6, [7]), (6, [8]), (9, [7]), (9, [8]), (10, [7]), (10, [8]), (11, [7]), (11, [8]), (12, [7]), (13, [7]), (13, [8])] (pf := []) (mf := []) mixed tabXG_ok pureNo noMk (.one 0 (.one 1 (.one 2 (.one 3 (.one 4 (.one 5 (.one 6 (.one 9 (.one 10 (.one 11 (.one 12 (.one 13 (.alt 7 (.alt 8 (.alt 14 (.one 15 (.one 16 (.one 17 (.one 18 (.one 19 (.one 20 (.one 21 .fin))))))) .stop) (.alt 14 (.one 8 (.one 15 (.one 16 (.one 17 (.one 18 (.one 19 (.one 20 (.one 21 .fin)))))))) .stop)) (.alt 14 (.alt 7 (.one 8 (.one 15 (.one 16 (.one 17 (.one 18 (.one 19 (.one 20 (.one 21 .fin)))))))) .stop) .stop)))))))))))))) (by kernel_rfl) ?_
  simp only [go_sem, q2, q3, q4, q5, Nat.le_refl]
  refine ⟨?_, ?_⟩ <;>
  ·refine ⟨by omega, by omega, by omega, by omega, inR_i64.2 (by omega), (k + 1, g, ab ++ [A], nx ++ [l]), ⟨hG, by simp only; omega, by simp [hab], by simp [hnx], ?_⟩, by simp only; omega, ?_⟩
   ·simp only
    rw [show 4097 - (k + 1) = m by omega]
    exact hout
   ·simp only [ownG, q6, q7]
    refine le_end (own := [_, _, _, _, _, _, _, _, _]) (ex := [_, _]) (Nat.zero_le _) ?_ ?_ ?_
    ·simp only [go_sem, Int.natCast_add, Int.cast_ofNat_Int]
    ·simp only [go_sem]
    ·simp only [go_sem, Obj.allUnder, Obj.under, AV.unders, AV.under]
 | cons w r =>
 have hltj := lt_of_drop hd
 have hj2 : (j : Int) < A.length := by omega
 have hj0 : (0 : Int) <= j := Int.natCast_nonneg j
 have hwn : D.nth (natsD A) j = .int .i64 w := nth_of_drop hd
 obtain ⟨hw, hwa⟩ := hA w (mem_of_drop hd)
 have hVt := val_take hVy hw hwa
 rw [hd, inG] at hin
 generalize ht : takeX s y w = t at *
 have hsn : mpF 0 (g.st ++ [t]) = mpF 0 g.st ++ [(.str (keyX t), .int .i64 (g.st.length : Nat))] := by rw [mpF_snoc, Nat.zero_add]
 have hKt := val_kfit hVt
 have hKS : ∀ z ∈ g.st, KFit z := fun z hz => val_kfit (hG.val z hz)
 have hfind := mpF_find hKt hKS
 have hkeys : ∀ τ : TypeId, ((mpF 0 g.st).all fun x => D.isKeyP Try.prog τ .string x.1) = true := fun τ => mpF_keys
 refine sem_of_awpK [11, 12] (Γ := tbl tabXG) tabXG_ok _ _ _ ?_
 simp only [go_sem, hj2, hj0, hltj, hwn, nats_len]
 refine sem_drawY [(11, [10])] [] (pf := [48, 31, 35]) (mf := []) mixed tabXG_ok pureXG noMk (.one 0 (.one 1 (.one 2 (.one 3 (.one 4 (.one 5 (.one 6 (.one 7 (.one 8 (.alt 9 (.one 10 (.one 11 .fin)) (.alt 10 (.one 9 (.one 11 .fin)) .stop))))))))))) (by kernel_rfl) ?_
 generalize hK : andThenK [11, 12] Try.prog (tbl tabXG) _ _ = Q
 have hcl : ∀ σ σ', Le σ σ' -> Q .normal σ' -> Q .normal σ := by
  subst hK
  intro σ σ' h1 h2
  exact sem_le h1 h2
 suffices hQ1 : Q .normal ⟨slotsOf 141 [(2, .ptr 0 0 0), (3, .ptr 1 0 0), (6, .ptr 5 0 0), (7, .map 6), (8, .dat (.int .i64 k)), (9, .dat (.sl none (natsD A))), (10, .sl 9 0 l.length), (12, .dat (.int .i64 w)), (13, .ptr 10 0 0), (45, .dat (.sl none (natsD A))), (46, .dat (.int .i64 A.length)), (47, .dat (.int .i64 j))], ownG s x g ab nx k ++ [.row none (natsD l), stO t], 0, []⟩ by
  simp only [go_sem, hk0, hlt, hk2, sts_len, hyn, stD]
  refine ⟨?_, ?_⟩ <;>
  ·refine call_data takeR (by simp) [sysD s, stD y, .int .i64 w] _ rfl ⟨s, y, w, rfl, hVy, hyf, hw, rfl⟩ (.inl rfl) ?_
   simp only [go_sem, ht, stD]
   exact hcl _ _ (le_slots' (by simp only [go_sem])) hQ1
 subst hK
 clear hcl
 refine sem_of_awp (Γ := tbl tabXG) tabXG_ok _ _ _ ?_
 simp only [go_sem]
 refine call_data keyR (by simp) [stD t] _ rfl ⟨t, rfl, hKt, rfl⟩ (.inl rfl) ?_
 cases hix : idxS g.st t with
 | some i =>
  rw [hix] at hin hfind
  simp only at hin
  simp only [go_sem, hkeys, hfind, Option.map_some]
  refine ⟨by omega, by omega, inR_i64.2 (by omega), (j + 1, g, l ++ [i]), ⟨hG, hlt, hy, by simp only; omega, by simp [hl], ?_⟩, by simp only; omega, ?_⟩
  ·simp only
   rw [drop_cons hd]
   exact hin
  ·have q1 : natsD (l ++ [i]) = natsD l ++ [D.int .i64 i] := by simp
   have q2 : List.take l.length (natsD l) = natsD l := nats_take
   simp only [q1, q2, List.length_append, List.length_cons, List.length_nil]
   refine le_end (own := [_, _, _, _, _, _, _, _, _, _]) (ex := [_, _]) (Nat.zero_le _) ?_ ?_ ?_
   ·simp only [go_sem, Int.natCast_add, Int.cast_ofNat_Int]
   ·simp only [go_sem]
   ·simp only [go_sem, Obj.allUnder, Obj.under, AV.unders, AV.under]
 | none =>
  rw [hix] at hin hfind
  simp only at hin
  simp only [go_sem, hkeys, hfind, Option.map_none]
  by_cases h4 : g.st.length = 4096
  ·rw [if_pos h4] at hin
   have h4i : (g.st.length : Int) = 4096 := by omega
   subst hin
   simp only at hout
   have hV2 : V = .tup [.top, .dat (.bool false)] := by rw [← hRV]; unfold reachV; rw [← hout]
   subst hV2
   simp only [go_sem, h4i]
   exact post_data (.inl rfl) [4, 5] rfl (by simp only [AV.under, AV.unders, and_self]) rfl
  rw [if_neg h4] at hin
  have h4i : ¬ (g.st.length : Int) = 4096 := by omega
  have hset : mapSet (.str (keyX t)) (.int .i64 (g.st.length : Nat)) (mpF 0 g.st) = mpF 0 (g.st ++ [t]) := by rw [mpF_set hKt hKS hix, hsn]
  have q1 : List.take g.st.length (stsD g.st) = stsD g.st := sts_take
  have q2 : List.take g.st.length (intsD g.frm) = intsD g.frm := by rw [← g1]; exact ints_take
  have q3 : List.take g.st.length (intsD g.who) = intsD g.who := by rw [← g2]; exact ints_take
  have q4 : stsD (g.st ++ [t]) = stsD g.st ++ [D.agg [.sl none (stacksD t)]] := by simp [stD]
  have q5 : intsD (g.frm ++ [(k : Int)]) = intsD g.frm ++ [D.int .i64 k] := by simp
  have q6 : intsD (g.who ++ [(w : Int)]) = intsD g.who ++ [D.int .i64 w] := by simp
  have q7 : natsD (l ++ [g.st.length]) = natsD l ++ [D.int .i64 g.st.length] := by simp
  have q8 : List.take l.length (natsD l) = natsD l := nats_take
  simp only [go_sem, h4i, hkeys, hset]
  refine sem_drawV [(10, [5])] [(7, [2]), (0, [2]), (1, [2]), (2, [2]), (3, [2]), (5, [2])] (pf := []) (mf := []) mixed tabXG_ok pureNo noMk (.one 0 (.one 1 (.one 2 (.one 3 (.one 4 (.one 5 (.one 6 (.one 7 (.one 8 (.one 9 (.one 10 .fin))))))))))) (by kernel_rfl) ?_
  simp only [go_sem, sts_len, q1, Nat.le_refl]
  refine ⟨by omega, by omega, ?_⟩
  refine sem_drawV [(18, [5]), (21, [5])] [(8, [3]), (15, [4]), (0, [3]), (0, [4]), (1, [3]), (1, [4]), (2, [3]), (2, [4]), (3, [3]), (3, [4]), (4, [3]), (4, [4]), (5, [4]), (6, [3]), (6, [4]), (9, [3]), (9, [4]), (10, [3]), (10, [4]), (11, [3]), (11, [4]), (12, [3]), (13, [3]), (13, [4])] (pf := []) (mf := []) mixed tabXG_ok pureNo noMk (.one 0 (.one 1 (.one 2 (.one 3 (.one 4 (.one 5 (.one 6 (.one 9 (.one 10 (.one 11 (.one 12 (.one 13 (.alt 7 (.alt 8 (.alt 14 (.one 15 (.one 16 (.one 17 (.one 18 (.one 19 (.one 20 (.one 21 .fin))))))) .stop) (.alt 14 (.one 8 (.one 15 (.one 16 (.one 17 (.one 18 (.one 19 (.one 20 (.one 21 .fin)))))))) .stop)) (.alt 14 (.alt 7 (.one 8 (.one 15 (.one 16 (.one 17 (.one 18 (.one 19 (.one 20 (.one 21 .fin)))))))) .stop) .stop)))))))))))))) (by kernel_rfl) ?_
  simp only [go_sem, ints_len, q2, q3, g1, g2, Nat.le_refl, nats_len, q8]
  refine ⟨?_, ?_⟩ <;>
  ·refine ⟨by omega, by omega, by omega, by omega, by omega, by omega, inR_i64.2 (by omega), (j + 1, ⟨g.st ++ [t], g.frm ++ [(k : Int)], g.who ++ [(w : Int)]⟩, l ++ [g.st.length]), ⟨gok_push hG hVt h4 _ _, by simp only [List.length_append]; omega, ?_, by simp only; omega, by simp [hl], ?_⟩, by simp only; omega, ?_⟩
   ·simp only
    rw [List.getD_eq_getElem?_getD, List.getElem?_append_left hlt, ← List.getD_eq_getElem?_getD]
    exact hy
   ·simp only
    rw [drop_cons hd]
    exact hin
   ·simp only [q4, q5, q6, q7, ownG, List.length_append, List.length_cons, List.length_nil]
    refine le_end (own := [_, _, _, _, _, _, _, _, _, _]) (ex := [_, _, _, _, _]) (Nat.zero_le _) ?_ ?_ ?_
    ·simp only [go_sem, Int.natCast_add, Int.cast_ofNat_Int]
    ·simp only [go_sem]
    ·simp only [go_sem, Obj.allUnder, Obj.under, AV.unders, AV.under]
end Go.AM
namespace Go.AM
open Go Go.Proofs
inductive Rch (s : PSys) (x : PSt) : PSt -> Prop
 | refl : Rch s x x
 | step {y : PSt} {w : Nat} : Rch s x y -> w < y.length -> ableB s y w = true -> Rch s x (takeX s y w)
theorem Rch.trans {s : PSys} {x y z : PSt} (h : Rch s x y) (k : Rch s y z) : Rch s x z := by
 induction k with
 | refl => exact h
 | step _ h1 h2 ih => exact .step ih h1 h2
theorem Rch.val {s : PSys} {x y : PSt} (h : Rch s x y) (hV : Valid s x) : Valid s y := by
 induction h with
 | refl => exact hV
 | step _ h1 h2 ih => exact val_take ih h1 h2
theorem Rch.len {s : PSys} {x y : PSt} (h : Rch s x y) : y.length = x.length := by
 induction h with
 | refl => rfl
 | step _ h1 h2 ih => rw [takeX_len]; exact ih
theorem idxS_lt {S : List PSt} {t : PSt} {i : Nat} (h : idxS S t = some i) : ∃ hi : i < S.length, S[i] = t := by
 unfold idxS at h
 rw [List.findIdx?_eq_some_iff_getElem] at h
 obtain ⟨hi, h1, _⟩ := h
 exact ⟨hi, by simpa using h1⟩
theorem idxS_mem {S : List PSt} {t : PSt} {i : Nat} (h : idxS S t = some i) : t ∈ S := by
 obtain ⟨hi, rfl⟩ := idxS_lt h
 exact List.getElem_mem hi
theorem idxS_none {S : List PSt} {t : PSt} : idxS S t = none ↔ t ∉ S := by
 unfold idxS
 rw [List.findIdx?_eq_none_iff]
 constructor
 ·intro h hm; simpa using h t hm
 ·intro h y hy
  simp only [decide_eq_false_iff_not]
  rintro rfl; exact h hy
theorem idxS_some {S : List PSt} {t : PSt} (h : t ∈ S) : ∃ i, idxS S t = some i := by
 cases e : idxS S t with
 | none => exact absurd h (idxS_none.1 e)
 | some i => exact ⟨i, rfl⟩
theorem idxS_app {S T : List PSt} {t : PSt} {i : Nat} (h : idxS S t = some i) : idxS (S ++ T) t = some i := by
 unfold idxS at h ⊢
 rw [List.findIdx?_append, h]; rfl
theorem idxS_new {S : List PSt} {t : PSt} (h : idxS S t = none) : idxS (S ++ [t]) t = some S.length := by
 unfold idxS at h ⊢
 rw [List.findIdx?_append, h]
 simp [List.findIdx?_cons]
def nxRow (s : PSys) (S : List PSt) (y : PSt) : List Nat := (ableL s y).map fun w => (idxS S (takeX s y w)).getD 0
def Closed1 (s : PSys) (S : List PSt) (y : PSt) : Prop := ∀ w ∈ ableL s y, takeX s y w ∈ S
theorem Closed1.app {s : PSys} {S T : List PSt} {y : PSt} (h : Closed1 s S y) : Closed1 s (S ++ T) y := fun w hw => List.mem_append_left _ (h w hw)
theorem nxRow_app {s : PSys} {S T : List PSt} {y : PSt} (h : Closed1 s S y) : nxRow s (S ++ T) y = nxRow s S y := by
 unfold nxRow
 refine List.map_congr_left fun w hw => ?_
 obtain ⟨i, hi⟩ := idxS_some (h w hw)
 rw [idxS_app hi, hi]
structure GInv (s : PSys) (x : PSt) (g : Gr) : Prop where
 ok : GrOk s g
 hd : ∃ T, g.st = x :: T
 nd : g.st.Nodup
 rch : ∀ y ∈ g.st, Rch s x y
 prov : ∀ i, 0 < i -> i < g.st.length -> ∃ a w : Nat, g.frm.getD i 0 = a /\ g.who.getD i 0 = w /\ a < i /\ w < (g.st.getD a []).length /\ ableB s (g.st.getD a []) w = true /\ g.st.getD i [] = takeX s (g.st.getD a []) w
 hd2 : g.frm.getD 0 0 = -1 /\ g.who.getD 0 0 = -1
theorem ginv0 {s : PSys} {x : PSt} (hV : Valid s x) : GInv s x (g0 x) where
 ok := ⟨rfl, rfl, by simp [g0], by simpa [g0] using hV⟩
 hd := ⟨[], rfl⟩
 nd := by simp [g0]
 rch := by simp only [g0, List.mem_singleton]; rintro y rfl; exact .refl
 prov := by simp only [g0, List.length_singleton]; intro i h1 h2; omega
 hd2 := ⟨rfl, rfl⟩
theorem getD_app {α : Type} {S : List α} {d t : α} {i : Nat} (h : i < S.length) : (S ++ [t]).getD i d = S.getD i d := by
 rw [List.getD_eq_getElem?_getD, List.getElem?_append_left h, ← List.getD_eq_getElem?_getD]
theorem getD_end {α : Type} {S : List α} {d t : α} : (S ++ [t]).getD S.length d = t := by
 rw [List.getD_eq_getElem?_getD, List.getElem?_append_right (Nat.le_refl _)]; simp
theorem getD_memS {S : List PSt} {i : Nat} (h : i < S.length) : S.getD i [] ∈ S := by
 rw [List.getD_eq_getElem?_getD, List.getElem?_eq_getElem h]; exact List.getElem_mem h
theorem GInv.push {s : PSys} {x : PSt} {g : Gr} (h : GInv s x g) {k w : Nat} (hk : k < g.st.length) (hw : w < (g.st.getD k []).length) (ha : ableB s (g.st.getD k []) w = true)
  (hn : idxS g.st (takeX s (g.st.getD k []) w) = none) (hl : g.st.length ≠ 4096) : GInv s x ⟨g.st ++ [takeX s (g.st.getD k []) w], g.frm ++ [(k : Int)], g.who ++ [(w : Int)]⟩ := by
 have hVk := h.ok.val _ (getD_memS hk)
 refine ⟨gok_push h.ok (val_take hVk hw ha) hl _ _, ?_, ?_, ?_, ?_, ?_⟩
 ·obtain ⟨T, hT⟩ := h.hd
  exact ⟨T ++ [takeX s (g.st.getD k []) w], by simp only [hT, List.cons_append]⟩
 ·simp only
  rw [List.nodup_append]
  refine ⟨h.nd, by simp, fun a ha b hb => ?_⟩
  rw [List.mem_singleton] at hb
  subst hb
  rintro rfl
  exact idxS_none.1 hn ha
 ·intro y hy
  rcases List.mem_append.1 hy with hy | hy
  ·exact h.rch y hy
  ·rw [List.mem_singleton.1 hy]
   exact .step (h.rch _ (getD_memS hk)) hw ha
 ·intro i h0 hi
  simp only [List.length_append, List.length_singleton] at hi ⊢
  rcases Nat.lt_or_ge i g.st.length with hlt | hge
  ·obtain ⟨a, v, e1, e2, e3, e4, e5, e6⟩ := h.prov i h0 hlt
   refine ⟨a, v, ?_, ?_, e3, ?_⟩
   ·rw [getD_app (by rw [h.ok.l1]; exact hlt)]; exact e1
   ·rw [getD_app (by rw [h.ok.l2]; exact hlt)]; exact e2
   ·rw [getD_app (i := a) (by omega), getD_app hlt]; exact ⟨e4, e5, e6⟩
  ·obtain rfl : i = g.st.length := by omega
   refine ⟨k, w, ?_, ?_, hk, ?_⟩
   ·rw [← h.ok.l1]; exact getD_end
   ·rw [← h.ok.l2]; exact getD_end
   ·rw [getD_app hk, getD_end]; exact ⟨hw, ha, rfl⟩
 ·have hp : 0 < g.st.length := by omega
  have h1 := h.ok.l1
  have h2 := h.ok.l2
  simp only
  rw [getD_app (by omega), getD_app (by omega)]
  exact h.hd2
theorem inG_ok {s : PSys} {x : PSt} {k : Nat} {y : PSt} : ∀ (ws : List Nat) (g : Gr) (nx : List Nat), (∀ w ∈ ws, w < y.length /\ ableB s y w = true) -> GInv s x g -> k < g.st.length -> g.st.getD k [] = y ->
  match inG s k y ws g nx with
  | some (g', nx') => GInv s x g' /\ (∃ T, g'.st = g.st ++ T) /\ (∀ w ∈ ws, takeX s y w ∈ g'.st) /\ nx' = nx ++ ws.map fun w => (idxS g'.st (takeX s y w)).getD 0
  | none => ∃ L : List PSt, L.length = 4097 /\ L.Nodup /\ ∀ z ∈ L, Rch s x z
 | [], g, nx, _, hG, _, _ => by
  simp only [inG]
  exact ⟨hG, ⟨[], by simp⟩, by simp, by simp⟩
 | w :: ws, g, nx, hws, hG, hk, hy => by
  obtain ⟨hw, ha⟩ := hws w (by simp)
  have hws' : ∀ v ∈ ws, v < y.length /\ ableB s y v = true := fun v hv => hws v (by simp [hv])
  simp only [inG]
  cases hi : idxS g.st (takeX s y w) with
  | some i =>
   simp only
   have ih := inG_ok ws g (nx ++ [i]) hws' hG hk hy
   revert ih
   cases inG s k y ws g (nx ++ [i]) with
   | none => exact id
   | some p =>
    obtain ⟨g', nx'⟩ := p
    simp only
    rintro ⟨h1, ⟨T, hT⟩, h3, h4⟩
    refine ⟨h1, ⟨T, hT⟩, ?_, ?_⟩
    ·intro v hv
     rcases List.mem_cons.1 hv with rfl | hv
     ·rw [hT]; exact List.mem_append_left _ (idxS_mem hi)
     ·exact h3 v hv
    ·rw [h4, List.map_cons, hT, idxS_app hi]; simp
  | none =>
   simp only
   subst hy
   by_cases h4 : g.st.length = 4096
   ·rw [if_pos h4]
    refine ⟨g.st ++ [takeX s (g.st.getD k []) w], by simp [h4], ?_, ?_⟩
    ·rw [List.nodup_append]
     refine ⟨hG.nd, by simp, fun a ha b hb => ?_⟩
     rw [List.mem_singleton] at hb
     subst hb
     rintro rfl
     exact idxS_none.1 hi ha
    ·intro z hz
     rcases List.mem_append.1 hz with hz | hz
     ·exact hG.rch z hz
     ·rw [List.mem_singleton.1 hz]
      exact .step (hG.rch _ (getD_memS hk)) hw ha
   ·rw [if_neg h4]
    have hG' := hG.push hk hw ha hi h4
    have ih := inG_ok (y := g.st.getD k []) ws _ (nx ++ [g.st.length]) hws' hG' (show k < (g.st ++ [takeX s (g.st.getD k []) w]).length by rw [List.length_append]; omega) (by simp only; exact getD_app hk)
    revert ih
    cases inG s k (g.st.getD k []) ws ⟨g.st ++ [takeX s (g.st.getD k []) w], g.frm ++ [(k : Int)], g.who ++ [(w : Int)]⟩ (nx ++ [g.st.length]) with
    | none => exact id
    | some p =>
     obtain ⟨g', nx'⟩ := p
     simp only
     rintro ⟨h1, ⟨T, hT⟩, h3, h5⟩
     refine ⟨h1, ⟨takeX s (g.st.getD k []) w :: T, by rw [hT]; simp only [List.append_assoc, List.cons_append, List.nil_append]⟩, ?_, ?_⟩
     ·intro v hv
      rcases List.mem_cons.1 hv with rfl | hv
      ·rw [hT]; simp
      ·exact h3 v hv
     ·rw [h5, List.map_cons, hT, idxS_app (idxS_new hi)]; simp
theorem take_succ_getD {S : List PSt} {k : Nat} (h : k < S.length) : S.take (k + 1) = S.take k ++ [S.getD k []] := by
 rw [List.take_add_one, List.getElem?_eq_getElem h, List.getD_eq_getElem?_getD, List.getElem?_eq_getElem h]; rfl
theorem outG_ok {s : PSys} {x : PSt} : ∀ (n k : Nat) (g : Gr) (ab nx : List (List Nat)), n + k = 4097 -> GInv s x g -> k <= g.st.length -> ab = (g.st.take k).map (ableL s) -> nx = (g.st.take k).map (nxRow s g.st) -> (∀ y ∈ g.st.take k, Closed1 s g.st y) ->
  match outG s n k g ab nx with
  | some (g', ab', nx') => GInv s x g' /\ (∀ y ∈ g'.st, Closed1 s g'.st y) /\ ab' = g'.st.map (ableL s) /\ nx' = g'.st.map (nxRow s g'.st)
  | none => ∃ L : List PSt, L.length = 4097 /\ L.Nodup /\ ∀ z ∈ L, Rch s x z
 | 0, k, g, ab, nx, hn, hG, hk, _, _, _ => by
  have := hG.ok.le
  omega
 | n + 1, k, g, ab, nx, hn, hG, hk, hab, hnx, hcl => by
  simp only [outG]
  by_cases hlt : k < g.st.length
  ·rw [if_pos hlt]
   have h1 := inG_ok (s := s) (x := x) (k := k) (y := g.st.getD k []) (ableL s (g.st.getD k [])) g [] (fun w hw => mem_able.1 hw) hG hlt rfl
   revert h1
   cases inG s k (g.st.getD k []) (ableL s (g.st.getD k [])) g [] with
   | none => exact id
   | some p =>
    obtain ⟨g', l⟩ := p
    simp only
    rintro ⟨h1, ⟨T, hT⟩, h3, h4⟩
    have hlt' : k < g'.st.length := by rw [hT, List.length_append]; omega
    have htk : g'.st.take k = g.st.take k := by rw [hT, List.take_append_of_le_length hk]
    have hgd : g'.st.getD k [] = g.st.getD k [] := by rw [hT, List.getD_eq_getElem?_getD, List.getElem?_append_left hlt, ← List.getD_eq_getElem?_getD]
    refine outG_ok n (k + 1) g' _ _ (by omega) h1 hlt' ?_ ?_ ?_
    ·rw [take_succ_getD hlt', htk, hgd, List.map_append, hab]; rfl
    ·rw [take_succ_getD hlt', htk, hgd, List.map_append, hnx, h4]
     congr 1
     refine List.map_congr_left fun y hy => ?_
     rw [hT]; exact (nxRow_app (hcl y hy)).symm
    ·rw [take_succ_getD hlt', htk, hgd]
     intro y hy
     rcases List.mem_append.1 hy with hy | hy
     ·rw [hT]; exact (hcl y hy).app
     ·rw [List.mem_singleton.1 hy]; exact h3
  ·rw [if_neg hlt]
   have e : g.st.take k = g.st := List.take_of_length_le (by omega)
   rw [e] at hab hnx hcl
   simp only
   exact ⟨hG, hcl, hab, hnx⟩
theorem reach_inv {s : PSys} {x : PSt} (hV : Valid s x) {g : Gr} {ab nx : List (List Nat)} (h : reachG s x = some (g, ab, nx)) : GInv s x g /\ (∀ y ∈ g.st, Closed1 s g.st y) /\ ab = g.st.map (ableL s) /\ nx = g.st.map (nxRow s g.st) := by
 have := outG_ok (s := s) (x := x) 4097 0 (g0 x) [] [] rfl (ginv0 hV) (Nat.zero_le _) rfl rfl (by simp)
 unfold reachG at h
 rw [h] at this
 exact this
theorem reach_none {s : PSys} {x : PSt} (hV : Valid s x) (h : reachG s x = none) : ∃ L : List PSt, L.length = 4097 /\ L.Nodup /\ ∀ z ∈ L, Rch s x z := by
 have := outG_ok (s := s) (x := x) 4097 0 (g0 x) [] [] rfl (ginv0 hV) (Nat.zero_le _) rfl rfl (by simp)
 unfold reachG at h
 rw [h] at this
 exact this
theorem reach_all {s : PSys} {x : PSt} (hV : Valid s x) {g : Gr} {ab nx : List (List Nat)} (h : reachG s x = some (g, ab, nx)) {y : PSt} : y ∈ g.st ↔ Rch s x y := by
 obtain ⟨h1, h2, _, _⟩ := reach_inv hV h
 refine ⟨h1.rch y, fun hr => ?_⟩
 induction hr with
 | refl => obtain ⟨T, hT⟩ := h1.hd; rw [hT]; simp
 | step hr hw ha ih => exact h2 _ ih _ (mem_able.2 ⟨hw, ha⟩)
theorem nodup_sub {α : Type} [DecidableEq α] : ∀ {L S : List α}, L.Nodup -> (∀ x ∈ L, x ∈ S) -> L.length <= S.length
 | [], S, _, _ => Nat.zero_le _
 | a :: L, S, hn, hs => by
  obtain ⟨h1, h2⟩ := List.nodup_cons.1 hn
  have := nodup_sub (L := L) (S := S.erase a) h2 fun x hx => by
   have hne : x ≠ a := fun e => h1 (e ▸ hx)
   exact (List.mem_erase_of_ne hne).2 (hs x (by simp [hx]))
  rw [List.length_erase_of_mem (hs a (by simp))] at this
  have hp := List.length_pos_of_mem (hs a (by simp))
  simp only [List.length_cons]; omega
theorem reach_from {s : PSys} {x : PSt} (hV : Valid s x) {r : Gr × List (List Nat) × List (List Nat)} (h : reachG s x = some r) {y : PSt} (hy : Rch s x y) : ∃ r', reachG s y = some r' := by
 cases e : reachG s y with
 | some r' => exact ⟨r', rfl⟩
 | none =>
  obtain ⟨g, ab, nx⟩ := r
  obtain ⟨L, h1, h2, h3⟩ := reach_none (hy.val hV) e
  have := nodup_sub h2 fun z hz => (reach_all hV h).2 (hy.trans (h3 z hz))
  have := (reach_inv hV h).1.ok.le
  omega
end Go.AM
namespace Go.AM
open Go Go.Proofs
theorem iniX_valid {s : PSys} (h : checkE s = 0) : Valid s (iniX s) := valid_ini (good_of h)
def reachN (s : PSys) : Int × Int := if checkE s ≠ 0 then (0, checkE s) else match reachG s (iniX s) with
 | none => (0, 9)
 | some (g, _, _) => (g.st.length, 0)
def reachNR (ds : List D) (v : AV) : Prop := ∃ s : PSys, ds = [sysD s] /\ s.fit /\ v = .tup [.dat (.int .i64 (reachN s).1), .dat (.int .i64 (reachN s).2)]
abbrev tabXH : List (Nat × Contract) := [(12, dataC startXR), (23, dataC reachR), (30, dataC stErrR)]
def stuckL (n : Nat) (ab : List (List Nat)) : List Nat := (List.range n).filter fun w => !(ab.any fun l => l.contains w)
def stuckX (s : PSys) (x : PSt) : List Nat × Int := if stErr s x ≠ 0 then ([], stErr s x) else match reachG s x with
 | none => ([], 9)
 | some (_, ab, _) => (stuckL x.length ab, 0)
def stuckR (ds : List D) (v : AV) : Prop := ∃ (s : PSys) (x : PSt), ds = [sysD s, stD x] /\ s.fit /\ PStFit x /\ v = .tup [.dat (natlD (stuckX s x).1), .dat (.int .i64 (stuckX s x).2)]
theorem bools_len {l : List Bool} : (boolsD l).length = l.length := by simp
abbrev rngB (n : Nat) (g : Nat -> Bool) : List Bool := (List.range n).map g
theorem rngB_len {n : Nat} {g : Nat -> Bool} : (rngB n g).length = n := by simp
theorem rngB_get {n i : Nat} {g : Nat -> Bool} (h : i < n) : D.nth (boolsD (rngB n g)) i = .bool (g i) := by
 simp [D.nth, List.getD_eq_getElem?_getD, h]
theorem rngB_set {n i : Nat} {g g' : Nat -> Bool} {v : Bool} (h : i < n) (hv : g' i = v) (ho : ∀ j, j < n -> j ≠ i -> g' j = g j) : (boolsD (rngB n g)).set i (.bool v) = boolsD (rngB n g') := by
 refine List.ext_getElem (by simp) fun j h1 h2 => ?_
 simp only [List.length_map, List.length_range] at h2
 rw [List.getElem_set]
 split
 ·rename_i e; subst e; simp [hv]
 ·rename_i e; simp [ho j h2 (fun e' => e e'.symm)]
theorem rngB_congr {n : Nat} {g g' : Nat -> Bool} (h : ∀ j, j < n -> g' j = g j) : rngB n g' = rngB n g := List.map_congr_left fun j hj => h j (List.mem_range.1 hj)
theorem rngB_rep {n : Nat} : List.replicate n (D.bool false) = boolsD (rngB n fun _ => false) := by
 simp [rngB, List.map_const']
def anyW (ab : List (List Nat)) (w : Nat) : Bool := ab.any fun l => l.contains w
end Go.AM
namespace Go.AM
open Go Go.Proofs
inductive Fre (ab nx : List (List Nat)) (w : Nat) : Nat -> Prop
 | here {i : Nat} : w ∈ ab.getD i [] -> Fre ab nx w i
 | next {i j : Nat} : j ∈ nx.getD i [] -> Fre ab nx w j -> Fre ab nx w i
def cntF (n : Nat) (B : Nat -> Bool) : Nat := (List.range n).countP fun i => !B i
def updB (B : Nat -> Bool) (a : Nat) : Nat -> Bool := fun i => if i = a then true else B i
theorem cntF_upd : ∀ {n : Nat} {B : Nat -> Bool} {a : Nat}, a < n -> B a = false -> cntF n (updB B a) + 1 = cntF n B
 | 0, B, a, h, _ => by omega
 | n + 1, B, a, h, hb => by
  unfold cntF
  rw [List.range_succ, List.countP_append, List.countP_append]
  have hs : ∀ m, m <= a -> (List.range m).countP (fun i => !updB B a i) = (List.range m).countP (fun i => !B i) := by
   intro m hm
   refine List.countP_congr fun i hi => ?_
   have := List.mem_range.1 hi
   simp only [updB, if_neg (show ¬ i = a by omega)]
  by_cases e : a = n
  ·subst e
   rw [hs a (Nat.le_refl a)]
   simp [updB, hb]
  ·have ih := cntF_upd (n := n) (B := B) (a := a) (by omega) hb
   unfold cntF at ih
   have : updB B a n = B n := by unfold updB; rw [if_neg (fun h => e h.symm)]
   simp only [List.countP_singleton, this]
   omega
theorem cntF_le (n : Nat) (B : Nat -> Bool) : cntF n B <= n := by
 have := List.countP_le_length (p := fun i => !B i) (l := List.range n)
 simpa [cntF] using this
structure FrOk (n : Nat) (ab nx : List (List Nat)) : Prop where
 n4 : n <= 4096
 la : ab.length = n
 ln : nx.length = n
 ra : ∀ l ∈ ab, l.length <= 24
 rn : ∀ l ∈ nx, l.length <= 24 /\ ∀ v ∈ l, v < n
structure BefOk (n : Nat) (nx : List (List Nat)) (k : Nat) (l' : List Nat) (M : List (List Nat)) : Prop where
 len : M.length = n
 mem : ∀ v i, v < n -> (i ∈ M.getD v [] ↔ (i < k /\ v ∈ nx.getD i []) ∨ (i = k /\ v ∈ l'))
 bnd : ∀ v, (M.getD v []).length <= 24 * k + l'.length
theorem getD_setL {M : List (List Nat)} {v u : Nat} {l : List Nat} (hv : v < M.length) : (M.set v l).getD u [] = if v = u then l else M.getD u [] := by
 rw [List.getD_eq_getElem?_getD, List.getElem?_set]
 by_cases e : v = u
 ·subst e; simp [hv]
 ·simp [e, List.getD_eq_getElem?_getD]
theorem BefOk.push {n : Nat} {nx : List (List Nat)} {k : Nat} {l' : List Nat} {M : List (List Nat)} (h : BefOk n nx k l' M) {v : Nat} (hv : v < n) : BefOk n nx k (l' ++ [v]) (M.set v (M.getD v [] ++ [k])) := by
 have hvl : v < M.length := by rw [h.len]; exact hv
 refine ⟨by rw [List.length_set]; exact h.len, fun u i hu => ?_, fun u => ?_⟩
 ·rw [getD_setL hvl]
  by_cases e : v = u
  ·subst e
   rw [if_pos rfl, List.mem_append, h.mem v i hu]
   simp only [List.mem_singleton, List.mem_append, or_true, and_true]
   constructor
   ·rintro ((h1 | h1) | h1)
    ·exact .inl h1
    ·exact .inr h1.1
    ·exact .inr h1
   ·rintro (h1 | h1)
    ·exact .inl (.inl h1)
    ·exact .inr h1
  ·rw [if_neg e, h.mem u i hu]
   simp only [List.mem_append, List.mem_singleton]
   constructor
   ·rintro (h1 | h1)
    ·exact .inl h1
    ·exact .inr ⟨h1.1, .inl h1.2⟩
   ·rintro (h1 | ⟨h1, h2 | h2⟩)
    ·exact .inl h1
    ·exact .inr ⟨h1, h2⟩
    ·exact absurd h2.symm e
 ·rw [getD_setL hvl]
  have h1 := h.bnd v
  have h2 := h.bnd u
  split
  ·simp only [List.length_append, List.length_singleton]; omega
  ·simp only [List.length_append, List.length_singleton]; omega
theorem BefOk.next {n : Nat} {nx : List (List Nat)} {k : Nat} {l : List Nat} {M : List (List Nat)} (h : BefOk n nx k l M) (hl : nx.getD k [] = l) (h24 : l.length <= 24) : BefOk n nx (k + 1) [] M := by
 refine ⟨h.len, fun v i hv => ?_, fun v => ?_⟩
 ·rw [h.mem v i hv]
  simp only [List.not_mem_nil, and_false, or_false]
  constructor
  ·rintro (⟨h1, h2⟩ | ⟨rfl, h2⟩)
   ·exact ⟨by omega, h2⟩
   ·exact ⟨by omega, by rw [hl]; exact h2⟩
  ·rintro ⟨h1, h2⟩
   by_cases e : i = k
   ·subst e; rw [hl] at h2; exact .inr ⟨rfl, h2⟩
   ·exact .inl ⟨by omega, h2⟩
 ·have := h.bnd v
  simp only [List.length_nil]
  omega
theorem bef0 {n : Nat} {nx : List (List Nat)} : BefOk n nx 0 [] (List.replicate n []) := by
 refine ⟨by simp, fun v i hv => ?_, fun v => ?_⟩
 ·simp [List.getD_eq_getElem?_getD, hv]
 ·rw [List.getD_eq_getElem?_getD, List.getElem?_replicate]
  split <;> simp
structure Fst (n k : Nat) (ab : List (List Nat)) (w : Nat) (B : Nat -> Bool) (q : List Nat) : Prop where
 b : ∀ i, B i = true ↔ i < k /\ w ∈ ab.getD i []
 qm : ∀ i, i ∈ q ↔ i < k /\ w ∈ ab.getD i []
 cnt : 2 * cntF n B + q.length <= 2 * n
theorem fst0 {n : Nat} {ab : List (List Nat)} {w : Nat} : Fst n 0 ab w (fun _ => false) [] := by
 refine ⟨by simp, by simp, ?_⟩
 have := cntF_le n fun _ => false
 simp only [List.length_nil]; omega
theorem Fst.yes {n k : Nat} {ab : List (List Nat)} {w : Nat} {B : Nat -> Bool} {q : List Nat} (h : Fst n k ab w B q) (hk : k < n) (hw : w ∈ ab.getD k []) : Fst n (k + 1) ab w (updB B k) (q ++ [k]) := by
 refine ⟨fun i => ?_, fun i => ?_, ?_⟩
 ·unfold updB
  split
  ·rename_i e; subst e
   exact ⟨fun _ => ⟨Nat.lt_succ_self _, hw⟩, fun _ => rfl⟩
  ·rename_i e
   rw [h.b]
   constructor
   ·rintro ⟨h1, h2⟩; exact ⟨by omega, h2⟩
   ·rintro ⟨h1, h2⟩; exact ⟨by omega, h2⟩
 ·rw [List.mem_append, h.qm, List.mem_singleton]
  constructor
  ·rintro (⟨h1, h2⟩ | rfl)
   ·exact ⟨by omega, h2⟩
   ·exact ⟨by omega, hw⟩
  ·rintro ⟨h1, h2⟩
   by_cases e : i = k
   ·exact .inr e
   ·exact .inl ⟨by omega, h2⟩
 ·have hf : B k = false := by
   cases hb : B k with
   | false => rfl
   | true => have := ((h.b k).1 hb).1; omega
  have := cntF_upd hk hf
  have h3 := h.cnt
  simp only [List.length_append, List.length_singleton]; omega
theorem Fst.no {n k : Nat} {ab : List (List Nat)} {w : Nat} {B : Nat -> Bool} {q : List Nat} (h : Fst n k ab w B q) (hw : ¬ w ∈ ab.getD k []) : Fst n (k + 1) ab w B q := by
 have key : ∀ i, (i < k /\ w ∈ ab.getD i []) ↔ (i < k + 1 /\ w ∈ ab.getD i []) := by
  intro i
  constructor
  ·rintro ⟨h1, h2⟩; exact ⟨by omega, h2⟩
  ·rintro ⟨h1, h2⟩
   by_cases e : i = k
   ·subst e; exact absurd h2 hw
   ·exact ⟨by omega, h2⟩
 exact ⟨fun i => (h.b i).trans (key i), fun i => (h.qm i).trans (key i), h.cnt⟩
structure Snd (n : Nat) (ab nx : List (List Nat)) (w : Nat) (B : Nat -> Bool) (q : List Nat) (v : Option Nat) (done : List Nat) : Prop where
 snd : ∀ i, B i = true -> i < n /\ Fre ab nx w i
 able : ∀ i, w ∈ ab.getD i [] -> B i = true
 qm : ∀ i ∈ q, B i = true
 cl : ∀ u, B u = true -> u ∈ q ∨ v = some u ∨ ∀ i, u ∈ nx.getD i [] -> B i = true
 cv : ∀ u, v = some u -> B u = true /\ ∀ i ∈ done, B i = true
theorem Fst.fin {n : Nat} {ab nx : List (List Nat)} {w : Nat} {B : Nat -> Bool} {q : List Nat} (h : Fst n n ab w B q) (ha : ab.length = n) : Snd n ab nx w B q none [] := by
 refine ⟨fun i hi => ?_, fun i hi => ?_, fun i hi => ?_, fun u hu => .inl ?_, by simp⟩
 ·obtain ⟨h1, h2⟩ := (h.b i).1 hi
  exact ⟨h1, .here h2⟩
 ·refine (h.b i).2 ⟨?_, hi⟩
  rcases Nat.lt_or_ge i n with h1 | h1
  ·exact h1
  ·rw [List.getD_eq_getElem?_getD, List.getElem?_eq_none (by omega)] at hi
   simp at hi
 ·exact (h.b i).2 ((h.qm i).1 hi)
 ·exact (h.qm u).2 ((h.b u).1 hu)
theorem Snd.start {n : Nat} {ab nx : List (List Nat)} {w : Nat} {B : Nat -> Bool} {v : Nat} {q : List Nat} (h : Snd n ab nx w B (v :: q) none []) : Snd n ab nx w B q (some v) [] := by
 refine ⟨h.snd, h.able, fun i hi => h.qm i (by simp [hi]), fun u hu => ?_, fun u hu => ?_⟩
 ·rcases h.cl u hu with h1 | h1 | h1
  ·rcases List.mem_cons.1 h1 with rfl | h1
   ·exact .inr (.inl rfl)
   ·exact .inl h1
  ·cases h1
  ·exact .inr (.inr h1)
 ·cases hu
  exact ⟨h.qm v (by simp), by simp⟩
theorem Snd.old {n : Nat} {ab nx : List (List Nat)} {w : Nat} {B : Nat -> Bool} {v : Nat} {q done : List Nat} (h : Snd n ab nx w B q (some v) done) {i : Nat} (hi : B i = true) : Snd n ab nx w B q (some v) (done ++ [i]) := by
 refine ⟨h.snd, h.able, h.qm, h.cl, fun u hu => ⟨(h.cv u hu).1, fun k hk => ?_⟩⟩
 rcases List.mem_append.1 hk with hk | hk
 ·exact (h.cv u hu).2 k hk
 ·rw [List.mem_singleton.1 hk]; exact hi
theorem updB_mono {B : Nat -> Bool} {a i : Nat} (h : B i = true) : updB B a i = true := by
 unfold updB; split
 ·rfl
 ·exact h
theorem Snd.new {n : Nat} {ab nx : List (List Nat)} {w : Nat} {B : Nat -> Bool} {v : Nat} {q done : List Nat} (h : Snd n ab nx w B q (some v) done) {i : Nat} (hi : v ∈ nx.getD i []) (hin : i < n) : Snd n ab nx w (updB B i) (q ++ [i]) (some v) (done ++ [i]) := by
 have hself : updB B i i = true := by unfold updB; rw [if_pos rfl]
 have hv := (h.cv v rfl).1
 refine ⟨fun k hk => ?_, fun k hk => updB_mono (h.able k hk), fun k hk => ?_, fun u hu => ?_, fun u hu => ⟨updB_mono (h.cv u hu).1, fun k hk => ?_⟩⟩
 ·unfold updB at hk
  split at hk
  ·rename_i e; subst e
   exact ⟨hin, .next hi (h.snd v hv).2⟩
  ·exact h.snd k hk
 ·rcases List.mem_append.1 hk with hk | hk
  ·exact updB_mono (h.qm k hk)
  ·rw [List.mem_singleton.1 hk]; exact hself
 ·by_cases e : u = i
  ·subst e; exact .inl (by simp)
  ·have hu' : B u = true := by
    unfold updB at hu
    rw [if_neg e] at hu
    exact hu
   rcases h.cl u hu' with h1 | h1 | h1
   ·exact .inl (List.mem_append_left _ h1)
   ·exact .inr (.inl h1)
   ·exact .inr (.inr fun k hk => updB_mono (h1 k hk))
 ·rcases List.mem_append.1 hk with hk | hk
  ·exact updB_mono ((h.cv u hu).2 k hk)
  ·rw [List.mem_singleton.1 hk]; exact hself
theorem Snd.stop {n : Nat} {ab nx : List (List Nat)} {w : Nat} {B : Nat -> Bool} {v : Nat} {q done : List Nat} (h : Snd n ab nx w B q (some v) done) (hd : ∀ i, v ∈ nx.getD i [] -> i ∈ done) : Snd n ab nx w B q none [] := by
 refine ⟨h.snd, h.able, h.qm, fun u hu => ?_, by simp⟩
 rcases h.cl u hu with h1 | h1 | h1
 ·exact .inl h1
 ·cases h1
  exact .inr (.inr fun i hi => (h.cv v rfl).2 i (hd i hi))
 ·exact .inr (.inr h1)
theorem Snd.done {n : Nat} {ab nx : List (List Nat)} {w : Nat} {B : Nat -> Bool} (h : Snd n ab nx w B [] none []) (i : Nat) : B i = true ↔ Fre ab nx w i := by
 refine ⟨fun hi => (h.snd i hi).2, fun hf => ?_⟩
 induction hf with
 | here hw => exact h.able _ hw
 | next hj _ ih =>
  rcases h.cl _ ih with h1 | h1 | h1
  ·cases h1
  ·cases h1
  ·exact h1 _ hj
theorem rngB_upd {n : Nat} {B : Nat -> Bool} {a : Nat} (h : a < n) : (boolsD (rngB n B)).set a (.bool true) = boolsD (rngB n (updB B a)) := by
 refine rngB_set h (by simp [updB]) fun j _ hne => by simp [updB, hne]
end Go.AM
namespace Go.AM
open Go Go.Proofs
def idxIR (ds : List D) (v : AV) : Prop := ∃ (l : List Int) (x : Int), ds = [.sl none (l.map (.int .i64)), .int .i64 x] /\ l.length < 4611686018427387904 /\ v = .dat (.int .i64 (idxG x 0 l))
theorem idxI_ok : OkF Try.prog 57 (dataC idxIR) := by
 refine okF_data Try.func57 rfl (by decide) ?_
 rintro ds v ⟨l, x, rfl, hl, rfl⟩
 generalize hv : idxG x 0 l = V
 refine sem_of_awp (Γ := tbl []) okG_nil _ _ _ ?_
 have fin : ∀ s own (b c : Int), b = c -> s.getD 4 .top = .dat (.int .i64 b) -> post Try.prog Try.f57 (.dat (.int .i64 c)) [] [] .ret ⟨s, own, 0, []⟩ := fun s own b c e h => by
  subst e
  exact post_data (.inl rfl) [4] rfl trivial (by simp only [tmpsOf, h]; rfl)
 simp only [go_sem, Try.ntmps57]
 refine sem_loop (fun k : Nat => ⟨slotsOf 19 [(0, .dat (.sl none (l.map (.int .i64)))), (1, .dat (.int .i64 x)), (4, .dat (.int .i64 0)), (7, .dat (.int .i64 l.length)), (8, .dat (.int .i64 k))], [], 0, []⟩)
  (fun k => k <= l.length /\ idxG x k (l.drop k) = V) (fun k => l.length - k) 0 ⟨Nat.zero_le _, hv⟩ ?_ ?_
 ·exact le_slots' (by simp only [go_sem, Int.natCast_zero])
 ·rintro k ⟨hk, hI⟩
  refine sem_of_awp (Γ := tbl []) okG_nil _ _ _ ?_
  cases hd : l.drop k with
  | nil =>
   have := end_of_drop hd hk
   have hk2 : ¬ (k : Int) < l.length := by omega
   simp only [go_sem, hk2]
   refine fin _ _ _ _ ?_ rfl
   rw [← hI, hd]; rfl
  | cons c q =>
   have hlt := lt_of_drop hd
   have hk2 : (k : Int) < l.length := by omega
   have hk0 : (0 : Int) <= k := Int.natCast_nonneg k
   have hn := nth_of_drop (f := .int .i64) hd
   rw [hd, idxG] at hI
   by_cases he : x = c
   ·simp only [go_sem, hk2, hk0, hn, he]
    rw [if_pos he] at hI
    exact fin _ _ _ _ hI rfl
   ·simp only [go_sem, hk2, hk0, hn, he]
    rw [if_neg he] at hI
    refine ⟨inR_i64.2 (by omega), k + 1, ⟨by omega, by rw [drop_cons hd]; exact hI⟩, by omega, ?_⟩
    exact le_slots' (by simp only [go_sem, Int.natCast_add, Int.cast_ofNat_Int])
end Go.AM

