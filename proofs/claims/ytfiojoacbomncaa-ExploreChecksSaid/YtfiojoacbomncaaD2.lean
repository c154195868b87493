/- Own work over the model of the kit. -/
import Derived.Test.YtfiojoacbomncaaD1
import Derived.Defers
set_option linter.unusedSimpArgs false
set_option linter.unusedVariables false
namespace Go.AM
open Go

section
variable {P : Program} {F : Nat → Prop} {φ : Nat → Option Loc} {own : List Obj} {w : World}

def Ty.arr (τ : Ty) : Option (Nat × TypeId) :=
 match τ.desc with
 | .array n e => some (n, e)
 | _ => none

def allocw (P : Program) (τ : Option Ty) (own : List Obj) (K : AV → List Obj → List Nat → Prop) : Prop :=
 match τ with
 | some τ => (match τ.arr with
  | some (n, e) => (match tyOf P e with
   | some τe => (match zeroD τe, τe.zero with
    | some zd, some ze => τ.zero = some (.agg (Array.replicate n ze)) ∧ K (.ptr own.length 0 0) (own ++ [.row none (List.replicate n zd)]) []
    | _, _ => False)
   | none => False)
  | none => (match τ.zero with
   | some z => (z.cells.toList.all (·.oneCell')) = true ∧ newBox own (z.cells.toList.map constAV0) K
   | none => False))
 | none => False

theorem allocw_sound (hc : Conc F φ own w) {t : TypeId} {K : AV → List Obj → List Nat → Prop} (h : allocw P (tyOf P t) own K) : Does P F φ w (Instr.alloc t true (.tuple #[])) K := by
 unfold allocw at h
 split at h
 ·rename_i τ hτ
  split at h
  ·rename_i n e hd
   split at h
   ·rename_i τe hτe
    split at h
    ·rename_i zd ze hzd hze
     obtain ⟨hz, hK⟩ := h
     obtain ⟨z', hz1, hz2, hz3⟩ := zeroD_spec (F := F) (w := w) hzd
     rw [hze] at hz1
     cases hz1
     have hone := D.C_one hz3 ((D.R_plain hz3).1 hz2)
     let L : Loc := ⟨false, w.heap.size, 0, n, 1⟩
     have hw : ∀ b, b < w.heap.size → (w.alloc (.cells (Array.replicate n ze) t)).heap[b]? = w.heap[b]? := fun b hb => heap_alloc_old w _ b hb
     refine ⟨_, .pointer (some ⟨w.heap.size, 0, none⟩), _, [], F, ext φ own.length L, w.alloc (.cells (Array.replicate n ze) t), ?_, ?_, ?_, hK⟩
     ·simp only [Instr.alloc, newVar, newRow, Sem.run_bind, run_zero w hτ hz, run_newObj, Result.andThen_ok, Sem.run_pure, Value.cells]
      rfl
     ·refine After.new hc rfl rfl rfl (by simp) hw (fun _ => ⟨Nat.le_refl _, by simp [L]⟩) ?_
      simp only [ObjR]
      refine ⟨rfl, .inr ⟨rfl, ⟨_, t, heap_alloc_new w _, by simp [L]⟩, by simp [L], ?_⟩⟩
      refine D.Cr_iff.2 fun i d hdd => ?_
      have hi : i < n := by
       rcases Nat.lt_or_ge i n with h | h
       ·exact h
       ·rw [List.getElem?_eq_none (by simpa using h)] at hdd; cases hdd
      simp only [List.getElem?_replicate, hi, if_true, Option.some.injEq] at hdd
      subst hdd
      refine ⟨[ze], rfl, fun j hj => ?_, by simpa using hz3, ?_⟩
      ·have hj0 : j = 0 := by simp [es] at hj; exact hj
       subst hj0
       have : (w.alloc (.cells (Array.replicate n ze) t)).cell? ⟨w.heap.size, 0 + i * 1 + 0, none⟩ = (Array.replicate n ze)[0 + i * 1 + 0]? := World.cell?_alloc_new _ _ _ _
       simp only [L, es]
       rw [this]
       simp [hi]
      ·exact D.C_mono (fun _ h => h) (hc.sameF hw) _ _ ((D.R_plain hz3).1 hz2)
     ·simp only [AV.R]
      exact ⟨L, ext_self _ _ _, rfl, rfl⟩
    ·exact h.elim
   ·exact h.elim
  ·split at h
   ·rename_i z hz
    obtain ⟨h1, h2⟩ := h
    obtain ⟨v, c, own', kl, F', φ', w', g1, g2, g3, g4⟩ := newVar_sound hc (P := P) (t := t) (c := z) (consts_Ra h1) h2
    refine ⟨v, c, own', kl, F', φ', w', ?_, g2, g3, g4⟩
    simp only [Instr.alloc, Sem.run_bind, run_zero w hτ hz, Result.andThen_ok]
    exact g1
   ·exact h.elim
 ·exact h.elim

def boxw (own : List Obj) (x : AV) (K : AV → List Obj → List Nat → Prop) : Prop :=
 match x.asCells with
 | some vs => newBox own vs K
 | none => False

theorem boxw_sound (hc : Conc F φ own w) {t : TypeId} {x : AV} {c : Value} {K : AV → List Obj → List Nat → Prop} (hx : AV.R F φ w x c) (h : boxw own x K) : Does P F φ w (Instr.box t c) K := by
 unfold boxw at h
 split at h
 ·rename_i vs hvs
  exact newVar_sound hc (AV.asCells_R hvs hx) h
 ·exact h.elim

def litD : Nat → List (Nat × AV) → Option (List D)
 | _, [] => some []
 | i, (j, v) :: rest => if i = j then (match v.pure, litD (i + 1) rest with | some d, some ds => some (d :: ds) | _, _ => none) else none

def litV : Nat → List (Nat × AV) → Option (List AV)
 | _, [] => some []
 | i, (j, v) :: rest => if i = j then (match v.asCells, litV (i + 1) rest with | some [a], some as => some (a :: as) | _, _ => none) else none

def buildSlicew (P : Program) (τ : Option Ty) (own : List Obj) (len : Nat) (parts : List (Nat × AV)) (K : AV → List Obj → List Nat → Prop) : Prop :=
 match τ with
 | some τ => (match τ.desc with
  | .slice e => (match tyOf P e, litD 0 parts with
   | some τe, some ds => ds.length = len ∧ es τe.want = τe.size ∧ 0 < τe.size ∧ len * τe.size ≤ 16777216 ∧ (∃ z, τe.zero = some z ∧ z.cells.size = τe.size) ∧ (∀ d ∈ ds, d.fits τe.want) ∧
     K (.sl own.length 0 len) (own ++ [.row τe.want ds]) []
   | some τe, none => (match litV 0 parts with
    | some as => as.length = len ∧ τe.size = 1 ∧ len ≤ 16777216 ∧ (∃ z, τe.zero = some z ∧ z.cells.size = τe.size) ∧ K (.sl own.length 0 len) (own ++ [.vec as]) []
    | none => False)
   | _, _ => False)
  | _ => False)
 | none => False

theorem fill_lit (size : Nat) (hs : 0 < size) : ∀ (parts : List (Nat × AV)) (vparts : List (Nat × Value)) (i : Nat) (ds : List D) (ag : Option Nat) (arr : List Value), Rp F φ w parts vparts → litD i parts = some ds → es ag = size → (∀ d ∈ ds, d.fits ag) →
  arr.length = (i + ds.length) * size →
  ∃ arr' : List Value, Instr.fill (fun i => some (i * size, size)) arr.toArray vparts = some arr'.toArray ∧ arr'.length = arr.length ∧ (∀ j, j < i * size → arr'[j]? = arr[j]?) ∧
   ∀ k d, ds[k]? = some d → ∃ cs, cs.length = es ag ∧ (∀ j, j < es ag → arr'[(i + k) * es ag + j]? = cs[j]?) ∧ d.isAgg = ag.isSome ∧ D.C F w d cs ∧ ∀ u ∈ cs, u.oneCell' = true
 | [], vparts, i, ds, ag, arr, hp, hl, he, hf, ha => by
  simp only [Rp] at hp
  subst hp
  simp only [litD, Option.some.injEq] at hl
  subst hl
  exact ⟨arr, rfl, rfl, fun _ _ => rfl, fun k d hd => by simp at hd⟩
 | (j, v) :: rest, vparts, i, ds, ag, arr, hp, hl, he, hf, ha => by
  simp only [Rp] at hp
  obtain ⟨c, ys', rfl, hv, hp⟩ := hp
  simp only [litD] at hl
  split at hl
  ·rename_i hij
   subst hij
   split at hl
   ·rename_i d ds' hd hds'
    simp only [Option.some.injEq] at hl
    subst hl
    have hdf := hf d (by simp)
    obtain ⟨f1, f2, f3⟩ := D.fits_cells hdf (pure_R hd hv)
    have hlen : (spliceV arr (i * size) c.cells.toList).length = arr.length := by
     have : ∀ (us : List Value) (cs : List Value) (off : Nat), (spliceV cs off us).length = cs.length := by
      intro us
      induction us with
      | nil => intro cs off; rfl
      | cons u us ih => intro cs off; rw [spliceV, ih]; simp
     exact this _ _ _
    have hget : ∀ (us cs : List Value) (off k : Nat), (spliceV cs off us)[k]? = if off ≤ k ∧ k < off + us.length ∧ k < cs.length then us[k - off]? else cs[k]? := by
     intro us
     induction us with
     | nil => intro cs off k; simp [spliceV]; intro a b; omega
     | cons u us ih =>
      intro cs off k
      rw [spliceV, ih]
      simp only [List.length_set, List.length_cons, List.getElem?_set]
      by_cases h1 : off + 1 ≤ k ∧ k < off + 1 + us.length ∧ k < cs.length
      ·rw [if_pos h1, if_pos ⟨by omega, by omega, h1.2.2⟩]
       have : k - off = (k - (off + 1)) + 1 := by omega
       rw [this]; simp
      ·rw [if_neg h1]
       by_cases h2 : off = k
       ·subst h2
        by_cases h3 : off < cs.length
        ·simp [h3]
        ·simp [h3]
       ·rw [if_neg h2, if_neg (by omega)]
    simp only [List.length_cons] at ha
    have hsum : (i + (ds'.length + 1)) * size = i * size + size + ds'.length * size := by
     rw [Nat.add_mul, Nat.add_mul, Nat.one_mul]; omega
    obtain ⟨arr', g1, g2, g3, g4⟩ := fill_lit size hs rest ys' (i + 1) ds' ag (spliceV arr (i * size) c.cells.toList) hp hds' he (fun d hd => hf d (by simp [hd])) (by rw [hlen, ha]; congr 1; omega)
    have hcl : c.cells.toList.length = size := by rw [Array.length_toList, f1, he]
    refine ⟨arr', ?_, by rw [g2, hlen], fun j hj => ?_, fun k d' hk => ?_⟩
    ·simp only [Instr.fill]
     rw [if_neg ?_, foldl_spliceA]
     ·simpa using g1
     ·simp only [List.size_toArray, Bool.or_eq_true, decide_eq_true_eq]
      omega
    ·rw [g3 j (by rw [Nat.add_mul]; omega), hget, if_neg (by omega)]
    ·cases k with
     | zero =>
      simp at hk
      subst hk
      refine ⟨c.cells.toList, by rw [hcl, he], fun j hj => ?_, hdf.1, f2, f3⟩
      rw [he] at hj
      rw [Nat.add_zero, he, g3 _ (by rw [Nat.add_mul]; omega), hget, if_pos ⟨by omega, by omega, by omega⟩]
      congr 1
      omega
     | succ k =>
      have := g4 k d' (by simpa using hk)
      rwa [show i + 1 + k = i + (k + 1) by omega] at this
   ·cases hl
  ·cases hl

theorem fill_litV : ∀ (parts : List (Nat × AV)) (vparts : List (Nat × Value)) (i : Nat) (as : List AV) (arr : List Value), Rp F φ w parts vparts → litV i parts = some as → arr.length = i + as.length →
  ∃ arr' : List Value, Instr.fill (fun i => some (i * 1, 1)) arr.toArray vparts = some arr'.toArray ∧ arr'.length = arr.length ∧ (∀ j, j < i → arr'[j]? = arr[j]?) ∧
   ∃ vs, AV.Ra F φ w as vs ∧ ∀ k, k < as.length → arr'[i + k]? = vs[k]?
 | [], vparts, i, as, arr, hp, hl, ha => by
  simp only [Rp] at hp
  subst hp
  simp only [litV, Option.some.injEq] at hl
  subst hl
  exact ⟨arr, rfl, rfl, fun _ _ => rfl, [], by simp only [AV.Ra], fun k hk => by simp at hk⟩
 | (j, v) :: rest, vparts, i, as, arr, hp, hl, ha => by
  simp only [Rp] at hp
  obtain ⟨c, ys', rfl, hv, hp⟩ := hp
  simp only [litV] at hl
  split at hl
  ·rename_i hij
   subst hij
   split at hl
   ·rename_i a as' hd has'
    simp only [Option.some.injEq] at hl
    subst hl
    have hra := AV.asCells_R hd hv
    simp only [AV.Ra] at hra
    obtain ⟨u, us, hcu, hu1, hu2, rfl⟩ := hra
    simp only [List.length_cons] at ha
    obtain ⟨arr', g1, g2, g3, vs, g4, g5⟩ := fill_litV rest ys' (i + 1) as' (arr.set i u) hp has' (by rw [List.length_set, ha]; omega)
    refine ⟨arr', ?_, by rw [g2, List.length_set], fun j hj => ?_, u :: vs, by simp only [AV.Ra]; exact ⟨u, vs, rfl, hu1, hu2, g4⟩, fun k hk => ?_⟩
    ·have hcs : c.cells.size = 1 := by rw [← Array.length_toList, hcu]; rfl
     simp only [Instr.fill]
     rw [if_neg ?_, foldl_spliceA]
     ·rw [hcu, Nat.mul_one]
      simpa [spliceV] using g1
     ·simp only [List.size_toArray, Bool.or_eq_true, decide_eq_true_eq]
      omega
    ·rw [g3 j (by omega), List.getElem?_set, if_neg (by omega)]
    ·cases k with
     | zero =>
      rw [Nat.add_zero, g3 i (by omega), List.getElem?_set]
      simp
      omega
     | succ k =>
      have := g5 k (by simpa using hk)
      rw [show i + 1 + k = i + (k + 1) by omega] at this
      rw [this]; simp
   ·cases hl
  ·cases hl

theorem buildSlicew_sound (hc : Conc F φ own w) {t : TypeId} {len : Nat} {parts : List (Nat × AV)} {vparts : List (Nat × Value)} {K : AV → List Obj → List Nat → Prop} (hp : Rp F φ w parts vparts) (h : buildSlicew P (tyOf P t) own len parts K) :
  Does P F φ w (Instr.buildSlice t len vparts.toArray) K := by
 unfold buildSlicew at h
 split at h
 ·rename_i τ hτ
  split at h
  ·rename_i e hd
   split at h
   ·rename_i τe ds hτe hds
    obtain ⟨hlen, hes, hpos, h24, ⟨z, hz, hzs⟩, hf, hK⟩ := h
    have hu := run_und (P := P) w hτ
    rw [hd] at hu
    let arr0 : Array Value := (Array.range (len * τe.size)).map (z.cells[· % z.cells.size]!)
    have ha0 : arr0.toList.length = (0 + ds.length) * τe.size := by simp [arr0, hlen]
    obtain ⟨arr', g1, g2, g3, g4⟩ := fill_lit (F := F) (φ := φ) (w := w) τe.size hpos parts vparts 0 ds τe.want arr0.toList hp hds hes hf ha0
    rw [Array.toArray_toList] at g1
    have hmax : len ≤ maxLen := by
     have : len ≤ len * τe.size := Nat.le_mul_of_pos_right _ hpos
     simp only [maxLen]; omega
    refine newRow_sound hc (ag := τe.want) (ds := ds) (css := arr'.toArray) (len := len) (cap := len) (w0 := w) (e := e) hlen.symm (Nat.le_refl _) hmax ?_ ?_ rfl rfl rfl rfl hK ?_
    ·rw [List.size_toArray, g2, ha0, hes, hlen, Nat.zero_add]
    ·intro i d hdd
     obtain ⟨cs, k1, k2, k3, k4, _⟩ := g4 i d hdd
     refine ⟨cs, k1, fun j hj => ?_, k3, k4⟩
     have := k2 j hj
     rw [Nat.zero_add] at this
     simpa using this
    ·have h24' : ¬ (len * τe.size > 16777216) := by omega
     simp only [Instr.buildSlice, Sem.run_bind, hu, Result.andThen_ok, run_size w hτe, Nat.reducePow, h24', if_false]
     by_cases h0 : len * τe.size = 0
     ·have e0 : (Array.range (len * τe.size)).map (fun x => (#[] : Array Value)[x % (#[] : Array Value).size]!) = arr0 := by simp [arr0, h0]
      rw [if_pos h0]
      simp only [Sem.run_bind, Sem.run_pure, Result.andThen_ok, e0, g1, newRow, run_newObj]
      rfl
     ·rw [if_neg h0]
      have e0 : (Array.range (len * τe.size)).map (fun x => z.cells[x % z.cells.size]!) = arr0 := rfl
      simp only [Sem.run_bind, run_zero w hτe hz, Sem.run_pure, Result.andThen_ok, e0, g1, newRow, run_newObj]
      rfl
   ·rename_i τe hτe hnone
    split at h
    ·rename_i as has
     obtain ⟨hlen, hs1, h24, ⟨z, hz, hzs⟩, hK⟩ := h
     have hu := run_und (P := P) w hτ
     rw [hd] at hu
     let arr0 : Array Value := (Array.range (len * 1)).map (z.cells[· % z.cells.size]!)
     have ha0 : arr0.toList.length = 0 + as.length := by simp [arr0, hlen]
     obtain ⟨arr', g1, g2, g3, vs, g4, g5⟩ := fill_litV (F := F) (φ := φ) (w := w) parts vparts 0 as arr0.toList hp has ha0
     rw [Array.toArray_toList] at g1
     have hmax : len ≤ maxLen := by simp only [maxLen]; omega
     refine newVec_sound hc (cs := as) (css := arr'.toArray) (len := len) (cap := len) (w0 := w) (e := e) hlen.symm (Nat.le_refl _) hmax ?_ g4 (fun j hj => ?_) rfl rfl rfl rfl hK ?_
     ·rw [List.size_toArray, g2, ha0, hlen, Nat.zero_add]
     ·have := g5 j hj
      rw [Nat.zero_add] at this
      simpa using this
     ·have h24' : ¬ (len * 1 > 16777216) := by omega
      simp only [Instr.buildSlice, Sem.run_bind, hu, Result.andThen_ok, run_size w hτe, hs1, Nat.reducePow, h24', if_false]
      by_cases h0 : len * 1 = 0
      ·have e0 : (Array.range (len * 1)).map (fun x => (#[] : Array Value)[x % (#[] : Array Value).size]!) = arr0 := by simp [arr0, h0]
       rw [if_pos h0]
       simp only [Sem.run_bind, Sem.run_pure, Result.andThen_ok, e0, g1, newRow, run_newObj]
       rfl
      ·rw [if_neg h0]
       have e0 : (Array.range (len * 1)).map (fun x => z.cells[x % z.cells.size]!) = arr0 := rfl
       simp only [Sem.run_bind, run_zero w hτe hz, Sem.run_pure, Result.andThen_ok, e0, g1, newRow, run_newObj]
       rfl
    ·exact h.elim
   ·exact h.elim
  ·exact h.elim
 ·exact h.elim

end
end Go.AM

namespace Go.AM
open Go

section
variable {P : Program} {F : Nat → Prop} {φ : Nat → Option Loc} {own : List Obj} {w : World}

def constD : Value → Option D
 | .int k n => if (Lit.int k n).wf = true then some (.int k n) else none
 | .bool b => some (.bool b)
 | .string s => if s.size ≤ 1000000 then some (.str s.data.toList) else none
 | .slice none 0 0 => some (.sl none [])
 | _ => none

theorem constD_spec {v : Value} {d : D} (h : constD v = some d) : d.isAgg = false ∧ D.C F w d [v] := by
 unfold constD at h
 split at h
 ·split at h
  ·rename_i hw; cases h; exact ⟨rfl, by simp only [D.C]; exact ⟨trivial, hw⟩⟩
  ·cases h
 ·cases h; exact ⟨rfl, by simp only [D.C]⟩
 ·split at h
  ·rename_i hs; cases h
   exact ⟨rfl, by simp only [D.C]; exact ⟨trivial, by rw [Array.length_toList]; exact Nat.le_trans hs maxLen_big⟩⟩
  ·cases h
 ·cases h; exact ⟨rfl, nils_C⟩
 ·cases h

def constDs : List Value → Option (List D)
 | [] => some []
 | v :: vs => match constD v, constDs vs with | some d, some ds => some (d :: ds) | _, _ => none

theorem constDs_spec : ∀ {vs : List Value} {ds : List D}, constDs vs = some ds → D.Cs F w ds vs
 | [], ds, h => by simp only [constDs, Option.some.injEq] at h; subst h; simp only [D.Cs]
 | v :: vs, ds, h => by
  simp only [constDs] at h
  split at h
  ·rename_i d ds' h1 h2
   cases h
   obtain ⟨g1, g2⟩ := constD_spec (F := F) (w := w) h1
   simp only [D.Cs]
   exact ⟨v, vs, rfl, g1, g2, constDs_spec h2⟩
  ·cases h

def zeroElem (τ : Ty) : Option D :=
 match τ.agg, τ.zero with
 | false, some v => constD v
 | true, some (.agg z) => (constDs z.toList).map .agg
 | _, _ => none

theorem zeroElem_spec {τ : Ty} {d : D} (h : zeroElem τ = some d) : ∃ z, τ.zero = some z ∧ d.isAgg = τ.want.isSome ∧ D.C F w d z.cells.toList := by
 unfold zeroElem at h
 split at h
 ·rename_i v ha hz
  obtain ⟨g1, g2⟩ := constD_spec (F := F) (w := w) h
  have h1 := D.C_one g1 g2
  refine ⟨v, hz, by simp [Ty.want, ha, g1], ?_⟩
  have : v.cells.toList = [v] := by cases v <;> first | rfl | simp [Value.oneCell'] at h1
  rw [this]; exact g2
 ·rename_i z ha hz
  simp only [Option.map_eq_some_iff] at h
  obtain ⟨ds, g1, rfl⟩ := h
  refine ⟨.agg z, hz, by simp [Ty.want, ha, D.isAgg], ?_⟩
  simp only [Value.cells, D.C]
  exact constDs_spec g1
 ·cases h

def isNilSl : Option Value → Bool
 | some (.slice none 0 0) => true
 | _ => false
theorem isNilSl_ok {z : Option Value} (h : isNilSl z = true) : z = some (.slice none 0 0) := by
 unfold isNilSl at h
 split at h
 ·rfl
 ·cases h

theorem Ra_nils (n : Nat) : AV.Ra F φ w (List.replicate n .nils) (List.replicate n (.slice none 0 0)) := by
 induction n with
 | zero => simp only [List.replicate_zero, AV.Ra]
 | succ n ih => simp only [List.replicate_succ, AV.Ra]; exact ⟨_, _, rfl, rfl, by simp only [AV.R], ih⟩

def makeSlicew (P : Program) (τ : Option Ty) (own : List Obj) (l c : AV) (K : AV → List Obj → List Nat → Prop) : Prop :=
 match τ, l, c with
 | some τ, .dat (.int .i64 l), .dat (.int .i64 c) => (match τ.desc with
  | .slice e => (match tyOf P e with
   | some τe => (match isNilSl τe.zero with
    | true => 0 ≤ l ∧ l ≤ c ∧ (τe.bytes : Int) * c ≤ 281474976710656 ∧ τe.size = 1 ∧ K (.sl own.length 0 l.toNat) (own ++ [.vec (List.replicate l.toNat .nils)]) []
    | false => (match zeroElem τe with
     | some z => 0 ≤ l ∧ l ≤ c ∧ (τe.bytes : Int) * c ≤ 281474976710656 ∧ es τe.want = τe.size ∧ z.fits τe.want ∧ K (.sl own.length 0 l.toNat) (own ++ [.row τe.want (List.replicate l.toNat z)]) []
     | none => False))
   | none => False)
  | _ => False)
 | _, _, _ => False

theorem makeSlicew_sound (hc : Conc F φ own w) {t : TypeId} {l c : AV} {cl cc : Value} {K : AV → List Obj → List Nat → Prop} (hl : AV.R F φ w l cl) (hcc : AV.R F φ w c cc) (h : makeSlicew P (tyOf P t) own l c K) :
  Does P F φ w (Instr.makeSlice t cl cc) K := by
 unfold makeSlicew at h
 split at h
 ·rename_i τ l c hτ
  split at h
  ·rename_i e hd
   split at h
   ·rename_i τe hτe
    split at h
    ·rename_i hnz
     obtain ⟨h0, h1, h2, hs1, hK⟩ := h
     obtain ⟨rfl, hl1⟩ := R_int.1 hl
     obtain ⟨rfl, hc1⟩ := R_int.1 hcc
     obtain ⟨hu1, _, _⟩ := tyOf_spec hτ
     rw [hd] at hu1
     obtain ⟨_, _, i, hi, k1, k2, k3⟩ := tyOf_spec hτe
     have hc2 : c ≤ 9223372036854775807 := (inR_i64.1 hc1).2
     have hrun := run_make (P := P) w t e i (.slice none 0 0) hu1 hi (k3.trans (isNilSl_ok hnz)) .i64 .i64 l c h0 h1 (by rw [k2]; exact h2) hc2
     refine newVec_sound hc (cs := List.replicate l.toNat .nils) (len := l.toNat) (cap := c.toNat) (w0 := w) (e := e) (by simp) (by omega) (by simp only [maxLen]; omega) ?_ (Ra_nils l.toNat) ?_ rfl rfl rfl rfl hK hrun
     ·rw [size_madeCells, k1, hs1, Nat.mul_one]
     ·intro j hj
      simp only [List.length_replicate] at hj
      have hlt : j < c.toNat * i.size := by rw [k1, hs1]; omega
      unfold madeCells
      rw [Array.getElem?_map, Array.getElem?_range, if_pos hlt]
      simp [Value.cells, hj, Nat.mod_one]
    split at h
    ·rename_i z hz
     obtain ⟨h0, h1, h2, hes, hfits, hK⟩ := h
     obtain ⟨rfl, hl1⟩ := R_int.1 hl
     obtain ⟨rfl, hc1⟩ := R_int.1 hcc
     obtain ⟨hu1, _, _⟩ := tyOf_spec hτ
     rw [hd] at hu1
     obtain ⟨_, _, i, hi, k1, k2, k3⟩ := tyOf_spec hτe
     obtain ⟨zv, g1, g2, g3⟩ := zeroElem_spec (F := F) (w := w) hz
     have hc2 : c ≤ 9223372036854775807 := (inR_i64.1 hc1).2
     have hrun := run_make (P := P) w t e i zv hu1 hi (k3.trans g1) .i64 .i64 l c h0 h1 (by rw [k2]; exact h2) hc2
     have hzl : zv.cells.size = es τe.want := by
      cases z with
      | agg ds =>
       simp only [D.C] at g3
       have := D.Cs_length _ _ g3
       have f2 := hfits.2
       simp only [D.size] at f2
       rw [← f2, ← this, Array.length_toList]
      | _ =>
       obtain ⟨c', hc'⟩ := D.C_single rfl g3
       have f2 := hfits.2
       simp only [D.size] at f2
       rw [← f2, ← Array.length_toList, hc']; rfl
     refine newRow_sound hc (ag := τe.want) (ds := List.replicate l.toNat z) (len := l.toNat) (cap := c.toNat) (w0 := w) (e := e) (by simp) (by omega) (by simp only [maxLen]; omega) ?_ ?_ rfl rfl rfl rfl hK hrun
     ·rw [size_madeCells, k1, hes]
     ·intro i' d hd'
      have hi' : i' < l.toNat := by
       rcases Nat.lt_or_ge i' l.toNat with h | h
       ·exact h
       ·rw [List.getElem?_eq_none (by simpa using h)] at hd'; cases hd'
      simp only [List.getElem?_replicate, hi', if_true, Option.some.injEq] at hd'
      subst hd'
      refine ⟨zv.cells.toList, by rw [Array.length_toList, hzl], fun j hj => ?_, g2, g3⟩
      have hlt : i' * es τe.want + j < c.toNat * i.size := by
       rw [k1, ← hes]
       have : (i' + 1) * es τe.want ≤ c.toNat * es τe.want := Nat.mul_le_mul_right _ (by omega)
       rw [Nat.add_mul] at this
       omega
      have hmod : (i' * es τe.want + j) % zv.cells.size = j := by
       rw [hzl, Nat.add_comm, Nat.add_mul_mod_self_right, Nat.mod_eq_of_lt hj]
      have hjz : j < zv.cells.size := by rw [hzl]; exact hj
      have e1 : (madeCells zv.cells (c.toNat * i.size))[i' * es τe.want + j]? = some zv.cells[j] := by
       unfold madeCells
       rw [Array.getElem?_map, Array.getElem?_range, if_pos hlt]
       simp only [Option.map_some, hmod, Option.some.injEq]
       exact getElem!_pos zv.cells j hjz
      rw [e1]
      simp [hjz]
    ·exact h.elim
   ·exact h.elim
  ·exact h.elim
 ·exact h.elim

def D.setPart (d : D) (j : Nat) (x : D) : D :=
 match d with
 | .agg ds => .agg (ds.set j x)
 | d => d

def storeObj (τ : Ty) (obj : Obj) (i j : Nat) (x : AV) (K : Obj → Prop) : Prop :=
 match obj with
 | .row none xs => (match τ.agg with
  | false => τ.size = 1 ∧ j = 0 ∧ i < xs.length ∧ (match x.pure with | some d => d.isAgg = false ∧ K (.row none (xs.set i d)) | none => False)
  | true => i = 0 ∧ j = 0 ∧ τ.size = xs.length ∧ (match x.pure with | some (.agg ds) => ds.length = xs.length ∧ K (.row none ds) | _ => False))
 | .row (some k) xs => i < xs.length ∧ (match x.pure with
   | some d => if τ.agg then j = 0 ∧ τ.size = k ∧ d.fits (some k) ∧ K (.row (some k) (xs.set i d)) else τ.size = 1 ∧ j < k ∧ d.isAgg = false ∧ K (.row (some k) (xs.set i (D.setPart (D.nth xs i) j d)))
   | none => False)
 | .vec cs => τ.size = 1 ∧ j = 0 ∧ i < cs.length ∧ (match x.asCells with | some [v] => K (.vec (cs.set i v)) | _ => False)
 | .box cs => i = 0 ∧ (match x.asCells with | some vs => vs.length = τ.size ∧ j + vs.length ≤ cs.length ∧ K (.box (splice cs j vs)) | none => False)
 | _ => False

def storew (τ : Option Ty) (own : List Obj) (a x : AV) (K : AV → List Obj → List Nat → Prop) : Prop :=
 match τ, a with
 | some τ, .ptr o i j => storeObj τ (own.getD o .dead) i j x (fun obj => K .top (own.set o obj) [])
 | _, _ => False

theorem D.Cr_write {w' : World} {ag : Option Nat} {b base i : Nat} {xs : List D} {d : D} {cs : List Value} {arr arr' : Array Value} {ty : TypeId} (hw : Same F w w') (hh : w.heap[b]? = some (.cells arr ty (0, 0))) (hh' : w'.heap[b]? = some (.cells arr' ty (0, 0)))
  (hi : i < xs.length) (hrow : D.Cr F w ag b base xs) (hcs : cs.length = es ag) (ha : d.isAgg = ag.isSome) (hd : D.C F w d cs)
  (hin : ∀ j, j < es ag → arr'[base + i * es ag + j]? = cs[j]?) (hout : ∀ p, (p < base + i * es ag ∨ base + i * es ag + es ag ≤ p) → arr'[p]? = arr[p]?) : D.Cr F w' ag b base (xs.set i d) := by
 have hcell : ∀ p, w.cell? ⟨b, p, none⟩ = arr[p]? := fun p => by simp [World.cell?, hh]
 have hcell' : ∀ p, w'.cell? ⟨b, p, none⟩ = arr'[p]? := fun p => by simp [World.cell?, hh']
 refine D.Cr_iff.2 fun k d' hk => ?_
 rw [List.getElem?_set] at hk
 by_cases e : i = k
 ·subst e
  simp only [if_true, hi] at hk
  cases hk
  exact ⟨cs, hcs, fun j hj => by rw [hcell']; exact hin j hj, ha, D.C_mono (fun _ h => h) hw _ _ hd⟩
 ·simp only [e, if_false] at hk
  obtain ⟨cs', g1, g2, g3, g4⟩ := D.Cr_iff.1 hrow k d' hk
  refine ⟨cs', g1, fun j hj => ?_, g3, D.C_mono (fun _ h => h) hw _ _ g4⟩
  rw [hcell', hout, ← hcell]
  ·exact g2 j hj
  ·rcases Nat.lt_or_gt_of_ne e with h | h
   ·right
    have := Nat.mul_le_mul_right (es ag) (show i + 1 ≤ k by omega)
    rw [Nat.add_mul] at this
    omega
   ·left
    have := Nat.mul_le_mul_right (es ag) (show k + 1 ≤ i by omega)
    rw [Nat.add_mul] at this
    omega

theorem run_storeAt {t : TypeId} {τ : Ty} (hτ : tyOf P t = some τ) {b off : Nat} {arr : Array Value} {ty : TypeId} {c : Value} (hh : w.heap[b]? = some (.cells arr ty (0, 0))) (hs : c.cells.size = τ.size) (hfit : off + c.cells.size ≤ arr.size)
  (h1 : ∀ u ∈ c.cells.toList, u.oneCell' = true) : (Instr.storeAt t (.pointer (some ⟨b, off, none⟩)) c).run P w = .ok () (w.setRow b (arr.toList.take off ++ c.cells.toList ++ arr.toList.drop (off + c.cells.size)).toArray) := by
 have hst := run_storeCells_at P b off ty c.cells.toList 0 arr w hh (by simpa using hfit) h1
 simp only [Instr.storeAt, Instr.sureAddr, Sem.run_bind, Sem.run_pure, Result.andThen_ok, storeVar, run_size w hτ, hs, ne_eq, not_true_eq_false, if_false]
 rw [hst]
 simp [hs]

theorem laid_in {arr : Array Value} {cs : List Value} {off : Nat} (hfit : off + cs.length ≤ arr.size) (p : Nat) :
  (arr.toList.take off ++ cs ++ arr.toList.drop (off + cs.length)).toArray[p]? = if off ≤ p ∧ p < off + cs.length then cs[p - off]? else arr[p]? := by
 simp only [List.getElem?_toArray]
 have hl : (arr.toList.take off).length = off := by simp; omega
 by_cases h1 : p < off
 ·rw [List.append_assoc, List.getElem?_append_left (by omega), List.getElem?_take, if_pos h1, if_neg (by omega)]
  simp
 ·by_cases h2 : p < off + cs.length
  ·rw [List.getElem?_append_left (by simp; omega), List.getElem?_append_right (by omega), hl, if_pos ⟨by omega, h2⟩]
  ·rw [List.getElem?_append_right (by simp; omega), if_neg (by omega), List.getElem?_drop]
   simp only [List.length_append, hl]
   rw [show off + cs.length + (p - (off + cs.length)) = p by omega]
   simp

theorem spliceV_eq : ∀ (us cs : List Value) (off : Nat), off + us.length ≤ cs.length → spliceV cs off us = cs.take off ++ us ++ cs.drop (off + us.length)
 | [], cs, off, _ => by simp [spliceV]
 | u :: us, cs, off, h => by
  simp only [List.length_cons] at h
  rw [spliceV, spliceV_eq us _ _ (by simp; omega)]
  have e1 : (cs.set off u).take (off + 1) = cs.take off ++ [u] := by
   rw [List.take_succ_eq_append_getElem (by simp; omega)]
   simp [List.take_set_of_le]
  rw [e1]
  have e2 : (cs.set off u).drop (off + 1 + us.length) = cs.drop (off + 1 + us.length) := by rw [List.drop_set_of_lt (by omega)]
  rw [e2]
  simp [Nat.add_assoc, Nat.add_comm 1]

theorem cell_of {b : Nat} {arr : Array Value} {ty : TypeId} (hh : w.heap[b]? = some (.cells arr ty (0, 0))) (p : Nat) : w.cell? ⟨b, p, none⟩ = arr[p]? := by simp [World.cell?, hh]

theorem Cr_of_Cs {b : Nat} : ∀ (ds : List D) (cs : List Value) (off : Nat), D.Cs F w ds cs → (∀ j, j < ds.length → w.cell? ⟨b, off + j, none⟩ = cs[j]?) → D.Cr F w none b off ds
 | [], _, _, _, _ => by simp only [D.Cr]
 | d :: ds, cs, off, h, hc => by
  simp only [D.Cs] at h
  obtain ⟨c, cs', rfl, h0, h1, h2⟩ := h
  simp only [D.Cr, es]
  refine ⟨⟨[c], rfl, fun j hj => ?_, by simpa using h0, h1⟩, Cr_of_Cs ds cs' (off + 1) h2 fun j hj => ?_⟩
  ·have := hc j (by simp only [List.length_cons]; omega)
   rw [this]
   have : j = 0 := by omega
   subst this
   rfl
  ·have := hc (j + 1) (by simp only [List.length_cons]; omega)
   rw [show off + 1 + j = off + (j + 1) by omega, this]
   simp

theorem storew_sound (hc : Conc F φ own w) {t : TypeId} {a x : AV} {ca cx : Value} {K : AV → List Obj → List Nat → Prop} (ha : AV.R F φ w a ca) (hx : AV.R F φ w x cx) (h : storew (tyOf P t) own a x K) :
  ∃ v own' kl F' φ' w', (Instr.storeAt t ca cx).run P w = .ok () w' ∧ After F φ w F' φ' own' w' kl ∧ v = .top ∧ K v own' kl := by
 unfold storew at h
 split at h
 ·rename_i τ o i j hτ
  simp only [AV.R] at ha
  obtain ⟨L, ho, hn, rfl⟩ := ha
  have hr := getObj_rep hc ho
  unfold storeObj at h
  split at h
  ·
   rename_i xs hobj
   rw [hobj] at hr
   simp only [ObjR] at hr
   obtain ⟨hsz, hr⟩ := hr
   rcases hr with ⟨hnil, _⟩ | ⟨_, ⟨arr, ty, hh, hsize⟩, hfit, hrow⟩
   ·rw [hn] at hnil; cases hnil
   simp only [es] at hsz
   split at h
   rotate_left
   ·obtain ⟨rfl, rfl, hts, h⟩ := h
    split at h
    ·rename_i ds hd
     obtain ⟨hlen, hK⟩ := h
     obtain ⟨k1, k2, k3⟩ := D.fits_cells (ag := some xs.length) (d := .agg ds) ⟨rfl, by simpa [D.size, es] using hlen⟩ (pure_R hd hx)
     simp only [es] at k1
     have hpos : L.base + 0 * L.sz + 0 + cx.cells.size ≤ arr.size := by
      rw [hsize, k1]; rw [hsz] at hfit; omega
     have hrun := run_storeAt (P := P) hτ (off := L.base + 0 * L.sz + 0) hh (by rw [k1, hts]) hpos k3
     have hl := laid_in (arr := arr) (cs := cx.cells.toList) (off := L.base + 0 * L.sz + 0) (by simpa using hpos)
     simp only [Array.length_toList] at hl
     refine ⟨.top, _, [], F, φ, _, hrun, After.write hc ho hn rfl rfl rfl (by simp) (fun b hb => setRow_other w L.b b _ hb) ?_, rfl, hK⟩
     have hh' := setRow_heap w L.b arr (arr.toList.take (L.base + 0 * L.sz + 0) ++ cx.cells.toList ++ arr.toList.drop (L.base + 0 * L.sz + 0 + cx.cells.size)).toArray ty _ hh
     simp only [ObjR]
     refine ⟨hsz, .inr ⟨hn, ⟨_, ty, hh', ?_⟩, by rw [hlen]; exact hfit, ?_⟩⟩
     ·simp; omega
     ·simp only [D.C] at k2
      refine Cr_of_Cs ds cx.cells.toList L.base (D.Cs_mono (fun _ h => h) (hc.sameOf ho hn (fun b hb => setRow_other w L.b b _ hb)) _ _ k2) (fun j hj => ?_)
      rw [cell_of hh', hl, if_pos ⟨by omega, by omega⟩]
      congr 1; omega
    ·exact h.elim
   obtain ⟨hts, rfl, hi, h⟩ := h
   split at h
   ·rename_i d hd
    obtain ⟨hda, hK⟩ := h
    obtain ⟨k1, k2, k3⟩ := D.fits_cells (ag := none) (by refine ⟨by simpa using hda, ?_⟩; cases d <;> first | rfl | simp [D.isAgg] at hda) (pure_R hd hx)
    simp only [es] at k1
    have hpos : L.base + i * L.sz + 0 + cx.cells.size ≤ arr.size := by
     rw [hsize, k1, hsz]; rw [hsz] at hfit; omega
    have hrun := run_storeAt (P := P) hτ (off := L.base + i * L.sz + 0) hh (by rw [k1, hts]) hpos k3
    have hl := laid_in (arr := arr) (cs := cx.cells.toList) (off := L.base + i * L.sz + 0) (by simpa using hpos)
    simp only [Array.length_toList] at hl
    refine ⟨.top, _, [], F, φ, _, hrun, After.write hc ho hn rfl rfl rfl (by simp) (fun b hb => setRow_other w L.b b _ hb) ?_, rfl, hK⟩
    have hh' := setRow_heap w L.b arr (arr.toList.take (L.base + i * L.sz + 0) ++ cx.cells.toList ++ arr.toList.drop (L.base + i * L.sz + 0 + cx.cells.size)).toArray ty _ hh
    simp only [ObjR]
    refine ⟨hsz, .inr ⟨hn, ⟨_, ty, hh', ?_⟩, by simpa using hfit, ?_⟩⟩
    ·simp; omega
    ·refine D.Cr_write (hc.sameOf ho hn (fun b hb => setRow_other w L.b b _ hb)) hh hh' hi hrow (cs := cx.cells.toList) (by simpa [es] using k1) (by simpa using hda) k2 (fun j hj => ?_) (fun p hp => ?_)
     ·simp only [es] at hj ⊢
      rw [hl, hsz, if_pos ⟨by omega, by omega⟩]
      congr 1; omega
     ·simp only [es] at hp
      rw [hl, hsz, if_neg (by omega)]
   ·exact h.elim
  ·
   rename_i k xs hobj
   rw [hobj] at hr
   simp only [ObjR] at hr
   obtain ⟨hsz, hr⟩ := hr
   rcases hr with ⟨hnil, _⟩ | ⟨_, ⟨arr, ty, hh, hsize⟩, hfit, hrow⟩
   ·rw [hn] at hnil; cases hnil
   simp only [es] at hsz
   obtain ⟨hi, h⟩ := h
   have hik : L.base + i * k + k ≤ arr.size := by
    have := Nat.mul_le_mul_right k (show i + 1 ≤ xs.length by omega)
    rw [Nat.add_mul] at this
    rw [hsz] at hfit
    omega
   split at h
   ·rename_i d hd
    cases hagg : τ.agg with
    | true =>
     rw [hagg] at h
     simp only [if_true] at h
     obtain ⟨rfl, hts, hf, hK⟩ := h
     obtain ⟨k1, k2, k3⟩ := D.fits_cells hf (pure_R hd hx)
     simp only [es] at k1
     have hpos : L.base + i * L.sz + 0 + cx.cells.size ≤ arr.size := by rw [hsz, k1]; omega
     have hrun := run_storeAt (P := P) hτ (off := L.base + i * L.sz + 0) hh (by rw [k1, hts]) hpos k3
     have hl := laid_in (arr := arr) (cs := cx.cells.toList) (off := L.base + i * L.sz + 0) (by simpa using hpos)
     simp only [Array.length_toList] at hl
     refine ⟨.top, _, [], F, φ, _, hrun, After.write hc ho hn rfl rfl rfl (by simp) (fun b hb => setRow_other w L.b b _ hb) ?_, rfl, hK⟩
     have hh' := setRow_heap w L.b arr (arr.toList.take (L.base + i * L.sz + 0) ++ cx.cells.toList ++ arr.toList.drop (L.base + i * L.sz + 0 + cx.cells.size)).toArray ty _ hh
     simp only [ObjR]
     refine ⟨hsz, .inr ⟨hn, ⟨_, ty, hh', ?_⟩, by simpa using hfit, ?_⟩⟩
     ·simp; omega
     ·refine D.Cr_write (hc.sameOf ho hn (fun b hb => setRow_other w L.b b _ hb)) hh hh' hi hrow (cs := cx.cells.toList) (by simpa [es] using k1) hf.1 k2 (fun j hj => ?_) (fun p hp => ?_)
      ·simp only [es] at hj ⊢
       rw [hl, hsz, if_pos ⟨by omega, by omega⟩]
       congr 1; omega
      ·simp only [es] at hp
       rw [hl, hsz, if_neg (by omega)]
    | false =>
     rw [hagg] at h
     simp only [Bool.false_eq_true, if_false] at h
     obtain ⟨hts, hj, hda, hK⟩ := h
     obtain ⟨k1, k2, k3⟩ := D.fits_cells (ag := none) (by refine ⟨by simpa using hda, ?_⟩; cases d <;> first | rfl | simp [D.isAgg] at hda) (pure_R hd hx)
     simp only [es] at k1
     obtain ⟨cs, g1, g2, g3, g4⟩ := D.Cr_iff.1 hrow i _ (nth_get hi)
     simp only [es] at g1
     obtain ⟨c0, hc0⟩ : ∃ c0, cx.cells.toList = [c0] := by
      have : cx.cells.toList.length = 1 := by simpa using k1
      match hcx : cx.cells.toList, this with
      | [c0], _ => exact ⟨c0, rfl⟩
     have hpos : L.base + i * L.sz + j + cx.cells.size ≤ arr.size := by rw [hsz, k1]; omega
     have hrun := run_storeAt (P := P) hτ (off := L.base + i * L.sz + j) hh (by rw [k1, hts]) hpos k3
     have hl := laid_in (arr := arr) (cs := cx.cells.toList) (off := L.base + i * L.sz + j) (by simpa using hpos)
     simp only [Array.length_toList] at hl
     refine ⟨.top, _, [], F, φ, _, hrun, After.write hc ho hn rfl rfl rfl (by simp) (fun b hb => setRow_other w L.b b _ hb) ?_, rfl, hK⟩
     have hh' := setRow_heap w L.b arr (arr.toList.take (L.base + i * L.sz + j) ++ cx.cells.toList ++ arr.toList.drop (L.base + i * L.sz + j + cx.cells.size)).toArray ty _ hh
     have hcell : ∀ p, w.cell? ⟨L.b, p, none⟩ = arr[p]? := fun p => by simp [World.cell?, hh]
     simp only [ObjR]
     refine ⟨hsz, .inr ⟨hn, ⟨_, ty, hh', ?_⟩, by simpa using hfit, ?_⟩⟩
     ·simp; omega
     ·generalize hnd : D.nth xs i = nd at *
      cases nd <;> simp [D.isAgg] at g3
      rename_i ds
      simp only [D.C] at g4
      obtain ⟨q1, q2⟩ := D.Cs_iff.1 g4
      refine D.Cr_write (hc.sameOf ho hn (fun b hb => setRow_other w L.b b _ hb)) hh hh' hi hrow (cs := cs.set j c0) (by simpa [es] using g1) rfl ?_ (fun j' hj' => ?_) (fun p hp => ?_)
      ·simp only [D.setPart, D.C]
       refine D.Cs_iff.2 ⟨by simpa using q1, fun m d' c' hm1 hm2 => ?_⟩
       rw [List.getElem?_set] at hm1 hm2
       by_cases e : j = m
       ·subst e
        have : j < ds.length := by omega
        simp only [if_true, this, show j < cs.length by omega] at hm1 hm2
        cases hm1; cases hm2
        rw [hc0] at k2
        exact ⟨by simpa using hda, k2⟩
       ·simp only [e, if_false] at hm1 hm2
        exact q2 m d' c' hm1 hm2
      ·simp only [es] at hj' ⊢
       rw [hl, hsz]
       by_cases e : j = j'
       ·subst e
        rw [if_pos ⟨by omega, by omega⟩, hc0]
        simp [show j < cs.length by omega]
       ·rw [if_neg (by omega), List.getElem?_set, if_neg e]
        have := g2 j' hj'
        rw [hcell] at this
        simpa [es] using this
      ·simp only [es] at hp
       rw [hl, hsz, if_neg (by omega)]
   ·exact h.elim
  ·
   rename_i cs hobj
   rw [hobj] at hr
   simp only [ObjR] at hr
   obtain ⟨hsz, hr⟩ := hr
   obtain ⟨hts, rfl, hi, h⟩ := h
   rcases hr with ⟨hnil, _⟩ | ⟨_, arr, ty, hh, hsize, hfit, vs, hra, hcells⟩
   ·rw [hn] at hnil; cases hnil
   split at h
   ·rename_i v hv
    have hra2 := AV.asCells_R hv hx
    have hone := (AV.Ra_iff.1 hra2).2
    simp only [AV.Ra] at hra2
    obtain ⟨u, us, hu, hu1, hu2, rfl⟩ := hra2
    have k1 : cx.cells.size = 1 := by rw [← Array.length_toList, hu]; rfl
    have hpos : L.base + i * L.sz + 0 + cx.cells.size ≤ arr.size := by rw [hsize, k1, hsz]; omega
    have hrun := run_storeAt (P := P) hτ (off := L.base + i * L.sz + 0) hh (by rw [k1, hts]) hpos hone
    have hl := laid_in (arr := arr) (cs := cx.cells.toList) (off := L.base + i * L.sz + 0) (by simpa using hpos)
    simp only [Array.length_toList] at hl
    refine ⟨.top, _, [], F, φ, _, hrun, After.write hc ho hn rfl rfl rfl (by simp) (fun b hb => setRow_other w L.b b _ hb) ?_, rfl, h⟩
    have hh' := setRow_heap w L.b arr (arr.toList.take (L.base + i * L.sz + 0) ++ cx.cells.toList ++ arr.toList.drop (L.base + i * L.sz + 0 + cx.cells.size)).toArray ty _ hh
    have hsame := hc.sameOf ho hn (fun b hb => setRow_other w L.b b (arr.toList.take (L.base + i * L.sz + 0) ++ cx.cells.toList ++ arr.toList.drop (L.base + i * L.sz + 0 + cx.cells.size)).toArray hb)
    have hlen := AV.Ra_length hra
    simp only [ObjR]
    refine ⟨hsz, .inr ⟨hn, _, ty, hh', by simp; omega, by simpa using hfit, vs.set i u, ?_, fun j hj => ?_⟩⟩
    ·exact AV.Ra_mono (fun _ h => h) hsame (fun _ _ h => h) _ _ (AV.Ra_set hra i _ u hu1 hu2)
    ·simp only [List.length_set] at hj
     rw [hl, List.getElem?_set]
     by_cases e : i = j
     ·subst e
      rw [if_pos ⟨by rw [hsz]; omega, by rw [hsz, k1]; omega⟩, if_pos rfl, if_pos (by omega), hu]
      rw [show L.base + i - (L.base + i * L.sz + 0) = 0 by rw [hsz]; omega]
      rfl
     ·rw [if_neg (by rw [hsz, k1]; omega), if_neg e]
      exact hcells j hj
   ·exact h.elim
  ·
   rename_i cs hobj
   rw [hobj] at hr
   simp only [ObjR] at hr
   obtain ⟨_, hbase, arr, ty, hh, hsize, hra⟩ := hr
   obtain ⟨rfl, h⟩ := h
   have hlen := AV.Ra_length hra
   split at h
   ·rename_i vs hvs
    obtain ⟨h1, h2, hK⟩ := h
    have hra2 := AV.asCells_R hvs hx
    have hlen2 := AV.Ra_length hra2
    have hone := (AV.Ra_iff.1 hra2).2
    have hcs : cx.cells.size = vs.length := by simpa using hlen2
    simp only [hbase, Nat.zero_mul, Nat.add_zero, Nat.zero_add]
    have hrun := run_storeAt (P := P) hτ (off := j) (arr := arr.toArray) hh (by rw [hcs, h1]) (by simp; omega) hone
    refine ⟨.top, _, [], F, φ, _, hrun, After.write hc ho hn rfl rfl rfl (by simp) (fun b hb => setRow_other w L.b b _ hb) ?_, rfl, hK⟩
    have hh' := setRow_heap w L.b arr.toArray (arr.toArray.toList.take j ++ cx.cells.toList ++ arr.toArray.toList.drop (j + cx.cells.size)).toArray ty _ hh
    simp only [ObjR]
    have e := spliceV_eq cx.cells.toList arr j (by simp; omega)
    rw [Array.length_toList] at e
    refine ⟨hn, hbase, spliceV arr j cx.cells.toList, ty, by rw [e]; exact hh', ?_, ?_⟩
    ·rw [e]; simp; omega
    ·refine AV.Ra_mono (fun _ h => h) (hc.sameOf ho hn (fun b hb => setRow_other w L.b b _ hb)) (fun _ _ h => h) _ _ (splice_R vs _ cs arr j hra2 hra)
   ·exact h.elim
  ·exact h.elim
 ·exact h.elim

end
end Go.AM

namespace Go.AM
open Go

section
variable {P : Program} {F : Nat → Prop} {φ : Nat → Option Loc} {own : List Obj} {w : World}

theorem makeMap_sound (hc : Conc F φ own w) {t : TypeId} {K : AV → List Obj → List Nat → Prop} (h : K (.map own.length) (own ++ [.map []]) []) : Does P F φ w (Instr.makeMap t none) K := by
 let L : Loc := ⟨false, w.heap.size, 0, 0, 0⟩
 have hw : ∀ b, b < w.heap.size → (w.alloc (.map #[] 0)).heap[b]? = w.heap[b]? := fun b hb => heap_alloc_old w _ b hb
 refine ⟨_, .map (some w.heap.size), _, [], F, ext φ own.length L, w.alloc (.map #[] 0), ?_, ?_, ?_, h⟩
 ·simp only [Instr.makeMap, Sem.run_bind, run_newObj, Result.andThen_ok, Sem.run_pure]
  rfl
 ·refine After.new hc rfl rfl rfl (by simp) hw (fun _ => ⟨Nat.le_refl _, by simp [L]⟩) ?_
  simp only [ObjR]
  exact ⟨rfl, #[], 0, heap_alloc_new w _, by simp [mapR]⟩
 ·simp only [AV.R]
  exact ⟨L, ext_self _ _ _, rfl, rfl⟩

def mapSet (k v : D) : List (D × D) → List (D × D)
 | [] => [(k, v)]
 | x :: m => if D.keyEq k x.1 then (k, v) :: m else x :: mapSet k v m

theorem mapR_push : ∀ {m : List (D × D)} {es : List MapEntry} {k v : D} {e : MapEntry}, mapR F w m es → D.R F w k e.key → D.R F w v e.val → mapR F w (m ++ [(k, v)]) (es ++ [e])
 | [], es, k, v, e, h, h1, h2 => by
  simp only [mapR] at h
  subst h
  simp only [List.nil_append, mapR]
  exact ⟨e, [], rfl, h1, h2, rfl⟩
 | x :: m, es, k, v, e, h, h1, h2 => by
  simp only [mapR] at h
  obtain ⟨e', es', rfl, g1, g2, g3⟩ := h
  simp only [List.cons_append, mapR]
  exact ⟨e', es' ++ [e], rfl, g1, g2, mapR_push g3 h1 h2⟩

theorem mapSet_none {k v : D} : ∀ {m : List (D × D)} {i : Nat}, mapFindI k m i = none → mapSet k v m = m ++ [(k, v)]
 | [], _, _ => rfl
 | x :: m, i, h => by
  simp only [mapFindI] at h
  split at h
  ·cases h
  ·rename_i hne
   simp only [mapSet, hne, if_false, List.cons_append]
   rw [mapSet_none h]
   simp

theorem mapR_replace {k v : D} {c cv : Value} (h1 : D.R F w k c) (h2 : D.R F w v cv) : ∀ {m : List (D × D)} {es : List MapEntry} {i j : Nat} {u : D}, mapFindI k m i = some (j, u) → mapR F w m es →
  i ≤ j ∧ mapR F w (mapSet k v m) (es.modify (j - i) fun e => { e with key := c, val := cv })
 | [], _, _, _, _, h, _ => by simp [mapFindI] at h
 | x :: m, es, i, j, u, h, hm => by
  simp only [mapR] at hm
  obtain ⟨e, es', rfl, g1, g2, g3⟩ := hm
  simp only [mapFindI] at h
  by_cases hk : D.keyEq k x.1 = true
  ·simp only [hk, if_true, Option.some.injEq, Prod.mk.injEq] at h
   obtain ⟨rfl, _⟩ := h
   refine ⟨Nat.le_refl _, ?_⟩
   simp only [Nat.sub_self, List.modify_zero_cons, mapSet, hk, if_true, mapR]
   exact ⟨_, es', rfl, h1, h2, g3⟩
  ·simp only [hk, if_false] at h
   obtain ⟨k1, k2⟩ := mapR_replace h1 h2 h g3
   refine ⟨by omega, ?_⟩
   have e1 : j - i = (j - (i + 1)) + 1 := by omega
   rw [e1, List.modify_succ_cons]
   simp only [mapSet, hk, if_false, mapR]
   exact ⟨e, _, rfl, g1, g2, k2⟩

def mapUpdatew (P : Program) (τ : Option Ty) (own : List Obj) (x k v : AV) (K : AV → List Obj → List Nat → Prop) : Prop :=
 match τ, x, k.keyD with
 | some τ, .map o, some k => (match τ.desc with
  | .map kt _ => (match tyOf P kt, own.getD o .dead, v.pure with
   | some τk, .map m, some v => D.isKeyP P kt τk.desc k = true ∧ (m.all fun x => D.isKeyP P kt τk.desc x.1) = true ∧ K .top (own.set o (.map (mapSet k v m))) []
   | _, _, _ => False)
  | _ => False)
 | _, _, _ => False

theorem mapUpdatew_sound (hc : Conc F φ own w) {t : TypeId} {x k v : AV} {cx ck cv : Value} {K : AV → List Obj → List Nat → Prop} (hx : AV.R F φ w x cx) (hk : AV.R F φ w k ck) (hv : AV.R F φ w v cv)
  (h : mapUpdatew P (tyOf P t) own x k v K) :
  ∃ v own' kl F' φ' w', (Instr.mapUpdate t cx ck cv).run P w = .ok () w' ∧ After F φ w F' φ' own' w' kl ∧ v = .top ∧ K v own' kl := by
 unfold mapUpdatew at h
 split at h
 ·rename_i τ o k hτ hkd
  split at h
  ·rename_i kt et hd
   split at h
   ·rename_i τk m v' hτk hobj hpv
    obtain ⟨h1, h2, hK⟩ := h
    have hu := run_und (P := P) w hτ
    rw [hd] at hu
    replace hk := keyD_R hkd hk
    simp only [AV.R] at hx
    obtain ⟨L, ho, hn, rfl⟩ := hx
    have hr := getObj_rep hc ho
    rw [hobj] at hr
    simp only [ObjR] at hr
    obtain ⟨_, es, clock, hh, hm⟩ := hr
    have hck : (Instr.checkKey false 10000 kt ck).run P w = .ok () w := checkKey_ok _ (tyOf_spec hτk).1 h1 hk
    have hvr := pure_R hpv hv
    have setrun : ∀ ob, (setObj L.b ob).run P w = .ok () { w with heap := w.heap.setIfInBounds L.b ob } := fun ob => by simp only [setObj, Sem.run, hh]
    have hb : L.b < w.heap.size := (hc.live o L ho hn).2
    have fin : ∀ (es' : Array MapEntry) (clock' : Nat), mapR F w (mapSet k v' m) es'.toList →
      After F φ w F φ (own.set o (.map (mapSet k v' m))) { w with heap := w.heap.setIfInBounds L.b (.map es' clock') } [] := by
     intro es' clock' hmr
     have hoth : ∀ b, b ≠ L.b → ({ w with heap := w.heap.setIfInBounds L.b (.map es' clock') } : World).heap[b]? = w.heap[b]? := fun b hb => by
      simp [Array.getElem?_setIfInBounds, Ne.symm hb]
     refine After.write hc ho hn rfl rfl rfl (by simp) hoth ?_
     simp only [ObjR]
     refine ⟨hn, es', clock', ?_, mapR_mono (fun _ h => h) (hc.sameOf ho hn hoth) _ _ hmr⟩
     simp [Array.getElem?_setIfInBounds, hb]
    rcases findKey_ok (tyOf_spec hτk).1 h1 hk m es.toList h2 hm with ⟨g1, g2⟩ | ⟨j, u, cu, e', g1, g2, g3, g5, k', g6, g7, g8, g9⟩
    ·refine ⟨.top, _, [], F, φ, _, ?_, fin (es.push { key := ck, val := cv, born := clock }) (clock + 1) ?_, rfl, hK⟩
     ·simp only [Instr.mapUpdate, Sem.run_bind, hu, Result.andThen_ok, run_getObj_map hh, hck, g2, Sem.run_pure, setrun]
     ·rw [mapSet_none g1, Array.toList_push]
      exact mapR_push hm hk hvr
    ·have hsb : (Instr.keyThatStays (((es[j]?).map (·.key)).getD ck) ck).run P w = .ok ck w := by
      simp only [Array.getElem?_toList] at g5
      rw [g5]
      exact g9
     refine ⟨.top, _, [], F, φ, _, ?_, fin (es.modify j fun e => { e with key := ck, val := cv }) clock ?_, rfl, hK⟩
     ·simp only [Instr.mapUpdate, Sem.run_bind, hu, Result.andThen_ok, run_getObj_map hh, hck, g2, hsb, setrun]
     ·have := (mapR_replace hk hvr g1 hm).2
      rw [Nat.sub_zero] at this
      rw [Array.toList_modify]
      exact this
   ·exact h.elim
  ·exact h.elim
 ·exact h.elim

def AV.elems (own : List Obj) : AV → Option (Option (Option Nat) × List D)
 | .sl o off len => (match own.getD o .dead with | .row ag xs => if off + len ≤ xs.length then some (some ag, (xs.drop off).take len) else none | _ => none)
 | .dat (.sl ag xs) => some (some ag, xs)
 | .nils => some (none, [])
 | _ => none

theorem rowCells {ag : Option Nat} {b off : Nat} {xs : List D} (h : D.Cr F w ag b off xs) : ∃ cs : List Value, cs.length = xs.length * es ag ∧ (∀ j v, cs[j]? = some v → w.cell? ⟨b, off + j, none⟩ = some v) ∧ (∀ u ∈ cs, u.oneCell' = true) ∧
  (∀ i d, xs[i]? = some d → ∃ es', es'.length = es ag ∧ (∀ j, j < es ag → cs[i * es ag + j]? = es'[j]?) ∧ d.isAgg = ag.isSome ∧ D.C F w d es') := by
 induction xs generalizing off with
 | nil => exact ⟨[], by simp, by simp, by simp, by simp⟩
 | cons d xs ih =>
  simp only [D.Cr] at h
  obtain ⟨⟨c0, h1, h2, h3, h4⟩, h5⟩ := h
  obtain ⟨cs, g1, g2, g3, g4⟩ := ih h5
  refine ⟨c0 ++ cs, by simp [h1, g1, Nat.succ_mul]; omega, fun j v hj => ?_, fun u hu => ?_, fun i d' hd => ?_⟩
  ·by_cases hlt : j < c0.length
   ·rw [List.getElem?_append_left hlt] at hj
    rw [h2 j (by omega)]; exact hj
   ·rw [List.getElem?_append_right (by omega)] at hj
    have := g2 _ _ hj
    rw [h1] at this hlt
    rw [← this]
    congr 2; omega
  ·rcases List.mem_append.1 hu with hu | hu
   ·cases d with
    | agg ds =>
     simp only [D.C] at h4
     obtain ⟨q1, q2⟩ := D.Cs_iff.1 h4
     obtain ⟨i, hi⟩ := List.getElem?_of_mem hu
     have hlt : i < ds.length := by
      rw [← q1]
      rcases Nat.lt_or_ge i c0.length with h | h
      ·exact h
      ·rw [List.getElem?_eq_none h] at hi; cases hi
     obtain ⟨r1, r2⟩ := q2 i _ u (List.getElem?_eq_getElem hlt) hi
     exact D.C_one r1 r2
    | _ =>
     obtain ⟨c, rfl⟩ := D.C_single rfl h4
     simp at hu
     subst hu
     exact D.C_one rfl h4
   ·exact g3 u hu
  ·cases i with
   | zero =>
    simp at hd
    subst hd
    refine ⟨c0, h1, fun j hj => ?_, h3, h4⟩
    rw [Nat.zero_mul, Nat.zero_add, List.getElem?_append_left (by omega)]
   | succ i =>
    obtain ⟨e', r1, r2, r3, r4⟩ := g4 i d' (by simpa using hd)
    refine ⟨e', r1, fun j hj => ?_, r3, r4⟩
    rw [List.getElem?_append_right (by rw [Nat.succ_mul]; omega), ← r2 j hj, h1]
    congr 1
    rw [Nat.succ_mul]; omega

def Packed (F : Nat → Prop) (w : World) (ag : Option Nat) (ys : List D) (cs : List Value) : Prop :=
 cs.length = ys.length * es ag ∧ (∀ u ∈ cs, u.oneCell' = true) ∧
  ∀ i d, ys[i]? = some d → ∃ es', es'.length = es ag ∧ (∀ j, j < es ag → cs[i * es ag + j]? = es'[j]?) ∧ d.isAgg = ag.isSome ∧ D.C F w d es'

theorem Packed.nil {ag : Option Nat} : Packed F w ag [] [] := ⟨by simp, by simp, by simp⟩

theorem run_first (size n : Nat) (b : Addr) (len cap : Nat) (cs : List Value) (hl : n * size ≤ cs.length) (h : ∀ j v, cs[j]? = some v → w.cell? (b.add j) = some v) :
  (Builtin.firstCells size n (.slice (some b) len cap)).run P w = .ok (cs.take (n * size)).toArray w := by
 refine run_firstCells_some (P := P) w size n b len cap (cs.take (n * size)) (by simp; omega) (fun j v hj => ?_)
 rw [List.getElem?_take] at hj
 split at hj
 ·exact h j v hj
 ·cases hj

theorem elems_cells (hc : Conc F φ own w) {x : AV} {c : Value} {tag : Option (Option Nat)} {ys : List D} {ag : Option Nat} (hx : AV.R F φ w x c) (he : x.elems own = some (tag, ys)) (hag : tag = some ag ∨ ys = []) :
  ∃ a cap cs, c = .slice a ys.length cap ∧ ys.length ≤ maxLen ∧ Packed F w ag ys cs ∧ ∀ n, n ≤ ys.length → (Builtin.firstCells (es ag) n c).run P w = .ok (cs.take (n * es ag)).toArray w := by
 have empty : ∀ a cap, ys = [] → c = .slice a 0 cap → ∃ a cap cs, c = .slice a ys.length cap ∧ ys.length ≤ maxLen ∧ Packed F w ag ys cs ∧ ∀ n, n ≤ ys.length → (Builtin.firstCells (es ag) n c).run P w = .ok (cs.take (n * es ag)).toArray w := by
  intro a cap hy hcc
  subst hy; subst hcc
  refine ⟨a, cap, [], rfl, by simp, Packed.nil, fun n hn => ?_⟩
  have : n = 0 := by simpa using hn
  subst this
  cases a with
  | none => simp [Builtin.firstCells]
  | some a => simpa using run_first (P := P) (w := w) (es ag) 0 a 0 cap [] (by simp) (by simp)
 have full : ∀ b off cap, c = .slice (some ⟨b, off, none⟩) ys.length cap → ys.length ≤ maxLen → D.Cr F w ag b off ys → ∃ a cap cs, c = .slice a ys.length cap ∧ ys.length ≤ maxLen ∧ Packed F w ag ys cs ∧ ∀ n, n ≤ ys.length → (Builtin.firstCells (es ag) n c).run P w = .ok (cs.take (n * es ag)).toArray w := by
  intro b off cap hcc hm hrow
  obtain ⟨cs, g1, g2, g3, g4⟩ := rowCells hrow
  subst hcc
  refine ⟨_, cap, cs, rfl, hm, ⟨g1, g3, g4⟩, fun n hn => run_first _ _ _ _ _ _ (by rw [g1]; exact Nat.mul_le_mul_right _ hn) (fun j v hj => by rw [Addr.add_mk]; exact g2 j v hj)⟩
 cases x <;> simp only [AV.elems, reduceCtorEq] at he
 case dat d =>
  cases d <;> simp only [reduceCtorEq] at he
  rename_i ag' xs
  simp only [Option.some.injEq, Prod.mk.injEq] at he
  obtain ⟨rfl, rfl⟩ := he
  obtain ⟨a, cap, rfl, h1, h2, h3⟩ := R_sl.1 hx
  by_cases hxs : xs = []
  ·exact empty a cap hxs (by rw [hxs]; rfl)
  ·rcases h3 with h3 | ⟨b, off, rfl, hF, hrow⟩
   ·exact (hxs h3).elim
   ·have e := hag.resolve_right hxs
    simp only [Option.some.injEq] at e
    subst e
    exact full b off cap rfl (by omega) hrow
 case nils =>
  simp only [Option.some.injEq, Prod.mk.injEq] at he
  obtain ⟨rfl, rfl⟩ := he
  exact empty none 0 rfl (R_nils.1 hx)
 case sl o off len =>
  split at he
  ·rename_i ag' xs hobj
   split at he
   ·rename_i hle
    simp only [Option.some.injEq, Prod.mk.injEq] at he
    obtain ⟨rfl, rfl⟩ := he
    have hlen : ((xs.drop off).take len).length = len := by simp; omega
    simp only [AV.R] at hx
    obtain ⟨L, ho, hx⟩ := hx
    have hr := getObj_rep hc ho
    rw [hobj] at hr
    simp only [ObjR] at hr
    obtain ⟨hsz, hr⟩ := hr
    rcases hx with ⟨hn, rfl, rfl, rfl⟩ | ⟨hn, c', cap, rfl, h1, h2, h3, h4⟩
    ·exact empty none 0 (by simp) rfl
    ·rcases hr with ⟨hnil, _⟩ | ⟨_, _, hfit, hrow⟩
     ·rw [hn] at hnil; cases hnil
     by_cases h0 : len = 0
     ·subst h0
      exact empty _ cap (by simp) rfl
     ·have hne : (xs.drop off).take len ≠ [] := by
       intro e
       rw [e] at hlen
       simp at hlen
       omega
      have e := hag.resolve_right hne
      simp only [Option.some.injEq] at e
      subst e
      refine full L.b c' cap (by rw [hlen]) (by rw [hlen]; omega) ?_
      rw [h3.resolve_left (by omega), hsz]
      exact D.Cr_drop _ _ hrow
   ·cases he
  ·cases he

end
end Go.AM

namespace Go.AM
open Go

section
variable {P : Program} {F : Nat → Prop} {φ : Nat → Option Loc} {own : List Obj} {w : World}

def appendRw (P : Program) (τ : Option Ty) (own : List Obj) (x y : AV) (K : AV → List Obj → List Nat → Prop) : Prop :=
 match τ with
 | some τ => (match τ.desc with
  | .slice e => (match tyOf P e, y.elems own with
   | some τe, some (tag, ys) =>
    (tag = some τe.want ∨ ys = []) ∧ es τe.want = τe.size ∧ 0 < τe.size ∧ (∃ z, τe.zero = some z ∧ z.cells.size = τe.size) ∧
    (match x with
    | .sl o off len => (match own.getD o .dead with
     | .row ag xs => ag = τe.want ∧ off + len ≤ xs.length ∧ len + ys.length ≤ 140737488355328 ∧ (len + ys.length) * τe.bytes ≤ 140737488355328 ∧
       K (.sl o 0 (len + ys.length)) ((own.map (Obj.kill o)).set o (.row ag ((xs.drop off).take len ++ ys))) [o]
     | _ => False)
    | .nils => ys.length ≤ 140737488355328 ∧ ys.length * τe.bytes ≤ 140737488355328 ∧ K (.sl own.length 0 ys.length) (own ++ [.row τe.want ys]) []
    | _ => False)
   | _, _ => False)
  | _ => False)
 | none => False

theorem Conc.drew (h : Conc F φ own w) : Conc F φ own w.drew := h.same (Nat.le_refl _) (fun _ _ => rfl)
theorem same_drew : Same F w w.drew := fun _ _ => rfl
theorem drew_same : Same F w.drew w := fun _ _ => rfl
theorem R_drew {x : AV} {c : Value} (h : AV.R F φ w x c) : AV.R F φ w.drew x c := AV.R_mono (fun _ h => h) same_drew (fun _ _ h => h) _ _ h
theorem Packed.drew {ag : Option Nat} {ys : List D} {cs : List Value} (h : Packed F w.drew ag ys cs) : Packed F w ag ys cs := by
 refine ⟨h.1, h.2.1, fun i d hd => ?_⟩
 obtain ⟨e', h1, h2, h3, h4⟩ := h.2.2 i d hd
 exact ⟨e', h1, h2, h3, D.C_mono (fun _ h => h) drew_same _ _ h4⟩

theorem Packed.append {ag : Option Nat} {xs ys : List D} {cs cs' : List Value} (h : Packed F w ag xs cs) (h' : Packed F w ag ys cs') : Packed F w ag (xs ++ ys) (cs ++ cs') := by
 refine ⟨by rw [List.length_append, h.1, h'.1, List.length_append, Nat.add_mul], fun u hu => ?_, fun i d hd => ?_⟩
 ·rcases List.mem_append.1 hu with hu | hu
  ·exact h.2.1 u hu
  ·exact h'.2.1 u hu
 ·by_cases hi : i < xs.length
  ·rw [List.getElem?_append_left hi] at hd
   obtain ⟨e', h1, h2, h3, h4⟩ := h.2.2 i d hd
   refine ⟨e', h1, fun j hj => ?_, h3, h4⟩
   have := Nat.mul_le_mul_right (es ag) (show i + 1 ≤ xs.length by omega)
   rw [Nat.add_mul] at this
   rw [List.getElem?_append_left (by rw [h.1]; omega)]
   exact h2 j hj
  ·rw [List.getElem?_append_right (by omega)] at hd
   obtain ⟨e', h1, h2, h3, h4⟩ := h'.2.2 _ d hd
   refine ⟨e', h1, fun j hj => ?_, h3, h4⟩
   have e : i * es ag = xs.length * es ag + (i - xs.length) * es ag := by
    rw [← Nat.add_mul]; congr 1; omega
   rw [List.getElem?_append_right (by rw [h.1, e]; omega), ← h2 j hj, h.1, e]
   congr 1; omega

theorem Packed.take {ag : Option Nat} {xs : List D} {cs : List Value} (n : Nat) (h : Packed F w ag xs cs) : Packed F w ag (xs.take n) (cs.take (n * es ag)) := by
 refine ⟨?_, fun u hu => h.2.1 u (List.mem_of_mem_take hu), fun i d hd => ?_⟩
 ·rw [List.length_take, h.1, List.length_take]
  rcases Nat.le_total n xs.length with h1 | h1
  ·rw [Nat.min_eq_left h1, Nat.min_eq_left (Nat.mul_le_mul_right _ h1)]
  ·rw [Nat.min_eq_right h1, Nat.min_eq_right (Nat.mul_le_mul_right _ h1)]
 ·rw [List.getElem?_take] at hd
  split at hd
  ·rename_i hi
   obtain ⟨e', h1, h2, h3, h4⟩ := h.2.2 i d hd
   refine ⟨e', h1, fun j hj => ?_, h3, h4⟩
   have := Nat.mul_le_mul_right (es ag) (show i + 1 ≤ n by omega)
   rw [Nat.add_mul] at this
   rw [List.getElem?_take, if_pos (by omega)]
   exact h2 j hj
  ·cases hd

theorem Cr_of_packed {ag : Option Nat} {ys : List D} {cs : List Value} {b base : Nat} {w' : World} (hw : Same F w w') (h : Packed F w ag ys cs) (hcell : ∀ p, p < ys.length * es ag → w'.cell? ⟨b, base + p, none⟩ = cs[p]?) : D.Cr F w' ag b base ys := by
 refine D.Cr_iff.2 fun i d hd => ?_
 obtain ⟨e', h1, h2, h3, h4⟩ := h.2.2 i d hd
 have hi : i < ys.length := by
  rcases Nat.lt_or_ge i ys.length with h | h
  ·exact h
  ·rw [List.getElem?_eq_none h] at hd; cases hd
 refine ⟨e', h1, fun j hj => ?_, h3, D.C_mono (fun _ h => h) hw _ _ h4⟩
 have := Nat.mul_le_mul_right (es ag) (show i + 1 ≤ ys.length by omega)
 rw [Nat.add_mul] at this
 rw [← h2 j hj, Nat.add_assoc]
 exact hcell _ (by omega)

theorem run_append_inplace {t ty e : TypeId} {τ τe : Ty} (hτ : tyOf P t = some τ) (hd : τ.desc = .slice e) (hτe : tyOf P e = some τe) {g c len cap m : Nat} {ay : Option Addr} {cy : Nat} {arr news : Array Value} {tyb : TypeId}
  (hh : w.heap[g]? = some (.cells arr tyb (0, 0))) (hroom : len + m ≤ cap) (hfit : c + (len + m) * τe.size ≤ arr.size) (hnl : news.size = m * τe.size) (h1 : ∀ u ∈ news.toList, u.oneCell' = true)
  (hnew : (Builtin.firstCells τe.size m (.slice ay m cy)).run P w = .ok news w) :
  (Builtin.append_ #[t, t] ty #[.slice (some ⟨g, c, none⟩) len cap, .slice ay m cy]).run P w =
   .ok (.slice (some ⟨g, c, none⟩) (len + m) cap) (w.setRow g (arr.toList.take (c + len * τe.size) ++ news.toList ++ arr.toList.drop (c + len * τe.size + m * τe.size)).toArray) := by
 have hu := run_und (P := P) w hτ
 rw [hd] at hu
 have hst := run_storeCells_at P g (c + len * τe.size) tyb news.toList 0 arr w hh (by rw [Array.length_toList, hnl, Nat.add_zero, Nat.add_assoc, ← Nat.add_mul]; exact hfit) h1
 simp only [Nat.add_zero] at hst
 simp only [Builtin.append_, List.getElem?_toArray, List.getElem?_cons_zero, List.getElem?_cons_succ, Sem.run_bind, hu, Result.andThen_ok, run_size w hτe, Sem.run_pure, Bool.false_eq_true, if_false, Builtin.lenOf, hroom, if_true, Bool.not_false, hnew, Addr.add_mk, hst, Array.length_toList, hnl]

theorem run_append_growing {t ty e : TypeId} {τ τe : Ty} (hτ : tyOf P t = some τ) (hd : τ.desc = .slice e) (hτe : tyOf P e = some τe) {z : Value} (hz : τe.zero = some z) {ax : Option Addr} {len cap m : Nat} {ay : Option Addr} {cy : Nat} {olds news : Array Value}
  (hroom : cap < len + m) (h63 : len + m ≤ 140737488355328) (hby : (len + m) * τe.bytes ≤ 140737488355328)
  (hold : (Builtin.firstCells τe.size len (.slice ax len cap)).run P w.drew = .ok olds w.drew) (hnew : (Builtin.firstCells τe.size m (.slice ay m cy)).run P w.drew = .ok news w.drew) :
  (Builtin.append_ #[t, t] ty #[.slice ax len cap, .slice ay m cy]).run P w =
   .ok (.slice (some ⟨w.heap.size, 0, none⟩) (len + m) (grownCap w (len + m) cap e)) (w.drew.alloc (.cells (olds ++ news ++ Builtin.zeroCells z.cells (grownCap w (len + m) cap e - (len + m))) e)) := by
 have hu := run_und (P := P) w hτ
 rw [hd] at hu
 obtain ⟨i, hi, k1, k2, k3⟩ := run_info (P := P) w hτe
 have hfit := growslice_fits (bytes := i.bytes) hroom (by rw [k2]; exact hby)
 have n1 : ¬ (len + m ≤ cap) := by omega
 have n2 : ¬ (((len + m : Nat) : Int) > IntKind.i64.max) := by
  simp only [IntKind.max, IntKind.signed, IntKind.bits, ↓reduceIte, Nat.reduceSub, Int.reducePow, Int.reduceSub]; omega
 have n3 : ¬ (281474976710656 < Builtin.nextslicecap (len + m) cap * i.bytes) := by omega
 have hch : (choose (.appendCap (len + m) cap e)).run P w = .ok (grownCap w (len + m) cap e) w.drew := by
  simp only [run_choose, Question.forced, Bool.false_eq_true, if_false, grownCap]; rfl
 obtain ⟨i', hi', _, _, k3'⟩ := run_info (P := P) w.drew hτe
 simp only [Builtin.append_, List.getElem?_toArray, List.getElem?_cons_zero, List.getElem?_cons_succ, Sem.run_bind, hu, Result.andThen_ok, run_size w hτe, Sem.run_pure, Bool.false_eq_true, if_false, Builtin.lenOf, n1, hi, n2, false_and, false_or, Nat.reducePow, gt_iff_lt, n3, hch, hi', run_askRoom, hold, Bool.not_false, if_true, hnew, run_zero w.drew hτe hz, newRow, run_newObj]
 rfl

theorem AV.kills_length {o : Nat} : ∀ (cs : List AV), (AV.kills o cs).length = cs.length
 | [] => rfl
 | c :: cs => by simp only [AV.kills, List.length_cons, AV.kills_length cs]

theorem afterMove (hc : Conc F φ own w) {o : Nat} {L L' : Loc} {obj' : Obj} {w' : World} (ho : φ o = some L) (hos : w'.os = w.os) (ht : w'.tape = w.tape) (hout : w'.output = w.output) (hs : w.heap.size ≤ w'.heap.size)
  (hoth : ∀ b, b < w.heap.size → (L.nil = false → b ≠ L.b) → w'.heap[b]? = w.heap[b]?) (hL' : L'.nil = false → ((w.heap.size ≤ L'.b) ∨ (L.nil = false ∧ L'.b = L.b)) ∧ L'.b < w'.heap.size)
  (hobj' : ObjR F (ext φ o L') w' (some L') obj') : After F φ w F (ext φ o L') ((own.map (Obj.kill o)).set o obj') w' [o] := by
 have holt : o < own.length := by
  rcases Nat.lt_or_ge o own.length with h | h
  ·exact h
  ·rw [hc.out o h] at ho; cases ho
 have hne : ∀ o', o' ≠ o → ext φ o L' o' = φ o' := fun o' h => by unfold ext; rw [if_neg h]
 have hFs : Same F w w' := fun b hb => hoth b (hc.fb b hb) (fun hn e => (hc.live o L ho hn).1 (e ▸ hb))
 refine ⟨fun _ h => h, ⟨hos, ht, hout, hs, hFs⟩, ?_, fun o' L'' hne' ho' => by rw [hne o' (by simpa using hne')]; exact ho', fun b hb hall => hoth b hb (fun hn e => hall o L ho hn e.symm), fun o' L'' ho' hn' => ?_, fun b hb => .inl hb⟩
 rotate_left
 ·by_cases e : o' = o
  ·subst e
   rw [ext_self] at ho'
   cases ho'
   rcases (hL' hn').1 with h1 | ⟨h1, h2⟩
   ·exact .inl h1
   ·exact .inr ⟨o', L, ho, h1, h2.symm⟩
  ·rw [hne o' e] at ho'
   exact .inr ⟨o', L'', ho', hn', rfl⟩
 constructor
 ·exact fun b hb => Nat.lt_of_lt_of_le (hc.fb b hb) hs
 ·intro o' L'' ho' hn'
  by_cases e : o' = o
  ·subst e
   rw [ext_self] at ho'
   cases ho'
   refine ⟨fun hF => ?_, (hL' hn').2⟩
   rcases (hL' hn').1 with h1 | ⟨h1, h2⟩
   ·have := hc.fb _ hF; omega
   ·rw [h2] at hF; exact (hc.live o' L ho h1).1 hF
  ·rw [hne o' e] at ho'
   exact ⟨(hc.live o' L'' ho' hn').1, Nat.lt_of_lt_of_le (hc.live o' L'' ho' hn').2 hs⟩
 ·intro o1 o2 L1 L2 h1 h2 n1 n2 hn12
  by_cases e1 : o1 = o
  ·have e2 : o2 ≠ o := fun e2 => hn12 (e1.trans e2.symm)
   subst e1
   rw [ext_self] at h1
   cases h1
   rw [hne o2 e2] at h2
   have hl2 := (hc.live o2 L2 h2 n2).2
   rcases (hL' n1).1 with h3 | ⟨h3, h4⟩
   ·omega
   ·rw [h4]; exact hc.inj o1 o2 L L2 ho h2 h3 n2 hn12
  ·rw [hne o1 e1] at h1
   by_cases e2 : o2 = o
   ·subst e2
    rw [ext_self] at h2
    cases h2
    have hl1 := (hc.live o1 L1 h1 n1).2
    rcases (hL' n2).1 with h3 | ⟨h3, h4⟩
    ·omega
    ·rw [h4]; exact hc.inj o1 o2 L1 L h1 ho n1 h3 hn12
   ·rw [hne o2 e2] at h2
    exact hc.inj o1 o2 L1 L2 h1 h2 n1 n2 hn12
 ·intro o' obj ho'
  rw [List.getElem?_set] at ho'
  by_cases e : o = o'
  ·subst e
   simp only [if_true, List.length_map, holt, Option.some.injEq] at ho'
   subst ho'
   rw [ext_self]
   exact hobj'
  ·simp only [e, if_false, List.getElem?_map, Option.map_eq_some_iff] at ho'
   obtain ⟨ob, hob, rfl⟩ := ho'
   rw [hne o' (fun e' => e e'.symm)]
   have hrep := hc.rep o' ob hob
   have hblk : ∀ L'', φ o' = some L'' → L''.nil = false → w'.heap[L''.b]? = w.heap[L''.b]? := fun L'' h1 h2 =>
    hoth _ (hc.live o' L'' h1 h2).2 (fun hn e' => hc.inj o' o L'' L h1 ho h2 hn (fun e'' => e e''.symm) e')
   cases hl : φ o' with
   | none => rw [hl] at hrep; cases ob <;> simp only [ObjR, Obj.kill] at hrep ⊢
   | some L'' =>
    rw [hl] at hrep
    cases ob with
    | vec cs =>
     simp only [ObjR, Obj.kill] at hrep ⊢
     obtain ⟨q1, q2⟩ := hrep
     refine ⟨q1, ?_⟩
     have hl' : (AV.kills o cs).length = cs.length := AV.kills_length _
     rcases q2 with ⟨q2, q3⟩ | ⟨q2, arr, ty', q3, q4, q5, vs, q6, q7⟩
     ·subst q3; exact .inl ⟨q2, rfl⟩
     ·exact .inr ⟨q2, arr, ty', (hblk L'' hl q2).trans q3, q4, by rw [hl']; exact q5, vs, AV.Ra_kill (fun _ h => h) hFs (fun o'' L3 hne' ho'' => by rw [hne o'' hne']; exact ho'') _ _ q6, by rw [hl']; exact q7⟩
    | box cs =>
     simp only [ObjR, Obj.kill] at hrep ⊢
     obtain ⟨q1, q2, arr, ty', q3, q4, q5⟩ := hrep
     exact ⟨q1, q2, arr, ty', (hblk L'' hl q1).trans q3, q4, AV.Ra_kill (fun _ h => h) hFs (fun o'' L3 hne' ho'' => by rw [hne o'' hne']; exact ho'') _ _ q5⟩
    | row ag' xs' =>
     simp only [Obj.kill]
     exact ObjR.same (φ' := ext φ o L') (φ := ext φ o L') hFs (fun _ _ h => h) (fun L3 h3 hn3 => by cases h3; exact hblk L'' hl hn3) (by simp only [ObjR] at hrep ⊢; exact hrep)
    | map m =>
     simp only [Obj.kill]
     exact ObjR.same (φ' := ext φ o L') (φ := ext φ o L') hFs (fun _ _ h => h) (fun L3 h3 hn3 => by cases h3; exact hblk L'' hl hn3) (by simp only [ObjR] at hrep ⊢; exact hrep)
    | dead => simp only [ObjR, Obj.kill]
 ·intro o' ho'
  simp only [List.length_set, List.length_map] at ho'
  rw [hne o' (by omega)]
  exact hc.out o' ho'
 ·exact hc.glob.mono (fun _ h => h) hFs

theorem grown_row (hc : Conc F φ own w) {e : TypeId} {τe : Ty} {z : Value} {cap len : Nat} {xs ys : List D} {csx csy : List Value} (hes : es τe.want = τe.size) (hzs : z.cells.size = τe.size) (hpx : Packed F w τe.want xs csx) (hpy : Packed F w τe.want ys csy)
  (hxl : xs.length = len) (hb : len + ys.length ≤ 140737488355328) {need : Nat} (hneed : need = len + ys.length) {w' : World} {cells : Array Value}
  (hcells : cells = csx.toArray ++ csy.toArray ++ Builtin.zeroCells z.cells (grownCap w need cap e - need)) (hw' : w' = w.drew.alloc (.cells cells e)) :
  (∀ φ' : Nat → Option Loc, ObjR F φ' w' (some ⟨false, w.heap.size, 0, cells.size, τe.size⟩) (.row τe.want (xs ++ ys))) ∧
  (∀ (φ' : Nat → Option Loc) (o : Nat), φ' o = some ⟨false, w.heap.size, 0, cells.size, τe.size⟩ → AV.R F φ' w' (.sl o 0 need) (.slice (some ⟨w.heap.size, 0, none⟩) need (grownCap w need cap e))) ∧
  w'.heap.size = w.heap.size + 1 ∧ (∀ b, b < w.heap.size → w'.heap[b]? = w.heap[b]?) := by
 subst hneed
 have hge := grownCap_ge w (len + ys.length) cap e
 have hcm := grownCap_le_maxLen w (len + ys.length) cap e (by simp only [maxLen]; omega)
 have hsize : cells.size = grownCap w (len + ys.length) cap e * τe.size := by
  rw [hcells]
  simp only [Array.size_append, List.size_toArray, hpx.1, hpy.1, size_zeroCells, hzs, hes, hxl, ← Nat.add_mul]
  congr 1; omega
 have hnew : w'.heap[w.heap.size]? = some (.cells cells e) := by rw [hw']; exact heap_alloc_new w.drew (.cells cells e)
 have hold : ∀ b, b < w.heap.size → w'.heap[b]? = w.heap[b]? := fun b hb => by rw [hw']; exact heap_alloc_old w.drew _ b hb
 have hpk := hpx.append hpy
 refine ⟨fun φ' => ?_, fun φ' o ho => ?_, by rw [hw', World.size_alloc]; rfl, hold⟩
 ·simp only [ObjR]
  refine ⟨hes.symm, .inr ⟨by first | rfl | trivial, ⟨cells, e, hnew, rfl⟩, ?_, ?_⟩⟩
  ·rw [hsize, Nat.zero_add, List.length_append, hxl]; exact Nat.mul_le_mul_right _ hge
  ·refine Cr_of_packed (hc.sameF hold) hpk (fun p hp => ?_)
   have e1 : w'.cell? ⟨w.heap.size, 0 + p, none⟩ = cells[0 + p]? := by simp [World.cell?, hnew]
   have hp' : p < (csx.toArray ++ csy.toArray).size := by
    simp only [Array.size_append, List.size_toArray, hpx.1, hpy.1, ← Nat.add_mul]; rw [List.length_append] at hp; exact hp
   rw [e1, Nat.zero_add, hcells, Array.getElem?_append_left hp', List.append_toArray, List.getElem?_toArray]
 ·simp only [AV.R]
  refine ⟨_, ho, .inr ⟨by first | rfl | trivial, 0, _, rfl, hge, hcm, .inr (by simp), ?_⟩⟩
  simp only [Nat.zero_add]
  rw [hsize]
  exact Nat.le_refl _

theorem appendRw_sound (hc : Conc F φ own w) {t ty : TypeId} {x y : AV} {cx cy : Value} {K : AV → List Obj → List Nat → Prop} (hx : AV.R F φ w x cx) (hy : AV.R F φ w y cy) (h : appendRw P (tyOf P t) own x y K) :
  Does P F φ w (Builtin.append_ #[t, t] ty #[cx, cy]) K := by
 unfold appendRw at h
 split at h
 ·rename_i τ hτ
  split at h
  ·rename_i e hd
   split at h
   ·rename_i τe tag ys hτe hel
    obtain ⟨htag, hes, hpos, ⟨z, hz, hzs⟩, h⟩ := h
    obtain ⟨ay, capy, csy, rfl, hmy, hpy, hfy⟩ := elems_cells (P := P) hc hy hel htag
    obtain ⟨ay', capy', csy', hcy', _, hpy', hfy'⟩ := elems_cells (P := P) hc.drew (R_drew hy) hel htag
    have hfy1 := hfy ys.length (Nat.le_refl _)
    have hfy2 := hfy' ys.length (Nat.le_refl _)
    rw [List.take_of_length_le (by rw [hpy.1]; exact Nat.le_refl _), hes] at hfy1
    rw [List.take_of_length_le (by rw [hpy'.1]; exact Nat.le_refl _), hes] at hfy2
    have hpyd := hpy'.drew
    split at h
    ·
     rename_i o off len
     split at h
     ·rename_i ag xs hobj
      obtain ⟨rfl, hle, hb1, hb2, hK⟩ := h
      have hxel : (AV.sl o off len).elems own = some (some τe.want, (xs.drop off).take len) := by simp only [AV.elems, hobj, hle, if_true]
      have hlen : ((xs.drop off).take len).length = len := by simp; omega
      obtain ⟨ax, capx, csx, rfl, hmx, hpx, hfx⟩ := elems_cells (P := P) hc.drew (R_drew hx) hxel (.inl rfl)
      rw [hlen] at hx hfx hmx ⊢
      have hfx1 := hfx len (Nat.le_refl _)
      rw [List.take_of_length_le (by rw [hpx.1, hlen]; exact Nat.le_refl _), hes] at hfx1
      simp only [AV.R] at hx
      obtain ⟨L, ho, hx⟩ := hx
      have hr := getObj_rep hc ho
      rw [hobj] at hr
      simp only [ObjR] at hr
      obtain ⟨hsz, hr⟩ := hr
      by_cases hroom : len + ys.length ≤ capx
      ·rcases hx with ⟨hn, rfl, rfl, hxe⟩ | ⟨hn, c, cap, hxe, h1, h2, h3, h4⟩
       ·
        simp only [Value.slice.injEq] at hxe
        obtain ⟨rfl, _, rfl⟩ := hxe
        have hys : ys = [] := List.eq_nil_of_length_eq_zero (by omega)
        subst hys
        have hu := run_und (P := P) w hτ
        rw [hd] at hu
        refine ⟨_, .slice none 0 0, _, [o], F, _, w, ?_, afterMove hc (L' := L) ho rfl rfl rfl (Nat.le_refl _) (fun _ _ _ => rfl) (fun hn' => by rw [hn] at hn'; cases hn') (by simp only [ObjR]; exact ⟨hsz, .inl ⟨hn, by simp⟩⟩), ?_, hK⟩
        ·simp only [List.length_nil] at hfy1 ⊢
         simp only [List.length_nil, Builtin.append_, List.getElem?_toArray, List.getElem?_cons_zero, List.getElem?_cons_succ, Sem.run_bind, hu, Result.andThen_ok, run_size w hτe, Sem.run_pure, Bool.false_eq_true, if_false, Builtin.lenOf, Nat.add_zero, Nat.le_refl, if_true, Bool.not_false, hfy1]
        ·simp only [AV.R]
         exact ⟨L, ext_self _ _ _, .inl ⟨hn, by simp⟩⟩
       ·simp only [Value.slice.injEq] at hxe
        obtain ⟨rfl, _, rfl⟩ := hxe
        rcases hr with ⟨hnil, _⟩ | ⟨_, ⟨arr, tyb, hh, hsize⟩, hfit, hrow⟩
        ·rw [hn] at hnil; cases hnil
        rw [hes] at hsz
        by_cases h0 : capx = 0
        ·
         have hl0 : len = 0 := by omega
         have hys : ys = [] := List.eq_nil_of_length_eq_zero (by omega)
         subst hys
         subst hl0
         subst h0
         have hu := run_und (P := P) w hτ
         rw [hd] at hu
         refine ⟨_, .slice (some ⟨L.b, c, none⟩) 0 0, _, [o], F, _, w, ?_, afterMove hc (L' := L) ho rfl rfl rfl (Nat.le_refl _) (fun _ _ _ => rfl) (fun _ => ⟨.inr ⟨hn, rfl⟩, (hc.live o L ho hn).2⟩)
          (by simp only [ObjR]; exact ⟨by rw [hsz, hes], .inr ⟨hn, ⟨arr, tyb, hh, hsize⟩, by simp; omega, by simp [D.Cr]⟩⟩), ?_, hK⟩
         ·simp only [List.length_nil] at hfy1 ⊢
          have hst : (storeCells ((⟨L.b, c, none⟩ : Addr).add (0 * τe.size)) []).run P w = .ok () w := rfl
          have hcsy : csy = [] := List.eq_nil_of_length_eq_zero (by rw [hpy.1]; simp)
          rw [hcsy] at hfy1
          simp only [List.length_nil, Builtin.append_, List.getElem?_toArray, List.getElem?_cons_zero, List.getElem?_cons_succ, Sem.run_bind, hu, Result.andThen_ok, run_size w hτe, Sem.run_pure, Bool.false_eq_true, if_false, Builtin.lenOf, Nat.add_zero, Nat.le_refl, if_true, Bool.not_false, hfy1, List.toList_toArray, hst]
         ·simp only [AV.R]
          exact ⟨L, ext_self _ _ _, .inr ⟨hn, c, 0, rfl, Nat.le_refl _, Nat.zero_le _, .inl rfl, by simp; omega⟩⟩
        ·have hcc := h3.resolve_left h0
         have hfit2 : c + (len + ys.length) * τe.size ≤ arr.size := by
          rw [hsize]
          rw [hsz] at h4 hcc
          have := Nat.mul_le_mul_right τe.size hroom
          rw [Nat.add_mul] at h4
          omega
         have hnl : csy.toArray.size = ys.length * τe.size := by rw [List.size_toArray, hpy.1, hes]
         have hrun := run_append_inplace (P := P) (ty := ty) hτ hd hτe (c := c) (len := len) (cap := capx) hh hroom hfit2 hnl (by simpa using hpy.2.1) hfy1
         let L' : Loc := ⟨false, L.b, c, L.n, L.sz⟩
         refine ⟨_, _, _, [o], F, ext φ o L', _, hrun, afterMove hc (L' := L') ho rfl rfl rfl (by simp) (fun b _ hb => setRow_other w L.b b _ (hb hn)) (fun _ => ⟨.inr ⟨hn, rfl⟩, by simpa [L'] using (hc.live o L ho hn).2⟩) ?_, ?_, hK⟩
         ·have hh' := setRow_heap w L.b arr (arr.toList.take (c + len * τe.size) ++ csy.toArray.toList ++ arr.toList.drop (c + len * τe.size + ys.length * τe.size)).toArray tyb _ hh
          have hfit3 : (c + len * τe.size) + csy.toArray.toList.length ≤ arr.size := by
           rw [Array.length_toList, hnl, Nat.add_assoc, ← Nat.add_mul]; exact hfit2
          have hl := laid_in (arr := arr) (cs := csy.toArray.toList) (off := c + len * τe.size) hfit3
          rw [Array.length_toList, hnl] at hl
          simp only [ObjR]
          refine ⟨by simp [L', hsz, hes], .inr ⟨rfl, ⟨_, tyb, hh', ?_⟩, ?_, ?_⟩⟩
          ·simp only [L', List.size_toArray, List.length_append, List.length_take, List.length_drop, Array.length_toList]
           have hcl : csy.length = ys.length * τe.size := by rw [hpy.1, hes]
           rw [Array.length_toList, hnl] at hfit3
           simp only [List.toList_toArray] at *
           omega
          ·simp only [L', List.length_append, hlen, hsz]
           rw [← hsize]; exact hfit2
          ·
           obtain ⟨_, _, csx2, hx2, _, hpx2, _⟩ := elems_cells (P := P) (x := .sl o off len) hc (c := .slice (some ⟨L.b, c, none⟩) len capx) (by simp only [AV.R]; exact ⟨L, ho, .inr ⟨hn, c, capx, rfl, h1, h2, h3, h4⟩⟩) hxel (.inl rfl)
           have hrowx : D.Cr F w τe.want L.b c ((xs.drop off).take len) := by
            have := D.Cr_drop (F := F) (w := w) off len hrow
            rw [hes] at this
            rw [hcc, hsz]; exact this
           obtain ⟨cs1, q1, q2, q3, q4⟩ := rowCells hrowx
           have hp1 : Packed F w τe.want ((xs.drop off).take len) cs1 := ⟨q1, q3, q4⟩
           refine Cr_of_packed (hc.sameOf ho hn (fun b hb => setRow_other w L.b b _ hb)) (hp1.append hpy) (fun p hp => ?_)
           have e1 : (w.setRow L.b (arr.toList.take (c + len * τe.size) ++ csy.toArray.toList ++ arr.toList.drop (c + len * τe.size + ys.length * τe.size)).toArray).cell? ⟨L.b, c + p, none⟩ = (arr.toList.take (c + len * τe.size) ++ csy.toArray.toList ++ arr.toList.drop (c + len * τe.size + ys.length * τe.size)).toArray[c + p]? := by
            simp only [World.cell?, hh']; simp
           simp only [L']
           rw [e1, hl]
           rw [List.length_append, hlen, hes, Nat.add_mul] at hp
           rw [hlen, hes] at q1
           by_cases hp1' : p < len * τe.size
           ·rw [if_neg (by omega), List.getElem?_append_left (by omega)]
            have hg : cs1[p]? = some cs1[p] := List.getElem?_eq_getElem (by omega)
            have := q2 p _ hg
            rw [hg, ← this]
            simp [World.cell?, hh]
           ·rw [if_pos ⟨by omega, by omega⟩, List.getElem?_append_right (by omega), q1]
            simp only [List.toList_toArray]
            congr 1; omega
         ·simp only [AV.R]
          refine ⟨L', ext_self _ _ _, .inr ⟨rfl, c, capx, rfl, hroom, h2, .inr (by simp [L']), ?_⟩⟩
          simp only [L', Nat.zero_add]
          rw [hcc]
          rw [Nat.add_mul] at h4
          omega
      ·
       have hrun := run_append_growing (P := P) (ty := ty) hτ hd hτe hz (ax := ax) (ay := ay) (cy := capy) (by omega) hb1 hb2 hfx1 hfy2
       obtain ⟨r1, r2, r3, r4⟩ := grown_row (e := e) (cap := capx) hc hes hzs hpx.drew hpyd hlen hb1 (need := len + ys.length) rfl rfl rfl
       refine ⟨_, _, _, [o], F, ext φ o _, _, hrun, afterMove hc ho rfl rfl rfl (by omega) (fun b hb _ => r4 b hb) (fun _ => ⟨.inl (Nat.le_refl _), by simp only; omega⟩) (r1 _), r2 _ o (ext_self _ _ _), hK⟩
     ·exact h.elim
    ·
     obtain ⟨hb1, hb2, hK⟩ := h
     have hxe := R_nils.1 hx
     subst hxe
     by_cases hys : ys = []
     ·subst hys
      have hu := run_und (P := P) w hτ
      rw [hd] at hu
      let L : Loc := ⟨true, 0, 0, 0, τe.size⟩
      refine ⟨_, .slice none 0 0, _, [], F, ext φ own.length L, w, ?_, After.new hc rfl rfl rfl (Nat.le_refl _) (fun _ _ => rfl) (fun hn' => by cases hn') (by simp only [ObjR]; exact ⟨by simp [L, hes], .inl ⟨rfl, by trivial⟩⟩), ?_, hK⟩
      ·simp only [List.length_nil] at hfy1 ⊢
       simp only [List.length_nil, Builtin.append_, List.getElem?_toArray, List.getElem?_cons_zero, List.getElem?_cons_succ, Sem.run_bind, hu, Result.andThen_ok, run_size w hτe, Sem.run_pure, Bool.false_eq_true, if_false, Builtin.lenOf, Nat.add_zero, Nat.le_refl, if_true, Bool.not_false, hfy1]
      ·simp only [AV.R]
       exact ⟨L, ext_self _ _ _, .inl ⟨rfl, by simp⟩⟩
     ·have hpos' : 0 < ys.length := List.length_pos_iff.2 hys
      have hf0 : (Builtin.firstCells τe.size 0 (.slice none 0 0)).run P w.drew = .ok ([] : List Value).toArray w.drew := by simp [Builtin.firstCells]
      have hrun := run_append_growing (P := P) (w := w) (ty := ty) hτ hd hτe hz (ax := none) (len := 0) (cap := 0) (ay := ay) (cy := capy) (by omega) (by omega) (by simpa using hb2) hf0 hfy2
      obtain ⟨r1, r2, r3, r4⟩ := grown_row (e := e) (cap := 0) (len := 0) hc hes hzs (Packed.nil (F := F) (w := w) (ag := τe.want)) hpyd rfl (by omega) (need := 0 + ys.length) rfl rfl rfl
      simp only [List.nil_append] at r1
      rw [Nat.zero_add] at hrun r1 r2 r3 r4
      refine ⟨_, _, _, [], F, ext φ own.length _, _, hrun, After.new hc rfl rfl rfl (by omega) r4 (fun _ => ⟨Nat.le_refl _, by simp only; omega⟩) (r1 _), r2 _ own.length (ext_self _ _ _), hK⟩
    ·exact h.elim
   ·exact h.elim
  ·exact h.elim
 ·exact h.elim

def AV.vcells (own : List Obj) : AV → Option (List AV)
 | .sl o off len => (match own.getD o .dead with | .vec cs => if off + len ≤ cs.length then some ((cs.drop off).take len) else none | _ => none)
 | _ => none

def appendVw (P : Program) (τ : Option Ty) (own : List Obj) (o off len : Nat) (cs : List AV) (y : AV) (K : AV → List Obj → List Nat → Prop) : Prop :=
 match τ with
 | some τ => (match τ.desc with
  | .slice e => (match tyOf P e, y.vcells own with
   | some τe, some ys =>
    τe.size = 1 ∧ (∃ z, τe.zero = some z ∧ z.cells.size = τe.size) ∧ off + len ≤ cs.length ∧ len + ys.length ≤ 140737488355328 ∧ (len + ys.length) * τe.bytes ≤ 140737488355328 ∧
     K (.sl o 0 (len + ys.length)) ((own.map (Obj.kill o)).set o (.vec (AV.kills o ((cs.drop off).take len ++ ys)))) [o]
   | _, _ => False)
  | _ => False)
 | none => False

def appendNw (P : Program) (τ : Option Ty) (own : List Obj) (ys : List AV) (K : AV → List Obj → List Nat → Prop) : Prop :=
 match τ with
 | some τ => (match τ.desc with
  | .slice e => (match tyOf P e with
   | some τe =>
    τe.size = 1 ∧ (∃ z, τe.zero = some z ∧ z.cells.size = τe.size) ∧ ys.length ≤ 140737488355328 ∧ ys.length * τe.bytes ≤ 140737488355328 ∧ 0 < ys.length ∧
     K (.sl own.length 0 ys.length) (own ++ [.vec ys]) []
   | none => False)
  | _ => False)
 | none => False

def appendw (P : Program) (τ : Option Ty) (own : List Obj) (x y : AV) (K : AV → List Obj → List Nat → Prop) : Prop :=
 match x with
 | .sl o off len => (match own.getD o .dead with
  | .vec cs => appendVw P τ own o off len cs y K
  | _ => appendRw P τ own x y K)
 | .nils => (match y.vcells own with
  | some ys => appendNw P τ own ys K
  | none => appendRw P τ own x y K)
 | _ => appendRw P τ own x y K

theorem AV.Ra_app : ∀ {as bs : List AV} {vs us : List Value}, AV.Ra F φ w as vs → AV.Ra F φ w bs us → AV.Ra F φ w (as ++ bs) (vs ++ us)
 | [], bs, vs, us, h, k => by simp only [AV.Ra] at h; subst h; simpa using k
 | a :: as, bs, vs, us, h, k => by
  simp only [AV.Ra] at h
  obtain ⟨v, vs', rfl, h0, h2, h3⟩ := h
  simp only [List.cons_append, AV.Ra]
  exact ⟨v, _, rfl, h0, h2, AV.Ra_app h3 k⟩

theorem vcells_cells (hc : Conc F φ own w) {x : AV} {c : Value} {ys : List AV} (hx : AV.R F φ w x c) (he : x.vcells own = some ys) :
  ∃ a cap vs, c = .slice a ys.length cap ∧ ys.length ≤ cap ∧ cap ≤ maxLen ∧ AV.Ra F φ w ys vs ∧ ∀ n, n ≤ ys.length → (Builtin.firstCells 1 n c).run P w = .ok (vs.take n).toArray w := by
 unfold AV.vcells at he
 split at he
 ·rename_i o off len
  split at he
  ·rename_i cs hobj
   split at he
   ·rename_i hle
    cases he
    simp only [AV.R] at hx
    obtain ⟨L, ho, hx⟩ := hx
    have hr := getObj_rep hc ho
    rw [hobj] at hr
    simp only [ObjR] at hr
    obtain ⟨hsz, hr⟩ := hr
    have hlen : ((cs.drop off).take len).length = len := by simp; omega
    rcases hx with ⟨hn, rfl, rfl, rfl⟩ | ⟨hn, c0, cap, rfl, h1, h2, h3, h4⟩
    ·refine ⟨none, 0, [], by simp, by simp, by simp, by simp [AV.Ra], fun n hn' => ?_⟩
     have : n = 0 := by simpa using hn'
     subst this
     simp [Builtin.firstCells]
    ·rcases hr with ⟨hnil, _⟩ | ⟨_, arr, ty, hh, hsize, hfit, vs, hvs, hcells⟩
     ·rw [hn] at hnil; cases hnil
     rw [hsz] at h3
     have hvl := AV.Ra_length hvs
     refine ⟨some ⟨L.b, c0, none⟩, cap, (vs.drop off).take len, by rw [hlen], by rw [hlen]; exact h1, h2, AV.Ra_take len (AV.Ra_drop off hvs), fun n hn' => ?_⟩
     rw [hlen] at hn'
     have := run_first (P := P) (w := w) 1 n ⟨L.b, c0, none⟩ len cap ((vs.drop off).take len) (by simp; omega) (fun j v hj => ?_)
     ·simpa using this
     ·rw [List.getElem?_take] at hj
      split at hj
      ·rename_i hjl
       rw [List.getElem?_drop] at hj
       have hc0 : c0 = L.base + off * 1 := by
        rcases h3 with h3 | h3
        ·omega
        ·exact h3
       have hadd : (⟨L.b, c0, none⟩ : Addr).add j = ⟨L.b, c0 + j, none⟩ := by unfold Addr.add; split <;> simp_all
       rw [hadd]
       simp only [World.cell?, hh]
       rw [← hj, ← hcells (off + j) (by omega), hc0]
       simp [Nat.add_assoc]
      ·cases hj
   ·cases he
  ·cases he
 ·cases he

theorem appendVw_sound (hc : Conc F φ own w) {t ty : TypeId} {o off len : Nat} {cs : List AV} {y : AV} {cx cy : Value} {K : AV → List Obj → List Nat → Prop} (hobj : own.getD o .dead = .vec cs) (hx : AV.R F φ w (.sl o off len) cx) (hy : AV.R F φ w y cy)
  (h : appendVw P (tyOf P t) own o off len cs y K) : Does P F φ w (Builtin.append_ #[t, t] ty #[cx, cy]) K := by
 unfold appendVw at h
 split at h
 ·rename_i τ hτ
  split at h
  ·rename_i e hd
   split at h
   ·rename_i τe ys hτe hys
    obtain ⟨hs1, ⟨z, hz, hzs⟩, hle, hb1, hb2, hK⟩ := h
    rw [hs1] at hzs
    obtain ⟨ay, capy, vy, rfl, hyc, hyc2, hvy, hfy⟩ := vcells_cells (P := P) hc hy hys
    obtain ⟨ay', capy', vy', hcy', _, _, hvy', hfy'⟩ := vcells_cells (P := P) hc.drew (R_drew hy) hys
    have hxv : (AV.sl o off len).vcells own = some ((cs.drop off).take len) := by simp only [AV.vcells, hobj, hle, if_true]
    have hlen : ((cs.drop off).take len).length = len := by simp; omega
    obtain ⟨ax', capx', vx', hcx', _, _, hvx', hfx'⟩ := vcells_cells (P := P) hc.drew (R_drew hx) hxv
    have hvyl := AV.Ra_length hvy
    have hvyl' := AV.Ra_length hvy'
    have hvxl' := AV.Ra_length hvx'
    rw [hlen] at hvxl' hcx' hfx'
    have hfy1 := hfy ys.length (Nat.le_refl _)
    have hfy2 := hfy' ys.length (Nat.le_refl _)
    have hfx1 := hfx' len (Nat.le_refl _)
    rw [List.take_of_length_le (by omega)] at hfy1 hfy2 hfx1
    simp only [AV.R] at hx
    obtain ⟨L, ho, hx⟩ := hx
    have hr := getObj_rep hc ho
    rw [hobj] at hr
    simp only [ObjR] at hr
    obtain ⟨hsz, hr⟩ := hr
    have hlenall : ((cs.drop off).take len ++ ys).length = len + ys.length := by rw [List.length_append, hlen]
    have hkl : (AV.kills o ((cs.drop off).take len ++ ys)).length = len + ys.length := by rw [AV.kills_length, hlenall]
    rw [hcx'] at hx ⊢
    by_cases hroom : len + ys.length ≤ capx'
    ·rcases hx with ⟨hn, rfl, rfl, hxe⟩ | ⟨hn, c, cap, hxe, h1, h2, h3, h4⟩
     ·simp only [Value.slice.injEq] at hxe
      obtain ⟨rfl, _, rfl⟩ := hxe
      have hye : ys = [] := List.eq_nil_of_length_eq_zero (by omega)
      subst hye
      have hu := run_und (P := P) w hτ
      rw [hd] at hu
      refine ⟨_, .slice none 0 0, _, [o], F, _, w, ?_, afterMove hc (L' := L) ho rfl rfl rfl (Nat.le_refl _) (fun _ _ _ => rfl) (fun hn' => by rw [hn] at hn'; cases hn') (by simp only [ObjR]; exact ⟨hsz, .inl ⟨hn, by simp [AV.kills]⟩⟩), ?_, hK⟩
      ·simp only [List.length_nil] at hfy1 ⊢
       simp only [List.length_nil, Builtin.append_, List.getElem?_toArray, List.getElem?_cons_zero, List.getElem?_cons_succ, Sem.run_bind, hu, Result.andThen_ok, run_size w hτe, hs1, Sem.run_pure, Bool.false_eq_true, if_false, Builtin.lenOf, Nat.add_zero, Nat.le_refl, if_true, Bool.not_false, hfy1]
      ·simp only [AV.R]
       exact ⟨L, ext_self _ _ _, .inl ⟨hn, by simp⟩⟩
     ·simp only [Value.slice.injEq] at hxe
      obtain ⟨rfl, _, rfl⟩ := hxe
      rcases hr with ⟨hnil, _⟩ | ⟨_, arr, tyb, hh, hsize, hfit, vs, hvs, hcells⟩
      ·rw [hn] at hnil; cases hnil
      have hvl := AV.Ra_length hvs
      rw [hsz] at h3 h4
      simp only [Nat.mul_one] at h3 h4
      by_cases h0 : capx' = 0
      ·have hl0 : len = 0 := by omega
       have hye : ys = [] := List.eq_nil_of_length_eq_zero (by omega)
       subst hye
       subst hl0
       subst h0
       have hu := run_und (P := P) w hτ
       rw [hd] at hu
       refine ⟨_, .slice (some ⟨L.b, c, none⟩) 0 0, _, [o], F, _, w, ?_, afterMove hc (L' := L) ho rfl rfl rfl (Nat.le_refl _) (fun _ _ _ => rfl) (fun _ => ⟨.inr ⟨hn, rfl⟩, (hc.live o L ho hn).2⟩)
        (by simp only [ObjR]; exact ⟨hsz, .inr ⟨hn, arr, tyb, hh, hsize, by simp [AV.kills]; omega, [], by simp [AV.kills, AV.Ra], by simp [AV.kills]⟩⟩), ?_, hK⟩
       ·simp only [List.length_nil] at hfy1 ⊢
        have hst : (storeCells ((⟨L.b, c, none⟩ : Addr).add (0 * τe.size)) []).run P w = .ok () w := rfl
        rw [hs1] at hst
        have hvy0 : vy = [] := List.eq_nil_of_length_eq_zero (by simpa using hvyl)
        rw [hvy0] at hfy1
        simp only [List.length_nil, Builtin.append_, List.getElem?_toArray, List.getElem?_cons_zero, List.getElem?_cons_succ, Sem.run_bind, hu, Result.andThen_ok, run_size w hτe, hs1, Sem.run_pure, Bool.false_eq_true, if_false, Builtin.lenOf, Nat.add_zero, Nat.le_refl, if_true, Bool.not_true, Bool.not_false, hfy1, hst, Nat.zero_le]
       ·simp only [AV.R]
        exact ⟨L, ext_self _ _ _, .inr ⟨hn, c, 0, rfl, Nat.le_refl _, Nat.zero_le _, .inl rfl, by simp; omega⟩⟩
      ·have hcc := h3.resolve_left h0
       have hfit2 : c + (len + ys.length) * τe.size ≤ arr.size := by rw [hs1, hsize]; omega
       have hnl : vy.toArray.size = ys.length * τe.size := by rw [List.size_toArray, hvyl, hs1, Nat.mul_one]
       have hfy1' : (Builtin.firstCells τe.size ys.length (.slice ay ys.length capy)).run P w = .ok vy.toArray w := by rw [hs1]; exact hfy1
       have hrun := run_append_inplace (P := P) (ty := ty) hτ hd hτe (c := c) (len := len) (cap := capx') hh hroom hfit2 hnl (by simpa using (AV.Ra_iff.1 hvy).2) hfy1'
       rw [hs1] at hrun
       simp only [Nat.mul_one] at hrun
       let L' : Loc := ⟨false, L.b, c, L.n, L.sz⟩
       have hbl : c + len + vy.length ≤ arr.size := by rw [hsize, hvyl]; omega
       have hh' := setRow_heap w L.b arr (arr.toList.take (c + len) ++ vy.toArray.toList ++ arr.toList.drop (c + len + ys.length)).toArray tyb _ hh
       have hother : ∀ b, b ≠ L.b → (w.setRow L.b (arr.toList.take (c + len) ++ vy.toArray.toList ++ arr.toList.drop (c + len + ys.length)).toArray).heap[b]? = w.heap[b]? := fun b hb => setRow_other w L.b b _ hb
       have hSame := hc.sameOf ho hn hother
       refine ⟨_, _, _, [o], F, ext φ o L', _, hrun, afterMove hc (L' := L') ho rfl rfl rfl (by simp) (fun b _ hb => setRow_other w L.b b _ (hb hn)) (fun _ => ⟨.inr ⟨hn, rfl⟩, by simpa [L'] using (hc.live o L ho hn).2⟩) ?_, ?_, hK⟩
       ·have hl := laid_in (arr := arr) (cs := vy) (off := c + len) (by omega)
        rw [hvyl] at hl
        simp only [ObjR]
        refine ⟨hsz, .inr ⟨rfl, _, tyb, hh', ?_, ?_, (vs.drop off).take len ++ vy, ?_, ?_⟩⟩
        ·simp only [L', List.size_toArray, List.length_append, List.length_take, List.length_drop, Array.length_toList, List.toList_toArray]
         omega
        ·simp only [L', hkl]; omega
        ·refine AV.Ra_kill (fun _ h => h) hSame (fun o' L3 hne ho' => by unfold ext; rw [if_neg hne]; exact ho') _ _ (AV.Ra_app (AV.Ra_take len (AV.Ra_drop off hvs)) hvy)
        ·intro j hj
         rw [hkl] at hj
         simp only [L', List.toList_toArray]
         rw [hl]
         have hvt : ((vs.drop off).take len).length = len := by simp; omega
         by_cases hjl : j < len
         ·rw [if_neg (by omega), List.getElem?_append_left (by omega), List.getElem?_take, if_pos hjl, List.getElem?_drop, ← hcells (off + j) (by omega), hcc, Nat.add_assoc]
         ·rw [if_pos ⟨by omega, by omega⟩, List.getElem?_append_right (by omega), hvt]
          congr 1; omega
       ·simp only [AV.R]
        refine ⟨L', ext_self _ _ _, .inr ⟨rfl, c, capx', rfl, hroom, h2, .inr (by simp [L']), ?_⟩⟩
        simp only [L', Nat.zero_add, hsz, Nat.mul_one]
        omega
    ·have hfx1' : (Builtin.firstCells τe.size len (.slice ax' len capx')).run P w.drew = .ok vx'.toArray w.drew := by rw [hs1, ← hcx']; exact hfx1
     have hfy2' : (Builtin.firstCells τe.size ys.length (.slice ay ys.length capy)).run P w.drew = .ok vy'.toArray w.drew := by rw [hs1]; exact hfy2
     have hrun := run_append_growing (P := P) (ty := ty) hτ hd hτe hz (ax := ax') (ay := ay) (cy := capy) (by omega) hb1 hb2 hfx1' hfy2'
     have hge := grownCap_ge w (len + ys.length) capx' e
     have hcm := grownCap_le_maxLen w (len + ys.length) capx' e (by simp only [maxLen]; omega)
     have hsize : (vx'.toArray ++ vy'.toArray ++ Builtin.zeroCells z.cells (grownCap w (len + ys.length) capx' e - (len + ys.length))).size = grownCap w (len + ys.length) capx' e := by
      simp only [Array.size_append, List.size_toArray, size_zeroCells, hzs, hvxl', hvyl', Nat.mul_one]
      omega
     have hnew : (w.drew.alloc (.cells (vx'.toArray ++ vy'.toArray ++ Builtin.zeroCells z.cells (grownCap w (len + ys.length) capx' e - (len + ys.length))) e)).heap[w.heap.size]? = some (.cells _ e) := heap_alloc_new w.drew _
     have hold : ∀ b, b < w.heap.size → (w.drew.alloc (.cells (vx'.toArray ++ vy'.toArray ++ Builtin.zeroCells z.cells (grownCap w (len + ys.length) capx' e - (len + ys.length))) e)).heap[b]? = w.heap[b]? := fun b hb => heap_alloc_old w.drew _ b hb
     have hszn : (w.drew.alloc (.cells (vx'.toArray ++ vy'.toArray ++ Builtin.zeroCells z.cells (grownCap w (len + ys.length) capx' e - (len + ys.length))) e)).heap.size = w.heap.size + 1 := by rw [World.size_alloc]; rfl
     let L' : Loc := ⟨false, w.heap.size, 0, grownCap w (len + ys.length) capx' e, 1⟩
     refine ⟨_, _, _, [o], F, ext φ o L', _, hrun, afterMove hc (L' := L') ho rfl rfl rfl (by omega) (fun b hb _ => hold b hb) (fun _ => ⟨.inl (Nat.le_refl _), by simp only [L']; omega⟩) ?_, ?_, hK⟩
     ·simp only [ObjR]
      refine ⟨rfl, .inr ⟨rfl, _, e, hnew, hsize, ?_, vx' ++ vy', ?_, ?_⟩⟩
      ·simp only [L', hkl]; omega
      ·refine AV.Ra_kill (F := F) (F' := F) (φ := φ) (w := w) (fun _ h => h) (hc.sameF hold) (fun o' L3 hne ho' => by unfold ext; rw [if_neg hne]; exact ho') _ _ (AV.Ra_mono (fun _ h => h) drew_same (fun _ _ h => h) _ _ (AV.Ra_app hvx' hvy'))
      ·intro j hj
       rw [hkl] at hj
       simp only [L', Nat.zero_add]
       rw [Array.getElem?_append_left (by simp only [Array.size_append, List.size_toArray, hvxl', hvyl']; exact hj), List.append_toArray, List.getElem?_toArray]
     ·simp only [AV.R]
      refine ⟨L', ext_self _ _ _, .inr ⟨rfl, 0, _, rfl, hge, hcm, .inr (by simp [L']), ?_⟩⟩
      simp only [L', Nat.zero_add, Nat.mul_one]
      exact Nat.le_refl _
   ·exact h.elim
  ·exact h.elim
 ·exact h.elim

theorem appendNw_sound (hc : Conc F φ own w) {t ty : TypeId} {ys : List AV} {y : AV} {cy : Value} {K : AV → List Obj → List Nat → Prop} (hy : AV.R F φ w y cy) (hys : y.vcells own = some ys)
  (h : appendNw P (tyOf P t) own ys K) : Does P F φ w (Builtin.append_ #[t, t] ty #[.slice none 0 0, cy]) K := by
 unfold appendNw at h
 split at h
 ·rename_i τ hτ
  split at h
  ·rename_i e hd
   split at h
   ·rename_i τe hτe
    obtain ⟨hs1, ⟨z, hz, hzs⟩, hb1, hb2, hpos, hK⟩ := h
    rw [hs1] at hzs
    obtain ⟨ay, capy, vy, rfl, hyc, hyc2, hvy, hfy⟩ := vcells_cells (P := P) hc hy hys
    obtain ⟨ay', capy', vy', hcy', _, _, hvy', hfy'⟩ := vcells_cells (P := P) hc.drew (R_drew hy) hys
    have hvyl' := AV.Ra_length hvy'
    have hfy2 := hfy' ys.length (Nat.le_refl _)
    rw [List.take_of_length_le (by omega)] at hfy2
    have hf0 : (Builtin.firstCells τe.size 0 (.slice none 0 0)).run P w.drew = .ok ([] : List Value).toArray w.drew := by simp [Builtin.firstCells]
    have hfy2' : (Builtin.firstCells τe.size ys.length (.slice ay ys.length capy)).run P w.drew = .ok vy'.toArray w.drew := by rw [hs1]; exact hfy2
    have hrun := run_append_growing (P := P) (w := w) (ty := ty) hτ hd hτe hz (ax := none) (len := 0) (cap := 0) (ay := ay) (cy := capy) (by omega) (by omega) (by simpa using hb2) hf0 hfy2'
    simp only [Nat.zero_add] at hrun
    have hge := grownCap_ge w ys.length 0 e
    have hcm := grownCap_le_maxLen w ys.length 0 e (by simp only [maxLen]; omega)
    have hsize : (([] : List Value).toArray ++ vy'.toArray ++ Builtin.zeroCells z.cells (grownCap w ys.length 0 e - ys.length)).size = grownCap w ys.length 0 e := by
     simp only [Array.size_append, List.size_toArray, size_zeroCells, hzs, hvyl', Nat.mul_one, List.length_nil]
     omega
    refine newVec_sound hc (cs := ys) (css := ([] : List Value).toArray ++ vy'.toArray ++ Builtin.zeroCells z.cells (grownCap w ys.length 0 e - ys.length)) (len := ys.length) (cap := grownCap w ys.length 0 e) (w0 := w.drew) (e := e) rfl hge hcm hsize
     (AV.Ra_mono (fun _ h => h) drew_same (fun _ _ h => h) _ _ hvy') (fun j hj => ?_) rfl rfl rfl rfl hK hrun
    rw [Array.getElem?_append_left (by simp only [Array.size_append, List.size_toArray, hvyl', List.length_nil]; omega), List.append_toArray, List.getElem?_toArray]
    rfl
   ·exact h.elim
  ·exact h.elim
 ·exact h.elim

theorem appendw_sound (hc : Conc F φ own w) {t ty : TypeId} {x y : AV} {cx cy : Value} {K : AV → List Obj → List Nat → Prop} (hx : AV.R F φ w x cx) (hy : AV.R F φ w y cy) (h : appendw P (tyOf P t) own x y K) :
  Does P F φ w (Builtin.append_ #[t, t] ty #[cx, cy]) K := by
 unfold appendw at h
 split at h
 ·split at h
  ·rename_i hobj; exact appendVw_sound hc hobj hx hy h
  ·exact appendRw_sound hc hx hy h
 ·split at h
  ·rename_i hys
   have := R_nils.1 hx
   subst this
   exact appendNw_sound hc hy hys h
  ·exact appendRw_sound hc hx hy h
 ·exact appendRw_sound hc hx hy h

def copyw (P : Program) (τ : Option Ty) (own : List Obj) (x y : AV) (K : AV → List Obj → List Nat → Prop) : Prop :=
 match τ with
 | some τ => (match τ.desc with
  | .slice e => (match tyOf P e, y.elems own with
   | some τe, some (tag, ys) =>
    (tag = some τe.want ∨ ys = []) ∧ es τe.want = τe.size ∧
    (match x with
    | .sl o off len => (match own.getD o .dead with
     | .row ag xs => ag = τe.want ∧ off + len ≤ xs.length ∧
       K (.dat (.int .i64 (min ys.length len : Nat))) (own.set o (.row ag (xs.take off ++ ys.take len ++ xs.drop (off + min ys.length len)))) []
     | _ => False)
    | _ => False)
   | _, _ => False)
  | _ => False)
 | none => False

theorem copyw_sound (hc : Conc F φ own w) {t sT ty : TypeId} {x y : AV} {cx cy : Value} {K : AV → List Obj → List Nat → Prop} (hx : AV.R F φ w x cx) (hy : AV.R F φ w y cy) (h : copyw P (tyOf P t) own x y K) :
  Does P F φ w (Builtin.copy_ #[t, sT] ty #[cx, cy]) K := by
 unfold copyw at h
 split at h
 ·rename_i τ hτ
  split at h
  ·rename_i e hd
   split at h
   ·rename_i τe tag ys hτe hel
    obtain ⟨htag, hes, h⟩ := h
    obtain ⟨ay, capy, csy, rfl, hmy, hpy, hfy⟩ := elems_cells (P := P) hc hy hel htag
    split at h
    ·rename_i o off len
     split at h
     ·rename_i ag xs hobj
      obtain ⟨rfl, hle, hK⟩ := h
      have hu := run_und (P := P) w hτ
      rw [hd] at hu
      have hf := hfy (min ys.length len) (Nat.min_le_left _ _)
      rw [hes] at hf
      have hnat : Nat.min ys.length len = min ys.length len := rfl
      simp only [AV.R] at hx
      obtain ⟨L, ho, hx⟩ := hx
      have hr := getObj_rep hc ho
      rw [hobj] at hr
      simp only [ObjR] at hr
      obtain ⟨hsz, hr⟩ := hr
      have hmm : min ys.length len ≤ maxLen := Nat.le_trans (Nat.min_le_left _ _) hmy
      rcases hx with ⟨hn, rfl, rfl, rfl⟩ | ⟨hn, c, cap, rfl, h1, h2, h3, h4⟩
      ·
       rcases hr with ⟨_, hxs⟩ | ⟨hn', _⟩
       ·subst hxs
        have e0 : min ys.length 0 = 0 := by omega
        rw [e0] at hf hK
        have hset : own.set o (.row τe.want (([] : List D).take 0 ++ ys.take 0 ++ ([] : List D).drop (0 + 0))) = own := by
         apply List.ext_getElem?
         intro i
         rw [List.getElem?_set]
         split
         ·rename_i e
          subst e
          split
          ·rename_i hlt
           have : own[o]? = some (own.getD o .dead) := by simp [List.getElem?_eq_getElem hlt]
           rw [this, hobj]; simp
          ·rename_i hge
           rw [List.getElem?_eq_none (by omega)]
         ·rfl
        rw [hset] at hK
        refine ⟨_, .int .i64 0, own, [], F, φ, w, ?_, After.refl hc, R_int.2 ⟨rfl, by rw [inR_i64]; omega⟩, hK⟩
        simp only [Builtin.copy_, List.getElem?_toArray, List.getElem?_cons_zero, List.getElem?_cons_succ, Sem.run_bind, hu, Result.andThen_ok, Builtin.lenOf, Sem.run_pure, run_size w hτe, hnat, e0, hf, goInt]
        rfl
       ·rw [hn] at hn'; cases hn'
      ·rcases hr with ⟨hnil, _⟩ | ⟨_, ⟨arr, tyb, hh, hsize⟩, hfit, hrow⟩
       ·rw [hn] at hnil; cases hnil
       rw [hes] at hsz
       have hpk := hpy.take (min ys.length len)
       have hcl : (csy.take (min ys.length len * τe.size)).length = min ys.length len * τe.size := by
        rw [← hes]; have := hpk.1; rw [this]; congr 1; simp
       have hoff : c = L.base + off * L.sz ∨ min ys.length len = 0 := by
        rcases h3 with h3 | h3
        ·right; omega
        ·exact .inl h3
       by_cases hz : min ys.length len = 0
       ·
        rw [hz] at hf hK hcl
        have hset : own.set o (.row τe.want (xs.take off ++ ys.take len ++ xs.drop (off + 0))) = own := by
         have e1 : ys.take len = [] := by
          apply List.eq_nil_of_length_eq_zero
          rw [List.length_take]; omega
         apply List.ext_getElem?
         intro i
         rw [List.getElem?_set]
         split
         ·rename_i e
          subst e
          split
          ·rename_i hlt
           have : own[o]? = some (own.getD o .dead) := by simp [List.getElem?_eq_getElem hlt]
           rw [this, hobj, e1]; simp
          ·rename_i hge
           rw [List.getElem?_eq_none (by omega)]
         ·rfl
        rw [hset] at hK
        have hnil : csy.take (0 * τe.size) = [] := by simp
        rw [hnil] at hf
        have hst : (storeCells ⟨L.b, c, none⟩ []).run P w = .ok () w := rfl
        refine ⟨_, .int .i64 0, own, [], F, φ, w, ?_, After.refl hc, R_int.2 ⟨rfl, by rw [inR_i64]; omega⟩, hK⟩
        simp only [Builtin.copy_, List.getElem?_toArray, List.getElem?_cons_zero, List.getElem?_cons_succ, Sem.run_bind, hu, Result.andThen_ok, Builtin.lenOf, Sem.run_pure, run_size w hτe, hnat, hz, hf, goInt, List.toList_toArray, hst]
        rfl
       ·have hcc := hoff.resolve_right hz
        rw [hsz] at hcc
        have hmul := Nat.mul_le_mul_right τe.size (Nat.min_le_right ys.length len)
        have hfit2 : c + min ys.length len * τe.size ≤ arr.size := by
         rw [hsize]
         rw [hsz] at hfit
         have := Nat.mul_le_mul_right τe.size hle
         rw [Nat.add_mul] at this
         omega
        have hst := run_storeCells_at P L.b c tyb (csy.take (min ys.length len * τe.size)) 0 arr w hh (by rw [hcl]; exact hfit2) (fun u hu => hpk.2.1 u (by rw [hes]; exact hu))
        simp only [Nat.add_zero] at hst
        have hl := laid_in (arr := arr) (cs := csy.take (min ys.length len * τe.size)) (off := c) (by rw [hcl]; exact hfit2)
        have hh' := setRow_heap w L.b arr (arr.toList.take c ++ csy.take (min ys.length len * τe.size) ++ arr.toList.drop (c + (csy.take (min ys.length len * τe.size)).length)).toArray tyb _ hh
        refine ⟨_, .int .i64 (min ys.length len : Nat), _, [], F, φ, w.setRow L.b (arr.toList.take c ++ csy.take (min ys.length len * τe.size) ++ arr.toList.drop (c + (csy.take (min ys.length len * τe.size)).length)).toArray, ?_, After.write hc ho hn rfl rfl rfl (by simp) (fun b hb => setRow_other w L.b b _ hb) ?_, R_int.2 ⟨rfl, inR_len hmm⟩, hK⟩
        ·simp only [Builtin.copy_, List.getElem?_toArray, List.getElem?_cons_zero, List.getElem?_cons_succ, Sem.run_bind, hu, Result.andThen_ok, Builtin.lenOf, Sem.run_pure, run_size w hτe, hnat, hf, goInt, List.toList_toArray, hst, hcl]
        ·simp only [ObjR]
         have hxl : (xs.take off ++ ys.take len ++ xs.drop (off + min ys.length len)).length = xs.length := by
          simp only [List.length_append, List.length_take, List.length_drop]; omega
         refine ⟨by rw [hsz, hes], .inr ⟨hn, ⟨_, tyb, hh', ?_⟩, by rw [hxl]; exact hfit, ?_⟩⟩
         ·simp only [List.size_toArray, List.length_append, List.length_drop, hcl, Array.length_toList]
          rw [List.length_take, Array.length_toList]
          omega
         ·have hsame := hc.sameOf ho hn (fun b hb => setRow_other w L.b b (arr.toList.take c ++ csy.take (min ys.length len * τe.size) ++ arr.toList.drop (c + (csy.take (min ys.length len * τe.size)).length)).toArray hb)
          have hcell : ∀ p, w.cell? ⟨L.b, p, none⟩ = arr[p]? := fun p => by simp [World.cell?, hh]
          refine D.Cr_iff.2 fun i d hdd => ?_
          have hcell' : ∀ p, (w.setRow L.b (arr.toList.take c ++ csy.take (min ys.length len * τe.size) ++ arr.toList.drop (c + (csy.take (min ys.length len * τe.size)).length)).toArray).cell? ⟨L.b, p, none⟩ = if c ≤ p ∧ p < c + min ys.length len * τe.size then (csy.take (min ys.length len * τe.size))[p - c]? else arr[p]? := fun p => by
           rw [cell_of_row _ L.b p _ tyb _ hh', hl p, hcl]
          by_cases hin : off ≤ i ∧ i < off + min ys.length len
          ·have e1 : (xs.take off ++ ys.take len ++ xs.drop (off + min ys.length len))[i]? = ys[i - off]? := by
            rw [List.append_assoc, List.getElem?_append_right (by simp; omega), List.getElem?_append_left (by simp; omega), List.getElem?_take]
            have : (xs.take off).length = off := by simp; omega
            rw [this, if_pos (by omega)]
           rw [e1] at hdd
           obtain ⟨cs', g1, g2, g3, g4⟩ := hpy.2.2 _ d hdd
           refine ⟨cs', g1, fun j hj => ?_, g3, D.C_mono (fun _ h => h) hsame _ _ g4⟩
           rw [hes] at hj ⊢
           have hij : i * τe.size = off * τe.size + (i - off) * τe.size := by rw [← Nat.add_mul]; congr 1; omega
           have hup := Nat.mul_le_mul_right τe.size (show (i - off) + 1 ≤ min ys.length len by omega)
           rw [Nat.add_mul] at hup
           rw [hcell', if_pos ⟨by omega, by omega⟩, List.getElem?_take, if_pos (by omega)]
           have := g2 j (by rw [hes]; exact hj)
           rw [hes] at this
           rw [← this]
           congr 1; omega
          ·have e1 : (xs.take off ++ ys.take len ++ xs.drop (off + min ys.length len))[i]? = xs[i]? := by
            by_cases hlo : i < off
            ·rw [List.append_assoc, List.getElem?_append_left (by simp; omega), List.getElem?_take, if_pos hlo]
            ·rw [List.getElem?_append_right (by simp; omega), List.getElem?_drop]
             congr 1
             simp only [List.length_append, List.length_take]
             omega
           rw [e1] at hdd
           obtain ⟨cs', g1, g2, g3, g4⟩ := D.Cr_iff.1 hrow _ d hdd
           refine ⟨cs', g1, fun j hj => ?_, g3, D.C_mono (fun _ h => h) hsame _ _ g4⟩
           rw [hcell', if_neg ?_, ← hcell]
           ·exact g2 j hj
           ·rw [hes] at hj ⊢
            rcases Nat.lt_or_ge i off with h | h
            ·have := Nat.mul_le_mul_right τe.size (show i + 1 ≤ off by omega)
             rw [Nat.add_mul] at this
             omega
            ·have := Nat.mul_le_mul_right τe.size (show off + min ys.length len ≤ i by omega)
             rw [Nat.add_mul] at this
             omega
     ·exact h.elim
    ·exact h.elim
   ·exact h.elim
  ·exact h.elim
 ·exact h.elim

end
end Go.AM

namespace Go.AM
open Go

abbrev Contract := List AV → List Obj → AV → List Obj → List Nat → Prop

structure S where
 slots : List AV
 own : List Obj
 n0 : Nat
 mv : List Nat

def S.put (σ : S) (dst : Option Tmp) (v : AV) : S :=
 match dst with
 | some d => { σ with slots := σ.slots.set d v }
 | none => σ

def killAll : List Nat → List AV → List AV
 | [], s => s
 | o :: os, s => killAll os (AV.kills o s)

def addMv (n0 : Nat) (mv kl : List Nat) : List Nat :=
 match kl with
 | [] => mv
 | o :: os => addMv n0 (if o < n0 then (if mv.contains o then mv else mv ++ [o]) else mv) os

def S.effect (σ : S) (dst : Option Tmp) (v : AV) (own' : List Obj) (kl : List Nat) : S :=
 S.put { slots := killAll kl σ.slots, own := own', n0 := σ.n0, mv := addMv σ.n0 σ.mv kl } dst v

def callw (Γ : Nat → Contract) (f : AV) (args : List AV) (own : List Obj) (K : AV → List Obj → List Nat → Prop) : Prop :=
 match f with
 | .fn g caps => ∃ v own' mv, Γ g (args ++ caps) own v own' mv ∧ K v own' mv
 | _ => False

def ecall (P : Program) (Γ : Nat → Contract) (own : List Obj) (slots : List AV) (f : Callee) (args : List Operand) (ts : List TypeId) (K : AV → List Obj → List Nat → Prop) : Prop :=
 match f, args, ts with
 | .builtin .append, [x, y], [t, t'] => t = t' ∧ appendw P (tyOf P t) own (ev slots x) (ev slots y) K
 | .builtin .copy, [x, y], [t, _] => copyw P (tyOf P t) own (ev slots x) (ev slots y) K
 | .value f, args, _ => callw Γ (ev slots f) (args.map (ev slots)) own K
 | _, _, _ => False

def eop (P : Program) (Γ : Nat → Contract) (own : List Obj) (slots : List AV) (op : Op) (K : AV → List Obj → List Nat → Prop) : Prop :=
 match op with
 | .alloc e => allocw P (tyOf P e) own K
 | .box _ x => boxw own (ev slots x) K
 | .buildSlice t len parts => buildSlicew P (tyOf P t) own len (parts.toList.map fun p => (p.1, ev slots p.2)) K
 | .store t a x => storew (tyOf P t) own (ev slots a) (ev slots x) K
 | .makeMap _ none => K (.map own.length) (own ++ [.map []]) []
 | .makeSlice t l c => makeSlicew P (tyOf P t) own (ev slots l) (ev slots c) K
 | .mapUpdate t m k x => mapUpdatew P (tyOf P t) own (ev slots m) (ev slots k) (ev slots x) K
 | .insert t m k x => mapUpdatew P (tyOf P t) own (ev slots m) (ev slots k) (ev slots x) K
 | .call c => ecall P Γ own slots c.callee c.args.toList c.argTypes.toList K
 | _ => False

def isV : Op → Bool
 | .move _ | .assign _ | .pick _ _ _ | .binOp _ _ _ _ _ | .unOp _ _ _ | .convert _ _ _ | .load _ _ | .fieldAddr _ _ _ | .field _ _ _ | .indexAddr _ _ _ | .index _ _ _
 | .slice _ _ _ _ _ | .build _ _ | .extract _ _ | .lookup _ _ _ _ | .nilCheck _ | .makeFunc _ _ _ => true
 | .call c => (match c.callee with | .builtin .len | .builtin .min | .builtin .max => true | _ => false)
 | _ => false

def PutV (dst : Option Tmp) (K : S → Prop) (σ : S) (v : AV) : Prop := K (σ.put dst v)
def PutE (dst : Option Tmp) (K : S → Prop) (σ : S) (v : AV) (own' : List Obj) (kl : List Nat) : Prop := K (σ.effect dst v own' kl)

def opw (P : Program) (Γ : Nat → Contract) (o : Oper) (K : S → Prop) (σ : S) : Prop :=
 if isV o.op then vop P σ.own σ.slots o.op (PutV o.dst K σ) else eop P Γ σ.own σ.slots o.op (PutE o.dst K σ)

def grd (v : AV) (want : Bool) (A B : Prop) : Prop :=
 match v with
 | .dat (.bool b) => (b = want → A) ∧ (b = (!want) → B)
 | .tup [] => B
 | _ => False

def opg (P : Program) (Γ : Nat → Contract) (all : Array Oper) (o : Oper) (K : S → Prop) (σ : S) : Prop :=
 match o.guard with
 | none => opw P Γ o K σ
 | some (j, want) =>
  match (all[j]?).bind (·.dst) with
  | some d => grd (σ.slots.getD d .top) want (opw P Γ o K σ) (K (σ.put o.dst (.tup [])))
  | none => False

def awpOps (P : Program) (Γ : Nat → Contract) (all : Array Oper) (Q : Exit → S → Prop) : List Oper → S → Prop
 | [], σ => Q .normal σ
 | o :: os, σ => opg P Γ all o (awpOps P Γ all Q os) σ

structure Ctx where
 F0 : Nat → Prop
 w0 : World
 φ0 : Nat → Option Loc
 n0 : Nat

structure Since (c : Ctx) (mv : List Nat) (F : Nat → Prop) (φ : Nat → Option Loc) (w : World) : Prop where
 sub : ∀ b, c.F0 b → F b
 ext : Ext c.F0 c.w0 w
 keep : ∀ o L, o < c.n0 → o ∉ mv → c.φ0 o = some L → φ o = some L
 rest : ∀ b, b < c.w0.heap.size → (∀ o L, c.φ0 o = some L → L.nil = false → L.b ≠ b) → w.heap[b]? = c.w0.heap[b]?
 orig : ∀ o L', φ o = some L' → L'.nil = false → c.w0.heap.size ≤ L'.b ∨ ∃ o' L, c.φ0 o' = some L ∧ L.nil = false ∧ L.b = L'.b
 frsh : ∀ b, F b → c.F0 b ∨ c.w0.heap.size ≤ b ∨ ∃ o L, c.φ0 o = some L ∧ L.nil = false ∧ L.b = b

def St (c : Ctx) (σ : S) (a : Act) (w : World) : Prop :=
 a.defers = [] ∧ σ.n0 = c.n0 ∧ ∃ F φ, Since c σ.mv F φ w ∧ Conc F φ σ.own w ∧ AV.Rs F φ w σ.slots a.tmps.toList

def OkG (P : Program) (Γ : Nat → Contract) : Prop :=
 ∀ g args own v own' mv, Γ g args own v own' mv → (∃ fn body, P.funcs[g]? = some fn ∧ fn.body = some body ∧ fn.name ≠ "runtime.NumGoroutine") ∧
  ∀ F φ w vs, Conc F φ own w → AV.Rs F φ w args vs → Calls P g vs.toArray w fun e w' => ∃ r F' φ', e = .returned r ∧ After F φ w F' φ' own' w' mv ∧ AV.R F' φ' w' v r

section
variable {P : Program} {Γ : Nat → Contract} {c : Ctx}

theorem put_R {F : Nat → Prop} {φ : Nat → Option Loc} {w : World} {σ : S} {a : Act} {dst : Option Tmp} {v : AV} {r : Value} (hs : AV.Rs F φ w σ.slots a.tmps.toList) (hv : AV.R F φ w v r) :
  AV.Rs F φ w (σ.put dst v).slots (a.put dst r).tmps.toList := by
 cases dst with
 | none => exact hs
 | some d =>
  simp only [S.put, Act.put, Array.toList_setIfInBounds]
  exact AV.Rs_set hs d v r hv

theorem put_own (σ : S) (dst : Option Tmp) (v : AV) : (σ.put dst v).own = σ.own ∧ (σ.put dst v).n0 = σ.n0 ∧ (σ.put dst v).mv = σ.mv := by cases dst <;> exact ⟨rfl, rfl, rfl⟩
theorem put_defers (a : Act) (dst : Option Tmp) (r : Value) : (a.put dst r).defers = a.defers := by cases dst <;> rfl

theorem killAll_R {F F' : Nat → Prop} {w w' : World} (hF : ∀ b, F b → F' b) (hw : Same F w w') : ∀ (kl : List Nat) {φ φ' : Nat → Option Loc} {s : List AV} {vs : List Value}, (∀ o L, o ∉ kl → φ o = some L → φ' o = some L) → AV.Rs F φ w s vs → AV.Rs F' φ' w' (killAll kl s) vs
 | [], φ, φ', s, vs, hk, h => AV.Rs_mono hF hw (fun o L ho => hk o L (by simp) ho) _ _ h
 | o :: os, φ, φ', s, vs, hk, h => by
  simp only [killAll]
  classical
  have h1 : AV.Rs F (fun i => if i = o then none else φ i) w (AV.kills o s) vs :=
   AV.Rs_kill (o := o) (F := F) (F' := F) (w := w) (w' := w) (fun _ h => h) (Same.refl F w) (fun o' L hne ho => by simp only [hne, if_false]; exact ho) s vs h
  refine killAll_R hF hw os (fun o' L hn ho => ?_) h1
  split at ho
  ·cases ho
  ·rename_i hne
   exact hk o' L (by simp [hne, hn]) ho

theorem mem_addMv : ∀ (kl mv : List Nat) (n0 o : Nat), o < n0 → o ∉ addMv n0 mv kl → o ∉ mv ∧ o ∉ kl
 | [], mv, n0, o, _, h => ⟨by simpa [addMv] using h, by simp⟩
 | k :: kl, mv, n0, o, hlt, h => by
  simp only [addMv] at h
  obtain ⟨h1, h2⟩ := mem_addMv kl _ n0 o hlt h
  by_cases hk : k < n0
  ·rw [if_pos hk] at h1
   by_cases hc : mv.contains k = true
   ·rw [if_pos hc] at h1
    refine ⟨h1, ?_⟩
    simp only [List.mem_cons, not_or]
    refine ⟨fun e => h1 ?_, h2⟩
    subst e
    simpa using hc
   ·rw [if_neg hc] at h1
    simp only [List.mem_append, List.mem_singleton, not_or] at h1
    exact ⟨h1.1, by simp only [List.mem_cons, not_or]; exact ⟨h1.2, h2⟩⟩
  ·rw [if_neg hk] at h1
   refine ⟨h1, ?_⟩
   simp only [List.mem_cons, not_or]
   exact ⟨fun e => hk (e ▸ hlt), h2⟩

theorem St.put {σ : S} {a : Act} {w : World} {F : Nat → Prop} {φ : Nat → Option Loc} {dst : Option Tmp} {v : AV} {r : Value} (hd : a.defers = []) (hn : σ.n0 = c.n0) (h2 : Since c σ.mv F φ w) (h3 : Conc F φ σ.own w)
  (h4 : AV.Rs F φ w σ.slots a.tmps.toList) (hv : AV.R F φ w v r) : St c (σ.put dst v) (a.put dst r) w := by
 refine ⟨by rw [put_defers]; exact hd, by rw [(put_own σ dst v).2.1]; exact hn, F, φ, ?_, ?_, put_R h4 hv⟩
 ·rw [(put_own σ dst v).2.2]; exact h2
 ·rw [(put_own σ dst v).1]; exact h3

theorem Since.after {mv : List Nat} {w w' : World} {F F' : Nat → Prop} {φ φ' : Nat → Option Loc} {own' : List Obj} {kl : List Nat} (h2 : Since c mv F φ w) (ha : After F φ w F' φ' own' w' kl) : Since c (addMv c.n0 mv kl) F' φ' w' where
 sub b hb := ha.sub b (h2.sub b hb)
 ext := h2.ext.trans (ha.ext.mono (fun b hb => h2.sub b hb))
 keep o L ho hm h0 := by
  obtain ⟨m1, m2⟩ := mem_addMv kl mv c.n0 o ho hm
  exact ha.keep o L m2 (h2.keep o L ho m1 h0)
 rest b hb hall := by
  rw [ha.rest b (Nat.lt_of_lt_of_le hb h2.ext.size) (fun o L ho hn e => ?_)]
  ·exact h2.rest b hb hall
  ·rcases h2.orig o L ho hn with h | ⟨o', L', h1, h2', h3⟩
   ·omega
   ·exact hall o' L' h1 h2' (h3.trans e)
 orig o L' ho hn := by
  rcases ha.orig o L' ho hn with h | ⟨o', L, h1, h2', h3⟩
  ·exact .inl (Nat.le_trans h2.ext.size h)
  ·rw [← h3]; exact h2.orig o' L h1 h2'
 frsh b hb := by
  rcases ha.frsh b hb with h | h | ⟨o, L, h1, h2', h3⟩
  ·exact h2.frsh b h
  ·exact .inr (.inl (Nat.le_trans h2.ext.size h))
  ·rw [← h3]
   rcases h2.orig o L h1 h2' with h | h
   ·exact .inr (.inl h)
   ·exact .inr (.inr h)

theorem St.effect {σ : S} {a : Act} {w w' : World} {F F' : Nat → Prop} {φ φ' : Nat → Option Loc} {dst : Option Tmp} {v : AV} {r : Value} {own' : List Obj} {kl : List Nat} (hd : a.defers = []) (hn : σ.n0 = c.n0) (h2 : Since c σ.mv F φ w)
  (h4 : AV.Rs F φ w σ.slots a.tmps.toList) (ha : After F φ w F' φ' own' w' kl) (hv : AV.R F' φ' w' v r) : St c (σ.effect dst v own' kl) (a.put dst r) w' := by
 unfold S.effect
 refine St.put (F := F') (φ := φ') hd hn ?_ ha.conc (killAll_R ha.sub ha.ext.same kl ha.keep h4) hv
 simp only
 rw [hn]
 exact h2.after ha

theorem wp_value {o : Oper} {a : Act} {w w' : World} {r : Value} {next : Act → World → Prop} {Q : Exit → Act → World → Prop} (hrun : (execOp a.eval o).run P w = .ok (.value r) w') (h : next (a.put o.dst r) w') : o.wp P a w next Q := by
 unfold Oper.wp
 rw [hrun]
 exact h
theorem wp_skip' {o : Oper} {a : Act} {w w' : World} {next : Act → World → Prop} {Q : Exit → Act → World → Prop} (hrun : (execOp a.eval o).run P w = .ok .skip w') (h : next (a.put o.dst undef) w') : o.wp P a w next Q := by
 unfold Oper.wp
 rw [hrun]
 exact h

theorem exec_buildSlice (ρ : Operand → Value) (dst : Option Tmp) (t : TypeId) (len : Nat) (parts : Array (Nat × Operand)) (ty : TypeId) (pos : String) (after : Array Edge) (guard : Option (Nat × Bool)) :
  execOp ρ { dst := dst, op := .buildSlice t len parts, type := ty, pos := pos, after := after, guard := guard } = (do pure (Next.value (← Instr.buildSlice t len (parts.toList.map fun p => (p.1, ρ p.2)).toArray))) := by
 have e : (parts.map fun p => (p.1, ρ p.2)) = (parts.toList.map fun p => (p.1, ρ p.2)).toArray := by
  apply Array.ext'
  simp
 rw [← e]
 rfl

theorem opw_sound (hΓ : OkG P Γ) {o : Oper} {K : S → Prop} {σ : S} {a : Act} {w : World} {Q : Exit → Act → World → Prop} (hst : St c σ a w) (h : opw P Γ o K σ) :
  o.wp P a w (fun a' w' => ∃ σ', St c σ' a' w' ∧ K σ') Q := by
 obtain ⟨hd, hn, F, φ, h2, h3, h4⟩ := hst
 unfold opw at h
 split at h
 ·obtain ⟨v, r, hrun, hv, hK⟩ := vop_sound h3 h4 h
  exact wp_value hrun ⟨_, St.put hd hn h2 h3 h4 hv, hK⟩
 ·
  rename_i hiv
  clear hiv
  have does : ∀ s : Sem Value, Does P F φ w s (PutE o.dst K σ) → (execOp a.eval o) = (do pure (Next.value (← s))) → o.wp P a w (fun a' w' => ∃ σ', St c σ' a' w' ∧ K σ') Q := by
   rintro s ⟨v, r, own', kl, F', φ', w', hrun, ha, hv, hK⟩ he
   refine wp_value (r := r) (w' := w') ?_ ⟨_, St.effect hd hn h2 h4 ha hv, hK⟩
   rw [he]
   simp only [Sem.run_bind, hrun, Result.andThen_ok, Sem.run_pure]
  have skips : ∀ s : Sem Unit, (∃ v own' kl F' φ' w', s.run P w = .ok () w' ∧ After F φ w F' φ' own' w' kl ∧ v = .top ∧ PutE o.dst K σ v own' kl) → (execOp a.eval o) = (do s; pure .skip) →
    o.wp P a w (fun a' w' => ∃ σ', St c σ' a' w' ∧ K σ') Q := by
   rintro s ⟨v, own', kl, F', φ', w', hrun, ha, rfl, hK⟩ he
   refine wp_skip' (w' := w') ?_ ⟨_, St.effect hd hn h2 h4 ha (by simp only [AV.R]), hK⟩
   rw [he]
   simp only [Sem.run_bind, hrun, Result.andThen_ok, Sem.run_pure]
  obtain ⟨dst, op, ty, pos, after, guard⟩ := o
  simp only at h does skips
  unfold eop at h
  split at h
  case h_1 e => exact does _ (allocw_sound h3 h) rfl
  case h_2 e x => exact does _ (boxw_sound h3 (ev_R h3.glob h4 x) h) rfl
  case h_3 t len parts =>
   exact does _ (buildSlicew_sound h3 (Rp_parts h3.glob h4 parts.toList) h) (exec_buildSlice _ _ _ _ _ _ _ _ _)
  case h_4 t x y => exact skips _ (storew_sound h3 (ev_R h3.glob h4 x) (ev_R h3.glob h4 y) h) rfl
  case h_5 t => exact does _ (makeMap_sound h3 h) rfl
  case h_6 t x y => exact does _ (makeSlicew_sound h3 (ev_R h3.glob h4 x) (ev_R h3.glob h4 y) h) rfl
  case h_7 t m k x => exact skips _ (mapUpdatew_sound h3 (ev_R h3.glob h4 m) (ev_R h3.glob h4 k) (ev_R h3.glob h4 x) h) rfl
  case h_8 t m k x => exact skips _ (mapUpdatew_sound h3 (ev_R h3.glob h4 m) (ev_R h3.glob h4 k) (ev_R h3.glob h4 x) h) rfl
  case h_9 call =>
   obtain ⟨callee, args, ts⟩ := call
   simp only at h does skips
   unfold ecall at h
   split at h
   ·rename_i x y t t' e1 e2
    obtain ⟨rfl, h⟩ := h
    have e1 : args = #[x, y] := by rw [← Array.toArray_toList (xs := args), e1]
    have e2 : ts = #[t, t] := by rw [← Array.toArray_toList (xs := ts), e2]
    subst e1; subst e2
    refine does _ (appendw_sound (ty := ty) h3 (ev_R h3.glob h4 x) (ev_R h3.glob h4 y) h) ?_
    simp only [execOp, resolve, pure_bind, invoke, builtin, List.map_toArray, List.map_cons, List.map_nil]
   ·rename_i x y t t' e1 e2
    have e1 : args = #[x, y] := by rw [← Array.toArray_toList (xs := args), e1]
    have e2 : ts = #[t, t'] := by rw [← Array.toArray_toList (xs := ts), e2]
    subst e1; subst e2
    refine does _ (copyw_sound (sT := t') (ty := ty) h3 (ev_R h3.glob h4 x) (ev_R h3.glob h4 y) h) ?_
    simp only [execOp, resolve, pure_bind, invoke, builtin, List.map_toArray, List.map_cons, List.map_nil]
   ·rename_i f
    unfold callw at h
    split at h
    ·rename_i g caps hf
     obtain ⟨v, own', mv, hg, hK⟩ := h
     obtain ⟨⟨fn, body, hfn, hbody, hname⟩, hcalls⟩ := hΓ g _ _ _ _ _ hg
     have hfR := ev_R (F := F) (φ := φ) (w := w) h3.glob h4 f
     rw [hf] at hfR
     simp only [AV.R] at hfR
     obtain ⟨carr, hfe, hcaps⟩ := hfR
     have hargs := Rs_map (F := F) (φ := φ) (w := w) h3.glob h4 args.toList
     have hc' := hcalls F φ w _ h3 (AV.Rs_append hargs hcaps)
     have hrun : (execOp a.eval { dst := dst, op := .call { callee := .value f, args := args, argTypes := ts }, type := ty, pos := pos, after := after, guard := guard }).run P w = .ok (.enter g (args.toList.map a.eval ++ carr).toArray) w := by
      have e : args.map a.eval ++ carr.toArray = (args.toList.map a.eval ++ carr).toArray := by
       apply Array.ext'
       simp
      have hbn : fn.body.isNone = false := by rw [hbody]; rfl
      have hnm : (fn.name == "runtime.NumGoroutine") = false := by simpa using hname
      simp only [execOp, resolve, Deferred.ofValue, hfe, pure_bind, invoke, callFunc, Sem.run_bind, run_program, Result.andThen_ok, hfn, hnm, hbn, Bool.false_eq_true, if_false, Sem.run_pure, Array.empty_append, e]
     unfold Oper.wp
     rw [hrun, Oper.upon_enter]
     refine hc'.mono fun e w' hpost => ?_
     obtain ⟨r, F', φ', rfl, ha, hv⟩ := hpost
     exact ⟨_, St.effect hd hn h2 h4 ha hv, hK⟩
    ·exact h.elim
   ·exact h.elim
  case h_10 => exact h.elim

def lift (c : Ctx) (Q : Exit → S → Prop) : Exit → Act → World → Prop := fun e a w => ∃ σ, St c σ a w ∧ Q e σ

theorem St.skip {σ : S} {a : Act} {w : World} {dst : Option Tmp} (hst : St c σ a w) : St c (σ.put dst (.tup [])) (a.put dst undef) w := by
 obtain ⟨hd, hn, F, φ, h2, h3, h4⟩ := hst
 exact St.put hd hn h2 h3 h4 (by simp only [AV.R, AV.Rs]; exact ⟨[], rfl, rfl⟩)

theorem opg_sound (hΓ : OkG P Γ) {all : Array Oper} {o : Oper} {K : S → Prop} {σ : S} {a : Act} {w : World} {Q : Exit → Act → World → Prop} (hst : St c σ a w) (h : opg P Γ all o K σ) :
  (Region.wanted o (yielded all a.tmps) = true ∧ o.wp P a w (fun a' w' => ∃ σ', St c σ' a' w' ∧ K σ') Q) ∨ (Region.wanted o (yielded all a.tmps) = false ∧ ∃ σ', St c σ' (a.put o.dst undef) w ∧ K σ') := by
 unfold opg at h
 split at h
 ·rename_i hg
  exact .inl ⟨by simp [Region.wanted, hg], opw_sound hΓ hst h⟩
 ·rename_i j want hg
  split at h
  ·rename_i d hdst
   have hslot := hst
   obtain ⟨hd, hn, F, φ, h2, h3, h4⟩ := hslot
   have hv := AV.Rs_get h4 d
   have hy : yielded all a.tmps j = (match a.tmps[d]? with | some (.bool b) => some b | _ => none) := by
    simp only [yielded, hdst, Option.bind_some]
    rfl
   unfold grd at h
   split at h
   ·rename_i b hb
    rw [hb] at hv
    have e := R_bool.1 hv
    have hget : a.tmps[d]? = some (.bool b) := by
     rw [← Array.getElem?_toList]
     cases hx : a.tmps.toList[d]? with
     | none => simp [List.getD_eq_getElem?_getD, hx, undef] at e
     | some x => simp [List.getD_eq_getElem?_getD, hx] at e; rw [e]
    rw [hget] at hy
    by_cases hbw : b = want
    ·exact .inl ⟨by simp [Region.wanted, hg, hy, hbw], opw_sound hΓ hst (h.1 hbw)⟩
    ·refine .inr ⟨by simp [Region.wanted, hg, hy, hbw], _, hst.skip, h.2 ?_⟩
     cases b <;> cases want <;> simp_all
   ·rename_i hb
    rw [hb] at hv
    simp only [AV.R, AV.Rs] at hv
    obtain ⟨arr, e, rfl⟩ := hv
    have hget : (match a.tmps[d]? with | some (.bool b) => some b | _ => none) = (none : Option Bool) := by
     rw [← Array.getElem?_toList]
     cases hx : a.tmps.toList[d]? with
     | none => rfl
     | some x => simp [List.getD_eq_getElem?_getD, hx] at e; rw [e]
    rw [hget] at hy
    exact .inr ⟨by simp [Region.wanted, hg, hy], _, hst.skip, h⟩
   ·exact h.elim
  ·exact h.elim

theorem awpOps_sound (hΓ : OkG P Γ) {all : Array Oper} {Q : Exit → S → Prop} : ∀ (l : List Oper) (σ : S) (a : Act) (w : World), St c σ a w → awpOps P Γ all Q l σ → wpList P all (lift c Q) l a w
 | [], σ, a, w, hst, h => ⟨σ, hst, h⟩
 | o :: os, σ, a, w, hst, h => by
  simp only [awpOps] at h
  unfold wpList
  rcases opg_sound hΓ (Q := lift c Q) hst h with ⟨hw, hwp⟩ | ⟨hw, σ', hst', hK⟩
  ·rw [if_pos hw]
   refine .inl (Oper.wp_mono ?_ hwp)
   rintro a' w' ⟨σ', hst', hK⟩
   exact awpOps_sound hΓ os σ' a' w' hst' hK
  ·rw [if_neg (by simp [hw])]
   exact awpOps_sound hΓ os σ' _ w hst' hK

end
end Go.AM

