/- Own work over the model of the kit. -/
import Derived.Test.YtenlakaideefbaaDoorD15
import Derived.Test.YtenlakaideefbaaDoorD18
import Derived.Test.YtenlakaideefbaaDoorD16
import Derived.Lib.ItoaMem
set_option linter.unnecessarySimpa false
set_option linter.unusedSimpArgs false
set_option linter.unusedVariables false
set_option maxHeartbeats 4000000
set_option maxRecDepth 8000
namespace Go.AM
private theorem eqk {α : Sort _} {a b : α} (h : a = b) : a = b := Eq.trans h (Eq.refl _)
open Go Go.Proofs
@[go_sem] theorem bld_zero : T52.zero = some (.agg #[.pointer none, .slice none 0 0]) := eqk (by kernel_rfl)
@[go_sem ↓] theorem varObj_bld {t : TypeId} : varObj t (.agg #[.pointer none, .slice none 0 0]) = .bld t false [.nils] := Eq.trans rfl rfl
@[go_sem] theorem one_ptr : (Value.pointer none).oneCell' = true := Eq.trans rfl rfl
theorem call_wsE {l : List (Nat × Contract)} (B : List UInt8) (hm : (27, wsC) ∈ l) {o r : Nat} {u : Bool} {s bs : List UInt8} {own : List Obj} {K : AV -> List Obj -> List Nat -> Prop} (hor : o ≠ r) (hobj : own.getD o .dead = .bld 52 u [.sl r 0 bs.length]) (hrow : own.getD r .dead = .brow 5 bs)
  (hB : bs ++ s = B) (hlen : B.length <= 140737488355328) (h : K (.tup [.dat (.int .i64 s.length), .top]) (((own.map (Obj.kill r)).set r (.brow 5 B)).set o (.bld 52 true [.sl r 0 B.length])) [r]) :
  callw (tbl l) (.fn 27 []) [.ptr o 0 0, .dat (.str s)] own K := by
 subst hB
 exact call_ws hm hor hobj hrow (by simpa using hlen) h
end Go.AM
namespace Go.AM
open Go Go.Proofs
def flagK (f : Int) : Nat -> List Str
 | 0 => []
 | k + 1 => flagK f k ++ (if f / 2 ^ k % 2 = 1 then [fw k] else [])
theorem flagT_eq (f : Int) : flagT f = flagK f 4 := by
 simp [flagT, flagK]
theorem flagK_mem (f : Int) : ∀ k, k <= 4 -> (flagK f k).length <= k /\ ∀ s ∈ flagK f k, s.length <= 6
 | 0, _ => by simp [flagK]
 | k + 1, h => by
  obtain ⟨h1, h2⟩ := flagK_mem f k (by omega)
  have hw : (fw k).length <= 6 := by
   rcases (by omega : k = 0 ∨ k = 1 ∨ k = 2 ∨ k = 3) with rfl | rfl | rfl | rfl <;> decide
  unfold flagK
  by_cases hb : f / 2 ^ k % 2 = 1
  ·rw [if_pos hb]
   refine ⟨by simp; omega, fun s hs => ?_⟩
   rcases List.mem_append.1 hs with h | h
   ·exact h2 s h
   ·simp at h; rw [h]; exact hw
  ·rw [if_neg hb, List.append_nil]
   exact ⟨by omega, h2⟩
theorem flag_bit (f : Int) (k : Nat) (h0 : 0 <= f) (h1 : f <= 15) (hk : k < 4) : bitsV .and .i64 (shrV .i64 f (k : Int)) 1 = f / 2 ^ k % 2 /\ inR .i64 (shrV .i64 f (k : Int)) := by
 obtain ⟨n, rfl⟩ : ∃ n : Nat, f = n := ⟨f.toNat, by omega⟩
 have key : ∀ m : Fin 4, ∀ n : Fin 16, bitsV .and .i64 (shrV .i64 ((n : Nat) : Int) ((m : Nat) : Int)) 1 = ((n : Nat) : Int) / 2 ^ (m : Nat) % 2 /\ -9223372036854775808 <= shrV .i64 ((n : Nat) : Int) ((m : Nat) : Int) /\ shrV .i64 ((n : Nat) : Int) ((m : Nat) : Int) <= 9223372036854775807 := by decide
 obtain ⟨q1, q2⟩ := key ⟨k, hk⟩ ⟨n, by omega⟩
 exact ⟨q1, inR_i64.2 q2⟩
structure MapOk (x : Ins) : Prop where
 pg0 : -1 <= x.page
 pg1 : x.page <= 511
 ct0 : 1 <= x.count
 ct1 : x.count <= 512
 fl0 : 0 <= x.flags
 fl1 : x.flags <= 15
 fi0 : -1 <= x.file
 fi1 : x.file <= 3
 ix0 : 0 <= x.index
 ix1 : x.index <= 15
 pr : x.prot = 1 ∨ x.prot = 3
theorem mapOk_of {x : Ins} (h : chkE x = 0) (h1 : x.op = 1) : MapOk x := by
 rw [chk_eq] at h
 unfold rchkE at h
 split at h
 ·cases h
 ·split at h
  ·rename_i hr
   simp only [rngI, memI, h1] at hr
   simp [inB] at hr
   constructor <;> omega
  ·cases h
def fmR (ds : List D) (v : AV) : Prop := ∃ x : Ins, ds = [insD x] /\ chkE x = 0 /\ x.op = 1 /\ v = .dat (.str (lineI x))
def formatProtR (ds : List D) (v : AV) : Prop := ∃ n : Int, ds = [.int .i64 n] /\ v = .dat (.str (protT n))
abbrev tabFm : List (Nat × Contract) := [(27, wsC), (29, strC), (61, dataC itoaR), (48, dataC formatProtR), (59, dataC flagsR)]
theorem tabFm_ok : OkG Tryd.prog (tbl tabFm) := okG_cons writeString_ok (okG_cons string_ok (okG_cons itoa_ok (okG_cons formatProt_ok (okG_cons flags_ok okG_nil))))
theorem tabFm_data : ∀ g C, (g, C) ∈ tabFm -> g ∈ [61, 48] -> ∃ R, C = dataC R := by
 intro g C h hg
 simp only [tabFm, List.mem_cons, Prod.mk.injEq, List.not_mem_nil, or_false] at h
 rcases h with ⟨rfl, rfl⟩ | ⟨rfl, rfl⟩ | ⟨_, rfl⟩ | ⟨_, rfl⟩ | ⟨rfl, rfl⟩
 ·exact absurd hg (by decide)
 ·exact absurd hg (by decide)
 ·exact ⟨_, rfl⟩
 ·exact ⟨_, rfl⟩
 ·exact ⟨_, rfl⟩
theorem itoa_small {n : Int} (h0 : -1 <= n) (h1 : n <= 999) : (Lib.itoa n).length <= 22 /\ -9223372036854775808 <= n /\ n <= 9223372036854775807 :=
 ⟨by have := Lib.itoa_length_le n (by omega) (by omega); omega, by omega, by omega⟩
theorem call_itoa {l : List (Nat × Contract)} (hm : (61, dataC itoaR) ∈ l) {n : Int} {own : List Obj} {K : AV -> List Obj -> List Nat -> Prop} (h0 : -1 <= n) (h1 : n <= 999) (h : K (.dat (.str (Lib.itoa n))) own []) : callw (tbl l) (.fn 61 []) [.dat (.int .i64 n)] own K :=
 call_data itoaR hm [.int .i64 n] _ rfl ⟨n, rfl, by omega, by omega, rfl⟩ (.inl rfl) h
theorem formatMap_ok : OkF Tryd.prog 46 (dataC fmR) := by
 refine okF_data Tryd.func46 rfl (by decide) ?_
 rintro ds v ⟨x, rfl, hc, hop, rfl⟩
 have hx := mapOk_of hc hop
 obtain ⟨pg0, pg1, ct0, ct1, fl0, fl1, fi0, fi1, ix0, ix1, hpr⟩ := hx
 refine sem_of_awpK [2] (Γ := tbl tabFm) tabFm_ok _ _ _ ?_
 simp only [go_sem, Tryd.ntmps46]
 refine sem_le (le_addnilB 1 52 false 5 rfl (by show 0 <= 2; decide)) ?_
 simp only [go_sem, List.length_cons, List.length_nil]
 refine sem_of_awpK [6] (Γ := tbl tabFm) tabFm_ok _ _ _ ?_
 simp only [go_sem]
 refine call_wsE [109, 97, 112, 32] (r := 2) (bs := []) (mem_at 0 rfl) (by decide) rfl rfl rfl (by decide) ?_
 generalize hB0 : ([109, 97, 112, 32] : List UInt8) = B0
 simp only [go_sem]
 obtain ⟨pt, hpt⟩ : ∃ pt : Str, pt = if x.page = -1 then wAny else Lib.itoa x.page := ⟨_, rfl⟩
 obtain ⟨il1, _, _⟩ := itoa_small (n := x.count) (by omega) (by omega)
 have hptl : pt.length <= 22 := by
  rw [hpt]
  split
  ·decide
  ·exact (itoa_small (by omega) (by omega)).1
 have hB0l : B0.length = 4 := by rw [← hB0]; rfl
 have hlow : lineI x = spJ wMap ([pt, Lib.itoa x.count, protT x.prot] ++ flagK x.flags 4 ++ (if x.file = -1 then [] else [wFile, Lib.itoa x.file, Lib.itoa x.index])) := by
  unfold lineI tokI
  rw [if_pos hop, ← flagT_eq, hpt]
 have hB1l : (spJ wMap [pt]).length <= 26 := by
  show (wMap ++ ([32] ++ pt)).length <= 26
  simp only [List.length_append, List.length_cons, List.length_nil, wMap]; omega
 have hpl : (protT x.prot).length <= 2 := by unfold protT; split <;> decide
 have hBk : ∀ k, k <= 4 -> (spJ wMap (pt :: Lib.itoa x.count :: protT x.prot :: flagK x.flags k)).length <= 164 := fun k hk => by
  obtain ⟨g1, g2⟩ := flagK_mem x.flags k hk
  have h := spJ_len (pt :: Lib.itoa x.count :: protT x.prot :: flagK x.flags k) wMap 22 (fun t ht => by
   simp only [List.mem_cons] at ht
   rcases ht with rfl | rfl | rfl | h <;> first | omega | (have := g2 t h; omega))
  simp only [List.length_append, List.length_cons, List.length_nil, wMap] at h
  simp only [wMap]
  omega
 by_cases hpg : x.page = -1
 case' pos =>
  rw [if_pos hpg] at hpt
  have hpgd : (x.page = -1) = True := eq_true hpg
  simp only [go_sem, hpgd, decide_true]
  refine call_wsE (spJ wMap [pt]) (r := 2) (bs := B0) (mem_at 0 rfl) (by decide) rfl rfl (by rw [← hB0, hpt]; rfl) (by omega) ?_
 case' neg =>
  rw [if_neg hpg] at hpt
  simp only [go_sem, hpg, decide_false]
  refine call_itoa (mem_at 2 rfl) (by omega) (by omega) ?_
  simp only [go_sem]
  refine call_wsE (spJ wMap [pt]) (r := 2) (bs := B0) (mem_at 0 rfl) (by decide) rfl rfl (by rw [← hB0, hpt]; rfl) (by omega) ?_
 all_goals
  generalize hB1 : spJ wMap [pt] = B1 at *
  simp only [go_sem]
  refine sem_drawU [] [] (pf := [61, 48]) (mf := []) mixed tabFm_ok (pure_of tabFm_data) (grow_of tabFm_data) noMk (ones [0, 1, 2, 3, 4, 5, 6, 7, 8, 9]) (by kernel_rfl) ?_
  simp only [go_sem]
  refine call_itoa (mem_at 2 rfl) (by omega) (by omega) ?_
  simp only [go_sem]
  refine ⟨by simp only [maxLen]; omega, by simp only [maxLen]; omega, ?_⟩
  refine call_data formatProtR (mem_at 3 rfl) [.int .i64 x.prot] _ rfl ⟨x.prot, rfl, rfl⟩ (.inl rfl) ?_
  simp only [go_sem, List.length_append, List.length_cons, List.length_nil]
  refine ⟨by simp only [maxLen]; omega, ?_⟩
  refine call_wsE (spJ wMap (pt :: Lib.itoa x.count :: protT x.prot :: flagK x.flags 0)) (r := 2) (bs := B1) (mem_at 0 rfl) (by decide) rfl rfl (by rw [← hB1]; simp [spJ, flagK]) (by have := hBk 0 (by omega); omega) ?_
  simp only [go_sem]
  refine call_data flagsR (mem_at 4 rfl) [] _ rfl ⟨rfl, rfl⟩ (.inl rfl) ?_
  simp only [go_sem]
  refine sem_loop (fun k : Nat => ⟨slotsOf 54 [(1, .ptr 0 0 0), (3, .ptr 1 0 0), (25, .dat (.agg (flagW.map D.str))), (26, .dat (.int .i64 k))], [.box ((insL x).map .dat), .bld 52 true [.sl 2 0 (spJ wMap (pt :: Lib.itoa x.count :: protT x.prot :: flagK x.flags k)).length], .brow 5 (spJ wMap (pt :: Lib.itoa x.count :: protT x.prot :: flagK x.flags k))], 0, []⟩)
   (fun k => k <= 4) (fun k => 4 - k) 0 (Nat.zero_le _) ?_ ?_
  ·exact le_slots' (by simp only [go_sem, Int.natCast_zero])
  rintro k hk
  refine sem_of_awpK [14] (Γ := tbl tabFm) tabFm_ok _ _ _ ?_
  have hbk := hBk k hk
  by_cases hlt : k < 4
  ·have k1 : (k : Int) < 4 := by omega
   have k0 : (0 : Int) <= (k : Int) := by omega
   have hn : ((flagW.map D.str).map AV.dat).getD k .top = .dat (.str (fw k)) := by
    rcases (by omega : k = 0 ∨ k = 1 ∨ k = 2 ∨ k = 3) with rfl | rfl | rfl | rfl <;> rfl
   have hwl : (fw k).length <= 6 := by
    rcases (by omega : k = 0 ∨ k = 1 ∨ k = 2 ∨ k = 3) with rfl | rfl | rfl | rfl <;> decide
   obtain ⟨hbit, hin⟩ := flag_bit x.flags k fl0 fl1 hlt
   simp only [go_sem, k1, k0, hn, hbit, insL, List.map_cons, List.map_nil, decide_true, Int.toNat_natCast]
   refine ⟨hlt, hin, ?_⟩
   by_cases hb : x.flags / 2 ^ k % 2 = 1
   ·have hfk : flagK x.flags (k + 1) = flagK x.flags k ++ [fw k] := by
     show flagK x.flags k ++ _ = _
     rw [if_pos hb]
    simp only [go_sem, hb, eq_self, decide_true, List.cons_append, List.nil_append]
    refine ⟨by simp only [maxLen]; omega, call_wsE (spJ wMap (pt :: Lib.itoa x.count :: protT x.prot :: flagK x.flags (k + 1))) (r := 2) (bs := spJ wMap (pt :: Lib.itoa x.count :: protT x.prot :: flagK x.flags k)) (mem_at 0 rfl) (by decide) rfl rfl (by rw [hfk, ← List.cons_append, ← List.cons_append, ← List.cons_append, spJ_app]; rfl) (by have := hBk (k + 1) (by omega); omega) ?_⟩
    simp only [go_sem]
    refine ⟨inR_i64.2 (by omega), k + 1, by omega, by omega, le_slots' (by simp only [go_sem, Int.natCast_add, Int.cast_ofNat_Int])⟩
   ·have hfk : flagK x.flags (k + 1) = flagK x.flags k := by
     show flagK x.flags k ++ _ = _
     rw [if_neg hb, List.append_nil]
    simp only [go_sem, hb, decide_false]
    refine ⟨inR_i64.2 (by omega), k + 1, by omega, by omega, ?_⟩
    rw [hfk]
    exact le_slots' (by simp only [go_sem, Int.natCast_add, Int.cast_ofNat_Int])
  ·have hke : k = 4 := by omega
   subst hke
   rw [hlow]
   by_cases hfi : x.file = -1
   ·have hfid : (x.file = -1) = True := eq_true hfi
    rw [if_pos hfi, List.append_nil]
    simp only [go_sem, insL, List.map_cons, List.map_nil, hfid, decide_true, Bool.not_true]
    refine call_str (r := 2) (mem_at 1 rfl) rfl rfl (by omega) ?_
    simp only [go_sem]
    exact post_data (.inl rfl) [2] rfl trivial rfl
   ·rw [if_neg hfi]
    simp only [go_sem, insL, List.map_cons, List.map_nil, hfi, decide_false, Bool.not_false]
    refine sem_drawU [] [] (pf := [61, 48]) (mf := []) mixed tabFm_ok (pure_of tabFm_data) (grow_of tabFm_data) noMk (ones [0, 1, 2, 3, 4, 5, 6, 7, 8, 9]) (by kernel_rfl) ?_
    simp only [go_sem]
    obtain ⟨jl1, _, _⟩ := itoa_small (n := x.file) (by omega) (by omega)
    obtain ⟨jl2, _, _⟩ := itoa_small (n := x.index) (by omega) (by omega)
    have hfe : spJ wMap (pt :: Lib.itoa x.count :: protT x.prot :: (flagK x.flags 4 ++ [wFile, Lib.itoa x.file, Lib.itoa x.index])) = spJ wMap (pt :: Lib.itoa x.count :: protT x.prot :: flagK x.flags 4) ++ ([32] ++ wFile ++ ([32] ++ Lib.itoa x.file) ++ ([32] ++ Lib.itoa x.index)) := by
     rw [← List.cons_append, ← List.cons_append, ← List.cons_append, spJ_app, spJ_cons, spJ_cons, spJ_cons, spJ_nil]
     simp only [List.append_assoc]
    have hfl : (spJ wMap (pt :: Lib.itoa x.count :: protT x.prot :: (flagK x.flags 4 ++ [wFile, Lib.itoa x.file, Lib.itoa x.index]))).length <= 300 := by
     rw [hfe]
     simp only [List.length_append, List.length_cons, List.length_nil, wFile]
     omega
    refine call_itoa (mem_at 2 rfl) (by omega) (by omega) ?_
    simp only [go_sem]
    refine ⟨by simp only [maxLen]; omega, by simp only [maxLen]; omega, ?_⟩
    refine call_itoa (mem_at 2 rfl) (by omega) (by omega) ?_
    simp only [go_sem, List.length_append, List.length_cons, List.length_nil]
    refine ⟨by simp only [maxLen]; omega, call_wsE (spJ wMap (pt :: Lib.itoa x.count :: protT x.prot :: (flagK x.flags 4 ++ [wFile, Lib.itoa x.file, Lib.itoa x.index]))) (r := 2) (bs := spJ wMap (pt :: Lib.itoa x.count :: protT x.prot :: flagK x.flags 4)) (mem_at 0 rfl) (by decide) rfl rfl (by rw [hfe]; unfold wFile; simp only [List.cons_append, List.nil_append, List.append_assoc]) (by omega) ?_⟩
    simp only [go_sem]
    refine call_str (r := 2) (mem_at 1 rfl) rfl rfl (by omega) ?_
    simp only [go_sem]
    exact post_data (.inl rfl) [2] rfl trivial rfl
end Go.AM
namespace Go.AM
open Go Go.Proofs
structure SmallI (x : Ins) : Prop where
 o0 : 1 <= x.op
 o1 : x.op <= 12
 p0 : -1 <= x.page
 p1 : x.page <= 512
 c0 : -1 <= x.count
 c1 : x.count <= 512
 i0 : -1 <= x.index
 i1 : x.index <= 512
 v0 : -1 <= x.value
 v1 : x.value <= 512
 f0 : -1 <= x.file
 f1 : x.file <= 512
theorem small_of {x : Ins} (h : chkE x = 0) : SmallI x := by
 by_cases ho : 1 <= x.op /\ x.op <= 12
 ·rw [chk_form x ho] at h
  have hb : (x.fs.zip ((ofL x.op).1.fs.zip (ofL x.op).2.fs)).any badB = false := by
   cases hq : (x.fs.zip ((ofL x.op).1.fs.zip (ofL x.op).2.fs)).any badB with
   | false => rfl
   | true =>
    rw [hq] at h
    simp only [or_true, if_true] at h
    split at h <;> cases h
  obtain ⟨op, page, count, index, value, file, prot, flags⟩ := x
  simp only at ho hb
  have hc : op = 1 ∨ op = 2 ∨ op = 3 ∨ op = 4 ∨ op = 5 ∨ op = 6 ∨ op = 7 ∨ op = 8 ∨ op = 9 ∨ op = 10 ∨ op = 11 ∨ op = 12 := by omega
  rcases hc with rfl | rfl | rfl | rfl | rfl | rfl | rfl | rfl | rfl | rfl | rfl | rfl
  all_goals
   simp [Ins.fs, ofL, zI, badB] at hb
   constructor <;> simp only <;> omega
 ·exfalso
  unfold chkE at h
  rw [if_neg ho] at h
  cases h
theorem call_join {l : List (Nat × Contract)} {g : Nat} (hm : (g, dataC joinR) ∈ l) {w : Str} (ns : List Int) {args : List AV} {own : List Obj} {K : AV -> List Obj -> List Nat -> Prop} (hd : asDL own args = some [.str w, .sl none (ns.map (D.int .i64))]) (hn : ∀ n ∈ ns, -1 <= n /\ n <= 512) (hl : w.length + 22 * ns.length <= 1000000)
  (h : K (.dat (.str (spJ w (ns.map Lib.itoa)))) own []) : callw (tbl l) (.fn g []) args own K :=
 call_data joinR hm _ _ hd ⟨w, ns, rfl, fun n hm => inR_i64.2 (by have := hn n hm; omega), hl, rfl⟩ (.inr rfl) (by rw [spJ_join]; exact h)
def fmtR (ds : List D) (v : AV) : Prop := ∃ x : Ins, ds = [insD x] /\ chkE x = 0 /\ v = .dat (.str (lineI x))
abbrev tabFo : List (Nat × Contract) := [(46, dataC fmR), (47, dataC joinR), (48, dataC formatProtR)]
theorem tabFo_ok : OkG Tryd.prog (tbl tabFo) := okG_cons formatMap_ok (okG_cons join_ok (okG_cons formatProt_ok okG_nil))
theorem tabFo_data : ∀ g C, (g, C) ∈ tabFo -> g ∈ [47, 48] -> ∃ R, C = dataC R := by
 intro g C h _
 simp only [tabFo, List.mem_cons, Prod.mk.injEq, List.not_mem_nil, or_false] at h
 rcases h with ⟨_, rfl⟩ | ⟨_, rfl⟩ | ⟨_, rfl⟩ <;> exact ⟨_, rfl⟩
theorem lock_val {x : Ins} (hc : chkE x = 0) (h4 : x.op = 4) : 0 <= x.value /\ x.value <= 1 := by
 rw [chk_eq] at hc
 unfold rchkE at hc
 split at hc
 ·cases hc
 ·split at hc
  ·rename_i hr
   simp only [rngI, memI, h4] at hr
   simp [inB] at hr
   omega
  ·cases hc
theorem format_ok : OkF Tryd.prog 28 (dataC fmtR) := by
 refine okF_data Tryd.func28 rfl (by decide) ?_
 rintro ds v ⟨x, rfl, hc, rfl⟩
 obtain ⟨o0, o1, p0, p1, c0, c1, i0, i1, v0, v1, f0, f1⟩ := small_of hc
 refine sem_of_awp (Γ := tbl tabFo) tabFo_ok _ _ _ ?_
 by_cases h1 : x.op = 1
 ·have h1d : (x.op = 1) = True := eq_true h1
  simp only [go_sem, Tryd.ntmps28, h1d, decide_true]
  refine call_data fmR (mem_at 0 rfl) [insD x] _ rfl ⟨x, rfl, hc, h1, rfl⟩ (.inl rfl) ?_
  simp only [go_sem]
  refine post_resO (mv' := []) (.inl rfl) [.tmp 2] rfl (fun _ h => h) ?_
  simp only [go_sem]
  exact le_fin (by rfl) (by simp only [AV.under])
 by_cases h2 : x.op = 2
 ·have he : lineI x = spJ wUnmap [Lib.itoa x.page, Lib.itoa x.count] := by unfold lineI tokI; rw [if_neg h1, if_pos h2]
  rw [he]
  unfold wUnmap
  have h2d : (x.op = 2) = True := eq_true h2
  simp only [go_sem, Tryd.ntmps28, h1, h2d, decide_true, decide_false]
  refine call_join (mem_at 1 rfl) [x.page, x.count] rfl (by simp only [List.mem_cons, List.not_mem_nil, or_false]; rintro n (rfl | rfl) <;> omega) (by simp only [List.length_cons, List.length_nil]; decide) ?_
  simp only [go_sem, List.map_cons, List.map_nil]
  refine post_resO (mv' := []) (.inl rfl) [.tmp 2] rfl (fun _ h => h) ?_
  simp only [go_sem]
  exact le_fin (by rfl) (by simp only [AV.under])
 by_cases h3 : x.op = 3
 ·have he : lineI x = spJ wProtect [Lib.itoa x.page, Lib.itoa x.count, protT x.prot] := by unfold lineI tokI; rw [if_neg h1, if_neg h2, if_pos h3]
  rw [he]
  unfold wProtect
  have h3d : (x.op = 3) = True := eq_true h3
  simp only [go_sem, Tryd.ntmps28, h1, h2, h3d, decide_true, decide_false]
  refine sem_drawU [] [] (pf := [47, 48]) (mf := []) mixed tabFo_ok (pure_of tabFo_data) (grow_of tabFo_data) noMk (ones [0, 1, 2, 3, 7, 8, 4, 5, 6, 9, 10, 11]) (by kernel_rfl) ?_
  simp only [go_sem]
  refine call_join (mem_at 1 rfl) [x.page, x.count] rfl (by simp only [List.mem_cons, List.not_mem_nil, or_false]; rintro n (rfl | rfl) <;> omega) (by simp only [List.length_cons, List.length_nil]; decide) ?_
  simp only [go_sem, List.map_cons, List.map_nil]
  have hpl : (protT x.prot).length <= 2 := by unfold protT; split <;> decide
  obtain ⟨a1, _, _⟩ := itoa_small (n := x.page) (by omega) (by omega)
  obtain ⟨a2, _, _⟩ := itoa_small (n := x.count) (by omega) (by omega)
  have hsl := spJ_len [Lib.itoa x.page, Lib.itoa x.count] [112, 114, 111, 116, 101, 99, 116] 22 (by simp only [List.mem_cons, List.not_mem_nil, or_false]; rintro n (rfl | rfl) <;> assumption)
  have hva : spJ [112, 114, 111, 116, 101, 99, 116] [Lib.itoa x.page, Lib.itoa x.count, protT x.prot] = spJ [112, 114, 111, 116, 101, 99, 116] [Lib.itoa x.page, Lib.itoa x.count] ++ ([32] ++ protT x.prot) := rfl
  rw [hva]
  generalize spJ [112, 114, 111, 116, 101, 99, 116] [Lib.itoa x.page, Lib.itoa x.count] = S at *
  simp only [List.length_cons, List.length_nil] at hsl
  refine ⟨by simp only [maxLen]; omega, call_data formatProtR (mem_at 2 rfl) [.int .i64 x.prot] _ rfl ⟨x.prot, rfl, rfl⟩ (.inl rfl) ?_⟩
  simp only [go_sem, List.length_append, List.length_cons, List.length_nil, List.append_assoc]
  refine ⟨by simp only [maxLen]; omega, ?_⟩
  refine post_resO (mv' := []) (.inl rfl) [.tmp 2] rfl (fun _ h => h) ?_
  simp only [go_sem]
  exact le_fin (by rfl) (by simp only [AV.under])
 by_cases h4 : x.op = 4
 ·have he : lineI x = spJ (if x.value = 0 then wUnlock else wLock) [Lib.itoa x.page, Lib.itoa x.count] := by unfold lineI tokI; rw [if_neg h1, if_neg h2, if_neg h3, if_pos h4]
  rw [he]
  by_cases hv : x.value = 0
  ·rw [if_pos hv]
   unfold wUnlock
   have h4d : (x.op = 4) = True := eq_true h4
   simp only [go_sem, Tryd.ntmps28, h1, h2, h3, h4d, hv, eq_self, decide_true, decide_false, eq_self]
   refine call_join (mem_at 1 rfl) [x.page, x.count] rfl (by simp only [List.mem_cons, List.not_mem_nil, or_false]; rintro n (rfl | rfl) <;> omega) (by simp only [List.length_cons, List.length_nil]; decide) ?_
   simp only [go_sem, List.map_cons, List.map_nil]
   refine post_resO (mv' := []) (.inl rfl) [.tmp 2] rfl (fun _ h => h) ?_
   simp only [go_sem]
   exact le_fin (by rfl) (by simp only [AV.under])
  ·rw [if_neg hv]
   unfold wLock
   have h4d : (x.op = 4) = True := eq_true h4
   simp only [go_sem, Tryd.ntmps28, h1, h2, h3, h4d, hv, decide_true, decide_false, eq_self]
   refine call_join (mem_at 1 rfl) [x.page, x.count] rfl (by simp only [List.mem_cons, List.not_mem_nil, or_false]; rintro n (rfl | rfl) <;> omega) (by simp only [List.length_cons, List.length_nil]; decide) ?_
   simp only [go_sem, List.map_cons, List.map_nil]
   refine post_resO (mv' := []) (.inl rfl) [.tmp 2] rfl (fun _ h => h) ?_
   simp only [go_sem]
   exact le_fin (by rfl) (by simp only [AV.under])
 by_cases h5 : x.op = 5
 ·have he : lineI x = spJ wLoad [Lib.itoa x.page, Lib.itoa x.index] := by unfold lineI tokI; rw [if_neg h1, if_neg h2, if_neg h3, if_neg h4, if_pos h5]
  rw [he]
  unfold wLoad
  have h5d : (x.op = 5) = True := eq_true h5
  simp only [go_sem, Tryd.ntmps28, h1, h2, h3, h4, h5d, decide_true, decide_false]
  refine call_join (mem_at 1 rfl) [x.page, x.index] rfl (by simp only [List.mem_cons, List.not_mem_nil, or_false]; rintro n (rfl | rfl) <;> omega) (by simp only [List.length_cons, List.length_nil]; decide) ?_
  simp only [go_sem, List.map_cons, List.map_nil]
  refine post_resO (mv' := []) (.inl rfl) [.tmp 2] rfl (fun _ h => h) ?_
  simp only [go_sem]
  exact le_fin (by rfl) (by simp only [AV.under])
 by_cases h6 : x.op = 6
 ·have he : lineI x = spJ wStore [Lib.itoa x.page, Lib.itoa x.index, Lib.itoa x.value] := by unfold lineI tokI; rw [if_neg h1, if_neg h2, if_neg h3, if_neg h4, if_neg h5, if_pos h6]
  rw [he]
  unfold wStore
  have h6d : (x.op = 6) = True := eq_true h6
  simp only [go_sem, Tryd.ntmps28, h1, h2, h3, h4, h5, h6d, decide_true, decide_false]
  refine call_join (mem_at 1 rfl) [x.page, x.index, x.value] rfl (by simp only [List.mem_cons, List.not_mem_nil, or_false]; rintro n (rfl | rfl | rfl) <;> omega) (by simp only [List.length_cons, List.length_nil]; decide) ?_
  simp only [go_sem, List.map_cons, List.map_nil]
  refine post_resO (mv' := []) (.inl rfl) [.tmp 2] rfl (fun _ h => h) ?_
  simp only [go_sem]
  exact le_fin (by rfl) (by simp only [AV.under])
 by_cases h7 : x.op = 7
 ·have he : lineI x = spJ wRead [Lib.itoa x.file, Lib.itoa x.page, Lib.itoa x.index] := by unfold lineI tokI; rw [if_neg h1, if_neg h2, if_neg h3, if_neg h4, if_neg h5, if_neg h6, if_pos h7]
  rw [he]
  unfold wRead
  have h7d : (x.op = 7) = True := eq_true h7
  simp only [go_sem, Tryd.ntmps28, h1, h2, h3, h4, h5, h6, h7d, decide_true, decide_false]
  refine call_join (mem_at 1 rfl) [x.file, x.page, x.index] rfl (by simp only [List.mem_cons, List.not_mem_nil, or_false]; rintro n (rfl | rfl | rfl) <;> omega) (by simp only [List.length_cons, List.length_nil]; decide) ?_
  simp only [go_sem, List.map_cons, List.map_nil]
  refine post_resO (mv' := []) (.inl rfl) [.tmp 2] rfl (fun _ h => h) ?_
  simp only [go_sem]
  exact le_fin (by rfl) (by simp only [AV.under])
 by_cases h8 : x.op = 8
 ·have he : lineI x = spJ wWrite [Lib.itoa x.file, Lib.itoa x.page, Lib.itoa x.index, Lib.itoa x.value] := by unfold lineI tokI; rw [if_neg h1, if_neg h2, if_neg h3, if_neg h4, if_neg h5, if_neg h6, if_neg h7, if_pos h8]
  rw [he]
  unfold wWrite
  have h8d : (x.op = 8) = True := eq_true h8
  simp only [go_sem, Tryd.ntmps28, h1, h2, h3, h4, h5, h6, h7, h8d, decide_true, decide_false]
  refine call_join (mem_at 1 rfl) [x.file, x.page, x.index, x.value] rfl (by simp only [List.mem_cons, List.not_mem_nil, or_false]; rintro n (rfl | rfl | rfl | rfl) <;> omega) (by simp only [List.length_cons, List.length_nil]; decide) ?_
  simp only [go_sem, List.map_cons, List.map_nil]
  refine post_resO (mv' := []) (.inl rfl) [.tmp 2] rfl (fun _ h => h) ?_
  simp only [go_sem]
  exact le_fin (by rfl) (by simp only [AV.under])
 by_cases h9 : x.op = 9
 ·have he : lineI x = spJ wTruncate [Lib.itoa x.file, Lib.itoa x.count] := by unfold lineI tokI; rw [if_neg h1, if_neg h2, if_neg h3, if_neg h4, if_neg h5, if_neg h6, if_neg h7, if_neg h8, if_pos h9]
  rw [he]
  unfold wTruncate
  have h9d : (x.op = 9) = True := eq_true h9
  simp only [go_sem, Tryd.ntmps28, h1, h2, h3, h4, h5, h6, h7, h8, h9d, decide_true, decide_false]
  refine call_join (mem_at 1 rfl) [x.file, x.count] rfl (by simp only [List.mem_cons, List.not_mem_nil, or_false]; rintro n (rfl | rfl) <;> omega) (by simp only [List.length_cons, List.length_nil]; decide) ?_
  simp only [go_sem, List.map_cons, List.map_nil]
  refine post_resO (mv' := []) (.inl rfl) [.tmp 2] rfl (fun _ h => h) ?_
  simp only [go_sem]
  exact le_fin (by rfl) (by simp only [AV.under])
 by_cases h10 : x.op = 10
 ·have he : lineI x = spJ wSync [Lib.itoa x.file] := by unfold lineI tokI; rw [if_neg h1, if_neg h2, if_neg h3, if_neg h4, if_neg h5, if_neg h6, if_neg h7, if_neg h8, if_neg h9, if_pos h10]
  rw [he]
  unfold wSync
  have h10d : (x.op = 10) = True := eq_true h10
  simp only [go_sem, Tryd.ntmps28, h1, h2, h3, h4, h5, h6, h7, h8, h9, h10d, decide_true, decide_false]
  refine call_join (mem_at 1 rfl) [x.file] rfl (by simp only [List.mem_cons, List.not_mem_nil, or_false]; rintro n rfl <;> omega) (by simp only [List.length_cons, List.length_nil]; decide) ?_
  simp only [go_sem, List.map_cons, List.map_nil]
  refine post_resO (mv' := []) (.inl rfl) [.tmp 2] rfl (fun _ h => h) ?_
  simp only [go_sem]
  exact le_fin (by rfl) (by simp only [AV.under])
 by_cases h11 : x.op = 11
 ·have he : lineI x = spJ wFork [Lib.itoa x.value] := by unfold lineI tokI; rw [if_neg h1, if_neg h2, if_neg h3, if_neg h4, if_neg h5, if_neg h6, if_neg h7, if_neg h8, if_neg h9, if_neg h10, if_pos h11]
  rw [he]
  unfold wFork
  have h11d : (x.op = 11) = True := eq_true h11
  simp only [go_sem, Tryd.ntmps28, h1, h2, h3, h4, h5, h6, h7, h8, h9, h10, h11d, decide_true, decide_false]
  refine call_join (mem_at 1 rfl) [x.value] rfl (by simp only [List.mem_cons, List.not_mem_nil, or_false]; rintro n rfl <;> omega) (by simp only [List.length_cons, List.length_nil]; decide) ?_
  simp only [go_sem, List.map_cons, List.map_nil]
  refine post_resO (mv' := []) (.inl rfl) [.tmp 2] rfl (fun _ h => h) ?_
  simp only [go_sem]
  exact le_fin (by rfl) (by simp only [AV.under])
 have he : lineI x = wExit := by unfold lineI tokI; rw [if_neg h1, if_neg h2, if_neg h3, if_neg h4, if_neg h5, if_neg h6, if_neg h7, if_neg h8, if_neg h9, if_neg h10, if_neg h11]; rfl
 rw [he]
 unfold wExit
 simp only [go_sem, Tryd.ntmps28, h1, h2, h3, h4, h5, h6, h7, h8, h9, h10, h11, decide_false]
 refine post_resO (mv' := []) (.inl rfl) [.tmp 2] rfl (fun _ h => h) ?_
 simp only [go_sem]
 exact le_fin (by rfl) (by simp only [AV.under])
end Go.AM
namespace Go.AM
open Go Go.Proofs
def rightsR (ds : List D) (v : AV) : Prop := ∃ n : Int, ds = [.int .i64 n] /\ v = .dat (.str ([32] ++ protT n))
def flagW2 : List Str := flagW.map fun w => [32] ++ w
abbrev tabRm : List (Nat × Contract) := [(50, dataC joinR), (51, dataC rightsR)]
theorem tabRm_ok : OkG Tryd.prog (tbl tabRm) := okG_cons words_ok (okG_cons rights_ok okG_nil)
theorem rmapping_ok : OkF Tryd.prog 49 (dataC fmR) := by
 refine okF_data Tryd.func49 rfl (by decide) ?_
 rintro ds v ⟨x, rfl, hc, hop, rfl⟩
 have hx := mapOk_of hc hop
 obtain ⟨pg0, pg1, ct0, ct1, fl0, fl1, fi0, fi1, ix0, ix1, hpr⟩ := hx
 refine sem_of_awpK [5] (Γ := tbl tabRm) tabRm_ok _ _ _ ?_
 simp only [go_sem, Tryd.ntmps49]
 refine call_join (mem_at 0 rfl) [x.page, x.count] rfl (by simp only [List.mem_cons, List.not_mem_nil, or_false]; rintro n (rfl | rfl) <;> omega) (by simp only [List.length_cons, List.length_nil]; decide) ?_
 simp only [go_sem, List.map_cons, List.map_nil]
 obtain ⟨pt, hpt⟩ : ∃ pt : Str, pt = if x.page = -1 then wAny else Lib.itoa x.page := ⟨_, rfl⟩
 obtain ⟨il1, _, _⟩ := itoa_small (n := x.count) (by omega) (by omega)
 have hptl : pt.length <= 22 := by
  rw [hpt]
  split
  ·decide
  ·exact (itoa_small (by omega) (by omega)).1
 have hlow : lineI x = spJ wMap ([pt, Lib.itoa x.count, protT x.prot] ++ flagK x.flags 4 ++ (if x.file = -1 then [] else [wFile, Lib.itoa x.file, Lib.itoa x.index])) := by
  unfold lineI tokI
  rw [if_pos hop, ← flagT_eq, hpt]
 have hpl : (protT x.prot).length <= 2 := by unfold protT; split <;> decide
 have hBk : ∀ k, k <= 4 -> (spJ wMap (pt :: Lib.itoa x.count :: protT x.prot :: flagK x.flags k)).length <= 164 := fun k hk => by
  obtain ⟨g1, g2⟩ := flagK_mem x.flags k hk
  have h := spJ_len (pt :: Lib.itoa x.count :: protT x.prot :: flagK x.flags k) wMap 22 (fun t ht => by
   simp only [List.mem_cons] at ht
   rcases ht with rfl | rfl | rfl | h <;> first | omega | (have := g2 t h; omega))
  simp only [List.length_append, List.length_cons, List.length_nil, wMap] at h
  simp only [wMap]
  omega
 have hS2 : (spJ wMap [pt, Lib.itoa x.count]).length <= 60 := by
  have h := spJ_len [pt, Lib.itoa x.count] wMap 22 (by simp only [List.mem_cons, List.not_mem_nil, or_false]; rintro n (rfl | rfl) <;> assumption)
  simp only [List.length_cons, List.length_nil, wMap] at h
  simp only [wMap]
  omega
 have hS3 : spJ wMap [pt, Lib.itoa x.count] ++ 32 :: protT x.prot = spJ wMap (pt :: Lib.itoa x.count :: protT x.prot :: flagK x.flags 0) := rfl
 by_cases hpg : x.page = -1
 case' pos =>
  rw [if_pos hpg] at hpt
  have hpgd : (x.page < 0) = True := eq_true (by omega)
  simp only [go_sem, hpgd, decide_true]
  refine call_join (mem_at 0 rfl) [x.count] rfl (by simp only [List.mem_cons, List.not_mem_nil, or_false]; rintro n rfl; omega) (by simp only [List.length_cons, List.length_nil]; decide) ?_
  have hS1 : spJ [109, 97, 112, 32, 97, 110, 121] [Lib.itoa x.count] = spJ wMap [pt, Lib.itoa x.count] := by rw [hpt]; rfl
  simp only [go_sem, List.map_cons, List.map_nil, hS1]
  refine call_data rightsR (mem_at 1 rfl) [.int .i64 x.prot] _ rfl ⟨x.prot, rfl, rfl⟩ (.inl rfl) ?_
  simp only [go_sem, hS3, List.length_append, List.length_cons, List.length_nil]
  refine ⟨by simp only [maxLen]; omega, ?_⟩
  refine sem_le (σ' := ⟨slotsOf 57 [(1, .ptr 0 0 0), (3, .dat (.str (spJ wMap (pt :: Lib.itoa x.count :: protT x.prot :: flagK x.flags 0))))], [.box ((insL x).map .dat)], 0, []⟩) ?_ ?_
  ·refine le_end (own := [_]) (ex := [_, _]) (Nat.zero_le _) ?_ ?_ ?_
   ·simp only [go_sem]
   ·simp only [go_sem, AV.unders, AV.under]
   ·simp only [go_sem, insL, List.map_cons, List.map_nil, AV.unders, AV.under]
 case' neg =>
  rw [if_neg hpg] at hpt
  have hpgd : (x.page < 0) = False := eq_false (by omega)
  have hS1 : spJ [109, 97, 112] [Lib.itoa x.page, Lib.itoa x.count] = spJ wMap [pt, Lib.itoa x.count] := by rw [hpt]; rfl
  simp only [go_sem, hpgd, decide_false, hS1]
  refine call_data rightsR (mem_at 1 rfl) [.int .i64 x.prot] _ rfl ⟨x.prot, rfl, rfl⟩ (.inl rfl) ?_
  simp only [go_sem, hS3, List.length_append, List.length_cons, List.length_nil]
  refine ⟨by simp only [maxLen]; omega, ?_⟩
  refine sem_le (σ' := ⟨slotsOf 57 [(1, .ptr 0 0 0), (3, .dat (.str (spJ wMap (pt :: Lib.itoa x.count :: protT x.prot :: flagK x.flags 0))))], [.box ((insL x).map .dat)], 0, []⟩) ?_ ?_
  ·refine le_end (own := [_]) (ex := [_]) (Nat.zero_le _) ?_ ?_ ?_
   ·simp only [go_sem]
   ·simp only [go_sem, AV.unders, AV.under]
   ·simp only [go_sem, insL, List.map_cons, List.map_nil, AV.unders, AV.under]
 all_goals
  refine sem_of_awp (Γ := tbl tabRm) tabRm_ok _ _ _ ?_
  simp only [go_sem, insL, List.map_cons, List.map_nil]
  refine sem_loop (fun k : Nat => ⟨slotsOf 57 [(1, .ptr 0 0 0), (3, .dat (.str (spJ wMap (pt :: Lib.itoa x.count :: protT x.prot :: flagK x.flags k)))), (4, .sl 1 0 4), (5, .dat (.int .i64 (x.flags / 2 ^ k))), (6, .dat (.int .i64 k))], [.box ((insL x).map .dat), .row none (flagW2.map D.str)], 0, []⟩)
   (fun k => k <= 4) (fun k => 4 - k) 0 (Nat.zero_le _) ?_ ?_
  ·exact le_slots' (by simp only [go_sem, Int.natCast_zero, Int.pow_zero, Int.ediv_one])
  rintro k hk
  refine sem_of_awp (Γ := tbl tabRm) tabRm_ok _ _ _ ?_
  have hbk := hBk k hk
  have hnn : 0 <= x.flags / 2 ^ k := Int.ediv_nonneg fl0 (Int.pow_nonneg (by decide))
  have hle : x.flags / 2 ^ k <= 15 := Int.le_trans (Int.ediv_le_self _ fl0) fl1
  have hdiv : (x.flags / 2 ^ k).tdiv 2 = x.flags / 2 ^ (k + 1) := by
   rw [Int.tdiv_eq_ediv_of_nonneg hnn, Int.ediv_ediv_of_nonneg (Int.pow_nonneg (by decide)), Int.pow_succ]
  have hmod : (x.flags / 2 ^ k).tmod 2 = x.flags / 2 ^ k % 2 := Int.tmod_eq_emod_of_nonneg hnn
  have hnn2 : 0 <= x.flags / 2 ^ (k + 1) := Int.ediv_nonneg fl0 (Int.pow_nonneg (by decide))
  have hle2 : x.flags / 2 ^ (k + 1) <= 15 := Int.le_trans (Int.ediv_le_self _ fl0) fl1
  by_cases hlt : k < 4
  ·have k1 : (k : Int) < 4 := by omega
   have k0 : (0 : Int) <= (k : Int) := by omega
   have hn : D.nth (flagW2.map D.str) k = .str ([32] ++ fw k) := by
    rcases (by omega : k = 0 ∨ k = 1 ∨ k = 2 ∨ k = 3) with rfl | rfl | rfl | rfl <;> rfl
   have hwl : (fw k).length <= 6 := by
    rcases (by omega : k = 0 ∨ k = 1 ∨ k = 2 ∨ k = 3) with rfl | rfl | rfl | rfl <;> decide
   simp only [go_sem, k1, k0, hn, hmod, hdiv, decide_true, Int.toNat_natCast]
   refine ⟨inR_i64.2 (by omega), ?_⟩
   by_cases hb : x.flags / 2 ^ k % 2 = 1
   ·have hfk : flagK x.flags (k + 1) = flagK x.flags k ++ [fw k] := by
     show flagK x.flags k ++ _ = _
     rw [if_pos hb]
    have hfe : spJ wMap (pt :: Lib.itoa x.count :: protT x.prot :: flagK x.flags k) ++ 32 :: fw k = spJ wMap (pt :: Lib.itoa x.count :: protT x.prot :: flagK x.flags (k + 1)) := by rw [hfk, ← List.cons_append, ← List.cons_append, ← List.cons_append, spJ_app]; rfl
    simp only [go_sem, hb, eq_self, decide_true, k1, k0, hn, hdiv, Int.toNat_natCast, List.cons_append, List.nil_append, hfe, List.length_cons]
    refine ⟨by show k < 4; omega, by simp only [maxLen]; omega, inR_i64.2 (by omega), inR_i64.2 (by omega), k + 1, by omega, by omega, le_slots' (by simp only [go_sem, Int.natCast_add, Int.cast_ofNat_Int])⟩
   ·have hfk : flagK x.flags (k + 1) = flagK x.flags k := by
     show flagK x.flags k ++ _ = _
     rw [if_neg hb, List.append_nil]
    simp only [go_sem, hb, decide_false, hdiv]
    refine ⟨inR_i64.2 (by omega), inR_i64.2 (by omega), k + 1, by omega, by omega, ?_⟩
    rw [hfk]
    exact le_slots' (by simp only [go_sem, Int.natCast_add, Int.cast_ofNat_Int])
  ·have hke : k = 4 := by omega
   subst hke
   rw [hlow]
   by_cases hfi : x.file = -1
   ·have hfid : (0 <= x.file) = False := eq_false (by omega)
    rw [if_pos hfi, List.append_nil]
    simp only [go_sem, insL, List.map_cons, List.map_nil, hfid, decide_false, flagW2, flagW, List.length_cons, List.length_nil, List.cons_append, List.nil_append]
    exact post_data (.inl rfl) [2] rfl trivial rfl
   ·rw [if_neg hfi]
    have hfid : (0 <= x.file) = True := eq_true (by omega)
    obtain ⟨jl1, _, _⟩ := itoa_small (n := x.file) (by omega) (by omega)
    obtain ⟨jl2, _, _⟩ := itoa_small (n := x.index) (by omega) (by omega)
    have hfe : spJ wMap (pt :: Lib.itoa x.count :: protT x.prot :: (flagK x.flags 4 ++ [wFile, Lib.itoa x.file, Lib.itoa x.index])) = spJ wMap (pt :: Lib.itoa x.count :: protT x.prot :: flagK x.flags 4) ++ spJ [32, 102, 105, 108, 101] [Lib.itoa x.file, Lib.itoa x.index] := by
     rw [← List.cons_append, ← List.cons_append, ← List.cons_append, spJ_app, spJ_cons, ← spJ_out]
     rfl
    have hsj := spJ_len [Lib.itoa x.file, Lib.itoa x.index] [32, 102, 105, 108, 101] 22 (by simp only [List.mem_cons, List.not_mem_nil, or_false]; rintro n (rfl | rfl) <;> assumption)
    simp only [List.length_cons, List.length_nil] at hsj
    simp only [go_sem, insL, List.map_cons, List.map_nil, hfid, decide_true, flagW2, flagW, List.length_cons, List.length_nil]
    refine call_join (mem_at 0 rfl) [x.file, x.index] rfl (by simp only [List.mem_cons, List.not_mem_nil, or_false]; rintro n (rfl | rfl) <;> omega) (by simp only [List.length_cons, List.length_nil]; decide) ?_
    simp only [go_sem, List.map_cons, List.map_nil, List.cons_append, List.nil_append]
    rw [hfe]
    refine ⟨by simp only [maxLen]; omega, ?_⟩
    refine post_resO (mv' := []) (.inl rfl) [.tmp 2] rfl (fun _ h => h) ?_
    simp only [go_sem]
    exact le_fin (by rfl) (by simp only [AV.under])
end Go.AM
namespace Go.AM
open Go Go.Proofs
abbrev tabRl : List (Nat × Contract) := [(49, dataC fmR), (50, dataC joinR), (51, dataC rightsR)]
theorem tabRl_ok : OkG Tryd.prog (tbl tabRl) := okG_cons rmapping_ok (okG_cons words_ok (okG_cons rights_ok okG_nil))
theorem tabRl_data : ∀ g C, (g, C) ∈ tabRl -> g ∈ [50, 51] -> ∃ R, C = dataC R := by
 intro g C h _
 simp only [tabRl, List.mem_cons, Prod.mk.injEq, List.not_mem_nil, or_false] at h
 rcases h with ⟨_, rfl⟩ | ⟨_, rfl⟩ | ⟨_, rfl⟩ <;> exact ⟨_, rfl⟩
theorem line_ok : OkF Tryd.prog 30 (dataC fmtR) := by
 refine okF_data Tryd.func30 rfl (by decide) ?_
 rintro ds v ⟨x, rfl, hc, rfl⟩
 obtain ⟨o0, o1, p0, p1, c0, c1, i0, i1, v0, v1, f0, f1⟩ := small_of hc
 refine sem_of_awp (Γ := tbl tabRl) tabRl_ok _ _ _ ?_
 by_cases h1 : x.op = 1
 ·have h1d : (x.op = 1) = True := eq_true h1
  simp only [go_sem, Tryd.ntmps30, h1d, decide_true]
  refine call_data fmR (mem_at 0 rfl) [insD x] _ rfl ⟨x, rfl, hc, h1, rfl⟩ (.inl rfl) ?_
  simp only [go_sem]
  refine post_resO (mv' := []) (.inl rfl) [.tmp 2] rfl (fun _ h => h) ?_
  simp only [go_sem]
  exact le_fin (by rfl) (by simp only [AV.under])
 by_cases h2 : x.op = 2
 ·have he : lineI x = spJ wUnmap [Lib.itoa x.page, Lib.itoa x.count] := by unfold lineI tokI; rw [if_neg h1, if_pos h2]
  rw [he]
  unfold wUnmap
  have h2d : (x.op = 2) = True := eq_true h2
  simp only [go_sem, Tryd.ntmps30, h1, h2d, decide_true, decide_false]
  refine call_join (mem_at 1 rfl) [x.page, x.count] rfl (by simp only [List.mem_cons, List.not_mem_nil, or_false]; rintro n (rfl | rfl) <;> omega) (by simp only [List.length_cons, List.length_nil]; decide) ?_
  simp only [go_sem, List.map_cons, List.map_nil]
  refine post_resO (mv' := []) (.inl rfl) [.tmp 2] rfl (fun _ h => h) ?_
  simp only [go_sem]
  exact le_fin (by rfl) (by simp only [AV.under])
 by_cases h3 : x.op = 3
 ·have he : lineI x = spJ wProtect [Lib.itoa x.page, Lib.itoa x.count, protT x.prot] := by unfold lineI tokI; rw [if_neg h1, if_neg h2, if_pos h3]
  rw [he]
  unfold wProtect
  have h3d : (x.op = 3) = True := eq_true h3
  simp only [go_sem, Tryd.ntmps30, h1, h2, h3d, decide_true, decide_false]
  refine sem_drawU [] [] (pf := [50, 51]) (mf := []) mixed tabRl_ok (pure_of tabRl_data) (grow_of tabRl_data) noMk (ones [0, 1, 2, 3, 6, 7, 4, 5, 8, 9, 10]) (by kernel_rfl) ?_
  simp only [go_sem]
  refine call_join (mem_at 1 rfl) [x.page, x.count] rfl (by simp only [List.mem_cons, List.not_mem_nil, or_false]; rintro n (rfl | rfl) <;> omega) (by simp only [List.length_cons, List.length_nil]; decide) ?_
  simp only [go_sem, List.map_cons, List.map_nil]
  have hpl : (protT x.prot).length <= 2 := by unfold protT; split <;> decide
  obtain ⟨a1, _, _⟩ := itoa_small (n := x.page) (by omega) (by omega)
  obtain ⟨a2, _, _⟩ := itoa_small (n := x.count) (by omega) (by omega)
  have hsl := spJ_len [Lib.itoa x.page, Lib.itoa x.count] [112, 114, 111, 116, 101, 99, 116] 22 (by simp only [List.mem_cons, List.not_mem_nil, or_false]; rintro n (rfl | rfl) <;> assumption)
  have hva : spJ [112, 114, 111, 116, 101, 99, 116] [Lib.itoa x.page, Lib.itoa x.count, protT x.prot] = spJ [112, 114, 111, 116, 101, 99, 116] [Lib.itoa x.page, Lib.itoa x.count] ++ ([32] ++ protT x.prot) := rfl
  rw [hva]
  generalize spJ [112, 114, 111, 116, 101, 99, 116] [Lib.itoa x.page, Lib.itoa x.count] = S at *
  simp only [List.length_cons, List.length_nil] at hsl
  refine call_data rightsR (mem_at 2 rfl) [.int .i64 x.prot] _ rfl ⟨x.prot, rfl, rfl⟩ (.inl rfl) ?_
  simp only [go_sem, List.length_append, List.length_cons, List.length_nil]
  refine ⟨by simp only [maxLen]; omega, ?_⟩
  refine post_resO (mv' := []) (.inl rfl) [.tmp 2] rfl (fun _ h => h) ?_
  simp only [go_sem]
  exact le_fin (by rfl) (by simp only [AV.under])
 by_cases h4 : x.op = 4
 ·have he : lineI x = spJ (if x.value = 0 then wUnlock else wLock) [Lib.itoa x.page, Lib.itoa x.count] := by unfold lineI tokI; rw [if_neg h1, if_neg h2, if_neg h3, if_pos h4]
  rw [he]
  by_cases hv : x.value = 0
  ·rw [if_pos hv]
   unfold wUnlock
   have hv1 : ¬ x.value = 1 := by omega
   have h4d : (x.op = 4) = True := eq_true h4
   simp only [go_sem, Tryd.ntmps30, h1, h2, h3, h4d, hv1, decide_true, decide_false, eq_self]
   refine call_join (mem_at 1 rfl) [x.page, x.count] rfl (by simp only [List.mem_cons, List.not_mem_nil, or_false]; rintro n (rfl | rfl) <;> omega) (by simp only [List.length_cons, List.length_nil]; decide) ?_
   simp only [go_sem, List.map_cons, List.map_nil]
   refine post_resO (mv' := []) (.inl rfl) [.tmp 2] rfl (fun _ h => h) ?_
   simp only [go_sem]
   exact le_fin (by rfl) (by simp only [AV.under])
  ·rw [if_neg hv]
   unfold wLock
   have hv1 : x.value = 1 := by have := lock_val hc h4; omega
   have h4d : (x.op = 4) = True := eq_true h4
   simp only [go_sem, Tryd.ntmps30, h1, h2, h3, h4d, hv1, decide_true, decide_false, eq_self]
   refine call_join (mem_at 1 rfl) [x.page, x.count] rfl (by simp only [List.mem_cons, List.not_mem_nil, or_false]; rintro n (rfl | rfl) <;> omega) (by simp only [List.length_cons, List.length_nil]; decide) ?_
   simp only [go_sem, List.map_cons, List.map_nil]
   refine post_resO (mv' := []) (.inl rfl) [.tmp 2] rfl (fun _ h => h) ?_
   simp only [go_sem]
   exact le_fin (by rfl) (by simp only [AV.under])
 by_cases h5 : x.op = 5
 ·have he : lineI x = spJ wLoad [Lib.itoa x.page, Lib.itoa x.index] := by unfold lineI tokI; rw [if_neg h1, if_neg h2, if_neg h3, if_neg h4, if_pos h5]
  rw [he]
  unfold wLoad
  have h5d : (x.op = 5) = True := eq_true h5
  simp only [go_sem, Tryd.ntmps30, h1, h2, h3, h4, h5d, decide_true, decide_false]
  refine call_join (mem_at 1 rfl) [x.page, x.index] rfl (by simp only [List.mem_cons, List.not_mem_nil, or_false]; rintro n (rfl | rfl) <;> omega) (by simp only [List.length_cons, List.length_nil]; decide) ?_
  simp only [go_sem, List.map_cons, List.map_nil]
  refine post_resO (mv' := []) (.inl rfl) [.tmp 2] rfl (fun _ h => h) ?_
  simp only [go_sem]
  exact le_fin (by rfl) (by simp only [AV.under])
 by_cases h6 : x.op = 6
 ·have he : lineI x = spJ wStore [Lib.itoa x.page, Lib.itoa x.index, Lib.itoa x.value] := by unfold lineI tokI; rw [if_neg h1, if_neg h2, if_neg h3, if_neg h4, if_neg h5, if_pos h6]
  rw [he]
  unfold wStore
  have h6d : (x.op = 6) = True := eq_true h6
  simp only [go_sem, Tryd.ntmps30, h1, h2, h3, h4, h5, h6d, decide_true, decide_false]
  refine call_join (mem_at 1 rfl) [x.page, x.index, x.value] rfl (by simp only [List.mem_cons, List.not_mem_nil, or_false]; rintro n (rfl | rfl | rfl) <;> omega) (by simp only [List.length_cons, List.length_nil]; decide) ?_
  simp only [go_sem, List.map_cons, List.map_nil]
  refine post_resO (mv' := []) (.inl rfl) [.tmp 2] rfl (fun _ h => h) ?_
  simp only [go_sem]
  exact le_fin (by rfl) (by simp only [AV.under])
 by_cases h7 : x.op = 7
 ·have he : lineI x = spJ wRead [Lib.itoa x.file, Lib.itoa x.page, Lib.itoa x.index] := by unfold lineI tokI; rw [if_neg h1, if_neg h2, if_neg h3, if_neg h4, if_neg h5, if_neg h6, if_pos h7]
  rw [he]
  unfold wRead
  have h7d : (x.op = 7) = True := eq_true h7
  simp only [go_sem, Tryd.ntmps30, h1, h2, h3, h4, h5, h6, h7d, decide_true, decide_false]
  refine call_join (mem_at 1 rfl) [x.file, x.page, x.index] rfl (by simp only [List.mem_cons, List.not_mem_nil, or_false]; rintro n (rfl | rfl | rfl) <;> omega) (by simp only [List.length_cons, List.length_nil]; decide) ?_
  simp only [go_sem, List.map_cons, List.map_nil]
  refine post_resO (mv' := []) (.inl rfl) [.tmp 2] rfl (fun _ h => h) ?_
  simp only [go_sem]
  exact le_fin (by rfl) (by simp only [AV.under])
 by_cases h8 : x.op = 8
 ·have he : lineI x = spJ wWrite [Lib.itoa x.file, Lib.itoa x.page, Lib.itoa x.index, Lib.itoa x.value] := by unfold lineI tokI; rw [if_neg h1, if_neg h2, if_neg h3, if_neg h4, if_neg h5, if_neg h6, if_neg h7, if_pos h8]
  rw [he]
  unfold wWrite
  have h8d : (x.op = 8) = True := eq_true h8
  simp only [go_sem, Tryd.ntmps30, h1, h2, h3, h4, h5, h6, h7, h8d, decide_true, decide_false]
  refine call_join (mem_at 1 rfl) [x.file, x.page, x.index, x.value] rfl (by simp only [List.mem_cons, List.not_mem_nil, or_false]; rintro n (rfl | rfl | rfl | rfl) <;> omega) (by simp only [List.length_cons, List.length_nil]; decide) ?_
  simp only [go_sem, List.map_cons, List.map_nil]
  refine post_resO (mv' := []) (.inl rfl) [.tmp 2] rfl (fun _ h => h) ?_
  simp only [go_sem]
  exact le_fin (by rfl) (by simp only [AV.under])
 by_cases h9 : x.op = 9
 ·have he : lineI x = spJ wTruncate [Lib.itoa x.file, Lib.itoa x.count] := by unfold lineI tokI; rw [if_neg h1, if_neg h2, if_neg h3, if_neg h4, if_neg h5, if_neg h6, if_neg h7, if_neg h8, if_pos h9]
  rw [he]
  unfold wTruncate
  have h9d : (x.op = 9) = True := eq_true h9
  simp only [go_sem, Tryd.ntmps30, h1, h2, h3, h4, h5, h6, h7, h8, h9d, decide_true, decide_false]
  refine call_join (mem_at 1 rfl) [x.file, x.count] rfl (by simp only [List.mem_cons, List.not_mem_nil, or_false]; rintro n (rfl | rfl) <;> omega) (by simp only [List.length_cons, List.length_nil]; decide) ?_
  simp only [go_sem, List.map_cons, List.map_nil]
  refine post_resO (mv' := []) (.inl rfl) [.tmp 2] rfl (fun _ h => h) ?_
  simp only [go_sem]
  exact le_fin (by rfl) (by simp only [AV.under])
 by_cases h10 : x.op = 10
 ·have he : lineI x = spJ wSync [Lib.itoa x.file] := by unfold lineI tokI; rw [if_neg h1, if_neg h2, if_neg h3, if_neg h4, if_neg h5, if_neg h6, if_neg h7, if_neg h8, if_neg h9, if_pos h10]
  rw [he]
  unfold wSync
  have h10d : (x.op = 10) = True := eq_true h10
  simp only [go_sem, Tryd.ntmps30, h1, h2, h3, h4, h5, h6, h7, h8, h9, h10d, decide_true, decide_false]
  refine call_join (mem_at 1 rfl) [x.file] rfl (by simp only [List.mem_cons, List.not_mem_nil, or_false]; rintro n rfl <;> omega) (by simp only [List.length_cons, List.length_nil]; decide) ?_
  simp only [go_sem, List.map_cons, List.map_nil]
  refine post_resO (mv' := []) (.inl rfl) [.tmp 2] rfl (fun _ h => h) ?_
  simp only [go_sem]
  exact le_fin (by rfl) (by simp only [AV.under])
 by_cases h11 : x.op = 11
 ·have he : lineI x = spJ wFork [Lib.itoa x.value] := by unfold lineI tokI; rw [if_neg h1, if_neg h2, if_neg h3, if_neg h4, if_neg h5, if_neg h6, if_neg h7, if_neg h8, if_neg h9, if_neg h10, if_pos h11]
  rw [he]
  unfold wFork
  have h11d : (x.op = 11) = True := eq_true h11
  simp only [go_sem, Tryd.ntmps30, h1, h2, h3, h4, h5, h6, h7, h8, h9, h10, h11d, decide_true, decide_false]
  refine call_join (mem_at 1 rfl) [x.value] rfl (by simp only [List.mem_cons, List.not_mem_nil, or_false]; rintro n rfl <;> omega) (by simp only [List.length_cons, List.length_nil]; decide) ?_
  simp only [go_sem, List.map_cons, List.map_nil]
  refine post_resO (mv' := []) (.inl rfl) [.tmp 2] rfl (fun _ h => h) ?_
  simp only [go_sem]
  exact le_fin (by rfl) (by simp only [AV.under])
 have he : lineI x = wExit := by unfold lineI tokI; rw [if_neg h1, if_neg h2, if_neg h3, if_neg h4, if_neg h5, if_neg h6, if_neg h7, if_neg h8, if_neg h9, if_neg h10, if_neg h11]; rfl
 rw [he]
 unfold wExit
 simp only [go_sem, Tryd.ntmps30, h1, h2, h3, h4, h5, h6, h7, h8, h9, h10, h11, decide_false]
 refine post_resO (mv' := []) (.inl rfl) [.tmp 2] rfl (fun _ h => h) ?_
 simp only [go_sem]
 exact le_fin (by rfl) (by simp only [AV.under])
end Go.AM
namespace Go.AM
open Go Go.Proofs
def dig3 (u : Nat) : Str := if u < 10 then [UInt8.ofNat (48 + u)] else if u < 100 then [UInt8.ofNat (48 + u / 10), UInt8.ofNat (48 + u % 10)] else [UInt8.ofNat (48 + u / 100), UInt8.ofNat (48 + u / 10 % 10), UInt8.ofNat (48 + u % 10)]
theorem dec3 {u : Nat} (h : u < 1000) : Lib.decDigits u = dig3 u := by
 unfold dig3
 by_cases h1 : u < 10
 ·rw [if_pos h1, Lib.decDigits_one h1]
 ·rw [if_neg h1]
  by_cases h2 : u < 100
  ·rw [if_pos h2, Lib.decDigits_two h1 h2]
  ·rw [if_neg h2, Lib.decDigits, dif_neg h1, Lib.decDigits_two (by omega) (by omega), Nat.div_div_eq_div_mul]
   rfl
def digOk (u : Nat) : Bool := decide (numN (dig3 u) = (u : Int)) && decide (1 <= (dig3 u).length) && decide ((dig3 u).length <= 3) && (dig3 u).all fun b => decide (48 <= b.toNat) && decide (b.toNat <= 57)
theorem dig_all : ∀ u : Fin 1000, digOk u.val = true := by decide +kernel
structure NumOk (n : Int) (s : Str) : Prop where
 val : numN s = n
 l1 : 1 <= s.length
 l3 : s.length <= 3
 dig : ∀ b ∈ s, 48 <= b.toNat /\ b.toNat <= 57
theorem numOk {n : Int} (h0 : 0 <= n) (h1 : n <= 999) : NumOk n (Lib.itoa n) := by
 obtain ⟨u, rfl⟩ : ∃ u : Nat, n = u := ⟨n.toNat, by omega⟩
 rw [Lib.itoa_nonneg, dec3 (by omega)]
 have h := dig_all ⟨u, by omega⟩
 simp only [digOk, Bool.and_eq_true, decide_eq_true_eq, List.all_eq_true] at h
 exact ⟨h.1.1.1, h.1.1.2, h.1.2, h.2⟩
def Word (s : Str) : Prop := s ≠ [] /\ ∀ b ∈ s, b ≠ 32 /\ b ≠ 10
theorem NumOk.word {n : Int} {s : Str} (h : NumOk n s) : Word s := by
 refine ⟨fun e => by have := h.l1; rw [e] at this; simp at this, fun b hb => ?_⟩
 have := h.dig b hb
 constructor
 ·rintro rfl; simp at this
 ·rintro rfl; simp at this
instance (s : Str) : Decidable (Word s) := inferInstanceAs (Decidable (_ /\ _))
theorem splitC_app (c : UInt8) : ∀ (s t : Str), splitC c (s ++ c :: t) = splitC c s ++ splitC c t
 | [], t => by rw [List.nil_append, splitC_cons, if_pos rfl]; rfl
 | b :: s, t => by
  have ih := splitC_app c s t
  rw [List.cons_append, splitC_cons, splitC_cons]
  by_cases h : b = c
  ·rw [if_pos h, if_pos h, ih]; rfl
  ·rw [if_neg h, if_neg h, ih]
   cases hs : splitC c s with
   | nil => exact absurd hs (splitC_ne c s)
   | cons x r => rfl
theorem splitC_none' {c : UInt8} : ∀ s : Str, (∀ b ∈ s, b ≠ c) -> splitC c s = [s]
 | [], _ => rfl
 | b :: s, h => by
  rw [splitC_cons, if_neg (h b (by simp)), splitC_none' s fun b hb => h b (by simp [hb])]
theorem wordsW_app (s t : Str) : wordsW (s ++ 32 :: t) = wordsW s ++ wordsW t := by
 unfold wordsW
 rw [splitC_app, List.filter_append]
theorem wordsW_word {s : Str} (h : Word s) : wordsW s = [s] := by
 unfold wordsW
 rw [splitC_none' s fun b hb => (h.2 b hb).1]
 simp [h.1]
theorem lRun_split : ∀ (s c : Str), lRun c s = (match splitC 10 s with
  | [] => []
  | x :: r => if r = [] then (if c ++ x = [] then [] else [c ++ x]) else (c ++ x) :: (if r.getLast? = some [] then r.dropLast else r))
 | [], c => by
  unfold lRun
  simp [splitC]
 | b :: t, c => by
  rw [lRun_cons, splitC_cons]
  by_cases h : b = 10
  ·rw [if_pos h, if_pos h, lRun_split t []]
   cases hs : splitC 10 t with
   | nil => exact absurd hs (splitC_ne 10 t)
   | cons x r =>
    simp only [List.nil_append, List.append_nil, reduceCtorEq, if_false]
    by_cases hr : r = []
    ·subst hr
     by_cases hx : x = []
     ·subst hx; simp
     ·simp [hx]
    ·rw [if_neg hr, List.getLast?_cons_of_ne_nil hr, List.dropLast_cons_of_ne_nil hr]
     split <;> rfl
  ·rw [if_neg h, if_neg h, lRun_split t (c ++ [b])]
   cases hs : splitC 10 t with
   | nil => exact absurd hs (splitC_ne 10 t)
   | cons x r => simp
theorem linesW_split (s : Str) : linesW s = if (splitC 10 s).getLast? = some [] then (splitC 10 s).dropLast else splitC 10 s := by
 unfold linesW
 rw [lRun_split]
 cases hs : splitC 10 s with
 | nil => exact absurd hs (splitC_ne 10 s)
 | cons x r =>
  simp only [List.nil_append]
  by_cases hr : r = []
  ·subst hr
   by_cases hx : x = []
   ·subst hx; simp
   ·simp [hx]
  ·rw [if_neg hr, List.getLast?_cons_of_ne_nil hr, List.dropLast_cons_of_ne_nil hr]
   split <;> rfl
end Go.AM

