/- Own work over the model of the kit. -/
import Derived.Test.YtenlakaideefbaaDoorD13
import Derived.Test.YtenlakaideefbaaDoorProg
import Derived.Lib.Builder
import Derived.WalkKit
import Derived.Laws.Externs
import Derived.Lib.Walk
import Derived.Test.YtenlakaideefbaaDoorD4
import Derived.Shelf.LaysM
import Derived.Shelf.Strconv.Itoa3
import Derived.Lib.ItoaLen
import Derived.Lib.UnsafeStr
set_option linter.unnecessarySimpa false
set_option linter.unusedSimpArgs false
set_option linter.unusedVariables false
set_option maxHeartbeats 4000000
set_option maxRecDepth 100000
namespace Go.AM
private theorem eqk {α : Sort _} {a b : α} (h : a = b) : a = b := Eq.trans h (Eq.refl _)
open Go Go.Proofs Go.RowKit
theorem copyCheck_used (b : Nat) (w : World) (h0 : w.cell? ⟨b, 0, none⟩ = some (.pointer (some ⟨b, 0, none⟩))) :
  Calls Tryd.prog 45 #[.pointer (some ⟨b, 0, none⟩)] w fun e w' => e = .returned (.tuple #[]) /\ w' = w := by
 obtain ⟨j, hj, _⟩ := Option.map_eq_some_iff.1 (show (Tryd.prog.info? 52).map (·.size) = some 2 by kernel_rfl)
 have mixed : Tryd.prog.follows .mixedOrders = true := by kernel_rfl
 have u72 := run_underlying Tryd.underlying52
 have u70 := run_underlying Tryd.underlying49
 go_enter Tryd.func45, Tryd.ntmps45
 go_wp2
 rw [Lib.run_neq_ptr_same w _ Tryd.underlying49 hj]
 go_wp2
 go_end0
 exact ⟨rfl, rfl⟩
theorem copyCheck_fresh (b : Nat) (w : World) (h0 : w.cell? ⟨b, 0, none⟩ = some (.pointer none)) (hsh : w.shape? b = some (52, 2)) (hfz : w.frozen? ⟨b, 0, none⟩ = false) :
  Calls Tryd.prog 45 #[.pointer (some ⟨b, 0, none⟩)] w fun e w' => e = .returned (.tuple #[]) /\ w' = w.setCell ⟨b, 0, none⟩ (.pointer (some ⟨b, 0, none⟩)) := by
 obtain ⟨j, hj, hjs⟩ := Option.map_eq_some_iff.1 (show (Tryd.prog.info? 52).map (·.size) = some 2 by kernel_rfl)
 have hlies : liesAt Tryd.prog Tryd.prog.depth 52 (2 / Tryd.prog.cellsOf 52) 0 52 1 = true := by kernel_rfl
 have mixed : Tryd.prog.follows .mixedOrders = true := by kernel_rfl
 have u72 := run_underlying Tryd.underlying52
 have u70 := run_underlying Tryd.underlying49
 have u164 := run_underlying Tryd.underlying83
 go_enter Tryd.func45, Tryd.ntmps45
 go_wp2
 rw [Lib.run_to_unsafe w ⟨b, 0, none⟩ Tryd.underlying49 Tryd.underlying83 hj (by rw [hjs]; decide) hsh (Nat.zero_lt_succ 1)]
 simp only [Result.andThen]
 rw [Oper.upon_value]
 go_wp2
 rw [run_callFunc_extern Tryd.func60 (by kernel_rfl) (by kernel_rfl) (by kernel_rfl) (e := Extern.AbiNoEscape.same) (by kernel_rfl)]
 rw [Lib.run_noEscape]
 simp only [Result.andThen]
 rw [Oper.upon_value]
 go_wp2
 rw [Lib.run_from_unsafe w ⟨b, 0, none⟩ Tryd.underlying83 Tryd.underlying49 hj hsh hlies]
 simp only [Result.andThen]
 rw [Oper.upon_value]
 go_wp2
 go_end0
 exact ⟨rfl, rfl⟩
def copyCkC : Contract := fun args own v own' mv => ∃ (o : Nat) (u : Bool) (x : AV), args = [.ptr o 0 0] /\ own.getD o .dead = .bld 52 u [x] /\ v = .tup [] /\ own' = own.set o (.bld 52 true [x]) /\ mv = []
theorem copyCheck_ok : OkF Tryd.prog 45 copyCkC := by
 rintro args own v own' mv ⟨o, u, x, rfl, hobj, rfl, rfl, rfl⟩
 refine ⟨⟨_, _, Tryd.func45, rfl, by decide⟩, fun F φ w vs hc hs => ?_⟩
 simp only [AV.Rs, AV.R] at hs
 obtain ⟨c, vs', rfl, ⟨L, ho, hn, rfl⟩, rfl⟩ := hs
 have hr := getObj_rep hc ho
 rw [hobj] at hr
 simp only [ObjR] at hr
 obtain ⟨_, hbase, arr, _, hh, hsize, hra⟩ := hr
 obtain ⟨a0, rfl⟩ : ∃ a0, arr = [a0] := by
  match arr, hsize with
  | [a0], _ => exact ⟨a0, rfl⟩
 have holt : o < own.length := by
  rcases Nat.lt_or_ge o own.length with h | h
  ·exact h
  ·rw [hc.out o h] at ho; cases ho
 have e0 : (⟨L.b, L.base + 0 * L.sz + 0, none⟩ : Addr) = ⟨L.b, 0, none⟩ := by rw [hbase]; simp
 have eo : own.getD o .dead = .bld 52 u [x] := hobj
 rw [e0]
 have c0 : w.cell? ⟨L.b, 0, none⟩ = some (bldP L u) := by simp [World.cell?, hh]
 cases u with
 | true =>
  have hsame : own.set o (.bld 52 true [x]) = own := by
   rw [← hobj]
   simp [List.getD_eq_getElem?_getD, List.getElem?_eq_getElem holt]
  rw [hsame]
  refine (copyCheck_used L.b w c0).mono ?_
  rintro e w' ⟨rfl, rfl⟩
  exact ⟨_, F, φ, rfl, After.refl hc, by simp only [AV.R]; exact ⟨[], rfl, by simp only [AV.Rs]⟩⟩
 | false =>
  refine (copyCheck_fresh L.b w c0 (by simp [World.shape?, hh]) (by simp [World.frozen?, hh])).mono ?_
  rintro e w' ⟨rfl, rfl⟩
  have hoth : ∀ b, b ≠ L.b -> (w.setCell ⟨L.b, 0, none⟩ (.pointer (some ⟨L.b, 0, none⟩))).heap[b]? = w.heap[b]? := fun b hb => Below.heap_setCell w _ _ b hb
  refine ⟨_, F, φ, rfl, After.write hc ho hn rfl rfl rfl (by simp) hoth ?_, by simp only [AV.R]; exact ⟨[], rfl, by simp only [AV.Rs]⟩⟩
  simp only [ObjR]
  refine ⟨hn, hbase, [a0], (), ?_, rfl, AV.Rs_mono (fun _ h => h) (hc.sameOf ho hn hoth) (fun _ _ h => h) _ _ hra⟩
  rw [heap_setCell_same w L.b 0 _ _ _ hh]
  rfl
end Go.AM
namespace Go.AM
open Go Go.Proofs
noncomputable def T2 : Ty := (tyOf Tryd.prog 2).getD ⟨false, 0, 0, none, .bool⟩
@[go_sem] theorem ty2 : tyOf Tryd.prog 2 = some T2 := eqk (by kernel_rfl)
@[go_sem] theorem T2_agg : T2.agg = false := eqk (by kernel_rfl)
@[go_sem] theorem T2_size : T2.size = 1 := eqk (by kernel_rfl)
@[go_sem] theorem T2_bytes : T2.bytes = 8 := eqk (by kernel_rfl)
@[go_sem] theorem T2_want : T2.want = none := eqk (by kernel_rfl)
@[go_sem] theorem T2_desc : T2.desc = .int .i64 := eqk (by kernel_rfl)
@[go_sem] theorem T2_arr : T2.arr = none := eqk (by kernel_rfl)
@[go_sem] theorem T2_zero : T2.zero = some (.int .i64 0) := eqk (by kernel_rfl)
@[go_sem] theorem T2_zeroD : zeroD T2 = some (.int .i64 0) := eqk (by kernel_rfl)
@[go_sem] theorem T2_zeroElem : zeroElem T2 = some (.int .i64 0) := eqk (by kernel_rfl)
@[go_sem ↓] theorem T2_zs : (∃ z, T2.zero = some z /\ z.cells.size = T2.size) = True := by
 refine eq_true ⟨_, T2_zero, ?_⟩
 kernel_rfl
noncomputable def T3 : Ty := (tyOf Tryd.prog 3).getD ⟨false, 0, 0, none, .bool⟩
@[go_sem] theorem ty3 : tyOf Tryd.prog 3 = some T3 := eqk (by kernel_rfl)
@[go_sem] theorem T3_agg : T3.agg = false := eqk (by kernel_rfl)
@[go_sem] theorem T3_size : T3.size = 1 := eqk (by kernel_rfl)
@[go_sem] theorem T3_bytes : T3.bytes = 8 := eqk (by kernel_rfl)
@[go_sem] theorem T3_want : T3.want = none := eqk (by kernel_rfl)
@[go_sem] theorem T3_desc : T3.desc = .int .i64 := eqk (by kernel_rfl)
@[go_sem] theorem T3_arr : T3.arr = none := eqk (by kernel_rfl)
@[go_sem] theorem T3_zero : T3.zero = some (.int .i64 0) := eqk (by kernel_rfl)
@[go_sem] theorem T3_zeroD : zeroD T3 = some (.int .i64 0) := eqk (by kernel_rfl)
@[go_sem] theorem T3_zeroElem : zeroElem T3 = some (.int .i64 0) := eqk (by kernel_rfl)
@[go_sem ↓] theorem T3_zs : (∃ z, T3.zero = some z /\ z.cells.size = T3.size) = True := by
 refine eq_true ⟨_, T3_zero, ?_⟩
 kernel_rfl
noncomputable def T4 : Ty := (tyOf Tryd.prog 4).getD ⟨false, 0, 0, none, .bool⟩
@[go_sem] theorem ty4 : tyOf Tryd.prog 4 = some T4 := eqk (by kernel_rfl)
@[go_sem] theorem T4_agg : T4.agg = false := eqk (by kernel_rfl)
@[go_sem] theorem T4_size : T4.size = 1 := eqk (by kernel_rfl)
@[go_sem] theorem T4_bytes : T4.bytes = 1 := eqk (by kernel_rfl)
@[go_sem] theorem T4_want : T4.want = none := eqk (by kernel_rfl)
@[go_sem] theorem T4_desc : T4.desc = .bool := eqk (by kernel_rfl)
@[go_sem] theorem T4_arr : T4.arr = none := eqk (by kernel_rfl)
@[go_sem] theorem T4_zero : T4.zero = some (.bool false) := eqk (by kernel_rfl)
@[go_sem] theorem T4_zeroD : zeroD T4 = some (.bool false) := eqk (by kernel_rfl)
@[go_sem] theorem T4_zeroElem : zeroElem T4 = some (.bool false) := eqk (by kernel_rfl)
@[go_sem ↓] theorem T4_zs : (∃ z, T4.zero = some z /\ z.cells.size = T4.size) = True := by
 refine eq_true ⟨_, T4_zero, ?_⟩
 kernel_rfl
noncomputable def T5 : Ty := (tyOf Tryd.prog 5).getD ⟨false, 0, 0, none, .bool⟩
@[go_sem] theorem ty5 : tyOf Tryd.prog 5 = some T5 := eqk (by kernel_rfl)
@[go_sem] theorem T5_agg : T5.agg = false := eqk (by kernel_rfl)
@[go_sem] theorem T5_size : T5.size = 1 := eqk (by kernel_rfl)
@[go_sem] theorem T5_bytes : T5.bytes = 1 := eqk (by kernel_rfl)
@[go_sem] theorem T5_want : T5.want = none := eqk (by kernel_rfl)
@[go_sem] theorem T5_desc : T5.desc = .int .u8 := eqk (by kernel_rfl)
@[go_sem] theorem T5_arr : T5.arr = none := eqk (by kernel_rfl)
@[go_sem] theorem T5_zero : T5.zero = some (.int .u8 0) := eqk (by kernel_rfl)
@[go_sem] theorem T5_zeroD : zeroD T5 = some (.int .u8 0) := eqk (by kernel_rfl)
@[go_sem] theorem T5_zeroElem : zeroElem T5 = some (.int .u8 0) := eqk (by kernel_rfl)
@[go_sem ↓] theorem T5_zs : (∃ z, T5.zero = some z /\ z.cells.size = T5.size) = True := by
 refine eq_true ⟨_, T5_zero, ?_⟩
 kernel_rfl
noncomputable def T9 : Ty := (tyOf Tryd.prog 9).getD ⟨false, 0, 0, none, .bool⟩
@[go_sem] theorem ty9 : tyOf Tryd.prog 9 = some T9 := eqk (by kernel_rfl)
@[go_sem] theorem T9_agg : T9.agg = false := eqk (by kernel_rfl)
@[go_sem] theorem T9_size : T9.size = 1 := eqk (by kernel_rfl)
@[go_sem] theorem T9_bytes : T9.bytes = 16 := eqk (by kernel_rfl)
@[go_sem] theorem T9_want : T9.want = none := eqk (by kernel_rfl)
@[go_sem] theorem T9_desc : T9.desc = .string := eqk (by kernel_rfl)
@[go_sem] theorem T9_arr : T9.arr = none := eqk (by kernel_rfl)
@[go_sem] theorem T9_zero : T9.zero = some (.string ⟨#[]⟩) := eqk (by kernel_rfl)
@[go_sem] theorem T9_zeroD : zeroD T9 = some (.str []) := eqk (by kernel_rfl)
@[go_sem] theorem T9_zeroElem : zeroElem T9 = some (.str []) := eqk (by kernel_rfl)
@[go_sem ↓] theorem T9_zs : (∃ z, T9.zero = some z /\ z.cells.size = T9.size) = True := by
 refine eq_true ⟨_, T9_zero, ?_⟩
 kernel_rfl
noncomputable def T21 : Ty := (tyOf Tryd.prog 21).getD ⟨false, 0, 0, none, .bool⟩
@[go_sem] theorem ty21 : tyOf Tryd.prog 21 = some T21 := eqk (by kernel_rfl)
@[go_sem] theorem T21_agg : T21.agg = false := eqk (by kernel_rfl)
@[go_sem] theorem T21_size : T21.size = 1 := eqk (by kernel_rfl)
@[go_sem] theorem T21_bytes : T21.bytes = 4 := eqk (by kernel_rfl)
@[go_sem] theorem T21_want : T21.want = none := eqk (by kernel_rfl)
@[go_sem] theorem T21_desc : T21.desc = .int .i32 := eqk (by kernel_rfl)
@[go_sem] theorem T21_arr : T21.arr = none := eqk (by kernel_rfl)
@[go_sem] theorem T21_zero : T21.zero = some (.int .i32 0) := eqk (by kernel_rfl)
@[go_sem] theorem T21_zeroD : zeroD T21 = some (.int .i32 0) := eqk (by kernel_rfl)
@[go_sem] theorem T21_zeroElem : zeroElem T21 = some (.int .i32 0) := eqk (by kernel_rfl)
@[go_sem ↓] theorem T21_zs : (∃ z, T21.zero = some z /\ z.cells.size = T21.size) = True := by
 refine eq_true ⟨_, T21_zero, ?_⟩
 kernel_rfl
noncomputable def T22 : Ty := (tyOf Tryd.prog 22).getD ⟨false, 0, 0, none, .bool⟩
@[go_sem] theorem ty22 : tyOf Tryd.prog 22 = some T22 := eqk (by kernel_rfl)
@[go_sem] theorem T22_agg : T22.agg = false := eqk (by kernel_rfl)
@[go_sem] theorem T22_size : T22.size = 1 := eqk (by kernel_rfl)
@[go_sem] theorem T22_bytes : T22.bytes = 24 := eqk (by kernel_rfl)
@[go_sem] theorem T22_want : T22.want = none := eqk (by kernel_rfl)
@[go_sem] theorem T22_desc : T22.desc = .slice 36 := eqk (by kernel_rfl)
@[go_sem] theorem T22_arr : T22.arr = none := eqk (by kernel_rfl)
@[go_sem] theorem T22_zero : T22.zero = some (.slice none 0 0) := eqk (by kernel_rfl)
@[go_sem] theorem T22_zeroD : zeroD T22 = some (.sl none []) := eqk (by kernel_rfl)
@[go_sem] theorem T22_zeroElem : zeroElem T22 = some (.sl none []) := eqk (by kernel_rfl)
@[go_sem ↓] theorem T22_zs : (∃ z, T22.zero = some z /\ z.cells.size = T22.size) = True := by
 refine eq_true ⟨_, T22_zero, ?_⟩
 kernel_rfl
noncomputable def T32 : Ty := (tyOf Tryd.prog 32).getD ⟨false, 0, 0, none, .bool⟩
@[go_sem] theorem ty32 : tyOf Tryd.prog 32 = some T32 := eqk (by kernel_rfl)
@[go_sem] theorem T32_agg : T32.agg = false := eqk (by kernel_rfl)
@[go_sem] theorem T32_size : T32.size = 1 := eqk (by kernel_rfl)
@[go_sem] theorem T32_bytes : T32.bytes = 24 := eqk (by kernel_rfl)
@[go_sem] theorem T32_want : T32.want = none := eqk (by kernel_rfl)
@[go_sem] theorem T32_desc : T32.desc = .slice 9 := eqk (by kernel_rfl)
@[go_sem] theorem T32_arr : T32.arr = none := eqk (by kernel_rfl)
@[go_sem] theorem T32_zero : T32.zero = some (.slice none 0 0) := eqk (by kernel_rfl)
@[go_sem] theorem T32_zeroD : zeroD T32 = some (.sl none []) := eqk (by kernel_rfl)
@[go_sem] theorem T32_zeroElem : zeroElem T32 = some (.sl none []) := eqk (by kernel_rfl)
@[go_sem ↓] theorem T32_zs : (∃ z, T32.zero = some z /\ z.cells.size = T32.size) = True := by
 refine eq_true ⟨_, T32_zero, ?_⟩
 kernel_rfl
noncomputable def T36 : Ty := (tyOf Tryd.prog 36).getD ⟨false, 0, 0, none, .bool⟩
@[go_sem] theorem ty36 : tyOf Tryd.prog 36 = some T36 := eqk (by kernel_rfl)
@[go_sem] theorem T36_agg : T36.agg = true := eqk (by kernel_rfl)
@[go_sem] theorem T36_size : T36.size = 8 := eqk (by kernel_rfl)
@[go_sem] theorem T36_bytes : T36.bytes = 64 := eqk (by kernel_rfl)
@[go_sem] theorem T36_want : T36.want = some 8 := eqk (by kernel_rfl)
@[go_sem] theorem T36_arr : T36.arr = none := eqk (by kernel_rfl)
@[go_sem] theorem T36_places : placesOf Tryd.prog T36 = some [(0, 1), (1, 1), (2, 1), (3, 1), (4, 1), (5, 1), (6, 1), (7, 1)] := eqk (by kernel_rfl)
@[go_sem] theorem T36_f0 : fieldOf Tryd.prog (some T36) 0 = some (0, T3) := eqk (by kernel_rfl)
@[go_sem] theorem T36_f1 : fieldOf Tryd.prog (some T36) 1 = some (1, T3) := eqk (by kernel_rfl)
@[go_sem] theorem T36_f2 : fieldOf Tryd.prog (some T36) 2 = some (2, T3) := eqk (by kernel_rfl)
@[go_sem] theorem T36_f3 : fieldOf Tryd.prog (some T36) 3 = some (3, T3) := eqk (by kernel_rfl)
@[go_sem] theorem T36_f4 : fieldOf Tryd.prog (some T36) 4 = some (4, T3) := eqk (by kernel_rfl)
@[go_sem] theorem T36_f5 : fieldOf Tryd.prog (some T36) 5 = some (5, T3) := eqk (by kernel_rfl)
@[go_sem] theorem T36_f6 : fieldOf Tryd.prog (some T36) 6 = some (6, T3) := eqk (by kernel_rfl)
@[go_sem] theorem T36_f7 : fieldOf Tryd.prog (some T36) 7 = some (7, T3) := eqk (by kernel_rfl)
@[go_sem] theorem T36_zero : T36.zero = some (.agg #[.int .i64 0, .int .i64 0, .int .i64 0, .int .i64 0, .int .i64 0, .int .i64 0, .int .i64 0, .int .i64 0]) := eqk (by kernel_rfl)
@[go_sem] theorem T36_zeroElem : zeroElem T36 = some (.agg [.int .i64 0, .int .i64 0, .int .i64 0, .int .i64 0, .int .i64 0, .int .i64 0, .int .i64 0, .int .i64 0]) := eqk (by kernel_rfl)
@[go_sem ↓] theorem T36_zs : (∃ z, T36.zero = some z /\ z.cells.size = T36.size) = True := by
 refine eq_true ⟨_, T36_zero, ?_⟩
 kernel_rfl
noncomputable def T45 : Ty := (tyOf Tryd.prog 45).getD ⟨false, 0, 0, none, .bool⟩
@[go_sem] theorem ty45 : tyOf Tryd.prog 45 = some T45 := eqk (by kernel_rfl)
@[go_sem] theorem T45_agg : T45.agg = true := eqk (by kernel_rfl)
@[go_sem] theorem T45_size : T45.size = 2 := eqk (by kernel_rfl)
@[go_sem] theorem T45_bytes : T45.bytes = 32 := eqk (by kernel_rfl)
@[go_sem] theorem T45_want : T45.want = some 2 := eqk (by kernel_rfl)
@[go_sem] theorem T45_arr : T45.arr = none := eqk (by kernel_rfl)
@[go_sem] theorem T45_places : placesOf Tryd.prog T45 = some [(0, 1), (1, 1)] := eqk (by kernel_rfl)
@[go_sem] theorem T45_f0 : fieldOf Tryd.prog (some T45) 0 = some (0, T32) := eqk (by kernel_rfl)
@[go_sem] theorem T45_f1 : fieldOf Tryd.prog (some T45) 1 = some (1, T4) := eqk (by kernel_rfl)
@[go_sem] theorem T45_zero : T45.zero = some (.agg #[.slice none 0 0, .bool false]) := eqk (by kernel_rfl)
@[go_sem] theorem T45_zeroElem : zeroElem T45 = some (.agg [.sl none [], .bool false]) := eqk (by kernel_rfl)
@[go_sem ↓] theorem T45_zs : (∃ z, T45.zero = some z /\ z.cells.size = T45.size) = True := by
 refine eq_true ⟨_, T45_zero, ?_⟩
 kernel_rfl
noncomputable def T50 : Ty := (tyOf Tryd.prog 50).getD ⟨false, 0, 0, none, .bool⟩
@[go_sem] theorem ty50 : tyOf Tryd.prog 50 = some T50 := eqk (by kernel_rfl)
@[go_sem] theorem T50_agg : T50.agg = false := eqk (by kernel_rfl)
@[go_sem] theorem T50_size : T50.size = 1 := eqk (by kernel_rfl)
@[go_sem] theorem T50_bytes : T50.bytes = 24 := eqk (by kernel_rfl)
@[go_sem] theorem T50_want : T50.want = none := eqk (by kernel_rfl)
@[go_sem] theorem T50_desc : T50.desc = .slice 5 := eqk (by kernel_rfl)
@[go_sem] theorem T50_arr : T50.arr = none := eqk (by kernel_rfl)
@[go_sem] theorem T50_zero : T50.zero = some (.slice none 0 0) := eqk (by kernel_rfl)
@[go_sem] theorem T50_zeroD : zeroD T50 = some (.sl none []) := eqk (by kernel_rfl)
@[go_sem] theorem T50_zeroElem : zeroElem T50 = some (.sl none []) := eqk (by kernel_rfl)
@[go_sem ↓] theorem T50_zs : (∃ z, T50.zero = some z /\ z.cells.size = T50.size) = True := by
 refine eq_true ⟨_, T50_zero, ?_⟩
 kernel_rfl
noncomputable def T52 : Ty := (tyOf Tryd.prog 52).getD ⟨false, 0, 0, none, .bool⟩
@[go_sem] theorem ty52 : tyOf Tryd.prog 52 = some T52 := eqk (by kernel_rfl)
@[go_sem] theorem T52_agg : T52.agg = true := eqk (by kernel_rfl)
@[go_sem] theorem T52_size : T52.size = 2 := eqk (by kernel_rfl)
@[go_sem] theorem T52_bytes : T52.bytes = 32 := eqk (by kernel_rfl)
@[go_sem] theorem T52_want : T52.want = some 2 := eqk (by kernel_rfl)
@[go_sem] theorem T52_arr : T52.arr = none := eqk (by kernel_rfl)
@[go_sem] theorem T52_f1 : fieldOf Tryd.prog (some T52) 1 = some (1, T50) := eqk (by kernel_rfl)
noncomputable def T60 : Ty := (tyOf Tryd.prog 60).getD ⟨false, 0, 0, none, .bool⟩
@[go_sem] theorem ty60 : tyOf Tryd.prog 60 = some T60 := eqk (by kernel_rfl)
@[go_sem] theorem T60_agg : T60.agg = true := eqk (by kernel_rfl)
@[go_sem] theorem T60_size : T60.size = 16 := eqk (by kernel_rfl)
@[go_sem] theorem T60_bytes : T60.bytes = 128 := eqk (by kernel_rfl)
@[go_sem] theorem T60_want : T60.want = some 16 := eqk (by kernel_rfl)
@[go_sem] theorem T60_arr : T60.arr = none := eqk (by kernel_rfl)
@[go_sem] theorem T60_places : placesOf Tryd.prog T60 = some [(0, 8), (8, 8)] := eqk (by kernel_rfl)
@[go_sem] theorem T60_f0 : fieldOf Tryd.prog (some T60) 0 = some (0, T36) := eqk (by kernel_rfl)
@[go_sem] theorem T60_f1 : fieldOf Tryd.prog (some T60) 1 = some (8, T36) := eqk (by kernel_rfl)
@[go_sem] theorem T60_zero : T60.zero = some (.agg #[.int .i64 0, .int .i64 0, .int .i64 0, .int .i64 0, .int .i64 0, .int .i64 0, .int .i64 0, .int .i64 0, .int .i64 0, .int .i64 0, .int .i64 0, .int .i64 0, .int .i64 0, .int .i64 0, .int .i64 0, .int .i64 0]) := eqk (by kernel_rfl)
@[go_sem] theorem T60_zeroElem : zeroElem T60 = some (.agg [.int .i64 0, .int .i64 0, .int .i64 0, .int .i64 0, .int .i64 0, .int .i64 0, .int .i64 0, .int .i64 0, .int .i64 0, .int .i64 0, .int .i64 0, .int .i64 0, .int .i64 0, .int .i64 0, .int .i64 0, .int .i64 0]) := eqk (by kernel_rfl)
@[go_sem ↓] theorem T60_zs : (∃ z, T60.zero = some z /\ z.cells.size = T60.size) = True := by
 refine eq_true ⟨_, T60_zero, ?_⟩
 kernel_rfl
noncomputable def T63 : Ty := (tyOf Tryd.prog 63).getD ⟨false, 0, 0, none, .bool⟩
@[go_sem] theorem ty63 : tyOf Tryd.prog 63 = some T63 := eqk (by kernel_rfl)
@[go_sem] theorem T63_agg : T63.agg = true := eqk (by kernel_rfl)
@[go_sem] theorem T63_size : T63.size = 7 := eqk (by kernel_rfl)
@[go_sem] theorem T63_bytes : T63.bytes = 56 := eqk (by kernel_rfl)
@[go_sem] theorem T63_want : T63.want = some 7 := eqk (by kernel_rfl)
@[go_sem] theorem T63_desc : T63.desc = .array 7 3 := eqk (by kernel_rfl)
@[go_sem] theorem T63_arr : T63.arr = some (7, 3) := eqk (by kernel_rfl)
@[go_sem] theorem T63_places : placesOf Tryd.prog T63 = some [(0, 1), (1, 1), (2, 1), (3, 1), (4, 1), (5, 1), (6, 1)] := eqk (by kernel_rfl)
@[go_sem] theorem T63_zero : T63.zero = some (.agg #[.int .i64 0, .int .i64 0, .int .i64 0, .int .i64 0, .int .i64 0, .int .i64 0, .int .i64 0]) := eqk (by kernel_rfl)
@[go_sem] theorem T63_zeroElem : zeroElem T63 = some (.agg [.int .i64 0, .int .i64 0, .int .i64 0, .int .i64 0, .int .i64 0, .int .i64 0, .int .i64 0]) := eqk (by kernel_rfl)
@[go_sem ↓] theorem T63_zs : (∃ z, T63.zero = some z /\ z.cells.size = T63.size) = True := by
 refine eq_true ⟨_, T63_zero, ?_⟩
 kernel_rfl
noncomputable def T71 : Ty := (tyOf Tryd.prog 71).getD ⟨false, 0, 0, none, .bool⟩
@[go_sem] theorem ty71 : tyOf Tryd.prog 71 = some T71 := eqk (by kernel_rfl)
@[go_sem] theorem T71_agg : T71.agg = true := eqk (by kernel_rfl)
@[go_sem] theorem T71_size : T71.size = 5 := eqk (by kernel_rfl)
@[go_sem] theorem T71_bytes : T71.bytes = 40 := eqk (by kernel_rfl)
@[go_sem] theorem T71_want : T71.want = some 5 := eqk (by kernel_rfl)
@[go_sem] theorem T71_desc : T71.desc = .array 5 3 := eqk (by kernel_rfl)
@[go_sem] theorem T71_arr : T71.arr = some (5, 3) := eqk (by kernel_rfl)
@[go_sem] theorem T71_places : placesOf Tryd.prog T71 = some [(0, 1), (1, 1), (2, 1), (3, 1), (4, 1)] := eqk (by kernel_rfl)
@[go_sem] theorem T71_zero : T71.zero = some (.agg #[.int .i64 0, .int .i64 0, .int .i64 0, .int .i64 0, .int .i64 0]) := eqk (by kernel_rfl)
@[go_sem] theorem T71_zeroElem : zeroElem T71 = some (.agg [.int .i64 0, .int .i64 0, .int .i64 0, .int .i64 0, .int .i64 0]) := eqk (by kernel_rfl)
@[go_sem ↓] theorem T71_zs : (∃ z, T71.zero = some z /\ z.cells.size = T71.size) = True := by
 refine eq_true ⟨_, T71_zero, ?_⟩
 kernel_rfl
noncomputable def T81 : Ty := (tyOf Tryd.prog 81).getD ⟨false, 0, 0, none, .bool⟩
@[go_sem] theorem ty81 : tyOf Tryd.prog 81 = some T81 := eqk (by kernel_rfl)
@[go_sem] theorem T81_agg : T81.agg = true := eqk (by kernel_rfl)
@[go_sem] theorem T81_size : T81.size = 4 := eqk (by kernel_rfl)
@[go_sem] theorem T81_bytes : T81.bytes = 64 := eqk (by kernel_rfl)
@[go_sem] theorem T81_want : T81.want = some 4 := eqk (by kernel_rfl)
@[go_sem] theorem T81_desc : T81.desc = .array 4 9 := eqk (by kernel_rfl)
@[go_sem] theorem T81_arr : T81.arr = some (4, 9) := eqk (by kernel_rfl)
@[go_sem] theorem T81_places : placesOf Tryd.prog T81 = some [(0, 1), (1, 1), (2, 1), (3, 1)] := eqk (by kernel_rfl)
@[go_sem] theorem T81_zero : T81.zero = some (.agg #[.string ⟨#[]⟩, .string ⟨#[]⟩, .string ⟨#[]⟩, .string ⟨#[]⟩]) := eqk (by kernel_rfl)
@[go_sem] theorem T81_zeroElem : zeroElem T81 = some (.agg [.str [], .str [], .str [], .str []]) := eqk (by kernel_rfl)
@[go_sem ↓] theorem T81_zs : (∃ z, T81.zero = some z /\ z.cells.size = T81.size) = True := by
 refine eq_true ⟨_, T81_zero, ?_⟩
 kernel_rfl
noncomputable def T85 : Ty := (tyOf Tryd.prog 85).getD ⟨false, 0, 0, none, .bool⟩
@[go_sem] theorem ty85 : tyOf Tryd.prog 85 = some T85 := eqk (by kernel_rfl)
@[go_sem] theorem T85_agg : T85.agg = false := eqk (by kernel_rfl)
@[go_sem] theorem T85_size : T85.size = 1 := eqk (by kernel_rfl)
@[go_sem] theorem T85_bytes : T85.bytes = 24 := eqk (by kernel_rfl)
@[go_sem] theorem T85_want : T85.want = none := eqk (by kernel_rfl)
@[go_sem] theorem T85_desc : T85.desc = .slice 3 := eqk (by kernel_rfl)
@[go_sem] theorem T85_arr : T85.arr = none := eqk (by kernel_rfl)
@[go_sem] theorem T85_zero : T85.zero = some (.slice none 0 0) := eqk (by kernel_rfl)
@[go_sem] theorem T85_zeroD : zeroD T85 = some (.sl none []) := eqk (by kernel_rfl)
@[go_sem] theorem T85_zeroElem : zeroElem T85 = some (.sl none []) := eqk (by kernel_rfl)
@[go_sem ↓] theorem T85_zs : (∃ z, T85.zero = some z /\ z.cells.size = T85.size) = True := by
 refine eq_true ⟨_, T85_zero, ?_⟩
 kernel_rfl
noncomputable def T86 : Ty := (tyOf Tryd.prog 86).getD ⟨false, 0, 0, none, .bool⟩
@[go_sem] theorem ty86 : tyOf Tryd.prog 86 = some T86 := eqk (by kernel_rfl)
@[go_sem] theorem T86_agg : T86.agg = true := eqk (by kernel_rfl)
@[go_sem] theorem T86_size : T86.size = 256 := eqk (by kernel_rfl)
@[go_sem] theorem T86_bytes : T86.bytes = 256 := eqk (by kernel_rfl)
@[go_sem] theorem T86_want : T86.want = some 256 := eqk (by kernel_rfl)
@[go_sem] theorem T86_desc : T86.desc = .array 256 5 := eqk (by kernel_rfl)
@[go_sem] theorem T86_arr : T86.arr = some (256, 5) := eqk (by kernel_rfl)
@[go_sem] theorem T86_zero : T86.zero = some (.agg (Array.replicate 256 (.int .u8 0))) := eqk (by kernel_rfl)
noncomputable def T90 : Ty := (tyOf Tryd.prog 90).getD ⟨false, 0, 0, none, .bool⟩
@[go_sem] theorem ty90 : tyOf Tryd.prog 90 = some T90 := eqk (by kernel_rfl)
@[go_sem] theorem T90_agg : T90.agg = true := eqk (by kernel_rfl)
@[go_sem] theorem T90_size : T90.size = 32 := eqk (by kernel_rfl)
@[go_sem] theorem T90_bytes : T90.bytes = 32 := eqk (by kernel_rfl)
@[go_sem] theorem T90_want : T90.want = some 32 := eqk (by kernel_rfl)
@[go_sem] theorem T90_desc : T90.desc = .array 16 89 := eqk (by kernel_rfl)
@[go_sem] theorem T90_arr : T90.arr = some (16, 89) := eqk (by kernel_rfl)
@[go_sem] theorem T90_zero : T90.zero = some (.agg #[.int .u8 0, .int .u8 0, .int .u8 0, .int .u8 0, .int .u8 0, .int .u8 0, .int .u8 0, .int .u8 0, .int .u8 0, .int .u8 0, .int .u8 0, .int .u8 0, .int .u8 0, .int .u8 0, .int .u8 0, .int .u8 0, .int .u8 0, .int .u8 0, .int .u8 0, .int .u8 0, .int .u8 0, .int .u8 0, .int .u8 0, .int .u8 0, .int .u8 0, .int .u8 0, .int .u8 0, .int .u8 0, .int .u8 0, .int .u8 0, .int .u8 0, .int .u8 0]) := eqk (by kernel_rfl)
@[go_sem] theorem T90_zeroElem : zeroElem T90 = some (.agg [.int .u8 0, .int .u8 0, .int .u8 0, .int .u8 0, .int .u8 0, .int .u8 0, .int .u8 0, .int .u8 0, .int .u8 0, .int .u8 0, .int .u8 0, .int .u8 0, .int .u8 0, .int .u8 0, .int .u8 0, .int .u8 0, .int .u8 0, .int .u8 0, .int .u8 0, .int .u8 0, .int .u8 0, .int .u8 0, .int .u8 0, .int .u8 0, .int .u8 0, .int .u8 0, .int .u8 0, .int .u8 0, .int .u8 0, .int .u8 0, .int .u8 0, .int .u8 0]) := eqk (by kernel_rfl)
@[go_sem ↓] theorem T90_zs : (∃ z, T90.zero = some z /\ z.cells.size = T90.size) = True := by
 refine eq_true ⟨_, T90_zero, ?_⟩
 kernel_rfl
noncomputable def T94 : Ty := (tyOf Tryd.prog 94).getD ⟨false, 0, 0, none, .bool⟩
@[go_sem] theorem ty94 : tyOf Tryd.prog 94 = some T94 := eqk (by kernel_rfl)
@[go_sem] theorem T94_agg : T94.agg = false := eqk (by kernel_rfl)
@[go_sem] theorem T94_size : T94.size = 1 := eqk (by kernel_rfl)
@[go_sem] theorem T94_bytes : T94.bytes = 4 := eqk (by kernel_rfl)
@[go_sem] theorem T94_want : T94.want = none := eqk (by kernel_rfl)
@[go_sem] theorem T94_desc : T94.desc = .int .u32 := eqk (by kernel_rfl)
@[go_sem] theorem T94_arr : T94.arr = none := eqk (by kernel_rfl)
@[go_sem] theorem T94_zero : T94.zero = some (.int .u32 0) := eqk (by kernel_rfl)
@[go_sem] theorem T94_zeroD : zeroD T94 = some (.int .u32 0) := eqk (by kernel_rfl)
@[go_sem] theorem T94_zeroElem : zeroElem T94 = some (.int .u32 0) := eqk (by kernel_rfl)
@[go_sem ↓] theorem T94_zs : (∃ z, T94.zero = some z /\ z.cells.size = T94.size) = True := by
 refine eq_true ⟨_, T94_zero, ?_⟩
 kernel_rfl
noncomputable def T97 : Ty := (tyOf Tryd.prog 97).getD ⟨false, 0, 0, none, .bool⟩
@[go_sem] theorem ty97 : tyOf Tryd.prog 97 = some T97 := eqk (by kernel_rfl)
@[go_sem] theorem T97_agg : T97.agg = true := eqk (by kernel_rfl)
@[go_sem] theorem T97_size : T97.size = 24 := eqk (by kernel_rfl)
@[go_sem] theorem T97_bytes : T97.bytes = 24 := eqk (by kernel_rfl)
@[go_sem] theorem T97_want : T97.want = some 24 := eqk (by kernel_rfl)
@[go_sem] theorem T97_desc : T97.desc = .array 24 5 := eqk (by kernel_rfl)
@[go_sem] theorem T97_arr : T97.arr = some (24, 5) := eqk (by kernel_rfl)
@[go_sem] theorem T97_zero : T97.zero = some (.agg #[.int .u8 0, .int .u8 0, .int .u8 0, .int .u8 0, .int .u8 0, .int .u8 0, .int .u8 0, .int .u8 0, .int .u8 0, .int .u8 0, .int .u8 0, .int .u8 0, .int .u8 0, .int .u8 0, .int .u8 0, .int .u8 0, .int .u8 0, .int .u8 0, .int .u8 0, .int .u8 0, .int .u8 0, .int .u8 0, .int .u8 0, .int .u8 0]) := eqk (by kernel_rfl)
@[go_sem] theorem T97_zeroElem : zeroElem T97 = some (.agg [.int .u8 0, .int .u8 0, .int .u8 0, .int .u8 0, .int .u8 0, .int .u8 0, .int .u8 0, .int .u8 0, .int .u8 0, .int .u8 0, .int .u8 0, .int .u8 0, .int .u8 0, .int .u8 0, .int .u8 0, .int .u8 0, .int .u8 0, .int .u8 0, .int .u8 0, .int .u8 0, .int .u8 0, .int .u8 0, .int .u8 0, .int .u8 0]) := eqk (by kernel_rfl)
@[go_sem ↓] theorem T97_zs : (∃ z, T97.zero = some z /\ z.cells.size = T97.size) = True := by
 refine eq_true ⟨_, T97_zero, ?_⟩
 kernel_rfl
noncomputable def T98 : Ty := (tyOf Tryd.prog 98).getD ⟨false, 0, 0, none, .bool⟩
@[go_sem] theorem ty98 : tyOf Tryd.prog 98 = some T98 := eqk (by kernel_rfl)
@[go_sem] theorem T98_agg : T98.agg = false := eqk (by kernel_rfl)
@[go_sem] theorem T98_size : T98.size = 1 := eqk (by kernel_rfl)
@[go_sem] theorem T98_bytes : T98.bytes = 8 := eqk (by kernel_rfl)
@[go_sem] theorem T98_want : T98.want = none := eqk (by kernel_rfl)
@[go_sem] theorem T98_desc : T98.desc = .int .u64 := eqk (by kernel_rfl)
@[go_sem] theorem T98_arr : T98.arr = none := eqk (by kernel_rfl)
@[go_sem] theorem T98_zero : T98.zero = some (.int .u64 0) := eqk (by kernel_rfl)
@[go_sem] theorem T98_zeroD : zeroD T98 = some (.int .u64 0) := eqk (by kernel_rfl)
@[go_sem] theorem T98_zeroElem : zeroElem T98 = some (.int .u64 0) := eqk (by kernel_rfl)
@[go_sem ↓] theorem T98_zs : (∃ z, T98.zero = some z /\ z.cells.size = T98.size) = True := by
 refine eq_true ⟨_, T98_zero, ?_⟩
 kernel_rfl
noncomputable def T104 : Ty := (tyOf Tryd.prog 104).getD ⟨false, 0, 0, none, .bool⟩
@[go_sem] theorem ty104 : tyOf Tryd.prog 104 = some T104 := eqk (by kernel_rfl)
@[go_sem] theorem T104_agg : T104.agg = true := eqk (by kernel_rfl)
@[go_sem] theorem T104_size : T104.size = 20 := eqk (by kernel_rfl)
@[go_sem] theorem T104_bytes : T104.bytes = 160 := eqk (by kernel_rfl)
@[go_sem] theorem T104_want : T104.want = some 20 := eqk (by kernel_rfl)
@[go_sem] theorem T104_desc : T104.desc = .array 20 98 := eqk (by kernel_rfl)
@[go_sem] theorem T104_arr : T104.arr = some (20, 98) := eqk (by kernel_rfl)
@[go_sem] theorem T104_zero : T104.zero = some (.agg #[.int .u64 0, .int .u64 0, .int .u64 0, .int .u64 0, .int .u64 0, .int .u64 0, .int .u64 0, .int .u64 0, .int .u64 0, .int .u64 0, .int .u64 0, .int .u64 0, .int .u64 0, .int .u64 0, .int .u64 0, .int .u64 0, .int .u64 0, .int .u64 0, .int .u64 0, .int .u64 0]) := eqk (by kernel_rfl)
@[go_sem] theorem T104_zeroElem : zeroElem T104 = some (.agg [.int .u64 0, .int .u64 0, .int .u64 0, .int .u64 0, .int .u64 0, .int .u64 0, .int .u64 0, .int .u64 0, .int .u64 0, .int .u64 0, .int .u64 0, .int .u64 0, .int .u64 0, .int .u64 0, .int .u64 0, .int .u64 0, .int .u64 0, .int .u64 0, .int .u64 0, .int .u64 0]) := eqk (by kernel_rfl)
@[go_sem ↓] theorem T104_zs : (∃ z, T104.zero = some z /\ z.cells.size = T104.size) = True := by
 refine eq_true ⟨_, T104_zero, ?_⟩
 kernel_rfl
noncomputable def T105 : Ty := (tyOf Tryd.prog 105).getD ⟨false, 0, 0, none, .bool⟩
@[go_sem] theorem ty105 : tyOf Tryd.prog 105 = some T105 := eqk (by kernel_rfl)
@[go_sem] theorem T105_agg : T105.agg = true := eqk (by kernel_rfl)
@[go_sem] theorem T105_size : T105.size = 65 := eqk (by kernel_rfl)
@[go_sem] theorem T105_bytes : T105.bytes = 65 := eqk (by kernel_rfl)
@[go_sem] theorem T105_want : T105.want = some 65 := eqk (by kernel_rfl)
@[go_sem] theorem T105_desc : T105.desc = .array 65 5 := eqk (by kernel_rfl)
@[go_sem] theorem T105_arr : T105.arr = some (65, 5) := eqk (by kernel_rfl)
@[go_sem] theorem T105_zero : T105.zero = some (.agg (Array.replicate 65 (.int .u8 0))) := eqk (by kernel_rfl)
noncomputable def T108 : Ty := (tyOf Tryd.prog 108).getD ⟨false, 0, 0, none, .bool⟩
@[go_sem] theorem ty108 : tyOf Tryd.prog 108 = some T108 := eqk (by kernel_rfl)
@[go_sem] theorem T108_agg : T108.agg = true := eqk (by kernel_rfl)
@[go_sem] theorem T108_size : T108.size = 32 := eqk (by kernel_rfl)
@[go_sem] theorem T108_bytes : T108.bytes = 32 := eqk (by kernel_rfl)
@[go_sem] theorem T108_want : T108.want = some 32 := eqk (by kernel_rfl)
@[go_sem] theorem T108_desc : T108.desc = .array 32 5 := eqk (by kernel_rfl)
@[go_sem] theorem T108_arr : T108.arr = some (32, 5) := eqk (by kernel_rfl)
@[go_sem] theorem T108_zero : T108.zero = some (.agg #[.int .u8 0, .int .u8 0, .int .u8 0, .int .u8 0, .int .u8 0, .int .u8 0, .int .u8 0, .int .u8 0, .int .u8 0, .int .u8 0, .int .u8 0, .int .u8 0, .int .u8 0, .int .u8 0, .int .u8 0, .int .u8 0, .int .u8 0, .int .u8 0, .int .u8 0, .int .u8 0, .int .u8 0, .int .u8 0, .int .u8 0, .int .u8 0, .int .u8 0, .int .u8 0, .int .u8 0, .int .u8 0, .int .u8 0, .int .u8 0, .int .u8 0, .int .u8 0]) := eqk (by kernel_rfl)
@[go_sem] theorem T108_zeroElem : zeroElem T108 = some (.agg [.int .u8 0, .int .u8 0, .int .u8 0, .int .u8 0, .int .u8 0, .int .u8 0, .int .u8 0, .int .u8 0, .int .u8 0, .int .u8 0, .int .u8 0, .int .u8 0, .int .u8 0, .int .u8 0, .int .u8 0, .int .u8 0, .int .u8 0, .int .u8 0, .int .u8 0, .int .u8 0, .int .u8 0, .int .u8 0, .int .u8 0, .int .u8 0, .int .u8 0, .int .u8 0, .int .u8 0, .int .u8 0, .int .u8 0, .int .u8 0, .int .u8 0, .int .u8 0]) := eqk (by kernel_rfl)
@[go_sem ↓] theorem T108_zs : (∃ z, T108.zero = some z /\ z.cells.size = T108.size) = True := by
 refine eq_true ⟨_, T108_zero, ?_⟩
 kernel_rfl
noncomputable def T109 : Ty := (tyOf Tryd.prog 109).getD ⟨false, 0, 0, none, .bool⟩
@[go_sem] theorem ty109 : tyOf Tryd.prog 109 = some T109 := eqk (by kernel_rfl)
@[go_sem] theorem T109_agg : T109.agg = true := eqk (by kernel_rfl)
@[go_sem] theorem T109_size : T109.size = 64 := eqk (by kernel_rfl)
@[go_sem] theorem T109_bytes : T109.bytes = 64 := eqk (by kernel_rfl)
@[go_sem] theorem T109_want : T109.want = some 64 := eqk (by kernel_rfl)
@[go_sem] theorem T109_desc : T109.desc = .array 64 5 := eqk (by kernel_rfl)
@[go_sem] theorem T109_arr : T109.arr = some (64, 5) := eqk (by kernel_rfl)
@[go_sem] theorem T109_zero : T109.zero = some (.agg (Array.replicate 64 (.int .u8 0))) := eqk (by kernel_rfl)
noncomputable def T112 : Ty := (tyOf Tryd.prog 112).getD ⟨false, 0, 0, none, .bool⟩
@[go_sem] theorem ty112 : tyOf Tryd.prog 112 = some T112 := eqk (by kernel_rfl)
@[go_sem] theorem T112_agg : T112.agg = true := eqk (by kernel_rfl)
@[go_sem] theorem T112_size : T112.size = 0 := eqk (by kernel_rfl)
@[go_sem] theorem T112_bytes : T112.bytes = 0 := eqk (by kernel_rfl)
@[go_sem] theorem T112_want : T112.want = some 0 := eqk (by kernel_rfl)
@[go_sem] theorem T112_desc : T112.desc = .array 0 16 := eqk (by kernel_rfl)
@[go_sem] theorem T112_arr : T112.arr = some (0, 16) := eqk (by kernel_rfl)
@[go_sem] theorem T112_zero : T112.zero = some (.agg #[]) := eqk (by kernel_rfl)
@[go_sem] theorem T112_zeroElem : zeroElem T112 = some (.agg []) := eqk (by kernel_rfl)
@[go_sem ↓] theorem T112_zs : (∃ z, T112.zero = some z /\ z.cells.size = T112.size) = True := by
 refine eq_true ⟨_, T112_zero, ?_⟩
 kernel_rfl
end Go.AM
namespace Go.AM
open Go Go.Proofs
theorem call_copyCk {l : List (Nat × Contract)} (hm : (45, copyCkC) ∈ l) {o : Nat} {u : Bool} {x : AV} {own : List Obj} {K : AV -> List Obj -> List Nat -> Prop} (hobj : own.getD o .dead = .bld 52 u [x])
  (h : K (.tup []) (own.set o (.bld 52 true [x])) []) : callw (tbl l) (.fn 45 []) [.ptr o 0 0] own K :=
 ⟨_, _, _, ⟨copyCkC, hm, o, u, x, rfl, hobj, rfl, rfl, rfl⟩, h⟩
theorem appTw_str {P : Program} {own : List Obj} {t t' : TypeId} {τ' : Ty} {x : AV} {s : List UInt8} {K : AV -> List Obj -> List Nat -> Prop} (hne : t ≠ t') (hτ : tyOf P t' = some τ') (hd : τ'.desc = .string) (h : appendSw P (tyOf P t) own x s K) : appTw P own t t' x (.dat (.str s)) K := by
 unfold appTw; rw [if_neg hne, hτ]; exact ⟨hd, h⟩
abbrev tabB2 : List (Nat × Contract) := [(45, copyCkC)]
theorem tabB2_ok : OkG Tryd.prog (tbl tabB2) := okG_cons copyCheck_ok okG_nil
def wsC : Contract := fun args own v own' mv => ∃ (o : Nat) (u : Bool) (s bs : List UInt8) (r : Nat), args = [.ptr o 0 0, .dat (.str s)] /\ o ≠ r /\ own.getD o .dead = .bld 52 u [.sl r 0 bs.length] /\ own.getD r .dead = .brow 5 bs /\
 bs.length + s.length <= 140737488355328 /\ v = .tup [.dat (.int .i64 s.length), .top] /\ own' = ((own.map (Obj.kill r)).set r (.brow 5 (bs ++ s))).set o (.bld 52 true [.sl r 0 (bs ++ s).length]) /\ mv = [r]
theorem writeString_ok : OkF Tryd.prog 27 wsC := by
 refine okF_of_sem Tryd.func27 rfl (by decide) ?_
 rintro args own v own' mv ⟨o, u, s, bs, r, rfl, hor, hb, hr, hlen, rfl, rfl, rfl⟩
 have holt : o < own.length := by
  rcases Nat.lt_or_ge o own.length with h | h
  ·exact h
  ·rw [List.getD_eq_getElem?_getD, List.getElem?_eq_none h] at hb; cases hb
 have hr' : ∀ x, (own.set o x).getD r .dead = .brow 5 bs := fun x => by
  rw [← hr]; simp [List.getD_eq_getElem?_getD, List.getElem?_set, hor]
 have ho' : ∀ x, (own.set o x).getD o .dead = x := fun x => by
  simp [List.getD_eq_getElem?_getD, List.getElem?_set, holt]
 refine sem_of_awp (Γ := tbl tabB2) tabB2_ok _ _ _ ?_
 simp only [go_sem, Tryd.ntmps27]
 refine call_copyCk (by simp) hb ?_
 simp only [go_sem, ho', hr']
 refine appTw_str (by decide) ty9 T9_desc ?_
 simp only [appendSw]
 have hg : ∀ Y, (((own.set o (.bld 52 true [.sl r 0 bs.length])).map (Obj.kill r)).set r Y).getD o .dead = .bld 52 true [.top] := fun Y => by
  simp [List.getD_eq_getElem?_getD, List.getElem?_set, hor, Ne.symm hor, holt, Obj.kill, AV.kills, AV.kill]
 have hor' : (o = r) = False := eq_false hor
 have hnil : ∀ sl, ev sl (.const .nilIface) = .top := fun _ => rfl
 have hrlt : r < own.length := by
  rcases Nat.lt_or_ge r own.length with h | h
  ·exact h
  ·rw [List.getD_eq_getElem?_getD, List.getElem?_eq_none h] at hr; cases hr
 have hown : ∀ X Y Z, (((own.set o X).map (Obj.kill r)).set r Y).set o Z = ((own.map (Obj.kill r)).set r Y).set o Z := fun X Y Z => by
  rw [List.map_set, List.set_comm _ _ hor, List.set_set]
 have hmv : addMv own.length [] [r] = [r] := by simp [addMv, hrlt]
 simp only [go_sem, hr', ho', hor', if_false, hg, hnil, hown, hmv, List.length_append]
 refine ⟨hlen, ?_⟩
 refine post_resO (mv' := [r]) (.inl rfl) [.tmp 4, .tmp 5] rfl (fun _ h => h) ?_
 simp only [go_sem]
 exact le_slots' (by simp only [go_sem])
end Go.AM
namespace Go.AM
open Go Go.Proofs Go.Shelf
def rI : Ren where
 f := fun x => match x with
  | 171 => 61
  | 243 => 64
  | 246 => 69
  | 283 => 72
  | 284 => 73
  | 285 => 74
  | 286 => 75
  | 129 => 77
  | 317 => 76
  | 318 => 78
  | 319 => 79
  | 320 => 80
  | 337 => 81
  | 338 => 82
  | n => n
 t := fun x => match x with
  | 3 => 3
  | 9 => 9
  | 2 => 2
  | 4 => 4
  | 171 => 97
  | 0 => 0
  | 53 => 98
  | 37 => 50
  | 5 => 5
  | 173 => 101
  | 212 => 104
  | 51 => 94
  | 20 => 20
  | 213 => 105
  | 46 => 87
  | 232 => 108
  | 233 => 109
  | n => n
 g := fun x => match x with
  | 17 => 3
  | 18 => 4
  | 19 => 5
  | n => n
theorem laysI : LaysM.n171 Tryd.prog rI where
 mixed := by kernel_rfl
 f129 := Eq.trans Tryd.func77 (congrArg some (by kernel_rfl))
 f171 := Eq.trans Tryd.func61 (congrArg some (by kernel_rfl))
 f243 := Eq.trans Tryd.func64 (congrArg some (by kernel_rfl))
 f246 := Eq.trans Tryd.func69 (congrArg some (by kernel_rfl))
 f283 := Eq.trans Tryd.func72 (congrArg some (by kernel_rfl))
 f284 := Eq.trans Tryd.func73 (congrArg some (by kernel_rfl))
 f285 := Eq.trans Tryd.func74 (congrArg some (by kernel_rfl))
 f286 := Eq.trans Tryd.func75 (congrArg some (by kernel_rfl))
 f317 := Eq.trans Tryd.func76 (congrArg some (by kernel_rfl))
 f318 := Eq.trans Tryd.func78 (congrArg some (by kernel_rfl))
 f319 := Eq.trans Tryd.func79 (congrArg some (by kernel_rfl))
 f320 := Eq.trans Tryd.func80 (congrArg some (by kernel_rfl))
 f337 := Eq.trans Tryd.func81 (congrArg some (by kernel_rfl))
 f338 := Eq.trans Tryd.func82 (congrArg some (by kernel_rfl))
 t0 := Tryd.underlying0
 a0 := Tryd.isAgg0
 z0 := Tryd.sizeOf0
 v0 := Tryd.zeroValue0
 t2 := Tryd.underlying2
 a2 := Tryd.isAgg2
 z2 := Tryd.sizeOf2
 v2 := Tryd.zeroValue2
 t3 := Tryd.underlying3
 a3 := Tryd.isAgg3
 z3 := Tryd.sizeOf3
 v3 := Tryd.zeroValue3
 t4 := Tryd.underlying4
 a4 := Tryd.isAgg4
 z4 := Tryd.sizeOf4
 v4 := Tryd.zeroValue4
 t5 := Tryd.underlying5
 a5 := Tryd.isAgg5
 z5 := Tryd.sizeOf5
 v5 := Tryd.zeroValue5
 t9 := Tryd.underlying9
 a9 := Tryd.isAgg9
 z9 := Tryd.sizeOf9
 v9 := Tryd.zeroValue9
 t20 := Tryd.underlying20
 a20 := Tryd.isAgg20
 z20 := Tryd.sizeOf20
 v20 := Tryd.zeroValue20
 t37 := Tryd.underlying50
 a37 := Tryd.isAgg50
 z37 := Tryd.sizeOf50
 v37 := Tryd.zeroValue50
 t46 := Tryd.underlying87
 a46 := Tryd.isAgg87
 z46 := Tryd.sizeOf87
 v46 := Tryd.zeroValue87
 t51 := Tryd.underlying94
 a51 := Tryd.isAgg94
 z51 := Tryd.sizeOf94
 v51 := Tryd.zeroValue94
 t53 := Tryd.underlying98
 a53 := Tryd.isAgg98
 z53 := Tryd.sizeOf98
 v53 := Tryd.zeroValue98
 t171 := Tryd.underlying97
 a171 := Tryd.isAgg97
 z171 := Tryd.sizeOf97
 v171 := Tryd.zeroValue97
 t173 := Tryd.underlying101
 a173 := Tryd.isAgg101
 z173 := Tryd.sizeOf101
 v173 := Tryd.zeroValue101
 t212 := Tryd.underlying104
 a212 := Tryd.isAgg104
 z212 := Tryd.sizeOf104
 v212 := Tryd.zeroValue104
 t213 := Tryd.underlying105
 a213 := Tryd.isAgg105
 z213 := Tryd.sizeOf105
 t232 := Tryd.underlying108
 a232 := Tryd.isAgg108
 z232 := Tryd.sizeOf108
 v232 := Tryd.zeroValue108
 t233 := Tryd.underlying109
 a233 := Tryd.isAgg109
 z233 := Tryd.sizeOf109
 v233 := Tryd.zeroValue109
 g17 := by kernel_rfl
 g18 := by kernel_rfl
 g19 := by kernel_rfl
 i0 := by kernel_rfl
 i2 := by kernel_rfl
 i3 := by kernel_rfl
 i4 := by kernel_rfl
 i5 := by kernel_rfl
 i9 := by kernel_rfl
 i20 := by kernel_rfl
 i37 := by kernel_rfl
 i46 := by kernel_rfl
 i51 := by kernel_rfl
 i53 := by kernel_rfl
 i171 := by kernel_rfl
 i173 := by kernel_rfl
 i212 := by kernel_rfl
 i232 := by kernel_rfl
 i233 := by kernel_rfl
 m17 := by kernel_rfl
 m18 := by kernel_rfl
 m19 := by kernel_rfl
end Go.AM
namespace Go.AM
open Go Go.Proofs
theorem After.grown {F : Nat -> Prop} {φ : Nat -> Option Loc} {own : List Obj} {w : World} (hc : Conc F φ own w) (k : Nat) (os : Array Go.Obj) : After F φ w F φ own (Go.Sort.grow (w.drewN k) os) [] := by
 have hold : ∀ b, b < w.heap.size -> (Go.Sort.grow (w.drewN k) os).heap[b]? = w.heap[b]? := fun b hb => by
  show (w.heap ++ os)[b]? = w.heap[b]?
  rw [Array.getElem?_append_left hb]
 have hsz : w.heap.size <= (Go.Sort.grow (w.drewN k) os).heap.size := by
  show w.heap.size <= (w.heap ++ os).size
  simp
 exact ⟨fun _ h => h, ⟨rfl, rfl, rfl, hsz, fun b hb => hold b (hc.fb b hb)⟩, hc.beside hsz (fun b hb => hold b (hc.fb b hb)) (fun o L h hn => hold _ (hc.live o L h hn).2), fun _ _ _ h => h, fun b hb _ => hold b hb,
  fun o L' ho hn => .inr ⟨o, L', ho, hn, rfl⟩, fun b hb => .inl hb⟩
theorem Cs_ints {F : Nat -> Prop} {w : World} {k : IntKind} : ∀ (l : List Int) (cs : List Value), D.Cs F w (l.map (D.int k)) cs -> cs = l.map (Value.int k)
 | [], cs, h => by simpa only [List.map_nil, D.Cs] using h
 | z :: l, cs, h => by
  simp only [List.map_cons, D.Cs] at h
  obtain ⟨c, cs', rfl, _, h1, h2⟩ := h
  rw [Cs_ints l cs' h2]
  simp only [D.C, List.cons.injEq] at h1
  simp only [List.map_cons, h1.1.1]
def itoaR (ds : List D) (v : AV) : Prop := ∃ n : Int, ds = [.int .i64 n] /\ -9223372036854775808 <= n /\ n <= 9223372036854775807 /\ v = .dat (.str (Lib.itoa n))
theorem itoa_ok : OkF Tryd.prog 61 (dataC itoaR) := by
 rintro args own v own' mv ⟨ds, hds, ⟨n, rfl, h0, h1, rfl⟩, rfl, rfl, _⟩
 refine ⟨⟨_, _, Tryd.func61, rfl, by decide⟩, fun F φ w vs hc hs => ?_⟩
 obtain ⟨x, rfl⟩ : ∃ x, args = [x] := by
  match args, hds with
  | [x], _ => exact ⟨x, rfl⟩
  | [], h => simp [asDL] at h
  | x :: y :: r, h =>
   simp only [asDL, Option.bind_eq_some_iff, Option.map_eq_some_iff, List.cons.injEq] at h
   obtain ⟨d, _, ds', ⟨d', _, ds'', _, rfl⟩, h2⟩ := h
   simp at h2
 simp only [asDL, Option.bind_eq_some_iff, Option.map_eq_some_iff, List.cons.injEq, Option.some.injEq, exists_eq_left, and_true] at hds
 obtain ⟨d, hd, ds', rfl, rfl, _⟩ := hds
 obtain rfl : x = .dat (.int .i64 n) := by
  cases x <;> simp [AV.asD] at hd
  all_goals first | exact congrArg AV.dat hd | (split at hd <;> simp at hd; try (obtain ⟨_, h⟩ := hd; cases h)) | skip
  all_goals trace_state
 simp only [AV.Rs, AV.R, D.R] at hs
 obtain ⟨c, vs', rfl, hcn, rfl⟩ := hs
 obtain ⟨cs, g1, g2, g3, g4, g5, ty, fr, g6⟩ := hc.glob 3 _ _ rfl
 simp only [D.C] at g5
 have hcs := Cs_ints _ _ g5
 have htab : Lib.TabIs Tryd.prog w "internal/strconv.uint64pow10" .u64 Lib.pow10Tab := by
  unfold Lib.TabIs World.var?
  rw [show Tryd.prog.globalNamed "internal/strconv.uint64pow10" = some 3 by kernel_rfl]
  simp only [Option.bind_some, g6, hcs]
 have hcall := Any.strconv_Itoa laysI n h0 h1 w htab
 have ef : rI.f 171 = 61 := rfl
 rw [ef] at hcall
 have ev : #[Value.int .i64 n] = [c].toArray := by rw [hcn.1]
 rw [ev] at hcall
 refine hcall.mono ?_
 rintro e w' ⟨rfl, k, os, rfl⟩
 exact ⟨_, F, φ, rfl, After.grown hc k os, by simp only [AV.R, D.R, D.C]; exact ⟨trivial, Nat.le_trans (Lib.itoa_length_le n h0 h1) (by decide)⟩⟩
end Go.AM
namespace Go.AM
open Go Go.Proofs Go.RowKit
theorem After.dead {F F' : Nat -> Prop} {φ φ' : Nat -> Option Loc} {w w' : World} {own' : List Obj} {mv : List Nat} (h : After F φ w F' φ' own' w' mv) (r : Nat) : After F φ w F' φ' (own'.set r .dead) w' mv := by
 obtain ⟨a, b, c, d, e, f, g⟩ := h
 refine ⟨a, b, ⟨c.fb, c.live, c.inj, fun o obj ho => ?_, fun o ho => c.out o (by simpa using ho), c.glob⟩, d, e, f, g⟩
 rw [List.getElem?_set] at ho
 by_cases e' : r = o
 ·subst e'
  split at ho
  ·split at ho
   ·cases ho; simp only [ObjR]
   ·cases ho
  ·exact c.rep _ obj ho
 ·rw [if_neg e'] at ho
  exact c.rep o obj ho
theorem builder_string (b g n cap : Nat) (p : Value) (l : List UInt8) (cur : Array Value) (w : World) (hn : n = l.length) (h0 : l ≠ []) (hc : l.length <= cur.size) (hcap : cap ≠ 0) (h63 : l.length <= 9223372036854775807)
  (hbk : w.heap[b]? = some (.cells #[p, .slice (some ⟨g, 0, none⟩) n cap] 52 (0, 0))) (hg : w.heap[g]? = some (.cells cur 5 (0, 0))) (hcell : ∀ j, j < l.length -> cur[j]? = (l[j]?).map fun b => Value.int .u8 (b.toNat : Int)) :
  Calls Tryd.prog 29 #[.pointer (some ⟨b, 0, none⟩)] w fun e w' => e = .returned (.string ⟨l.toArray⟩) /\ w' = w.drew.freeze ⟨g, 0, none⟩ l.length := by
 subst hn
 have c1 : w.drew.cell? ⟨b, 1, none⟩ = some (.slice (some ⟨g, 0, none⟩) l.length cap) := by
  have : w.drew.heap[b]? = some (.cells #[p, .slice (some ⟨g, 0, none⟩) l.length cap] 52 (0, 0)) := hbk
  rw [Lib.cell_of_heap this]; rfl
 have hSD : (Builtin.unsafeSliceData_ #[50] 77 #[.slice (some ⟨g, 0, none⟩) l.length cap]).run Tryd.prog w.drew = .ok (.pointer (some ⟨g, 0, none⟩)) w.drew :=
  Lib.run_unsafeSliceData_row _ _ _ _ _ _ hcap
 have hUS : (Builtin.unsafeString_ #[77, 3] 9 #[.pointer (some ⟨g, 0, none⟩), .int .i64 l.length]).run Tryd.prog w.drew = .ok (.string ⟨l.toArray⟩) (w.drew.freeze ⟨g, 0, none⟩ l.length) := by
  refine Lib.run_unsafeString_row w.drew 77 3 9 5 Tryd.underlying77 (by kernel_rfl) g cur.size (by have hg' : w.drew.heap[g]? = some (.cells cur 5 (0, 0)) := hg; simp [World.shape?, hg']) l h0 hc h63 ?_
  intro j x hx
  have hj : j < l.length := by
   rcases Nat.lt_or_ge j l.length with h | h
   ·exact h
   ·rw [List.getElem?_eq_none h] at hx; cases hx
  have h1 := hcell j hj
  rw [hx] at h1
  rw [Addr.add_mk, Nat.zero_add]
  have hg' : w.drew.heap[g]? = some (.cells cur 5 (0, 0)) := hg
  rw [Lib.cell_of_heap hg']
  exact h1
 have mixed : Tryd.prog.follows .mixedOrders = true := by kernel_rfl
 have u72 := run_underlying Tryd.underlying52
 have u70 := run_underlying Tryd.underlying49
 have u37 := run_underlying Tryd.underlying50
 have u127 := run_underlying Tryd.underlying77
 go_enter Tryd.func29, Tryd.ntmps29
 go_wp2
 go_region
 all_goals (go_wp2; go_ret; exact ⟨rfl, rfl⟩)
theorem builder_string_nil (b : Nat) (p : Value) (w : World) (hbk : w.heap[b]? = some (.cells #[p, .slice none 0 0] 52 (0, 0))) :
  Calls Tryd.prog 29 #[.pointer (some ⟨b, 0, none⟩)] w fun e w' => e = .returned (.string ⟨#[]⟩) /\ w' = w.drew := by
 have hUS : ∀ (W : World) (q : Option Addr), (Builtin.unsafeString_ #[77, 3] 9 #[.pointer q, .int .i64 0]).run Tryd.prog W = .ok (.string .empty) W := fun W q => Lib.run_unsafeString_none W _ _ _ q
 have c1 : w.drew.cell? ⟨b, 1, none⟩ = some (.slice none 0 0) := by
  have : w.drew.heap[b]? = some (.cells #[p, .slice none 0 0] 52 (0, 0)) := hbk
  rw [Lib.cell_of_heap this]; rfl
 have hSD : (Builtin.unsafeSliceData_ #[50] 77 #[.slice none 0 0]).run Tryd.prog w.drew = .ok (.pointer none) w.drew := rfl
 have mixed : Tryd.prog.follows .mixedOrders = true := by kernel_rfl
 have u72 := run_underlying Tryd.underlying52
 have u70 := run_underlying Tryd.underlying49
 have u37 := run_underlying Tryd.underlying50
 have u127 := run_underlying Tryd.underlying77
 go_enter Tryd.func29, Tryd.ntmps29
 go_wp2
 go_region
 all_goals (go_wp2; go_ret; exact ⟨rfl, rfl⟩)
theorem builder_string_room (b g cap : Nat) (p : Value) (w : World) (hc0 : cap ≠ 0) (hbk : w.heap[b]? = some (.cells #[p, .slice (some ⟨g, 0, none⟩) 0 cap] 52 (0, 0))) :
  Calls Tryd.prog 29 #[.pointer (some ⟨b, 0, none⟩)] w fun e w' => e = .returned (.string ⟨#[]⟩) /\ w' = w.drew := by
 have hUS : ∀ (W : World) (q : Option Addr), (Builtin.unsafeString_ #[77, 3] 9 #[.pointer q, .int .i64 0]).run Tryd.prog W = .ok (.string .empty) W := fun W q => Lib.run_unsafeString_none W _ _ _ q
 have c1 : w.drew.cell? ⟨b, 1, none⟩ = some (.slice (some ⟨g, 0, none⟩) 0 cap) := by
  have : w.drew.heap[b]? = some (.cells #[p, .slice (some ⟨g, 0, none⟩) 0 cap] 52 (0, 0)) := hbk
  rw [Lib.cell_of_heap this]; rfl
 have hSD : (Builtin.unsafeSliceData_ #[50] 77 #[.slice (some ⟨g, 0, none⟩) 0 cap]).run Tryd.prog w.drew = .ok (.pointer (some ⟨g, 0, none⟩)) w.drew :=
  Lib.run_unsafeSliceData_row _ _ _ _ _ _ hc0
 clear hc0
 have mixed : Tryd.prog.follows .mixedOrders = true := by kernel_rfl
 have u72 := run_underlying Tryd.underlying52
 have u70 := run_underlying Tryd.underlying49
 have u37 := run_underlying Tryd.underlying50
 have u127 := run_underlying Tryd.underlying77
 go_enter Tryd.func29, Tryd.ntmps29
 go_wp2
 go_region
 all_goals (go_wp2; go_ret; exact ⟨rfl, rfl⟩)
theorem builder_string_noroom (b g c : Nat) (p : Value) (cur : Array Value) (w : World) (hbk : w.heap[b]? = some (.cells #[p, .slice (some ⟨g, c, none⟩) 0 0] 52 (0, 0))) (hg : w.heap[g]? = some (.cells cur 5 (0, 0))) :
  Calls Tryd.prog 29 #[.pointer (some ⟨b, 0, none⟩)] w fun e w' => e = .returned (.string ⟨#[]⟩) /\ w' = w.drew.alloc (.view ⟨g, c, none⟩ 5) := by
 have hUS : ∀ (W : World) (q : Option Addr), (Builtin.unsafeString_ #[77, 3] 9 #[.pointer q, .int .i64 0]).run Tryd.prog W = .ok (.string .empty) W := fun W q => Lib.run_unsafeString_none W _ _ _ q
 have hlt : b < w.heap.size := by
  rcases Nat.lt_or_ge b w.heap.size with h' | h'
  ·exact h'
  ·simp [Array.getElem?_eq_none h'] at hbk
 have c1 : w.drew.cell? ⟨b, 1, none⟩ = some (.slice (some ⟨g, c, none⟩) 0 0) := by
  have : w.drew.heap[b]? = some (.cells #[p, .slice (some ⟨g, c, none⟩) 0 0] 52 (0, 0)) := hbk
  rw [Lib.cell_of_heap this]; rfl
 have hSD : (Builtin.unsafeSliceData_ #[50] 77 #[.slice (some ⟨g, c, none⟩) 0 0]).run Tryd.prog w.drew = .ok (.pointer (some ⟨w.drew.heap.size, 0, none⟩)) (w.drew.alloc (.view ⟨g, c, none⟩ 5)) :=
  Lib.run_unsafeSliceData_zero w.drew _ _ 5 Tryd.underlying77 ⟨g, c, none⟩ 0 (5, cur.size) (by have hg' : w.drew.heap[g]? = some (.cells cur 5 (0, 0)) := hg; simp [World.shape?, hg'])
 have c2 : (w.drew.alloc (.view ⟨g, c, none⟩ 5)).cell? ⟨b, 1, none⟩ = some (.slice (some ⟨g, c, none⟩) 0 0) := by
  have : (w.drew.alloc (.view ⟨g, c, none⟩ 5)).heap[b]? = _ := (Lib.alloc_old w.drew _ b hlt).trans hbk
  rw [Lib.cell_of_heap this]; rfl
 have c3 : (w.alloc (.view ⟨g, c, none⟩ 5)).drew.cell? ⟨b, 1, none⟩ = some (.slice (some ⟨g, c, none⟩) 0 0) := c2
 have c0 : w.cell? ⟨b, 1, none⟩ = some (.slice (some ⟨g, c, none⟩) 0 0) := c1
 have mixed : Tryd.prog.follows .mixedOrders = true := by kernel_rfl
 have u72 := run_underlying Tryd.underlying52
 have u70 := run_underlying Tryd.underlying49
 have u37 := run_underlying Tryd.underlying50
 have u127 := run_underlying Tryd.underlying77
 go_enter Tryd.func29, Tryd.ntmps29
 go_wp2
 go_region
 all_goals (go_wp2; go_ret; exact ⟨rfl, rfl⟩)
def strC : Contract := fun args own v own' mv => ∃ (o : Nat) (u : Bool) (bs : List UInt8) (r : Nat), args = [.ptr o 0 0] /\ own.getD o .dead = .bld 52 u [.sl r 0 bs.length] /\ own.getD r .dead = .brow 5 bs /\ bs.length <= 140737488355328 /\
 v = .dat (.str bs) /\ own' = own.set r .dead /\ mv = []
theorem string_ok : OkF Tryd.prog 29 strC := by
 rintro args own v own' mv ⟨o, u, bs, r, rfl, hobj, hrow, hlen, rfl, rfl, rfl⟩
 refine ⟨⟨_, _, Tryd.func29, rfl, by decide⟩, fun F φ w vs hc hs => ?_⟩
 simp only [AV.Rs, AV.R] at hs
 obtain ⟨c, vs', rfl, ⟨L, ho, hn, rfl⟩, rfl⟩ := hs
 have hr := getObj_rep hc ho
 rw [hobj] at hr
 simp only [ObjR] at hr
 obtain ⟨_, hbase, arr, _, hh, hsize, hra⟩ := hr
 simp only [AV.Rs] at hra
 obtain ⟨a0, as0, rfl, hv, rfl⟩ := hra
 have e0 : (⟨L.b, L.base + 0 * L.sz + 0, none⟩ : Addr) = ⟨L.b, 0, none⟩ := by rw [hbase]; simp
 rw [e0]
 simp only [AV.R] at hv
 obtain ⟨Lr, hor, hv⟩ := hv
 have hrr := getObj_rep hc hor
 rw [hrow] at hrr
 simp only [ObjR] at hrr
 obtain ⟨hsz, hrr⟩ := hrr
 have hstr : ∀ (F' : Nat -> Prop) (φ' : Nat -> Option Loc) (w' : World), AV.R F' φ' w' (.dat (.str bs)) (.string ⟨bs.toArray⟩) := fun F' φ' w' => by
  simp only [AV.R, D.R, D.C]
  exact ⟨trivial, by simp only [maxLen]; omega⟩
 rcases hv with ⟨hnl, hl0, _, rfl⟩ | ⟨hnl, c, cap, rfl, h1, h2, h3, h4⟩
 ·have hbs : bs = [] := List.eq_nil_of_length_eq_zero (by omega)
  subst hbs
  refine (builder_string_nil L.b _ w hh).mono ?_
  rintro e w' ⟨rfl, rfl⟩
  exact ⟨_, F, φ, rfl, (After.grown hc 1 #[]).dead r, hstr _ _ _⟩
 ·rcases hrr with ⟨hnil, _⟩ | ⟨_, cur, hg, hcur, hb0, hfit, hcells⟩
  ·rw [hnl] at hnil; cases hnil
  by_cases hbs : bs = []
  ·subst hbs
   by_cases hc0 : cap = 0
   ·subst hc0
    refine (builder_string_noroom L.b Lr.b c _ cur w hh hg).mono ?_
    rintro e w' ⟨rfl, rfl⟩
    exact ⟨_, F, φ, rfl, (show After F φ w F φ own (w.drew.alloc (.view ⟨Lr.b, c, none⟩ 5)) [] from After.grown hc 1 #[_]).dead r, hstr _ _ _⟩
   ·have hc1 : c = 0 := by
     have := h3.resolve_left hc0
     omega
    subst hc1
    refine (builder_string_room L.b Lr.b cap _ w hc0 hh).mono ?_
    rintro e w' ⟨rfl, rfl⟩
    exact ⟨_, F, φ, rfl, (After.grown hc 1 #[]).dead r, hstr _ _ _⟩
  ·have hpos : 0 < bs.length := List.length_pos_iff.2 hbs
   have hc0 : cap ≠ 0 := by omega
   have hc1 : c = 0 := by
    have := h3.resolve_left hc0
    omega
   subst hc1
   refine (builder_string L.b Lr.b bs.length cap _ bs cur w rfl hbs (by omega) hc0 (by omega) hh hg hcells).mono ?_
   rintro e w' ⟨rfl, rfl⟩
   have hn0 : ¬ bs.length = 0 := by omega
   have hoth : ∀ b, b ≠ Lr.b -> (w.drew.freeze ⟨Lr.b, 0, none⟩ bs.length).heap[b]? = w.heap[b]? := fun b hb => by
    simp only [World.freeze, if_neg hn0, Array.getElem?_modify]
    rw [if_neg (fun e => hb e.symm)]
    rfl
   refine ⟨_, F, φ, rfl, After.write hc hor hnl ?_ ?_ ?_ ?_ hoth (by simp only [ObjR]), hstr _ _ _⟩
   ·simp only [World.freeze, if_neg hn0]; rfl
   ·simp only [World.freeze, if_neg hn0]; rfl
   ·simp only [World.freeze, if_neg hn0]; rfl
   ·simp only [World.freeze, if_neg hn0, Array.size_modify]; rfl
end Go.AM

