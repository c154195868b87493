/- Own work over the model of the kit. -/
import Derived.Test.YtaecpbaaadpfgaaProg
import Derived.Test.YtaecpbaaadpfgaaD3
import Derived.Test.YtaecpbaaadpfgaaD8
set_option linter.unusedSimpArgs false
set_option linter.unusedVariables false
set_option maxHeartbeats 1000000
set_option maxRecDepth 8000
namespace Go.AM
private theorem eqk {α : Sort _} {a b : α} (h : a = b) : a = b := Eq.trans h (Eq.refl _)
open Go Go.Proofs
noncomputable def T2 : Ty := (tyOf Try.prog 2).getD ⟨false, 0, 0, none, .bool⟩
@[go_sem] theorem ty2 : tyOf Try.prog 2 = some T2 := eqk (by kernel_rfl)
@[go_sem] theorem T2_agg : T2.agg = false := eqk (by kernel_rfl)
@[go_sem] theorem T2_size : T2.size = 1 := eqk (by kernel_rfl)
@[go_sem] theorem T2_bytes : T2.bytes = 8 := eqk (by kernel_rfl)
@[go_sem] theorem T2_want : T2.want = none := eqk (by kernel_rfl)
@[go_sem] theorem T2_desc : T2.desc = .int .i64 := eqk (by kernel_rfl)
@[go_sem] theorem T2_arr : T2.arr = none := eqk (by kernel_rfl)
@[go_sem] theorem T2_zero : T2.zero = some (.int .i64 0) := eqk (by kernel_rfl)
@[go_sem] theorem T2_zeroD : zeroD T2 = some (.int .i64 0) := eqk (by kernel_rfl)
@[go_sem] theorem T2_zeroElem : zeroElem T2 = some (.int .i64 0) := eqk (by kernel_rfl)
@[go_sem ↓] theorem T2_zs : (∃ z, T2.zero = some z /\ z.cells.size = T2.size) = True := by
 refine eq_true ⟨_, T2_zero, ?_⟩
 kernel_rfl
noncomputable def T3 : Ty := (tyOf Try.prog 3).getD ⟨false, 0, 0, none, .bool⟩
@[go_sem] theorem ty3 : tyOf Try.prog 3 = some T3 := eqk (by kernel_rfl)
@[go_sem] theorem T3_agg : T3.agg = false := eqk (by kernel_rfl)
@[go_sem] theorem T3_size : T3.size = 1 := eqk (by kernel_rfl)
@[go_sem] theorem T3_bytes : T3.bytes = 8 := eqk (by kernel_rfl)
@[go_sem] theorem T3_want : T3.want = none := eqk (by kernel_rfl)
@[go_sem] theorem T3_desc : T3.desc = .int .i64 := eqk (by kernel_rfl)
@[go_sem] theorem T3_arr : T3.arr = none := eqk (by kernel_rfl)
@[go_sem] theorem T3_zero : T3.zero = some (.int .i64 0) := eqk (by kernel_rfl)
@[go_sem] theorem T3_zeroD : zeroD T3 = some (.int .i64 0) := eqk (by kernel_rfl)
@[go_sem] theorem T3_zeroElem : zeroElem T3 = some (.int .i64 0) := eqk (by kernel_rfl)
@[go_sem ↓] theorem T3_zs : (∃ z, T3.zero = some z /\ z.cells.size = T3.size) = True := by
 refine eq_true ⟨_, T3_zero, ?_⟩
 kernel_rfl
noncomputable def T4 : Ty := (tyOf Try.prog 4).getD ⟨false, 0, 0, none, .bool⟩
@[go_sem] theorem ty4 : tyOf Try.prog 4 = some T4 := eqk (by kernel_rfl)
@[go_sem] theorem T4_agg : T4.agg = false := eqk (by kernel_rfl)
@[go_sem] theorem T4_size : T4.size = 1 := eqk (by kernel_rfl)
@[go_sem] theorem T4_bytes : T4.bytes = 1 := eqk (by kernel_rfl)
@[go_sem] theorem T4_want : T4.want = none := eqk (by kernel_rfl)
@[go_sem] theorem T4_desc : T4.desc = .bool := eqk (by kernel_rfl)
@[go_sem] theorem T4_arr : T4.arr = none := eqk (by kernel_rfl)
@[go_sem] theorem T4_zero : T4.zero = some (.bool false) := eqk (by kernel_rfl)
@[go_sem] theorem T4_zeroD : zeroD T4 = some (.bool false) := eqk (by kernel_rfl)
@[go_sem] theorem T4_zeroElem : zeroElem T4 = some (.bool false) := eqk (by kernel_rfl)
@[go_sem ↓] theorem T4_zs : (∃ z, T4.zero = some z /\ z.cells.size = T4.size) = True := by
 refine eq_true ⟨_, T4_zero, ?_⟩
 kernel_rfl
noncomputable def T5 : Ty := (tyOf Try.prog 5).getD ⟨false, 0, 0, none, .bool⟩
@[go_sem] theorem ty5 : tyOf Try.prog 5 = some T5 := eqk (by kernel_rfl)
@[go_sem] theorem T5_agg : T5.agg = false := eqk (by kernel_rfl)
@[go_sem] theorem T5_size : T5.size = 1 := eqk (by kernel_rfl)
@[go_sem] theorem T5_bytes : T5.bytes = 1 := eqk (by kernel_rfl)
@[go_sem] theorem T5_want : T5.want = none := eqk (by kernel_rfl)
@[go_sem] theorem T5_desc : T5.desc = .int .u8 := eqk (by kernel_rfl)
@[go_sem] theorem T5_arr : T5.arr = none := eqk (by kernel_rfl)
@[go_sem] theorem T5_zero : T5.zero = some (.int .u8 0) := eqk (by kernel_rfl)
@[go_sem] theorem T5_zeroD : zeroD T5 = some (.int .u8 0) := eqk (by kernel_rfl)
@[go_sem] theorem T5_zeroElem : zeroElem T5 = some (.int .u8 0) := eqk (by kernel_rfl)
@[go_sem ↓] theorem T5_zs : (∃ z, T5.zero = some z /\ z.cells.size = T5.size) = True := by
 refine eq_true ⟨_, T5_zero, ?_⟩
 kernel_rfl
noncomputable def T9 : Ty := (tyOf Try.prog 9).getD ⟨false, 0, 0, none, .bool⟩
@[go_sem] theorem ty9 : tyOf Try.prog 9 = some T9 := eqk (by kernel_rfl)
@[go_sem] theorem T9_agg : T9.agg = false := eqk (by kernel_rfl)
@[go_sem] theorem T9_size : T9.size = 1 := eqk (by kernel_rfl)
@[go_sem] theorem T9_bytes : T9.bytes = 16 := eqk (by kernel_rfl)
@[go_sem] theorem T9_want : T9.want = none := eqk (by kernel_rfl)
@[go_sem] theorem T9_desc : T9.desc = .string := eqk (by kernel_rfl)
@[go_sem] theorem T9_arr : T9.arr = none := eqk (by kernel_rfl)
@[go_sem] theorem T9_zero : T9.zero = some (.string ⟨#[]⟩) := eqk (by kernel_rfl)
@[go_sem] theorem T9_zeroD : zeroD T9 = some (.str []) := eqk (by kernel_rfl)
@[go_sem] theorem T9_zeroElem : zeroElem T9 = some (.str []) := eqk (by kernel_rfl)
@[go_sem ↓] theorem T9_zs : (∃ z, T9.zero = some z /\ z.cells.size = T9.size) = True := by
 refine eq_true ⟨_, T9_zero, ?_⟩
 kernel_rfl
noncomputable def T21 : Ty := (tyOf Try.prog 21).getD ⟨false, 0, 0, none, .bool⟩
@[go_sem] theorem ty21 : tyOf Try.prog 21 = some T21 := eqk (by kernel_rfl)
@[go_sem] theorem T21_agg : T21.agg = false := eqk (by kernel_rfl)
@[go_sem] theorem T21_size : T21.size = 1 := eqk (by kernel_rfl)
@[go_sem] theorem T21_bytes : T21.bytes = 4 := eqk (by kernel_rfl)
@[go_sem] theorem T21_want : T21.want = none := eqk (by kernel_rfl)
@[go_sem] theorem T21_desc : T21.desc = .int .i32 := eqk (by kernel_rfl)
@[go_sem] theorem T21_arr : T21.arr = none := eqk (by kernel_rfl)
@[go_sem] theorem T21_zero : T21.zero = some (.int .i32 0) := eqk (by kernel_rfl)
@[go_sem] theorem T21_zeroD : zeroD T21 = some (.int .i32 0) := eqk (by kernel_rfl)
@[go_sem] theorem T21_zeroElem : zeroElem T21 = some (.int .i32 0) := eqk (by kernel_rfl)
@[go_sem ↓] theorem T21_zs : (∃ z, T21.zero = some z /\ z.cells.size = T21.size) = True := by
 refine eq_true ⟨_, T21_zero, ?_⟩
 kernel_rfl
noncomputable def T22 : Ty := (tyOf Try.prog 22).getD ⟨false, 0, 0, none, .bool⟩
@[go_sem] theorem ty22 : tyOf Try.prog 22 = some T22 := eqk (by kernel_rfl)
@[go_sem] theorem T22_agg : T22.agg = false := eqk (by kernel_rfl)
@[go_sem] theorem T22_size : T22.size = 1 := eqk (by kernel_rfl)
@[go_sem] theorem T22_bytes : T22.bytes = 24 := eqk (by kernel_rfl)
@[go_sem] theorem T22_want : T22.want = none := eqk (by kernel_rfl)
@[go_sem] theorem T22_desc : T22.desc = .slice 5 := eqk (by kernel_rfl)
@[go_sem] theorem T22_arr : T22.arr = none := eqk (by kernel_rfl)
@[go_sem] theorem T22_zero : T22.zero = some (.slice none 0 0) := eqk (by kernel_rfl)
@[go_sem] theorem T22_zeroD : zeroD T22 = some (.sl none []) := eqk (by kernel_rfl)
@[go_sem] theorem T22_zeroElem : zeroElem T22 = some (.sl none []) := eqk (by kernel_rfl)
@[go_sem ↓] theorem T22_zs : (∃ z, T22.zero = some z /\ z.cells.size = T22.size) = True := by
 refine eq_true ⟨_, T22_zero, ?_⟩
 kernel_rfl
noncomputable def T23 : Ty := (tyOf Try.prog 23).getD ⟨false, 0, 0, none, .bool⟩
@[go_sem] theorem ty23 : tyOf Try.prog 23 = some T23 := eqk (by kernel_rfl)
@[go_sem] theorem T23_agg : T23.agg = false := eqk (by kernel_rfl)
@[go_sem] theorem T23_size : T23.size = 1 := eqk (by kernel_rfl)
@[go_sem] theorem T23_bytes : T23.bytes = 24 := eqk (by kernel_rfl)
@[go_sem] theorem T23_want : T23.want = none := eqk (by kernel_rfl)
@[go_sem] theorem T23_desc : T23.desc = .slice 58 := eqk (by kernel_rfl)
@[go_sem] theorem T23_arr : T23.arr = none := eqk (by kernel_rfl)
@[go_sem] theorem T23_zero : T23.zero = some (.slice none 0 0) := eqk (by kernel_rfl)
@[go_sem] theorem T23_zeroD : zeroD T23 = some (.sl none []) := eqk (by kernel_rfl)
@[go_sem] theorem T23_zeroElem : zeroElem T23 = some (.sl none []) := eqk (by kernel_rfl)
@[go_sem ↓] theorem T23_zs : (∃ z, T23.zero = some z /\ z.cells.size = T23.size) = True := by
 refine eq_true ⟨_, T23_zero, ?_⟩
 kernel_rfl
noncomputable def T24 : Ty := (tyOf Try.prog 24).getD ⟨false, 0, 0, none, .bool⟩
@[go_sem] theorem ty24 : tyOf Try.prog 24 = some T24 := eqk (by kernel_rfl)
@[go_sem] theorem T24_agg : T24.agg = false := eqk (by kernel_rfl)
@[go_sem] theorem T24_size : T24.size = 1 := eqk (by kernel_rfl)
@[go_sem] theorem T24_bytes : T24.bytes = 24 := eqk (by kernel_rfl)
@[go_sem] theorem T24_want : T24.want = none := eqk (by kernel_rfl)
@[go_sem] theorem T24_desc : T24.desc = .slice 9 := eqk (by kernel_rfl)
@[go_sem] theorem T24_arr : T24.arr = none := eqk (by kernel_rfl)
@[go_sem] theorem T24_zero : T24.zero = some (.slice none 0 0) := eqk (by kernel_rfl)
@[go_sem] theorem T24_zeroD : zeroD T24 = some (.sl none []) := eqk (by kernel_rfl)
@[go_sem] theorem T24_zeroElem : zeroElem T24 = some (.sl none []) := eqk (by kernel_rfl)
@[go_sem ↓] theorem T24_zs : (∃ z, T24.zero = some z /\ z.cells.size = T24.size) = True := by
 refine eq_true ⟨_, T24_zero, ?_⟩
 kernel_rfl
noncomputable def T25 : Ty := (tyOf Try.prog 25).getD ⟨false, 0, 0, none, .bool⟩
@[go_sem] theorem ty25 : tyOf Try.prog 25 = some T25 := eqk (by kernel_rfl)
@[go_sem] theorem T25_agg : T25.agg = false := eqk (by kernel_rfl)
@[go_sem] theorem T25_size : T25.size = 1 := eqk (by kernel_rfl)
@[go_sem] theorem T25_bytes : T25.bytes = 24 := eqk (by kernel_rfl)
@[go_sem] theorem T25_want : T25.want = none := eqk (by kernel_rfl)
@[go_sem] theorem T25_desc : T25.desc = .slice 51 := eqk (by kernel_rfl)
@[go_sem] theorem T25_arr : T25.arr = none := eqk (by kernel_rfl)
@[go_sem] theorem T25_zero : T25.zero = some (.slice none 0 0) := eqk (by kernel_rfl)
@[go_sem] theorem T25_zeroD : zeroD T25 = some (.sl none []) := eqk (by kernel_rfl)
@[go_sem] theorem T25_zeroElem : zeroElem T25 = some (.sl none []) := eqk (by kernel_rfl)
@[go_sem ↓] theorem T25_zs : (∃ z, T25.zero = some z /\ z.cells.size = T25.size) = True := by
 refine eq_true ⟨_, T25_zero, ?_⟩
 kernel_rfl
noncomputable def T27 : Ty := (tyOf Try.prog 27).getD ⟨false, 0, 0, none, .bool⟩
@[go_sem] theorem ty27 : tyOf Try.prog 27 = some T27 := eqk (by kernel_rfl)
@[go_sem] theorem T27_agg : T27.agg = true := eqk (by kernel_rfl)
@[go_sem] theorem T27_size : T27.size = 3 := eqk (by kernel_rfl)
@[go_sem] theorem T27_bytes : T27.bytes = 72 := eqk (by kernel_rfl)
@[go_sem] theorem T27_want : T27.want = some 3 := eqk (by kernel_rfl)
@[go_sem] theorem T27_arr : T27.arr = none := eqk (by kernel_rfl)
@[go_sem] theorem T27_places : placesOf Try.prog T27 = some [(0, 1), (1, 1), (2, 1)] := eqk (by kernel_rfl)
@[go_sem] theorem T27_f0 : fieldOf Try.prog (some T27) 0 = some (0, T23) := eqk (by kernel_rfl)
@[go_sem] theorem T27_f1 : fieldOf Try.prog (some T27) 1 = some (1, T24) := eqk (by kernel_rfl)
@[go_sem] theorem T27_f2 : fieldOf Try.prog (some T27) 2 = some (2, T25) := eqk (by kernel_rfl)
@[go_sem] theorem T27_zero : T27.zero = some (.agg #[.slice none 0 0, .slice none 0 0, .slice none 0 0]) := eqk (by kernel_rfl)
@[go_sem] theorem T27_zeroElem : zeroElem T27 = some (.agg [.sl none [], .sl none [], .sl none []]) := eqk (by kernel_rfl)
@[go_sem ↓] theorem T27_zs : (∃ z, T27.zero = some z /\ z.cells.size = T27.size) = True := by
 refine eq_true ⟨_, T27_zero, ?_⟩
 kernel_rfl
noncomputable def T30 : Ty := (tyOf Try.prog 30).getD ⟨false, 0, 0, none, .bool⟩
@[go_sem] theorem ty30 : tyOf Try.prog 30 = some T30 := eqk (by kernel_rfl)
@[go_sem] theorem T30_agg : T30.agg = false := eqk (by kernel_rfl)
@[go_sem] theorem T30_size : T30.size = 1 := eqk (by kernel_rfl)
@[go_sem] theorem T30_bytes : T30.bytes = 24 := eqk (by kernel_rfl)
@[go_sem] theorem T30_want : T30.want = none := eqk (by kernel_rfl)
@[go_sem] theorem T30_desc : T30.desc = .slice 3 := eqk (by kernel_rfl)
@[go_sem] theorem T30_arr : T30.arr = none := eqk (by kernel_rfl)
@[go_sem] theorem T30_zero : T30.zero = some (.slice none 0 0) := eqk (by kernel_rfl)
@[go_sem] theorem T30_zeroD : zeroD T30 = some (.sl none []) := eqk (by kernel_rfl)
@[go_sem] theorem T30_zeroElem : zeroElem T30 = some (.sl none []) := eqk (by kernel_rfl)
@[go_sem ↓] theorem T30_zs : (∃ z, T30.zero = some z /\ z.cells.size = T30.size) = True := by
 refine eq_true ⟨_, T30_zero, ?_⟩
 kernel_rfl
noncomputable def T32 : Ty := (tyOf Try.prog 32).getD ⟨false, 0, 0, none, .bool⟩
@[go_sem] theorem ty32 : tyOf Try.prog 32 = some T32 := eqk (by kernel_rfl)
@[go_sem] theorem T32_agg : T32.agg = true := eqk (by kernel_rfl)
@[go_sem] theorem T32_size : T32.size = 1 := eqk (by kernel_rfl)
@[go_sem] theorem T32_bytes : T32.bytes = 24 := eqk (by kernel_rfl)
@[go_sem] theorem T32_want : T32.want = some 1 := eqk (by kernel_rfl)
@[go_sem] theorem T32_arr : T32.arr = none := eqk (by kernel_rfl)
@[go_sem] theorem T32_places : placesOf Try.prog T32 = some [(0, 1)] := eqk (by kernel_rfl)
@[go_sem] theorem T32_f0 : fieldOf Try.prog (some T32) 0 = some (0, T30) := eqk (by kernel_rfl)
@[go_sem] theorem T32_zero : T32.zero = some (.agg #[.slice none 0 0]) := eqk (by kernel_rfl)
@[go_sem] theorem T32_zeroElem : zeroElem T32 = some (.agg [.sl none []]) := eqk (by kernel_rfl)
@[go_sem ↓] theorem T32_zs : (∃ z, T32.zero = some z /\ z.cells.size = T32.size) = True := by
 refine eq_true ⟨_, T32_zero, ?_⟩
 kernel_rfl
noncomputable def T41 : Ty := (tyOf Try.prog 41).getD ⟨false, 0, 0, none, .bool⟩
@[go_sem] theorem ty41 : tyOf Try.prog 41 = some T41 := eqk (by kernel_rfl)
@[go_sem] theorem T41_agg : T41.agg = false := eqk (by kernel_rfl)
@[go_sem] theorem T41_size : T41.size = 1 := eqk (by kernel_rfl)
@[go_sem] theorem T41_bytes : T41.bytes = 24 := eqk (by kernel_rfl)
@[go_sem] theorem T41_want : T41.want = none := eqk (by kernel_rfl)
@[go_sem] theorem T41_desc : T41.desc = .slice 85 := eqk (by kernel_rfl)
@[go_sem] theorem T41_arr : T41.arr = none := eqk (by kernel_rfl)
@[go_sem] theorem T41_zero : T41.zero = some (.slice none 0 0) := eqk (by kernel_rfl)
@[go_sem] theorem T41_zeroD : zeroD T41 = some (.sl none []) := eqk (by kernel_rfl)
@[go_sem] theorem T41_zeroElem : zeroElem T41 = some (.sl none []) := eqk (by kernel_rfl)
@[go_sem ↓] theorem T41_zs : (∃ z, T41.zero = some z /\ z.cells.size = T41.size) = True := by
 refine eq_true ⟨_, T41_zero, ?_⟩
 kernel_rfl
noncomputable def T43 : Ty := (tyOf Try.prog 43).getD ⟨false, 0, 0, none, .bool⟩
@[go_sem] theorem ty43 : tyOf Try.prog 43 = some T43 := eqk (by kernel_rfl)
@[go_sem] theorem T43_agg : T43.agg = true := eqk (by kernel_rfl)
@[go_sem] theorem T43_size : T43.size = 1 := eqk (by kernel_rfl)
@[go_sem] theorem T43_bytes : T43.bytes = 24 := eqk (by kernel_rfl)
@[go_sem] theorem T43_want : T43.want = some 1 := eqk (by kernel_rfl)
@[go_sem] theorem T43_arr : T43.arr = none := eqk (by kernel_rfl)
@[go_sem] theorem T43_places : placesOf Try.prog T43 = some [(0, 1)] := eqk (by kernel_rfl)
@[go_sem] theorem T43_f0 : fieldOf Try.prog (some T43) 0 = some (0, T41) := eqk (by kernel_rfl)
@[go_sem] theorem T43_zero : T43.zero = some (.agg #[.slice none 0 0]) := eqk (by kernel_rfl)
@[go_sem] theorem T43_zeroElem : zeroElem T43 = some (.agg [.sl none []]) := eqk (by kernel_rfl)
@[go_sem ↓] theorem T43_zs : (∃ z, T43.zero = some z /\ z.cells.size = T43.size) = True := by
 refine eq_true ⟨_, T43_zero, ?_⟩
 kernel_rfl
noncomputable def T49 : Ty := (tyOf Try.prog 49).getD ⟨false, 0, 0, none, .bool⟩
@[go_sem] theorem ty49 : tyOf Try.prog 49 = some T49 := eqk (by kernel_rfl)
@[go_sem] theorem T49_agg : T49.agg = false := eqk (by kernel_rfl)
@[go_sem] theorem T49_size : T49.size = 1 := eqk (by kernel_rfl)
@[go_sem] theorem T49_bytes : T49.bytes = 24 := eqk (by kernel_rfl)
@[go_sem] theorem T49_want : T49.want = none := eqk (by kernel_rfl)
@[go_sem] theorem T49_desc : T49.desc = .slice 53 := eqk (by kernel_rfl)
@[go_sem] theorem T49_arr : T49.arr = none := eqk (by kernel_rfl)
@[go_sem] theorem T49_zero : T49.zero = some (.slice none 0 0) := eqk (by kernel_rfl)
@[go_sem] theorem T49_zeroD : zeroD T49 = some (.sl none []) := eqk (by kernel_rfl)
@[go_sem] theorem T49_zeroElem : zeroElem T49 = some (.sl none []) := eqk (by kernel_rfl)
@[go_sem ↓] theorem T49_zs : (∃ z, T49.zero = some z /\ z.cells.size = T49.size) = True := by
 refine eq_true ⟨_, T49_zero, ?_⟩
 kernel_rfl
noncomputable def T51 : Ty := (tyOf Try.prog 51).getD ⟨false, 0, 0, none, .bool⟩
@[go_sem] theorem ty51 : tyOf Try.prog 51 = some T51 := eqk (by kernel_rfl)
@[go_sem] theorem T51_agg : T51.agg = true := eqk (by kernel_rfl)
@[go_sem] theorem T51_size : T51.size = 4 := eqk (by kernel_rfl)
@[go_sem] theorem T51_bytes : T51.bytes = 56 := eqk (by kernel_rfl)
@[go_sem] theorem T51_want : T51.want = some 4 := eqk (by kernel_rfl)
@[go_sem] theorem T51_arr : T51.arr = none := eqk (by kernel_rfl)
@[go_sem] theorem T51_places : placesOf Try.prog T51 = some [(0, 1), (1, 1), (2, 1), (3, 1)] := eqk (by kernel_rfl)
@[go_sem] theorem T51_f0 : fieldOf Try.prog (some T51) 0 = some (0, T9) := eqk (by kernel_rfl)
@[go_sem] theorem T51_f1 : fieldOf Try.prog (some T51) 1 = some (1, T3) := eqk (by kernel_rfl)
@[go_sem] theorem T51_f2 : fieldOf Try.prog (some T51) 2 = some (2, T4) := eqk (by kernel_rfl)
@[go_sem] theorem T51_f3 : fieldOf Try.prog (some T51) 3 = some (3, T49) := eqk (by kernel_rfl)
@[go_sem] theorem T51_zero : T51.zero = some (.agg #[.string ⟨#[]⟩, .int .i64 0, .bool false, .slice none 0 0]) := eqk (by kernel_rfl)
@[go_sem] theorem T51_zeroElem : zeroElem T51 = some (.agg [.str [], .int .i64 0, .bool false, .sl none []]) := eqk (by kernel_rfl)
@[go_sem ↓] theorem T51_zs : (∃ z, T51.zero = some z /\ z.cells.size = T51.size) = True := by
 refine eq_true ⟨_, T51_zero, ?_⟩
 kernel_rfl
noncomputable def T53 : Ty := (tyOf Try.prog 53).getD ⟨false, 0, 0, none, .bool⟩
@[go_sem] theorem ty53 : tyOf Try.prog 53 = some T53 := eqk (by kernel_rfl)
@[go_sem] theorem T53_agg : T53.agg = true := eqk (by kernel_rfl)
@[go_sem] theorem T53_size : T53.size = 4 := eqk (by kernel_rfl)
@[go_sem] theorem T53_bytes : T53.bytes = 32 := eqk (by kernel_rfl)
@[go_sem] theorem T53_want : T53.want = some 4 := eqk (by kernel_rfl)
@[go_sem] theorem T53_arr : T53.arr = none := eqk (by kernel_rfl)
@[go_sem] theorem T53_places : placesOf Try.prog T53 = some [(0, 1), (1, 1), (2, 1), (3, 1)] := eqk (by kernel_rfl)
@[go_sem] theorem T53_f0 : fieldOf Try.prog (some T53) 0 = some (0, T3) := eqk (by kernel_rfl)
@[go_sem] theorem T53_f1 : fieldOf Try.prog (some T53) 1 = some (1, T3) := eqk (by kernel_rfl)
@[go_sem] theorem T53_f2 : fieldOf Try.prog (some T53) 2 = some (2, T3) := eqk (by kernel_rfl)
@[go_sem] theorem T53_f3 : fieldOf Try.prog (some T53) 3 = some (3, T4) := eqk (by kernel_rfl)
@[go_sem] theorem T53_zero : T53.zero = some (.agg #[.int .i64 0, .int .i64 0, .int .i64 0, .bool false]) := eqk (by kernel_rfl)
@[go_sem] theorem T53_zeroElem : zeroElem T53 = some (.agg [.int .i64 0, .int .i64 0, .int .i64 0, .bool false]) := eqk (by kernel_rfl)
@[go_sem ↓] theorem T53_zs : (∃ z, T53.zero = some z /\ z.cells.size = T53.size) = True := by
 refine eq_true ⟨_, T53_zero, ?_⟩
 kernel_rfl
noncomputable def T58 : Ty := (tyOf Try.prog 58).getD ⟨false, 0, 0, none, .bool⟩
@[go_sem] theorem ty58 : tyOf Try.prog 58 = some T58 := eqk (by kernel_rfl)
@[go_sem] theorem T58_agg : T58.agg = true := eqk (by kernel_rfl)
@[go_sem] theorem T58_size : T58.size = 3 := eqk (by kernel_rfl)
@[go_sem] theorem T58_bytes : T58.bytes = 32 := eqk (by kernel_rfl)
@[go_sem] theorem T58_want : T58.want = some 3 := eqk (by kernel_rfl)
@[go_sem] theorem T58_arr : T58.arr = none := eqk (by kernel_rfl)
@[go_sem] theorem T58_places : placesOf Try.prog T58 = some [(0, 1), (1, 1), (2, 1)] := eqk (by kernel_rfl)
@[go_sem] theorem T58_f0 : fieldOf Try.prog (some T58) 0 = some (0, T9) := eqk (by kernel_rfl)
@[go_sem] theorem T58_f1 : fieldOf Try.prog (some T58) 1 = some (1, T3) := eqk (by kernel_rfl)
@[go_sem] theorem T58_f2 : fieldOf Try.prog (some T58) 2 = some (2, T3) := eqk (by kernel_rfl)
@[go_sem] theorem T58_zero : T58.zero = some (.agg #[.string ⟨#[]⟩, .int .i64 0, .int .i64 0]) := eqk (by kernel_rfl)
@[go_sem] theorem T58_zeroElem : zeroElem T58 = some (.agg [.str [], .int .i64 0, .int .i64 0]) := eqk (by kernel_rfl)
@[go_sem ↓] theorem T58_zs : (∃ z, T58.zero = some z /\ z.cells.size = T58.size) = True := by
 refine eq_true ⟨_, T58_zero, ?_⟩
 kernel_rfl
noncomputable def T60 : Ty := (tyOf Try.prog 60).getD ⟨false, 0, 0, none, .bool⟩
@[go_sem] theorem ty60 : tyOf Try.prog 60 = some T60 := eqk (by kernel_rfl)
@[go_sem] theorem T60_agg : T60.agg = false := eqk (by kernel_rfl)
@[go_sem] theorem T60_size : T60.size = 1 := eqk (by kernel_rfl)
@[go_sem] theorem T60_bytes : T60.bytes = 24 := eqk (by kernel_rfl)
@[go_sem] theorem T60_want : T60.want = none := eqk (by kernel_rfl)
@[go_sem] theorem T60_desc : T60.desc = .slice 81 := eqk (by kernel_rfl)
@[go_sem] theorem T60_arr : T60.arr = none := eqk (by kernel_rfl)
@[go_sem] theorem T60_zero : T60.zero = some (.slice none 0 0) := eqk (by kernel_rfl)
@[go_sem] theorem T60_zeroD : zeroD T60 = some (.sl none []) := eqk (by kernel_rfl)
@[go_sem] theorem T60_zeroElem : zeroElem T60 = some (.sl none []) := eqk (by kernel_rfl)
@[go_sem ↓] theorem T60_zs : (∃ z, T60.zero = some z /\ z.cells.size = T60.size) = True := by
 refine eq_true ⟨_, T60_zero, ?_⟩
 kernel_rfl
noncomputable def T70 : Ty := (tyOf Try.prog 70).getD ⟨false, 0, 0, none, .bool⟩
@[go_sem] theorem ty70 : tyOf Try.prog 70 = some T70 := eqk (by kernel_rfl)
@[go_sem] theorem T70_agg : T70.agg = false := eqk (by kernel_rfl)
@[go_sem] theorem T70_size : T70.size = 1 := eqk (by kernel_rfl)
@[go_sem] theorem T70_bytes : T70.bytes = 24 := eqk (by kernel_rfl)
@[go_sem] theorem T70_want : T70.want = none := eqk (by kernel_rfl)
@[go_sem] theorem T70_desc : T70.desc = .slice 43 := eqk (by kernel_rfl)
@[go_sem] theorem T70_arr : T70.arr = none := eqk (by kernel_rfl)
@[go_sem] theorem T70_zero : T70.zero = some (.slice none 0 0) := eqk (by kernel_rfl)
@[go_sem] theorem T70_zeroD : zeroD T70 = some (.sl none []) := eqk (by kernel_rfl)
@[go_sem] theorem T70_zeroElem : zeroElem T70 = some (.sl none []) := eqk (by kernel_rfl)
@[go_sem ↓] theorem T70_zs : (∃ z, T70.zero = some z /\ z.cells.size = T70.size) = True := by
 refine eq_true ⟨_, T70_zero, ?_⟩
 kernel_rfl
noncomputable def T71 : Ty := (tyOf Try.prog 71).getD ⟨false, 0, 0, none, .bool⟩
@[go_sem] theorem ty71 : tyOf Try.prog 71 = some T71 := eqk (by kernel_rfl)
@[go_sem] theorem T71_agg : T71.agg = false := eqk (by kernel_rfl)
@[go_sem] theorem T71_size : T71.size = 1 := eqk (by kernel_rfl)
@[go_sem] theorem T71_bytes : T71.bytes = 24 := eqk (by kernel_rfl)
@[go_sem] theorem T71_want : T71.want = none := eqk (by kernel_rfl)
@[go_sem] theorem T71_desc : T71.desc = .slice 30 := eqk (by kernel_rfl)
@[go_sem] theorem T71_arr : T71.arr = none := eqk (by kernel_rfl)
@[go_sem] theorem T71_zero : T71.zero = some (.slice none 0 0) := eqk (by kernel_rfl)
@[go_sem] theorem T71_zeroD : zeroD T71 = some (.sl none []) := eqk (by kernel_rfl)
@[go_sem] theorem T71_zeroElem : zeroElem T71 = some (.sl none []) := eqk (by kernel_rfl)
@[go_sem ↓] theorem T71_zs : (∃ z, T71.zero = some z /\ z.cells.size = T71.size) = True := by
 refine eq_true ⟨_, T71_zero, ?_⟩
 kernel_rfl
noncomputable def T73 : Ty := (tyOf Try.prog 73).getD ⟨false, 0, 0, none, .bool⟩
@[go_sem] theorem ty73 : tyOf Try.prog 73 = some T73 := eqk (by kernel_rfl)
@[go_sem] theorem T73_agg : T73.agg = true := eqk (by kernel_rfl)
@[go_sem] theorem T73_size : T73.size = 5 := eqk (by kernel_rfl)
@[go_sem] theorem T73_bytes : T73.bytes = 120 := eqk (by kernel_rfl)
@[go_sem] theorem T73_want : T73.want = some 5 := eqk (by kernel_rfl)
@[go_sem] theorem T73_arr : T73.arr = none := eqk (by kernel_rfl)
@[go_sem] theorem T73_places : placesOf Try.prog T73 = some [(0, 1), (1, 1), (2, 1), (3, 1), (4, 1)] := eqk (by kernel_rfl)
@[go_sem] theorem T73_f0 : fieldOf Try.prog (some T73) 0 = some (0, T70) := eqk (by kernel_rfl)
@[go_sem] theorem T73_f1 : fieldOf Try.prog (some T73) 1 = some (1, T71) := eqk (by kernel_rfl)
@[go_sem] theorem T73_f2 : fieldOf Try.prog (some T73) 2 = some (2, T71) := eqk (by kernel_rfl)
@[go_sem] theorem T73_f3 : fieldOf Try.prog (some T73) 3 = some (3, T30) := eqk (by kernel_rfl)
@[go_sem] theorem T73_f4 : fieldOf Try.prog (some T73) 4 = some (4, T30) := eqk (by kernel_rfl)
@[go_sem] theorem T73_zero : T73.zero = some (.agg #[.slice none 0 0, .slice none 0 0, .slice none 0 0, .slice none 0 0, .slice none 0 0]) := eqk (by kernel_rfl)
@[go_sem] theorem T73_zeroElem : zeroElem T73 = some (.agg [.sl none [], .sl none [], .sl none [], .sl none [], .sl none []]) := eqk (by kernel_rfl)
@[go_sem ↓] theorem T73_zs : (∃ z, T73.zero = some z /\ z.cells.size = T73.size) = True := by
 refine eq_true ⟨_, T73_zero, ?_⟩
 kernel_rfl
noncomputable def T75 : Ty := (tyOf Try.prog 75).getD ⟨false, 0, 0, none, .bool⟩
@[go_sem] theorem ty75 : tyOf Try.prog 75 = some T75 := eqk (by kernel_rfl)
@[go_sem] theorem T75_agg : T75.agg = false := eqk (by kernel_rfl)
@[go_sem] theorem T75_size : T75.size = 1 := eqk (by kernel_rfl)
@[go_sem] theorem T75_bytes : T75.bytes = 24 := eqk (by kernel_rfl)
@[go_sem] theorem T75_want : T75.want = none := eqk (by kernel_rfl)
@[go_sem] theorem T75_desc : T75.desc = .slice 4 := eqk (by kernel_rfl)
@[go_sem] theorem T75_arr : T75.arr = none := eqk (by kernel_rfl)
@[go_sem] theorem T75_zero : T75.zero = some (.slice none 0 0) := eqk (by kernel_rfl)
@[go_sem] theorem T75_zeroD : zeroD T75 = some (.sl none []) := eqk (by kernel_rfl)
@[go_sem] theorem T75_zeroElem : zeroElem T75 = some (.sl none []) := eqk (by kernel_rfl)
@[go_sem ↓] theorem T75_zs : (∃ z, T75.zero = some z /\ z.cells.size = T75.size) = True := by
 refine eq_true ⟨_, T75_zero, ?_⟩
 kernel_rfl
noncomputable def T81 : Ty := (tyOf Try.prog 81).getD ⟨false, 0, 0, none, .bool⟩
@[go_sem] theorem ty81 : tyOf Try.prog 81 = some T81 := eqk (by kernel_rfl)
@[go_sem] theorem T81_agg : T81.agg = true := eqk (by kernel_rfl)
@[go_sem] theorem T81_size : T81.size = 4 := eqk (by kernel_rfl)
@[go_sem] theorem T81_bytes : T81.bytes = 32 := eqk (by kernel_rfl)
@[go_sem] theorem T81_want : T81.want = some 4 := eqk (by kernel_rfl)
@[go_sem] theorem T81_arr : T81.arr = none := eqk (by kernel_rfl)
@[go_sem] theorem T81_places : placesOf Try.prog T81 = some [(0, 1), (1, 1), (2, 1), (3, 1)] := eqk (by kernel_rfl)
@[go_sem] theorem T81_f0 : fieldOf Try.prog (some T81) 0 = some (0, T3) := eqk (by kernel_rfl)
@[go_sem] theorem T81_f1 : fieldOf Try.prog (some T81) 1 = some (1, T3) := eqk (by kernel_rfl)
@[go_sem] theorem T81_f2 : fieldOf Try.prog (some T81) 2 = some (2, T3) := eqk (by kernel_rfl)
@[go_sem] theorem T81_f3 : fieldOf Try.prog (some T81) 3 = some (3, T3) := eqk (by kernel_rfl)
@[go_sem] theorem T81_zero : T81.zero = some (.agg #[.int .i64 0, .int .i64 0, .int .i64 0, .int .i64 0]) := eqk (by kernel_rfl)
@[go_sem] theorem T81_zeroElem : zeroElem T81 = some (.agg [.int .i64 0, .int .i64 0, .int .i64 0, .int .i64 0]) := eqk (by kernel_rfl)
@[go_sem ↓] theorem T81_zs : (∃ z, T81.zero = some z /\ z.cells.size = T81.size) = True := by
 refine eq_true ⟨_, T81_zero, ?_⟩
 kernel_rfl
noncomputable def T84 : Ty := (tyOf Try.prog 84).getD ⟨false, 0, 0, none, .bool⟩
@[go_sem] theorem ty84 : tyOf Try.prog 84 = some T84 := eqk (by kernel_rfl)
@[go_sem] theorem T84_agg : T84.agg = true := eqk (by kernel_rfl)
@[go_sem] theorem T84_size : T84.size = 2 := eqk (by kernel_rfl)
@[go_sem] theorem T84_bytes : T84.bytes = 16 := eqk (by kernel_rfl)
@[go_sem] theorem T84_want : T84.want = some 2 := eqk (by kernel_rfl)
@[go_sem] theorem T84_arr : T84.arr = none := eqk (by kernel_rfl)
@[go_sem] theorem T84_places : placesOf Try.prog T84 = some [(0, 1), (1, 1)] := eqk (by kernel_rfl)
@[go_sem] theorem T84_f0 : fieldOf Try.prog (some T84) 0 = some (0, T3) := eqk (by kernel_rfl)
@[go_sem] theorem T84_f1 : fieldOf Try.prog (some T84) 1 = some (1, T3) := eqk (by kernel_rfl)
@[go_sem] theorem T84_zero : T84.zero = some (.agg #[.int .i64 0, .int .i64 0]) := eqk (by kernel_rfl)
@[go_sem] theorem T84_zeroElem : zeroElem T84 = some (.agg [.int .i64 0, .int .i64 0]) := eqk (by kernel_rfl)
@[go_sem ↓] theorem T84_zs : (∃ z, T84.zero = some z /\ z.cells.size = T84.size) = True := by
 refine eq_true ⟨_, T84_zero, ?_⟩
 kernel_rfl
noncomputable def T85 : Ty := (tyOf Try.prog 85).getD ⟨false, 0, 0, none, .bool⟩
@[go_sem] theorem ty85 : tyOf Try.prog 85 = some T85 := eqk (by kernel_rfl)
@[go_sem] theorem T85_agg : T85.agg = false := eqk (by kernel_rfl)
@[go_sem] theorem T85_size : T85.size = 1 := eqk (by kernel_rfl)
@[go_sem] theorem T85_bytes : T85.bytes = 24 := eqk (by kernel_rfl)
@[go_sem] theorem T85_want : T85.want = none := eqk (by kernel_rfl)
@[go_sem] theorem T85_desc : T85.desc = .slice 84 := eqk (by kernel_rfl)
@[go_sem] theorem T85_arr : T85.arr = none := eqk (by kernel_rfl)
@[go_sem] theorem T85_zero : T85.zero = some (.slice none 0 0) := eqk (by kernel_rfl)
@[go_sem] theorem T85_zeroD : zeroD T85 = some (.sl none []) := eqk (by kernel_rfl)
@[go_sem] theorem T85_zeroElem : zeroElem T85 = some (.sl none []) := eqk (by kernel_rfl)
@[go_sem ↓] theorem T85_zs : (∃ z, T85.zero = some z /\ z.cells.size = T85.size) = True := by
 refine eq_true ⟨_, T85_zero, ?_⟩
 kernel_rfl
noncomputable def T89 : Ty := (tyOf Try.prog 89).getD ⟨false, 0, 0, none, .bool⟩
@[go_sem] theorem ty89 : tyOf Try.prog 89 = some T89 := eqk (by kernel_rfl)
@[go_sem] theorem T89_agg : T89.agg = true := eqk (by kernel_rfl)
@[go_sem] theorem T89_size : T89.size = 3 := eqk (by kernel_rfl)
@[go_sem] theorem T89_bytes : T89.bytes = 72 := eqk (by kernel_rfl)
@[go_sem] theorem T89_want : T89.want = some 3 := eqk (by kernel_rfl)
@[go_sem] theorem T89_arr : T89.arr = none := eqk (by kernel_rfl)
@[go_sem] theorem T89_places : placesOf Try.prog T89 = some [(0, 1), (1, 1), (2, 1)] := eqk (by kernel_rfl)
@[go_sem] theorem T89_f0 : fieldOf Try.prog (some T89) 0 = some (0, T30) := eqk (by kernel_rfl)
@[go_sem] theorem T89_f1 : fieldOf Try.prog (some T89) 1 = some (1, T30) := eqk (by kernel_rfl)
@[go_sem] theorem T89_f2 : fieldOf Try.prog (some T89) 2 = some (2, T30) := eqk (by kernel_rfl)
@[go_sem] theorem T89_zero : T89.zero = some (.agg #[.slice none 0 0, .slice none 0 0, .slice none 0 0]) := eqk (by kernel_rfl)
@[go_sem] theorem T89_zeroElem : zeroElem T89 = some (.agg [.sl none [], .sl none [], .sl none []]) := eqk (by kernel_rfl)
@[go_sem ↓] theorem T89_zs : (∃ z, T89.zero = some z /\ z.cells.size = T89.size) = True := by
 refine eq_true ⟨_, T89_zero, ?_⟩
 kernel_rfl
noncomputable def T95 : Ty := (tyOf Try.prog 95).getD ⟨false, 0, 0, none, .bool⟩
@[go_sem] theorem ty95 : tyOf Try.prog 95 = some T95 := eqk (by kernel_rfl)
@[go_sem] theorem T95_agg : T95.agg = true := eqk (by kernel_rfl)
@[go_sem] theorem T95_size : T95.size = 2 := eqk (by kernel_rfl)
@[go_sem] theorem T95_bytes : T95.bytes = 48 := eqk (by kernel_rfl)
@[go_sem] theorem T95_want : T95.want = some 2 := eqk (by kernel_rfl)
@[go_sem] theorem T95_arr : T95.arr = none := eqk (by kernel_rfl)
@[go_sem] theorem T95_places : placesOf Try.prog T95 = some [(0, 1), (1, 1)] := eqk (by kernel_rfl)
@[go_sem] theorem T95_f0 : fieldOf Try.prog (some T95) 0 = some (0, T30) := eqk (by kernel_rfl)
@[go_sem] theorem T95_f1 : fieldOf Try.prog (some T95) 1 = some (1, T75) := eqk (by kernel_rfl)
@[go_sem] theorem T95_zero : T95.zero = some (.agg #[.slice none 0 0, .slice none 0 0]) := eqk (by kernel_rfl)
@[go_sem] theorem T95_zeroElem : zeroElem T95 = some (.agg [.sl none [], .sl none []]) := eqk (by kernel_rfl)
@[go_sem ↓] theorem T95_zs : (∃ z, T95.zero = some z /\ z.cells.size = T95.size) = True := by
 refine eq_true ⟨_, T95_zero, ?_⟩
 kernel_rfl
noncomputable def T99 : Ty := (tyOf Try.prog 99).getD ⟨false, 0, 0, none, .bool⟩
@[go_sem] theorem ty99 : tyOf Try.prog 99 = some T99 := eqk (by kernel_rfl)
@[go_sem] theorem T99_agg : T99.agg = false := eqk (by kernel_rfl)
@[go_sem] theorem T99_size : T99.size = 1 := eqk (by kernel_rfl)
@[go_sem] theorem T99_bytes : T99.bytes = 8 := eqk (by kernel_rfl)
@[go_sem] theorem T99_want : T99.want = none := eqk (by kernel_rfl)
@[go_sem] theorem T99_desc : T99.desc = .map 102 4 := eqk (by kernel_rfl)
@[go_sem] theorem T99_arr : T99.arr = none := eqk (by kernel_rfl)
@[go_sem] theorem T99_zero : T99.zero = some (.map none) := eqk (by kernel_rfl)
@[go_sem ↓] theorem T99_zs : (∃ z, T99.zero = some z /\ z.cells.size = T99.size) = True := by
 refine eq_true ⟨_, T99_zero, ?_⟩
 kernel_rfl
noncomputable def T102 : Ty := (tyOf Try.prog 102).getD ⟨false, 0, 0, none, .bool⟩
@[go_sem] theorem ty102 : tyOf Try.prog 102 = some T102 := eqk (by kernel_rfl)
@[go_sem] theorem T102_agg : T102.agg = true := eqk (by kernel_rfl)
@[go_sem] theorem T102_size : T102.size = 2 := eqk (by kernel_rfl)
@[go_sem] theorem T102_bytes : T102.bytes = 16 := eqk (by kernel_rfl)
@[go_sem] theorem T102_want : T102.want = some 2 := eqk (by kernel_rfl)
@[go_sem] theorem T102_desc : T102.desc = .array 2 3 := eqk (by kernel_rfl)
@[go_sem] theorem T102_arr : T102.arr = some (2, 3) := eqk (by kernel_rfl)
@[go_sem] theorem T102_places : placesOf Try.prog T102 = some [(0, 1), (1, 1)] := eqk (by kernel_rfl)
@[go_sem] theorem T102_zero : T102.zero = some (.agg #[.int .i64 0, .int .i64 0]) := eqk (by kernel_rfl)
@[go_sem] theorem T102_zeroElem : zeroElem T102 = some (.agg [.int .i64 0, .int .i64 0]) := eqk (by kernel_rfl)
@[go_sem ↓] theorem T102_zs : (∃ z, T102.zero = some z /\ z.cells.size = T102.size) = True := by
 refine eq_true ⟨_, T102_zero, ?_⟩
 kernel_rfl
noncomputable def T107 : Ty := (tyOf Try.prog 107).getD ⟨false, 0, 0, none, .bool⟩
@[go_sem] theorem ty107 : tyOf Try.prog 107 = some T107 := eqk (by kernel_rfl)
@[go_sem] theorem T107_agg : T107.agg = false := eqk (by kernel_rfl)
@[go_sem] theorem T107_size : T107.size = 1 := eqk (by kernel_rfl)
@[go_sem] theorem T107_bytes : T107.bytes = 8 := eqk (by kernel_rfl)
@[go_sem] theorem T107_want : T107.want = none := eqk (by kernel_rfl)
@[go_sem] theorem T107_desc : T107.desc = .map 9 3 := eqk (by kernel_rfl)
@[go_sem] theorem T107_arr : T107.arr = none := eqk (by kernel_rfl)
@[go_sem] theorem T107_zero : T107.zero = some (.map none) := eqk (by kernel_rfl)
@[go_sem ↓] theorem T107_zs : (∃ z, T107.zero = some z /\ z.cells.size = T107.size) = True := by
 refine eq_true ⟨_, T107_zero, ?_⟩
 kernel_rfl
noncomputable def T125 : Ty := (tyOf Try.prog 125).getD ⟨false, 0, 0, none, .bool⟩
@[go_sem] theorem ty125 : tyOf Try.prog 125 = some T125 := eqk (by kernel_rfl)
@[go_sem] theorem T125_agg : T125.agg = true := eqk (by kernel_rfl)
@[go_sem] theorem T125_size : T125.size = 0 := eqk (by kernel_rfl)
@[go_sem] theorem T125_bytes : T125.bytes = 0 := eqk (by kernel_rfl)
@[go_sem] theorem T125_want : T125.want = some 0 := eqk (by kernel_rfl)
@[go_sem] theorem T125_desc : T125.desc = .array 0 16 := eqk (by kernel_rfl)
@[go_sem] theorem T125_arr : T125.arr = some (0, 16) := eqk (by kernel_rfl)
@[go_sem] theorem T125_zero : T125.zero = some (.agg #[]) := eqk (by kernel_rfl)
@[go_sem] theorem T125_zeroElem : zeroElem T125 = some (.agg []) := eqk (by kernel_rfl)
@[go_sem ↓] theorem T125_zs : (∃ z, T125.zero = some z /\ z.cells.size = T125.size) = True := by
 refine eq_true ⟨_, T125_zero, ?_⟩
 kernel_rfl
noncomputable def T129 : Ty := (tyOf Try.prog 129).getD ⟨false, 0, 0, none, .bool⟩
@[go_sem] theorem ty129 : tyOf Try.prog 129 = some T129 := eqk (by kernel_rfl)
@[go_sem] theorem T129_agg : T129.agg = false := eqk (by kernel_rfl)
@[go_sem] theorem T129_size : T129.size = 1 := eqk (by kernel_rfl)
@[go_sem] theorem T129_bytes : T129.bytes = 4 := eqk (by kernel_rfl)
@[go_sem] theorem T129_want : T129.want = none := eqk (by kernel_rfl)
@[go_sem] theorem T129_desc : T129.desc = .int .u32 := eqk (by kernel_rfl)
@[go_sem] theorem T129_arr : T129.arr = none := eqk (by kernel_rfl)
@[go_sem] theorem T129_zero : T129.zero = some (.int .u32 0) := eqk (by kernel_rfl)
@[go_sem] theorem T129_zeroD : zeroD T129 = some (.int .u32 0) := eqk (by kernel_rfl)
@[go_sem] theorem T129_zeroElem : zeroElem T129 = some (.int .u32 0) := eqk (by kernel_rfl)
@[go_sem ↓] theorem T129_zs : (∃ z, T129.zero = some z /\ z.cells.size = T129.size) = True := by
 refine eq_true ⟨_, T129_zero, ?_⟩
 kernel_rfl
end Go.AM
namespace Go.AM
open Go Go.Proofs
theorem mixed : Try.prog.follows .mixedOrders = true := by kernel_rfl
theorem noMk {Γ : Nat -> Contract} : MakeFns Γ [] := fun g _ _ _ _ _ h => by rcases h with h | h <;> cases h
theorem pureNo {Γ : Nat -> Contract} : PureFns Γ [] := fun g _ _ _ _ _ h => by cases h
abbrev Str := List UInt8
structure PPool where
 name : Str
 size : Int
 res : Int
deriving Inhabited, DecidableEq
structure PStep where
 kind : Int
 on : Int
 cnt : Int
 deep : Bool
deriving Inhabited, DecidableEq
structure PCls where
 name : Str
 workers : Int
 server : Bool
 steps : List PStep
deriving Inhabited, DecidableEq
structure PSys where
 pools : List PPool
 locks : List Str
 classes : List PCls
deriving Inhabited, DecidableEq
abbrev intsD (u : List Int) : List D := u.map (.int .i64)
abbrev boolsD (b : List Bool) : List D := b.map .bool
def poolD (p : PPool) : D := .agg [.str p.name, .int .i64 p.size, .int .i64 p.res]
def stepD (s : PStep) : D := .agg [.int .i64 s.kind, .int .i64 s.on, .int .i64 s.cnt, .bool s.deep]
def stepsD (l : List PStep) : D := .sl (some 4) (l.map stepD)
def clsD (c : PCls) : D := .agg [.str c.name, .int .i64 c.workers, .bool c.server, stepsD c.steps]
def sysD (s : PSys) : D := .agg [.sl (some 3) (s.pools.map poolD), .sl none (s.locks.map .str), .sl (some 4) (s.classes.map clsD)]
def PStep.ok (s : PStep) : Prop := inR .i64 s.kind /\ inR .i64 s.on /\ inR .i64 s.cnt
def PPool.ok (p : PPool) : Prop := inR .i64 p.size /\ inR .i64 p.res
def PCls.ok (c : PCls) : Prop := inR .i64 c.workers /\ (∀ s ∈ c.steps, s.ok) /\ c.steps.length < 4611686018427387904
structure PSys.ok (s : PSys) : Prop where
 pools : ∀ p ∈ s.pools, p.ok
 classes : ∀ c ∈ s.classes, c.ok
 np : s.pools.length < 4611686018427387904
 nl : s.locks.length < 4611686018427387904
 nc : s.classes.length < 4611686018427387904
end Go.AM
namespace Go.AM
open Go Go.Proofs
def lowc (b : UInt8) : Bool := decide (97 <= b.toNat) && decide (b.toNat <= 122)
def digc (b : UInt8) : Bool := decide (48 <= b.toNat) && decide (b.toNat <= 57)
def nmc (b : UInt8) : Bool := lowc b || digc b
def isNm (s : Str) : Bool := match s with | [] => false | b :: r => decide (r.length < 8) && lowc b && r.all nmc
def isNmR (ds : List D) (v : AV) : Prop := ∃ s : Str, ds = [.str s] /\ v = .dat (.bool (isNm s))
theorem lowc_iff {b : UInt8} : lowc b = true ↔ ¬ (b.toNat : Int) < 97 /\ ¬ (122 : Int) < b.toNat := by
 simp only [lowc, Bool.and_eq_true, decide_eq_true_eq]; omega
theorem digc_iff {b : UInt8} : digc b = true ↔ ¬ (b.toNat : Int) < 48 /\ ¬ (57 : Int) < b.toNat := by
 simp only [digc, Bool.and_eq_true, decide_eq_true_eq]; omega
theorem lowc_eq {b : UInt8} : lowc b = (!decide ((b.toNat : Int) < 97) && !decide ((122 : Int) < b.toNat)) := by
 rw [Bool.eq_iff_iff, lowc_iff]; simp
theorem digc_eq {b : UInt8} : digc b = (!decide ((b.toNat : Int) < 48) && !decide ((57 : Int) < b.toNat)) := by
 rw [Bool.eq_iff_iff, digc_iff]; simp
theorem isName_ok : OkF Try.prog 16 (dataC isNmR) := by
 refine okF_data Try.func16 rfl (by decide) ?_
 rintro ds v ⟨s, rfl, rfl⟩
 generalize hv : isNm s = V
 refine sem_of_awp (Γ := tbl []) okG_nil _ _ _ ?_
 have fin : ∀ s own (b c : Bool), b = c -> s.getD 2 .top = .dat (.bool b) -> post Try.prog Try.f16 (.dat (.bool c)) [] [] .ret ⟨s, own, 0, []⟩ := fun s own b c e h => by
  subst e
  exact post_data (.inl rfl) [2] rfl trivial (by simp only [tmpsOf, h]; rfl)
 cases s with
 | nil =>
  have h0 : ((0 : Nat) : Int) < 1 := by omega
  simp only [go_sem, Try.ntmps16, h0]
  exact fin _ _ _ _ hv rfl
 | cons b r =>
  have h0 : ¬ ((r.length + 1 : Nat) : Int) < 1 := by omega
  have h00 : (0 : Int) < ((r.length + 1 : Nat) : Int) := by omega
  by_cases h1 : (8 : Int) < ((r.length + 1 : Nat) : Int)
  ·simp only [go_sem, Try.ntmps16, h0, h1]
   refine fin _ _ _ _ ?_ rfl
   rw [← hv]; simp only [isNm]; rw [decide_eq_false (by omega)]; rfl
  have h1' : decide (r.length < 8) = true := decide_eq_true (by omega)
  by_cases h2 : (b.toNat : Int) < 97
  ·simp only [go_sem, Try.ntmps16, h0, h00, h1, h2]
   refine fin _ _ _ _ ?_ rfl
   rw [← hv]; simp [isNm, lowc_eq, h2, h1']
  by_cases h3 : (122 : Int) < b.toNat
  ·simp only [go_sem, Try.ntmps16, h0, h00, h1, h2, h3]
   refine fin _ _ _ _ ?_ rfl
   rw [← hv]; simp [isNm, lowc_eq, h2, h3, h1']
  have hl : lowc b = true := lowc_iff.2 ⟨h2, h3⟩
  have e : isNm (b :: r) = (b :: r).all nmc := by simp only [isNm, h1', hl, List.all_cons, nmc, Bool.true_and, Bool.true_or]
  rw [e] at hv
  simp only [go_sem, Try.ntmps16, h0, h00, h1, h2, h3]
  generalize hL : b :: r = L at *
  have hll : L.length <= 8 := by rw [← hL]; simp only [List.length_cons]; omega
  rw [show r.length + 1 = L.length by rw [← hL]; rfl]
  refine sem_loop (fun k : Nat => ⟨slotsOf 50 [(0, .dat (.str L)), (2, .dat (.bool false)), (23, .dat (.int .i64 L.length)), (24, .dat (.int .i64 k))], [], 0, []⟩)
   (fun k => k <= L.length /\ (L.drop k).all nmc = V) (fun k => L.length - k) 0 ⟨Nat.zero_le _, hv⟩ ?_ ?_
  ·exact le_slots' (by simp only [go_sem, Int.natCast_zero])
  ·rintro k ⟨hk, hI⟩
   refine sem_of_awp (Γ := tbl []) okG_nil _ _ _ ?_
   cases hd : L.drop k with
   | nil =>
    have := end_of_drop hd hk
    have hk2 : ¬ (k : Int) < L.length := by omega
    simp only [go_sem, hk2]
    refine fin _ _ _ _ ?_ rfl
    rw [← hI, hd]; rfl
   | cons c q =>
    have hlt := lt_of_drop hd
    have hk2 : (k : Int) < L.length := by omega
    have hk0 : (0 : Int) <= k := Int.natCast_nonneg k
    have hb : L.getD k 0 = c := getD_of_drop hd
    rw [hd, List.all_cons] at hI
    have next : nmc c = true -> ∃ x, (x <= L.length /\ (L.drop x).all nmc = V) /\ L.length - x < L.length - k /\ x = k + 1 := fun h =>
     ⟨k + 1, ⟨by omega, by rw [drop_cons hd, ← hI, h, Bool.true_and]⟩, by omega, rfl⟩
    have hgo : inR .i64 ((k : Int) + 1) := inR_i64.2 (by omega)
    by_cases g1 : (c.toNat : Int) < 97
    ·by_cases g3 : (c.toNat : Int) < 48
     ·simp only [go_sem, hk2, hk0, hb, g1, g3]
      refine fin _ _ _ _ ?_ rfl
      rw [← hI]; simp [nmc, lowc_eq, digc_eq, g1, g3]
     by_cases g4 : (57 : Int) < c.toNat
     ·simp only [go_sem, hk2, hk0, hb, g1, g3, g4]
      refine fin _ _ _ _ ?_ rfl
      rw [← hI]; simp [nmc, lowc_eq, digc_eq, g1, g3, g4]
     ·simp only [go_sem, hk2, hk0, hb, g1, g3, g4]
      obtain ⟨x, n1, n2, rfl⟩ := next (by simp [nmc, lowc_eq, digc_eq, g1, g3, g4])
      refine ⟨hgo, k + 1, n1, n2, ?_⟩
      exact le_slots' (by simp only [go_sem, Int.natCast_add, Int.cast_ofNat_Int])
    ·by_cases g2 : (122 : Int) < c.toNat
     ·have g3 : ¬ (c.toNat : Int) < 48 := by omega
      have g4 : (57 : Int) < c.toNat := by omega
      simp only [go_sem, hk2, hk0, hb, g1, g2, g3, g4]
      refine fin _ _ _ _ ?_ rfl
      rw [← hI]; simp [nmc, lowc_eq, digc_eq, g1, g2, g3, g4]
     ·simp only [go_sem, hk2, hk0, hb, g1, g2]
      obtain ⟨x, n1, n2, rfl⟩ := next (by simp [nmc, lowc_eq, g1, g2])
      refine ⟨hgo, k + 1, n1, n2, ?_⟩
      exact le_slots' (by simp only [go_sem, Int.natCast_add, Int.cast_ofNat_Int])
end Go.AM
namespace Go.AM
open Go Go.Proofs
def idxG {α : Type} [DecidableEq α] (x : α) : Nat -> List α -> Int
 | _, [] => -1
 | k, y :: r => if x = y then k else idxG x (k + 1) r
theorem idxG_mem {α : Type} [DecidableEq α] (x : α) : ∀ (k : Nat) (l : List α), (0 <= idxG x k l) ↔ x ∈ l
 | _, [] => by simp [idxG]
 | k, y :: r => by
  simp only [idxG]
  split
  ·rename_i h; subst h; simp
  ·rename_i h; simp [idxG_mem x (k + 1) r, h]
def idxSR (ds : List D) (v : AV) : Prop := ∃ (l : List Str) (x : Str), ds = [.sl none (l.map (.str)), .str x] /\ l.length < 4611686018427387904 /\ v = .dat (.int .i64 (idxG x 0 l))
theorem idxS_ok : OkF Try.prog 36 (dataC idxSR) := by
 refine okF_data Try.func36 rfl (by decide) ?_
 rintro ds v ⟨l, x, rfl, hl, rfl⟩
 generalize hv : idxG x 0 l = V
 refine sem_of_awp (Γ := tbl []) okG_nil _ _ _ ?_
 have fin : ∀ s own (b c : Int), b = c -> s.getD 4 .top = .dat (.int .i64 b) -> post Try.prog Try.f36 (.dat (.int .i64 c)) [] [] .ret ⟨s, own, 0, []⟩ := fun s own b c e h => by
  subst e
  exact post_data (.inl rfl) [4] rfl trivial (by simp only [tmpsOf, h]; rfl)
 simp only [go_sem, Try.ntmps36]
 refine sem_loop (fun k : Nat => ⟨slotsOf 19 [(0, .dat (.sl none (l.map (.str)))), (1, .dat (.str x)), (4, .dat (.int .i64 0)), (7, .dat (.int .i64 l.length)), (8, .dat (.int .i64 k))], [], 0, []⟩)
  (fun k => k <= l.length /\ idxG x k (l.drop k) = V) (fun k => l.length - k) 0 ⟨Nat.zero_le _, hv⟩ ?_ ?_
 ·exact le_slots' (by simp only [go_sem, Int.natCast_zero])
 ·rintro k ⟨hk, hI⟩
  refine sem_of_awp (Γ := tbl []) okG_nil _ _ _ ?_
  cases hd : l.drop k with
  | nil =>
   have := end_of_drop hd hk
   have hk2 : ¬ (k : Int) < l.length := by omega
   simp only [go_sem, hk2]
   refine fin _ _ _ _ ?_ rfl
   rw [← hI, hd]; rfl
  | cons c q =>
   have hlt := lt_of_drop hd
   have hk2 : (k : Int) < l.length := by omega
   have hk0 : (0 : Int) <= k := Int.natCast_nonneg k
   have hn := nth_of_drop (f := .str) hd
   rw [hd, idxG] at hI
   by_cases he : x = c
   ·simp only [go_sem, hk2, hk0, hn, he]
    rw [if_pos he] at hI
    exact fin _ _ _ _ hI rfl
   ·simp only [go_sem, hk2, hk0, hn, he]
    rw [if_neg he] at hI
    refine ⟨inR_i64.2 (by omega), k + 1, ⟨by omega, by rw [drop_cons hd]; exact hI⟩, by omega, ?_⟩
    exact le_slots' (by simp only [go_sem, Int.natCast_add, Int.cast_ofNat_Int])
def hasSR (ds : List D) (v : AV) : Prop := ∃ (l : List Str) (x : Str), ds = [.sl none (l.map (.str)), .str x] /\ l.length < 4611686018427387904 /\ v = .dat (.bool (decide (x ∈ l)))
theorem hasS_ok : OkF Try.prog 17 (dataC hasSR) := by
 refine okF_data Try.func17 rfl (by decide) ?_
 rintro ds v ⟨l, x, rfl, hl, rfl⟩
 refine sem_of_awp (Γ := tbl [(36, dataC idxSR)]) (okG_cons idxS_ok okG_nil) _ _ _ ?_
 simp only [go_sem, Try.ntmps17]
 refine call_data idxSR (by simp) _ _ rfl ⟨l, x, rfl, hl, rfl⟩ (.inl rfl) ?_
 simp only [go_sem]
 refine post_data (.inl rfl) [4] rfl trivial ?_
 simp only [tmpsOf, resV, go_sem, idxG_mem]
def idxBR (ds : List D) (v : AV) : Prop := ∃ (l : List Bool) (x : Bool), ds = [.sl none (l.map (.bool)), .bool x] /\ l.length < 4611686018427387904 /\ v = .dat (.int .i64 (idxG x 0 l))
theorem idxB_ok : OkF Try.prog 24 (dataC idxBR) := by
 refine okF_data Try.func24 rfl (by decide) ?_
 rintro ds v ⟨l, x, rfl, hl, rfl⟩
 generalize hv : idxG x 0 l = V
 refine sem_of_awp (Γ := tbl []) okG_nil _ _ _ ?_
 have fin : ∀ s own (b c : Int), b = c -> s.getD 4 .top = .dat (.int .i64 b) -> post Try.prog Try.f24 (.dat (.int .i64 c)) [] [] .ret ⟨s, own, 0, []⟩ := fun s own b c e h => by
  subst e
  exact post_data (.inl rfl) [4] rfl trivial (by simp only [tmpsOf, h]; rfl)
 simp only [go_sem, Try.ntmps24]
 refine sem_loop (fun k : Nat => ⟨slotsOf 19 [(0, .dat (.sl none (l.map (.bool)))), (1, .dat (.bool x)), (4, .dat (.int .i64 0)), (7, .dat (.int .i64 l.length)), (8, .dat (.int .i64 k))], [], 0, []⟩)
  (fun k => k <= l.length /\ idxG x k (l.drop k) = V) (fun k => l.length - k) 0 ⟨Nat.zero_le _, hv⟩ ?_ ?_
 ·exact le_slots' (by simp only [go_sem, Int.natCast_zero])
 ·rintro k ⟨hk, hI⟩
  refine sem_of_awp (Γ := tbl []) okG_nil _ _ _ ?_
  cases hd : l.drop k with
  | nil =>
   have := end_of_drop hd hk
   have hk2 : ¬ (k : Int) < l.length := by omega
   simp only [go_sem, hk2]
   refine fin _ _ _ _ ?_ rfl
   rw [← hI, hd]; rfl
  | cons c q =>
   have hlt := lt_of_drop hd
   have hk2 : (k : Int) < l.length := by omega
   have hk0 : (0 : Int) <= k := Int.natCast_nonneg k
   have hn := nth_of_drop (f := .bool) hd
   rw [hd, idxG] at hI
   by_cases he : x = c
   ·have hbe : (x == c) = true := by simp [he]
    simp only [go_sem, hk2, hk0, hn, hbe]
    rw [if_pos he] at hI
    exact fin _ _ _ _ hI rfl
   ·have hbe : (x == c) = false := by simp [he]
    simp only [go_sem, hk2, hk0, hn, hbe]
    rw [if_neg he] at hI
    refine ⟨inR_i64.2 (by omega), k + 1, ⟨by omega, by rw [drop_cons hd]; exact hI⟩, by omega, ?_⟩
    exact le_slots' (by simp only [go_sem, Int.natCast_add, Int.cast_ofNat_Int])
def hasBR (ds : List D) (v : AV) : Prop := ∃ (l : List Bool) (x : Bool), ds = [.sl none (l.map (.bool)), .bool x] /\ l.length < 4611686018427387904 /\ v = .dat (.bool (decide (x ∈ l)))
theorem hasB_ok : OkF Try.prog 39 (dataC hasBR) := by
 refine okF_data Try.func39 rfl (by decide) ?_
 rintro ds v ⟨l, x, rfl, hl, rfl⟩
 refine sem_of_awp (Γ := tbl [(24, dataC idxBR)]) (okG_cons idxB_ok okG_nil) _ _ _ ?_
 simp only [go_sem, Try.ntmps39]
 refine call_data idxBR (by simp) _ _ rfl ⟨l, x, rfl, hl, rfl⟩ (.inl rfl) ?_
 simp only [go_sem]
 refine post_data (.inl rfl) [4] rfl trivial ?_
 simp only [tmpsOf, resV, go_sem, idxG_mem]
def pos1R (ds : List D) (v : AV) : Prop := ∃ n : Int, ds = [.int .i64 n] /\ v = .dat (.bool (decide (0 < n)))
theorem pos1_ok : OkF Try.prog 40 (dataC pos1R) := by
 refine okF_data Try.func40 rfl (by decide) ?_
 rintro ds v ⟨n, rfl, rfl⟩
 refine sem_of_awp (Γ := tbl []) okG_nil _ _ _ ?_
 simp only [go_sem, Try.ntmps40]
 exact post_data (.inl rfl) [2] rfl trivial rfl
end Go.AM
namespace Go.AM
open Go Go.Proofs
def namesL (s : PSys) : List Str := s.pools.map (·.name) ++ s.locks ++ s.classes.map (·.name)
structure PSys.small (s : PSys) : Prop where
 np : s.pools.length <= 10
 nl : s.locks.length <= 10
 nc : s.classes.length <= 10
def namesR (ds : List D) (v : AV) : Prop := ∃ s : PSys, ds = [sysD s] /\ s.small /\ v = .dat (.sl none ((namesL s).map .str))
theorem map_snoc {α : Type} {f : α -> Str} {l r : List α} {x : α} {k : Nat} (h : l.drop k = x :: r) : (l.take (k + 1)).map (fun y => D.str (f y)) = (l.take k).map (fun y => D.str (f y)) ++ [.str (f x)] := by
 rw [take_of_drop h]; simp
theorem names_ok : OkF Try.prog 15 (dataC namesR) := by
 refine okF_data Try.func15 rfl (by decide) ?_
 rintro ds v ⟨s, rfl, ⟨hp, hl, hc⟩, rfl⟩
 obtain ⟨pools, locks, classes⟩ := s
 simp only at hp hl hc
 generalize hv : namesL ⟨pools, locks, classes⟩ = V
 refine sem_of_awp (Γ := tbl []) okG_nil _ _ _ ?_
 simp only [go_sem, Try.ntmps15, sysD]
 refine sem_le (le_addnil 3 none rfl (Nat.zero_le _)) ?_
 simp only [go_sem]
 refine sem_loop (fun k : Nat => ⟨slotsOf 39 [(1, .ptr 0 0 0), (2, .nils), (3, .sl 1 0 k), (9, .dat (.sl (some 3) (pools.map poolD))), (10, .dat (.int .i64 pools.length)), (11, .dat (.int .i64 k))],
   [.box [.dat (.sl (some 3) (pools.map poolD)), .dat (.sl none (locks.map .str)), .dat (.sl (some 4) (classes.map clsD))], .row none ((pools.take k).map fun p : PPool => D.str p.name)], 0, []⟩)
  (fun k => k <= pools.length) (fun k => pools.length - k) 0 (Nat.zero_le _) ?_ ?_
 ·exact le_slots' (by simp only [go_sem, Int.natCast_zero])
 ·rintro k hk
  refine sem_of_awp (Γ := tbl []) okG_nil _ _ _ ?_
  cases hd : pools.drop k with
  | nil =>
   have he := end_of_drop hd hk
   have hk2 : ¬ (k : Int) < pools.length := by omega
   subst he
   have hlen : (pools.map fun p : PPool => D.str p.name).take pools.length = pools.map fun p : PPool => D.str p.name := List.take_of_length_le (by simp)
   simp only [go_sem, hk2, List.take_length, hlen]
   refine ⟨by omega, by omega, ?_⟩
   refine sem_loop (fun k : Nat => ⟨slotsOf 39 [(1, .ptr 0 0 0), (2, .nils), (3, .sl 1 0 (pools.length + locks.length + k)), (26, .dat (.sl (some 4) (classes.map clsD))), (27, .dat (.int .i64 classes.length)), (28, .dat (.int .i64 k))],
     [.box [.dat (.sl (some 3) (pools.map poolD)), .dat (.sl none (locks.map .str)), .dat (.sl (some 4) (classes.map clsD))], .row none ((pools.map fun p : PPool => D.str p.name) ++ locks.map D.str ++ (classes.take k).map fun p : PCls => D.str p.name)], 0, []⟩)
    (fun k => k <= classes.length) (fun k => classes.length - k) 0 (Nat.zero_le _) ?_ ?_
   ·simp only [List.take_zero, List.map_nil, List.append_nil]
    exact le_slots' (by simp only [go_sem, Int.natCast_zero])
   ·rintro k hk
    refine sem_of_awp (Γ := tbl []) okG_nil _ _ _ ?_
    cases hd : classes.drop k with
    | nil =>
     have he := end_of_drop hd hk
     have hk2 : ¬ (k : Int) < classes.length := by omega
     subst he
     simp only [go_sem, hk2, List.take_length]
     refine post_res (.inl rfl) [.tmp 2] rfl ?_
     simp only [go_sem]
     refine Le.trans (le_freeze 1 (ag := none) rfl (Nat.zero_le _)) ?_
     have e : ((pools.map fun p : PPool => D.str p.name) ++ locks.map D.str ++ classes.map fun p : PCls => D.str p.name) = V.map .str := by
      rw [← hv]; simp [namesL, List.map_map, Function.comp_def]
     have e2 : pools.length + locks.length + classes.length = V.length := by rw [← hv]; simp [namesL]; omega
     have e3 : (V.map D.str).take V.length = V.map .str := List.take_of_length_le (by simp)
     rw [e, e2]
     simp only [go_sem, e3]
     exact le_fin (by simp only [go_sem]) (by simp only [go_sem])
    | cons c q =>
     have hlt := lt_of_drop hd
     have hk2 : (k : Int) < classes.length := by omega
     have hk0 : (0 : Int) <= k := Int.natCast_nonneg k
     have hn := nth_of_drop (f := clsD) hd
     have hml : ((classes.take k).map fun p : PCls => D.str p.name).length = k := by simp; omega
     have hrow : ((pools.map fun p : PPool => D.str p.name) ++ locks.map D.str ++ (classes.take k).map fun p : PCls => D.str p.name).length = pools.length + locks.length + k := by simp; omega
     have htk : ((pools.map fun p : PPool => D.str p.name) ++ locks.map D.str ++ (classes.take k).map fun p : PCls => D.str p.name).take (pools.length + locks.length + k) = (pools.map fun p : PPool => D.str p.name) ++ locks.map D.str ++ (classes.take k).map fun p : PCls => D.str p.name :=
      List.take_of_length_le (by omega)
     have hsn : (pools.map fun p : PPool => D.str p.name) ++ locks.map D.str ++ ((classes.take (k + 1)).map fun p : PCls => D.str p.name) = ((pools.map fun p : PPool => D.str p.name) ++ locks.map D.str ++ (classes.take k).map fun p : PCls => D.str p.name) ++ [.str c.name] := by
      rw [map_snoc (f := PCls.name) hd, List.append_assoc, List.append_assoc]; simp
     generalize ((pools.map fun p : PPool => D.str p.name) ++ locks.map D.str ++ (classes.take k).map fun p : PCls => D.str p.name) = row at *
     simp only [go_sem, hk2, hk0, hn, clsD, hrow, htk]
     refine ⟨by omega, by omega, inR_i64.2 (by omega), k + 1, by omega, by omega, ?_⟩
     rw [hsn]
     refine le_end (own := [_, _]) (ex := [_, _]) (Nat.zero_le _) ?_ ?_ ?_
     ·simp only [go_sem, Int.natCast_add, Int.cast_ofNat_Int, Nat.add_assoc]
     ·simp only [go_sem]
     ·simp only [go_sem, Obj.under, AV.unders, AV.under]
  | cons c q =>
   have hlt := lt_of_drop hd
   have hk2 : (k : Int) < pools.length := by omega
   have hk0 : (0 : Int) <= k := Int.natCast_nonneg k
   have hn := nth_of_drop (f := poolD) hd
   have hrow : ((pools.take k).map fun p : PPool => D.str p.name).length = k := by simp; omega
   have htk : ((pools.take k).map fun p : PPool => D.str p.name).take k = (pools.take k).map fun p : PPool => D.str p.name := List.take_of_length_le (by omega)
   have hsn := map_snoc (f := PPool.name) hd
   generalize ((pools.take k).map fun p : PPool => D.str p.name) = row at *
   simp only [go_sem, hk2, hk0, hn, poolD, hrow, htk]
   refine ⟨by omega, by omega, inR_i64.2 (by omega), k + 1, by omega, by omega, ?_⟩
   rw [hsn]
   refine le_end (own := [_, _]) (ex := [_, _]) (Nat.zero_le _) ?_ ?_ ?_
   ·simp only [go_sem, Int.natCast_add, Int.cast_ofNat_Int, Nat.add_assoc]
   ·simp only [go_sem]
   ·simp only [go_sem, Obj.under, AV.unders, AV.under]
end Go.AM
namespace Go.AM
open Go Go.Proofs
def beforeR (ds : List D) (v : AV) : Prop := ∃ (l : List Str) (i : Nat) (x : Str), ds = [.sl none (l.map .str), .int .i64 i] /\ l[i]? = some x /\ l.length < 4611686018427387904 /\ v = .dat (.bool (decide (x ∈ l.take i)))
end Go.AM

