/- Own work over the model of the kit. -/
import Derived.Test.YtfiojoacbomncaaProg
import Derived.Test.YtfiojoacbomncaaG3
import Derived.Test.YtfiojoacbomncaaG7
set_option linter.unusedSimpArgs false
set_option linter.unusedVariables false
namespace Go.AM
open Go Go.Proofs

noncomputable def T2 : Ty := (tyOf Try.prog 2).getD ⟨false, 0, 0, none, .bool⟩
@[go_sem] theorem ty2 : tyOf Try.prog 2 = some T2 := by refine Eq.trans ?_ (Eq.refl _); kernel_rfl
@[go_sem] theorem T2_agg : T2.agg = false := by refine Eq.trans ?_ (Eq.refl _); kernel_rfl
@[go_sem] theorem T2_size : T2.size = 1 := by refine Eq.trans ?_ (Eq.refl _); kernel_rfl
@[go_sem] theorem T2_bytes : T2.bytes = 8 := by refine Eq.trans ?_ (Eq.refl _); kernel_rfl
@[go_sem] theorem T2_want : T2.want = none := by refine Eq.trans ?_ (Eq.refl _); kernel_rfl
@[go_sem] theorem T2_desc : T2.desc = .int .i64 := by refine Eq.trans ?_ (Eq.refl _); kernel_rfl
@[go_sem] theorem T2_arr : T2.arr = none := by refine Eq.trans ?_ (Eq.refl _); kernel_rfl
@[go_sem] theorem T2_zero : T2.zero = some (.int .i64 0) := by refine Eq.trans ?_ (Eq.refl _); kernel_rfl
@[go_sem] theorem T2_zeroD : zeroD T2 = some (.int .i64 0) := by refine Eq.trans ?_ (Eq.refl _); kernel_rfl
@[go_sem] theorem T2_zeroElem : zeroElem T2 = some (.int .i64 0) := by refine Eq.trans ?_ (Eq.refl _); kernel_rfl
@[go_sem ↓] theorem T2_zs : (∃ z, T2.zero = some z ∧ z.cells.size = T2.size) = True := by
 refine eq_true ⟨_, T2_zero, ?_⟩
 kernel_rfl

noncomputable def T3 : Ty := (tyOf Try.prog 3).getD ⟨false, 0, 0, none, .bool⟩
@[go_sem] theorem ty3 : tyOf Try.prog 3 = some T3 := by refine Eq.trans ?_ (Eq.refl _); kernel_rfl
@[go_sem] theorem T3_agg : T3.agg = false := by refine Eq.trans ?_ (Eq.refl _); kernel_rfl
@[go_sem] theorem T3_size : T3.size = 1 := by refine Eq.trans ?_ (Eq.refl _); kernel_rfl
@[go_sem] theorem T3_bytes : T3.bytes = 8 := by refine Eq.trans ?_ (Eq.refl _); kernel_rfl
@[go_sem] theorem T3_want : T3.want = none := by refine Eq.trans ?_ (Eq.refl _); kernel_rfl
@[go_sem] theorem T3_desc : T3.desc = .int .i64 := by refine Eq.trans ?_ (Eq.refl _); kernel_rfl
@[go_sem] theorem T3_arr : T3.arr = none := by refine Eq.trans ?_ (Eq.refl _); kernel_rfl
@[go_sem] theorem T3_zero : T3.zero = some (.int .i64 0) := by refine Eq.trans ?_ (Eq.refl _); kernel_rfl
@[go_sem] theorem T3_zeroD : zeroD T3 = some (.int .i64 0) := by refine Eq.trans ?_ (Eq.refl _); kernel_rfl
@[go_sem] theorem T3_zeroElem : zeroElem T3 = some (.int .i64 0) := by refine Eq.trans ?_ (Eq.refl _); kernel_rfl
@[go_sem ↓] theorem T3_zs : (∃ z, T3.zero = some z ∧ z.cells.size = T3.size) = True := by
 refine eq_true ⟨_, T3_zero, ?_⟩
 kernel_rfl

noncomputable def T4 : Ty := (tyOf Try.prog 4).getD ⟨false, 0, 0, none, .bool⟩
@[go_sem] theorem ty4 : tyOf Try.prog 4 = some T4 := by refine Eq.trans ?_ (Eq.refl _); kernel_rfl
@[go_sem] theorem T4_agg : T4.agg = false := by refine Eq.trans ?_ (Eq.refl _); kernel_rfl
@[go_sem] theorem T4_size : T4.size = 1 := by refine Eq.trans ?_ (Eq.refl _); kernel_rfl
@[go_sem] theorem T4_bytes : T4.bytes = 1 := by refine Eq.trans ?_ (Eq.refl _); kernel_rfl
@[go_sem] theorem T4_want : T4.want = none := by refine Eq.trans ?_ (Eq.refl _); kernel_rfl
@[go_sem] theorem T4_desc : T4.desc = .bool := by refine Eq.trans ?_ (Eq.refl _); kernel_rfl
@[go_sem] theorem T4_arr : T4.arr = none := by refine Eq.trans ?_ (Eq.refl _); kernel_rfl
@[go_sem] theorem T4_zero : T4.zero = some (.bool false) := by refine Eq.trans ?_ (Eq.refl _); kernel_rfl
@[go_sem] theorem T4_zeroD : zeroD T4 = some (.bool false) := by refine Eq.trans ?_ (Eq.refl _); kernel_rfl
@[go_sem] theorem T4_zeroElem : zeroElem T4 = some (.bool false) := by refine Eq.trans ?_ (Eq.refl _); kernel_rfl
@[go_sem ↓] theorem T4_zs : (∃ z, T4.zero = some z ∧ z.cells.size = T4.size) = True := by
 refine eq_true ⟨_, T4_zero, ?_⟩
 kernel_rfl

noncomputable def T5 : Ty := (tyOf Try.prog 5).getD ⟨false, 0, 0, none, .bool⟩
@[go_sem] theorem ty5 : tyOf Try.prog 5 = some T5 := by refine Eq.trans ?_ (Eq.refl _); kernel_rfl
@[go_sem] theorem T5_agg : T5.agg = false := by refine Eq.trans ?_ (Eq.refl _); kernel_rfl
@[go_sem] theorem T5_size : T5.size = 1 := by refine Eq.trans ?_ (Eq.refl _); kernel_rfl
@[go_sem] theorem T5_bytes : T5.bytes = 1 := by refine Eq.trans ?_ (Eq.refl _); kernel_rfl
@[go_sem] theorem T5_want : T5.want = none := by refine Eq.trans ?_ (Eq.refl _); kernel_rfl
@[go_sem] theorem T5_desc : T5.desc = .int .u8 := by refine Eq.trans ?_ (Eq.refl _); kernel_rfl
@[go_sem] theorem T5_arr : T5.arr = none := by refine Eq.trans ?_ (Eq.refl _); kernel_rfl
@[go_sem] theorem T5_zero : T5.zero = some (.int .u8 0) := by refine Eq.trans ?_ (Eq.refl _); kernel_rfl
@[go_sem] theorem T5_zeroD : zeroD T5 = some (.int .u8 0) := by refine Eq.trans ?_ (Eq.refl _); kernel_rfl
@[go_sem] theorem T5_zeroElem : zeroElem T5 = some (.int .u8 0) := by refine Eq.trans ?_ (Eq.refl _); kernel_rfl
@[go_sem ↓] theorem T5_zs : (∃ z, T5.zero = some z ∧ z.cells.size = T5.size) = True := by
 refine eq_true ⟨_, T5_zero, ?_⟩
 kernel_rfl

noncomputable def T9 : Ty := (tyOf Try.prog 9).getD ⟨false, 0, 0, none, .bool⟩
@[go_sem] theorem ty9 : tyOf Try.prog 9 = some T9 := by refine Eq.trans ?_ (Eq.refl _); kernel_rfl
@[go_sem] theorem T9_agg : T9.agg = false := by refine Eq.trans ?_ (Eq.refl _); kernel_rfl
@[go_sem] theorem T9_size : T9.size = 1 := by refine Eq.trans ?_ (Eq.refl _); kernel_rfl
@[go_sem] theorem T9_bytes : T9.bytes = 16 := by refine Eq.trans ?_ (Eq.refl _); kernel_rfl
@[go_sem] theorem T9_want : T9.want = none := by refine Eq.trans ?_ (Eq.refl _); kernel_rfl
@[go_sem] theorem T9_desc : T9.desc = .string := by refine Eq.trans ?_ (Eq.refl _); kernel_rfl
@[go_sem] theorem T9_arr : T9.arr = none := by refine Eq.trans ?_ (Eq.refl _); kernel_rfl
@[go_sem] theorem T9_zero : T9.zero = some (.string ⟨#[]⟩) := by refine Eq.trans ?_ (Eq.refl _); kernel_rfl
@[go_sem] theorem T9_zeroD : zeroD T9 = some (.str []) := by refine Eq.trans ?_ (Eq.refl _); kernel_rfl
@[go_sem] theorem T9_zeroElem : zeroElem T9 = some (.str []) := by refine Eq.trans ?_ (Eq.refl _); kernel_rfl
@[go_sem ↓] theorem T9_zs : (∃ z, T9.zero = some z ∧ z.cells.size = T9.size) = True := by
 refine eq_true ⟨_, T9_zero, ?_⟩
 kernel_rfl

noncomputable def T21 : Ty := (tyOf Try.prog 21).getD ⟨false, 0, 0, none, .bool⟩
@[go_sem] theorem ty21 : tyOf Try.prog 21 = some T21 := by refine Eq.trans ?_ (Eq.refl _); kernel_rfl
@[go_sem] theorem T21_agg : T21.agg = false := by refine Eq.trans ?_ (Eq.refl _); kernel_rfl
@[go_sem] theorem T21_size : T21.size = 1 := by refine Eq.trans ?_ (Eq.refl _); kernel_rfl
@[go_sem] theorem T21_bytes : T21.bytes = 4 := by refine Eq.trans ?_ (Eq.refl _); kernel_rfl
@[go_sem] theorem T21_want : T21.want = none := by refine Eq.trans ?_ (Eq.refl _); kernel_rfl
@[go_sem] theorem T21_desc : T21.desc = .int .i32 := by refine Eq.trans ?_ (Eq.refl _); kernel_rfl
@[go_sem] theorem T21_arr : T21.arr = none := by refine Eq.trans ?_ (Eq.refl _); kernel_rfl
@[go_sem] theorem T21_zero : T21.zero = some (.int .i32 0) := by refine Eq.trans ?_ (Eq.refl _); kernel_rfl
@[go_sem] theorem T21_zeroD : zeroD T21 = some (.int .i32 0) := by refine Eq.trans ?_ (Eq.refl _); kernel_rfl
@[go_sem] theorem T21_zeroElem : zeroElem T21 = some (.int .i32 0) := by refine Eq.trans ?_ (Eq.refl _); kernel_rfl
@[go_sem ↓] theorem T21_zs : (∃ z, T21.zero = some z ∧ z.cells.size = T21.size) = True := by
 refine eq_true ⟨_, T21_zero, ?_⟩
 kernel_rfl

noncomputable def T22 : Ty := (tyOf Try.prog 22).getD ⟨false, 0, 0, none, .bool⟩
@[go_sem] theorem ty22 : tyOf Try.prog 22 = some T22 := by refine Eq.trans ?_ (Eq.refl _); kernel_rfl
@[go_sem] theorem T22_agg : T22.agg = false := by refine Eq.trans ?_ (Eq.refl _); kernel_rfl
@[go_sem] theorem T22_size : T22.size = 1 := by refine Eq.trans ?_ (Eq.refl _); kernel_rfl
@[go_sem] theorem T22_bytes : T22.bytes = 24 := by refine Eq.trans ?_ (Eq.refl _); kernel_rfl
@[go_sem] theorem T22_want : T22.want = none := by refine Eq.trans ?_ (Eq.refl _); kernel_rfl
@[go_sem] theorem T22_desc : T22.desc = .slice 60 := by refine Eq.trans ?_ (Eq.refl _); kernel_rfl
@[go_sem] theorem T22_arr : T22.arr = none := by refine Eq.trans ?_ (Eq.refl _); kernel_rfl
@[go_sem] theorem T22_zero : T22.zero = some (.slice none 0 0) := by refine Eq.trans ?_ (Eq.refl _); kernel_rfl
@[go_sem] theorem T22_zeroD : zeroD T22 = some (.sl none []) := by refine Eq.trans ?_ (Eq.refl _); kernel_rfl
@[go_sem] theorem T22_zeroElem : zeroElem T22 = some (.sl none []) := by refine Eq.trans ?_ (Eq.refl _); kernel_rfl
@[go_sem ↓] theorem T22_zs : (∃ z, T22.zero = some z ∧ z.cells.size = T22.size) = True := by
 refine eq_true ⟨_, T22_zero, ?_⟩
 kernel_rfl

noncomputable def T23 : Ty := (tyOf Try.prog 23).getD ⟨false, 0, 0, none, .bool⟩
@[go_sem] theorem ty23 : tyOf Try.prog 23 = some T23 := by refine Eq.trans ?_ (Eq.refl _); kernel_rfl
@[go_sem] theorem T23_agg : T23.agg = false := by refine Eq.trans ?_ (Eq.refl _); kernel_rfl
@[go_sem] theorem T23_size : T23.size = 1 := by refine Eq.trans ?_ (Eq.refl _); kernel_rfl
@[go_sem] theorem T23_bytes : T23.bytes = 24 := by refine Eq.trans ?_ (Eq.refl _); kernel_rfl
@[go_sem] theorem T23_want : T23.want = none := by refine Eq.trans ?_ (Eq.refl _); kernel_rfl
@[go_sem] theorem T23_desc : T23.desc = .slice 9 := by refine Eq.trans ?_ (Eq.refl _); kernel_rfl
@[go_sem] theorem T23_arr : T23.arr = none := by refine Eq.trans ?_ (Eq.refl _); kernel_rfl
@[go_sem] theorem T23_zero : T23.zero = some (.slice none 0 0) := by refine Eq.trans ?_ (Eq.refl _); kernel_rfl
@[go_sem] theorem T23_zeroD : zeroD T23 = some (.sl none []) := by refine Eq.trans ?_ (Eq.refl _); kernel_rfl
@[go_sem] theorem T23_zeroElem : zeroElem T23 = some (.sl none []) := by refine Eq.trans ?_ (Eq.refl _); kernel_rfl
@[go_sem ↓] theorem T23_zs : (∃ z, T23.zero = some z ∧ z.cells.size = T23.size) = True := by
 refine eq_true ⟨_, T23_zero, ?_⟩
 kernel_rfl

noncomputable def T24 : Ty := (tyOf Try.prog 24).getD ⟨false, 0, 0, none, .bool⟩
@[go_sem] theorem ty24 : tyOf Try.prog 24 = some T24 := by refine Eq.trans ?_ (Eq.refl _); kernel_rfl
@[go_sem] theorem T24_agg : T24.agg = false := by refine Eq.trans ?_ (Eq.refl _); kernel_rfl
@[go_sem] theorem T24_size : T24.size = 1 := by refine Eq.trans ?_ (Eq.refl _); kernel_rfl
@[go_sem] theorem T24_bytes : T24.bytes = 24 := by refine Eq.trans ?_ (Eq.refl _); kernel_rfl
@[go_sem] theorem T24_want : T24.want = none := by refine Eq.trans ?_ (Eq.refl _); kernel_rfl
@[go_sem] theorem T24_desc : T24.desc = .slice 63 := by refine Eq.trans ?_ (Eq.refl _); kernel_rfl
@[go_sem] theorem T24_arr : T24.arr = none := by refine Eq.trans ?_ (Eq.refl _); kernel_rfl
@[go_sem] theorem T24_zero : T24.zero = some (.slice none 0 0) := by refine Eq.trans ?_ (Eq.refl _); kernel_rfl
@[go_sem] theorem T24_zeroD : zeroD T24 = some (.sl none []) := by refine Eq.trans ?_ (Eq.refl _); kernel_rfl
@[go_sem] theorem T24_zeroElem : zeroElem T24 = some (.sl none []) := by refine Eq.trans ?_ (Eq.refl _); kernel_rfl
@[go_sem ↓] theorem T24_zs : (∃ z, T24.zero = some z ∧ z.cells.size = T24.size) = True := by
 refine eq_true ⟨_, T24_zero, ?_⟩
 kernel_rfl

noncomputable def T26 : Ty := (tyOf Try.prog 26).getD ⟨false, 0, 0, none, .bool⟩
@[go_sem] theorem ty26 : tyOf Try.prog 26 = some T26 := by refine Eq.trans ?_ (Eq.refl _); kernel_rfl
@[go_sem] theorem T26_agg : T26.agg = true := by refine Eq.trans ?_ (Eq.refl _); kernel_rfl
@[go_sem] theorem T26_size : T26.size = 3 := by refine Eq.trans ?_ (Eq.refl _); kernel_rfl
@[go_sem] theorem T26_bytes : T26.bytes = 72 := by refine Eq.trans ?_ (Eq.refl _); kernel_rfl
@[go_sem] theorem T26_want : T26.want = some 3 := by refine Eq.trans ?_ (Eq.refl _); kernel_rfl
@[go_sem] theorem T26_arr : T26.arr = none := by refine Eq.trans ?_ (Eq.refl _); kernel_rfl
@[go_sem] theorem T26_places : placesOf Try.prog T26 = some [(0, 1), (1, 1), (2, 1)] := by refine Eq.trans ?_ (Eq.refl _); kernel_rfl
@[go_sem] theorem T26_f0 : fieldOf Try.prog (some T26) 0 = some (0, T22) := by refine Eq.trans ?_ (Eq.refl _); kernel_rfl
@[go_sem] theorem T26_f1 : fieldOf Try.prog (some T26) 1 = some (1, T23) := by refine Eq.trans ?_ (Eq.refl _); kernel_rfl
@[go_sem] theorem T26_f2 : fieldOf Try.prog (some T26) 2 = some (2, T24) := by refine Eq.trans ?_ (Eq.refl _); kernel_rfl
@[go_sem] theorem T26_zero : T26.zero = some (.agg #[.slice none 0 0, .slice none 0 0, .slice none 0 0]) := by refine Eq.trans ?_ (Eq.refl _); kernel_rfl
@[go_sem] theorem T26_zeroElem : zeroElem T26 = some (.agg [.sl none [], .sl none [], .sl none []]) := by refine Eq.trans ?_ (Eq.refl _); kernel_rfl
@[go_sem ↓] theorem T26_zs : (∃ z, T26.zero = some z ∧ z.cells.size = T26.size) = True := by
 refine eq_true ⟨_, T26_zero, ?_⟩
 kernel_rfl

noncomputable def T27 : Ty := (tyOf Try.prog 27).getD ⟨false, 0, 0, none, .bool⟩
@[go_sem] theorem ty27 : tyOf Try.prog 27 = some T27 := by refine Eq.trans ?_ (Eq.refl _); kernel_rfl
@[go_sem] theorem T27_agg : T27.agg = false := by refine Eq.trans ?_ (Eq.refl _); kernel_rfl
@[go_sem] theorem T27_size : T27.size = 1 := by refine Eq.trans ?_ (Eq.refl _); kernel_rfl
@[go_sem] theorem T27_bytes : T27.bytes = 24 := by refine Eq.trans ?_ (Eq.refl _); kernel_rfl
@[go_sem] theorem T27_want : T27.want = none := by refine Eq.trans ?_ (Eq.refl _); kernel_rfl
@[go_sem] theorem T27_desc : T27.desc = .slice 32 := by refine Eq.trans ?_ (Eq.refl _); kernel_rfl
@[go_sem] theorem T27_arr : T27.arr = none := by refine Eq.trans ?_ (Eq.refl _); kernel_rfl
@[go_sem] theorem T27_zero : T27.zero = some (.slice none 0 0) := by refine Eq.trans ?_ (Eq.refl _); kernel_rfl
@[go_sem] theorem T27_zeroD : zeroD T27 = some (.sl none []) := by refine Eq.trans ?_ (Eq.refl _); kernel_rfl
@[go_sem] theorem T27_zeroElem : zeroElem T27 = some (.sl none []) := by refine Eq.trans ?_ (Eq.refl _); kernel_rfl
@[go_sem ↓] theorem T27_zs : (∃ z, T27.zero = some z ∧ z.cells.size = T27.size) = True := by
 refine eq_true ⟨_, T27_zero, ?_⟩
 kernel_rfl

noncomputable def T29 : Ty := (tyOf Try.prog 29).getD ⟨false, 0, 0, none, .bool⟩
@[go_sem] theorem ty29 : tyOf Try.prog 29 = some T29 := by refine Eq.trans ?_ (Eq.refl _); kernel_rfl
@[go_sem] theorem T29_agg : T29.agg = true := by refine Eq.trans ?_ (Eq.refl _); kernel_rfl
@[go_sem] theorem T29_size : T29.size = 1 := by refine Eq.trans ?_ (Eq.refl _); kernel_rfl
@[go_sem] theorem T29_bytes : T29.bytes = 24 := by refine Eq.trans ?_ (Eq.refl _); kernel_rfl
@[go_sem] theorem T29_want : T29.want = some 1 := by refine Eq.trans ?_ (Eq.refl _); kernel_rfl
@[go_sem] theorem T29_arr : T29.arr = none := by refine Eq.trans ?_ (Eq.refl _); kernel_rfl
@[go_sem] theorem T29_places : placesOf Try.prog T29 = some [(0, 1)] := by refine Eq.trans ?_ (Eq.refl _); kernel_rfl
@[go_sem] theorem T29_f0 : fieldOf Try.prog (some T29) 0 = some (0, T27) := by refine Eq.trans ?_ (Eq.refl _); kernel_rfl
@[go_sem] theorem T29_zero : T29.zero = some (.agg #[.slice none 0 0]) := by refine Eq.trans ?_ (Eq.refl _); kernel_rfl
@[go_sem] theorem T29_zeroElem : zeroElem T29 = some (.agg [.sl none []]) := by refine Eq.trans ?_ (Eq.refl _); kernel_rfl
@[go_sem ↓] theorem T29_zs : (∃ z, T29.zero = some z ∧ z.cells.size = T29.size) = True := by
 refine eq_true ⟨_, T29_zero, ?_⟩
 kernel_rfl

noncomputable def T32 : Ty := (tyOf Try.prog 32).getD ⟨false, 0, 0, none, .bool⟩
@[go_sem] theorem ty32 : tyOf Try.prog 32 = some T32 := by refine Eq.trans ?_ (Eq.refl _); kernel_rfl
@[go_sem] theorem T32_agg : T32.agg = false := by refine Eq.trans ?_ (Eq.refl _); kernel_rfl
@[go_sem] theorem T32_size : T32.size = 1 := by refine Eq.trans ?_ (Eq.refl _); kernel_rfl
@[go_sem] theorem T32_bytes : T32.bytes = 24 := by refine Eq.trans ?_ (Eq.refl _); kernel_rfl
@[go_sem] theorem T32_want : T32.want = none := by refine Eq.trans ?_ (Eq.refl _); kernel_rfl
@[go_sem] theorem T32_desc : T32.desc = .slice 58 := by refine Eq.trans ?_ (Eq.refl _); kernel_rfl
@[go_sem] theorem T32_arr : T32.arr = none := by refine Eq.trans ?_ (Eq.refl _); kernel_rfl
@[go_sem] theorem T32_zero : T32.zero = some (.slice none 0 0) := by refine Eq.trans ?_ (Eq.refl _); kernel_rfl
@[go_sem] theorem T32_zeroD : zeroD T32 = some (.sl none []) := by refine Eq.trans ?_ (Eq.refl _); kernel_rfl
@[go_sem] theorem T32_zeroElem : zeroElem T32 = some (.sl none []) := by refine Eq.trans ?_ (Eq.refl _); kernel_rfl
@[go_sem ↓] theorem T32_zs : (∃ z, T32.zero = some z ∧ z.cells.size = T32.size) = True := by
 refine eq_true ⟨_, T32_zero, ?_⟩
 kernel_rfl

noncomputable def T38 : Ty := (tyOf Try.prog 38).getD ⟨false, 0, 0, none, .bool⟩
@[go_sem] theorem ty38 : tyOf Try.prog 38 = some T38 := by refine Eq.trans ?_ (Eq.refl _); kernel_rfl
@[go_sem] theorem T38_agg : T38.agg = false := by refine Eq.trans ?_ (Eq.refl _); kernel_rfl
@[go_sem] theorem T38_size : T38.size = 1 := by refine Eq.trans ?_ (Eq.refl _); kernel_rfl
@[go_sem] theorem T38_bytes : T38.bytes = 24 := by refine Eq.trans ?_ (Eq.refl _); kernel_rfl
@[go_sem] theorem T38_want : T38.want = none := by refine Eq.trans ?_ (Eq.refl _); kernel_rfl
@[go_sem] theorem T38_desc : T38.desc = .slice 3 := by refine Eq.trans ?_ (Eq.refl _); kernel_rfl
@[go_sem] theorem T38_arr : T38.arr = none := by refine Eq.trans ?_ (Eq.refl _); kernel_rfl
@[go_sem] theorem T38_zero : T38.zero = some (.slice none 0 0) := by refine Eq.trans ?_ (Eq.refl _); kernel_rfl
@[go_sem] theorem T38_zeroD : zeroD T38 = some (.sl none []) := by refine Eq.trans ?_ (Eq.refl _); kernel_rfl
@[go_sem] theorem T38_zeroElem : zeroElem T38 = some (.sl none []) := by refine Eq.trans ?_ (Eq.refl _); kernel_rfl
@[go_sem ↓] theorem T38_zs : (∃ z, T38.zero = some z ∧ z.cells.size = T38.size) = True := by
 refine eq_true ⟨_, T38_zero, ?_⟩
 kernel_rfl

noncomputable def T58 : Ty := (tyOf Try.prog 58).getD ⟨false, 0, 0, none, .bool⟩
@[go_sem] theorem ty58 : tyOf Try.prog 58 = some T58 := by refine Eq.trans ?_ (Eq.refl _); kernel_rfl
@[go_sem] theorem T58_agg : T58.agg = true := by refine Eq.trans ?_ (Eq.refl _); kernel_rfl
@[go_sem] theorem T58_size : T58.size = 2 := by refine Eq.trans ?_ (Eq.refl _); kernel_rfl
@[go_sem] theorem T58_bytes : T58.bytes = 16 := by refine Eq.trans ?_ (Eq.refl _); kernel_rfl
@[go_sem] theorem T58_want : T58.want = some 2 := by refine Eq.trans ?_ (Eq.refl _); kernel_rfl
@[go_sem] theorem T58_arr : T58.arr = none := by refine Eq.trans ?_ (Eq.refl _); kernel_rfl
@[go_sem] theorem T58_places : placesOf Try.prog T58 = some [(0, 1), (1, 1)] := by refine Eq.trans ?_ (Eq.refl _); kernel_rfl
@[go_sem] theorem T58_f0 : fieldOf Try.prog (some T58) 0 = some (0, T3) := by refine Eq.trans ?_ (Eq.refl _); kernel_rfl
@[go_sem] theorem T58_f1 : fieldOf Try.prog (some T58) 1 = some (1, T3) := by refine Eq.trans ?_ (Eq.refl _); kernel_rfl
@[go_sem] theorem T58_zero : T58.zero = some (.agg #[.int .i64 0, .int .i64 0]) := by refine Eq.trans ?_ (Eq.refl _); kernel_rfl
@[go_sem] theorem T58_zeroElem : zeroElem T58 = some (.agg [.int .i64 0, .int .i64 0]) := by refine Eq.trans ?_ (Eq.refl _); kernel_rfl
@[go_sem ↓] theorem T58_zs : (∃ z, T58.zero = some z ∧ z.cells.size = T58.size) = True := by
 refine eq_true ⟨_, T58_zero, ?_⟩
 kernel_rfl

noncomputable def T60 : Ty := (tyOf Try.prog 60).getD ⟨false, 0, 0, none, .bool⟩
@[go_sem] theorem ty60 : tyOf Try.prog 60 = some T60 := by refine Eq.trans ?_ (Eq.refl _); kernel_rfl
@[go_sem] theorem T60_agg : T60.agg = true := by refine Eq.trans ?_ (Eq.refl _); kernel_rfl
@[go_sem] theorem T60_size : T60.size = 3 := by refine Eq.trans ?_ (Eq.refl _); kernel_rfl
@[go_sem] theorem T60_bytes : T60.bytes = 32 := by refine Eq.trans ?_ (Eq.refl _); kernel_rfl
@[go_sem] theorem T60_want : T60.want = some 3 := by refine Eq.trans ?_ (Eq.refl _); kernel_rfl
@[go_sem] theorem T60_arr : T60.arr = none := by refine Eq.trans ?_ (Eq.refl _); kernel_rfl
@[go_sem] theorem T60_places : placesOf Try.prog T60 = some [(0, 1), (1, 1), (2, 1)] := by refine Eq.trans ?_ (Eq.refl _); kernel_rfl
@[go_sem] theorem T60_f0 : fieldOf Try.prog (some T60) 0 = some (0, T9) := by refine Eq.trans ?_ (Eq.refl _); kernel_rfl
@[go_sem] theorem T60_f1 : fieldOf Try.prog (some T60) 1 = some (1, T3) := by refine Eq.trans ?_ (Eq.refl _); kernel_rfl
@[go_sem] theorem T60_f2 : fieldOf Try.prog (some T60) 2 = some (2, T3) := by refine Eq.trans ?_ (Eq.refl _); kernel_rfl
@[go_sem] theorem T60_zero : T60.zero = some (.agg #[.string ⟨#[]⟩, .int .i64 0, .int .i64 0]) := by refine Eq.trans ?_ (Eq.refl _); kernel_rfl
@[go_sem] theorem T60_zeroElem : zeroElem T60 = some (.agg [.str [], .int .i64 0, .int .i64 0]) := by refine Eq.trans ?_ (Eq.refl _); kernel_rfl
@[go_sem ↓] theorem T60_zs : (∃ z, T60.zero = some z ∧ z.cells.size = T60.size) = True := by
 refine eq_true ⟨_, T60_zero, ?_⟩
 kernel_rfl

noncomputable def T61 : Ty := (tyOf Try.prog 61).getD ⟨false, 0, 0, none, .bool⟩
@[go_sem] theorem ty61 : tyOf Try.prog 61 = some T61 := by refine Eq.trans ?_ (Eq.refl _); kernel_rfl
@[go_sem] theorem T61_agg : T61.agg = false := by refine Eq.trans ?_ (Eq.refl _); kernel_rfl
@[go_sem] theorem T61_size : T61.size = 1 := by refine Eq.trans ?_ (Eq.refl _); kernel_rfl
@[go_sem] theorem T61_bytes : T61.bytes = 24 := by refine Eq.trans ?_ (Eq.refl _); kernel_rfl
@[go_sem] theorem T61_want : T61.want = none := by refine Eq.trans ?_ (Eq.refl _); kernel_rfl
@[go_sem] theorem T61_desc : T61.desc = .slice 65 := by refine Eq.trans ?_ (Eq.refl _); kernel_rfl
@[go_sem] theorem T61_arr : T61.arr = none := by refine Eq.trans ?_ (Eq.refl _); kernel_rfl
@[go_sem] theorem T61_zero : T61.zero = some (.slice none 0 0) := by refine Eq.trans ?_ (Eq.refl _); kernel_rfl
@[go_sem] theorem T61_zeroD : zeroD T61 = some (.sl none []) := by refine Eq.trans ?_ (Eq.refl _); kernel_rfl
@[go_sem] theorem T61_zeroElem : zeroElem T61 = some (.sl none []) := by refine Eq.trans ?_ (Eq.refl _); kernel_rfl
@[go_sem ↓] theorem T61_zs : (∃ z, T61.zero = some z ∧ z.cells.size = T61.size) = True := by
 refine eq_true ⟨_, T61_zero, ?_⟩
 kernel_rfl

noncomputable def T63 : Ty := (tyOf Try.prog 63).getD ⟨false, 0, 0, none, .bool⟩
@[go_sem] theorem ty63 : tyOf Try.prog 63 = some T63 := by refine Eq.trans ?_ (Eq.refl _); kernel_rfl
@[go_sem] theorem T63_agg : T63.agg = true := by refine Eq.trans ?_ (Eq.refl _); kernel_rfl
@[go_sem] theorem T63_size : T63.size = 4 := by refine Eq.trans ?_ (Eq.refl _); kernel_rfl
@[go_sem] theorem T63_bytes : T63.bytes = 56 := by refine Eq.trans ?_ (Eq.refl _); kernel_rfl
@[go_sem] theorem T63_want : T63.want = some 4 := by refine Eq.trans ?_ (Eq.refl _); kernel_rfl
@[go_sem] theorem T63_arr : T63.arr = none := by refine Eq.trans ?_ (Eq.refl _); kernel_rfl
@[go_sem] theorem T63_places : placesOf Try.prog T63 = some [(0, 1), (1, 1), (2, 1), (3, 1)] := by refine Eq.trans ?_ (Eq.refl _); kernel_rfl
@[go_sem] theorem T63_f0 : fieldOf Try.prog (some T63) 0 = some (0, T9) := by refine Eq.trans ?_ (Eq.refl _); kernel_rfl
@[go_sem] theorem T63_f1 : fieldOf Try.prog (some T63) 1 = some (1, T3) := by refine Eq.trans ?_ (Eq.refl _); kernel_rfl
@[go_sem] theorem T63_f2 : fieldOf Try.prog (some T63) 2 = some (2, T4) := by refine Eq.trans ?_ (Eq.refl _); kernel_rfl
@[go_sem] theorem T63_f3 : fieldOf Try.prog (some T63) 3 = some (3, T61) := by refine Eq.trans ?_ (Eq.refl _); kernel_rfl
@[go_sem] theorem T63_zero : T63.zero = some (.agg #[.string ⟨#[]⟩, .int .i64 0, .bool false, .slice none 0 0]) := by refine Eq.trans ?_ (Eq.refl _); kernel_rfl
@[go_sem] theorem T63_zeroElem : zeroElem T63 = some (.agg [.str [], .int .i64 0, .bool false, .sl none []]) := by refine Eq.trans ?_ (Eq.refl _); kernel_rfl
@[go_sem ↓] theorem T63_zs : (∃ z, T63.zero = some z ∧ z.cells.size = T63.size) = True := by
 refine eq_true ⟨_, T63_zero, ?_⟩
 kernel_rfl

noncomputable def T65 : Ty := (tyOf Try.prog 65).getD ⟨false, 0, 0, none, .bool⟩
@[go_sem] theorem ty65 : tyOf Try.prog 65 = some T65 := by refine Eq.trans ?_ (Eq.refl _); kernel_rfl
@[go_sem] theorem T65_agg : T65.agg = true := by refine Eq.trans ?_ (Eq.refl _); kernel_rfl
@[go_sem] theorem T65_size : T65.size = 4 := by refine Eq.trans ?_ (Eq.refl _); kernel_rfl
@[go_sem] theorem T65_bytes : T65.bytes = 32 := by refine Eq.trans ?_ (Eq.refl _); kernel_rfl
@[go_sem] theorem T65_want : T65.want = some 4 := by refine Eq.trans ?_ (Eq.refl _); kernel_rfl
@[go_sem] theorem T65_arr : T65.arr = none := by refine Eq.trans ?_ (Eq.refl _); kernel_rfl
@[go_sem] theorem T65_places : placesOf Try.prog T65 = some [(0, 1), (1, 1), (2, 1), (3, 1)] := by refine Eq.trans ?_ (Eq.refl _); kernel_rfl
@[go_sem] theorem T65_f0 : fieldOf Try.prog (some T65) 0 = some (0, T3) := by refine Eq.trans ?_ (Eq.refl _); kernel_rfl
@[go_sem] theorem T65_f1 : fieldOf Try.prog (some T65) 1 = some (1, T3) := by refine Eq.trans ?_ (Eq.refl _); kernel_rfl
@[go_sem] theorem T65_f2 : fieldOf Try.prog (some T65) 2 = some (2, T3) := by refine Eq.trans ?_ (Eq.refl _); kernel_rfl
@[go_sem] theorem T65_f3 : fieldOf Try.prog (some T65) 3 = some (3, T4) := by refine Eq.trans ?_ (Eq.refl _); kernel_rfl
@[go_sem] theorem T65_zero : T65.zero = some (.agg #[.int .i64 0, .int .i64 0, .int .i64 0, .bool false]) := by refine Eq.trans ?_ (Eq.refl _); kernel_rfl
@[go_sem] theorem T65_zeroElem : zeroElem T65 = some (.agg [.int .i64 0, .int .i64 0, .int .i64 0, .bool false]) := by refine Eq.trans ?_ (Eq.refl _); kernel_rfl
@[go_sem ↓] theorem T65_zs : (∃ z, T65.zero = some z ∧ z.cells.size = T65.size) = True := by
 refine eq_true ⟨_, T65_zero, ?_⟩
 kernel_rfl

noncomputable def T68 : Ty := (tyOf Try.prog 68).getD ⟨false, 0, 0, none, .bool⟩
@[go_sem] theorem ty68 : tyOf Try.prog 68 = some T68 := by refine Eq.trans ?_ (Eq.refl _); kernel_rfl
@[go_sem] theorem T68_agg : T68.agg = true := by refine Eq.trans ?_ (Eq.refl _); kernel_rfl
@[go_sem] theorem T68_size : T68.size = 1 := by refine Eq.trans ?_ (Eq.refl _); kernel_rfl
@[go_sem] theorem T68_bytes : T68.bytes = 24 := by refine Eq.trans ?_ (Eq.refl _); kernel_rfl
@[go_sem] theorem T68_want : T68.want = some 1 := by refine Eq.trans ?_ (Eq.refl _); kernel_rfl
@[go_sem] theorem T68_arr : T68.arr = none := by refine Eq.trans ?_ (Eq.refl _); kernel_rfl
@[go_sem] theorem T68_places : placesOf Try.prog T68 = some [(0, 1)] := by refine Eq.trans ?_ (Eq.refl _); kernel_rfl
@[go_sem] theorem T68_f0 : fieldOf Try.prog (some T68) 0 = some (0, T38) := by refine Eq.trans ?_ (Eq.refl _); kernel_rfl
@[go_sem] theorem T68_zero : T68.zero = some (.agg #[.slice none 0 0]) := by refine Eq.trans ?_ (Eq.refl _); kernel_rfl
@[go_sem] theorem T68_zeroElem : zeroElem T68 = some (.agg [.sl none []]) := by refine Eq.trans ?_ (Eq.refl _); kernel_rfl
@[go_sem ↓] theorem T68_zs : (∃ z, T68.zero = some z ∧ z.cells.size = T68.size) = True := by
 refine eq_true ⟨_, T68_zero, ?_⟩
 kernel_rfl

noncomputable def T74 : Ty := (tyOf Try.prog 74).getD ⟨false, 0, 0, none, .bool⟩
@[go_sem] theorem ty74 : tyOf Try.prog 74 = some T74 := by refine Eq.trans ?_ (Eq.refl _); kernel_rfl
@[go_sem] theorem T74_agg : T74.agg = true := by refine Eq.trans ?_ (Eq.refl _); kernel_rfl
@[go_sem] theorem T74_size : T74.size = 3 := by refine Eq.trans ?_ (Eq.refl _); kernel_rfl
@[go_sem] theorem T74_bytes : T74.bytes = 72 := by refine Eq.trans ?_ (Eq.refl _); kernel_rfl
@[go_sem] theorem T74_want : T74.want = some 3 := by refine Eq.trans ?_ (Eq.refl _); kernel_rfl
@[go_sem] theorem T74_arr : T74.arr = none := by refine Eq.trans ?_ (Eq.refl _); kernel_rfl
@[go_sem] theorem T74_places : placesOf Try.prog T74 = some [(0, 1), (1, 1), (2, 1)] := by refine Eq.trans ?_ (Eq.refl _); kernel_rfl
@[go_sem] theorem T74_f0 : fieldOf Try.prog (some T74) 0 = some (0, T38) := by refine Eq.trans ?_ (Eq.refl _); kernel_rfl
@[go_sem] theorem T74_f1 : fieldOf Try.prog (some T74) 1 = some (1, T38) := by refine Eq.trans ?_ (Eq.refl _); kernel_rfl
@[go_sem] theorem T74_f2 : fieldOf Try.prog (some T74) 2 = some (2, T38) := by refine Eq.trans ?_ (Eq.refl _); kernel_rfl
@[go_sem] theorem T74_zero : T74.zero = some (.agg #[.slice none 0 0, .slice none 0 0, .slice none 0 0]) := by refine Eq.trans ?_ (Eq.refl _); kernel_rfl
@[go_sem] theorem T74_zeroElem : zeroElem T74 = some (.agg [.sl none [], .sl none [], .sl none []]) := by refine Eq.trans ?_ (Eq.refl _); kernel_rfl
@[go_sem ↓] theorem T74_zs : (∃ z, T74.zero = some z ∧ z.cells.size = T74.size) = True := by
 refine eq_true ⟨_, T74_zero, ?_⟩
 kernel_rfl

noncomputable def T86 : Ty := (tyOf Try.prog 86).getD ⟨false, 0, 0, none, .bool⟩
@[go_sem] theorem ty86 : tyOf Try.prog 86 = some T86 := by refine Eq.trans ?_ (Eq.refl _); kernel_rfl
@[go_sem] theorem T86_agg : T86.agg = false := by refine Eq.trans ?_ (Eq.refl _); kernel_rfl
@[go_sem] theorem T86_size : T86.size = 1 := by refine Eq.trans ?_ (Eq.refl _); kernel_rfl
@[go_sem] theorem T86_bytes : T86.bytes = 24 := by refine Eq.trans ?_ (Eq.refl _); kernel_rfl
@[go_sem] theorem T86_want : T86.want = none := by refine Eq.trans ?_ (Eq.refl _); kernel_rfl
@[go_sem] theorem T86_desc : T86.desc = .slice 29 := by refine Eq.trans ?_ (Eq.refl _); kernel_rfl
@[go_sem] theorem T86_arr : T86.arr = none := by refine Eq.trans ?_ (Eq.refl _); kernel_rfl
@[go_sem] theorem T86_zero : T86.zero = some (.slice none 0 0) := by refine Eq.trans ?_ (Eq.refl _); kernel_rfl
@[go_sem] theorem T86_zeroD : zeroD T86 = some (.sl none []) := by refine Eq.trans ?_ (Eq.refl _); kernel_rfl
@[go_sem] theorem T86_zeroElem : zeroElem T86 = some (.sl none []) := by refine Eq.trans ?_ (Eq.refl _); kernel_rfl
@[go_sem ↓] theorem T86_zs : (∃ z, T86.zero = some z ∧ z.cells.size = T86.size) = True := by
 refine eq_true ⟨_, T86_zero, ?_⟩
 kernel_rfl

noncomputable def T87 : Ty := (tyOf Try.prog 87).getD ⟨false, 0, 0, none, .bool⟩
@[go_sem] theorem ty87 : tyOf Try.prog 87 = some T87 := by refine Eq.trans ?_ (Eq.refl _); kernel_rfl
@[go_sem] theorem T87_agg : T87.agg = false := by refine Eq.trans ?_ (Eq.refl _); kernel_rfl
@[go_sem] theorem T87_size : T87.size = 1 := by refine Eq.trans ?_ (Eq.refl _); kernel_rfl
@[go_sem] theorem T87_bytes : T87.bytes = 24 := by refine Eq.trans ?_ (Eq.refl _); kernel_rfl
@[go_sem] theorem T87_want : T87.want = none := by refine Eq.trans ?_ (Eq.refl _); kernel_rfl
@[go_sem] theorem T87_desc : T87.desc = .slice 38 := by refine Eq.trans ?_ (Eq.refl _); kernel_rfl
@[go_sem] theorem T87_arr : T87.arr = none := by refine Eq.trans ?_ (Eq.refl _); kernel_rfl
@[go_sem] theorem T87_zero : T87.zero = some (.slice none 0 0) := by refine Eq.trans ?_ (Eq.refl _); kernel_rfl
@[go_sem] theorem T87_zeroD : zeroD T87 = some (.sl none []) := by refine Eq.trans ?_ (Eq.refl _); kernel_rfl
@[go_sem] theorem T87_zeroElem : zeroElem T87 = some (.sl none []) := by refine Eq.trans ?_ (Eq.refl _); kernel_rfl
@[go_sem ↓] theorem T87_zs : (∃ z, T87.zero = some z ∧ z.cells.size = T87.size) = True := by
 refine eq_true ⟨_, T87_zero, ?_⟩
 kernel_rfl

noncomputable def T89 : Ty := (tyOf Try.prog 89).getD ⟨false, 0, 0, none, .bool⟩
@[go_sem] theorem ty89 : tyOf Try.prog 89 = some T89 := by refine Eq.trans ?_ (Eq.refl _); kernel_rfl
@[go_sem] theorem T89_agg : T89.agg = true := by refine Eq.trans ?_ (Eq.refl _); kernel_rfl
@[go_sem] theorem T89_size : T89.size = 5 := by refine Eq.trans ?_ (Eq.refl _); kernel_rfl
@[go_sem] theorem T89_bytes : T89.bytes = 120 := by refine Eq.trans ?_ (Eq.refl _); kernel_rfl
@[go_sem] theorem T89_want : T89.want = some 5 := by refine Eq.trans ?_ (Eq.refl _); kernel_rfl
@[go_sem] theorem T89_arr : T89.arr = none := by refine Eq.trans ?_ (Eq.refl _); kernel_rfl
@[go_sem] theorem T89_places : placesOf Try.prog T89 = some [(0, 1), (1, 1), (2, 1), (3, 1), (4, 1)] := by refine Eq.trans ?_ (Eq.refl _); kernel_rfl
@[go_sem] theorem T89_f0 : fieldOf Try.prog (some T89) 0 = some (0, T86) := by refine Eq.trans ?_ (Eq.refl _); kernel_rfl
@[go_sem] theorem T89_f1 : fieldOf Try.prog (some T89) 1 = some (1, T87) := by refine Eq.trans ?_ (Eq.refl _); kernel_rfl
@[go_sem] theorem T89_f2 : fieldOf Try.prog (some T89) 2 = some (2, T87) := by refine Eq.trans ?_ (Eq.refl _); kernel_rfl
@[go_sem] theorem T89_f3 : fieldOf Try.prog (some T89) 3 = some (3, T38) := by refine Eq.trans ?_ (Eq.refl _); kernel_rfl
@[go_sem] theorem T89_f4 : fieldOf Try.prog (some T89) 4 = some (4, T38) := by refine Eq.trans ?_ (Eq.refl _); kernel_rfl
@[go_sem] theorem T89_zero : T89.zero = some (.agg #[.slice none 0 0, .slice none 0 0, .slice none 0 0, .slice none 0 0, .slice none 0 0]) := by refine Eq.trans ?_ (Eq.refl _); kernel_rfl
@[go_sem] theorem T89_zeroElem : zeroElem T89 = some (.agg [.sl none [], .sl none [], .sl none [], .sl none [], .sl none []]) := by refine Eq.trans ?_ (Eq.refl _); kernel_rfl
@[go_sem ↓] theorem T89_zs : (∃ z, T89.zero = some z ∧ z.cells.size = T89.size) = True := by
 refine eq_true ⟨_, T89_zero, ?_⟩
 kernel_rfl

noncomputable def T94 : Ty := (tyOf Try.prog 94).getD ⟨false, 0, 0, none, .bool⟩
@[go_sem] theorem ty94 : tyOf Try.prog 94 = some T94 := by refine Eq.trans ?_ (Eq.refl _); kernel_rfl
@[go_sem] theorem T94_agg : T94.agg = true := by refine Eq.trans ?_ (Eq.refl _); kernel_rfl
@[go_sem] theorem T94_size : T94.size = 7 := by refine Eq.trans ?_ (Eq.refl _); kernel_rfl
@[go_sem] theorem T94_bytes : T94.bytes = 168 := by refine Eq.trans ?_ (Eq.refl _); kernel_rfl
@[go_sem] theorem T94_want : T94.want = some 7 := by refine Eq.trans ?_ (Eq.refl _); kernel_rfl
@[go_sem] theorem T94_arr : T94.arr = none := by refine Eq.trans ?_ (Eq.refl _); kernel_rfl
@[go_sem] theorem T94_places : placesOf Try.prog T94 = some [(0, 1), (1, 1), (2, 1), (3, 1), (4, 1), (5, 1), (6, 1)] := by refine Eq.trans ?_ (Eq.refl _); kernel_rfl
@[go_sem] theorem T94_f0 : fieldOf Try.prog (some T94) 0 = some (0, T86) := by refine Eq.trans ?_ (Eq.refl _); kernel_rfl
@[go_sem] theorem T94_f1 : fieldOf Try.prog (some T94) 1 = some (1, T23) := by refine Eq.trans ?_ (Eq.refl _); kernel_rfl
@[go_sem] theorem T94_f2 : fieldOf Try.prog (some T94) 2 = some (2, T38) := by refine Eq.trans ?_ (Eq.refl _); kernel_rfl
@[go_sem] theorem T94_f3 : fieldOf Try.prog (some T94) 3 = some (3, T38) := by refine Eq.trans ?_ (Eq.refl _); kernel_rfl
@[go_sem] theorem T94_f4 : fieldOf Try.prog (some T94) 4 = some (4, T87) := by refine Eq.trans ?_ (Eq.refl _); kernel_rfl
@[go_sem] theorem T94_f5 : fieldOf Try.prog (some T94) 5 = some (5, T38) := by refine Eq.trans ?_ (Eq.refl _); kernel_rfl
@[go_sem] theorem T94_f6 : fieldOf Try.prog (some T94) 6 = some (6, T38) := by refine Eq.trans ?_ (Eq.refl _); kernel_rfl
@[go_sem] theorem T94_zero : T94.zero = some (.agg #[.slice none 0 0, .slice none 0 0, .slice none 0 0, .slice none 0 0, .slice none 0 0, .slice none 0 0, .slice none 0 0]) := by refine Eq.trans ?_ (Eq.refl _); kernel_rfl
@[go_sem] theorem T94_zeroElem : zeroElem T94 = some (.agg [.sl none [], .sl none [], .sl none [], .sl none [], .sl none [], .sl none [], .sl none []]) := by refine Eq.trans ?_ (Eq.refl _); kernel_rfl
@[go_sem ↓] theorem T94_zs : (∃ z, T94.zero = some z ∧ z.cells.size = T94.size) = True := by
 refine eq_true ⟨_, T94_zero, ?_⟩
 kernel_rfl

noncomputable def T96 : Ty := (tyOf Try.prog 96).getD ⟨false, 0, 0, none, .bool⟩
@[go_sem] theorem ty96 : tyOf Try.prog 96 = some T96 := by refine Eq.trans ?_ (Eq.refl _); kernel_rfl
@[go_sem] theorem T96_agg : T96.agg = false := by refine Eq.trans ?_ (Eq.refl _); kernel_rfl
@[go_sem] theorem T96_size : T96.size = 1 := by refine Eq.trans ?_ (Eq.refl _); kernel_rfl
@[go_sem] theorem T96_bytes : T96.bytes = 24 := by refine Eq.trans ?_ (Eq.refl _); kernel_rfl
@[go_sem] theorem T96_want : T96.want = none := by refine Eq.trans ?_ (Eq.refl _); kernel_rfl
@[go_sem] theorem T96_desc : T96.desc = .slice 4 := by refine Eq.trans ?_ (Eq.refl _); kernel_rfl
@[go_sem] theorem T96_arr : T96.arr = none := by refine Eq.trans ?_ (Eq.refl _); kernel_rfl
@[go_sem] theorem T96_zero : T96.zero = some (.slice none 0 0) := by refine Eq.trans ?_ (Eq.refl _); kernel_rfl
@[go_sem] theorem T96_zeroD : zeroD T96 = some (.sl none []) := by refine Eq.trans ?_ (Eq.refl _); kernel_rfl
@[go_sem] theorem T96_zeroElem : zeroElem T96 = some (.sl none []) := by refine Eq.trans ?_ (Eq.refl _); kernel_rfl
@[go_sem ↓] theorem T96_zs : (∃ z, T96.zero = some z ∧ z.cells.size = T96.size) = True := by
 refine eq_true ⟨_, T96_zero, ?_⟩
 kernel_rfl

noncomputable def T101 : Ty := (tyOf Try.prog 101).getD ⟨false, 0, 0, none, .bool⟩
@[go_sem] theorem ty101 : tyOf Try.prog 101 = some T101 := by refine Eq.trans ?_ (Eq.refl _); kernel_rfl
@[go_sem] theorem T101_agg : T101.agg = false := by refine Eq.trans ?_ (Eq.refl _); kernel_rfl
@[go_sem] theorem T101_size : T101.size = 1 := by refine Eq.trans ?_ (Eq.refl _); kernel_rfl
@[go_sem] theorem T101_bytes : T101.bytes = 24 := by refine Eq.trans ?_ (Eq.refl _); kernel_rfl
@[go_sem] theorem T101_want : T101.want = none := by refine Eq.trans ?_ (Eq.refl _); kernel_rfl
@[go_sem] theorem T101_desc : T101.desc = .slice 108 := by refine Eq.trans ?_ (Eq.refl _); kernel_rfl
@[go_sem] theorem T101_arr : T101.arr = none := by refine Eq.trans ?_ (Eq.refl _); kernel_rfl
@[go_sem] theorem T101_zero : T101.zero = some (.slice none 0 0) := by refine Eq.trans ?_ (Eq.refl _); kernel_rfl
@[go_sem] theorem T101_zeroD : zeroD T101 = some (.sl none []) := by refine Eq.trans ?_ (Eq.refl _); kernel_rfl
@[go_sem] theorem T101_zeroElem : zeroElem T101 = some (.sl none []) := by refine Eq.trans ?_ (Eq.refl _); kernel_rfl
@[go_sem ↓] theorem T101_zs : (∃ z, T101.zero = some z ∧ z.cells.size = T101.size) = True := by
 refine eq_true ⟨_, T101_zero, ?_⟩
 kernel_rfl

noncomputable def T108 : Ty := (tyOf Try.prog 108).getD ⟨false, 0, 0, none, .bool⟩
@[go_sem] theorem ty108 : tyOf Try.prog 108 = some T108 := by refine Eq.trans ?_ (Eq.refl _); kernel_rfl
@[go_sem] theorem T108_agg : T108.agg = true := by refine Eq.trans ?_ (Eq.refl _); kernel_rfl
@[go_sem] theorem T108_size : T108.size = 4 := by refine Eq.trans ?_ (Eq.refl _); kernel_rfl
@[go_sem] theorem T108_bytes : T108.bytes = 32 := by refine Eq.trans ?_ (Eq.refl _); kernel_rfl
@[go_sem] theorem T108_want : T108.want = some 4 := by refine Eq.trans ?_ (Eq.refl _); kernel_rfl
@[go_sem] theorem T108_arr : T108.arr = none := by refine Eq.trans ?_ (Eq.refl _); kernel_rfl
@[go_sem] theorem T108_places : placesOf Try.prog T108 = some [(0, 1), (1, 1), (2, 1), (3, 1)] := by refine Eq.trans ?_ (Eq.refl _); kernel_rfl
@[go_sem] theorem T108_f0 : fieldOf Try.prog (some T108) 0 = some (0, T3) := by refine Eq.trans ?_ (Eq.refl _); kernel_rfl
@[go_sem] theorem T108_f1 : fieldOf Try.prog (some T108) 1 = some (1, T3) := by refine Eq.trans ?_ (Eq.refl _); kernel_rfl
@[go_sem] theorem T108_f2 : fieldOf Try.prog (some T108) 2 = some (2, T3) := by refine Eq.trans ?_ (Eq.refl _); kernel_rfl
@[go_sem] theorem T108_f3 : fieldOf Try.prog (some T108) 3 = some (3, T3) := by refine Eq.trans ?_ (Eq.refl _); kernel_rfl
@[go_sem] theorem T108_zero : T108.zero = some (.agg #[.int .i64 0, .int .i64 0, .int .i64 0, .int .i64 0]) := by refine Eq.trans ?_ (Eq.refl _); kernel_rfl
@[go_sem] theorem T108_zeroElem : zeroElem T108 = some (.agg [.int .i64 0, .int .i64 0, .int .i64 0, .int .i64 0]) := by refine Eq.trans ?_ (Eq.refl _); kernel_rfl
@[go_sem ↓] theorem T108_zs : (∃ z, T108.zero = some z ∧ z.cells.size = T108.size) = True := by
 refine eq_true ⟨_, T108_zero, ?_⟩
 kernel_rfl

noncomputable def T122 : Ty := (tyOf Try.prog 122).getD ⟨false, 0, 0, none, .bool⟩
@[go_sem] theorem ty122 : tyOf Try.prog 122 = some T122 := by refine Eq.trans ?_ (Eq.refl _); kernel_rfl
@[go_sem] theorem T122_agg : T122.agg = false := by refine Eq.trans ?_ (Eq.refl _); kernel_rfl
@[go_sem] theorem T122_size : T122.size = 1 := by refine Eq.trans ?_ (Eq.refl _); kernel_rfl
@[go_sem] theorem T122_bytes : T122.bytes = 8 := by refine Eq.trans ?_ (Eq.refl _); kernel_rfl
@[go_sem] theorem T122_want : T122.want = none := by refine Eq.trans ?_ (Eq.refl _); kernel_rfl
@[go_sem] theorem T122_desc : T122.desc = .map 9 3 := by refine Eq.trans ?_ (Eq.refl _); kernel_rfl
@[go_sem] theorem T122_arr : T122.arr = none := by refine Eq.trans ?_ (Eq.refl _); kernel_rfl
@[go_sem] theorem T122_zero : T122.zero = some (.map none) := by refine Eq.trans ?_ (Eq.refl _); kernel_rfl
@[go_sem ↓] theorem T122_zs : (∃ z, T122.zero = some z ∧ z.cells.size = T122.size) = True := by
 refine eq_true ⟨_, T122_zero, ?_⟩
 kernel_rfl

noncomputable def T126 : Ty := (tyOf Try.prog 126).getD ⟨false, 0, 0, none, .bool⟩
@[go_sem] theorem ty126 : tyOf Try.prog 126 = some T126 := by refine Eq.trans ?_ (Eq.refl _); kernel_rfl
@[go_sem] theorem T126_agg : T126.agg = false := by refine Eq.trans ?_ (Eq.refl _); kernel_rfl
@[go_sem] theorem T126_size : T126.size = 1 := by refine Eq.trans ?_ (Eq.refl _); kernel_rfl
@[go_sem] theorem T126_bytes : T126.bytes = 8 := by refine Eq.trans ?_ (Eq.refl _); kernel_rfl
@[go_sem] theorem T126_want : T126.want = none := by refine Eq.trans ?_ (Eq.refl _); kernel_rfl
@[go_sem] theorem T126_desc : T126.desc = .map 130 4 := by refine Eq.trans ?_ (Eq.refl _); kernel_rfl
@[go_sem] theorem T126_arr : T126.arr = none := by refine Eq.trans ?_ (Eq.refl _); kernel_rfl
@[go_sem] theorem T126_zero : T126.zero = some (.map none) := by refine Eq.trans ?_ (Eq.refl _); kernel_rfl
@[go_sem ↓] theorem T126_zs : (∃ z, T126.zero = some z ∧ z.cells.size = T126.size) = True := by
 refine eq_true ⟨_, T126_zero, ?_⟩
 kernel_rfl

noncomputable def T130 : Ty := (tyOf Try.prog 130).getD ⟨false, 0, 0, none, .bool⟩
@[go_sem] theorem ty130 : tyOf Try.prog 130 = some T130 := by refine Eq.trans ?_ (Eq.refl _); kernel_rfl
@[go_sem] theorem T130_agg : T130.agg = true := by refine Eq.trans ?_ (Eq.refl _); kernel_rfl
@[go_sem] theorem T130_size : T130.size = 2 := by refine Eq.trans ?_ (Eq.refl _); kernel_rfl
@[go_sem] theorem T130_bytes : T130.bytes = 16 := by refine Eq.trans ?_ (Eq.refl _); kernel_rfl
@[go_sem] theorem T130_want : T130.want = some 2 := by refine Eq.trans ?_ (Eq.refl _); kernel_rfl
@[go_sem] theorem T130_desc : T130.desc = .array 2 3 := by refine Eq.trans ?_ (Eq.refl _); kernel_rfl
@[go_sem] theorem T130_arr : T130.arr = some (2, 3) := by refine Eq.trans ?_ (Eq.refl _); kernel_rfl
@[go_sem] theorem T130_places : placesOf Try.prog T130 = some [(0, 1), (1, 1)] := by refine Eq.trans ?_ (Eq.refl _); kernel_rfl
@[go_sem] theorem T130_zero : T130.zero = some (.agg #[.int .i64 0, .int .i64 0]) := by refine Eq.trans ?_ (Eq.refl _); kernel_rfl
@[go_sem] theorem T130_zeroElem : zeroElem T130 = some (.agg [.int .i64 0, .int .i64 0]) := by refine Eq.trans ?_ (Eq.refl _); kernel_rfl
@[go_sem ↓] theorem T130_zs : (∃ z, T130.zero = some z ∧ z.cells.size = T130.size) = True := by
 refine eq_true ⟨_, T130_zero, ?_⟩
 kernel_rfl

noncomputable def T136 : Ty := (tyOf Try.prog 136).getD ⟨false, 0, 0, none, .bool⟩
@[go_sem] theorem ty136 : tyOf Try.prog 136 = some T136 := by refine Eq.trans ?_ (Eq.refl _); kernel_rfl
@[go_sem] theorem T136_agg : T136.agg = true := by refine Eq.trans ?_ (Eq.refl _); kernel_rfl
@[go_sem] theorem T136_size : T136.size = 2 := by refine Eq.trans ?_ (Eq.refl _); kernel_rfl
@[go_sem] theorem T136_bytes : T136.bytes = 48 := by refine Eq.trans ?_ (Eq.refl _); kernel_rfl
@[go_sem] theorem T136_want : T136.want = some 2 := by refine Eq.trans ?_ (Eq.refl _); kernel_rfl
@[go_sem] theorem T136_arr : T136.arr = none := by refine Eq.trans ?_ (Eq.refl _); kernel_rfl
@[go_sem] theorem T136_places : placesOf Try.prog T136 = some [(0, 1), (1, 1)] := by refine Eq.trans ?_ (Eq.refl _); kernel_rfl
@[go_sem] theorem T136_f0 : fieldOf Try.prog (some T136) 0 = some (0, T38) := by refine Eq.trans ?_ (Eq.refl _); kernel_rfl
@[go_sem] theorem T136_f1 : fieldOf Try.prog (some T136) 1 = some (1, T96) := by refine Eq.trans ?_ (Eq.refl _); kernel_rfl
@[go_sem] theorem T136_zero : T136.zero = some (.agg #[.slice none 0 0, .slice none 0 0]) := by refine Eq.trans ?_ (Eq.refl _); kernel_rfl
@[go_sem] theorem T136_zeroElem : zeroElem T136 = some (.agg [.sl none [], .sl none []]) := by refine Eq.trans ?_ (Eq.refl _); kernel_rfl
@[go_sem ↓] theorem T136_zs : (∃ z, T136.zero = some z ∧ z.cells.size = T136.size) = True := by
 refine eq_true ⟨_, T136_zero, ?_⟩
 kernel_rfl

noncomputable def T141 : Ty := (tyOf Try.prog 141).getD ⟨false, 0, 0, none, .bool⟩
@[go_sem] theorem ty141 : tyOf Try.prog 141 = some T141 := by refine Eq.trans ?_ (Eq.refl _); kernel_rfl
@[go_sem] theorem T141_agg : T141.agg = false := by refine Eq.trans ?_ (Eq.refl _); kernel_rfl
@[go_sem] theorem T141_size : T141.size = 1 := by refine Eq.trans ?_ (Eq.refl _); kernel_rfl
@[go_sem] theorem T141_bytes : T141.bytes = 24 := by refine Eq.trans ?_ (Eq.refl _); kernel_rfl
@[go_sem] theorem T141_want : T141.want = none := by refine Eq.trans ?_ (Eq.refl _); kernel_rfl
@[go_sem] theorem T141_desc : T141.desc = .slice 5 := by refine Eq.trans ?_ (Eq.refl _); kernel_rfl
@[go_sem] theorem T141_arr : T141.arr = none := by refine Eq.trans ?_ (Eq.refl _); kernel_rfl
@[go_sem] theorem T141_zero : T141.zero = some (.slice none 0 0) := by refine Eq.trans ?_ (Eq.refl _); kernel_rfl
@[go_sem] theorem T141_zeroD : zeroD T141 = some (.sl none []) := by refine Eq.trans ?_ (Eq.refl _); kernel_rfl
@[go_sem] theorem T141_zeroElem : zeroElem T141 = some (.sl none []) := by refine Eq.trans ?_ (Eq.refl _); kernel_rfl
@[go_sem ↓] theorem T141_zs : (∃ z, T141.zero = some z ∧ z.cells.size = T141.size) = True := by
 refine eq_true ⟨_, T141_zero, ?_⟩
 kernel_rfl

noncomputable def T152 : Ty := (tyOf Try.prog 152).getD ⟨false, 0, 0, none, .bool⟩
@[go_sem] theorem ty152 : tyOf Try.prog 152 = some T152 := by refine Eq.trans ?_ (Eq.refl _); kernel_rfl
@[go_sem] theorem T152_agg : T152.agg = true := by refine Eq.trans ?_ (Eq.refl _); kernel_rfl
@[go_sem] theorem T152_size : T152.size = 0 := by refine Eq.trans ?_ (Eq.refl _); kernel_rfl
@[go_sem] theorem T152_bytes : T152.bytes = 0 := by refine Eq.trans ?_ (Eq.refl _); kernel_rfl
@[go_sem] theorem T152_want : T152.want = some 0 := by refine Eq.trans ?_ (Eq.refl _); kernel_rfl
@[go_sem] theorem T152_desc : T152.desc = .array 0 16 := by refine Eq.trans ?_ (Eq.refl _); kernel_rfl
@[go_sem] theorem T152_arr : T152.arr = some (0, 16) := by refine Eq.trans ?_ (Eq.refl _); kernel_rfl
@[go_sem] theorem T152_zero : T152.zero = some (.agg #[]) := by refine Eq.trans ?_ (Eq.refl _); kernel_rfl
@[go_sem] theorem T152_zeroElem : zeroElem T152 = some (.agg []) := by refine Eq.trans ?_ (Eq.refl _); kernel_rfl
@[go_sem ↓] theorem T152_zs : (∃ z, T152.zero = some z ∧ z.cells.size = T152.size) = True := by
 refine eq_true ⟨_, T152_zero, ?_⟩
 kernel_rfl

noncomputable def T156 : Ty := (tyOf Try.prog 156).getD ⟨false, 0, 0, none, .bool⟩
@[go_sem] theorem ty156 : tyOf Try.prog 156 = some T156 := by refine Eq.trans ?_ (Eq.refl _); kernel_rfl
@[go_sem] theorem T156_agg : T156.agg = false := by refine Eq.trans ?_ (Eq.refl _); kernel_rfl
@[go_sem] theorem T156_size : T156.size = 1 := by refine Eq.trans ?_ (Eq.refl _); kernel_rfl
@[go_sem] theorem T156_bytes : T156.bytes = 4 := by refine Eq.trans ?_ (Eq.refl _); kernel_rfl
@[go_sem] theorem T156_want : T156.want = none := by refine Eq.trans ?_ (Eq.refl _); kernel_rfl
@[go_sem] theorem T156_desc : T156.desc = .int .u32 := by refine Eq.trans ?_ (Eq.refl _); kernel_rfl
@[go_sem] theorem T156_arr : T156.arr = none := by refine Eq.trans ?_ (Eq.refl _); kernel_rfl
@[go_sem] theorem T156_zero : T156.zero = some (.int .u32 0) := by refine Eq.trans ?_ (Eq.refl _); kernel_rfl
@[go_sem] theorem T156_zeroD : zeroD T156 = some (.int .u32 0) := by refine Eq.trans ?_ (Eq.refl _); kernel_rfl
@[go_sem] theorem T156_zeroElem : zeroElem T156 = some (.int .u32 0) := by refine Eq.trans ?_ (Eq.refl _); kernel_rfl
@[go_sem ↓] theorem T156_zs : (∃ z, T156.zero = some z ∧ z.cells.size = T156.size) = True := by
 refine eq_true ⟨_, T156_zero, ?_⟩
 kernel_rfl

end Go.AM

namespace Go.AM
open Go Go.Proofs

theorem mixed : Try.prog.follows .mixedOrders = true := by kernel_rfl
theorem noMk {Γ : Nat → Contract} : MakeFns Γ [] := fun g _ _ _ _ _ h => by rcases h with h | h <;> cases h
theorem pureNo {Γ : Nat → Contract} : PureFns Γ [] := fun g _ _ _ _ _ h => by cases h
abbrev Str := List UInt8
structure PPool where
 name : Str
 size : Int
 res : Int
deriving Inhabited, DecidableEq
structure PStep where
 kind : Int
 on : Int
 cnt : Int
 deep : Bool
deriving Inhabited, DecidableEq
structure PCls where
 name : Str
 workers : Int
 server : Bool
 steps : List PStep
deriving Inhabited, DecidableEq
structure PSys where
 pools : List PPool
 locks : List Str
 classes : List PCls
deriving Inhabited, DecidableEq

abbrev intsD (u : List Int) : List D := u.map (.int .i64)
abbrev boolsD (b : List Bool) : List D := b.map .bool
def poolD (p : PPool) : D := .agg [.str p.name, .int .i64 p.size, .int .i64 p.res]
def stepD (s : PStep) : D := .agg [.int .i64 s.kind, .int .i64 s.on, .int .i64 s.cnt, .bool s.deep]
def stepsD (l : List PStep) : D := .sl (some 4) (l.map stepD)
def clsD (c : PCls) : D := .agg [.str c.name, .int .i64 c.workers, .bool c.server, stepsD c.steps]
def sysD (s : PSys) : D := .agg [.sl (some 3) (s.pools.map poolD), .sl none (s.locks.map .str), .sl (some 4) (s.classes.map clsD)]

def PStep.ok (s : PStep) : Prop := inR .i64 s.kind ∧ inR .i64 s.on ∧ inR .i64 s.cnt
def PPool.ok (p : PPool) : Prop := inR .i64 p.size ∧ inR .i64 p.res
def PCls.ok (c : PCls) : Prop := inR .i64 c.workers ∧ (∀ s ∈ c.steps, s.ok) ∧ c.steps.length < 4611686018427387904
structure PSys.ok (s : PSys) : Prop where
 pools : ∀ p ∈ s.pools, p.ok
 classes : ∀ c ∈ s.classes, c.ok
 np : s.pools.length < 4611686018427387904
 nl : s.locks.length < 4611686018427387904
 nc : s.classes.length < 4611686018427387904
end Go.AM

set_option maxRecDepth 8000
namespace Go.AM
open Go Go.Proofs

def lowc (b : UInt8) : Bool := decide (97 ≤ b.toNat) && decide (b.toNat ≤ 122)
def digc (b : UInt8) : Bool := decide (48 ≤ b.toNat) && decide (b.toNat ≤ 57)
def nmc (b : UInt8) : Bool := lowc b || digc b
def isNm (s : Str) : Bool := match s with | [] => false | b :: r => decide (r.length < 8) && lowc b && r.all nmc

def isNmR (ds : List D) (v : AV) : Prop := ∃ s : Str, ds = [.str s] ∧ v = .dat (.bool (isNm s))

theorem lowc_iff {b : UInt8} : lowc b = true ↔ ¬ (b.toNat : Int) < 97 ∧ ¬ (122 : Int) < b.toNat := by
 simp only [lowc, Bool.and_eq_true, decide_eq_true_eq]; omega
theorem digc_iff {b : UInt8} : digc b = true ↔ ¬ (b.toNat : Int) < 48 ∧ ¬ (57 : Int) < b.toNat := by
 simp only [digc, Bool.and_eq_true, decide_eq_true_eq]; omega

theorem lowc_eq {b : UInt8} : lowc b = (!decide ((b.toNat : Int) < 97) && !decide ((122 : Int) < b.toNat)) := by
 rw [Bool.eq_iff_iff, lowc_iff]; simp
theorem digc_eq {b : UInt8} : digc b = (!decide ((b.toNat : Int) < 48) && !decide ((57 : Int) < b.toNat)) := by
 rw [Bool.eq_iff_iff, digc_iff]; simp

theorem isName_ok : OkF Try.prog 74 (dataC isNmR) := by
 refine okF_data Try.func74 rfl (by decide) ?_
 rintro ds v ⟨s, rfl, rfl⟩
 generalize hv : isNm s = V
 refine sem_of_awp (Γ := tbl []) okG_nil _ _ _ ?_
 have fin : ∀ s own (b c : Bool), b = c → s.getD 2 .top = .dat (.bool b) → post Try.prog Try.f74 (.dat (.bool c)) [] [] .ret ⟨s, own, 0, []⟩ := fun s own b c e h => by
  subst e
  exact post_data (.inl rfl) [2] rfl trivial (by simp only [tmpsOf, h]; rfl)
 cases s with
 | nil =>
  have h0 : ((0 : Nat) : Int) < 1 := by omega
  simp only [go_sem, Try.ntmps74, h0]
  exact fin _ _ _ _ hv rfl
 | cons b r =>
  have h0 : ¬ ((r.length + 1 : Nat) : Int) < 1 := by omega
  have h00 : (0 : Int) < ((r.length + 1 : Nat) : Int) := by omega
  by_cases h1 : (8 : Int) < ((r.length + 1 : Nat) : Int)
  ·simp only [go_sem, Try.ntmps74, h0, h1]
   refine fin _ _ _ _ ?_ rfl
   rw [← hv]; simp only [isNm]; rw [decide_eq_false (by omega)]; rfl
  have h1' : decide (r.length < 8) = true := decide_eq_true (by omega)
  by_cases h2 : (b.toNat : Int) < 97
  ·simp only [go_sem, Try.ntmps74, h0, h00, h1, h2]
   refine fin _ _ _ _ ?_ rfl
   rw [← hv]; simp [isNm, lowc_eq, h2, h1']
  by_cases h3 : (122 : Int) < b.toNat
  ·simp only [go_sem, Try.ntmps74, h0, h00, h1, h2, h3]
   refine fin _ _ _ _ ?_ rfl
   rw [← hv]; simp [isNm, lowc_eq, h2, h3, h1']
  have hl : lowc b = true := lowc_iff.2 ⟨h2, h3⟩
  have e : isNm (b :: r) = (b :: r).all nmc := by simp only [isNm, h1', hl, List.all_cons, nmc, Bool.true_and, Bool.true_or]
  rw [e] at hv
  simp only [go_sem, Try.ntmps74, h0, h00, h1, h2, h3]
  generalize hL : b :: r = L at *
  have hll : L.length ≤ 8 := by rw [← hL]; simp only [List.length_cons]; omega
  rw [show r.length + 1 = L.length by rw [← hL]; rfl]
  refine sem_loop (fun k : Nat => ⟨slotsOf 50 [(0, .dat (.str L)), (2, .dat (.bool false)), (23, .dat (.int .i64 L.length)), (24, .dat (.int .i64 k))], [], 0, []⟩)
   (fun k => k ≤ L.length ∧ (L.drop k).all nmc = V) (fun k => L.length - k) 0 ⟨Nat.zero_le _, hv⟩ ?_ ?_
  ·exact le_slots' (by simp only [go_sem, Int.natCast_zero])
  ·rintro k ⟨hk, hI⟩
   refine sem_of_awp (Γ := tbl []) okG_nil _ _ _ ?_
   cases hd : L.drop k with
   | nil =>
    have := end_of_drop hd hk
    have hk2 : ¬ (k : Int) < L.length := by omega
    simp only [go_sem, hk2]
    refine fin _ _ _ _ ?_ rfl
    rw [← hI, hd]; rfl
   | cons c q =>
    have hlt := lt_of_drop hd
    have hk2 : (k : Int) < L.length := by omega
    have hk0 : (0 : Int) ≤ k := Int.natCast_nonneg k
    have hb : L.getD k 0 = c := getD_of_drop hd
    rw [hd, List.all_cons] at hI
    have next : nmc c = true → ∃ x, (x ≤ L.length ∧ (L.drop x).all nmc = V) ∧ L.length - x < L.length - k ∧ x = k + 1 := fun h =>
     ⟨k + 1, ⟨by omega, by rw [drop_cons hd, ← hI, h, Bool.true_and]⟩, by omega, rfl⟩
    have hgo : inR .i64 ((k : Int) + 1) := inR_i64.2 (by omega)
    by_cases g1 : (c.toNat : Int) < 97
    ·by_cases g3 : (c.toNat : Int) < 48
     ·simp only [go_sem, hk2, hk0, hb, g1, g3]
      refine fin _ _ _ _ ?_ rfl
      rw [← hI]; simp [nmc, lowc_eq, digc_eq, g1, g3]
     by_cases g4 : (57 : Int) < c.toNat
     ·simp only [go_sem, hk2, hk0, hb, g1, g3, g4]
      refine fin _ _ _ _ ?_ rfl
      rw [← hI]; simp [nmc, lowc_eq, digc_eq, g1, g3, g4]
     ·simp only [go_sem, hk2, hk0, hb, g1, g3, g4]
      obtain ⟨x, n1, n2, rfl⟩ := next (by simp [nmc, lowc_eq, digc_eq, g1, g3, g4])
      refine ⟨hgo, k + 1, n1, n2, ?_⟩
      exact le_slots' (by simp only [go_sem, Int.natCast_add, Int.cast_ofNat_Int])
    ·by_cases g2 : (122 : Int) < c.toNat
     ·have g3 : ¬ (c.toNat : Int) < 48 := by omega
      have g4 : (57 : Int) < c.toNat := by omega
      simp only [go_sem, hk2, hk0, hb, g1, g2, g3, g4]
      refine fin _ _ _ _ ?_ rfl
      rw [← hI]; simp [nmc, lowc_eq, digc_eq, g1, g2, g3, g4]
     ·simp only [go_sem, hk2, hk0, hb, g1, g2]
      obtain ⟨x, n1, n2, rfl⟩ := next (by simp [nmc, lowc_eq, g1, g2])
      refine ⟨hgo, k + 1, n1, n2, ?_⟩
      exact le_slots' (by simp only [go_sem, Int.natCast_add, Int.cast_ofNat_Int])
end Go.AM

set_option maxRecDepth 8000
namespace Go.AM
open Go Go.Proofs

def idxG {α : Type} [DecidableEq α] (x : α) : Nat → List α → Int
 | _, [] => -1
 | k, y :: r => if x = y then k else idxG x (k + 1) r
theorem idxG_mem {α : Type} [DecidableEq α] (x : α) : ∀ (k : Nat) (l : List α), (0 ≤ idxG x k l) ↔ x ∈ l
 | _, [] => by simp [idxG]
 | k, y :: r => by
  simp only [idxG]
  split
  ·rename_i h; subst h; simp
  ·rename_i h; simp [idxG_mem x (k + 1) r, h]
def idxSR (ds : List D) (v : AV) : Prop := ∃ (l : List Str) (x : Str), ds = [.sl none (l.map (.str)), .str x] ∧ l.length < 4611686018427387904 ∧ v = .dat (.int .i64 (idxG x 0 l))
theorem idxS_ok : OkF Try.prog 94 (dataC idxSR) := by
 refine okF_data Try.func94 rfl (by decide) ?_
 rintro ds v ⟨l, x, rfl, hl, rfl⟩
 generalize hv : idxG x 0 l = V
 refine sem_of_awp (Γ := tbl []) okG_nil _ _ _ ?_
 have fin : ∀ s own (b c : Int), b = c → s.getD 4 .top = .dat (.int .i64 b) → post Try.prog Try.f94 (.dat (.int .i64 c)) [] [] .ret ⟨s, own, 0, []⟩ := fun s own b c e h => by
  subst e
  exact post_data (.inl rfl) [4] rfl trivial (by simp only [tmpsOf, h]; rfl)
 simp only [go_sem, Try.ntmps94]
 refine sem_loop (fun k : Nat => ⟨slotsOf 19 [(0, .dat (.sl none (l.map (.str)))), (1, .dat (.str x)), (4, .dat (.int .i64 0)), (7, .dat (.int .i64 l.length)), (8, .dat (.int .i64 k))], [], 0, []⟩)
  (fun k => k ≤ l.length ∧ idxG x k (l.drop k) = V) (fun k => l.length - k) 0 ⟨Nat.zero_le _, hv⟩ ?_ ?_
 ·exact le_slots' (by simp only [go_sem, Int.natCast_zero])
 ·rintro k ⟨hk, hI⟩
  refine sem_of_awp (Γ := tbl []) okG_nil _ _ _ ?_
  cases hd : l.drop k with
  | nil =>
   have := end_of_drop hd hk
   have hk2 : ¬ (k : Int) < l.length := by omega
   simp only [go_sem, hk2]
   refine fin _ _ _ _ ?_ rfl
   rw [← hI, hd]; rfl
  | cons c q =>
   have hlt := lt_of_drop hd
   have hk2 : (k : Int) < l.length := by omega
   have hk0 : (0 : Int) ≤ k := Int.natCast_nonneg k
   have hn := nth_of_drop (f := .str) hd
   rw [hd, idxG] at hI
   by_cases he : x = c
   ·simp only [go_sem, hk2, hk0, hn, he]
    rw [if_pos he] at hI
    exact fin _ _ _ _ hI rfl
   ·simp only [go_sem, hk2, hk0, hn, he]
    rw [if_neg he] at hI
    refine ⟨inR_i64.2 (by omega), k + 1, ⟨by omega, by rw [drop_cons hd]; exact hI⟩, by omega, ?_⟩
    exact le_slots' (by simp only [go_sem, Int.natCast_add, Int.cast_ofNat_Int])
def hasSR (ds : List D) (v : AV) : Prop := ∃ (l : List Str) (x : Str), ds = [.sl none (l.map (.str)), .str x] ∧ l.length < 4611686018427387904 ∧ v = .dat (.bool (decide (x ∈ l)))
theorem hasS_ok : OkF Try.prog 75 (dataC hasSR) := by
 refine okF_data Try.func75 rfl (by decide) ?_
 rintro ds v ⟨l, x, rfl, hl, rfl⟩
 refine sem_of_awp (Γ := tbl [(94, dataC idxSR)]) (okG_cons idxS_ok okG_nil) _ _ _ ?_
 simp only [go_sem, Try.ntmps75]
 refine call_data idxSR (by simp) _ _ rfl ⟨l, x, rfl, hl, rfl⟩ (.inl rfl) ?_
 simp only [go_sem]
 refine post_data (.inl rfl) [4] rfl trivial ?_
 simp only [tmpsOf, resV, go_sem, idxG_mem]

def idxBR (ds : List D) (v : AV) : Prop := ∃ (l : List Bool) (x : Bool), ds = [.sl none (l.map (.bool)), .bool x] ∧ l.length < 4611686018427387904 ∧ v = .dat (.int .i64 (idxG x 0 l))
theorem idxB_ok : OkF Try.prog 60 (dataC idxBR) := by
 refine okF_data Try.func60 rfl (by decide) ?_
 rintro ds v ⟨l, x, rfl, hl, rfl⟩
 generalize hv : idxG x 0 l = V
 refine sem_of_awp (Γ := tbl []) okG_nil _ _ _ ?_
 have fin : ∀ s own (b c : Int), b = c → s.getD 4 .top = .dat (.int .i64 b) → post Try.prog Try.f60 (.dat (.int .i64 c)) [] [] .ret ⟨s, own, 0, []⟩ := fun s own b c e h => by
  subst e
  exact post_data (.inl rfl) [4] rfl trivial (by simp only [tmpsOf, h]; rfl)
 simp only [go_sem, Try.ntmps60]
 refine sem_loop (fun k : Nat => ⟨slotsOf 19 [(0, .dat (.sl none (l.map (.bool)))), (1, .dat (.bool x)), (4, .dat (.int .i64 0)), (7, .dat (.int .i64 l.length)), (8, .dat (.int .i64 k))], [], 0, []⟩)
  (fun k => k ≤ l.length ∧ idxG x k (l.drop k) = V) (fun k => l.length - k) 0 ⟨Nat.zero_le _, hv⟩ ?_ ?_
 ·exact le_slots' (by simp only [go_sem, Int.natCast_zero])
 ·rintro k ⟨hk, hI⟩
  refine sem_of_awp (Γ := tbl []) okG_nil _ _ _ ?_
  cases hd : l.drop k with
  | nil =>
   have := end_of_drop hd hk
   have hk2 : ¬ (k : Int) < l.length := by omega
   simp only [go_sem, hk2]
   refine fin _ _ _ _ ?_ rfl
   rw [← hI, hd]; rfl
  | cons c q =>
   have hlt := lt_of_drop hd
   have hk2 : (k : Int) < l.length := by omega
   have hk0 : (0 : Int) ≤ k := Int.natCast_nonneg k
   have hn := nth_of_drop (f := .bool) hd
   rw [hd, idxG] at hI
   by_cases he : x = c
   ·have hbe : (x == c) = true := by simp [he]
    simp only [go_sem, hk2, hk0, hn, hbe]
    rw [if_pos he] at hI
    exact fin _ _ _ _ hI rfl
   ·have hbe : (x == c) = false := by simp [he]
    simp only [go_sem, hk2, hk0, hn, hbe]
    rw [if_neg he] at hI
    refine ⟨inR_i64.2 (by omega), k + 1, ⟨by omega, by rw [drop_cons hd]; exact hI⟩, by omega, ?_⟩
    exact le_slots' (by simp only [go_sem, Int.natCast_add, Int.cast_ofNat_Int])
def hasBR (ds : List D) (v : AV) : Prop := ∃ (l : List Bool) (x : Bool), ds = [.sl none (l.map (.bool)), .bool x] ∧ l.length < 4611686018427387904 ∧ v = .dat (.bool (decide (x ∈ l)))
theorem hasB_ok : OkF Try.prog 97 (dataC hasBR) := by
 refine okF_data Try.func97 rfl (by decide) ?_
 rintro ds v ⟨l, x, rfl, hl, rfl⟩
 refine sem_of_awp (Γ := tbl [(60, dataC idxBR)]) (okG_cons idxB_ok okG_nil) _ _ _ ?_
 simp only [go_sem, Try.ntmps97]
 refine call_data idxBR (by simp) _ _ rfl ⟨l, x, rfl, hl, rfl⟩ (.inl rfl) ?_
 simp only [go_sem]
 refine post_data (.inl rfl) [4] rfl trivial ?_
 simp only [tmpsOf, resV, go_sem, idxG_mem]

def pos1R (ds : List D) (v : AV) : Prop := ∃ n : Int, ds = [.int .i64 n] ∧ v = .dat (.bool (decide (0 < n)))
theorem pos1_ok : OkF Try.prog 98 (dataC pos1R) := by
 refine okF_data Try.func98 rfl (by decide) ?_
 rintro ds v ⟨n, rfl, rfl⟩
 refine sem_of_awp (Γ := tbl []) okG_nil _ _ _ ?_
 simp only [go_sem, Try.ntmps98]
 exact post_data (.inl rfl) [2] rfl trivial rfl
end Go.AM

