/- Own work over the model of the kit. -/
import Derived.Test.YtholibdhogbobaaProg
import Derived.Test.YtholibdhogbobaaB3
import Derived.Test.YtholibdhogbobaaB8
set_option linter.unusedSimpArgs false
set_option linter.unusedVariables false
namespace Go.AM
open Go Go.Proofs

noncomputable def T3 : Ty := (tyOf Try.prog 3).getD ⟨false, 0, 0, none, .bool⟩
@[go_sem] theorem ty3 : tyOf Try.prog 3 = some T3 := by refine Eq.trans ?_ (Eq.refl _); kernel_rfl
@[go_sem] theorem T3_agg : T3.agg = false := by refine Eq.trans ?_ (Eq.refl _); kernel_rfl
@[go_sem] theorem T3_size : T3.size = 1 := by refine Eq.trans ?_ (Eq.refl _); kernel_rfl
@[go_sem] theorem T3_bytes : T3.bytes = 8 := by refine Eq.trans ?_ (Eq.refl _); kernel_rfl
@[go_sem] theorem T3_want : T3.want = none := by refine Eq.trans ?_ (Eq.refl _); kernel_rfl
@[go_sem] theorem T3_desc : T3.desc = .int .i64 := by refine Eq.trans ?_ (Eq.refl _); kernel_rfl
@[go_sem] theorem T3_arr : T3.arr = none := by refine Eq.trans ?_ (Eq.refl _); kernel_rfl
@[go_sem] theorem T3_zero : T3.zero = some (.int .i64 0) := by refine Eq.trans ?_ (Eq.refl _); kernel_rfl
@[go_sem] theorem T3_zeroD : zeroD T3 = some (.int .i64 0) := by refine Eq.trans ?_ (Eq.refl _); kernel_rfl
@[go_sem] theorem T3_zeroElem : zeroElem T3 = some (.int .i64 0) := by refine Eq.trans ?_ (Eq.refl _); kernel_rfl
@[go_sem ↓] theorem T3_zs : (∃ z, T3.zero = some z ∧ z.cells.size = T3.size) = True := by
  refine eq_true ⟨_, T3_zero, ?_⟩
  kernel_rfl

noncomputable def T4 : Ty := (tyOf Try.prog 4).getD ⟨false, 0, 0, none, .bool⟩
@[go_sem] theorem ty4 : tyOf Try.prog 4 = some T4 := by refine Eq.trans ?_ (Eq.refl _); kernel_rfl
@[go_sem] theorem T4_agg : T4.agg = false := by refine Eq.trans ?_ (Eq.refl _); kernel_rfl
@[go_sem] theorem T4_size : T4.size = 1 := by refine Eq.trans ?_ (Eq.refl _); kernel_rfl
@[go_sem] theorem T4_bytes : T4.bytes = 1 := by refine Eq.trans ?_ (Eq.refl _); kernel_rfl
@[go_sem] theorem T4_want : T4.want = none := by refine Eq.trans ?_ (Eq.refl _); kernel_rfl
@[go_sem] theorem T4_desc : T4.desc = .bool := by refine Eq.trans ?_ (Eq.refl _); kernel_rfl
@[go_sem] theorem T4_arr : T4.arr = none := by refine Eq.trans ?_ (Eq.refl _); kernel_rfl
@[go_sem] theorem T4_zero : T4.zero = some (.bool false) := by refine Eq.trans ?_ (Eq.refl _); kernel_rfl
@[go_sem] theorem T4_zeroD : zeroD T4 = some (.bool false) := by refine Eq.trans ?_ (Eq.refl _); kernel_rfl
@[go_sem] theorem T4_zeroElem : zeroElem T4 = some (.bool false) := by refine Eq.trans ?_ (Eq.refl _); kernel_rfl
@[go_sem ↓] theorem T4_zs : (∃ z, T4.zero = some z ∧ z.cells.size = T4.size) = True := by
  refine eq_true ⟨_, T4_zero, ?_⟩
  kernel_rfl

noncomputable def T5 : Ty := (tyOf Try.prog 5).getD ⟨false, 0, 0, none, .bool⟩
@[go_sem] theorem ty5 : tyOf Try.prog 5 = some T5 := by refine Eq.trans ?_ (Eq.refl _); kernel_rfl
@[go_sem] theorem T5_agg : T5.agg = false := by refine Eq.trans ?_ (Eq.refl _); kernel_rfl
@[go_sem] theorem T5_size : T5.size = 1 := by refine Eq.trans ?_ (Eq.refl _); kernel_rfl
@[go_sem] theorem T5_bytes : T5.bytes = 1 := by refine Eq.trans ?_ (Eq.refl _); kernel_rfl
@[go_sem] theorem T5_want : T5.want = none := by refine Eq.trans ?_ (Eq.refl _); kernel_rfl
@[go_sem] theorem T5_desc : T5.desc = .int .u8 := by refine Eq.trans ?_ (Eq.refl _); kernel_rfl
@[go_sem] theorem T5_arr : T5.arr = none := by refine Eq.trans ?_ (Eq.refl _); kernel_rfl
@[go_sem] theorem T5_zero : T5.zero = some (.int .u8 0) := by refine Eq.trans ?_ (Eq.refl _); kernel_rfl
@[go_sem] theorem T5_zeroD : zeroD T5 = some (.int .u8 0) := by refine Eq.trans ?_ (Eq.refl _); kernel_rfl
@[go_sem] theorem T5_zeroElem : zeroElem T5 = some (.int .u8 0) := by refine Eq.trans ?_ (Eq.refl _); kernel_rfl
@[go_sem ↓] theorem T5_zs : (∃ z, T5.zero = some z ∧ z.cells.size = T5.size) = True := by
  refine eq_true ⟨_, T5_zero, ?_⟩
  kernel_rfl

noncomputable def T9 : Ty := (tyOf Try.prog 9).getD ⟨false, 0, 0, none, .bool⟩
@[go_sem] theorem ty9 : tyOf Try.prog 9 = some T9 := by refine Eq.trans ?_ (Eq.refl _); kernel_rfl
@[go_sem] theorem T9_agg : T9.agg = false := by refine Eq.trans ?_ (Eq.refl _); kernel_rfl
@[go_sem] theorem T9_size : T9.size = 1 := by refine Eq.trans ?_ (Eq.refl _); kernel_rfl
@[go_sem] theorem T9_bytes : T9.bytes = 16 := by refine Eq.trans ?_ (Eq.refl _); kernel_rfl
@[go_sem] theorem T9_want : T9.want = none := by refine Eq.trans ?_ (Eq.refl _); kernel_rfl
@[go_sem] theorem T9_desc : T9.desc = .string := by refine Eq.trans ?_ (Eq.refl _); kernel_rfl
@[go_sem] theorem T9_arr : T9.arr = none := by refine Eq.trans ?_ (Eq.refl _); kernel_rfl
@[go_sem] theorem T9_zero : T9.zero = some (.string ⟨#[]⟩) := by refine Eq.trans ?_ (Eq.refl _); kernel_rfl
@[go_sem] theorem T9_zeroD : zeroD T9 = some (.str []) := by refine Eq.trans ?_ (Eq.refl _); kernel_rfl
@[go_sem] theorem T9_zeroElem : zeroElem T9 = some (.str []) := by refine Eq.trans ?_ (Eq.refl _); kernel_rfl
@[go_sem ↓] theorem T9_zs : (∃ z, T9.zero = some z ∧ z.cells.size = T9.size) = True := by
  refine eq_true ⟨_, T9_zero, ?_⟩
  kernel_rfl

noncomputable def T22 : Ty := (tyOf Try.prog 22).getD ⟨false, 0, 0, none, .bool⟩
@[go_sem] theorem ty22 : tyOf Try.prog 22 = some T22 := by refine Eq.trans ?_ (Eq.refl _); kernel_rfl
@[go_sem] theorem T22_agg : T22.agg = false := by refine Eq.trans ?_ (Eq.refl _); kernel_rfl
@[go_sem] theorem T22_size : T22.size = 1 := by refine Eq.trans ?_ (Eq.refl _); kernel_rfl
@[go_sem] theorem T22_bytes : T22.bytes = 24 := by refine Eq.trans ?_ (Eq.refl _); kernel_rfl
@[go_sem] theorem T22_want : T22.want = none := by refine Eq.trans ?_ (Eq.refl _); kernel_rfl
@[go_sem] theorem T22_desc : T22.desc = .slice 55 := by refine Eq.trans ?_ (Eq.refl _); kernel_rfl
@[go_sem] theorem T22_arr : T22.arr = none := by refine Eq.trans ?_ (Eq.refl _); kernel_rfl
@[go_sem] theorem T22_zero : T22.zero = some (.slice none 0 0) := by refine Eq.trans ?_ (Eq.refl _); kernel_rfl
@[go_sem] theorem T22_zeroD : zeroD T22 = some (.sl none []) := by refine Eq.trans ?_ (Eq.refl _); kernel_rfl
@[go_sem] theorem T22_zeroElem : zeroElem T22 = some (.sl none []) := by refine Eq.trans ?_ (Eq.refl _); kernel_rfl
@[go_sem ↓] theorem T22_zs : (∃ z, T22.zero = some z ∧ z.cells.size = T22.size) = True := by
  refine eq_true ⟨_, T22_zero, ?_⟩
  kernel_rfl

noncomputable def T23 : Ty := (tyOf Try.prog 23).getD ⟨false, 0, 0, none, .bool⟩
@[go_sem] theorem ty23 : tyOf Try.prog 23 = some T23 := by refine Eq.trans ?_ (Eq.refl _); kernel_rfl
@[go_sem] theorem T23_agg : T23.agg = false := by refine Eq.trans ?_ (Eq.refl _); kernel_rfl
@[go_sem] theorem T23_size : T23.size = 1 := by refine Eq.trans ?_ (Eq.refl _); kernel_rfl
@[go_sem] theorem T23_bytes : T23.bytes = 24 := by refine Eq.trans ?_ (Eq.refl _); kernel_rfl
@[go_sem] theorem T23_want : T23.want = none := by refine Eq.trans ?_ (Eq.refl _); kernel_rfl
@[go_sem] theorem T23_desc : T23.desc = .slice 9 := by refine Eq.trans ?_ (Eq.refl _); kernel_rfl
@[go_sem] theorem T23_arr : T23.arr = none := by refine Eq.trans ?_ (Eq.refl _); kernel_rfl
@[go_sem] theorem T23_zero : T23.zero = some (.slice none 0 0) := by refine Eq.trans ?_ (Eq.refl _); kernel_rfl
@[go_sem] theorem T23_zeroD : zeroD T23 = some (.sl none []) := by refine Eq.trans ?_ (Eq.refl _); kernel_rfl
@[go_sem] theorem T23_zeroElem : zeroElem T23 = some (.sl none []) := by refine Eq.trans ?_ (Eq.refl _); kernel_rfl
@[go_sem ↓] theorem T23_zs : (∃ z, T23.zero = some z ∧ z.cells.size = T23.size) = True := by
  refine eq_true ⟨_, T23_zero, ?_⟩
  kernel_rfl

noncomputable def T24 : Ty := (tyOf Try.prog 24).getD ⟨false, 0, 0, none, .bool⟩
@[go_sem] theorem ty24 : tyOf Try.prog 24 = some T24 := by refine Eq.trans ?_ (Eq.refl _); kernel_rfl
@[go_sem] theorem T24_agg : T24.agg = false := by refine Eq.trans ?_ (Eq.refl _); kernel_rfl
@[go_sem] theorem T24_size : T24.size = 1 := by refine Eq.trans ?_ (Eq.refl _); kernel_rfl
@[go_sem] theorem T24_bytes : T24.bytes = 24 := by refine Eq.trans ?_ (Eq.refl _); kernel_rfl
@[go_sem] theorem T24_want : T24.want = none := by refine Eq.trans ?_ (Eq.refl _); kernel_rfl
@[go_sem] theorem T24_desc : T24.desc = .slice 52 := by refine Eq.trans ?_ (Eq.refl _); kernel_rfl
@[go_sem] theorem T24_arr : T24.arr = none := by refine Eq.trans ?_ (Eq.refl _); kernel_rfl
@[go_sem] theorem T24_zero : T24.zero = some (.slice none 0 0) := by refine Eq.trans ?_ (Eq.refl _); kernel_rfl
@[go_sem] theorem T24_zeroD : zeroD T24 = some (.sl none []) := by refine Eq.trans ?_ (Eq.refl _); kernel_rfl
@[go_sem] theorem T24_zeroElem : zeroElem T24 = some (.sl none []) := by refine Eq.trans ?_ (Eq.refl _); kernel_rfl
@[go_sem ↓] theorem T24_zs : (∃ z, T24.zero = some z ∧ z.cells.size = T24.size) = True := by
  refine eq_true ⟨_, T24_zero, ?_⟩
  kernel_rfl

noncomputable def T26 : Ty := (tyOf Try.prog 26).getD ⟨false, 0, 0, none, .bool⟩
@[go_sem] theorem ty26 : tyOf Try.prog 26 = some T26 := by refine Eq.trans ?_ (Eq.refl _); kernel_rfl
@[go_sem] theorem T26_agg : T26.agg = true := by refine Eq.trans ?_ (Eq.refl _); kernel_rfl
@[go_sem] theorem T26_size : T26.size = 3 := by refine Eq.trans ?_ (Eq.refl _); kernel_rfl
@[go_sem] theorem T26_bytes : T26.bytes = 72 := by refine Eq.trans ?_ (Eq.refl _); kernel_rfl
@[go_sem] theorem T26_want : T26.want = some 3 := by refine Eq.trans ?_ (Eq.refl _); kernel_rfl
@[go_sem] theorem T26_arr : T26.arr = none := by refine Eq.trans ?_ (Eq.refl _); kernel_rfl
@[go_sem] theorem T26_places : placesOf Try.prog T26 = some [(0, 1), (1, 1), (2, 1)] := by refine Eq.trans ?_ (Eq.refl _); kernel_rfl
@[go_sem] theorem T26_f0 : fieldOf Try.prog (some T26) 0 = some (0, T22) := by refine Eq.trans ?_ (Eq.refl _); kernel_rfl
@[go_sem] theorem T26_f1 : fieldOf Try.prog (some T26) 1 = some (1, T23) := by refine Eq.trans ?_ (Eq.refl _); kernel_rfl
@[go_sem] theorem T26_f2 : fieldOf Try.prog (some T26) 2 = some (2, T24) := by refine Eq.trans ?_ (Eq.refl _); kernel_rfl
@[go_sem] theorem T26_zero : T26.zero = some (.agg #[.slice none 0 0, .slice none 0 0, .slice none 0 0]) := by refine Eq.trans ?_ (Eq.refl _); kernel_rfl
@[go_sem] theorem T26_zeroElem : zeroElem T26 = some (.agg [.sl none [], .sl none [], .sl none []]) := by refine Eq.trans ?_ (Eq.refl _); kernel_rfl
@[go_sem ↓] theorem T26_zs : (∃ z, T26.zero = some z ∧ z.cells.size = T26.size) = True := by
  refine eq_true ⟨_, T26_zero, ?_⟩
  kernel_rfl

noncomputable def T29 : Ty := (tyOf Try.prog 29).getD ⟨false, 0, 0, none, .bool⟩
@[go_sem] theorem ty29 : tyOf Try.prog 29 = some T29 := by refine Eq.trans ?_ (Eq.refl _); kernel_rfl
@[go_sem] theorem T29_agg : T29.agg = false := by refine Eq.trans ?_ (Eq.refl _); kernel_rfl
@[go_sem] theorem T29_size : T29.size = 1 := by refine Eq.trans ?_ (Eq.refl _); kernel_rfl
@[go_sem] theorem T29_bytes : T29.bytes = 24 := by refine Eq.trans ?_ (Eq.refl _); kernel_rfl
@[go_sem] theorem T29_want : T29.want = none := by refine Eq.trans ?_ (Eq.refl _); kernel_rfl
@[go_sem] theorem T29_desc : T29.desc = .slice 3 := by refine Eq.trans ?_ (Eq.refl _); kernel_rfl
@[go_sem] theorem T29_arr : T29.arr = none := by refine Eq.trans ?_ (Eq.refl _); kernel_rfl
@[go_sem] theorem T29_zero : T29.zero = some (.slice none 0 0) := by refine Eq.trans ?_ (Eq.refl _); kernel_rfl
@[go_sem] theorem T29_zeroD : zeroD T29 = some (.sl none []) := by refine Eq.trans ?_ (Eq.refl _); kernel_rfl
@[go_sem] theorem T29_zeroElem : zeroElem T29 = some (.sl none []) := by refine Eq.trans ?_ (Eq.refl _); kernel_rfl
@[go_sem ↓] theorem T29_zs : (∃ z, T29.zero = some z ∧ z.cells.size = T29.size) = True := by
  refine eq_true ⟨_, T29_zero, ?_⟩
  kernel_rfl

noncomputable def T31 : Ty := (tyOf Try.prog 31).getD ⟨false, 0, 0, none, .bool⟩
@[go_sem] theorem ty31 : tyOf Try.prog 31 = some T31 := by refine Eq.trans ?_ (Eq.refl _); kernel_rfl
@[go_sem] theorem T31_agg : T31.agg = true := by refine Eq.trans ?_ (Eq.refl _); kernel_rfl
@[go_sem] theorem T31_size : T31.size = 1 := by refine Eq.trans ?_ (Eq.refl _); kernel_rfl
@[go_sem] theorem T31_bytes : T31.bytes = 24 := by refine Eq.trans ?_ (Eq.refl _); kernel_rfl
@[go_sem] theorem T31_want : T31.want = some 1 := by refine Eq.trans ?_ (Eq.refl _); kernel_rfl
@[go_sem] theorem T31_arr : T31.arr = none := by refine Eq.trans ?_ (Eq.refl _); kernel_rfl
@[go_sem] theorem T31_places : placesOf Try.prog T31 = some [(0, 1)] := by refine Eq.trans ?_ (Eq.refl _); kernel_rfl
@[go_sem] theorem T31_f0 : fieldOf Try.prog (some T31) 0 = some (0, T29) := by refine Eq.trans ?_ (Eq.refl _); kernel_rfl
@[go_sem] theorem T31_zero : T31.zero = some (.agg #[.slice none 0 0]) := by refine Eq.trans ?_ (Eq.refl _); kernel_rfl
@[go_sem] theorem T31_zeroElem : zeroElem T31 = some (.agg [.sl none []]) := by refine Eq.trans ?_ (Eq.refl _); kernel_rfl
@[go_sem ↓] theorem T31_zs : (∃ z, T31.zero = some z ∧ z.cells.size = T31.size) = True := by
  refine eq_true ⟨_, T31_zero, ?_⟩
  kernel_rfl

noncomputable def T36 : Ty := (tyOf Try.prog 36).getD ⟨false, 0, 0, none, .bool⟩
@[go_sem] theorem ty36 : tyOf Try.prog 36 = some T36 := by refine Eq.trans ?_ (Eq.refl _); kernel_rfl
@[go_sem] theorem T36_agg : T36.agg = false := by refine Eq.trans ?_ (Eq.refl _); kernel_rfl
@[go_sem] theorem T36_size : T36.size = 1 := by refine Eq.trans ?_ (Eq.refl _); kernel_rfl
@[go_sem] theorem T36_bytes : T36.bytes = 24 := by refine Eq.trans ?_ (Eq.refl _); kernel_rfl
@[go_sem] theorem T36_want : T36.want = none := by refine Eq.trans ?_ (Eq.refl _); kernel_rfl
@[go_sem] theorem T36_desc : T36.desc = .slice 46 := by refine Eq.trans ?_ (Eq.refl _); kernel_rfl
@[go_sem] theorem T36_arr : T36.arr = none := by refine Eq.trans ?_ (Eq.refl _); kernel_rfl
@[go_sem] theorem T36_zero : T36.zero = some (.slice none 0 0) := by refine Eq.trans ?_ (Eq.refl _); kernel_rfl
@[go_sem] theorem T36_zeroD : zeroD T36 = some (.sl none []) := by refine Eq.trans ?_ (Eq.refl _); kernel_rfl
@[go_sem] theorem T36_zeroElem : zeroElem T36 = some (.sl none []) := by refine Eq.trans ?_ (Eq.refl _); kernel_rfl
@[go_sem ↓] theorem T36_zs : (∃ z, T36.zero = some z ∧ z.cells.size = T36.size) = True := by
  refine eq_true ⟨_, T36_zero, ?_⟩
  kernel_rfl

noncomputable def T46 : Ty := (tyOf Try.prog 46).getD ⟨false, 0, 0, none, .bool⟩
@[go_sem] theorem ty46 : tyOf Try.prog 46 = some T46 := by refine Eq.trans ?_ (Eq.refl _); kernel_rfl
@[go_sem] theorem T46_agg : T46.agg = true := by refine Eq.trans ?_ (Eq.refl _); kernel_rfl
@[go_sem] theorem T46_size : T46.size = 4 := by refine Eq.trans ?_ (Eq.refl _); kernel_rfl
@[go_sem] theorem T46_bytes : T46.bytes = 32 := by refine Eq.trans ?_ (Eq.refl _); kernel_rfl
@[go_sem] theorem T46_want : T46.want = some 4 := by refine Eq.trans ?_ (Eq.refl _); kernel_rfl
@[go_sem] theorem T46_arr : T46.arr = none := by refine Eq.trans ?_ (Eq.refl _); kernel_rfl
@[go_sem] theorem T46_places : placesOf Try.prog T46 = some [(0, 1), (1, 1), (2, 1), (3, 1)] := by refine Eq.trans ?_ (Eq.refl _); kernel_rfl
@[go_sem] theorem T46_f0 : fieldOf Try.prog (some T46) 0 = some (0, T3) := by refine Eq.trans ?_ (Eq.refl _); kernel_rfl
@[go_sem] theorem T46_f1 : fieldOf Try.prog (some T46) 1 = some (1, T3) := by refine Eq.trans ?_ (Eq.refl _); kernel_rfl
@[go_sem] theorem T46_f2 : fieldOf Try.prog (some T46) 2 = some (2, T3) := by refine Eq.trans ?_ (Eq.refl _); kernel_rfl
@[go_sem] theorem T46_f3 : fieldOf Try.prog (some T46) 3 = some (3, T3) := by refine Eq.trans ?_ (Eq.refl _); kernel_rfl
@[go_sem] theorem T46_zero : T46.zero = some (.agg #[.int .i64 0, .int .i64 0, .int .i64 0, .int .i64 0]) := by refine Eq.trans ?_ (Eq.refl _); kernel_rfl
@[go_sem] theorem T46_zeroElem : zeroElem T46 = some (.agg [.int .i64 0, .int .i64 0, .int .i64 0, .int .i64 0]) := by refine Eq.trans ?_ (Eq.refl _); kernel_rfl
@[go_sem ↓] theorem T46_zs : (∃ z, T46.zero = some z ∧ z.cells.size = T46.size) = True := by
  refine eq_true ⟨_, T46_zero, ?_⟩
  kernel_rfl

noncomputable def T50 : Ty := (tyOf Try.prog 50).getD ⟨false, 0, 0, none, .bool⟩
@[go_sem] theorem ty50 : tyOf Try.prog 50 = some T50 := by refine Eq.trans ?_ (Eq.refl _); kernel_rfl
@[go_sem] theorem T50_agg : T50.agg = false := by refine Eq.trans ?_ (Eq.refl _); kernel_rfl
@[go_sem] theorem T50_size : T50.size = 1 := by refine Eq.trans ?_ (Eq.refl _); kernel_rfl
@[go_sem] theorem T50_bytes : T50.bytes = 24 := by refine Eq.trans ?_ (Eq.refl _); kernel_rfl
@[go_sem] theorem T50_want : T50.want = none := by refine Eq.trans ?_ (Eq.refl _); kernel_rfl
@[go_sem] theorem T50_desc : T50.desc = .slice 60 := by refine Eq.trans ?_ (Eq.refl _); kernel_rfl
@[go_sem] theorem T50_arr : T50.arr = none := by refine Eq.trans ?_ (Eq.refl _); kernel_rfl
@[go_sem] theorem T50_zero : T50.zero = some (.slice none 0 0) := by refine Eq.trans ?_ (Eq.refl _); kernel_rfl
@[go_sem] theorem T50_zeroD : zeroD T50 = some (.sl none []) := by refine Eq.trans ?_ (Eq.refl _); kernel_rfl
@[go_sem] theorem T50_zeroElem : zeroElem T50 = some (.sl none []) := by refine Eq.trans ?_ (Eq.refl _); kernel_rfl
@[go_sem ↓] theorem T50_zs : (∃ z, T50.zero = some z ∧ z.cells.size = T50.size) = True := by
  refine eq_true ⟨_, T50_zero, ?_⟩
  kernel_rfl

noncomputable def T52 : Ty := (tyOf Try.prog 52).getD ⟨false, 0, 0, none, .bool⟩
@[go_sem] theorem ty52 : tyOf Try.prog 52 = some T52 := by refine Eq.trans ?_ (Eq.refl _); kernel_rfl
@[go_sem] theorem T52_agg : T52.agg = true := by refine Eq.trans ?_ (Eq.refl _); kernel_rfl
@[go_sem] theorem T52_size : T52.size = 4 := by refine Eq.trans ?_ (Eq.refl _); kernel_rfl
@[go_sem] theorem T52_bytes : T52.bytes = 56 := by refine Eq.trans ?_ (Eq.refl _); kernel_rfl
@[go_sem] theorem T52_want : T52.want = some 4 := by refine Eq.trans ?_ (Eq.refl _); kernel_rfl
@[go_sem] theorem T52_arr : T52.arr = none := by refine Eq.trans ?_ (Eq.refl _); kernel_rfl
@[go_sem] theorem T52_places : placesOf Try.prog T52 = some [(0, 1), (1, 1), (2, 1), (3, 1)] := by refine Eq.trans ?_ (Eq.refl _); kernel_rfl
@[go_sem] theorem T52_f0 : fieldOf Try.prog (some T52) 0 = some (0, T9) := by refine Eq.trans ?_ (Eq.refl _); kernel_rfl
@[go_sem] theorem T52_f1 : fieldOf Try.prog (some T52) 1 = some (1, T3) := by refine Eq.trans ?_ (Eq.refl _); kernel_rfl
@[go_sem] theorem T52_f2 : fieldOf Try.prog (some T52) 2 = some (2, T4) := by refine Eq.trans ?_ (Eq.refl _); kernel_rfl
@[go_sem] theorem T52_f3 : fieldOf Try.prog (some T52) 3 = some (3, T50) := by refine Eq.trans ?_ (Eq.refl _); kernel_rfl
@[go_sem] theorem T52_zero : T52.zero = some (.agg #[.string ⟨#[]⟩, .int .i64 0, .bool false, .slice none 0 0]) := by refine Eq.trans ?_ (Eq.refl _); kernel_rfl
@[go_sem] theorem T52_zeroElem : zeroElem T52 = some (.agg [.str [], .int .i64 0, .bool false, .sl none []]) := by refine Eq.trans ?_ (Eq.refl _); kernel_rfl
@[go_sem ↓] theorem T52_zs : (∃ z, T52.zero = some z ∧ z.cells.size = T52.size) = True := by
  refine eq_true ⟨_, T52_zero, ?_⟩
  kernel_rfl

noncomputable def T55 : Ty := (tyOf Try.prog 55).getD ⟨false, 0, 0, none, .bool⟩
@[go_sem] theorem ty55 : tyOf Try.prog 55 = some T55 := by refine Eq.trans ?_ (Eq.refl _); kernel_rfl
@[go_sem] theorem T55_agg : T55.agg = true := by refine Eq.trans ?_ (Eq.refl _); kernel_rfl
@[go_sem] theorem T55_size : T55.size = 3 := by refine Eq.trans ?_ (Eq.refl _); kernel_rfl
@[go_sem] theorem T55_bytes : T55.bytes = 32 := by refine Eq.trans ?_ (Eq.refl _); kernel_rfl
@[go_sem] theorem T55_want : T55.want = some 3 := by refine Eq.trans ?_ (Eq.refl _); kernel_rfl
@[go_sem] theorem T55_arr : T55.arr = none := by refine Eq.trans ?_ (Eq.refl _); kernel_rfl
@[go_sem] theorem T55_places : placesOf Try.prog T55 = some [(0, 1), (1, 1), (2, 1)] := by refine Eq.trans ?_ (Eq.refl _); kernel_rfl
@[go_sem] theorem T55_f0 : fieldOf Try.prog (some T55) 0 = some (0, T9) := by refine Eq.trans ?_ (Eq.refl _); kernel_rfl
@[go_sem] theorem T55_f1 : fieldOf Try.prog (some T55) 1 = some (1, T3) := by refine Eq.trans ?_ (Eq.refl _); kernel_rfl
@[go_sem] theorem T55_f2 : fieldOf Try.prog (some T55) 2 = some (2, T3) := by refine Eq.trans ?_ (Eq.refl _); kernel_rfl
@[go_sem] theorem T55_zero : T55.zero = some (.agg #[.string ⟨#[]⟩, .int .i64 0, .int .i64 0]) := by refine Eq.trans ?_ (Eq.refl _); kernel_rfl
@[go_sem] theorem T55_zeroElem : zeroElem T55 = some (.agg [.str [], .int .i64 0, .int .i64 0]) := by refine Eq.trans ?_ (Eq.refl _); kernel_rfl
@[go_sem ↓] theorem T55_zs : (∃ z, T55.zero = some z ∧ z.cells.size = T55.size) = True := by
  refine eq_true ⟨_, T55_zero, ?_⟩
  kernel_rfl

noncomputable def T60 : Ty := (tyOf Try.prog 60).getD ⟨false, 0, 0, none, .bool⟩
@[go_sem] theorem ty60 : tyOf Try.prog 60 = some T60 := by refine Eq.trans ?_ (Eq.refl _); kernel_rfl
@[go_sem] theorem T60_agg : T60.agg = true := by refine Eq.trans ?_ (Eq.refl _); kernel_rfl
@[go_sem] theorem T60_size : T60.size = 4 := by refine Eq.trans ?_ (Eq.refl _); kernel_rfl
@[go_sem] theorem T60_bytes : T60.bytes = 32 := by refine Eq.trans ?_ (Eq.refl _); kernel_rfl
@[go_sem] theorem T60_want : T60.want = some 4 := by refine Eq.trans ?_ (Eq.refl _); kernel_rfl
@[go_sem] theorem T60_arr : T60.arr = none := by refine Eq.trans ?_ (Eq.refl _); kernel_rfl
@[go_sem] theorem T60_places : placesOf Try.prog T60 = some [(0, 1), (1, 1), (2, 1), (3, 1)] := by refine Eq.trans ?_ (Eq.refl _); kernel_rfl
@[go_sem] theorem T60_f0 : fieldOf Try.prog (some T60) 0 = some (0, T3) := by refine Eq.trans ?_ (Eq.refl _); kernel_rfl
@[go_sem] theorem T60_f1 : fieldOf Try.prog (some T60) 1 = some (1, T3) := by refine Eq.trans ?_ (Eq.refl _); kernel_rfl
@[go_sem] theorem T60_f2 : fieldOf Try.prog (some T60) 2 = some (2, T3) := by refine Eq.trans ?_ (Eq.refl _); kernel_rfl
@[go_sem] theorem T60_f3 : fieldOf Try.prog (some T60) 3 = some (3, T4) := by refine Eq.trans ?_ (Eq.refl _); kernel_rfl
@[go_sem] theorem T60_zero : T60.zero = some (.agg #[.int .i64 0, .int .i64 0, .int .i64 0, .bool false]) := by refine Eq.trans ?_ (Eq.refl _); kernel_rfl
@[go_sem] theorem T60_zeroElem : zeroElem T60 = some (.agg [.int .i64 0, .int .i64 0, .int .i64 0, .bool false]) := by refine Eq.trans ?_ (Eq.refl _); kernel_rfl
@[go_sem ↓] theorem T60_zs : (∃ z, T60.zero = some z ∧ z.cells.size = T60.size) = True := by
  refine eq_true ⟨_, T60_zero, ?_⟩
  kernel_rfl

noncomputable def T73 : Ty := (tyOf Try.prog 73).getD ⟨false, 0, 0, none, .bool⟩
@[go_sem] theorem ty73 : tyOf Try.prog 73 = some T73 := by refine Eq.trans ?_ (Eq.refl _); kernel_rfl
@[go_sem] theorem T73_agg : T73.agg = false := by refine Eq.trans ?_ (Eq.refl _); kernel_rfl
@[go_sem] theorem T73_size : T73.size = 1 := by refine Eq.trans ?_ (Eq.refl _); kernel_rfl
@[go_sem] theorem T73_bytes : T73.bytes = 8 := by refine Eq.trans ?_ (Eq.refl _); kernel_rfl
@[go_sem] theorem T73_want : T73.want = none := by refine Eq.trans ?_ (Eq.refl _); kernel_rfl
@[go_sem] theorem T73_desc : T73.desc = .map 74 4 := by refine Eq.trans ?_ (Eq.refl _); kernel_rfl
@[go_sem] theorem T73_arr : T73.arr = none := by refine Eq.trans ?_ (Eq.refl _); kernel_rfl
@[go_sem] theorem T73_zero : T73.zero = some (.map none) := by refine Eq.trans ?_ (Eq.refl _); kernel_rfl
@[go_sem ↓] theorem T73_zs : (∃ z, T73.zero = some z ∧ z.cells.size = T73.size) = True := by
  refine eq_true ⟨_, T73_zero, ?_⟩
  kernel_rfl

noncomputable def T74 : Ty := (tyOf Try.prog 74).getD ⟨false, 0, 0, none, .bool⟩
@[go_sem] theorem ty74 : tyOf Try.prog 74 = some T74 := by refine Eq.trans ?_ (Eq.refl _); kernel_rfl
@[go_sem] theorem T74_agg : T74.agg = true := by refine Eq.trans ?_ (Eq.refl _); kernel_rfl
@[go_sem] theorem T74_size : T74.size = 2 := by refine Eq.trans ?_ (Eq.refl _); kernel_rfl
@[go_sem] theorem T74_bytes : T74.bytes = 16 := by refine Eq.trans ?_ (Eq.refl _); kernel_rfl
@[go_sem] theorem T74_want : T74.want = some 2 := by refine Eq.trans ?_ (Eq.refl _); kernel_rfl
@[go_sem] theorem T74_desc : T74.desc = .array 2 3 := by refine Eq.trans ?_ (Eq.refl _); kernel_rfl
@[go_sem] theorem T74_arr : T74.arr = some (2, 3) := by refine Eq.trans ?_ (Eq.refl _); kernel_rfl
@[go_sem] theorem T74_places : placesOf Try.prog T74 = some [(0, 1), (1, 1)] := by refine Eq.trans ?_ (Eq.refl _); kernel_rfl
@[go_sem] theorem T74_zero : T74.zero = some (.agg #[.int .i64 0, .int .i64 0]) := by refine Eq.trans ?_ (Eq.refl _); kernel_rfl
@[go_sem] theorem T74_zeroElem : zeroElem T74 = some (.agg [.int .i64 0, .int .i64 0]) := by refine Eq.trans ?_ (Eq.refl _); kernel_rfl
@[go_sem ↓] theorem T74_zs : (∃ z, T74.zero = some z ∧ z.cells.size = T74.size) = True := by
  refine eq_true ⟨_, T74_zero, ?_⟩
  kernel_rfl

noncomputable def T78 : Ty := (tyOf Try.prog 78).getD ⟨false, 0, 0, none, .bool⟩
@[go_sem] theorem ty78 : tyOf Try.prog 78 = some T78 := by refine Eq.trans ?_ (Eq.refl _); kernel_rfl
@[go_sem] theorem T78_agg : T78.agg = false := by refine Eq.trans ?_ (Eq.refl _); kernel_rfl
@[go_sem] theorem T78_size : T78.size = 1 := by refine Eq.trans ?_ (Eq.refl _); kernel_rfl
@[go_sem] theorem T78_bytes : T78.bytes = 24 := by refine Eq.trans ?_ (Eq.refl _); kernel_rfl
@[go_sem] theorem T78_want : T78.want = none := by refine Eq.trans ?_ (Eq.refl _); kernel_rfl
@[go_sem] theorem T78_desc : T78.desc = .slice 29 := by refine Eq.trans ?_ (Eq.refl _); kernel_rfl
@[go_sem] theorem T78_arr : T78.arr = none := by refine Eq.trans ?_ (Eq.refl _); kernel_rfl
@[go_sem] theorem T78_zero : T78.zero = some (.slice none 0 0) := by refine Eq.trans ?_ (Eq.refl _); kernel_rfl
@[go_sem] theorem T78_zeroD : zeroD T78 = some (.sl none []) := by refine Eq.trans ?_ (Eq.refl _); kernel_rfl
@[go_sem] theorem T78_zeroElem : zeroElem T78 = some (.sl none []) := by refine Eq.trans ?_ (Eq.refl _); kernel_rfl
@[go_sem ↓] theorem T78_zs : (∃ z, T78.zero = some z ∧ z.cells.size = T78.size) = True := by
  refine eq_true ⟨_, T78_zero, ?_⟩
  kernel_rfl

noncomputable def T91 : Ty := (tyOf Try.prog 91).getD ⟨false, 0, 0, none, .bool⟩
@[go_sem] theorem ty91 : tyOf Try.prog 91 = some T91 := by refine Eq.trans ?_ (Eq.refl _); kernel_rfl
@[go_sem] theorem T91_agg : T91.agg = false := by refine Eq.trans ?_ (Eq.refl _); kernel_rfl
@[go_sem] theorem T91_size : T91.size = 1 := by refine Eq.trans ?_ (Eq.refl _); kernel_rfl
@[go_sem] theorem T91_bytes : T91.bytes = 24 := by refine Eq.trans ?_ (Eq.refl _); kernel_rfl
@[go_sem] theorem T91_want : T91.want = none := by refine Eq.trans ?_ (Eq.refl _); kernel_rfl
@[go_sem] theorem T91_desc : T91.desc = .slice 4 := by refine Eq.trans ?_ (Eq.refl _); kernel_rfl
@[go_sem] theorem T91_arr : T91.arr = none := by refine Eq.trans ?_ (Eq.refl _); kernel_rfl
@[go_sem] theorem T91_zero : T91.zero = some (.slice none 0 0) := by refine Eq.trans ?_ (Eq.refl _); kernel_rfl
@[go_sem] theorem T91_zeroD : zeroD T91 = some (.sl none []) := by refine Eq.trans ?_ (Eq.refl _); kernel_rfl
@[go_sem] theorem T91_zeroElem : zeroElem T91 = some (.sl none []) := by refine Eq.trans ?_ (Eq.refl _); kernel_rfl
@[go_sem ↓] theorem T91_zs : (∃ z, T91.zero = some z ∧ z.cells.size = T91.size) = True := by
  refine eq_true ⟨_, T91_zero, ?_⟩
  kernel_rfl

noncomputable def T99 : Ty := (tyOf Try.prog 99).getD ⟨false, 0, 0, none, .bool⟩
@[go_sem] theorem ty99 : tyOf Try.prog 99 = some T99 := by refine Eq.trans ?_ (Eq.refl _); kernel_rfl
@[go_sem] theorem T99_agg : T99.agg = true := by refine Eq.trans ?_ (Eq.refl _); kernel_rfl
@[go_sem] theorem T99_size : T99.size = 2 := by refine Eq.trans ?_ (Eq.refl _); kernel_rfl
@[go_sem] theorem T99_bytes : T99.bytes = 48 := by refine Eq.trans ?_ (Eq.refl _); kernel_rfl
@[go_sem] theorem T99_want : T99.want = some 2 := by refine Eq.trans ?_ (Eq.refl _); kernel_rfl
@[go_sem] theorem T99_arr : T99.arr = none := by refine Eq.trans ?_ (Eq.refl _); kernel_rfl
@[go_sem] theorem T99_places : placesOf Try.prog T99 = some [(0, 1), (1, 1)] := by refine Eq.trans ?_ (Eq.refl _); kernel_rfl
@[go_sem] theorem T99_f0 : fieldOf Try.prog (some T99) 0 = some (0, T29) := by refine Eq.trans ?_ (Eq.refl _); kernel_rfl
@[go_sem] theorem T99_f1 : fieldOf Try.prog (some T99) 1 = some (1, T91) := by refine Eq.trans ?_ (Eq.refl _); kernel_rfl
@[go_sem] theorem T99_zero : T99.zero = some (.agg #[.slice none 0 0, .slice none 0 0]) := by refine Eq.trans ?_ (Eq.refl _); kernel_rfl
@[go_sem] theorem T99_zeroElem : zeroElem T99 = some (.agg [.sl none [], .sl none []]) := by refine Eq.trans ?_ (Eq.refl _); kernel_rfl
@[go_sem ↓] theorem T99_zs : (∃ z, T99.zero = some z ∧ z.cells.size = T99.size) = True := by
  refine eq_true ⟨_, T99_zero, ?_⟩
  kernel_rfl

noncomputable def T105 : Ty := (tyOf Try.prog 105).getD ⟨false, 0, 0, none, .bool⟩
@[go_sem] theorem ty105 : tyOf Try.prog 105 = some T105 := by refine Eq.trans ?_ (Eq.refl _); kernel_rfl
@[go_sem] theorem T105_agg : T105.agg = false := by refine Eq.trans ?_ (Eq.refl _); kernel_rfl
@[go_sem] theorem T105_size : T105.size = 1 := by refine Eq.trans ?_ (Eq.refl _); kernel_rfl
@[go_sem] theorem T105_bytes : T105.bytes = 8 := by refine Eq.trans ?_ (Eq.refl _); kernel_rfl
@[go_sem] theorem T105_want : T105.want = none := by refine Eq.trans ?_ (Eq.refl _); kernel_rfl
@[go_sem] theorem T105_desc : T105.desc = .int .u64 := by refine Eq.trans ?_ (Eq.refl _); kernel_rfl
@[go_sem] theorem T105_arr : T105.arr = none := by refine Eq.trans ?_ (Eq.refl _); kernel_rfl
@[go_sem] theorem T105_zero : T105.zero = some (.int .u64 0) := by refine Eq.trans ?_ (Eq.refl _); kernel_rfl
@[go_sem] theorem T105_zeroD : zeroD T105 = some (.int .u64 0) := by refine Eq.trans ?_ (Eq.refl _); kernel_rfl
@[go_sem] theorem T105_zeroElem : zeroElem T105 = some (.int .u64 0) := by refine Eq.trans ?_ (Eq.refl _); kernel_rfl
@[go_sem ↓] theorem T105_zs : (∃ z, T105.zero = some z ∧ z.cells.size = T105.size) = True := by
  refine eq_true ⟨_, T105_zero, ?_⟩
  kernel_rfl

noncomputable def T111 : Ty := (tyOf Try.prog 111).getD ⟨false, 0, 0, none, .bool⟩
@[go_sem] theorem ty111 : tyOf Try.prog 111 = some T111 := by refine Eq.trans ?_ (Eq.refl _); kernel_rfl
@[go_sem] theorem T111_agg : T111.agg = false := by refine Eq.trans ?_ (Eq.refl _); kernel_rfl
@[go_sem] theorem T111_size : T111.size = 1 := by refine Eq.trans ?_ (Eq.refl _); kernel_rfl
@[go_sem] theorem T111_bytes : T111.bytes = 8 := by refine Eq.trans ?_ (Eq.refl _); kernel_rfl
@[go_sem] theorem T111_want : T111.want = none := by refine Eq.trans ?_ (Eq.refl _); kernel_rfl
@[go_sem] theorem T111_desc : T111.desc = .int .u64 := by refine Eq.trans ?_ (Eq.refl _); kernel_rfl
@[go_sem] theorem T111_arr : T111.arr = none := by refine Eq.trans ?_ (Eq.refl _); kernel_rfl
@[go_sem] theorem T111_zero : T111.zero = some (.int .u64 0) := by refine Eq.trans ?_ (Eq.refl _); kernel_rfl
@[go_sem] theorem T111_zeroD : zeroD T111 = some (.int .u64 0) := by refine Eq.trans ?_ (Eq.refl _); kernel_rfl
@[go_sem] theorem T111_zeroElem : zeroElem T111 = some (.int .u64 0) := by refine Eq.trans ?_ (Eq.refl _); kernel_rfl
@[go_sem ↓] theorem T111_zs : (∃ z, T111.zero = some z ∧ z.cells.size = T111.size) = True := by
  refine eq_true ⟨_, T111_zero, ?_⟩
  kernel_rfl

end Go.AM

namespace Go.AM
open Go Go.Proofs

theorem mixed : Try.prog.follows .mixedOrders = true := by kernel_rfl
theorem noMk {Γ : Nat → Contract} : MakeFns Γ [] := fun g _ _ _ _ _ h => by rcases h with h | h <;> cases h
theorem pureNo {Γ : Nat → Contract} : PureFns Γ [] := fun g _ _ _ _ _ h => by cases h
theorem pure_of {l : List (Nat × Contract)} {pf : List Nat} (h : ∀ g C, (g, C) ∈ l → g ∈ pf → ∃ R, C = dataC R) : PureFns (tbl l) pf := by
  rintro g args own v own' mv hg ⟨C, hm, hC⟩
  obtain ⟨R, rfl⟩ := h g C hm hg
  obtain ⟨_, _, _, h1, h2, _⟩ := hC
  exact ⟨h1, h2⟩
abbrev Str := List UInt8
structure PPool where
  name : Str
  size : Int
  res : Int
deriving Inhabited, DecidableEq
structure PStep where
  kind : Int
  on : Int
  cnt : Int
  deep : Bool
deriving Inhabited, DecidableEq
structure PCls where
  name : Str
  workers : Int
  server : Bool
  steps : List PStep
deriving Inhabited, DecidableEq
structure PSys where
  pools : List PPool
  locks : List Str
  classes : List PCls
deriving Inhabited, DecidableEq

abbrev intsD (u : List Int) : List D := u.map (.int .i64)
abbrev boolsD (b : List Bool) : List D := b.map .bool
def poolD (p : PPool) : D := .agg [.str p.name, .int .i64 p.size, .int .i64 p.res]
def stepD (s : PStep) : D := .agg [.int .i64 s.kind, .int .i64 s.on, .int .i64 s.cnt, .bool s.deep]
def stepsD (l : List PStep) : D := .sl (some 4) (l.map stepD)
def clsD (c : PCls) : D := .agg [.str c.name, .int .i64 c.workers, .bool c.server, stepsD c.steps]
def sysD (s : PSys) : D := .agg [.sl (some 3) (s.pools.map poolD), .sl none (s.locks.map .str), .sl (some 4) (s.classes.map clsD)]

def PStep.ok (s : PStep) : Prop := inR .i64 s.kind ∧ inR .i64 s.on ∧ inR .i64 s.cnt
def PPool.ok (p : PPool) : Prop := inR .i64 p.size ∧ inR .i64 p.res
def PCls.ok (c : PCls) : Prop := inR .i64 c.workers ∧ (∀ s ∈ c.steps, s.ok) ∧ c.steps.length < 4611686018427387904
structure PSys.ok (s : PSys) : Prop where
  pools : ∀ p ∈ s.pools, p.ok
  classes : ∀ c ∈ s.classes, c.ok
  np : s.pools.length < 4611686018427387904
  nl : s.locks.length < 4611686018427387904
  nc : s.classes.length < 4611686018427387904
end Go.AM

set_option maxRecDepth 8000
namespace Go.AM
open Go Go.Proofs

def lowc (b : UInt8) : Bool := decide (97 ≤ b.toNat) && decide (b.toNat ≤ 122)
def digc (b : UInt8) : Bool := decide (48 ≤ b.toNat) && decide (b.toNat ≤ 57)
def nmc (b : UInt8) : Bool := lowc b || digc b
def isNm (s : Str) : Bool := match s with | [] => false | b :: r => decide (r.length < 8) && lowc b && r.all nmc

def isNmR (ds : List D) (v : AV) : Prop := ∃ s : Str, ds = [.str s] ∧ v = .dat (.bool (isNm s))

theorem lowc_iff {b : UInt8} : lowc b = true ↔ ¬ (b.toNat : Int) < 97 ∧ ¬ (122 : Int) < b.toNat := by
  simp only [lowc, Bool.and_eq_true, decide_eq_true_eq]; omega
theorem digc_iff {b : UInt8} : digc b = true ↔ ¬ (b.toNat : Int) < 48 ∧ ¬ (57 : Int) < b.toNat := by
  simp only [digc, Bool.and_eq_true, decide_eq_true_eq]; omega

theorem lowc_eq {b : UInt8} : lowc b = (!decide ((b.toNat : Int) < 97) && !decide ((122 : Int) < b.toNat)) := by
  rw [Bool.eq_iff_iff, lowc_iff]; simp
theorem digc_eq {b : UInt8} : digc b = (!decide ((b.toNat : Int) < 48) && !decide ((57 : Int) < b.toNat)) := by
  rw [Bool.eq_iff_iff, digc_iff]; simp

theorem isName_ok : OkF Try.prog 60 (dataC isNmR) := by
  refine okF_data Try.func60 rfl (by decide) ?_
  rintro ds v ⟨s, rfl, rfl⟩
  generalize hv : isNm s = V
  refine sem_of_awp (Γ := tbl []) okG_nil _ _ _ ?_
  have fin : ∀ s own (b c : Bool), b = c → s.getD 2 .top = .dat (.bool b) → post Try.prog Try.f60 (.dat (.bool c)) [] [] .ret ⟨s, own, 0, []⟩ := fun s own b c e h => by
    subst e
    exact post_data (.inl rfl) [2] rfl trivial (by simp only [tmpsOf, h]; rfl)
  cases s with
  | nil =>
    have h0 : ((0 : Nat) : Int) < 1 := by omega
    simp only [go_sem, Try.ntmps60, h0]
    exact fin _ _ _ _ hv rfl
  | cons b r =>
    have h0 : ¬ ((r.length + 1 : Nat) : Int) < 1 := by omega
    have h00 : (0 : Int) < ((r.length + 1 : Nat) : Int) := by omega
    by_cases h1 : (8 : Int) < ((r.length + 1 : Nat) : Int)
    · simp only [go_sem, Try.ntmps60, h0, h1]
      refine fin _ _ _ _ ?_ rfl
      rw [← hv]; simp only [isNm]; rw [decide_eq_false (by omega)]; rfl
    have h1' : decide (r.length < 8) = true := decide_eq_true (by omega)
    by_cases h2 : (b.toNat : Int) < 97
    · simp only [go_sem, Try.ntmps60, h0, h00, h1, h2]
      refine fin _ _ _ _ ?_ rfl
      rw [← hv]; simp [isNm, lowc_eq, h2, h1']
    by_cases h3 : (122 : Int) < b.toNat
    · simp only [go_sem, Try.ntmps60, h0, h00, h1, h2, h3]
      refine fin _ _ _ _ ?_ rfl
      rw [← hv]; simp [isNm, lowc_eq, h2, h3, h1']
    have hl : lowc b = true := lowc_iff.2 ⟨h2, h3⟩
    have e : isNm (b :: r) = (b :: r).all nmc := by simp only [isNm, h1', hl, List.all_cons, nmc, Bool.true_and, Bool.true_or]
    rw [e] at hv
    simp only [go_sem, Try.ntmps60, h0, h00, h1, h2, h3]
    generalize hL : b :: r = L at *
    have hll : L.length ≤ 8 := by rw [← hL]; simp only [List.length_cons]; omega
    rw [show r.length + 1 = L.length by rw [← hL]; rfl]
    refine sem_loop (fun k : Nat => ⟨slotsOf 50 [(0, .dat (.str L)), (2, .dat (.bool false)), (23, .dat (.int .i64 L.length)), (24, .dat (.int .i64 k))], [], 0, []⟩)
      (fun k => k ≤ L.length ∧ (L.drop k).all nmc = V) (fun k => L.length - k) 0 ⟨Nat.zero_le _, hv⟩ ?_ ?_
    · exact le_slots' (by simp only [go_sem, Int.natCast_zero])
    · rintro k ⟨hk, hI⟩
      refine sem_of_awp (Γ := tbl []) okG_nil _ _ _ ?_
      cases hd : L.drop k with
      | nil =>
        have := end_of_drop hd hk
        have hk2 : ¬ (k : Int) < L.length := by omega
        simp only [go_sem, hk2]
        refine fin _ _ _ _ ?_ rfl
        rw [← hI, hd]; rfl
      | cons c q =>
        have hlt := lt_of_drop hd
        have hk2 : (k : Int) < L.length := by omega
        have hk0 : (0 : Int) ≤ k := Int.natCast_nonneg k
        have hb : L.getD k 0 = c := getD_of_drop hd
        rw [hd, List.all_cons] at hI
        have next : nmc c = true → ∃ x, (x ≤ L.length ∧ (L.drop x).all nmc = V) ∧ L.length - x < L.length - k ∧ x = k + 1 := fun h =>
          ⟨k + 1, ⟨by omega, by rw [drop_cons hd, ← hI, h, Bool.true_and]⟩, by omega, rfl⟩
        have hgo : inR .i64 ((k : Int) + 1) := inR_i64.2 (by omega)
        by_cases g1 : (c.toNat : Int) < 97
        · by_cases g3 : (c.toNat : Int) < 48
          · simp only [go_sem, hk2, hk0, hb, g1, g3]
            refine fin _ _ _ _ ?_ rfl
            rw [← hI]; simp [nmc, lowc_eq, digc_eq, g1, g3]
          by_cases g4 : (57 : Int) < c.toNat
          · simp only [go_sem, hk2, hk0, hb, g1, g3, g4]
            refine fin _ _ _ _ ?_ rfl
            rw [← hI]; simp [nmc, lowc_eq, digc_eq, g1, g3, g4]
          · simp only [go_sem, hk2, hk0, hb, g1, g3, g4]
            obtain ⟨x, n1, n2, rfl⟩ := next (by simp [nmc, lowc_eq, digc_eq, g1, g3, g4])
            refine ⟨hgo, k + 1, n1, n2, ?_⟩
            exact le_slots' (by simp only [go_sem, Int.natCast_add, Int.cast_ofNat_Int])
        · by_cases g2 : (122 : Int) < c.toNat
          · have g3 : ¬ (c.toNat : Int) < 48 := by omega
            have g4 : (57 : Int) < c.toNat := by omega
            simp only [go_sem, hk2, hk0, hb, g1, g2, g3, g4]
            refine fin _ _ _ _ ?_ rfl
            rw [← hI]; simp [nmc, lowc_eq, digc_eq, g1, g2, g3, g4]
          · simp only [go_sem, hk2, hk0, hb, g1, g2]
            obtain ⟨x, n1, n2, rfl⟩ := next (by simp [nmc, lowc_eq, g1, g2])
            refine ⟨hgo, k + 1, n1, n2, ?_⟩
            exact le_slots' (by simp only [go_sem, Int.natCast_add, Int.cast_ofNat_Int])
end Go.AM

set_option maxRecDepth 8000
namespace Go.AM
open Go Go.Proofs

def idxG {α : Type} [DecidableEq α] (x : α) : Nat → List α → Int
  | _, [] => -1
  | k, y :: r => if x = y then k else idxG x (k + 1) r
theorem idxG_mem {α : Type} [DecidableEq α] (x : α) : ∀ (k : Nat) (l : List α), (0 ≤ idxG x k l) ↔ x ∈ l
  | _, [] => by simp [idxG]
  | k, y :: r => by
    simp only [idxG]
    split
    · rename_i h; subst h; simp
    · rename_i h; simp [idxG_mem x (k + 1) r, h]
def idxSR (ds : List D) (v : AV) : Prop := ∃ (l : List Str) (x : Str), ds = [.sl none (l.map (.str)), .str x] ∧ l.length < 4611686018427387904 ∧ v = .dat (.int .i64 (idxG x 0 l))
theorem idxS_ok : OkF Try.prog 77 (dataC idxSR) := by
  refine okF_data Try.func77 rfl (by decide) ?_
  rintro ds v ⟨l, x, rfl, hl, rfl⟩
  generalize hv : idxG x 0 l = V
  refine sem_of_awp (Γ := tbl []) okG_nil _ _ _ ?_
  have fin : ∀ s own (b c : Int), b = c → s.getD 4 .top = .dat (.int .i64 b) → post Try.prog Try.f77 (.dat (.int .i64 c)) [] [] .ret ⟨s, own, 0, []⟩ := fun s own b c e h => by
    subst e
    exact post_data (.inl rfl) [4] rfl trivial (by simp only [tmpsOf, h]; rfl)
  simp only [go_sem, Try.ntmps77]
  refine sem_loop (fun k : Nat => ⟨slotsOf 19 [(0, .dat (.sl none (l.map (.str)))), (1, .dat (.str x)), (4, .dat (.int .i64 0)), (7, .dat (.int .i64 l.length)), (8, .dat (.int .i64 k))], [], 0, []⟩)
    (fun k => k ≤ l.length ∧ idxG x k (l.drop k) = V) (fun k => l.length - k) 0 ⟨Nat.zero_le _, hv⟩ ?_ ?_
  · exact le_slots' (by simp only [go_sem, Int.natCast_zero])
  · rintro k ⟨hk, hI⟩
    refine sem_of_awp (Γ := tbl []) okG_nil _ _ _ ?_
    cases hd : l.drop k with
    | nil =>
      have := end_of_drop hd hk
      have hk2 : ¬ (k : Int) < l.length := by omega
      simp only [go_sem, hk2]
      refine fin _ _ _ _ ?_ rfl
      rw [← hI, hd]; rfl
    | cons c q =>
      have hlt := lt_of_drop hd
      have hk2 : (k : Int) < l.length := by omega
      have hk0 : (0 : Int) ≤ k := Int.natCast_nonneg k
      have hn := nth_of_drop (f := .str) hd
      rw [hd, idxG] at hI
      by_cases he : x = c
      · simp only [go_sem, hk2, hk0, hn, he]
        rw [if_pos he] at hI
        exact fin _ _ _ _ hI rfl
      · simp only [go_sem, hk2, hk0, hn, he]
        rw [if_neg he] at hI
        refine ⟨inR_i64.2 (by omega), k + 1, ⟨by omega, by rw [drop_cons hd]; exact hI⟩, by omega, ?_⟩
        exact le_slots' (by simp only [go_sem, Int.natCast_add, Int.cast_ofNat_Int])
def hasSR (ds : List D) (v : AV) : Prop := ∃ (l : List Str) (x : Str), ds = [.sl none (l.map (.str)), .str x] ∧ l.length < 4611686018427387904 ∧ v = .dat (.bool (decide (x ∈ l)))
theorem hasS_ok : OkF Try.prog 61 (dataC hasSR) := by
  refine okF_data Try.func61 rfl (by decide) ?_
  rintro ds v ⟨l, x, rfl, hl, rfl⟩
  refine sem_of_awp (Γ := tbl [(77, dataC idxSR)]) (okG_cons idxS_ok okG_nil) _ _ _ ?_
  simp only [go_sem, Try.ntmps61]
  refine call_data idxSR (by simp) _ _ rfl ⟨l, x, rfl, hl, rfl⟩ (.inl rfl) ?_
  simp only [go_sem]
  refine post_data (.inl rfl) [4] rfl trivial ?_
  simp only [tmpsOf, resV, go_sem, idxG_mem]

def idxBR (ds : List D) (v : AV) : Prop := ∃ (l : List Bool) (x : Bool), ds = [.sl none (l.map (.bool)), .bool x] ∧ l.length < 4611686018427387904 ∧ v = .dat (.int .i64 (idxG x 0 l))
theorem idxB_ok : OkF Try.prog 83 (dataC idxBR) := by
  refine okF_data Try.func83 rfl (by decide) ?_
  rintro ds v ⟨l, x, rfl, hl, rfl⟩
  generalize hv : idxG x 0 l = V
  refine sem_of_awp (Γ := tbl []) okG_nil _ _ _ ?_
  have fin : ∀ s own (b c : Int), b = c → s.getD 4 .top = .dat (.int .i64 b) → post Try.prog Try.f83 (.dat (.int .i64 c)) [] [] .ret ⟨s, own, 0, []⟩ := fun s own b c e h => by
    subst e
    exact post_data (.inl rfl) [4] rfl trivial (by simp only [tmpsOf, h]; rfl)
  simp only [go_sem, Try.ntmps83]
  refine sem_loop (fun k : Nat => ⟨slotsOf 19 [(0, .dat (.sl none (l.map (.bool)))), (1, .dat (.bool x)), (4, .dat (.int .i64 0)), (7, .dat (.int .i64 l.length)), (8, .dat (.int .i64 k))], [], 0, []⟩)
    (fun k => k ≤ l.length ∧ idxG x k (l.drop k) = V) (fun k => l.length - k) 0 ⟨Nat.zero_le _, hv⟩ ?_ ?_
  · exact le_slots' (by simp only [go_sem, Int.natCast_zero])
  · rintro k ⟨hk, hI⟩
    refine sem_of_awp (Γ := tbl []) okG_nil _ _ _ ?_
    cases hd : l.drop k with
    | nil =>
      have := end_of_drop hd hk
      have hk2 : ¬ (k : Int) < l.length := by omega
      simp only [go_sem, hk2]
      refine fin _ _ _ _ ?_ rfl
      rw [← hI, hd]; rfl
    | cons c q =>
      have hlt := lt_of_drop hd
      have hk2 : (k : Int) < l.length := by omega
      have hk0 : (0 : Int) ≤ k := Int.natCast_nonneg k
      have hn := nth_of_drop (f := .bool) hd
      rw [hd, idxG] at hI
      by_cases he : x = c
      · have hbe : (x == c) = true := by simp [he]
        simp only [go_sem, hk2, hk0, hn, hbe]
        rw [if_pos he] at hI
        exact fin _ _ _ _ hI rfl
      · have hbe : (x == c) = false := by simp [he]
        simp only [go_sem, hk2, hk0, hn, hbe]
        rw [if_neg he] at hI
        refine ⟨inR_i64.2 (by omega), k + 1, ⟨by omega, by rw [drop_cons hd]; exact hI⟩, by omega, ?_⟩
        exact le_slots' (by simp only [go_sem, Int.natCast_add, Int.cast_ofNat_Int])
def hasBR (ds : List D) (v : AV) : Prop := ∃ (l : List Bool) (x : Bool), ds = [.sl none (l.map (.bool)), .bool x] ∧ l.length < 4611686018427387904 ∧ v = .dat (.bool (decide (x ∈ l)))
theorem hasB_ok : OkF Try.prog 80 (dataC hasBR) := by
  refine okF_data Try.func80 rfl (by decide) ?_
  rintro ds v ⟨l, x, rfl, hl, rfl⟩
  refine sem_of_awp (Γ := tbl [(83, dataC idxBR)]) (okG_cons idxB_ok okG_nil) _ _ _ ?_
  simp only [go_sem, Try.ntmps80]
  refine call_data idxBR (by simp) _ _ rfl ⟨l, x, rfl, hl, rfl⟩ (.inl rfl) ?_
  simp only [go_sem]
  refine post_data (.inl rfl) [4] rfl trivial ?_
  simp only [tmpsOf, resV, go_sem, idxG_mem]

def pos1R (ds : List D) (v : AV) : Prop := ∃ n : Int, ds = [.int .i64 n] ∧ v = .dat (.bool (decide (0 < n)))
theorem pos1_ok : OkF Try.prog 81 (dataC pos1R) := by
  refine okF_data Try.func81 rfl (by decide) ?_
  rintro ds v ⟨n, rfl, rfl⟩
  refine sem_of_awp (Γ := tbl []) okG_nil _ _ _ ?_
  simp only [go_sem, Try.ntmps81]
  exact post_data (.inl rfl) [2] rfl trivial rfl
end Go.AM

set_option maxRecDepth 8000
namespace Go.AM
open Go Go.Proofs

def namesL (s : PSys) : List Str := s.pools.map (·.name) ++ s.locks ++ s.classes.map (·.name)
structure PSys.small (s : PSys) : Prop where
  np : s.pools.length ≤ 10
  nl : s.locks.length ≤ 10
  nc : s.classes.length ≤ 10
def namesR (ds : List D) (v : AV) : Prop := ∃ s : PSys, ds = [sysD s] ∧ s.small ∧ v = .dat (.sl none ((namesL s).map .str))
theorem map_snoc {α : Type} {f : α → Str} {l r : List α} {x : α} {k : Nat} (h : l.drop k = x :: r) : (l.take (k + 1)).map (fun y => D.str (f y)) = (l.take k).map (fun y => D.str (f y)) ++ [.str (f x)] := by
  rw [take_of_drop h]; simp

theorem names_ok : OkF Try.prog 59 (dataC namesR) := by
  refine okF_data Try.func59 rfl (by decide) ?_
  rintro ds v ⟨s, rfl, ⟨hp, hl, hc⟩, rfl⟩
  obtain ⟨pools, locks, classes⟩ := s
  simp only at hp hl hc
  generalize hv : namesL ⟨pools, locks, classes⟩ = V
  refine sem_of_awp (Γ := tbl []) okG_nil _ _ _ ?_
  simp only [go_sem, Try.ntmps59, sysD]
  refine sem_le (le_addnil 3 none rfl (Nat.zero_le _)) ?_
  simp only [go_sem]
  refine sem_loop (fun k : Nat => ⟨slotsOf 39 [(1, .ptr 0 0 0), (2, .nils), (3, .sl 1 0 k), (9, .dat (.sl (some 3) (pools.map poolD))), (10, .dat (.int .i64 pools.length)), (11, .dat (.int .i64 k))],
      [.box [.dat (.sl (some 3) (pools.map poolD)), .dat (.sl none (locks.map .str)), .dat (.sl (some 4) (classes.map clsD))], .row none ((pools.take k).map fun p : PPool => D.str p.name)], 0, []⟩)
    (fun k => k ≤ pools.length) (fun k => pools.length - k) 0 (Nat.zero_le _) ?_ ?_
  · exact le_slots' (by simp only [go_sem, Int.natCast_zero])
  · rintro k hk
    refine sem_of_awp (Γ := tbl []) okG_nil _ _ _ ?_
    cases hd : pools.drop k with
    | nil =>
      have he := end_of_drop hd hk
      have hk2 : ¬ (k : Int) < pools.length := by omega
      subst he
      have hlen : (pools.map fun p : PPool => D.str p.name).take pools.length = pools.map fun p : PPool => D.str p.name := List.take_of_length_le (by simp)
      simp only [go_sem, hk2, List.take_length, hlen]
      refine ⟨by omega, by omega, ?_⟩
      refine sem_loop (fun k : Nat => ⟨slotsOf 39 [(1, .ptr 0 0 0), (2, .nils), (3, .sl 1 0 (pools.length + locks.length + k)), (26, .dat (.sl (some 4) (classes.map clsD))), (27, .dat (.int .i64 classes.length)), (28, .dat (.int .i64 k))],
          [.box [.dat (.sl (some 3) (pools.map poolD)), .dat (.sl none (locks.map .str)), .dat (.sl (some 4) (classes.map clsD))], .row none ((pools.map fun p : PPool => D.str p.name) ++ locks.map D.str ++ (classes.take k).map fun p : PCls => D.str p.name)], 0, []⟩)
        (fun k => k ≤ classes.length) (fun k => classes.length - k) 0 (Nat.zero_le _) ?_ ?_
      · simp only [List.take_zero, List.map_nil, List.append_nil]
        exact le_slots' (by simp only [go_sem, Int.natCast_zero])
      · rintro k hk
        refine sem_of_awp (Γ := tbl []) okG_nil _ _ _ ?_
        cases hd : classes.drop k with
        | nil =>
          have he := end_of_drop hd hk
          have hk2 : ¬ (k : Int) < classes.length := by omega
          subst he
          simp only [go_sem, hk2, List.take_length]
          refine post_res (.inl rfl) [.tmp 2] rfl ?_
          simp only [go_sem]
          refine Le.trans (le_freeze 1 (ag := none) rfl (Nat.zero_le _)) ?_
          have e : ((pools.map fun p : PPool => D.str p.name) ++ locks.map D.str ++ classes.map fun p : PCls => D.str p.name) = V.map .str := by
            rw [← hv]; simp [namesL, List.map_map, Function.comp_def]
          have e2 : pools.length + locks.length + classes.length = V.length := by rw [← hv]; simp [namesL]; omega
          have e3 : (V.map D.str).take V.length = V.map .str := List.take_of_length_le (by simp)
          rw [e, e2]
          simp only [go_sem, e3]
          exact le_fin (by simp only [go_sem]) (by simp only [go_sem])
        | cons c q =>
          have hlt := lt_of_drop hd
          have hk2 : (k : Int) < classes.length := by omega
          have hk0 : (0 : Int) ≤ k := Int.natCast_nonneg k
          have hn := nth_of_drop (f := clsD) hd
          have hml : ((classes.take k).map fun p : PCls => D.str p.name).length = k := by simp; omega
          have hrow : ((pools.map fun p : PPool => D.str p.name) ++ locks.map D.str ++ (classes.take k).map fun p : PCls => D.str p.name).length = pools.length + locks.length + k := by simp; omega
          have htk : ((pools.map fun p : PPool => D.str p.name) ++ locks.map D.str ++ (classes.take k).map fun p : PCls => D.str p.name).take (pools.length + locks.length + k) = (pools.map fun p : PPool => D.str p.name) ++ locks.map D.str ++ (classes.take k).map fun p : PCls => D.str p.name :=
            List.take_of_length_le (by omega)
          have hsn : (pools.map fun p : PPool => D.str p.name) ++ locks.map D.str ++ ((classes.take (k + 1)).map fun p : PCls => D.str p.name) = ((pools.map fun p : PPool => D.str p.name) ++ locks.map D.str ++ (classes.take k).map fun p : PCls => D.str p.name) ++ [.str c.name] := by
            rw [map_snoc (f := PCls.name) hd, List.append_assoc, List.append_assoc]; simp
          generalize ((pools.map fun p : PPool => D.str p.name) ++ locks.map D.str ++ (classes.take k).map fun p : PCls => D.str p.name) = row at *
          simp only [go_sem, hk2, hk0, hn, clsD, hrow, htk]
          refine ⟨by omega, by omega, inR_i64.2 (by omega), k + 1, by omega, by omega, ?_⟩
          rw [hsn]
          refine le_end (own := [_, _]) (ex := [_, _]) (Nat.zero_le _) ?_ ?_ ?_
          · simp only [go_sem, Int.natCast_add, Int.cast_ofNat_Int, Nat.add_assoc]
          · simp only [go_sem]
          · simp only [go_sem, Obj.under, AV.unders, AV.under]
    | cons c q =>
      have hlt := lt_of_drop hd
      have hk2 : (k : Int) < pools.length := by omega
      have hk0 : (0 : Int) ≤ k := Int.natCast_nonneg k
      have hn := nth_of_drop (f := poolD) hd
      have hrow : ((pools.take k).map fun p : PPool => D.str p.name).length = k := by simp; omega
      have htk : ((pools.take k).map fun p : PPool => D.str p.name).take k = (pools.take k).map fun p : PPool => D.str p.name := List.take_of_length_le (by omega)
      have hsn := map_snoc (f := PPool.name) hd
      generalize ((pools.take k).map fun p : PPool => D.str p.name) = row at *
      simp only [go_sem, hk2, hk0, hn, poolD, hrow, htk]
      refine ⟨by omega, by omega, inR_i64.2 (by omega), k + 1, by omega, by omega, ?_⟩
      rw [hsn]
      refine le_end (own := [_, _]) (ex := [_, _]) (Nat.zero_le _) ?_ ?_ ?_
      · simp only [go_sem, Int.natCast_add, Int.cast_ofNat_Int, Nat.add_assoc]
      · simp only [go_sem]
      · simp only [go_sem, Obj.under, AV.unders, AV.under]

end Go.AM

set_option maxRecDepth 8000
set_option maxHeartbeats 1000000
namespace Go.AM
open Go Go.Proofs

def beforeR (ds : List D) (v : AV) : Prop := ∃ (l : List Str) (i : Nat) (x : Str), ds = [.sl none (l.map .str), .int .i64 i] ∧ l[i]? = some x ∧ l.length < 4611686018427387904 ∧ v = .dat (.bool (decide (x ∈ l.take i)))
end Go.AM

set_option maxRecDepth 8000
set_option maxHeartbeats 1000000
namespace Go.AM
open Go Go.Proofs

def bstep (on kind : Int) (a : Int) (x : PStep) : Int :=
  if x.on = on then
    (if x.kind = 1 then (if kind = 0 then a + x.cnt else a) else
     if x.kind = 2 then (if kind = 0 then a - x.cnt else a) else
     if x.kind = 3 then (if kind = 1 then a + 1 else a) else
     if x.kind = 4 then (if kind = 1 then a - 1 else a) else a) else a
def bal (l : List PStep) (on kind : Int) : Int := l.foldl (bstep on kind) 0
def Tame (l : List PStep) : Prop := ∀ x ∈ l, -1000 ≤ x.cnt ∧ x.cnt ≤ 1000
theorem bal_snoc (l : List PStep) (x : PStep) (on kind : Int) : bal (l ++ [x]) on kind = bstep on kind (bal l on kind) x := by simp [bal]

def balR (ds : List D) (v : AV) : Prop := ∃ (l : List PStep) (n : Nat) (on kind : Int), ds = [stepsD l, .int .i64 n, .int .i64 on, .int .i64 kind] ∧ (kind = 0 ∨ kind = 1) ∧ n ≤ l.length ∧ n ≤ 1000 ∧ Tame (l.take n) ∧ v = .dat (.int .i64 (bal (l.take n) on kind))
end Go.AM

