/-
  The types of the program that the walks meet, and what the operations ask of them. Printed by genty.py.
-/
import Derived.Test.YtcigeonmhefdhaaProg
import Derived.Test.YtcigeonmhefdhaaLibC

namespace Go.AM
open Go Go.Proofs

/-- Type 3. -/
noncomputable def T3 : Ty := (tyOf Try.prog 3).getD ⟨false, 0, 0, none, .bool⟩
@[go_sem] theorem ty3 : tyOf Try.prog 3 = some T3 := by refine Eq.trans ?_ (Eq.refl _); kernel_rfl
@[go_sem] theorem T3_agg : T3.agg = false := by refine Eq.trans ?_ (Eq.refl _); kernel_rfl
@[go_sem] theorem T3_size : T3.size = 1 := by refine Eq.trans ?_ (Eq.refl _); kernel_rfl
@[go_sem] theorem T3_bytes : T3.bytes = 8 := by refine Eq.trans ?_ (Eq.refl _); kernel_rfl
@[go_sem] theorem T3_want : T3.want = none := by refine Eq.trans ?_ (Eq.refl _); kernel_rfl
@[go_sem] theorem T3_desc : T3.desc = .int .i64 := by refine Eq.trans ?_ (Eq.refl _); kernel_rfl
@[go_sem] theorem T3_arr : T3.arr = none := by refine Eq.trans ?_ (Eq.refl _); kernel_rfl
@[go_sem] theorem T3_zero : T3.zero = some (.int .i64 0) := by refine Eq.trans ?_ (Eq.refl _); kernel_rfl
@[go_sem] theorem T3_zeroD : zeroD T3 = some (.int .i64 0) := by refine Eq.trans ?_ (Eq.refl _); kernel_rfl
@[go_sem] theorem T3_zeroElem : zeroElem T3 = some (.int .i64 0) := by refine Eq.trans ?_ (Eq.refl _); kernel_rfl
@[go_sem ↓] theorem T3_zs : (∃ z, T3.zero = some z ∧ z.cells.size = T3.size) = True := by
  refine eq_true ⟨_, T3_zero, ?_⟩
  kernel_rfl

/-- Type 4. -/
noncomputable def T4 : Ty := (tyOf Try.prog 4).getD ⟨false, 0, 0, none, .bool⟩
@[go_sem] theorem ty4 : tyOf Try.prog 4 = some T4 := by refine Eq.trans ?_ (Eq.refl _); kernel_rfl
@[go_sem] theorem T4_agg : T4.agg = false := by refine Eq.trans ?_ (Eq.refl _); kernel_rfl
@[go_sem] theorem T4_size : T4.size = 1 := by refine Eq.trans ?_ (Eq.refl _); kernel_rfl
@[go_sem] theorem T4_bytes : T4.bytes = 1 := by refine Eq.trans ?_ (Eq.refl _); kernel_rfl
@[go_sem] theorem T4_want : T4.want = none := by refine Eq.trans ?_ (Eq.refl _); kernel_rfl
@[go_sem] theorem T4_desc : T4.desc = .bool := by refine Eq.trans ?_ (Eq.refl _); kernel_rfl
@[go_sem] theorem T4_arr : T4.arr = none := by refine Eq.trans ?_ (Eq.refl _); kernel_rfl
@[go_sem] theorem T4_zero : T4.zero = some (.bool false) := by refine Eq.trans ?_ (Eq.refl _); kernel_rfl
@[go_sem] theorem T4_zeroD : zeroD T4 = some (.bool false) := by refine Eq.trans ?_ (Eq.refl _); kernel_rfl
@[go_sem] theorem T4_zeroElem : zeroElem T4 = some (.bool false) := by refine Eq.trans ?_ (Eq.refl _); kernel_rfl
@[go_sem ↓] theorem T4_zs : (∃ z, T4.zero = some z ∧ z.cells.size = T4.size) = True := by
  refine eq_true ⟨_, T4_zero, ?_⟩
  kernel_rfl

/-- Type 5. -/
noncomputable def T5 : Ty := (tyOf Try.prog 5).getD ⟨false, 0, 0, none, .bool⟩
@[go_sem] theorem ty5 : tyOf Try.prog 5 = some T5 := by refine Eq.trans ?_ (Eq.refl _); kernel_rfl
@[go_sem] theorem T5_agg : T5.agg = false := by refine Eq.trans ?_ (Eq.refl _); kernel_rfl
@[go_sem] theorem T5_size : T5.size = 1 := by refine Eq.trans ?_ (Eq.refl _); kernel_rfl
@[go_sem] theorem T5_bytes : T5.bytes = 1 := by refine Eq.trans ?_ (Eq.refl _); kernel_rfl
@[go_sem] theorem T5_want : T5.want = none := by refine Eq.trans ?_ (Eq.refl _); kernel_rfl
@[go_sem] theorem T5_desc : T5.desc = .int .u8 := by refine Eq.trans ?_ (Eq.refl _); kernel_rfl
@[go_sem] theorem T5_arr : T5.arr = none := by refine Eq.trans ?_ (Eq.refl _); kernel_rfl
@[go_sem] theorem T5_zero : T5.zero = some (.int .u8 0) := by refine Eq.trans ?_ (Eq.refl _); kernel_rfl
@[go_sem] theorem T5_zeroD : zeroD T5 = some (.int .u8 0) := by refine Eq.trans ?_ (Eq.refl _); kernel_rfl
@[go_sem] theorem T5_zeroElem : zeroElem T5 = some (.int .u8 0) := by refine Eq.trans ?_ (Eq.refl _); kernel_rfl
@[go_sem ↓] theorem T5_zs : (∃ z, T5.zero = some z ∧ z.cells.size = T5.size) = True := by
  refine eq_true ⟨_, T5_zero, ?_⟩
  kernel_rfl

/-- Type 9. -/
noncomputable def T9 : Ty := (tyOf Try.prog 9).getD ⟨false, 0, 0, none, .bool⟩
@[go_sem] theorem ty9 : tyOf Try.prog 9 = some T9 := by refine Eq.trans ?_ (Eq.refl _); kernel_rfl
@[go_sem] theorem T9_agg : T9.agg = false := by refine Eq.trans ?_ (Eq.refl _); kernel_rfl
@[go_sem] theorem T9_size : T9.size = 1 := by refine Eq.trans ?_ (Eq.refl _); kernel_rfl
@[go_sem] theorem T9_bytes : T9.bytes = 16 := by refine Eq.trans ?_ (Eq.refl _); kernel_rfl
@[go_sem] theorem T9_want : T9.want = none := by refine Eq.trans ?_ (Eq.refl _); kernel_rfl
@[go_sem] theorem T9_desc : T9.desc = .string := by refine Eq.trans ?_ (Eq.refl _); kernel_rfl
@[go_sem] theorem T9_arr : T9.arr = none := by refine Eq.trans ?_ (Eq.refl _); kernel_rfl
@[go_sem] theorem T9_zero : T9.zero = some (.string ⟨#[]⟩) := by refine Eq.trans ?_ (Eq.refl _); kernel_rfl
@[go_sem] theorem T9_zeroD : zeroD T9 = some (.str []) := by refine Eq.trans ?_ (Eq.refl _); kernel_rfl
@[go_sem] theorem T9_zeroElem : zeroElem T9 = some (.str []) := by refine Eq.trans ?_ (Eq.refl _); kernel_rfl
@[go_sem ↓] theorem T9_zs : (∃ z, T9.zero = some z ∧ z.cells.size = T9.size) = True := by
  refine eq_true ⟨_, T9_zero, ?_⟩
  kernel_rfl

/-- Type 22. -/
noncomputable def T22 : Ty := (tyOf Try.prog 22).getD ⟨false, 0, 0, none, .bool⟩
@[go_sem] theorem ty22 : tyOf Try.prog 22 = some T22 := by refine Eq.trans ?_ (Eq.refl _); kernel_rfl
@[go_sem] theorem T22_agg : T22.agg = false := by refine Eq.trans ?_ (Eq.refl _); kernel_rfl
@[go_sem] theorem T22_size : T22.size = 1 := by refine Eq.trans ?_ (Eq.refl _); kernel_rfl
@[go_sem] theorem T22_bytes : T22.bytes = 24 := by refine Eq.trans ?_ (Eq.refl _); kernel_rfl
@[go_sem] theorem T22_want : T22.want = none := by refine Eq.trans ?_ (Eq.refl _); kernel_rfl
@[go_sem] theorem T22_desc : T22.desc = .slice 87 := by refine Eq.trans ?_ (Eq.refl _); kernel_rfl
@[go_sem] theorem T22_arr : T22.arr = none := by refine Eq.trans ?_ (Eq.refl _); kernel_rfl
@[go_sem] theorem T22_zero : T22.zero = some (.slice none 0 0) := by refine Eq.trans ?_ (Eq.refl _); kernel_rfl
@[go_sem] theorem T22_zeroD : zeroD T22 = some (.sl none []) := by refine Eq.trans ?_ (Eq.refl _); kernel_rfl
@[go_sem] theorem T22_zeroElem : zeroElem T22 = some (.sl none []) := by refine Eq.trans ?_ (Eq.refl _); kernel_rfl
@[go_sem ↓] theorem T22_zs : (∃ z, T22.zero = some z ∧ z.cells.size = T22.size) = True := by
  refine eq_true ⟨_, T22_zero, ?_⟩
  kernel_rfl

/-- Type 23. -/
noncomputable def T23 : Ty := (tyOf Try.prog 23).getD ⟨false, 0, 0, none, .bool⟩
@[go_sem] theorem ty23 : tyOf Try.prog 23 = some T23 := by refine Eq.trans ?_ (Eq.refl _); kernel_rfl
@[go_sem] theorem T23_agg : T23.agg = false := by refine Eq.trans ?_ (Eq.refl _); kernel_rfl
@[go_sem] theorem T23_size : T23.size = 1 := by refine Eq.trans ?_ (Eq.refl _); kernel_rfl
@[go_sem] theorem T23_bytes : T23.bytes = 24 := by refine Eq.trans ?_ (Eq.refl _); kernel_rfl
@[go_sem] theorem T23_want : T23.want = none := by refine Eq.trans ?_ (Eq.refl _); kernel_rfl
@[go_sem] theorem T23_desc : T23.desc = .slice 9 := by refine Eq.trans ?_ (Eq.refl _); kernel_rfl
@[go_sem] theorem T23_arr : T23.arr = none := by refine Eq.trans ?_ (Eq.refl _); kernel_rfl
@[go_sem] theorem T23_zero : T23.zero = some (.slice none 0 0) := by refine Eq.trans ?_ (Eq.refl _); kernel_rfl
@[go_sem] theorem T23_zeroD : zeroD T23 = some (.sl none []) := by refine Eq.trans ?_ (Eq.refl _); kernel_rfl
@[go_sem] theorem T23_zeroElem : zeroElem T23 = some (.sl none []) := by refine Eq.trans ?_ (Eq.refl _); kernel_rfl
@[go_sem ↓] theorem T23_zs : (∃ z, T23.zero = some z ∧ z.cells.size = T23.size) = True := by
  refine eq_true ⟨_, T23_zero, ?_⟩
  kernel_rfl

/-- Type 24. -/
noncomputable def T24 : Ty := (tyOf Try.prog 24).getD ⟨false, 0, 0, none, .bool⟩
@[go_sem] theorem ty24 : tyOf Try.prog 24 = some T24 := by refine Eq.trans ?_ (Eq.refl _); kernel_rfl
@[go_sem] theorem T24_agg : T24.agg = false := by refine Eq.trans ?_ (Eq.refl _); kernel_rfl
@[go_sem] theorem T24_size : T24.size = 1 := by refine Eq.trans ?_ (Eq.refl _); kernel_rfl
@[go_sem] theorem T24_bytes : T24.bytes = 24 := by refine Eq.trans ?_ (Eq.refl _); kernel_rfl
@[go_sem] theorem T24_want : T24.want = none := by refine Eq.trans ?_ (Eq.refl _); kernel_rfl
@[go_sem] theorem T24_desc : T24.desc = .slice 54 := by refine Eq.trans ?_ (Eq.refl _); kernel_rfl
@[go_sem] theorem T24_arr : T24.arr = none := by refine Eq.trans ?_ (Eq.refl _); kernel_rfl
@[go_sem] theorem T24_zero : T24.zero = some (.slice none 0 0) := by refine Eq.trans ?_ (Eq.refl _); kernel_rfl
@[go_sem] theorem T24_zeroD : zeroD T24 = some (.sl none []) := by refine Eq.trans ?_ (Eq.refl _); kernel_rfl
@[go_sem] theorem T24_zeroElem : zeroElem T24 = some (.sl none []) := by refine Eq.trans ?_ (Eq.refl _); kernel_rfl
@[go_sem ↓] theorem T24_zs : (∃ z, T24.zero = some z ∧ z.cells.size = T24.size) = True := by
  refine eq_true ⟨_, T24_zero, ?_⟩
  kernel_rfl

/-- Type 26. -/
noncomputable def T26 : Ty := (tyOf Try.prog 26).getD ⟨false, 0, 0, none, .bool⟩
@[go_sem] theorem ty26 : tyOf Try.prog 26 = some T26 := by refine Eq.trans ?_ (Eq.refl _); kernel_rfl
@[go_sem] theorem T26_agg : T26.agg = true := by refine Eq.trans ?_ (Eq.refl _); kernel_rfl
@[go_sem] theorem T26_size : T26.size = 3 := by refine Eq.trans ?_ (Eq.refl _); kernel_rfl
@[go_sem] theorem T26_bytes : T26.bytes = 72 := by refine Eq.trans ?_ (Eq.refl _); kernel_rfl
@[go_sem] theorem T26_want : T26.want = some 3 := by refine Eq.trans ?_ (Eq.refl _); kernel_rfl
@[go_sem] theorem T26_arr : T26.arr = none := by refine Eq.trans ?_ (Eq.refl _); kernel_rfl
@[go_sem] theorem T26_places : placesOf Try.prog T26 = some [(0, 1), (1, 1), (2, 1)] := by refine Eq.trans ?_ (Eq.refl _); kernel_rfl
@[go_sem] theorem T26_f0 : fieldOf Try.prog (some T26) 0 = some (0, T22) := by refine Eq.trans ?_ (Eq.refl _); kernel_rfl
@[go_sem] theorem T26_f1 : fieldOf Try.prog (some T26) 1 = some (1, T23) := by refine Eq.trans ?_ (Eq.refl _); kernel_rfl
@[go_sem] theorem T26_f2 : fieldOf Try.prog (some T26) 2 = some (2, T24) := by refine Eq.trans ?_ (Eq.refl _); kernel_rfl
@[go_sem] theorem T26_zero : T26.zero = some (.agg #[.slice none 0 0, .slice none 0 0, .slice none 0 0]) := by refine Eq.trans ?_ (Eq.refl _); kernel_rfl
@[go_sem] theorem T26_zeroElem : zeroElem T26 = some (.agg [.sl none [], .sl none [], .sl none []]) := by refine Eq.trans ?_ (Eq.refl _); kernel_rfl
@[go_sem ↓] theorem T26_zs : (∃ z, T26.zero = some z ∧ z.cells.size = T26.size) = True := by
  refine eq_true ⟨_, T26_zero, ?_⟩
  kernel_rfl

/-- Type 27. -/
noncomputable def T27 : Ty := (tyOf Try.prog 27).getD ⟨false, 0, 0, none, .bool⟩
@[go_sem] theorem ty27 : tyOf Try.prog 27 = some T27 := by refine Eq.trans ?_ (Eq.refl _); kernel_rfl
@[go_sem] theorem T27_agg : T27.agg = true := by refine Eq.trans ?_ (Eq.refl _); kernel_rfl
@[go_sem] theorem T27_size : T27.size = 3 := by refine Eq.trans ?_ (Eq.refl _); kernel_rfl
@[go_sem] theorem T27_bytes : T27.bytes = 24 := by refine Eq.trans ?_ (Eq.refl _); kernel_rfl
@[go_sem] theorem T27_want : T27.want = some 3 := by refine Eq.trans ?_ (Eq.refl _); kernel_rfl
@[go_sem] theorem T27_desc : T27.desc = .array 3 3 := by refine Eq.trans ?_ (Eq.refl _); kernel_rfl
@[go_sem] theorem T27_arr : T27.arr = some (3, 3) := by refine Eq.trans ?_ (Eq.refl _); kernel_rfl
@[go_sem] theorem T27_places : placesOf Try.prog T27 = some [(0, 1), (1, 1), (2, 1)] := by refine Eq.trans ?_ (Eq.refl _); kernel_rfl
@[go_sem] theorem T27_zero : T27.zero = some (.agg #[.int .i64 0, .int .i64 0, .int .i64 0]) := by refine Eq.trans ?_ (Eq.refl _); kernel_rfl
@[go_sem] theorem T27_zeroElem : zeroElem T27 = some (.agg [.int .i64 0, .int .i64 0, .int .i64 0]) := by refine Eq.trans ?_ (Eq.refl _); kernel_rfl
@[go_sem ↓] theorem T27_zs : (∃ z, T27.zero = some z ∧ z.cells.size = T27.size) = True := by
  refine eq_true ⟨_, T27_zero, ?_⟩
  kernel_rfl

/-- Type 34. -/
noncomputable def T34 : Ty := (tyOf Try.prog 34).getD ⟨false, 0, 0, none, .bool⟩
@[go_sem] theorem ty34 : tyOf Try.prog 34 = some T34 := by refine Eq.trans ?_ (Eq.refl _); kernel_rfl
@[go_sem] theorem T34_agg : T34.agg = false := by refine Eq.trans ?_ (Eq.refl _); kernel_rfl
@[go_sem] theorem T34_size : T34.size = 1 := by refine Eq.trans ?_ (Eq.refl _); kernel_rfl
@[go_sem] theorem T34_bytes : T34.bytes = 24 := by refine Eq.trans ?_ (Eq.refl _); kernel_rfl
@[go_sem] theorem T34_want : T34.want = none := by refine Eq.trans ?_ (Eq.refl _); kernel_rfl
@[go_sem] theorem T34_desc : T34.desc = .slice 50 := by refine Eq.trans ?_ (Eq.refl _); kernel_rfl
@[go_sem] theorem T34_arr : T34.arr = none := by refine Eq.trans ?_ (Eq.refl _); kernel_rfl
@[go_sem] theorem T34_zero : T34.zero = some (.slice none 0 0) := by refine Eq.trans ?_ (Eq.refl _); kernel_rfl
@[go_sem] theorem T34_zeroD : zeroD T34 = some (.sl none []) := by refine Eq.trans ?_ (Eq.refl _); kernel_rfl
@[go_sem] theorem T34_zeroElem : zeroElem T34 = some (.sl none []) := by refine Eq.trans ?_ (Eq.refl _); kernel_rfl
@[go_sem ↓] theorem T34_zs : (∃ z, T34.zero = some z ∧ z.cells.size = T34.size) = True := by
  refine eq_true ⟨_, T34_zero, ?_⟩
  kernel_rfl

/-- Type 39. -/
noncomputable def T39 : Ty := (tyOf Try.prog 39).getD ⟨false, 0, 0, none, .bool⟩
@[go_sem] theorem ty39 : tyOf Try.prog 39 = some T39 := by refine Eq.trans ?_ (Eq.refl _); kernel_rfl
@[go_sem] theorem T39_agg : T39.agg = false := by refine Eq.trans ?_ (Eq.refl _); kernel_rfl
@[go_sem] theorem T39_size : T39.size = 1 := by refine Eq.trans ?_ (Eq.refl _); kernel_rfl
@[go_sem] theorem T39_bytes : T39.bytes = 24 := by refine Eq.trans ?_ (Eq.refl _); kernel_rfl
@[go_sem] theorem T39_want : T39.want = none := by refine Eq.trans ?_ (Eq.refl _); kernel_rfl
@[go_sem] theorem T39_desc : T39.desc = .slice 3 := by refine Eq.trans ?_ (Eq.refl _); kernel_rfl
@[go_sem] theorem T39_arr : T39.arr = none := by refine Eq.trans ?_ (Eq.refl _); kernel_rfl
@[go_sem] theorem T39_zero : T39.zero = some (.slice none 0 0) := by refine Eq.trans ?_ (Eq.refl _); kernel_rfl
@[go_sem] theorem T39_zeroD : zeroD T39 = some (.sl none []) := by refine Eq.trans ?_ (Eq.refl _); kernel_rfl
@[go_sem] theorem T39_zeroElem : zeroElem T39 = some (.sl none []) := by refine Eq.trans ?_ (Eq.refl _); kernel_rfl
@[go_sem ↓] theorem T39_zs : (∃ z, T39.zero = some z ∧ z.cells.size = T39.size) = True := by
  refine eq_true ⟨_, T39_zero, ?_⟩
  kernel_rfl

/-- Type 43. -/
noncomputable def T43 : Ty := (tyOf Try.prog 43).getD ⟨false, 0, 0, none, .bool⟩
@[go_sem] theorem ty43 : tyOf Try.prog 43 = some T43 := by refine Eq.trans ?_ (Eq.refl _); kernel_rfl
@[go_sem] theorem T43_agg : T43.agg = false := by refine Eq.trans ?_ (Eq.refl _); kernel_rfl
@[go_sem] theorem T43_size : T43.size = 1 := by refine Eq.trans ?_ (Eq.refl _); kernel_rfl
@[go_sem] theorem T43_bytes : T43.bytes = 24 := by refine Eq.trans ?_ (Eq.refl _); kernel_rfl
@[go_sem] theorem T43_want : T43.want = none := by refine Eq.trans ?_ (Eq.refl _); kernel_rfl
@[go_sem] theorem T43_desc : T43.desc = .slice 82 := by refine Eq.trans ?_ (Eq.refl _); kernel_rfl
@[go_sem] theorem T43_arr : T43.arr = none := by refine Eq.trans ?_ (Eq.refl _); kernel_rfl
@[go_sem] theorem T43_zero : T43.zero = some (.slice none 0 0) := by refine Eq.trans ?_ (Eq.refl _); kernel_rfl
@[go_sem] theorem T43_zeroD : zeroD T43 = some (.sl none []) := by refine Eq.trans ?_ (Eq.refl _); kernel_rfl
@[go_sem] theorem T43_zeroElem : zeroElem T43 = some (.sl none []) := by refine Eq.trans ?_ (Eq.refl _); kernel_rfl
@[go_sem ↓] theorem T43_zs : (∃ z, T43.zero = some z ∧ z.cells.size = T43.size) = True := by
  refine eq_true ⟨_, T43_zero, ?_⟩
  kernel_rfl

/-- Type 46. -/
noncomputable def T46 : Ty := (tyOf Try.prog 46).getD ⟨false, 0, 0, none, .bool⟩
@[go_sem] theorem ty46 : tyOf Try.prog 46 = some T46 := by refine Eq.trans ?_ (Eq.refl _); kernel_rfl
@[go_sem] theorem T46_agg : T46.agg = false := by refine Eq.trans ?_ (Eq.refl _); kernel_rfl
@[go_sem] theorem T46_size : T46.size = 1 := by refine Eq.trans ?_ (Eq.refl _); kernel_rfl
@[go_sem] theorem T46_bytes : T46.bytes = 24 := by refine Eq.trans ?_ (Eq.refl _); kernel_rfl
@[go_sem] theorem T46_want : T46.want = none := by refine Eq.trans ?_ (Eq.refl _); kernel_rfl
@[go_sem] theorem T46_desc : T46.desc = .slice 48 := by refine Eq.trans ?_ (Eq.refl _); kernel_rfl
@[go_sem] theorem T46_arr : T46.arr = none := by refine Eq.trans ?_ (Eq.refl _); kernel_rfl
@[go_sem] theorem T46_zero : T46.zero = some (.slice none 0 0) := by refine Eq.trans ?_ (Eq.refl _); kernel_rfl
@[go_sem] theorem T46_zeroD : zeroD T46 = some (.sl none []) := by refine Eq.trans ?_ (Eq.refl _); kernel_rfl
@[go_sem] theorem T46_zeroElem : zeroElem T46 = some (.sl none []) := by refine Eq.trans ?_ (Eq.refl _); kernel_rfl
@[go_sem ↓] theorem T46_zs : (∃ z, T46.zero = some z ∧ z.cells.size = T46.size) = True := by
  refine eq_true ⟨_, T46_zero, ?_⟩
  kernel_rfl

/-- Type 48. -/
noncomputable def T48 : Ty := (tyOf Try.prog 48).getD ⟨false, 0, 0, none, .bool⟩
@[go_sem] theorem ty48 : tyOf Try.prog 48 = some T48 := by refine Eq.trans ?_ (Eq.refl _); kernel_rfl
@[go_sem] theorem T48_agg : T48.agg = false := by refine Eq.trans ?_ (Eq.refl _); kernel_rfl
@[go_sem] theorem T48_size : T48.size = 1 := by refine Eq.trans ?_ (Eq.refl _); kernel_rfl
@[go_sem] theorem T48_bytes : T48.bytes = 24 := by refine Eq.trans ?_ (Eq.refl _); kernel_rfl
@[go_sem] theorem T48_want : T48.want = none := by refine Eq.trans ?_ (Eq.refl _); kernel_rfl
@[go_sem] theorem T48_desc : T48.desc = .slice 4 := by refine Eq.trans ?_ (Eq.refl _); kernel_rfl
@[go_sem] theorem T48_arr : T48.arr = none := by refine Eq.trans ?_ (Eq.refl _); kernel_rfl
@[go_sem] theorem T48_zero : T48.zero = some (.slice none 0 0) := by refine Eq.trans ?_ (Eq.refl _); kernel_rfl
@[go_sem] theorem T48_zeroD : zeroD T48 = some (.sl none []) := by refine Eq.trans ?_ (Eq.refl _); kernel_rfl
@[go_sem] theorem T48_zeroElem : zeroElem T48 = some (.sl none []) := by refine Eq.trans ?_ (Eq.refl _); kernel_rfl
@[go_sem ↓] theorem T48_zs : (∃ z, T48.zero = some z ∧ z.cells.size = T48.size) = True := by
  refine eq_true ⟨_, T48_zero, ?_⟩
  kernel_rfl

/-- Type 50. -/
noncomputable def T50 : Ty := (tyOf Try.prog 50).getD ⟨false, 0, 0, none, .bool⟩
@[go_sem] theorem ty50 : tyOf Try.prog 50 = some T50 := by refine Eq.trans ?_ (Eq.refl _); kernel_rfl
@[go_sem] theorem T50_agg : T50.agg = true := by refine Eq.trans ?_ (Eq.refl _); kernel_rfl
@[go_sem] theorem T50_size : T50.size = 4 := by refine Eq.trans ?_ (Eq.refl _); kernel_rfl
@[go_sem] theorem T50_bytes : T50.bytes = 32 := by refine Eq.trans ?_ (Eq.refl _); kernel_rfl
@[go_sem] theorem T50_want : T50.want = some 4 := by refine Eq.trans ?_ (Eq.refl _); kernel_rfl
@[go_sem] theorem T50_arr : T50.arr = none := by refine Eq.trans ?_ (Eq.refl _); kernel_rfl
@[go_sem] theorem T50_places : placesOf Try.prog T50 = some [(0, 1), (1, 1), (2, 1), (3, 1)] := by refine Eq.trans ?_ (Eq.refl _); kernel_rfl
@[go_sem] theorem T50_f0 : fieldOf Try.prog (some T50) 0 = some (0, T3) := by refine Eq.trans ?_ (Eq.refl _); kernel_rfl
@[go_sem] theorem T50_f1 : fieldOf Try.prog (some T50) 1 = some (1, T3) := by refine Eq.trans ?_ (Eq.refl _); kernel_rfl
@[go_sem] theorem T50_f2 : fieldOf Try.prog (some T50) 2 = some (2, T3) := by refine Eq.trans ?_ (Eq.refl _); kernel_rfl
@[go_sem] theorem T50_f3 : fieldOf Try.prog (some T50) 3 = some (3, T3) := by refine Eq.trans ?_ (Eq.refl _); kernel_rfl
@[go_sem] theorem T50_zero : T50.zero = some (.agg #[.int .i64 0, .int .i64 0, .int .i64 0, .int .i64 0]) := by refine Eq.trans ?_ (Eq.refl _); kernel_rfl
@[go_sem] theorem T50_zeroElem : zeroElem T50 = some (.agg [.int .i64 0, .int .i64 0, .int .i64 0, .int .i64 0]) := by refine Eq.trans ?_ (Eq.refl _); kernel_rfl
@[go_sem ↓] theorem T50_zs : (∃ z, T50.zero = some z ∧ z.cells.size = T50.size) = True := by
  refine eq_true ⟨_, T50_zero, ?_⟩
  kernel_rfl

/-- Type 52. -/
noncomputable def T52 : Ty := (tyOf Try.prog 52).getD ⟨false, 0, 0, none, .bool⟩
@[go_sem] theorem ty52 : tyOf Try.prog 52 = some T52 := by refine Eq.trans ?_ (Eq.refl _); kernel_rfl
@[go_sem] theorem T52_agg : T52.agg = false := by refine Eq.trans ?_ (Eq.refl _); kernel_rfl
@[go_sem] theorem T52_size : T52.size = 1 := by refine Eq.trans ?_ (Eq.refl _); kernel_rfl
@[go_sem] theorem T52_bytes : T52.bytes = 24 := by refine Eq.trans ?_ (Eq.refl _); kernel_rfl
@[go_sem] theorem T52_want : T52.want = none := by refine Eq.trans ?_ (Eq.refl _); kernel_rfl
@[go_sem] theorem T52_desc : T52.desc = .slice 56 := by refine Eq.trans ?_ (Eq.refl _); kernel_rfl
@[go_sem] theorem T52_arr : T52.arr = none := by refine Eq.trans ?_ (Eq.refl _); kernel_rfl
@[go_sem] theorem T52_zero : T52.zero = some (.slice none 0 0) := by refine Eq.trans ?_ (Eq.refl _); kernel_rfl
@[go_sem] theorem T52_zeroD : zeroD T52 = some (.sl none []) := by refine Eq.trans ?_ (Eq.refl _); kernel_rfl
@[go_sem] theorem T52_zeroElem : zeroElem T52 = some (.sl none []) := by refine Eq.trans ?_ (Eq.refl _); kernel_rfl
@[go_sem ↓] theorem T52_zs : (∃ z, T52.zero = some z ∧ z.cells.size = T52.size) = True := by
  refine eq_true ⟨_, T52_zero, ?_⟩
  kernel_rfl

/-- Type 54. -/
noncomputable def T54 : Ty := (tyOf Try.prog 54).getD ⟨false, 0, 0, none, .bool⟩
@[go_sem] theorem ty54 : tyOf Try.prog 54 = some T54 := by refine Eq.trans ?_ (Eq.refl _); kernel_rfl
@[go_sem] theorem T54_agg : T54.agg = true := by refine Eq.trans ?_ (Eq.refl _); kernel_rfl
@[go_sem] theorem T54_size : T54.size = 4 := by refine Eq.trans ?_ (Eq.refl _); kernel_rfl
@[go_sem] theorem T54_bytes : T54.bytes = 56 := by refine Eq.trans ?_ (Eq.refl _); kernel_rfl
@[go_sem] theorem T54_want : T54.want = some 4 := by refine Eq.trans ?_ (Eq.refl _); kernel_rfl
@[go_sem] theorem T54_arr : T54.arr = none := by refine Eq.trans ?_ (Eq.refl _); kernel_rfl
@[go_sem] theorem T54_places : placesOf Try.prog T54 = some [(0, 1), (1, 1), (2, 1), (3, 1)] := by refine Eq.trans ?_ (Eq.refl _); kernel_rfl
@[go_sem] theorem T54_f0 : fieldOf Try.prog (some T54) 0 = some (0, T9) := by refine Eq.trans ?_ (Eq.refl _); kernel_rfl
@[go_sem] theorem T54_f1 : fieldOf Try.prog (some T54) 1 = some (1, T3) := by refine Eq.trans ?_ (Eq.refl _); kernel_rfl
@[go_sem] theorem T54_f2 : fieldOf Try.prog (some T54) 2 = some (2, T4) := by refine Eq.trans ?_ (Eq.refl _); kernel_rfl
@[go_sem] theorem T54_f3 : fieldOf Try.prog (some T54) 3 = some (3, T52) := by refine Eq.trans ?_ (Eq.refl _); kernel_rfl
@[go_sem] theorem T54_zero : T54.zero = some (.agg #[.string ⟨#[]⟩, .int .i64 0, .bool false, .slice none 0 0]) := by refine Eq.trans ?_ (Eq.refl _); kernel_rfl
@[go_sem] theorem T54_zeroElem : zeroElem T54 = some (.agg [.str [], .int .i64 0, .bool false, .sl none []]) := by refine Eq.trans ?_ (Eq.refl _); kernel_rfl
@[go_sem ↓] theorem T54_zs : (∃ z, T54.zero = some z ∧ z.cells.size = T54.size) = True := by
  refine eq_true ⟨_, T54_zero, ?_⟩
  kernel_rfl

/-- Type 56. -/
noncomputable def T56 : Ty := (tyOf Try.prog 56).getD ⟨false, 0, 0, none, .bool⟩
@[go_sem] theorem ty56 : tyOf Try.prog 56 = some T56 := by refine Eq.trans ?_ (Eq.refl _); kernel_rfl
@[go_sem] theorem T56_agg : T56.agg = true := by refine Eq.trans ?_ (Eq.refl _); kernel_rfl
@[go_sem] theorem T56_size : T56.size = 4 := by refine Eq.trans ?_ (Eq.refl _); kernel_rfl
@[go_sem] theorem T56_bytes : T56.bytes = 32 := by refine Eq.trans ?_ (Eq.refl _); kernel_rfl
@[go_sem] theorem T56_want : T56.want = some 4 := by refine Eq.trans ?_ (Eq.refl _); kernel_rfl
@[go_sem] theorem T56_arr : T56.arr = none := by refine Eq.trans ?_ (Eq.refl _); kernel_rfl
@[go_sem] theorem T56_places : placesOf Try.prog T56 = some [(0, 1), (1, 1), (2, 1), (3, 1)] := by refine Eq.trans ?_ (Eq.refl _); kernel_rfl
@[go_sem] theorem T56_f0 : fieldOf Try.prog (some T56) 0 = some (0, T3) := by refine Eq.trans ?_ (Eq.refl _); kernel_rfl
@[go_sem] theorem T56_f1 : fieldOf Try.prog (some T56) 1 = some (1, T3) := by refine Eq.trans ?_ (Eq.refl _); kernel_rfl
@[go_sem] theorem T56_f2 : fieldOf Try.prog (some T56) 2 = some (2, T3) := by refine Eq.trans ?_ (Eq.refl _); kernel_rfl
@[go_sem] theorem T56_f3 : fieldOf Try.prog (some T56) 3 = some (3, T4) := by refine Eq.trans ?_ (Eq.refl _); kernel_rfl
@[go_sem] theorem T56_zero : T56.zero = some (.agg #[.int .i64 0, .int .i64 0, .int .i64 0, .bool false]) := by refine Eq.trans ?_ (Eq.refl _); kernel_rfl
@[go_sem] theorem T56_zeroElem : zeroElem T56 = some (.agg [.int .i64 0, .int .i64 0, .int .i64 0, .bool false]) := by refine Eq.trans ?_ (Eq.refl _); kernel_rfl
@[go_sem ↓] theorem T56_zs : (∃ z, T56.zero = some z ∧ z.cells.size = T56.size) = True := by
  refine eq_true ⟨_, T56_zero, ?_⟩
  kernel_rfl

/-- Type 65. -/
noncomputable def T65 : Ty := (tyOf Try.prog 65).getD ⟨false, 0, 0, none, .bool⟩
@[go_sem] theorem ty65 : tyOf Try.prog 65 = some T65 := by refine Eq.trans ?_ (Eq.refl _); kernel_rfl
@[go_sem] theorem T65_agg : T65.agg = false := by refine Eq.trans ?_ (Eq.refl _); kernel_rfl
@[go_sem] theorem T65_size : T65.size = 1 := by refine Eq.trans ?_ (Eq.refl _); kernel_rfl
@[go_sem] theorem T65_bytes : T65.bytes = 8 := by refine Eq.trans ?_ (Eq.refl _); kernel_rfl
@[go_sem] theorem T65_want : T65.want = none := by refine Eq.trans ?_ (Eq.refl _); kernel_rfl
@[go_sem] theorem T65_desc : T65.desc = .map 68 4 := by refine Eq.trans ?_ (Eq.refl _); kernel_rfl
@[go_sem] theorem T65_arr : T65.arr = none := by refine Eq.trans ?_ (Eq.refl _); kernel_rfl
@[go_sem] theorem T65_zero : T65.zero = some (.map none) := by refine Eq.trans ?_ (Eq.refl _); kernel_rfl
@[go_sem ↓] theorem T65_zs : (∃ z, T65.zero = some z ∧ z.cells.size = T65.size) = True := by
  refine eq_true ⟨_, T65_zero, ?_⟩
  kernel_rfl

/-- Type 68. -/
noncomputable def T68 : Ty := (tyOf Try.prog 68).getD ⟨false, 0, 0, none, .bool⟩
@[go_sem] theorem ty68 : tyOf Try.prog 68 = some T68 := by refine Eq.trans ?_ (Eq.refl _); kernel_rfl
@[go_sem] theorem T68_agg : T68.agg = true := by refine Eq.trans ?_ (Eq.refl _); kernel_rfl
@[go_sem] theorem T68_size : T68.size = 2 := by refine Eq.trans ?_ (Eq.refl _); kernel_rfl
@[go_sem] theorem T68_bytes : T68.bytes = 16 := by refine Eq.trans ?_ (Eq.refl _); kernel_rfl
@[go_sem] theorem T68_want : T68.want = some 2 := by refine Eq.trans ?_ (Eq.refl _); kernel_rfl
@[go_sem] theorem T68_desc : T68.desc = .array 2 3 := by refine Eq.trans ?_ (Eq.refl _); kernel_rfl
@[go_sem] theorem T68_arr : T68.arr = some (2, 3) := by refine Eq.trans ?_ (Eq.refl _); kernel_rfl
@[go_sem] theorem T68_places : placesOf Try.prog T68 = some [(0, 1), (1, 1)] := by refine Eq.trans ?_ (Eq.refl _); kernel_rfl
@[go_sem] theorem T68_zero : T68.zero = some (.agg #[.int .i64 0, .int .i64 0]) := by refine Eq.trans ?_ (Eq.refl _); kernel_rfl
@[go_sem] theorem T68_zeroElem : zeroElem T68 = some (.agg [.int .i64 0, .int .i64 0]) := by refine Eq.trans ?_ (Eq.refl _); kernel_rfl
@[go_sem ↓] theorem T68_zs : (∃ z, T68.zero = some z ∧ z.cells.size = T68.size) = True := by
  refine eq_true ⟨_, T68_zero, ?_⟩
  kernel_rfl

/-- Type 72. -/
noncomputable def T72 : Ty := (tyOf Try.prog 72).getD ⟨false, 0, 0, none, .bool⟩
@[go_sem] theorem ty72 : tyOf Try.prog 72 = some T72 := by refine Eq.trans ?_ (Eq.refl _); kernel_rfl
@[go_sem] theorem T72_agg : T72.agg = false := by refine Eq.trans ?_ (Eq.refl _); kernel_rfl
@[go_sem] theorem T72_size : T72.size = 1 := by refine Eq.trans ?_ (Eq.refl _); kernel_rfl
@[go_sem] theorem T72_bytes : T72.bytes = 24 := by refine Eq.trans ?_ (Eq.refl _); kernel_rfl
@[go_sem] theorem T72_want : T72.want = none := by refine Eq.trans ?_ (Eq.refl _); kernel_rfl
@[go_sem] theorem T72_desc : T72.desc = .slice 39 := by refine Eq.trans ?_ (Eq.refl _); kernel_rfl
@[go_sem] theorem T72_arr : T72.arr = none := by refine Eq.trans ?_ (Eq.refl _); kernel_rfl
@[go_sem] theorem T72_zero : T72.zero = some (.slice none 0 0) := by refine Eq.trans ?_ (Eq.refl _); kernel_rfl
@[go_sem] theorem T72_zeroD : zeroD T72 = some (.sl none []) := by refine Eq.trans ?_ (Eq.refl _); kernel_rfl
@[go_sem] theorem T72_zeroElem : zeroElem T72 = some (.sl none []) := by refine Eq.trans ?_ (Eq.refl _); kernel_rfl
@[go_sem ↓] theorem T72_zs : (∃ z, T72.zero = some z ∧ z.cells.size = T72.size) = True := by
  refine eq_true ⟨_, T72_zero, ?_⟩
  kernel_rfl

/-- Type 75. -/
noncomputable def T75 : Ty := (tyOf Try.prog 75).getD ⟨false, 0, 0, none, .bool⟩
@[go_sem] theorem ty75 : tyOf Try.prog 75 = some T75 := by refine Eq.trans ?_ (Eq.refl _); kernel_rfl
@[go_sem] theorem T75_agg : T75.agg = true := by refine Eq.trans ?_ (Eq.refl _); kernel_rfl
@[go_sem] theorem T75_size : T75.size = 8 := by refine Eq.trans ?_ (Eq.refl _); kernel_rfl
@[go_sem] theorem T75_bytes : T75.bytes = 176 := by refine Eq.trans ?_ (Eq.refl _); kernel_rfl
@[go_sem] theorem T75_want : T75.want = some 8 := by refine Eq.trans ?_ (Eq.refl _); kernel_rfl
@[go_sem] theorem T75_arr : T75.arr = none := by refine Eq.trans ?_ (Eq.refl _); kernel_rfl
@[go_sem] theorem T75_places : placesOf Try.prog T75 = some [(0, 1), (1, 1), (2, 1), (3, 1), (4, 1), (5, 1), (6, 1), (7, 1)] := by refine Eq.trans ?_ (Eq.refl _); kernel_rfl
@[go_sem] theorem T75_f0 : fieldOf Try.prog (some T75) 0 = some (0, T34) := by refine Eq.trans ?_ (Eq.refl _); kernel_rfl
@[go_sem] theorem T75_f1 : fieldOf Try.prog (some T75) 1 = some (1, T72) := by refine Eq.trans ?_ (Eq.refl _); kernel_rfl
@[go_sem] theorem T75_f2 : fieldOf Try.prog (some T75) 2 = some (2, T39) := by refine Eq.trans ?_ (Eq.refl _); kernel_rfl
@[go_sem] theorem T75_f3 : fieldOf Try.prog (some T75) 3 = some (3, T39) := by refine Eq.trans ?_ (Eq.refl _); kernel_rfl
@[go_sem] theorem T75_f4 : fieldOf Try.prog (some T75) 4 = some (4, T48) := by refine Eq.trans ?_ (Eq.refl _); kernel_rfl
@[go_sem] theorem T75_f5 : fieldOf Try.prog (some T75) 5 = some (5, T39) := by refine Eq.trans ?_ (Eq.refl _); kernel_rfl
@[go_sem] theorem T75_f6 : fieldOf Try.prog (some T75) 6 = some (6, T3) := by refine Eq.trans ?_ (Eq.refl _); kernel_rfl
@[go_sem] theorem T75_f7 : fieldOf Try.prog (some T75) 7 = some (7, T39) := by refine Eq.trans ?_ (Eq.refl _); kernel_rfl
@[go_sem] theorem T75_zero : T75.zero = some (.agg #[.slice none 0 0, .slice none 0 0, .slice none 0 0, .slice none 0 0, .slice none 0 0, .slice none 0 0, .int .i64 0, .slice none 0 0]) := by refine Eq.trans ?_ (Eq.refl _); kernel_rfl
@[go_sem] theorem T75_zeroElem : zeroElem T75 = some (.agg [.sl none [], .sl none [], .sl none [], .sl none [], .sl none [], .sl none [], .int .i64 0, .sl none []]) := by refine Eq.trans ?_ (Eq.refl _); kernel_rfl
@[go_sem ↓] theorem T75_zs : (∃ z, T75.zero = some z ∧ z.cells.size = T75.size) = True := by
  refine eq_true ⟨_, T75_zero, ?_⟩
  kernel_rfl

/-- Type 82. -/
noncomputable def T82 : Ty := (tyOf Try.prog 82).getD ⟨false, 0, 0, none, .bool⟩
@[go_sem] theorem ty82 : tyOf Try.prog 82 = some T82 := by refine Eq.trans ?_ (Eq.refl _); kernel_rfl
@[go_sem] theorem T82_agg : T82.agg = true := by refine Eq.trans ?_ (Eq.refl _); kernel_rfl
@[go_sem] theorem T82_size : T82.size = 2 := by refine Eq.trans ?_ (Eq.refl _); kernel_rfl
@[go_sem] theorem T82_bytes : T82.bytes = 2 := by refine Eq.trans ?_ (Eq.refl _); kernel_rfl
@[go_sem] theorem T82_want : T82.want = some 2 := by refine Eq.trans ?_ (Eq.refl _); kernel_rfl
@[go_sem] theorem T82_desc : T82.desc = .array 2 5 := by refine Eq.trans ?_ (Eq.refl _); kernel_rfl
@[go_sem] theorem T82_arr : T82.arr = some (2, 5) := by refine Eq.trans ?_ (Eq.refl _); kernel_rfl
@[go_sem] theorem T82_places : placesOf Try.prog T82 = some [(0, 1), (1, 1)] := by refine Eq.trans ?_ (Eq.refl _); kernel_rfl
@[go_sem] theorem T82_zero : T82.zero = some (.agg #[.int .u8 0, .int .u8 0]) := by refine Eq.trans ?_ (Eq.refl _); kernel_rfl
@[go_sem] theorem T82_zeroElem : zeroElem T82 = some (.agg [.int .u8 0, .int .u8 0]) := by refine Eq.trans ?_ (Eq.refl _); kernel_rfl
@[go_sem ↓] theorem T82_zs : (∃ z, T82.zero = some z ∧ z.cells.size = T82.size) = True := by
  refine eq_true ⟨_, T82_zero, ?_⟩
  kernel_rfl

/-- Type 87. -/
noncomputable def T87 : Ty := (tyOf Try.prog 87).getD ⟨false, 0, 0, none, .bool⟩
@[go_sem] theorem ty87 : tyOf Try.prog 87 = some T87 := by refine Eq.trans ?_ (Eq.refl _); kernel_rfl
@[go_sem] theorem T87_agg : T87.agg = true := by refine Eq.trans ?_ (Eq.refl _); kernel_rfl
@[go_sem] theorem T87_size : T87.size = 3 := by refine Eq.trans ?_ (Eq.refl _); kernel_rfl
@[go_sem] theorem T87_bytes : T87.bytes = 32 := by refine Eq.trans ?_ (Eq.refl _); kernel_rfl
@[go_sem] theorem T87_want : T87.want = some 3 := by refine Eq.trans ?_ (Eq.refl _); kernel_rfl
@[go_sem] theorem T87_arr : T87.arr = none := by refine Eq.trans ?_ (Eq.refl _); kernel_rfl
@[go_sem] theorem T87_places : placesOf Try.prog T87 = some [(0, 1), (1, 1), (2, 1)] := by refine Eq.trans ?_ (Eq.refl _); kernel_rfl
@[go_sem] theorem T87_f0 : fieldOf Try.prog (some T87) 0 = some (0, T9) := by refine Eq.trans ?_ (Eq.refl _); kernel_rfl
@[go_sem] theorem T87_f1 : fieldOf Try.prog (some T87) 1 = some (1, T3) := by refine Eq.trans ?_ (Eq.refl _); kernel_rfl
@[go_sem] theorem T87_f2 : fieldOf Try.prog (some T87) 2 = some (2, T3) := by refine Eq.trans ?_ (Eq.refl _); kernel_rfl
@[go_sem] theorem T87_zero : T87.zero = some (.agg #[.string ⟨#[]⟩, .int .i64 0, .int .i64 0]) := by refine Eq.trans ?_ (Eq.refl _); kernel_rfl
@[go_sem] theorem T87_zeroElem : zeroElem T87 = some (.agg [.str [], .int .i64 0, .int .i64 0]) := by refine Eq.trans ?_ (Eq.refl _); kernel_rfl
@[go_sem ↓] theorem T87_zs : (∃ z, T87.zero = some z ∧ z.cells.size = T87.size) = True := by
  refine eq_true ⟨_, T87_zero, ?_⟩
  kernel_rfl

/-- Type 90. -/
noncomputable def T90 : Ty := (tyOf Try.prog 90).getD ⟨false, 0, 0, none, .bool⟩
@[go_sem] theorem ty90 : tyOf Try.prog 90 = some T90 := by refine Eq.trans ?_ (Eq.refl _); kernel_rfl
@[go_sem] theorem T90_agg : T90.agg = true := by refine Eq.trans ?_ (Eq.refl _); kernel_rfl
@[go_sem] theorem T90_size : T90.size = 2 := by refine Eq.trans ?_ (Eq.refl _); kernel_rfl
@[go_sem] theorem T90_bytes : T90.bytes = 48 := by refine Eq.trans ?_ (Eq.refl _); kernel_rfl
@[go_sem] theorem T90_want : T90.want = some 2 := by refine Eq.trans ?_ (Eq.refl _); kernel_rfl
@[go_sem] theorem T90_arr : T90.arr = none := by refine Eq.trans ?_ (Eq.refl _); kernel_rfl
@[go_sem] theorem T90_places : placesOf Try.prog T90 = some [(0, 1), (1, 1)] := by refine Eq.trans ?_ (Eq.refl _); kernel_rfl
@[go_sem] theorem T90_f0 : fieldOf Try.prog (some T90) 0 = some (0, T39) := by refine Eq.trans ?_ (Eq.refl _); kernel_rfl
@[go_sem] theorem T90_f1 : fieldOf Try.prog (some T90) 1 = some (1, T48) := by refine Eq.trans ?_ (Eq.refl _); kernel_rfl
@[go_sem] theorem T90_zero : T90.zero = some (.agg #[.slice none 0 0, .slice none 0 0]) := by refine Eq.trans ?_ (Eq.refl _); kernel_rfl
@[go_sem] theorem T90_zeroElem : zeroElem T90 = some (.agg [.sl none [], .sl none []]) := by refine Eq.trans ?_ (Eq.refl _); kernel_rfl
@[go_sem ↓] theorem T90_zs : (∃ z, T90.zero = some z ∧ z.cells.size = T90.size) = True := by
  refine eq_true ⟨_, T90_zero, ?_⟩
  kernel_rfl

/-- Type 103. -/
noncomputable def T103 : Ty := (tyOf Try.prog 103).getD ⟨false, 0, 0, none, .bool⟩
@[go_sem] theorem ty103 : tyOf Try.prog 103 = some T103 := by refine Eq.trans ?_ (Eq.refl _); kernel_rfl
@[go_sem] theorem T103_agg : T103.agg = false := by refine Eq.trans ?_ (Eq.refl _); kernel_rfl
@[go_sem] theorem T103_size : T103.size = 1 := by refine Eq.trans ?_ (Eq.refl _); kernel_rfl
@[go_sem] theorem T103_bytes : T103.bytes = 8 := by refine Eq.trans ?_ (Eq.refl _); kernel_rfl
@[go_sem] theorem T103_want : T103.want = none := by refine Eq.trans ?_ (Eq.refl _); kernel_rfl
@[go_sem] theorem T103_desc : T103.desc = .int .u64 := by refine Eq.trans ?_ (Eq.refl _); kernel_rfl
@[go_sem] theorem T103_arr : T103.arr = none := by refine Eq.trans ?_ (Eq.refl _); kernel_rfl
@[go_sem] theorem T103_zero : T103.zero = some (.int .u64 0) := by refine Eq.trans ?_ (Eq.refl _); kernel_rfl
@[go_sem] theorem T103_zeroD : zeroD T103 = some (.int .u64 0) := by refine Eq.trans ?_ (Eq.refl _); kernel_rfl
@[go_sem] theorem T103_zeroElem : zeroElem T103 = some (.int .u64 0) := by refine Eq.trans ?_ (Eq.refl _); kernel_rfl
@[go_sem ↓] theorem T103_zs : (∃ z, T103.zero = some z ∧ z.cells.size = T103.size) = True := by
  refine eq_true ⟨_, T103_zero, ?_⟩
  kernel_rfl

/-- Type 110. -/
noncomputable def T110 : Ty := (tyOf Try.prog 110).getD ⟨false, 0, 0, none, .bool⟩
@[go_sem] theorem ty110 : tyOf Try.prog 110 = some T110 := by refine Eq.trans ?_ (Eq.refl _); kernel_rfl
@[go_sem] theorem T110_agg : T110.agg = false := by refine Eq.trans ?_ (Eq.refl _); kernel_rfl
@[go_sem] theorem T110_size : T110.size = 1 := by refine Eq.trans ?_ (Eq.refl _); kernel_rfl
@[go_sem] theorem T110_bytes : T110.bytes = 8 := by refine Eq.trans ?_ (Eq.refl _); kernel_rfl
@[go_sem] theorem T110_want : T110.want = none := by refine Eq.trans ?_ (Eq.refl _); kernel_rfl
@[go_sem] theorem T110_desc : T110.desc = .int .u64 := by refine Eq.trans ?_ (Eq.refl _); kernel_rfl
@[go_sem] theorem T110_arr : T110.arr = none := by refine Eq.trans ?_ (Eq.refl _); kernel_rfl
@[go_sem] theorem T110_zero : T110.zero = some (.int .u64 0) := by refine Eq.trans ?_ (Eq.refl _); kernel_rfl
@[go_sem] theorem T110_zeroD : zeroD T110 = some (.int .u64 0) := by refine Eq.trans ?_ (Eq.refl _); kernel_rfl
@[go_sem] theorem T110_zeroElem : zeroElem T110 = some (.int .u64 0) := by refine Eq.trans ?_ (Eq.refl _); kernel_rfl
@[go_sem ↓] theorem T110_zs : (∃ z, T110.zero = some z ∧ z.cells.size = T110.size) = True := by
  refine eq_true ⟨_, T110_zero, ?_⟩
  kernel_rfl

end Go.AM

