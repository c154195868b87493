/-
  The types of the program that the walks meet, and what the operations ask of them. Printed by genty.py.
-/
import Derived.Test.YteblpegdedojdaaProg
import Derived.Test.YteblpegdedojdaaLibC

namespace Go.AM
open Go Go.Proofs

/-- Type 3. -/
noncomputable def T3 : Ty := (tyOf Try.prog 3).getD ⟨false, 0, 0, none, .bool⟩
@[go_sem] theorem ty3 : tyOf Try.prog 3 = some T3 := by refine Eq.trans ?_ (Eq.refl _); kernel_rfl
@[go_sem] theorem T3_agg : T3.agg = false := by refine Eq.trans ?_ (Eq.refl _); kernel_rfl
@[go_sem] theorem T3_size : T3.size = 1 := by refine Eq.trans ?_ (Eq.refl _); kernel_rfl
@[go_sem] theorem T3_bytes : T3.bytes = 8 := by refine Eq.trans ?_ (Eq.refl _); kernel_rfl
@[go_sem] theorem T3_want : T3.want = none := by refine Eq.trans ?_ (Eq.refl _); kernel_rfl
@[go_sem] theorem T3_desc : T3.desc = .int .i64 := by refine Eq.trans ?_ (Eq.refl _); kernel_rfl
@[go_sem] theorem T3_arr : T3.arr = none := by refine Eq.trans ?_ (Eq.refl _); kernel_rfl
@[go_sem] theorem T3_zero : T3.zero = some (.int .i64 0) := by refine Eq.trans ?_ (Eq.refl _); kernel_rfl
@[go_sem] theorem T3_zeroD : zeroD T3 = some (.int .i64 0) := by refine Eq.trans ?_ (Eq.refl _); kernel_rfl
@[go_sem] theorem T3_zeroElem : zeroElem T3 = some (.int .i64 0) := by refine Eq.trans ?_ (Eq.refl _); kernel_rfl
@[go_sem ↓] theorem T3_zs : (∃ z, T3.zero = some z ∧ z.cells.size = T3.size) = True := by
  refine eq_true ⟨_, T3_zero, ?_⟩
  kernel_rfl

/-- Type 4. -/
noncomputable def T4 : Ty := (tyOf Try.prog 4).getD ⟨false, 0, 0, none, .bool⟩
@[go_sem] theorem ty4 : tyOf Try.prog 4 = some T4 := by refine Eq.trans ?_ (Eq.refl _); kernel_rfl
@[go_sem] theorem T4_agg : T4.agg = false := by refine Eq.trans ?_ (Eq.refl _); kernel_rfl
@[go_sem] theorem T4_size : T4.size = 1 := by refine Eq.trans ?_ (Eq.refl _); kernel_rfl
@[go_sem] theorem T4_bytes : T4.bytes = 1 := by refine Eq.trans ?_ (Eq.refl _); kernel_rfl
@[go_sem] theorem T4_want : T4.want = none := by refine Eq.trans ?_ (Eq.refl _); kernel_rfl
@[go_sem] theorem T4_desc : T4.desc = .bool := by refine Eq.trans ?_ (Eq.refl _); kernel_rfl
@[go_sem] theorem T4_arr : T4.arr = none := by refine Eq.trans ?_ (Eq.refl _); kernel_rfl
@[go_sem] theorem T4_zero : T4.zero = some (.bool false) := by refine Eq.trans ?_ (Eq.refl _); kernel_rfl
@[go_sem] theorem T4_zeroD : zeroD T4 = some (.bool false) := by refine Eq.trans ?_ (Eq.refl _); kernel_rfl
@[go_sem] theorem T4_zeroElem : zeroElem T4 = some (.bool false) := by refine Eq.trans ?_ (Eq.refl _); kernel_rfl
@[go_sem ↓] theorem T4_zs : (∃ z, T4.zero = some z ∧ z.cells.size = T4.size) = True := by
  refine eq_true ⟨_, T4_zero, ?_⟩
  kernel_rfl

/-- Type 22. -/
noncomputable def T22 : Ty := (tyOf Try.prog 22).getD ⟨false, 0, 0, none, .bool⟩
@[go_sem] theorem ty22 : tyOf Try.prog 22 = some T22 := by refine Eq.trans ?_ (Eq.refl _); kernel_rfl
@[go_sem] theorem T22_agg : T22.agg = false := by refine Eq.trans ?_ (Eq.refl _); kernel_rfl
@[go_sem] theorem T22_size : T22.size = 1 := by refine Eq.trans ?_ (Eq.refl _); kernel_rfl
@[go_sem] theorem T22_bytes : T22.bytes = 24 := by refine Eq.trans ?_ (Eq.refl _); kernel_rfl
@[go_sem] theorem T22_want : T22.want = none := by refine Eq.trans ?_ (Eq.refl _); kernel_rfl
@[go_sem] theorem T22_desc : T22.desc = .slice 34 := by refine Eq.trans ?_ (Eq.refl _); kernel_rfl
@[go_sem] theorem T22_arr : T22.arr = none := by refine Eq.trans ?_ (Eq.refl _); kernel_rfl
@[go_sem] theorem T22_zero : T22.zero = some (.slice none 0 0) := by refine Eq.trans ?_ (Eq.refl _); kernel_rfl
@[go_sem] theorem T22_zeroD : zeroD T22 = some (.sl none []) := by refine Eq.trans ?_ (Eq.refl _); kernel_rfl
@[go_sem] theorem T22_zeroElem : zeroElem T22 = some (.sl none []) := by refine Eq.trans ?_ (Eq.refl _); kernel_rfl
@[go_sem ↓] theorem T22_zs : (∃ z, T22.zero = some z ∧ z.cells.size = T22.size) = True := by
  refine eq_true ⟨_, T22_zero, ?_⟩
  kernel_rfl

/-- Type 24. -/
noncomputable def T24 : Ty := (tyOf Try.prog 24).getD ⟨false, 0, 0, none, .bool⟩
@[go_sem] theorem ty24 : tyOf Try.prog 24 = some T24 := by refine Eq.trans ?_ (Eq.refl _); kernel_rfl
@[go_sem] theorem T24_agg : T24.agg = true := by refine Eq.trans ?_ (Eq.refl _); kernel_rfl
@[go_sem] theorem T24_size : T24.size = 1 := by refine Eq.trans ?_ (Eq.refl _); kernel_rfl
@[go_sem] theorem T24_bytes : T24.bytes = 24 := by refine Eq.trans ?_ (Eq.refl _); kernel_rfl
@[go_sem] theorem T24_want : T24.want = some 1 := by refine Eq.trans ?_ (Eq.refl _); kernel_rfl
@[go_sem] theorem T24_arr : T24.arr = none := by refine Eq.trans ?_ (Eq.refl _); kernel_rfl
@[go_sem] theorem T24_places : placesOf Try.prog T24 = some [(0, 1)] := by refine Eq.trans ?_ (Eq.refl _); kernel_rfl
@[go_sem] theorem T24_f0 : fieldOf Try.prog (some T24) 0 = some (0, T22) := by refine Eq.trans ?_ (Eq.refl _); kernel_rfl
@[go_sem] theorem T24_zero : T24.zero = some (.agg #[.slice none 0 0]) := by refine Eq.trans ?_ (Eq.refl _); kernel_rfl
@[go_sem] theorem T24_zeroElem : zeroElem T24 = some (.agg [.sl none []]) := by refine Eq.trans ?_ (Eq.refl _); kernel_rfl
@[go_sem ↓] theorem T24_zs : (∃ z, T24.zero = some z ∧ z.cells.size = T24.size) = True := by
  refine eq_true ⟨_, T24_zero, ?_⟩
  kernel_rfl

/-- Type 34. -/
noncomputable def T34 : Ty := (tyOf Try.prog 34).getD ⟨false, 0, 0, none, .bool⟩
@[go_sem] theorem ty34 : tyOf Try.prog 34 = some T34 := by refine Eq.trans ?_ (Eq.refl _); kernel_rfl
@[go_sem] theorem T34_agg : T34.agg = false := by refine Eq.trans ?_ (Eq.refl _); kernel_rfl
@[go_sem] theorem T34_size : T34.size = 1 := by refine Eq.trans ?_ (Eq.refl _); kernel_rfl
@[go_sem] theorem T34_bytes : T34.bytes = 24 := by refine Eq.trans ?_ (Eq.refl _); kernel_rfl
@[go_sem] theorem T34_want : T34.want = none := by refine Eq.trans ?_ (Eq.refl _); kernel_rfl
@[go_sem] theorem T34_desc : T34.desc = .slice 3 := by refine Eq.trans ?_ (Eq.refl _); kernel_rfl
@[go_sem] theorem T34_arr : T34.arr = none := by refine Eq.trans ?_ (Eq.refl _); kernel_rfl
@[go_sem] theorem T34_zero : T34.zero = some (.slice none 0 0) := by refine Eq.trans ?_ (Eq.refl _); kernel_rfl
@[go_sem] theorem T34_zeroD : zeroD T34 = some (.sl none []) := by refine Eq.trans ?_ (Eq.refl _); kernel_rfl
@[go_sem] theorem T34_zeroElem : zeroElem T34 = some (.sl none []) := by refine Eq.trans ?_ (Eq.refl _); kernel_rfl
@[go_sem ↓] theorem T34_zs : (∃ z, T34.zero = some z ∧ z.cells.size = T34.size) = True := by
  refine eq_true ⟨_, T34_zero, ?_⟩
  kernel_rfl

/-- Type 40. -/
noncomputable def T40 : Ty := (tyOf Try.prog 40).getD ⟨false, 0, 0, none, .bool⟩
@[go_sem] theorem ty40 : tyOf Try.prog 40 = some T40 := by refine Eq.trans ?_ (Eq.refl _); kernel_rfl
@[go_sem] theorem T40_agg : T40.agg = true := by refine Eq.trans ?_ (Eq.refl _); kernel_rfl
@[go_sem] theorem T40_size : T40.size = 4 := by refine Eq.trans ?_ (Eq.refl _); kernel_rfl
@[go_sem] theorem T40_bytes : T40.bytes = 32 := by refine Eq.trans ?_ (Eq.refl _); kernel_rfl
@[go_sem] theorem T40_want : T40.want = some 4 := by refine Eq.trans ?_ (Eq.refl _); kernel_rfl
@[go_sem] theorem T40_arr : T40.arr = none := by refine Eq.trans ?_ (Eq.refl _); kernel_rfl
@[go_sem] theorem T40_places : placesOf Try.prog T40 = some [(0, 1), (1, 1), (2, 1), (3, 1)] := by refine Eq.trans ?_ (Eq.refl _); kernel_rfl
@[go_sem] theorem T40_f0 : fieldOf Try.prog (some T40) 0 = some (0, T3) := by refine Eq.trans ?_ (Eq.refl _); kernel_rfl
@[go_sem] theorem T40_f1 : fieldOf Try.prog (some T40) 1 = some (1, T3) := by refine Eq.trans ?_ (Eq.refl _); kernel_rfl
@[go_sem] theorem T40_f2 : fieldOf Try.prog (some T40) 2 = some (2, T3) := by refine Eq.trans ?_ (Eq.refl _); kernel_rfl
@[go_sem] theorem T40_f3 : fieldOf Try.prog (some T40) 3 = some (3, T3) := by refine Eq.trans ?_ (Eq.refl _); kernel_rfl
@[go_sem] theorem T40_zero : T40.zero = some (.agg #[.int .i64 0, .int .i64 0, .int .i64 0, .int .i64 0]) := by refine Eq.trans ?_ (Eq.refl _); kernel_rfl
@[go_sem] theorem T40_zeroElem : zeroElem T40 = some (.agg [.int .i64 0, .int .i64 0, .int .i64 0, .int .i64 0]) := by refine Eq.trans ?_ (Eq.refl _); kernel_rfl
@[go_sem ↓] theorem T40_zs : (∃ z, T40.zero = some z ∧ z.cells.size = T40.size) = True := by
  refine eq_true ⟨_, T40_zero, ?_⟩
  kernel_rfl

/-- Type 45. -/
noncomputable def T45 : Ty := (tyOf Try.prog 45).getD ⟨false, 0, 0, none, .bool⟩
@[go_sem] theorem ty45 : tyOf Try.prog 45 = some T45 := by refine Eq.trans ?_ (Eq.refl _); kernel_rfl
@[go_sem] theorem T45_agg : T45.agg = false := by refine Eq.trans ?_ (Eq.refl _); kernel_rfl
@[go_sem] theorem T45_size : T45.size = 1 := by refine Eq.trans ?_ (Eq.refl _); kernel_rfl
@[go_sem] theorem T45_bytes : T45.bytes = 24 := by refine Eq.trans ?_ (Eq.refl _); kernel_rfl
@[go_sem] theorem T45_want : T45.want = none := by refine Eq.trans ?_ (Eq.refl _); kernel_rfl
@[go_sem] theorem T45_desc : T45.desc = .slice 40 := by refine Eq.trans ?_ (Eq.refl _); kernel_rfl
@[go_sem] theorem T45_arr : T45.arr = none := by refine Eq.trans ?_ (Eq.refl _); kernel_rfl
@[go_sem] theorem T45_zero : T45.zero = some (.slice none 0 0) := by refine Eq.trans ?_ (Eq.refl _); kernel_rfl
@[go_sem] theorem T45_zeroD : zeroD T45 = some (.sl none []) := by refine Eq.trans ?_ (Eq.refl _); kernel_rfl
@[go_sem] theorem T45_zeroElem : zeroElem T45 = some (.sl none []) := by refine Eq.trans ?_ (Eq.refl _); kernel_rfl
@[go_sem ↓] theorem T45_zs : (∃ z, T45.zero = some z ∧ z.cells.size = T45.size) = True := by
  refine eq_true ⟨_, T45_zero, ?_⟩
  kernel_rfl

/-- Type 46. -/
noncomputable def T46 : Ty := (tyOf Try.prog 46).getD ⟨false, 0, 0, none, .bool⟩
@[go_sem] theorem ty46 : tyOf Try.prog 46 = some T46 := by refine Eq.trans ?_ (Eq.refl _); kernel_rfl
@[go_sem] theorem T46_agg : T46.agg = true := by refine Eq.trans ?_ (Eq.refl _); kernel_rfl
@[go_sem] theorem T46_size : T46.size = 256 := by refine Eq.trans ?_ (Eq.refl _); kernel_rfl
@[go_sem] theorem T46_bytes : T46.bytes = 256 := by refine Eq.trans ?_ (Eq.refl _); kernel_rfl
@[go_sem] theorem T46_want : T46.want = some 256 := by refine Eq.trans ?_ (Eq.refl _); kernel_rfl
@[go_sem] theorem T46_desc : T46.desc = .array 256 4 := by refine Eq.trans ?_ (Eq.refl _); kernel_rfl
@[go_sem] theorem T46_arr : T46.arr = some (256, 4) := by refine Eq.trans ?_ (Eq.refl _); kernel_rfl
@[go_sem] theorem T46_zero : T46.zero = some (.agg (Array.replicate 256 (.bool false))) := by refine Eq.trans ?_ (Eq.refl _); kernel_rfl

/-- Type 49. -/
noncomputable def T49 : Ty := (tyOf Try.prog 49).getD ⟨false, 0, 0, none, .bool⟩
@[go_sem] theorem ty49 : tyOf Try.prog 49 = some T49 := by refine Eq.trans ?_ (Eq.refl _); kernel_rfl
@[go_sem] theorem T49_agg : T49.agg = false := by refine Eq.trans ?_ (Eq.refl _); kernel_rfl
@[go_sem] theorem T49_size : T49.size = 1 := by refine Eq.trans ?_ (Eq.refl _); kernel_rfl
@[go_sem] theorem T49_bytes : T49.bytes = 8 := by refine Eq.trans ?_ (Eq.refl _); kernel_rfl
@[go_sem] theorem T49_want : T49.want = none := by refine Eq.trans ?_ (Eq.refl _); kernel_rfl
@[go_sem] theorem T49_desc : T49.desc = .map 3 4 := by refine Eq.trans ?_ (Eq.refl _); kernel_rfl
@[go_sem] theorem T49_arr : T49.arr = none := by refine Eq.trans ?_ (Eq.refl _); kernel_rfl
@[go_sem] theorem T49_zero : T49.zero = some (.map none) := by refine Eq.trans ?_ (Eq.refl _); kernel_rfl
@[go_sem ↓] theorem T49_zs : (∃ z, T49.zero = some z ∧ z.cells.size = T49.size) = True := by
  refine eq_true ⟨_, T49_zero, ?_⟩
  kernel_rfl

/-- Type 51. -/
noncomputable def T51 : Ty := (tyOf Try.prog 51).getD ⟨false, 0, 0, none, .bool⟩
@[go_sem] theorem ty51 : tyOf Try.prog 51 = some T51 := by refine Eq.trans ?_ (Eq.refl _); kernel_rfl
@[go_sem] theorem T51_agg : T51.agg = false := by refine Eq.trans ?_ (Eq.refl _); kernel_rfl
@[go_sem] theorem T51_size : T51.size = 1 := by refine Eq.trans ?_ (Eq.refl _); kernel_rfl
@[go_sem] theorem T51_bytes : T51.bytes = 24 := by refine Eq.trans ?_ (Eq.refl _); kernel_rfl
@[go_sem] theorem T51_want : T51.want = none := by refine Eq.trans ?_ (Eq.refl _); kernel_rfl
@[go_sem] theorem T51_desc : T51.desc = .slice 4 := by refine Eq.trans ?_ (Eq.refl _); kernel_rfl
@[go_sem] theorem T51_arr : T51.arr = none := by refine Eq.trans ?_ (Eq.refl _); kernel_rfl
@[go_sem] theorem T51_zero : T51.zero = some (.slice none 0 0) := by refine Eq.trans ?_ (Eq.refl _); kernel_rfl
@[go_sem] theorem T51_zeroD : zeroD T51 = some (.sl none []) := by refine Eq.trans ?_ (Eq.refl _); kernel_rfl
@[go_sem] theorem T51_zeroElem : zeroElem T51 = some (.sl none []) := by refine Eq.trans ?_ (Eq.refl _); kernel_rfl
@[go_sem ↓] theorem T51_zs : (∃ z, T51.zero = some z ∧ z.cells.size = T51.size) = True := by
  refine eq_true ⟨_, T51_zero, ?_⟩
  kernel_rfl

end Go.AM

