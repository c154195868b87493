/-
  The types of the program that the walks meet, and what the operations ask of them. Printed by genty.py.
-/
import Derived.Test.YtigpifiechkfkaaDoorProg
import Derived.Test.YtigpifiechkfkaaDoorLibC

namespace Go.AM
open Go Go.Proofs

/-- Type 3. -/
noncomputable def T3 : Ty := (tyOf Tryd.prog 3).getD ⟨false, 0, 0, none, .bool⟩
@[go_sem] theorem ty3 : tyOf Tryd.prog 3 = some T3 := by refine Eq.trans ?_ (Eq.refl _); kernel_rfl
@[go_sem] theorem T3_agg : T3.agg = false := by refine Eq.trans ?_ (Eq.refl _); kernel_rfl
@[go_sem] theorem T3_size : T3.size = 1 := by refine Eq.trans ?_ (Eq.refl _); kernel_rfl
@[go_sem] theorem T3_bytes : T3.bytes = 8 := by refine Eq.trans ?_ (Eq.refl _); kernel_rfl
@[go_sem] theorem T3_want : T3.want = none := by refine Eq.trans ?_ (Eq.refl _); kernel_rfl
@[go_sem] theorem T3_desc : T3.desc = .int .i64 := by refine Eq.trans ?_ (Eq.refl _); kernel_rfl
@[go_sem] theorem T3_arr : T3.arr = none := by refine Eq.trans ?_ (Eq.refl _); kernel_rfl
@[go_sem] theorem T3_zero : T3.zero = some (.int .i64 0) := by refine Eq.trans ?_ (Eq.refl _); kernel_rfl
@[go_sem] theorem T3_zeroD : zeroD T3 = some (.int .i64 0) := by refine Eq.trans ?_ (Eq.refl _); kernel_rfl
@[go_sem] theorem T3_zeroElem : zeroElem T3 = some (.int .i64 0) := by refine Eq.trans ?_ (Eq.refl _); kernel_rfl
@[go_sem ↓] theorem T3_zs : (∃ z, T3.zero = some z ∧ z.cells.size = T3.size) = True := by
  refine eq_true ⟨_, T3_zero, ?_⟩
  kernel_rfl

/-- Type 4. -/
noncomputable def T4 : Ty := (tyOf Tryd.prog 4).getD ⟨false, 0, 0, none, .bool⟩
@[go_sem] theorem ty4 : tyOf Tryd.prog 4 = some T4 := by refine Eq.trans ?_ (Eq.refl _); kernel_rfl
@[go_sem] theorem T4_agg : T4.agg = false := by refine Eq.trans ?_ (Eq.refl _); kernel_rfl
@[go_sem] theorem T4_size : T4.size = 1 := by refine Eq.trans ?_ (Eq.refl _); kernel_rfl
@[go_sem] theorem T4_bytes : T4.bytes = 1 := by refine Eq.trans ?_ (Eq.refl _); kernel_rfl
@[go_sem] theorem T4_want : T4.want = none := by refine Eq.trans ?_ (Eq.refl _); kernel_rfl
@[go_sem] theorem T4_desc : T4.desc = .bool := by refine Eq.trans ?_ (Eq.refl _); kernel_rfl
@[go_sem] theorem T4_arr : T4.arr = none := by refine Eq.trans ?_ (Eq.refl _); kernel_rfl
@[go_sem] theorem T4_zero : T4.zero = some (.bool false) := by refine Eq.trans ?_ (Eq.refl _); kernel_rfl
@[go_sem] theorem T4_zeroD : zeroD T4 = some (.bool false) := by refine Eq.trans ?_ (Eq.refl _); kernel_rfl
@[go_sem] theorem T4_zeroElem : zeroElem T4 = some (.bool false) := by refine Eq.trans ?_ (Eq.refl _); kernel_rfl
@[go_sem ↓] theorem T4_zs : (∃ z, T4.zero = some z ∧ z.cells.size = T4.size) = True := by
  refine eq_true ⟨_, T4_zero, ?_⟩
  kernel_rfl

/-- Type 5. -/
noncomputable def T5 : Ty := (tyOf Tryd.prog 5).getD ⟨false, 0, 0, none, .bool⟩
@[go_sem] theorem ty5 : tyOf Tryd.prog 5 = some T5 := by refine Eq.trans ?_ (Eq.refl _); kernel_rfl
@[go_sem] theorem T5_agg : T5.agg = false := by refine Eq.trans ?_ (Eq.refl _); kernel_rfl
@[go_sem] theorem T5_size : T5.size = 1 := by refine Eq.trans ?_ (Eq.refl _); kernel_rfl
@[go_sem] theorem T5_bytes : T5.bytes = 1 := by refine Eq.trans ?_ (Eq.refl _); kernel_rfl
@[go_sem] theorem T5_want : T5.want = none := by refine Eq.trans ?_ (Eq.refl _); kernel_rfl
@[go_sem] theorem T5_desc : T5.desc = .int .u8 := by refine Eq.trans ?_ (Eq.refl _); kernel_rfl
@[go_sem] theorem T5_arr : T5.arr = none := by refine Eq.trans ?_ (Eq.refl _); kernel_rfl
@[go_sem] theorem T5_zero : T5.zero = some (.int .u8 0) := by refine Eq.trans ?_ (Eq.refl _); kernel_rfl
@[go_sem] theorem T5_zeroD : zeroD T5 = some (.int .u8 0) := by refine Eq.trans ?_ (Eq.refl _); kernel_rfl
@[go_sem] theorem T5_zeroElem : zeroElem T5 = some (.int .u8 0) := by refine Eq.trans ?_ (Eq.refl _); kernel_rfl
@[go_sem ↓] theorem T5_zs : (∃ z, T5.zero = some z ∧ z.cells.size = T5.size) = True := by
  refine eq_true ⟨_, T5_zero, ?_⟩
  kernel_rfl

/-- Type 22. -/
noncomputable def T22 : Ty := (tyOf Tryd.prog 22).getD ⟨false, 0, 0, none, .bool⟩
@[go_sem] theorem ty22 : tyOf Tryd.prog 22 = some T22 := by refine Eq.trans ?_ (Eq.refl _); kernel_rfl
@[go_sem] theorem T22_agg : T22.agg = false := by refine Eq.trans ?_ (Eq.refl _); kernel_rfl
@[go_sem] theorem T22_size : T22.size = 1 := by refine Eq.trans ?_ (Eq.refl _); kernel_rfl
@[go_sem] theorem T22_bytes : T22.bytes = 24 := by refine Eq.trans ?_ (Eq.refl _); kernel_rfl
@[go_sem] theorem T22_want : T22.want = none := by refine Eq.trans ?_ (Eq.refl _); kernel_rfl
@[go_sem] theorem T22_desc : T22.desc = .slice 42 := by refine Eq.trans ?_ (Eq.refl _); kernel_rfl
@[go_sem] theorem T22_arr : T22.arr = none := by refine Eq.trans ?_ (Eq.refl _); kernel_rfl
@[go_sem] theorem T22_zero : T22.zero = some (.slice none 0 0) := by refine Eq.trans ?_ (Eq.refl _); kernel_rfl
@[go_sem] theorem T22_zeroD : zeroD T22 = some (.sl none []) := by refine Eq.trans ?_ (Eq.refl _); kernel_rfl
@[go_sem] theorem T22_zeroElem : zeroElem T22 = some (.sl none []) := by refine Eq.trans ?_ (Eq.refl _); kernel_rfl
@[go_sem ↓] theorem T22_zs : (∃ z, T22.zero = some z ∧ z.cells.size = T22.size) = True := by
  refine eq_true ⟨_, T22_zero, ?_⟩
  kernel_rfl

/-- Type 24. -/
noncomputable def T24 : Ty := (tyOf Tryd.prog 24).getD ⟨false, 0, 0, none, .bool⟩
@[go_sem] theorem ty24 : tyOf Tryd.prog 24 = some T24 := by refine Eq.trans ?_ (Eq.refl _); kernel_rfl
@[go_sem] theorem T24_agg : T24.agg = true := by refine Eq.trans ?_ (Eq.refl _); kernel_rfl
@[go_sem] theorem T24_size : T24.size = 2 := by refine Eq.trans ?_ (Eq.refl _); kernel_rfl
@[go_sem] theorem T24_bytes : T24.bytes = 32 := by refine Eq.trans ?_ (Eq.refl _); kernel_rfl
@[go_sem] theorem T24_want : T24.want = some 2 := by refine Eq.trans ?_ (Eq.refl _); kernel_rfl
@[go_sem] theorem T24_arr : T24.arr = none := by refine Eq.trans ?_ (Eq.refl _); kernel_rfl
@[go_sem] theorem T24_places : placesOf Tryd.prog T24 = some [(0, 1), (1, 1)] := by refine Eq.trans ?_ (Eq.refl _); kernel_rfl
@[go_sem] theorem T24_f0 : fieldOf Tryd.prog (some T24) 0 = some (0, T3) := by refine Eq.trans ?_ (Eq.refl _); kernel_rfl
@[go_sem] theorem T24_f1 : fieldOf Tryd.prog (some T24) 1 = some (1, T22) := by refine Eq.trans ?_ (Eq.refl _); kernel_rfl
@[go_sem] theorem T24_zero : T24.zero = some (.agg #[.int .i64 0, .slice none 0 0]) := by refine Eq.trans ?_ (Eq.refl _); kernel_rfl
@[go_sem] theorem T24_zeroElem : zeroElem T24 = some (.agg [.int .i64 0, .sl none []]) := by refine Eq.trans ?_ (Eq.refl _); kernel_rfl
@[go_sem ↓] theorem T24_zs : (∃ z, T24.zero = some z ∧ z.cells.size = T24.size) = True := by
  refine eq_true ⟨_, T24_zero, ?_⟩
  kernel_rfl

/-- Type 33. -/
noncomputable def T33 : Ty := (tyOf Tryd.prog 33).getD ⟨false, 0, 0, none, .bool⟩
@[go_sem] theorem ty33 : tyOf Tryd.prog 33 = some T33 := by refine Eq.trans ?_ (Eq.refl _); kernel_rfl
@[go_sem] theorem T33_agg : T33.agg = true := by refine Eq.trans ?_ (Eq.refl _); kernel_rfl
@[go_sem] theorem T33_size : T33.size = 2 := by refine Eq.trans ?_ (Eq.refl _); kernel_rfl
@[go_sem] theorem T33_bytes : T33.bytes = 16 := by refine Eq.trans ?_ (Eq.refl _); kernel_rfl
@[go_sem] theorem T33_want : T33.want = some 2 := by refine Eq.trans ?_ (Eq.refl _); kernel_rfl
@[go_sem] theorem T33_desc : T33.desc = .array 2 3 := by refine Eq.trans ?_ (Eq.refl _); kernel_rfl
@[go_sem] theorem T33_arr : T33.arr = some (2, 3) := by refine Eq.trans ?_ (Eq.refl _); kernel_rfl
@[go_sem] theorem T33_places : placesOf Tryd.prog T33 = some [(0, 1), (1, 1)] := by refine Eq.trans ?_ (Eq.refl _); kernel_rfl
@[go_sem] theorem T33_zero : T33.zero = some (.agg #[.int .i64 0, .int .i64 0]) := by refine Eq.trans ?_ (Eq.refl _); kernel_rfl
@[go_sem] theorem T33_zeroElem : zeroElem T33 = some (.agg [.int .i64 0, .int .i64 0]) := by refine Eq.trans ?_ (Eq.refl _); kernel_rfl
@[go_sem ↓] theorem T33_zs : (∃ z, T33.zero = some z ∧ z.cells.size = T33.size) = True := by
  refine eq_true ⟨_, T33_zero, ?_⟩
  kernel_rfl

/-- Type 42. -/
noncomputable def T42 : Ty := (tyOf Tryd.prog 42).getD ⟨false, 0, 0, none, .bool⟩
@[go_sem] theorem ty42 : tyOf Tryd.prog 42 = some T42 := by refine Eq.trans ?_ (Eq.refl _); kernel_rfl
@[go_sem] theorem T42_agg : T42.agg = false := by refine Eq.trans ?_ (Eq.refl _); kernel_rfl
@[go_sem] theorem T42_size : T42.size = 1 := by refine Eq.trans ?_ (Eq.refl _); kernel_rfl
@[go_sem] theorem T42_bytes : T42.bytes = 8 := by refine Eq.trans ?_ (Eq.refl _); kernel_rfl
@[go_sem] theorem T42_want : T42.want = none := by refine Eq.trans ?_ (Eq.refl _); kernel_rfl
@[go_sem] theorem T42_desc : T42.desc = .int .u64 := by refine Eq.trans ?_ (Eq.refl _); kernel_rfl
@[go_sem] theorem T42_arr : T42.arr = none := by refine Eq.trans ?_ (Eq.refl _); kernel_rfl
@[go_sem] theorem T42_zero : T42.zero = some (.int .u64 0) := by refine Eq.trans ?_ (Eq.refl _); kernel_rfl
@[go_sem] theorem T42_zeroD : zeroD T42 = some (.int .u64 0) := by refine Eq.trans ?_ (Eq.refl _); kernel_rfl
@[go_sem] theorem T42_zeroElem : zeroElem T42 = some (.int .u64 0) := by refine Eq.trans ?_ (Eq.refl _); kernel_rfl
@[go_sem ↓] theorem T42_zs : (∃ z, T42.zero = some z ∧ z.cells.size = T42.size) = True := by
  refine eq_true ⟨_, T42_zero, ?_⟩
  kernel_rfl

/-- Type 53. -/
noncomputable def T53 : Ty := (tyOf Tryd.prog 53).getD ⟨false, 0, 0, none, .bool⟩
@[go_sem] theorem ty53 : tyOf Tryd.prog 53 = some T53 := by refine Eq.trans ?_ (Eq.refl _); kernel_rfl
@[go_sem] theorem T53_agg : T53.agg = false := by refine Eq.trans ?_ (Eq.refl _); kernel_rfl
@[go_sem] theorem T53_size : T53.size = 1 := by refine Eq.trans ?_ (Eq.refl _); kernel_rfl
@[go_sem] theorem T53_bytes : T53.bytes = 8 := by refine Eq.trans ?_ (Eq.refl _); kernel_rfl
@[go_sem] theorem T53_want : T53.want = none := by refine Eq.trans ?_ (Eq.refl _); kernel_rfl
@[go_sem] theorem T53_desc : T53.desc = .int .u64 := by refine Eq.trans ?_ (Eq.refl _); kernel_rfl
@[go_sem] theorem T53_arr : T53.arr = none := by refine Eq.trans ?_ (Eq.refl _); kernel_rfl
@[go_sem] theorem T53_zero : T53.zero = some (.int .u64 0) := by refine Eq.trans ?_ (Eq.refl _); kernel_rfl
@[go_sem] theorem T53_zeroD : zeroD T53 = some (.int .u64 0) := by refine Eq.trans ?_ (Eq.refl _); kernel_rfl
@[go_sem] theorem T53_zeroElem : zeroElem T53 = some (.int .u64 0) := by refine Eq.trans ?_ (Eq.refl _); kernel_rfl
@[go_sem ↓] theorem T53_zs : (∃ z, T53.zero = some z ∧ z.cells.size = T53.size) = True := by
  refine eq_true ⟨_, T53_zero, ?_⟩
  kernel_rfl

/-- Type 54. -/
noncomputable def T54 : Ty := (tyOf Tryd.prog 54).getD ⟨false, 0, 0, none, .bool⟩
@[go_sem] theorem ty54 : tyOf Tryd.prog 54 = some T54 := by refine Eq.trans ?_ (Eq.refl _); kernel_rfl
@[go_sem] theorem T54_agg : T54.agg = true := by refine Eq.trans ?_ (Eq.refl _); kernel_rfl
@[go_sem] theorem T54_size : T54.size = 64 := by refine Eq.trans ?_ (Eq.refl _); kernel_rfl
@[go_sem] theorem T54_bytes : T54.bytes = 64 := by refine Eq.trans ?_ (Eq.refl _); kernel_rfl
@[go_sem] theorem T54_want : T54.want = some 64 := by refine Eq.trans ?_ (Eq.refl _); kernel_rfl
@[go_sem] theorem T54_desc : T54.desc = .array 64 5 := by refine Eq.trans ?_ (Eq.refl _); kernel_rfl
@[go_sem] theorem T54_arr : T54.arr = some (64, 5) := by refine Eq.trans ?_ (Eq.refl _); kernel_rfl
@[go_sem] theorem T54_zero : T54.zero = some (.agg (Array.replicate 64 (.int .u8 0))) := by refine Eq.trans ?_ (Eq.refl _); kernel_rfl

end Go.AM

