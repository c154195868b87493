/- PercpuChecks: for every cache and all numbers, New, Check and Count of percpu return what the reference returns, and the statement's call returns true and leaves its arguments as they were. No condition. -/
import Derived.Test.YteblpegdedojdaaWalks
import Derived.Test.YteblpegdedojdaaLibD
import Derived.Test.YteblpegdedojdaaRows
set_option linter.unusedSimpArgs false
set_option linter.unusedVariables false
namespace Go.AM
open Go Go.Proofs

abbrev awakeR : List D → AV → Prop := fun ds v => (ds, v) ∈ [(([] : List D), AV.dat (.bool true))]
theorem awake_ok : OkF Try.prog 10 (dataC awakeR) :=
  okF_eval mixed names 1000 _ (by intro x hx; simp only [List.mem_singleton] at hx; subst hx; exact awake_eval)
theorem awakeR_true : awakeR [] (.dat (.bool true)) := by simp [awakeR]

theorem want34 : wantT Try.prog 34 = none := by kernel_rfl
theorem want3 : wantT Try.prog 3 = none := by kernel_rfl

/-- What comes in: a list of numbers. -/
theorem ints_data {m : Nat} {d : D} (h : argT Try.prog (m + 2) 34 d) : ∃ l : List Int, d = .sl none (ints l) ∧ l.length ≤ maxLen ∧ ∀ n ∈ l, inR .i64 n := by
  obtain ⟨xs, rfl, hl, hx⟩ := arg_slice (e := 3) (by kernel_rfl) h
  rw [want3]
  obtain ⟨l, rfl, hr⟩ := list_of (.int .i64) (Q := fun n => inR .i64 n) (fun x hx' => arg_int (k := .i64) (by kernel_rfl) (hx x hx'))
  exact ⟨l, rfl, by simpa using hl, hr⟩

/-- A cache of any make. -/
theorem cpu_arg {m : Nat} {d : D} (h : argT Try.prog (m + 4) 24 d) : ∃ L : List (List Int), d = dC L := by
  obtain ⟨ds, rfl, hf⟩ := arg_fields (ts := [22]) (by kernel_rfl) h
  obtain ⟨a, b, rfl, ha, rfl⟩ := hf
  rw [dataT_slice (e := 34) (by kernel_rfl), want34] at ha
  obtain ⟨xs, rfl, _, hx⟩ := ha
  obtain ⟨L, rfl, _⟩ := list_of dInts (Q := fun _ => True) (fun x hx' => by
    obtain ⟨l, hl, _⟩ := ints_data (hx x hx')
    exact ⟨l, hl, trivial⟩)
  exact ⟨L, rfl⟩
theorem int_arg {m : Nat} {d : D} (h : argT Try.prog (m + 1) 3 d) : ∃ n : Int, d = .int .i64 n ∧ inR .i64 n := arg_int (by kernel_rfl) h

theorem few_small {L : List (List Int)} (h : fewB L = true) : Small L := by
  simp only [fewB, Bool.and_eq_true, decide_eq_true_eq, List.all_eq_true] at h
  exact ⟨h.1, fun l hl => by have := h.2 l hl; omega⟩
theorem few_of_len {L : List (List Int)} : True := trivial

def newL (z : Int) : List (List Int) := if z < 1 ∨ 6 < z then [] else List.replicate z.toNat []
def newE (z : Int) : Int := if z < 1 ∨ 6 < z then 1 else 0
theorem newR_of (z : Int) : newR [.int .i64 z] (.tup [.dat (.agg [.sl none ((newL z).map dInts)]), .dat (.int .i64 (newE z))]) := by
  refine ⟨z, rfl, ?_⟩
  unfold newL newE
  split <;> rfl
theorem newL_len (z : Int) : (newL z).length ≤ 6 := by
  unfold newL; split <;> simp; omega
theorem newL_nil (z : Int) : ∀ l ∈ newL z, l = [] := by
  unfold newL; split
  · simp
  · intro l hl; exact List.eq_of_mem_replicate hl

/-! The law PercpuChecks. -/
abbrev tabC : List (Nat × Contract) := [(9, dataC fewR), (10, dataC awakeR), (11, dataC newR), (12, dataC newR), (13, dataC sameR), (14, dataC checkR), (15, dataC checkR), (16, dataC countR), (17, dataC countR)]
theorem tabC_ok : OkG Try.prog (tbl tabC) := okG_cons few_ok (okG_cons awake_ok (okG_cons new_ok (okG_cons refNew_ok (okG_cons same_ok (okG_cons pcheck_ok (okG_cons rcheck_ok (okG_cons pcount_ok (okG_cons rcount_ok okG_nil))))))))
theorem pureC : PureFns (tbl tabC) [10, 13, 14, 15, 16, 17] := by
  rintro g args own v own' mv hg ⟨C, hm, hC⟩
  simp only [tabC, List.mem_cons, Prod.mk.injEq, List.not_mem_nil, or_false] at hm
  rcases hm with ⟨_, rfl⟩ | ⟨_, rfl⟩ | ⟨_, rfl⟩ | ⟨_, rfl⟩ | ⟨_, rfl⟩ | ⟨_, rfl⟩ | ⟨_, rfl⟩ | ⟨_, rfl⟩ | ⟨_, rfl⟩ <;> (obtain ⟨_, _, _, h1, h2, _⟩ := hC; exact ⟨h1, h2⟩)

def checksR (ds : List D) (v : AV) : Prop := ∃ L z i, ds = [dC L, .int .i64 z, .int .i64 i] ∧ v = .dat (.bool true)

set_option maxRecDepth 100000 in
theorem checks_ok : OkF Try.prog 3 (dataC checksR) := by
  refine okF_data Try.func3 rfl (by decide) ?_
  rintro ds v ⟨L, z, i, rfl, rfl⟩
  refine sem_of_awp (Γ := tbl tabC) tabC_ok _ _ _ ?_
  simp only [go_sem, Try.ntmps3, dC]
  refine call_data fewR (by simp) _ _ rfl ⟨L, rfl, rfl⟩ (.inl rfl) ?_
  cases hf : fewB L
  · simp only [go_sem, hf]
    refine call_data awakeR (by simp) _ _ rfl awakeR_true (.inl rfl) ?_
    simp only [go_sem]
    exact post_data (.inl rfl) [6] rfl trivial rfl
  · have hL := few_small hf
    simp only [go_sem, hf]
    have hlen := newL_len z
    have hnil := newL_nil z
    refine call_data newR (by simp) _ _ rfl (newR_of z) (.inl rfl) ?_
    simp only [go_sem]
    refine call_data newR (by simp) _ _ rfl (newR_of z) (.inl rfl) ?_
    simp only [go_sem]
    refine sem_draw (pf := [10, 13, 14, 15, 16, 17]) mixed tabC_ok pureC [0, 1, 2, 3, 4, 5, 6, 7, 8, 9, 10, 11, 12, 13, 14, 15, 16, 17, 18, 19, 20, 21, 22, 23, 24, 25, 26, 27, 28, 29] (by kernel_rfl) ?_
    simp only [go_sem]
    have hsame : sameR [.agg [.sl none ((newL z).map dInts)], .agg [.sl none ((newL z).map dInts)]] (.dat (.bool true)) :=
      ⟨newL z, newL z, by omega, fun l hl => by rw [hnil l hl]; simp, rfl, by simp⟩
    refine call_data sameR (by simp) _ _ rfl hsame (.inl rfl) ?_
    simp only [go_sem, decide_true, eq_self]
    refine call_data checkR (by simp) _ _ rfl ⟨L, z, hL, rfl, rfl⟩ (.inl rfl) ?_
    simp only [go_sem]
    refine call_data checkR (by simp) _ _ rfl ⟨L, z, hL, rfl, rfl⟩ (.inl rfl) ?_
    simp only [go_sem, decide_true, eq_self]
    refine call_data countR (by simp) _ _ rfl ⟨L, i, hL, rfl, rfl⟩ (.inl rfl) ?_
    simp only [go_sem]
    refine call_data countR (by simp) _ _ rfl ⟨L, i, hL, rfl, rfl⟩ (.inl rfl) ?_
    simp only [go_sem, decide_true, eq_self]
    refine call_data awakeR (by simp) _ _ rfl awakeR_true (.inl rfl) ?_
    simp only [go_sem]
    exact post_data (.inl rfl) [6] rfl trivial rfl
end Go.AM


namespace Go.Proofs.Yteblpegdedojdaa
open Go Go.AM Go.ChangeShapes Go.WideShapes Go.ChangeAt Go.RowKit

theorem own : ownKnob Try.prog.godebug = none := by kernel_rfl
theorem laidOut : laidOutB Try.prog = true := by kernel_rfl

theorem checks_law : LawAt Try.prog 3 9 Try.f3.params.toList := by
  intro xs hx
  have hx' : argsT Try.prog 9 [24, 3, 3] xs := hx
  obtain ⟨d0, r0, rfl, h0, hx1⟩ := hx'
  obtain ⟨d1, r1, rfl, h1, hx2⟩ := hx1
  obtain ⟨d2, r2, rfl, h2, rfl⟩ := hx2
  obtain ⟨L, rfl⟩ := cpu_arg h0
  obtain ⟨z, rfl, _⟩ := int_arg h1
  obtain ⟨i, rfl, _⟩ := int_arg h2
  exact ⟨checksR, checks_ok, L, z, i, rfl, rfl⟩

set_option maxRecDepth 100000 in
theorem checks_lifted (os : Os) (started : os.Started) (H : Type) (enc : TypeId × Value → H) :
    ReturnsInHanded {} Try.checked os 3 .any (Rows.percpuChecksSpec.pre6 enc Try.prog Try.f3 Rows.percpuChecksRow.domain false) (Rows.percpuChecksSpec.post enc Try.prog Try.f3 false true false false) :=
  law_lifted (C := Try.checked) (s := Rows.percpuChecksSpec) 9 own started (by kernel_rfl) Try.func3 4 (by kernel_rfl) (by kernel_rfl) (by kernel_rfl) rfl laidOut (by kernel_rfl) (by kernel_rfl)
    (fun H ds h => by
      have h' : ds.length = 3 := h
      match ds, h' with
      | [d1, d2, d3], _ => rfl)
    checks_law
    (ChangeSpec.witness6 (enc := enc) (C := Try.checked) false ⟨#[], #[.agg #[.slice none 0 0], .int .i64 0, .int .i64 0], []⟩ 8 (by kernel_rfl) (by kernel_rfl) (by kernel_rfl) (by kernel_rfl))

theorem percpuChecks_proved : Rows.PercpuChecksSaid :=
  OpenClaim.holds_of_wide 3 Try.f3 rfl rfl rfl rfl rfl rfl rfl ⟨rfl, rfl, rfl, rfl, rfl⟩ rfl rfl rfl rfl rfl (by kernel_rfl) Try.func3 (by kernel_rfl)
    (of_decide_eq_true (by kernel_rfl)) (by unfold Func.isWrapper; first | (rw [if_pos (by decide +kernel)]; kernel_rfl) | (rw [if_neg (by decide +kernel)]; exact ⟨rfl, rfl⟩))
    (fun os started H enc _ => checks_lifted os started H enc)
#print axioms percpuChecks_proved
end Go.Proofs.Yteblpegdedojdaa

