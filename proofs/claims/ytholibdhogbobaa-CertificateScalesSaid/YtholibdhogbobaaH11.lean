/- Own work over the model of the kit. -/
import Derived.Test.YtholibdhogbobaaH10
set_option linter.unusedSimpArgs false
set_option linter.unusedVariables false
namespace Go.AM
open Go

def cutQ (P : Program) (Γ : Nat → Contract) (all : Array Oper) (Q : Exit → S → Prop) (os : List Oper) : Exit → S → Prop := fun e σ => match e with
  | .normal => ∃ σ', Le σ σ' ∧ awpOps P Γ all Q os σ'
  | _ => False
section
variable {P : Program} {Γ : Nat → Contract} {c : Ctx}
theorem awpOps_cut (hΓ : OkG P Γ) {all : Array Oper} {Q : Exit → S → Prop} {l2 : List Oper} : ∀ (l : List Oper) (σ : S) (a : Act) (w : World), St c σ a w → awpOps P Γ all (cutQ P Γ all Q l2) l σ → wpList P all (lift c Q) (l ++ l2) a w
  | [], σ, a, w, hst, h => by
    obtain ⟨σ', h1, h2⟩ := h
    exact awpOps_sound hΓ l2 σ' a w (h1 c a w hst) h2
  | o :: os, σ, a, w, hst, h => by
    simp only [awpOps] at h
    rw [List.cons_append]
    unfold wpList
    rcases opg_sound hΓ (Q := lift c Q) hst h with ⟨hw, hwp⟩ | ⟨hw, σ', hst', hK⟩
    · rw [if_pos hw]
      refine .inl (Oper.wp_mono ?_ hwp)
      rintro a' w' ⟨σ', hst', hK⟩
      exact awpOps_cut hΓ os σ' a' w' hst' hK
    · rw [if_neg (by simp [hw])]
      exact awpOps_cut hΓ os σ' _ w hst' hK
theorem sem_cut {id : Nat} {ops : List Oper} {Q : Exit → S → Prop} {σ : S} (n : Nat) (hΓ : OkG P Γ) (h : awpOps P Γ ops.toArray (cutQ P Γ ops.toArray Q (ops.drop n)) (ops.take n) σ) : sem P (.region id ops.toArray false) Q σ := by
  intro c a w hst
  refine wp_region_list ?_
  have := awpOps_cut hΓ (ops.take n) σ a w hst h
  rwa [List.take_append_drop] at this
@[go_sem] theorem cutQ_normal {all : Array Oper} {Q : Exit → S → Prop} {os : List Oper} {σ : S} : cutQ P Γ all Q os .normal σ = ∃ σ', Le σ σ' ∧ awpOps P Γ all Q os σ' := Eq.trans rfl rfl
end
theorem le_normAt {s : List AV} {own : List Obj} {n0 : Nat} {mv : List Nat} (i : Nat) {v : AV} (h : (s.getD i .top).norm = v) : Le ⟨s, own, n0, mv⟩ ⟨s.set i v, own, n0, mv⟩ := by
  rintro c a w ⟨hd, hn, F, φ, h2, h3, h4⟩
  refine ⟨hd, hn, F, φ, h2, h3, ?_⟩
  have hv := R_norm (AV.Rs_get h4 i)
  rw [h] at hv
  have hset := AV.Rs_set h4 i v _ hv
  have hself : a.tmps.toList.set i (a.tmps.toList.getD i undef) = a.tmps.toList := by
    apply List.ext_getElem?
    intro k
    rw [List.getElem?_set]
    split
    · rename_i hk
      subst hk
      split
      · rename_i hlt
        simp [List.getD_eq_getElem?_getD, List.getElem?_eq_getElem hlt]
      · rename_i hge
        rw [List.getElem?_eq_none (by omega)]
    · rfl
  rw [hself] at hset
  exact hset
attribute [go_sem] List.take_succ_cons List.take_zero List.drop_succ_cons List.drop_zero
end Go.AM

