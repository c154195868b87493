/- Own work over the model of the kit. -/
import Derived.Test.YtholibdhogbobaaC4
import Derived.Scope
import Derived.Test.YtholibdhogbobaaC3
set_option linter.unusedSimpArgs false
set_option linter.unusedVariables false
namespace Go.AM
open Go

inductive Waits (ops : Array Oper) : Nat → Nat → Prop
  | one {i p : Nat} : Region.waitsFor .any ops i p = true → Waits ops i p
  | step {i q p : Nat} : Region.waitsFor .any ops i q = true → Waits ops q p → Waits ops i p

def depsOf (ops : Array Oper) (i : Nat) : List Nat := (List.range ops.size).filter fun p => Region.waitsFor .any ops i p
def ancT (ops : Array Oper) : Nat → List (List Nat)
  | 0 => []
  | n + 1 => ancT ops n ++ [let T := ancT ops n; let D := depsOf ops n; (List.range ops.size).filter fun p => D.contains p || D.any fun q => (T.getD q []).contains p]
def ancF (ops : Array Oper) : Nat → Nat → List (List Nat) → List (List Nat)
  | 0, _, T => T
  | k + 1, n, T => ancF ops k (n + 1) (T ++ [let D := depsOf ops n; (List.range ops.size).filter fun p => D.contains p || D.any fun q => (T.getD q []).contains p])
theorem ancF_eq (ops : Array Oper) : ∀ (k n : Nat), ancF ops k n (ancT ops n) = ancT ops (n + k)
  | 0, n => rfl
  | k + 1, n => by
    unfold ancF
    have := ancF_eq ops k (n + 1)
    rw [show n + (k + 1) = n + 1 + k by omega, ← this]
    rfl
theorem ancT_length (ops : Array Oper) : ∀ n, (ancT ops n).length = n
  | 0 => rfl
  | n + 1 => by simp [ancT, ancT_length ops n]
theorem depsOf_mem {ops : Array Oper} {i p : Nat} (h : p ∈ depsOf ops i) : Region.waitsFor .any ops i p = true := (List.mem_filter.1 h).2
theorem ancT_waits {ops : Array Oper} : ∀ (n i p : Nat), p ∈ (ancT ops n).getD i [] → Waits ops i p
  | 0, i, p, h => by simp [ancT] at h
  | n + 1, i, p, h => by
    have hl := ancT_length ops n
    rcases Nat.lt_or_ge i n with hi | hi
    · refine ancT_waits n i p ?_
      simp only [ancT, List.getD_eq_getElem?_getD] at h ⊢
      rwa [List.getElem?_append_left (by omega)] at h
    · simp only [ancT, List.getD_eq_getElem?_getD] at h
      rw [List.getElem?_append_right (by omega), hl] at h
      cases hk : i - n with
      | succ k => rw [hk] at h; simp at h
      | zero =>
        have hin : i = n := by omega
        subst hin
        rw [hk] at h
        simp only [List.getElem?_cons_zero, Option.getD_some, List.mem_filter, Bool.or_eq_true, List.any_eq_true, List.contains_eq_mem, decide_eq_true_eq] at h
        rcases h.2 with h | ⟨q, h1, h2⟩
        · exact .one (depsOf_mem h)
        · refine .step (depsOf_mem h1) (ancT_waits i q p ?_)
          simpa [List.getD_eq_getElem?_getD] using h2

section
variable {P : Program} {Γ : Nat → Contract} {own : List Obj} {ko : Nat}

def chainK (P : Program) (Γ : Nat → Contract) (ops : Array Oper) (ko : Nat) (ms : List Nat) (Q : Exit → S → Prop) : List Nat → S → Prop
  | [], σ => Q .normal σ
  | i :: r, σ => match ops[i]? with | some o => opk P Γ ops ko (ms.contains i) o (chainK P Γ ops ko ms Q r) σ | none => False

def swapOkK (pf mf ms : List Nat) (ops : Array Oper) (p i : Nat) : Bool :=
  match ops[p]?, ops[i]? with
  | some op, some oi => op.apart ops oi && ((vlike pf op && vlike pf oi) || (isV op.op && (isMk mf oi || isLit oi)) || (isV op.op && isQ op && ms.contains p && isApp oi && ms.contains i))
  | _, _ => false

def pairsOkK (T : List (List Nat)) (pf mf ms : List Nat) (ops : Array Oper) : List Nat → Bool
  | [] => true
  | p :: r => (r.all fun i => (T.getD i []).contains p || swapOkK pf mf ms ops p i) && pairsOkK T pf mf ms ops r

def drawOkK (pf mf ms : List Nat) (ops : Array Oper) (L : List Nat) : Bool := pairsOkK (ancF ops ops.size 0 []) pf mf ms ops L && backOk ops && edgesOk ops && allOf ops.size L && nodupB L

theorem bubbleK {pf mf ms : List Nat} (hpf : PureFns Γ pf) (hmf : MakeFns Γ mf) {ops : Array Oper} {Q : Exit → S → Prop} {i : Nat} {oi : Oper} (hi : ops[i]? = some oi) : ∀ (pre post : List Nat) (σ : S), (∀ p ∈ pre, swapOkK pf mf ms ops p i = true) → chainK P Γ ops ko ms Q (pre ++ i :: post) σ →
    opk P Γ ops ko (ms.contains i) oi (chainK P Γ ops ko ms Q (pre ++ post)) σ
  | [], post, σ, _, h => by
    simp only [List.nil_append, chainK, hi] at h ⊢
    exact h
  | p :: pre, post, σ, hs, h => by
    have e2 : ∀ (op : Oper) (l : List Nat), ops[p]? = some op → chainK P Γ ops ko ms Q (p :: l) = opk P Γ ops ko (ms.contains p) op (chainK P Γ ops ko ms Q l) := fun op l hop => by funext σ; simp only [chainK, hop]
    simp only [List.cons_append] at h ⊢
    have hp := hs p (by simp)
    unfold swapOkK at hp
    rw [hi] at hp
    cases hop : ops[p]? with
    | none => simp only [chainK, hop] at h
    | some op =>
      rw [e2 op _ hop] at h ⊢
      simp only [hop, Bool.and_eq_true, Bool.or_eq_true] at hp
      obtain ⟨hap, hk⟩ := hp
      have hvp : vlike pf op = true := by
        rcases hk with (hk | hk) | hk
        · exact hk.1
        · simp [vlike, hk.1]
        · simp [vlike, hk.1.1.1.1]
      have h' : opk P Γ ops ko (ms.contains p) op (opk P Γ ops ko (ms.contains i) oi (chainK P Γ ops ko ms Q (pre ++ post))) σ :=
        ⟨h.1, chain_mono hpf hvp (fun σ' hσ' => bubbleK hpf hmf hi pre post σ' (fun q hq => hs q (by simp [hq])) hσ') h.2⟩
      rcases hk with (hk | hk) | hk
      · exact swap_vvk hpf hk.1 hk.2 hap h'
      · refine swap_vmk hpf hk.1 hap (fun K σ' hh => ?_) h'
        rcases hk.2 with hk2 | hk2
        · exact mk_det hmf hk2 hh
        · exact lit_det hk2 hh
      · have hmp := hk.1.1.2
        have hmi := hk.2
        rw [hmp, hmi] at h'
        rw [hmp, hmi]
        exact swap_va hpf hk.1.1.1.1 hk.1.1.1.2 hk.1.2 hap h'

theorem pairs_frontK {T : List (List Nat)} {pf mf ms : List Nat} {ops : Array Oper} : ∀ {L : List Nat}, pairsOkK T pf mf ms ops L = true → ∀ pre i post, L = pre ++ i :: post → ∀ p ∈ pre, p ∈ T.getD i [] ∨ swapOkK pf mf ms ops p i = true
  | [], _, pre, i, post, e, p, hp => by cases pre <;> cases e
  | q :: r, h, pre, i, post, e, p, hp => by
    simp only [pairsOkK, Bool.and_eq_true] at h
    cases pre with
    | nil => cases hp
    | cons a pre =>
      simp only [List.cons_append, List.cons.injEq] at e
      obtain ⟨rfl, e⟩ := e
      rcases List.mem_cons.1 hp with rfl | hp
      · have := List.all_eq_true.1 h.1 i (by rw [e]; simp)
        simpa using this
      · exact pairs_frontK h.2 pre i post e p hp

theorem pairs_filterK {T : List (List Nat)} {pf mf ms : List Nat} {ops : Array Oper} (f : Nat → Bool) : ∀ {L : List Nat}, pairsOkK T pf mf ms ops L = true → pairsOkK T pf mf ms ops (L.filter f) = true
  | [], _ => rfl
  | q :: r, h => by
    simp only [pairsOkK, Bool.and_eq_true] at h
    simp only [List.filter_cons]
    split
    · simp only [pairsOkK, Bool.and_eq_true]
      exact ⟨List.all_eq_true.2 fun i hi => List.all_eq_true.1 h.1 i (List.mem_filter.1 hi).1, pairs_filterK f h.2⟩
    · exact pairs_filterK f h.2

def Closed (ops : Array Oper) (listed : Array Bool) : Prop := ∀ j p, Region.waitsFor .any ops j p = true → listed.getD j false = true → listed.getD p false = true
theorem waits_listed {ops : Array Oper} {listed : Array Bool} (hcl : Closed ops listed) : ∀ {i p : Nat}, Waits ops i p → (∀ q, Region.waitsFor .any ops i q = true → listed.getD q false = true) → listed.getD p false = true := by
  intro i p h
  induction h with
  | one h => intro hr; exact hr _ h
  | step h1 h2 ih => intro hr; exact ih (fun r hr' => hcl _ r hr' (hr _ h1))

theorem wpAny_of_chainK {pf mf ms : List Nat} (hΓ : OkG P Γ) (hpf : PureFns Γ pf) (hmf : MakeFns Γ mf) {ops : Array Oper} {Q : Exit → S → Prop} {L : List Nat} (hok : drawOkK pf mf ms ops L = true) {c : Ctx} : ∀ (fuel : Nat) (listed : Array Bool) (σ : S) (a : Act) (w : World), listed.size = ops.size → Closed ops listed →
    (L.filter fun i => !listed.getD i true).length ≤ fuel → St c σ a w → chainK P Γ ops ko ms Q (L.filter fun i => !listed.getD i true) σ → wpAny P .any ops (lift c Q) fuel listed a w := by
  simp only [drawOkK, Bool.and_eq_true] at hok
  obtain ⟨⟨⟨⟨hpairs, hback⟩, hedges⟩, hall⟩, hnd⟩ := hok
  have hnodup := nodup_of hnd
  simp only [allOf, Bool.and_eq_true, List.all_eq_true, List.mem_range, List.contains_eq_mem, decide_eq_true_eq] at hall
  obtain ⟨⟨hmem, hlen⟩, hlt⟩ := hall
  have ready : ∀ (listed : Array Bool), listed.size = ops.size → Region.ready .any ops listed = [] → (L.filter fun i => !listed.getD i true) = [] := by
    intro listed hsz hr
    rw [List.filter_eq_nil_iff]
    have key : ∀ i, i < ops.size → listed.getD i true = true := by
      intro i
      induction i using Nat.strongRecOn with
      | _ i ih =>
        intro hlt'
        cases hx : listed.getD i true with
        | true => rfl
        | false =>
          exfalso
          have : i ∈ Region.ready .any ops listed := by
            refine mem_ready.2 ⟨hx, ops[i], Array.getElem?_eq_getElem hlt', fun e he hb => ?_⟩
            have hw : Region.waitsFor .any ops i e.on = true := by
              simp only [Region.waitsFor, Array.getElem?_eq_getElem hlt', Array.any_eq_true']
              exact ⟨e, he, by simp [hb]⟩
            have hon : e.on < ops.size := by
              have h1 := Array.all_eq_true'.1 hedges ops[i] (Array.getElem_mem hlt')
              have h2 := Array.all_eq_true'.1 h1 e he
              simpa [hb] using h2
            have hlt2 : e.on < i := by
              have h1 := List.all_eq_true.1 hback i (List.mem_range.2 hlt')
              have h2 := List.all_eq_true.1 h1 e.on (List.mem_range.2 hon)
              simpa [hw] using h2
            have h3 := ih e.on hlt2 hon
            have h4 : e.on < listed.size := by omega
            simp [h4] at h3 ⊢
            exact h3
          rw [hr] at this
          cases this
    intro i hi
    simp only [Bool.not_eq_true', Bool.not_eq_false]
    exact key i (hlt i hi)
  intro fuel
  induction fuel with
  | zero =>
    intro listed σ a w hsz hcl hf hst hch
    have h0 : (L.filter fun i => !listed.getD i true) = [] := List.eq_nil_of_length_eq_zero (by omega)
    rw [h0] at hch
    refine ⟨?_, ⟨σ, hst, hch⟩⟩
    rw [List.eq_nil_iff_forall_not_mem]
    intro i hi
    obtain ⟨g1, o, g2, _⟩ := mem_ready.1 hi
    have hi' : i < ops.size := (Array.getElem?_eq_some_iff.1 g2).1
    have : i ∈ (L.filter fun i => !listed.getD i true) := List.mem_filter.2 ⟨hmem i hi', by simp [g1]⟩
    rw [h0] at this
    cases this
  | succ fuel ih =>
    intro listed σ a w hsz hcl hf hst hch
    refine ⟨fun hr => ?_, fun i hi => ?_⟩
    · rw [ready listed hsz hr] at hch
      exact ⟨σ, hst, hch⟩
    · obtain ⟨g1, o, g2, g3⟩ := mem_ready.1 hi
      have hi' : i < ops.size := (Array.getElem?_eq_some_iff.1 g2).1
      obtain ⟨pre, post, e1, e2⟩ := filter_erase hnodup (hmem i hi') (f := fun i => !listed.getD i true) (by simp [g1])
      have hfr := pairs_frontK (pairs_filterK (fun i => !listed.getD i true) hpairs) pre i post e1
      rw [e1] at hch
      have hdirect : ∀ q, Region.waitsFor .any ops i q = true → listed.getD q false = true := fun q h => by
        simp only [Region.waitsFor, g2, Array.any_eq_true', Bool.and_eq_true, beq_iff_eq] at h
        obtain ⟨e, he, hb, hon⟩ := h
        rw [← hon]; exact g3 e he hb
      have hcl' : Closed ops (listed.setIfInBounds i true) := fun j p hw hj => by
        have mono : ∀ q, listed.getD q false = true → (listed.setIfInBounds i true).getD q false = true := fun q hq => by
          by_cases e : i = q
          · subst e; simp [hsz, hi']
          · simpa [Array.getElem?_setIfInBounds_ne e] using hq
        by_cases e : i = j
        · subst e; exact mono p (hdirect p hw)
        · have hj' : listed.getD j false = true := by simpa [Array.getElem?_setIfInBounds_ne e] using hj
          exact mono p (hcl j p hw hj')
      have hb := bubbleK hpf hmf g2 pre post σ (fun p hp => by
        rcases hfr p hp with h | h
        · exfalso
          have hpm : p ∈ (L.filter fun i => !listed.getD i true) := by rw [e1]; simp [hp]
          have hun := (List.mem_filter.1 hpm).2
          have hw : Waits ops i p := ancT_waits ops.size i p (by
            have e := ancF_eq ops ops.size 0
            rw [Nat.zero_add] at e
            rw [← e]; exact h)
          have hl := waits_listed hcl hw hdirect
          have : listed.getD p true = false := by simpa using hun
          rw [getD_both this] at hl
          cases hl
        · exact h) hch
      unfold wpOp
      simp only [g2]
      have hnext : (L.filter fun j => !(listed.setIfInBounds i true).getD j true) = pre ++ post := by
        rw [← e2]
        refine List.filter_congr fun j hj => ?_
        have hj' := hlt j hj
        by_cases e : i = j
        · subst e
          simp [hsz, hi']
        · have e' : ¬ (j = i) := fun h => e h.symm
          simp [Array.getElem?_setIfInBounds_ne e, e']
      have hlen' : (L.filter fun j => !(listed.setIfInBounds i true).getD j true).length ≤ fuel := by
        rw [hnext]
        rw [e1] at hf
        simp only [List.length_append, List.length_cons] at hf ⊢
        omega
      rcases opg_sound hΓ (Q := lift c Q) hst hb.2 with ⟨hw, hwp⟩ | ⟨hw, σ', hst', hK⟩
      · rw [if_pos hw]
        refine .inl (Oper.wp_mono ?_ hwp)
        rintro a' w' ⟨σ', hst', hK⟩
        exact ih _ σ' a' w' (by simp [hsz]) hcl' hlen' hst' (by rw [hnext]; exact hK)
      · rw [if_neg (by simp [hw])]
        exact ih _ σ' _ w (by simp [hsz]) hcl' hlen' hst' (by rw [hnext]; exact hK)

theorem sem_drawK {pf mf ms : List Nat} (hm : P.follows .mixedOrders = true) (hΓ : OkG P Γ) (hpf : PureFns Γ pf) (hmf : MakeFns Γ mf) {id : Nat} {ops : Array Oper} {Q : Exit → S → Prop} {σ : S} (L : List Nat) (hok : drawOkK pf mf ms ops L = true)
    (h : chainK P Γ ops ko ms Q L σ) : sem P (.region id ops true) Q σ := by
  intro c a w hst
  refine wp_region_any hm ?_
  have hst' : St c σ a { w with drawn := w.drawn + 1 } := by
    obtain ⟨hd, hn, F, φ, h2, h3, h4⟩ := hst
    refine ⟨hd, hn, F, φ, ⟨h2.sub, ⟨h2.ext.os, h2.ext.tape, h2.ext.output, h2.ext.size, h2.ext.same⟩, h2.keep, h2.rest, h2.orig, h2.frsh⟩, h3.drew, ?_⟩
    exact AV.Rs_mono (fun _ h => h) same_drew (fun _ _ h => h) _ _ h4
  have hf : (L.filter fun i => !(Array.replicate ops.size false).getD i true) = L := by
    rw [List.filter_eq_self]
    intro i hi
    simp only [drawOkK, Bool.and_eq_true, allOf, List.all_eq_true, decide_eq_true_eq] at hok
    have := hok.1.2.2 i hi
    simp [this]
  refine wpAny_of_chainK hΓ hpf hmf hok ops.size _ σ a _ (by simp) (fun j p _ hj => by simp only [Array.getD_eq_getD_getElem?, Array.getElem?_replicate] at hj; split at hj <;> cases hj) ?_ hst' (by rw [hf]; exact h)
  rw [hf]
  simp only [drawOkK, Bool.and_eq_true, allOf, decide_eq_true_eq] at hok
  omega

end
end Go.AM

namespace Go.AM
open Go
section
variable {P : Program} {Γ : Nat → Contract} {all : Array Oper} {Q : Exit → S → Prop} {i ko : Nat} {r ms : List Nat} {s : List AV} {own : List Obj} {n : Nat} {m : List Nat} {dst : Option Tmp} {ty : TypeId} {pos : String} {af : Array Edge} {gd : Option (Nat × Bool)}
@[go_sem] theorem chainK_nil : chainK P Γ all ko ms Q [] ⟨s, own, n, m⟩ = Q .normal ⟨s, own, n, m⟩ := Eq.trans rfl rfl
@[go_sem] theorem chainK_go : chainK P Γ all ko ms Q (i :: r) ⟨s, own, n, m⟩ = (match all[i]? with | some o => ((ms.contains i = true → condA ko o s) ∧ opg P Γ all o (chainK P Γ all ko ms Q r) ⟨s, own, n, m⟩) | none => False) := Eq.trans rfl rfl
@[go_sem] theorem condA_call {c : Call} : condA ko ⟨dst, .call c, ty, pos, af, gd⟩ s = (match c.args.toList with | [x, _] => (match ev s x with | .sl o' _ _ => o' = ko | _ => False) | _ => False) := Eq.trans rfl rfl
@[go_sem] theorem condA_load {t : TypeId} {x : Operand} : condA ko ⟨dst, .load t x, ty, pos, af, gd⟩ s = (match ev s x with | .ptr o' _ _ => o' ≠ ko | .rptr _ _ => True | _ => False) := Eq.trans rfl rfl
@[go_sem] theorem condA_fieldAddr {t : TypeId} {x : Operand} {f : Nat} : condA ko ⟨dst, .fieldAddr t x f, ty, pos, af, gd⟩ s = (match ev s x with | .ptr o' _ _ => o' ≠ ko | .rptr _ _ => True | _ => False) := Eq.trans rfl rfl
@[go_sem] theorem condA_indexAddr {t : TypeId} {x y : Operand} : condA ko ⟨dst, .indexAddr t x y, ty, pos, af, gd⟩ s = ((match ev s x with | .ptr o' _ _ => o' ≠ ko | .sl o' _ _ => o' ≠ ko | .dat _ => True | _ => False) ∧ (match ev s y with | .dat _ => True | _ => False)) := Eq.trans rfl rfl
@[go_sem] theorem condA_move {x : Operand} : condA ko ⟨dst, .move x, ty, pos, af, gd⟩ s = True := Eq.trans rfl rfl
@[go_sem] theorem condA_assign {x : Operand} : condA ko ⟨dst, .assign x, ty, pos, af, gd⟩ s = True := Eq.trans rfl rfl
end
end Go.AM

namespace Go.AM
open Go
section
variable {P : Program} {t : TypeId} {K : AV → Prop} {a b : Int}
@[go_sem] theorem bin_addu : binTop P .add t (.dat (.int .u64 a)) (.dat (.int .u64 b)) K = K (.dat (.int .u64 (IntKind.u64.wrap (a + b)))) := by simp [binTop, eqOk, eqTy, binw, intw, fitw, isSigned]
@[go_sem] theorem bin_subu : binTop P .sub t (.dat (.int .u64 a)) (.dat (.int .u64 b)) K = K (.dat (.int .u64 (IntKind.u64.wrap (a - b)))) := by simp [binTop, eqOk, eqTy, binw, intw, fitw, isSigned]
@[go_sem] theorem bin_mulu : binTop P .mul t (.dat (.int .u64 a)) (.dat (.int .u64 b)) K = K (.dat (.int .u64 (IntKind.u64.wrap (a * b)))) := by simp [binTop, eqOk, eqTy, binw, intw, fitw, isSigned]
@[go_sem] theorem un_negu : unw .neg (.dat (.int .u64 a)) K = K (.dat (.int .u64 (IntKind.u64.wrap (0 - a)))) := by simp [unw, fitw, isSigned]
@[go_sem] theorem un_xoru : unw .xor (.dat (.int .u64 a)) K = K (.dat (.int .u64 (bitsV .xor .u64 IntKind.u64.max a))) := by simp [unw, IntKind.signed]
@[go_sem] theorem isS_u64 : isSigned .u64 = false := Eq.trans rfl rfl
@[go_sem] theorem isS_u8 : isSigned .u8 = false := Eq.trans rfl rfl
@[go_sem] theorem isS_i64 : isSigned .i64 = true := Eq.trans rfl rfl
@[go_sem] theorem isS_i32 : isSigned .i32 = true := Eq.trans rfl rfl
@[go_sem] theorem isS_u32 : isSigned .u32 = false := Eq.trans rfl rfl
@[go_sem] theorem eqTy_slD {τ : Ty} {ag : Option Nat} {xs : List D} : eqTy (some τ) (.dat (.sl ag xs)) = (match τ.desc with | .slice _ => true | _ => false) := Eq.trans rfl rfl
@[go_sem] theorem eqTy_slO {τ : Ty} {o i n : Nat} : eqTy (some τ) (.sl o i n) = (match τ.desc with | .slice _ => true | _ => false) := Eq.trans rfl rfl
@[go_sem] theorem eqTy_nils {τ : Ty} : eqTy (some τ) .nils = (match τ.desc with | .slice _ => true | _ => false) := Eq.trans rfl rfl
@[go_sem] theorem bin_eqlN {ag : Option Nat} {xs : List D} : binTop P .eql t (.dat (.sl ag xs)) .nils K = (eqTy (tyOf P t) (.dat (.sl ag xs)) = true ∧ xs ≠ [] ∧ K (.dat (.bool false))) := Eq.trans rfl rfl
@[go_sem] theorem bin_neqN {ag : Option Nat} {xs : List D} : binTop P .neq t (.dat (.sl ag xs)) .nils K = (eqTy (tyOf P t) (.dat (.sl ag xs)) = true ∧ xs ≠ [] ∧ K (.dat (.bool true))) := Eq.trans rfl rfl
@[go_sem] theorem bin_eqlO {o i n : Nat} : binTop P .eql t (.sl o i n) .nils K = (eqTy (tyOf P t) (.sl o i n) = true ∧ 0 < n ∧ K (.dat (.bool false))) := Eq.trans rfl rfl
@[go_sem] theorem bin_neqO {o i n : Nat} : binTop P .neq t (.sl o i n) .nils K = (eqTy (tyOf P t) (.sl o i n) = true ∧ 0 < n ∧ K (.dat (.bool true))) := Eq.trans rfl rfl
@[go_sem] theorem bin_eqlNN : binTop P .eql t .nils .nils K = (eqTy (tyOf P t) .nils = true ∧ K (.dat (.bool true))) := Eq.trans rfl rfl
@[go_sem] theorem bin_neqNN : binTop P .neq t .nils .nils K = (eqTy (tyOf P t) .nils = true ∧ K (.dat (.bool false))) := Eq.trans rfl rfl
end

def forkw (P : Program) (o : Oper) (K : S → Prop) (σ : S) : Prop :=
  match o.op with
  | .binOp op t x (.const (.slice none 0 0)) _ => (op = .eql ∨ op = .neq) ∧ (∃ ag, ev σ.slots x = .dat (.sl ag [])) ∧ (∃ e, P.underlying t = some (.slice e)) ∧ ∀ b : Bool, K (σ.put o.dst (.dat (.bool b)))
  | _ => False

def awpOpsF (P : Program) (Γ : Nat → Contract) (all : Array Oper) (Q : Exit → S → Prop) : List Oper → S → Prop
  | [], σ => Q .normal σ
  | o :: os, σ => (o.guard = none ∧ forkw P o (awpOpsF P Γ all Q os) σ) ∨ opg P Γ all o (awpOpsF P Γ all Q os) σ

section
variable {P : Program} {Γ : Nat → Contract} {c : Ctx}

end
end Go.AM

namespace Go.AM
open Go

theorem le_dead {s : List AV} {own : List Obj} {n0 : Nat} {mv : List Nat} (o : Nat) : Le ⟨s, own, n0, mv⟩ ⟨s, own.set o .dead, n0, mv⟩ := by
  rintro c a w ⟨hd, hn, F, φ, h2, h3, h4⟩
  refine ⟨hd, hn, F, φ, h2, { h3 with rep := fun o' obj ho' => ?_, out := fun o' ho' => h3.out o' (by simpa using ho') }, h4⟩
  simp only at ho'
  rw [List.getElem?_set] at ho'
  by_cases e : o = o'
  · subst e
    split at ho'
    · split at ho'
      · cases ho'
        cases φ o <;> simp only [ObjR]
      · cases ho'
    · rename_i h; exact (h rfl).elim
  · simp only [e, if_false] at ho'
    exact h3.rep o' obj ho'
end Go.AM

namespace Go.AM
open Go

section
variable {P : Program} {Γ : Nat → Contract} {ob : Nat}

theorem wpAny_of_chainX {pf mf ms : List Nat} (hΓ : OkG P Γ) (hpf : PureFns Γ pf) (hmf : MakeFns Γ mf) {ops : Array Oper} {Q : Exit → S → Prop} {L : List Nat} (hback : backOk ops = true) (hedges : edgesOk ops = true) (hall : allOf ops.size L = true) (hnd : nodupB L = true) {c : Ctx} : ∀ (fuel : Nat) (listed : Array Bool) (σ : S) (a : Act) (w : World), listed.size = ops.size → pairsOkM pf mf ms ops (L.filter fun i => !listed.getD i true) = true →
    (L.filter fun i => !listed.getD i true).length ≤ fuel → St c σ a w → chainM P Γ ops ob ms Q (L.filter fun i => !listed.getD i true) σ → wpAny P .any ops (lift c Q) fuel listed a w := by
  have hnodup := nodup_of hnd
  simp only [allOf, Bool.and_eq_true, List.all_eq_true, List.mem_range, List.contains_eq_mem, decide_eq_true_eq] at hall
  obtain ⟨⟨hmem, hlen⟩, hlt⟩ := hall
  have ready : ∀ (listed : Array Bool), listed.size = ops.size → Region.ready .any ops listed = [] → (L.filter fun i => !listed.getD i true) = [] := by
    intro listed hsz hr
    rw [List.filter_eq_nil_iff]
    have key : ∀ i, i < ops.size → listed.getD i true = true := by
      intro i
      induction i using Nat.strongRecOn with
      | _ i ih =>
        intro hlt'
        cases hx : listed.getD i true with
        | true => rfl
        | false =>
          exfalso
          have : i ∈ Region.ready .any ops listed := by
            refine mem_ready.2 ⟨hx, ops[i], Array.getElem?_eq_getElem hlt', fun e he hb => ?_⟩
            have hw : Region.waitsFor .any ops i e.on = true := by
              simp only [Region.waitsFor, Array.getElem?_eq_getElem hlt', Array.any_eq_true']
              exact ⟨e, he, by simp [hb]⟩
            have hon : e.on < ops.size := by
              have h1 := Array.all_eq_true'.1 hedges ops[i] (Array.getElem_mem hlt')
              have h2 := Array.all_eq_true'.1 h1 e he
              simpa [hb] using h2
            have hlt2 : e.on < i := by
              have h1 := List.all_eq_true.1 hback i (List.mem_range.2 hlt')
              have h2 := List.all_eq_true.1 h1 e.on (List.mem_range.2 hon)
              simpa [hw] using h2
            have h3 := ih e.on hlt2 hon
            have h4 : e.on < listed.size := by omega
            simp [h4] at h3 ⊢
            exact h3
          rw [hr] at this
          cases this
    intro i hi
    simp only [Bool.not_eq_true', Bool.not_eq_false]
    exact key i (hlt i hi)
  intro fuel
  induction fuel with
  | zero =>
    intro listed σ a w hsz hpairs hf hst hch
    have h0 : (L.filter fun i => !listed.getD i true) = [] := List.eq_nil_of_length_eq_zero (by omega)
    rw [h0] at hch
    refine ⟨?_, ⟨σ, hst, hch⟩⟩
    rw [List.eq_nil_iff_forall_not_mem]
    intro i hi
    obtain ⟨g1, o, g2, _⟩ := mem_ready.1 hi
    have hi' : i < ops.size := (Array.getElem?_eq_some_iff.1 g2).1
    have : i ∈ (L.filter fun i => !listed.getD i true) := List.mem_filter.2 ⟨hmem i hi', by simp [g1]⟩
    rw [h0] at this
    cases this
  | succ fuel ih =>
    intro listed σ a w hsz hpairs hf hst hch
    refine ⟨fun hr => ?_, fun i hi => ?_⟩
    · rw [ready listed hsz hr] at hch
      exact ⟨σ, hst, hch⟩
    · obtain ⟨g1, o, g2, g3⟩ := mem_ready.1 hi
      have hi' : i < ops.size := (Array.getElem?_eq_some_iff.1 g2).1
      obtain ⟨pre, post, e1, e2⟩ := filter_erase hnodup (hmem i hi') (f := fun i => !listed.getD i true) (by simp [g1])
      have hfr := pairs_frontM hpairs pre i post e1
      rw [e1] at hch
      have hb := bubbleM hpf hmf g2 pre post σ (fun p hp => by
        rcases hfr p hp with h | h
        · exfalso
          have hpm : p ∈ (L.filter fun i => !listed.getD i true) := by rw [e1]; simp [hp]
          have hun := (List.mem_filter.1 hpm).2
          simp only [Region.waitsFor, g2, Array.any_eq_true', Bool.and_eq_true, beq_iff_eq] at h
          obtain ⟨e, he, hb, hon⟩ := h
          have hl := g3 e he hb
          rw [hon] at hl
          have : listed.getD p true = false := by simpa using hun
          rw [getD_both this] at hl
          cases hl
        · exact h) hch
      unfold wpOp
      simp only [g2]
      have hnext : (L.filter fun j => !(listed.setIfInBounds i true).getD j true) = pre ++ post := by
        rw [← e2]
        refine List.filter_congr fun j hj => ?_
        have hj' := hlt j hj
        by_cases e : i = j
        · subst e
          simp [hsz, hi']
        · have e' : ¬ (j = i) := fun h => e h.symm
          simp [Array.getElem?_setIfInBounds_ne e, e']
      have hpairs' : pairsOkM pf mf ms ops (L.filter fun j => !(listed.setIfInBounds i true).getD j true) = true := by
        have e3 : (L.filter fun j => !(listed.setIfInBounds i true).getD j true) = (L.filter fun j => !listed.getD j true).filter (fun j => decide (j ≠ i)) := by
          rw [List.filter_filter]
          refine List.filter_congr fun j hj => ?_
          by_cases e : i = j
          · subst e
            have hj' := hlt i hj
            simp [hsz, hj']
          · have e' : ¬ (j = i) := fun h => e h.symm
            simp [Array.getElem?_setIfInBounds_ne e, e']
        rw [e3]
        exact pairs_filterM _ hpairs
      have hlen' : (L.filter fun j => !(listed.setIfInBounds i true).getD j true).length ≤ fuel := by
        rw [hnext]
        rw [e1] at hf
        simp only [List.length_append, List.length_cons] at hf ⊢
        omega
      rcases opg_sound hΓ (Q := lift c Q) hst hb.2 with ⟨hw, hwp⟩ | ⟨hw, σ', hst', hK⟩
      · rw [if_pos hw]
        refine .inl (Oper.wp_mono ?_ hwp)
        rintro a' w' ⟨σ', hst', hK⟩
        exact ih _ σ' a' w' (by simp [hsz]) hpairs' hlen' hst' (by rw [hnext]; exact hK)
      · rw [if_neg (by simp [hw])]
        exact ih _ σ' _ w (by simp [hsz]) hpairs' hlen' hst' (by rw [hnext]; exact hK)


def pairsOkX (x : Nat) (pf mf ms : List Nat) (ops : Array Oper) : List Nat → Bool
  | [] => true
  | p :: r => (r.all fun i => Region.waitsFor .any ops i p || swapOkM pf mf ms ops p i || (p == x)) && pairsOkX x pf mf ms ops r

def drawOkB (pf mf ms : List Nat) (ops : Array Oper) (pre : List Nat) (x y : Nat) (r1 r2 : List Nat) : Bool :=
  (pre.all fun p => match ops[p]? with | some o => vlike pf o | none => false) && pairsOkX x pf mf ms ops (pre ++ x :: r1) && pairsOkX y pf mf ms ops (pre ++ y :: r2) && backOk ops && edgesOk ops &&
    allOf ops.size (pre ++ x :: r1) && nodupB (pre ++ x :: r1) && allOf ops.size (pre ++ y :: r2) && nodupB (pre ++ y :: r2) && (r1.all fun i => i == y || Region.waitsFor .any ops i x || Region.waitsFor .any ops i y)

theorem pairsX_filter {x : Nat} {pf mf ms : List Nat} {ops : Array Oper} {f : Nat → Bool} (hx : f x = false) : ∀ {L : List Nat}, pairsOkX x pf mf ms ops L = true → pairsOkM pf mf ms ops (L.filter f) = true
  | [], _ => rfl
  | q :: r, h => by
    simp only [pairsOkX, Bool.and_eq_true] at h
    simp only [List.filter_cons]
    split
    · rename_i hq
      simp only [pairsOkM, Bool.and_eq_true]
      refine ⟨List.all_eq_true.2 fun i hi => ?_, pairsX_filter hx h.2⟩
      have h1 := List.all_eq_true.1 h.1 i (List.mem_filter.1 hi).1
      simp only [Bool.or_eq_true] at h1
      rcases h1 with h1 | h1
      · simpa using h1
      · simp only [beq_iff_eq] at h1
        rw [h1, hx] at hq
        cases hq
    · exact pairsX_filter hx h.2

theorem pairsX_front {x : Nat} {pf mf ms : List Nat} {ops : Array Oper} : ∀ {L : List Nat}, pairsOkX x pf mf ms ops L = true → ∀ pre i post, L = pre ++ i :: post → ∀ p ∈ pre, p = x ∨ Region.waitsFor .any ops i p = true ∨ swapOkM pf mf ms ops p i = true
  | [], _, pre, i, post, e, p, hp => by cases pre <;> cases e
  | q :: r, h, pre, i, post, e, p, hp => by
    simp only [pairsOkX, Bool.and_eq_true] at h
    cases pre with
    | nil => cases hp
    | cons a pre =>
      simp only [List.cons_append, List.cons.injEq] at e
      obtain ⟨rfl, e⟩ := e
      rcases List.mem_cons.1 hp with rfl | hp
      · have := List.all_eq_true.1 h.1 i (by rw [e]; simp)
        simp only [Bool.or_eq_true, beq_iff_eq] at this
        rcases this with (h1 | h1) | h1
        · exact .inr (.inl h1)
        · exact .inr (.inr h1)
        · exact .inl h1
      · exact pairsX_front h.2 pre i post e p hp

theorem chainM_app {ops : Array Oper} {ms : List Nat} {Q : Exit → S → Prop} : ∀ (pre r : List Nat) (σ : S), chainM P Γ ops ob ms (fun _ s => chainM P Γ ops ob ms Q r s) pre σ = chainM P Γ ops ob ms Q (pre ++ r) σ
  | [], r, σ => rfl
  | i :: pre, r, σ => by
    simp only [List.cons_append, chainM]
    have : chainM P Γ ops ob ms (fun _ s => chainM P Γ ops ob ms Q r s) pre = chainM P Γ ops ob ms Q (pre ++ r) := funext fun s => chainM_app pre r s
    rw [this]

theorem chainM_weak {pf : List Nat} (hpf : PureFns Γ pf) {ops : Array Oper} {ms : List Nat} {Q Q' : Exit → S → Prop} (hq : ∀ e s, Q e s → Q' e s) : ∀ (pre : List Nat) (σ : S), (∀ p ∈ pre, ∃ o, ops[p]? = some o ∧ vlike pf o = true) → chainM P Γ ops ob ms Q pre σ → chainM P Γ ops ob ms Q' pre σ
  | [], σ, _, h => hq _ _ h
  | i :: pre, σ, hv, h => by
    obtain ⟨o, ho, hvo⟩ := hv i (by simp)
    simp only [chainM, ho] at h ⊢
    exact ⟨h.1, chain_mono hpf hvo (fun σ' hσ' => chainM_weak hpf hq pre σ' (fun p hp => hv p (by simp [hp])) hσ') h.2⟩

theorem ready_nil {ops : Array Oper} (hback : backOk ops = true) (hedges : edgesOk ops = true) {listed : Array Bool} (hsz : listed.size = ops.size) (hr : Region.ready .any ops listed = []) : ∀ i, i < ops.size → listed.getD i true = true := by
  intro i
  induction i using Nat.strongRecOn with
  | _ i ih =>
    intro hlt'
    cases hx : listed.getD i true with
    | true => rfl
    | false =>
      exfalso
      have : i ∈ Region.ready .any ops listed := by
        refine mem_ready.2 ⟨hx, ops[i], Array.getElem?_eq_getElem hlt', fun e he hb => ?_⟩
        have hw : Region.waitsFor .any ops i e.on = true := by
          simp only [Region.waitsFor, Array.getElem?_eq_getElem hlt', Array.any_eq_true']
          exact ⟨e, he, by simp [hb]⟩
        have hon : e.on < ops.size := by
          have h1 := Array.all_eq_true'.1 hedges ops[i] (Array.getElem_mem hlt')
          have h2 := Array.all_eq_true'.1 h1 e he
          simpa [hb] using h2
        have hlt2 : e.on < i := by
          have h1 := List.all_eq_true.1 hback i (List.mem_range.2 hlt')
          have h2 := List.all_eq_true.1 h1 e.on (List.mem_range.2 hon)
          simpa [hw] using h2
        have h3 := ih e.on hlt2 hon
        have h4 : e.on < listed.size := by omega
        simp [h4] at h3 ⊢
        exact h3
      rw [hr] at this
      cases this

theorem not_waits {ops : Array Oper} {listed : Array Bool} {i p : Nat} {o : Oper} (g2 : ops[i]? = some o) (g3 : ∀ e ∈ o.after, Region.binds .any e = true → listed.getD e.on false = true) (hun : listed.getD p true = false) : Region.waitsFor .any ops i p = false := by
  cases h : Region.waitsFor .any ops i p with
  | false => rfl
  | true =>
    exfalso
    simp only [Region.waitsFor, g2, Array.any_eq_true', Bool.and_eq_true, beq_iff_eq] at h
    obtain ⟨e, he, hb, hon⟩ := h
    have hl := g3 e he hb
    rw [hon] at hl
    rw [getD_both hun] at hl
    cases hl


theorem chosen {pf mf ms : List Nat} (hΓ : OkG P Γ) (hpf : PureFns Γ pf) (hmf : MakeFns Γ mf) {ops : Array Oper} {Q : Exit → S → Prop} {pre r : List Nat} {x : Nat} (hp : pairsOkX x pf mf ms ops (pre ++ x :: r) = true)
    (hback : backOk ops = true) (hedges : edgesOk ops = true) (hall : allOf ops.size (pre ++ x :: r) = true) (hnd : nodupB (pre ++ x :: r) = true) {c : Ctx} {fuel : Nat} {listed : Array Bool} {σ : S} {a : Act} {w : World} (hsz : listed.size = ops.size)
    (hun : ∀ i, i ∉ pre → i < ops.size → listed.getD i true = false) (hf : (pre.filter fun i => !listed.getD i true).length + r.length ≤ fuel) (hst : St c σ a w) {o : Oper} (g2 : ops[x]? = some o) (g3 : ∀ e ∈ o.after, Region.binds .any e = true → listed.getD e.on false = true)
    (h : chainM P Γ ops ob ms (fun _ s => chainM P Γ ops ob ms Q (x :: r) s) (pre.filter fun i => !listed.getD i true) σ) : wpOp P ops (lift c Q) x (wpAny P .any ops (lift c Q) fuel (listed.setIfInBounds x true)) a w := by
  have hnodup := nodup_of hnd
  have hall' := hall
  simp only [allOf, Bool.and_eq_true, List.all_eq_true, List.mem_range, List.contains_eq_mem, decide_eq_true_eq] at hall'
  obtain ⟨⟨_, _⟩, hlt⟩ := hall'
  have hx : x < ops.size := (Array.getElem?_eq_some_iff.1 g2).1
  have hd := List.nodup_append.1 hnodup
  have hxpre : x ∉ pre := fun h => hd.2.2 x h x (by simp) rfl
  have hrpre : ∀ i ∈ r, i ∉ pre := fun i hi h => hd.2.2 i h i (by simp [hi]) rfl
  have hxr : x ∉ r := (List.nodup_cons.1 hd.2.1).1
  have hset : ∀ j, j ≠ x → (listed.setIfInBounds x true).getD j true = listed.getD j true := fun j hj => by
    simp [Array.getElem?_setIfInBounds_ne (fun e : x = j => hj e.symm)]
  have hself : (listed.setIfInBounds x true).getD x true = true := by simp [hsz, hx]
  have hleft : ((pre ++ x :: r).filter fun i => !(listed.setIfInBounds x true).getD i true) = (pre.filter fun i => !listed.getD i true) ++ r := by
    rw [List.filter_append, List.filter_cons, hself]
    simp only [Bool.not_true, Bool.false_eq_true, if_false]
    congr 1
    · exact List.filter_congr fun j hj => by rw [hset j (fun e => hxpre (e ▸ hj))]
    · rw [List.filter_eq_self]
      intro j hj
      rw [hset j (fun e => hxr (e ▸ hj)), hun j (hrpre j hj) (hlt j (by simp [hj]))]
      rfl
  rw [chainM_app] at h
  have hb := bubbleM hpf hmf g2 (pre.filter fun i => !listed.getD i true) r σ (fun p hpm => by
    obtain ⟨hp1, hp2⟩ := List.mem_filter.1 hpm
    rcases pairsX_front hp pre x r rfl p hp1 with h1 | h1 | h1
    · exact (hxpre (h1 ▸ hp1)).elim
    · rw [not_waits g2 g3 (by simpa using hp2)] at h1; cases h1
    · exact h1) h
  have hpairs : pairsOkM pf mf ms ops ((pre ++ x :: r).filter fun i => !(listed.setIfInBounds x true).getD i true) = true := pairsX_filter (by simp only [hself]; rfl) hp
  have go := wpAny_of_chainX (ob := ob) (ms := ms) hΓ hpf hmf hback hedges hall hnd (Q := Q) (c := c) fuel (listed.setIfInBounds x true)
  unfold wpOp
  simp only [g2]
  rcases opg_sound hΓ (Q := lift c Q) hst hb.2 with ⟨hw, hwp⟩ | ⟨hw, σ', hst', hK⟩
  · rw [if_pos hw]
    refine .inl (Oper.wp_mono ?_ hwp)
    rintro a' w' ⟨σ', hst', hK⟩
    exact go σ' a' w' (by simp [hsz]) hpairs (by rw [hleft, List.length_append]; exact hf) hst' (by rw [hleft]; exact hK)
  · rw [if_neg (by simp [hw])]
    exact go σ' _ w (by simp [hsz]) hpairs (by rw [hleft, List.length_append]; exact hf) hst' (by rw [hleft]; exact hK)

theorem wpAny_of_chainB {pf mf ms : List Nat} (hΓ : OkG P Γ) (hpf : PureFns Γ pf) (hmf : MakeFns Γ mf) {ops : Array Oper} {Q : Exit → S → Prop} {pre r1 r2 : List Nat} {x y : Nat} (hok : drawOkB pf mf ms ops pre x y r1 r2 = true) {c : Ctx} : ∀ (fuel : Nat) (listed : Array Bool) (σ : S) (a : Act) (w : World), listed.size = ops.size →
    (∀ i, i ∉ pre → i < ops.size → listed.getD i true = false) → (pre.filter fun i => !listed.getD i true).length + r1.length + 1 ≤ fuel → St c σ a w →
    chainM P Γ ops ob ms (fun _ s => chainM P Γ ops ob ms Q (x :: r1) s ∧ chainM P Γ ops ob ms Q (y :: r2) s) (pre.filter fun i => !listed.getD i true) σ → wpAny P .any ops (lift c Q) fuel listed a w := by
  simp only [drawOkB, Bool.and_eq_true] at hok
  obtain ⟨⟨⟨⟨⟨⟨⟨⟨⟨hv, hp1⟩, hp2⟩, hback⟩, hedges⟩, hall1⟩, hnd1⟩, hall2⟩, hnd2⟩, hw⟩ := hok
  have hv' : ∀ p ∈ pre, ∃ o, ops[p]? = some o ∧ vlike pf o = true := fun p hp => by
    have := List.all_eq_true.1 hv p hp
    cases ho : ops[p]? with
    | none => rw [ho] at this; cases this
    | some o => rw [ho] at this; exact ⟨o, rfl, this⟩
  have hn1 := List.nodup_append.1 (nodup_of hnd1)
  have hn2 := List.nodup_append.1 (nodup_of hnd2)
  have hl1 : (pre ++ x :: r1).length = ops.size := by
    have h := hall1
    simp only [allOf, Bool.and_eq_true, decide_eq_true_eq] at h
    exact h.1.2
  have hl2 : (pre ++ y :: r2).length = ops.size := by
    have h := hall2
    simp only [allOf, Bool.and_eq_true, decide_eq_true_eq] at h
    exact h.1.2
  have hlen : r1.length = r2.length := by simp only [List.length_append, List.length_cons] at hl1 hl2; omega
  have hmem : ∀ i, i < ops.size → i ∈ pre ++ x :: r1 := fun i hi => by
    have h := hall1
    simp only [allOf, Bool.and_eq_true, List.all_eq_true, List.mem_range, List.contains_eq_mem, decide_eq_true_eq] at h
    exact h.1.1 i hi
  have hxs : x < ops.size := by
    have h := hall1
    simp only [allOf, Bool.and_eq_true, List.all_eq_true, decide_eq_true_eq] at h
    exact h.2 x (by simp)
  have hys : y < ops.size := by
    have h := hall2
    simp only [allOf, Bool.and_eq_true, List.all_eq_true, decide_eq_true_eq] at h
    exact h.2 y (by simp)
  have hxpre : x ∉ pre := fun h => hn1.2.2 x h x (by simp) rfl
  have hypre : y ∉ pre := fun h => hn2.2.2 y h y (by simp) rfl
  intro fuel
  induction fuel with
  | zero => intro listed σ a w hsz hun hf; omega
  | succ fuel ih =>
    intro listed σ a w hsz hun hf hst hch
    refine ⟨fun hr => ?_, fun i hi => ?_⟩
    · have := ready_nil hback hedges hsz hr x hxs
      rw [hun x hxpre hxs] at this
      cases this
    · obtain ⟨g1, o, g2, g3⟩ := mem_ready.1 hi
      have hi' : i < ops.size := (Array.getElem?_eq_some_iff.1 g2).1
      by_cases ex : i = x
      · subst ex
        exact chosen hΓ hpf hmf hp1 hback hedges hall1 hnd1 hsz hun (by omega) hst g2 g3 (chainM_weak hpf (fun _ _ h => h.1) _ _ (fun p hp => hv' p (List.mem_filter.1 hp).1) hch)
      · by_cases ey : i = y
        · subst ey
          exact chosen hΓ hpf hmf hp2 hback hedges hall2 hnd2 hsz hun (by omega) hst g2 g3 (chainM_weak hpf (fun _ _ h => h.2) _ _ (fun p hp => hv' p (List.mem_filter.1 hp).1) hch)
        · have hm := hmem i hi'
          have hpm : i ∈ pre := by
            rcases List.mem_append.1 hm with h | h
            · exact h
            · exfalso
              rcases List.mem_cons.1 h with h | h
              · exact ex h
              · have := List.all_eq_true.1 hw i h
                simp only [Bool.or_eq_true, beq_iff_eq] at this
                rcases this with (h1 | h1) | h1
                · exact ey h1
                · rw [not_waits g2 g3 (hun x hxpre hxs)] at h1; cases h1
                · rw [not_waits g2 g3 (hun y hypre hys)] at h1; cases h1
          obtain ⟨p1, p2, e1, e2⟩ := filter_erase hn1.1 hpm (f := fun i => !listed.getD i true) (by simp [g1])
          have hpairs : pairsOkM pf mf ms ops (pre.filter fun i => !listed.getD i true) = true := by
            have e : ((pre ++ x :: r1).filter fun j => !listed.getD j true && pre.contains j) = pre.filter fun i => !listed.getD i true := by
              rw [List.filter_append]
              have e3 : ((x :: r1).filter fun j => !listed.getD j true && pre.contains j) = [] := by
                rw [List.filter_eq_nil_iff]
                intro j hj
                have : j ∉ pre := fun h => hn1.2.2 j h j hj rfl
                simp [this]
              rw [e3, List.append_nil]
              exact List.filter_congr fun j hj => by simp [hj]
            rw [← e]
            exact pairsX_filter (by simp [hxpre]) hp1
          rw [e1] at hch
          have hb := bubbleM hpf hmf g2 p1 p2 σ (fun p hp => by
            rcases pairs_frontM hpairs p1 i p2 e1 p hp with h1 | h1
            · have hp' : p ∈ pre.filter fun i => !listed.getD i true := by rw [e1]; simp [hp]
              rw [not_waits g2 g3 (by simpa using (List.mem_filter.1 hp').2)] at h1; cases h1
            · exact h1) hch
          have hnext : (pre.filter fun j => !(listed.setIfInBounds i true).getD j true) = p1 ++ p2 := by
            rw [← e2]
            refine List.filter_congr fun j hj => ?_
            by_cases e : i = j
            · subst e
              simp [hsz, hi']
            · have e' : ¬ (j = i) := fun h => e h.symm
              simp [Array.getElem?_setIfInBounds_ne e, e']
          have hun' : ∀ j, j ∉ pre → j < ops.size → (listed.setIfInBounds i true).getD j true = false := fun j hj hjs => by
            have e : i ≠ j := fun e => hj (e ▸ hpm)
            have := hun j hj hjs
            simpa [Array.getElem?_setIfInBounds_ne e] using this
          have hlen' : (pre.filter fun j => !(listed.setIfInBounds i true).getD j true).length + r1.length + 1 ≤ fuel := by
            rw [hnext]
            rw [e1] at hf
            simp only [List.length_append, List.length_cons] at hf ⊢
            omega
          unfold wpOp
          simp only [g2]
          rcases opg_sound hΓ (Q := lift c Q) hst hb.2 with ⟨hw', hwp⟩ | ⟨hw', σ', hst', hK⟩
          · rw [if_pos hw']
            refine .inl (Oper.wp_mono ?_ hwp)
            rintro a' w' ⟨σ', hst', hK⟩
            exact ih _ σ' a' w' (by simp [hsz]) hun' hlen' hst' (by rw [hnext]; exact hK)
          · rw [if_neg (by simp [hw'])]
            exact ih _ σ' _ w (by simp [hsz]) hun' hlen' hst' (by rw [hnext]; exact hK)

theorem sem_drawB {pf mf ms : List Nat} (hm : P.follows .mixedOrders = true) (hΓ : OkG P Γ) (hpf : PureFns Γ pf) (hmf : MakeFns Γ mf) {id : Nat} {ops : Array Oper} {Q : Exit → S → Prop} {σ : S} (pre : List Nat) (x y : Nat) (r1 r2 : List Nat) (hok : drawOkB pf mf ms ops pre x y r1 r2 = true)
    (h : chainM P Γ ops ob ms (fun _ s => chainM P Γ ops ob ms Q (x :: r1) s ∧ chainM P Γ ops ob ms Q (y :: r2) s) pre σ) : sem P (.region id ops true) Q σ := by
  intro c a w hst
  refine wp_region_any hm ?_
  have hst' : St c σ a { w with drawn := w.drawn + 1 } := by
    obtain ⟨hd, hn, F, φ, h2, h3, h4⟩ := hst
    refine ⟨hd, hn, F, φ, ⟨h2.sub, ⟨h2.ext.os, h2.ext.tape, h2.ext.output, h2.ext.size, h2.ext.same⟩, h2.keep, h2.rest, h2.orig, h2.frsh⟩, h3.drew, ?_⟩
    exact AV.Rs_mono (fun _ h => h) same_drew (fun _ _ h => h) _ _ h4
  have hok' := hok
  simp only [drawOkB, Bool.and_eq_true] at hok'
  have hall := hok'.1.1.1.1.2
  simp only [allOf, Bool.and_eq_true, List.all_eq_true, decide_eq_true_eq] at hall
  have hun : ∀ i, i < ops.size → (Array.replicate ops.size false).getD i true = false := fun i hi => by simp [hi]
  have hf : (pre.filter fun i => !(Array.replicate ops.size false).getD i true) = pre := by
    rw [List.filter_eq_self]
    intro i hi
    rw [hun i (hall.2 i (by simp [hi]))]
    rfl
  refine wpAny_of_chainB hΓ hpf hmf hok ops.size _ σ a _ (by simp) (fun i _ hi => hun i hi) ?_ hst' (by rw [hf]; exact h)
  rw [hf]
  have := hall.1.2
  simp only [List.length_append, List.length_cons] at this
  omega
end
end Go.AM

namespace Go.AM
open Go

mutual
/-- The same value where the objects have other numbers. -/
def AV.ren (π : Nat → Nat) : AV → AV
  | .sl o i j => .sl (π o) i j
  | .ptr o i j => .ptr (π o) i j
  | .map o => .map (π o)
  | .agg vs => .agg (AV.rens π vs)
  | .tup vs => .tup (AV.rens π vs)
  | .fn f vs => .fn f (AV.rens π vs)
  | .dat d => .dat d
  | .nils => .nils
  | .nilm => .nilm
  | .rptr ag d => .rptr ag d
  | .top => .top
def AV.rens (π : Nat → Nat) : List AV → List AV
  | [] => []
  | a :: as => a.ren π :: AV.rens π as
end

def Obj.ren (π : Nat → Nat) : Obj → Obj
  | .box cs => .box (AV.rens π cs)
  | .vec cs => .vec (AV.rens π cs)
  | x => x

section
variable {P : Program} {Γ : Nat → Contract} {F : Nat → Prop} {φ φ' : Nat → Option Loc} {w : World} {own : List Obj} {π : Nat → Nat}

mutual
theorem AV.R_ren (hφ : ∀ o L, φ o = some L → φ' (π o) = some L) : ∀ (a : AV) (v : Value), AV.R F φ w a v → AV.R F φ' w (a.ren π) v
  | .dat d, v, h => by simpa only [AV.ren, AV.R] using h
  | .nils, _, h => by simpa only [AV.ren, AV.R] using h
  | .nilm, _, h => by simpa only [AV.ren, AV.R] using h
  | .sl o' i j, v, h => by
    simp only [AV.ren, AV.R] at h ⊢
    obtain ⟨L, h1, h2⟩ := h
    exact ⟨L, hφ o' L h1, h2⟩
  | .ptr o' i j, v, h => by
    simp only [AV.ren, AV.R] at h ⊢
    obtain ⟨L, h1, h2⟩ := h
    exact ⟨L, hφ o' L h1, h2⟩
  | .rptr ag d, v, h => by simpa only [AV.ren, AV.R] using h
  | .agg vs, v, h => by
    simp only [AV.ren, AV.R] at h ⊢
    obtain ⟨arr, h1, h2⟩ := h
    exact ⟨arr, h1, AV.Ra_ren hφ vs arr h2⟩
  | .tup vs, v, h => by
    simp only [AV.ren, AV.R] at h ⊢
    obtain ⟨arr, h1, h2⟩ := h
    exact ⟨arr, h1, AV.Rs_ren hφ vs arr h2⟩
  | .map o', v, h => by
    simp only [AV.ren, AV.R] at h ⊢
    obtain ⟨L, h1, h2⟩ := h
    exact ⟨L, hφ o' L h1, h2⟩
  | .fn f vs, v, h => by
    simp only [AV.ren, AV.R] at h ⊢
    obtain ⟨arr, h1, h2⟩ := h
    exact ⟨arr, h1, AV.Rs_ren hφ vs arr h2⟩
  | .top, _, _ => by simp only [AV.ren, AV.R]
theorem AV.Rs_ren (hφ : ∀ o L, φ o = some L → φ' (π o) = some L) : ∀ (as : List AV) (vs : List Value), AV.Rs F φ w as vs → AV.Rs F φ' w (AV.rens π as) vs
  | [], _, h => by simpa only [AV.rens, AV.Rs] using h
  | a :: as, vs, h => by
    simp only [AV.rens, AV.Rs] at h ⊢
    obtain ⟨v, vs', h1, h2, h3⟩ := h
    exact ⟨v, vs', h1, AV.R_ren hφ a v h2, AV.Rs_ren hφ as vs' h3⟩
theorem AV.Ra_ren (hφ : ∀ o L, φ o = some L → φ' (π o) = some L) : ∀ (as : List AV) (vs : List Value), AV.Ra F φ w as vs → AV.Ra F φ' w (AV.rens π as) vs
  | [], _, h => by simpa only [AV.rens, AV.Ra] using h
  | a :: as, vs, h => by
    simp only [AV.rens, AV.Ra] at h ⊢
    obtain ⟨v, vs', h1, h0, h2, h3⟩ := h
    exact ⟨v, vs', h1, h0, AV.R_ren hφ a v h2, AV.Ra_ren hφ as vs' h3⟩
end

theorem AV.rens_length : ∀ (cs : List AV), (AV.rens π cs).length = cs.length
  | [] => rfl
  | c :: cs => by simp only [AV.rens, List.length_cons, AV.rens_length cs]

theorem ObjR_ren (hφ : ∀ o L, φ o = some L → φ' (π o) = some L) {l : Option Loc} {obj : Obj} (h : ObjR F φ w l obj) : ObjR F φ' w l (obj.ren π) := by
  cases l with
  | none => cases obj <;> simp only [ObjR, Obj.ren] at h ⊢
  | some L =>
    cases obj with
    | row ag xs => simpa only [ObjR, Obj.ren] using h
    | vec cs =>
      simp only [ObjR, Obj.ren] at h ⊢
      obtain ⟨h1, h2⟩ := h
      refine ⟨h1, ?_⟩
      rcases h2 with ⟨h2, rfl⟩ | ⟨h2, arr, ty, h3, h4, h5, vs, h6, h7⟩
      · exact .inl ⟨h2, rfl⟩
      · exact .inr ⟨h2, arr, ty, h3, h4, by rw [AV.rens_length]; exact h5, vs, AV.Ra_ren hφ _ _ h6, by rw [AV.rens_length]; exact h7⟩
    | box cs =>
      simp only [ObjR, Obj.ren] at h ⊢
      obtain ⟨h1, h2, arr, ty, h3, h4, h5⟩ := h
      exact ⟨h1, h2, arr, ty, h3, h4, AV.Ra_ren hφ _ _ h5⟩
    | map m => simpa only [ObjR, Obj.ren] using h
    | dead => simp only [ObjR, Obj.ren]

theorem le_ren {s : List AV} {own' : List Obj} {mv : List Nat} (π : Nat → Nat) (hπ : ∀ o, π (π o) = o) (hlt : ∀ o, o < own.length → π o < own.length) (ho : own' = (List.range own.length).map fun o => (own.getD (π o) .dead).ren π) :
    Le ⟨s, own, 0, mv⟩ ⟨AV.rens π s, own', 0, mv⟩ := by
  rintro c a w ⟨hd, hn, F, φ, h2, h3, h4⟩
  have hφ : ∀ o L, φ o = some L → (fun i => φ (π i)) (π o) = some L := fun o L h => by simp only [hπ]; exact h
  have hl : own'.length = own.length := by rw [ho]; simp
  have hn0 : c.n0 = 0 := hn.symm
  refine ⟨hd, hn, F, fun i => φ (π i), ⟨h2.sub, h2.ext, fun o L hlt' hm h => ?_, h2.rest, fun o L' ho' hn' => h2.orig (π o) L' ho' hn', h2.frsh⟩, ?_, AV.Rs_ren (π := π) (φ := φ) (φ' := fun i => φ (π i)) hφ s _ h4⟩
  · omega
  · refine ⟨h3.fb, fun o L h => h3.live (π o) L h, fun o o' L L' h h' n n' hne => h3.inj (π o) (π o') L L' h h' n n' (fun e => hne (by rw [← hπ o, ← hπ o', e])), fun o obj hob => ?_, fun o hge => ?_, h3.glob⟩
    · have hlt' : o < own.length := by
        have := (List.getElem?_eq_some_iff.1 hob).1
        simp only [hl] at this
        exact this
      simp only [ho, List.getElem?_map, List.getElem?_range hlt', Option.map_some, Option.some.injEq] at hob
      subst hob
      have hp := hlt o hlt'
      have := h3.rep (π o) (own.getD (π o) .dead) (by simp only; rw [List.getD_eq_getElem?_getD, List.getElem?_eq_getElem hp]; rfl)
      exact ObjR_ren (π := π) (φ := φ) (φ' := fun i => φ (π i)) hφ this
    · simp only [hl] at hge
      refine h3.out (π o) ?_
      simp only
      rcases Nat.lt_or_ge (π o) own.length with h | h
      · have := hlt _ h
        rw [hπ] at this
        omega
      · exact h

theorem both_of {A B C : Prop} (h1 : C → A) (h2 : C → B) (h : C) : A ∧ B := ⟨h1 h, h2 h⟩

def swp (a b : Nat) : Nat → Nat := fun o => if o = a then b else if o = b then a else o
theorem swp_swp (a b o : Nat) : swp a b (swp a b o) = o := by
  unfold swp
  split <;> rename_i h <;> (try subst h) <;> split <;> (try split) <;> (try split) <;> simp_all
theorem swp_lt {a b n : Nat} (ha : a < n) (hb : b < n) (o : Nat) (h : o < n) : swp a b o < n := by
  unfold swp
  split
  · exact hb
  · split
    · exact ha
    · exact h
theorem le_swp {s s' : List AV} {own' : List Obj} {mv : List Nat} (a b : Nat) (ha : a < own.length) (hb : b < own.length) (hs : s' = AV.rens (swp a b) s) (ho : own' = (List.range own.length).map fun o => (own.getD (swp a b o) .dead).ren (swp a b)) :
    Le ⟨s, own, 0, mv⟩ ⟨s', own', 0, mv⟩ := by
  subst hs
  exact le_ren (swp a b) (swp_swp a b) (swp_lt ha hb) ho
end
end Go.AM

namespace Go.AM
open Go

section
variable {P : Program} {Γ : Nat → Contract} {F : Nat → Prop} {φ φ' : Nat → Option Loc} {w : World} {own : List Obj} {π : Nat → Nat}

mutual
theorem AV.R_unren : ∀ (a : AV) (v : Value), AV.R F φ w (a.ren π) v → AV.R F (fun o => φ (π o)) w a v
  | .dat d, v, h => by simpa only [AV.ren, AV.R] using h
  | .nils, _, h => by simpa only [AV.ren, AV.R] using h
  | .nilm, _, h => by simpa only [AV.ren, AV.R] using h
  | .sl o' i j, v, h => by simpa only [AV.ren, AV.R] using h
  | .ptr o' i j, v, h => by simpa only [AV.ren, AV.R] using h
  | .rptr ag d, v, h => by simpa only [AV.ren, AV.R] using h
  | .agg vs, v, h => by
    simp only [AV.ren, AV.R] at h ⊢
    obtain ⟨arr, h1, h2⟩ := h
    exact ⟨arr, h1, AV.Ra_unren vs arr h2⟩
  | .tup vs, v, h => by
    simp only [AV.ren, AV.R] at h ⊢
    obtain ⟨arr, h1, h2⟩ := h
    exact ⟨arr, h1, AV.Rs_unren vs arr h2⟩
  | .map o', v, h => by simpa only [AV.ren, AV.R] using h
  | .fn f vs, v, h => by
    simp only [AV.ren, AV.R] at h ⊢
    obtain ⟨arr, h1, h2⟩ := h
    exact ⟨arr, h1, AV.Rs_unren vs arr h2⟩
  | .top, _, _ => by simp only [AV.R]
theorem AV.Rs_unren : ∀ (as : List AV) (vs : List Value), AV.Rs F φ w (AV.rens π as) vs → AV.Rs F (fun o => φ (π o)) w as vs
  | [], _, h => by simpa only [AV.rens, AV.Rs] using h
  | a :: as, vs, h => by
    simp only [AV.rens, AV.Rs] at h ⊢
    obtain ⟨v, vs', h1, h2, h3⟩ := h
    exact ⟨v, vs', h1, AV.R_unren a v h2, AV.Rs_unren as vs' h3⟩
theorem AV.Ra_unren : ∀ (as : List AV) (vs : List Value), AV.Ra F φ w (AV.rens π as) vs → AV.Ra F (fun o => φ (π o)) w as vs
  | [], _, h => by simpa only [AV.rens, AV.Ra] using h
  | a :: as, vs, h => by
    simp only [AV.rens, AV.Ra] at h ⊢
    obtain ⟨v, vs', h1, h0, h2, h3⟩ := h
    exact ⟨v, vs', h1, h0, AV.R_unren a v h2, AV.Ra_unren as vs' h3⟩
end

theorem ObjR_unren {l : Option Loc} {obj : Obj} (h : ObjR F φ w l (obj.ren π)) : ObjR F (fun o => φ (π o)) w l obj := by
  cases l with
  | none => cases obj <;> simp only [ObjR, Obj.ren] at h ⊢
  | some L =>
    cases obj with
    | row ag xs => simpa only [ObjR, Obj.ren] using h
    | vec cs =>
      simp only [ObjR, Obj.ren] at h ⊢
      obtain ⟨h1, h2⟩ := h
      refine ⟨h1, ?_⟩
      rcases h2 with ⟨h2, h3⟩ | ⟨h2, arr, ty, h3, h4, h5, vs, h6, h7⟩
      · refine .inl ⟨h2, ?_⟩
        cases cs with
        | nil => rfl
        | cons c cs => simp [AV.rens] at h3
      · exact .inr ⟨h2, arr, ty, h3, h4, by rwa [AV.rens_length] at h5, vs, AV.Ra_unren _ _ h6, by rwa [AV.rens_length] at h7⟩
    | box cs =>
      simp only [ObjR, Obj.ren] at h ⊢
      obtain ⟨h1, h2, arr, ty, h3, h4, h5⟩ := h
      exact ⟨h1, h2, arr, ty, h3, h4, AV.Ra_unren _ _ h5⟩
    | map m => simpa only [ObjR, Obj.ren] using h
    | dead => simp only [ObjR]

theorem ObjR_under {k : Nat} (hφ : ∀ o L, o < k → φ o = some L → φ' o = some L) {l : Option Loc} {obj : Obj} (hu : obj.under k) (h : ObjR F φ w l obj) : ObjR F φ' w l obj := by
  cases l with
  | none => cases obj <;> simp only [ObjR] at h ⊢
  | some L =>
    cases obj with
    | row ag xs => simpa only [ObjR] using h
    | vec cs =>
      simp only [ObjR, Obj.under] at h hu ⊢
      obtain ⟨h1, h2⟩ := h
      refine ⟨h1, ?_⟩
      rcases h2 with h2 | ⟨h2, arr, ty, h3, h4, h5, vs, h6, h7⟩
      · exact .inl h2
      · exact .inr ⟨h2, arr, ty, h3, h4, h5, vs, AV.Ra_under hφ _ _ hu h6, h7⟩
    | box cs =>
      simp only [ObjR, Obj.under] at h hu ⊢
      obtain ⟨h1, h2, arr, ty, h3, h4, h5⟩ := h
      exact ⟨h1, h2, arr, ty, h3, h4, AV.Ra_under hφ _ _ hu h5⟩
    | map m => simpa only [ObjR] using h
    | dead => simp only [ObjR]

def Obj.killAll (kl : List Nat) : Obj → Obj
  | .box cs => .box (Go.AM.killAll kl cs)
  | .vec cs => .vec (Go.AM.killAll kl cs)
  | x => x
@[go_sem] theorem Obj.killAll_nil (x : Obj) : Obj.killAll [] x = x := by cases x <;> rfl

theorem killAll_length : ∀ (kl : List Nat) (cs : List AV), (killAll kl cs).length = cs.length
  | [], _ => rfl
  | o :: kl, cs => by simp only [killAll]; rw [killAll_length kl, AV.kills_length]

theorem ObjR_killAll {F' : Nat → Prop} {w' : World} {kl : List Nat} (hF : ∀ b, F b → F' b) (hw : Same F w w') (hφ : ∀ o L, o ∉ kl → φ o = some L → φ' o = some L) {l : Option Loc} {obj : Obj} (hb : ∀ L, l = some L → L.nil = false → w'.heap[L.b]? = w.heap[L.b]?)
    (h : ObjR F φ w l obj) : ObjR F' φ' w' l (obj.killAll kl) := by
  cases l with
  | none => cases obj <;> simp only [ObjR, Obj.killAll] at h ⊢
  | some L =>
    cases obj with
    | row ag xs =>
      simp only [Obj.killAll]
      exact ObjR.mono (φ := fun _ => none) hF hw (fun _ _ h => by cases h) hb (by simpa only [ObjR] using h)
    | vec cs =>
      simp only [ObjR, Obj.killAll] at h ⊢
      obtain ⟨h1, h2⟩ := h
      refine ⟨h1, ?_⟩
      rcases h2 with ⟨h2, rfl⟩ | ⟨h2, arr, ty, h3, h4, h5, vs, h6, h7⟩
      · exact .inl ⟨h2, List.eq_nil_of_length_eq_zero (by rw [killAll_length]; rfl)⟩
      · have h6' := AV.Ra_iff.1 h6
        exact .inr ⟨h2, arr, ty, (hb L rfl h2).trans h3, h4, by rw [killAll_length]; exact h5, vs, AV.Ra_iff.2 ⟨killAll_R hF hw kl hφ h6'.1, h6'.2⟩, by rw [killAll_length]; exact h7⟩
    | box cs =>
      simp only [ObjR, Obj.killAll] at h ⊢
      obtain ⟨h1, h2, arr, ty, h3, h4, h5⟩ := h
      have h5' := AV.Ra_iff.1 h5
      exact ⟨h1, h2, arr, ty, (hb L rfl h1).trans h3, h4, AV.Ra_iff.2 ⟨killAll_R hF hw kl hφ h5'.1, h5'.2⟩⟩
    | map m =>
      simp only [Obj.killAll]
      exact ObjR.mono (φ := fun _ => none) hF hw (fun _ _ h => by cases h) hb (by simpa only [ObjR] using h)
    | dead => simp only [ObjR, Obj.killAll]

def setAll : List Obj → List Nat → List Obj → List Obj
  | own, [], _ => own
  | own, _ :: _, [] => own
  | own, o :: os, x :: xs => setAll (own.set o x) os xs
theorem setAll_length : ∀ (own : List Obj) (os : List Nat) (xs : List Obj), (setAll own os xs).length = own.length
  | own, [], _ => by simp only [setAll]
  | own, _ :: _, [] => rfl
  | own, o :: os, x :: xs => by simp only [setAll]; rw [setAll_length]; simp
theorem setAll_out : ∀ (own : List Obj) (os : List Nat) (xs : List Obj) (o : Nat), o ∉ os → (setAll own os xs)[o]? = own[o]?
  | own, [], _, o, _ => by simp only [setAll]
  | own, _ :: _, [], o, _ => rfl
  | own, o' :: os, x :: xs, o, h => by
    simp only [setAll]
    rw [setAll_out _ os xs o (fun hm => h (by simp [hm]))]
    rw [List.getElem?_set]
    rw [if_neg (fun e => h (by simp [e]))]
theorem setAll_in : ∀ (own : List Obj) (os : List Nat) (xs : List Obj) (j : Nat), os.Nodup → (∀ o ∈ os, o < own.length) → j < os.length → xs.length = os.length → (setAll own os xs)[os.getD j 0]? = xs[j]?
  | own, [], _, j, _, _, h, _ => by simp at h
  | own, o' :: os, [], j, _, _, _, h => by simp at h
  | own, o' :: os, x :: xs, j, hn, hl, hj, h => by
    obtain ⟨h1, h2⟩ := List.nodup_cons.1 hn
    simp only [setAll]
    cases j with
    | zero =>
      simp only [List.getD_cons_zero, List.getElem?_cons_zero]
      rw [setAll_out _ os xs o' h1, List.getElem?_set, if_pos rfl, if_pos (hl o' (by simp))]
    | succ j =>
      simp only [List.getD_cons_succ, List.getElem?_cons_succ]
      exact setAll_in _ os xs j h2 (fun o ho => by rw [List.length_set]; exact hl o (by simp [ho])) (by simpa using hj) (by simpa using h)

def emb (os : List Nat) (n : Nat) : Nat → Nat := fun j => if j < os.length then os.getD j 0 else n + (j - os.length)

def lentC (R : List AV → List Obj → AV → List Obj → List Obj → List Nat → Prop) : Contract := fun args own v own' mv =>
  ∃ (os : List Nat) (as : List AV) (obs : List Obj) (v0 : AV) (obs' ex : List Obj) (mv0 : List Nat), os.Nodup ∧ (∀ o ∈ os, o < own.length) ∧ obs.length = os.length ∧ obs'.length = os.length ∧
    args = AV.rens (emb os own.length) as ∧ AV.unders os.length as ∧ (∀ x ∈ obs, x.under os.length) ∧ (∀ j, j < os.length → own[os.getD j 0]? = some ((obs.getD j .dead).ren (emb os own.length))) ∧ R as obs v0 obs' ex mv0 ∧
    v = v0.ren (emb os own.length) ∧ own' = setAll (own.map (Obj.killAll (mv0.map (emb os own.length)))) os (obs'.map (Obj.ren (emb os own.length))) ++ ex.map (Obj.ren (emb os own.length)) ∧ mv = mv0.map (emb os own.length)

theorem okF_lent {g : Nat} {fn : Func} {body : Code} {R : List AV → List Obj → AV → List Obj → List Obj → List Nat → Prop} (hf : P.funcs[g]? = some fn) (hb : fn.body = some body) (hname : fn.name ≠ "runtime.NumGoroutine")
    (h : ∀ as obs v0 obs' ex mv0, R as obs v0 obs' ex mv0 → sem P body (post P fn v0 (obs' ++ ex) mv0) ⟨as ++ List.replicate (fn.ntmps - as.length) .top, obs, obs.length, []⟩) : OkF P g (lentC R) := by
  intro args own v own' mv hC
  obtain ⟨os, as, obs, v0, obs', ex, mv0, hnd, hlt, hlen, hlen', hargs, hun, hobu, hobs, hR, hv, hown, hmv⟩ := hC
  refine ⟨⟨fn, body, hf, hb, hname⟩, fun F φ w vs hc hs => ?_⟩
  let k := os.length
  let n := own.length
  let π := emb os n
  let φ0 : Nat → Option Loc := fun j => if j < k then φ (π j) else none
  have hπ : ∀ j, j < k → π j = os.getD j 0 := fun j hj => by simp only [π, emb]; rw [if_pos hj]
  have hπ2 : ∀ j, ¬ j < k → π j = n + (j - k) := fun j hj => by simp only [π, emb]; rw [if_neg hj]
  have hmem : ∀ j, j < k → os.getD j 0 ∈ os := fun j hj => by
    rw [List.getD_eq_getElem?_getD, List.getElem?_eq_getElem hj]
    exact List.getElem_mem hj
  have hπlt : ∀ j, j < k → π j < n := fun j hj => by rw [hπ j hj]; exact hlt _ (hmem j hj)
  have hidx : ∀ j, j < k → os.idxOf (os.getD j 0) = j := fun j hj => by
    rw [List.getD_eq_getElem?_getD, List.getElem?_eq_getElem hj]
    exact hnd.idxOf_getElem j hj
  have hπi : ∀ i j, π i = π j → i = j := fun i j e => by
    by_cases hi : i < k
    · by_cases hj : j < k
      · rw [hπ i hi, hπ j hj] at e
        rw [← hidx i hi, ← hidx j hj, e]
      · have := hπlt i hi
        rw [hπ2 j hj] at e
        omega
    · by_cases hj : j < k
      · have := hπlt j hj
        rw [hπ2 i hi] at e
        omega
      · rw [hπ2 i hi, hπ2 j hj] at e
        omega
  have conc0 : Conc F φ0 obs w := by
    refine ⟨hc.fb, fun j L hj => ?_, fun i j L L' hi hj n1 n2 hne => ?_, fun j obj hj => ?_, fun j hj => ?_, hc.glob⟩
    · simp only [φ0] at hj
      split at hj
      · exact hc.live _ L hj
      · cases hj
    · simp only [φ0] at hi hj
      split at hi
      · split at hj
        · exact hc.inj _ _ L L' hi hj n1 n2 (fun e => hne (hπi i j e))
        · cases hj
      · cases hi
    · have hjk : j < k := by have := (List.getElem?_eq_some_iff.1 hj).1; omega
      have hg : obs.getD j .dead = obj := by rw [List.getD_eq_getElem?_getD, hj]; rfl
      have hr := hc.rep (π j) _ (by rw [hπ j hjk]; exact hobs j hjk)
      rw [hg] at hr
      have h0 : φ0 j = φ (π j) := by simp only [φ0]; rw [if_pos hjk]
      rw [h0]
      exact ObjR_under (k := k) (fun o L ho hL => by simp only [φ0]; rw [if_pos ho]; exact hL) (hobu obj (List.mem_of_getElem? hj)) (ObjR_unren hr)
    · simp only [φ0]
      rw [if_neg (by omega)]
  have hs0 : AV.Rs F φ0 w as vs := by
    rw [hargs] at hs
    exact AV.Rs_under (n := k) (fun o L ho hL => by simp only [φ0]; rw [if_pos ho]; exact hL) _ _ hun (AV.Rs_unren _ _ hs)
  refine (calls_of_sem hf hb (h as obs v0 obs' ex mv0 hR) (fun o L ho => by
    simp only [φ0] at ho
    split at ho
    · omega
    · cases ho) conc0 hs0).mono ?_
  rintro e w' ⟨r, F', φ', rfl, ha, hr⟩
  let φ2 : Nat → Option Loc := fun o => if o ∈ os then φ' (os.idxOf o) else if o < n then φ o else φ' (k + (o - n))
  have key : ∀ j, φ2 (π j) = φ' j := fun j => by
    simp only [φ2]
    by_cases hj : j < k
    · rw [hπ j hj, if_pos (hmem j hj), hidx j hj]
    · rw [hπ2 j hj, if_neg (fun hm => by have := hlt _ hm; omega), if_neg (by omega)]
      congr 1; omega
  have hold : ∀ o, o ∉ os → o < n → φ2 o = φ o := fun o h1 h2 => by simp only [φ2]; rw [if_neg h1, if_pos h2]
  have cover : ∀ o, (o ∉ os ∧ o < n) ∨ ∃ j, π j = o := fun o => by
    by_cases h1 : o ∈ os
    · refine .inr ⟨os.idxOf o, ?_⟩
      have hj := List.idxOf_lt_length_of_mem h1
      rw [hπ _ hj, List.getD_eq_getElem?_getD, List.getElem?_eq_getElem hj]
      simp
    · by_cases h2 : o < n
      · exact .inl ⟨h1, h2⟩
      · exact .inr ⟨k + (o - n), by rw [hπ2 _ (by omega)]; omega⟩
  have lentφ : ∀ j L, φ0 j = some L → φ (π j) = some L ∧ π j ∈ os := fun j L hj => by
    simp only [φ0] at hj
    split at hj
    · rename_i hjk
      exact ⟨hj, by rw [hπ j hjk]; exact hmem j hjk⟩
    · cases hj
  have hlow : ∀ o L, φ o = some L → o < n := fun o L ho => by
    rcases Nat.lt_or_ge o n with h | h
    · exact h
    · rw [hc.out o h] at ho; cases ho
  have oldrest : ∀ o L, o ∉ os → φ o = some L → L.nil = false → w'.heap[L.b]? = w.heap[L.b]? := fun o L h1 h2 h3 =>
    ha.rest L.b (hc.live o L h2 h3).2 (fun j L' hj hn' e => by
      obtain ⟨g1, g2⟩ := lentφ j L' hj
      exact hc.inj (π j) o L' L g1 h2 hn' h3 (fun e' => h1 (e' ▸ g2)) e)
  have hkeep : ∀ o L, o ∉ mv0.map π → φ o = some L → φ2 o = some L := fun o L hm ho => by
    rcases cover o with ⟨h1, h2⟩ | ⟨j, rfl⟩
    · rw [hold o h1 h2]; exact ho
    · rw [key]
      refine ha.keep j L (fun hj => hm (List.mem_map.2 ⟨j, hj, rfl⟩)) ?_
      have hjk : j < k := by
        rcases Nat.lt_or_ge j k with h | h
        · exact h
        · have := hlow _ L ho
          rw [hπ2 j (by omega)] at this
          omega
      simp only [φ0]
      rw [if_pos hjk]; exact ho
  have hlen2 : (setAll (own.map (Obj.killAll (mv0.map π))) os (obs'.map (Obj.ren π))).length = n := by rw [setAll_length, List.length_map]
  refine ⟨r, F', φ2, rfl, ?_, ?_⟩
  · refine { sub := ha.sub, ext := ha.ext, conc := ?_, keep := fun o L hm ho => hkeep o L (by rwa [hmv] at hm) ho, rest := fun b hb hall => ha.rest b hb (fun j L hj hn' => hall (π j) L (lentφ j L hj).1 hn'), orig := fun o L' ho hn' => ?_, frsh := fun b hb => ?_ }
    · refine ⟨ha.conc.fb, fun o L ho hn' => ?_, fun o1 o2 L1 L2 h1 h2 n1 n2 hne => ?_, fun o obj ho => ?_, fun o ho => ?_, ha.conc.glob⟩
      · rcases cover o with ⟨h1, h2⟩ | ⟨j, rfl⟩
        · rw [hold o h1 h2] at ho
          refine ⟨fun hF' => ?_, Nat.lt_of_lt_of_le (hc.live o L ho hn').2 ha.ext.size⟩
          rcases ha.frsh _ hF' with h | h | ⟨j, L', g1, g2, g3⟩
          · exact (hc.live o L ho hn').1 h
          · have := (hc.live o L ho hn').2; omega
          · obtain ⟨g4, g5⟩ := lentφ j L' g1
            exact hc.inj (π j) o L' L g4 ho g2 hn' (fun e' => h1 (e' ▸ g5)) g3
        · rw [key] at ho
          exact ha.conc.live j L ho hn'
      · have mixed : ∀ o j L L', o ∉ os → o < n → φ o = some L → φ' j = some L' → L.nil = false → L'.nil = false → L.b ≠ L'.b := fun o j L L' g1 g2 g3 g4 m1 m2 e => by
          rcases ha.orig j L' g4 m2 with h | ⟨j', L3, q1, q2, q3⟩
          · have := (hc.live o L g3 m1).2; omega
          · obtain ⟨q4, q5⟩ := lentφ j' L3 q1
            exact hc.inj o (π j') L L3 g3 q4 m1 q2 (fun e' => g1 (e' ▸ q5)) (e.trans q3.symm)
        rcases cover o1 with ⟨a1, a2⟩ | ⟨j1, rfl⟩ <;> rcases cover o2 with ⟨b1, b2⟩ | ⟨j2, rfl⟩
        · rw [hold o1 a1 a2] at h1; rw [hold o2 b1 b2] at h2
          exact hc.inj o1 o2 L1 L2 h1 h2 n1 n2 hne
        · rw [hold o1 a1 a2] at h1; rw [key] at h2
          exact mixed o1 j2 L1 L2 a1 a2 h1 h2 n1 n2
        · rw [key] at h1; rw [hold o2 b1 b2] at h2
          exact (mixed o2 j1 L2 L1 b1 b2 h2 h1 n2 n1).symm
        · rw [key] at h1 h2
          exact ha.conc.inj j1 j2 L1 L2 h1 h2 n1 n2 (fun e => hne (by rw [e]))
      · rw [hown] at ho
        rcases cover o with ⟨h1, h2⟩ | ⟨j, rfl⟩
        · rw [List.getElem?_append_left (by rw [hlen2]; exact h2), setAll_out _ _ _ _ h1, List.getElem?_map, Option.map_eq_some_iff] at ho
          obtain ⟨ob0, g1, rfl⟩ := ho
          rw [hold o h1 h2]
          exact ObjR_killAll ha.sub ha.ext.same hkeep (fun L hL hn' => oldrest o L h1 hL hn') (hc.rep o ob0 g1)
        · rw [key]
          by_cases hj : j < k
          · rw [List.getElem?_append_left (by rw [hlen2]; exact hπlt j hj), hπ j hj, setAll_in _ _ _ _ hnd (fun o ho => by rw [List.length_map]; exact hlt o ho) hj (by rw [List.length_map]; exact hlen'), List.getElem?_map, Option.map_eq_some_iff] at ho
            obtain ⟨ob0, g1, rfl⟩ := ho
            have := ha.conc.rep j ob0 (by rw [List.getElem?_append_left (by omega)]; exact g1)
            exact ObjR_ren (π := π) (φ := φ') (φ' := φ2) (fun o L ho => by rw [key]; exact ho) this
          · rw [List.getElem?_append_right (by rw [hlen2, hπ2 j hj]; omega), hlen2, hπ2 j hj, Nat.add_sub_cancel_left, List.getElem?_map, Option.map_eq_some_iff] at ho
            obtain ⟨ob0, g1, rfl⟩ := ho
            have := ha.conc.rep j ob0 (by rw [List.getElem?_append_right (by omega), hlen']; exact g1)
            exact ObjR_ren (π := π) (φ := φ') (φ' := φ2) (fun o L ho => by rw [key]; exact ho) this
      · rw [hown, List.length_append, hlen2, List.length_map] at ho
        rcases cover o with ⟨h1, h2⟩ | ⟨j, rfl⟩
        · omega
        · rw [key]
          have hj : ¬ j < k := fun hj => by have := hπlt j hj; omega
          rw [hπ2 j hj] at ho
          exact ha.conc.out j (by rw [List.length_append]; omega)
    · rcases cover o with ⟨h1, h2⟩ | ⟨j, rfl⟩
      · rw [hold o h1 h2] at ho
        exact .inr ⟨o, L', ho, hn', rfl⟩
      · rw [key] at ho
        rcases ha.orig j L' ho hn' with h | ⟨j', L3, q1, q2, q3⟩
        · exact .inl h
        · exact .inr ⟨π j', L3, (lentφ j' L3 q1).1, q2, q3⟩
    · rcases ha.frsh b hb with h | h | ⟨j, L', g1, g2, g3⟩
      · exact .inl h
      · exact .inr (.inl h)
      · exact .inr (.inr ⟨π j, L', (lentφ j L' g1).1, g2, g3⟩)
  · rw [hv]
    exact AV.R_ren (π := π) (φ := φ') (φ' := φ2) (fun o L ho => by rw [key]; exact ho) _ _ hr

theorem call_lent {l : List (Nat × Contract)} {g : Nat} (R : List AV → List Obj → AV → List Obj → List Obj → List Nat → Prop) (hm : (g, lentC R) ∈ l) {args : List AV} {own : List Obj} {K : AV → List Obj → List Nat → Prop} (os : List Nat) {as : List AV} {obs : List Obj} {v0 : AV} {obs' ex : List Obj} {mv0 : List Nat}
    (hR : R as obs v0 obs' ex mv0) (hnd : os.Nodup) (hlt : ∀ o ∈ os, o < own.length) (h1 : obs.length = os.length) (h2 : obs'.length = os.length) (hargs : args = AV.rens (emb os own.length) as) (hun : AV.unders os.length as) (hob : ∀ x ∈ obs, x.under os.length)
    (hown : ∀ j, j < os.length → own[os.getD j 0]? = some ((obs.getD j .dead).ren (emb os own.length)))
    (hK : K (v0.ren (emb os own.length)) (setAll (own.map (Obj.killAll (mv0.map (emb os own.length)))) os (obs'.map (Obj.ren (emb os own.length))) ++ ex.map (Obj.ren (emb os own.length))) (mv0.map (emb os own.length))) : callw (tbl l) (.fn g []) args own K :=
  call_by (lentC R) hm _ _ _ ⟨os, as, obs, v0, obs', ex, mv0, hnd, hlt, h1, h2, hargs, hun, hob, hown, hR, rfl, rfl, rfl⟩ hK
@[go_sem] theorem resV_nil : resV [] = .tup [] := Eq.trans rfl rfl
attribute [go_sem] AV.ren AV.rens Obj.ren setAll
@[go_sem] theorem map_kill0 (own : List Obj) : own.map (Obj.killAll []) = own := by
  have : Obj.killAll [] = id := funext fun x => Obj.killAll_nil x
  rw [this, List.map_id]
end
end Go.AM

namespace Go.AM
open Go
def noGo (Q : Exit → S → Prop) : Exit → S → Prop := fun e s => match e with | .goto _ => False | e => Q e s
section
variable {P : Program} {Γ : Nat → Contract} {Q : Exit → S → Prop} {σ : S}
@[go_sem] theorem noGo_normal : noGo Q .normal σ = Q .normal σ := Eq.trans rfl rfl
@[go_sem] theorem noGo_ret : noGo Q .ret σ = Q .ret σ := Eq.trans rfl rfl
@[go_sem] theorem noGo_exit {i : Nat} : noGo Q (.exit i) σ = Q (.exit i) σ := Eq.trans rfl rfl
end
end Go.AM

namespace Go.AM
open Go

inductive DT where
  | fin
  | stop
  | one (p : Nat) (t : DT)
  | alt (x : Nat) (t u : DT)
deriving Inhabited

def DT.ops : DT → List Nat
  | .fin => []
  | .stop => []
  | .one p t => p :: t.ops
  | .alt x t _ => x :: t.ops
def DT.heads : DT → List Nat
  | .alt x _ u => x :: u.heads
  | _ => []

def sameSet (R L : List Nat) : Bool := decide (R.length = L.length) && R.all (fun i => L.contains i) && L.all (fun i => R.contains i) && nodupB L
theorem sameSet_spec {R L : List Nat} (h : sameSet R L = true) : R.length = L.length ∧ (∀ i, i ∈ R ↔ i ∈ L) ∧ L.Nodup := by
  simp only [sameSet, Bool.and_eq_true, decide_eq_true_eq, List.all_eq_true, List.contains_eq_mem] at h
  obtain ⟨⟨⟨h1, h2⟩, h3⟩, h4⟩ := h
  exact ⟨h1, fun i => ⟨fun hi => by simpa using h2 i hi, fun hi => by simpa using h3 i hi⟩, nodup_of h4⟩

section
variable {P : Program} {Γ : Nat → Contract} {own : List Obj} {ob ko : Nat}

def condX (ko : Nat) (o : Oper) (s : List AV) : Prop :=
  match o.op with
  | .call c => (match c.args.toList with | [x, _] => (match ev s x with | .sl o' _ _ => o' = ko | .nils => True | _ => False) | _ => False)
  | _ => condA ko o s
theorem condX_congr {o : Oper} {s s' : List AV} (h : ∀ x ∈ o.op.operands.toList, ev s' x = ev s x) (hc : condX ko o s) : condX ko o s' := by
  unfold condX at hc ⊢
  split
  · rename_i c hop
    rw [hop] at hc h
    simp only at hc
    split at hc
    · rename_i x y hargs
      rw [h x (by simp [Op.operands, Call.operands, hargs])]
      exact hc
    · exact hc.elim
  · rename_i hn
    split at hc
    · rename_i hop; exact (hn _ hop).elim
    · exact condA_congr h hc

def opx (P : Program) (Γ : Nat → Contract) (all : Array Oper) (ob ko : Nat) (m k : Bool) (o : Oper) (K : S → Prop) (σ : S) : Prop := ((m = true → condM ob o σ.slots) ∧ (k = true → condX ko o σ.slots)) ∧ opg P Γ all o K σ

theorem appendn_det {τ : Option Ty} {y : AV} {K : AV → List Obj → List Nat → Prop} (h : appendw P τ own .nils y K) :
    ∃ v obj', K v (own ++ [obj']) [] ∧ ∀ K' : AV → List Obj → List Nat → Prop, K' v (own ++ [obj']) [] → appendw P τ own .nils y K' := by
  unfold appendw at h ⊢
  simp only at h ⊢
  split at h
  · rename_i ys hys
    unfold appendNw at h ⊢
    split at h
    · split at h
      · split at h
        · obtain ⟨h1, h2, h3, h4, h5, h6⟩ := h
          exact ⟨_, _, h6, fun K' hK' => ⟨h1, h2, h3, h4, h5, hK'⟩⟩
        · exact h.elim
      · exact h.elim
    · exact h.elim
  · unfold appendRw at h ⊢
    split at h
    · split at h
      · split at h
        · obtain ⟨h1, h2, h3, h4, h5⟩ := h
          simp only at h5
          obtain ⟨g1, g2, g3⟩ := h5
          exact ⟨_, _, g3, fun K' hK' => ⟨h1, h2, h3, h4, g1, g2, hK'⟩⟩
        · exact h.elim
      · exact h.elim
    · exact h.elim

theorem appx_det {o : Oper} (hm : isApp o = true) {K : S → Prop} {σ : S} {all : Array Oper} (hc : condX ko o σ.slots) (h : opg P Γ all o K σ) :
    ∃ v own' kl, K (σ.effect o.dst v own' kl) ∧ ((kl = [] ∧ ∃ obj, own' = σ.own ++ [obj]) ∨ (kl = [ko] ∧ ∃ obj, own' = (σ.own.map (Obj.kill ko)).set ko obj)) ∧
      ∀ (K' : S → Prop) (σ' : S), σ'.own = σ.own → (∀ x ∈ o.op.operands.toList, ev σ'.slots x = ev σ.slots x) → K' (σ'.effect o.dst v own' kl) → opg P Γ all o K' σ' := by
  unfold isApp at hm
  split at hm
  · rename_i c hop hg
    split at hm
    · rename_i hcal
      unfold condX at hc
      rw [hop] at hc
      simp only at hc
      split at hc
      · rename_i x y hargs
        have e : ∀ (K : S → Prop) (σ : S), opg P Γ all o K σ = (match c.argTypes.toList with | [t, t'] => t = t' ∧ appendw P (tyOf P t) σ.own (ev σ.slots x) (ev σ.slots y) (PutE o.dst K σ) | _ => False) := fun K σ => by
          unfold opg
          rw [hg]
          simp only
          unfold opw
          rw [hop]
          simp only [isV, hcal, eop, Bool.false_eq_true, if_false, ecall, hargs]
          split <;> simp_all
        rw [e] at h
        split at h
        · rename_i t t' hts
          obtain ⟨ht, h⟩ := h
          have mem : ∀ z ∈ c.args.toList, z ∈ o.op.operands.toList := fun z hz => by
            rw [hop]
            simp [Op.operands, Call.operands, hcal, hz]
          split at hc
          · rename_i o' off len hx
            subst hc
            rw [hx] at h
            obtain ⟨v, obj', h1, h2⟩ := appendw_det h
            refine ⟨v, _, _, h1, .inr ⟨rfl, _, rfl⟩, fun K' σ' ho hxs hK' => ?_⟩
            rw [e, hts]
            simp only
            refine ⟨ht, ?_⟩
            rw [ho, hxs x (mem x (by rw [hargs]; simp)), hxs y (mem y (by rw [hargs]; simp)), hx]
            exact h2 _ hK'
          · rename_i hx
            rw [hx] at h
            obtain ⟨v, obj', h1, h2⟩ := appendn_det h
            refine ⟨v, _, _, h1, .inl ⟨rfl, _, rfl⟩, fun K' σ' ho hxs hK' => ?_⟩
            rw [e, hts]
            simp only
            refine ⟨ht, ?_⟩
            rw [ho, hxs x (mem x (by rw [hargs]; simp)), hxs y (mem y (by rw [hargs]; simp)), hx]
            exact h2 _ hK'
          · exact hc.elim
        · exact h.elim
      · exact hc.elim
    · cases hm
  · cases hm

theorem swapG {pf : List Nat} (hpf : PureFns Γ pf) {all : Array Oper} {p i : Oper} (hp : vlike pf p = true) (hap : p.apart all i = true) {K : S → Prop} {σ : S} {Cp Ci : List AV → Prop}
    (hCp : ∀ s s', (∀ x ∈ p.op.operands.toList, ev s' x = ev s x) → Cp s → Cp s') (hCi : ∀ s s', (∀ x ∈ i.op.operands.toList, ev s' x = ev s x) → Ci s → Ci s')
    (hi : ∀ (K : S → Prop) (σ' : S), σ'.own = σ.own → Cp σ.slots → Ci σ'.slots → opg P Γ all i K σ' → ∃ (v : AV) (own' : List Obj) (kl : List Nat) (kv : AV → AV), K (σ'.effect i.dst v own' kl) ∧
      (∀ (K' : S → Prop) (σ'' : S), σ''.own = σ'.own → (∀ x ∈ i.op.operands.toList, ev σ''.slots x = ev σ'.slots x) → K' (σ''.effect i.dst v own' kl) → opg P Γ all i K' σ'') ∧
      (∀ (s : List AV) (d : Nat) (u : AV), killAll kl (s.set d u) = (killAll kl s).set d (kv u)) ∧ Cp (killAll kl σ.slots) ∧
      (∀ vp, vG P Γ pf all p σ.slots σ.own (fun v => v = vp) → vG P Γ pf all p (killAll kl σ.slots) own' (fun v => v = kv vp)))
    (h : Cp σ.slots ∧ opg P Γ all p (fun σ => Ci σ.slots ∧ opg P Γ all i K σ) σ) : Ci σ.slots ∧ opg P Γ all i (fun σ => Cp σ.slots ∧ opg P Γ all p K σ) σ := by
  obtain ⟨h1, h2, h3⟩ := Oper.apart_spec hap
  obtain ⟨cp, h⟩ := h
  rw [opg_vG hpf hp] at h
  obtain ⟨vp, ⟨ci, hk⟩, hyp⟩ := vG_det pf all p σ.slots σ.own _ h
  have hops : ∀ x ∈ i.op.operands.toList, ev σ.slots x = ev (σ.put p.dst vp).slots x := fun x hx => by
    cases hd : p.dst with
    | none => rfl
    | some d =>
      simp only [S.put]
      rw [ev_set (fun e => h1 d hd (looks_op (e ▸ hx)))]
  obtain ⟨vi, own', kl, kv, hk2, hyi, hkl, hck, hst⟩ := hi _ _ (put_own σ p.dst vp).1 cp ci hk
  refine ⟨hCi _ _ hops ci, hyi _ σ (put_own σ p.dst vp).1.symm hops ⟨?_, ?_⟩⟩
  · refine hCp _ _ (fun x hx => ?_) hck
    unfold S.effect
    cases hd : i.dst with
    | none => rfl
    | some d =>
      simp only [S.put]
      rw [ev_set (fun e => h3 d hd (looks_op (e ▸ hx)))]
  · rw [opg_vG hpf hp]
    have e : ∀ k, vG P Γ pf all p (σ.effect i.dst vi own' kl).slots (σ.effect i.dst vi own' kl).own k = vG P Γ pf all p (killAll kl σ.slots) own' k := by
      intro k
      unfold S.effect
      exact vG_put (P := P) (Γ := Γ) (pf := pf) (all := all) (o := p) (o' := i) (σ := { slots := killAll kl σ.slots, own := own', n0 := σ.n0, mv := addMv σ.n0 σ.mv kl }) (u := vi) (k := k) h3
    rw [e]
    have hv := hst vp (hyp (fun v => v = vp) rfl)
    obtain ⟨v', hvv, hy2⟩ := vG_det pf all p _ _ _ hv
    subst hvv
    refine hy2 _ ?_
    have e2 : (σ.effect i.dst vi own' kl).put p.dst (kv vp) = (σ.put p.dst vp).effect i.dst vi own' kl := by
      unfold S.effect
      have := put_comm { slots := killAll kl σ.slots, own := own', n0 := σ.n0, mv := addMv σ.n0 σ.mv kl } (x := p.dst) (y := i.dst) (kv vp) vi h2
      rw [← this]
      congr 1
      cases hd : p.dst with
      | none => rfl
      | some d => simp only [S.put, hkl]
    rw [e2]
    exact hk2

def isMov (o : Oper) : Bool :=
  match o.op, o.guard with
  | .move _, none | .assign _, none => true
  | _, _ => false
def isEff (o : Oper) : Bool :=
  match o.op, o.guard with
  | .store _ _ _, none | .mapUpdate _ _ _ _, none | .insert _ _ _ _, none => true
  | .call c, none => (match c.callee with | .builtin .copy => true | _ => false)
  | _, _ => false
theorem storew_det {τ : Option Ty} {a x : AV} {K : AV → List Obj → List Nat → Prop} (h : storew τ own a x K) : ∃ v own', K v own' [] ∧ ∀ K' : AV → List Obj → List Nat → Prop, K' v own' [] → storew τ own a x K' := by
  unfold storew at h ⊢
  split at h
  · obtain ⟨obj', h1, h2⟩ := storeObj_det h
    exact ⟨_, _, h1, fun K' hK' => h2 _ hK'⟩
  · exact h.elim
theorem mapUpdatew_det {τ : Option Ty} {x k v : AV} {K : AV → List Obj → List Nat → Prop} (h : mapUpdatew P τ own x k v K) : ∃ v' own', K v' own' [] ∧ ∀ K' : AV → List Obj → List Nat → Prop, K' v' own' [] → mapUpdatew P τ own x k v K' := by
  unfold mapUpdatew at h ⊢
  split at h
  · split at h
    · rename_i e1 _ _
      split at h
      · rename_i e2 e3 e4
        obtain ⟨h1, h2, h3⟩ := h
        refine ⟨_, _, h3, fun K' hK' => ?_⟩
        exact ⟨h1, h2, hK'⟩
      · exact h.elim
    · exact h.elim
  · exact h.elim
theorem copyw_det {τ : Option Ty} {x y : AV} {K : AV → List Obj → List Nat → Prop} (h : copyw P τ own x y K) : ∃ v' own', K v' own' [] ∧ ∀ K' : AV → List Obj → List Nat → Prop, K' v' own' [] → copyw P τ own x y K' := by
  unfold copyw at h ⊢
  split at h
  · split at h
    · split at h
      · obtain ⟨h1, h2, h3⟩ := h
        split at h3
        · split at h3
          · obtain ⟨h4, h5, h6⟩ := h3
            exact ⟨_, _, h6, fun K' hK' => ⟨h1, h2, h4, h5, hK'⟩⟩
          · exact h3.elim
        · exact h3.elim
      · exact h.elim
    · exact h.elim
  · exact h.elim
theorem eff_det {o : Oper} (hm : isEff o = true) {K : S → Prop} {σ : S} {all : Array Oper} (h : opg P Γ all o K σ) :
    ∃ v own', K (σ.effect o.dst v own' []) ∧ Eff P Γ all o σ v own' := by
  unfold isEff at hm
  split at hm
  · rename_i t a x hop hg
    have e : ∀ (K : S → Prop) (σ : S), opg P Γ all o K σ = storew (tyOf P t) σ.own (ev σ.slots a) (ev σ.slots x) (PutE o.dst K σ) := fun K σ => by
      unfold opg; rw [hg]; simp only; unfold opw
      simp only [hop, isV, Bool.false_eq_true, if_false, eop]
    rw [e] at h
    obtain ⟨v, own', h1, h2⟩ := storew_det h
    refine ⟨v, own', h1, fun K' σ' ho hx hK' => ?_⟩
    rw [e, hx a (by rw [hop]; simp [Op.operands]), hx x (by rw [hop]; simp [Op.operands]), ho]
    exact h2 _ hK'
  · rename_i t m k x hop hg
    have e : ∀ (K : S → Prop) (σ : S), opg P Γ all o K σ = mapUpdatew P (tyOf P t) σ.own (ev σ.slots m) (ev σ.slots k) (ev σ.slots x) (PutE o.dst K σ) := fun K σ => by
      unfold opg; rw [hg]; simp only; unfold opw
      simp only [hop, isV, Bool.false_eq_true, if_false, eop]
    rw [e] at h
    obtain ⟨v, own', h1, h2⟩ := mapUpdatew_det h
    refine ⟨v, own', h1, fun K' σ' ho hx hK' => ?_⟩
    rw [e, hx m (by rw [hop]; simp [Op.operands]), hx k (by rw [hop]; simp [Op.operands]), hx x (by rw [hop]; simp [Op.operands]), ho]
    exact h2 _ hK'
  · rename_i t m k x hop hg
    have e : ∀ (K : S → Prop) (σ : S), opg P Γ all o K σ = mapUpdatew P (tyOf P t) σ.own (ev σ.slots m) (ev σ.slots k) (ev σ.slots x) (PutE o.dst K σ) := fun K σ => by
      unfold opg; rw [hg]; simp only; unfold opw
      simp only [hop, isV, Bool.false_eq_true, if_false, eop]
    rw [e] at h
    obtain ⟨v, own', h1, h2⟩ := mapUpdatew_det h
    refine ⟨v, own', h1, fun K' σ' ho hx hK' => ?_⟩
    rw [e, hx m (by rw [hop]; simp [Op.operands]), hx k (by rw [hop]; simp [Op.operands]), hx x (by rw [hop]; simp [Op.operands]), ho]
    exact h2 _ hK'
  · rename_i c hop hg
    split at hm
    · rename_i hcal
      have e : ∀ (K : S → Prop) (σ : S), opg P Γ all o K σ = (match c.args.toList, c.argTypes.toList with | [x, y], [t, _] => copyw P (tyOf P t) σ.own (ev σ.slots x) (ev σ.slots y) (PutE o.dst K σ) | _, _ => False) := fun K σ => by
        unfold opg; rw [hg]; simp only; unfold opw
        rw [hop]
        simp only [isV, hcal, eop, Bool.false_eq_true, if_false]
        unfold ecall
        split <;> first | (simp_all; done) | skip
        split <;> first | (simp_all; done) | skip
        rename_i hno _ _ _ _ _ _ h1 h2
        exact (hno _ _ _ _ rfl h1 h2).elim
      rw [e] at h
      split at h
      · rename_i x y t t' ha ht
        obtain ⟨v, own', h1, h2⟩ := copyw_det h
        refine ⟨v, own', h1, fun K' σ' ho hx hK' => ?_⟩
        have mem : ∀ z ∈ c.args.toList, z ∈ o.op.operands.toList := fun z hz => by
          rw [hop]
          simp [Op.operands, Call.operands, hcal, hz]
        rw [e, ha, ht]
        simp only
        rw [hx x (mem x (by rw [ha]; simp)), hx y (mem y (by rw [ha]; simp)), ho]
        exact h2 _ hK'
      · exact h.elim
    · cases hm
  · cases hm
theorem mov_own {pf : List Nat} {all : Array Oper} {o : Oper} (hm : isMov o = true) {s : List AV} {own own' : List Obj} {k : AV → Prop} (h : vG P Γ pf all o s own k) : vG P Γ pf all o s own' k := by
  unfold isMov at hm
  split at hm
  · rename_i x hop hg
    unfold vG vB at h ⊢
    rw [hg] at h ⊢
    simp only [hop, isV, if_true, vop] at h ⊢
    exact h
  · rename_i x hop hg
    unfold vG vB at h ⊢
    rw [hg] at h ⊢
    simp only [hop, isV, if_true, vop] at h ⊢
    exact h
  · cases hm
theorem mov_v {o : Oper} (hm : isMov o = true) : isV o.op = true := by
  unfold isMov at hm
  split at hm
  · rename_i x hop hg; rw [hop]; rfl
  · rename_i x hop hg; rw [hop]; rfl
  · cases hm

def swapOkX (pf mf ms ks : List Nat) (ops : Array Oper) (p i : Nat) : Bool :=
  match ops[p]?, ops[i]? with
  | some op, some oi => op.apart ops oi && ((vlike pf op && vlike pf oi) || (isV op.op && (isMk mf oi || isLit oi)) || (isV op.op && ms.contains p && isStore oi && ms.contains i) || (isQ op && isV op.op && ks.contains p && isApp oi && ks.contains i && !ms.contains p) || (isMov op && isEff oi))
  | _, _ => false

theorem swap_vvx {pf : List Nat} (hpf : PureFns Γ pf) {all : Array Oper} {p i : Oper} (hp : vlike pf p = true) (hi : vlike pf i = true) (hap : p.apart all i = true) {Cp Ci : List AV → Prop} {K : S → Prop} {σ : S}
    (hCp : ∀ s s', (∀ x ∈ p.op.operands.toList, ev s' x = ev s x) → Cp s → Cp s') (hCi : ∀ s s', (∀ x ∈ i.op.operands.toList, ev s' x = ev s x) → Ci s → Ci s')
    (h : Cp σ.slots ∧ opg P Γ all p (fun σ => Ci σ.slots ∧ opg P Γ all i K σ) σ) : Ci σ.slots ∧ opg P Γ all i (fun σ => Cp σ.slots ∧ opg P Γ all p K σ) σ := by
  obtain ⟨h1, h2, h3⟩ := Oper.apart_spec hap
  obtain ⟨cp, h⟩ := h
  rw [opg_vG hpf hp] at h
  obtain ⟨vp, ⟨ci, hk⟩, hyp⟩ := vG_det pf all p σ.slots σ.own _ h
  rw [opg_vG hpf hi, vG_put h1] at hk
  obtain ⟨vi, hk2, hyi⟩ := vG_det pf all i σ.slots σ.own _ hk
  have sameOps : ∀ (a b : Oper) (v : AV), (∀ d, a.dst = some d → d ∉ b.looksAt all) → ∀ x ∈ b.op.operands.toList, ev (σ.put a.dst v).slots x = ev σ.slots x := fun a b v hab x hx => by
    cases hd : a.dst with
    | none => rfl
    | some d =>
      simp only [S.put]
      rw [ev_set (fun e => hab d hd (looks_op (e ▸ hx)))]
  refine ⟨hCi _ _ (fun x hx => (sameOps p i vp h1 x hx).symm) ci, ?_⟩
  rw [opg_vG hpf hi]
  refine hyi _ ⟨hCp _ _ (sameOps i p vi h3) cp, ?_⟩
  rw [opg_vG hpf hp, vG_put h3]
  refine hyp _ ?_
  rw [← put_comm σ vp vi h2]
  exact hk2

theorem killAll_nil (s : List AV) : killAll [] s = s := rfl
theorem killAll_one (o : Nat) (s : List AV) : killAll [o] s = AV.kills o s := rfl

theorem swapX {pf mf ms ks : List Nat} (hpf : PureFns Γ pf) (hmf : MakeFns Γ mf) {ops : Array Oper} {p i : Nat} {op oi : Oper} (hop : ops[p]? = some op) (hi : ops[i]? = some oi) (hp : swapOkX pf mf ms ks ops p i = true) {K : S → Prop} {σ : S}
    (h : opx P Γ ops ob ko (ms.contains p) (ks.contains p) op (opx P Γ ops ob ko (ms.contains i) (ks.contains i) oi K) σ) : opx P Γ ops ob ko (ms.contains i) (ks.contains i) oi (opx P Γ ops ob ko (ms.contains p) (ks.contains p) op K) σ := by
  unfold swapOkX at hp
  rw [hi, hop] at hp
  simp only [Bool.and_eq_true, Bool.or_eq_true] at hp
  obtain ⟨hap, hk⟩ := hp
  have hC : ∀ (o : Oper) (m k : Bool) (s s' : List AV), (∀ x ∈ o.op.operands.toList, ev s' x = ev s x) → ((m = true → condM ob o s) ∧ (k = true → condX ko o s)) → ((m = true → condM ob o s') ∧ (k = true → condX ko o s')) := fun o m k s s' hx hc => ⟨fun hm => condM_congr hx (hc.1 hm), fun hk => condX_congr hx (hc.2 hk)⟩
  have same : ∀ (vp : AV) (ex : List Obj), isV op.op = true → vG P Γ pf ops op σ.slots σ.own (fun v => v = vp) → vG P Γ pf ops op (killAll [] σ.slots) (σ.own ++ ex) (fun v => v = vp) := fun vp ex hv hg => vG_mores hv ex _ hg
  rcases hk with (((hk | hk) | hk) | hk) | hk
  · exact swap_vvx hpf hk.1 hk.2 hap (hC op _ _) (hC oi _ _) h
  · refine swapG hpf (by simp [vlike, hk.1]) hap (hC op _ _) (hC oi _ _) (fun K σ' ho cp ci hh => ?_) h
    have hdet : ∃ v ex, K (σ'.effect oi.dst v (σ'.own ++ ex) []) ∧ Eff P Γ ops oi σ' v (σ'.own ++ ex) := by
      rcases hk.2 with hm | hl
      · exact mk_det hmf hm hh
      · exact lit_det hl hh
    obtain ⟨v, ex, g1, g2⟩ := hdet
    exact ⟨v, _, [], id, g1, g2, fun s d u => rfl, cp, fun vp hg => by rw [ho]; exact same vp ex hk.1 hg⟩
  · refine swapG hpf (by simp [vlike, hk.1.1.1]) hap (hC op _ _) (hC oi _ _) (fun K σ' ho cp ci hh => ?_) h
    obtain ⟨obj', g1, g2⟩ := store_det hk.1.2 (ci.1 hk.2) hh
    exact ⟨.top, _, [], id, g1, g2, fun s d u => rfl, cp, fun vp hg => by rw [ho]; exact vG_setOwn hk.1.1.1 (cp.1 hk.1.1.2) hg⟩
  · obtain ⟨⟨⟨⟨⟨q1, q2⟩, q3⟩, q4⟩, q5⟩, q6⟩ := hk
    have q6 : ms.contains p = false := by simpa using q6
    refine swapG hpf (by simp [vlike, q2]) hap (hC op _ _) (hC oi _ _) (fun K σ' ho cp ci hh => ?_) h
    obtain ⟨v, own', kl, g1, g2, g3⟩ := appx_det q4 (ci.2 q5) hh
    rcases g2 with ⟨rfl, obj, rfl⟩ | ⟨rfl, obj, rfl⟩
    · exact ⟨v, _, [], id, g1, g3, fun s d u => rfl, cp, fun vp hg => by rw [ho]; exact same vp _ q2 hg⟩
    · have hg : op.guard = none := by
        unfold isQ at q1
        split at q1 <;> first | assumption | cases q1
      have hcA : condA ko op σ.slots := by
        have := cp.2 q3
        unfold condX at this
        split at this
        · rename_i c hopc
          unfold isQ at q1
          rw [hopc] at q1
          cases q1
        · exact this
      have eG : ∀ (s : List AV) (own : List Obj) (k : AV → Prop), vG P Γ pf ops op s own k = vop P own s op.op k := fun s own k => by
        unfold vG vB
        rw [hg]
        simp only [q2, if_true]
      refine ⟨v, _, [ko], AV.kill ko, g1, g3, fun s d u => by rw [killAll_one, killAll_one, kills_put], ⟨fun hm => (by rw [q6] at hm; cases hm), fun _ => ?_⟩, fun vp hvg => ?_⟩
      · rw [killAll_one]
        have := condA_kills q1 hcA
        unfold condX
        split
        · rename_i c hopc
          unfold isQ at q1
          rw [hopc] at q1
          cases q1
        · exact this
      · rw [eG] at hvg
        rw [eG, killAll_one, ho]
        have := vop_kill q1 (obj' := obj) hcA hvg
        obtain ⟨v', ⟨u, rfl, rfl⟩, hy⟩ := vop_det _ op.op _ this
        exact hy _ rfl
  · refine swapG hpf (by simp [vlike, mov_v hk.1]) hap (hC op _ _) (hC oi _ _) (fun K σ' ho cp ci hh => ?_) h
    obtain ⟨v, own', g1, g2⟩ := eff_det hk.2 hh
    exact ⟨v, own', [], id, g1, g2, fun s d u => rfl, cp, fun vp hg => mov_own hk.1 hg⟩
end

def okG (pf mf ms ks : List Nat) (ops : Array Oper) : DT → Option (List Nat) → Bool
  | .fin, none => true
  | .stop, some _ => true
  | .one p t, none => (t.ops.all fun i => Region.waitsFor .any ops i p || swapOkX pf mf ms ks ops p i) && okG pf mf ms ks ops t none
  | .alt x t u, none => okG pf mf ms ks ops t none && okG pf mf ms ks ops u (some (x :: t.ops)) && ((x :: t.ops).all fun i => (x :: u.heads).contains i || (x :: t.ops).any fun j => Region.waitsFor .any ops i j)
  | .alt x t u, some R => okG pf mf ms ks ops t none && sameSet R (x :: t.ops) && okG pf mf ms ks ops u (some R)
  | _, _ => false

def bubT (pf mf ms ks : List Nat) (ops : Array Oper) (i : Nat) : DT → Option DT
  | .one p t => if p = i then some t else if swapOkX pf mf ms ks ops p i = true then (bubT pf mf ms ks ops i t).map (.one p) else none
  | .alt x t u => if x = i then some t else bubT pf mf ms ks ops i u
  | _ => none

section
variable {P : Program} {Γ : Nat → Contract} {ob ko : Nat}

def chT (P : Program) (Γ : Nat → Contract) (ops : Array Oper) (ob ko : Nat) (ms ks : List Nat) (Q : Exit → S → Prop) : DT → S → Prop
  | .fin, σ => Q .normal σ
  | .stop, _ => True
  | .one p t, σ => (match ops[p]? with | some o => opx P Γ ops ob ko (ms.contains p) (ks.contains p) o (chT P Γ ops ob ko ms ks Q t) σ | none => False)
  | .alt x t u, σ => (match ops[x]? with | some o => opx P Γ ops ob ko (ms.contains x) (ks.contains x) o (chT P Γ ops ob ko ms ks Q t) σ | none => False) ∧ chT P Γ ops ob ko ms ks Q u σ

theorem swap_v {pf mf ms ks : List Nat} {ops : Array Oper} {p i : Nat} {op oi : Oper} (hop : ops[p]? = some op) (hi : ops[i]? = some oi) (hp : swapOkX pf mf ms ks ops p i = true) : vlike pf op = true := by
  unfold swapOkX at hp
  rw [hi, hop] at hp
  simp only [Bool.and_eq_true, Bool.or_eq_true] at hp
  rcases hp.2 with (((hk | hk) | hk) | hk) | hk
  · exact hk.1
  · simp [vlike, hk.1]
  · simp [vlike, hk.1.1.1]
  · simp [vlike, hk.1.1.1.1.2]
  · simp [vlike, mov_v hk.1]

theorem bubT_ok {pf mf ms ks : List Nat} (hpf : PureFns Γ pf) (hmf : MakeFns Γ mf) {ops : Array Oper} {Q : Exit → S → Prop} {i : Nat} {oi : Oper} (hi : ops[i]? = some oi) : ∀ (T T' : DT) (σ : S), bubT pf mf ms ks ops i T = some T' → chT P Γ ops ob ko ms ks Q T σ → opx P Γ ops ob ko (ms.contains i) (ks.contains i) oi (chT P Γ ops ob ko ms ks Q T') σ
  | .fin, T', σ, h, _ => by simp [bubT] at h
  | .stop, T', σ, h, _ => by simp [bubT] at h
  | .one p t, T', σ, h, hc => by
    simp only [bubT] at h
    simp only [chT] at hc
    by_cases e : p = i
    · subst e
      rw [if_pos rfl] at h
      cases h
      rw [hi] at hc
      exact hc
    · rw [if_neg e] at h
      split at h
      · rename_i hsw
        obtain ⟨t', ht, rfl⟩ := Option.map_eq_some_iff.1 h
        split at hc
        · rename_i op hop
          have hv := swap_v hop hi hsw
          have h' : opx P Γ ops ob ko (ms.contains p) (ks.contains p) op (opx P Γ ops ob ko (ms.contains i) (ks.contains i) oi (chT P Γ ops ob ko ms ks Q t')) σ :=
            ⟨hc.1, chain_mono hpf hv (fun σ' hσ' => bubT_ok hpf hmf hi t t' σ' ht hσ') hc.2⟩
          have := swapX hpf hmf hop hi hsw h'
          have e2 : chT P Γ ops ob ko ms ks Q (.one p t') = opx P Γ ops ob ko (ms.contains p) (ks.contains p) op (chT P Γ ops ob ko ms ks Q t') := by funext s; simp only [chT, hop]
          rw [e2]
          exact this
        · exact hc.elim
      · cases h
  | .alt x t u, T', σ, h, hc => by
    simp only [bubT] at h
    simp only [chT] at hc
    by_cases e : x = i
    · subst e
      rw [if_pos rfl] at h
      cases h
      have h1 := hc.1
      rw [hi] at h1
      exact h1
    · rw [if_neg e] at h
      exact bubT_ok hpf hmf hi u T' σ h hc.2

theorem bub_total {pf mf ms ks : List Nat} {ops : Array Oper} {i : Nat} : ∀ (T : DT),
    (okG pf mf ms ks ops T none = true → T.ops.Nodup → i ∈ T.ops → (∀ p ∈ T.ops, Region.waitsFor .any ops i p = false) → ∃ T', bubT pf mf ms ks ops i T = some T' ∧ okG pf mf ms ks ops T' none = true ∧ (∀ j, j ∈ T'.ops ↔ j ∈ T.ops ∧ j ≠ i) ∧ T'.ops.length + 1 = T.ops.length ∧ T'.ops.Nodup) ∧
    (∀ R, okG pf mf ms ks ops T (some R) = true → i ∈ T.heads → ∃ T', bubT pf mf ms ks ops i T = some T' ∧ okG pf mf ms ks ops T' none = true ∧ (∀ j, j ∈ T'.ops ↔ j ∈ R ∧ j ≠ i) ∧ T'.ops.length + 1 = R.length ∧ T'.ops.Nodup)
  | .fin => ⟨fun _ _ h => by simp [DT.ops] at h, fun R h => by simp [okG] at h⟩
  | .stop => ⟨fun h => by simp [okG] at h, fun R _ h => by simp [DT.heads] at h⟩
  | .one p t => by
    refine ⟨fun h hn hm hw => ?_, fun R h => by simp [okG] at h⟩
    simp only [okG, Bool.and_eq_true] at h
    simp only [DT.ops] at hn hm hw
    obtain ⟨n1, n2⟩ := List.nodup_cons.1 hn
    by_cases e : p = i
    · subst e
      refine ⟨t, by simp [bubT], h.2, fun j => ?_, by simp [DT.ops], n2⟩
      simp only [DT.ops, List.mem_cons]
      constructor
      · intro hj; exact ⟨.inr hj, fun ej => n1 (ej ▸ hj)⟩
      · rintro ⟨hj | hj, hne⟩
        · exact (hne hj).elim
        · exact hj
    · have hmt : i ∈ t.ops := by
        rcases List.mem_cons.1 hm with h1 | h1
        · exact (e h1.symm).elim
        · exact h1
      obtain ⟨T', b1, b2, b3, b4, b5⟩ := (bub_total (i := i) t).1 h.2 n2 hmt (fun q hq => hw q (by simp [hq]))
      have hsw : swapOkX pf mf ms ks ops p i = true := by
        have := List.all_eq_true.1 h.1 i hmt
        rw [hw p (by simp)] at this
        simpa using this
      refine ⟨.one p T', by simp [bubT, e, hsw, b1], ?_, fun j => ?_, by simp only [DT.ops, List.length_cons]; omega, ?_⟩
      · simp only [okG, Bool.and_eq_true]
        exact ⟨List.all_eq_true.2 fun j hj => List.all_eq_true.1 h.1 j ((b3 j).1 hj).1, b2⟩
      · simp only [DT.ops, List.mem_cons, b3]
        constructor
        · rintro (rfl | ⟨h1, h2⟩)
          · exact ⟨.inl rfl, e⟩
          · exact ⟨.inr h1, h2⟩
        · rintro ⟨h1 | h1, h2⟩
          · exact .inl h1
          · exact .inr ⟨h1, h2⟩
      · exact List.nodup_cons.2 ⟨fun hp => n1 ((b3 p).1 hp).1, b5⟩
  | .alt x t u => by
    refine ⟨fun h hn hm hw => ?_, fun R h hm => ?_⟩
    · simp only [okG, Bool.and_eq_true] at h
      obtain ⟨⟨h1, h2⟩, h3⟩ := h
      simp only [DT.ops] at hn hm hw
      obtain ⟨n1, n2⟩ := List.nodup_cons.1 hn
      have hhead : i ∈ x :: u.heads := by
        have := List.all_eq_true.1 h3 i hm
        rcases Bool.or_eq_true_iff.1 this with h4 | h4
        · simpa using h4
        · obtain ⟨j, hj, hwj⟩ := List.any_eq_true.1 h4
          rw [hw j hj] at hwj
          cases hwj
      by_cases e : x = i
      · subst e
        refine ⟨t, by simp [bubT], h1, fun j => ?_, by simp [DT.ops], n2⟩
        simp only [DT.ops, List.mem_cons]
        constructor
        · intro hj; exact ⟨.inr hj, fun ej => n1 (ej ▸ hj)⟩
        · rintro ⟨hj | hj, hne⟩
          · exact (hne hj).elim
          · exact hj
      · have hu : i ∈ u.heads := by
          rcases List.mem_cons.1 hhead with h4 | h4
          · exact (e h4.symm).elim
          · exact h4
        obtain ⟨T', b1, b2, b3, b4, b5⟩ := (bub_total (i := i) u).2 (x :: t.ops) h2 hu
        exact ⟨T', by simp [bubT, e, b1], b2, fun j => by simp only [DT.ops]; exact b3 j, by simpa only [DT.ops] using b4, b5⟩
    · simp only [okG, Bool.and_eq_true] at h
      obtain ⟨⟨h1, h2⟩, h3⟩ := h
      obtain ⟨s1, s2, s3⟩ := sameSet_spec h2
      obtain ⟨n1, n2⟩ := List.nodup_cons.1 s3
      by_cases e : x = i
      · subst e
        refine ⟨t, by simp [bubT], h1, fun j => ?_, by simpa using s1.symm, n2⟩
        rw [s2 j]
        simp only [List.mem_cons]
        constructor
        · intro hj; exact ⟨.inr hj, fun ej => n1 (ej ▸ hj)⟩
        · rintro ⟨hj | hj, hne⟩
          · exact (hne hj).elim
          · exact hj
      · have hu : i ∈ u.heads := by
          rcases List.mem_cons.1 (show i ∈ x :: u.heads from hm) with h4 | h4
          · exact (e h4.symm).elim
          · exact h4
        obtain ⟨T', b1, b2, b3, b4, b5⟩ := (bub_total (i := i) u).2 R h3 hu
        exact ⟨T', by simp [bubT, e, b1], b2, b3, b4, b5⟩

theorem okG_fin {pf mf ms ks : List Nat} {ops : Array Oper} {T : DT} (h : okG pf mf ms ks ops T none = true) (he : T.ops = []) : T = .fin := by
  cases T with
  | fin => rfl
  | stop => simp [okG] at h
  | one p t => simp [DT.ops] at he
  | alt x t u => simp [DT.ops] at he

theorem wpAny_of_T {pf mf ms ks : List Nat} (hΓ : OkG P Γ) (hpf : PureFns Γ pf) (hmf : MakeFns Γ mf) {ops : Array Oper} {Q : Exit → S → Prop} (hback : backOk ops = true) (hedges : edgesOk ops = true) {c : Ctx} : ∀ (fuel : Nat) (T : DT) (listed : Array Bool) (σ : S) (a : Act) (w : World), listed.size = ops.size →
    okG pf mf ms ks ops T none = true → T.ops.Nodup → (∀ i, i < ops.size → (listed.getD i true = false ↔ i ∈ T.ops)) → (∀ i ∈ T.ops, i < ops.size) → T.ops.length ≤ fuel → St c σ a w → chT P Γ ops ob ko ms ks Q T σ → wpAny P .any ops (lift c Q) fuel listed a w := by
  intro fuel
  induction fuel with
  | zero =>
    intro T listed σ a w hsz hok hnd hset hlt hf hst hch
    have he : T.ops = [] := List.eq_nil_of_length_eq_zero (by omega)
    obtain rfl := okG_fin hok he
    refine ⟨?_, ⟨σ, hst, hch⟩⟩
    rw [List.eq_nil_iff_forall_not_mem]
    intro i hi
    obtain ⟨g1, o, g2, _⟩ := mem_ready.1 hi
    have hi' : i < ops.size := (Array.getElem?_eq_some_iff.1 g2).1
    have := (hset i hi').1 g1
    rw [he] at this
    cases this
  | succ fuel ih =>
    intro T listed σ a w hsz hok hnd hset hlt hf hst hch
    refine ⟨fun hr => ?_, fun i hi => ?_⟩
    · have he : T.ops = [] := by
        rw [List.eq_nil_iff_forall_not_mem]
        intro i hi
        have h1 := ready_nil hback hedges hsz hr i (hlt i hi)
        rw [(hset i (hlt i hi)).2 hi] at h1
        cases h1
      obtain rfl := okG_fin hok he
      exact ⟨σ, hst, hch⟩
    · obtain ⟨g1, o, g2, g3⟩ := mem_ready.1 hi
      have hi' : i < ops.size := (Array.getElem?_eq_some_iff.1 g2).1
      have him := (hset i hi').1 g1
      obtain ⟨T', b1, b2, b3, b4, b5⟩ := (bub_total (i := i) T).1 hok hnd him (fun p hp => not_waits g2 g3 ((hset p (hlt p hp)).2 hp))
      have hb := bubT_ok hpf hmf g2 T T' σ b1 hch
      have hset' : ∀ j, j < ops.size → ((listed.setIfInBounds i true).getD j true = false ↔ j ∈ T'.ops) := fun j hj => by
        rw [b3 j]
        by_cases e : i = j
        · subst e
          simp [hsz, hi']
        · have e' : j ≠ i := fun h => e h.symm
          have h1 : (listed.setIfInBounds i true).getD j true = listed.getD j true := by simp [Array.getElem?_setIfInBounds_ne e]
          rw [h1, hset j hj]
          simp [e']
      have hlt' : ∀ j ∈ T'.ops, j < ops.size := fun j hj => hlt j ((b3 j).1 hj).1
      unfold wpOp
      simp only [g2]
      rcases opg_sound hΓ (Q := lift c Q) hst hb.2 with ⟨hw, hwp⟩ | ⟨hw, σ', hst', hK⟩
      · rw [if_pos hw]
        refine .inl (Oper.wp_mono ?_ hwp)
        rintro a' w' ⟨σ', hst', hK⟩
        exact ih T' _ σ' a' w' (by simp [hsz]) b2 b5 hset' hlt' (by omega) hst' hK
      · rw [if_neg (by simp [hw])]
        exact ih T' _ σ' _ w (by simp [hsz]) b2 b5 hset' hlt' (by omega) hst' hK

def drawOkT (pf mf ms ks : List Nat) (ops : Array Oper) (T : DT) : Bool := okG pf mf ms ks ops T none && backOk ops && edgesOk ops && allOf ops.size T.ops && nodupB T.ops

theorem sem_drawT {pf mf ms ks : List Nat} (hm : P.follows .mixedOrders = true) (hΓ : OkG P Γ) (hpf : PureFns Γ pf) (hmf : MakeFns Γ mf) {id : Nat} {ops : Array Oper} {Q : Exit → S → Prop} {σ : S} (T : DT) (hok : drawOkT pf mf ms ks ops T = true)
    (h : chT P Γ ops ob ko ms ks Q T σ) : sem P (.region id ops true) Q σ := by
  intro c a w hst
  refine wp_region_any hm ?_
  have hst' : St c σ a { w with drawn := w.drawn + 1 } := by
    obtain ⟨hd, hn, F, φ, h2, h3, h4⟩ := hst
    refine ⟨hd, hn, F, φ, ⟨h2.sub, ⟨h2.ext.os, h2.ext.tape, h2.ext.output, h2.ext.size, h2.ext.same⟩, h2.keep, h2.rest, h2.orig, h2.frsh⟩, h3.drew, ?_⟩
    exact AV.Rs_mono (fun _ h => h) same_drew (fun _ _ h => h) _ _ h4
  simp only [drawOkT, Bool.and_eq_true] at hok
  obtain ⟨⟨⟨⟨h1, h2⟩, h3⟩, h4⟩, h5⟩ := hok
  simp only [allOf, Bool.and_eq_true, List.all_eq_true, List.mem_range, List.contains_eq_mem, decide_eq_true_eq] at h4
  obtain ⟨⟨m1, m2⟩, m3⟩ := h4
  refine wpAny_of_T hΓ hpf hmf h2 h3 ops.size T _ σ a _ (by simp) h1 (nodup_of h5) (fun i hi => ?_) m3 (by omega) hst' h
  simp [hi, m1 i hi]
end
end Go.AM

namespace Go.AM
open Go

mutual
def D.eqB : D → D → Bool
  | .int k n, .int k' n' => decide (k = k') && decide (n = n')
  | .bool b, .bool b' => decide (b = b')
  | .str s, .str s' => decide (s = s')
  | .sl ag xs, .sl ag' xs' => decide (ag = ag') && D.eqBs xs xs'
  | .agg ds, .agg ds' => D.eqBs ds ds'
  | _, _ => false
def D.eqBs : List D → List D → Bool
  | [], [] => true
  | d :: ds, d' :: ds' => D.eqB d d' && D.eqBs ds ds'
  | _, _ => false
end
mutual
theorem D.eqB_ok : ∀ (d d' : D), D.eqB d d' = true → d = d'
  | .int k n, d', h => by cases d' <;> simp_all [D.eqB]
  | .bool b, d', h => by cases d' <;> simp_all [D.eqB]
  | .str s, d', h => by cases d' <;> simp_all [D.eqB]
  | .sl ag xs, d', h => by
    cases d' with
    | sl ag' xs' =>
      simp only [D.eqB, Bool.and_eq_true, decide_eq_true_eq] at h
      rw [h.1, D.eqBs_ok xs xs' h.2]
    | _ => simp [D.eqB] at h
  | .agg ds, d', h => by
    cases d' with
    | agg ds' =>
      simp only [D.eqB] at h
      rw [D.eqBs_ok ds ds' h]
    | _ => simp [D.eqB] at h
theorem D.eqBs_ok : ∀ (ds ds' : List D), D.eqBs ds ds' = true → ds = ds'
  | [], ds', h => by cases ds' <;> simp_all [D.eqBs]
  | d :: ds, ds', h => by
    cases ds' with
    | nil => simp [D.eqBs] at h
    | cons d' ds' =>
      simp only [D.eqBs, Bool.and_eq_true] at h
      rw [D.eqB_ok d d' h.1, D.eqBs_ok ds ds' h.2]
end

mutual
def AV.eqB : AV → AV → Bool
  | .dat d, .dat d' => D.eqB d d'
  | .nils, .nils => true
  | .nilm, .nilm => true
  | .sl o i j, .sl o' i' j' => decide (o = o') && decide (i = i') && decide (j = j')
  | .ptr o i j, .ptr o' i' j' => decide (o = o') && decide (i = i') && decide (j = j')
  | .rptr ag d, .rptr ag' d' => decide (ag = ag') && D.eqB d d'
  | .agg vs, .agg vs' => AV.eqBs vs vs'
  | .tup vs, .tup vs' => AV.eqBs vs vs'
  | .map o, .map o' => decide (o = o')
  | .fn f vs, .fn f' vs' => decide (f = f') && AV.eqBs vs vs'
  | .top, .top => true
  | _, _ => false
def AV.eqBs : List AV → List AV → Bool
  | [], [] => true
  | d :: ds, d' :: ds' => AV.eqB d d' && AV.eqBs ds ds'
  | _, _ => false
end
mutual
theorem AV.eqB_ok : ∀ (d d' : AV), AV.eqB d d' = true → d = d'
  | .dat d, v, h => by
    cases v with
    | dat d' => simp only [AV.eqB] at h; rw [D.eqB_ok d d' h]
    | _ => simp [AV.eqB] at h
  | .nils, v, h => by cases v <;> simp_all [AV.eqB]
  | .nilm, v, h => by cases v <;> simp_all [AV.eqB]
  | .sl o i j, v, h => by cases v <;> simp_all [AV.eqB]
  | .ptr o i j, v, h => by cases v <;> simp_all [AV.eqB]
  | .rptr ag d, v, h => by
    cases v with
    | rptr ag' d' => simp only [AV.eqB, Bool.and_eq_true, decide_eq_true_eq] at h; rw [h.1, D.eqB_ok d d' h.2]
    | _ => simp [AV.eqB] at h
  | .agg vs, v, h => by
    cases v with
    | agg vs' => simp only [AV.eqB] at h; rw [AV.eqBs_ok vs vs' h]
    | _ => simp [AV.eqB] at h
  | .tup vs, v, h => by
    cases v with
    | tup vs' => simp only [AV.eqB] at h; rw [AV.eqBs_ok vs vs' h]
    | _ => simp [AV.eqB] at h
  | .map o, v, h => by cases v <;> simp_all [AV.eqB]
  | .fn f vs, v, h => by
    cases v with
    | fn f' vs' => simp only [AV.eqB, Bool.and_eq_true, decide_eq_true_eq] at h; rw [h.1, AV.eqBs_ok vs vs' h.2]
    | _ => simp [AV.eqB] at h
  | .top, v, h => by cases v <;> simp_all [AV.eqB]
theorem AV.eqBs_ok : ∀ (ds ds' : List AV), AV.eqBs ds ds' = true → ds = ds'
  | [], ds', h => by cases ds' <;> simp_all [AV.eqBs]
  | d :: ds, ds', h => by
    cases ds' with
    | nil => simp [AV.eqBs] at h
    | cons d' ds' =>
      simp only [AV.eqBs, Bool.and_eq_true] at h
      rw [AV.eqB_ok d d' h.1, AV.eqBs_ok ds ds' h.2]
end

def mapEqB : List (D × D) → List (D × D) → Bool
  | [], [] => true
  | d :: ds, d' :: ds' => D.eqB d.1 d'.1 && D.eqB d.2 d'.2 && mapEqB ds ds'
  | _, _ => false
theorem mapEqB_ok : ∀ (ds ds' : List (D × D)), mapEqB ds ds' = true → ds = ds'
  | [], ds', h => by cases ds' <;> simp_all [mapEqB]
  | (a, b) :: ds, ds', h => by
    cases ds' with
    | nil => simp [mapEqB] at h
    | cons d' ds' =>
      obtain ⟨a', b'⟩ := d'
      simp only [mapEqB, Bool.and_eq_true] at h
      rw [D.eqB_ok a a' h.1.1, D.eqB_ok b b' h.1.2, mapEqB_ok ds ds' h.2]

def Obj.eqB : Obj → Obj → Bool
  | .row ag xs, .row ag' xs' => decide (ag = ag') && D.eqBs xs xs'
  | .vec cs, .vec cs' => AV.eqBs cs cs'
  | .box cs, .box cs' => AV.eqBs cs cs'
  | .map m, .map m' => mapEqB m m'
  | .dead, .dead => true
  | _, _ => false
theorem Obj.eqB_ok (x y : Obj) (h : Obj.eqB x y = true) : x = y := by
  cases x <;> cases y <;> simp only [Obj.eqB, Bool.and_eq_true, decide_eq_true_eq] at h <;> first
    | rw [h.1, D.eqBs_ok _ _ h.2]
    | rw [AV.eqBs_ok _ _ h]
    | rw [mapEqB_ok _ _ h]
    | rfl
    | cases h
def Obj.eqBs : List Obj → List Obj → Bool
  | [], [] => true
  | d :: ds, d' :: ds' => Obj.eqB d d' && Obj.eqBs ds ds'
  | _, _ => false
theorem Obj.eqBs_ok : ∀ (ds ds' : List Obj), Obj.eqBs ds ds' = true → ds = ds'
  | [], ds', h => by cases ds' <;> simp_all [Obj.eqBs]
  | d :: ds, ds', h => by
    cases ds' with
    | nil => simp [Obj.eqBs] at h
    | cons d' ds' =>
      simp only [Obj.eqBs, Bool.and_eq_true] at h
      rw [Obj.eqB_ok d d' h.1, Obj.eqBs_ok ds ds' h.2]

mutual
def AV.underB (n : Nat) : AV → Bool
  | .sl o _ _ => decide (o < n)
  | .ptr o _ _ => decide (o < n)
  | .map o => decide (o < n)
  | .agg vs => AV.undersB n vs
  | .tup vs => AV.undersB n vs
  | .fn _ vs => AV.undersB n vs
  | .dat _ => true
  | .nils => true
  | .nilm => true
  | .rptr _ _ => true
  | .top => true
def AV.undersB (n : Nat) : List AV → Bool
  | [] => true
  | a :: as => AV.underB n a && AV.undersB n as
end
mutual
theorem AV.underB_ok {n : Nat} : ∀ (a : AV), AV.underB n a = true → a.under n
  | .sl o _ _, h => by simpa [AV.underB, AV.under] using h
  | .ptr o _ _, h => by simpa [AV.underB, AV.under] using h
  | .map o, h => by simpa [AV.underB, AV.under] using h
  | .agg vs, h => by simp only [AV.underB, AV.under] at h ⊢; exact AV.undersB_ok vs h
  | .tup vs, h => by simp only [AV.underB, AV.under] at h ⊢; exact AV.undersB_ok vs h
  | .fn _ vs, h => by simp only [AV.underB, AV.under] at h ⊢; exact AV.undersB_ok vs h
  | .dat _, h => by simp [AV.under]
  | .nils, h => by simp [AV.under]
  | .nilm, h => by simp [AV.under]
  | .rptr _ _, h => by simp [AV.under]
  | .top, h => by simp [AV.under]
theorem AV.undersB_ok {n : Nat} : ∀ (as : List AV), AV.undersB n as = true → AV.unders n as
  | [], h => by simp [AV.unders]
  | a :: as, h => by
    simp only [AV.undersB, Bool.and_eq_true] at h
    simp only [AV.unders]
    exact ⟨AV.underB_ok a h.1, AV.undersB_ok as h.2⟩
end
def Obj.underB (n : Nat) : Obj → Bool
  | .box cs => AV.undersB n cs
  | .vec cs => AV.undersB n cs
  | _ => true
theorem Obj.underB_ok {n : Nat} {x : Obj} (h : x.underB n = true) : x.under n := by
  cases x <;> simp only [Obj.underB, Obj.under] at h ⊢ <;> exact AV.undersB_ok _ h

theorem le_mvs {s : List AV} {own : List Obj} {n0 : Nat} {mv mv' : List Nat} (h : ∀ o ∈ mv, o ∈ mv') : Le ⟨s, own, n0, mv⟩ ⟨s, own, n0, mv'⟩ := by
  rintro c a w ⟨hd, hn, F, φ, h2, h3, h4⟩
  exact ⟨hd, hn, F, φ, { h2 with keep := fun o L hlt hm ho => h2.keep o L hlt (fun hm' => hm (h o hm')) ho }, h3, h4⟩

theorem le_renG {s : List AV} {own own' : List Obj} {n0 : Nat} {mv : List Nat} (p q : Nat → Nat) (hqp : ∀ o, q (p o) = o) (hpq : ∀ o, p (q o) = o) (hlt : ∀ o, o < own.length → q o < own.length) (hge : ∀ o, own.length ≤ o → q o = o)
    (h0 : ∀ o, o < n0 → q o = o) (ho : own' = (List.range own.length).map fun o => (own.getD (q o) .dead).ren p) : Le ⟨s, own, n0, mv⟩ ⟨AV.rens p s, own', n0, mv⟩ := by
  rintro c a w ⟨hd, hn, F, φ, h2, h3, h4⟩
  have hφ : ∀ o L, φ o = some L → (fun i => φ (q i)) (p o) = some L := fun o L h => by simp only [hqp]; exact h
  have hl : own'.length = own.length := by rw [ho]; simp
  simp only at hn
  refine ⟨hd, hn, F, fun i => φ (q i), ⟨h2.sub, h2.ext, fun o L hlt' hm h => ?_, h2.rest, fun o L' ho' hn' => h2.orig (q o) L' ho' hn', h2.frsh⟩, ?_, AV.Rs_ren (π := p) (φ := φ) (φ' := fun i => φ (q i)) hφ s _ h4⟩
  · show φ (q o) = some L
    rw [h0 o (by omega)]
    exact h2.keep o L hlt' hm h
  · refine ⟨h3.fb, fun o L h => h3.live (q o) L h, fun o o' L L' h h' n n' hne => h3.inj (q o) (q o') L L' h h' n n' (fun e => hne (by rw [← hpq o, ← hpq o', e])), fun o obj hob => ?_, fun o hge' => ?_, h3.glob⟩
    · have hlt' : o < own.length := by
        have := (List.getElem?_eq_some_iff.1 hob).1
        simp only [hl] at this
        exact this
      simp only [ho, List.getElem?_map, List.getElem?_range hlt', Option.map_some, Option.some.injEq] at hob
      subst hob
      have hp := hlt o hlt'
      have := h3.rep (q o) (own.getD (q o) .dead) (by simp only; rw [List.getD_eq_getElem?_getD, List.getElem?_eq_getElem hp]; rfl)
      exact ObjR_ren (π := p) (φ := φ) (φ' := fun i => φ (q i)) hφ this
    · simp only [hl] at hge'
      show φ (q o) = none
      rw [hge o hge']
      exact h3.out o hge'

def cutF (n : Nat) (f : Nat → Nat) : Nat → Nat := fun o => if o < n then f o else o
def permB (n n0 : Nat) (p q : Nat → Nat) : Bool := (List.range n).all fun o => decide (q (p o) = o) && decide (p (q o) = o) && decide (p o < n) && decide (q o < n) && (decide (n0 ≤ o) || decide (q o = o))

def S.sameB (p q : Nat → Nat) (σ σ' : S) : Bool :=
  decide (σ.n0 = σ'.n0) && decide (σ.own.length = σ'.own.length) && permB σ.own.length σ.n0 p q && decide (σ.n0 ≤ σ.own.length) && (σ.mv.all fun o => σ'.mv.contains o) &&
    AV.eqBs (AV.rens (cutF σ.own.length p) σ.slots) σ'.slots && Obj.eqBs ((List.range σ.own.length).map fun o => (σ.own.getD (cutF σ.own.length q o) .dead).ren (cutF σ.own.length p)) σ'.own
theorem le_perm {s : List AV} {own own' : List Obj} {n0 : Nat} {mv : List Nat} {p q : Nat → Nat} (h3 : permB own.length n0 p q = true) (h4 : n0 ≤ own.length) (ho : own' = (List.range own.length).map fun o => (own.getD (cutF own.length q o) .dead).ren (cutF own.length p)) :
    Le ⟨s, own, n0, mv⟩ ⟨AV.rens (cutF own.length p) s, own', n0, mv⟩ := by
  have hp : ∀ o, o < own.length → (q (p o) = o ∧ p (q o) = o ∧ p o < own.length ∧ q o < own.length ∧ (n0 ≤ o ∨ q o = o)) := fun o ho => by
    have := List.all_eq_true.1 h3 o (List.mem_range.2 ho)
    simp only [Bool.and_eq_true, Bool.or_eq_true, decide_eq_true_eq] at this
    exact ⟨this.1.1.1.1, this.1.1.1.2, this.1.1.2, this.1.2, this.2⟩
  refine le_renG (cutF own.length p) (cutF own.length q) (fun o => ?_) (fun o => ?_) (fun o ho => ?_) (fun o ho => ?_) (fun o ho => ?_) ho
  · unfold cutF
    by_cases e : o < own.length
    · simp only [e, if_true, (hp o e).2.2.1, (hp o e).1]
    · simp only [e, if_false]
  · unfold cutF
    by_cases e : o < own.length
    · simp only [e, if_true, (hp o e).2.2.2.1, (hp o e).2.1]
    · simp only [e, if_false]
  · unfold cutF; rw [if_pos ho]; exact (hp o ho).2.2.2.1
  · unfold cutF; rw [if_neg (by omega)]
  · unfold cutF
    rw [if_pos (by omega)]
    rcases (hp o (by omega)).2.2.2.2 with h | h
    · omega
    · exact h
theorem S.sameB_ok {p q : Nat → Nat} {σ σ' : S} (h : S.sameB p q σ σ' = true) : Le σ σ' := by
  obtain ⟨s, own, n0, mv⟩ := σ
  obtain ⟨s', own', n0', mv'⟩ := σ'
  simp only [S.sameB, Bool.and_eq_true, decide_eq_true_eq, List.all_eq_true, List.contains_eq_mem] at h
  obtain ⟨⟨⟨⟨⟨⟨h1, h2⟩, h3⟩, h4⟩, h5⟩, h6⟩, h7⟩ := h
  subst h1
  refine Le.trans (le_perm h3 h4 rfl) ?_
  · rw [AV.eqBs_ok _ _ h6, Obj.eqBs_ok _ _ h7]
    exact le_mvs fun o ho => by simpa using h5 o ho

def natsF {α : Type} : List Nat → (List Nat → α) → α
  | [], K => K []
  | x :: xs, K => natF x fun x => natsF xs fun xs => K (x :: xs)
theorem natsF_eq {α : Type} : ∀ (l : List Nat) (K : List Nat → α), natsF l K = K l
  | [], K => rfl
  | x :: xs, K => by rw [natsF, natF_eq, natsF_eq xs]

abbrev Blk := List (Nat × Nat × Nat)
def blkMap (b b' : Blk) (o : Nat) : Nat :=
  match b.find? (fun x => decide (x.2.1 ≤ o) && decide (o < x.2.1 + x.2.2)) with
  | none => o
  | some (x, s, _) => (match b'.find? (fun y => decide (y.1 = x)) with | some (_, s', _) => s' + (o - s) | none => o)
def addBlk (bl : Blk) (x n n' : Nat) : Blk := match decide (n < n') with | true => (x, n, n' - n) :: bl | false => bl

section
variable {P : Program}

def condXB (ko : Nat) (o : Oper) (s : List AV) : Bool :=
  match o.op with
  | .call c => (match c.args.toList with | [x, _] => (match ev s x with | .sl o' _ _ => decide (o' = ko) | .nils => true | _ => false) | _ => false)
  | .load _ x => (match ev s x with | .ptr o' _ _ => decide (o' ≠ ko) | .rptr _ _ => true | _ => false)
  | .fieldAddr _ x _ => (match ev s x with | .ptr o' _ _ => decide (o' ≠ ko) | .rptr _ _ => true | _ => false)
  | .indexAddr _ x i => (match ev s x with | .ptr o' _ _ => decide (o' ≠ ko) | .sl o' _ _ => decide (o' ≠ ko) | .dat _ => true | _ => false) && (match ev s i with | .dat _ => true | _ => false)
  | .move _ => true
  | .assign _ => true
  | _ => false
theorem condXB_ok {ko : Nat} {o : Oper} {s : List AV} (h : condXB ko o s = true) : condX ko o s := by
  unfold condXB at h
  unfold condX
  split at h
  · rename_i e; rw [e]; simp only
    split at h
    · rename_i e2; rw [e2]; simp only
      split at h
      · rename_i e3; simp only [e3]; exact of_decide_eq_true h
      · rename_i e3; simp only [e3]
      · cases h
    · cases h
  · rename_i e; rw [e]; simp only [condA, e]
    split at h
    · rename_i e3; simp only [e3]; exact of_decide_eq_true h
    · rename_i e3; simp only [e3]
    · cases h
  · rename_i e; rw [e]; simp only [condA, e]
    split at h
    · rename_i e3; simp only [e3]; exact of_decide_eq_true h
    · rename_i e3; simp only [e3]
    · cases h
  · rename_i e; rw [e]; simp only [condA, e]
    rw [Bool.and_eq_true] at h
    refine ⟨?_, ?_⟩
    · have h := h.1
      split at h
      · rename_i e3; simp only [e3]; exact of_decide_eq_true h
      · rename_i e3; simp only [e3]; exact of_decide_eq_true h
      · rename_i e3; simp only [e3]
      · cases h
    · have h := h.2
      split at h
      · rename_i e3; simp only [e3]
      · cases h
  · rename_i e; rw [e]; simp only [condA, e]
  · rename_i e; rw [e]; simp only [condA, e]
  · cases h
def runT (P : Program) (call : CallO) (all : Array Oper) (ob ko : Nat) (ms ks : List Nat) : DT → S → Blk → Option (S × Blk) → Option (S × Blk)
  | .fin, σ, bl, r => (match r with
    | none => some (σ, bl)
    | some x => gd (S.sameB (blkMap bl x.2) (blkMap x.2 bl) σ x.1) (some x))
  | .stop, _, _, r => r
  | .one p t, σ, bl, r => (match all[p]? with
    | none => none
    | some o => gd ((!ms.contains p || condB ob o σ.slots) && (!ks.contains p || condXB ko o σ.slots)) (match opgO P call all o σ with
      | some σ' => natF σ.own.length fun n => natF σ'.own.length fun n' => runT P call all ob ko ms ks t σ' (addBlk bl p n n') r
      | none => none))
  | .alt p t u, σ, bl, r => (match all[p]? with
    | none => none
    | some o => gd ((!ms.contains p || condB ob o σ.slots) && (!ks.contains p || condXB ko o σ.slots)) (match opgO P call all o σ with
      | some σ' => (match (natF σ.own.length fun n => natF σ'.own.length fun n' => runT P call all ob ko ms ks t σ' (addBlk bl p n n') r) with
        | some x => runT P call all ob ko ms ks u σ bl (some x)
        | none => none)
      | none => none))

theorem runT_ok {Γ : Nat → Contract} {call : CallO} (hc : ∀ g args own r, call g args own = some r → Γ g args own r.1 r.2.1 r.2.2) {all : Array Oper} {ob ko : Nat} {ms ks : List Nat} {Q : Exit → S → Prop} :
    ∀ (T : DT) (σ : S) (bl : Blk) (r : Option (S × Blk)) (x : S × Blk), runT P call all ob ko ms ks T σ bl r = some x → (∀ s, Le s x.1 → Q .normal s) → chT P Γ all ob ko ms ks Q T σ ∧ ∀ y, r = some y → x = y
  | .fin, σ, bl, r, x, h, hq => by
    unfold runT at h
    split at h
    · cases h
      exact ⟨hq _ (Le.refl _), fun y hy => by cases hy⟩
    · obtain ⟨h1, h2⟩ := gd_some h
      cases h2
      exact ⟨hq _ (S.sameB_ok h1), fun y hy => by cases hy; rfl⟩
  | .stop, σ, bl, r, x, h, hq => by
    unfold runT at h
    exact ⟨trivial, fun y hy => by rw [hy] at h; cases h; rfl⟩
  | .one p t, σ, bl, r, x, h, hq => by
    unfold runT at h
    unfold chT
    split at h
    · cases h
    · rename_i o e
      rw [e]
      obtain ⟨h1, h2⟩ := gd_some h
      rw [Bool.and_eq_true] at h1
      have h1a : ms.contains p = true → condB ob o σ.slots = true := fun hm => by simpa only [hm, Bool.not_true, Bool.false_or] using h1.1
      have h1b : ks.contains p = true → condXB ko o σ.slots = true := fun hm => by simpa only [hm, Bool.not_true, Bool.false_or] using h1.2
      split at h2
      · rename_i σ' e2
        simp only [natF_eq] at h2
        obtain ⟨g1, g2⟩ := runT_ok hc t σ' _ r x h2 hq
        exact ⟨⟨⟨fun hm => condB_ok (h1a hm), fun hk => condXB_ok (h1b hk)⟩, opgO_ok hc e2 g1⟩, g2⟩
      · cases h2
  | .alt p t u, σ, bl, r, x, h, hq => by
    unfold runT at h
    unfold chT
    split at h
    · cases h
    · rename_i o e
      rw [e]
      obtain ⟨h1, h2⟩ := gd_some h
      rw [Bool.and_eq_true] at h1
      have h1a : ms.contains p = true → condB ob o σ.slots = true := fun hm => by simpa only [hm, Bool.not_true, Bool.false_or] using h1.1
      have h1b : ks.contains p = true → condXB ko o σ.slots = true := fun hm => by simpa only [hm, Bool.not_true, Bool.false_or] using h1.2
      split at h2
      · rename_i σ' e2
        simp only [natF_eq] at h2
        split at h2
        · rename_i x' e3
          obtain ⟨k1, k2⟩ := runT_ok hc u σ bl (some x') x h2 hq
          have := k2 x' rfl
          subst this
          obtain ⟨g1, g2⟩ := runT_ok hc t σ' _ r x e3 hq
          exact ⟨⟨⟨⟨fun hm => condB_ok (h1a hm), fun hk => condXB_ok (h1b hk)⟩, opgO_ok hc e2 g1⟩, k1⟩, g2⟩
        · cases h2
      · cases h2

def readyO (ops : Array Oper) (left : List Nat) : List Nat := left.filter fun i => left.all fun j => !Region.waitsFor .any ops i j
def altsT (f : Nat → DT) : List Nat → DT
  | [] => .stop
  | x :: l => .alt x (f x) (altsT f l)
def buildT (pf mf ms ks : List Nat) (ops : Array Oper) : Nat → List Nat → DT
  | 0, _ => .fin
  | n + 1, left =>
    (match (readyO ops left).find? (fun p => (left.filter (· != p)).all fun i => Region.waitsFor .any ops i p || swapOkX pf mf ms ks ops p i) with
    | some p => .one p (natsF (left.filter (· != p)) fun l => buildT pf mf ms ks ops n l)
    | none => (match readyO ops left with
      | [] => .fin
      | l => altsT (fun x => natsF (left.filter (· != x)) fun l => buildT pf mf ms ks ops n l) l))

mutual
def AV.objsOf : AV → List Nat
  | .sl o _ _ => [o]
  | .ptr o _ _ => [o]
  | .map o => [o]
  | .agg vs => AV.objsOfL vs
  | .tup vs => AV.objsOfL vs
  | .fn _ vs => AV.objsOfL vs
  | .dat _ => []
  | .nils => []
  | .nilm => []
  | .rptr _ _ => []
  | .top => []
def AV.objsOfL : List AV → List Nat
  | [] => []
  | a :: as => AV.objsOf a ++ AV.objsOfL as
end
def Obj.objsOf : Obj → List Nat
  | .box cs => AV.objsOfL cs
  | .vec cs => AV.objsOfL cs
  | _ => []

def reachO (own : List Obj) : Nat → List Nat → List Nat → List Nat
  | 0, _, seen => seen
  | _ + 1, [], seen => seen
  | n + 1, o :: t, seen => (match seen.contains o with | true => reachO own n t seen | false => reachO own n ((own.getD o .dead).objsOf ++ t) (o :: seen))
def reachL (own : List Obj) (l : List Nat) : List Nat := reachO own 100000 l []
def idxIn (o : Nat) : List Nat → Nat → Nat
  | [], _ => o
  | x :: l, i => (match decide (x = o) with | true => i | false => idxIn o l (i + 1))

def S.gc (σ : S) : S :=
  natF σ.own.length fun n =>
  natsF (reachL σ.own (AV.objsOfL σ.slots ++ List.range σ.n0)) fun seen =>
  natsF ((List.range n).filter fun o => seen.contains o) fun L =>
  natF L.length fun k =>
  (match decide (k = n) with
  | true => σ
  | false =>
    natsF (L ++ (List.range n).filter fun o => !seen.contains o) fun ord =>
    let q := fun o => ord.getD o o
    let p := fun o => idxIn o ord 0
    let s' := AV.rens (cutF n p) σ.slots
    let own' := ((List.range n).map fun o => (σ.own.getD (cutF n q o) .dead).ren (cutF n p)).take k
    (match permB n σ.n0 p q && decide (k ≤ n) && decide (σ.n0 ≤ k) && AV.undersB k s' && own'.all (Obj.underB k) with
    | true => ⟨s', own', σ.n0, σ.mv⟩
    | false => σ))
theorem le_gcP {s : List AV} {own own1 : List Obj} {n0 : Nat} {mv : List Nat} {p q : Nat → Nat} {k : Nat} (h1 : permB own.length n0 p q = true) (h2 : k ≤ own.length) (h3 : n0 ≤ k) (ho : own1 = (List.range own.length).map fun o => (own.getD (cutF own.length q o) .dead).ren (cutF own.length p))
    (h4 : AV.undersB k (AV.rens (cutF own.length p) s) = true) (h5 : ∀ x ∈ own1.take k, Obj.underB k x = true) : Le ⟨s, own, n0, mv⟩ ⟨AV.rens (cutF own.length p) s, own1.take k, n0, mv⟩ := by
  have hl : own1.length = own.length := by rw [ho, List.length_map, List.length_range]
  have hk : (own1.take k).length = k := by rw [List.length_take, hl]; omega
  refine Le.trans (le_perm h1 (Nat.le_trans h3 h2) ho) ?_
  have := le_drop (s := AV.rens (cutF own.length p) s) (own := own1.take k) (ex := own1.drop k) (n0 := n0) (mv := mv) (by rw [hk]; exact h3) (by rw [hk]; exact AV.undersB_ok _ h4) (fun x hx => by rw [hk]; exact Obj.underB_ok (h5 x hx))
  rwa [List.take_append_drop] at this
theorem le_gc (σ : S) : Le σ σ.gc := by
  obtain ⟨s, own, n0, mv⟩ := σ
  unfold S.gc
  rw [natF_eq, natsF_eq, natsF_eq, natF_eq]
  split
  · exact Le.refl _
  · rw [natsF_eq]
    simp only
    split
    · rename_i h
      simp only [Bool.and_eq_true, decide_eq_true_eq, List.all_eq_true] at h
      obtain ⟨⟨⟨⟨h1, h2⟩, h3⟩, h4⟩, h5⟩ := h
      exact le_gcP h1 h2 h3 rfl h4 h5
    · exact Le.refl _
attribute [irreducible] S.gc

variable {rec : Code → S → Option (Exit × S)}

def dataRun2 (P : Program) (rec : Code → S → Option (Exit × S)) (fn : Func) (body : Code) (ds : List D) : Option (AV × List Obj) :=
  match bodyO P rec fn body (ds.map .dat) [] with
  | none => none
  | some (σ, vs) => (match decide (σ.n0 = 0), (resV vs).norm.scal with
    | true, true => AV.force (resV vs).norm fun v => some (v, [])
    | true, false => (match S.gc ⟨[resV vs], σ.own, 0, σ.mv⟩ with
      | ⟨[v], ob, n0, _⟩ => (match decide (n0 = 0) with | true => some (v, ob) | false => none)
      | _ => none)
    | false, _ => none)

theorem scal_under {v : AV} {n : Nat} (h : v.scal = true) : v.under n := by
  cases v with
  | dat d => simp [AV.under]
  | tup vs =>
    simp only [AV.under]
    simp only [AV.scal] at h
    induction vs with
    | nil => simp [AV.unders]
    | cons v vs ih =>
      simp only [List.all_cons, Bool.and_eq_true] at h
      simp only [AV.unders]
      refine ⟨?_, ih h.2⟩
      have := h.1
      cases v <;> simp at this
      simp [AV.under]
  | _ => simp [AV.scal] at h

theorem dataRun2_ok (hrec : RecOk P rec) {fn : Func} {body : Code} {ds : List D} {v : AV} {ob : List Obj} (h : dataRun2 P rec fn body ds = some (v, ob)) :
    sem P body (post P fn v ob []) ⟨ds.map .dat ++ List.replicate (fn.ntmps - (ds.map AV.dat).length) .top, [], 0, []⟩ := by
  unfold dataRun2 at h
  split at h
  · cases h
  · rename_i σ vs e1
    split at h
    · rename_i e2 e3
      rw [AV.force_eq] at h
      cases h
      have hn : σ.n0 = 0 := by simpa using e2
      refine bodyO_ok hrec e1 ⟨[], ?_, fun _ h => h⟩
      rw [hn]
      refine Le.trans le_mv0 ?_
      exact le_fin rfl (scal_under e3)
    · rename_i e2 e3
      have hn : σ.n0 = 0 := by simpa using e2
      split at h
      · rename_i v' ob' n0 mv' e4
        split at h
        · rename_i e5
          cases h
          have hn0 : n0 = 0 := by simpa using e5
          subst hn0
          refine bodyO_ok hrec e1 ⟨[], ?_, fun _ h => h⟩
          rw [hn]
          have := le_gc ⟨[resV vs], σ.own, 0, σ.mv⟩
          rw [e4] at this
          exact Le.trans this le_mv0
        · cases h
      · cases h
    · cases h

def fullO (P : Program) (rec : Code → S → Option (Exit × S)) (fn : Func) (body : Code) (args : List AV) (own : List Obj) : Option Eff3 :=
  match bodyO P rec fn body args own with
  | none => none
  | some (σ, vs) =>
    (match S.gc ⟨[match (resV vs).norm.scal with | true => (resV vs).norm | false => resV vs], σ.own, σ.n0, σ.mv⟩ with
    | ⟨[v], own', n0, mv⟩ => gd (decide (σ.n0 = n0)) (some (v, own', mv))
    | _ => none)
theorem fullO_okG (hrec : RecOk P rec) (hnames : Names P) {g : Nat} {fn : Func} {body : Code} (hf : P.funcs[g]? = some fn) (hb : fn.body = some body) {args : List AV} {own : List Obj} {r : Eff3} (h : fullO P rec fn body args own = some r) :
    (∃ fn body, P.funcs[g]? = some fn ∧ fn.body = some body ∧ fn.name ≠ "runtime.NumGoroutine") ∧
    ∀ F φ w vs, Conc F φ own w → AV.Rs F φ w args vs → Calls P g vs.toArray w fun e w' => ∃ v F' φ', e = .returned v ∧ After F φ w F' φ' r.2.1 w' r.2.2 ∧ AV.R F' φ' w' r.1 v := by
  unfold fullO at h
  split at h
  · cases h
  · rename_i σ vs e1
    split at h
    · rename_i v own' n0 mv e2
      obtain ⟨h1, h2⟩ := gd_some h
      have h1 := of_decide_eq_true h1
      cases h2
      refine okF_of_sem (C := fun a o v' o' m => a = args ∧ o = own ∧ v' = v ∧ o' = own' ∧ m = mv) hf hb (hnames g fn hf) (fun a o v' o' m h => ?_) _ _ _ _ _ ⟨rfl, rfl, rfl, rfl, rfl⟩
      obtain ⟨rfl, rfl, rfl, rfl, rfl⟩ := h
      refine bodyO_ok hrec e1 ⟨m, ?_, fun _ h => h⟩
      have hle : Le ⟨[resV vs], σ.own, σ.n0, σ.mv⟩ ⟨[match (resV vs).norm.scal with | true => (resV vs).norm | false => resV vs], σ.own, σ.n0, σ.mv⟩ := by
        split
        · exact le_norm
        · exact Le.refl _
      have := le_gc ⟨[match (resV vs).norm.scal with | true => (resV vs).norm | false => resV vs], σ.own, σ.n0, σ.mv⟩
      rw [e2] at this
      rw [h1] at this hle ⊢
      exact Le.trans hle this
    · cases h

def fullM (P : Program) (rec : Code → S → Option (Exit × S)) (fn : Func) (body : Code) (args : List AV) (own : List Obj) : Option Eff3 :=
  match fullO P rec fn body args own with
  | some (v, own', mv) => gd (mv.isEmpty && Obj.eqBs (own'.take own.length) own) (some (v, own ++ own'.drop own.length, []))
  | none => none
theorem fullM_eq {fn : Func} {body : Code} {args : List AV} {own : List Obj} {r : Eff3} (h : fullM P rec fn body args own = some r) : fullO P rec fn body args own = some r ∧ (∃ ex, r.2.1 = own ++ ex) ∧ r.2.2 = [] := by
  unfold fullM at h
  split at h
  · rename_i v own' mv e
    obtain ⟨h1, h2⟩ := gd_some h
    simp only [Bool.and_eq_true, List.isEmpty_iff] at h1
    cases h2
    have ht := Obj.eqBs_ok _ _ h1.2
    have hown : own' = own ++ own'.drop own.length := by
      conv => lhs; rw [← List.take_append_drop own.length own', ht]
    refine ⟨?_, ⟨_, rfl⟩, rfl⟩
    rw [e, h1.1]
    exact congrArg (fun x => some (v, x, [])) hown
  · cases h

def frzO (P : Program) (rec : Code → S → Option (Exit × S)) (fn : Func) (body : Code) (args : List AV) (own : List Obj) : Option Eff3 :=
  match S.frzL ((args.map (deepRefs own 3)).flatten) ⟨args, own, own.length, []⟩ with
  | ⟨args', own', _, mv'⟩ => (match args'.all AV.isDat, asDL own' args' with
    | true, some ds => (match dataRun P rec fn body ds with
      | some (v, _) => (match pureV v.norm with | true => some (v.norm, own', mv') | false => none)
      | none => none)
    | _, _ => none)
theorem frzO_okG (hrec : RecOk P rec) (hnames : Names P) {g : Nat} {fn : Func} {body : Code} (hf : P.funcs[g]? = some fn) (hb : fn.body = some body) {args : List AV} {own : List Obj} {r : Eff3} (h : frzO P rec fn body args own = some r) :
    (∃ fn body, P.funcs[g]? = some fn ∧ fn.body = some body ∧ fn.name ≠ "runtime.NumGoroutine") ∧
    ∀ F φ w vs, Conc F φ own w → AV.Rs F φ w args vs → Calls P g vs.toArray w fun e w' => ∃ v F' φ', e = .returned v ∧ After F φ w F' φ' r.2.1 w' r.2.2 ∧ AV.R F' φ' w' r.1 v := by
  unfold frzO at h
  split at h
  rename_i args' own1 n1 mv1 hS
  split at h
  · rename_i ds hall hds
    split at h
    · rename_i v0 ob hrun
      split at h
      · rename_i hp
        cases h
        have hd : OkF P g (dataC fun ds' v' => ds' = ds ∧ v' = v0.norm) := okF_data hf hb (hnames g fn hf) (fun ds' v' h => by
          obtain ⟨rfl, rfl⟩ := h
          exact dataRun_pure hrec hrun hp)
        exact okF_frzL hd _ _ _ _ _ ⟨_, _, _, hS, ⟨ds, hds, ⟨rfl, rfl⟩, rfl, rfl, .inl hall⟩⟩
      · cases h
    · cases h
  · cases h

def restO (P : Program) (rec : Code → S → Option (Exit × S)) (fn : Func) (body : Code) (args : List AV) (own : List Obj) : Option Eff3 :=
  match fullO P rec fn body args own with
  | some r => some r
  | none => frzO P rec fn body args own

abbrev Tab := List (Nat × List D × AV × List Obj)
def Tab.find : Tab → Nat → List D → Option (AV × List Obj)
  | [], _, _ => none
  | x :: l, g, ds => match Nat.beq x.1 g && D.eqBs x.2.1 ds with | true => some x.2.2 | false => Tab.find l g ds
def Tab.has : Tab → Nat → Bool
  | [], _ => false
  | x :: l, g => match Nat.beq x.1 g with | true => true | false => Tab.has l g
def Base (P : Program) (tab : Tab) : Prop := ∀ g ds v ob, (g, ds, v, ob) ∈ tab → ∀ fn body, P.funcs[g]? = some fn → fn.body = some body → sem P body (post P fn v ob []) ⟨ds.map .dat ++ List.replicate (fn.ntmps - (ds.map AV.dat).length) .top, [], 0, []⟩
theorem Tab.find_mem : ∀ {tab : Tab} {g : Nat} {ds : List D} {r : AV × List Obj}, Tab.find tab g ds = some r → (g, ds, r.1, r.2) ∈ tab
  | [], g, ds, r, h => by cases h
  | x :: l, g, ds, r, h => by
    unfold Tab.find at h
    split at h
    · rename_i e
      rw [Bool.and_eq_true] at e
      have e1 := Nat.eq_of_beq_eq_true e.1
      have e2 := D.eqBs_ok _ _ e.2
      cases h
      subst e1; subst e2
      exact List.mem_cons_self
    · exact List.mem_cons_of_mem _ (Tab.find_mem h)

def dataRunT (P : Program) (tab : Tab) (rec : Code → S → Option (Exit × S)) (g : Nat) (fn : Func) (body : Code) (ds : List D) : Option (AV × List Obj) :=
  match Tab.has tab g with
  | false => dataRun2 P rec fn body ds
  | true => (match Tab.find tab g ds with | some r => some r | none => dataRun2 P rec fn body ds)
theorem dataRunT_ok {tab : Tab} (hTab : Base P tab) (hrec : RecOk P rec) {g : Nat} {fn : Func} {body : Code} (hf : P.funcs[g]? = some fn) (hb : fn.body = some body) {ds : List D} {v : AV} {ob : List Obj} (h : dataRunT P tab rec g fn body ds = some (v, ob)) :
    sem P body (post P fn v ob []) ⟨ds.map .dat ++ List.replicate (fn.ntmps - (ds.map AV.dat).length) .top, [], 0, []⟩ := by
  unfold dataRunT at h
  split at h
  · exact dataRun2_ok hrec h
  · split at h
    · rename_i r e
      cases h
      exact hTab _ _ _ _ (Tab.find_mem e) _ _ hf hb
    · exact dataRun2_ok hrec h

def memO (tab : Tab) : CallO := fun g args own =>
  match Tab.has tab g with
  | false => none
  | true =>
  match S.frzL ((args.map (deepRefs own 3)).flatten) ⟨args, own, own.length, []⟩ with
  | ⟨args', own', _, mv'⟩ => (match args'.all AV.isDat, asDL own' args' with
    | true, some ds => (match Tab.find tab g ds with
      | some (v, ob) => some (v.shift own'.length, own' ++ ob.map (Obj.shift own'.length), mv')
      | none => none)
    | _, _ => none)

def pureSig (P : Program) (fn : Func) : Bool :=
  !fn.resultTypes.toList.isEmpty && (fn.resultTypes.toList.all fun t => P.keyTypeAt 8 t) && (fn.params.toList.all fun t => match P.underlying t with | some (.pointer _) => false | some (.map _ _) => false | some (.func _ _ _) => false | _ => true)

def callBy (P : Program) (tab : Tab) (rec : Code → S → Option (Exit × S)) (K : Func → Code → List AV → List Obj → Option Eff3) : CallO := fun g args own =>
  match P.funcs[g]? with
  | none => none
  | some fn => (match fn.body with
    | none => none
    | some body =>
      (match pureSig P fn || args.all AV.isDat with
      | false => K fn body args own
      | true => (match asDL own args with
        | none => K fn body args own
        | some ds => (match dataRunT P tab rec g fn body ds with
          | none => K fn body args own
          | some (v, ob) => (match v.scal && ob.isEmpty with
            | true => some (v, own, [])
            | false => (match args.all AV.isDat with
              | true => some (v.shift own.length, own ++ ob.map (Obj.shift own.length), [])
              | false => K fn body args own))))))
def callO2 (P : Program) (tab : Tab) (rec : Code → S → Option (Exit × S)) : CallO := callBy P tab rec fun fn body args own => restO P rec fn body args own
def callO3 (P : Program) (tab : Tab) (rec : Code → S → Option (Exit × S)) : CallO := fun g args own =>
  match memO tab g args own with
  | none => callO2 P tab rec g args own
  | some r => (match P.funcs[g]? with
    | none => none
    | some fn => (match fn.body with
      | none => none
      | some _ => some r))
def mcallO (P : Program) (tab : Tab) (rec : Code → S → Option (Exit × S)) : CallO := callBy P tab rec (fullM P rec)

def pcallO2 (P : Program) (tab : Tab) (rec : Code → S → Option (Exit × S)) : CallO := fun g args own =>
  match P.funcs[g]? with
  | none => none
  | some fn => (match fn.body with
    | none => none
    | some body =>
      (match asDL own args with
      | none => none
      | some ds => (match dataRunT P tab rec g fn body ds with
        | none => none
        | some (v, ob) => gd (v.scal && ob.isEmpty) (some (v, own, [])))))

theorem data_scal {tab : Tab} (hTab : Base P tab) (hrec : RecOk P rec) (hnames : Names P) {g : Nat} {fn : Func} {body : Code} (hf : P.funcs[g]? = some fn) (hb : fn.body = some body) {args : List AV} {own : List Obj} {ds : List D} (hds : asDL own args = some ds) {v : AV} {ob : List Obj} (hrun : dataRunT P tab rec g fn body ds = some (v, ob)) (hs : (v.scal && ob.isEmpty) = true) :
    (∃ fn body, P.funcs[g]? = some fn ∧ fn.body = some body ∧ fn.name ≠ "runtime.NumGoroutine") ∧
    ∀ F φ w vs, Conc F φ own w → AV.Rs F φ w args vs → Calls P g vs.toArray w fun e w' => ∃ r F' φ', e = .returned r ∧ After F φ w F' φ' own w' [] ∧ AV.R F' φ' w' v r := by
  simp only [Bool.and_eq_true, List.isEmpty_iff] at hs
  obtain ⟨hs, rfl⟩ := hs
  exact okF_data (R := fun ds' v' => ds' = ds ∧ v' = v) hf hb (hnames g fn hf) (fun ds' v' h => by
    obtain ⟨rfl, rfl⟩ := h
    exact dataRunT_ok hTab hrec hf hb hrun) _ _ _ _ _ ⟨ds, hds, ⟨rfl, rfl⟩, rfl, rfl, .inr hs⟩
theorem data_made {tab : Tab} (hTab : Base P tab) (hrec : RecOk P rec) (hnames : Names P) {g : Nat} {fn : Func} {body : Code} (hf : P.funcs[g]? = some fn) (hb : fn.body = some body) {args : List AV} {own : List Obj} {ds : List D} (hds : asDL own args = some ds) {v : AV} {ob : List Obj} (hrun : dataRunT P tab rec g fn body ds = some (v, ob)) (hk : args.all AV.isDat = true) :
    (∃ fn body, P.funcs[g]? = some fn ∧ fn.body = some body ∧ fn.name ≠ "runtime.NumGoroutine") ∧
    ∀ F φ w vs, Conc F φ own w → AV.Rs F φ w args vs → Calls P g vs.toArray w fun e w' => ∃ r F' φ', e = .returned r ∧ After F φ w F' φ' (own ++ ob.map (Obj.shift own.length)) w' [] ∧ AV.R F' φ' w' (v.shift own.length) r :=
  okF_made (R := fun ds' v' ob' => ds' = ds ∧ v' = v ∧ ob' = ob) hf hb (hnames g fn hf) (fun ds' v' ob' h => by
    obtain ⟨rfl, rfl, rfl⟩ := h
    exact dataRunT_ok hTab hrec hf hb hrun) _ _ _ _ _ ⟨ds, v, ob, hk, hds, ⟨rfl, rfl, rfl⟩, rfl, rfl, rfl⟩

theorem callBy_cases {tab : Tab} (hTab : Base P tab) (hrec : RecOk P rec) (hnames : Names P) {K : Func → Code → List AV → List Obj → Option Eff3} {g : Nat} {args : List AV} {own : List Obj} {r : Eff3} (h : callBy P tab rec K g args own = some r) :
    (∃ fn body, P.funcs[g]? = some fn ∧ fn.body = some body ∧ K fn body args own = some r) ∨
    (((∃ fn body, P.funcs[g]? = some fn ∧ fn.body = some body ∧ fn.name ≠ "runtime.NumGoroutine") ∧
    ∀ F φ w vs, Conc F φ own w → AV.Rs F φ w args vs → Calls P g vs.toArray w fun e w' => ∃ v F' φ', e = .returned v ∧ After F φ w F' φ' r.2.1 w' r.2.2 ∧ AV.R F' φ' w' r.1 v) ∧ (∃ ex, r.2.1 = own ++ ex) ∧ r.2.2 = []) := by
  unfold callBy at h
  split at h
  · cases h
  · rename_i fn hf
    split at h
    · cases h
    · rename_i body hb
      split at h
      · exact .inl ⟨fn, body, hf, hb, h⟩
      · split at h
        · exact .inl ⟨fn, body, hf, hb, h⟩
        · rename_i ds hds
          split at h
          · exact .inl ⟨fn, body, hf, hb, h⟩
          · rename_i v0 ob hrun
            split at h
            · rename_i hs
              cases h
              exact .inr ⟨data_scal hTab hrec hnames hf hb hds hrun hs, ⟨[], by simp⟩, rfl⟩
            · split at h
              · rename_i hk
                cases h
                exact .inr ⟨data_made hTab hrec hnames hf hb hds hrun hk, ⟨_, rfl⟩, rfl⟩
              · exact .inl ⟨fn, body, hf, hb, h⟩

theorem callO2_okG {tab : Tab} (hTab : Base P tab) (hrec : RecOk P rec) (hnames : Names P) : OkG P (runΓ P (callO2 P tab rec)) := by
  intro g args own v own' mv h
  unfold runΓ callO2 at h
  rcases callBy_cases hTab hrec hnames h with ⟨fn, body, hf, hb, h⟩ | h
  · unfold restO at h
    split at h
    · rename_i r e
      cases h
      exact fullO_okG hrec hnames hf hb e
    · exact frzO_okG hrec hnames hf hb h
  · exact h.1

def frzLC2 (C : Contract) : Contract := fun args own v own' mv => ∃ os args' own1 n0 , S.frzL os ⟨args, own, own.length, []⟩ = ⟨args', own1, n0, mv⟩ ∧ C args' own1 v own' []
theorem okF_frzL2 {g : Nat} {C : Contract} (h : OkF P g C) : OkF P g (frzLC2 C) := by
  rintro args own v own' mv ⟨os, args', own1, n0, he, hC⟩
  refine ⟨(h _ _ _ _ _ hC).1, fun F φ w vs hc hs => ?_⟩
  have hst : St ⟨F, w, φ, own.length⟩ ⟨args, own, own.length, []⟩ { tmps := vs.toArray, defers := [] } w :=
    ⟨rfl, rfl, F, φ, ⟨fun _ h => h, Ext.refl F w, fun _ _ _ _ h => h, fun _ _ _ => rfl, fun o L' ho hn => .inr ⟨o, L', ho, hn, rfl⟩, fun b hb => .inl hb⟩, hc, by simpa using hs⟩
  have hst' := le_SfrzL os _ _ _ _ hst
  rw [he] at hst'
  obtain ⟨_, hn, F1, φ1, s2, s3, s4⟩ := hst'
  simp only at hn s2 s3 s4
  refine ((h _ _ _ _ _ hC).2 F1 φ1 w vs s3 (by simpa using s4)).mono ?_
  rintro e w' ⟨r, F', φ', rfl, ha, hv⟩
  refine ⟨r, F', φ', rfl, ⟨fun b hb => ha.sub b (s2.sub b hb), ha.ext.mono s2.sub, ha.conc, fun o L hm ho => ?_, fun b hb hall => ?_, fun o L' ho hn' => ?_, fun b hb => ?_⟩, hv⟩
  · have hlt : o < own.length := by
      rcases Nat.lt_or_ge o own.length with h | h
      · exact h
      · rw [hc.out o h] at ho; cases ho
    exact ha.keep o L (by simp) (s2.keep o L hlt hm ho)
  · refine ha.rest b hb (fun o L ho hn' e => ?_)
    rcases s2.orig o L ho hn' with h | ⟨o', L', h1, h2, h3⟩
    · simp only at h; omega
    · exact hall o' L' h1 h2 (h3.trans e)
  · rcases ha.orig o L' ho hn' with h | ⟨o', L, h1, h2, h3⟩
    · exact .inl h
    · rw [← h3]; exact s2.orig o' L h1 h2
  · rcases ha.frsh b hb with h | h | ⟨o, L, h1, h2, h3⟩
    · exact s2.frsh b h
    · exact .inr (.inl h)
    · rw [← h3]
      rcases s2.orig o L h1 h2 with h | h
      · exact .inr (.inl h)
      · exact .inr (.inr h)

theorem memO_ok {tab : Tab} (hTab : Base P tab) (hnames : Names P) {g : Nat} {fn : Func} {body : Code} (hf : P.funcs[g]? = some fn) (hb : fn.body = some body) {args : List AV} {own : List Obj} {r : Eff3} (h : memO tab g args own = some r) :
    (∃ fn body, P.funcs[g]? = some fn ∧ fn.body = some body ∧ fn.name ≠ "runtime.NumGoroutine") ∧
    ∀ F φ w vs, Conc F φ own w → AV.Rs F φ w args vs → Calls P g vs.toArray w fun e w' => ∃ v F' φ', e = .returned v ∧ After F φ w F' φ' r.2.1 w' r.2.2 ∧ AV.R F' φ' w' r.1 v := by
  unfold memO at h
  split at h
  · cases h
  · split at h
    rename_i args' own1 n1 mv1 hS
    split at h
    · rename_i ds hall hds
      split at h
      · rename_i v0 ob hfind
        cases h
        have hd : OkF P g (madeC fun ds' v' ob' => ds' = ds ∧ v' = v0 ∧ ob' = ob) := okF_made hf hb (hnames g fn hf) (fun ds' v' ob' h => by
          obtain ⟨rfl, rfl, rfl⟩ := h
          exact hTab _ _ _ _ (Tab.find_mem hfind) _ _ hf hb)
        exact okF_frzL2 hd _ _ _ _ _ ⟨_, args', own1, n1, hS, ⟨ds, v0, ob, hall, hds, ⟨rfl, rfl, rfl⟩, rfl, rfl, rfl⟩⟩
      · cases h
    · cases h
theorem callO3_okG {tab : Tab} (hTab : Base P tab) (hrec : RecOk P rec) (hnames : Names P) : OkG P (runΓ P (callO3 P tab rec)) := by
  intro g args own v own' mv h
  unfold runΓ callO3 at h
  split at h
  · exact callO2_okG hTab hrec hnames _ _ _ _ _ _ h
  · rename_i r e
    split at h
    · cases h
    · rename_i fn hf
      split at h
      · cases h
      · rename_i body hb
        cases h
        exact memO_ok hTab hnames hf hb e

theorem mcallO_both {tab : Tab} (hTab : Base P tab) (hrec : RecOk P rec) (hnames : Names P) {g : Nat} {args : List AV} {own : List Obj} {r : Eff3} (h : mcallO P tab rec g args own = some r) :
    ((∃ fn body, P.funcs[g]? = some fn ∧ fn.body = some body ∧ fn.name ≠ "runtime.NumGoroutine") ∧
    ∀ F φ w vs, Conc F φ own w → AV.Rs F φ w args vs → Calls P g vs.toArray w fun e w' => ∃ v F' φ', e = .returned v ∧ After F φ w F' φ' r.2.1 w' r.2.2 ∧ AV.R F' φ' w' r.1 v) ∧ (∃ ex, r.2.1 = own ++ ex) ∧ r.2.2 = [] := by
  unfold mcallO at h
  rcases callBy_cases hTab hrec hnames h with ⟨fn, body, hf, hb, h⟩ | h
  · obtain ⟨h1, h2⟩ := fullM_eq h
    exact ⟨fullO_okG hrec hnames hf hb h1, h2⟩
  · exact h

theorem pcallO2_both {tab : Tab} (hTab : Base P tab) (hrec : RecOk P rec) (hnames : Names P) {g : Nat} {args : List AV} {own : List Obj} {r : Eff3} (h : pcallO2 P tab rec g args own = some r) :
    ((∃ fn body, P.funcs[g]? = some fn ∧ fn.body = some body ∧ fn.name ≠ "runtime.NumGoroutine") ∧
    ∀ F φ w vs, Conc F φ own w → AV.Rs F φ w args vs → Calls P g vs.toArray w fun e w' => ∃ v F' φ', e = .returned v ∧ After F φ w F' φ' r.2.1 w' r.2.2 ∧ AV.R F' φ' w' r.1 v) ∧ r.2.1 = own ∧ r.2.2 = [] := by
  unfold pcallO2 at h
  split at h
  · cases h
  · rename_i fn hf
    split at h
    · cases h
    · rename_i body hb
      split at h
      · cases h
      · rename_i ds hds
        split at h
        · cases h
        · rename_i v0 ob hrun
          obtain ⟨h1, h2⟩ := gd_some h
          cases h2
          exact ⟨data_scal hTab hrec hnames hf hb hds hrun h1, rfl, rfl⟩

def pmcallO (P : Program) (tab : Tab) (rec : Code → S → Option (Exit × S)) (pf : List Nat) : CallO := fun g args own => match pf.contains g with | true => pcallO2 P tab rec g args own | false => mcallO P tab rec g args own

theorem pmcallO_okG {tab : Tab} (hTab : Base P tab) (hrec : RecOk P rec) (hnames : Names P) (pf : List Nat) : OkG P (runΓ P (pmcallO P tab rec pf)) := by
  intro g args own v own' mv h
  unfold runΓ pmcallO at h
  split at h
  · exact (pcallO2_both hTab hrec hnames h).1
  · exact (mcallO_both hTab hrec hnames h).1
theorem pmcallO_pure {tab : Tab} (hTab : Base P tab) (hrec : RecOk P rec) (hnames : Names P) (pf : List Nat) : PureFns (runΓ P (pmcallO P tab rec pf)) pf := by
  intro g args own v own' mv hg h
  unfold runΓ pmcallO at h
  split at h
  · exact (pcallO2_both hTab hrec hnames h).2
  · rename_i e; simp at e; exact (e hg).elim
theorem pmcallO_made {tab : Tab} (hTab : Base P tab) (hrec : RecOk P rec) (hnames : Names P) (pf mf : List Nat) : MakeFns (runΓ P (pmcallO P tab rec pf)) mf := by
  intro g args own v own' mv hg h
  unfold runΓ pmcallO at h
  split at h
  · obtain ⟨h1, h2⟩ := (pcallO2_both hTab hrec hnames h).2
    exact ⟨⟨[], by simpa using h1⟩, h2⟩
  · exact (mcallO_both hTab hrec hnames h).2

theorem pcallO2_okG {tab : Tab} (hTab : Base P tab) (hrec : RecOk P rec) (hnames : Names P) : OkG P (runΓ P (pcallO2 P tab rec)) := fun _ _ _ _ _ _ h => (pcallO2_both hTab hrec hnames h).1
theorem pcallO2_pure {tab : Tab} (hTab : Base P tab) (hrec : RecOk P rec) (hnames : Names P) (pf : List Nat) : PureFns (runΓ P (pcallO2 P tab rec)) pf := fun _ _ _ _ _ _ _ h => (pcallO2_both hTab hrec hnames h).2

def makersO (P : Program) (ops : Array Oper) : List Nat := (ops.toList.map Oper.callee).flatten.filter fun g => match P.funcs[g]? with | some fn => !pureSig P fn | none => true

def appsO (ops : Array Oper) : List Nat :=
  let r := List.range ops.size
  let ap := fun i => match ops[i]? with | some o => isApp o | none => false
  match r.any ap with
  | false => []
  | true => r.filter fun p => ap p || (match ops[p]? with | some o => isQ o && r.any fun i => ap i && !Region.waitsFor .any ops i p && !Region.waitsFor .any ops p i | none => false)
def findKo (P : Program) (call : CallO) (all : Array Oper) : List Nat → S → Nat
  | [], _ => 1000000
  | i :: r, σ => match all[i]? with
    | none => 1000000
    | some o => (match isApp o with
      | true => (match o.op with | .call c => (match c.args.toList with | [x, _] => (match ev σ.slots x with | .sl ob _ _ => ob | _ => 1000000) | _ => 1000000) | _ => 1000000)
      | false => (match opgO P call all o σ with | some σ' => findKo P call all r σ' | none => 1000000))

def drawT0 (P : Program) (tab : Tab) (rec : Code → S → Option (Exit × S)) (mk : List Nat) (ops : Array Oper) (σ : S) : Option S :=
  natsF (orderO ops ops.size [] (List.range ops.size)) fun L =>
  natsF (marksO ops) fun ms =>
  natsF (appsO ops) fun ks =>
  natsF ((ops.toList.map Oper.callee).flatten.filter fun g => !mk.contains g) fun pf =>
  let mf := dynF :: mk
  let T := buildT pf mf ms ks ops ops.size (List.range ops.size)
  gd (drawOkT pf mf ms ks ops T) (match natF (match ms with | [] => 0 | _ => findOb P (pmcallO P tab rec pf) ops ms L σ) fun ob => natF (match ks with | [] => 0 | _ => findKo P (pmcallO P tab rec pf) ops L σ) fun ko => runT P (pmcallO P tab rec pf) ops ob ko ms ks T σ [] none with
    | some x => some x.1
    | none => none)

theorem drawT0_ok {tab : Tab} (hTab : Base P tab) (hm : P.follows .mixedOrders = true) (hrec : RecOk P rec) (hnames : Names P) {id : Nat} {ops : Array Oper} {σ σ' : S} {Q : Exit → S → Prop}
    {mk : List Nat} (h : drawT0 P tab rec mk ops σ = some σ') (hq : Q .normal σ') : sem P (.region id ops true) Q σ := by
  unfold drawT0 at h
  simp only [natsF_eq, natF_eq] at h
  obtain ⟨h1, h2⟩ := gd_some h
  split at h2
  · rename_i x e
    cases h2
    have hT := runT_ok (Γ := runΓ P (pmcallO P tab rec _)) (fun _ _ _ _ h => h) (Q := fun e s => e = .normal ∧ Le s x.1) _ _ _ _ _ e (fun s hs => ⟨rfl, hs⟩)
    have hs := sem_drawT (id := id) hm (pmcallO_okG hTab hrec hnames _) (pmcallO_pure hTab hrec hnames _) (pmcallO_made hTab hrec hnames _ _) _ h1 hT.1
    intro c a w hst
    refine wp_mono (hs c a w hst) ?_
    rintro e' a' w' ⟨s, hst', rfl, hle⟩
    exact ⟨x.1, hle _ _ _ hst', hq⟩
  · cases h2

def drawO2 (P : Program) (tab : Tab) (rec : Code → S → Option (Exit × S)) (ops : Array Oper) (σ : S) : Option S :=
  natsF (makersO P ops) fun mk =>
  match (match mk with | [] => drawO0 P (pcallO2 P tab rec) ops σ | _ => none) with
  | some s => some s
  | none => (match drawT0 P tab rec mk ops σ with
    | some s => some s
    | none => drawT0 P tab rec mk ops (σ.frzL (ops.toList.map fun o => (o.op.operands.toList.map fun x => (ev σ.slots x).rowRefs).flatten).flatten))
theorem drawO2_ok {tab : Tab} (hTab : Base P tab) (hm : P.follows .mixedOrders = true) (hrec : RecOk P rec) (hnames : Names P) {id : Nat} {ops : Array Oper} {σ σ' : S} {Q : Exit → S → Prop}
    (h : drawO2 P tab rec ops σ = some σ') (hq : Q .normal σ') : sem P (.region id ops true) Q σ := by
  unfold drawO2 at h
  rw [natsF_eq] at h
  split at h
  · rename_i s e
    cases h
    split at e
    · exact drawO0_ok hm (pcallO2_okG hTab hrec hnames) (pcallO2_pure hTab hrec hnames) (fun _ _ _ _ h => h) e hq
    · cases e
  · split at h
    · rename_i s e; cases h; exact drawT0_ok hTab hm hrec hnames e hq
    · exact sem_le (le_SfrzL _ _) (drawT0_ok hTab hm hrec hnames h hq)

def preF (tab : Tab) (code : Code) (σ : S) : S :=
  match code with
  | .region _ ops false => (match ops.toList.any fun o => (Oper.callee o).any (Tab.has tab) with
    | true => S.frzL ((ops.toList.map fun o => (o.op.operands.toList.map fun x => deepRefs σ.own 3 (ev σ.slots x)).flatten).flatten) σ
    | false => σ)
  | _ => σ
theorem le_preF (tab : Tab) (code : Code) (σ : S) : Le σ (preF tab code σ) := by
  unfold preF
  split
  · split
    · exact le_SfrzL _ _
    · exact Le.refl _
  · exact Le.refl _
attribute [irreducible] preF

def stepC2 (P : Program) (tab : Tab) (call : CallO) (rec : Code → S → Option (Exit × S)) (code : Code) (σ : S) : Option (Exit × S) :=
  match code with
  | .region _ ops true => (match drawO2 P tab rec ops σ with | some s => spineF s.slots fun sl => some (.normal, { s with slots := sl }) | none => none)
  | code => stepC P call (pcallO P rec) rec code (preF tab code σ)

theorem stepC2_ok {tab : Tab} (hTab : Base P tab) {Γ : Nat → Contract} {call : CallO} (hm : P.follows .mixedOrders = true) (hnames : Names P) (hΓ : OkG P Γ) (hc : ∀ g args own r, call g args own = some r → Γ g args own r.1 r.2.1 r.2.2) (hrec : RecOk P rec) : RecOk P (stepC2 P tab call rec) := by
  intro code σ e s h Q hq
  unfold stepC2 at h
  split at h
  · split at h
    · rename_i s' e1; rw [spineF_eq] at h; cases h; exact drawO2_ok hTab hm hrec hnames e1 hq
    · cases h
  · exact sem_le (le_preF _ _ _) (stepC_ok hm hΓ hc (pcallO_okG hrec hnames) pcallO_pure (fun _ _ _ _ h => h) hrec _ _ _ _ h Q hq)

def runC2 (P : Program) (tab : Tab) (n : Nat) : Code → S → Option (Exit × S) :=
  Nat.rec (motive := fun _ => Code → S → Option (Exit × S)) (fun _ _ => none) (fun _ rec => stepC2 P tab (callO3 P tab rec) rec) n

theorem runC2_ok {tab : Tab} (hTab : Base P tab) (hm : P.follows .mixedOrders = true) (hnames : Names P) : ∀ n, RecOk P (runC2 P tab n)
  | 0 => fun _ _ _ _ h => by cases h
  | n + 1 => stepC2_ok hTab hm hnames (callO3_okG hTab (runC2_ok hTab hm hnames n) hnames) (fun _ _ _ _ h => h) (runC2_ok hTab hm hnames n)

def evalF2 (P : Program) (tab : Tab) (n : Nat) (g : Nat) (ds : List D) : Option AV :=
  match pcallO2 P tab (runC2 P tab n) g (ds.map .dat) [] with | some r => some r.1 | none => none

def evalM (P : Program) (tab : Tab) (n : Nat) (g : Nat) (ds : List D) : Option (AV × List Obj) :=
  match P.funcs[g]? with
  | none => none
  | some fn => (match fn.body with
    | none => none
    | some body => dataRun2 P (runC2 P tab n) fn body ds)
theorem base_nil : Base P [] := fun _ _ _ _ h => by cases h
theorem base_cons {tab sub : Tab} (hTab : Base P tab) (hS : Base P sub) (hm : P.follows .mixedOrders = true) (hnames : Names P) {g : Nat} {ds : List D} {v : AV} {ob : List Obj} (n : Nat) (h : evalM P sub n g ds = some (v, ob)) : Base P ((g, ds, v, ob) :: tab) := by
  intro g' ds' v' ob' hm' fn body hf hb
  rcases List.mem_cons.1 hm' with e | e
  · cases e
    unfold evalM at h
    rw [hf] at h
    simp only [hb] at h
    exact dataRun2_ok (runC2_ok hS hm hnames n) h
  · exact hTab _ _ _ _ e fn body hf hb

theorem okF_eval2 {tab : Tab} (hTab : Base P tab) (hm : P.follows .mixedOrders = true) (hnames : Names P) {g : Nat} (n : Nat) (l : List (List D × AV)) (h : ∀ x ∈ l, evalF2 P tab n g x.1 = some x.2) : OkF P g (dataC fun ds v => (ds, v) ∈ l) := by
  have hrec := runC2_ok hTab hm hnames n
  intro args own v own' mv hC
  obtain ⟨ds, hds, hR, rfl, rfl, _⟩ := hC
  have he := h _ hR
  simp only at he
  unfold evalF2 pcallO2 at he
  split at he
  · rename_i r hr
    cases he
    split at hr
    · cases hr
    · rename_i fn hf
      split at hr
      · cases hr
      · rename_i body hb
        rw [asDL_dats'] at hr
        simp only at hr
        split at hr
        · cases hr
        · rename_i v0 ob hrun
          obtain ⟨h1, h2⟩ := gd_some hr
          cases h2
          exact data_scal hTab hrec hnames hf hb hds hrun h1
  · cases he
end
end Go.AM

namespace Go.AM
open Go

@[go_sem] theorem one_string {b : ByteArray} : (Value.string b).oneCell' = true := Eq.trans rfl rfl
@[go_sem] theorem constAV0_str {l : List UInt8} (h : l.length ≤ 1000000) : constAV0 (.string ⟨l.toArray⟩) = .dat (.str l) := by
  simp only [constAV0]
  rw [if_pos (show (ByteArray.mk l.toArray).size ≤ 1000000 by simpa [ByteArray.size] using h)]
@[go_sem] theorem ev_str {s : List AV} {l : List UInt8} (h : l.length ≤ 1000000) : ev s (.const (.string ⟨l.toArray⟩)) = .dat (.str l) := by
  simp only [ev, constAV]
  exact constAV0_str h

@[go_sem ↓] theorem fits_nil {ag : Option Nat} : (∀ d ∈ ([] : List D), D.fits ag d) = True := by simp
@[go_sem ↓] theorem fits_cons {ag : Option Nat} {x : D} {l : List D} : (∀ d ∈ (x :: l), D.fits ag d) = (D.fits ag x ∧ ∀ d ∈ l, D.fits ag d) := by simp
@[go_sem ↓] theorem fits_sing {ag : Option Nat} {x : D} : (∀ d ∈ [x], D.fits ag d) = D.fits ag x := by simp

section
variable {α : Type} {l r : List α} {x : α} {k : Nat}
theorem lt_of_drop (h : l.drop k = x :: r) : k < l.length := by
  rcases Nat.lt_or_ge k l.length with h1 | h1
  · exact h1
  · rw [List.drop_eq_nil_of_le h1] at h; cases h
theorem drop_cons (h : l.drop k = x :: r) : l.drop (k + 1) = r := by
  have := congrArg List.tail h
  simpa [List.tail_drop] using this
theorem get_of_drop (h : l.drop k = x :: r) : l[k]? = some x := by
  have := congrArg List.head? h
  simpa [List.head?_drop] using this
theorem getD_of_drop {d : α} (h : l.drop k = x :: r) : l.getD k d = x := by
  rw [List.getD_eq_getElem?_getD, get_of_drop h]; rfl
theorem take_of_drop (h : l.drop k = x :: r) : l.take (k + 1) = l.take k ++ [x] := by
  rw [List.take_add_one, get_of_drop h]; rfl
theorem nth_of_drop {f : α → D} (h : l.drop k = x :: r) : D.nth (l.map f) k = f x := by
  simp [D.nth, get_of_drop h]
theorem nil_of_drop (h : l.drop k = []) : l.length ≤ k := by simpa using h
theorem end_of_drop (h : l.drop k = []) (hk : k ≤ l.length) : k = l.length := by have := nil_of_drop h; omega
theorem mem_of_drop (h : l.drop k = x :: r) : x ∈ l := List.mem_of_getElem? (get_of_drop h)
theorem drop_of_get (h : l[k]? = some x) : l.drop k = x :: l.drop (k + 1) := by
  obtain ⟨hk, rfl⟩ := List.getElem?_eq_some_iff.1 h
  exact List.drop_eq_getElem_cons hk
end
end Go.AM

namespace Go.AM
open Go
section
variable {P : Program}
def normC (C : Contract) : Contract := fun args own v own' mv => C (args.map AV.norm) own v own' mv
theorem Rs_norm {F : Nat → Prop} {φ : Nat → Option Loc} {w : World} : ∀ {vs : List AV} {us : List Value}, AV.Rs F φ w vs us → AV.Rs F φ w (vs.map AV.norm) us
  | [], us, h => h
  | x :: xs, us, h => by
    simp only [AV.Rs] at h
    obtain ⟨u, us', rfl, h1, h2⟩ := h
    simp only [List.map_cons, AV.Rs]
    exact ⟨u, us', rfl, R_norm h1, Rs_norm h2⟩
theorem okF_norm {g : Nat} {C : Contract} (h : OkF P g C) : OkF P g (normC C) := by
  intro args own v own' mv hC
  refine ⟨(h _ _ _ _ _ hC).1, fun F φ w vs hc hs => (h _ _ _ _ _ hC).2 F φ w vs hc (Rs_norm hs)⟩
theorem call_lentN {l : List (Nat × Contract)} {g : Nat} (R : List AV → List Obj → AV → List Obj → List Obj → List Nat → Prop) (hm : (g, normC (lentC R)) ∈ l) {args : List AV} {own : List Obj} {K : AV → List Obj → List Nat → Prop} (os : List Nat) {as : List AV} {obs : List Obj} {v0 : AV} {obs' ex : List Obj} {mv0 : List Nat}
    (hR : R as obs v0 obs' ex mv0) (hnd : os.Nodup) (hlt : ∀ o ∈ os, o < own.length) (h1 : obs.length = os.length) (h2 : obs'.length = os.length) (hargs : args.map AV.norm = AV.rens (emb os own.length) as) (hun : AV.unders os.length as) (hob : ∀ x ∈ obs, x.under os.length)
    (hown : ∀ j, j < os.length → own[os.getD j 0]? = some ((obs.getD j .dead).ren (emb os own.length)))
    (hK : K (v0.ren (emb os own.length)) (setAll (own.map (Obj.killAll (mv0.map (emb os own.length)))) os (obs'.map (Obj.ren (emb os own.length))) ++ ex.map (Obj.ren (emb os own.length))) (mv0.map (emb os own.length))) : callw (tbl l) (.fn g []) args own K :=
  call_by (normC (lentC R)) hm _ _ _ ⟨os, as, obs, v0, obs', ex, mv0, hnd, hlt, h1, h2, hargs, hun, hob, hown, hR, rfl, rfl, rfl⟩ hK
end
end Go.AM

