/-
  AM37: regions that draw their order and append: the append is swapped with the operations that do not look at what it writes; what an operation waits for through others counts too.
  Own work over the kit's model. Generic over the program.
-/
import Derived.Test.YtigpifiechkfkaaDoorLibF
set_option linter.unusedSimpArgs false
set_option linter.unusedVariables false

namespace Go.AM
open Go

def isApp (o : Oper) : Bool :=
  match o.op, o.guard with
  | .call c, none => (match c.callee with | .builtin .append => true | _ => false)
  | _, _ => false
def isLit (o : Oper) : Bool :=
  match o.op, o.guard with
  | .buildSlice _ _ _, none => true
  | _, _ => false
/-- The operations that may be swapped with an append. -/
def isQ (o : Oper) : Bool :=
  match o.op, o.guard with
  | .move _, none | .assign _, none | .load _ _, none | .fieldAddr _ _ _, none | .indexAddr _ _ _, none => true
  | _, _ => false

/-- What must hold of a marked operation's operands: an append grows object ko; another does not look at it. -/
def condA (ko : Nat) (o : Oper) (s : List AV) : Prop :=
  match o.op with
  | .call c => (match c.args.toList with | [x, _] => (match ev s x with | .sl o' _ _ => o' = ko | _ => False) | _ => False)
  | .load _ x => (match ev s x with | .ptr o' _ _ => o' ≠ ko | .rptr _ _ => True | _ => False)
  | .fieldAddr _ x _ => (match ev s x with | .ptr o' _ _ => o' ≠ ko | .rptr _ _ => True | _ => False)
  | .indexAddr _ x i => (match ev s x with | .ptr o' _ _ => o' ≠ ko | .sl o' _ _ => o' ≠ ko | .dat _ => True | _ => False) ∧ (match ev s i with | .dat _ => True | _ => False)
  | .move _ => True
  | .assign _ => True
  | _ => False

section
variable {P : Program} {Γ : Nat → Contract} {own : List Obj} {ko : Nat}

def opk (P : Program) (Γ : Nat → Contract) (all : Array Oper) (ko : Nat) (m : Bool) (o : Oper) (K : S → Prop) (σ : S) : Prop := (m = true → condA ko o σ.slots) ∧ opg P Γ all o K σ

theorem kills_eq (o : Nat) : ∀ s : List AV, AV.kills o s = s.map (AV.kill o)
  | [] => rfl
  | a :: s => by simp only [AV.kills, List.map_cons, kills_eq o s]
theorem kills_getD (o : Nat) (s : List AV) (i : Nat) : (AV.kills o s).getD i .top = (s.getD i .top).kill o := by
  rw [kills_eq]
  simp only [List.getD_eq_getElem?_getD, List.getElem?_map]
  cases s[i]? <;> rfl
theorem kills_put (o : Nat) (s : List AV) (i : Nat) (v : AV) : AV.kills o (s.set i v) = (AV.kills o s).set i (v.kill o) := by
  rw [kills_eq, kills_eq, List.map_set]
theorem constAV0_kill (o : Nat) (v : Value) : (constAV0 v).kill o = constAV0 v := by
  unfold constAV0; split <;> first | rfl | (split <;> rfl)
theorem constAV_kill (o : Nat) (v : Value) : (constAV v).kill o = constAV v := by
  unfold constAV
  split
  · split
    · simp only [AV.kill, kills_eq, List.map_map]
      congr 1
      exact List.map_congr_left fun x _ => constAV0_kill o x
    · rfl
  · exact constAV0_kill o _
theorem ev_kills (o : Nat) (s : List AV) (x : Operand) : ev (AV.kills o s) x = (ev s x).kill o := by
  cases x with
  | tmp t => exact kills_getD o s t
  | const v => exact (constAV_kill o v).symm
  | func f => rfl
  | global g => simp only [ev, globAV]; split <;> rfl

theorem getD_killset {o' : Nat} {obj' : Obj} (h : o' ≠ ko) : ((own.map (Obj.kill ko)).set ko obj').getD o' .dead = (own.getD o' .dead).kill ko := by
  have h' : ¬ ko = o' := fun e => h e.symm
  simp only [List.getD_eq_getElem?_getD, List.getElem?_set, h', if_false, List.getElem?_map]
  cases own[o']? <;> rfl

theorem loadObj_kill {τ : Ty} {obj : Obj} {i j : Nat} {k : AV → Prop} (h : loadObj τ obj i j k) : loadObj τ (obj.kill ko) i j (fun v' => ∃ v, v' = v.kill ko ∧ k v) := by
  unfold loadObj at h
  split at h
  · unfold loadObj
    simp only [Obj.kill]
    split at h
    · rename_i ha; rw [if_pos ha]; exact ⟨h.1, h.2.1, h.2.2.1, _, rfl, h.2.2.2⟩
    · rename_i ha; rw [if_neg ha]; exact ⟨h.1, h.2.1, _, rfl, h.2.2⟩
  · unfold loadObj
    simp only [Obj.kill]
    exact ⟨h.1, h.2.1, _, rfl, h.2.2⟩
  · unfold loadObj
    simp only [Obj.kill]
    refine ⟨h.1, h.2.1, by rw [kills_eq, List.length_map]; exact h.2.2.1, _, ?_, h.2.2.2⟩
    exact kills_getD _ _ _
  · unfold loadObj
    simp only [Obj.kill]
    refine ⟨h.1, ?_⟩
    obtain ⟨_, h⟩ := h
    split at h
    · rename_i ha; rw [if_pos ha]
      refine ⟨by rw [kills_eq, List.length_map]; exact h.1, _, ?_, h.2⟩
      simp only [AV.kill, kills_eq, List.map_drop, List.map_take]
    · rename_i ha; rw [if_neg ha]
      refine ⟨by rw [kills_eq, List.length_map]; exact h.1, _, ?_, h.2⟩
      exact kills_getD _ _ _
  · exact h.elim

/-- What does not look at the grown object yields what it did, but for references to that object. -/
theorem vop_kill {o : Oper} (hq : isQ o = true) {s : List AV} {obj' : Obj} {k : AV → Prop} (hc : condA ko o s) (h : vop P own s o.op k) :
    vop P ((own.map (Obj.kill ko)).set ko obj') (AV.kills ko s) o.op (fun v' => ∃ v, v' = v.kill ko ∧ k v) := by
  unfold isQ at hq
  unfold condA at hc
  split at hq
  · rename_i x hop _
    rw [hop] at h ⊢
    simp only [vop] at h ⊢
    exact ⟨_, ev_kills _ _ _, h⟩
  · rename_i x hop _
    rw [hop] at h ⊢
    simp only [vop] at h ⊢
    exact ⟨_, ev_kills _ _ _, h⟩
  · rename_i t x hop _
    rw [hop] at h hc ⊢
    simp only [vop] at h hc ⊢
    rw [ev_kills]
    cases hx : ev s x <;> rw [hx] at hc h <;> simp only at hc
    · rename_i o' i j
      simp only [AV.kill, hc, if_false]
      unfold loadw at h ⊢
      split at h
      · rename_i τ o2 i2 j2 hτ hp
        cases hp
        rw [getD_killset hc]
        exact loadObj_kill h
      · rename_i hp; cases hp
      · exact h.elim
    · simp only [AV.kill]
      unfold loadw at h ⊢
      split at h
      · rename_i hp; cases hp
      · rename_i hp; cases hp
        exact ⟨h.1, _, rfl, h.2⟩
      · exact h.elim
  · rename_i t x f hop _
    rw [hop] at h hc ⊢
    simp only [vop] at h hc ⊢
    rw [ev_kills]
    cases hx : ev s x <;> rw [hx] at hc h <;> simp only at hc
    · rename_i o' i j
      simp only [AV.kill, hc, if_false]
      unfold fieldAddrw at h ⊢
      split at h
      · rename_i hf hp
        cases hp
        exact ⟨_, by simp only [AV.kill, hc, if_false], h⟩
      · rename_i hp; cases hp
      · exact h.elim
    · simp only [AV.kill]
      unfold fieldAddrw at h ⊢
      split at h
      · rename_i hp; cases hp
      · rename_i hf hp
        cases hp
        exact ⟨h.1, _, rfl, h.2⟩
      · exact h.elim
  · rename_i t x i hop _
    rw [hop] at h hc ⊢
    simp only [vop] at h hc ⊢
    rw [ev_kills, ev_kills]
    obtain ⟨hc, hi⟩ := hc
    cases hy : ev s i <;> rw [hy] at hi <;> simp only at hi
    rename_i di
    rw [hy] at h
    simp only [AV.kill]
    cases hx : ev s x <;> rw [hx] at hc h <;> simp only at hc
    · simp only [AV.kill]
      unfold idxAddrw at h ⊢
      split at h
      · rename_i hp _; cases hp
      · rename_i τ ag xs k' n hτ hp hn
        cases hp; cases hn
        simp only at h ⊢
        split at h
        · split at h
          · exact ⟨h.1, h.2.1, h.2.2.1, _, rfl, h.2.2.2⟩
          · exact h.elim
        · exact h.elim
      · rename_i hp _; cases hp
      · rename_i hp _; cases hp
      · exact h.elim
    · rename_i o' off len
      simp only [AV.kill, hc, if_false]
      unfold idxAddrw at h ⊢
      split at h
      · rename_i τ o2 off2 len2 k' n hτ hp hn
        cases hp; cases hn
        simp only at h ⊢
        split at h
        · split at h
          · obtain ⟨h1, h2, h3, h4⟩ := h
            refine ⟨h1, h2, ?_, _, ?_, h4⟩
            · rw [getD_killset hc]
              rcases h3 with ⟨ag, xs, e1, e2⟩ | ⟨cs, e1, e2⟩
              · exact .inl ⟨ag, xs, by rw [e1]; rfl, e2⟩
              · exact .inr ⟨AV.kills ko cs, by rw [e1]; rfl, e2⟩
            · simp only [AV.kill, hc, if_false]
          · exact h.elim
        · exact h.elim
      · rename_i hp _; cases hp
      · rename_i hp _; cases hp
      · rename_i hp _; cases hp
      · exact h.elim
    · rename_i o' i0 j0
      simp only [AV.kill, hc, if_false]
      unfold idxAddrw at h ⊢
      split at h
      · rename_i hp _; cases hp
      · rename_i hp _; cases hp
      · rename_i τ o2 off2 len2 k' n hτ hp hn
        cases hp; cases hn
        simp only at h ⊢
        split at h
        · split at h
          · obtain ⟨h1, h2, h3⟩ := h
            refine ⟨h1, h2, ?_⟩
            rw [getD_killset hc]
            split at h3
            · rename_i e1; rw [e1]; simp only [Obj.kill]
              exact ⟨h3.1, h3.2.1, h3.2.2.1, _, by simp only [AV.kill, hc, if_false], h3.2.2.2⟩
            · rename_i e1; rw [e1]; simp only [Obj.kill]
              exact ⟨_, by simp only [AV.kill, hc, if_false], h3⟩
            · rename_i e1; rw [e1]; simp only [Obj.kill]
              exact ⟨_, by simp only [AV.kill, hc, if_false], h3⟩
            · exact h3.elim
          · exact h.elim
        · exact h.elim
      · rename_i hp _; cases hp
      · exact h.elim
  · cases hq

theorem condA_kills {o : Oper} (hq : isQ o = true) {s : List AV} (hc : condA ko o s) : condA ko o (AV.kills ko s) := by
  unfold isQ at hq
  unfold condA at hc ⊢
  split at hq
  · rename_i x hop _; rw [hop]; trivial
  · rename_i x hop _; rw [hop]; trivial
  · rename_i t x hop _
    rw [hop] at hc ⊢
    simp only at hc ⊢
    rw [ev_kills]
    cases hx : ev s x <;> rw [hx] at hc <;> simp only at hc
    · simp only [AV.kill, hc, if_false]; exact hc
    · trivial
  · rename_i t x f hop _
    rw [hop] at hc ⊢
    simp only at hc ⊢
    rw [ev_kills]
    cases hx : ev s x <;> rw [hx] at hc <;> simp only at hc
    · simp only [AV.kill, hc, if_false]; exact hc
    · trivial
  · rename_i t x i hop _
    rw [hop] at hc ⊢
    simp only at hc ⊢
    rw [ev_kills, ev_kills]
    obtain ⟨hc, hi⟩ := hc
    refine ⟨?_, ?_⟩
    · cases hx : ev s x <;> rw [hx] at hc <;> simp only at hc
      · trivial
      · simp only [AV.kill, hc, if_false]; exact hc
      · simp only [AV.kill, hc, if_false]; exact hc
    · cases hy : ev s i <;> rw [hy] at hi <;> simp only at hi
      trivial
  · cases hq
/- ### what an append and a literal do -/

theorem appendw_det {τ : Option Ty} {off len : Nat} {y : AV} {K : AV → List Obj → List Nat → Prop} (h : appendw P τ own (.sl ko off len) y K) :
    ∃ v obj', K v ((own.map (Obj.kill ko)).set ko obj') [ko] ∧ ∀ K' : AV → List Obj → List Nat → Prop, K' v ((own.map (Obj.kill ko)).set ko obj') [ko] → appendw P τ own (.sl ko off len) y K' := by
  unfold appendw at h ⊢
  simp only at h ⊢
  split at h
  · unfold appendVw at h ⊢
    split at h
    · split at h
      · split at h
        · obtain ⟨h1, h2, h3, h4, h5, h6⟩ := h
          rename_i cs hobj _ _ _ _ _ _ _ _ _ _
          exact ⟨_, _, h6, fun K' hK' => ⟨h1, h2, h3, h4, h5, hK'⟩⟩
        · exact h.elim
      · exact h.elim
    · exact h.elim
  · unfold appendRw at h ⊢
    split at h
    · split at h
      · split at h
        · obtain ⟨h1, h2, h3, h4, h5⟩ := h
          simp only at h5
          split at h5
          · rename_i ag xs hobj
            obtain ⟨g1, g2, g3, g4, g5⟩ := h5
            exact ⟨_, _, g5, fun K' hK' => ⟨h1, h2, h3, h4, by simp only [hobj]; exact ⟨g1, g2, g3, g4, hK'⟩⟩⟩
          · exact h5.elim
        · exact h.elim
      · exact h.elim
    · exact h.elim

theorem app_det {o : Oper} (hm : isApp o = true) {K : S → Prop} {σ : S} {all : Array Oper} (hc : condA ko o σ.slots) (h : opg P Γ all o K σ) :
    ∃ v obj', K (σ.effect o.dst v ((σ.own.map (Obj.kill ko)).set ko obj') [ko]) ∧
      ∀ (K' : S → Prop) (σ' : S), σ'.own = σ.own → (∀ x ∈ o.op.operands.toList, ev σ'.slots x = ev σ.slots x) → K' (σ'.effect o.dst v ((σ.own.map (Obj.kill ko)).set ko obj') [ko]) → opg P Γ all o K' σ' := by
  unfold isApp at hm
  split at hm
  · rename_i c hop hg
    split at hm
    · rename_i hcal
      unfold condA at hc
      rw [hop] at hc
      simp only at hc
      split at hc
      · rename_i x y hargs
        have e : ∀ (K : S → Prop) (σ : S), opg P Γ all o K σ = (match c.argTypes.toList with | [t, t'] => t = t' ∧ appendw P (tyOf P t) σ.own (ev σ.slots x) (ev σ.slots y) (PutE o.dst K σ) | _ => False) := fun K σ => by
          unfold opg
          rw [hg]
          simp only
          unfold opw
          rw [hop]
          simp only [isV, hcal, eop, Bool.false_eq_true, if_false, ecall, hargs]
          split <;> simp_all
        rw [e] at h
        split at h
        · rename_i t t' hts
          obtain ⟨ht, h⟩ := h
          split at hc
          · rename_i o' off len hx
            subst hc
            rw [hx] at h
            obtain ⟨v, obj', h1, h2⟩ := appendw_det h
            refine ⟨v, obj', h1, fun K' σ' ho hxs hK' => ?_⟩
            have mem : ∀ z ∈ c.args.toList, z ∈ o.op.operands.toList := fun z hz => by
              rw [hop]
              simp [Op.operands, Call.operands, hcal, hz]
            rw [e, hts]
            simp only
            refine ⟨ht, ?_⟩
            rw [ho, hxs x (mem x (by rw [hargs]; simp)), hxs y (mem y (by rw [hargs]; simp)), hx]
            exact h2 _ hK'
          · exact hc.elim
        · exact h.elim
      · exact hc.elim
    · cases hm
  · cases hm

theorem lit_det {o : Oper} (hm : isLit o = true) {K : S → Prop} {σ : S} {all : Array Oper} (h : opg P Γ all o K σ) :
    ∃ v ex, K (σ.effect o.dst v (σ.own ++ ex) []) ∧ Eff P Γ all o σ v (σ.own ++ ex) := by
  unfold isLit at hm
  split at hm
  · rename_i t len parts hop hg
    have e : ∀ (K : S → Prop) (σ : S), opg P Γ all o K σ = buildSlicew P (tyOf P t) σ.own len (parts.toList.map fun p => (p.1, ev σ.slots p.2)) (PutE o.dst K σ) := fun K σ => by
      unfold opg
      rw [hg]
      simp only
      unfold opw
      simp only [hop, isV, Bool.false_eq_true, if_false, eop]
    rw [e] at h
    have key : ∃ v obj, PutE o.dst K σ v (σ.own ++ [obj]) [] ∧ ∀ K' : AV → List Obj → List Nat → Prop, K' v (σ.own ++ [obj]) [] → buildSlicew P (tyOf P t) σ.own len (parts.toList.map fun p => (p.1, ev σ.slots p.2)) K' := by
      unfold buildSlicew at h ⊢
      split at h
      · split at h
        · split at h
          · obtain ⟨h1, h2, h3, h4, h5, h6, h7⟩ := h
            exact ⟨_, _, h7, fun K' hK' => ⟨h1, h2, h3, h4, h5, h6, hK'⟩⟩
          · split at h
            · obtain ⟨h1, h2, h3, h4, h5⟩ := h
              exact ⟨_, _, h5, fun K' hK' => ⟨h1, h2, h3, h4, hK'⟩⟩
            · exact h.elim
          · exact h.elim
        · exact h.elim
      · exact h.elim
    obtain ⟨v, obj, h1, h2⟩ := key
    refine ⟨v, [obj], h1, fun K' σ' ho hxs hK' => ?_⟩
    have ea : (parts.toList.map fun p => (p.1, ev σ'.slots p.2)) = parts.toList.map fun p => (p.1, ev σ.slots p.2) := by
      refine List.map_congr_left fun p hp => ?_
      rw [hxs p.2 (by rw [hop]; simp only [Op.operands]; simp only [Array.toList_map, List.mem_map]; exact ⟨p, hp, rfl⟩)]
    rw [e, ea, ho]
    exact h2 _ hK'
  · cases hm

theorem condA_congr {o : Oper} {s s' : List AV} (h : ∀ x ∈ o.op.operands.toList, ev s' x = ev s x) (hc : condA ko o s) : condA ko o s' := by
  unfold condA at hc ⊢
  split
  · rename_i c hop
    rw [hop] at hc h
    simp only at hc
    split at hc
    · rename_i x y hargs
      rw [h x (by simp [Op.operands, Call.operands, hargs])]
      exact hc
    · exact hc.elim
  · rename_i t x hop
    rw [hop] at hc h
    simp only at hc
    rw [h x (by simp [Op.operands])]
    exact hc
  · rename_i t x f hop
    rw [hop] at hc h
    simp only at hc
    rw [h x (by simp [Op.operands])]
    exact hc
  · rename_i t x i hop
    rw [hop] at hc h
    simp only at hc
    rw [h x (by simp [Op.operands]), h i (by simp [Op.operands])]
    exact hc
  · trivial
  · trivial
  · rename_i h1 h2 h3 h4 h5 h6
    split at hc
    · rename_i hop; exact (h1 _ hop).elim
    · rename_i hop; exact (h2 _ _ hop).elim
    · rename_i hop; exact (h3 _ _ _ hop).elim
    · rename_i hop; exact (h4 _ _ _ hop).elim
    · rename_i hop; exact (h5 _ hop).elim
    · rename_i hop; exact (h6 _ hop).elim
    · exact hc

/-- Two value operations. -/
theorem swap_vvk {pf : List Nat} (hpf : PureFns Γ pf) {all : Array Oper} {p i : Oper} (hp : vlike pf p = true) (hi : vlike pf i = true) (hap : p.apart all i = true) {mp mi : Bool} {K : S → Prop} {σ : S}
    (h : opk P Γ all ko mp p (opk P Γ all ko mi i K) σ) : opk P Γ all ko mi i (opk P Γ all ko mp p K) σ := by
  obtain ⟨h1, h2, h3⟩ := Oper.apart_spec hap
  obtain ⟨cp, h⟩ := h
  rw [opg_vG hpf hp] at h
  obtain ⟨vp, ⟨ci, hk⟩, hyp⟩ := vG_det pf all p σ.slots σ.own _ h
  rw [opg_vG hpf hi, vG_put h1] at hk
  obtain ⟨vi, hk2, hyi⟩ := vG_det pf all i σ.slots σ.own _ hk
  have sameOps : ∀ (a b : Oper) (v : AV), (∀ d, a.dst = some d → d ∉ b.looksAt all) → ∀ x ∈ b.op.operands.toList, ev (σ.put a.dst v).slots x = ev σ.slots x := fun a b v hab x hx => by
    cases hd : a.dst with
    | none => rfl
    | some d =>
      simp only [S.put]
      rw [ev_set (fun e => hab d hd (looks_op (e ▸ hx)))]
  refine ⟨fun hm => condA_congr (fun x hx => (sameOps p i vp h1 x hx).symm) (ci hm), ?_⟩
  rw [opg_vG hpf hi]
  refine hyi _ ⟨fun hm => condA_congr (sameOps i p vi h3) (cp hm), ?_⟩
  rw [opg_vG hpf hp, vG_put h3]
  refine hyp _ ?_
  rw [← put_comm σ vp vi h2]
  exact hk2

/-- A value operation, then one that makes an object. -/
theorem swap_vmk {pf : List Nat} (hpf : PureFns Γ pf) {all : Array Oper} {p i : Oper} (hp : isV p.op = true) (hap : p.apart all i = true) {mp mi : Bool} {K : S → Prop} {σ : S}
    (hi : ∀ (K : S → Prop) (σ' : S), opg P Γ all i K σ' → ∃ v ex, K (σ'.effect i.dst v (σ'.own ++ ex) []) ∧ Eff P Γ all i σ' v (σ'.own ++ ex))
    (h : opk P Γ all ko mp p (opk P Γ all ko mi i K) σ) : opk P Γ all ko mi i (opk P Γ all ko mp p K) σ := by
  obtain ⟨h1, h2, h3⟩ := Oper.apart_spec hap
  obtain ⟨cp, h⟩ := h
  have hpv : vlike pf p = true := by simp [vlike, hp]
  rw [opg_vG hpf hpv] at h
  obtain ⟨vp, ⟨ci, hk⟩, hyp⟩ := vG_det pf all p σ.slots σ.own _ h
  have hops : ∀ x ∈ i.op.operands.toList, ev σ.slots x = ev (σ.put p.dst vp).slots x := fun x hx => by
    cases hd : p.dst with
    | none => rfl
    | some d =>
      simp only [S.put]
      rw [ev_set (fun e => h1 d hd (looks_op (e ▸ hx)))]
  obtain ⟨vi, ex, hk2, hyi⟩ := hi _ _ hk
  rw [(put_own σ p.dst vp).1] at hk2 hyi
  refine ⟨fun hm => condA_congr hops (ci hm), hyi _ σ (put_own σ p.dst vp).1.symm hops ⟨fun hm => ?_, ?_⟩⟩
  · refine condA_congr (fun x hx => ?_) (cp hm)
    unfold S.effect
    cases hd : i.dst with
    | none => rfl
    | some d =>
      simp only [S.put, killAll]
      rw [ev_set (fun e => h3 d hd (looks_op (e ▸ hx)))]
  · rw [opg_vG hpf hpv]
    have e : ∀ k, vG P Γ pf all p (σ.effect i.dst vi (σ.own ++ ex) []).slots (σ.effect i.dst vi (σ.own ++ ex) []).own k = vG P Γ pf all p σ.slots (σ.own ++ ex) k := by
      intro k
      unfold S.effect
      exact vG_put (P := P) (Γ := Γ) (pf := pf) (all := all) (o := p) (o' := i) (σ := { slots := killAll [] σ.slots, own := σ.own ++ ex, n0 := σ.n0, mv := addMv σ.n0 σ.mv [] }) (u := vi) (k := k) h3
    rw [e]
    refine vG_mores hp ex _ (hyp _ ?_)
    have e2 : (σ.effect i.dst vi (σ.own ++ ex) []).put p.dst vp = (σ.put p.dst vp).effect i.dst vi (σ.own ++ ex) [] := by
      unfold S.effect
      have := put_comm { slots := killAll [] σ.slots, own := σ.own ++ ex, n0 := σ.n0, mv := addMv σ.n0 σ.mv [] } (x := p.dst) (y := i.dst) vp vi h2
      rw [← this]
      congr 1
      cases p.dst <;> rfl
    rw [e2]
    exact hk2

/-- A value operation, then an append. -/
theorem swap_va {pf : List Nat} (hpf : PureFns Γ pf) {all : Array Oper} {p i : Oper} (hp : isV p.op = true) (hq : isQ p = true) (hia : isApp i = true) (hap : p.apart all i = true) {K : S → Prop} {σ : S}
    (h : opk P Γ all ko true p (opk P Γ all ko true i K) σ) : opk P Γ all ko true i (opk P Γ all ko true p K) σ := by
  obtain ⟨h1, h2, h3⟩ := Oper.apart_spec hap
  obtain ⟨cp, h⟩ := h
  have cp := cp rfl
  have hpv : vlike pf p = true := by simp [vlike, hp]
  have hg : p.guard = none := by
    unfold isQ at hq
    split at hq <;> first | assumption | cases hq
  have eG : ∀ (s : List AV) (own : List Obj) (k : AV → Prop), vG P Γ pf all p s own k = vop P own s p.op k := fun s own k => by
    unfold vG vB
    rw [hg]
    simp only [hp, if_true]
  rw [opg_vG hpf hpv, eG] at h
  obtain ⟨vp, ⟨ci, hk⟩, hyp⟩ := vop_det σ.slots p.op _ h
  have ci := ci rfl
  have hops : ∀ x ∈ i.op.operands.toList, ev σ.slots x = ev (σ.put p.dst vp).slots x := fun x hx => by
    cases hd : p.dst with
    | none => rfl
    | some d =>
      simp only [S.put]
      rw [ev_set (fun e => h1 d hd (looks_op (e ▸ hx)))]
  obtain ⟨vi, obj', hk2, hyi⟩ := app_det hia ci hk
  rw [(put_own σ p.dst vp).1] at hk2 hyi
  refine ⟨fun _ => condA_congr hops ci, hyi _ σ rfl hops ⟨fun _ => ?_, ?_⟩⟩
  · refine condA_congr (s := AV.kills ko σ.slots) (fun x hx => ?_) (condA_kills hq cp)
    unfold S.effect
    cases hd : i.dst with
    | none => rfl
    | some d =>
      simp only [S.put, killAll]
      rw [ev_set (fun e => h3 d hd (looks_op (e ▸ hx)))]
  · rw [opg_vG hpf hpv]
    have e : ∀ k, vG P Γ pf all p (σ.effect i.dst vi ((σ.own.map (Obj.kill ko)).set ko obj') [ko]).slots (σ.effect i.dst vi ((σ.own.map (Obj.kill ko)).set ko obj') [ko]).own k = vG P Γ pf all p (AV.kills ko σ.slots) ((σ.own.map (Obj.kill ko)).set ko obj') k := by
      intro k
      unfold S.effect
      exact vG_put (P := P) (Γ := Γ) (pf := pf) (all := all) (o := p) (o' := i) (σ := { slots := killAll [ko] σ.slots, own := (σ.own.map (Obj.kill ko)).set ko obj', n0 := σ.n0, mv := addMv σ.n0 σ.mv [ko] }) (u := vi) (k := k) h3
    rw [e, eG]
    have hv := vop_kill hq (obj' := obj') cp (hyp (fun v => v = vp) rfl)
    obtain ⟨v', ⟨v, rfl, hvv⟩, hy2⟩ := vop_det _ p.op _ hv
    subst hvv
    refine hy2 _ ?_
    have e2 : (σ.effect i.dst vi ((σ.own.map (Obj.kill ko)).set ko obj') [ko]).put p.dst (v.kill ko) = (σ.put p.dst v).effect i.dst vi ((σ.own.map (Obj.kill ko)).set ko obj') [ko] := by
      unfold S.effect
      have := put_comm { slots := killAll [ko] σ.slots, own := (σ.own.map (Obj.kill ko)).set ko obj', n0 := σ.n0, mv := addMv σ.n0 σ.mv [ko] } (x := p.dst) (y := i.dst) (v.kill ko) vi h2
      rw [← this]
      congr 1
      cases hd : p.dst with
      | none => rfl
      | some d => simp only [S.put, killAll, kills_put]
    rw [e2]
    exact hk2
end
end Go.AM


namespace Go.AM
open Go

/-- What an operation waits for, itself or through others. -/
inductive Waits (ops : Array Oper) : Nat → Nat → Prop
  | one {i p : Nat} : Region.waitsFor .any ops i p = true → Waits ops i p
  | step {i q p : Nat} : Region.waitsFor .any ops i q = true → Waits ops q p → Waits ops i p

def depsOf (ops : Array Oper) (i : Nat) : List Nat := (List.range ops.size).filter fun p => Region.waitsFor .any ops i p
def ancT (ops : Array Oper) : Nat → List (List Nat)
  | 0 => []
  | n + 1 => ancT ops n ++ [let T := ancT ops n; let D := depsOf ops n; (List.range ops.size).filter fun p => D.contains p || D.any fun q => (T.getD q []).contains p]
/-- The same, each list made once. -/
def ancF (ops : Array Oper) : Nat → Nat → List (List Nat) → List (List Nat)
  | 0, _, T => T
  | k + 1, n, T => ancF ops k (n + 1) (T ++ [let D := depsOf ops n; (List.range ops.size).filter fun p => D.contains p || D.any fun q => (T.getD q []).contains p])
theorem ancF_eq (ops : Array Oper) : ∀ (k n : Nat), ancF ops k n (ancT ops n) = ancT ops (n + k)
  | 0, n => rfl
  | k + 1, n => by
    unfold ancF
    have := ancF_eq ops k (n + 1)
    rw [show n + (k + 1) = n + 1 + k by omega, ← this]
    rfl
theorem ancT_length (ops : Array Oper) : ∀ n, (ancT ops n).length = n
  | 0 => rfl
  | n + 1 => by simp [ancT, ancT_length ops n]
theorem depsOf_mem {ops : Array Oper} {i p : Nat} (h : p ∈ depsOf ops i) : Region.waitsFor .any ops i p = true := (List.mem_filter.1 h).2
theorem ancT_waits {ops : Array Oper} : ∀ (n i p : Nat), p ∈ (ancT ops n).getD i [] → Waits ops i p
  | 0, i, p, h => by simp [ancT] at h
  | n + 1, i, p, h => by
    have hl := ancT_length ops n
    rcases Nat.lt_or_ge i n with hi | hi
    · refine ancT_waits n i p ?_
      simp only [ancT, List.getD_eq_getElem?_getD] at h ⊢
      rwa [List.getElem?_append_left (by omega)] at h
    · simp only [ancT, List.getD_eq_getElem?_getD] at h
      rw [List.getElem?_append_right (by omega), hl] at h
      cases hk : i - n with
      | succ k => rw [hk] at h; simp at h
      | zero =>
        have hin : i = n := by omega
        subst hin
        rw [hk] at h
        simp only [List.getElem?_cons_zero, Option.getD_some, List.mem_filter, Bool.or_eq_true, List.any_eq_true, List.contains_eq_mem, decide_eq_true_eq] at h
        rcases h.2 with h | ⟨q, h1, h2⟩
        · exact .one (depsOf_mem h)
        · refine .step (depsOf_mem h1) (ancT_waits i q p ?_)
          simpa [List.getD_eq_getElem?_getD] using h2

section
variable {P : Program} {Γ : Nat → Contract} {own : List Obj} {ko : Nat}

/-- The operations of a region, one after the other by number, marked ones with their condition. -/
def chainK (P : Program) (Γ : Nat → Contract) (ops : Array Oper) (ko : Nat) (ms : List Nat) (Q : Exit → S → Prop) : List Nat → S → Prop
  | [], σ => Q .normal σ
  | i :: r, σ => match ops[i]? with | some o => opk P Γ ops ko (ms.contains i) o (chainK P Γ ops ko ms Q r) σ | none => False

def swapOkK (pf mf ms : List Nat) (ops : Array Oper) (p i : Nat) : Bool :=
  match ops[p]?, ops[i]? with
  | some op, some oi => op.apart ops oi && ((vlike pf op && vlike pf oi) || (isV op.op && (isMk mf oi || isLit oi)) || (isV op.op && isQ op && ms.contains p && isApp oi && ms.contains i))
  | _, _ => false

def pairsOkK (T : List (List Nat)) (pf mf ms : List Nat) (ops : Array Oper) : List Nat → Bool
  | [] => true
  | p :: r => (r.all fun i => (T.getD i []).contains p || swapOkK pf mf ms ops p i) && pairsOkK T pf mf ms ops r

def drawOkK (pf mf ms : List Nat) (ops : Array Oper) (L : List Nat) : Bool := pairsOkK (ancF ops ops.size 0 []) pf mf ms ops L && backOk ops && edgesOk ops && allOf ops.size L && nodupB L

theorem bubbleK {pf mf ms : List Nat} (hpf : PureFns Γ pf) (hmf : MakeFns Γ mf) {ops : Array Oper} {Q : Exit → S → Prop} {i : Nat} {oi : Oper} (hi : ops[i]? = some oi) : ∀ (pre post : List Nat) (σ : S), (∀ p ∈ pre, swapOkK pf mf ms ops p i = true) → chainK P Γ ops ko ms Q (pre ++ i :: post) σ →
    opk P Γ ops ko (ms.contains i) oi (chainK P Γ ops ko ms Q (pre ++ post)) σ
  | [], post, σ, _, h => by
    simp only [List.nil_append, chainK, hi] at h ⊢
    exact h
  | p :: pre, post, σ, hs, h => by
    have e2 : ∀ (op : Oper) (l : List Nat), ops[p]? = some op → chainK P Γ ops ko ms Q (p :: l) = opk P Γ ops ko (ms.contains p) op (chainK P Γ ops ko ms Q l) := fun op l hop => by funext σ; simp only [chainK, hop]
    simp only [List.cons_append] at h ⊢
    have hp := hs p (by simp)
    unfold swapOkK at hp
    rw [hi] at hp
    cases hop : ops[p]? with
    | none => simp only [chainK, hop] at h
    | some op =>
      rw [e2 op _ hop] at h ⊢
      simp only [hop, Bool.and_eq_true, Bool.or_eq_true] at hp
      obtain ⟨hap, hk⟩ := hp
      have hvp : vlike pf op = true := by
        rcases hk with (hk | hk) | hk
        · exact hk.1
        · simp [vlike, hk.1]
        · simp [vlike, hk.1.1.1.1]
      have h' : opk P Γ ops ko (ms.contains p) op (opk P Γ ops ko (ms.contains i) oi (chainK P Γ ops ko ms Q (pre ++ post))) σ :=
        ⟨h.1, chain_mono hpf hvp (fun σ' hσ' => bubbleK hpf hmf hi pre post σ' (fun q hq => hs q (by simp [hq])) hσ') h.2⟩
      rcases hk with (hk | hk) | hk
      · exact swap_vvk hpf hk.1 hk.2 hap h'
      · refine swap_vmk hpf hk.1 hap (fun K σ' hh => ?_) h'
        rcases hk.2 with hk2 | hk2
        · exact mk_det hmf hk2 hh
        · exact lit_det hk2 hh
      · have hmp := hk.1.1.2
        have hmi := hk.2
        rw [hmp, hmi] at h'
        rw [hmp, hmi]
        exact swap_va hpf hk.1.1.1.1 hk.1.1.1.2 hk.1.2 hap h'

theorem pairs_frontK {T : List (List Nat)} {pf mf ms : List Nat} {ops : Array Oper} : ∀ {L : List Nat}, pairsOkK T pf mf ms ops L = true → ∀ pre i post, L = pre ++ i :: post → ∀ p ∈ pre, p ∈ T.getD i [] ∨ swapOkK pf mf ms ops p i = true
  | [], _, pre, i, post, e, p, hp => by cases pre <;> cases e
  | q :: r, h, pre, i, post, e, p, hp => by
    simp only [pairsOkK, Bool.and_eq_true] at h
    cases pre with
    | nil => cases hp
    | cons a pre =>
      simp only [List.cons_append, List.cons.injEq] at e
      obtain ⟨rfl, e⟩ := e
      rcases List.mem_cons.1 hp with rfl | hp
      · have := List.all_eq_true.1 h.1 i (by rw [e]; simp)
        simpa using this
      · exact pairs_frontK h.2 pre i post e p hp

theorem pairs_filterK {T : List (List Nat)} {pf mf ms : List Nat} {ops : Array Oper} (f : Nat → Bool) : ∀ {L : List Nat}, pairsOkK T pf mf ms ops L = true → pairsOkK T pf mf ms ops (L.filter f) = true
  | [], _ => rfl
  | q :: r, h => by
    simp only [pairsOkK, Bool.and_eq_true] at h
    simp only [List.filter_cons]
    split
    · simp only [pairsOkK, Bool.and_eq_true]
      exact ⟨List.all_eq_true.2 fun i hi => List.all_eq_true.1 h.1 i (List.mem_filter.1 hi).1, pairs_filterK f h.2⟩
    · exact pairs_filterK f h.2

/-- What was listed was ready. -/
def Closed (ops : Array Oper) (listed : Array Bool) : Prop := ∀ j p, Region.waitsFor .any ops j p = true → listed.getD j false = true → listed.getD p false = true
theorem waits_listed {ops : Array Oper} {listed : Array Bool} (hcl : Closed ops listed) : ∀ {i p : Nat}, Waits ops i p → (∀ q, Region.waitsFor .any ops i q = true → listed.getD q false = true) → listed.getD p false = true := by
  intro i p h
  induction h with
  | one h => intro hr; exact hr _ h
  | step h1 h2 ih => intro hr; exact ih (fun r hr' => hcl _ r hr' (hr _ h1))

/-- Whatever order is drawn. -/
theorem wpAny_of_chainK {pf mf ms : List Nat} (hΓ : OkG P Γ) (hpf : PureFns Γ pf) (hmf : MakeFns Γ mf) {ops : Array Oper} {Q : Exit → S → Prop} {L : List Nat} (hok : drawOkK pf mf ms ops L = true) {c : Ctx} : ∀ (fuel : Nat) (listed : Array Bool) (σ : S) (a : Act) (w : World), listed.size = ops.size → Closed ops listed →
    (L.filter fun i => !listed.getD i true).length ≤ fuel → St c σ a w → chainK P Γ ops ko ms Q (L.filter fun i => !listed.getD i true) σ → wpAny P .any ops (lift c Q) fuel listed a w := by
  simp only [drawOkK, Bool.and_eq_true] at hok
  obtain ⟨⟨⟨⟨hpairs, hback⟩, hedges⟩, hall⟩, hnd⟩ := hok
  have hnodup := nodup_of hnd
  simp only [allOf, Bool.and_eq_true, List.all_eq_true, List.mem_range, List.contains_eq_mem, decide_eq_true_eq] at hall
  obtain ⟨⟨hmem, hlen⟩, hlt⟩ := hall
  -- if something is left, something is ready
  have ready : ∀ (listed : Array Bool), listed.size = ops.size → Region.ready .any ops listed = [] → (L.filter fun i => !listed.getD i true) = [] := by
    intro listed hsz hr
    rw [List.filter_eq_nil_iff]
    have key : ∀ i, i < ops.size → listed.getD i true = true := by
      intro i
      induction i using Nat.strongRecOn with
      | _ i ih =>
        intro hlt'
        cases hx : listed.getD i true with
        | true => rfl
        | false =>
          exfalso
          have : i ∈ Region.ready .any ops listed := by
            refine mem_ready.2 ⟨hx, ops[i], Array.getElem?_eq_getElem hlt', fun e he hb => ?_⟩
            have hw : Region.waitsFor .any ops i e.on = true := by
              simp only [Region.waitsFor, Array.getElem?_eq_getElem hlt', Array.any_eq_true']
              exact ⟨e, he, by simp [hb]⟩
            have hon : e.on < ops.size := by
              have h1 := Array.all_eq_true'.1 hedges ops[i] (Array.getElem_mem hlt')
              have h2 := Array.all_eq_true'.1 h1 e he
              simpa [hb] using h2
            have hlt2 : e.on < i := by
              have h1 := List.all_eq_true.1 hback i (List.mem_range.2 hlt')
              have h2 := List.all_eq_true.1 h1 e.on (List.mem_range.2 hon)
              simpa [hw] using h2
            have h3 := ih e.on hlt2 hon
            have h4 : e.on < listed.size := by omega
            simp [h4] at h3 ⊢
            exact h3
          rw [hr] at this
          cases this
    intro i hi
    simp only [Bool.not_eq_true', Bool.not_eq_false]
    exact key i (hlt i hi)
  intro fuel
  induction fuel with
  | zero =>
    intro listed σ a w hsz hcl hf hst hch
    have h0 : (L.filter fun i => !listed.getD i true) = [] := List.eq_nil_of_length_eq_zero (by omega)
    rw [h0] at hch
    refine ⟨?_, ⟨σ, hst, hch⟩⟩
    rw [List.eq_nil_iff_forall_not_mem]
    intro i hi
    obtain ⟨g1, o, g2, _⟩ := mem_ready.1 hi
    have hi' : i < ops.size := (Array.getElem?_eq_some_iff.1 g2).1
    have : i ∈ (L.filter fun i => !listed.getD i true) := List.mem_filter.2 ⟨hmem i hi', by simp [g1]⟩
    rw [h0] at this
    cases this
  | succ fuel ih =>
    intro listed σ a w hsz hcl hf hst hch
    refine ⟨fun hr => ?_, fun i hi => ?_⟩
    · rw [ready listed hsz hr] at hch
      exact ⟨σ, hst, hch⟩
    · obtain ⟨g1, o, g2, g3⟩ := mem_ready.1 hi
      have hi' : i < ops.size := (Array.getElem?_eq_some_iff.1 g2).1
      obtain ⟨pre, post, e1, e2⟩ := filter_erase hnodup (hmem i hi') (f := fun i => !listed.getD i true) (by simp [g1])
      have hfr := pairs_frontK (pairs_filterK (fun i => !listed.getD i true) hpairs) pre i post e1
      rw [e1] at hch
      have hdirect : ∀ q, Region.waitsFor .any ops i q = true → listed.getD q false = true := fun q h => by
        simp only [Region.waitsFor, g2, Array.any_eq_true', Bool.and_eq_true, beq_iff_eq] at h
        obtain ⟨e, he, hb, hon⟩ := h
        rw [← hon]; exact g3 e he hb
      have hcl' : Closed ops (listed.setIfInBounds i true) := fun j p hw hj => by
        have mono : ∀ q, listed.getD q false = true → (listed.setIfInBounds i true).getD q false = true := fun q hq => by
          by_cases e : i = q
          · subst e; simp [hsz, hi']
          · simpa [Array.getElem?_setIfInBounds_ne e] using hq
        by_cases e : i = j
        · subst e; exact mono p (hdirect p hw)
        · have hj' : listed.getD j false = true := by simpa [Array.getElem?_setIfInBounds_ne e] using hj
          exact mono p (hcl j p hw hj')
      have hb := bubbleK hpf hmf g2 pre post σ (fun p hp => by
        rcases hfr p hp with h | h
        · exfalso
          have hpm : p ∈ (L.filter fun i => !listed.getD i true) := by rw [e1]; simp [hp]
          have hun := (List.mem_filter.1 hpm).2
          have hw : Waits ops i p := ancT_waits ops.size i p (by
            have e := ancF_eq ops ops.size 0
            rw [Nat.zero_add] at e
            rw [← e]; exact h)
          have hl := waits_listed hcl hw hdirect
          have : listed.getD p true = false := by simpa using hun
          rw [getD_both this] at hl
          cases hl
        · exact h) hch
      unfold wpOp
      simp only [g2]
      have hnext : (L.filter fun j => !(listed.setIfInBounds i true).getD j true) = pre ++ post := by
        rw [← e2]
        refine List.filter_congr fun j hj => ?_
        have hj' := hlt j hj
        by_cases e : i = j
        · subst e
          simp [hsz, hi']
        · have e' : ¬ (j = i) := fun h => e h.symm
          simp [Array.getElem?_setIfInBounds_ne e, e']
      have hlen' : (L.filter fun j => !(listed.setIfInBounds i true).getD j true).length ≤ fuel := by
        rw [hnext]
        rw [e1] at hf
        simp only [List.length_append, List.length_cons] at hf ⊢
        omega
      rcases opg_sound hΓ (Q := lift c Q) hst hb.2 with ⟨hw, hwp⟩ | ⟨hw, σ', hst', hK⟩
      · rw [if_pos hw]
        refine .inl (Oper.wp_mono ?_ hwp)
        rintro a' w' ⟨σ', hst', hK⟩
        exact ih _ σ' a' w' (by simp [hsz]) hcl' hlen' hst' (by rw [hnext]; exact hK)
      · rw [if_neg (by simp [hw])]
        exact ih _ σ' _ w (by simp [hsz]) hcl' hlen' hst' (by rw [hnext]; exact hK)

/-- A region that draws its order, walked in the order L. -/
theorem sem_drawK {pf mf ms : List Nat} (hm : P.follows .mixedOrders = true) (hΓ : OkG P Γ) (hpf : PureFns Γ pf) (hmf : MakeFns Γ mf) {id : Nat} {ops : Array Oper} {Q : Exit → S → Prop} {σ : S} (L : List Nat) (hok : drawOkK pf mf ms ops L = true)
    (h : chainK P Γ ops ko ms Q L σ) : sem P (.region id ops true) Q σ := by
  intro c a w hst
  refine wp_region_any hm ?_
  have hst' : St c σ a { w with drawn := w.drawn + 1 } := by
    obtain ⟨hd, hn, F, φ, h2, h3, h4⟩ := hst
    refine ⟨hd, hn, F, φ, ⟨h2.sub, ⟨h2.ext.os, h2.ext.tape, h2.ext.output, h2.ext.size, h2.ext.same⟩, h2.keep, h2.rest, h2.orig, h2.frsh⟩, h3.drew, ?_⟩
    exact AV.Rs_mono (fun _ h => h) same_drew (fun _ _ h => h) _ _ h4
  have hf : (L.filter fun i => !(Array.replicate ops.size false).getD i true) = L := by
    rw [List.filter_eq_self]
    intro i hi
    simp only [drawOkK, Bool.and_eq_true, allOf, List.all_eq_true, decide_eq_true_eq] at hok
    have := hok.1.2.2 i hi
    simp [this]
  refine wpAny_of_chainK hΓ hpf hmf hok ops.size _ σ a _ (by simp) (fun j p _ hj => by simp only [Array.getD_eq_getD_getElem?, Array.getElem?_replicate] at hj; split at hj <;> cases hj) ?_ hst' (by rw [hf]; exact h)
  rw [hf]
  simp only [drawOkK, Bool.and_eq_true, allOf, decide_eq_true_eq] at hok
  omega

end
end Go.AM

namespace Go.AM
open Go
section
variable {P : Program} {Γ : Nat → Contract} {all : Array Oper} {Q : Exit → S → Prop} {i ko : Nat} {r ms : List Nat} {s : List AV} {own : List Obj} {n : Nat} {m : List Nat} {dst : Option Tmp} {ty : TypeId} {pos : String} {af : Array Edge} {gd : Option (Nat × Bool)}
@[go_sem] theorem chainK_nil : chainK P Γ all ko ms Q [] ⟨s, own, n, m⟩ = Q .normal ⟨s, own, n, m⟩ := Eq.trans rfl rfl
@[go_sem] theorem chainK_go : chainK P Γ all ko ms Q (i :: r) ⟨s, own, n, m⟩ = (match all[i]? with | some o => ((ms.contains i = true → condA ko o s) ∧ opg P Γ all o (chainK P Γ all ko ms Q r) ⟨s, own, n, m⟩) | none => False) := Eq.trans rfl rfl
@[go_sem] theorem condA_call {c : Call} : condA ko ⟨dst, .call c, ty, pos, af, gd⟩ s = (match c.args.toList with | [x, _] => (match ev s x with | .sl o' _ _ => o' = ko | _ => False) | _ => False) := Eq.trans rfl rfl
@[go_sem] theorem condA_load {t : TypeId} {x : Operand} : condA ko ⟨dst, .load t x, ty, pos, af, gd⟩ s = (match ev s x with | .ptr o' _ _ => o' ≠ ko | .rptr _ _ => True | _ => False) := Eq.trans rfl rfl
@[go_sem] theorem condA_fieldAddr {t : TypeId} {x : Operand} {f : Nat} : condA ko ⟨dst, .fieldAddr t x f, ty, pos, af, gd⟩ s = (match ev s x with | .ptr o' _ _ => o' ≠ ko | .rptr _ _ => True | _ => False) := Eq.trans rfl rfl
@[go_sem] theorem condA_indexAddr {t : TypeId} {x y : Operand} : condA ko ⟨dst, .indexAddr t x y, ty, pos, af, gd⟩ s = ((match ev s x with | .ptr o' _ _ => o' ≠ ko | .sl o' _ _ => o' ≠ ko | .dat _ => True | _ => False) ∧ (match ev s y with | .dat _ => True | _ => False)) := Eq.trans rfl rfl
@[go_sem] theorem condA_move {x : Operand} : condA ko ⟨dst, .move x, ty, pos, af, gd⟩ s = True := Eq.trans rfl rfl
@[go_sem] theorem condA_assign {x : Operand} : condA ko ⟨dst, .assign x, ty, pos, af, gd⟩ s = True := Eq.trans rfl rfl
end
end Go.AM

