/- Own work over the model of the kit. -/
import Derived.Test.YtholibdhogbobaaC5
set_option linter.unusedSimpArgs false
set_option linter.unusedVariables false
namespace Go.AM
open Go
section
variable {P : Program}
def litR (v v0 : Value) : Prop := v = v0 ∨ ∃ q n n0, v = .int q n ∧ v0 = .int q n0 ∧ inR q n
def litsR (cs cs0 : List Value) : Prop := cs.length = cs0.length ∧ ∀ (i : Nat) (v v0 : Value), cs[i]? = some v → cs0[i]? = some v0 → litR v v0
theorem litsR_drop {cs cs0 : List Value} (k : Nat) (h : litsR cs cs0) : litsR (cs.drop k) (cs0.drop k) :=
  ⟨by simp [h.1], fun i v v0 h1 h2 => h.2 (k + i) v v0 (by simpa using h1) (by simpa using h2)⟩
theorem litsR_take {cs cs0 : List Value} (k : Nat) (h : litsR cs cs0) : litsR (cs.take k) (cs0.take k) :=
  ⟨by simp [h.1], fun i v v0 h1 h2 => by
    rw [List.getElem?_take] at h1 h2
    split at h1
    · rename_i hk
      rw [if_pos hk] at h2
      exact h.2 i v v0 h1 h2
    · cases h1⟩
theorem litsR_nil : litsR [] [] := ⟨rfl, fun i v v0 h => by simp at h⟩
theorem litsR_cons {v v0 : Value} {cs cs0 : List Value} (h : litR v v0) (hs : litsR cs cs0) : litsR (v :: cs) (v0 :: cs0) :=
  ⟨by simp [hs.1], fun i a b h1 h2 => by
    cases i with
    | zero => simp only [List.getElem?_cons_zero, Option.some.injEq] at h1 h2; subst h1 h2; exact h
    | succ i => exact hs.2 i a b (by simpa using h1) (by simpa using h2)⟩
theorem litR_int {q : IntKind} {n n0 : Int} (h : inR q n) : litR (.int q n) (.int q n0) := .inr ⟨q, n, n0, rfl, rfl, h⟩
theorem mapM_mono {α β : Type} {f g : α → Option β} : ∀ {l : List α}, (∀ x ∈ l, (f x).isSome = true → (g x).isSome = true) → (l.mapM f).isSome = true → (l.mapM g).isSome = true
  | [], _, _ => rfl
  | x :: l, h, hf => by
    rw [List.mapM_cons] at hf ⊢
    cases e : f x with
    | none => rw [e] at hf; cases hf
    | some y =>
      have hg := h x (List.mem_cons_self ..) (by rw [e]; rfl)
      rw [e] at hf
      cases e2 : l.mapM f with
      | none => rw [e2] at hf; cases hf
      | some ys =>
        have ih := mapM_mono (f := f) (g := g) (fun x hx => h x (List.mem_cons_of_mem _ hx)) (by rw [e2]; rfl)
        cases e3 : g x with
        | none => rw [e3] at hg; cases hg
        | some z =>
          cases e4 : l.mapM g with
          | none => rw [e4] at ih; cases ih
          | some zs => rfl
theorem keyLits_mono : ∀ (d : Nat) (t : TypeId) (cs cs0 : List Value), litsR cs cs0 → (P.keyLits d t cs0).isSome = true → (P.keyLits d t cs).isSome = true
  | 0, _, _, _, _, h => h
  | d + 1, t, cs, cs0, hr, h => by
    have one : ∀ v0, cs0 = [v0] → ∃ v, cs = [v] ∧ litR v v0 := fun v0 e => by
      subst e
      match cs, hr with
      | [v], hr => exact ⟨v, rfl, hr.2 0 v v0 rfl rfl⟩
      | [], hr => exact absurd hr.1 (by simp)
      | _ :: _ :: _, hr => exact absurd hr.1 (by simp)
    unfold Program.keyLits at h ⊢
    split at h
    · rename_i b hu
      obtain ⟨v, rfl, hv⟩ := one _ rfl
      rcases hv with rfl | ⟨q, n, n0, rfl, h0, _⟩
      · rw [hu]; rfl
      · cases h0
    · rename_i q q' n hu
      obtain ⟨v, rfl, hv⟩ := one _ rfl
      rcases hv with rfl | ⟨q2, n2, n0, rfl, h0, hw⟩
      · rw [hu]; exact h
      · injection h0 with e1 e2
        subst e1
        rw [hu]
        simp only
        split at h
        · rename_i hc
          rw [if_pos ⟨hc.1, hc.1 ▸ hw⟩]; rfl
        · cases h
    · rename_i s hu
      obtain ⟨v, rfl, hv⟩ := one _ rfl
      rcases hv with rfl | ⟨q, n, n0, rfl, h0, _⟩
      · rw [hu]; exact h
      · cases h0
    · rename_i n e hu
      rw [hu]
      simp only
      split at h
      · rename_i hl
        rw [if_pos (by rw [hr.1]; exact hl)]
        rw [Option.isSome_map] at h ⊢
        exact mapM_mono (fun i _ hi => keyLits_mono d e _ _ (litsR_take _ (litsR_drop _ hr)) hi) h
      · cases h
    · rename_i fs hu
      rw [hu]
      simp only
      split at h
      · rename_i hl
        rw [if_pos ⟨by rw [hr.1]; exact hl.1, hl.2⟩]
        rw [Option.isSome_map] at h ⊢
        exact mapM_mono (fun i _ hi => keyLits_mono d _ _ _ (litsR_take _ (litsR_drop _ hr)) hi) h
      · cases h
    · cases h
theorem keyOf_mono {t : TypeId} {cs cs0 : List Value} (hr : litsR cs cs0) (h : (keyOf P t (.agg cs0.toArray)).isSome = true) : (keyOf P t (.agg cs.toArray)).isSome = true := by
  have hf : Value.formed P t (.agg cs.toArray) = Value.formed P t (.agg cs0.toArray) := by
    simp only [Value.formed, List.size_toArray, hr.1]
  unfold keyOf at h ⊢
  split at h
  · rw [hf]
    split at h
    · rename_i hc
      simp only [hc, if_true] at h ⊢
      rw [Option.isSome_map] at h ⊢
      exact keyLits_mono _ _ _ _ (by simpa [Value.cells] using hr) (by simpa [Value.cells] using h)
    · cases h
  · rw [hf]
    split at h
    · rename_i hc
      simp only [hc, if_true] at h ⊢
      rw [Option.isSome_map] at h ⊢
      exact keyLits_mono _ _ _ _ (by simpa [Value.cells] using hr) (by simpa [Value.cells] using h)
    · cases h
  · unfold mapKey at h ⊢
    split at h <;> simp_all
def numsD : List D → List D → Prop
  | [], [] => True
  | .int q n :: r, .int q0 n0 :: r0 => q = q0 ∧ inR q n ∧ numsD r r0
  | _, _ => False
theorem numsD_R : ∀ {as bs : List D}, numsD as bs → litsR (as.map D.val) (bs.map D.val)
  | [], [], _ => litsR_nil
  | .int q n :: r, .int q0 n0 :: r0, h => by
    obtain ⟨rfl, h1, h2⟩ := h
    exact litsR_cons (litR_int h1) (numsD_R h2)
theorem numsD_flats : ∀ {as bs : List D}, numsD as bs → D.flats as = true
  | [], [], _ => rfl
  | .int q n :: r, .int q0 n0 :: r0, h => by
    obtain ⟨rfl, h1, h2⟩ := h
    simp only [D.flats, D.flat, numsD_flats h2, Bool.true_and]
theorem flatEqs_refl : ∀ {as bs : List D}, numsD as bs → D.flatEqs as as = true
  | [], [], _ => rfl
  | .int q n :: r, .int q0 n0 :: r0, h => by
    obtain ⟨rfl, h1, h2⟩ := h
    simp [D.flatEqs, D.flatEq, flatEqs_refl h2]
theorem wideKey_of {t : TypeId} {as bs : List D} (h0 : wideKey P t (.agg bs) = true) (h : numsD as bs) : wideKey P t (.agg as) = true := by
  simp only [wideKey, Bool.and_eq_true] at h0 ⊢
  exact ⟨⟨h0.1.1, numsD_flats h⟩, keyOf_mono (numsD_R h) h0.2⟩
theorem isKeyP_of {t : TypeId} {d : TypeDesc} {as bs : List D} (h0 : wideKey P t (.agg bs) = true) (h : numsD as bs) : D.isKeyP P t d (.agg as) = true := by
  unfold D.isKeyP; rw [wideKey_of h0 h, Bool.or_true]
theorem eqOk_of {t : TypeId} {as bs as0 bs0 : List D} (h0 : eqOk P t (.dat (.agg as0)) (.dat (.agg bs0)) = true) (ha : numsD as as0) (hb : numsD bs bs0) : eqOk P t (.dat (.agg as)) (.dat (.agg bs)) = true := by
  simp only [eqOk, Bool.and_eq_true] at h0 ⊢
  obtain ⟨h1, h2, h3, h4, h5, h6⟩ := h0
  exact ⟨h1, numsD_flats ha, numsD_flats hb, keyOf_mono (numsD_R ha) h4, keyOf_mono (numsD_R hb) h5, h6⟩
theorem bin_neq_agg {t : TypeId} {as bs as0 bs0 : List D} {K : AV → Prop} (h0 : eqOk P t (.dat (.agg as0)) (.dat (.agg bs0)) = true) (ha : numsD as as0) (hb : numsD bs bs0) :
    binTop P .neq t (.dat (.agg as)) (.dat (.agg bs)) K = K (.dat (.bool (!D.flatEqs as bs))) := by
  unfold binTop
  rw [eqOk_of h0 ha hb]
  simp [binw]
theorem bin_eql_agg {t : TypeId} {as bs as0 bs0 : List D} {K : AV → Prop} (h0 : eqOk P t (.dat (.agg as0)) (.dat (.agg bs0)) = true) (ha : numsD as as0) (hb : numsD bs bs0) :
    binTop P .eql t (.dat (.agg as)) (.dat (.agg bs)) K = K (.dat (.bool (D.flatEqs as bs))) := by
  unfold binTop
  rw [eqOk_of h0 ha hb]
  simp [binw]
end
end Go.AM

namespace Go.AM
open Go

theorem le_addnilC {s : List AV} {own : List Obj} {n0 : Nat} {mv : List Nat} (o j : Nat) (ag : Option Nat) {cs : List AV} (ho : own[o]? = some (.vec cs)) (hj : cs.getD j .top = .nils) (h0 : n0 ≤ own.length) :
    Le ⟨s, own, n0, mv⟩ ⟨s, own.set o (.vec (cs.set j (.sl own.length 0 0))) ++ [.row ag []], n0, mv⟩ := by
  rintro c a w ⟨hd, hn, F, φ, h2, h3, h4⟩
  let L : Loc := ⟨true, 0, 0, 0, es ag⟩
  have hmono := ext_old h3 L
  have h4' := AV.Rs_mono (fun _ h => h) (Same.refl F w) hmono _ _ h4
  have h5 := h3.new (L := L) (obj := Obj.row ag []) (Nat.le_refl _) (fun _ _ => rfl) (fun hn' => by cases hn') (by simp only [ObjR]; exact ⟨rfl, .inl ⟨rfl, trivial⟩⟩)
  refine ⟨hd, hn, F, ext φ own.length L, ⟨h2.sub, h2.ext, fun o L' hlt hm h => hmono o L' (h2.keep o L' hlt hm h), h2.rest, fun o L' ho' hn' => ?_, h2.frsh⟩, ?_, h4'⟩
  · unfold ext at ho'
    split at ho'
    · cases ho'; cases hn'
    · exact h2.orig o L' ho' hn'
  · have holt : o < own.length := by
      rcases Nat.lt_or_ge o own.length with h | h
      · exact h
      · rw [List.getElem?_eq_none h] at ho; cases ho
    refine ⟨h5.fb, h5.live, h5.inj, fun o' obj ho' => ?_, fun o' ho' => h5.out o' (by simpa using ho'), h5.glob⟩
    have hset : own.set o (.vec (cs.set j (.sl own.length 0 0))) ++ [Obj.row ag []] = (own ++ [Obj.row ag []]).set o (Obj.vec (cs.set j (.sl own.length 0 0))) := by rw [List.set_append_left _ _ holt]
    simp only at ho'
    rw [hset, List.getElem?_set] at ho'
    by_cases e : o = o'
    · subst e
      simp only [if_true, List.length_append, List.length_cons, List.length_nil, show o < own.length + (0 + 1) by omega, Option.some.injEq] at ho'
      subst ho'
      have hr := h5.rep o (.vec cs) (by rw [List.getElem?_append_left holt]; exact ho)
      cases hl : ext φ own.length L o with
      | none => rw [hl] at hr; simp only [ObjR] at hr
      | some L' =>
        rw [hl] at hr
        simp only [ObjR] at hr ⊢
        obtain ⟨q1, q2⟩ := hr
        refine ⟨q1, ?_⟩
        rcases q2 with ⟨q2, rfl⟩ | ⟨q2, arr, ty, q3, q4, q5, vs, q6, q7⟩
        · exact .inl ⟨q2, rfl⟩
        refine .inr ⟨q2, arr, ty, q3, q4, by simpa using q5, vs, ?_, by simpa using q7⟩
        have hget := AV.Rs_get (AV.Ra_iff.1 q6).1 j
        rw [hj] at hget
        have hv := R_nils.1 hget
        have key := AV.Ra_set q6 j (.sl own.length 0 0) (.slice none 0 0) rfl (by
          simp only [AV.R]
          exact ⟨L, ext_self _ _ _, .inl ⟨rfl, by simp⟩⟩)
        have hself : vs.set j (.slice none 0 0) = vs := by
          apply List.ext_getElem?
          intro k
          rw [List.getElem?_set]
          split
          · rename_i hk
            subst hk
            split
            · rename_i hlt
              rw [← hv]
              simp [List.getD_eq_getElem?_getD, List.getElem?_eq_getElem hlt]
            · rename_i hge
              rw [List.getElem?_eq_none (by omega)]
          · rfl
        rw [hself] at key
        exact key
    · simp only [e, if_false] at ho'
      exact h5.rep o' obj ho'

theorem le_nilsF {s : List AV} {pre : List Obj} {n0 : Nat} {mv : List Nat} (o : Nat) (ag : Option Nat) (n : Nat) (ho : pre[o]? = some (.vec (List.replicate n AV.nils))) (h0 : n0 ≤ pre.length) :
    Le ⟨s, pre, n0, mv⟩ ⟨s, pre.set o (.vec (famR pre.length (List.replicate n []))) ++ famO ag (List.replicate n []), n0, mv⟩ := by
  have hlt : o < pre.length := (List.getElem?_eq_some_iff.1 ho).1
  have key : ∀ k, k ≤ n → Le ⟨s, pre, n0, mv⟩ ⟨s, pre.set o (.vec (famR pre.length (List.replicate k []) ++ List.replicate (n - k) AV.nils)) ++ famO ag (List.replicate k []), n0, mv⟩ := by
    intro k
    induction k with
    | zero =>
      intro _
      have e : pre.set o (.vec (List.replicate n AV.nils)) = pre := by
        obtain ⟨h1, h2⟩ := List.getElem?_eq_some_iff.1 ho
        rw [← h2]; simp
      simp only [List.replicate_zero, famR, List.nil_append, Nat.sub_zero, famO, List.map_nil, List.append_nil, e]
      exact Le.refl _
    | succ k ih =>
      intro hk
      refine Le.trans (ih (by omega)) ?_
      have hl : (pre.set o (.vec (famR pre.length (List.replicate k []) ++ List.replicate (n - k) AV.nils)) ++ famO ag (List.replicate k [])).length = pre.length + k := by simp [famO]
      have h := le_addnilC (s := s) (own := pre.set o (.vec (famR pre.length (List.replicate k []) ++ List.replicate (n - k) AV.nils)) ++ famO ag (List.replicate k [])) (n0 := n0) (mv := mv) o k ag (cs := famR pre.length (List.replicate k []) ++ List.replicate (n - k) AV.nils)
        (by rw [List.getElem?_append_left (by simpa using hlt), List.getElem?_set]; simp [hlt])
        (by rw [List.getD_eq_getElem?_getD, List.getElem?_append_right (by simp [famR_length])]; simp [famR_length, List.getElem?_replicate, show 0 < n - k by omega])
        (by rw [hl]; omega)
      rw [hl] at h
      have e1 : (famR pre.length (List.replicate k []) ++ List.replicate (n - k) AV.nils).set k (.sl (pre.length + k) 0 0) = famR pre.length (List.replicate (k + 1) []) ++ List.replicate (n - (k + 1)) AV.nils := by
        rw [List.set_append_right _ _ (by simp [famR_length]), List.replicate_succ', famR_snoc, famR_length]
        simp only [List.length_replicate, Nat.sub_self, List.append_assoc, List.cons_append, List.nil_append, List.length_nil]
        congr 1
        obtain ⟨m, hm⟩ : ∃ m, n - k = m + 1 := ⟨n - k - 1, by omega⟩
        rw [hm, List.replicate_succ, List.set_cons_zero, show n - (k + 1) = m by omega]
      rw [e1, List.set_append_left _ _ (by simpa using hlt), List.set_set, List.append_assoc] at h
      have e2 : famO ag (List.replicate k []) ++ [.row ag []] = famO ag (List.replicate (k + 1) []) := by rw [← famO_snoc, ← List.replicate_succ']
      rw [e2] at h
      exact h
  have := key n (Nat.le_refl _)
  simpa using this

theorem famR_at {b : Nat} {M : List (List D)} {i : Nat} (h : i < M.length) : (famR b M).getD i .top = .sl (i + b) 0 (M.getD i []).length := by rw [famR_get b M i h, Nat.add_comm]
theorem famR_killA {b : Nat} {M : List (List D)} {i : Nat} (h : i < M.length) : AV.kills (i + b) (famR b M) = (famR b M).set i .top := by rw [Nat.add_comm]; exact famR_kill_at b M i h
theorem famR_setA {b : Nat} {M : List (List D)} {i : Nat} {l : List D} {n : Nat} (hn : n = l.length) : (famR b M).set i (.sl (i + b) 0 n) = famR b (M.set i l) := by rw [hn, Nat.add_comm]; exact famR_set b M i l
theorem famO_setA {ag : Option Nat} {M : List (List D)} {i : Nat} {l : List D} (h : i < M.length) : (famO ag M).set i (.row ag l) = famO ag (M.set i l) := famO_set0 h l

theorem famO_getP {ag : Option Nat} {M : List (List D)} {i : Nat} {t : List Obj} (h : i < M.length) : (famO ag M ++ t).getD i .dead = .row ag (M.getD i []) := famO_get h
theorem famO_setP {ag : Option Nat} {M : List (List D)} {i : Nat} {l : List D} {t : List Obj} (h : i < M.length) : (famO ag M ++ t).set i (.row ag l) = famO ag (M.set i l) ++ t := famO_set h l
theorem famO_killP {ag : Option Nat} {M : List (List D)} {o : Nat} {t : List Obj} : (famO ag M ++ t).map (Obj.kill o) = famO ag M ++ t.map (Obj.kill o) := by rw [List.map_append, famO_kill]
section
variable {A t : List Obj} {x y z d : Obj}
theorem getA0 : (A ++ x :: t).getD A.length d = x := by simp [List.getD_eq_getElem?_getD]
theorem getA1 : (A ++ x :: y :: t).getD (A.length + 1) d = y := by
  rw [List.getD_eq_getElem?_getD, List.getElem?_append_right (by omega)]; simp
theorem setA0 : (A ++ x :: t).set A.length d = A ++ d :: t := by rw [List.set_append_right _ _ (Nat.le_refl _)]; simp
theorem lenA1 : (A ++ [x]).length = A.length + 1 := by simp
end

theorem le_famEnd {ag : Option Nat} {M : List (List D)} {s s' : List AV} {pre pre' : List Obj} {n0 : Nat} {mv : List Nat} (o : Nat) (ho : pre[o]? = some (.vec (famR pre.length M))) (h0 : n0 ≤ o)
    (hpre : ((pre.map (frzFo ag pre.length M)).map (Obj.frz o none (M.map (.sl ag)))).set o .dead = pre') (hs : slotsLe (AV.frzs o none (M.map (.sl ag)) (frzFs ag pre.length M s)) s')
    (hu : AV.unders pre.length s') (hou : Obj.allUnder pre.length pre') : Le ⟨s, pre ++ famO ag M, n0, mv⟩ ⟨s', pre', n0, mv⟩ := by
  have hlt : o < pre.length := (List.getElem?_eq_some_iff.1 ho).1
  have h1 := le_family (ag := ag) M (s := s) (pre := pre) (post := []) (n0 := n0) (mv := mv) (by omega)
  simp only [List.append_nil, List.map_nil] at h1
  refine Le.trans h1 ?_
  have ho2 : (pre.map (frzFo ag pre.length M) ++ List.replicate M.length Obj.dead)[o]? = some (.vec (M.map fun l => .dat (.sl ag l))) := by
    rw [List.getElem?_append_left (by simpa using hlt), List.getElem?_map, ho]
    simp only [Option.map_some, frzFo, frzFs_famR]
  have h2 := le_freezeV (s := frzFs ag pre.length M s) (n0 := n0) (mv := mv) o (ds := M.map (.sl ag)) ho2 (by simp [List.map_map, AV.norm1, AV.pure, Function.comp_def]) h0
  refine Le.trans h2 ?_
  have e : (List.map (Obj.frz o none (M.map (.sl ag))) ((pre.map (frzFo ag pre.length M) ++ List.replicate M.length Obj.dead).set o (.row none (M.map (.sl ag))))).set o .dead = pre' ++ List.replicate M.length .dead := by
    rw [← hpre, List.map_set, List.set_set, List.map_append, List.set_append_left _ _ (by simpa using hlt)]
    simp [Obj.frz]
  rw [e]
  have hl : pre'.length = pre.length := by rw [← hpre]; simp
  exact le_end (by omega) hs (by rw [hl]; exact hu) (by rw [hl]; exact hou)
theorem call_frzmade {l : List (Nat × Contract)} {g : Nat} (R : List D → AV → List Obj → Prop) (hm : (g, frzC (madeC R)) ∈ l) {args : List AV} {own : List Obj} {K : AV → List Obj → List Nat → Prop} (o : Nat) {ag : Option Nat} {xs : List D} (ho : own[o]? = some (.row ag xs)) (ds : List D) (v : AV) (ob : List Obj)
    (hk : (AV.frzs o ag xs args).all AV.isDat = true) (hds : asDL ((own.map (Obj.frz o ag xs)).set o .dead) (AV.frzs o ag xs args) = some ds) (hR : R ds v ob)
    (hK : K (v.shift own.length) (((own.map (Obj.frz o ag xs)).set o .dead) ++ ob.map (Obj.shift own.length)) [o]) : callw (tbl l) (.fn g []) args own K := by
  have hl : ((own.map (Obj.frz o ag xs)).set o .dead).length = own.length := by simp
  refine call_by (frzC (madeC R)) hm _ _ [o] ⟨o, ag, xs, [], ho, ⟨ds, v, ob, hk, hds, hR, ?_, ?_, rfl⟩, rfl⟩ hK
  · rw [hl]
  · rw [hl]

mutual
theorem AV.under_mono {n m : Nat} (h : n ≤ m) : ∀ (a : AV), a.under n → a.under m
  | .dat _, _ => by simp only [AV.under]
  | .nils, _ => by simp only [AV.under]
  | .nilm, _ => by simp only [AV.under]
  | .sl o _ _, k => by simp only [AV.under] at k ⊢; omega
  | .ptr o _ _, k => by simp only [AV.under] at k ⊢; omega
  | .map o, k => by simp only [AV.under] at k ⊢; omega
  | .rptr _ _, _ => by simp only [AV.under]
  | .agg vs, k => by simp only [AV.under] at k ⊢; exact AV.unders_mono h vs k
  | .tup vs, k => by simp only [AV.under] at k ⊢; exact AV.unders_mono h vs k
  | .fn _ vs, k => by simp only [AV.under] at k ⊢; exact AV.unders_mono h vs k
  | .top, _ => by simp only [AV.under]
theorem AV.unders_mono {n m : Nat} (h : n ≤ m) : ∀ (as : List AV), AV.unders n as → AV.unders m as
  | [], _ => by simp only [AV.unders]
  | a :: as, k => by simp only [AV.unders] at k ⊢; exact ⟨AV.under_mono h a k.1, AV.unders_mono h as k.2⟩
end
theorem le_endF {ag : Option Nat} {M : List (List D)} {s s' : List AV} {pre ex : List Obj} {n0 : Nat} {mv : List Nat} (h0 : n0 ≤ pre.length) (hs : slotsLe s s') (hu : AV.unders pre.length s') (hp : Obj.allUnder (pre.length + M.length) pre) :
    Le ⟨s, pre ++ (famO ag M ++ ex), n0, mv⟩ ⟨s', pre ++ famO ag M, n0, mv⟩ := by
  rw [← List.append_assoc]
  have hl : (pre ++ famO ag M).length = pre.length + M.length := by simp [famO]
  exact le_end (by omega) hs (by rw [hl]; exact AV.unders_mono (by omega) _ hu) (by rw [hl]; exact allUnder_app hp (famO_under _ _ _))

def pureOf (C : Contract) : Contract := fun args own v own' mv => C args own v own' mv ∧ own' = own ∧ mv = []
theorem okF_pureOf {P : Program} {g : Nat} {C : Contract} (h : OkF P g C) : OkF P g (pureOf C) := fun args own v own' mv hC => h args own v own' mv hC.1
theorem pure_of2 {l : List (Nat × Contract)} {pf : List Nat} (h : ∀ g C, (g, C) ∈ l → g ∈ pf → (∃ R, C = dataC R) ∨ ∃ C', C = pureOf C') : PureFns (tbl l) pf := by
  rintro g args own v own' mv hg ⟨C, hm, hC⟩
  rcases h g C hm hg with ⟨R, rfl⟩ | ⟨C', rfl⟩
  · obtain ⟨_, _, _, h1, h2, _⟩ := hC
    exact ⟨h1, h2⟩
  · exact hC.2
theorem call_lentP {l : List (Nat × Contract)} {g : Nat} (R : List AV → List Obj → AV → List Obj → List Obj → List Nat → Prop) (hm : (g, pureOf (lentC R)) ∈ l) {args : List AV} {own : List Obj} {K : AV → List Obj → List Nat → Prop} (os : List Nat) {as : List AV} {obs : List Obj} {v0 : AV}
    (hR : R as obs v0 obs [] []) (hnd : os.Nodup) (hlt : ∀ o ∈ os, o < own.length) (h1 : obs.length = os.length) (hargs : args = AV.rens (emb os own.length) as) (hun : AV.unders os.length as) (hob : ∀ x ∈ obs, x.under os.length)
    (hown : ∀ j, j < os.length → own[os.getD j 0]? = some ((obs.getD j .dead).ren (emb os own.length))) (hK : K (v0.ren (emb os own.length)) own []) : callw (tbl l) (.fn g []) args own K := by
  have hk : own.map (Obj.killAll []) = own := by rw [show Obj.killAll [] = id from funext Obj.killAll_nil, List.map_id]
  have hset : ∀ (os : List Nat) (xs : List Obj), (∀ j, j < os.length → own[os.getD j 0]? = xs[j]?) → setAll own os xs = own := by
    intro os
    induction os with
    | nil => intro xs _; simp only [setAll]
    | cons o os ih =>
      intro xs h
      cases xs with
      | nil => rfl
      | cons x xs =>
        have h0 := h 0 (by simp)
        simp only [List.getD_cons_zero, List.getElem?_cons_zero] at h0
        have e : own.set o x = own := by
          apply List.ext_getElem?
          intro k
          rw [List.getElem?_set]
          split
          · rename_i hk; subst hk
            split
            · exact h0.symm
            · rename_i hge; rw [List.getElem?_eq_none (by omega)]
          · rfl
        simp only [setAll, e]
        exact ih xs (fun j hj => by simpa using h (j + 1) (by simpa using hj))
  have hown' : setAll (own.map (Obj.killAll ([].map (emb os own.length)))) os (obs.map (Obj.ren (emb os own.length))) ++ ([] : List Obj).map (Obj.ren (emb os own.length)) = own := by
    simp only [List.map_nil, List.append_nil, hk]
    refine hset os _ fun j hj => ?_
    rw [hown j hj, List.getElem?_map, List.getD_eq_getElem?_getD, List.getElem?_eq_getElem (by omega)]
    rfl
  refine call_by (pureOf (lentC R)) hm _ own [] ⟨⟨os, as, obs, v0, obs, [], [], hnd, hlt, h1, h1, hargs, hun, hob, hown, hR, rfl, hown'.symm, rfl⟩, rfl, rfl⟩ hK

theorem callw_caps {Γ : Nat → Contract} {g : Nat} {caps args : List AV} {own : List Obj} {K : AV → List Obj → List Nat → Prop} (h : callw Γ (.fn g []) (args ++ caps) own K) : callw Γ (.fn g caps) args own K := by
  simpa only [callw, List.append_nil] using h

theorem join_reg {P : Program} {id : Nat} {ops : Array Oper} {Q : Exit → S → Prop} {G : Prop} (M : S → Prop) (front : (∀ σ, M σ → sem P (.region id ops false) Q σ) → G) (tail : ∀ σ, M σ → sem P (.region id ops false) Q σ) : G := front tail

theorem rens_nils {π : Nat → Nat} : ∀ (n : Nat), AV.rens π (List.replicate n .nils) = List.replicate n .nils
  | 0 => rfl
  | n + 1 => by simp only [List.replicate_succ, AV.rens, AV.ren, rens_nils n]

@[go_sem] theorem condM_nilCheck {ob : Nat} {dst : Option Tmp} {x : Operand} {ty : TypeId} {pos : String} {af : Array Edge} {gd : Option (Nat × Bool)} {st : List AV} : condM ob ⟨dst, .nilCheck x, ty, pos, af, gd⟩ st = ((ev st x).refs ob = false) := by simp [condM, Op.operands]

def ones : List Nat → DT
  | [] => .fin
  | p :: r => .one p (ones r)
section
variable {P : Program} {Γ : Nat → Contract} {all : Array Oper} {Q : Exit → S → Prop} {p ob ko : Nat} {r ms ks : List Nat} {t u : DT} {σ : S} {s : List AV} {own : List Obj} {n : Nat} {m : List Nat}
@[go_sem] theorem chT_onesNil : chT P Γ all ob ko ms ks Q (ones []) σ = Q .normal σ := Eq.trans rfl rfl
@[go_sem] theorem chT_onesCons : chT P Γ all ob ko ms ks Q (ones (p :: r)) ⟨s, own, n, m⟩ = (match all[p]? with | some o => ((ms.contains p = true → condM ob o s) ∧ (ks.contains p = true → condX ko o s)) ∧ opg P Γ all o (chT P Γ all ob ko ms ks Q (ones r)) ⟨s, own, n, m⟩ | none => False) := Eq.trans rfl rfl
@[go_sem] theorem chT_fin : chT P Γ all ob ko ms ks Q .fin σ = Q .normal σ := Eq.trans rfl rfl
@[go_sem] theorem chT_stop : chT P Γ all ob ko ms ks Q .stop σ = True := Eq.trans rfl rfl
@[go_sem] theorem chT_one : chT P Γ all ob ko ms ks Q (.one p t) ⟨s, own, n, m⟩ = (match all[p]? with | some o => ((ms.contains p = true → condM ob o s) ∧ (ks.contains p = true → condX ko o s)) ∧ opg P Γ all o (chT P Γ all ob ko ms ks Q t) ⟨s, own, n, m⟩ | none => False) := Eq.trans rfl rfl
@[go_sem] theorem chT_alt : chT P Γ all ob ko ms ks Q (.alt p t u) ⟨s, own, n, m⟩ = ((match all[p]? with | some o => ((ms.contains p = true → condM ob o s) ∧ (ks.contains p = true → condX ko o s)) ∧ opg P Γ all o (chT P Γ all ob ko ms ks Q t) ⟨s, own, n, m⟩ | none => False) ∧ chT P Γ all ob ko ms ks Q u ⟨s, own, n, m⟩) := Eq.trans rfl rfl
end
end Go.AM

namespace Go.AM
open Go

def cutQ (P : Program) (Γ : Nat → Contract) (all : Array Oper) (Q : Exit → S → Prop) (os : List Oper) : Exit → S → Prop := fun e σ => match e with
  | .normal => ∃ σ', Le σ σ' ∧ awpOps P Γ all Q os σ'
  | _ => False
section
variable {P : Program} {Γ : Nat → Contract} {c : Ctx}
theorem awpOps_cut (hΓ : OkG P Γ) {all : Array Oper} {Q : Exit → S → Prop} {l2 : List Oper} : ∀ (l : List Oper) (σ : S) (a : Act) (w : World), St c σ a w → awpOps P Γ all (cutQ P Γ all Q l2) l σ → wpList P all (lift c Q) (l ++ l2) a w
  | [], σ, a, w, hst, h => by
    obtain ⟨σ', h1, h2⟩ := h
    exact awpOps_sound hΓ l2 σ' a w (h1 c a w hst) h2
  | o :: os, σ, a, w, hst, h => by
    simp only [awpOps] at h
    rw [List.cons_append]
    unfold wpList
    rcases opg_sound hΓ (Q := lift c Q) hst h with ⟨hw, hwp⟩ | ⟨hw, σ', hst', hK⟩
    · rw [if_pos hw]
      refine .inl (Oper.wp_mono ?_ hwp)
      rintro a' w' ⟨σ', hst', hK⟩
      exact awpOps_cut hΓ os σ' a' w' hst' hK
    · rw [if_neg (by simp [hw])]
      exact awpOps_cut hΓ os σ' _ w hst' hK
theorem sem_cut {id : Nat} {ops : List Oper} {Q : Exit → S → Prop} {σ : S} (n : Nat) (hΓ : OkG P Γ) (h : awpOps P Γ ops.toArray (cutQ P Γ ops.toArray Q (ops.drop n)) (ops.take n) σ) : sem P (.region id ops.toArray false) Q σ := by
  intro c a w hst
  refine wp_region_list ?_
  have := awpOps_cut hΓ (ops.take n) σ a w hst h
  rwa [List.take_append_drop] at this
@[go_sem] theorem cutQ_normal {all : Array Oper} {Q : Exit → S → Prop} {os : List Oper} {σ : S} : cutQ P Γ all Q os .normal σ = ∃ σ', Le σ σ' ∧ awpOps P Γ all Q os σ' := Eq.trans rfl rfl
end
theorem le_normAt {s : List AV} {own : List Obj} {n0 : Nat} {mv : List Nat} (i : Nat) {v : AV} (h : (s.getD i .top).norm = v) : Le ⟨s, own, n0, mv⟩ ⟨s.set i v, own, n0, mv⟩ := by
  rintro c a w ⟨hd, hn, F, φ, h2, h3, h4⟩
  refine ⟨hd, hn, F, φ, h2, h3, ?_⟩
  have hv := R_norm (AV.Rs_get h4 i)
  rw [h] at hv
  have hset := AV.Rs_set h4 i v _ hv
  have hself : a.tmps.toList.set i (a.tmps.toList.getD i undef) = a.tmps.toList := by
    apply List.ext_getElem?
    intro k
    rw [List.getElem?_set]
    split
    · rename_i hk
      subst hk
      split
      · rename_i hlt
        simp [List.getD_eq_getElem?_getD, List.getElem?_eq_getElem hlt]
      · rename_i hge
        rw [List.getElem?_eq_none (by omega)]
    · rfl
  rw [hself] at hset
  exact hset
attribute [go_sem] List.take_succ_cons List.take_zero List.drop_succ_cons List.drop_zero
end Go.AM

