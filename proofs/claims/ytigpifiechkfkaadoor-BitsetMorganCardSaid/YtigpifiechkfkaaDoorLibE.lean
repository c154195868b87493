/-
  AM34: families of own rows: a row of references to own rows that lie one behind the other.
  Own work over the kit's model. Generic over the program.
-/
import Derived.Test.YtigpifiechkfkaaDoorLibD
set_option linter.unusedSimpArgs false
set_option linter.unusedVariables false

namespace Go.AM
open Go

/-- The rows. -/
def famO (ag : Option Nat) (M : List (List D)) : List Obj := M.map (.row ag)
/-- The references to them, the first of which has the number b. -/
def famR : Nat → List (List D) → List AV
  | _, [] => []
  | b, l :: M => .sl b 0 l.length :: famR (b + 1) M

theorem famO_length (ag : Option Nat) (M : List (List D)) : (famO ag M).length = M.length := by simp [famO]
theorem famR_length : ∀ (b : Nat) (M : List (List D)), (famR b M).length = M.length
  | _, [] => rfl
  | b, l :: M => by simp [famR, famR_length (b + 1) M]
theorem famO_snoc (ag : Option Nat) (M : List (List D)) (l : List D) : famO ag (M ++ [l]) = famO ag M ++ [.row ag l] := by simp [famO]
theorem famR_snoc : ∀ (b : Nat) (M : List (List D)) (l : List D), famR b (M ++ [l]) = famR b M ++ [.sl (b + M.length) 0 l.length]
  | b, [], l => by simp [famR]
  | b, x :: M, l => by simp [famR, famR_snoc (b + 1) M l]; omega
theorem famR_get : ∀ (b : Nat) (M : List (List D)) (i : Nat), i < M.length → (famR b M).getD i .top = .sl (b + i) 0 (M.getD i []).length
  | b, [], i, h => by simp at h
  | b, l :: M, 0, _ => by simp [famR]
  | b, l :: M, i + 1, h => by
    have := famR_get (b + 1) M i (by simpa using h)
    simp only [famR, List.getD_cons_succ, this]
    congr 1; omega
theorem famO_get {ag : Option Nat} {M : List (List D)} {post : List Obj} {i : Nat} (h : i < M.length) : (famO ag M ++ post).getD i .dead = .row ag (M.getD i []) := by
  simp only [List.getD_eq_getElem?_getD]
  rw [List.getElem?_append_left (by simpa [famO] using h)]
  simp [famO, List.getElem?_map, List.getElem?_eq_getElem h]
theorem famO_get0 {ag : Option Nat} {M : List (List D)} {i : Nat} (h : i < M.length) : (famO ag M).getD i .dead = .row ag (M.getD i []) := by
  have := famO_get (ag := ag) (post := []) h
  simpa using this
theorem famO_set {ag : Option Nat} {M : List (List D)} {post : List Obj} {i : Nat} (h : i < M.length) (l : List D) : (famO ag M ++ post).set i (.row ag l) = famO ag (M.set i l) ++ post := by
  rw [List.set_append_left _ _ (by simpa [famO] using h)]
  simp [famO, List.map_set]
theorem famO_set0 {ag : Option Nat} {M : List (List D)} {i : Nat} (h : i < M.length) (l : List D) : (famO ag M).set i (.row ag l) = famO ag (M.set i l) := by simp [famO, List.map_set]
theorem famR_set : ∀ (b : Nat) (M : List (List D)) (i : Nat) (l : List D), (famR b M).set i (.sl (b + i) 0 l.length) = famR b (M.set i l)
  | b, [], i, l => rfl
  | b, x :: M, 0, l => by simp [famR]
  | b, x :: M, i + 1, l => by
    have := famR_set (b + 1) M i l
    simp only [famR, List.set_cons_succ]
    rw [← this, show b + (i + 1) = b + 1 + i by omega]
theorem famR_kills : ∀ (b : Nat) (M : List (List D)) (o : Nat), o < b ∨ b + M.length ≤ o → AV.kills o (famR b M) = famR b M
  | b, [], o, _ => rfl
  | b, l :: M, o, h => by
    simp only [List.length_cons] at h
    simp only [famR, AV.kills, AV.kill]
    rw [if_neg (by omega), famR_kills (b + 1) M o (by omega)]
theorem famR_kill_at : ∀ (b : Nat) (M : List (List D)) (i : Nat), i < M.length → AV.kills (b + i) (famR b M) = (famR b M).set i .top
  | b, [], i, h => by simp at h
  | b, l :: M, 0, _ => by
    simp only [famR, AV.kills, AV.kill, Nat.add_zero, if_true, List.set_cons_zero]
    rw [famR_kills (b + 1) M b (by omega)]
  | b, l :: M, i + 1, h => by
    simp only [famR, AV.kills, AV.kill, List.set_cons_succ]
    rw [if_neg (by omega), show b + (i + 1) = b + 1 + i by omega, famR_kill_at (b + 1) M i (by simpa using h)]
theorem famO_kill (ag : Option Nat) (M : List (List D)) (o : Nat) : (famO ag M).map (Obj.kill o) = famO ag M := by simp [famO, Obj.kill]

theorem kills_app (o : Nat) : ∀ (as bs : List AV), AV.kills o (as ++ bs) = AV.kills o as ++ AV.kills o bs
  | [], _ => rfl
  | a :: as, bs => by simp only [List.cons_append, AV.kills, kills_app o as bs]

theorem unders_app {n : Nat} : ∀ {as bs : List AV}, AV.unders n as → AV.unders n bs → AV.unders n (as ++ bs)
  | [], _, _, k => k
  | a :: as, bs, h, k => by simp only [List.cons_append, AV.unders] at h ⊢; exact ⟨h.1, unders_app h.2 k⟩

theorem famR_under : ∀ (b : Nat) (M : List (List D)) (n : Nat), b + M.length ≤ n → AV.unders n (famR b M)
  | b, [], n, _ => by simp only [famR, AV.unders]
  | b, l :: M, n, h => by
    simp only [List.length_cons] at h
    simp only [famR, AV.unders, AV.under]
    exact ⟨by omega, famR_under (b + 1) M n (by omega)⟩
theorem allUnder_app {n : Nat} : ∀ {xs ys : List Obj}, Obj.allUnder n xs → Obj.allUnder n ys → Obj.allUnder n (xs ++ ys)
  | [], _, _, h => h
  | x :: xs, ys, h, k => ⟨h.1, allUnder_app h.2 k⟩
theorem famO_under (ag : Option Nat) (n : Nat) : ∀ (M : List (List D)), Obj.allUnder n (famO ag M)
  | [] => trivial
  | l :: M => ⟨by simp only [Obj.under], famO_under ag n M⟩

/- ### a family becomes data -/

def frzF (ag : Option Nat) : Nat → List (List D) → AV → AV
  | _, [], v => v
  | b, l :: M, v => frzF ag (b + 1) M (v.frz b ag l)
def frzFs (ag : Option Nat) (b : Nat) (M : List (List D)) (s : List AV) : List AV := s.map (frzF ag b M)
def frzFo (ag : Option Nat) (b : Nat) (M : List (List D)) : Obj → Obj
  | .vec cs => .vec (frzFs ag b M cs)
  | .box cs => .box (frzFs ag b M cs)
  | x => x

theorem frzs_map (o : Nat) (ag : Option Nat) (xs : List D) : ∀ s : List AV, AV.frzs o ag xs s = s.map (AV.frz o ag xs)
  | [] => rfl
  | a :: s => by simp only [AV.frzs, List.map_cons, frzs_map o ag xs s]

theorem frzFo_cons (ag : Option Nat) (b : Nat) (l : List D) (M : List (List D)) (x : Obj) : frzFo ag b (l :: M) x = frzFo ag (b + 1) M (x.frz b ag l) := by
  cases x <;> simp only [frzFo, Obj.frz, frzs_map, frzFs, List.map_map] <;> rfl
theorem frzFo_row (ag ag' : Option Nat) (b : Nat) (M : List (List D)) (xs : List D) : frzFo ag b M (.row ag' xs) = .row ag' xs := rfl
theorem frz_row (o : Nat) (ag ag' : Option Nat) (xs ys : List D) : Obj.frz o ag xs (.row ag' ys) = .row ag' ys := rfl

theorem le_family {ag : Option Nat} : ∀ (M : List (List D)) {s : List AV} {pre post : List Obj} {n0 : Nat} {mv : List Nat}, n0 ≤ pre.length →
    Le ⟨s, pre ++ famO ag M ++ post, n0, mv⟩ ⟨frzFs ag pre.length M s, pre.map (frzFo ag pre.length M) ++ List.replicate M.length .dead ++ post.map (frzFo ag pre.length M), n0, mv⟩
  | [], s, pre, post, n0, mv, h0 => by
    have e : ∀ x : Obj, frzFo ag pre.length [] x = x := fun x => by cases x <;> simp [frzFo, frzFs, frzF]
    have e1 : s.map (frzF ag pre.length []) = s := by simp [frzF]
    have e2 : pre.map (frzFo ag pre.length []) = pre := by rw [show frzFo ag pre.length [] = id from funext e]; simp
    have e3 : post.map (frzFo ag pre.length []) = post := by rw [show frzFo ag pre.length [] = id from funext e]; simp
    simp only [famO, List.map_nil, List.length_nil, List.replicate_zero, frzFs, e1, e2, e3]
    exact Le.refl _
  | l :: M, s, pre, post, n0, mv, h0 => by
    have h := le_freeze (s := s) (own := pre ++ famO ag (l :: M) ++ post) (n0 := n0) (mv := mv) pre.length (ag := ag) (xs := l) (by simp [famO]) h0
    have e : ((pre ++ famO ag (l :: M) ++ post).map (Obj.frz pre.length ag l)).set pre.length .dead = (pre.map (Obj.frz pre.length ag l) ++ [.dead]) ++ famO ag M ++ post.map (Obj.frz pre.length ag l) := by
      have e1 : (famO ag (l :: M)).map (Obj.frz pre.length ag l) = .row ag l :: famO ag M := by simp [famO, Obj.frz]
      rw [List.map_append, List.map_append, e1]
      simp only [List.append_assoc]
      rw [List.set_append_right _ _ (by simp)]
      simp
    rw [e] at h
    have ih := le_family (ag := ag) M (s := AV.frzs pre.length ag l s) (pre := pre.map (Obj.frz pre.length ag l) ++ [.dead]) (post := post.map (Obj.frz pre.length ag l)) (n0 := n0) (mv := mv) (by simp; omega)
    refine Le.trans h (Le.trans ih ?_)
    have hl : (pre.map (Obj.frz pre.length ag l) ++ [Obj.dead]).length = pre.length + 1 := by simp
    rw [hl]
    have f1 : frzFs ag (pre.length + 1) M (AV.frzs pre.length ag l s) = frzFs ag pre.length (l :: M) s := by simp only [frzFs, frzs_map, List.map_map]; rfl
    have f2 : ∀ q : List Obj, (q.map (Obj.frz pre.length ag l)).map (frzFo ag (pre.length + 1) M) = q.map (frzFo ag pre.length (l :: M)) := fun q => by
      rw [List.map_map]
      exact List.map_congr_left fun x _ => (frzFo_cons ag pre.length l M x).symm
    have f3 : List.map (frzFo ag (pre.length + 1) M) (pre.map (Obj.frz pre.length ag l) ++ [.dead]) = pre.map (frzFo ag pre.length (l :: M)) ++ [.dead] := by
      rw [List.map_append, f2]; rfl
    rw [f1, f2, f3]
    have f4 : [Obj.dead] ++ List.replicate M.length Obj.dead = List.replicate (l :: M).length .dead := by simp [List.replicate_succ]
    rw [← f4, ← List.append_assoc]
    exact Le.refl _

theorem frzF_other (ag : Option Nat) : ∀ (M : List (List D)) (b : Nat) (v : AV), (∀ o, b ≤ o → o < b + M.length → ∀ xs, v.frz o ag xs = v) → frzF ag b M v = v
  | [], b, v, _ => rfl
  | l :: M, b, v, h => by
    simp only [frzF]
    rw [h b (Nat.le_refl _) (by simp) l]
    exact frzF_other ag M (b + 1) v (fun o h1 h2 => h o (by omega) (by simp only [List.length_cons]; omega))
theorem frzF_dat (ag : Option Nat) (M : List (List D)) (b : Nat) (d : D) : frzF ag b M (.dat d) = .dat d := frzF_other ag M b _ (fun _ _ _ _ => rfl)
theorem frzF_nils (ag : Option Nat) (M : List (List D)) (b : Nat) : frzF ag b M .nils = .nils := frzF_other ag M b _ (fun _ _ _ _ => rfl)
theorem frzF_top (ag : Option Nat) (M : List (List D)) (b : Nat) : frzF ag b M .top = .top := frzF_other ag M b _ (fun _ _ _ _ => rfl)
theorem frzF_ptr (ag : Option Nat) (M : List (List D)) (b : Nat) {o i j : Nat} (h : o < b ∨ b + M.length ≤ o) : frzF ag b M (.ptr o i j) = .ptr o i j := frzF_other ag M b _ (fun o' h1 h2 _ => by simp only [AV.frz]; rw [if_neg (by omega)])
theorem frzF_sl (ag : Option Nat) (M : List (List D)) (b : Nat) {o i j : Nat} (h : o < b ∨ b + M.length ≤ o) : frzF ag b M (.sl o i j) = .sl o i j := frzF_other ag M b _ (fun o' h1 h2 _ => by simp only [AV.frz]; rw [if_neg (by omega)])
theorem frzF_in (ag : Option Nat) : ∀ (M : List (List D)) (b i : Nat), i < M.length → frzF ag b M (.sl (b + i) 0 (M.getD i []).length) = .dat (.sl ag (M.getD i []))
  | [], b, i, h => by simp at h
  | l :: M, b, 0, _ => by
    simp only [frzF, AV.frz, Nat.add_zero, if_true, List.getD_cons_zero, Nat.zero_add, Nat.le_refl, List.drop_zero, List.take_length]
    exact frzF_dat ag M (b + 1) _
  | l :: M, b, i + 1, h => by
    have := frzF_in ag M (b + 1) i (by simpa using h)
    simp only [frzF, AV.frz, List.getD_cons_succ]
    rw [if_neg (by omega), show b + (i + 1) = b + 1 + i by omega]
    exact this
theorem frzFs_famR (ag : Option Nat) (M : List (List D)) (b : Nat) : frzFs ag b M (famR b M) = M.map (fun l => .dat (.sl ag l)) := by
  apply List.ext_getElem?
  intro i
  simp only [frzFs, List.getElem?_map]
  by_cases h : i < M.length
  · have h1 : (famR b M)[i]? = some (.sl (b + i) 0 (M.getD i []).length) := by
      have := famR_get b M i h
      rw [List.getD_eq_getElem?_getD] at this
      rw [List.getElem?_eq_getElem (by rw [famR_length]; exact h)] at this ⊢
      simpa using this
    rw [h1]
    simp only [Option.map_some, frzF_in ag M b i h]
    simp [List.getElem?_eq_getElem h]
  · rw [List.getElem?_eq_none (by rw [famR_length]; omega), List.getElem?_eq_none (by omega)]
    rfl

/-- An empty row of references that has no place yet, in a box. -/
theorem le_addnilV {s : List AV} {own : List Obj} {n0 : Nat} {mv : List Nat} (o j : Nat) {cs : List AV} (ho : own[o]? = some (.box cs)) (hj : cs.getD j .top = .nils) (h0 : n0 ≤ own.length) :
    Le ⟨s, own, n0, mv⟩ ⟨s, own.set o (.box (cs.set j (.sl own.length 0 0))) ++ [.vec []], n0, mv⟩ := by
  rintro c a w ⟨hd, hn, F, φ, h2, h3, h4⟩
  let L : Loc := ⟨true, 0, 0, 0, 1⟩
  have hmono := ext_old h3 L
  have h4' := AV.Rs_mono (fun _ h => h) (Same.refl F w) hmono _ _ h4
  have h5 := h3.new (L := L) (obj := Obj.vec []) (Nat.le_refl _) (fun _ _ => rfl) (fun hn' => by cases hn') (by simp only [ObjR]; exact ⟨rfl, .inl ⟨rfl, trivial⟩⟩)
  refine ⟨hd, hn, F, ext φ own.length L, ⟨h2.sub, h2.ext, fun o L' hlt hm h => hmono o L' (h2.keep o L' hlt hm h), h2.rest, fun o L' ho' hn' => ?_, h2.frsh⟩, ?_, h4'⟩
  · unfold ext at ho'
    split at ho'
    · cases ho'; cases hn'
    · exact h2.orig o L' ho' hn'
  · have holt : o < own.length := by
      rcases Nat.lt_or_ge o own.length with h | h
      · exact h
      · rw [List.getElem?_eq_none h] at ho; cases ho
    refine ⟨h5.fb, h5.live, h5.inj, fun o' obj ho' => ?_, fun o' ho' => h5.out o' (by simpa using ho'), h5.glob⟩
    have hset : own.set o (.box (cs.set j (.sl own.length 0 0))) ++ [Obj.vec []] = (own ++ [Obj.vec []]).set o (Obj.box (cs.set j (.sl own.length 0 0))) := by rw [List.set_append_left _ _ holt]
    simp only at ho'
    rw [hset, List.getElem?_set] at ho'
    by_cases e : o = o'
    · subst e
      simp only [if_true, List.length_append, List.length_cons, List.length_nil, show o < own.length + (0 + 1) by omega, Option.some.injEq] at ho'
      subst ho'
      have hr := h5.rep o (.box cs) (by rw [List.getElem?_append_left holt]; exact ho)
      cases hl : ext φ own.length L o with
      | none => rw [hl] at hr; simp only [ObjR] at hr
      | some L' =>
        rw [hl] at hr
        simp only [ObjR] at hr ⊢
        obtain ⟨q1, q2, arr, ty, q3, q4, q5⟩ := hr
        refine ⟨q1, q2, arr, ty, q3, q4, ?_⟩
        have hget := AV.Rs_get (AV.Ra_iff.1 q5).1 j
        rw [hj] at hget
        have hv := R_nils.1 hget
        have key := AV.Ra_set q5 j (.sl own.length 0 0) (.slice none 0 0) rfl (by
          simp only [AV.R]
          exact ⟨L, ext_self _ _ _, .inl ⟨rfl, by simp⟩⟩)
        have hself : arr.set j (.slice none 0 0) = arr := by
          apply List.ext_getElem?
          intro k
          rw [List.getElem?_set]
          split
          · rename_i hk
            subst hk
            split
            · rename_i hlt
              rw [← hv]
              simp [List.getD_eq_getElem?_getD, List.getElem?_eq_getElem hlt]
            · rename_i hge
              rw [List.getElem?_eq_none (by omega)]
          · rfl
        rw [hself] at key
        exact key
    · simp only [e, if_false] at ho'
      exact h5.rep o' obj ho'

/-- A function ends, its results in cells or slots; its own objects as promised. -/
theorem post_resO {P : Program} {fn : Func} {v : AV} {s : List AV} {own own' : List Obj} {n0 : Nat} {mv mv' mvP : List Nat} {e : Exit} (he : e = .ret ∨ e = .normal) (rs : List ResultVar) (hrs : fn.results.toList = rs) (hm : ∀ o, o ∈ mv' → o ∈ mvP)
    (h : resL P rs ⟨s, own, n0, mv⟩ (fun vs => Le ⟨[resV vs], own, n0, mv⟩ ⟨[v], own', n0, mv'⟩)) : post P fn v own' mvP e ⟨s, own, n0, mv⟩ := by
  refine ⟨by rcases he with rfl | rfl <;> trivial, ?_⟩
  rw [hrs]
  have key : ∀ (rs : List ResultVar) (K K' : List AV → Prop), (∀ vs, K vs → K' vs) → resL P rs ⟨s, own, n0, mv⟩ K → resL P rs ⟨s, own, n0, mv⟩ K' := by
    intro rs
    induction rs with
    | nil => intro K K' hk h; exact hk _ h
    | cons r rs ih =>
      intro K K' hk h
      cases r with
      | tmp t => simp only [resL] at h ⊢; exact ih _ _ (fun vs hv => hk _ hv) h
      | cell a t =>
        simp only [resL] at h ⊢
        obtain ⟨v, hv, hall⟩ := loadw_det _ _ _ h
        exact hall _ (ih _ _ (fun vs hv => hk _ hv) hv)
  exact key rs _ _ (fun vs hv => ⟨mv', hv, hm⟩) h
end Go.AM


namespace Go.AM
open Go

def cutB : List Nat → Nat → Bool
  | [], _ => false
  | k :: ks, i => decide (i = k) || cutB ks i

def awpK (ks : List Nat) (P : Program) (Γ : Nat → Contract) : Code → (Exit → S → Prop) → S → Prop
  | .skip, Q, σ => Q .normal σ
  | .region id ops draw, Q, σ => if draw then sem P (.region id ops true) Q σ else (match cutB ks id with | true => sem P (.region id ops draw) Q σ | false => awpOps P Γ ops Q ops.toList σ)
  | .seq a b, Q, σ => awpK ks P Γ a (fun e s => match e with | .normal => awpK ks P Γ b Q s | e => Q e s) σ
  | .cond c x y, Q, σ => condw (ev σ.slots c) (awpK ks P Γ x Q σ) (awpK ks P Γ y Q σ)
  | .block id body, Q, σ => awpK ks P Γ body (fun e s => match e with | .exit i => if i = id then Q .normal s else Q (.exit i) s | e => Q e s) σ
  | .exit id, Q, σ => Q (.exit id) σ
  | .ret, Q, σ => Q .ret σ
  | .loop b, Q, σ => sem P (.loop b) Q σ
  | .rangeFunc f ps as b, Q, σ => sem P (.rangeFunc f ps as b) Q σ
  | .scope b, Q, σ => sem P (.scope b) Q σ
  | .label l, Q, σ => Q .normal σ
  | .goto l, Q, σ => Q (.goto l) σ
  | .refuse _, _, _ => False

def andThenK (ks : List Nat) (P : Program) (Γ : Nat → Contract) (b : Code) (Q : Exit → S → Prop) : Exit → S → Prop := fun e s => match e with | .normal => awpK ks P Γ b Q s | e => Q e s
def condK (ks : List Nat) (P : Program) (Γ : Nat → Contract) (v : AV) (a b : Code) (Q : Exit → S → Prop) (σ : S) : Prop := condw v (awpK ks P Γ a Q σ) (awpK ks P Γ b Q σ)
def regK (c : Bool) (P : Program) (Γ : Nat → Contract) (id : Nat) (ops : Array Oper) (Q : Exit → S → Prop) (σ : S) : Prop := match c with | true => sem P (.region id ops false) Q σ | false => awpOps P Γ ops Q ops.toList σ

section
variable {P : Program} {Γ : Nat → Contract} {ks : List Nat} {Q : Exit → S → Prop} {σ : S}

theorem sem_of_awpK (ks : List Nat) (hΓ : OkG P Γ) : ∀ (code : Code) (Q : Exit → S → Prop) (σ : S), awpK ks P Γ code Q σ → sem P code Q σ
  | .skip, Q, σ, h => fun c a w hst => wp_skip ⟨σ, hst, h⟩
  | .region id ops draw, Q, σ, h => by
    simp only [awpK] at h
    split at h
    · rename_i hd; subst hd; exact h
    · rename_i hd
      have : draw = false := by simpa using hd
      subst this
      split at h
      · exact h
      · exact fun c a w hst => wp_region_list (awpOps_sound hΓ ops.toList σ a w hst h)
  | .seq x y, Q, σ, h => by
    intro c a w hst
    simp only [awpK] at h
    refine wp_seq (wp_mono (sem_of_awpK ks hΓ x _ σ h c a w hst) ?_)
    rintro e a' w' ⟨σ', hst', hq⟩
    cases e with
    | normal => exact sem_of_awpK ks hΓ y Q σ' hq c a' w' hst'
    | _ => exact ⟨σ', hst', hq⟩
  | .cond x y z, Q, σ, h => by
    intro c a w hst
    simp only [awpK] at h
    unfold condw at h
    split at h
    · rename_i b hb
      have hst' := hst
      obtain ⟨hd, hn, F, φ, h2, h3, h4⟩ := hst'
      have hv := ev_R (F := F) (φ := φ) (w := w) h3.glob h4 x
      rw [hb] at hv
      exact wp_cond_split (R_bool.1 hv) (fun hb => sem_of_awpK ks hΓ y Q σ (h.1 hb) c a w hst) (fun hb => sem_of_awpK ks hΓ z Q σ (h.2 hb) c a w hst)
    · exact h.elim
  | .block id body, Q, σ, h => by
    intro c a w hst
    simp only [awpK] at h
    refine wp_block (wp_mono (sem_of_awpK ks hΓ body _ σ h c a w hst) ?_)
    rintro e a' w' ⟨σ', hst', hq⟩
    cases e with
    | exit i =>
      simp only [Exit.inBlock]
      split
      · rename_i hi; simp only [hi, if_true] at hq; exact ⟨σ', hst', hq⟩
      · rename_i hi; simp only [hi, if_false] at hq; exact ⟨σ', hst', hq⟩
    | _ => exact ⟨σ', hst', hq⟩
  | .exit id, Q, σ, h => fun c a w hst => wp_exit ⟨σ, hst, h⟩
  | .ret, Q, σ, h => fun c a w hst => wp_ret ⟨σ, hst, h⟩
  | .loop b, Q, σ, h => h
  | .rangeFunc _ _ _ _, Q, σ, h => h
  | .scope _, Q, σ, h => h
  | .label _, Q, σ, h => fun c a w hst => wp_label ⟨σ, hst, h⟩
  | .goto _, Q, σ, h => fun c a w hst => wp_goto ⟨σ, hst, h⟩
  | .refuse _, Q, σ, h => h.elim

@[go_sem] theorem awpK_skip : awpK ks P Γ .skip Q σ = Q .normal σ := Eq.trans rfl rfl
@[go_sem] theorem awpK_region {id : Nat} {ops : List Oper} : awpK ks P Γ (.region id ops.toArray false) Q σ = regK (cutB ks id) P Γ id ops.toArray Q σ := by simp only [awpK, regK, Bool.false_eq_true, if_false]
@[go_sem] theorem awpK_draw {id : Nat} {ops : Array Oper} : awpK ks P Γ (.region id ops true) Q σ = sem P (.region id ops true) Q σ := by simp only [awpK, if_true]
@[go_sem] theorem regK_true {id : Nat} {ops : Array Oper} : regK true P Γ id ops Q σ = sem P (.region id ops false) Q σ := Eq.trans rfl rfl
@[go_sem] theorem regK_false {id : Nat} {ops : List Oper} : regK false P Γ id ops.toArray Q σ = awpOps P Γ ops.toArray Q ops σ := Eq.trans rfl rfl
@[go_sem] theorem cutB_nil {i : Nat} : cutB [] i = false := Eq.trans rfl rfl
@[go_sem] theorem cutB_same {i : Nat} : cutB (i :: ks) i = true := by simp [cutB]
@[go_sem] theorem cutB_other {i k : Nat} (h : i ≠ k) : cutB (k :: ks) i = cutB ks i := by simp [cutB, h]
@[go_sem] theorem awpK_seq {a b : Code} : awpK ks P Γ (.seq a b) Q σ = awpK ks P Γ a (andThenK ks P Γ b Q) σ := Eq.trans rfl rfl
@[go_sem] theorem awpK_cond {x : Operand} {a b : Code} : awpK ks P Γ (.cond x a b) Q σ = condK ks P Γ (ev σ.slots x) a b Q σ := Eq.trans rfl rfl
@[go_sem] theorem condK_true {a b : Code} : condK ks P Γ (.dat (.bool true)) a b Q σ = awpK ks P Γ a Q σ := by simp [condK, condw]
@[go_sem] theorem condK_false {a b : Code} : condK ks P Γ (.dat (.bool false)) a b Q σ = awpK ks P Γ b Q σ := by simp [condK, condw]
@[go_sem low] theorem condK_bool {a b : Code} {c : Bool} : condK ks P Γ (.dat (.bool c)) a b Q σ = ((c = true → awpK ks P Γ a Q σ) ∧ (c = false → awpK ks P Γ b Q σ)) := Eq.trans rfl rfl
@[go_sem] theorem awpK_block {id : Nat} {b : Code} : awpK ks P Γ (.block id b) Q σ = awpK ks P Γ b (inBlk id Q) σ := Eq.trans rfl rfl
@[go_sem] theorem awpK_exit {id : Nat} : awpK ks P Γ (.exit id) Q σ = Q (.exit id) σ := Eq.trans rfl rfl
@[go_sem] theorem awpK_ret : awpK ks P Γ .ret Q σ = Q .ret σ := Eq.trans rfl rfl
@[go_sem] theorem awpK_loop {b : Code} : awpK ks P Γ (.loop b) Q σ = sem P (.loop b) Q σ := Eq.trans rfl rfl
@[go_sem] theorem andThenK_normal {b : Code} {s : S} : andThenK ks P Γ b Q .normal s = awpK ks P Γ b Q s := Eq.trans rfl rfl
@[go_sem] theorem andThenK_exit {b : Code} {s : S} {i : Nat} : andThenK ks P Γ b Q (.exit i) s = Q (.exit i) s := Eq.trans rfl rfl
@[go_sem] theorem andThenK_ret {b : Code} {s : S} : andThenK ks P Γ b Q .ret s = Q .ret s := Eq.trans rfl rfl

/- families under a call's shift -/
theorem shifts_famR (k : Nat) : ∀ (b : Nat) (M : List (List D)), AV.shifts k (famR b M) = famR (k + b) M
  | _, [] => rfl
  | b, l :: M => by simp only [famR, AV.shifts, AV.shift, shifts_famR k (b + 1) M, Nat.add_assoc]
theorem shift_famO (k : Nat) (ag : Option Nat) (M : List (List D)) : (famO ag M).map (Obj.shift k) = famO ag M := by simp [famO, Obj.shift]
end
end Go.AM

