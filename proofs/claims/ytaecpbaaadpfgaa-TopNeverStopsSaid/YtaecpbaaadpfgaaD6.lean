/- Own work over the model of the kit. -/
import Derived.Test.YtaecpbaaadpfgaaD5
set_option linter.unusedSimpArgs false
set_option linter.unusedVariables false
namespace Go.AM
open Go
def famO (ag : Option Nat) (M : List (List D)) : List Obj := M.map (.row ag)
def famR : Nat -> List (List D) -> List AV
 | _, [] => []
 | b, l :: M => .sl b 0 l.length :: famR (b + 1) M
theorem famO_length (ag : Option Nat) (M : List (List D)) : (famO ag M).length = M.length := by simp [famO]
theorem famR_length : ∀ (b : Nat) (M : List (List D)), (famR b M).length = M.length
 | _, [] => rfl
 | b, l :: M => by simp [famR, famR_length (b + 1) M]
theorem famO_snoc (ag : Option Nat) (M : List (List D)) (l : List D) : famO ag (M ++ [l]) = famO ag M ++ [.row ag l] := by simp [famO]
theorem famR_snoc : ∀ (b : Nat) (M : List (List D)) (l : List D), famR b (M ++ [l]) = famR b M ++ [.sl (b + M.length) 0 l.length]
 | b, [], l => by simp [famR]
 | b, x :: M, l => by simp [famR, famR_snoc (b + 1) M l]; omega
theorem famR_get : ∀ (b : Nat) (M : List (List D)) (i : Nat), i < M.length -> (famR b M).getD i .top = .sl (b + i) 0 (M.getD i []).length
 | b, [], i, h => by simp at h
 | b, l :: M, 0, _ => by simp [famR]
 | b, l :: M, i + 1, h => by
  have := famR_get (b + 1) M i (by simpa using h)
  simp only [famR, List.getD_cons_succ, this]
  congr 1; omega
theorem famO_get {ag : Option Nat} {M : List (List D)} {post : List Obj} {i : Nat} (h : i < M.length) : (famO ag M ++ post).getD i .dead = .row ag (M.getD i []) := by
 simp only [List.getD_eq_getElem?_getD]
 rw [List.getElem?_append_left (by simpa [famO] using h)]
 simp [famO, List.getElem?_map, List.getElem?_eq_getElem h]
theorem famO_get0 {ag : Option Nat} {M : List (List D)} {i : Nat} (h : i < M.length) : (famO ag M).getD i .dead = .row ag (M.getD i []) := by
 have := famO_get (ag := ag) (post := []) h
 simpa using this
theorem famO_set {ag : Option Nat} {M : List (List D)} {post : List Obj} {i : Nat} (h : i < M.length) (l : List D) : (famO ag M ++ post).set i (.row ag l) = famO ag (M.set i l) ++ post := by
 rw [List.set_append_left _ _ (by simpa [famO] using h)]
 simp [famO, List.map_set]
theorem famO_set0 {ag : Option Nat} {M : List (List D)} {i : Nat} (h : i < M.length) (l : List D) : (famO ag M).set i (.row ag l) = famO ag (M.set i l) := by simp [famO, List.map_set]
theorem famR_set : ∀ (b : Nat) (M : List (List D)) (i : Nat) (l : List D), (famR b M).set i (.sl (b + i) 0 l.length) = famR b (M.set i l)
 | b, [], i, l => rfl
 | b, x :: M, 0, l => by simp [famR]
 | b, x :: M, i + 1, l => by
  have := famR_set (b + 1) M i l
  simp only [famR, List.set_cons_succ]
  rw [← this, show b + (i + 1) = b + 1 + i by omega]
theorem famR_kills : ∀ (b : Nat) (M : List (List D)) (o : Nat), o < b ∨ b + M.length <= o -> AV.kills o (famR b M) = famR b M
 | b, [], o, _ => rfl
 | b, l :: M, o, h => by
  simp only [List.length_cons] at h
  simp only [famR, AV.kills, AV.kill]
  rw [if_neg (by omega), famR_kills (b + 1) M o (by omega)]
theorem famR_kill_at : ∀ (b : Nat) (M : List (List D)) (i : Nat), i < M.length -> AV.kills (b + i) (famR b M) = (famR b M).set i .top
 | b, [], i, h => by simp at h
 | b, l :: M, 0, _ => by
  simp only [famR, AV.kills, AV.kill, Nat.add_zero, if_true, List.set_cons_zero]
  rw [famR_kills (b + 1) M b (by omega)]
 | b, l :: M, i + 1, h => by
  simp only [famR, AV.kills, AV.kill, List.set_cons_succ]
  rw [if_neg (by omega), show b + (i + 1) = b + 1 + i by omega, famR_kill_at (b + 1) M i (by simpa using h)]
theorem famO_kill (ag : Option Nat) (M : List (List D)) (o : Nat) : (famO ag M).map (Obj.kill o) = famO ag M := by simp [famO, Obj.kill]
theorem kills_app (o : Nat) : ∀ (as bs : List AV), AV.kills o (as ++ bs) = AV.kills o as ++ AV.kills o bs
 | [], _ => rfl
 | a :: as, bs => by simp only [List.cons_append, AV.kills, kills_app o as bs]
theorem unders_app {n : Nat} : ∀ {as bs : List AV}, AV.unders n as -> AV.unders n bs -> AV.unders n (as ++ bs)
 | [], _, _, k => k
 | a :: as, bs, h, k => by simp only [List.cons_append, AV.unders] at h ⊢; exact ⟨h.1, unders_app h.2 k⟩
theorem famR_under : ∀ (b : Nat) (M : List (List D)) (n : Nat), b + M.length <= n -> AV.unders n (famR b M)
 | b, [], n, _ => by simp only [famR, AV.unders]
 | b, l :: M, n, h => by
  simp only [List.length_cons] at h
  simp only [famR, AV.unders, AV.under]
  exact ⟨by omega, famR_under (b + 1) M n (by omega)⟩
theorem allUnder_app {n : Nat} : ∀ {xs ys : List Obj}, Obj.allUnder n xs -> Obj.allUnder n ys -> Obj.allUnder n (xs ++ ys)
 | [], _, _, h => h
 | x :: xs, ys, h, k => ⟨h.1, allUnder_app h.2 k⟩
theorem famO_under (ag : Option Nat) (n : Nat) : ∀ (M : List (List D)), Obj.allUnder n (famO ag M)
 | [] => trivial
 | l :: M => ⟨by simp only [Obj.under], famO_under ag n M⟩
def frzF (ag : Option Nat) : Nat -> List (List D) -> AV -> AV
 | _, [], v => v
 | b, l :: M, v => frzF ag (b + 1) M (v.frz b ag l)
def frzFs (ag : Option Nat) (b : Nat) (M : List (List D)) (s : List AV) : List AV := s.map (frzF ag b M)
def frzFo (ag : Option Nat) (b : Nat) (M : List (List D)) : Obj -> Obj
 | .vec cs => .vec (frzFs ag b M cs)
 | .tab k cs => .tab k (frzFs ag b M cs)
 | .box cs => .box (frzFs ag b M cs)
 | x => x
theorem frzs_map (o : Nat) (ag : Option Nat) (xs : List D) : ∀ s : List AV, AV.frzs o ag xs s = s.map (AV.frz o ag xs)
 | [] => rfl
 | a :: s => by simp only [AV.frzs, List.map_cons, frzs_map o ag xs s]
theorem frzFo_cons (ag : Option Nat) (b : Nat) (l : List D) (M : List (List D)) (x : Obj) : frzFo ag b (l :: M) x = frzFo ag (b + 1) M (x.frz b ag l) := by
 cases x <;> simp only [frzFo, Obj.frz, frzs_map, frzFs, List.map_map] <;> rfl
theorem le_family {ag : Option Nat} : ∀ (M : List (List D)) {s : List AV} {pre post : List Obj} {n0 : Nat} {mv : List Nat}, n0 <= pre.length ->
  Le ⟨s, pre ++ famO ag M ++ post, n0, mv⟩ ⟨frzFs ag pre.length M s, pre.map (frzFo ag pre.length M) ++ List.replicate M.length .dead ++ post.map (frzFo ag pre.length M), n0, mv⟩
 | [], s, pre, post, n0, mv, h0 => by
  have e : ∀ x : Obj, frzFo ag pre.length [] x = x := fun x => by cases x <;> simp [frzFo, frzFs, frzF]
  have e1 : s.map (frzF ag pre.length []) = s := by simp [frzF]
  have e2 : pre.map (frzFo ag pre.length []) = pre := by rw [show frzFo ag pre.length [] = id from funext e]; simp
  have e3 : post.map (frzFo ag pre.length []) = post := by rw [show frzFo ag pre.length [] = id from funext e]; simp
  simp only [famO, List.map_nil, List.length_nil, List.replicate_zero, frzFs, e1, e2, e3]
  exact Le.refl _
 | l :: M, s, pre, post, n0, mv, h0 => by
  have h := le_freeze (s := s) (own := pre ++ famO ag (l :: M) ++ post) (n0 := n0) (mv := mv) pre.length (ag := ag) (xs := l) (by simp [famO]) h0
  have e : ((pre ++ famO ag (l :: M) ++ post).map (Obj.frz pre.length ag l)).set pre.length .dead = (pre.map (Obj.frz pre.length ag l) ++ [.dead]) ++ famO ag M ++ post.map (Obj.frz pre.length ag l) := by
   have e1 : (famO ag (l :: M)).map (Obj.frz pre.length ag l) = .row ag l :: famO ag M := by simp [famO, Obj.frz]
   rw [List.map_append, List.map_append, e1]
   simp only [List.append_assoc]
   rw [List.set_append_right _ _ (by simp)]
   simp
  rw [e] at h
  have ih := le_family (ag := ag) M (s := AV.frzs pre.length ag l s) (pre := pre.map (Obj.frz pre.length ag l) ++ [.dead]) (post := post.map (Obj.frz pre.length ag l)) (n0 := n0) (mv := mv) (by simp; omega)
  refine Le.trans h (Le.trans ih ?_)
  have hl : (pre.map (Obj.frz pre.length ag l) ++ [Obj.dead]).length = pre.length + 1 := by simp
  rw [hl]
  have f1 : frzFs ag (pre.length + 1) M (AV.frzs pre.length ag l s) = frzFs ag pre.length (l :: M) s := by simp only [frzFs, frzs_map, List.map_map]; rfl
  have f2 : ∀ q : List Obj, (q.map (Obj.frz pre.length ag l)).map (frzFo ag (pre.length + 1) M) = q.map (frzFo ag pre.length (l :: M)) := fun q => by
   rw [List.map_map]
   exact List.map_congr_left fun x _ => (frzFo_cons ag pre.length l M x).symm
  have f3 : List.map (frzFo ag (pre.length + 1) M) (pre.map (Obj.frz pre.length ag l) ++ [.dead]) = pre.map (frzFo ag pre.length (l :: M)) ++ [.dead] := by
   rw [List.map_append, f2]; rfl
  rw [f1, f2, f3]
  have f4 : [Obj.dead] ++ List.replicate M.length Obj.dead = List.replicate (l :: M).length .dead := by simp [List.replicate_succ]
  rw [← f4, ← List.append_assoc]
  exact Le.refl _
theorem frzF_other (ag : Option Nat) : ∀ (M : List (List D)) (b : Nat) (v : AV), (∀ o, b <= o -> o < b + M.length -> ∀ xs, v.frz o ag xs = v) -> frzF ag b M v = v
 | [], b, v, _ => rfl
 | l :: M, b, v, h => by
  simp only [frzF]
  rw [h b (Nat.le_refl _) (by simp) l]
  exact frzF_other ag M (b + 1) v (fun o h1 h2 => h o (by omega) (by simp only [List.length_cons]; omega))
theorem frzF_dat (ag : Option Nat) (M : List (List D)) (b : Nat) (d : D) : frzF ag b M (.dat d) = .dat d := frzF_other ag M b _ (fun _ _ _ _ => rfl)
theorem frzF_nils (ag : Option Nat) (M : List (List D)) (b : Nat) : frzF ag b M .nils = .nils := frzF_other ag M b _ (fun _ _ _ _ => rfl)
theorem frzF_top (ag : Option Nat) (M : List (List D)) (b : Nat) : frzF ag b M .top = .top := frzF_other ag M b _ (fun _ _ _ _ => rfl)
theorem frzF_ptr (ag : Option Nat) (M : List (List D)) (b : Nat) {o i j : Nat} (h : o < b ∨ b + M.length <= o) : frzF ag b M (.ptr o i j) = .ptr o i j := frzF_other ag M b _ (fun o' h1 h2 _ => by simp only [AV.frz]; rw [if_neg (by omega)])
theorem frzF_sl (ag : Option Nat) (M : List (List D)) (b : Nat) {o i j : Nat} (h : o < b ∨ b + M.length <= o) : frzF ag b M (.sl o i j) = .sl o i j := frzF_other ag M b _ (fun o' h1 h2 _ => by simp only [AV.frz]; rw [if_neg (by omega)])
theorem frzF_in (ag : Option Nat) : ∀ (M : List (List D)) (b i : Nat), i < M.length -> frzF ag b M (.sl (b + i) 0 (M.getD i []).length) = .dat (.sl ag (M.getD i []))
 | [], b, i, h => by simp at h
 | l :: M, b, 0, _ => by
  simp only [frzF, AV.frz, Nat.add_zero, if_true, List.getD_cons_zero, Nat.zero_add, Nat.le_refl, List.drop_zero, List.take_length]
  exact frzF_dat ag M (b + 1) _
 | l :: M, b, i + 1, h => by
  have := frzF_in ag M (b + 1) i (by simpa using h)
  simp only [frzF, AV.frz, List.getD_cons_succ]
  rw [if_neg (by omega), show b + (i + 1) = b + 1 + i by omega]
  exact this
theorem frzFs_famR (ag : Option Nat) (M : List (List D)) (b : Nat) : frzFs ag b M (famR b M) = M.map (fun l => .dat (.sl ag l)) := by
 apply List.ext_getElem?
 intro i
 simp only [frzFs, List.getElem?_map]
 by_cases h : i < M.length
 ·have h1 : (famR b M)[i]? = some (.sl (b + i) 0 (M.getD i []).length) := by
   have := famR_get b M i h
   rw [List.getD_eq_getElem?_getD] at this
   rw [List.getElem?_eq_getElem (by rw [famR_length]; exact h)] at this ⊢
   simpa using this
  rw [h1]
  simp only [Option.map_some, frzF_in ag M b i h]
  simp [List.getElem?_eq_getElem h]
 ·rw [List.getElem?_eq_none (by rw [famR_length]; omega), List.getElem?_eq_none (by omega)]
  rfl
theorem le_addnilV {s : List AV} {own : List Obj} {n0 : Nat} {mv : List Nat} (o j : Nat) {cs : List AV} (ho : own[o]? = some (.box cs)) (hj : cs.getD j .top = .nils) (h0 : n0 <= own.length) :
  Le ⟨s, own, n0, mv⟩ ⟨s, own.set o (.box (cs.set j (.sl own.length 0 0))) ++ [.vec []], n0, mv⟩ := by
 rintro c a w ⟨hd, hn, F, φ, h2, h3, h4⟩
 let L : Loc := ⟨true, 0, 0, 0, 1⟩
 have hmono := ext_old h3 L
 have h4' := AV.Rs_mono (fun _ h => h) (Same.refl F w) hmono _ _ h4
 have h5 := h3.new (L := L) (obj := Obj.vec []) (Nat.le_refl _) (fun _ _ => rfl) (fun hn' => by cases hn') (by simp only [ObjR]; exact ⟨rfl, .inl ⟨rfl, trivial⟩⟩)
 refine ⟨hd, hn, F, ext φ own.length L, ⟨h2.sub, h2.ext, fun o L' hlt hm h => hmono o L' (h2.keep o L' hlt hm h), h2.rest, fun o L' ho' hn' => ?_, h2.frsh⟩, ?_, h4'⟩
 ·unfold ext at ho'
  split at ho'
  ·cases ho'; cases hn'
  ·exact h2.orig o L' ho' hn'
 ·have holt : o < own.length := by
   rcases Nat.lt_or_ge o own.length with h | h
   ·exact h
   ·rw [List.getElem?_eq_none h] at ho; cases ho
  refine ⟨h5.fb, h5.live, h5.inj, fun o' obj ho' => ?_, fun o' ho' => h5.out o' (by simpa using ho'), h5.glob⟩
  have hset : own.set o (.box (cs.set j (.sl own.length 0 0))) ++ [Obj.vec []] = (own ++ [Obj.vec []]).set o (Obj.box (cs.set j (.sl own.length 0 0))) := by rw [List.set_append_left _ _ holt]
  simp only at ho'
  rw [hset, List.getElem?_set] at ho'
  by_cases e : o = o'
  ·subst e
   simp only [if_true, List.length_append, List.length_cons, List.length_nil, show o < own.length + (0 + 1) by omega, Option.some.injEq] at ho'
   subst ho'
   have hr := h5.rep o (.box cs) (by rw [List.getElem?_append_left holt]; exact ho)
   cases hl : ext φ own.length L o with
   | none => rw [hl] at hr; simp only [ObjR] at hr
   | some L' =>
    rw [hl] at hr
    simp only [ObjR] at hr ⊢
    obtain ⟨q1, q2, arr, ty, q3, q4, q5⟩ := hr
    refine ⟨q1, q2, arr, ty, q3, q4, ?_⟩
    have hget := AV.Rs_get (AV.Ra_iff.1 q5).1 j
    rw [hj] at hget
    have hv := R_nils.1 hget
    have key := AV.Ra_set q5 j (.sl own.length 0 0) (.slice none 0 0) rfl (by
     simp only [AV.R]
     exact ⟨L, ext_self _ _ _, .inl ⟨rfl, by simp⟩⟩)
    have hself : arr.set j (.slice none 0 0) = arr := by
     apply List.ext_getElem?
     intro k
     rw [List.getElem?_set]
     split
     ·rename_i hk
      subst hk
      split
      ·rename_i hlt
       rw [← hv]
       simp [List.getD_eq_getElem?_getD, List.getElem?_eq_getElem hlt]
      ·rename_i hge
       rw [List.getElem?_eq_none (by omega)]
     ·rfl
    rw [hself] at key
    exact key
  ·simp only [e, if_false] at ho'
   exact h5.rep o' obj ho'
theorem post_resO {P : Program} {fn : Func} {v : AV} {s : List AV} {own own' : List Obj} {n0 : Nat} {mv mv' mvP : List Nat} {e : Exit} (he : e = .ret ∨ e = .normal) (rs : List ResultVar) (hrs : fn.results.toList = rs) (hm : ∀ o, o ∈ mv' -> o ∈ mvP)
  (h : resL P rs ⟨s, own, n0, mv⟩ (fun vs => Le ⟨[resV vs], own, n0, mv⟩ ⟨[v], own', n0, mv'⟩)) : post P fn v own' mvP e ⟨s, own, n0, mv⟩ := by
 refine ⟨by rcases he with rfl | rfl <;> trivial, ?_⟩
 rw [hrs]
 have key : ∀ (rs : List ResultVar) (K K' : List AV -> Prop), (∀ vs, K vs -> K' vs) -> resL P rs ⟨s, own, n0, mv⟩ K -> resL P rs ⟨s, own, n0, mv⟩ K' := by
  intro rs
  induction rs with
  | nil => intro K K' hk h; exact hk _ h
  | cons r rs ih =>
   intro K K' hk h
   cases r with
   | tmp t => simp only [resL] at h ⊢; exact ih _ _ (fun vs hv => hk _ hv) h
   | cell a t =>
    simp only [resL] at h ⊢
    obtain ⟨v, hv, hall⟩ := loadw_det _ _ _ h
    exact hall _ (ih _ _ (fun vs hv => hk _ hv) hv)
 exact key rs _ _ (fun vs hv => ⟨mv', hv, hm⟩) h
end Go.AM
namespace Go.AM
open Go
def cutB : List Nat -> Nat -> Bool
 | [], _ => false
 | k :: ks, i => decide (i = k) || cutB ks i
def awpK (ks : List Nat) (P : Program) (Γ : Nat -> Contract) : Code -> (Exit -> S -> Prop) -> S -> Prop
 | .skip, Q, σ => Q .normal σ
 | .region id ops draw, Q, σ => if draw then sem P (.region id ops true) Q σ else (match cutB ks id with | true => sem P (.region id ops draw) Q σ | false => awpOps P Γ ops Q ops.toList σ)
 | .seq a b, Q, σ => awpK ks P Γ a (fun e s => match e with | .normal => awpK ks P Γ b Q s | e => Q e s) σ
 | .cond c x y, Q, σ => condw (ev σ.slots c) (awpK ks P Γ x Q σ) (awpK ks P Γ y Q σ)
 | .block id body, Q, σ => awpK ks P Γ body (fun e s => match e with | .exit i => if i = id then Q .normal s else Q (.exit i) s | e => Q e s) σ
 | .exit id, Q, σ => Q (.exit id) σ
 | .ret, Q, σ => Q .ret σ
 | .loop b, Q, σ => sem P (.loop b) Q σ
 | .rangeFunc f ps as b, Q, σ => sem P (.rangeFunc f ps as b) Q σ
 | .scope b, Q, σ => sem P (.scope b) Q σ
 | .label l, Q, σ => Q .normal σ
 | .goto l, Q, σ => Q (.goto l) σ
 | .refuse _, _, _ => False
def andThenK (ks : List Nat) (P : Program) (Γ : Nat -> Contract) (b : Code) (Q : Exit -> S -> Prop) : Exit -> S -> Prop := fun e s => match e with | .normal => awpK ks P Γ b Q s | e => Q e s
def condK (ks : List Nat) (P : Program) (Γ : Nat -> Contract) (v : AV) (a b : Code) (Q : Exit -> S -> Prop) (σ : S) : Prop := condw v (awpK ks P Γ a Q σ) (awpK ks P Γ b Q σ)
def regK (c : Bool) (P : Program) (Γ : Nat -> Contract) (id : Nat) (ops : Array Oper) (Q : Exit -> S -> Prop) (σ : S) : Prop := match c with | true => sem P (.region id ops false) Q σ | false => awpOps P Γ ops Q ops.toList σ
section
variable {P : Program} {Γ : Nat -> Contract} {ks : List Nat} {Q : Exit -> S -> Prop} {σ : S}
theorem sem_of_awpK (ks : List Nat) (hΓ : OkG P Γ) : ∀ (code : Code) (Q : Exit -> S -> Prop) (σ : S), awpK ks P Γ code Q σ -> sem P code Q σ
 | .skip, Q, σ, h => fun c a w hst => wp_skip ⟨σ, hst, h⟩
 | .region id ops draw, Q, σ, h => by
  simp only [awpK] at h
  split at h
  ·rename_i hd; subst hd; exact h
  ·rename_i hd
   have : draw = false := by simpa using hd
   subst this
   split at h
   ·exact h
   ·exact fun c a w hst => wp_region_list (awpOps_sound hΓ ops.toList σ a w hst h)
 | .seq x y, Q, σ, h => by
  intro c a w hst
  simp only [awpK] at h
  refine wp_seq (wp_mono (sem_of_awpK ks hΓ x _ σ h c a w hst) ?_)
  rintro e a' w' ⟨σ', hst', hq⟩
  cases e with
  | normal => exact sem_of_awpK ks hΓ y Q σ' hq c a' w' hst'
  | _ => exact ⟨σ', hst', hq⟩
 | .cond x y z, Q, σ, h => by
  intro c a w hst
  simp only [awpK] at h
  unfold condw at h
  split at h
  ·rename_i b hb
   have hst' := hst
   obtain ⟨hd, hn, F, φ, h2, h3, h4⟩ := hst'
   have hv := ev_R (F := F) (φ := φ) (w := w) h3.glob h4 x
   rw [hb] at hv
   exact wp_cond_split (R_bool.1 hv) (fun hb => sem_of_awpK ks hΓ y Q σ (h.1 hb) c a w hst) (fun hb => sem_of_awpK ks hΓ z Q σ (h.2 hb) c a w hst)
  ·exact h.elim
 | .block id body, Q, σ, h => by
  intro c a w hst
  simp only [awpK] at h
  refine wp_block (wp_mono (sem_of_awpK ks hΓ body _ σ h c a w hst) ?_)
  rintro e a' w' ⟨σ', hst', hq⟩
  cases e with
  | exit i =>
   simp only [Exit.inBlock]
   split
   ·rename_i hi; simp only [hi, if_true] at hq; exact ⟨σ', hst', hq⟩
   ·rename_i hi; simp only [hi, if_false] at hq; exact ⟨σ', hst', hq⟩
  | _ => exact ⟨σ', hst', hq⟩
 | .exit id, Q, σ, h => fun c a w hst => wp_exit ⟨σ, hst, h⟩
 | .ret, Q, σ, h => fun c a w hst => wp_ret ⟨σ, hst, h⟩
 | .loop b, Q, σ, h => h
 | .rangeFunc _ _ _ _, Q, σ, h => h
 | .scope _, Q, σ, h => h
 | .label _, Q, σ, h => fun c a w hst => wp_label ⟨σ, hst, h⟩
 | .goto _, Q, σ, h => fun c a w hst => wp_goto ⟨σ, hst, h⟩
 | .refuse _, Q, σ, h => h.elim
@[go_sem] theorem awpK_skip : awpK ks P Γ .skip Q σ = Q .normal σ := Eq.trans rfl rfl
@[go_sem] theorem awpK_region {id : Nat} {ops : List Oper} : awpK ks P Γ (.region id ops.toArray false) Q σ = regK (cutB ks id) P Γ id ops.toArray Q σ := by simp only [awpK, regK, Bool.false_eq_true, if_false]
@[go_sem] theorem awpK_draw {id : Nat} {ops : Array Oper} : awpK ks P Γ (.region id ops true) Q σ = sem P (.region id ops true) Q σ := by simp only [awpK, if_true]
@[go_sem] theorem regK_true {id : Nat} {ops : Array Oper} : regK true P Γ id ops Q σ = sem P (.region id ops false) Q σ := Eq.trans rfl rfl
@[go_sem] theorem regK_false {id : Nat} {ops : List Oper} : regK false P Γ id ops.toArray Q σ = awpOps P Γ ops.toArray Q ops σ := Eq.trans rfl rfl
@[go_sem] theorem cutB_nil {i : Nat} : cutB [] i = false := Eq.trans rfl rfl
@[go_sem] theorem cutB_same {i : Nat} : cutB (i :: ks) i = true := by simp [cutB]
@[go_sem] theorem cutB_other {i k : Nat} (h : i ≠ k) : cutB (k :: ks) i = cutB ks i := by simp [cutB, h]
@[go_sem] theorem awpK_seq {a b : Code} : awpK ks P Γ (.seq a b) Q σ = awpK ks P Γ a (andThenK ks P Γ b Q) σ := Eq.trans rfl rfl
@[go_sem] theorem awpK_cond {x : Operand} {a b : Code} : awpK ks P Γ (.cond x a b) Q σ = condK ks P Γ (ev σ.slots x) a b Q σ := Eq.trans rfl rfl
@[go_sem] theorem condK_true {a b : Code} : condK ks P Γ (.dat (.bool true)) a b Q σ = awpK ks P Γ a Q σ := by simp [condK, condw]
@[go_sem] theorem condK_false {a b : Code} : condK ks P Γ (.dat (.bool false)) a b Q σ = awpK ks P Γ b Q σ := by simp [condK, condw]
@[go_sem] theorem awpK_block {id : Nat} {b : Code} : awpK ks P Γ (.block id b) Q σ = awpK ks P Γ b (inBlk id Q) σ := Eq.trans rfl rfl
@[go_sem] theorem awpK_exit {id : Nat} : awpK ks P Γ (.exit id) Q σ = Q (.exit id) σ := Eq.trans rfl rfl
@[go_sem] theorem awpK_ret : awpK ks P Γ .ret Q σ = Q .ret σ := Eq.trans rfl rfl
@[go_sem] theorem awpK_loop {b : Code} : awpK ks P Γ (.loop b) Q σ = sem P (.loop b) Q σ := Eq.trans rfl rfl
@[go_sem] theorem andThenK_normal {b : Code} {s : S} : andThenK ks P Γ b Q .normal s = awpK ks P Γ b Q s := Eq.trans rfl rfl
@[go_sem] theorem andThenK_exit {b : Code} {s : S} {i : Nat} : andThenK ks P Γ b Q (.exit i) s = Q (.exit i) s := Eq.trans rfl rfl
@[go_sem] theorem andThenK_ret {b : Code} {s : S} : andThenK ks P Γ b Q .ret s = Q .ret s := Eq.trans rfl rfl
end
end Go.AM
namespace Go.AM
open Go
section
variable {P : Program} {t : TypeId} {K : AV -> Prop}
@[go_sem] theorem bin_eqlB {a b : Bool} : binTop P .eql t (.dat (.bool a)) (.dat (.bool b)) K = (eqTy (tyOf P t) (.dat (.bool a)) = true /\ K (.dat (.bool (a == b)))) := rfl
@[go_sem] theorem bin_neqB {a b : Bool} : binTop P .neq t (.dat (.bool a)) (.dat (.bool b)) K = (eqTy (tyOf P t) (.dat (.bool a)) = true /\ K (.dat (.bool (!(a == b))))) := rfl
@[go_sem] theorem bin_eqlS {a b : List UInt8} : binTop P .eql t (.dat (.str a)) (.dat (.str b)) K = K (.dat (.bool (decide (a = b)))) := by simp [binTop, eqOk, eqTy, binw]
@[go_sem] theorem bin_neqS {a b : List UInt8} : binTop P .neq t (.dat (.str a)) (.dat (.str b)) K = K (.dat (.bool (!decide (a = b)))) := by simp [binTop, eqOk, eqTy, binw]
@[go_sem] theorem bin_addS {a b : List UInt8} : binTop P .add t (.dat (.str a)) (.dat (.str b)) K = (a.length + b.length <= maxLen /\ K (.dat (.str (a ++ b)))) := by simp [binTop, eqOk, eqTy, binw]
@[go_sem] theorem eqTy_boolD {τ : Ty} {a : Bool} : eqTy (some τ) (.dat (.bool a)) = (match τ.desc with | .bool => true | _ => false) := rfl
@[go_sem] theorem beq_tt : (true == true) = true := rfl
@[go_sem] theorem beq_ff : (false == false) = true := rfl
@[go_sem] theorem beq_tf : (true == false) = false := rfl
@[go_sem] theorem beq_ft : (false == true) = false := rfl
end
end Go.AM
namespace Go.AM
open Go
def isApp (o : Oper) : Bool :=
 match o.op, o.guard with
 | .call c, none => (match c.callee with | .builtin .append => true | _ => false)
 | _, _ => false
def isLit (o : Oper) : Bool :=
 match o.op, o.guard with
 | .buildSlice _ _ _, none => true
 | _, _ => false
def isQ (o : Oper) : Bool :=
 match o.op, o.guard with
 | .move _, none | .assign _, none | .load _ _, none | .fieldAddr _ _ _, none | .indexAddr _ _ _, none | .nilCheck _, none => true
 | _, _ => false
def condA (ko : Nat) (o : Oper) (s : List AV) : Prop :=
 match o.op with
 | .call c => (match c.args.toList with | [x, _] => (match ev s x with | .sl o' _ _ => o' = ko | _ => False) | _ => False)
 | .load _ x => (match ev s x with | .ptr o' _ _ => o' ≠ ko | .rptr _ _ => True | _ => False)
 | .fieldAddr _ x _ => (match ev s x with | .ptr o' _ _ => o' ≠ ko | .rptr _ _ => True | _ => False)
 | .indexAddr _ x i => (match ev s x with | .ptr o' _ _ => o' ≠ ko | .sl o' _ _ => o' ≠ ko | .dat _ => True | _ => False) /\ (match ev s i with | .dat _ => True | _ => False)
 | .move _ => True
 | .assign _ => True
 | .nilCheck x => (match ev s x with | .ptr o' _ _ => o' ≠ ko | .rptr _ _ => True | _ => False)
 | _ => False
section
variable {P : Program} {Γ : Nat -> Contract} {own : List Obj} {ko : Nat}
def opk (P : Program) (Γ : Nat -> Contract) (all : Array Oper) (ko : Nat) (m : Bool) (o : Oper) (K : S -> Prop) (σ : S) : Prop := (m = true -> condA ko o σ.slots) /\ opg P Γ all o K σ
theorem kills_eq (o : Nat) : ∀ s : List AV, AV.kills o s = s.map (AV.kill o)
 | [] => rfl
 | a :: s => by simp only [AV.kills, List.map_cons, kills_eq o s]
theorem kills_getD (o : Nat) (s : List AV) (i : Nat) : (AV.kills o s).getD i .top = (s.getD i .top).kill o := by
 rw [kills_eq]
 simp only [List.getD_eq_getElem?_getD, List.getElem?_map]
 cases s[i]? <;> rfl
theorem kills_put (o : Nat) (s : List AV) (i : Nat) (v : AV) : AV.kills o (s.set i v) = (AV.kills o s).set i (v.kill o) := by
 rw [kills_eq, kills_eq, List.map_set]
theorem constAV0_kill (o : Nat) (v : Value) : (constAV0 v).kill o = constAV0 v := by
 unfold constAV0; split <;> first | rfl | (split <;> rfl)
theorem constAV_kill (o : Nat) (v : Value) : (constAV v).kill o = constAV v := by
 unfold constAV
 split
 ·split
  ·simp only [AV.kill, kills_eq, List.map_map]
   congr 1
   exact List.map_congr_left fun x _ => constAV0_kill o x
  ·rfl
 ·exact constAV0_kill o _
theorem ev_kills (o : Nat) (s : List AV) (x : Operand) : ev (AV.kills o s) x = (ev s x).kill o := by
 cases x with
 | tmp t => exact kills_getD o s t
 | const v => exact (constAV_kill o v).symm
 | func f => rfl
 | global g => simp only [ev, globAV]; split <;> rfl
theorem getD_killset {o' : Nat} {obj' : Obj} (h : o' ≠ ko) : ((own.map (Obj.kill ko)).set ko obj').getD o' .dead = (own.getD o' .dead).kill ko := by
 have h' : ¬ ko = o' := fun e => h e.symm
 simp only [List.getD_eq_getElem?_getD, List.getElem?_set, h', if_false, List.getElem?_map]
 cases own[o']? <;> rfl
theorem loadObj_kill {τ : Ty} {obj : Obj} {i j : Nat} {k : AV -> Prop} (h : loadObj τ obj i j k) : loadObj τ (obj.kill ko) i j (fun v' => ∃ v, v' = v.kill ko /\ k v) := by
 unfold loadObj at h
 split at h
 ·unfold loadObj
  simp only [Obj.kill]
  split at h
  ·rename_i ha; rw [if_pos ha]; exact ⟨h.1, h.2.1, h.2.2.1, _, rfl, h.2.2.2⟩
  ·rename_i ha; rw [if_neg ha]; exact ⟨h.1, h.2.1, _, rfl, h.2.2⟩
 ·unfold loadObj
  simp only [Obj.kill]
  exact ⟨h.1, h.2.1, _, rfl, h.2.2⟩
 ·unfold loadObj
  simp only [Obj.kill]
  refine ⟨h.1, h.2.1, by rw [kills_eq, List.length_map]; exact h.2.2.1, _, ?_, h.2.2.2⟩
  exact kills_getD _ _ _
 ·unfold loadObj
  simp only [Obj.kill]
  split at h
  ·rename_i ha; rw [if_pos ha]
   refine ⟨by rw [kills_eq, List.length_map]; exact h.1, _, ?_, h.2⟩
   simp only [AV.kill, kills_eq, List.map_drop, List.map_take]
  ·rename_i ha; rw [if_neg ha]
   refine ⟨by rw [kills_eq, List.length_map]; exact h.1, _, ?_, h.2⟩
   exact kills_getD _ _ _
 ·unfold loadObj
  simp only [Obj.kill]
  refine ⟨h.1, ?_⟩
  obtain ⟨_, h⟩ := h
  split at h
  ·rename_i ha; rw [if_pos ha]
   refine ⟨by rw [kills_eq, List.length_map]; exact h.1, _, ?_, h.2⟩
   simp only [AV.kill, kills_eq, List.map_drop, List.map_take]
  ·rename_i ha; rw [if_neg ha]
   refine ⟨by rw [kills_eq, List.length_map]; exact h.1, _, ?_, h.2⟩
   exact kills_getD _ _ _
 ·exact h.elim
theorem vop_kill {o : Oper} (hq : isQ o = true) {s : List AV} {obj' : Obj} {k : AV -> Prop} (hc : condA ko o s) (h : vop P own s o.op k) :
  vop P ((own.map (Obj.kill ko)).set ko obj') (AV.kills ko s) o.op (fun v' => ∃ v, v' = v.kill ko /\ k v) := by
 unfold isQ at hq
 unfold condA at hc
 split at hq
 ·rename_i x hop _
  rw [hop] at h ⊢
  simp only [vop] at h ⊢
  exact ⟨_, ev_kills _ _ _, h⟩
 ·rename_i x hop _
  rw [hop] at h ⊢
  simp only [vop] at h ⊢
  exact ⟨_, ev_kills _ _ _, h⟩
 ·rename_i t x hop _
  rw [hop] at h hc ⊢
  simp only [vop] at h hc ⊢
  rw [ev_kills]
  cases hx : ev s x <;> rw [hx] at hc h <;> simp only at hc
  ·rename_i o' i j
   simp only [AV.kill, hc, if_false]
   unfold loadw at h ⊢
   split at h
   ·rename_i τ o2 i2 j2 hτ hp
    cases hp
    rw [getD_killset hc]
    exact loadObj_kill h
   ·rename_i hp; cases hp
   ·exact h.elim
  ·simp only [AV.kill]
   unfold loadw at h ⊢
   split at h
   ·rename_i hp; cases hp
   ·rename_i hp; cases hp
    exact ⟨h.1, _, rfl, h.2⟩
   ·exact h.elim
 ·rename_i t x f hop _
  rw [hop] at h hc ⊢
  simp only [vop] at h hc ⊢
  rw [ev_kills]
  cases hx : ev s x <;> rw [hx] at hc h <;> simp only at hc
  ·rename_i o' i j
   simp only [AV.kill, hc, if_false]
   unfold fieldAddrw at h ⊢
   split at h
   ·rename_i hf hp
    cases hp
    exact ⟨_, by simp only [AV.kill, hc, if_false], h⟩
   ·rename_i hp; cases hp
   ·exact h.elim
  ·simp only [AV.kill]
   unfold fieldAddrw at h ⊢
   split at h
   ·rename_i hp; cases hp
   ·rename_i hf hp
    cases hp
    exact ⟨h.1, _, rfl, h.2⟩
   ·exact h.elim
 ·rename_i t x i hop _
  rw [hop] at h hc ⊢
  simp only [vop] at h hc ⊢
  rw [ev_kills, ev_kills]
  obtain ⟨hc, hi⟩ := hc
  cases hy : ev s i <;> rw [hy] at hi <;> simp only at hi
  rename_i di
  rw [hy] at h
  simp only [AV.kill]
  cases hx : ev s x <;> rw [hx] at hc h <;> simp only at hc
  ·simp only [AV.kill]
   unfold idxAddrw at h ⊢
   split at h
   ·rename_i hp _; cases hp
   ·rename_i τ ag xs k' n hτ hp hn
    cases hp; cases hn
    simp only at h ⊢
    split at h
    ·split at h
     ·exact ⟨h.1, h.2.1, h.2.2.1, _, rfl, h.2.2.2⟩
     ·exact h.elim
    ·exact h.elim
   ·rename_i hp _; cases hp
   ·rename_i hp _; cases hp
   ·exact h.elim
  ·rename_i o' off len
   simp only [AV.kill, hc, if_false]
   unfold idxAddrw at h ⊢
   split at h
   ·rename_i τ o2 off2 len2 k' n hτ hp hn
    cases hp; cases hn
    simp only at h ⊢
    split at h
    ·split at h
     ·obtain ⟨h1, h2, h3, h4⟩ := h
      refine ⟨h1, h2, ?_, _, ?_, h4⟩
      ·rw [getD_killset hc]
       rcases h3 with ⟨ag, xs, e1, e2⟩ | ⟨cs, e1, e2⟩ | ⟨k9, cs, e1, e2⟩
       ·exact .inl ⟨ag, xs, by rw [e1]; rfl, e2⟩
       ·exact .inr (.inl ⟨AV.kills ko cs, by rw [e1]; rfl, e2⟩)
       ·exact .inr (.inr ⟨k9, AV.kills ko cs, by rw [e1]; rfl, e2⟩)
      ·simp only [AV.kill, hc, if_false]
     ·exact h.elim
    ·exact h.elim
   ·rename_i hp _; cases hp
   ·rename_i hp _; cases hp
   ·rename_i hp _; cases hp
   ·exact h.elim
  ·rename_i o' i0 j0
   simp only [AV.kill, hc, if_false]
   unfold idxAddrw at h ⊢
   split at h
   ·rename_i hp _; cases hp
   ·rename_i hp _; cases hp
   ·rename_i τ o2 off2 len2 k' n hτ hp hn
    cases hp; cases hn
    simp only at h ⊢
    split at h
    ·split at h
     ·obtain ⟨h1, h2, h3⟩ := h
      refine ⟨h1, h2, ?_⟩
      rw [getD_killset hc]
      split at h3
      ·rename_i e1; rw [e1]; simp only [Obj.kill]
       exact ⟨h3.1, h3.2.1, h3.2.2.1, _, by simp only [AV.kill, hc, if_false], h3.2.2.2⟩
      ·rename_i e1; rw [e1]; simp only [Obj.kill]
       exact ⟨_, by simp only [AV.kill, hc, if_false], h3⟩
      ·rename_i e1; rw [e1]; simp only [Obj.kill]
       exact ⟨_, by simp only [AV.kill, hc, if_false], h3⟩
      ·exact h3.elim
     ·exact h.elim
    ·exact h.elim
   ·rename_i hp _; cases hp
   ·exact h.elim
 ·rename_i x hop _
  rw [hop] at h hc ⊢
  simp only [vop] at h hc ⊢
  rw [ev_kills]
  cases hx : ev s x <;> rw [hx] at hc h <;> simp only at hc
  ·simp only [AV.kill, hc, if_false]
   simp only [nilw] at h ⊢
   exact ⟨_, by simp only [AV.kill, hc, if_false], h⟩
  ·simp only [AV.kill]
   simp only [nilw] at h ⊢
   exact ⟨_, rfl, h⟩
 ·cases hq
theorem condA_kills {o : Oper} (hq : isQ o = true) {s : List AV} (hc : condA ko o s) : condA ko o (AV.kills ko s) := by
 unfold isQ at hq
 unfold condA at hc ⊢
 split at hq
 ·rename_i x hop _; rw [hop]; trivial
 ·rename_i x hop _; rw [hop]; trivial
 ·rename_i t x hop _
  rw [hop] at hc ⊢
  simp only at hc ⊢
  rw [ev_kills]
  cases hx : ev s x <;> rw [hx] at hc <;> simp only at hc
  ·simp only [AV.kill, hc, if_false]; exact hc
  ·trivial
 ·rename_i t x f hop _
  rw [hop] at hc ⊢
  simp only at hc ⊢
  rw [ev_kills]
  cases hx : ev s x <;> rw [hx] at hc <;> simp only at hc
  ·simp only [AV.kill, hc, if_false]; exact hc
  ·trivial
 ·rename_i t x i hop _
  rw [hop] at hc ⊢
  simp only at hc ⊢
  rw [ev_kills, ev_kills]
  obtain ⟨hc, hi⟩ := hc
  refine ⟨?_, ?_⟩
  ·cases hx : ev s x <;> rw [hx] at hc <;> simp only at hc
   ·trivial
   ·simp only [AV.kill, hc, if_false]; exact hc
   ·simp only [AV.kill, hc, if_false]; exact hc
  ·cases hy : ev s i <;> rw [hy] at hi <;> simp only at hi
   trivial
 ·rename_i x hop _
  rw [hop] at hc ⊢
  simp only at hc ⊢
  rw [ev_kills]
  cases hx : ev s x <;> rw [hx] at hc <;> simp only at hc
  ·simp only [AV.kill, hc, if_false]; exact hc
  ·trivial
 ·cases hq
theorem appendw_det {τ : Option Ty} {off len : Nat} {y : AV} {K : AV -> List Obj -> List Nat -> Prop} (h : appendw P τ own (.sl ko off len) y K) :
  ∃ v obj', K v ((own.map (Obj.kill ko)).set ko obj') [ko] /\ ∀ K' : AV -> List Obj -> List Nat -> Prop, K' v ((own.map (Obj.kill ko)).set ko obj') [ko] -> appendw P τ own (.sl ko off len) y K' := by
 unfold appendw at h ⊢
 simp only at h ⊢
 split at h
 ·unfold appendVw at h ⊢
  split at h
  ·split at h
   ·split at h
    ·obtain ⟨h1, h2, h3, h4, h5, h6⟩ := h
     rename_i cs hobj _ _ _ _ _ _ _ _ _ _
     exact ⟨_, _, h6, fun K' hK' => ⟨h1, h2, h3, h4, h5, hK'⟩⟩
    ·exact h.elim
   ·exact h.elim
  ·exact h.elim
 ·unfold appendTw at h ⊢
  split at h
  ·split at h
   ·split at h
    ·obtain ⟨h1, h2, h3, h4, h5, h6, h7, h8⟩ := h
     exact ⟨_, _, h8, fun K' hK' => ⟨h1, h2, h3, h4, h5, h6, h7, hK'⟩⟩
    ·exact h.elim
   ·exact h.elim
  ·exact h.elim
 ·unfold appendRw at h ⊢
  split at h
  ·split at h
   ·split at h
    ·obtain ⟨h1, h2, h3, h4, h5⟩ := h
     simp only at h5
     split at h5
     ·rename_i ag xs hobj
      obtain ⟨g1, g2, g3, g4, g5⟩ := h5
      exact ⟨_, _, g5, fun K' hK' => ⟨h1, h2, h3, h4, by simp only [hobj]; exact ⟨g1, g2, g3, g4, hK'⟩⟩⟩
     ·exact h5.elim
    ·exact h.elim
   ·exact h.elim
  ·exact h.elim
theorem app_det {o : Oper} (hm : isApp o = true) {K : S -> Prop} {σ : S} {all : Array Oper} (hc : condA ko o σ.slots) (h : opg P Γ all o K σ) :
  ∃ v obj', K (σ.effect o.dst v ((σ.own.map (Obj.kill ko)).set ko obj') [ko]) /\
   ∀ (K' : S -> Prop) (σ' : S), σ'.own = σ.own -> (∀ x ∈ o.op.operands.toList, ev σ'.slots x = ev σ.slots x) -> K' (σ'.effect o.dst v ((σ.own.map (Obj.kill ko)).set ko obj') [ko]) -> opg P Γ all o K' σ' := by
 unfold isApp at hm
 split at hm
 ·rename_i c hop hg
  split at hm
  ·rename_i hcal
   unfold condA at hc
   rw [hop] at hc
   simp only at hc
   split at hc
   ·rename_i x y hargs
    have e : ∀ (K : S -> Prop) (σ : S), opg P Γ all o K σ = (match c.argTypes.toList with | [t, t'] => t = t' /\ appendw P (tyOf P t) σ.own (ev σ.slots x) (ev σ.slots y) (PutE o.dst K σ) | _ => False) := fun K σ => by
     unfold opg
     rw [hg]
     simp only
     unfold opw
     rw [hop]
     simp only [isV, hcal, eop, Bool.false_eq_true, if_false, ecall, hargs]
     split <;> simp_all
    rw [e] at h
    split at h
    ·rename_i t t' hts
     obtain ⟨ht, h⟩ := h
     split at hc
     ·rename_i o' off len hx
      subst hc
      rw [hx] at h
      obtain ⟨v, obj', h1, h2⟩ := appendw_det h
      refine ⟨v, obj', h1, fun K' σ' ho hxs hK' => ?_⟩
      have mem : ∀ z ∈ c.args.toList, z ∈ o.op.operands.toList := fun z hz => by
       rw [hop]
       simp [Op.operands, Call.operands, hcal, hz]
      rw [e, hts]
      simp only
      refine ⟨ht, ?_⟩
      rw [ho, hxs x (mem x (by rw [hargs]; simp)), hxs y (mem y (by rw [hargs]; simp)), hx]
      exact h2 _ hK'
     ·exact hc.elim
    ·exact h.elim
   ·exact hc.elim
  ·cases hm
 ·cases hm
theorem lit_det {o : Oper} (hm : isLit o = true) {K : S -> Prop} {σ : S} {all : Array Oper} (h : opg P Γ all o K σ) :
  ∃ v ex, K (σ.effect o.dst v (σ.own ++ ex) []) /\ Eff P Γ all o σ v (σ.own ++ ex) := by
 unfold isLit at hm
 split at hm
 ·rename_i t len parts hop hg
  have e : ∀ (K : S -> Prop) (σ : S), opg P Γ all o K σ = buildSlicew P (tyOf P t) σ.own len (parts.toList.map fun p => (p.1, ev σ.slots p.2)) (PutE o.dst K σ) := fun K σ => by
   unfold opg
   rw [hg]
   simp only
   unfold opw
   simp only [hop, isV, Bool.false_eq_true, if_false, eop]
  rw [e] at h
  have key : ∃ v obj, PutE o.dst K σ v (σ.own ++ [obj]) [] /\ ∀ K' : AV -> List Obj -> List Nat -> Prop, K' v (σ.own ++ [obj]) [] -> buildSlicew P (tyOf P t) σ.own len (parts.toList.map fun p => (p.1, ev σ.slots p.2)) K' := by
   unfold buildSlicew at h ⊢
   split at h
   ·split at h
    ·split at h
     ·obtain ⟨h1, h2, h3, h4, h5, h6, h7⟩ := h
      exact ⟨_, _, h7, fun K' hK' => ⟨h1, h2, h3, h4, h5, h6, hK'⟩⟩
     ·split at h
      ·obtain ⟨h1, h2, h3, h4, h5⟩ := h
       exact ⟨_, _, h5, fun K' hK' => ⟨h1, h2, h3, h4, hK'⟩⟩
      ·split at h
       ·obtain ⟨h1, h2, h3, h4, h5, h6⟩ := h
        exact ⟨_, _, h6, fun K' hK' => ⟨h1, h2, h3, h4, h5, hK'⟩⟩
       ·exact h.elim
     ·exact h.elim
    ·exact h.elim
   ·exact h.elim
  obtain ⟨v, obj, h1, h2⟩ := key
  refine ⟨v, [obj], h1, fun K' σ' ho hxs hK' => ?_⟩
  have ea : (parts.toList.map fun p => (p.1, ev σ'.slots p.2)) = parts.toList.map fun p => (p.1, ev σ.slots p.2) := by
   refine List.map_congr_left fun p hp => ?_
   rw [hxs p.2 (by rw [hop]; simp only [Op.operands]; simp only [Array.toList_map, List.mem_map]; exact ⟨p, hp, rfl⟩)]
  rw [e, ea, ho]
  exact h2 _ hK'
 ·cases hm
theorem condA_congr {o : Oper} {s s' : List AV} (h : ∀ x ∈ o.op.operands.toList, ev s' x = ev s x) (hc : condA ko o s) : condA ko o s' := by
 unfold condA at hc ⊢
 split
 ·rename_i c hop
  rw [hop] at hc h
  simp only at hc
  split at hc
  ·rename_i x y hargs
   rw [h x (by simp [Op.operands, Call.operands, hargs])]
   exact hc
  ·exact hc.elim
 ·rename_i t x hop
  rw [hop] at hc h
  simp only at hc
  rw [h x (by simp [Op.operands])]
  exact hc
 ·rename_i t x f hop
  rw [hop] at hc h
  simp only at hc
  rw [h x (by simp [Op.operands])]
  exact hc
 ·rename_i t x i hop
  rw [hop] at hc h
  simp only at hc
  rw [h x (by simp [Op.operands]), h i (by simp [Op.operands])]
  exact hc
 ·trivial
 ·trivial
 ·rename_i x hop
  rw [hop] at hc h
  simp only at hc
  rw [h x (by simp [Op.operands])]
  exact hc
 ·rename_i h1 h2 h3 h4 h5 h6 h7
  split at hc
  ·rename_i hop; exact (h1 _ hop).elim
  ·rename_i hop; exact (h2 _ _ hop).elim
  ·rename_i hop; exact (h3 _ _ _ hop).elim
  ·rename_i hop; exact (h4 _ _ _ hop).elim
  ·rename_i hop; exact (h5 _ hop).elim
  ·rename_i hop; exact (h6 _ hop).elim
  ·rename_i hop; exact (h7 _ hop).elim
  ·exact hc
theorem swap_vvk {pf : List Nat} (hpf : PureFns Γ pf) {all : Array Oper} {p i : Oper} (hp : vlike pf p = true) (hi : vlike pf i = true) (hap : p.apart all i = true) {mp mi : Bool} {K : S -> Prop} {σ : S}
  (h : opk P Γ all ko mp p (opk P Γ all ko mi i K) σ) : opk P Γ all ko mi i (opk P Γ all ko mp p K) σ := by
 obtain ⟨h1, h2, h3⟩ := Oper.apart_spec hap
 obtain ⟨cp, h⟩ := h
 rw [opg_vG hpf hp] at h
 obtain ⟨vp, ⟨ci, hk⟩, hyp⟩ := vG_det pf all p σ.slots σ.own _ h
 rw [opg_vG hpf hi, vG_put h1] at hk
 obtain ⟨vi, hk2, hyi⟩ := vG_det pf all i σ.slots σ.own _ hk
 have sameOps : ∀ (a b : Oper) (v : AV), (∀ d, a.dst = some d -> d ∉ b.looksAt all) -> ∀ x ∈ b.op.operands.toList, ev (σ.put a.dst v).slots x = ev σ.slots x := fun a b v hab x hx => by
  cases hd : a.dst with
  | none => rfl
  | some d =>
   simp only [S.put]
   rw [ev_set (fun e => hab d hd (looks_op (e ▸ hx)))]
 refine ⟨fun hm => condA_congr (fun x hx => (sameOps p i vp h1 x hx).symm) (ci hm), ?_⟩
 rw [opg_vG hpf hi]
 refine hyi _ ⟨fun hm => condA_congr (sameOps i p vi h3) (cp hm), ?_⟩
 rw [opg_vG hpf hp, vG_put h3]
 refine hyp _ ?_
 rw [← put_comm σ vp vi h2]
 exact hk2
theorem swap_vmk {pf : List Nat} (hpf : PureFns Γ pf) {all : Array Oper} {p i : Oper} (hp : isV p.op = true) (hap : p.apart all i = true) {mp mi : Bool} {K : S -> Prop} {σ : S}
  (hi : ∀ (K : S -> Prop) (σ' : S), opg P Γ all i K σ' -> ∃ v ex, K (σ'.effect i.dst v (σ'.own ++ ex) []) /\ Eff P Γ all i σ' v (σ'.own ++ ex))
  (h : opk P Γ all ko mp p (opk P Γ all ko mi i K) σ) : opk P Γ all ko mi i (opk P Γ all ko mp p K) σ := by
 obtain ⟨h1, h2, h3⟩ := Oper.apart_spec hap
 obtain ⟨cp, h⟩ := h
 have hpv : vlike pf p = true := by simp [vlike, hp]
 rw [opg_vG hpf hpv] at h
 obtain ⟨vp, ⟨ci, hk⟩, hyp⟩ := vG_det pf all p σ.slots σ.own _ h
 have hops : ∀ x ∈ i.op.operands.toList, ev σ.slots x = ev (σ.put p.dst vp).slots x := fun x hx => by
  cases hd : p.dst with
  | none => rfl
  | some d =>
   simp only [S.put]
   rw [ev_set (fun e => h1 d hd (looks_op (e ▸ hx)))]
 obtain ⟨vi, ex, hk2, hyi⟩ := hi _ _ hk
 rw [(put_own σ p.dst vp).1] at hk2 hyi
 refine ⟨fun hm => condA_congr hops (ci hm), hyi _ σ (put_own σ p.dst vp).1.symm hops ⟨fun hm => ?_, ?_⟩⟩
 ·refine condA_congr (fun x hx => ?_) (cp hm)
  unfold S.effect
  cases hd : i.dst with
  | none => rfl
  | some d =>
   simp only [S.put, killAll]
   rw [ev_set (fun e => h3 d hd (looks_op (e ▸ hx)))]
 ·rw [opg_vG hpf hpv]
  have e : ∀ k, vG P Γ pf all p (σ.effect i.dst vi (σ.own ++ ex) []).slots (σ.effect i.dst vi (σ.own ++ ex) []).own k = vG P Γ pf all p σ.slots (σ.own ++ ex) k := by
   intro k
   unfold S.effect
   exact vG_put (P := P) (Γ := Γ) (pf := pf) (all := all) (o := p) (o' := i) (σ := { slots := killAll [] σ.slots, own := σ.own ++ ex, n0 := σ.n0, mv := addMv σ.n0 σ.mv [] }) (u := vi) (k := k) h3
  rw [e]
  refine vG_mores hp ex _ (hyp _ ?_)
  have e2 : (σ.effect i.dst vi (σ.own ++ ex) []).put p.dst vp = (σ.put p.dst vp).effect i.dst vi (σ.own ++ ex) [] := by
   unfold S.effect
   have := put_comm { slots := killAll [] σ.slots, own := σ.own ++ ex, n0 := σ.n0, mv := addMv σ.n0 σ.mv [] } (x := p.dst) (y := i.dst) vp vi h2
   rw [← this]
   congr 1
   cases p.dst <;> rfl
  rw [e2]
  exact hk2
theorem swap_va {pf : List Nat} (hpf : PureFns Γ pf) {all : Array Oper} {p i : Oper} (hp : isV p.op = true) (hq : isQ p = true) (hia : isApp i = true) (hap : p.apart all i = true) {K : S -> Prop} {σ : S}
  (h : opk P Γ all ko true p (opk P Γ all ko true i K) σ) : opk P Γ all ko true i (opk P Γ all ko true p K) σ := by
 obtain ⟨h1, h2, h3⟩ := Oper.apart_spec hap
 obtain ⟨cp, h⟩ := h
 have cp := cp rfl
 have hpv : vlike pf p = true := by simp [vlike, hp]
 have hg : p.guard = none := by
  unfold isQ at hq
  split at hq <;> first | assumption | cases hq
 have eG : ∀ (s : List AV) (own : List Obj) (k : AV -> Prop), vG P Γ pf all p s own k = vop P own s p.op k := fun s own k => by
  unfold vG vB
  rw [hg]
  simp only [hp, if_true]
 rw [opg_vG hpf hpv, eG] at h
 obtain ⟨vp, ⟨ci, hk⟩, hyp⟩ := vop_det σ.slots p.op _ h
 have ci := ci rfl
 have hops : ∀ x ∈ i.op.operands.toList, ev σ.slots x = ev (σ.put p.dst vp).slots x := fun x hx => by
  cases hd : p.dst with
  | none => rfl
  | some d =>
   simp only [S.put]
   rw [ev_set (fun e => h1 d hd (looks_op (e ▸ hx)))]
 obtain ⟨vi, obj', hk2, hyi⟩ := app_det hia ci hk
 rw [(put_own σ p.dst vp).1] at hk2 hyi
 refine ⟨fun _ => condA_congr hops ci, hyi _ σ rfl hops ⟨fun _ => ?_, ?_⟩⟩
 ·refine condA_congr (s := AV.kills ko σ.slots) (fun x hx => ?_) (condA_kills hq cp)
  unfold S.effect
  cases hd : i.dst with
  | none => rfl
  | some d =>
   simp only [S.put, killAll]
   rw [ev_set (fun e => h3 d hd (looks_op (e ▸ hx)))]
 ·rw [opg_vG hpf hpv]
  have e : ∀ k, vG P Γ pf all p (σ.effect i.dst vi ((σ.own.map (Obj.kill ko)).set ko obj') [ko]).slots (σ.effect i.dst vi ((σ.own.map (Obj.kill ko)).set ko obj') [ko]).own k = vG P Γ pf all p (AV.kills ko σ.slots) ((σ.own.map (Obj.kill ko)).set ko obj') k := by
   intro k
   unfold S.effect
   exact vG_put (P := P) (Γ := Γ) (pf := pf) (all := all) (o := p) (o' := i) (σ := { slots := killAll [ko] σ.slots, own := (σ.own.map (Obj.kill ko)).set ko obj', n0 := σ.n0, mv := addMv σ.n0 σ.mv [ko] }) (u := vi) (k := k) h3
  rw [e, eG]
  have hv := vop_kill hq (obj' := obj') cp (hyp (fun v => v = vp) rfl)
  obtain ⟨v', ⟨v, rfl, hvv⟩, hy2⟩ := vop_det _ p.op _ hv
  subst hvv
  refine hy2 _ ?_
  have e2 : (σ.effect i.dst vi ((σ.own.map (Obj.kill ko)).set ko obj') [ko]).put p.dst (v.kill ko) = (σ.put p.dst v).effect i.dst vi ((σ.own.map (Obj.kill ko)).set ko obj') [ko] := by
   unfold S.effect
   have := put_comm { slots := killAll [ko] σ.slots, own := (σ.own.map (Obj.kill ko)).set ko obj', n0 := σ.n0, mv := addMv σ.n0 σ.mv [ko] } (x := p.dst) (y := i.dst) (v.kill ko) vi h2
   rw [← this]
   congr 1
   cases hd : p.dst with
   | none => rfl
   | some d => simp only [S.put, killAll, kills_put]
  rw [e2]
  exact hk2
end
end Go.AM
namespace Go.AM
open Go
inductive Waits (ops : Array Oper) : Nat -> Nat -> Prop
 | one {i p : Nat} : Region.waitsFor .any ops i p = true -> Waits ops i p
 | step {i q p : Nat} : Region.waitsFor .any ops i q = true -> Waits ops q p -> Waits ops i p
def depsOf (ops : Array Oper) (i : Nat) : List Nat := (List.range ops.size).filter fun p => Region.waitsFor .any ops i p
def ancT (ops : Array Oper) : Nat -> List (List Nat)
 | 0 => []
 | n + 1 => ancT ops n ++ [let T := ancT ops n; let D := depsOf ops n; (List.range ops.size).filter fun p => D.contains p || D.any fun q => (T.getD q []).contains p]
def ancF (ops : Array Oper) : Nat -> Nat -> List (List Nat) -> List (List Nat)
 | 0, _, T => T
 | k + 1, n, T => ancF ops k (n + 1) (T ++ [let D := depsOf ops n; (List.range ops.size).filter fun p => D.contains p || D.any fun q => (T.getD q []).contains p])
theorem ancF_eq (ops : Array Oper) : ∀ (k n : Nat), ancF ops k n (ancT ops n) = ancT ops (n + k)
 | 0, n => rfl
 | k + 1, n => by
  unfold ancF
  have := ancF_eq ops k (n + 1)
  rw [show n + (k + 1) = n + 1 + k by omega, ← this]
  rfl
theorem ancT_length (ops : Array Oper) : ∀ n, (ancT ops n).length = n
 | 0 => rfl
 | n + 1 => by simp [ancT, ancT_length ops n]
theorem depsOf_mem {ops : Array Oper} {i p : Nat} (h : p ∈ depsOf ops i) : Region.waitsFor .any ops i p = true := (List.mem_filter.1 h).2
theorem ancT_waits {ops : Array Oper} : ∀ (n i p : Nat), p ∈ (ancT ops n).getD i [] -> Waits ops i p
 | 0, i, p, h => by simp [ancT] at h
 | n + 1, i, p, h => by
  have hl := ancT_length ops n
  rcases Nat.lt_or_ge i n with hi | hi
  ·refine ancT_waits n i p ?_
   simp only [ancT, List.getD_eq_getElem?_getD] at h ⊢
   rwa [List.getElem?_append_left (by omega)] at h
  ·simp only [ancT, List.getD_eq_getElem?_getD] at h
   rw [List.getElem?_append_right (by omega), hl] at h
   cases hk : i - n with
   | succ k => rw [hk] at h; simp at h
   | zero =>
    have hin : i = n := by omega
    subst hin
    rw [hk] at h
    simp only [List.getElem?_cons_zero, Option.getD_some, List.mem_filter, Bool.or_eq_true, List.any_eq_true, List.contains_eq_mem, decide_eq_true_eq] at h
    rcases h.2 with h | ⟨q, h1, h2⟩
    ·exact .one (depsOf_mem h)
    ·refine .step (depsOf_mem h1) (ancT_waits i q p ?_)
     simpa [List.getD_eq_getElem?_getD] using h2
section
variable {P : Program} {Γ : Nat -> Contract} {own : List Obj} {ko : Nat}
def chainK (P : Program) (Γ : Nat -> Contract) (ops : Array Oper) (ko : Nat) (ms : List Nat) (Q : Exit -> S -> Prop) : List Nat -> S -> Prop
 | [], σ => Q .normal σ
 | i :: r, σ => match ops[i]? with | some o => opk P Γ ops ko (ms.contains i) o (chainK P Γ ops ko ms Q r) σ | none => False
def swapOkK (pf mf ms : List Nat) (ops : Array Oper) (p i : Nat) : Bool :=
 match ops[p]?, ops[i]? with
 | some op, some oi => op.apart ops oi && ((vlike pf op && vlike pf oi) || (isV op.op && (isMk mf oi || isLit oi)) || (isV op.op && isQ op && ms.contains p && isApp oi && ms.contains i))
 | _, _ => false
def pairsOkK (T : List (List Nat)) (pf mf ms : List Nat) (ops : Array Oper) : List Nat -> Bool
 | [] => true
 | p :: r => (r.all fun i => (T.getD i []).contains p || swapOkK pf mf ms ops p i) && pairsOkK T pf mf ms ops r
def drawOkK (pf mf ms : List Nat) (ops : Array Oper) (L : List Nat) : Bool := pairsOkK (ancF ops ops.size 0 []) pf mf ms ops L && backOk ops && edgesOk ops && allOf ops.size L && nodupB L
theorem bubbleK {pf mf ms : List Nat} (hpf : PureFns Γ pf) (hmf : MakeFns Γ mf) {ops : Array Oper} {Q : Exit -> S -> Prop} {i : Nat} {oi : Oper} (hi : ops[i]? = some oi) : ∀ (pre post : List Nat) (σ : S), (∀ p ∈ pre, swapOkK pf mf ms ops p i = true) -> chainK P Γ ops ko ms Q (pre ++ i :: post) σ ->
  opk P Γ ops ko (ms.contains i) oi (chainK P Γ ops ko ms Q (pre ++ post)) σ
 | [], post, σ, _, h => by
  simp only [List.nil_append, chainK, hi] at h ⊢
  exact h
 | p :: pre, post, σ, hs, h => by
  have e2 : ∀ (op : Oper) (l : List Nat), ops[p]? = some op -> chainK P Γ ops ko ms Q (p :: l) = opk P Γ ops ko (ms.contains p) op (chainK P Γ ops ko ms Q l) := fun op l hop => by funext σ; simp only [chainK, hop]
  simp only [List.cons_append] at h ⊢
  have hp := hs p (by simp)
  unfold swapOkK at hp
  rw [hi] at hp
  cases hop : ops[p]? with
  | none => simp only [chainK, hop] at h
  | some op =>
   rw [e2 op _ hop] at h ⊢
   simp only [hop, Bool.and_eq_true, Bool.or_eq_true] at hp
   obtain ⟨hap, hk⟩ := hp
   have hvp : vlike pf op = true := by
    rcases hk with (hk | hk) | hk
    ·exact hk.1
    ·simp [vlike, hk.1]
    ·simp [vlike, hk.1.1.1.1]
   have h' : opk P Γ ops ko (ms.contains p) op (opk P Γ ops ko (ms.contains i) oi (chainK P Γ ops ko ms Q (pre ++ post))) σ :=
    ⟨h.1, chain_mono hpf hvp (fun σ' hσ' => bubbleK hpf hmf hi pre post σ' (fun q hq => hs q (by simp [hq])) hσ') h.2⟩
   rcases hk with (hk | hk) | hk
   ·exact swap_vvk hpf hk.1 hk.2 hap h'
   ·refine swap_vmk hpf hk.1 hap (fun K σ' hh => ?_) h'
    rcases hk.2 with hk2 | hk2
    ·exact mk_det hmf hk2 hh
    ·exact lit_det hk2 hh
   ·have hmp := hk.1.1.2
    have hmi := hk.2
    rw [hmp, hmi] at h'
    rw [hmp, hmi]
    exact swap_va hpf hk.1.1.1.1 hk.1.1.1.2 hk.1.2 hap h'
theorem pairs_frontK {T : List (List Nat)} {pf mf ms : List Nat} {ops : Array Oper} : ∀ {L : List Nat}, pairsOkK T pf mf ms ops L = true -> ∀ pre i post, L = pre ++ i :: post -> ∀ p ∈ pre, p ∈ T.getD i [] ∨ swapOkK pf mf ms ops p i = true
 | [], _, pre, i, post, e, p, hp => by cases pre <;> cases e
 | q :: r, h, pre, i, post, e, p, hp => by
  simp only [pairsOkK, Bool.and_eq_true] at h
  cases pre with
  | nil => cases hp
  | cons a pre =>
   simp only [List.cons_append, List.cons.injEq] at e
   obtain ⟨rfl, e⟩ := e
   rcases List.mem_cons.1 hp with rfl | hp
   ·have := List.all_eq_true.1 h.1 i (by rw [e]; simp)
    simpa using this
   ·exact pairs_frontK h.2 pre i post e p hp
theorem pairs_filterK {T : List (List Nat)} {pf mf ms : List Nat} {ops : Array Oper} (f : Nat -> Bool) : ∀ {L : List Nat}, pairsOkK T pf mf ms ops L = true -> pairsOkK T pf mf ms ops (L.filter f) = true
 | [], _ => rfl
 | q :: r, h => by
  simp only [pairsOkK, Bool.and_eq_true] at h
  simp only [List.filter_cons]
  split
  ·simp only [pairsOkK, Bool.and_eq_true]
   exact ⟨List.all_eq_true.2 fun i hi => List.all_eq_true.1 h.1 i (List.mem_filter.1 hi).1, pairs_filterK f h.2⟩
  ·exact pairs_filterK f h.2
def Closed (ops : Array Oper) (listed : Array Bool) : Prop := ∀ j p, Region.waitsFor .any ops j p = true -> listed.getD j false = true -> listed.getD p false = true
theorem waits_listed {ops : Array Oper} {listed : Array Bool} (hcl : Closed ops listed) : ∀ {i p : Nat}, Waits ops i p -> (∀ q, Region.waitsFor .any ops i q = true -> listed.getD q false = true) -> listed.getD p false = true := by
 intro i p h
 induction h with
 | one h => intro hr; exact hr _ h
 | step h1 h2 ih => intro hr; exact ih (fun r hr' => hcl _ r hr' (hr _ h1))
theorem wpAny_of_chainK {pf mf ms : List Nat} (hΓ : OkG P Γ) (hpf : PureFns Γ pf) (hmf : MakeFns Γ mf) {ops : Array Oper} {Q : Exit -> S -> Prop} {L : List Nat} (hok : drawOkK pf mf ms ops L = true) {c : Ctx} : ∀ (fuel : Nat) (listed : Array Bool) (σ : S) (a : Act) (w : World), listed.size = ops.size -> Closed ops listed ->
  (L.filter fun i => !listed.getD i true).length <= fuel -> St c σ a w -> chainK P Γ ops ko ms Q (L.filter fun i => !listed.getD i true) σ -> wpAny P .any ops (lift c Q) fuel listed a w := by
 simp only [drawOkK, Bool.and_eq_true] at hok
 obtain ⟨⟨⟨⟨hpairs, hback⟩, hedges⟩, hall⟩, hnd⟩ := hok
 have hnodup := nodup_of hnd
 simp only [allOf, Bool.and_eq_true, List.all_eq_true, List.mem_range, List.contains_eq_mem, decide_eq_true_eq] at hall
 obtain ⟨⟨hmem, hlen⟩, hlt⟩ := hall
 have ready : ∀ (listed : Array Bool), listed.size = ops.size -> Region.ready .any ops listed = [] -> (L.filter fun i => !listed.getD i true) = [] := by
  intro listed hsz hr
  rw [List.filter_eq_nil_iff]
  have key : ∀ i, i < ops.size -> listed.getD i true = true := by
   intro i
   induction i using Nat.strongRecOn with
   | _ i ih =>
    intro hlt'
    cases hx : listed.getD i true with
    | true => rfl
    | false =>
     exfalso
     have : i ∈ Region.ready .any ops listed := by
      refine mem_ready.2 ⟨hx, ops[i], Array.getElem?_eq_getElem hlt', fun e he hb => ?_⟩
      have hw : Region.waitsFor .any ops i e.on = true := by
       simp only [Region.waitsFor, Array.getElem?_eq_getElem hlt', Array.any_eq_true']
       exact ⟨e, he, by simp [hb]⟩
      have hon : e.on < ops.size := by
       have h1 := Array.all_eq_true'.1 hedges ops[i] (Array.getElem_mem hlt')
       have h2 := Array.all_eq_true'.1 h1 e he
       simpa [hb] using h2
      have hlt2 : e.on < i := by
       have h1 := List.all_eq_true.1 hback i (List.mem_range.2 hlt')
       have h2 := List.all_eq_true.1 h1 e.on (List.mem_range.2 hon)
       simpa [hw] using h2
      have h3 := ih e.on hlt2 hon
      have h4 : e.on < listed.size := by omega
      simp [h4] at h3 ⊢
      exact h3
     rw [hr] at this
     cases this
  intro i hi
  simp only [Bool.not_eq_true', Bool.not_eq_false]
  exact key i (hlt i hi)
 intro fuel
 induction fuel with
 | zero =>
  intro listed σ a w hsz hcl hf hst hch
  have h0 : (L.filter fun i => !listed.getD i true) = [] := List.eq_nil_of_length_eq_zero (by omega)
  rw [h0] at hch
  refine ⟨?_, ⟨σ, hst, hch⟩⟩
  rw [List.eq_nil_iff_forall_not_mem]
  intro i hi
  obtain ⟨g1, o, g2, _⟩ := mem_ready.1 hi
  have hi' : i < ops.size := (Array.getElem?_eq_some_iff.1 g2).1
  have : i ∈ (L.filter fun i => !listed.getD i true) := List.mem_filter.2 ⟨hmem i hi', by simp [g1]⟩
  rw [h0] at this
  cases this
 | succ fuel ih =>
  intro listed σ a w hsz hcl hf hst hch
  refine ⟨fun hr => ?_, fun i hi => ?_⟩
  ·rw [ready listed hsz hr] at hch
   exact ⟨σ, hst, hch⟩
  ·obtain ⟨g1, o, g2, g3⟩ := mem_ready.1 hi
   have hi' : i < ops.size := (Array.getElem?_eq_some_iff.1 g2).1
   obtain ⟨pre, post, e1, e2⟩ := filter_erase hnodup (hmem i hi') (f := fun i => !listed.getD i true) (by simp [g1])
   have hfr := pairs_frontK (pairs_filterK (fun i => !listed.getD i true) hpairs) pre i post e1
   rw [e1] at hch
   have hdirect : ∀ q, Region.waitsFor .any ops i q = true -> listed.getD q false = true := fun q h => by
    simp only [Region.waitsFor, g2, Array.any_eq_true', Bool.and_eq_true, beq_iff_eq] at h
    obtain ⟨e, he, hb, hon⟩ := h
    rw [← hon]; exact g3 e he hb
   have hcl' : Closed ops (listed.setIfInBounds i true) := fun j p hw hj => by
    have mono : ∀ q, listed.getD q false = true -> (listed.setIfInBounds i true).getD q false = true := fun q hq => by
     by_cases e : i = q
     ·subst e; simp [hsz, hi']
     ·simpa [Array.getElem?_setIfInBounds_ne e] using hq
    by_cases e : i = j
    ·subst e; exact mono p (hdirect p hw)
    ·have hj' : listed.getD j false = true := by simpa [Array.getElem?_setIfInBounds_ne e] using hj
     exact mono p (hcl j p hw hj')
   have hb := bubbleK hpf hmf g2 pre post σ (fun p hp => by
    rcases hfr p hp with h | h
    ·exfalso
     have hpm : p ∈ (L.filter fun i => !listed.getD i true) := by rw [e1]; simp [hp]
     have hun := (List.mem_filter.1 hpm).2
     have hw : Waits ops i p := ancT_waits ops.size i p (by
      have e := ancF_eq ops ops.size 0
      rw [Nat.zero_add] at e
      rw [← e]; exact h)
     have hl := waits_listed hcl hw hdirect
     have : listed.getD p true = false := by simpa using hun
     rw [getD_both this] at hl
     cases hl
    ·exact h) hch
   unfold wpOp
   simp only [g2]
   have hnext : (L.filter fun j => !(listed.setIfInBounds i true).getD j true) = pre ++ post := by
    rw [← e2]
    refine List.filter_congr fun j hj => ?_
    have hj' := hlt j hj
    by_cases e : i = j
    ·subst e
     simp [hsz, hi']
    ·have e' : ¬ (j = i) := fun h => e h.symm
     simp [Array.getElem?_setIfInBounds_ne e, e']
   have hlen' : (L.filter fun j => !(listed.setIfInBounds i true).getD j true).length <= fuel := by
    rw [hnext]
    rw [e1] at hf
    simp only [List.length_append, List.length_cons] at hf ⊢
    omega
   rcases opg_sound hΓ (Q := lift c Q) hst hb.2 with ⟨hw, hwp⟩ | ⟨hw, σ', hst', hK⟩
   ·rw [if_pos hw]
    refine .inl (Oper.wp_mono ?_ hwp)
    rintro a' w' ⟨σ', hst', hK⟩
    exact ih _ σ' a' w' (by simp [hsz]) hcl' hlen' hst' (by rw [hnext]; exact hK)
   ·rw [if_neg (by simp [hw])]
    exact ih _ σ' _ w (by simp [hsz]) hcl' hlen' hst' (by rw [hnext]; exact hK)
theorem sem_drawK {pf mf ms : List Nat} (hm : P.follows .mixedOrders = true) (hΓ : OkG P Γ) (hpf : PureFns Γ pf) (hmf : MakeFns Γ mf) {id : Nat} {ops : Array Oper} {Q : Exit -> S -> Prop} {σ : S} (L : List Nat) (hok : drawOkK pf mf ms ops L = true)
  (h : chainK P Γ ops ko ms Q L σ) : sem P (.region id ops true) Q σ := by
 intro c a w hst
 refine wp_region_any hm ?_
 have hst' : St c σ a { w with drawn := w.drawn + 1 } := by
  obtain ⟨hd, hn, F, φ, h2, h3, h4⟩ := hst
  refine ⟨hd, hn, F, φ, ⟨h2.sub, ⟨h2.ext.os, h2.ext.tape, h2.ext.output, h2.ext.size, h2.ext.same⟩, h2.keep, h2.rest, h2.orig, h2.frsh⟩, h3.drew, ?_⟩
  exact AV.Rs_mono (fun _ h => h) same_drew (fun _ _ h => h) _ _ h4
 have hf : (L.filter fun i => !(Array.replicate ops.size false).getD i true) = L := by
  rw [List.filter_eq_self]
  intro i hi
  simp only [drawOkK, Bool.and_eq_true, allOf, List.all_eq_true, decide_eq_true_eq] at hok
  have := hok.1.2.2 i hi
  simp [this]
 refine wpAny_of_chainK hΓ hpf hmf hok ops.size _ σ a _ (by simp) (fun j p _ hj => by simp only [Array.getD_eq_getD_getElem?, Array.getElem?_replicate] at hj; split at hj <;> cases hj) ?_ hst' (by rw [hf]; exact h)
 rw [hf]
 simp only [drawOkK, Bool.and_eq_true, allOf, decide_eq_true_eq] at hok
 omega
end
section
variable {P : Program} {Γ : Nat -> Contract} {all : Array Oper} {Q : Exit -> S -> Prop} {i ko : Nat} {r ms : List Nat} {s : List AV} {own : List Obj} {n : Nat} {m : List Nat} {dst : Option Tmp} {ty : TypeId} {pos : String} {af : Array Edge} {gd : Option (Nat × Bool)}
@[go_sem] theorem chainK_nil : chainK P Γ all ko ms Q [] ⟨s, own, n, m⟩ = Q .normal ⟨s, own, n, m⟩ := Eq.trans rfl rfl
@[go_sem] theorem chainK_go : chainK P Γ all ko ms Q (i :: r) ⟨s, own, n, m⟩ = (match all[i]? with | some o => ((ms.contains i = true -> condA ko o s) /\ opg P Γ all o (chainK P Γ all ko ms Q r) ⟨s, own, n, m⟩) | none => False) := Eq.trans rfl rfl
@[go_sem] theorem condA_call {c : Call} : condA ko ⟨dst, .call c, ty, pos, af, gd⟩ s = (match c.args.toList with | [x, _] => (match ev s x with | .sl o' _ _ => o' = ko | _ => False) | _ => False) := Eq.trans rfl rfl
@[go_sem] theorem condA_load {t : TypeId} {x : Operand} : condA ko ⟨dst, .load t x, ty, pos, af, gd⟩ s = (match ev s x with | .ptr o' _ _ => o' ≠ ko | .rptr _ _ => True | _ => False) := Eq.trans rfl rfl
@[go_sem] theorem condA_nilCheck {x : Operand} : condA ko ⟨dst, .nilCheck x, ty, pos, af, gd⟩ s = (match ev s x with | .ptr o' _ _ => o' ≠ ko | .rptr _ _ => True | _ => False) := Eq.trans rfl rfl
@[go_sem] theorem condA_fieldAddr {t : TypeId} {x : Operand} {f : Nat} : condA ko ⟨dst, .fieldAddr t x f, ty, pos, af, gd⟩ s = (match ev s x with | .ptr o' _ _ => o' ≠ ko | .rptr _ _ => True | _ => False) := Eq.trans rfl rfl
@[go_sem] theorem condA_indexAddr {t : TypeId} {x y : Operand} : condA ko ⟨dst, .indexAddr t x y, ty, pos, af, gd⟩ s = ((match ev s x with | .ptr o' _ _ => o' ≠ ko | .sl o' _ _ => o' ≠ ko | .dat _ => True | _ => False) /\ (match ev s y with | .dat _ => True | _ => False)) := Eq.trans rfl rfl
@[go_sem] theorem condA_move {x : Operand} : condA ko ⟨dst, .move x, ty, pos, af, gd⟩ s = True := Eq.trans rfl rfl
@[go_sem] theorem condA_assign {x : Operand} : condA ko ⟨dst, .assign x, ty, pos, af, gd⟩ s = True := Eq.trans rfl rfl
end
end Go.AM

