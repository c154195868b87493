/- Own work over the model of the kit. -/
import Derived.Test.YtenlakaideefbaaDoorD15
import Derived.Test.YtenlakaideefbaaDoorD16
import Derived.Test.YtenlakaideefbaaDoorD8
import Derived.Test.YtenlakaideefbaaDoorD14
import Derived.Test.YtenlakaideefbaaDoorD10
import Derived.Test.YtenlakaideefbaaDoorD13
set_option linter.unnecessarySimpa false
set_option linter.unusedSimpArgs false
set_option linter.unusedVariables false
set_option maxHeartbeats 4000000
set_option maxRecDepth 8000
namespace Go.AM
open Go Go.Proofs
abbrev LP := List Str × Bool
def mapPg (p : LP) : Int × LP := if (atS wAny p).1 then (-1, (atS wAny p).2) else numS (atS wAny p).2
def mapE (pg ct pr fl : Int) (fi : Bool × LP) : Ins × LP :=
 if fi.1 then (⟨1, pg, ct, (numS (numS fi.2).2).1, 0, (numS fi.2).1, pr, fl⟩, (numS (numS fi.2).2).2) else (⟨1, pg, ct, 0, 0, -1, pr, fl⟩, fi.2)
def mapS (p : LP) : Ins × LP :=
 let a := mapPg p
 let c := numS a.2
 let r := protS c.2
 let g := flg flagW 1 0 r.2.1
 mapE a.1 c.1 r.1 g.1 (atS wFile (g.2, r.2.2))
theorem nextS_len : ∀ p : LP, (nextS p).2.1.length <= p.1.length
 | ([], _) => Nat.le_refl _
 | (w :: ws, _) => Nat.le_succ _
theorem atS_len (w : Str) : ∀ p : LP, (atS w p).2.1.length <= p.1.length
 | ([], _) => Nat.le_refl _
 | (x :: r, f) => by
  by_cases e : x = w <;> simp [atS, e]
theorem numS_len (p : LP) : (numS p).2.1.length <= p.1.length := by
 unfold numS
 split <;> exact nextS_len p
theorem protS_len (p : LP) : (protS p).2.1.length <= p.1.length := by
 unfold protS
 split
 ·exact nextS_len p
 ·split <;> exact nextS_len p
theorem atS_flag (n : Str) (ws : List Str) (f : Bool) : atS n (ws, f) = (hitB n ws, (if hitB n ws then ws.tail else ws, f)) := by
 cases ws with
 | nil => rfl
 | cons h t =>
  unfold atS hitB
  by_cases e : h = n <;> simp [e]
def atG (w : Str) : LP -> AV × LP := fun p => (.dat (.bool (atS w p).1), (atS w p).2)
def numG : LP -> AV × LP := fun p => (.dat (.int .i64 (numS p).1), (numS p).2)
def protG : LP -> AV × LP := fun p => (.dat (.int .i64 (protS p).1), (protS p).2)
def flagsR (ds : List D) (v : AV) : Prop := ds = [] /\ v = .dat (.agg (flagW.map D.str))
abbrev fw (k : Nat) : Str := flagW.getD k []
abbrev tabMp : List (Nat × Contract) := [(58, lnC [.dat (.str wAny)] (atG wAny)), (58, lnC [.dat (.str wFile)] (atG wFile)), (58, lnC [.dat (.str (fw 0))] (atG (fw 0))), (58, lnC [.dat (.str (fw 1))] (atG (fw 1))), (58, lnC [.dat (.str (fw 2))] (atG (fw 2))), (58, lnC [.dat (.str (fw 3))] (atG (fw 3))),
 (38, lnC [] numG), (39, lnC [] protG), (59, dataC flagsR)]
theorem tabMp_ok : OkG Tryd.prog (tbl tabMp) := okG_cons (at_ok _) (okG_cons (at_ok _) (okG_cons (at_ok _) (okG_cons (at_ok _) (okG_cons (at_ok _) (okG_cons (at_ok _) (okG_cons lnumber_ok (okG_cons prot_ok (okG_cons flags_ok okG_nil))))))))
theorem flag_or (k : Nat) (bit fl : Int) (h : (k = 0 /\ bit = 1) ∨ (k = 1 /\ bit = 2) ∨ (k = 2 /\ bit = 4) ∨ (k = 3 /\ bit = 8)) (h0 : 0 <= fl) (h1 : fl < bit) : bitsV .or .i64 fl (shlV .i64 1 (k : Int)) = fl + bit := by
 obtain ⟨n, rfl⟩ : ∃ n : Nat, fl = n := ⟨fl.toNat, by omega⟩
 have key : ∀ m : Fin 4, ∀ n : Fin 8, (n : Nat) < 2 ^ (m : Nat) -> bitsV .or .i64 ((n : Nat) : Int) (shlV .i64 1 ((m : Nat) : Int)) = ((n : Nat) : Int) + 2 ^ (m : Nat) := by decide
 rcases h with ⟨rfl, rfl⟩ | ⟨rfl, rfl⟩ | ⟨rfl, rfl⟩ | ⟨rfl, rfl⟩
 ·exact key ⟨0, by decide⟩ ⟨n, by omega⟩ (by show n < 1; omega)
 ·exact key ⟨1, by decide⟩ ⟨n, by omega⟩ (by show n < 2; omega)
 ·exact key ⟨2, by decide⟩ ⟨n, by omega⟩ (by show n < 4; omega)
 ·exact key ⟨3, by decide⟩ ⟨n, by omega⟩ (by show n < 8; omega)
theorem mem_at {α : Type} {l : List α} {x : α} (k : Nat) (h : l[k]? = some x) : x ∈ l := List.mem_of_getElem? h
def lnR (g : LP -> AV × LP) (xs : List AV) (obs : List Obj) (v0 : AV) (obs' ex : List Obj) (mv0 : List Nat) : Prop := ∃ (ws : List Str) (f : Bool), xs = [.ptr 0 0 0] /\ obs = [lineB ws f] /\ ws.length <= 1000000 /\
 v0 = (g (ws, f)).1 /\ obs' = [lineB (g (ws, f)).2.1 (g (ws, f)).2.2] /\ ex = [] /\ mv0 = []
theorem mapping_ok : OkF Tryd.prog 37 (lentC (lnR fun p => (.dat (insD (mapS p).1), (mapS p).2))) := by
 refine okF_lent Tryd.func37 rfl (by decide) ?_
 rintro xs obs v0 obs' ex mv0 ⟨ws, f, rfl, rfl, hl, rfl, rfl, rfl, rfl⟩
 refine sem_of_awp (Γ := tbl tabMp) tabMp_ok _ _ _ ?_
 simp only [go_sem, Tryd.ntmps37]
 refine call_ln (atG wAny) (mem_at 0 rfl) rfl hl ?_
 have hA1 := atS_len wAny (ws, f)
 have hP : mapPg (ws, f) = if (atS wAny (ws, f)).1 then (-1, (atS wAny (ws, f)).2) else numS (atS wAny (ws, f)).2 := rfl
 simp only [atG]
 generalize atS wAny (ws, f) = A at *
 obtain ⟨b, ws1, f1⟩ := A
 simp only at hA1 hP
 unfold mapS
 simp only
 cases b
 case false =>
  simp only [go_sem, Bool.not_false]
  refine call_ln numG (mem_at 6 rfl) rfl (by omega) ?_
  have hB1 := numS_len (ws1, f1)
  rw [if_neg (by decide)] at hP
  simp only [numG]
  generalize numS (ws1, f1) = B at *
  obtain ⟨pg, ws2, f2⟩ := B
  simp only at hB1
  have hl2 : ws2.length <= 1000000 := by omega
  simp only [go_sem]
  rw [hP]
  simp only
  refine call_ln numG (mem_at 6 rfl) rfl (by omega) ?_
  simp only [numG]
  have hC1 := numS_len (ws2, f2)
  generalize numS (ws2, f2) = C at *
  obtain ⟨ct, ws3, f3⟩ := C
  simp only at hC1 ⊢
  simp only [go_sem]
  refine call_ln protG (mem_at 7 rfl) rfl (by omega) ?_
  have hD1 := protS_len (ws3, f3)
  simp only [protG]
  generalize protS (ws3, f3) = E at *
  obtain ⟨pr, ws4, f4⟩ := E
  simp only at hD1 ⊢
  simp only [go_sem]
  refine call_data flagsR (mem_at 8 rfl) [] _ rfl ⟨rfl, rfl⟩ (.inl rfl) ?_
  simp only [go_sem]
  have hgl := flg_len flagW 1 0 ws4
  generalize hG : flg flagW 1 0 ws4 = G at *
  refine sem_loop (fun p : Nat × Int × Int × List Str => ⟨slotsOf 43 [(0, .ptr 0 0 0), (2, .ptr 1 0 0), (3, .ptr 2 0 0), (19, .dat (.agg (flagW.map D.str))), (20, .dat (.int .i64 p.1))], [lineB p.2.2.2 f4, .box [.dat (.int .i64 0), .dat (.int .i64 0), .dat (.int .i64 0), .dat (.int .i64 0), .dat (.int .i64 0), .dat (.int .i64 0), .dat (.int .i64 0), .dat (.int .i64 0)], .box [.dat (.int .i64 1), .dat (.int .i64 pg), .dat (.int .i64 ct), .dat (.int .i64 0), .dat (.int .i64 0), .dat (.int .i64 (-1)), .dat (.int .i64 pr), .dat (.int .i64 p.2.2.1)]], 1, []⟩)
   (fun p => ((p.1 = 0 /\ p.2.1 = 1) ∨ (p.1 = 1 /\ p.2.1 = 2) ∨ (p.1 = 2 /\ p.2.1 = 4) ∨ (p.1 = 3 /\ p.2.1 = 8) ∨ (p.1 = 4 /\ p.2.1 = 16)) /\ 0 <= p.2.2.1 /\ p.2.2.1 < p.2.1 /\ p.2.2.2.length <= ws4.length /\ flg (flagW.drop p.1) p.2.1 p.2.2.1 p.2.2.2 = G) (fun p => 4 - p.1) (0, 1, 0, ws4) ⟨.inl ⟨rfl, rfl⟩, Int.le_refl _, by show (0 : Int) < 1; decide, Nat.le_refl _, hG⟩ ?_ ?_
  ·exact le_slots' (by simp only [go_sem, Int.natCast_zero])
  rintro ⟨k, bit, fl, w⟩ ⟨hkb, hf0, hf1, hwl, hI⟩
  simp only at hkb hf0 hf1 hwl hI ⊢
  refine sem_of_awp (Γ := tbl tabMp) tabMp_ok _ _ _ ?_
  by_cases hlt : k < 4
  ·have k1 : (k : Int) < 4 := by omega
   have k0 : (0 : Int) <= (k : Int) := by omega
   have hd : flagW.drop k = fw k :: flagW.drop (k + 1) := by
    rw [List.drop_eq_getElem_cons (show k < flagW.length from hlt), fw, List.getD_eq_getElem?_getD, List.getElem?_eq_getElem (show k < flagW.length from hlt)]; rfl
   have hn : ((flagW.map D.str).map AV.dat).getD k .top = .dat (.str (fw k)) := by
    rcases (by omega : k = 0 ∨ k = 1 ∨ k = 2 ∨ k = 3) with rfl | rfl | rfl | rfl <;> rfl
   have hmem : (58, lnC [.dat (.str (fw k))] (atG (fw k))) ∈ tabMp := by
    rcases (by omega : k = 0 ∨ k = 1 ∨ k = 2 ∨ k = 3) with rfl | rfl | rfl | rfl
    ·exact mem_at 2 rfl
    ·exact mem_at 3 rfl
    ·exact mem_at 4 rfl
    ·exact mem_at 5 rfl
   rw [hd, flg_step] at hI
   simp only [go_sem, k1, k0, hn, decide_true, Int.toNat_natCast]
   refine ⟨hlt, call_ln (atG (fw k)) hmem rfl (by omega) ?_⟩
   simp only [atG, atS_flag]
   have hor := flag_or k bit fl (by omega) hf0 hf1
   cases hh : hitB (fw k) w with
   | true =>
    rw [hh, if_pos rfl] at hI
    have hwl' : w.tail.length <= ws4.length := by rw [List.length_tail]; omega
    simp only [go_sem, hh, if_true]
    refine sem_drawU [] [] (pf := []) (mf := []) mixed tabMp_ok pureNo growNo noMk (ones [0, 1, 2, 3, 4, 5, 6]) (by kernel_rfl) ?_
    simp only [go_sem, k0, hor]
    refine ⟨inR_i64.2 (by omega), (k + 1, bit + bit, fl + bit, w.tail), ⟨by simp only; omega, by show 0 <= fl + bit; omega, by show fl + bit < bit + bit; omega, hwl', hI⟩, by show 4 - (k + 1) < _; omega, ?_⟩
    exact le_slots' (by simp only [go_sem, Int.natCast_add, Int.cast_ofNat_Int])
   | false =>
    rw [hh, if_neg (by decide)] at hI
    simp only [go_sem, hh, Bool.false_eq_true, if_false]
    refine ⟨inR_i64.2 (by omega), (k + 1, bit + bit, fl, w), ⟨by simp only; omega, by show 0 <= fl; omega, by show fl < bit + bit; omega, hwl, hI⟩, by show 4 - (k + 1) < _; omega, ?_⟩
    exact le_slots' (by simp only [go_sem, Int.natCast_add, Int.cast_ofNat_Int])
  ·have hk4 : k = 4 := by omega
   subst hk4
   have hd4 : flagW.drop 4 = [] := rfl
   rw [hd4] at hI
   simp only [flg] at hI
   rw [← hI]
   simp only
   have hsub := atS_len wFile (w, f4)
   simp only [go_sem]
   refine call_ln (atG wFile) (mem_at 1 rfl) rfl (by omega) ?_
   simp only [atG]
   generalize atS wFile (w, f4) = FI at *
   obtain ⟨b, ws5, f5⟩ := FI
   simp only at hsub ⊢
   cases b with
   | false =>
    have he : mapE pg ct pr fl (false, ws5, f5) = (⟨1, pg, ct, 0, 0, -1, pr, fl⟩, (ws5, f5)) := rfl
    rw [he]
    simp only [go_sem]
    refine post_resO (mv' := []) (.inl rfl) [.cell 2 36] rfl (fun _ h => h) ?_
    simp only [go_sem]
    refine Le.trans (le_normAt 0 (v := .dat (insD ⟨1, pg, ct, 0, 0, -1, pr, fl⟩)) rfl) ?_
    simp only [List.set_cons_zero]
    refine le_end (own := [_]) (ex := [_, _]) (Nat.le_refl _) ?_ ?_ ?_
    ·simp only [go_sem]
    ·simp only [go_sem]
    ·simp only [go_sem]
   | true =>
    have he : mapE pg ct pr fl (true, ws5, f5) = (⟨1, pg, ct, (numS (numS (ws5, f5)).2).1, 0, (numS (ws5, f5)).1, pr, fl⟩, (numS (numS (ws5, f5)).2).2) := rfl
    rw [he]
    have hx1 := numS_len (ws5, f5)
    have hx2 := numS_len (numS (ws5, f5)).2
    simp only [go_sem]
    refine call_ln numG (mem_at 6 rfl) rfl (by omega) ?_
    simp only [numG]
    generalize numS (ws5, f5) = X1 at *
    obtain ⟨x1, ws6, f6⟩ := X1
    simp only at hx1 hx2 ⊢
    simp only [go_sem]
    refine call_ln numG (mem_at 6 rfl) rfl (by omega) ?_
    simp only [numG]
    generalize numS (ws6, f6) = X2 at *
    obtain ⟨x2, ws7, f7⟩ := X2
    simp only at hx2 ⊢
    simp only [go_sem]
    refine post_resO (mv' := []) (.inl rfl) [.cell 2 36] rfl (fun _ h => h) ?_
    simp only [go_sem]
    refine Le.trans (le_normAt 0 (v := .dat (insD ⟨1, pg, ct, x2, 0, x1, pr, fl⟩)) rfl) ?_
    simp only [List.set_cons_zero]
    refine le_end (own := [_]) (ex := [_, _]) (Nat.le_refl _) ?_ ?_ ?_
    ·simp only [go_sem]
    ·simp only [go_sem]
    ·simp only [go_sem]
 case true =>
  rw [if_pos rfl] at hP
  have hl2 : ws1.length <= 1000000 := by omega
  simp only [go_sem, Bool.not_true]
  rw [hP]
  simp only
  refine call_ln numG (mem_at 6 rfl) rfl (by omega) ?_
  simp only [numG]
  have hC1 := numS_len (ws1, f1)
  generalize numS (ws1, f1) = C at *
  obtain ⟨ct, ws3, f3⟩ := C
  simp only at hC1 ⊢
  simp only [go_sem]
  refine call_ln protG (mem_at 7 rfl) rfl (by omega) ?_
  have hD1 := protS_len (ws3, f3)
  simp only [protG]
  generalize protS (ws3, f3) = E at *
  obtain ⟨pr, ws4, f4⟩ := E
  simp only at hD1 ⊢
  simp only [go_sem]
  refine call_data flagsR (mem_at 8 rfl) [] _ rfl ⟨rfl, rfl⟩ (.inl rfl) ?_
  simp only [go_sem]
  have hgl := flg_len flagW 1 0 ws4
  generalize hG : flg flagW 1 0 ws4 = G at *
  refine sem_loop (fun p : Nat × Int × Int × List Str => ⟨slotsOf 43 [(0, .ptr 0 0 0), (2, .ptr 1 0 0), (3, .ptr 2 0 0), (19, .dat (.agg (flagW.map D.str))), (20, .dat (.int .i64 p.1))], [lineB p.2.2.2 f4, .box [.dat (.int .i64 0), .dat (.int .i64 0), .dat (.int .i64 0), .dat (.int .i64 0), .dat (.int .i64 0), .dat (.int .i64 0), .dat (.int .i64 0), .dat (.int .i64 0)], .box [.dat (.int .i64 1), .dat (.int .i64 (-1)), .dat (.int .i64 ct), .dat (.int .i64 0), .dat (.int .i64 0), .dat (.int .i64 (-1)), .dat (.int .i64 pr), .dat (.int .i64 p.2.2.1)]], 1, []⟩)
   (fun p => ((p.1 = 0 /\ p.2.1 = 1) ∨ (p.1 = 1 /\ p.2.1 = 2) ∨ (p.1 = 2 /\ p.2.1 = 4) ∨ (p.1 = 3 /\ p.2.1 = 8) ∨ (p.1 = 4 /\ p.2.1 = 16)) /\ 0 <= p.2.2.1 /\ p.2.2.1 < p.2.1 /\ p.2.2.2.length <= ws4.length /\ flg (flagW.drop p.1) p.2.1 p.2.2.1 p.2.2.2 = G) (fun p => 4 - p.1) (0, 1, 0, ws4) ⟨.inl ⟨rfl, rfl⟩, Int.le_refl _, by show (0 : Int) < 1; decide, Nat.le_refl _, hG⟩ ?_ ?_
  ·exact le_slots' (by simp only [go_sem, Int.natCast_zero])
  rintro ⟨k, bit, fl, w⟩ ⟨hkb, hf0, hf1, hwl, hI⟩
  simp only at hkb hf0 hf1 hwl hI ⊢
  refine sem_of_awp (Γ := tbl tabMp) tabMp_ok _ _ _ ?_
  by_cases hlt : k < 4
  ·have k1 : (k : Int) < 4 := by omega
   have k0 : (0 : Int) <= (k : Int) := by omega
   have hd : flagW.drop k = fw k :: flagW.drop (k + 1) := by
    rw [List.drop_eq_getElem_cons (show k < flagW.length from hlt), fw, List.getD_eq_getElem?_getD, List.getElem?_eq_getElem (show k < flagW.length from hlt)]; rfl
   have hn : ((flagW.map D.str).map AV.dat).getD k .top = .dat (.str (fw k)) := by
    rcases (by omega : k = 0 ∨ k = 1 ∨ k = 2 ∨ k = 3) with rfl | rfl | rfl | rfl <;> rfl
   have hmem : (58, lnC [.dat (.str (fw k))] (atG (fw k))) ∈ tabMp := by
    rcases (by omega : k = 0 ∨ k = 1 ∨ k = 2 ∨ k = 3) with rfl | rfl | rfl | rfl
    ·exact mem_at 2 rfl
    ·exact mem_at 3 rfl
    ·exact mem_at 4 rfl
    ·exact mem_at 5 rfl
   rw [hd, flg_step] at hI
   simp only [go_sem, k1, k0, hn, decide_true, Int.toNat_natCast]
   refine ⟨hlt, call_ln (atG (fw k)) hmem rfl (by omega) ?_⟩
   simp only [atG, atS_flag]
   have hor := flag_or k bit fl (by omega) hf0 hf1
   cases hh : hitB (fw k) w with
   | true =>
    rw [hh, if_pos rfl] at hI
    have hwl' : w.tail.length <= ws4.length := by rw [List.length_tail]; omega
    simp only [go_sem, hh, if_true]
    refine sem_drawU [] [] (pf := []) (mf := []) mixed tabMp_ok pureNo growNo noMk (ones [0, 1, 2, 3, 4, 5, 6]) (by kernel_rfl) ?_
    simp only [go_sem, k0, hor]
    refine ⟨inR_i64.2 (by omega), (k + 1, bit + bit, fl + bit, w.tail), ⟨by simp only; omega, by show 0 <= fl + bit; omega, by show fl + bit < bit + bit; omega, hwl', hI⟩, by show 4 - (k + 1) < _; omega, ?_⟩
    exact le_slots' (by simp only [go_sem, Int.natCast_add, Int.cast_ofNat_Int])
   | false =>
    rw [hh, if_neg (by decide)] at hI
    simp only [go_sem, hh, Bool.false_eq_true, if_false]
    refine ⟨inR_i64.2 (by omega), (k + 1, bit + bit, fl, w), ⟨by simp only; omega, by show 0 <= fl; omega, by show fl < bit + bit; omega, hwl, hI⟩, by show 4 - (k + 1) < _; omega, ?_⟩
    exact le_slots' (by simp only [go_sem, Int.natCast_add, Int.cast_ofNat_Int])
  ·have hk4 : k = 4 := by omega
   subst hk4
   have hd4 : flagW.drop 4 = [] := rfl
   rw [hd4] at hI
   simp only [flg] at hI
   rw [← hI]
   simp only
   have hsub := atS_len wFile (w, f4)
   simp only [go_sem]
   refine call_ln (atG wFile) (mem_at 1 rfl) rfl (by omega) ?_
   simp only [atG]
   generalize atS wFile (w, f4) = FI at *
   obtain ⟨b, ws5, f5⟩ := FI
   simp only at hsub ⊢
   cases b with
   | false =>
    have he : mapE (-1) ct pr fl (false, ws5, f5) = (⟨1, (-1), ct, 0, 0, -1, pr, fl⟩, (ws5, f5)) := rfl
    rw [he]
    simp only [go_sem]
    refine post_resO (mv' := []) (.inl rfl) [.cell 2 36] rfl (fun _ h => h) ?_
    simp only [go_sem]
    refine Le.trans (le_normAt 0 (v := .dat (insD ⟨1, (-1), ct, 0, 0, -1, pr, fl⟩)) rfl) ?_
    simp only [List.set_cons_zero]
    refine le_end (own := [_]) (ex := [_, _]) (Nat.le_refl _) ?_ ?_ ?_
    ·simp only [go_sem]
    ·simp only [go_sem]
    ·simp only [go_sem]
   | true =>
    have he : mapE (-1) ct pr fl (true, ws5, f5) = (⟨1, (-1), ct, (numS (numS (ws5, f5)).2).1, 0, (numS (ws5, f5)).1, pr, fl⟩, (numS (numS (ws5, f5)).2).2) := rfl
    rw [he]
    have hx1 := numS_len (ws5, f5)
    have hx2 := numS_len (numS (ws5, f5)).2
    simp only [go_sem]
    refine call_ln numG (mem_at 6 rfl) rfl (by omega) ?_
    simp only [numG]
    generalize numS (ws5, f5) = X1 at *
    obtain ⟨x1, ws6, f6⟩ := X1
    simp only at hx1 hx2 ⊢
    simp only [go_sem]
    refine call_ln numG (mem_at 6 rfl) rfl (by omega) ?_
    simp only [numG]
    generalize numS (ws6, f6) = X2 at *
    obtain ⟨x2, ws7, f7⟩ := X2
    simp only at hx2 ⊢
    simp only [go_sem]
    refine post_resO (mv' := []) (.inl rfl) [.cell 2 36] rfl (fun _ h => h) ?_
    simp only [go_sem]
    refine Le.trans (le_normAt 0 (v := .dat (insD ⟨1, (-1), ct, x2, 0, x1, pr, fl⟩)) rfl) ?_
    simp only [List.set_cons_zero]
    refine le_end (own := [_]) (ex := [_, _]) (Nat.le_refl _) ?_ ?_ ?_
    ·simp only [go_sem]
    ·simp only [go_sem]
    ·simp only [go_sem]
end Go.AM
namespace Go.AM
open Go Go.Proofs
def insW (w : Str) (q : LP) : Ins × LP :=
 if w = wMap then mapS q
 else if w = wUnmap then (⟨2, (numS q).1, (numS (numS q).2).1, 0, 0, 0, 0, 0⟩, (numS (numS q).2).2)
 else if w = wProtect then (⟨3, (numS q).1, (numS (numS q).2).1, 0, 0, 0, (protS (numS (numS q).2).2).1, 0⟩, (protS (numS (numS q).2).2).2)
 else if w = wLock then (⟨4, (numS q).1, (numS (numS q).2).1, 0, 1, 0, 0, 0⟩, (numS (numS q).2).2)
 else if w = wUnlock then (⟨4, (numS q).1, (numS (numS q).2).1, 0, 0, 0, 0, 0⟩, (numS (numS q).2).2)
 else if w = wLoad then (⟨5, (numS q).1, 0, (numS (numS q).2).1, 0, 0, 0, 0⟩, (numS (numS q).2).2)
 else if w = wStore then (⟨6, (numS q).1, 0, (numS (numS q).2).1, (numS (numS (numS q).2).2).1, 0, 0, 0⟩, (numS (numS (numS q).2).2).2)
 else if w = wRead then (⟨7, (numS (numS q).2).1, 0, (numS (numS (numS q).2).2).1, 0, (numS q).1, 0, 0⟩, (numS (numS (numS q).2).2).2)
 else if w = wWrite then (⟨8, (numS (numS q).2).1, 0, (numS (numS (numS q).2).2).1, (numS (numS (numS (numS q).2).2).2).1, (numS q).1, 0, 0⟩, (numS (numS (numS (numS q).2).2).2).2)
 else if w = wTruncate then (⟨9, 0, (numS (numS q).2).1, 0, 0, (numS q).1, 0, 0⟩, (numS (numS q).2).2)
 else if w = wSync then (⟨10, 0, 0, 0, 0, (numS q).1, 0, 0⟩, (numS q).2)
 else if w = wFork then (⟨11, 0, 0, 0, (numS q).1, 0, 0, 0⟩, (numS q).2)
 else if w = wExit then (⟨12, 0, 0, 0, 0, 0, 0, 0⟩, q)
 else (zI, (q.1, false))
def insS (p : LP) : Ins × LP := insW (nextS p).1 (nextS p).2
def nextG : LP -> AV × LP := fun p => (.dat (.str (nextS p).1), (nextS p).2)
def mapG : LP -> AV × LP := fun p => (.dat (insD (mapS p).1), (mapS p).2)
abbrev tabLi : List (Nat × Contract) := [(36, lnC [] nextG), (38, lnC [] numG), (39, lnC [] protG), (37, lentC (lnR mapG))]
theorem tabLi_ok : OkG Tryd.prog (tbl tabLi) := okG_cons next_ok (okG_cons lnumber_ok (okG_cons prot_ok (okG_cons mapping_ok okG_nil)))
theorem linstr_ok : OkF Tryd.prog 24 (lentC (lnR fun p => (.dat (insD (insS p).1), (insS p).2))) := by
 refine okF_lent Tryd.func24 rfl (by decide) ?_
 rintro xs obs v0 obs' ex mv0 ⟨ws, f, rfl, rfl, hl, rfl, rfl, rfl, rfl⟩
 refine sem_of_awp (Γ := tbl tabLi) tabLi_ok _ _ _ ?_
 simp only [go_sem, Tryd.ntmps24]
 refine call_ln nextG (mem_at 0 rfl) rfl hl ?_
 have hN := nextS_len (ws, f)
 unfold insS
 simp only [nextG]
 generalize nextS (ws, f) = N at *
 obtain ⟨w, ws0, f0⟩ := N
 simp only at hN ⊢
 have hl0 : ws0.length <= 1000000 := by omega
 by_cases h0 : w = wMap
 ·subst h0
  have he : insW wMap (ws0, f0) = mapS (ws0, f0) := if_pos rfl
  rw [he]
  unfold wMap
  simp only [go_sem, eq_self, decide_true]
  refine call_lent (lnR mapG) (mem_at 3 rfl) [0] ⟨ws0, f0, rfl, rfl, hl0, rfl, rfl, rfl, rfl⟩ (by decide) (by simp) rfl rfl rfl (by simp only [go_sem, AV.unders, AV.under, List.length_cons, List.length_nil]) (by simp [Obj.under, AV.unders, AV.under]) (fun j hj => by
   match j, hj with
   | 0, _ => rfl) ?_
  simp only [mapG]
  generalize mapS (ws0, f0) = M at *
  obtain ⟨x, ws1, f1⟩ := M
  simp only [go_sem]
  refine post_resO (mv' := []) (.inl rfl) [.cell 2 36] rfl (fun _ h => h) ?_
  simp only [go_sem]
  refine Le.trans (le_normAt 0 (v := .dat (insD x)) rfl) ?_
  simp only [List.set_cons_zero]
  refine le_end (own := [_]) (ex := [_]) (Nat.le_refl _) ?_ ?_ ?_
  ·simp only [go_sem]
  ·simp only [go_sem]
  ·simp only [go_sem]
 by_cases h1 : w = wUnmap
 ·subst h1
  have he : insW wUnmap (ws0, f0) = (⟨2, (numS (ws0, f0)).1, (numS (numS (ws0, f0)).2).1, 0, 0, 0, 0, 0⟩, (numS (numS (ws0, f0)).2).2) := by unfold insW; rw [if_neg h0, if_pos rfl]
  rw [he]
  unfold wMap wUnmap at *
  simp only [go_sem, h0, eq_self, decide_true, decide_false]
  refine call_ln numG (mem_at 1 rfl) rfl (by omega) ?_
  have hx0 := numS_len (ws0, f0)
  simp only [numG]
  generalize numS (ws0, f0) = X0 at *
  obtain ⟨x0, ws1, f1⟩ := X0
  simp only at hx0 ⊢
  simp only [go_sem, h0, decide_false]
  refine call_ln numG (mem_at 1 rfl) rfl (by omega) ?_
  have hx1 := numS_len (ws1, f1)
  simp only [numG]
  generalize numS (ws1, f1) = X1 at *
  obtain ⟨x1, ws2, f2⟩ := X1
  simp only at hx1 ⊢
  simp only [go_sem, h0, decide_false]
  refine post_resO (mv' := []) (.inl rfl) [.cell 2 36] rfl (fun _ h => h) ?_
  simp only [go_sem]
  refine Le.trans (le_normAt 0 (v := .dat (insD ⟨2, x0, x1, 0, 0, 0, 0, 0⟩)) rfl) ?_
  simp only [List.set_cons_zero]
  refine le_end (own := [_]) (ex := [_, _]) (Nat.le_refl _) ?_ ?_ ?_
  ·simp only [go_sem]
  ·simp only [go_sem]
  ·simp only [go_sem]
 by_cases h2 : w = wProtect
 ·subst h2
  have he : insW wProtect (ws0, f0) = (⟨3, (numS (ws0, f0)).1, (numS (numS (ws0, f0)).2).1, 0, 0, 0, (protS (numS (numS (ws0, f0)).2).2).1, 0⟩, (protS (numS (numS (ws0, f0)).2).2).2) := by unfold insW; rw [if_neg h0, if_neg h1, if_pos rfl]
  rw [he]
  unfold wMap wUnmap wProtect at *
  simp only [go_sem, h0, h1, eq_self, decide_true, decide_false]
  refine call_ln numG (mem_at 1 rfl) rfl (by omega) ?_
  have hx0 := numS_len (ws0, f0)
  simp only [numG]
  generalize numS (ws0, f0) = X0 at *
  obtain ⟨x0, ws1, f1⟩ := X0
  simp only at hx0 ⊢
  simp only [go_sem, h0, h1, decide_false]
  refine call_ln numG (mem_at 1 rfl) rfl (by omega) ?_
  have hx1 := numS_len (ws1, f1)
  simp only [numG]
  generalize numS (ws1, f1) = X1 at *
  obtain ⟨x1, ws2, f2⟩ := X1
  simp only at hx1 ⊢
  simp only [go_sem, h0, h1, decide_false]
  refine call_ln protG (mem_at 2 rfl) rfl (by omega) ?_
  have hx2 := protS_len (ws2, f2)
  simp only [protG]
  generalize protS (ws2, f2) = X2 at *
  obtain ⟨x2, ws3, f3⟩ := X2
  simp only at hx2 ⊢
  simp only [go_sem, h0, h1, decide_false]
  refine post_resO (mv' := []) (.inl rfl) [.cell 2 36] rfl (fun _ h => h) ?_
  simp only [go_sem]
  refine Le.trans (le_normAt 0 (v := .dat (insD ⟨3, x0, x1, 0, 0, 0, x2, 0⟩)) rfl) ?_
  simp only [List.set_cons_zero]
  refine le_end (own := [_]) (ex := [_, _]) (Nat.le_refl _) ?_ ?_ ?_
  ·simp only [go_sem]
  ·simp only [go_sem]
  ·simp only [go_sem]
 by_cases h3 : w = wLock
 ·subst h3
  have he : insW wLock (ws0, f0) = (⟨4, (numS (ws0, f0)).1, (numS (numS (ws0, f0)).2).1, 0, 1, 0, 0, 0⟩, (numS (numS (ws0, f0)).2).2) := by unfold insW; rw [if_neg h0, if_neg h1, if_neg h2, if_pos rfl]
  rw [he]
  unfold wMap wUnmap wProtect wLock at *
  simp only [go_sem, h0, h1, h2, eq_self, decide_true, decide_false]
  refine call_ln numG (mem_at 1 rfl) rfl (by omega) ?_
  have hx0 := numS_len (ws0, f0)
  simp only [numG]
  generalize numS (ws0, f0) = X0 at *
  obtain ⟨x0, ws1, f1⟩ := X0
  simp only at hx0 ⊢
  simp only [go_sem, h0, h1, h2, decide_false]
  refine call_ln numG (mem_at 1 rfl) rfl (by omega) ?_
  have hx1 := numS_len (ws1, f1)
  simp only [numG]
  generalize numS (ws1, f1) = X1 at *
  obtain ⟨x1, ws2, f2⟩ := X1
  simp only at hx1 ⊢
  simp only [go_sem, h0, h1, h2, decide_false]
  refine post_resO (mv' := []) (.inl rfl) [.cell 2 36] rfl (fun _ h => h) ?_
  simp only [go_sem]
  refine Le.trans (le_normAt 0 (v := .dat (insD ⟨4, x0, x1, 0, 1, 0, 0, 0⟩)) rfl) ?_
  simp only [List.set_cons_zero]
  refine le_end (own := [_]) (ex := [_, _]) (Nat.le_refl _) ?_ ?_ ?_
  ·simp only [go_sem]
  ·simp only [go_sem]
  ·simp only [go_sem]
 by_cases h4 : w = wUnlock
 ·subst h4
  have he : insW wUnlock (ws0, f0) = (⟨4, (numS (ws0, f0)).1, (numS (numS (ws0, f0)).2).1, 0, 0, 0, 0, 0⟩, (numS (numS (ws0, f0)).2).2) := by unfold insW; rw [if_neg h0, if_neg h1, if_neg h2, if_neg h3, if_pos rfl]
  rw [he]
  unfold wMap wUnmap wProtect wLock wUnlock at *
  simp only [go_sem, h0, h1, h2, h3, eq_self, decide_true, decide_false]
  refine call_ln numG (mem_at 1 rfl) rfl (by omega) ?_
  have hx0 := numS_len (ws0, f0)
  simp only [numG]
  generalize numS (ws0, f0) = X0 at *
  obtain ⟨x0, ws1, f1⟩ := X0
  simp only at hx0 ⊢
  simp only [go_sem, h0, h1, h2, h3, decide_false]
  refine call_ln numG (mem_at 1 rfl) rfl (by omega) ?_
  have hx1 := numS_len (ws1, f1)
  simp only [numG]
  generalize numS (ws1, f1) = X1 at *
  obtain ⟨x1, ws2, f2⟩ := X1
  simp only at hx1 ⊢
  simp only [go_sem, h0, h1, h2, h3, decide_false]
  refine post_resO (mv' := []) (.inl rfl) [.cell 2 36] rfl (fun _ h => h) ?_
  simp only [go_sem]
  refine Le.trans (le_normAt 0 (v := .dat (insD ⟨4, x0, x1, 0, 0, 0, 0, 0⟩)) rfl) ?_
  simp only [List.set_cons_zero]
  refine le_end (own := [_]) (ex := [_, _]) (Nat.le_refl _) ?_ ?_ ?_
  ·simp only [go_sem]
  ·simp only [go_sem]
  ·simp only [go_sem]
 by_cases h5 : w = wLoad
 ·subst h5
  have he : insW wLoad (ws0, f0) = (⟨5, (numS (ws0, f0)).1, 0, (numS (numS (ws0, f0)).2).1, 0, 0, 0, 0⟩, (numS (numS (ws0, f0)).2).2) := by unfold insW; rw [if_neg h0, if_neg h1, if_neg h2, if_neg h3, if_neg h4, if_pos rfl]
  rw [he]
  unfold wMap wUnmap wProtect wLock wUnlock wLoad at *
  have hz : (([108, 111, 97, 100] : Str) = [115, 116, 111, 114, 101]) = False := by simp
  simp only [go_sem, h0, h1, h2, h3, h4, hz, eq_self, decide_true, decide_false]
  refine call_ln numG (mem_at 1 rfl) rfl (by omega) ?_
  have hx0 := numS_len (ws0, f0)
  simp only [numG]
  generalize numS (ws0, f0) = X0 at *
  obtain ⟨x0, ws1, f1⟩ := X0
  simp only at hx0 ⊢
  simp only [go_sem, h0, h1, h2, h3, h4, hz, decide_false]
  refine call_ln numG (mem_at 1 rfl) rfl (by omega) ?_
  have hx1 := numS_len (ws1, f1)
  simp only [numG]
  generalize numS (ws1, f1) = X1 at *
  obtain ⟨x1, ws2, f2⟩ := X1
  simp only at hx1 ⊢
  simp only [go_sem, h0, h1, h2, h3, h4, hz, decide_false]
  refine post_resO (mv' := []) (.inl rfl) [.cell 2 36] rfl (fun _ h => h) ?_
  simp only [go_sem]
  refine Le.trans (le_normAt 0 (v := .dat (insD ⟨5, x0, 0, x1, 0, 0, 0, 0⟩)) rfl) ?_
  simp only [List.set_cons_zero]
  refine le_end (own := [_]) (ex := [_, _]) (Nat.le_refl _) ?_ ?_ ?_
  ·simp only [go_sem]
  ·simp only [go_sem]
  ·simp only [go_sem]
 by_cases h6 : w = wStore
 ·subst h6
  have he : insW wStore (ws0, f0) = (⟨6, (numS (ws0, f0)).1, 0, (numS (numS (ws0, f0)).2).1, (numS (numS (numS (ws0, f0)).2).2).1, 0, 0, 0⟩, (numS (numS (numS (ws0, f0)).2).2).2) := by unfold insW; rw [if_neg h0, if_neg h1, if_neg h2, if_neg h3, if_neg h4, if_neg h5, if_pos rfl]
  rw [he]
  unfold wMap wUnmap wProtect wLock wUnlock wLoad wStore at *
  simp only [go_sem, h0, h1, h2, h3, h4, h5, eq_self, decide_true, decide_false]
  refine call_ln numG (mem_at 1 rfl) rfl (by omega) ?_
  have hx0 := numS_len (ws0, f0)
  simp only [numG]
  generalize numS (ws0, f0) = X0 at *
  obtain ⟨x0, ws1, f1⟩ := X0
  simp only at hx0 ⊢
  simp only [go_sem, h0, h1, h2, h3, h4, h5, decide_false]
  refine call_ln numG (mem_at 1 rfl) rfl (by omega) ?_
  have hx1 := numS_len (ws1, f1)
  simp only [numG]
  generalize numS (ws1, f1) = X1 at *
  obtain ⟨x1, ws2, f2⟩ := X1
  simp only at hx1 ⊢
  simp only [go_sem, h0, h1, h2, h3, h4, h5, decide_false]
  refine call_ln numG (mem_at 1 rfl) rfl (by omega) ?_
  have hx2 := numS_len (ws2, f2)
  simp only [numG]
  generalize numS (ws2, f2) = X2 at *
  obtain ⟨x2, ws3, f3⟩ := X2
  simp only at hx2 ⊢
  simp only [go_sem, h0, h1, h2, h3, h4, h5, decide_false]
  refine post_resO (mv' := []) (.inl rfl) [.cell 2 36] rfl (fun _ h => h) ?_
  simp only [go_sem]
  refine Le.trans (le_normAt 0 (v := .dat (insD ⟨6, x0, 0, x1, x2, 0, 0, 0⟩)) rfl) ?_
  simp only [List.set_cons_zero]
  refine le_end (own := [_]) (ex := [_, _]) (Nat.le_refl _) ?_ ?_ ?_
  ·simp only [go_sem]
  ·simp only [go_sem]
  ·simp only [go_sem]
 by_cases h7 : w = wRead
 ·subst h7
  have he : insW wRead (ws0, f0) = (⟨7, (numS (numS (ws0, f0)).2).1, 0, (numS (numS (numS (ws0, f0)).2).2).1, 0, (numS (ws0, f0)).1, 0, 0⟩, (numS (numS (numS (ws0, f0)).2).2).2) := by unfold insW; rw [if_neg h0, if_neg h1, if_neg h2, if_neg h3, if_neg h4, if_neg h5, if_neg h6, if_pos rfl]
  rw [he]
  unfold wMap wUnmap wProtect wLock wUnlock wLoad wStore wRead at *
  have hz : (([114, 101, 97, 100] : Str) = [119, 114, 105, 116, 101]) = False := by simp
  simp only [go_sem, h0, h1, h2, h3, h4, h5, h6, hz, eq_self, decide_true, decide_false]
  refine call_ln numG (mem_at 1 rfl) rfl (by omega) ?_
  have hx0 := numS_len (ws0, f0)
  simp only [numG]
  generalize numS (ws0, f0) = X0 at *
  obtain ⟨x0, ws1, f1⟩ := X0
  simp only at hx0 ⊢
  simp only [go_sem, h0, h1, h2, h3, h4, h5, h6, hz, decide_false]
  refine call_ln numG (mem_at 1 rfl) rfl (by omega) ?_
  have hx1 := numS_len (ws1, f1)
  simp only [numG]
  generalize numS (ws1, f1) = X1 at *
  obtain ⟨x1, ws2, f2⟩ := X1
  simp only at hx1 ⊢
  simp only [go_sem, h0, h1, h2, h3, h4, h5, h6, hz, decide_false]
  refine call_ln numG (mem_at 1 rfl) rfl (by omega) ?_
  have hx2 := numS_len (ws2, f2)
  simp only [numG]
  generalize numS (ws2, f2) = X2 at *
  obtain ⟨x2, ws3, f3⟩ := X2
  simp only at hx2 ⊢
  simp only [go_sem, h0, h1, h2, h3, h4, h5, h6, hz, decide_false]
  refine post_resO (mv' := []) (.inl rfl) [.cell 2 36] rfl (fun _ h => h) ?_
  simp only [go_sem]
  refine Le.trans (le_normAt 0 (v := .dat (insD ⟨7, x1, 0, x2, 0, x0, 0, 0⟩)) rfl) ?_
  simp only [List.set_cons_zero]
  refine le_end (own := [_]) (ex := [_, _]) (Nat.le_refl _) ?_ ?_ ?_
  ·simp only [go_sem]
  ·simp only [go_sem]
  ·simp only [go_sem]
 by_cases h8 : w = wWrite
 ·subst h8
  have he : insW wWrite (ws0, f0) = (⟨8, (numS (numS (ws0, f0)).2).1, 0, (numS (numS (numS (ws0, f0)).2).2).1, (numS (numS (numS (numS (ws0, f0)).2).2).2).1, (numS (ws0, f0)).1, 0, 0⟩, (numS (numS (numS (numS (ws0, f0)).2).2).2).2) := by unfold insW; rw [if_neg h0, if_neg h1, if_neg h2, if_neg h3, if_neg h4, if_neg h5, if_neg h6, if_neg h7, if_pos rfl]
  rw [he]
  unfold wMap wUnmap wProtect wLock wUnlock wLoad wStore wRead wWrite at *
  simp only [go_sem, h0, h1, h2, h3, h4, h5, h6, h7, eq_self, decide_true, decide_false]
  refine call_ln numG (mem_at 1 rfl) rfl (by omega) ?_
  have hx0 := numS_len (ws0, f0)
  simp only [numG]
  generalize numS (ws0, f0) = X0 at *
  obtain ⟨x0, ws1, f1⟩ := X0
  simp only at hx0 ⊢
  simp only [go_sem, h0, h1, h2, h3, h4, h5, h6, h7, decide_false]
  refine call_ln numG (mem_at 1 rfl) rfl (by omega) ?_
  have hx1 := numS_len (ws1, f1)
  simp only [numG]
  generalize numS (ws1, f1) = X1 at *
  obtain ⟨x1, ws2, f2⟩ := X1
  simp only at hx1 ⊢
  simp only [go_sem, h0, h1, h2, h3, h4, h5, h6, h7, decide_false]
  refine call_ln numG (mem_at 1 rfl) rfl (by omega) ?_
  have hx2 := numS_len (ws2, f2)
  simp only [numG]
  generalize numS (ws2, f2) = X2 at *
  obtain ⟨x2, ws3, f3⟩ := X2
  simp only at hx2 ⊢
  simp only [go_sem, h0, h1, h2, h3, h4, h5, h6, h7, decide_false]
  refine call_ln numG (mem_at 1 rfl) rfl (by omega) ?_
  have hx3 := numS_len (ws3, f3)
  simp only [numG]
  generalize numS (ws3, f3) = X3 at *
  obtain ⟨x3, ws4, f4⟩ := X3
  simp only at hx3 ⊢
  simp only [go_sem, h0, h1, h2, h3, h4, h5, h6, h7, decide_false]
  refine post_resO (mv' := []) (.inl rfl) [.cell 2 36] rfl (fun _ h => h) ?_
  simp only [go_sem]
  refine Le.trans (le_normAt 0 (v := .dat (insD ⟨8, x1, 0, x2, x3, x0, 0, 0⟩)) rfl) ?_
  simp only [List.set_cons_zero]
  refine le_end (own := [_]) (ex := [_, _]) (Nat.le_refl _) ?_ ?_ ?_
  ·simp only [go_sem]
  ·simp only [go_sem]
  ·simp only [go_sem]
 by_cases h9 : w = wTruncate
 ·subst h9
  have he : insW wTruncate (ws0, f0) = (⟨9, 0, (numS (numS (ws0, f0)).2).1, 0, 0, (numS (ws0, f0)).1, 0, 0⟩, (numS (numS (ws0, f0)).2).2) := by unfold insW; rw [if_neg h0, if_neg h1, if_neg h2, if_neg h3, if_neg h4, if_neg h5, if_neg h6, if_neg h7, if_neg h8, if_pos rfl]
  rw [he]
  unfold wMap wUnmap wProtect wLock wUnlock wLoad wStore wRead wWrite wTruncate at *
  simp only [go_sem, h0, h1, h2, h3, h4, h5, h6, h7, h8, eq_self, decide_true, decide_false]
  refine call_ln numG (mem_at 1 rfl) rfl (by omega) ?_
  have hx0 := numS_len (ws0, f0)
  simp only [numG]
  generalize numS (ws0, f0) = X0 at *
  obtain ⟨x0, ws1, f1⟩ := X0
  simp only at hx0 ⊢
  simp only [go_sem, h0, h1, h2, h3, h4, h5, h6, h7, h8, decide_false]
  refine call_ln numG (mem_at 1 rfl) rfl (by omega) ?_
  have hx1 := numS_len (ws1, f1)
  simp only [numG]
  generalize numS (ws1, f1) = X1 at *
  obtain ⟨x1, ws2, f2⟩ := X1
  simp only at hx1 ⊢
  simp only [go_sem, h0, h1, h2, h3, h4, h5, h6, h7, h8, decide_false]
  refine post_resO (mv' := []) (.inl rfl) [.cell 2 36] rfl (fun _ h => h) ?_
  simp only [go_sem]
  refine Le.trans (le_normAt 0 (v := .dat (insD ⟨9, 0, x1, 0, 0, x0, 0, 0⟩)) rfl) ?_
  simp only [List.set_cons_zero]
  refine le_end (own := [_]) (ex := [_, _]) (Nat.le_refl _) ?_ ?_ ?_
  ·simp only [go_sem]
  ·simp only [go_sem]
  ·simp only [go_sem]
 by_cases h10 : w = wSync
 ·subst h10
  have he : insW wSync (ws0, f0) = (⟨10, 0, 0, 0, 0, (numS (ws0, f0)).1, 0, 0⟩, (numS (ws0, f0)).2) := by unfold insW; rw [if_neg h0, if_neg h1, if_neg h2, if_neg h3, if_neg h4, if_neg h5, if_neg h6, if_neg h7, if_neg h8, if_neg h9, if_pos rfl]
  rw [he]
  unfold wMap wUnmap wProtect wLock wUnlock wLoad wStore wRead wWrite wTruncate wSync at *
  simp only [go_sem, h0, h1, h2, h3, h4, h5, h6, h7, h8, h9, eq_self, decide_true, decide_false]
  refine call_ln numG (mem_at 1 rfl) rfl (by omega) ?_
  have hx0 := numS_len (ws0, f0)
  simp only [numG]
  generalize numS (ws0, f0) = X0 at *
  obtain ⟨x0, ws1, f1⟩ := X0
  simp only at hx0 ⊢
  simp only [go_sem, h0, h1, h2, h3, h4, h5, h6, h7, h8, h9, decide_false]
  refine post_resO (mv' := []) (.inl rfl) [.cell 2 36] rfl (fun _ h => h) ?_
  simp only [go_sem]
  refine Le.trans (le_normAt 0 (v := .dat (insD ⟨10, 0, 0, 0, 0, x0, 0, 0⟩)) rfl) ?_
  simp only [List.set_cons_zero]
  refine le_end (own := [_]) (ex := [_]) (Nat.le_refl _) ?_ ?_ ?_
  ·simp only [go_sem]
  ·simp only [go_sem]
  ·simp only [go_sem]
 by_cases h11 : w = wFork
 ·subst h11
  have he : insW wFork (ws0, f0) = (⟨11, 0, 0, 0, (numS (ws0, f0)).1, 0, 0, 0⟩, (numS (ws0, f0)).2) := by unfold insW; rw [if_neg h0, if_neg h1, if_neg h2, if_neg h3, if_neg h4, if_neg h5, if_neg h6, if_neg h7, if_neg h8, if_neg h9, if_neg h10, if_pos rfl]
  rw [he]
  unfold wMap wUnmap wProtect wLock wUnlock wLoad wStore wRead wWrite wTruncate wSync wFork at *
  simp only [go_sem, h0, h1, h2, h3, h4, h5, h6, h7, h8, h9, h10, eq_self, decide_true, decide_false]
  refine call_ln numG (mem_at 1 rfl) rfl (by omega) ?_
  have hx0 := numS_len (ws0, f0)
  simp only [numG]
  generalize numS (ws0, f0) = X0 at *
  obtain ⟨x0, ws1, f1⟩ := X0
  simp only at hx0 ⊢
  simp only [go_sem, h0, h1, h2, h3, h4, h5, h6, h7, h8, h9, h10, decide_false]
  refine post_resO (mv' := []) (.inl rfl) [.cell 2 36] rfl (fun _ h => h) ?_
  simp only [go_sem]
  refine Le.trans (le_normAt 0 (v := .dat (insD ⟨11, 0, 0, 0, x0, 0, 0, 0⟩)) rfl) ?_
  simp only [List.set_cons_zero]
  refine le_end (own := [_]) (ex := [_]) (Nat.le_refl _) ?_ ?_ ?_
  ·simp only [go_sem]
  ·simp only [go_sem]
  ·simp only [go_sem]
 by_cases h12 : w = wExit
 ·subst h12
  have he : insW wExit (ws0, f0) = (⟨12, 0, 0, 0, 0, 0, 0, 0⟩, (ws0, f0)) := by unfold insW; rw [if_neg h0, if_neg h1, if_neg h2, if_neg h3, if_neg h4, if_neg h5, if_neg h6, if_neg h7, if_neg h8, if_neg h9, if_neg h10, if_neg h11, if_pos rfl]
  rw [he]
  unfold wMap wUnmap wProtect wLock wUnlock wLoad wStore wRead wWrite wTruncate wSync wFork wExit at *
  simp only [go_sem, h0, h1, h2, h3, h4, h5, h6, h7, h8, h9, h10, h11, eq_self, decide_true, decide_false]
  refine post_resO (mv' := []) (.inl rfl) [.cell 2 36] rfl (fun _ h => h) ?_
  simp only [go_sem]
  refine Le.trans (le_normAt 0 (v := .dat (insD ⟨12, 0, 0, 0, 0, 0, 0, 0⟩)) rfl) ?_
  simp only [List.set_cons_zero]
  refine le_end (own := [_]) (ex := [_]) (Nat.le_refl _) ?_ ?_ ?_
  ·simp only [go_sem]
  ·simp only [go_sem]
  ·simp only [go_sem]
 have he : insW w (ws0, f0) = (zI, (ws0, false)) := by unfold insW; rw [if_neg h0, if_neg h1, if_neg h2, if_neg h3, if_neg h4, if_neg h5, if_neg h6, if_neg h7, if_neg h8, if_neg h9, if_neg h10, if_neg h11, if_neg h12]
 rw [he]
 unfold wMap wUnmap wProtect wLock wUnlock wLoad wStore wRead wWrite wTruncate wSync wFork wExit at *
 simp only [go_sem, h0, h1, h2, h3, h4, h5, h6, h7, h8, h9, h10, h11, h12, decide_false]
 refine post_resO (mv' := []) (.inl rfl) [.cell 2 36] rfl (fun _ h => h) ?_
 simp only [go_sem]
 refine Le.trans (le_normAt 0 (v := .dat (insD zI)) rfl) ?_
 simp only [List.set_cons_zero]
 refine le_end (own := [_]) (ex := [_]) (Nat.le_refl _) ?_ ?_ ?_
 ·simp only [go_sem]
 ·simp only [go_sem]
 ·simp only [go_sem]
end Go.AM
namespace Go.AM
open Go Go.Proofs
def rloop (o : Int) : Nat -> List Str -> List Int -> Int -> Option (List Int × Int)
 | _, [], num, p => some (num, p)
 | i, s :: r, num, p =>
  if i = 3 /\ (o = 1 ∨ o = 3) then (if rprot s = 0 then none else rloop o (i + 1) r (num.set i (numN s)) (rprot s))
  else if numN s < 0 /\ ¬ (o = 1 /\ i = 1 /\ s = wAny) then none else rloop o (i + 1) r (num.set i (numN s)) p
def badW (o n l : Int) : Bool := decide (o = 0) || decide (l < n) || (decide (n < l) && !decide (o = 1))
def finW (o : Int) (f : Str) (rest : List Str) : Option (List Int × Int) -> Ins × Bool
 | none => (zI, false)
 | some (num, p) => if o = 1 then optI (buildI o p num f) rest else (buildI o p num f, true)
def rinsW (w : List Str) : Ins × Bool :=
 let o := (opW (w.getD 0 [])).1
 let n := (opW (w.getD 0 [])).2
 if badW o n w.length then (zI, false)
 else finW o (w.getD 0 []) (w.drop n.toNat) (rloop o 1 ((w.drop 1).take (n.toNat - 1)) [0, 0, 0, 0, 0] 0)
theorem ite_P {α : Type} {P : α -> Prop} {p : Prop} [Decidable p] {a b : α} (ha : P a) (hb : P b) : P (if p then a else b) := by
 by_cases h : p
 ·rw [if_pos h]; exact ha
 ·rw [if_neg h]; exact hb
def opOk (q : Int × Int) : Prop := 0 <= q.1 /\ q.1 <= 12 /\ 0 <= q.2 /\ q.2 <= 5 /\ (q.1 = 0 ∨ 1 <= q.2)
theorem opW_bound (w : Str) : opOk (opW w) := by
 unfold opW
 repeat' refine ite_P (P := opOk) ?_ ?_
 all_goals (unfold opOk; decide)
def rinsR (ds : List D) (v : AV) : Prop := ∃ (w : List Str), ds = [.sl none (w.map .str)] /\ w ≠ [] /\ w.length <= 1000000 /\ (∀ s ∈ w, s.length <= 1000000) /\ v = .tup [.dat (insD (rinsW w).1), .dat (.bool (rinsW w).2)]
def opR (ds : List D) (v : AV) : Prop := ∃ w : Str, ds = [.str w] /\ v = .tup [.dat (.int .i64 (opW w).1), .dat (.int .i64 (opW w).2)]
def rprotR (ds : List D) (v : AV) : Prop := ∃ w : Str, ds = [.str w] /\ v = .dat (.int .i64 (rprot w))
abbrev tabRi : List (Nat × Contract) := [(40, dataC opR), (41, dataC numR), (42, dataC rprotR), (43, dataC buildR), (44, dataC optR)]
theorem tabRi_ok : OkG Tryd.prog (tbl tabRi) := okG_cons rop_ok (okG_cons number_ok (okG_cons rprot_ok (okG_cons build_ok (okG_cons options_ok okG_nil))))
theorem rinstr_ok : OkF Tryd.prog 26 (dataC rinsR) := by
 refine okF_data Tryd.func26 rfl (by decide) ?_
 rintro ds v ⟨w, rfl, hw0, hw, hws, rfl⟩
 obtain ⟨f, r, rfl⟩ := List.exists_cons_of_ne_nil hw0
 have hn0 : D.nth (D.str f :: r.map D.str) 0 = .str f := rfl
 have hl0 : (0 : Int) < ((r.length + 1 : Nat) : Int) := by omega
 refine sem_of_awpK [2, 10, 14] (Γ := tbl tabRi) tabRi_ok _ _ _ ?_
 simp only [go_sem, Tryd.ntmps26, List.map_cons, List.length_cons, List.length_map, hn0, hl0]
 refine call_data opR (by simp) [.str f] _ rfl ⟨f, rfl, rfl⟩ (.inl rfl) ?_
 obtain ⟨ho0, ho1, hn00, hn1, hon⟩ := opW_bound f
 unfold rinsW
 simp only [List.getD_cons_zero, List.drop_succ_cons, List.drop_zero, List.length_cons]
 generalize (opW f).1 = o at *
 generalize (opW f).2 = n at *
 simp only [go_sem, List.map_cons, List.length_cons, List.length_map]
 refine sem_to ⟨slotsOf 104 [(0, .dat (.sl none (D.str f :: r.map .str))), (2, .ptr 0 0 0), (3, .dat (.bool false)), (4, .dat (.int .i64 o)), (5, .dat (.int .i64 n)), (34, .dat (.bool (badW o n ((r.length + 1 : Nat) : Int))))], [.box ((insL zI).map .dat)], 0, []⟩ ?_ ?_
 ·refine sem_of_awp (Γ := tbl tabRi) tabRi_ok _ _ _ ?_
  unfold badW
  by_cases c1 : o = 0
  ·simp only [go_sem, c1, eq_self, decide_true, Bool.true_or]
   exact le_slots' (by simp only [go_sem])
  by_cases c2 : ((r.length + 1 : Nat) : Int) < n
  ·simp only [go_sem, c1, c2, decide_true, decide_false, Bool.true_or, Bool.false_or, List.length_cons, List.length_map]
   exact le_slots' (by simp only [go_sem])
  by_cases c3 : n < ((r.length + 1 : Nat) : Int)
  ·simp only [go_sem, c1, c2, c3, decide_true, decide_false, Bool.true_and, Bool.false_or, List.length_cons, List.length_map]
   exact le_slots' (by simp only [go_sem])
  ·simp only [go_sem, c1, c2, c3, decide_true, decide_false, Bool.false_and, Bool.false_or, List.length_cons, List.length_map]
   exact le_slots' (by simp only [go_sem])
 cases hbad : badW o n ((r.length + 1 : Nat) : Int) with
 | true =>
  have e : (if true = true then ((zI, false) : Ins × Bool) else finW o f ((f :: r).drop n.toNat) (rloop o 1 (r.take (n.toNat - 1)) [0, 0, 0, 0, 0] 0)) = (zI, false) := if_pos rfl
  rw [e]
  simp only [go_sem, insL, zI, List.map_cons, List.map_nil]
  refine post_resO (mv' := []) (.inl rfl) [.cell 2 36, .tmp 3] rfl (fun _ h => h) ?_
  simp only [go_sem]
  exact le_fin (by rfl) (by simp only [AV.under, AV.unders, and_self])
 | false =>
  have hb := hbad
  simp only [badW, Bool.or_eq_false_iff, Bool.and_eq_false_iff, decide_eq_false_iff_not, Bool.not_eq_false', decide_eq_true_eq] at hb
  obtain ⟨⟨hb1, hb2⟩, hb3⟩ := hb
  simp only [Bool.false_eq_true, if_false]
  obtain ⟨m, rfl⟩ : ∃ m : Nat, n = m := ⟨n.toNat, by omega⟩
  rw [Int.toNat_natCast]
  simp only [go_sem]
  generalize hR : rloop o 1 (r.take (m - 1)) [0, 0, 0, 0, 0] 0 = R
  have hLl : (r.take (m - 1)).length = m - 1 := by rw [List.length_take]; omega
  have hLr : ∀ k s, (r.take (m - 1))[k]? = some s -> r[k]? = some s := fun k s h => by
   rw [List.getElem?_take] at h
   split at h
   ·exact h
   ·cases h
  generalize r.take (m - 1) = L at *
  have hrep : List.replicate 5 (D.int .i64 0) = ([0, 0, 0, 0, 0] : List Int).map (D.int .i64) := rfl
  rw [hrep]
  refine ⟨rfl, ?_⟩
  refine sem_loop (fun p : Nat × List Int × Int => ⟨slotsOf 104 [(0, .dat (.sl none (D.str f :: r.map .str))), (2, .ptr 0 0 0), (3, .dat (.bool false)), (4, .dat (.int .i64 o)), (5, .dat (.int .i64 m)), (6, .ptr 1 0 0), (7, .dat (.int .i64 p.2.2)), (8, .dat (.int .i64 p.1))], [.box ((insL zI).map .dat), .row none (p.2.1.map (D.int .i64))], 0, []⟩)
   (fun p => 1 <= p.1 /\ p.1 <= m /\ p.2.1.length = 5 /\ rloop o p.1 (L.drop (p.1 - 1)) p.2.1 p.2.2 = R) (fun p => m - p.1) (1, [0, 0, 0, 0, 0], 0) ⟨Nat.le_refl _, by show 1 <= m; omega, rfl, hR⟩ ?_ ?_
  ·exact le_slots' (by simp only [go_sem, Int.natCast_one])
  rintro ⟨i, num, p⟩ ⟨hi1, him, hnl, hI⟩
  simp only at hi1 him hnl hI ⊢
  refine sem_of_awpK [10, 14] (Γ := tbl tabRi) tabRi_ok _ _ _ ?_
  by_cases hlt : i < m
  ·have k1 : (i : Int) < (m : Int) := by omega
   have k0 : (0 : Int) <= (i : Int) := by omega
   have k5 : (i : Int) < 5 := by omega
   have k5' : i < 5 := by omega
   have kr : (i : Int) < ((r.length + 1 : Nat) : Int) := by omega
   cases hd : L.drop (i - 1) with
   | nil => have := nil_of_drop hd; omega
   | cons s t =>
    have hrs := hLr _ _ (get_of_drop hd)
    have hn : D.nth (D.str f :: r.map D.str) i = .str s := by
     obtain ⟨j, rfl⟩ : ∃ j, i = j + 1 := ⟨i - 1, by omega⟩
     rw [Nat.add_sub_cancel] at hrs
     simp [D.nth, hrs]
    have hsl : s.length <= 1000000 := hws s (List.mem_cons_of_mem _ (List.mem_of_getElem? hrs))
    have hd' : t = L.drop (i + 1 - 1) := by
     rw [← drop_cons hd]; congr 1; omega
    rw [hd] at hI
    unfold rloop at hI
    simp only [go_sem, k0, k1, k5, k5', kr, hn, hnl, List.length_cons, List.length_map, decide_true, Int.toNat_natCast]
    refine call_data numR (by simp) [.str s] _ rfl ⟨s, rfl, hsl, rfl⟩ (.inl rfl) ?_
    simp only [go_sem, k0, k1, k5, k5', kr, hn, hnl, List.length_cons, List.length_map, decide_true, Int.toNat_natCast]
    have hset : (num.map (D.int .i64)).set i (.int .i64 (numN s)) = (num.set i (numN s)).map (D.int .i64) := by rw [List.map_set]
    rw [hset]
    have hset5 : (num.set i (numN s)).length = 5 := by rw [List.length_set]; exact hnl
    refine sem_to ⟨slotsOf 104 [(0, .dat (.sl none (D.str f :: r.map .str))), (2, .ptr 0 0 0), (3, .dat (.bool false)), (4, .dat (.int .i64 o)), (5, .dat (.int .i64 m)), (6, .ptr 1 0 0), (7, .dat (.int .i64 p)), (8, .dat (.int .i64 i)), (57, .dat (.bool (decide (i = 3) && (decide (o = 1) || decide (o = 3)))))], [.box ((insL zI).map .dat), .row none ((num.set i (numN s)).map (D.int .i64))], 0, []⟩ ?_ ?_
    ·refine sem_of_awp (Γ := tbl tabRi) tabRi_ok _ _ _ ?_
     by_cases c1 : i = 3
     ·have c1' : (i : Int) = 3 := by omega
      by_cases c2 : o = 1
      ·simp only [go_sem, c1, c1', c2, eq_self, decide_true, Bool.true_or, Bool.true_and]
       exact le_slots' (by simp only [go_sem])
      ·simp only [go_sem, c1, c1', c2, eq_self, decide_true, decide_false, Bool.false_or, Bool.true_and]
       exact le_slots' (by simp only [go_sem])
     ·have c1' : ¬ (i : Int) = 3 := by omega
      simp only [go_sem, c1, c1', decide_false, Bool.false_and]
      exact le_slots' (by simp only [go_sem])
    by_cases hc : i = 3 /\ (o = 1 ∨ o = 3)
    ·have e57 : (decide (i = 3) && (decide (o = 1) || decide (o = 3))) = true := by simp [hc]
     rw [if_pos hc] at hI
     simp only [go_sem, e57, k0, kr, hn, List.length_cons, List.length_map, Int.toNat_natCast]
     refine call_data rprotR (by simp) [.str s] _ rfl ⟨s, rfl, rfl⟩ (.inl rfl) ?_
     by_cases hp : rprot s = 0
     ·rw [if_pos hp] at hI
      rw [← hI]
      simp only [go_sem, hp, finW, eq_self, decide_true]
      simp only [go_sem, insL, zI, List.map_cons, List.map_nil]
      refine post_resO (mv' := []) (.inl rfl) [.cell 2 36, .tmp 3] rfl (fun _ h => h) ?_
      simp only [go_sem]
      exact le_fin (by rfl) (by simp only [AV.under, AV.unders, and_self])
     ·rw [if_neg hp, hd'] at hI
      simp only [go_sem, hp, decide_false]
      refine ⟨inR_i64.2 (by omega), (i + 1, num.set i (numN s), rprot s), ⟨by show 1 <= i + 1; omega, by show i + 1 <= m; omega, hset5, hI⟩, by show m - (i + 1) < _; omega, le_slots' (by simp only [go_sem, Int.natCast_add, Int.cast_ofNat_Int])⟩
    ·have e57 : (decide (i = 3) && (decide (o = 1) || decide (o = 3))) = false := by
      rw [Bool.eq_false_iff]; intro h; exact hc (by simpa using h)
     rw [if_neg hc] at hI
     simp only [go_sem, e57]
     have hnx : D.nth ((num.set i (numN s)).map (D.int .i64)) i = .int .i64 (numN s) := by
      simp [D.nth, List.getElem?_set, hnl, k5']
     refine sem_to ⟨slotsOf 104 [(0, .dat (.sl none (D.str f :: r.map .str))), (2, .ptr 0 0 0), (3, .dat (.bool false)), (4, .dat (.int .i64 o)), (5, .dat (.int .i64 m)), (6, .ptr 1 0 0), (7, .dat (.int .i64 p)), (8, .dat (.int .i64 i)), (85, .dat (.bool (decide (numN s < 0) && !(decide (o = 1) && decide (i = 1) && decide (s = wAny)))))], [.box ((insL zI).map .dat), .row none ((num.set i (numN s)).map (D.int .i64))], 0, []⟩ ?_ ?_
     ·refine sem_of_awp (Γ := tbl tabRi) tabRi_ok _ _ _ ?_
      unfold wAny
      generalize numN s = z at *
      generalize num.set i z = num' at *
      by_cases c1 : z < 0
      ·by_cases c2 : o = 1
       ·by_cases c3 : i = 1
        ·subst c3
         by_cases c4 : s = [97, 110, 121]
         ·simp only [go_sem, k0, k5, k5', kr, hn, hnx, hset5, List.length_cons, List.length_map, Int.toNat_natCast, c1, c2, c4, eq_self, decide_true, Bool.and_self, Bool.not_true, Bool.and_false]
          exact ⟨by omega, le_slots' (by simp only [go_sem])⟩
         ·simp only [go_sem, k0, k5, k5', kr, hn, hnx, hset5, List.length_cons, List.length_map, Int.toNat_natCast, c1, c2, c4, eq_self, decide_true, decide_false, Bool.and_self, Bool.and_false, Bool.not_false]
          exact ⟨by omega, le_slots' (by simp only [go_sem])⟩
        ·have c3' : ¬ (i : Int) = 1 := by omega
         simp only [go_sem, k0, k5, k5', kr, hn, hnx, hset5, List.length_cons, List.length_map, Int.toNat_natCast, c1, c2, c3', c3, eq_self, decide_true, decide_false, Bool.and_self, Bool.and_false, Bool.false_and, Bool.not_false]
         exact le_slots' (by simp only [go_sem])
       ·simp only [go_sem, k0, k5, k5', kr, hn, hnx, hset5, List.length_cons, List.length_map, Int.toNat_natCast, c1, c2, decide_true, decide_false, Bool.and_self, Bool.and_false, Bool.false_and, Bool.not_false]
        exact le_slots' (by simp only [go_sem])
      ·simp only [go_sem, k0, k5, k5', kr, hn, hnx, hset5, List.length_cons, List.length_map, Int.toNat_natCast, c1, decide_false, Bool.false_and]
       exact le_slots' (by simp only [go_sem])
     by_cases hg : numN s < 0 /\ ¬ (o = 1 /\ i = 1 /\ s = wAny)
     ·have e85 : (decide (numN s < 0) && !(decide (o = 1) && decide (i = 1) && decide (s = wAny))) = true := by
       simp only [hg.1, decide_true, Bool.true_and, Bool.not_eq_true', Bool.and_eq_false_iff, decide_eq_false_iff_not]
       by_cases q1 : o = 1
       ·by_cases q2 : i = 1
        ·exact .inr fun q3 => hg.2 ⟨q1, q2, q3⟩
        ·exact .inl (.inr q2)
       ·exact .inl (.inl q1)
      rw [if_pos hg] at hI
      rw [← hI]
      simp only [go_sem, e85, finW]
      simp only [go_sem, insL, zI, List.map_cons, List.map_nil]
      refine post_resO (mv' := []) (.inl rfl) [.cell 2 36, .tmp 3] rfl (fun _ h => h) ?_
      simp only [go_sem]
      exact le_fin (by rfl) (by simp only [AV.under, AV.unders, and_self])
     ·have e85 : (decide (numN s < 0) && !(decide (o = 1) && decide (i = 1) && decide (s = wAny))) = false := by
       rw [Bool.eq_false_iff]; intro h
       apply hg
       simp only [Bool.and_eq_true, Bool.not_eq_true', Bool.and_eq_false_iff, decide_eq_false_iff_not, decide_eq_true_eq] at h
       refine ⟨h.1, fun hh => ?_⟩
       rcases h.2 with (h2 | h2) | h2
       ·exact h2 hh.1
       ·exact h2 hh.2.1
       ·exact h2 hh.2.2
      rw [if_neg hg, hd'] at hI
      simp only [go_sem, e85]
      refine ⟨inR_i64.2 (by omega), (i + 1, num.set i (numN s), p), ⟨by show 1 <= i + 1; omega, by show i + 1 <= m; omega, hset5, hI⟩, by show m - (i + 1) < _; omega, le_slots' (by simp only [go_sem, Int.natCast_add, Int.cast_ofNat_Int])⟩
  ·have him' : i = m := by omega
   subst him'
   have k1 : ¬ (i : Int) < (i : Int) := by omega
   have hdn : L.drop (i - 1) = [] := List.drop_eq_nil_of_le (by omega)
   rw [hdn] at hI
   simp only [rloop] at hI
   rw [← hI]
   have hb3' : ¬ (i : Int) < ((r.length + 1 : Nat) : Int) ∨ o = 1 := hb3
   obtain ⟨a, b, c, d, e, rfl⟩ : ∃ a b c d e, num = [a, b, c, d, e] := by
    match num, hnl with
    | [a, b, c, d, e], _ => exact ⟨a, b, c, d, e, rfl⟩
   have hmi : (i : Int) <= ((r.length + 1 : Nat) : Int) := by omega
   simp only [go_sem, k1, decide_false]
   have hsl : ((D.str f :: r.map D.str).drop i).take (((r.length + 1 : Nat) : Int) - (i : Int)).toNat = ((f :: r).drop i).map D.str := by
    rw [List.take_of_length_le (by simp), List.map_drop, List.map_cons]
   have hpf : ∀ g C, (g, C) ∈ tabRi -> g ∈ [43, 44] -> ∃ R, C = dataC R := by
    intro g C h _
    simp only [tabRi, List.mem_cons, Prod.mk.injEq, List.not_mem_nil, or_false] at h
    rcases h with ⟨_, rfl⟩ | ⟨_, rfl⟩ | ⟨_, rfl⟩ | ⟨_, rfl⟩ | ⟨_, rfl⟩ <;> exact ⟨_, rfl⟩
   refine sem_drawU [] [] (pf := [43, 44]) (mf := []) mixed tabRi_ok (pure_of hpf) (grow_of hpf) noMk (ones [0, 1, 2, 3, 4, 5, 6, 7, 8]) (by kernel_rfl) ?_
   simp only [go_sem, List.map_cons, List.map_nil, List.length_cons, List.length_map, hn0, hl0]
   refine call_data buildR (by simp) [.int .i64 o, .int .i64 p, .agg (([a, b, c, d, e] : List Int).map (D.int .i64)), .str f] _ rfl ⟨o, p, a, b, c, d, e, f, rfl, rfl⟩ (.inl rfl) ?_
   by_cases h1 : o = 1
   ·have hx : (buildI o p [a, b, c, d, e] f).flags = 0 := by subst h1; rfl
    have hfin : finW o f ((f :: r).drop i) (some ([a, b, c, d, e], p)) = optI (buildI o p [a, b, c, d, e] f) ((f :: r).drop i) := if_pos h1
    rw [hfin]
    generalize buildI o p [a, b, c, d, e] f = x at *
    simp only [go_sem, h1, eq_self, decide_true]
    refine sem_drawU [] [] (pf := [43, 44]) (mf := []) mixed tabRi_ok (pure_of hpf) (grow_of hpf) noMk (ones [0, 1, 2, 3, 4, 5, 6, 7, 8]) (by kernel_rfl) ?_
    simp only [go_sem, hmi, hn00, List.length_cons, List.length_map, Int.toNat_natCast, hsl]
    refine ⟨Int.le_refl _, call_data optR (by simp) [insD x, .sl none (((f :: r).drop i).map .str)] _ rfl ⟨x, (f :: r).drop i, rfl, hx, by rw [List.length_drop]; omega, fun s hs => hws s (List.mem_of_mem_drop hs), rfl⟩ (.inl rfl) ?_⟩
    simp only [go_sem, insL, zI, List.map_cons, List.map_nil]
    refine post_resO (mv' := []) (.inl rfl) [.cell 2 36, .tmp 3] rfl (fun _ h => h) ?_
    simp only [go_sem]
    exact le_fin (by rfl) (by simp only [AV.under, AV.unders, and_self])
   ·have hfin : finW o f ((f :: r).drop i) (some ([a, b, c, d, e], p)) = (buildI o p [a, b, c, d, e] f, true) := if_neg h1
    rw [hfin]
    generalize buildI o p [a, b, c, d, e] f = x at *
    simp only [go_sem, insL, zI, List.map_cons, List.map_nil, h1, decide_false]
    refine post_resO (mv' := []) (.inl rfl) [.cell 2 36, .tmp 3] rfl (fun _ h => h) ?_
    simp only [go_sem]
    exact le_fin (by rfl) (by simp only [AV.under, AV.unders, and_self])
end Go.AM
namespace Go.AM
open Go Go.Proofs
abbrev idxB (s : Str) (c : UInt8) : Int := Lib.indexByte s c
theorem idxB_lt (c : UInt8) : ∀ s : Str, idxB s c < s.length ∨ (s = [] /\ idxB s c = -1)
 | [] => .inr ⟨rfl, rfl⟩
 | b :: s => by
  left
  unfold idxB Lib.indexByte
  have := idxB_lt c s
  unfold idxB at this
  simp only [List.length_cons]
  split
  ·omega
  ·split
   ·omega
   ·rcases this with h | ⟨rfl, h⟩
    ·omega
    ·rw [h]; omega
theorem idxB_le (s : Str) (c : UInt8) : -1 <= idxB s c /\ idxB s c < s.length + 1 := by
 have h1 := Lib.indexByte_ge s c
 have h2 := idxB_lt c s
 unfold idxB at *
 omega
theorem ext_indexByte (s : Str) (c : UInt8) : ExtOk Tryd.prog 70 [.dat (.str s), .dat (.int .u8 c.toNat)] (.dat (.int .i64 (idxB s c))) := by
 refine ext_of (e := Extern.BytealgIndexByte.indexByte) Tryd.func70 (by decide) rfl (by kernel_rfl) (by kernel_rfl) ?_
 intro F φ w vs hs
 simp only [AV.Rs] at hs
 obtain ⟨v1, r1, rfl, h1, v2, r2, rfl, h2, rfl⟩ := hs
 obtain ⟨rfl, hl⟩ := R_str.1 h1
 obtain ⟨rfl, _⟩ := R_int.1 h2
 refine ⟨_, Lib.run_indexByteString _ _ _, ?_⟩
 have e : ((c.toNat : Nat) : Int).toNat.toUInt8 = c := by simp
 rw [e]
 refine R_int.2 ⟨rfl, ?_⟩
 have := idxB_le s c
 simp only [maxLen] at hl
 exact inR_i64.2 (by unfold idxB at *; show -9223372036854775808 <= _ /\ _; omega)
def idxBR (ds : List D) (v : AV) : Prop := ∃ (s : Str) (c : UInt8), ds = [.str s, .int .u8 c.toNat] /\ v = .dat (.int .i64 (idxB s c))
theorem indexByte_ok : OkF Tryd.prog 65 (dataC idxBR) := by
 refine okF_data Tryd.func65 rfl (by decide) ?_
 rintro ds v ⟨s, c, rfl, rfl⟩
 refine sem_of_awpK [1] (Γ := tbl []) okG_nil _ _ _ ?_
 simp only [go_sem, Tryd.ntmps65]
 refine sem_regionE (Γ := tbl []) okG_nil ?_
 refine .inr ?_
 simp only [go_sem]
 refine .inr ?_
 simp only [go_sem]
 refine .inl ?_
 refine ⟨_, ext_indexByte s c, ?_⟩
 simp only [go_sem]
 refine .inr ?_
 simp only [go_sem]
 exact post_data (.inl rfl) [4] rfl trivial rfl
def idxSR (ds : List D) (v : AV) : Prop := ∃ (s : Str) (c : UInt8), ds = [.str s, .str [c]] /\ v = .dat (.int .i64 (idxB s c))
abbrev tabIx : List (Nat × Contract) := [(65, dataC idxBR)]
theorem tabIx_ok : OkG Tryd.prog (tbl tabIx) := okG_cons indexByte_ok okG_nil
theorem sliteIndex_ok : OkF Tryd.prog 63 (dataC idxSR) := by
 refine okF_data Tryd.func63 rfl (by decide) ?_
 rintro ds v ⟨s, c, rfl, rfl⟩
 refine sem_of_awp (Γ := tbl tabIx) tabIx_ok _ _ _ ?_
 by_cases h : [c] = s
 ·subst h
  have h0 : idxB [c] c = 0 := by simp [idxB, Lib.indexByte]
  simp only [go_sem, Tryd.ntmps63, List.length_cons, List.length_nil, eq_self, decide_true]
  rw [h0]
  exact post_data (.inl rfl) [4] rfl trivial rfl
 ·simp only [go_sem, Tryd.ntmps63, List.length_cons, List.length_nil, eq_self, decide_true, h]
  refine call_data idxBR (by simp) [.str s, .int .u8 c.toNat] _ rfl ⟨s, c, rfl, rfl⟩ (.inl rfl) ?_
  simp only [go_sem]
  exact post_data (.inl rfl) [4] rfl trivial rfl
abbrev tabIy : List (Nat × Contract) := [(63, dataC idxSR)]
theorem tabIy_ok : OkG Tryd.prog (tbl tabIy) := okG_cons sliteIndex_ok okG_nil
theorem strIndex_ok : OkF Tryd.prog 57 (dataC idxSR) := by
 refine okF_data Tryd.func57 rfl (by decide) ?_
 rintro ds v ⟨s, c, rfl, rfl⟩
 refine sem_of_awp (Γ := tbl tabIy) tabIy_ok _ _ _ ?_
 simp only [go_sem, Tryd.ntmps57]
 refine call_data idxSR (by simp) [.str s, .str [c]] _ rfl ⟨s, c, rfl, rfl⟩ (.inl rfl) ?_
 simp only [go_sem]
 exact post_data (.inl rfl) [4] rfl trivial rfl
def sqsR (ds : List D) (v : AV) (ob : List Obj) : Prop := ∃ (s : Str) (c : UInt8), ds = [.str s, .str [c], .int .i64 0] /\ v = .fn 55 [.ptr 1 0 0, .ptr 0 0 0, .ptr 2 0 0] /\ ob = [.box [.dat (.str s)], .box [.dat (.str [c])], .box [.dat (.int .i64 0)]]
theorem splitSeqI_ok : OkF Tryd.prog 35 (madeC sqsR) := by
 refine okF_made Tryd.func35 rfl (by decide) ?_
 rintro ds v ob ⟨s, c, rfl, rfl, rfl⟩
 refine sem_of_awp (Γ := tbl []) okG_nil _ _ _ ?_
 simp only [go_sem, Tryd.ntmps35]
 exact post_own (.inl rfl) [6] rfl rfl (fun _ h => h)
def sqR (ds : List D) (v : AV) (ob : List Obj) : Prop := ∃ (s : Str) (c : UInt8), ds = [.str s, .str [c]] /\ v = .fn 55 [.ptr 1 0 0, .ptr 0 0 0, .ptr 2 0 0] /\ ob = [.box [.dat (.str s)], .box [.dat (.str [c])], .box [.dat (.int .i64 0)]]
abbrev tabSq : List (Nat × Contract) := [(35, madeC sqsR)]
theorem tabSq_ok : OkG Tryd.prog (tbl tabSq) := okG_cons splitSeqI_ok okG_nil
theorem splitSeq_ok : OkF Tryd.prog 23 (madeC sqR) := by
 refine okF_made Tryd.func23 rfl (by decide) ?_
 rintro ds v ob ⟨s, c, rfl, rfl, rfl⟩
 refine sem_of_awp (Γ := tbl tabSq) tabSq_ok _ _ _ ?_
 simp only [go_sem, Tryd.ntmps23]
 refine call_made sqsR (by simp) [.str s, .str [c], .int .i64 0] _ _ rfl rfl ⟨s, c, rfl, rfl, rfl⟩ ?_
 simp only [go_sem, AV.shift, Obj.shift, AV.shifts]
 exact post_own (.inl rfl) [4] rfl rfl (fun _ h => h)
end Go.AM

