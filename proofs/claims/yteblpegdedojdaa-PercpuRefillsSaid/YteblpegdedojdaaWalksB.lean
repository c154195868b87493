/- Own work over the model of the kit. -/
import Derived.Test.YteblpegdedojdaaWalks
import Derived.Test.YteblpegdedojdaaLibD
import Derived.Test.YteblpegdedojdaaLibE
set_option linter.unusedSimpArgs false
set_option linter.unusedVariables false
namespace Go.AM
open Go Go.Proofs

abbrev awakeR : List D → AV → Prop := fun ds v => (ds, v) ∈ [(([] : List D), AV.dat (.bool true))]
theorem awake_ok : OkF Try.prog 10 (dataC awakeR) :=
  okF_eval mixed names 1000 _ (by intro x hx; simp only [List.mem_singleton] at hx; subst hx; exact awake_eval)
theorem awakeR_true : awakeR [] (.dat (.bool true)) := by simp [awakeR]

theorem want34 : wantT Try.prog 34 = none := by kernel_rfl
theorem want3 : wantT Try.prog 3 = none := by kernel_rfl

/-- What comes in: a list of numbers. -/
theorem ints_data {m : Nat} {d : D} (h : argT Try.prog (m + 2) 34 d) : ∃ l : List Int, d = .sl none (ints l) ∧ l.length ≤ maxLen ∧ ∀ n ∈ l, inR .i64 n := by
  obtain ⟨xs, rfl, hl, hx⟩ := arg_slice (e := 3) (by kernel_rfl) h
  rw [want3]
  obtain ⟨l, rfl, hr⟩ := list_of (.int .i64) (Q := fun n => inR .i64 n) (fun x hx' => arg_int (k := .i64) (by kernel_rfl) (hx x hx'))
  exact ⟨l, rfl, by simpa using hl, hr⟩

/-- A cache of any make. -/
theorem cpu_arg {m : Nat} {d : D} (h : argT Try.prog (m + 4) 24 d) : ∃ L : List (List Int), d = dC L := by
  obtain ⟨ds, rfl, hf⟩ := arg_fields (ts := [22]) (by kernel_rfl) h
  obtain ⟨a, b, rfl, ha, rfl⟩ := hf
  rw [dataT_slice (e := 34) (by kernel_rfl), want34] at ha
  obtain ⟨xs, rfl, _, hx⟩ := ha
  obtain ⟨L, rfl, _⟩ := list_of dInts (Q := fun _ => True) (fun x hx' => by
    obtain ⟨l, hl, _⟩ := ints_data (hx x hx')
    exact ⟨l, hl, trivial⟩)
  exact ⟨L, rfl⟩
theorem int_arg {m : Nat} {d : D} (h : argT Try.prog (m + 1) 3 d) : ∃ n : Int, d = .int .i64 n ∧ inR .i64 n := arg_int (by kernel_rfl) h

theorem few_small {L : List (List Int)} (h : fewB L = true) : Small L := by
  simp only [fewB, Bool.and_eq_true, decide_eq_true_eq, List.all_eq_true] at h
  exact ⟨h.1, fun l hl => by have := h.2 l hl; omega⟩
theorem few_of_len {L : List (List Int)} : True := trivial

def newL (z : Int) : List (List Int) := if z < 1 ∨ 6 < z then [] else List.replicate z.toNat []
def newE (z : Int) : Int := if z < 1 ∨ 6 < z then 1 else 0
theorem newR_of (z : Int) : newR [.int .i64 z] (.tup [.dat (.agg [.sl none ((newL z).map dInts)]), .dat (.int .i64 (newE z))]) := by
  refine ⟨z, rfl, ?_⟩
  unfold newL newE
  split <;> rfl
theorem newL_len (z : Int) : (newL z).length ≤ 6 := by
  unfold newL; split <;> simp; omega
theorem newL_nil (z : Int) : ∀ l ∈ newL z, l = [] := by
  unfold newL; split
  · simp
  · intro l hl; exact List.eq_of_mem_replicate hl

/-! The law PercpuChecks. -/
abbrev tabC : List (Nat × Contract) := [(9, dataC fewR), (10, dataC awakeR), (11, dataC newR), (12, dataC newR), (13, dataC sameR), (14, dataC checkR), (15, dataC checkR), (16, dataC countR), (17, dataC countR)]
theorem tabC_ok : OkG Try.prog (tbl tabC) := okG_cons few_ok (okG_cons awake_ok (okG_cons new_ok (okG_cons refNew_ok (okG_cons same_ok (okG_cons pcheck_ok (okG_cons rcheck_ok (okG_cons pcount_ok (okG_cons rcount_ok okG_nil))))))))
theorem pureC : PureFns (tbl tabC) [10, 13, 14, 15, 16, 17] := by
  rintro g args own v own' mv hg ⟨C, hm, hC⟩
  simp only [tabC, List.mem_cons, Prod.mk.injEq, List.not_mem_nil, or_false] at hm
  rcases hm with ⟨_, rfl⟩ | ⟨_, rfl⟩ | ⟨_, rfl⟩ | ⟨_, rfl⟩ | ⟨_, rfl⟩ | ⟨_, rfl⟩ | ⟨_, rfl⟩ | ⟨_, rfl⟩ | ⟨_, rfl⟩ <;> (obtain ⟨_, _, _, h1, h2, _⟩ := hC; exact ⟨h1, h2⟩)

def checksR (ds : List D) (v : AV) : Prop := ∃ L z i, ds = [dC L, .int .i64 z, .int .i64 i] ∧ v = .dat (.bool true)

set_option maxRecDepth 100000 in
theorem checks_ok : OkF Try.prog 3 (dataC checksR) := by
  refine okF_data Try.func3 rfl (by decide) ?_
  rintro ds v ⟨L, z, i, rfl, rfl⟩
  refine sem_of_awp (Γ := tbl tabC) tabC_ok _ _ _ ?_
  simp only [go_sem, Try.ntmps3, dC]
  refine call_data fewR (by simp) _ _ rfl ⟨L, rfl, rfl⟩ (.inl rfl) ?_
  cases hf : fewB L
  · simp only [go_sem, hf]
    refine call_data awakeR (by simp) _ _ rfl awakeR_true (.inl rfl) ?_
    simp only [go_sem]
    exact post_data (.inl rfl) [6] rfl trivial rfl
  · have hL := few_small hf
    simp only [go_sem, hf]
    have hlen := newL_len z
    have hnil := newL_nil z
    refine call_data newR (by simp) _ _ rfl (newR_of z) (.inl rfl) ?_
    simp only [go_sem]
    refine call_data newR (by simp) _ _ rfl (newR_of z) (.inl rfl) ?_
    simp only [go_sem]
    refine sem_draw (pf := [10, 13, 14, 15, 16, 17]) mixed tabC_ok pureC [0, 1, 2, 3, 4, 5, 6, 7, 8, 9, 10, 11, 12, 13, 14, 15, 16, 17, 18, 19, 20, 21, 22, 23, 24, 25, 26, 27, 28, 29] (by kernel_rfl) ?_
    simp only [go_sem]
    have hsame : sameR [.agg [.sl none ((newL z).map dInts)], .agg [.sl none ((newL z).map dInts)]] (.dat (.bool true)) :=
      ⟨newL z, newL z, by omega, fun l hl => by rw [hnil l hl]; simp, rfl, by simp⟩
    refine call_data sameR (by simp) _ _ rfl hsame (.inl rfl) ?_
    simp only [go_sem, decide_true, eq_self]
    refine call_data checkR (by simp) _ _ rfl ⟨L, z, hL, rfl, rfl⟩ (.inl rfl) ?_
    simp only [go_sem]
    refine call_data checkR (by simp) _ _ rfl ⟨L, z, hL, rfl, rfl⟩ (.inl rfl) ?_
    simp only [go_sem, decide_true, eq_self]
    refine call_data countR (by simp) _ _ rfl ⟨L, i, hL, rfl, rfl⟩ (.inl rfl) ?_
    simp only [go_sem]
    refine call_data countR (by simp) _ _ rfl ⟨L, i, hL, rfl, rfl⟩ (.inl rfl) ?_
    simp only [go_sem, decide_true, eq_self]
    refine call_data awakeR (by simp) _ _ rfl awakeR_true (.inl rfl) ?_
    simp only [go_sem]
    exact post_data (.inl rfl) [6] rfl trivial rfl
end Go.AM

namespace Go.AM
open Go Go.Proofs

/-! ref.Clone: a row of references to copies. -/
abbrev rowsD (L : List (List Int)) : List (List D) := L.map ints
theorem rowsD_get {L : List (List Int)} {k : Nat} (h : k < L.length) : (rowsD L).getD k [] = ints (L.getD k []) := by
  simp [List.getD_eq_getElem?_getD, List.getElem?_map, List.getElem?_eq_getElem h]
theorem rowsD_snoc {L : List (List Int)} {k : Nat} (h : k < L.length) : rowsD (L.take (k + 1)) = rowsD (L.take k) ++ [ints (L.getD k [])] := by
  rw [List.take_succ_eq_append_getElem h]
  simp only [rowsD, List.map_append, List.map_cons, List.map_nil, List.getD_eq_getElem?_getD, List.getElem?_eq_getElem h, Option.getD_some]

def cloneR (ds : List D) (v : AV) (ob : List Obj) : Prop := ∃ L, Small L ∧ ds = [dC L] ∧ v = .agg [.sl 3 0 L.length] ∧
  ob = [.box [.dat (.sl none (L.map dInts))], .box [.sl 3 0 L.length], .box [.sl 3 0 L.length], .vec (famR 4 (rowsD L))] ++ famO none (rowsD L)

set_option maxRecDepth 100000 in
theorem clone_ok : OkF Try.prog 34 (madeC cloneR) := by
  refine okF_made Try.func34 rfl (by decide) ?_
  rintro ds v ob ⟨L, hL, rfl, rfl, rfl⟩
  have h20 := hL.1
  refine sem_of_awp (Γ := tbl []) okG_nil _ _ _ ?_
  simp only [go_sem, Try.ntmps34, dC]
  refine sem_le (le_addnilV 2 0 (cs := [.nils]) rfl rfl (Nat.zero_le _)) ?_
  refine sem_loop (fun k : Nat => ⟨slotsOf 25 [(1, .ptr 0 0 0), (2, .ptr 1 0 0), (3, .ptr 2 0 0), (8, .dat (.sl none (L.map dInts))), (9, .dat (.int .i64 L.length)), (10, .dat (.int .i64 k))],
      [.box [.dat (.sl none (L.map dInts))], .box [.nils], .box [.sl 3 0 k], .vec (famR 4 (rowsD (L.take k)))] ++ famO none (rowsD (L.take k)), 0, []⟩)
    (fun k => k ≤ L.length) (fun k => L.length - k) 0 (Nat.zero_le _) ?_ ?_
  · simp only [List.take_zero, List.map_nil, famR, famO, List.append_nil]
    exact le_slots' (by simp only [go_sem, Int.natCast_zero])
  · intro k hk
    refine sem_of_awp (Γ := tbl []) okG_nil _ _ _ ?_
    rcases Nat.lt_or_ge k L.length with hk1 | hge
    · have hlt : (k : Int) < (L.length : Int) := by omega
      have hgl := hL.get hk1
      have hsn := rowsD_snoc hk1
      have hM : (rowsD (L.take k)).length = k := by simp; omega
      have hn := nth_dInts hk1
      generalize L.getD k [] = l at *
      generalize rowsD (L.take k) = M at *
      have hget : ∀ x y : Obj, (famO none M ++ [x] ++ [y]).getD (k + 1) Obj.dead = y := fun x y => by
        have h1 : (famO none M ++ [x]).length = k + 1 := by simp [famO, hM]
        simp only [List.getD_eq_getElem?_getD]
        rw [← h1, List.getElem?_concat_length]
        rfl
      have hfl : (famR 4 M).length = k := by rw [famR_length, hM]
      have hft : (famR 4 M).take k = famR 4 M := List.take_of_length_le (by omega)
      simp (contextual := true) only [go_sem, hlt, hn, Int.natCast_nonneg, famO_length, hM, hget, hfl, hft, List.take_succ_cons, List.take_zero]
      refine ⟨by omega, by omega, by omega, by omega, inR_i64.2 (by omega), k + 1, hk1, by omega, ?_⟩
      rw [hsn, famR_snoc, famO_snoc, hM]
      have hk4 : k + 1 + 1 + 1 + 1 = 4 + k := by omega
      have hkill : AV.kills 3 (famR 4 M ++ [AV.sl (4 + k) 0 l.length]) = famR 4 M ++ [AV.sl (4 + k) 0 (ints l).length] := by
        rw [kills_app, famR_kills 4 M 3 (by omega)]
        simp only [AV.kills, AV.kill, List.length_map]
        rw [if_neg (by omega)]
      have hmk : List.map (Obj.kill 3) (famO none M ++ [Obj.row none (ints l)] ++ [Obj.vec [AV.sl (4 + k) 0 l.length]]) = (famO none M ++ [Obj.row none (ints l)]) ++ [Obj.vec [AV.sl (4 + k) 0 l.length]] := by
        rw [List.map_append, List.map_append, famO_kill]
        simp only [List.map_cons, List.map_nil, Obj.kill, AV.kills, AV.kill]
        rw [if_neg (by omega)]
      simp only [hk4, hkill, hmk]
      refine le_end (own := .box [.dat (.sl none (L.map dInts))] :: .box [.nils] :: .box [.sl 3 0 (k + 1)] :: .vec (famR 4 M ++ [AV.sl (4 + k) 0 (ints l).length]) :: (famO none M ++ [.row none (ints l)])) (ex := [.vec [AV.sl (4 + k) 0 l.length]]) (Nat.zero_le _) ?_ ?_ ?_
      · simp only [go_sem, Int.natCast_add, Int.cast_ofNat_Int]
      · simp only [go_sem, famO_length]
        omega
      · have hu := famR_under 4 M (4 + k + 1) (by omega)
        have hf : Obj.allUnder (4 + k + 1) (famO none M ++ [.row none (ints l)]) := allUnder_app (famO_under _ _ _) (by simp [Obj.allUnder, Obj.under])
        have hlen : (Obj.box [AV.dat (D.sl none (L.map dInts))] :: Obj.box [AV.nils] :: Obj.box [AV.sl 3 0 (k + 1)] :: Obj.vec (famR 4 M ++ [AV.sl (4 + k) 0 (ints l).length]) :: (famO none M ++ [Obj.row none (ints l)])).length = 4 + k + 1 := by simp [famO, hM]; omega
        generalize hN : (Obj.box [AV.dat (D.sl none (L.map dInts))] :: Obj.box [AV.nils] :: Obj.box [AV.sl 3 0 (k + 1)] :: Obj.vec (famR 4 M ++ [AV.sl (4 + k) 0 (ints l).length]) :: (famO none M ++ [Obj.row none (ints l)])).length = N at *
        subst hlen
        refine ⟨by simp only [go_sem], by simp only [go_sem], ?_, ?_, hf⟩
        · simp only [Obj.under, AV.unders, AV.under, and_true]; omega
        · simp only [Obj.under]
          exact unders_app hu (by simp only [AV.unders, AV.under, and_true]; omega)
    · have hke : k = L.length := by omega
      subst hke
      have hlt : ¬ ((L.length : Int) < (L.length : Int)) := by omega
      simp only [go_sem, hlt, List.take_length]
      refine post_resO (.inl rfl) [.cell 2 24] rfl (fun _ h => h) ?_
      simp only [go_sem]
      exact Le.refl _

/-! ref.Has. -/
def hasR (ds : List D) (v : AV) : Prop := ∃ L f, Small L ∧ ds = [dC L, .int .i64 f] ∧ v = .dat (.bool (decide (f ∈ L.flatten)))

theorem mem_take_snoc {l : List Int} {j : Nat} {f : Int} (hj : j < l.length) (h : f ∉ l.take j) (hne : l.getD j 0 ≠ f) : f ∉ l.take (j + 1) := by
  rw [take_snoc hj]
  simp only [List.mem_append, List.mem_singleton, not_or]
  exact ⟨h, fun e => hne e.symm⟩
theorem getD_mem_flat {L : List (List Int)} {k j : Nat} (hk : k < L.length) (hj : j < (L.getD k []).length) : (L.getD k []).getD j 0 ∈ L.flatten := by
  refine List.mem_flatten.2 ⟨L.getD k [], ?_, ?_⟩
  · rw [List.getD_eq_getElem?_getD, List.getElem?_eq_getElem hk]
    exact List.getElem_mem hk
  · rw [List.getD_eq_getElem?_getD (l := L.getD k []), List.getElem?_eq_getElem hj]
    exact List.getElem_mem hj

set_option maxRecDepth 100000 in
theorem has_ok : OkF Try.prog 35 (dataC hasR) := by
  refine okF_data Try.func35 rfl (by decide) ?_
  rintro ds v ⟨L, f, hL, rfl, rfl⟩
  have h20 := hL.1
  refine sem_of_awp (Γ := tbl []) okG_nil _ _ _ ?_
  simp only [go_sem, Try.ntmps35, dC]
  refine sem_loop (fun k : Nat => ⟨slotsOf 27 [(1, .dat (.int .i64 f)), (2, .ptr 0 0 0), (10, .dat (.sl none (L.map dInts))), (11, .dat (.int .i64 L.length)), (12, .dat (.int .i64 k))], [.box [.dat (.sl none (L.map dInts))]], 0, []⟩)
    (fun k => k ≤ L.length ∧ f ∉ (L.take k).flatten) (fun k => L.length - k) 0 ⟨Nat.zero_le _, by simp⟩ ?_ ?_
  · exact le_slots' (by simp only [go_sem, Int.natCast_zero])
  · rintro k ⟨hk, hno⟩
    refine sem_of_awp (Γ := tbl []) okG_nil _ _ _ ?_
    rcases Nat.lt_or_ge k L.length with hk1 | hge
    · have hlt : (k : Int) < (L.length : Int) := by omega
      have hl := hL.get hk1
      simp only [go_sem, hlt, nth_dInts hk1, Int.natCast_nonneg]
      refine sem_loop (fun j : Nat => ⟨slotsOf 27 [(1, .dat (.int .i64 f)), (2, .ptr 0 0 0), (10, .dat (.sl none (L.map dInts))), (11, .dat (.int .i64 L.length)), (12, .dat (.int .i64 k)),
          (16, .dat (.sl none (ints (L.getD k [])))), (17, .dat (.int .i64 (L.getD k []).length)), (18, .dat (.int .i64 j))], [.box [.dat (.sl none (L.map dInts))]], 0, []⟩)
        (fun j => j ≤ (L.getD k []).length ∧ f ∉ (L.getD k []).take j) (fun j => (L.getD k []).length - j) 0 ⟨Nat.zero_le _, by simp⟩ ?_ ?_
      · exact le_slots' (by simp only [go_sem, Int.natCast_zero])
      · rintro j ⟨hj, hno2⟩
        refine sem_of_awp (Γ := tbl []) okG_nil _ _ _ ?_
        rcases Nat.lt_or_ge j (L.getD k []).length with hj1 | hge2
        · have hlt2 : (j : Int) < ((L.getD k []).length : Int) := by omega
          simp (contextual := true) only [go_sem, hlt2, nth_ints hj1, Int.natCast_nonneg]
          refine ⟨fun he => ?_, fun hne => ⟨inR_i64.2 (by omega), j + 1, ⟨hj1, mem_take_snoc hj1 hno2 hne⟩, by omega, ?_⟩⟩
          · refine post_data (.inl rfl) [4] rfl trivial ?_
            have hm := getD_mem_flat hk1 hj1
            rw [he] at hm
            simp [tmpsOf, resV, hm]
          · exact le_slots' (by simp only [go_sem, Int.natCast_add, Int.cast_ofNat_Int])
        · have hje : j = (L.getD k []).length := by omega
          subst hje
          rw [List.take_length] at hno2
          have hlt2 : ¬ (((L.getD k []).length : Int) < ((L.getD k []).length : Int)) := by omega
          simp only [go_sem, hlt2]
          refine ⟨inR_i64.2 (by omega), k + 1, ⟨hk1, ?_⟩, by omega, ?_⟩
          · rw [take_flat hk1]
            simp only [List.mem_append, not_or]
            exact ⟨hno, hno2⟩
          · exact le_slots' (by simp only [go_sem, Int.natCast_add, Int.cast_ofNat_Int])
    · have hke : k = L.length := by omega
      subst hke
      rw [List.take_length] at hno
      have hlt : ¬ ((L.length : Int) < (L.length : Int)) := by omega
      simp only [go_sem, hlt]
      exact post_data (.inl rfl) [4] rfl trivial (by simp [tmpsOf, resV, hno])
end Go.AM

namespace Go.AM
open Go Go.Proofs

/-! ref.Take. -/
abbrev tab9 : List (Nat × Contract) := [(32, dataC zoneR), (34, madeC cloneR)]
theorem tab9_ok : OkG Try.prog (tbl tab9) := okG_cons rzone_ok (okG_cons clone_ok okG_nil)

theorem rep_get (n : Nat) (x : Obj) : (List.replicate n Obj.dead ++ [x]).getD n Obj.dead = x := by
  simp only [List.getD_eq_getElem?_getD]
  rw [List.getElem?_append_right (by simp)]
  simp
theorem rep_set (n : Nat) (x y : Obj) : (List.replicate n Obj.dead ++ [x]).set n y = List.replicate n Obj.dead ++ [y] := by
  rw [List.set_append_right _ _ (by simp)]
  simp
theorem rep_frz (n o : Nat) (ag : Option Nat) (xs : List D) : (List.replicate n Obj.dead).map (Obj.frz o ag xs) = List.replicate n Obj.dead := by simp [Obj.frz]
theorem dInts_rows (L : List (List Int)) : (rowsD L).map (fun l => AV.dat (.sl none l)) = (L.map dInts).map .dat := by simp [dInts]

theorem fam_last {L : List (List Int)} (x : Obj) : (famO none (rowsD L) ++ [x]).getD L.length Obj.dead = x := by
  have h1 : (famO none (rowsD L)).length = L.length := by simp [famO]
  simp only [List.getD_eq_getElem?_getD]
  rw [← h1, List.getElem?_concat_length]
  rfl
theorem fam_last_set {L : List (List Int)} (x y : Obj) : (famO none (rowsD L) ++ [x]).set L.length y = famO none (rowsD L) ++ [y] := by
  have h1 : (famO none (rowsD L)).length = L.length := by simp [famO]
  rw [List.set_append_right _ _ (by omega)]
  simp [h1]

/-- Behind a clone: the rows as data. -/
theorem le_cloned {s : List AV} {L : List (List Int)} {a b : List AV} {p : Obj} :
    Le ⟨s, [.box a, .box b, .box [.dat (.sl none (L.map dInts))], .box [.sl 5 0 L.length], .box [.sl 5 0 L.length], .vec (famR 6 (rowsD L))] ++ famO none (rowsD L) ++ [p], 0, []⟩
      ⟨frzFs none 6 (rowsD L) s, [frzFo none 6 (rowsD L) (.box a), frzFo none 6 (rowsD L) (.box b), .box [.dat (.sl none (L.map dInts))], .box [.sl 5 0 L.length], .box [.sl 5 0 L.length], .row none (L.map dInts)] ++ List.replicate L.length .dead ++ [frzFo none 6 (rowsD L) p], 0, []⟩ := by
  have h := le_family (ag := none) (rowsD L) (s := s) (pre := [.box a, .box b, .box [.dat (.sl none (L.map dInts))], .box [.sl 5 0 L.length], .box [.sl 5 0 L.length], .vec (famR 6 (rowsD L))]) (post := [p]) (n0 := 0) (mv := []) (Nat.zero_le _)
  refine Le.trans h ?_
  have hlen : ([Obj.box a, .box b, .box [.dat (.sl none (L.map dInts))], .box [.sl 5 0 L.length], .box [.sl 5 0 L.length], .vec (famR 6 (rowsD L))]).length = 6 := rfl
  rw [hlen]
  have e1 : frzFo none 6 (rowsD L) (.box [.dat (.sl none (L.map dInts))]) = .box [.dat (.sl none (L.map dInts))] := by simp only [frzFo, frzFs, List.map_cons, List.map_nil, frzF_dat]
  have e2 : frzFo none 6 (rowsD L) (.box [.sl 5 0 L.length]) = .box [.sl 5 0 L.length] := by simp only [frzFo, frzFs, List.map_cons, List.map_nil]; rw [frzF_sl _ _ _ (by omega)]
  have e3 : frzFo none 6 (rowsD L) (.vec (famR 6 (rowsD L))) = .vec ((L.map dInts).map .dat) := by simp only [frzFo, frzFs_famR, dInts_rows]
  simp only [List.map_cons, List.map_nil, e1, e2, e3, List.length_map]
  exact le_unvec 5 rfl

/-- Behind a clone: the state as it goes on. -/
theorem le_cloned2 {s s' : List AV} {L : List (List Int)} (hs : slotsLe s s') (hf : frzFs none 6 (rowsD L) s' = s') :
    Le ⟨s, [.box [.dat (.sl none (L.map dInts))], .box [.nils], .box [.dat (.sl none (L.map dInts))], .box [.sl 5 0 L.length], .box [.sl 5 0 L.length], .vec (famR 6 (rowsD L))] ++ famO none (rowsD L) ++ [.box [.sl 5 0 L.length]], 0, []⟩
      ⟨s', [.box [.dat (.sl none (L.map dInts))], .box [.nils], .box [.dat (.sl none (L.map dInts))], .box [.sl 5 0 L.length], .box [.sl 5 0 L.length], .row none (L.map dInts)] ++ List.replicate L.length .dead ++ [.box [.sl 5 0 L.length]], 0, []⟩ := by
  refine Le.trans (le_slots' hs) (Le.trans le_cloned ?_)
  have hsl : frzF none 6 (rowsD L) (.sl 5 0 L.length) = .sl 5 0 L.length := frzF_sl _ _ _ (by omega)
  have hb0 : frzFo none 6 (rowsD L) (.box [.dat (.sl none (L.map dInts))]) = .box [.dat (.sl none (L.map dInts))] := by simp only [frzFo, frzFs, List.map_cons, List.map_nil, frzF_dat]
  have hb1 : frzFo none 6 (rowsD L) (.box [.nils]) = .box [.nils] := by simp only [frzFo, frzFs, List.map_cons, List.map_nil, frzF_nils]
  have hb9 : frzFo none 6 (rowsD L) (.box [.sl 5 0 L.length]) = .box [.sl 5 0 L.length] := by simp only [frzFo, frzFs, List.map_cons, List.map_nil, hsl]
  rw [hb0, hb1, hb9, hf]
  exact Le.refl _
theorem frz_ptr6 {L : List (List Int)} (o : Nat) (h : o < 6 ∨ 6 + L.length ≤ o) : frzF none 6 (rowsD L) (.ptr o 0 0) = .ptr o 0 0 := frzF_ptr _ _ _ (by simpa using h)

set_option maxRecDepth 100000 in
theorem rtake_ok : OkF Try.prog 19 (dataC takeR) := by
  refine okF_data Try.func19 rfl (by decide) ?_
  rintro ds v ⟨L, z, hL, rfl, rfl⟩
  refine sem_of_awpK [8] (Γ := tbl tab9) tab9_ok _ _ _ ?_
  simp only [go_sem, Try.ntmps19, dC]
  refine call_data zoneR (by simp) _ _ rfl ⟨L, z, hL, rfl, rfl⟩ (.inl rfl) ?_
  simp (contextual := true) only [go_sem]
  refine ⟨fun h1 => ?_, fun h1 => ?_⟩
  · refine post_res (.inl rfl) [.cell 4 24, .tmp 5, .tmp 6] rfl ?_
    simp only [go_sem]
    exact le_fin (by simp only [go_sem, takeV, ne_eq, h1, not_false_eq_true, if_true, emptyC]) (by simp only [takeV, ne_eq, h1, not_false_eq_true, if_true]; simp only [go_sem])
  · obtain ⟨_, g1, g2, g3⟩ := zoneE_zero h1
    have hl := hL.get g2
    have hn := nth_dInts g2
    simp (contextual := true) only [go_sem, hn, g1, g3]
    refine ⟨fun h2 => ?_, fun h2 => ?_⟩
    · refine post_res (.inl rfl) [.cell 4 24, .tmp 5, .tmp 6] rfl ?_
      have h2' : (L.getD z.toNat []).length = 0 := by omega
      simp only [go_sem]
      exact le_fin (by simp only [go_sem, takeV, h1, h2', emptyC]) (by simp only [takeV, h1, h2']; simp only [go_sem])
    · refine call_made cloneR (by simp) _ _ _ rfl rfl ⟨L, hL, rfl, rfl, rfl⟩ ?_
      simp only [go_sem, AV.shift, Obj.shift, AV.shifts, shifts_famR, List.map_append, shift_famO, famO_length, List.length_map, fam_last, fam_last_set]
      have hp0 := frz_ptr6 (L := L) 0 (by omega)
      have hp1 := frz_ptr6 (L := L) 1 (by omega)
      have hp9 := frz_ptr6 (L := L) (L.length + 6) (by omega)
      refine sem_le (le_cloned2 (s' := slotsOf 52 [(1, .dat (.int .i64 z)), (2, .ptr 0 0 0), (4, .ptr 1 0 0), (8, .dat (.int .i64 (L.getD z.toNat []).length)), (9, .ptr (L.length + 6) 0 0)]) (by simp only [go_sem]) (by simp only [go_sem, frzFs, frzF_dat, frzF_top, hp0, hp1, hp9])) ?_
      refine sem_of_awp (Γ := tbl tab9) tab9_ok _ _ _ ?_
      generalize hlz : L.getD z.toNat [] = l at *
      have e1 : ((l.length : Int) - 1).toNat = l.length - 1 := by omega
      have e2 : l.length - 1 < l.length := by omega
      simp only [go_sem, rep_get, hn, e1, nth_ints e2]
      refine ⟨g1, g3, g2, inR_i64.2 (by omega), by omega, by omega, ?_⟩
      refine sem_drawM (ob := 5) (pf := []) (mf := []) (ms := []) mixed tab9_ok pure0 noMk [0, 1, 2, 3, 4, 5, 6, 7, 8, 9, 10, 11, 12] (by kernel_rfl) ?_
      simp only [go_sem, rep_get, hn, e1]
      refine ⟨g1, g3, g2, inR_i64.2 (by omega), by omega, by omega, g1, g3, g2, ?_⟩
      refine post_res (.inl rfl) [.cell 4 24, .tmp 5, .tmp 6] rfl ?_
      simp only [go_sem]
      refine Le.trans (le_freeze 5 rfl (Nat.zero_le _)) ?_
      have e4 : ((l.length : Int) - 1 - 0).toNat = l.length - 1 := by omega
      have e5 : (L.map dInts).set z.toNat (D.sl none (List.take (l.length - 1) (ints l))) = (setZ L z (l.take (l.length - 1))).map dInts := by
        simp only [setZ, g1, if_true, List.map_set, dInts, ints, List.map_take]
      have e6 : ((setZ L z (l.take (l.length - 1))).map dInts).length = L.length := by simp [setZ_len]
      have e7 : List.take L.length ((setZ L z (l.take (l.length - 1))).map dInts) = (setZ L z (l.take (l.length - 1))).map dInts := List.take_of_length_le (by rw [e6]; exact Nat.le_refl _)
      have hv : takeV L z = .tup [.dat (dC (setZ L z (l.take (l.length - 1)))), .dat (.int .i64 (l.getD (l.length - 1) 0)), .dat (.int .i64 0)] := by
        have h2' : ¬ l.length = 0 := by omega
        simp only [takeV, h1, hlz, h2', ne_eq, not_true_eq_false, if_false]
      rw [hv]
      simp only [go_sem, e4, e5, e6, e7]
      exact le_fin (by simp only [go_sem, dC]) (by simp only [go_sem])

/-! ref.Drain. -/
theorem rep2_get? (n : Nat) (x y : Obj) : (List.replicate n Obj.dead ++ [x, y])[n + 1]? = some y := by
  rw [List.getElem?_append_right (by simp)]
  simp
theorem rep2_get (n : Nat) (x y : Obj) : (List.replicate n Obj.dead ++ [x, y]).getD n Obj.dead = x := by
  simp only [List.getD_eq_getElem?_getD]
  rw [List.getElem?_append_right (by simp)]
  simp
set_option maxRecDepth 100000 in
theorem rdrain_ok : OkF Try.prog 21 (dataC drainR) := by
  refine okF_data Try.func21 rfl (by decide) ?_
  rintro ds v ⟨L, z, hL, rfl, rfl⟩
  refine sem_of_awpK [5] (Γ := tbl tab9) tab9_ok _ _ _ ?_
  simp only [go_sem, Try.ntmps21, dC]
  refine call_data zoneR (by simp) _ _ rfl ⟨L, z, hL, rfl, rfl⟩ (.inl rfl) ?_
  simp (contextual := true) only [go_sem]
  refine ⟨fun h1 => ?_, fun h1 => ?_⟩
  · refine post_res (.inl rfl) [.cell 4 24, .tmp 5, .tmp 6] rfl ?_
    simp only [go_sem]
    exact le_fin (by simp only [go_sem, drainV, ne_eq, h1, not_false_eq_true, if_true, emptyC]) (by simp only [drainV, ne_eq, h1, not_false_eq_true, if_true]; simp only [go_sem])
  · obtain ⟨_, g1, g2, g3⟩ := zoneE_zero h1
    have hl := hL.get g2
    have hn := nth_dInts g2
    refine call_made cloneR (by simp) _ _ _ rfl rfl ⟨L, hL, rfl, rfl, rfl⟩ ?_
    simp only [go_sem, AV.shift, Obj.shift, AV.shifts, shifts_famR, List.map_append, shift_famO, famO_length, List.length_map, fam_last, fam_last_set]
    have hp0 := frz_ptr6 (L := L) 0 (by omega)
    have hp1 := frz_ptr6 (L := L) 1 (by omega)
    have hp9 := frz_ptr6 (L := L) (L.length + 6) (by omega)
    refine sem_le (le_cloned2 (s' := slotsOf 32 [(1, .dat (.int .i64 z)), (2, .ptr 0 0 0), (4, .ptr 1 0 0), (8, .ptr (L.length + 6) 0 0)]) (by simp only [go_sem]) (by simp only [go_sem, frzFs, frzF_dat, frzF_top, hp0, hp1, hp9])) ?_
    refine sem_of_awp (Γ := tbl tab9) tab9_ok _ _ _ ?_
    generalize hlz : L.getD z.toNat [] = l at *
    simp only [go_sem, rep_get, hn, List.append_assoc, List.cons_append, List.nil_append, rep2_get, List.length_replicate, List.length_append]
    refine ⟨g1, g3, g2, by omega, by omega, g1, g3, g2, ?_⟩
    refine post_res (.inl rfl) [.cell 4 24, .tmp 5, .tmp 6] rfl ?_
    simp only [go_sem, rep2_get]
    have n1 : ¬ (L.length + 1 + 1 + 1 + 1 + 1 + 1 + 1 = 5) := by omega
    refine Le.trans (le_freeze 5 rfl (Nat.zero_le _)) ?_
    have e5 : (L.map dInts).set z.toNat (D.sl none []) = (setZ L z []).map dInts := by
      simp only [setZ, g1, if_true, List.map_set, dInts, ints, List.map_nil]
    have e6 : ((setZ L z []).map dInts).length = L.length := by simp [setZ_len]
    have e7 : List.take L.length ((setZ L z []).map dInts) = (setZ L z []).map dInts := List.take_of_length_le (by rw [e6]; exact Nat.le_refl _)
    have e8 : List.take l.length (ints l) = ints l := List.take_of_length_le (by simp)
    simp only [go_sem, e5, e6, e7, n1, if_false, List.map_append, rep_frz]
    refine Le.trans (le_freeze (L.length + 7) (ag := none) (xs := ints l) (by simp only [List.getElem?_cons_succ]; exact rep2_get? _ _ _) (Nat.zero_le _)) ?_
    have hv : drainV L z = .tup [.dat (dC (setZ L z [])), .dat (.sl none (ints l)), .dat (.int .i64 0)] := by
      simp only [drainV, h1, hlz, ne_eq, not_true_eq_false, if_false]
    rw [hv]
    simp only [go_sem, e8]
    exact le_fin (by simp only [go_sem, dC]) (by simp only [go_sem])
end Go.AM

namespace Go.AM
open Go Go.Proofs

/-! ref.Put. -/
abbrev tab10 : List (Nat × Contract) := [(30, dataC outsideR), (32, dataC zoneR), (34, madeC cloneR), (35, dataC hasR)]
theorem tab10_ok : OkG Try.prog (tbl tab10) := okG_cons outside_ok (okG_cons rzone_ok (okG_cons clone_ok (okG_cons has_ok okG_nil)))

theorem famP0 {L : List (List Int)} (x y : Obj) (l : List Obj) : (famO none (rowsD L) ++ x :: l).getD L.length Obj.dead = x := by
  have h1 : (famO none (rowsD L)).length = L.length := by simp [famO]
  simp only [List.getD_eq_getElem?_getD]
  rw [List.getElem?_append_right (by omega)]
  simp [h1]
theorem famP {L : List (List Int)} (l : List Obj) (j : Nat) : (famO none (rowsD L) ++ l).getD (L.length + j) Obj.dead = l.getD j Obj.dead := by
  have h1 : (famO none (rowsD L)).length = L.length := by simp [famO]
  simp only [List.getD_eq_getElem?_getD]
  rw [List.getElem?_append_right (by omega)]
  simp [h1]
theorem famPs {L : List (List Int)} (l : List Obj) (j : Nat) (y : Obj) : (famO none (rowsD L) ++ l).set (L.length + j) y = famO none (rowsD L) ++ l.set j y := by
  have h1 : (famO none (rowsD L)).length = L.length := by simp [famO]
  rw [List.set_append_right _ _ (by omega)]
  simp [h1]
theorem famO_killA {M : List (List D)} (o : Nat) (t : List Obj) : (famO none M ++ t).map (Obj.kill o) = famO none M ++ t.map (Obj.kill o) := by rw [List.map_append, famO_kill]
theorem setZ_rows {L : List (List Int)} {z : Int} (l : List Int) (hz : 0 ≤ z) : (rowsD L).set z.toNat (ints l) = rowsD (setZ L z l) := by
  simp only [setZ, hz, if_true, List.map_set]

theorem le_frzP {s cs : List AV} {M : List (List D)} {o0 o1 o2 o3 o4 : Obj} {p : List Obj} (o j : Nat) {ag : Option Nat} {xs : List D} (hj : p[j]? = some (.row ag xs)) (ho : o = 6 + M.length + j) :
    Le ⟨s, [o0, o1, o2, o3, o4, .vec cs] ++ famO none M ++ p, 0, []⟩
      ⟨AV.frzs o ag xs s, [o0.frz o ag xs, o1.frz o ag xs, o2.frz o ag xs, o3.frz o ag xs, o4.frz o ag xs, .vec (AV.frzs o ag xs cs)] ++ famO none M ++ (p.map (Obj.frz o ag xs)).set j .dead, 0, []⟩ := by
  have hl : (famO none M).length = M.length := famO_length _ _
  have hlen : ([o0, o1, o2, o3, o4, .vec cs] ++ famO none M : List Obj).length = 6 + M.length := by simp only [List.length_append, List.length_cons, List.length_nil, hl]
  have h := le_freeze (s := s) (own := [o0, o1, o2, o3, o4, .vec cs] ++ famO none M ++ p) (n0 := 0) (mv := []) o (ag := ag) (xs := xs) (by
    rw [List.getElem?_append_right (by rw [hlen]; omega), hlen, ho, Nat.add_sub_cancel_left]; exact hj) (Nat.zero_le _)
  refine Le.trans h ?_
  have e : (([o0, o1, o2, o3, o4, .vec cs] ++ famO none M ++ p).map (Obj.frz o ag xs)).set o .dead = [o0.frz o ag xs, o1.frz o ag xs, o2.frz o ag xs, o3.frz o ag xs, o4.frz o ag xs, .vec (AV.frzs o ag xs cs)] ++ famO none M ++ (p.map (Obj.frz o ag xs)).set j .dead := by
    have e1 : (famO none M).map (Obj.frz o ag xs) = famO none M := by simp [famO, Obj.frz]
    rw [List.map_append, List.map_append, e1, List.set_append_right _ _ (by simp only [List.length_append, List.length_map, List.length_cons, List.length_nil, hl]; omega)]
    have e2 : o - (List.map (Obj.frz o ag xs) [o0, o1, o2, o3, o4, .vec cs] ++ famO none M).length = j := by simp only [List.length_append, List.length_map, List.length_cons, List.length_nil, hl]; omega
    rw [e2]
    rfl
  rw [e]
  exact Le.refl _

theorem famR_frzs : ∀ (b : Nat) (M : List (List D)) (o : Nat) (ag : Option Nat) (xs : List D), o < b ∨ b + M.length ≤ o → AV.frzs o ag xs (famR b M) = famR b M
  | b, [], o, _, _, _ => rfl
  | b, l :: M, o, ag, xs, h => by
    simp only [List.length_cons] at h
    simp only [famR, AV.frzs, AV.frz]
    rw [if_neg (by omega), famR_frzs (b + 1) M o ag xs (by omega)]

theorem le_gather {s cs : List AV} {ds : List D} {M : List (List D)} {o0 o1 o2 o3 o4 : Obj} {p : List Obj} {fin : S} (hc : frzFs none 6 M cs = ds.map .dat)
    (h : ∀ X, Le ⟨AV.frzs 5 none ds (frzFs none 6 M s), X, 0, []⟩ fin) : Le ⟨s, [o0, o1, o2, o3, o4, .vec cs] ++ famO none M ++ p, 0, []⟩ fin := by
  have h1 := le_family (ag := none) M (s := s) (pre := [o0, o1, o2, o3, o4, .vec cs]) (post := p) (n0 := 0) (mv := []) (Nat.zero_le _)
  refine Le.trans h1 ?_
  have hlen : ([o0, o1, o2, o3, o4, .vec cs] : List Obj).length = 6 := rfl
  rw [hlen]
  have e3 : frzFo none 6 M (.vec cs) = .vec (ds.map .dat) := by simp only [frzFo, hc]
  simp only [List.map_cons, List.map_nil, e3, List.cons_append, List.nil_append]
  refine Le.trans (le_unvec 5 rfl) ?_
  refine Le.trans (le_freeze 5 (ag := none) (xs := ds) rfl (Nat.zero_le _)) ?_
  exact h _

set_option maxRecDepth 100000 in
theorem rput_ok : OkF Try.prog 24 (dataC putR) := by
  refine okF_data Try.func24 rfl (by decide) ?_
  rintro ds v ⟨L, z, f, b, h, hL, rfl, rfl⟩
  refine sem_of_awpK [11] (Γ := tbl tab10) tab10_ok _ _ _ ?_
  simp only [go_sem, Try.ntmps24, dC]
  refine call_data zoneR (by simp) _ _ rfl ⟨L, z, hL, rfl, rfl⟩ (.inl rfl) ?_
  simp (contextual := true) only [go_sem]
  refine ⟨fun h1 => ?_, fun h1 => ?_⟩
  · refine post_res (.inl rfl) [.cell 10 24, .tmp 11, .tmp 12] rfl ?_
    simp only [go_sem]
    exact le_fin (by simp only [go_sem, putV, ne_eq, h1, not_false_eq_true, if_true, emptyC]) (by simp only [putV, ne_eq, h1, not_false_eq_true, if_true]; simp only [go_sem])
  · obtain ⟨_, g1, g2, g3⟩ := zoneE_zero h1
    have h1' : ¬ zoneE L z ≠ 0 := by simp [h1]
    have hl := hL.get g2
    refine call_data outsideR (by simp) _ _ rfl ⟨f, rfl, rfl⟩ (.inl rfl) ?_
    cases h2 : inF f
    · simp only [go_sem, h2, Bool.not_false]
      have hv : putV L z f b h = .tup [.dat emptyC, .dat (.sl none []), .dat (.int .i64 2)] := by simp [putV, h1, h2]
      rw [hv]
      refine post_res (.inl rfl) [.cell 10 24, .tmp 11, .tmp 12] rfl ?_
      simp only [go_sem]
      exact le_fin (by simp only [go_sem, emptyC]) (by simp only [go_sem])
    · simp (contextual := true) only [go_sem, h2, Bool.not_true]
      by_cases h3 : b < 1 ∨ h < b
      · have hv : putV L z f b h = .tup [.dat emptyC, .dat (.sl none []), .dat (.int .i64 1)] := by simp only [putV, h1, h2, h3]; simp
        rw [hv]
        rcases h3 with h3 | h3
        · refine ⟨fun h4 => absurd h3 h4, fun _ => ?_⟩
          refine post_res (.inl rfl) [.cell 10 24, .tmp 11, .tmp 12] rfl ?_
          simp only [go_sem]
          exact le_fin (by simp only [go_sem, emptyC]) (by simp only [go_sem])
        · refine ⟨fun _ => ⟨fun _ => ?_, fun h4 => absurd h3 h4⟩, fun _ => ?_⟩
          all_goals
            refine post_res (.inl rfl) [.cell 10 24, .tmp 11, .tmp 12] rfl ?_
            simp only [go_sem]
            exact le_fin (by simp only [go_sem, emptyC]) (by simp only [go_sem])
      · refine ⟨fun _ => ⟨fun h4 => absurd (.inr h4) h3, fun _ => ?_⟩, fun h4 => absurd (.inl h4) h3⟩
        refine call_data hasR (by simp) _ _ rfl ⟨L, f, hL, rfl, rfl⟩ (.inl rfl) ?_
        by_cases h5 : f ∈ L.flatten
        · simp only [go_sem, h5, decide_true]
          have hv : putV L z f b h = .tup [.dat emptyC, .dat (.sl none []), .dat (.int .i64 7)] := by simp only [putV, h1, h2, h3, h5]; simp
          rw [hv]
          refine post_res (.inl rfl) [.cell 10 24, .tmp 11, .tmp 12] rfl ?_
          simp only [go_sem]
          exact le_fin (by simp only [go_sem, emptyC]) (by simp only [go_sem])
        · simp only [go_sem, h5, decide_false]
          refine call_made cloneR (by simp) _ _ _ rfl rfl ⟨L, hL, rfl, rfl, rfl⟩ ?_
          simp only [go_sem, AV.shift, Obj.shift, AV.shifts, shifts_famR, List.map_append, shift_famO, famO_length, List.length_map, fam_last, fam_last_set]
          have hvv : putV L z f b h = if ((L.getD z.toNat []).length + 1 : Int) ≤ h then .tup [.dat (dC (setZ L z (L.getD z.toNat [] ++ [f]))), .dat (.sl none []), .dat (.int .i64 0)] else
              .tup [.dat (dC (setZ L z ((L.getD z.toNat [] ++ [f]).drop b.toNat))), .dat (.sl none (ints ((L.getD z.toNat [] ++ [f]).take b.toNat))), .dat (.int .i64 0)] := by
            unfold putV
            rw [if_neg h1', if_neg (by simp [h2]), if_neg h3, if_neg h5]
          rw [hvv]
          have hM : (rowsD L).length = L.length := by simp
          have hrow := rowsD_get g2
          have hz6 : 6 + z.toNat = z.toNat + 1 + 1 + 1 + 1 + 1 + 1 := by omega
          have n5 : ¬ (5 = z.toNat + 1 + 1 + 1 + 1 + 1 + 1) := by omega
          have hR := famR_get 6 (rowsD L) z.toNat (by rw [hM]; exact g2)
          have hRl : (famR 6 (rowsD L)).length = L.length := by rw [famR_length, hM]
          have hO : ∀ post : List Obj, (famO none (rowsD L) ++ post).getD z.toNat .dead = .row none (ints (L.getD z.toNat [])) := fun post => by rw [famO_get (by rw [hM]; exact g2), hrow]
          rw [hrow, List.length_map] at hR
          generalize L.getD z.toNat [] = l at *
          refine sem_of_awp (Γ := tbl tab10) tab10_ok _ _ _ ?_
          have hP0 : ∀ (x : Obj) (t : List Obj), (famO none (rowsD L) ++ x :: t).getD L.length Obj.dead = x := fun x t => famP0 x x t
          have hP1 : ∀ (x y : Obj) (t : List Obj), (famO none (rowsD L) ++ x :: y :: t).getD (L.length + 1) Obj.dead = y := fun x y t => by rw [famP]; rfl
          have hkf : AV.kills (z.toNat + 1 + 1 + 1 + 1 + 1 + 1) (famR 6 (rowsD L)) = (famR 6 (rowsD L)).set z.toNat .top := by rw [← hz6]; exact famR_kill_at 6 (rowsD L) z.toNat (by rw [hM]; exact g2)
          have hset : ∀ (l' : List Int) (t : List Obj), (famO none (rowsD L) ++ t).set z.toNat (.row none (ints l')) = famO none (rowsD (setZ L z l')) ++ t := fun l' t => by
            rw [famO_set (by rw [hM]; exact g2), setZ_rows _ g1]
          have e1 : List.take l.length (ints l) = ints l := List.take_of_length_le (by simp)
          have e2 : ints l ++ [D.int .i64 f] = ints (l ++ [f]) := by simp
          have hOl : (famO none (rowsD L)).length = L.length := by simp [famO]
          have nLz : ¬ L.length = z.toNat := by omega
          have hs1 : ∀ l' : List Int, (rowsD (setZ L z l')).length = L.length := fun l' => by simp [setZ_len]
          have hOl' : ∀ l' : List Int, (famO none (rowsD (setZ L z l'))).length = L.length := fun l' => by simp [famO, setZ_len]
          have hP0' : ∀ (l' : List Int) (x : Obj) (t : List Obj), (famO none (rowsD (setZ L z l')) ++ x :: t).getD L.length Obj.dead = x := fun l' x t => by
            have := famP0 (L := setZ L z l') x x t
            rwa [setZ_len] at this
          have hPj : ∀ (l' : List Int) (t : List Obj) (j : Nat), (famO none (rowsD (setZ L z l')) ++ t).getD (L.length + j) Obj.dead = t.getD j Obj.dead := fun l' t j => by
            have := famP (L := setZ L z l') t j
            rwa [setZ_len] at this
          have hRs : ∀ (l' : List Int) (a : AV), ((famR 6 (rowsD L)).set z.toNat a).set z.toNat (.sl (z.toNat + 1 + 1 + 1 + 1 + 1 + 1) 0 l'.length) = famR 6 (rowsD (setZ L z l')) := fun l' a => by
            rw [List.set_set, ← hz6, ← setZ_rows l' g1]
            have := famR_set 6 (rowsD L) z.toNat (ints l')
            rwa [List.length_map] at this
          have hRs' : ∀ (a : AV), ((famR 6 (rowsD L)).set z.toNat a).set z.toNat (.sl (z.toNat + 1 + 1 + 1 + 1 + 1 + 1) 0 (l.length + 1)) = famR 6 (rowsD (setZ L z (l ++ [f]))) := fun a => by
            have := hRs (l ++ [f]) a
            rwa [List.length_append, List.length_singleton] at this
          have hO2 : ∀ post : List Obj, (famO none (rowsD (setZ L z (l ++ [f]))) ++ post).getD z.toNat .dead = .row none (ints (l ++ [f])) := fun post => by
            rw [famO_get (by rw [hs1]; exact g2)]
            rw [← setZ_rows _ g1]
            simp [List.getD_eq_getElem?_getD, g2]
          have e3 : (ints (l ++ [f])).length = l.length + 1 := by simp
          by_cases h6 : (((l.length + 1 : Nat) : Int) ≤ h)
          · simp only [go_sem, fam_last, hR, hRl, hz6, hO, List.append_assoc, n5, if_false, hP0, hP1, hkf, famO_killA, e1, e2, hset, hOl, hOl', nLz, hP0', hPj, hRs', hO2, e3, List.length_set, List.take_succ_cons, List.take_zero, h6]
            have h6' : (l.length : Int) + 1 ≤ h := by omega
            refine ⟨g1, g3, g2, by simp, by omega, by omega, g1, g3, g2, ?_⟩
            rw [if_pos h6']
            refine post_res (.inl rfl) [.cell 10 24, .tmp 11, .tmp 12] rfl ?_
            simp only [go_sem]
            refine le_gather (p := [_, _]) (M := rowsD (setZ L z (l ++ [f]))) (ds := (setZ L z (l ++ [f])).map dInts) ?_ (fun X => ?_)
            · rw [frzFs_famR, dInts_rows]
            · have e4 : frzF none 6 (rowsD (setZ L z (l ++ [f]))) (.tup [.agg [.sl 5 0 L.length], .nils, .dat (.int .i64 0)]) = .tup [.agg [.sl 5 0 L.length], .nils, .dat (.int .i64 0)] := frzF_other none _ 6 _ (fun o q1 q2 xs => by simp only [AV.frz, AV.frzs]; rw [if_neg (by omega)])
              have e6 : ((setZ L z (l ++ [f])).map dInts).length = L.length := by simp [setZ_len]
              have e7 : List.take L.length ((setZ L z (l ++ [f])).map dInts) = (setZ L z (l ++ [f])).map dInts := List.take_of_length_le (by rw [e6]; exact Nat.le_refl _)
              simp only [frzFs, List.map_cons, List.map_nil, e4]
              exact le_fin (by simp only [go_sem, dC, List.drop_zero, Nat.sub_zero, e7, setZ_len, Nat.le_refl, if_true]) (by simp only [go_sem, dC])
          · simp only [go_sem, fam_last, hR, hRl, hz6, hO, List.append_assoc, n5, if_false, hP0, hP1, hkf, famO_killA, e1, e2, hset, hOl, hOl', nLz, hP0', hPj, hRs', hO2, e3, List.length_set, List.take_succ_cons, List.take_zero, h6]
            have q1 : (b - 0).toNat = b.toNat := by omega
            have q2 : b.toNat ≤ l.length + 1 := by omega
            have q3 : b.toNat + (((l.length + 1 : Nat) : Int) - b).toNat ≤ l.length + 1 := by omega
            have q4 : List.take (((l.length + 1 : Nat) : Int) - b).toNat (List.drop b.toNat (ints (l ++ [f]))) = ints ((l ++ [f]).drop b.toNat) := by
              rw [List.take_of_length_le (by simp; omega)]; simp [ints, List.map_drop]
            have q5 : List.take b.toNat (ints (l ++ [f])) = ints ((l ++ [f]).take b.toNat) := by simp [ints, List.map_take]
            have h6' : ¬ (l.length : Int) + 1 ≤ h := by omega
            rw [if_neg h6']
            refine ⟨g1, g3, g2, by simp, by omega, by omega, by omega, by omega, ?_⟩
            rw [q1, if_pos q2, q5]
            have q6 : (ints ((l ++ [f]).take b.toNat)).length ≤ 302 := by simp; omega
            have q7 : (ints ((l ++ [f]).drop b.toNat)).length ≤ 302 := by simp; omega
            refine ⟨.inl rfl, rfl, by decide, ⟨_, rfl, rfl⟩, by omega, by rw [T3_bytes]; omega, by omega, by omega, by omega, ?_⟩
            rw [if_pos q3, q4]
            refine ⟨.inl rfl, rfl, by decide, ⟨_, rfl, rfl⟩, by omega, by rw [T3_bytes]; omega, g1, g3, g2, ?_⟩
            refine post_res (.inl rfl) [.cell 10 24, .tmp 11, .tmp 12] rfl ?_
            simp only [go_sem]
            generalize hr : (l ++ [f]).drop b.toNat = r
            generalize hsp : (l ++ [f]).take b.toNat = sp
            have hM2 : (rowsD (setZ L z (l ++ [f]))).length = L.length := hs1 _
            have k1 : ∀ x : AV, ((famR 6 (rowsD L)).set z.toNat AV.top).set z.toNat x = (famR 6 (rowsD (setZ L z (l ++ [f])))).set z.toNat x := fun x => by
              rw [← hRs' .top]; simp only [List.set_set]
            rw [k1]
            refine Le.trans (le_frzP (p := [_, _, _, _]) (M := rowsD (setZ L z (l ++ [f]))) (L.length + 8) 2 rfl (by rw [hM2]; omega)) ?_
            refine Le.trans (le_frzP (p := [_, _, _, _]) (M := rowsD (setZ L z (l ++ [f]))) (L.length + 9) 3 rfl (by rw [hM2]; omega)) ?_
            refine le_gather (M := rowsD (setZ L z (l ++ [f]))) (ds := (setZ L z r).map dInts) ?_ (fun X => ?_)
            · have n1 : ¬ (L.length + 3 + 1 + 1 + 1 + 1 + 1 + 1 = L.length + 8) := by omega
              have m1 : (rowsD (setZ L z (l ++ [f]))).set z.toNat (ints r) = rowsD (setZ L z r) := by
                rw [← setZ_rows _ g1, List.set_set, setZ_rows _ g1]
              rw [frzs_set, famR_frzs _ _ _ _ _ (by rw [hM2]; omega), frzs_set, famR_frzs _ _ _ _ _ (by rw [hM2]; omega)]
              simp only [AV.frz, n1, if_false, if_true, List.take_zero, List.drop_zero]
              have m2 : List.take r.length (ints r) = ints r := List.take_of_length_le (by simp)
              have m3 : r.length ≤ (ints r).length := by simp
              simp only [go_sem, m2, m3]
              simp only [frzFs, List.map_set, frzF_dat]
              have m4 := frzFs_famR none (rowsD (setZ L z (l ++ [f]))) 6
              simp only [frzFs] at m4
              rw [m4, ← dInts_rows, ← m1, List.map_set]
            · have n1 : ¬ (5 = L.length + 8) := by omega
              have n2 : ¬ (5 = L.length + 9) := by omega
              have m2 : List.take sp.length (ints sp) = ints sp := List.take_of_length_le (by simp)
              have m3 : sp.length ≤ (ints sp).length := by simp
              have e4 : frzF none 6 (rowsD (setZ L z (l ++ [f]))) (.tup [.agg [.sl 5 0 L.length], .dat (.sl none (ints sp)), .dat (.int .i64 0)]) = .tup [.agg [.sl 5 0 L.length], .dat (.sl none (ints sp)), .dat (.int .i64 0)] := frzF_other none _ 6 _ (fun o q1 q2 xs => by simp only [AV.frz, AV.frzs]; rw [if_neg (by omega)])
              have e6 : ((setZ L z r).map dInts).length = L.length := by simp [setZ_len]
              have e7 : List.take L.length ((setZ L z r).map dInts) = (setZ L z r).map dInts := List.take_of_length_le (by rw [e6]; exact Nat.le_refl _)
              simp only [go_sem, n1, n2, if_false, m2, m3]
              simp only [frzFs, List.map_cons, List.map_nil, e4]
              exact le_fin (by simp only [go_sem, dC, List.drop_zero, Nat.sub_zero, e7, setZ_len, Nat.le_refl, if_true]) (by simp only [go_sem, dC])
end Go.AM

namespace Go.AM
open Go Go.Proofs

/-! The laws PercpuTakes and PercpuPuts. -/
/-- What the comparison can carry. -/
def Fits (L : List (List Int)) : Prop := L.length ≤ 1000 ∧ ∀ l ∈ L, l.length ≤ 100000
theorem fits_nil : Fits [] := ⟨by simp, by simp⟩
theorem fits_set {L : List (List Int)} (hL : Small L) (z : Int) {x : List Int} (hx : x.length ≤ 100000) : Fits (setZ L z x) := by
  refine ⟨by rw [setZ_len]; have := hL.1; omega, fun l hl => ?_⟩
  unfold setZ at hl
  split at hl
  · rcases List.mem_or_eq_of_mem_set hl with h | rfl
    · have := hL.2 l h; omega
    · exact hx
  · have := hL.2 l hl; omega
theorem small_get {L : List (List Int)} (hL : Small L) (i : Nat) : (L.getD i []).length ≤ 301 := by
  rcases Nat.lt_or_ge i L.length with h | h
  · exact hL.get h
  · simp [List.getD_eq_getElem?_getD, List.getElem?_eq_none h]
theorem take_tup {L : List (List Int)} (hL : Small L) (z : Int) : ∃ A n e, takeV L z = .tup [.dat (dC A), .dat (.int .i64 n), .dat (.int .i64 e)] ∧ Fits A := by
  unfold takeV
  split
  · exact ⟨[], _, _, rfl, fits_nil⟩
  · split
    · exact ⟨[], _, _, rfl, fits_nil⟩
    · refine ⟨_, _, _, rfl, fits_set hL z ?_⟩
      have := small_get hL z.toNat
      generalize L.getD z.toNat [] = l at *
      simp; omega
theorem drain_tup {L : List (List Int)} (hL : Small L) (z : Int) : ∃ A l e, drainV L z = .tup [.dat (dC A), .dat (.sl none (ints l)), .dat (.int .i64 e)] ∧ Fits A ∧ l.length ≤ 1000 := by
  have := small_get hL z.toNat
  unfold drainV
  split
  · exact ⟨[], [], _, rfl, fits_nil, by simp⟩
  · exact ⟨_, _, _, rfl, fits_set hL z (by simp), by omega⟩
theorem put_tup {L : List (List Int)} (hL : Small L) (z f b h : Int) : ∃ A l e, putV L z f b h = .tup [.dat (dC A), .dat (.sl none (ints l)), .dat (.int .i64 e)] ∧ Fits A ∧ l.length ≤ 1000 := by
  have := small_get hL z.toNat
  unfold putV
  generalize L.getD z.toNat [] = l at *
  split
  · exact ⟨[], [], _, rfl, fits_nil, by simp⟩
  split
  · exact ⟨[], [], _, rfl, fits_nil, by simp⟩
  split
  · exact ⟨[], [], _, rfl, fits_nil, by simp⟩
  split
  · exact ⟨[], [], _, rfl, fits_nil, by simp⟩
  split
  · exact ⟨_, [], _, rfl, fits_set hL z (by simp; omega), by simp⟩
  · exact ⟨_, _, _, rfl, fits_set hL z (by simp; omega), by simp; omega⟩
theorem same_self {A : List (List Int)} (h : Fits A) : sameR [dC A, dC A] (.dat (.bool true)) := ⟨A, A, h.1, h.2, rfl, by simp⟩

theorem sameList_self {l : List Int} (h : l.length ≤ 1000) : sameListR [.sl none (ints l), .sl none (ints l)] (.dat (.bool true)) := ⟨l, l, by omega, rfl, by simp⟩

abbrev tabT : List (Nat × Contract) := [(9, dataC fewR), (10, dataC awakeR), (13, dataC sameR), (18, dataC takeR), (19, dataC takeR), (20, dataC drainR), (21, dataC drainR), (22, dataC sameListR)]
theorem tabT_ok : OkG Try.prog (tbl tabT) := okG_cons few_ok (okG_cons awake_ok (okG_cons same_ok (okG_cons take_ok (okG_cons rtake_ok (okG_cons drain_ok (okG_cons rdrain_ok (okG_cons slicesEqual_ok okG_nil)))))))
def takesR (ds : List D) (v : AV) : Prop := ∃ L z, ds = [dC L, .int .i64 z] ∧ v = .dat (.bool true)

set_option maxRecDepth 100000 in
theorem takes_ok : OkF Try.prog 4 (dataC takesR) := by
  refine okF_data Try.func4 rfl (by decide) ?_
  rintro ds v ⟨L, z, rfl, rfl⟩
  refine sem_of_awp (Γ := tbl tabT) tabT_ok _ _ _ ?_
  simp only [go_sem, Try.ntmps4, dC]

  refine call_data fewR (by simp) _ _ rfl ⟨L, rfl, rfl⟩ (.inl rfl) ?_
  cases hf : fewB L
  · simp only [go_sem, hf]
    refine call_data awakeR (by simp) _ _ rfl awakeR_true (.inl rfl) ?_
    simp only [go_sem]
    exact post_data (.inl rfl) [4] rfl trivial rfl
  · have hL := few_small hf
    obtain ⟨A, n, e, hA, fA⟩ := take_tup hL z
    obtain ⟨B, l, e', hB, fB, hl⟩ := drain_tup hL z
    simp only [go_sem, hf]
    refine call_data takeR (by simp) _ _ rfl ⟨L, z, hL, rfl, rfl⟩ (.inl rfl) ?_
    simp only [go_sem, hA, dC]
    refine call_data takeR (by simp) _ _ rfl ⟨L, z, hL, rfl, rfl⟩ (.inl rfl) ?_
    simp only [go_sem, hA, dC]
    refine call_data drainR (by simp) _ _ rfl ⟨L, z, hL, rfl, rfl⟩ (.inl rfl) ?_
    simp only [go_sem, hB, dC]
    refine call_data drainR (by simp) _ _ rfl ⟨L, z, hL, rfl, rfl⟩ (.inl rfl) ?_
    simp only [go_sem, hB, dC]
    refine call_data sameR (by simp) _ _ rfl (same_self fA) (.inl rfl) ?_
    simp only [go_sem, decide_true, eq_self]
    refine call_data sameR (by simp) _ _ rfl (same_self fB) (.inl rfl) ?_
    simp only [go_sem, decide_true, eq_self]
    refine call_data sameListR (by simp) _ _ rfl (sameList_self hl) (.inl rfl) ?_
    simp only [go_sem, decide_true, eq_self]
    refine call_data awakeR (by simp) _ _ rfl awakeR_true (.inl rfl) ?_
    simp only [go_sem]
    exact post_data (.inl rfl) [4] rfl trivial rfl

def putsR (ds : List D) (v : AV) : Prop := ∃ L z f b h, ds = [dC L, .agg [.int .i64 z, .int .i64 f, .int .i64 b, .int .i64 h]] ∧ v = .dat (.bool true)
abbrev tabU : List (Nat × Contract) := [(9, dataC fewR), (10, dataC awakeR), (13, dataC sameR), (23, dataC putR), (24, dataC putR), (22, dataC sameListR)]
theorem tabU_ok : OkG Try.prog (tbl tabU) := okG_cons few_ok (okG_cons awake_ok (okG_cons same_ok (okG_cons put_ok (okG_cons rput_ok (okG_cons slicesEqual_ok okG_nil)))))

set_option maxRecDepth 100000 in
theorem puts_ok : OkF Try.prog 5 (dataC putsR) := by
  refine okF_data Try.func5 rfl (by decide) ?_
  rintro ds v ⟨L, z, f, b, h, rfl, rfl⟩
  refine sem_of_awp (Γ := tbl tabU) tabU_ok _ _ _ ?_
  simp only [go_sem, Try.ntmps5, dC]
  refine call_data fewR (by simp) _ _ rfl ⟨L, rfl, rfl⟩ (.inl rfl) ?_
  cases hf : fewB L
  · simp only [go_sem, hf]
    refine call_data awakeR (by simp) _ _ rfl awakeR_true (.inl rfl) ?_
    simp only [go_sem]
    exact post_data (.inl rfl) [4] rfl trivial rfl
  · have hL := few_small hf
    obtain ⟨A, l, e, hA, fA, hl⟩ := put_tup hL z f b h
    simp only [go_sem, hf]
    refine call_data putR (by simp) _ _ rfl ⟨L, z, f, b, h, hL, rfl, rfl⟩ (.inl rfl) ?_
    simp only [go_sem, hA, dC]
    refine call_data putR (by simp) _ _ rfl ⟨L, z, f, b, h, hL, rfl, rfl⟩ (.inl rfl) ?_
    simp only [go_sem, hA, dC]
    refine call_data sameR (by simp) _ _ rfl (same_self fA) (.inl rfl) ?_
    simp only [go_sem, decide_true, eq_self]
    refine call_data sameListR (by simp) _ _ rfl (sameList_self hl) (.inl rfl) ?_
    simp only [go_sem, decide_true, eq_self]
    refine call_data awakeR (by simp) _ _ rfl awakeR_true (.inl rfl) ?_
    simp only [go_sem]
    exact post_data (.inl rfl) [4] rfl trivial rfl
end Go.AM

