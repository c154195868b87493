/- Own work over the model of the kit. -/
import Derived.Test.YteblpegdedojdaaWalksC
import Derived.Test.YteblpegdedojdaaLibG
set_option linter.unusedSimpArgs false
set_option linter.unusedVariables false
namespace Go.AM
open Go Go.Proofs

/-! ref.Refill. -/
theorem noMk10 : MakeFns (tbl tab10) [] := fun _ _ _ _ _ _ h => by cases h

set_option maxRecDepth 100000 in
set_option maxHeartbeats 4000000 in
theorem rrefill_ok : OkF Try.prog 26 (dataC refillR) := by
  refine okF_data Try.func26 rfl (by decide) ?_
  rintro ds v ⟨L, z, add, hL, hadd, rfl, rfl⟩
  refine sem_of_awp (Γ := tbl tab10) tab10_ok _ _ _ ?_
  simp only [go_sem, Try.ntmps26, dC]
  refine call_data zoneR (by simp) _ _ rfl ⟨L, z, hL, rfl, rfl⟩ (.inl rfl) ?_
  simp (contextual := true) only [go_sem]
  refine ⟨fun h1 => ?_, fun h1 => ?_⟩
  · have hv : refillV L z add = .tup [.dat emptyC, .dat (.int .i64 (zoneE L z))] := by simp [refillV, h1]
    rw [hv]
    refine post_res (.inl rfl) [.cell 6 24, .tmp 7] rfl ?_
    simp only [go_sem]
    exact le_fin (by simp only [go_sem, emptyC]) (by simp only [go_sem])
  · obtain ⟨_, g1, g2, g3⟩ := zoneE_zero h1
    have hl := hL.get g2
    refine sem_loop (fun k : Nat => ⟨slotsOf 75 [(1, .dat (.int .i64 z)), (2, .dat (.sl none (ints add))), (3, .ptr 0 0 0), (6, .ptr 1 0 0), (22, .dat (.sl none (ints add))), (23, .dat (.int .i64 add.length)), (24, .dat (.int .i64 k))],
        [.box [.dat (.sl none (L.map dInts))], .box [.nils]], 0, []⟩)
      (fun k => k ≤ add.length ∧ scanE L.flatten add = scanE (L.flatten ++ add.take k) (add.drop k)) (fun k => add.length - k) 0 ⟨Nat.zero_le _, by simp⟩ ?_ ?_
    · exact le_slots' (by simp only [go_sem, Int.natCast_zero])
    · rintro k ⟨hk, hs⟩
      refine sem_of_awp (Γ := tbl tab10) tab10_ok _ _ _ ?_
      rcases Nat.lt_or_ge k add.length with hk1 | hge
      · have hlt : (k : Int) < (add.length : Int) := by omega
        rw [drop_cons hk1] at hs
        simp only [scanE] at hs
        have hn := nth_ints hk1
        have ht2 : L.flatten ++ add.take k ++ [add.getD k 0] = L.flatten ++ add.take (k + 1) := by rw [take_snoc hk1, List.append_assoc]
        generalize add.getD k 0 = f at *
        simp only [go_sem, hlt, hn, Int.natCast_nonneg]
        refine call_data outsideR (by simp) _ _ rfl ⟨f, rfl, rfl⟩ (.inl rfl) ?_
        cases h2 : inF f
        · rw [if_pos h2] at hs
          simp only [h2, go_sem, Bool.not_false]
          have hv : refillV L z add = .tup [.dat emptyC, .dat (.int .i64 2)] := by simp [refillV, h1, hs]
          rw [hv]
          refine post_res (.inl rfl) [.cell 6 24, .tmp 7] rfl ?_
          simp only [go_sem]
          exact le_fin (by simp only [go_sem, emptyC]) (by simp only [go_sem])
        · rw [if_neg (by simp [h2])] at hs
          simp only [h2, go_sem, Bool.not_true]
          refine call_data hasR (by simp) _ _ rfl ⟨L, f, hL, rfl, rfl⟩ (.inl rfl) ?_
          by_cases h3 : f ∈ L.flatten
          · rw [if_pos (by simp [h3])] at hs
            simp only [go_sem, h3, decide_true]
            have hv : refillV L z add = .tup [.dat emptyC, .dat (.int .i64 7)] := by simp [refillV, h1, hs]
            rw [hv]
            refine post_res (.inl rfl) [.cell 6 24, .tmp 7] rfl ?_
            simp only [go_sem]
            exact le_fin (by simp only [go_sem, emptyC]) (by simp only [go_sem])
          · simp only [go_sem, h3, decide_false]
            refine ⟨by omega, by omega, ?_⟩
            have hp : List.take k (ints add) = ints (add.take k) := by simp [ints, List.map_take]
            have hpl : (add.take k).length = k := by simp; omega
            have hv7 : f ∈ add.take k → refillV L z add = .tup [.dat emptyC, .dat (.int .i64 7)] := fun h4 => by
              rw [if_pos (by simp [h4])] at hs
              simp [refillV, h1, hs]
            have hv8 : f ∉ add.take k → scanE L.flatten add = scanE (L.flatten ++ add.take (k + 1)) (add.drop (k + 1)) := fun h4 => by
              rw [if_neg (by simp only [List.mem_append, not_or]; exact ⟨h3, h4⟩)] at hs
              rw [hs, ht2]
            generalize hpre : add.take k = pre at *
            refine sem_loop (fun j : Nat => ⟨slotsOf 75 [(1, .dat (.int .i64 z)), (2, .dat (.sl none (ints add))), (3, .ptr 0 0 0), (6, .ptr 1 0 0), (10, .dat (.int .i64 f)), (22, .dat (.sl none (ints add))), (23, .dat (.int .i64 add.length)), (24, .dat (.int .i64 k)), (38, .dat (.sl none (ints pre))), (39, .dat (.int .i64 k)), (40, .dat (.int .i64 j))],
                [.box [.dat (.sl none (L.map dInts))], .box [.nils]], 0, []⟩)
              (fun j => j ≤ k ∧ f ∉ pre.take j) (fun j => k - j) 0 ⟨Nat.zero_le _, by simp⟩ ?_ ?_
            · have hi : (ints pre).length = k := by simpa using hpl
              exact le_slots' (by simp only [go_sem, Int.natCast_zero, Int.sub_zero, Int.toNat_natCast, hp, List.drop_zero, hi])
            · rintro j ⟨hj, hnj⟩
              refine sem_of_awp (Γ := tbl tab10) tab10_ok _ _ _ ?_
              rcases Nat.lt_or_ge j k with hj1 | hge2
              · have hlt2 : (j : Int) < (k : Int) := by omega
                have hjp : j < pre.length := by omega
                have hn2 := nth_ints hjp
                have hts := take_snoc hjp
                have hmg : pre.getD j 0 ∈ pre := by simp only [List.getD_eq_getElem?_getD, List.getElem?_eq_getElem hjp, Option.getD_some]; exact List.getElem_mem hjp
                generalize pre.getD j 0 = g at *
                by_cases h4 : f = g
                · subst h4
                  simp only [go_sem, hlt2, hn2, Int.natCast_nonneg, decide_true, eq_self]
                  refine ⟨by omega, ?_⟩
                  rw [hv7 hmg]
                  refine post_res (.inl rfl) [.cell 6 24, .tmp 7] rfl ?_
                  simp only [go_sem]
                  exact le_fin (by simp only [go_sem, emptyC]) (by simp only [go_sem])
                · simp only [go_sem, hlt2, hn2, Int.natCast_nonneg, h4, decide_false]
                  refine ⟨by omega, inR_i64.2 (by omega), j + 1, ⟨hj1, ?_⟩, by omega, ?_⟩
                  · rw [hts, List.mem_append, not_or]
                    exact ⟨hnj, by simp [h4]⟩
                  · exact le_slots' (by simp only [go_sem, Int.natCast_add, Int.cast_ofNat_Int])
              · have hje : j = k := by omega
                subst hje
                have hlt2 : ¬ ((j : Int) < (j : Int)) := by omega
                rw [← hpl, List.take_length] at hnj
                simp only [go_sem, hlt2]
                refine ⟨inR_i64.2 (by omega), j + 1, ⟨hk1, hv8 hnj⟩, by omega, ?_⟩
                exact le_slots' (by simp only [go_sem, Int.natCast_add, Int.cast_ofNat_Int])
      · have hke : k = add.length := by omega
        subst hke
        have hlt : ¬ ((add.length : Int) < (add.length : Int)) := by omega
        rw [List.drop_length] at hs
        simp only [scanE] at hs
        have hv : refillV L z add = .tup [.dat (dC (setZ L z (L.getD z.toNat [] ++ add.reverse))), .dat (.int .i64 0)] := by simp [refillV, h1, hs]
        rw [hv]
        simp only [go_sem, hlt]
        refine call_made cloneR (by simp) _ _ _ rfl rfl ⟨L, hL, rfl, rfl, rfl⟩ ?_
        simp only [go_sem, AV.shift, Obj.shift, AV.shifts, shifts_famR, List.map_append, shift_famO, famO_length, List.length_map, fam_last, fam_last_set]
        refine ⟨inR_i64.2 (by omega), ?_⟩
        refine sem_loop (fun k : Nat => ⟨slotsOf 75 [(1, .dat (.int .i64 z)), (2, .dat (.sl none (ints add))), (6, .ptr 1 0 0), (13, .ptr (L.length + 6) 0 0), (14, .dat (.int .i64 ((add.length : Int) - 1 - k)))],
            [.box [.dat (.sl none (L.map dInts))], .box [.nils], .box [.dat (.sl none (L.map dInts))], .box [.sl 5 0 L.length], .box [.sl 5 0 L.length], .vec (famR 6 (rowsD (gotL L z (add.reverse.take k))))] ++ famO none (rowsD (gotL L z (add.reverse.take k))) ++ [.box [.sl 5 0 L.length]], 0, []⟩)
          (fun k => k ≤ add.length) (fun k => add.length - k) 0 (Nat.zero_le _) ?_ ?_
        · rw [List.take_zero, gotL_nil]
          exact le_slots' (by simp only [go_sem, Int.natCast_zero, Int.sub_zero])
        · intro k hk
          rcases Nat.lt_or_ge k add.length with hk1 | hge2
          · have e1 := rev_take hk1
            have hidx : (((add.length : Int) - 1) - (k : Int)).toNat = add.length - 1 - k := by omega
            have hnx := nth_ints (l := add) (i := add.length - 1 - k) (by omega)
            have hq : gotL L z (add.reverse.take (k + 1)) = setZ (gotL L z (add.reverse.take k)) z ((gotL L z (add.reverse.take k)).getD z.toNat [] ++ [add.getD (add.length - 1 - k) 0]) := by
              have e2 : (gotL L z (add.reverse.take k)).getD z.toNat [] = L.getD z.toNat [] ++ add.reverse.take k := setZ_at _ g1 g2
              rw [e2, e1]; unfold gotL; rw [setZ_set, List.append_assoc]
            have hlen2 : (gotL L z (add.reverse.take k)).length = L.length := setZ_len _ _ _
            have hl2 : ((gotL L z (add.reverse.take k)).getD z.toNat []).length ≤ 401 := by
              have e2 : (gotL L z (add.reverse.take k)).getD z.toNat [] = L.getD z.toNat [] ++ add.reverse.take k := setZ_at _ g1 g2
              rw [e2]; simp only [List.length_append, List.length_take, List.length_reverse]; omega
            generalize hA : L.map dInts = dL at *
            generalize gotL L z (add.reverse.take k) = L2 at *
            generalize add.getD (add.length - 1 - k) 0 = f at *
            have hP0 : ∀ (x : Obj) (t : List Obj), (famO none (rowsD L2) ++ x :: t).getD L.length Obj.dead = x := fun x t => by
              have := famP0 (L := L2) x x t; rwa [hlen2] at this
            have hP1 : ∀ (x y : Obj) (t : List Obj), (famO none (rowsD L2) ++ x :: y :: t).getD (L.length + 1) Obj.dead = y := fun x y t => by
              have := famP (L := L2) (x :: y :: t) 1; rw [hlen2] at this; rw [this]; rfl
            have g2' : z.toNat < L2.length := by omega
            have hM : (rowsD L2).length = L.length := by simp [hlen2]
            have hrow := rowsD_get g2'
            have hz6 : 6 + z.toNat = z.toNat + 1 + 1 + 1 + 1 + 1 + 1 := by omega
            have n5 : ¬ (5 = z.toNat + 1 + 1 + 1 + 1 + 1 + 1) := by omega
            have n6 : ¬ (L.length + 6 = z.toNat + 1 + 1 + 1 + 1 + 1 + 1) := by omega
            have hR := famR_get 6 (rowsD L2) z.toNat (by rw [hM]; omega)
            have hRl : (famR 6 (rowsD L2)).length = L.length := by rw [famR_length, hM]
            have hO : ∀ post : List Obj, (famO none (rowsD L2) ++ post).getD z.toNat .dead = .row none (ints (L2.getD z.toNat [])) := fun post => by rw [famO_get (by rw [hM]; omega), hrow]
            rw [hrow, List.length_map] at hR
            have hq' := hq
            generalize L2.getD z.toNat [] = l2 at *
            have hkf : AV.kills (z.toNat + 1 + 1 + 1 + 1 + 1 + 1) (famR 6 (rowsD L2)) = (famR 6 (rowsD L2)).set z.toNat .top := by rw [← hz6]; exact famR_kill_at 6 (rowsD L2) z.toNat (by rw [hM]; omega)
            have hset : ∀ (l' : List Int) (t : List Obj), (famO none (rowsD L2) ++ t).set z.toNat (.row none (ints l')) = famO none (rowsD (setZ L2 z l')) ++ t := fun l' t => by
              rw [famO_set (by rw [hM]; omega), setZ_rows _ g1]
            have e3 : List.take l2.length (ints l2) = ints l2 := List.take_of_length_le (by simp)
            have e4 : ints l2 ++ [D.int .i64 f] = ints (l2 ++ [f]) := by simp
            have hOl : (famO none (rowsD L2)).length = L.length := by simp [famO, hlen2]
            have nLz : ¬ L.length = z.toNat := by omega
            have hRs' : ∀ (a : AV), ((famR 6 (rowsD L2)).set z.toNat a).set z.toNat (.sl (z.toNat + 1 + 1 + 1 + 1 + 1 + 1) 0 (l2.length + 1)) = famR 6 (rowsD (setZ L2 z (l2 ++ [f]))) := fun a => by
              rw [List.set_set, ← hz6, ← setZ_rows _ g1]
              have := famR_set 6 (rowsD L2) z.toNat (ints (l2 ++ [f]))
              rwa [List.length_map, List.length_append, List.length_singleton] at this
            have hlt2 : (add.length : Int) - 1 - (k : Int) ≥ 0 := by omega
            refine sem_of_awp (Γ := tbl tab10) tab10_ok _ _ _ ?_
            simp only [go_sem, hlt2]
            refine sem_drawK (ko := 6 + z.toNat) (pf := []) (mf := []) (ms := [0, 1, 2, 14, 13]) mixed tab10_ok pure0 noMk [0, 1, 2, 14, 3, 4, 5, 6, 7, 8, 9, 10, 11, 12, 13, 15] (by kernel_rfl) ?_
            simp only [go_sem, hR, hRl, hz6, hO, List.append_assoc, n5, n6, if_false, hP0, hP1, hkf, famO_killA, e3, e4, hset, hOl, nLz, hRs', List.length_set, List.take_succ_cons, List.take_zero, hidx, hnx]
            refine ⟨g1, g3, g1, g3, g2, by omega, by omega, by simp, by omega, by omega, g2, inR_i64.2 (by omega), k + 1, hk1, by omega, ?_⟩
            rw [hq]
            have hM3 : (rowsD (setZ L2 z (l2 ++ [f]))).length = L.length := by simp [setZ_len, hlen2]
            generalize setZ L2 z (l2 ++ [f]) = L3 at *
            have hown : ([.box [.dat (.sl none dL)], .box [.nils], .box [.dat (.sl none dL)], .box [.sl 5 0 L.length], .box [.sl 5 0 L.length], .vec (famR 6 (rowsD L3))] ++ famO none (rowsD L3) ++ [.box [.sl 5 0 L.length]] : List Obj).length = 7 + L.length := by
              simp only [List.length_append, List.length_cons, List.length_nil, famO_length, hM3]; omega
            have hsp : (Obj.box [.dat (.sl none dL)] :: .box [.nils] :: .box [.dat (.sl none dL)] :: .box [.sl 5 0 L.length] :: .box [.sl 5 0 L.length] :: .vec (famR 6 (rowsD L3)) :: (famO none (rowsD L3) ++ [.box [.sl 5 0 L.length], .row none [.int .i64 f]]) : List Obj) =
              ([.box [.dat (.sl none dL)], .box [.nils], .box [.dat (.sl none dL)], .box [.sl 5 0 L.length], .box [.sl 5 0 L.length], .vec (famR 6 (rowsD L3))] ++ famO none (rowsD L3) ++ [.box [.sl 5 0 L.length]]) ++ [.row none [.int .i64 f]] := by simp
            rw [hsp]
            refine le_end (Nat.zero_le _) ?_ ?_ ?_
            · simp only [go_sem, Int.natCast_add, Int.cast_ofNat_Int, show (add.length : Int) - 1 - (k : Int) - 1 = (add.length : Int) - 1 - ((k : Int) + 1) by omega]
            · rw [hown]; simp only [go_sem]; omega
            · rw [hown]
              refine allUnder_app (allUnder_app ?_ (famO_under none _ _)) ?_
              · simp only [Obj.allUnder, Obj.under, AV.unders, AV.under, and_true, true_and]
                exact ⟨by omega, by omega, famR_under _ _ _ (by rw [hM3]; omega)⟩
              · simp only [Obj.allUnder, Obj.under, AV.unders, AV.under, and_true, true_and]; omega
          · have hke2 : k = add.length := by omega
            subst hke2
            have e2 : add.reverse.take add.length = add.reverse := List.take_of_length_le (by simp)
            have hneg : ¬ ((add.length : Int) - 1 - (add.length : Int) ≥ 0) := by omega
            rw [e2]
            refine sem_of_awp (Γ := tbl tab10) tab10_ok _ _ _ ?_
            have hlen2 : (gotL L z add.reverse).length = L.length := setZ_len _ _ _
            have hP0 : ∀ (x : Obj) (t : List Obj), (famO none (rowsD (gotL L z add.reverse)) ++ x :: t).getD L.length Obj.dead = x := fun x t => by
              have := famP0 (L := gotL L z add.reverse) x x t; rwa [hlen2] at this
            simp only [go_sem, hneg, List.append_assoc, hP0]
            refine post_res (.inl rfl) [.cell 6 24, .tmp 7] rfl ?_
            simp only [go_sem]
            have hG : setZ L z (L.getD z.toNat [] ++ add.reverse) = gotL L z add.reverse := rfl
            rw [hG]
            refine le_gather (p := [_]) (M := rowsD (gotL L z add.reverse)) (ds := (gotL L z add.reverse).map dInts) ?_ (fun X => ?_)
            · rw [frzFs_famR, dInts_rows]
            · have e4 : frzF none 6 (rowsD (gotL L z add.reverse)) (.tup [.agg [.sl 5 0 L.length], .dat (.int .i64 0)]) = .tup [.agg [.sl 5 0 L.length], .dat (.int .i64 0)] := frzF_other none _ 6 _ (fun o q1 q2 xs => by simp only [AV.frz, AV.frzs]; rw [if_neg (by omega)])
              have e6 : ((gotL L z add.reverse).map dInts).length = L.length := by simp [hlen2]
              have e7 : List.take L.length ((gotL L z add.reverse).map dInts) = (gotL L z add.reverse).map dInts := List.take_of_length_le (by rw [e6]; exact Nat.le_refl _)
              simp only [frzFs, List.map_cons, List.map_nil, e4]
              exact le_fin (by simp only [go_sem, dC, List.drop_zero, Nat.sub_zero, e7, hlen2, Nat.le_refl, if_true]) (by simp only [go_sem, dC])
end Go.AM

namespace Go.AM
open Go Go.Proofs

/-! The law PercpuRefills. -/
theorem refill_tup {L : List (List Int)} (hL : Small L) (z : Int) {add : List Int} (ha : add.length ≤ 100) : ∃ A e, refillV L z add = .tup [.dat (dC A), .dat (.int .i64 e)] ∧ Fits A := by
  have := small_get hL z.toNat
  unfold refillV
  split
  · exact ⟨[], _, rfl, fits_nil⟩
  split
  · exact ⟨[], _, rfl, fits_nil⟩
  · exact ⟨_, _, rfl, fits_set hL z (by rw [List.length_append, List.length_reverse]; omega)⟩

abbrev tabW : List (Nat × Contract) := [(9, dataC fewR), (10, dataC awakeR), (13, dataC sameR), (25, dataC refillR), (26, dataC refillR)]
theorem tabW_ok : OkG Try.prog (tbl tabW) := okG_cons few_ok (okG_cons awake_ok (okG_cons same_ok (okG_cons refill_ok (okG_cons rrefill_ok okG_nil))))

def refillsR (ds : List D) (v : AV) : Prop := ∃ L z xs, ds = [dC L, .int .i64 z, .sl none (ints xs)] ∧ v = .dat (.bool true)

set_option maxRecDepth 100000 in
theorem refills_ok : OkF Try.prog 6 (dataC refillsR) := by
  refine okF_data Try.func6 rfl (by decide) ?_
  rintro ds v ⟨L, z, xs, rfl, rfl⟩
  refine sem_of_awp (Γ := tbl tabW) tabW_ok _ _ _ ?_
  simp only [go_sem, Try.ntmps6, dC]
  refine call_data fewR (by simp) _ _ rfl ⟨L, rfl, rfl⟩ (.inl rfl) ?_
  cases hf : fewB L
  · simp only [go_sem, hf]
    refine call_data awakeR (by simp) _ _ rfl awakeR_true (.inl rfl) ?_
    simp only [go_sem]
    exact post_data (.inl rfl) [6] rfl trivial rfl
  · have hL := few_small hf
    by_cases hx : xs.length > 40
    · have hx' : (xs.length : Int) > 40 := by omega
      simp only [go_sem, hf, hx']
      refine call_data awakeR (by simp) _ _ rfl awakeR_true (.inl rfl) ?_
      simp only [go_sem]
      exact post_data (.inl rfl) [6] rfl trivial rfl
    · have hx' : ¬ (xs.length : Int) > 40 := by omega
      obtain ⟨A, e, hA, fA⟩ := refill_tup hL z (add := xs) (by omega)
      simp only [go_sem, hf, hx']
      refine call_data refillR (by simp) _ _ rfl ⟨L, z, xs, hL, by omega, rfl, rfl⟩ (.inl rfl) ?_
      simp only [go_sem, hA, dC]
      refine call_data refillR (by simp) _ _ rfl ⟨L, z, xs, hL, by omega, rfl, rfl⟩ (.inl rfl) ?_
      simp only [go_sem, hA, dC]
      refine call_data sameR (by simp) _ _ rfl (same_self fA) (.inl rfl) ?_
      simp only [go_sem, decide_true, eq_self]
      refine call_data awakeR (by simp) _ _ rfl awakeR_true (.inl rfl) ?_
      simp only [go_sem]
      exact post_data (.inl rfl) [6] rfl trivial rfl
end Go.AM

