/- Own work over the model of the kit. -/
import Derived.Test.YtaecpbaaadpfgaaD22
import Derived.Test.YtaecpbaaadpfgaaD11
import Derived.Test.YtaecpbaaadpfgaaD20
import Derived.Test.YtaecpbaaadpfgaaD21
import Derived.Test.YtaecpbaaadpfgaaD12
import Derived.Test.YtaecpbaaadpfgaaD5
set_option linter.constructorNameAsVariable false
set_option linter.unusedSimpArgs false
set_option linter.unusedVariables false
set_option maxHeartbeats 4000000
set_option maxRecDepth 100000
namespace Go.AM
open Go Go.Proofs
def clsA (c : PCls) (v : AV) : List AV := [.dat (.str c.name), .dat (.int .i64 c.workers), .dat (.bool c.server), v]
def clsR (c : PCls) : List D := [.str c.name, .int .i64 c.workers, .bool c.server, stepsD c.steps]
def o33 : Nat -> List Obj
 | 0 => [.row (some 4) []]
 | 1 => [.row (some 4) [clsD (ordC 3 0)]]
 | _ => [.tab 4 ((clsR (ordC 3 0)).map .dat ++ clsA (ordC 3 1) (.sl 6 0 4)), .dead, .row (some 4) ((ordS 3).map stepD)]
def ord33R (ds : List D) (v : AV) (ob : List Obj) : Prop := ds = [.sl none [.int .u8 3, .int .u8 3]] /\ v = .agg [.sl 3 0 0, .sl 1 0 4, .sl 4 0 2] /\
 ob = [.box [.sl 3 0 0, .sl 1 0 4, .sl 4 0 2], .row none [.str [97], .str [98], .str [99], .str [100]], .box [.sl 3 0 0, .sl 1 0 4, .sl 4 0 2], .row (some 3) []] ++ o33 2
theorem bOrd33_ok : OkF Try.prog 5 (madeC ord33R) := by
 refine okF_made Try.func5 rfl (by decide) ?_
 rintro ds v ob ⟨rfl, rfl, rfl⟩
 have e33 : [D.int .u8 3, D.int .u8 3] = ou8D [3, 3] := rfl
 rw [e33]
 generalize h33 : [3, 3] = l
 have hl : ∀ n ∈ l, n < 256 := by subst h33; decide
 have hlen : l.length = 2 := by subst h33; rfl
 refine sem_of_awpK [2] (Γ := tbl []) okG_nil _ _ _ ?_
 simp only [go_sem, Int.reduceEq, Int.reduceLT, Int.reduceLE, Try.ntmps5]
 refine sem_le (le_addnilR 2 0 (some 3) rfl rfl (Nat.zero_le _)) ?_
 refine sem_le (le_addnilR 2 2 (some 4) rfl rfl (Nat.zero_le _)) ?_
 refine sem_of_awp (Γ := tbl []) okG_nil _ _ _ ?_
 simp only [go_sem, Int.reduceEq, Int.reduceLT, Int.reduceLE]
 refine sem_loop (fun i : Nat => ⟨slotsOf 92 [(0, .dat (.sl none (ou8D l))), (2, .ptr 0 0 0), (3, .ptr 2 0 0), (4, .dat (.int .i64 i))], [.box [.nils, .nils, .nils], .row none [.str [97], .str [98], .str [99], .str [100]], .box [.sl 3 0 0, .sl 1 0 4, .sl 4 0 i], .row (some 3) []] ++ o33 i, 0, []⟩)
  (fun i => i <= 2) (fun i => 2 - i) 0 (Nat.zero_le _) ?_ ?_
 ·exact le_slots' (by simp only [go_sem, Int.natCast_zero])
 intro i hi
 have hcl : (ordCs 0 (l.take i)).length <= 3 := by have := ord_len 0 (l.take i); rw [List.length_take] at this; omega
 have ho8 : (ou8D l).length = l.length := List.length_map _
 by_cases hlt2 : i < 2
 ·have hlt : i < l.length := by omega
  have ho3 : o33 i = [.row (some 4) ((ordCs 0 (l.take i)).map clsD)] := by
   subst h33
   match i, hlt2 with
   | 0, _ => rfl
   | 1, _ => rfl
  have hCCl : (ordCs 0 (l.take i)).length = i := by
   subst h33
   match i, hlt2 with
   | 0, _ => rfl
   | 1, _ => rfl
  have ho3' : o33 (i + 1) = if i = 0 then [.row (some 4) ((ordCs 0 (l.take (i + 1))).map clsD)] else [.tab 4 ((clsR (ordC 3 0)).map .dat ++ clsA (ordC 3 1) (.sl 6 0 4)), .dead, .row (some 4) ((ordS 3).map stepD)] := by
   subst h33
   match i, hlt2 with
   | 0, _ => rfl
   | 1, _ => rfl
  have hn3 : l.getD i 0 = 3 := by
   subst h33
   match i, hlt2 with
   | 0, _ => rfl
   | 1, _ => rfl
  rw [ho3]
  refine sem_of_awpK [6, 12, 21, 22, 23] (Γ := tbl []) okG_nil _ _ _ ?_
  have hk2 : (i : Int) < l.length := by omega
  have hk3 : (i : Int) < 3 := by omega
  have hr4 := runeS_len4 (48 + i)
  have hnth : D.nth (ou8D l) i = .int .u8 (l.getD i 0 : Nat) := by
   show (ou8D l).getD i default = _
   rw [List.getD_eq_getElem?_getD, List.getElem?_map, List.getD_eq_getElem?_getD, List.getElem?_eq_getElem hlt]; rfl
  have hn : l.getD i 0 < 256 := by
   refine hl _ ?_
   rw [List.getD_eq_getElem?_getD, List.getElem?_eq_getElem hlt]
   exact List.getElem_mem hlt
  have hsc := ordCs_take l hlt
  generalize l.getD i 0 = n at hn hnth hsc hn3
  have hq1 : (n : Int).tdiv 16 = (n / 16 : Nat) := by rw [Int.tdiv_eq_ediv_of_nonneg (Int.natCast_nonneg n)]; rfl
  have hq2 : ((n / 16 : Nat) : Int).tmod 2 = (n / 16 % 2 : Nat) := by rw [Int.tmod_eq_emod_of_nonneg (Int.natCast_nonneg _)]; rfl
  have hq3 : n / 16 % 2 < 2 := Nat.mod_lt _ (by decide)
  have hq4 : n / 16 < 16 := by omega
  have hm4 : 5 <= maxLen := by decide
  simp only [List.cons_append, List.nil_append]
  simp only [go_sem, Int.reduceEq, Int.reduceLT, Int.reduceLE, hk2, hk3, ho8, hnth, hq1, hq2]
  refine ⟨inR_i64.2 (by omega), inR_i32.2 (by omega), by omega, inR_i64.2 (by omega), inR_i64.2 (by omega), inR_i64.2 (by omega), inR_i64.2 (by omega), ?_⟩
  refine sem_le (le_addnilR 5 3 (some 4) rfl rfl (Nat.zero_le _)) ?_
  refine sem_of_awpK [12, 21, 22] (Γ := tbl []) okG_nil _ _ _ ?_
  simp only [go_sem, Int.reduceEq, Int.reduceLT, Int.reduceLE]
  generalize hNM : D.str (119 :: runeS (48 + (i : Int))) = NM
  generalize hWK : D.int .i64 (1 + ((n / 16 % 2 : Nat) : Int)) = WK
  generalize hCC : ordCs 0 (l.take i) = CC at hsc hcl hCCl
  have hAl : ∀ k, ((ordA n k).map stepD).length = (ordA n k).length := fun k => List.length_map _
  have hAt : ∀ k, List.take (ordA n k).length ((ordA n k).map stepD) = (ordA n k).map stepD := fun k => List.take_of_length_le (by rw [hAl]; exact Nat.le_refl _)
  have hA4 : ∀ k, (ordA n k).length <= k := fun k => by
   rw [ordA, List.length_map]; exact Nat.le_trans (List.length_filter_le _ _) (by rw [List.length_range]; exact Nat.le_refl _)
  refine sem_loop (fun k : Nat => ⟨slotsOf 92 [(0, .dat (.sl none (ou8D l))), (2, .ptr 0 0 0), (3, .ptr 2 0 0), (4, .dat (.int .i64 i)), (5, .ptr 5 0 0), (35, .dat (.int .i64 k))], [.box [.nils, .nils, .nils], .row none [.str [97], .str [98], .str [99], .str [100]], .box [.sl 3 0 0, .sl 1 0 4, .sl 4 0 i], .row (some 3) [], .row (some 4) (CC.map clsD), .box [.dat NM, .dat WK, .dat (.bool false), .sl 6 0 (ordA n k).length], .row (some 4) ((ordA n k).map stepD)], 0, []⟩)
   (fun k => k <= 4) (fun k => 4 - k) 0 (Nat.zero_le _) ?_ ?_
  ·exact le_slots' (by simp only [go_sem, Int.natCast_zero])
  ·intro k hk
   refine sem_of_awpK [12, 21, 22] (Γ := tbl []) okG_nil _ _ _ ?_
   rcases Nat.lt_or_ge k 4 with hk4 | hk4
   ·have hkk : (k : Int) < 4 := by omega
    obtain ⟨hb1, hb2⟩ := bit_get hn hk4
    have hAs := ordA_succ n k
    have hA4k := hA4 k
    cases hb : bitN n k with
    | false =>
     rw [hb, if_neg (by decide)] at hb2
     rw [hb, if_neg (by decide), List.append_nil] at hAs
     have hkl : ¬ ((0 : Int) = 1) := by decide
     simp only [go_sem, Int.reduceEq, Int.reduceLT, Int.reduceLE, hkk, ho8, hk2, hnth, hb2, decide_false]
     refine ⟨hb1, inR_i64.2 (by omega), k + 1, by omega, by omega, ?_⟩
     rw [hAs]
     exact le_slots' (by simp only [go_sem, Int.natCast_add, Int.cast_ofNat_Int])
    | true =>
     rw [hb, if_pos rfl] at hb2
     rw [hb, if_pos rfl] at hAs
     have hAe : (ordA n k).map stepD ++ [.agg [.int .i64 3, .int .i64 k, .int .i64 0, .bool false]] = (ordA n (k + 1)).map stepD := by rw [hAs, List.map_append]; rfl
     have hAn : (ordA n k).length + 1 = (ordA n (k + 1)).length := by rw [hAs, List.length_append]; rfl
     simp only [go_sem, Int.reduceEq, Int.reduceLT, Int.reduceLE, hkk, ho8, hk2, hnth, hb2, decide_true, hAt, hAe, hAn]
     refine ⟨hb1, by omega, by omega, inR_i64.2 (by omega), k + 1, by omega, by omega, ?_⟩
     refine le_end (own := [_, _, _, _, _, _, _]) (ex := [_]) (Nat.zero_le _) ?_ ?_ ?_
     ·simp only [go_sem, Int.natCast_add, Int.cast_ofNat_Int]
     ·simp only [go_sem]
     ·simp only [go_sem, Obj.under, AV.unders, AV.under]
   obtain rfl : k = 4 := by omega
   have hkk : ¬ ((4 : Nat) : Int) < 4 := by decide
   simp only [go_sem, Int.reduceEq, Int.reduceLT, Int.reduceLE, hkk]
   refine sem_of_awpK [21, 22] (Γ := tbl []) okG_nil _ _ _ ?_
   simp only [go_sem, Int.reduceEq, Int.reduceLT, Int.reduceLE]
   have hBl : ∀ k, ((ordQ n k).map stepD).length = (ordQ n k).length := fun k => List.length_map _
   have hBt : ∀ k, List.take (ordQ n k).length ((ordQ n k).map stepD) = (ordQ n k).map stepD := fun k => List.take_of_length_le (by rw [hBl]; exact Nat.le_refl _)
   have hB4 : ∀ k, (ordQ n k).length <= 4 + k := fun k => by
    have := hA4 4
    have : (ordB n k).length <= k := by
     rw [ordB, List.length_map]; exact Nat.le_trans (List.length_filter_le _ _) (by rw [List.length_map, List.length_range]; exact Nat.le_refl _)
    rw [ordQ, List.length_append]; omega
   have hB0 : ordQ n 0 = ordA n 4 := List.append_nil _
   refine sem_loop (fun k : Nat => ⟨slotsOf 92 [(0, .dat (.sl none (ou8D l))), (2, .ptr 0 0 0), (3, .ptr 2 0 0), (4, .dat (.int .i64 i)), (5, .ptr 5 0 0), (54, .dat (.int .i64 k))], [.box [.nils, .nils, .nils], .row none [.str [97], .str [98], .str [99], .str [100]], .box [.sl 3 0 0, .sl 1 0 4, .sl 4 0 i], .row (some 3) [], .row (some 4) (CC.map clsD), .box [.dat NM, .dat WK, .dat (.bool false), .sl 6 0 (ordQ n k).length], .row (some 4) ((ordQ n k).map stepD)], 0, []⟩)
    (fun k => k <= 4) (fun k => 4 - k) 0 (Nat.zero_le _) ?_ ?_
   ·rw [hB0]
    exact le_slots' (by simp only [go_sem, Int.natCast_zero])
   intro k hk
   refine sem_of_awpK [21, 22] (Γ := tbl []) okG_nil _ _ _ ?_
   rcases Nat.lt_or_ge k 4 with hk4 | hk4
   ·have hkk : (k : Int) < 4 := by omega
    have hBs := ordQ_succ n k
    have hB4k := hB4 k
    by_cases hn8 : 128 <= n
    case' pos =>
     have hj : ((if 128 <= n then 3 - k else k : Nat) : Int) = 3 - k := by rw [if_pos hn8]; omega
    case' neg =>
     have hj : ((if 128 <= n then 3 - k else k : Nat) : Int) = k := by rw [if_neg hn8]
    all_goals have hn8i : (128 <= (n : Int)) = (128 <= n) := propext (by omega)
    all_goals have hj4 : (if 128 <= n then 3 - k else k) < 4 := by split <;> omega
    all_goals generalize (if 128 <= n then 3 - k else k) = j at hj hj4 hBs
    all_goals obtain ⟨hb1, hb2⟩ := bit_get hn hj4
    all_goals rw [hj] at hb1 hb2
    all_goals rw [hj] at hBs
    all_goals cases hb : bitN n j
    all_goals rw [hb] at hb2 hBs
    all_goals first | rw [if_neg (by decide)] at hb2 | rw [if_pos rfl] at hb2
    all_goals first | rw [if_neg (by decide), List.append_nil] at hBs | rw [if_pos rfl] at hBs
    all_goals simp only [go_sem, Int.reduceEq, Int.reduceLT, Int.reduceLE, hkk, ho8, hk2, hnth, hb2, hn8, hn8i, decide_true, decide_false, hBt]
    case pos.false =>
     refine ⟨inR_i64.2 (by omega), by omega, hb1, inR_i64.2 (by omega), k + 1, by omega, by omega, ?_⟩
     rw [hBs]
     exact le_slots' (by simp only [go_sem, Int.natCast_add, Int.cast_ofNat_Int])
    case neg.false =>
     refine ⟨hb1, inR_i64.2 (by omega), k + 1, by omega, by omega, ?_⟩
     rw [hBs]
     exact le_slots' (by simp only [go_sem, Int.natCast_add, Int.cast_ofNat_Int])
    all_goals have hBn : (ordQ n k).length + 1 = (ordQ n (k + 1)).length := by rw [hBs, List.length_append]; rfl
    case' pos.true =>
     have hBe : (ordQ n k).map stepD ++ [.agg [.int .i64 4, .int .i64 (3 - k), .int .i64 0, .bool false]] = (ordQ n (k + 1)).map stepD := by rw [hBs, List.map_append]; rfl
    case' neg.true =>
     have hBe : (ordQ n k).map stepD ++ [.agg [.int .i64 4, .int .i64 k, .int .i64 0, .bool false]] = (ordQ n (k + 1)).map stepD := by rw [hBs, List.map_append]; rfl
    all_goals simp only [hBe, hBn]
    case pos.true =>
     refine ⟨inR_i64.2 (by omega), by omega, hb1, by omega, by omega, inR_i64.2 (by omega), k + 1, by omega, by omega, ?_⟩
     refine le_end (own := [_, _, _, _, _, _, _]) (ex := [_]) (Nat.zero_le _) ?_ ?_ ?_
     ·simp only [go_sem, Int.natCast_add, Int.cast_ofNat_Int]
     ·simp only [go_sem]
     ·simp only [go_sem, Obj.under, AV.unders, AV.under]
    case neg.true =>
     refine ⟨hb1, by omega, by omega, inR_i64.2 (by omega), k + 1, by omega, by omega, ?_⟩
     refine le_end (own := [_, _, _, _, _, _, _]) (ex := [_]) (Nat.zero_le _) ?_ ?_ ?_
     ·simp only [go_sem, Int.natCast_add, Int.cast_ofNat_Int]
     ·simp only [go_sem]
     ·simp only [go_sem, Obj.under, AV.unders, AV.under]
   obtain rfl : k = 4 := by omega
   have hkk : ¬ ((4 : Nat) : Int) < 4 := by decide
   simp only [go_sem, Int.reduceEq, Int.reduceLT, Int.reduceLE, hkk]
   have hQ4 : ordQ n 4 = ordS n := rfl
   rw [hQ4]
   refine sem_of_awpK [22] (Γ := tbl []) okG_nil _ _ _ ?_
   by_cases hz : (ordS n).length = 0
   ·exfalso; subst hn3; revert hz; decide
   ·have hz16 : ¬ n % 16 = 0 := fun h => hz ((ordS_nil hn).2 h)
    rw [if_neg hz16] at hsc
    have hz0 : (0 : Int) < ((ordS n).length : Nat) := by omega
    simp only [go_sem, Int.reduceEq, Int.reduceLT, Int.reduceLE, hz0]
    by_cases hi0 : i = 0
    ·refine sem_le (le_freeze 6 (ag := some 4) rfl (Nat.zero_le _)) ?_
     refine sem_of_awpK [] (Γ := tbl []) okG_nil _ _ _ ?_
     have hSl : ((ordS n).map stepD).length = (ordS n).length := List.length_map _
     have hSt : List.take (ordS n).length ((ordS n).map stepD) = (ordS n).map stepD := List.take_of_length_le (by rw [hSl]; exact Nat.le_refl _)
     have hCl : (CC.map clsD).length = CC.length := List.length_map _
     have hCt : List.take i (CC.map clsD) = CC.map clsD := List.take_of_length_le (by rw [hCl, hCCl]; exact Nat.le_refl _)
     have hCn : i + 1 = (ordCs 0 (l.take (i + 1))).length := by rw [hsc, List.length_append, hCCl]; rfl
     have hCe : CC.map clsD ++ [.agg [NM, WK, .bool false, .sl (some 4) ((ordS n).map stepD)]] = (ordCs 0 (l.take (i + 1))).map clsD := by
      rw [hsc, List.map_append, ← hNM, ← hWK]
      rfl
     simp only [go_sem, Int.reduceEq, Int.reduceLT, Int.reduceLE, hSl, hSt, hCl, hCt, hCe, Nat.le_refl]
     refine ⟨by omega, by omega, by omega, inR_i64.2 (by omega), i + 1, by omega, by omega, ?_⟩
     rw [ho3', if_pos hi0]
     refine le_end (own := [_, _, _, _, _]) (ex := [_, _, _]) (Nat.zero_le _) ?_ ?_ ?_
     ·simp only [go_sem, Int.natCast_add, Int.cast_ofNat_Int]
     ·simp only [go_sem]
     ·simp only [go_sem, Obj.under, AV.unders, AV.under]
    ·have hi1 : i = 1 := by omega
     have hCC1 : CC.map clsD = [clsR (ordC 3 0)].map D.agg := by rw [← hCC, ← h33, hi1]; rfl
     have hSl : (ordS n).length = 4 := by rw [hn3]; rfl
     rw [hCC1]
     refine sem_le (le_tab 4 (k := 4) (M := [clsR (ordC 3 0)]) (by decide) (by intro r hr; simp only [List.mem_singleton] at hr; subst hr; rfl) rfl) ?_
     refine sem_of_awpK [] (Γ := tbl []) okG_nil _ _ _ ?_
     have hfl : List.map AV.dat [clsR (ordC 3 0)].flatten = [.dat (.str (ordC 3 0).name), .dat (.int .i64 (ordC 3 0).workers), .dat (.bool (ordC 3 0).server), .dat (stepsD (ordC 3 0).steps)] := rfl
     subst hi1
     simp only [go_sem, Int.reduceEq, Int.reduceLT, Int.reduceLE, hfl, hSl]
     refine ⟨inR_i64.2 (by omega), 2, by omega, by omega, ?_⟩
     have e2 : o33 2 = [.tab 4 [.dat (.str (ordC 3 0).name), .dat (.int .i64 (ordC 3 0).workers), .dat (.bool (ordC 3 0).server), .dat (stepsD (ordC 3 0).steps), .dat NM, .dat WK, .dat (.bool false), .sl 6 0 4], .dead, .row (some 4) ((ordS n).map stepD)] := by rw [← hNM, ← hWK, hn3]; rfl
     rw [e2]
     refine Le.trans (le_dead 5) ?_
     refine le_end (own := [_, _, _, _, _, _, _]) (ex := [_]) (Nat.zero_le _) ?_ ?_ ?_
     ·simp only [go_sem, Int.natCast_add, Int.cast_ofNat_Int]
     ·simp only [go_sem]
     ·simp only [go_sem, Obj.under, AV.unders, AV.under]
 obtain rfl : i = 2 := by omega
 have e2 : o33 2 = [.tab 4 ((clsR (ordC 3 0)).map .dat ++ clsA (ordC 3 1) (.sl 6 0 4)), .dead, .row (some 4) ((ordS 3).map stepD)] := rfl
 rw [e2]
 simp only [List.cons_append, List.nil_append]
 refine sem_of_awpK [] (Γ := tbl []) okG_nil _ _ _ ?_
 have hk2 : ¬ ((2 : Int) < l.length) := by omega
 simp only [go_sem, Int.reduceEq, Int.reduceLT, Int.reduceLE, hk2, ho8, decide_false]
 refine post_resO (.inl rfl) [.cell 2 27] rfl (fun _ h => h) ?_
 simp only [go_sem]
 exact Le.refl _
end Go.AM
namespace Go.AM
open Go Go.Proofs
def q33 : PSys := ⟨[], ordK, [ordC 3 0, ⟨119 :: runeS (48 + (1 : Nat)), 1, false, [⟨3, 1, 0, false⟩, ⟨3, 0, 0, false⟩, ⟨4, 0, 0, false⟩, ⟨4, 1, 0, false⟩]⟩]⟩
abbrev p33 : PSys := ordP [3, 3]
theorem p33_check : checkE p33 = 0 := by kernel_rfl
theorem q33_check : checkE q33 = 0 := by kernel_rfl
theorem q33_imp : impO q33 = none := by kernel_rfl
theorem p33_dead : deadC p33 10 = some ([], 0, 6) := by kernel_rfl
theorem q33_dead : deadC q33 10 = some ([0, 1], 0, 0) := by kernel_rfl
theorem map_inj1 {α β : Type} {f : α -> β} (hf : ∀ a b, f a = f b -> a = b) : ∀ {l l' : List α}, l.map f = l'.map f -> l = l'
 | [], [], _ => rfl
 | [], _ :: _, h => by simp at h
 | _ :: _, [], h => by simp at h
 | a :: l, b :: l', h => by
  simp only [List.map_cons, List.cons.injEq] at h
  rw [hf a b h.1, map_inj1 hf h.2]
theorem stepD_inj (a b : PStep) (h : stepD a = stepD b) : a = b := by
 cases a; cases b; simp only [stepD, D.agg.injEq, List.cons.injEq, D.int.injEq, D.bool.injEq, and_true, true_and] at h; simp [h]
theorem clsD_inj (a b : PCls) (h : clsD a = clsD b) : a = b := by
 cases a; cases b; simp only [clsD, stepsD, D.agg.injEq, List.cons.injEq, D.int.injEq, D.bool.injEq, D.str.injEq, D.sl.injEq, and_true, true_and] at h
 have := map_inj1 stepD_inj h.2.2.2
 simp [h, this]
theorem poolD_inj (a b : PPool) (h : poolD a = poolD b) : a = b := by
 cases a; cases b; simp only [poolD, D.agg.injEq, List.cons.injEq, D.int.injEq, D.str.injEq, and_true, true_and] at h; simp [h]
theorem sysD_inj (a b : PSys) (h : sysD a = sysD b) : a = b := by
 cases a; cases b; simp only [sysD, D.agg.injEq, List.cons.injEq, D.sl.injEq, and_true, true_and] at h
 have h1 := map_inj1 poolD_inj h.1
 have h2 := map_inj1 (f := D.str) (fun a b h => by simpa using h) h.2.1
 have h3 := map_inj1 clsD_inj h.2.2
 simp [h1, h2, h3]
theorem ord_make (l : List Nat) (hl : ∀ n ∈ l, n < 256) : (makeO (ordP l)).2 = 0 /\ verN (ordP l) (castL (makeO (ordP l)).1) = 0 := by
 obtain ⟨h1, h2, L, h3⟩ := ver_only (ord_ver l hl)
 rw [makeO_ok h1 h2 h3]
 exact ⟨rfl, ver_make h1 h2 h3⟩
theorem p33_make : (makeO p33).2 = 0 := (ord_make [3, 3] (by decide)).1
theorem q33_make : (makeO q33).2 = 20 := by
 cases hl : levV (nRes q33) (sysE q33) with
 | none => rw [makeO_dead q33_check q33_imp hl]
 | some L =>
  exfalso
  have h0 : (makeO q33).2 = 0 := by rw [makeO_ok q33_check q33_imp hl]
  obtain ⟨L', hC⟩ := make_cert h0
  obtain ⟨s', B, hs, hf, hB, hv⟩ := deadR_of q33_check q33_dead
  simp only [List.cons.injEq, and_true] at hs
  obtain rfl := sysD_inj _ _ hs
  have := dead_cert hC hB
  simp only [AV.tup.injEq, List.cons.injEq, AV.dat.injEq, D.int.injEq, true_and, and_true] at hv
  rw [← hv.2.2] at this
  rcases this with h | h <;> cases h
def bChkR (ds : List D) (v : AV) : Prop := ds = [] /\ v = .dat (.bool true)
theorem bChkR_true : bChkR [] (.dat (.bool true)) := ⟨rfl, rfl⟩
abbrev tabBC : List (Nat × Contract) := [(5, madeC ord33R), (7, dataC makeR), (8, dataC deadR)]
theorem tabBC_ok : OkG Try.prog (tbl tabBC) := okG_cons bOrd33_ok (okG_cons make_ok (okG_cons xDeadlock_ok okG_nil))
theorem bChecked_ok : OkF Try.prog 10 (dataC bChkR) := by
 refine okF_data Try.func10 rfl (by decide) ?_
 rintro ds v ⟨rfl, rfl⟩
 have d1 := deadR_of p33_check p33_dead
 have d2 := deadR_of q33_check q33_dead
 have m1 : makeR [sysD p33] (makeV p33) := ⟨_, rfl, ⟨(good_of p33_check).small⟩, rfl⟩
 have m2 : makeR [sysD q33] (makeV q33) := ⟨_, rfl, ⟨(good_of q33_check).small⟩, rfl⟩
 unfold makeV at m1 m2
 rw [p33_make] at m1
 rw [q33_make] at m2
 refine sem_of_awpK [1, 2, 3, 5, 6] (Γ := tbl tabBC) tabBC_ok _ _ _ ?_
 simp only [go_sem, Int.reduceEq, Int.reduceLT, Int.reduceLE, Try.ntmps10]
 refine sem_cut 1 tabBC_ok ?_
 simp only [go_sem, Int.reduceEq, Int.reduceLT, Int.reduceLE]
 refine ⟨_, le_freeze 0 (ag := none) rfl (Nat.zero_le _), ?_⟩
 simp only [go_sem, Int.reduceEq, Int.reduceLT, Int.reduceLE]
 refine call_made ord33R (by simp) [.sl none [.int .u8 3, .int .u8 3]] _ _ rfl rfl ⟨rfl, rfl, rfl⟩ ?_
 simp only [o33]
 simp only [go_sem, Int.reduceEq, Int.reduceLT, Int.reduceLE, AV.shift, Obj.shift, AV.shifts, List.map_append, clsA, clsR, List.map_cons, List.map_nil, List.cons_append, List.nil_append]
 have hS : List.map stepD (ordS 3) = [.agg [.int .i64 3, .int .i64 0, .int .i64 0, .bool false], .agg [.int .i64 3, .int .i64 1, .int .i64 0, .bool false], .agg [.int .i64 4, .int .i64 0, .int .i64 0, .bool false], .agg [.int .i64 4, .int .i64 1, .int .i64 0, .bool false]] := rfl
 have h0 : ordC 3 0 = ⟨[119, 48], 1, false, ordS 3⟩ := rfl
 have h1 : ordC 3 1 = ⟨[119, 49], 1, false, ordS 3⟩ := rfl
 simp only [h0, h1, stepsD, hS]
 refine sem_le (le_freeze 7 (ag := some 4) rfl (Nat.zero_le _)) ?_
 refine sem_le (le_freezeT 5 (k := 4) (M := [[.str [119, 48], .int .i64 1, .bool false, .sl (some 4) [.agg [.int .i64 3, .int .i64 0, .int .i64 0, .bool false], .agg [.int .i64 3, .int .i64 1, .int .i64 0, .bool false], .agg [.int .i64 4, .int .i64 0, .int .i64 0, .bool false], .agg [.int .i64 4, .int .i64 1, .int .i64 0, .bool false]]], [.str [119, 49], .int .i64 1, .bool false, .sl (some 4) [.agg [.int .i64 3, .int .i64 0, .int .i64 0, .bool false], .agg [.int .i64 3, .int .i64 1, .int .i64 0, .bool false], .agg [.int .i64 4, .int .i64 0, .int .i64 0, .bool false], .agg [.int .i64 4, .int .i64 1, .int .i64 0, .bool false]]]]) (by decide) (by decide) rfl rfl (Nat.zero_le _)) ?_
 refine sem_le (le_freeze 4 (ag := some 3) rfl (Nat.zero_le _)) ?_
 refine sem_le (le_freeze 2 (ag := none) rfl (Nat.zero_le _)) ?_
 refine sem_le (le_dead 1) ?_
 refine sem_le (le_dead 3) ?_
 refine sem_cut 1 tabBC_ok ?_
 simp only [go_sem, Int.reduceEq, Int.reduceLT, Int.reduceLE, List.length_cons, List.length_nil, Nat.le_refl, List.take_succ_cons, List.take_zero, List.drop_zero, List.map_cons, List.map_nil, List.take_nil]
 refine ⟨_, le_freeze 9 (ag := none) rfl (Nat.zero_le _), ?_⟩
 simp only [go_sem, Int.reduceEq, Int.reduceLT, Int.reduceLE]
 refine call_made ord33R (by simp) [.sl none [.int .u8 3, .int .u8 3]] _ _ rfl rfl ⟨rfl, rfl, rfl⟩ ?_
 simp only [o33]
 simp only [go_sem, Int.reduceEq, Int.reduceLT, Int.reduceLE, AV.shift, Obj.shift, AV.shifts, List.map_append, clsA, clsR, List.map_cons, List.map_nil, List.cons_append, List.nil_append]
 simp only [h0, h1, stepsD, hS]
 refine sem_of_awpK [5, 6] (Γ := tbl tabBC) tabBC_ok _ _ _ ?_
 simp only [go_sem, Int.reduceEq, Int.reduceLT, Int.reduceLE, eq_self, not_true, decide_false, not_false_eq_true, decide_true]
 refine sem_drawX [] [] (pf := []) (mf := []) mixed tabBC_ok pureNo noMk (ones [0, 1, 2, 3, 4, 5, 6, 7, 8, 9, 10, 11, 12, 13, 14, 15]) (by kernel_rfl) ?_
 simp only [go_sem, Int.reduceEq, Int.reduceLT, Int.reduceLE, eq_self, not_true, decide_false, not_false_eq_true, decide_true]
 have hst : ∀ (a b c d : D), D.nth [a, b, c, d] 0 = a /\ D.nth [a, b, c, d] 1 = b := fun _ _ _ _ => ⟨rfl, rfl⟩
 simp only [hst, List.set_cons_zero, List.set_cons_succ]
 refine sem_le (le_freeze 16 (ag := some 4) rfl (Nat.zero_le _)) ?_
 refine sem_le (le_freezeT 14 (k := 4) (M := [[.str [119, 48], .int .i64 1, .bool false, .sl (some 4) [.agg [.int .i64 3, .int .i64 0, .int .i64 0, .bool false], .agg [.int .i64 3, .int .i64 1, .int .i64 0, .bool false], .agg [.int .i64 4, .int .i64 0, .int .i64 0, .bool false], .agg [.int .i64 4, .int .i64 1, .int .i64 0, .bool false]]], [.str [119, 49], .int .i64 1, .bool false, .sl (some 4) [.agg [.int .i64 3, .int .i64 1, .int .i64 0, .bool false], .agg [.int .i64 3, .int .i64 0, .int .i64 0, .bool false], .agg [.int .i64 4, .int .i64 0, .int .i64 0, .bool false], .agg [.int .i64 4, .int .i64 1, .int .i64 0, .bool false]]]]) (by decide) (by decide) rfl rfl (Nat.zero_le _)) ?_
 refine sem_le (le_freeze 13 (ag := some 3) rfl (Nat.zero_le _)) ?_
 refine sem_le (le_freeze 11 (ag := none) rfl (Nat.zero_le _)) ?_
 refine sem_le (le_dead 10) ?_
 refine sem_le (le_dead 12) ?_
 refine sem_of_awp (Γ := tbl tabBC) tabBC_ok _ _ _ ?_
 simp only [go_sem, Int.reduceEq, Int.reduceLT, Int.reduceLE, List.length_cons, List.length_nil, Nat.le_refl, List.take_succ_cons, List.take_zero, List.drop_zero, List.map_cons, List.map_nil, List.take_nil]
 refine call_data makeR (by simp) [sysD p33] _ rfl m1 (.inl rfl) ?_
 simp only [go_sem, Int.reduceEq, Int.reduceLT, Int.reduceLE, certD]
 refine call_data makeR (by simp) [sysD q33] _ rfl m2 (.inl rfl) ?_
 simp only [go_sem, Int.reduceEq, Int.reduceLT, Int.reduceLE, certD]
 refine call_data deadR (by simp) [sysD q33] _ rfl d2 (.inl rfl) ?_
 simp only [go_sem, Int.reduceEq, Int.reduceLT, Int.reduceLE]
 refine call_data deadR (by simp) [sysD p33] _ rfl d1 (.inl rfl) ?_
 simp only [go_sem, Int.reduceEq, Int.reduceLT, Int.reduceLE, decide_true, eq_self, List.length_cons, List.length_nil, List.map_cons, List.map_nil]
 exact post_data (.inl rfl) [0] rfl trivial rfl
end Go.AM
namespace Go.AM
open Go Go.Proofs
theorem makeO_ln (s : PSys) : (makeO s).1.length <= 10000 := by
 by_cases h : checkE s = 0
 ·cases hi : impO s with
  | some x => rw [makeO_imp h (by rw [hi]; rfl)]; simp
  | none =>
   cases hl : levV (nRes s) (sysE s) with
   | none => rw [makeO_dead h hi hl]; simp
   | some L =>
    rw [makeO_ok h hi hl]
    have := (lev_facts h hl).1
    have := nRes_le h
    show L.length <= 10000
    omega
 ·rw [makeO_err h]; simp
end Go.AM
namespace Go.AM
open Go Go.Proofs
def lawAsR (ds : List D) (v : AV) : Prop := ∃ l : List Nat, (∀ n ∈ l, n < 256) /\ l.length < 9223372036854775808 /\ ds = [.sl none (ou8D l)] /\ v = .dat (.bool true)
abbrev tabAs : List (Nat × Contract) := [(5, dataC ordR), (6, dataC checkR), (7, dataC makeR), (8, dataC deadR), (9, dataC verR), (10, dataC bChkR)]
theorem tabAs_ok : OkG Try.prog (tbl tabAs) := okG_cons bOrdered_ok (okG_cons check_ok (okG_cons make_ok (okG_cons xDeadlock_ok (okG_cons verify_ok (okG_cons bChecked_ok okG_nil)))))
theorem lawAscending_ok : OkF Try.prog 3 (dataC lawAsR) := by
 refine okF_data Try.func3 rfl (by decide) ?_
 rintro ds v ⟨l, hl, hll, rfl, rfl⟩
 have hc : checkE (ordP l) = 0 := ord_check l hl
 have hs : (ordP l).fit := ⟨(good_of hc).small⟩
 obtain ⟨B, hB⟩ := ex_tab2 (ordP l) (iniX (ordP l))
 have hdd : deadR [sysD (ordP l)] (.tup [.dat (.sl none (intsD (deadV (ordP l) B).1)), .dat (.int .i64 (deadV (ordP l) B).2.1), .dat (.int .i64 (deadV (ordP l) B).2.2)]) := ⟨_, B, rfl, hs, hB, rfl⟩
 obtain ⟨hm0, hv0⟩ := ord_make l hl
 have hml := makeO_ln (ordP l)
 have hmk : makeR [sysD (ordP l)] (.tup [.dat (certD (makeO (ordP l)).1), .dat (.int .i64 (makeO (ordP l)).2)]) := ⟨_, rfl, hs, rfl⟩
 have hvr : verR [sysD (ordP l), .agg [.sl none (intsD (castL (makeO (ordP l)).1))]] (.dat (.int .i64 (verN (ordP l) (castL (makeO (ordP l)).1)))) := ⟨_, _, rfl, hs, by simpa [castL] using hml, rfl⟩
 have hdead : (deadV (ordP l) B).2.2 = 6 ∨ (deadV (ordP l) B).2.2 = 9 := dead_cert (cert_of hv0) hB
 have hck : checkR [sysD (ordP l)] (.dat (.int .i64 (checkE (ordP l)))) := ⟨_, rfl, hs, rfl⟩
 have hor : ordR [.sl none (ou8D l)] (.dat (sysD (ordP l))) := ⟨none, l, hl, hll, rfl, rfl⟩
 have hnat : intsD (castL (makeO (ordP l)).1) = natsD (makeO (ordP l)).1 := by simp [castL, List.map_map, Function.comp_def]
 rw [hv0, hnat] at hvr
 rw [hm0] at hmk
 rw [hc] at hck
 have hx : sysD (ordP l) = .agg [.sl (some 3) ((ordP l).pools.map poolD), .sl none ((ordP l).locks.map .str), .sl (some 4) ((ordP l).classes.map clsD)] := rfl
 rw [hx] at hdd hmk hvr hck hor
 generalize (deadV (ordP l) B).1 = d0 at *
 generalize (deadV (ordP l) B).2.1 = d1 at *
 generalize (deadV (ordP l) B).2.2 = d2 at *
 generalize (makeO (ordP l)).1 = ML at *
 generalize (ordP l).pools.map poolD = PA at *
 generalize (ordP l).locks.map D.str = PB at *
 generalize (ordP l).classes.map clsD = PC at *
 refine sem_of_awp (Γ := tbl tabAs) tabAs_ok _ _ _ ?_
 simp only [go_sem, Int.reduceEq, Int.reduceLT, Int.reduceLE, Try.ntmps3]
 refine call_data ordR (by simp) [.sl none (ou8D l)] _ rfl hor (.inl rfl) ?_
 simp only [go_sem, Int.reduceEq, Int.reduceLT, Int.reduceLE]
 refine call_data checkR (by simp) [.agg [.sl (some 3) PA, .sl none PB, .sl (some 4) PC]] _ rfl hck (.inl rfl) ?_
 simp only [go_sem, Int.reduceEq, Int.reduceLT, Int.reduceLE, eq_self, not_true, decide_false]
 refine call_data makeR (by simp) [.agg [.sl (some 3) PA, .sl none PB, .sl (some 4) PC]] _ rfl hmk (.inl rfl) ?_
 simp only [go_sem, Int.reduceEq, Int.reduceLT, Int.reduceLE, certD]
 refine call_data deadR (by simp) [.agg [.sl (some 3) PA, .sl none PB, .sl (some 4) PC]] _ rfl hdd (.inl rfl) ?_
 simp only [go_sem, Int.reduceEq, Int.reduceLT, Int.reduceLE, eq_self, decide_true]
 refine call_data verR (by simp) [.agg [.sl (some 3) PA, .sl none PB, .sl (some 4) PC], .agg [.sl none (natsD ML)]] _ rfl hvr (.inl rfl) ?_
 rcases hdead with h6 | h6
 all_goals simp only [go_sem, Int.reduceEq, Int.reduceLT, Int.reduceLE, h6, eq_self, decide_true]
 all_goals refine call_data bChkR (by simp) [] _ rfl bChkR_true (.inl rfl) ?_
 all_goals simp only [go_sem, Int.reduceEq, Int.reduceLT, Int.reduceLE]
 all_goals exact post_data (.inl rfl) [2] rfl trivial rfl
end Go.AM
namespace Go.AM
open Go Go.Proofs
theorem want87 : wantT Try.prog 58 = some 3 := by kernel_rfl
theorem want9 : wantT Try.prog 9 = none := by kernel_rfl
theorem want54 : wantT Try.prog 51 = some 4 := by kernel_rfl
theorem want56 : wantT Try.prog 53 = some 4 := by kernel_rfl
theorem pool_arg {m : Nat} {d : D} (h : argT Try.prog (m + 3) 58 d) : ∃ p : PPool, d = poolD p /\ True := by
 obtain ⟨ds, rfl, hf⟩ := arg_fields (ts := [9, 3, 3]) (by kernel_rfl) h
 obtain ⟨a, r, rfl, ha, hf⟩ := hf
 obtain ⟨b, r, rfl, hb, hf⟩ := hf
 obtain ⟨c, r, rfl, hc, rfl⟩ := hf
 rw [dataT_str (by kernel_rfl)] at ha
 rw [dataT_int (k := .i64) (by kernel_rfl)] at hb hc
 obtain ⟨a, rfl, _⟩ := ha
 obtain ⟨b, rfl, _⟩ := hb
 obtain ⟨c, rfl, _⟩ := hc
 exact ⟨⟨a, b, c⟩, rfl, trivial⟩
theorem step_arg {m : Nat} {d : D} (h : argT Try.prog (m + 3) 53 d) : ∃ p : PStep, d = stepD p /\ True := by
 obtain ⟨ds, rfl, hf⟩ := arg_fields (ts := [3, 3, 3, 4]) (by kernel_rfl) h
 obtain ⟨a, r, rfl, ha, hf⟩ := hf
 obtain ⟨b, r, rfl, hb, hf⟩ := hf
 obtain ⟨c, r, rfl, hc, hf⟩ := hf
 obtain ⟨e, r, rfl, he, rfl⟩ := hf
 rw [dataT_int (k := .i64) (by kernel_rfl)] at ha hb hc
 rw [dataT_bool (by kernel_rfl)] at he
 obtain ⟨a, rfl, _⟩ := ha
 obtain ⟨b, rfl, _⟩ := hb
 obtain ⟨c, rfl, _⟩ := hc
 obtain ⟨e, rfl⟩ := he
 exact ⟨⟨a, b, c, e⟩, rfl, trivial⟩
theorem cls_arg {m : Nat} {d : D} (h : argT Try.prog (m + 6) 51 d) : ∃ p : PCls, d = clsD p /\ True := by
 obtain ⟨ds, rfl, hf⟩ := arg_fields (ts := [9, 3, 4, 49]) (by kernel_rfl) h
 obtain ⟨a, r, rfl, ha, hf⟩ := hf
 obtain ⟨b, r, rfl, hb, hf⟩ := hf
 obtain ⟨c, r, rfl, hc, hf⟩ := hf
 obtain ⟨e, r, rfl, he, rfl⟩ := hf
 rw [dataT_str (by kernel_rfl)] at ha
 rw [dataT_int (k := .i64) (by kernel_rfl)] at hb
 rw [dataT_bool (by kernel_rfl)] at hc
 rw [dataT_slice (e := 53) (by kernel_rfl), want56] at he
 obtain ⟨a, rfl, _⟩ := ha
 obtain ⟨b, rfl, _⟩ := hb
 obtain ⟨c, rfl⟩ := hc
 obtain ⟨e, rfl, _, hx⟩ := he
 obtain ⟨l, rfl, _⟩ := list_of stepD (Q := fun _ => True) (fun x hx' => step_arg (hx x hx'))
 exact ⟨⟨a, b, c, l⟩, rfl, trivial⟩
theorem sys_arg {m : Nat} {d : D} (h : argT Try.prog (m + 9) 27 d) : ∃ s : PSys, d = sysD s := by
 obtain ⟨ds, rfl, hf⟩ := arg_fields (ts := [23, 24, 25]) (by kernel_rfl) h
 obtain ⟨a, r, rfl, ha, hf⟩ := hf
 obtain ⟨b, r, rfl, hb, hf⟩ := hf
 obtain ⟨c, r, rfl, hc, rfl⟩ := hf
 rw [dataT_slice (e := 58) (by kernel_rfl), want87] at ha
 rw [dataT_slice (e := 9) (by kernel_rfl), want9] at hb
 rw [dataT_slice (e := 51) (by kernel_rfl), want54] at hc
 obtain ⟨a, rfl, _, ha⟩ := ha
 obtain ⟨b, rfl, _, hb⟩ := hb
 obtain ⟨c, rfl, _, hc⟩ := hc
 obtain ⟨a, rfl, _⟩ := list_of poolD (Q := fun _ => True) (fun x hx' => pool_arg (ha x hx'))
 obtain ⟨b, rfl, _⟩ := list_of D.str (Q := fun _ => True) (fun x hx' => by
  obtain ⟨s, h, _⟩ := arg_str (by kernel_rfl) (hb x hx')
  exact ⟨s, h, trivial⟩)
 obtain ⟨c, rfl, _⟩ := list_of clsD (Q := fun _ => True) (fun x hx' => cls_arg (hc x hx'))
 exact ⟨⟨a, b, c⟩, rfl⟩
end Go.AM
namespace Go.AM
open Go Go.Proofs
abbrev byteD (a : Nat) : D := .int .u8 (a : Int)
theorem byte_arg {m : Nat} {d : D} (h : argT Try.prog (m + 1) 5 d) : ∃ a : Nat, d = byteD a /\ a < 256 := by
 obtain ⟨n, rfl, hn⟩ := arg_int (k := .u8) (by kernel_rfl) h
 have := inR_u8.1 hn
 refine ⟨n.toNat, ?_, by omega⟩
 show D.int .u8 n = D.int .u8 (n.toNat : Int)
 rw [Int.toNat_of_nonneg this.1]
end Go.AM
namespace Go.AM
open Go Go.Proofs
theorem wantU8 : wantT Try.prog 5 = none := by kernel_rfl
theorem bytes_arg {m : Nat} {d : D} (h : argT Try.prog (m + 3) 22 d) : ∃ l : List Nat, (∀ n ∈ l, n < 256) /\ l.length < 9223372036854775808 /\ d = .sl none (ou8D l) := by
 obtain ⟨xs, rfl, hl, hx⟩ := arg_slice (e := 5) (by kernel_rfl) h
 rw [wantU8]
 obtain ⟨L, rfl, hL⟩ := list_of byteD (Q := fun n => n < 256) (fun x hx' => byte_arg (hx x hx'))
 refine ⟨L, hL, ?_, rfl⟩
 rw [List.length_map] at hl
 simp only [maxLen] at hl
 omega
end Go.AM

