/- Own work over the model of the kit. -/
import Derived.Test.YteblpegdedojdaaTypes
import Derived.Test.YteblpegdedojdaaLibC
import Derived.Test.YteblpegdedojdaaLibD
import Derived.Test.YteblpegdedojdaaProg
import Derived.KernelRfl
set_option linter.unusedSimpArgs false
set_option linter.unusedVariables false
namespace Go.AM
open Go Go.Proofs

abbrev ints (l : List Int) : List D := l.map (.int .i64)
def dInts (l : List Int) : D := .sl none (ints l)

theorem nth_dInts {L : List (List Int)} {i : Nat} (h : i < L.length) : D.nth (L.map dInts) i = .sl none (ints (L.getD i [])) := D.nth_map h
theorem nth_ints {l : List Int} {i : Nat} (h : i < l.length) : D.nth (ints l) i = .int .i64 (l.getD i 0) := D.nth_map h

def addF (m : List (D × D)) (f : Int) : List (D × D) := mapSet (.int .i64 f) (.bool true) m
def framesM (l : List Int) : List (D × D) := l.foldl addF []
def Small (L : List (List Int)) : Prop := L.length ≤ 20 ∧ ∀ l ∈ L, l.length ≤ 301

theorem framesM_snoc (l : List Int) (f : Int) : framesM (l ++ [f]) = mapSet (.int .i64 f) (.bool true) (framesM l) := by simp [framesM, addF]
theorem mapSet_keys {t : TypeDesc} {k v : D} : ∀ (m : List (D × D)), (m.all fun x => D.isKey t x.1) = true → D.isKey t k = true → ((mapSet k v m).all fun x => D.isKey t x.1) = true
  | [], _, hk => by simp [mapSet, hk]
  | x :: m, h, hk => by
    simp only [List.all_cons, Bool.and_eq_true] at h
    simp only [mapSet]
    split
    · simp only [List.all_cons, Bool.and_eq_true]; exact ⟨hk, h.2⟩
    · simp only [List.all_cons, Bool.and_eq_true]; exact ⟨h.1, mapSet_keys m h.2 hk⟩
theorem foldl_keys : ∀ (l : List Int) (m : List (D × D)), (m.all fun x => D.isKey (.int .i64) x.1) = true → ((l.foldl addF m).all fun x => D.isKey (.int .i64) x.1) = true
  | [], m, h => h
  | f :: l, m, h => foldl_keys l _ (mapSet_keys m h rfl)
theorem framesM_keys (l : List Int) : ((framesM l).all fun x => D.isKey (.int .i64) x.1) = true := foldl_keys l [] rfl

theorem Small.get {L : List (List Int)} (h : Small L) {k : Nat} (hk : k < L.length) : (L.getD k []).length ≤ 301 := by
  rw [List.getD_eq_getElem?_getD, List.getElem?_eq_getElem hk]
  exact h.2 _ (List.getElem_mem hk)
theorem take_flat {L : List (List Int)} {k : Nat} (hk : k < L.length) : (L.take (k + 1)).flatten = (L.take k).flatten ++ L.getD k [] := by
  rw [List.take_succ_eq_append_getElem hk, List.flatten_append]
  simp [List.getElem?_eq_getElem hk]
theorem take_snoc {l : List Int} {j : Nat} (hj : j < l.length) : l.take (j + 1) = l.take j ++ [l.getD j 0] := by
  rw [List.take_succ_eq_append_getElem hj]
  simp [List.getElem?_eq_getElem hj]

def framesR (ds : List D) (v : AV) (ob : List Obj) : Prop := ∃ L, Small L ∧ ds = [.agg [.sl none (L.map dInts)]] ∧ v = .map 1 ∧ ob = [.box [.dat (.sl none (L.map dInts))], .map (framesM L.flatten)]

theorem frames_ok : OkF Try.prog 29 (madeC framesR) := by
  refine okF_made Try.func29 rfl (by decide) ?_
  rintro ds v ob ⟨L, hL, rfl, rfl, rfl⟩
  refine sem_of_awp (Γ := tbl []) okG_nil _ _ _ ?_
  simp (contextual := true) only [go_sem, Try.ntmps29]
  refine sem_loop (fun k : Nat => ⟨slotsOf 27 [(3, .map 1), (10, .dat (.sl none (L.map dInts))), (11, .dat (.int .i64 L.length)), (12, .dat (.int .i64 k))],
    [.box [.dat (.sl none (L.map dInts))], .map (framesM (L.take k).flatten)], 0, []⟩) (fun k => k ≤ L.length) (fun k => L.length - k) 0 (Nat.zero_le _) ?_ ?_
  · exact le_slots' (by simp only [go_sem, Int.natCast_zero])
  · intro k hk
    refine sem_of_awp (Γ := tbl []) okG_nil _ _ _ ?_
    simp (contextual := true) only [go_sem, Int.natCast_nonneg]
    refine ⟨fun hlt => ?_, fun hge => ?_⟩
    · have hlt' : k < L.length := by omega
      simp (contextual := true) only [go_sem, nth_dInts hlt']
      have hl := hL.get hlt'
      generalize hlk : L.getD k [] = l at *
      refine sem_loop (fun j : Nat => ⟨slotsOf 27 [(3, .map 1), (10, .dat (.sl none (L.map dInts))), (11, .dat (.int .i64 L.length)), (12, .dat (.int .i64 k)),
          (16, .dat (.sl none (ints l))), (17, .dat (.int .i64 l.length)), (18, .dat (.int .i64 j))],
        [.box [.dat (.sl none (L.map dInts))], .map (framesM ((L.take k).flatten ++ l.take j))], 0, []⟩) (fun j => j ≤ l.length) (fun j => l.length - j) 0 (Nat.zero_le _) ?_ ?_
      · simp only [List.take_zero, List.append_nil]
        exact le_slots' (by simp only [go_sem, Int.natCast_zero])
      · intro j hj
        refine sem_of_awp (Γ := tbl []) okG_nil _ _ _ ?_
        simp (contextual := true) only [go_sem, Int.natCast_nonneg]
        refine ⟨fun hlt2 => ?_, fun hge2 => ?_⟩
        · have hj' : j < l.length := by omega
          simp (contextual := true) only [go_sem, nth_ints hj', framesM_keys]
          refine ⟨inR_i64.2 (by omega), j + 1, hj', by omega, ?_⟩
          rw [take_snoc hj', ← List.append_assoc, framesM_snoc]
          exact le_slots' (by simp only [go_sem, Int.natCast_add, Int.cast_ofNat_Int])
        · have : j = l.length := by omega
          subst this
          have := hL.1
          refine ⟨inR_i64.2 (by omega), k + 1, hlt', by omega, ?_⟩
          rw [take_flat hlt', hlk, List.take_length]
          exact le_slots' (by simp only [go_sem, Int.natCast_add, Int.cast_ofNat_Int])
    · have : k = L.length := by omega
      subst this
      rw [List.take_length]
      exact post_own (.inl rfl) [2] rfl rfl (fun _ h => h)
end Go.AM

namespace Go.AM
open Go Go.Proofs

theorem mixed : Try.prog.follows .mixedOrders = true := by kernel_rfl
theorem pure0 {Γ : Nat → Contract} : PureFns Γ [] := fun g _ _ _ _ _ h => by cases h

def inF (f : Int) : Bool := decide (0 ≤ f) && decide (f < 256)

def isFrameR (ds : List D) (v : AV) : Prop := ∃ f, ds = [.int .i64 f] ∧ v = .dat (.bool (inF f))
theorem isFrame_ok : OkF Try.prog 28 (dataC isFrameR) := by
  refine okF_data Try.func28 rfl (by decide) ?_
  rintro ds v ⟨f, rfl, rfl⟩
  refine sem_of_awp (Γ := tbl []) okG_nil _ _ _ ?_
  simp (contextual := true) only [go_sem, Try.ntmps28]
  refine ⟨fun h => ?_, fun h => ?_⟩
  · exact post_data (.inl rfl) [2] rfl trivial (by simp [tmpsOf, resV, inF, h])
  · exact post_data (.inl rfl) [2] rfl trivial (by simp [tmpsOf, resV, inF, h])

def outsideR (ds : List D) (v : AV) : Prop := ∃ f, ds = [.int .i64 f] ∧ v = .dat (.bool (!inF f))
theorem outside_ok : OkF Try.prog 30 (dataC outsideR) := by
  refine okF_data Try.func30 rfl (by decide) ?_
  rintro ds v ⟨f, rfl, rfl⟩
  refine sem_of_awp (Γ := tbl []) okG_nil _ _ _ ?_
  simp (contextual := true) only [go_sem, Try.ntmps30]
  refine ⟨fun h => ?_, fun h => ?_⟩
  · refine post_data (.inl rfl) [2] rfl trivial ?_
    simp only [tmpsOf, resV, inF, List.getD_cons_zero, List.getD_cons_succ, AV.dat.injEq, D.bool.injEq]
    rw [Bool.eq_iff_iff]
    simp
    omega
  · refine post_data (.inl rfl) [2] rfl trivial ?_
    simp only [tmpsOf, resV, inF, List.getD_cons_zero, List.getD_cons_succ, AV.dat.injEq, D.bool.injEq]
    rw [Bool.eq_iff_iff]
    simp
    omega

def sameListR (ds : List D) (v : AV) : Prop := ∃ a b : List Int, a.length ≤ 100000 ∧ ds = [.sl none (ints a), .sl none (ints b)] ∧ v = .dat (.bool (decide (a = b)))

theorem take_eq_succ {a b : List Int} {j : Nat} (ha : j < a.length) (hb : j < b.length) (h : a.take j = b.take j) (he : a.getD j 0 = b.getD j 0) : a.take (j + 1) = b.take (j + 1) := by
  rw [take_snoc ha, take_snoc hb, h, he]

theorem sameList_ok : OkF Try.prog 27 (dataC sameListR) := by
  refine okF_data Try.func27 rfl (by decide) ?_
  rintro ds v ⟨a, b, ha, rfl, rfl⟩
  refine sem_of_awp (Γ := tbl []) okG_nil _ _ _ ?_
  simp (contextual := true) only [go_sem, Try.ntmps27]
  refine ⟨fun h => ?_, fun h => ?_⟩
  · refine post_data (.inl rfl) [4] rfl trivial ?_
    simp only [tmpsOf, resV, List.getD_cons_zero, List.getD_cons_succ, AV.dat.injEq, D.bool.injEq]
    symm
    rw [decide_eq_false_iff_not]
    intro e
    subst e
    exact h rfl
  · have hl : a.length = b.length := by omega
    refine sem_loop (fun k : Nat => ⟨slotsOf 26 [(0, .dat (.sl none (ints a))), (1, .dat (.sl none (ints b))), (12, .dat (.int .i64 b.length)), (13, .dat (.int .i64 k))], [], 0, []⟩)
      (fun k => k ≤ a.length ∧ a.take k = b.take k) (fun k => a.length - k) 0 ⟨Nat.zero_le _, by simp⟩ ?_ ?_
    · exact le_slots' (by simp only [go_sem, Int.natCast_zero])
    · rintro k ⟨hk, hsame⟩
      refine sem_of_awp (Γ := tbl []) okG_nil _ _ _ ?_
      simp (contextual := true) only [go_sem, Int.natCast_nonneg]
      refine ⟨fun hlt => ?_, fun hge => ?_⟩
      · have hk1 : k < a.length := by omega
        have hk2 : k < b.length := by omega
        refine sem_draw (pf := []) (Γ := tbl []) mixed okG_nil pure0 [0, 1, 2, 3, 4, 5, 6, 7, 8] (by kernel_rfl) ?_
        simp only [go_sem, chainI, nth_ints hk1, nth_ints hk2, Int.natCast_nonneg]
        refine ⟨by omega, by omega, fun hne => ?_, fun heq => ?_⟩
        · refine post_data (.inl rfl) [4] rfl trivial ?_
          simp only [tmpsOf, resV, List.getD_cons_zero, List.getD_cons_succ, AV.dat.injEq, D.bool.injEq]
          symm
          rw [decide_eq_false_iff_not]
          intro e
          subst e
          exact hne rfl
        · refine ⟨inR_i64.2 (by omega), k + 1, ⟨hk1, take_eq_succ hk1 hk2 hsame (by simpa using heq)⟩, by omega, ?_⟩
          exact le_slots' (by simp only [go_sem, Int.natCast_add, Int.cast_ofNat_Int])
      · have : k = a.length := by omega
        subst this
        refine post_data (.inl rfl) [4] rfl trivial ?_
        simp only [tmpsOf, resV, List.getD_cons_zero, List.getD_cons_succ, AV.dat.injEq, D.bool.injEq]
        symm
        rw [decide_eq_true_eq]
        rw [List.take_length] at hsame
        rw [hsame, hl, List.take_length]

theorem slicesEqual_ok : OkF Try.prog 22 (dataC sameListR) := by
  refine okF_data Try.func22 rfl (by decide) ?_
  rintro ds v ⟨a, b, ha, rfl, rfl⟩
  refine sem_of_awp (Γ := tbl []) okG_nil _ _ _ ?_
  simp (contextual := true) only [go_sem, Try.ntmps22]
  refine ⟨fun h => ?_, fun h => ?_⟩
  · refine post_data (.inl rfl) [4] rfl trivial ?_
    simp only [tmpsOf, resV, List.getD_cons_zero, List.getD_cons_succ, AV.dat.injEq, D.bool.injEq]
    symm
    rw [decide_eq_false_iff_not]
    intro e
    subst e
    exact h rfl
  · have hl : a.length = b.length := by omega
    refine sem_loop (fun k : Nat => ⟨slotsOf 26 [(0, .dat (.sl none (ints a))), (1, .dat (.sl none (ints b))), (12, .dat (.int .i64 b.length)), (13, .dat (.int .i64 k))], [], 0, []⟩)
      (fun k => k ≤ a.length ∧ a.take k = b.take k) (fun k => a.length - k) 0 ⟨Nat.zero_le _, by simp⟩ ?_ ?_
    · exact le_slots' (by simp only [go_sem, Int.natCast_zero])
    · rintro k ⟨hk, hsame⟩
      refine sem_of_awp (Γ := tbl []) okG_nil _ _ _ ?_
      simp (contextual := true) only [go_sem, Int.natCast_nonneg]
      refine ⟨fun hlt => ?_, fun hge => ?_⟩
      · have hk1 : k < a.length := by omega
        have hk2 : k < b.length := by omega
        refine sem_draw (pf := []) (Γ := tbl []) mixed okG_nil pure0 [0, 1, 2, 3, 4, 5, 6, 7, 8] (by kernel_rfl) ?_
        simp only [go_sem, chainI, nth_ints hk1, nth_ints hk2, Int.natCast_nonneg]
        refine ⟨by omega, by omega, fun hne => ?_, fun heq => ?_⟩
        · refine post_data (.inl rfl) [4] rfl trivial ?_
          simp only [tmpsOf, resV, List.getD_cons_zero, List.getD_cons_succ, AV.dat.injEq, D.bool.injEq]
          symm
          rw [decide_eq_false_iff_not]
          intro e
          subst e
          exact hne rfl
        · refine ⟨inR_i64.2 (by omega), k + 1, ⟨hk1, take_eq_succ hk1 hk2 hsame (by simpa using heq)⟩, by omega, ?_⟩
          exact le_slots' (by simp only [go_sem, Int.natCast_add, Int.cast_ofNat_Int])
      · have : k = a.length := by omega
        subst this
        refine post_data (.inl rfl) [4] rfl trivial ?_
        simp only [tmpsOf, resV, List.getD_cons_zero, List.getD_cons_succ, AV.dat.injEq, D.bool.injEq]
        symm
        rw [decide_eq_true_eq]
        rw [List.take_length] at hsame
        rw [hsame, hl, List.take_length]

end Go.AM

namespace Go.AM
open Go Go.Proofs
/-- Same: two caches. -/
def sameR (ds : List D) (v : AV) : Prop := ∃ A B : List (List Int), A.length ≤ 1000 ∧ (∀ l ∈ A, l.length ≤ 100000) ∧ ds = [.agg [.sl none (A.map dInts)], .agg [.sl none (B.map dInts)]] ∧ v = .dat (.bool (decide (A = B)))

theorem takeL_eq_succ {a b : List (List Int)} {j : Nat} (ha : j < a.length) (hb : j < b.length) (h : a.take j = b.take j) (he : a.getD j [] = b.getD j []) : a.take (j + 1) = b.take (j + 1) := by
  rw [List.take_succ_eq_append_getElem ha, List.take_succ_eq_append_getElem hb, h]
  simp [List.getElem?_eq_getElem ha, List.getElem?_eq_getElem hb] at he
  rw [he]

abbrev tab1 : List (Nat × Contract) := [(27, dataC sameListR)]
theorem tab1_ok : OkG Try.prog (tbl tab1) := okG_cons sameList_ok okG_nil
theorem pure1 : PureFns (tbl tab1) [27] := by
  rintro g args own v own' mv hg ⟨C, hm, hC⟩
  simp at hm
  obtain ⟨rfl, rfl⟩ := hm
  obtain ⟨_, _, _, h1, h2, _⟩ := hC
  exact ⟨h1, h2⟩

theorem same_ok : OkF Try.prog 13 (dataC sameR) := by
  refine okF_data Try.func13 rfl (by decide) ?_
  rintro ds v ⟨A, B, hA, hAl, rfl, rfl⟩
  refine sem_of_awp (Γ := tbl tab1) tab1_ok _ _ _ ?_
  simp (contextual := true) only [go_sem, Try.ntmps13]
  refine ⟨fun h => ?_, fun h => ?_⟩
  · refine post_data (.inl rfl) [4] rfl trivial ?_
    simp only [tmpsOf, resV, List.getD_cons_zero, List.getD_cons_succ, AV.dat.injEq, D.bool.injEq]
    symm
    rw [decide_eq_false_iff_not]
    intro e
    subst e
    exact h rfl
  · have hl : A.length = B.length := by omega
    refine sem_loop (fun k : Nat => ⟨slotsOf 32 [(2, .ptr 0 0 0), (3, .ptr 1 0 0), (15, .dat (.int .i64 B.length)), (16, .dat (.int .i64 k))], [.box [.dat (.sl none (A.map dInts))], .box [.dat (.sl none (B.map dInts))]], 0, []⟩)
      (fun k => k ≤ A.length ∧ A.take k = B.take k) (fun k => A.length - k) 0 ⟨Nat.zero_le _, by simp⟩ ?_ ?_
    · exact le_slots' (by simp only [go_sem, Int.natCast_zero])
    · rintro k ⟨hk, hsame⟩
      refine sem_of_awp (Γ := tbl tab1) tab1_ok _ _ _ ?_
      simp (contextual := true) only [go_sem, Int.natCast_nonneg]
      refine ⟨fun hlt => ?_, fun hge => ?_⟩
      · have hk1 : k < A.length := by omega
        have hk2 : k < B.length := by omega
        refine sem_draw (pf := [27]) mixed tab1_ok pure1 [0, 1, 2, 3, 4, 5, 6, 7, 8, 9, 10, 11] (by kernel_rfl) ?_
        simp only [go_sem, chainI, nth_dInts hk1, nth_dInts hk2, Int.natCast_nonneg]
        refine ⟨by omega, by omega, call_data sameListR (by simp) _ _ rfl ⟨_, _, ?_, rfl, rfl⟩ (.inl rfl) ?_⟩
        · refine hAl _ ?_
          rw [List.getD_eq_getElem?_getD, List.getElem?_eq_getElem hk1]
          exact List.getElem_mem hk1
        simp only [go_sem]
        refine ⟨fun hne => ?_, fun heq => ?_⟩
        · refine post_data (.inl rfl) [4] rfl trivial ?_
          simp only [tmpsOf, resV, List.getD_cons_zero, List.getD_cons_succ, AV.dat.injEq, D.bool.injEq]
          symm
          rw [decide_eq_false_iff_not]
          intro e
          subst e
          exact hne rfl
        · refine ⟨inR_i64.2 (by omega), k + 1, ⟨hk1, takeL_eq_succ hk1 hk2 hsame heq⟩, by omega, ?_⟩
          exact le_slots' (by simp only [go_sem, Int.natCast_add, Int.cast_ofNat_Int])
      · have : k = A.length := by omega
        subst this
        refine post_data (.inl rfl) [4] rfl trivial ?_
        simp only [tmpsOf, resV, List.getD_cons_zero, List.getD_cons_succ, AV.dat.injEq, D.bool.injEq]
        symm
        rw [decide_eq_true_eq]
        rw [List.take_length] at hsame
        rw [hsame, hl, List.take_length]
end Go.AM

namespace Go.AM
open Go Go.Proofs

def fewB (L : List (List Int)) : Bool := decide (L.length ≤ 20) && L.all fun l => decide (l.length ≤ 300)
def fewR (ds : List D) (v : AV) : Prop := ∃ L, ds = [.agg [.sl none (L.map dInts)]] ∧ v = .dat (.bool (fewB L))

theorem all_take_succ {L : List (List Int)} {k : Nat} (hk : k < L.length) (h : (L.take k).all (fun l => decide (l.length ≤ 300)) = true) (h2 : (L.getD k []).length ≤ 300) : (L.take (k + 1)).all (fun l => decide (l.length ≤ 300)) = true := by
  rw [List.take_succ_eq_append_getElem hk, List.all_append, h]
  simp [List.getElem?_eq_getElem hk] at h2
  simpa using h2

theorem few_ok : OkF Try.prog 9 (dataC fewR) := by
  refine okF_data Try.func9 rfl (by decide) ?_
  rintro ds v ⟨L, rfl, rfl⟩
  refine sem_of_awp (Γ := tbl []) okG_nil _ _ _ ?_
  simp (contextual := true) only [go_sem, Try.ntmps9]
  refine ⟨fun h => ?_, fun h => ?_⟩
  · refine post_data (.inl rfl) [2] rfl trivial ?_
    have : ¬ L.length ≤ 20 := by omega
    simp [tmpsOf, resV, fewB, this]
  · have h20 : L.length ≤ 20 := by omega
    refine sem_loop (fun k : Nat => ⟨slotsOf 20 [(10, .dat (.sl none (L.map dInts))), (11, .dat (.int .i64 L.length)), (12, .dat (.int .i64 k))], [.box [.dat (.sl none (L.map dInts))]], 0, []⟩)
      (fun k => k ≤ L.length ∧ (L.take k).all (fun l => decide (l.length ≤ 300)) = true) (fun k => L.length - k) 0 ⟨Nat.zero_le _, by simp⟩ ?_ ?_
    · exact le_slots' (by simp only [go_sem, Int.natCast_zero])
    · rintro k ⟨hk, hall⟩
      refine sem_of_awp (Γ := tbl []) okG_nil _ _ _ ?_
      simp (contextual := true) only [go_sem, Int.natCast_nonneg]
      refine ⟨fun hlt => ?_, fun hge => ?_⟩
      · have hk1 : k < L.length := by omega
        simp (contextual := true) only [go_sem, nth_dInts hk1]
        refine ⟨fun hbig => ?_, fun hsm => ?_⟩
        · refine post_data (.inl rfl) [2] rfl trivial ?_
          simp only [tmpsOf, resV, List.getD_cons_zero, List.getD_cons_succ, AV.dat.injEq, D.bool.injEq, fewB]
          symm
          rw [Bool.and_eq_false_iff]
          right
          rw [List.all_eq_false]
          refine ⟨L.getD k [], ?_, by simpa using (by omega : ¬ (L.getD k []).length ≤ 300)⟩
          rw [List.getD_eq_getElem?_getD, List.getElem?_eq_getElem hk1]
          exact List.getElem_mem hk1
        · refine ⟨inR_i64.2 (by omega), k + 1, ⟨hk1, all_take_succ hk1 hall (by omega)⟩, by omega, ?_⟩
          exact le_slots' (by simp only [go_sem, Int.natCast_add, Int.cast_ofNat_Int])
      · have : k = L.length := by omega
        subst this
        refine post_data (.inl rfl) [2] rfl trivial ?_
        rw [List.take_length] at hall
        simp [tmpsOf, resV, fewB, h20, hall]

/-- New. -/
def newR (ds : List D) (v : AV) : Prop := ∃ z : Int, ds = [.int .i64 z] ∧
  v = if z < 1 ∨ 6 < z then .tup [.dat (.agg [.sl none []]), .dat (.int .i64 1)] else .tup [.dat (.agg [.sl none ((List.replicate z.toNat ([] : List Int)).map dInts)]), .dat (.int .i64 0)]

theorem new_ok : OkF Try.prog 11 (dataC newR) := by
  refine okF_data Try.func11 rfl (by decide) ?_
  rintro ds v ⟨z, rfl, rfl⟩
  refine sem_of_awp (Γ := tbl []) okG_nil _ _ _ ?_
  simp (contextual := true) only [go_sem, Try.ntmps11]
  refine ⟨fun h1 => ⟨fun h2 => ?_, fun h2 => ?_⟩, fun h1 => ?_⟩
  · refine post_res (.inl rfl) [.cell 2 24, .tmp 3] rfl ?_
    simp only [go_sem, if_true]
    exact le_fin (by simp only [go_sem]) (by simp only [go_sem])
  · refine ⟨by omega, by omega, by omega, ?_⟩
    refine post_res (.inl rfl) [.cell 2 24, .tmp 3] rfl ?_
    simp only [go_sem, if_false]
    refine Le.trans (le_freezeV 1 (ds := List.replicate z.toNat (.sl none [])) rfl (by simp [AV.norm1, AV.pure]) (Nat.zero_le _)) ?_
    simp only [go_sem, List.take_replicate, Nat.min_self, List.length_replicate, if_true]
    exact le_fin (by simp only [go_sem, List.map_replicate, dInts, ints]) (by simp only [go_sem])
  · refine post_res (.inl rfl) [.cell 2 24, .tmp 3] rfl ?_
    simp only [go_sem, if_true]
    exact le_fin (by simp only [go_sem]) (by simp only [go_sem])
theorem refNew_ok : OkF Try.prog 12 (dataC newR) := by
  refine okF_data Try.func12 rfl (by decide) ?_
  rintro ds v ⟨z, rfl, rfl⟩
  refine sem_of_awp (Γ := tbl []) okG_nil _ _ _ ?_
  simp (contextual := true) only [go_sem, Try.ntmps12]
  refine ⟨fun h1 => ⟨fun h2 => ?_, fun h2 => ?_⟩, fun h1 => ?_⟩
  · refine post_res (.inl rfl) [.cell 2 24, .tmp 3] rfl ?_
    simp only [go_sem, if_true]
    exact le_fin (by simp only [go_sem]) (by simp only [go_sem])
  · refine ⟨by omega, by omega, by omega, ?_⟩
    refine post_res (.inl rfl) [.cell 2 24, .tmp 3] rfl ?_
    simp only [go_sem, if_false]
    refine Le.trans (le_freezeV 1 (ds := List.replicate z.toNat (.sl none [])) rfl (by simp [AV.norm1, AV.pure]) (Nat.zero_le _)) ?_
    simp only [go_sem, List.take_replicate, Nat.min_self, List.length_replicate, if_true]
    exact le_fin (by simp only [go_sem, List.map_replicate, dInts, ints]) (by simp only [go_sem])
  · refine post_res (.inl rfl) [.cell 2 24, .tmp 3] rfl ?_
    simp only [go_sem, if_true]
    exact le_fin (by simp only [go_sem]) (by simp only [go_sem])
end Go.AM

namespace Go.AM
open Go Go.Proofs

/-! The set of frames as a list without repetitions. -/
def addL (acc : List Int) (f : Int) : List Int := if f ∈ acc then acc else acc ++ [f]
def kv (x : Int) : D × D := (.int .i64 x, .bool true)

theorem mapSet_kv (f : Int) : ∀ acc : List Int, mapSet (.int .i64 f) (.bool true) (acc.map kv) = (addL acc f).map kv
  | [] => by simp [mapSet, addL, kv]
  | x :: acc => by
    have ih := mapSet_kv f acc
    rw [List.map_cons, mapSet]
    by_cases h : f = x
    · subst h
      rw [if_pos (by simp [kv, D.keyEq])]
      simp [addL, kv]
    · rw [if_neg (by simp [kv, D.keyEq, h]), ih]
      by_cases hm : f ∈ acc
      · simp [addL, hm]
      · simp [addL, hm, h]

theorem foldl_kv : ∀ (l acc : List Int), l.foldl addF (acc.map kv) = (l.foldl addL acc).map kv
  | [], acc => rfl
  | f :: l, acc => by
    simp only [List.foldl_cons]
    rw [show addF (acc.map kv) f = (addL acc f).map kv from mapSet_kv f acc]
    exact foldl_kv l _

def dedL (l : List Int) : List Int := l.foldl addL []
theorem framesM_eq (l : List Int) : framesM l = (dedL l).map kv := foldl_kv l []

theorem mem_foldl : ∀ (l acc : List Int) (x : Int), x ∈ l.foldl addL acc ↔ x ∈ acc ∨ x ∈ l
  | [], acc, x => by simp
  | f :: l, acc, x => by
    rw [List.foldl_cons, mem_foldl l]
    unfold addL
    split
    · rename_i h
      constructor
      · rintro (h' | h')
        · exact .inl h'
        · exact .inr (List.mem_cons_of_mem _ h')
      · rintro (h' | h')
        · exact .inl h'
        · rcases List.mem_cons.1 h' with rfl | h'
          · exact .inl h
          · exact .inr h'
    · simp only [List.mem_append, List.mem_singleton, List.mem_cons]
      constructor
      · rintro ((h' | h') | h')
        · exact .inl h'
        · simp at h'; exact .inr (.inl h')
        · exact .inr (.inr h')
      · rintro (h' | h' | h')
        · exact .inl (.inl h')
        · exact .inl (.inr (by simp [h']))
        · exact .inr h'

theorem mem_dedL (l : List Int) (x : Int) : x ∈ dedL l ↔ x ∈ l := by
  unfold dedL; rw [mem_foldl]; simp

theorem len_foldl : ∀ (l acc : List Int), (l.foldl addL acc).length ≤ acc.length + l.length ∧ ((l.foldl addL acc).length = acc.length + l.length ↔ l.Nodup ∧ ∀ x ∈ l, x ∉ acc)
  | [], acc => by simp
  | f :: l, acc => by
    obtain ⟨h1, h2⟩ := len_foldl l (addL acc f)
    rw [List.foldl_cons]
    unfold addL at h1 h2 ⊢
    split at h1
    · rename_i hm
      rw [if_pos hm] at h2 ⊢
      refine ⟨by simp only [List.length_cons]; omega, ?_⟩
      constructor
      · intro h; simp only [List.length_cons] at h; omega
      · rintro ⟨_, h⟩; exact (h f (by simp) hm).elim
    · rename_i hm
      rw [if_neg hm] at h2 ⊢
      simp only [List.length_append, List.length_cons, List.length_nil] at h1 h2 ⊢
      refine ⟨by omega, ?_⟩
      rw [show acc.length + (l.length + 1) = acc.length + (0 + 1) + l.length by omega, h2, List.nodup_cons]
      constructor
      · rintro ⟨g1, g2⟩
        refine ⟨⟨fun hf => by simpa using g2 f hf, g1⟩, fun x hx => ?_⟩
        rcases List.mem_cons.1 hx with rfl | hx
        · exact hm
        · exact fun h => g2 x hx (by simp [h])
      · rintro ⟨⟨g1, g2⟩, g3⟩
        refine ⟨g2, fun x hx h => ?_⟩
        rcases List.mem_append.1 h with h | h
        · exact g3 x (by simp [hx]) h
        · simp only [List.mem_singleton] at h
          subst h
          exact g1 hx

theorem framesM_len (l : List Int) : (framesM l).length ≤ l.length ∧ ((framesM l).length = l.length ↔ l.Nodup) := by
  rw [framesM_eq, List.length_map]
  have := len_foldl l []
  simpa [dedL] using this

theorem mapFindI_kv (f : Int) : ∀ (acc : List Int) (i : Nat), (mapFindI (.int .i64 f) (acc.map kv) i).map (·.2) = if f ∈ acc then some (.bool true) else none
  | [], i => rfl
  | x :: acc, i => by
    rw [List.map_cons, mapFindI]
    by_cases h : f = x
    · subst h
      rw [if_pos (by simp [kv, D.keyEq])]
      simp [kv]
    · rw [if_neg (by simp [kv, D.keyEq, h]), mapFindI_kv f acc]
      simp [h]
theorem mapFind_kv (f : Int) (acc : List Int) : mapFind (.int .i64 f) (acc.map kv) = if f ∈ acc then some (.bool true) else none := mapFindI_kv f acc 0

theorem framesM_find (l : List Int) (f : Int) : mapFind (.int .i64 f) (framesM l) = if f ∈ l then some (.bool true) else none := by
  rw [framesM_eq, mapFind_kv]
  simp only [mem_dedL]


/-! Check. -/
def checkE (L : List (List Int)) (z : Int) : Int :=
  if z < 1 ∨ 6 < z then 1 else if (L.length : Int) ≠ z then 3 else if (L.flatten.all inF) = false then 2 else if L.flatten.Nodup then 0 else 7

def checkR (ds : List D) (v : AV) : Prop := ∃ L z, Small L ∧ ds = [.agg [.sl none (L.map dInts)], .int .i64 z] ∧ v = .dat (.int .i64 (checkE L z))

abbrev tab2 : List (Nat × Contract) := [(28, dataC isFrameR), (29, madeC framesR)]
theorem tab2_ok : OkG Try.prog (tbl tab2) := okG_cons isFrame_ok (okG_cons frames_ok okG_nil)

theorem flat_len {L : List (List Int)} (h : Small L) (k : Nat) : (L.take k).flatten.length ≤ 301 * k := by
  induction k with
  | zero => simp
  | succ k ih =>
    by_cases hk : k < L.length
    · rw [take_flat hk, List.length_append]
      have := h.get hk
      omega
    · rw [List.take_of_length_le (by omega)]
      rw [List.take_of_length_le (by omega)] at ih
      omega

theorem all_flat_succ {L : List (List Int)} {k : Nat} (hk : k < L.length) (h : (L.take k).flatten.all inF = true) (h2 : (L.getD k []).all inF = true) : (L.take (k + 1)).flatten.all inF = true := by
  rw [take_flat hk, List.all_append, h, h2]; rfl
theorem all_snoc {l : List Int} {j : Nat} (hj : j < l.length) (h : (l.take j).all inF = true) (h2 : inF (l.getD j 0) = true) : (l.take (j + 1)).all inF = true := by
  rw [take_snoc hj, List.all_append, h]
  simpa using h2
theorem not_all_flat {L : List (List Int)} {k j : Nat} (hk : k < L.length) (hj : j < (L.getD k []).length) (h : inF ((L.getD k []).getD j 0) = false) : L.flatten.all inF = false := by
  rw [List.all_eq_false]
  refine ⟨(L.getD k []).getD j 0, ?_, by rw [h]; decide⟩
  refine List.mem_flatten.2 ⟨L.getD k [], ?_, ?_⟩
  · rw [List.getD_eq_getElem?_getD, List.getElem?_eq_getElem hk]
    exact List.getElem_mem hk
  · rw [List.getD_eq_getElem?_getD (l := L.getD k []), List.getElem?_eq_getElem hj]
    exact List.getElem_mem hj

theorem pcheck_ok : OkF Try.prog 14 (dataC checkR) := by
  refine okF_data Try.func14 rfl (by decide) ?_
  rintro ds v ⟨L, z, hL, rfl, rfl⟩
  have h20 := hL.1
  refine sem_of_awp (Γ := tbl tab2) tab2_ok _ _ _ ?_
  simp (contextual := true) only [go_sem, Try.ntmps14]
  refine ⟨fun h1 => ⟨fun h2 => ?_, fun h2 => ⟨fun h3 => ?_, fun h3 => ?_⟩⟩, fun h1 => ?_⟩
  · exact post_data (.inl rfl) [4] rfl trivial (by simp [tmpsOf, resV, checkE, h2])
  · exact post_data (.inl rfl) [4] rfl trivial (by simp [tmpsOf, resV, checkE, h2, h1, h3])
  · refine sem_loop (fun k : Nat => ⟨slotsOf 48 [(2, .ptr 0 0 0), (5, .dat (.int .i64 ((L.take k).flatten.length : Nat))), (22, .dat (.sl none (L.map dInts))), (23, .dat (.int .i64 L.length)), (24, .dat (.int .i64 k))], [.box [.dat (.sl none (L.map dInts))]], 0, []⟩)
      (fun k => k ≤ L.length ∧ (L.take k).flatten.all inF = true) (fun k => L.length - k) 0 ⟨Nat.zero_le _, by simp⟩ ?_ ?_
    · exact le_slots' (by simp only [go_sem, Int.natCast_zero, h3, List.flatten_nil])
    · rintro k ⟨hk, hall⟩
      refine sem_of_awp (Γ := tbl tab2) tab2_ok _ _ _ ?_
      simp (contextual := true) only [go_sem, Int.natCast_nonneg]
      refine ⟨fun hlt => ?_, fun hge => ?_⟩
      · have hk1 : k < L.length := by omega
        have hl := hL.get hk1
        have hfl := flat_len hL k
        simp (contextual := true) only [go_sem, nth_dInts hk1]
        refine sem_loop (fun j : Nat => ⟨slotsOf 48 [(2, .ptr 0 0 0), (5, .dat (.int .i64 ((L.take k).flatten.length : Nat))), (7, .dat (.sl none (ints (L.getD k [])))), (22, .dat (.sl none (L.map dInts))), (23, .dat (.int .i64 L.length)), (24, .dat (.int .i64 k)),
              (28, .dat (.sl none (ints (L.getD k [])))), (29, .dat (.int .i64 (L.getD k []).length)), (30, .dat (.int .i64 j))], [.box [.dat (.sl none (L.map dInts))]], 0, []⟩)
          (fun j => j ≤ (L.getD k []).length ∧ ((L.getD k []).take j).all inF = true) (fun j => (L.getD k []).length - j) 0 ⟨Nat.zero_le _, by simp⟩ ?_ ?_
        · exact le_slots' (by simp only [go_sem, Int.natCast_zero])
        · rintro j ⟨hj, hall2⟩
          refine sem_of_awp (Γ := tbl tab2) tab2_ok _ _ _ ?_
          simp (contextual := true) only [go_sem, Int.natCast_nonneg]
          refine ⟨fun hlt2 => ?_, fun hge2 => ?_⟩
          · have hj1 : j < (L.getD k []).length := by omega
            simp (contextual := true) only [go_sem, nth_ints hj1]
            refine call_data isFrameR (by simp) _ _ rfl ⟨_, rfl, rfl⟩ (.inl rfl) ?_
            simp only [go_sem]
            refine ⟨fun hbad => ?_, fun hgood => ?_⟩
            · refine post_data (.inl rfl) [4] rfl trivial ?_
              have := not_all_flat hk1 hj1 hbad
              simp [tmpsOf, resV, checkE, h2, h1, h3, this]
            · refine ⟨inR_i64.2 (by omega), j + 1, ⟨hj1, all_snoc hj1 hall2 hgood⟩, by omega, ?_⟩
              exact le_slots' (by simp only [go_sem, Int.natCast_add, Int.cast_ofNat_Int])
          · have hje : j = (L.getD k []).length := by omega
            subst hje
            rw [List.take_length] at hall2
            refine ⟨inR_i64.2 (by omega), inR_i64.2 (by omega), k + 1, ⟨hk1, all_flat_succ hk1 hall hall2⟩, by omega, ?_⟩
            exact le_slots' (by simp only [go_sem, Int.natCast_add, Int.cast_ofNat_Int, take_flat hk1])
      · have hke : k = L.length := by omega
        subst hke
        rw [List.take_length] at hall
        refine call_made framesR (by simp) _ _ _ rfl rfl ⟨L, hL, rfl, rfl, rfl⟩ ?_
        simp only [go_sem, AV.shift, Obj.shift, AV.shifts]
        have hm := framesM_len L.flatten
        have hfl := flat_len hL L.length
        rw [List.take_length] at hfl
        rw [List.take_length]
        refine ⟨inR_i64.2 (by omega), fun hne => ?_, fun heq => ?_⟩
        · refine post_data (.inl rfl) [4] rfl trivial ?_
          have : ¬ L.flatten.Nodup := fun h => hne (by rw [hm.2.2 h])
          simp [tmpsOf, resV, checkE, h2, h1, h3, hall, this]
        · refine post_data (.inl rfl) [4] rfl trivial ?_
          have : L.flatten.Nodup := hm.2.1 (by omega)
          simp [tmpsOf, resV, checkE, h2, h1, h3, hall, this]
  · exact post_data (.inl rfl) [4] rfl trivial (by simp [tmpsOf, resV, checkE, h1])

end Go.AM

namespace Go.AM
open Go Go.Proofs

/-! ref.Check: the same result. -/
abbrev tab3 : List (Nat × Contract) := [(30, dataC outsideR)]
theorem tab3_ok : OkG Try.prog (tbl tab3) := okG_cons outside_ok okG_nil

def seenB (pre : List Int) : List D := (List.range 256).map fun (i : Nat) => .bool (decide ((i : Int) ∈ pre))

theorem seenB_nil : seenB [] = List.replicate 256 (.bool false) := by
  unfold seenB
  apply List.ext_getElem?
  intro i
  simp only [List.not_mem_nil, decide_false, List.getElem?_map, List.getElem?_replicate]
  by_cases h : i < 256
  · simp [h]
  · simp [h, List.getElem?_eq_none (show (List.range 256).length ≤ i by simpa using h)]

theorem seenB_len (pre : List Int) : (seenB pre).length = 256 := by simp [seenB]
theorem seenB_nth (pre : List Int) {f : Int} (h : inF f = true) : D.nth (seenB pre) f.toNat = .bool (decide (f ∈ pre)) := by
  simp only [inF, Bool.and_eq_true, decide_eq_true_eq] at h
  have hlt : f.toNat < 256 := by omega
  simp only [D.nth, seenB, List.getD_eq_getElem?_getD, List.getElem?_map, List.getElem?_range hlt, Option.map_some, Option.getD_some]
  rw [show ((f.toNat : Nat) : Int) = f by omega]
theorem seenB_set (pre : List Int) {f : Int} (h : inF f = true) : (seenB pre).set f.toNat (.bool true) = seenB (pre ++ [f]) := by
  simp only [inF, Bool.and_eq_true, decide_eq_true_eq] at h
  apply List.ext_getElem?
  intro i
  rw [List.getElem?_set]
  simp only [seenB, List.length_map, List.length_range, List.getElem?_map]
  by_cases hi : i < 256
  · rw [List.getElem?_range hi]
    simp only [Option.map_some, List.mem_append, List.mem_singleton]
    by_cases e : f.toNat = i
    · have : (i : Int) = f := by omega
      have hlt : f.toNat < 256 := by omega
      simp [e, this, hi]
    · have : ¬ (i : Int) = f := by omega
      simp [e, this]
  · rw [List.getElem?_eq_none (show (List.range 256).length ≤ i by simpa using hi)]
    have : ¬ f.toNat = i := by omega
    simp [this]

theorem nodup_snoc {l : List Int} {f : Int} : (l ++ [f]).Nodup ↔ l.Nodup ∧ f ∉ l := by
  rw [List.nodup_append]
  constructor
  · rintro ⟨h1, _, h3⟩
    exact ⟨h1, fun h => h3 f h f (by simp) rfl⟩
  · rintro ⟨h1, h2⟩
    refine ⟨h1, by simp, fun a ha b hb e => ?_⟩
    simp only [List.mem_singleton] at hb
    subst hb; subst e
    exact h2 ha

theorem flat_split {L : List (List Int)} {k : Nat} (hk : k < L.length) : L.flatten = (L.take k).flatten ++ (L.getD k [] ++ (L.drop (k + 1)).flatten) := by
  have h1 := take_flat hk
  rw [← List.append_assoc, ← h1, ← List.flatten_append, List.take_append_drop]

theorem inF_get {L : List (List Int)} {k j : Nat} (hk : k < L.length) (hj : j < (L.getD k []).length) (h : L.flatten.all inF = true) : inF ((L.getD k []).getD j 0) = true := by
  cases hx : inF ((L.getD k []).getD j 0) with
  | true => rfl
  | false => rw [not_all_flat hk hj hx] at h; cases h

theorem not_nodup_of {L : List (List Int)} {k j : Nat} (hk : k < L.length) (hj : j < (L.getD k []).length) (h : (L.getD k []).getD j 0 ∈ (L.take k).flatten ++ (L.getD k []).take j) : ¬ L.flatten.Nodup := by
  intro hn
  rw [flat_split hk] at hn
  have e : L.getD k [] = (L.getD k []).take j ++ ([(L.getD k []).getD j 0] ++ (L.getD k []).drop (j + 1)) := by
    rw [← List.append_assoc, ← take_snoc hj, List.take_append_drop]
  generalize hl : L.getD k [] = l at *
  have hn2 : ((L.take k).flatten ++ l.take j ++ [l.getD j 0] ++ (l.drop (j + 1) ++ (L.drop (k + 1)).flatten)).Nodup := by
    have e2 : (L.take k).flatten ++ (l ++ (L.drop (k + 1)).flatten) = (L.take k).flatten ++ l.take j ++ [l.getD j 0] ++ (l.drop (j + 1) ++ (L.drop (k + 1)).flatten) := by
      conv => lhs; rw [e]
      simp only [List.append_assoc]
    rw [← e2]; exact hn
  have h3 := (List.nodup_append.1 hn2).1
  exact (nodup_snoc.1 h3).2 h

set_option maxRecDepth 4000 in
theorem rcheck_ok : OkF Try.prog 15 (dataC checkR) := by
  refine okF_data Try.func15 rfl (by decide) ?_
  rintro ds v ⟨L, z, hL, rfl, rfl⟩
  have h20 := hL.1
  refine sem_of_awp (Γ := tbl tab3) tab3_ok _ _ _ ?_
  simp (contextual := true) only [go_sem, Try.ntmps15]
  refine ⟨fun h1 => ⟨fun h2 => ?_, fun h2 => ⟨fun h3 => ?_, fun h3 => ?_⟩⟩, fun h1 => ?_⟩
  · exact post_data (.inl rfl) [4] rfl trivial (by simp [tmpsOf, resV, checkE, h2])
  · exact post_data (.inl rfl) [4] rfl trivial (by simp [tmpsOf, resV, checkE, h2, h1, h3])
  · refine sem_loop (fun k : Nat => ⟨slotsOf 65 [(2, .ptr 0 0 0), (26, .dat (.sl none (L.map dInts))), (27, .dat (.int .i64 L.length)), (28, .dat (.int .i64 k))], [.box [.dat (.sl none (L.map dInts))]], 0, []⟩)
      (fun k => k ≤ L.length ∧ (L.take k).flatten.all inF = true) (fun k => L.length - k) 0 ⟨Nat.zero_le _, by simp⟩ ?_ ?_
    · exact le_slots' (by simp only [go_sem, Int.natCast_zero, h3])
    · rintro k ⟨hk, hall⟩
      refine sem_of_awp (Γ := tbl tab3) tab3_ok _ _ _ ?_
      simp (contextual := true) only [go_sem, Int.natCast_nonneg]
      refine ⟨fun hlt => ?_, fun hge => ?_⟩
      · have hk1 : k < L.length := by omega
        have hl := hL.get hk1
        simp (contextual := true) only [go_sem, nth_dInts hk1]
        refine sem_loop (fun j : Nat => ⟨slotsOf 65 [(2, .ptr 0 0 0), (26, .dat (.sl none (L.map dInts))), (27, .dat (.int .i64 L.length)), (28, .dat (.int .i64 k)),
              (32, .dat (.sl none (ints (L.getD k [])))), (33, .dat (.int .i64 (L.getD k []).length)), (34, .dat (.int .i64 j))], [.box [.dat (.sl none (L.map dInts))]], 0, []⟩)
          (fun j => j ≤ (L.getD k []).length ∧ ((L.getD k []).take j).all inF = true) (fun j => (L.getD k []).length - j) 0 ⟨Nat.zero_le _, by simp⟩ ?_ ?_
        · exact le_slots' (by simp only [go_sem, Int.natCast_zero])
        · rintro j ⟨hj, hall2⟩
          refine sem_of_awp (Γ := tbl tab3) tab3_ok _ _ _ ?_
          simp (contextual := true) only [go_sem, Int.natCast_nonneg]
          refine ⟨fun hlt2 => ?_, fun hge2 => ?_⟩
          · have hj1 : j < (L.getD k []).length := by omega
            simp (contextual := true) only [go_sem, nth_ints hj1]
            refine call_data outsideR (by simp) _ _ rfl ⟨_, rfl, rfl⟩ (.inl rfl) ?_
            simp only [go_sem]
            refine ⟨fun hbad => ?_, fun hgood => ?_⟩
            · refine post_data (.inl rfl) [4] rfl trivial ?_
              have := not_all_flat hk1 hj1 hbad
              simp [tmpsOf, resV, checkE, h2, h1, h3, this]
            · refine ⟨inR_i64.2 (by omega), j + 1, ⟨hj1, all_snoc hj1 hall2 hgood⟩, by omega, ?_⟩
              exact le_slots' (by simp only [go_sem, Int.natCast_add, Int.cast_ofNat_Int])
          · have hje : j = (L.getD k []).length := by omega
            subst hje
            rw [List.take_length] at hall2
            refine ⟨inR_i64.2 (by omega), k + 1, ⟨hk1, all_flat_succ hk1 hall hall2⟩, by omega, ?_⟩
            exact le_slots' (by simp only [go_sem, Int.natCast_add, Int.cast_ofNat_Int])
      · have hke : k = L.length := by omega
        subst hke
        rw [List.take_length] at hall
        refine sem_loop (fun k : Nat => ⟨slotsOf 65 [(9, .sl 1 0 256), (44, .dat (.sl none (L.map dInts))), (45, .dat (.int .i64 L.length)), (46, .dat (.int .i64 k))], [.box [.dat (.sl none (L.map dInts))], .row none (seenB (L.take k).flatten)], 0, []⟩)
          (fun k => k ≤ L.length ∧ (L.take k).flatten.Nodup) (fun k => L.length - k) 0 ⟨Nat.zero_le _, by simp⟩ ?_ ?_
        · simp only [List.take_zero, List.flatten_nil, seenB_nil]
          exact le_slots' (by simp only [go_sem, Int.natCast_zero])
        · rintro k ⟨hk, hnd⟩
          refine sem_of_awp (Γ := tbl tab3) tab3_ok _ _ _ ?_
          simp (contextual := true) only [go_sem, Int.natCast_nonneg]
          refine ⟨fun hlt => ?_, fun hge => ?_⟩
          · have hk1 : k < L.length := by omega
            have hl := hL.get hk1
            simp (contextual := true) only [go_sem, nth_dInts hk1]
            refine sem_loop (fun j : Nat => ⟨slotsOf 65 [(9, .sl 1 0 256), (44, .dat (.sl none (L.map dInts))), (45, .dat (.int .i64 L.length)), (46, .dat (.int .i64 k)),
                  (50, .dat (.sl none (ints (L.getD k [])))), (51, .dat (.int .i64 (L.getD k []).length)), (52, .dat (.int .i64 j))], [.box [.dat (.sl none (L.map dInts))], .row none (seenB ((L.take k).flatten ++ (L.getD k []).take j))], 0, []⟩)
              (fun j => j ≤ (L.getD k []).length ∧ ((L.take k).flatten ++ (L.getD k []).take j).Nodup) (fun j => (L.getD k []).length - j) 0 ⟨Nat.zero_le _, by simpa using hnd⟩ ?_ ?_
            · simp only [List.take_zero, List.append_nil]
              exact le_slots' (by simp only [go_sem, Int.natCast_zero])
            · rintro j ⟨hj, hnd2⟩
              refine sem_of_awp (Γ := tbl tab3) tab3_ok _ _ _ ?_
              simp (contextual := true) only [go_sem, Int.natCast_nonneg]
              refine ⟨fun hlt2 => ?_, fun hge2 => ?_⟩
              · have hj1 : j < (L.getD k []).length := by omega
                have hf := inF_get hk1 hj1 hall
                have hf' := hf
                simp only [inF, Bool.and_eq_true, decide_eq_true_eq] at hf'
                simp (contextual := true) only [go_sem, nth_ints hj1, seenB_len, seenB_nth _ hf, seenB_set _ hf, hf']
                refine ⟨by omega, fun hin => ?_, fun hnin => ⟨by omega, inR_i64.2 (by omega), j + 1, ⟨hj1, ?_⟩, by omega, ?_⟩⟩
                · refine post_data (.inl rfl) [4] rfl trivial ?_
                  have := not_nodup_of hk1 hj1 hin
                  simp [tmpsOf, resV, checkE, h2, h1, h3, hall, this]
                · rw [take_snoc hj1, ← List.append_assoc]
                  exact nodup_snoc.2 ⟨hnd2, hnin⟩
                · rw [take_snoc hj1, ← List.append_assoc]
                  exact le_slots' (by simp only [go_sem, Int.natCast_add, Int.cast_ofNat_Int])
              · have hje : j = (L.getD k []).length := by omega
                subst hje
                rw [List.take_length, ← take_flat hk1] at hnd2
                refine ⟨inR_i64.2 (by omega), k + 1, ⟨hk1, hnd2⟩, by omega, ?_⟩
                rw [List.take_length, ← take_flat hk1]
                exact le_slots' (by simp only [go_sem, Int.natCast_add, Int.cast_ofNat_Int])
          · have hke : k = L.length := by omega
            subst hke
            rw [List.take_length] at hnd
            exact post_data (.inl rfl) [4] rfl trivial (by simp [tmpsOf, resV, checkE, h2, h1, h3, hall, hnd])
  · exact post_data (.inl rfl) [4] rfl trivial (by simp [tmpsOf, resV, checkE, h1])

end Go.AM

namespace Go.AM
open Go Go.Proofs

/-! check, Count. -/
def zoneE (L : List (List Int)) (z : Int) : Int :=
  if checkE L L.length ≠ 0 then checkE L L.length else if z < 0 ∨ (L.length : Int) ≤ z then 2 else 0

def zoneR (ds : List D) (v : AV) : Prop := ∃ L z, Small L ∧ ds = [.agg [.sl none (L.map dInts)], .int .i64 z] ∧ v = .dat (.int .i64 (zoneE L z))

abbrev tab4 : List (Nat × Contract) := [(14, dataC checkR), (15, dataC checkR)]
theorem tab4_ok : OkG Try.prog (tbl tab4) := okG_cons pcheck_ok (okG_cons rcheck_ok okG_nil)

set_option maxRecDepth 100000 in
theorem pzone_ok : OkF Try.prog 31 (dataC zoneR) := by
  refine okF_data Try.func31 rfl (by decide) ?_
  rintro ds v ⟨L, z, hL, rfl, rfl⟩
  have h20 := hL.1
  refine sem_of_awp (Γ := tbl tab4) tab4_ok _ _ _ ?_
  simp only [go_sem, Try.ntmps31]
  refine call_data checkR (by simp) _ _ rfl ⟨L, L.length, hL, rfl, rfl⟩ (.inl rfl) ?_
  simp (contextual := true) only [go_sem]
  refine ⟨fun h1 => ?_, fun h1 => ⟨fun h2 => ⟨fun h3 => ?_, fun h3 => ?_⟩, fun h2 => ?_⟩⟩
  · exact post_data (.inl rfl) [4] rfl trivial (by simp [tmpsOf, resV, zoneE, h1])
  · exact post_data (.inl rfl) [4] rfl trivial (by simp [tmpsOf, resV, zoneE, h1, h2, h3])
  · exact post_data (.inl rfl) [4] rfl trivial (by simp [tmpsOf, resV, zoneE, h1, h2, h3])
  · exact post_data (.inl rfl) [4] rfl trivial (by simp [tmpsOf, resV, zoneE, h1, h2])

set_option maxRecDepth 100000 in
theorem rzone_ok : OkF Try.prog 32 (dataC zoneR) := by
  refine okF_data Try.func32 rfl (by decide) ?_
  rintro ds v ⟨L, z, hL, rfl, rfl⟩
  have h20 := hL.1
  refine sem_of_awp (Γ := tbl tab4) tab4_ok _ _ _ ?_
  simp only [go_sem, Try.ntmps32]
  refine call_data checkR (by simp) _ _ rfl ⟨L, L.length, hL, rfl, rfl⟩ (.inl rfl) ?_
  simp (contextual := true) only [go_sem]
  refine ⟨fun h1 => ?_, fun h1 => ⟨fun h2 => ⟨fun h3 => ?_, fun h3 => ?_⟩, fun h2 => ?_⟩⟩
  · exact post_data (.inl rfl) [4] rfl trivial (by simp [tmpsOf, resV, zoneE, h1])
  · exact post_data (.inl rfl) [4] rfl trivial (by simp [tmpsOf, resV, zoneE, h1, h2, h3])
  · exact post_data (.inl rfl) [4] rfl trivial (by simp [tmpsOf, resV, zoneE, h1, h2, h3])
  · exact post_data (.inl rfl) [4] rfl trivial (by simp [tmpsOf, resV, zoneE, h1, h2])

theorem zoneE_zero {L : List (List Int)} {z : Int} (h : zoneE L z = 0) : checkE L L.length = 0 ∧ 0 ≤ z ∧ z.toNat < L.length ∧ z < L.length := by
  unfold zoneE at h
  split at h
  · exact absurd h (by assumption)
  · split at h
    · cases h
    · rename_i h1 h2
      refine ⟨by simpa using h1, by omega, by omega, by omega⟩

theorem checkE_zero {L : List (List Int)} {z : Int} (h : checkE L z = 0) : 1 ≤ z ∧ z ≤ 6 ∧ (L.length : Int) = z ∧ L.flatten.all inF = true ∧ L.flatten.Nodup := by
  unfold checkE at h
  split at h
  · cases h
  · split at h
    · cases h
    · split at h
      · cases h
      · split at h
        · rename_i h1 h2 h3 h4
          exact ⟨by omega, by omega, by simpa using h2, by simpa using h3, h4⟩
        · cases h

def countE (L : List (List Int)) (z : Int) : Int := if zoneE L z ≠ 0 then 0 else (L.getD z.toNat []).length
def countR (ds : List D) (v : AV) : Prop := ∃ L z, Small L ∧ ds = [.agg [.sl none (L.map dInts)], .int .i64 z] ∧ v = .dat (.int .i64 (countE L z))

abbrev tab5 : List (Nat × Contract) := [(31, dataC zoneR), (32, dataC zoneR)]
theorem tab5_ok : OkG Try.prog (tbl tab5) := okG_cons pzone_ok (okG_cons rzone_ok okG_nil)

theorem pcount_ok : OkF Try.prog 16 (dataC countR) := by
  refine okF_data Try.func16 rfl (by decide) ?_
  rintro ds v ⟨L, z, hL, rfl, rfl⟩
  refine sem_of_awp (Γ := tbl tab5) tab5_ok _ _ _ ?_
  simp (contextual := true) only [go_sem, Try.ntmps16]
  refine call_data zoneR (by simp) _ _ rfl ⟨L, z, hL, rfl, rfl⟩ (.inl rfl) ?_
  simp (contextual := true) only [go_sem]
  refine ⟨fun h1 => ?_, fun h1 => ?_⟩
  · exact post_data (.inl rfl) [4] rfl trivial (by simp [tmpsOf, resV, countE, h1])
  · obtain ⟨_, g1, g2, g3⟩ := zoneE_zero h1
    simp only [go_sem, nth_dInts g2]
    refine ⟨g1, g3, ?_⟩
    exact post_data (.inl rfl) [4] rfl trivial (by simp [tmpsOf, resV, countE, h1])

theorem rcount_ok : OkF Try.prog 17 (dataC countR) := by
  refine okF_data Try.func17 rfl (by decide) ?_
  rintro ds v ⟨L, z, hL, rfl, rfl⟩
  refine sem_of_awp (Γ := tbl tab5) tab5_ok _ _ _ ?_
  simp (contextual := true) only [go_sem, Try.ntmps17]
  refine call_data zoneR (by simp) _ _ rfl ⟨L, z, hL, rfl, rfl⟩ (.inl rfl) ?_
  simp (contextual := true) only [go_sem]
  refine ⟨fun h1 => ?_, fun h1 => ?_⟩
  · exact post_data (.inl rfl) [4] rfl trivial (by simp [tmpsOf, resV, countE, h1])
  · obtain ⟨_, g1, g2, g3⟩ := zoneE_zero h1
    simp only [go_sem, nth_dInts g2]
    refine ⟨g1, g3, ?_⟩
    exact post_data (.inl rfl) [4] rfl trivial (by simp [tmpsOf, resV, countE, h1])
end Go.AM

namespace Go.AM
open Go Go.Proofs

/-! replace. -/
def setZ (L : List (List Int)) (z : Int) (l : List Int) : List (List Int) := if 0 ≤ z then L.set z.toNat l else L
theorem setZ_len (L : List (List Int)) (z : Int) (l : List Int) : (setZ L z l).length = L.length := by unfold setZ; split <;> simp

def repR (ds : List D) (v : AV) : Prop := ∃ L z l, Small L ∧ l.length ≤ 1000 ∧ ds = [.agg [.sl none (L.map dInts)], .int .i64 z, .sl none (ints l)] ∧ v = .dat (.agg [.sl none ((setZ L z l).map dInts)])

def fillX (M : List (List Int)) (k : Nat) : List (List Int) := M.take k ++ List.replicate (M.length - k) []
theorem fillX_len {M : List (List Int)} {k : Nat} (h : k ≤ M.length) : (fillX M k).length = M.length := by simp [fillX]; omega
theorem fillX_set {M : List (List Int)} {k : Nat} (h : k < M.length) : (fillX M k).set k (M.getD k []) = fillX M (k + 1) := by
  apply List.ext_getElem?
  intro i
  rw [List.getElem?_set]
  by_cases e : k = i
  · subst e
    rw [if_pos rfl, if_pos (by rw [fillX_len (by omega)]; exact h)]
    simp only [fillX]
    rw [List.getElem?_append_left (by simp; omega), List.getElem?_take, if_pos (by omega)]
    simp [List.getElem?_eq_getElem h]
  · rw [if_neg e]
    simp only [fillX]
    by_cases hi : i < k
    · rw [List.getElem?_append_left (by simp; omega), List.getElem?_append_left (by simp; omega), List.getElem?_take, List.getElem?_take, if_pos hi, if_pos (by omega)]
    · have hk : (M.take k).length = k := by simp; omega
      have hk1 : (M.take (k + 1)).length = k + 1 := by simp; omega
      rw [List.getElem?_append_right (by omega), List.getElem?_append_right (by omega), List.getElem?_replicate, List.getElem?_replicate, hk, hk1]
      by_cases h2 : i < M.length
      · rw [if_pos (by omega), if_pos (by omega)]
      · rw [if_neg (by omega), if_neg (by omega)]

theorem setZ_get {L : List (List Int)} {z : Int} {l : List Int} {k : Nat} (hk : k < L.length) : (setZ L z l).getD k [] = if (k : Int) = z then l else L.getD k [] := by
  unfold setZ
  split
  · rename_i h0
    simp only [List.getD_eq_getElem?_getD, List.getElem?_set]
    by_cases e : z.toNat = k
    · rw [if_pos e, if_pos (by omega : z.toNat < L.length), if_pos (by omega)]; rfl
    · rw [if_neg e, if_neg (by omega)]
  · rw [if_neg (by omega)]

theorem replace_ok : OkF Try.prog 33 (dataC repR) := by
  refine okF_data Try.func33 rfl (by decide) ?_
  rintro ds v ⟨L, z, l, hL, hl, rfl, rfl⟩
  have h20 := hL.1
  refine sem_of_awp (Γ := tbl []) okG_nil _ _ _ ?_
  simp (contextual := true) only [go_sem, Try.ntmps33]
  refine ⟨by omega, by omega, by omega, ?_⟩
  generalize hM : setZ L z l = M
  have hMl : M.length = L.length := by rw [← hM, setZ_len]
  refine sem_loop (fun k : Nat => ⟨slotsOf 46 [(1, .dat (.int .i64 z)), (2, .dat (.sl none (ints l))), (3, .ptr 0 0 0), (6, .ptr 1 0 0), (7, .ptr 3 0 0), (17, .dat (.int .i64 L.length)), (18, .dat (.int .i64 k))],
    [.box [.dat (.sl none (L.map dInts))], .box [.nils], .vec (((fillX M k).map dInts).map .dat), .box [.sl 2 0 L.length]], 0, []⟩)
    (fun k => k ≤ L.length) (fun k => L.length - k) 0 (Nat.zero_le _) ?_ ?_
  · have e0 : (fillX M 0).map dInts = List.replicate L.length (D.sl none []) := by
      simp [fillX, hMl, dInts]
    rw [e0]
    have e1 : (List.replicate L.length AV.nils).map AV.norm1 = (List.replicate L.length (D.sl none [])).map AV.dat := by simp [AV.norm1, AV.pure]
    rw [← e1]
    exact Le.trans (le_vecnorm 2 rfl) (le_slots' (by simp only [go_sem, Int.natCast_zero]))
  · intro k hk
    refine sem_of_awp (Γ := tbl []) okG_nil _ _ _ ?_
    rcases Nat.lt_or_ge k L.length with hk1 | hge
    · have hlt : (k : Int) < (L.length : Int) := by omega
      have hg := setZ_get (L := L) (z := z) (l := l) hk1
      rw [hM] at hg
      have hXl : (fillX M k).length = L.length := by rw [fillX_len (by omega), hMl]
      have hset : ∀ v : AV, ((List.map AV.dat (List.map dInts (fillX M k))).set k v).getD k AV.top = v := fun v => by
        simp [List.getD_eq_getElem?_getD, hXl, hk1]
      have hgl := hL.get hk1
      have hfin : ∀ (f : List Int), M.getD k [] = f → Le ⟨slotsOf 46 [(1, .dat (.int .i64 z)), (2, .dat (.sl none (ints l))), (3, .ptr 0 0 0), (6, .ptr 1 0 0), (7, .ptr 3 0 0), (17, .dat (.int .i64 L.length)), (18, .dat (.int .i64 ((k : Int) + 1)))],
            [.box [.dat (.sl none (L.map dInts))], .box [.nils], .vec ((((fillX M k).map dInts).map AV.dat).set k (.sl 4 0 f.length)), .box [.sl 2 0 L.length], .row none (ints f)], 0, []⟩
          ⟨slotsOf 46 [(1, .dat (.int .i64 z)), (2, .dat (.sl none (ints l))), (3, .ptr 0 0 0), (6, .ptr 1 0 0), (7, .ptr 3 0 0), (17, .dat (.int .i64 L.length)), (18, .dat (.int .i64 ((k : Int) + 1)))],
            [.box [.dat (.sl none (L.map dInts))], .box [.nils], .vec (((fillX M (k + 1)).map dInts).map AV.dat), .box [.sl 2 0 L.length]], 0, []⟩ := by
        intro f hf
        refine Le.trans (le_freeze 4 rfl (Nat.zero_le _)) ?_
        have e : ((((fillX M k).map dInts).map AV.dat).set k (.dat (dInts f))) = ((fillX M (k + 1)).map dInts).map AV.dat := by
          rw [← fillX_set (by omega : k < M.length), hf, List.map_set, List.map_set]
        have e2 : AV.frz 4 none (ints f) (.sl 4 0 f.length) = .dat (dInts f) := by
          have : List.take f.length (ints f) = ints f := List.take_of_length_le (by simp)
          simp [AV.frz, dInts, this]
        have e3 : List.take f.length (ints f) = ints f := List.take_of_length_le (by simp)
        have e' : ((((fillX M k).map dInts).map AV.dat).set k (.dat (.sl none (ints f)))) = ((fillX M (k + 1)).map dInts).map AV.dat := e
        simp only [go_sem, frzs_set, Nat.le_refl, e3, e']
        refine le_drop (own := [.box [.dat (.sl none (L.map dInts))], .box [.nils], .vec (((fillX M (k + 1)).map dInts).map AV.dat), .box [.sl 2 0 L.length]]) (ex := [.dead]) (Nat.zero_le _) ?_ ?_
        · simp only [go_sem]
        · intro x hx
          simp only [List.mem_cons, List.not_mem_nil, or_false] at hx
          rcases hx with rfl | rfl | rfl | rfl <;> simp only [go_sem]
      cases hz : decide ((k : Int) = z)
      all_goals
        simp only [go_sem, Int.natCast_nonneg, hlt, nth_dInts hk1, hz]
        refine sem_draw (pf := []) (Γ := tbl []) mixed okG_nil pure0 [0, 1, 2, 3, 4, 6, 5, 7] (by kernel_rfl) ?_
        simp only [go_sem, chainI, Int.natCast_nonneg, hlt, hXl, hk1, hset]
        refine ⟨by omega, by omega, inR_i64.2 (by omega), k + 1, by omega, by omega, ?_⟩
        refine Le.trans (le_slots' (s' := slotsOf 46 [(1, .dat (.int .i64 z)), (2, .dat (.sl none (ints l))), (3, .ptr 0 0 0), (6, .ptr 1 0 0), (7, .ptr 3 0 0), (17, .dat (.int .i64 L.length)), (18, .dat (.int .i64 ((k : Int) + 1)))]) (by simp only [go_sem])) ?_
        have hrow : ∀ f : List Int, List.take f.length (ints f) ++ List.drop (min f.length f.length) (List.replicate f.length (D.int .i64 0)) = ints f := fun f => by
          rw [List.take_of_length_le (by simp), List.drop_of_length_le (by simp), List.append_nil]
        rw [hrow]
        refine Le.trans (hfin _ ?_) (le_slots' (by simp only [go_sem, Int.natCast_add, Int.cast_ofNat_Int]))
        rw [hg]
        simp only [decide_eq_true_eq, decide_eq_false_iff_not] at hz
        simp [hz]
    · have : k = L.length := by omega
      subst this
      have hlt : ¬ ((L.length : Int) < (L.length : Int)) := by omega
      simp only [go_sem, hlt]
      refine post_res (.inl rfl) [.cell 6 24] rfl ?_
      simp only [go_sem]
      refine Le.trans (le_unvec 2 rfl) ?_
      simp only [go_sem]
      refine Le.trans (le_freeze 2 rfl (Nat.zero_le _)) ?_
      have e : (fillX M L.length).map dInts = M.map dInts := by simp [fillX, ← hMl]
      rw [e]
      have e2 : L.length ≤ (M.map dInts).length := by simp [hMl]
      have e3 : List.take L.length (M.map dInts) = M.map dInts := List.take_of_length_le (by simp [hMl])
      simp only [go_sem, e3, hMl, Nat.le_refl]
      exact le_fin (by simp only [go_sem]) (by simp only [go_sem])
end Go.AM

namespace Go.AM
open Go Go.Proofs

def dC (L : List (List Int)) : D := .agg [.sl none (L.map dInts)]
def emptyC : D := .agg [.sl none []]

/-! Take. -/
def takeV (L : List (List Int)) (z : Int) : AV :=
  if zoneE L z ≠ 0 then .tup [.dat emptyC, .dat (.int .i64 0), .dat (.int .i64 (zoneE L z))] else
  if (L.getD z.toNat []).length = 0 then .tup [.dat emptyC, .dat (.int .i64 0), .dat (.int .i64 6)] else
  .tup [.dat (dC (setZ L z ((L.getD z.toNat []).take ((L.getD z.toNat []).length - 1)))), .dat (.int .i64 ((L.getD z.toNat []).getD ((L.getD z.toNat []).length - 1) 0)), .dat (.int .i64 0)]
def takeR (ds : List D) (v : AV) : Prop := ∃ L z, Small L ∧ ds = [dC L, .int .i64 z] ∧ v = takeV L z

abbrev tab6 : List (Nat × Contract) := [(31, dataC zoneR), (33, dataC repR)]
theorem tab6_ok : OkG Try.prog (tbl tab6) := okG_cons pzone_ok (okG_cons replace_ok okG_nil)
theorem pure6 : PureFns (tbl tab6) [33] := by
  rintro g args own v own' mv hg ⟨C, hm, hC⟩
  simp at hg
  subst hg
  simp at hm
  subst hm
  obtain ⟨_, _, _, h1, h2, _⟩ := hC
  exact ⟨h1, h2⟩
theorem noMk {Γ : Nat → Contract} : MakeFns Γ [] := fun g _ _ _ _ _ h => by cases h

theorem take_ok : OkF Try.prog 18 (dataC takeR) := by
  refine okF_data Try.func18 rfl (by decide) ?_
  rintro ds v ⟨L, z, hL, rfl, rfl⟩
  refine sem_of_awp (Γ := tbl tab6) tab6_ok _ _ _ ?_
  simp only [go_sem, Try.ntmps18, dC]
  refine call_data zoneR (by simp) _ _ rfl ⟨L, z, hL, rfl, rfl⟩ (.inl rfl) ?_
  simp (contextual := true) only [go_sem]
  refine ⟨fun h1 => ?_, fun h1 => ?_⟩
  · refine post_res (.inl rfl) [.cell 4 24, .tmp 5, .tmp 6] rfl ?_
    simp only [go_sem]
    exact le_fin (by simp only [go_sem, takeV, ne_eq, h1, not_false_eq_true, if_true, emptyC]) (by simp only [takeV, ne_eq, h1, not_false_eq_true, if_true]; simp only [go_sem])
  · obtain ⟨_, g1, g2, g3⟩ := zoneE_zero h1
    have hl := hL.get g2
    simp (contextual := true) only [go_sem, nth_dInts g2, g1, g3]
    refine ⟨fun h2 => ?_, fun h2 => ?_⟩
    · refine post_res (.inl rfl) [.cell 4 24, .tmp 5, .tmp 6] rfl ?_
      have h2' : (L.getD z.toNat []).length = 0 := by omega
      simp only [go_sem]
      exact le_fin (by simp only [go_sem, takeV, h1, h2', emptyC]) (by simp only [takeV, h1, h2']; simp only [go_sem])
    · refine ⟨inR_i64.2 (by omega), ?_⟩
      refine sem_drawM (ob := 1) (pf := [33]) (mf := []) (ms := [6, 7, 8, 9, 10]) mixed tab6_ok pure6 noMk [0, 1, 2, 3, 4, 5, 6, 7, 8, 9, 10, 11, 12] (by kernel_rfl) ?_
      simp only [go_sem, chainM, opm]
      have e0 : ((L.getD z.toNat []).length - 1 - 0 : Int).toNat = (L.getD z.toNat []).length - 1 := by omega
      have e1 : ((L.getD z.toNat []).length - 1 : Int).toNat = (L.getD z.toNat []).length - 1 := by omega
      have e2 : (L.getD z.toNat []).length - 1 < (L.getD z.toNat []).length := by omega
      refine ⟨by omega, by omega, call_data repR (by simp) _ _ rfl ⟨L, z, (L.getD z.toNat []).take ((L.getD z.toNat []).length - 1), hL, ?_, ?_, rfl⟩ (.inl rfl) ?_⟩
      · simp only [List.length_take]; omega
      · rw [e0]; simp only [ints, List.map_take]
      simp only [go_sem, e1, nth_ints e2]
      refine ⟨by omega, by omega, ?_⟩
      refine post_res (.inl rfl) [.cell 4 24, .tmp 5, .tmp 6] rfl ?_
      have h2' : ¬ (L.getD z.toNat []).length = 0 := by omega
      simp only [go_sem]
      exact le_fin (by simp only [go_sem, takeV, h1, h2', dC]) (by simp only [takeV, h1, h2', ne_eq, not_true_eq_false, if_false]; simp only [go_sem])
end Go.AM

namespace Go.AM
open Go Go.Proofs

/-! Drain. -/
def drainV (L : List (List Int)) (z : Int) : AV :=
  if zoneE L z ≠ 0 then .tup [.dat emptyC, .dat (.sl none []), .dat (.int .i64 (zoneE L z))] else
  .tup [.dat (dC (setZ L z [])), .dat (.sl none (ints (L.getD z.toNat []))), .dat (.int .i64 0)]
def drainR (ds : List D) (v : AV) : Prop := ∃ L z, Small L ∧ ds = [dC L, .int .i64 z] ∧ v = drainV L z

theorem copied (f : List Int) : List.take f.length (ints f) ++ List.drop (min f.length f.length) (List.replicate f.length (D.int .i64 0)) = ints f := by
  rw [List.take_of_length_le (by simp), List.drop_of_length_le (by simp), List.append_nil]

theorem drain_ok : OkF Try.prog 20 (dataC drainR) := by
  refine okF_data Try.func20 rfl (by decide) ?_
  rintro ds v ⟨L, z, hL, rfl, rfl⟩
  refine sem_of_awp (Γ := tbl tab6) tab6_ok _ _ _ ?_
  simp only [go_sem, Try.ntmps20, dC]
  refine call_data zoneR (by simp) _ _ rfl ⟨L, z, hL, rfl, rfl⟩ (.inl rfl) ?_
  simp (contextual := true) only [go_sem]
  refine ⟨fun h1 => ?_, fun h1 => ?_⟩
  · refine post_res (.inl rfl) [.cell 4 24, .tmp 5, .tmp 6] rfl ?_
    simp only [go_sem]
    exact le_fin (by simp only [go_sem, drainV, ne_eq, h1, not_false_eq_true, if_true, emptyC]) (by simp only [drainV, ne_eq, h1, not_false_eq_true, if_true]; simp only [go_sem])
  · obtain ⟨_, g1, g2, g3⟩ := zoneE_zero h1
    have hl := hL.get g2
    simp only [go_sem, nth_dInts g2, g1, g3, copied, Int.natCast_nonneg]
    refine ⟨by omega, by omega, ?_⟩
    refine call_data repR (by simp) _ _ rfl ⟨L, z, [], hL, by simp, rfl, rfl⟩ (.inl rfl) ?_
    simp only [go_sem]
    refine post_res (.inl rfl) [.cell 4 24, .tmp 5, .tmp 6] rfl ?_
    simp only [go_sem]
    refine Le.trans (le_freeze 2 rfl (Nat.zero_le _)) ?_
    have e3 : List.take (L.getD z.toNat []).length (ints (L.getD z.toNat [])) = ints (L.getD z.toNat []) := List.take_of_length_le (by simp)
    simp only [go_sem, e3, Nat.le_refl]
    exact le_fin (by simp only [go_sem, drainV, h1, dC]) (by simp only [drainV, h1, ne_eq, not_true_eq_false, if_false]; simp only [go_sem])
end Go.AM

namespace Go.AM
open Go Go.Proofs

/-! Put. -/
def putV (L : List (List Int)) (z f b h : Int) : AV :=
  if zoneE L z ≠ 0 then .tup [.dat emptyC, .dat (.sl none []), .dat (.int .i64 (zoneE L z))] else
  if inF f = false then .tup [.dat emptyC, .dat (.sl none []), .dat (.int .i64 2)] else
  if b < 1 ∨ h < b then .tup [.dat emptyC, .dat (.sl none []), .dat (.int .i64 1)] else
  if f ∈ L.flatten then .tup [.dat emptyC, .dat (.sl none []), .dat (.int .i64 7)] else
  if ((L.getD z.toNat []).length + 1 : Int) ≤ h then .tup [.dat (dC (setZ L z (L.getD z.toNat [] ++ [f]))), .dat (.sl none []), .dat (.int .i64 0)] else
  .tup [.dat (dC (setZ L z ((L.getD z.toNat [] ++ [f]).drop b.toNat))), .dat (.sl none (ints ((L.getD z.toNat [] ++ [f]).take b.toNat))), .dat (.int .i64 0)]
def putR (ds : List D) (v : AV) : Prop := ∃ L z f b h, Small L ∧ ds = [dC L, .int .i64 z, .int .i64 f, .int .i64 b, .int .i64 h] ∧ v = putV L z f b h

abbrev tab7 : List (Nat × Contract) := [(28, dataC isFrameR), (29, madeC framesR), (31, dataC zoneR), (33, dataC repR)]
theorem tab7_ok : OkG Try.prog (tbl tab7) := okG_cons isFrame_ok (okG_cons frames_ok (okG_cons pzone_ok (okG_cons replace_ok okG_nil)))
theorem pure7' : PureFns (tbl tab7) [] := pure0
theorem pure7 : PureFns (tbl tab7) [33] := by
  rintro g args own v own' mv hg ⟨C, hm, hC⟩
  simp at hg
  subst hg
  simp at hm
  subst hm
  obtain ⟨_, _, _, h1, h2, _⟩ := hC
  exact ⟨h1, h2⟩

abbrev tab8 : List (Nat × Contract) := (33, frzC (dataC repR)) :: tab7
theorem tab8_ok : OkG Try.prog (tbl tab8) := okG_cons (okF_frz replace_ok) tab7_ok

set_option maxRecDepth 100000 in
theorem put_ok : OkF Try.prog 23 (dataC putR) := by
  refine okF_data Try.func23 rfl (by decide) ?_
  rintro ds v ⟨L, z, f, b, h, hL, rfl, rfl⟩
  refine sem_of_awp (Γ := tbl tab8) tab8_ok _ _ _ ?_
  simp only [go_sem, Try.ntmps23, dC]
  refine call_data zoneR (by simp) _ _ rfl ⟨L, z, hL, rfl, rfl⟩ (.inl rfl) ?_
  simp (contextual := true) only [go_sem]
  refine ⟨fun h1 => ?_, fun h1 => ?_⟩
  · refine post_res (.inl rfl) [.cell 10 24, .tmp 11, .tmp 12] rfl ?_
    simp only [go_sem]
    exact le_fin (by simp only [go_sem, putV, ne_eq, h1, not_false_eq_true, if_true, emptyC]) (by simp only [putV, ne_eq, h1, not_false_eq_true, if_true]; simp only [go_sem])
  · obtain ⟨_, g1, g2, g3⟩ := zoneE_zero h1
    have hl := hL.get g2
    refine call_data isFrameR (by simp) _ _ rfl ⟨f, rfl, rfl⟩ (.inl rfl) ?_
    simp (contextual := true) only [go_sem]
    have h1' : ¬ zoneE L z ≠ 0 := by simp [h1]
    refine ⟨fun h2 => ?_, fun h2 => ⟨fun h3 => ⟨fun h4 => ?_, fun h4 => ?_⟩, fun h3 => ?_⟩⟩
    · have hv : putV L z f b h = .tup [.dat emptyC, .dat (.sl none []), .dat (.int .i64 2)] := by simp [putV, h1, h2]
      rw [hv]
      refine post_res (.inl rfl) [.cell 10 24, .tmp 11, .tmp 12] rfl ?_
      simp only [go_sem]
      exact le_fin (by simp only [go_sem, emptyC]) (by simp only [go_sem])
    · have hv : putV L z f b h = .tup [.dat emptyC, .dat (.sl none []), .dat (.int .i64 1)] := by simp [putV, h1, h2, h4]
      rw [hv]
      refine post_res (.inl rfl) [.cell 10 24, .tmp 11, .tmp 12] rfl ?_
      simp only [go_sem]
      exact le_fin (by simp only [go_sem, emptyC]) (by simp only [go_sem])
    · refine call_made framesR (by simp) _ _ _ rfl rfl ⟨L, hL, rfl, rfl, rfl⟩ ?_
      have hfind := framesM_find L.flatten f
      by_cases h5 : f ∈ L.flatten
      · rw [if_pos h5] at hfind
        simp (contextual := true) only [go_sem, AV.shift, Obj.shift, AV.shifts, hfind]
        refine ⟨framesM_keys _, ?_⟩
        have hv : putV L z f b h = .tup [.dat emptyC, .dat (.sl none []), .dat (.int .i64 7)] := by simp only [putV, h1, h2, h3, h4, h5]; simp
        rw [hv]
        refine post_res (.inl rfl) [.cell 10 24, .tmp 11, .tmp 12] rfl ?_
        simp only [go_sem]
        exact le_fin (by simp only [go_sem, emptyC]) (by simp only [go_sem])
      · rw [if_neg h5] at hfind
        simp (contextual := true) only [go_sem, AV.shift, Obj.shift, AV.shifts, hfind]
        refine ⟨framesM_keys _, ?_⟩
        refine sem_drawM (ob := 1) (pf := []) (mf := []) (ms := []) mixed tab7_ok pure7' noMk [0, 1, 2, 3, 4, 5, 6, 7, 8, 9, 10, 11, 12, 13, 14] (by kernel_rfl) ?_
        simp only [go_sem, chainM, opm, nth_dInts g2]
        have hvv : putV L z f b h = if ((L.getD z.toNat []).length + 1 : Int) ≤ h then .tup [.dat (dC (setZ L z (L.getD z.toNat [] ++ [f]))), .dat (.sl none []), .dat (.int .i64 0)] else
            .tup [.dat (dC (setZ L z ((L.getD z.toNat [] ++ [f]).drop b.toNat))), .dat (.sl none (ints ((L.getD z.toNat [] ++ [f]).take b.toNat))), .dat (.int .i64 0)] := by
          unfold putV
          rw [if_neg h1', if_neg (by simp [h2]), if_neg (by omega), if_neg h5]
        rw [hvv]
        generalize L.getD z.toNat [] = l at *
        have e1 : List.take l.length (ints l) = ints l := List.take_of_length_le (by simp)
        have e0 : ints l ++ List.drop (min l.length l.length) (List.replicate l.length (D.int .i64 0)) = ints l := by simp
        have e2 : ints l ++ [D.int .i64 f] = ints (l ++ [f]) := by simp
        have e3 : List.take (l.length + 1) (ints (l ++ [f])) = ints (l ++ [f]) := List.take_of_length_le (by simp)
        simp (contextual := true) only [copied, e0, e1, e2, go_sem]
        refine ⟨g1, g3, g1, g3, inR_i64.2 (by omega), by omega, by omega, by omega, g1, g3, by simp, by simp, by omega, by omega, fun h6 => ?_, fun h6 => ?_⟩
        · have h6' : (l.length + 1 : Int) ≤ h := by omega
          simp only [h6', if_true]
          have hfr : AV.frzs 4 none (ints (l ++ [f])) [AV.agg [.dat (.sl none (L.map dInts))], .dat (.int .i64 z), .sl 4 0 (l.length + 1)] = [AV.agg [.dat (.sl none (L.map dInts))], .dat (.int .i64 z), .dat (.sl none (ints (l ++ [f])))] := by
            simp only [go_sem, e3, Nat.le_refl]
          refine call_frzdata repR (by simp) 4 rfl _ _ (by rw [hfr]; rfl) ⟨L, z, l ++ [f], hL, by simp; omega, rfl, rfl⟩ (.inl (by rw [hfr]; rfl)) ?_
          simp only [go_sem]
          refine post_res (.inl rfl) [.cell 10 24, .tmp 11, .tmp 12] rfl ?_
          simp only [go_sem]
          exact le_fin (by simp only [go_sem, dC]) (by simp only [go_sem])
        · have h6' : ¬ (l.length + 1 : Int) ≤ h := by omega
          have hb0 : 0 ≤ b := by omega
          simp only [h6', if_false]
          have e4 : List.take b.toNat (ints (l ++ [f])) = ints ((l ++ [f]).take b.toNat) := by simp only [ints, List.map_take]
          have e5 : List.take b.toNat (ints (l ++ [f])) ++ List.drop (min (l.length + 1) b.toNat) (List.replicate b.toNat (D.int .i64 0)) = ints ((l ++ [f]).take b.toNat) := by
            rw [e4, List.drop_of_length_le (by simp; omega), List.append_nil]
          have e6 : (ints (l ++ [f])).length = l.length + 1 := by simp
          simp only [Nat.le_refl, if_true, e3, go_sem, e6, List.take_zero, List.nil_append, Nat.zero_add]
          refine ⟨hb0, Int.le_refl _, by omega, ?_⟩
          refine sem_le (le_freeze 4 rfl (Nat.zero_le _)) ?_
          have e7 : ((l.length : Int) + 1).toNat = l.length + 1 := by omega
          have e8 : List.drop b.toNat (ints (l ++ [f])) = ints ((l ++ [f]).drop b.toNat) := by simp only [ints, List.map_drop]
          have hbl : b.toNat ≤ l.length + 1 := by omega
          have hbi : b ≤ (l.length : Int) + 1 := by omega
          simp only [go_sem, e3, e4, e5, e6, Nat.le_refl, if_true]
          refine sem_drawM (ob := 1) (pf := [33]) (mf := []) (ms := [6, 7]) mixed tab7_ok pure7 noMk [0, 1, 2, 3, 4, 5, 6, 7, 8, 9] (by kernel_rfl) ?_
          simp only [go_sem, chainM, opm, e3, e4, e5, e6, Nat.le_refl, if_true]
          have e9 : ((l.length + 1 : Nat) : Int) - b = (((l.length + 1 - b.toNat : Nat) : Nat) : Int) := by omega
          have e10 : List.take (((l.length + 1 : Nat) : Int) - b).toNat (ints ((l ++ [f]).drop b.toNat)) = ints ((l ++ [f]).drop b.toNat) := by
            rw [e9, Int.toNat_natCast]
            exact List.take_of_length_le (by simp)
          have e11 : ints (List.take b.toNat (l ++ [f])) ++ List.drop (min (l.length + 1) b.toNat) (List.replicate b.toNat (D.int .i64 0)) = ints ((l ++ [f]).take b.toNat) := by
            rw [List.drop_of_length_le (by simp; omega), List.append_nil]
          simp only [e8, e10, e11]
          refine ⟨hb0, by omega, Int.le_refl _, call_data repR (by simp) _ _ rfl ⟨L, z, (l ++ [f]).drop b.toNat, hL, by simp; omega, rfl, rfl⟩ (.inl rfl) ?_⟩
          simp only [go_sem]
          refine post_res (.inl rfl) [.cell 10 24, .tmp 11, .tmp 12] rfl ?_
          simp only [go_sem]
          refine Le.trans (le_freeze 6 rfl (Nat.zero_le _)) ?_
          have e12 : List.take b.toNat (ints ((l ++ [f]).take b.toNat)) = ints ((l ++ [f]).take b.toNat) := List.take_of_length_le (by simp; omega)
          have e13 : b.toNat ≤ ((l ++ [f]).take b.toNat).length := by simp; omega
          simp only [go_sem, e12, e13, if_true]
          exact le_fin (by simp only [go_sem, dC]) (by simp only [go_sem])
    · have hv : putV L z f b h = .tup [.dat emptyC, .dat (.sl none []), .dat (.int .i64 1)] := by simp [putV, h1, h2, h3]
      rw [hv]
      refine post_res (.inl rfl) [.cell 10 24, .tmp 11, .tmp 12] rfl ?_
      simp only [go_sem]
      exact le_fin (by simp only [go_sem, emptyC]) (by simp only [go_sem])
end Go.AM

namespace Go.AM
open Go Go.Proofs

/-! Refill. -/
def scanE : List Int → List Int → Int
  | _, [] => 0
  | seen, f :: r => if inF f = false then 2 else if f ∈ seen then 7 else scanE (seen ++ [f]) r

def refillV (L : List (List Int)) (z : Int) (add : List Int) : AV :=
  if zoneE L z ≠ 0 then .tup [.dat emptyC, .dat (.int .i64 (zoneE L z))] else
  if scanE L.flatten add ≠ 0 then .tup [.dat emptyC, .dat (.int .i64 (scanE L.flatten add))] else
  .tup [.dat (dC (setZ L z (L.getD z.toNat [] ++ add.reverse))), .dat (.int .i64 0)]
def refillR (ds : List D) (v : AV) : Prop := ∃ L z add, Small L ∧ add.length ≤ 100 ∧ ds = [dC L, .int .i64 z, .sl none (ints add)] ∧ v = refillV L z add

theorem drop_cons {l : List Int} {k : Nat} (h : k < l.length) : l.drop k = l.getD k 0 :: l.drop (k + 1) := by
  rw [List.drop_eq_getElem_cons h]
  simp [List.getElem?_eq_getElem h]

theorem rev_take {l : List Int} {k : Nat} (h : k < l.length) : l.reverse.take (k + 1) = l.reverse.take k ++ [l.getD (l.length - 1 - k) 0] := by
  rw [take_snoc (by simpa using h)]
  congr 2
  simp only [List.getD_eq_getElem?_getD]
  rw [List.getElem?_reverse h]

set_option maxRecDepth 100000 in
theorem refill_ok : OkF Try.prog 25 (dataC refillR) := by
  refine okF_data Try.func25 rfl (by decide) ?_
  rintro ds v ⟨L, z, add, hL, hadd, rfl, rfl⟩
  refine sem_of_awp (Γ := tbl tab8) tab8_ok _ _ _ ?_
  simp only [go_sem, Try.ntmps25, dC]
  refine call_data zoneR (by simp) _ _ rfl ⟨L, z, hL, rfl, rfl⟩ (.inl rfl) ?_
  simp (contextual := true) only [go_sem]
  refine ⟨fun h1 => ?_, fun h1 => ?_⟩
  · have hv : refillV L z add = .tup [.dat emptyC, .dat (.int .i64 (zoneE L z))] := by simp [refillV, h1]
    rw [hv]
    refine post_res (.inl rfl) [.cell 6 24, .tmp 7] rfl ?_
    simp only [go_sem]
    exact le_fin (by simp only [go_sem, emptyC]) (by simp only [go_sem])
  · obtain ⟨_, g1, g2, g3⟩ := zoneE_zero h1
    have hl := hL.get g2
    refine call_made framesR (by simp) _ _ _ rfl rfl ⟨L, hL, rfl, rfl, rfl⟩ ?_
    simp (contextual := true) only [go_sem, AV.shift, Obj.shift, AV.shifts]
    refine sem_loop (fun k : Nat => ⟨slotsOf 75 [(1, .dat (.int .i64 z)), (2, .dat (.sl none (ints add))), (3, .ptr 0 0 0), (6, .ptr 1 0 0), (9, .map 3), (23, .dat (.sl none (ints add))), (24, .dat (.int .i64 add.length)), (25, .dat (.int .i64 k))],
        [.box [.dat (.sl none (L.map dInts))], .box [.nils], .box [.dat (.sl none (L.map dInts))], .map (framesM (L.flatten ++ add.take k))], 0, []⟩)
      (fun k => k ≤ add.length ∧ scanE L.flatten add = scanE (L.flatten ++ add.take k) (add.drop k)) (fun k => add.length - k) 0 ⟨Nat.zero_le _, by simp⟩ ?_ ?_
    · simp only [List.take_zero, List.append_nil]
      exact le_slots' (by simp only [go_sem, Int.natCast_zero])
    · rintro k ⟨hk, hs⟩
      refine sem_of_awp (Γ := tbl tab8) tab8_ok _ _ _ ?_
      rcases Nat.lt_or_ge k add.length with hk1 | hge
      · have hlt : (k : Int) < (add.length : Int) := by omega
        rw [drop_cons hk1] at hs
        simp only [scanE] at hs
        have hn := nth_ints hk1
        have ht : framesM (L.flatten ++ add.take (k + 1)) = mapSet (.int .i64 (add.getD k 0)) (.bool true) (framesM (L.flatten ++ add.take k)) := by
          rw [take_snoc hk1, ← List.append_assoc, framesM_snoc]
        have ht2 : L.flatten ++ add.take k ++ [add.getD k 0] = L.flatten ++ add.take (k + 1) := by rw [take_snoc hk1, List.append_assoc]
        generalize add.getD k 0 = f at *
        simp (contextual := true) only [go_sem, hlt, hn, Int.natCast_nonneg]
        refine call_data isFrameR (by simp) _ _ rfl ⟨f, rfl, rfl⟩ (.inl rfl) ?_
        have hfind := framesM_find (L.flatten ++ add.take k) f
        have hkeys := framesM_keys (L.flatten ++ add.take k)
        simp (contextual := true) only [go_sem]
        by_cases h2 : inF f = false
        · rw [if_pos h2] at hs
          simp (contextual := true) only [h2, go_sem]
          have hv : refillV L z add = .tup [.dat emptyC, .dat (.int .i64 2)] := by simp [refillV, h1, hs]
          rw [hv]
          refine post_res (.inl rfl) [.cell 6 24, .tmp 7] rfl ?_
          simp only [go_sem]
          exact le_fin (by simp only [go_sem, emptyC]) (by simp only [go_sem])
        · rw [if_neg h2] at hs
          have h2' : inF f = true := by simpa using h2
          simp (contextual := true) only [h2', go_sem]
          refine ⟨hkeys, ?_⟩
          by_cases h3 : f ∈ L.flatten ++ add.take k
          · rw [if_pos h3] at hs hfind
            simp only [hfind, go_sem, Option.getD_some]
            have hv : refillV L z add = .tup [.dat emptyC, .dat (.int .i64 7)] := by simp [refillV, h1, hs]
            rw [hv]
            refine post_res (.inl rfl) [.cell 6 24, .tmp 7] rfl ?_
            simp only [go_sem]
            exact le_fin (by simp only [go_sem, emptyC]) (by simp only [go_sem])
          · rw [if_neg h3] at hs hfind
            simp only [hfind, go_sem, Option.getD_none]
            refine ⟨hkeys, inR_i64.2 (by omega), k + 1, ⟨hk1, by rw [hs, ht2]⟩, by omega, ?_⟩
            rw [ht]
            exact le_slots' (by simp only [go_sem, Int.natCast_add, Int.cast_ofNat_Int])
      · have hke : k = add.length := by omega
        subst hke
        have hlt : ¬ ((add.length : Int) < (add.length : Int)) := by omega
        rw [List.drop_length] at hs
        simp only [scanE] at hs
        have hv : refillV L z add = .tup [.dat (dC (setZ L z (L.getD z.toNat [] ++ add.reverse))), .dat (.int .i64 0)] := by simp [refillV, h1, hs]
        rw [hv]
        have hnz := nth_dInts g2
        generalize L.getD z.toNat [] = l at *
        have e0 := copied l
        simp (contextual := true) only [go_sem, hlt, hnz, e0, List.append_nil]
        refine ⟨g1, g3, by omega, by omega, by omega, g1, g3, ?_⟩
        generalize hM : framesM (L.flatten ++ add.take add.length) = M
        refine sem_loop (fun k : Nat => ⟨slotsOf 75 [(1, .dat (.int .i64 z)), (2, .dat (.sl none (ints add))), (3, .ptr 0 0 0), (6, .ptr 1 0 0), (12, .sl 4 0 (l.length + k)), (55, .dat (.int .i64 add.length)), (56, .dat (.int .i64 k))],
            [.box [.dat (.sl none (L.map dInts))], .box [.nils], .box [.dat (.sl none (L.map dInts))], .map M, .row none (ints (l ++ add.reverse.take k))], 0, []⟩)
          (fun k => k ≤ add.length) (fun k => add.length - k) 0 (Nat.zero_le _) ?_ ?_
        · simp only [List.take_zero, List.append_nil]
          exact le_slots' (by simp only [go_sem, Int.natCast_zero, Nat.add_zero, Int.toNat_natCast])
        · intro k hk2
          refine sem_of_awp (Γ := tbl tab8) tab8_ok _ _ _ ?_
          rcases Nat.lt_or_ge k add.length with hk1 | hge2
          · have hlt2 : (k : Int) < (add.length : Int) := by omega
            have hi : add.length - 1 - k < add.length := by omega
            have hidx : (((add.length : Int) - 1) - (k : Int)).toNat = add.length - 1 - k := by omega
            have e1 := rev_take hk1
            have e2 : (ints (l ++ add.reverse.take k)).length = l.length + k := by simp; omega
            have e3 : List.take (l.length + k) (ints (l ++ add.reverse.take k)) = ints (l ++ add.reverse.take k) := List.take_of_length_le (by simp; omega)
            simp (contextual := true) only [go_sem, hlt2, hidx, nth_ints hi, e2, e3]
            refine ⟨inR_i64.2 (by omega), inR_i64.2 (by omega), by omega, by omega, by simp, by omega, by omega, inR_i64.2 (by omega), k + 1, hk1, by omega, ?_⟩
            rw [e1, ← List.append_assoc, show ints (l ++ List.take k add.reverse) ++ [D.int .i64 (add.getD (add.length - 1 - k) 0)] = ints (l ++ List.take k add.reverse ++ [add.getD (add.length - 1 - k) 0]) by simp]
            refine le_end (own := [.box [.dat (.sl none (L.map dInts))], .box [.nils], .box [.dat (.sl none (L.map dInts))], .map M, .row none (ints (l ++ List.take k add.reverse ++ [add.getD (add.length - 1 - k) 0]))]) (ex := [_]) (Nat.zero_le _) ?_ ?_ ?_
            · simp only [go_sem, Int.natCast_add, Int.cast_ofNat_Int, Nat.add_assoc]
            · simp only [go_sem]
            · simp only [go_sem]
          · have hke2 : k = add.length := by omega
            subst hke2
            have e2 : add.reverse.take add.length = add.reverse := List.take_of_length_le (by simp)
            simp (contextual := true) only [go_sem, hlt]
            rw [e2]
            have e3 : List.take (l.length + add.length) (ints (l ++ add.reverse)) = ints (l ++ add.reverse) := List.take_of_length_le (by simp)
            have e4 : (ints (l ++ add.reverse)).length = l.length + add.length := by simp
            have hfr : AV.frzs 4 none (ints (l ++ add.reverse)) [AV.agg [.dat (.sl none (L.map dInts))], .dat (.int .i64 z), .sl 4 0 (l.length + add.length)] = [AV.agg [.dat (.sl none (L.map dInts))], .dat (.int .i64 z), .dat (.sl none (ints (l ++ add.reverse)))] := by
              simp only [go_sem, e3, e4, Nat.le_refl, if_true]
            refine call_frzdata repR (by simp) 4 rfl _ _ (by rw [hfr]; rfl) ⟨L, z, l ++ add.reverse, hL, by simp; omega, rfl, rfl⟩ (.inl (by rw [hfr]; rfl)) ?_
            simp only [go_sem]
            refine post_res (.inl rfl) [.cell 6 24, .tmp 7] rfl ?_
            simp only [go_sem]
            exact le_fin (by simp only [go_sem, dC]) (by simp only [go_sem])
end Go.AM

namespace Go.AM
open Go Go.Proofs
theorem awake_eval : evalF Try.prog 1000 10 [] = some (.dat (.bool true)) := by kernel_rfl
theorem names : Names Try.prog := by
  have h : (Try.prog.funcs.toList.all fun f => decide (f.name ≠ "runtime.NumGoroutine")) = true := by kernel_rfl
  intro g fn hf
  have := List.all_eq_true.1 h fn (List.mem_of_getElem? (by simpa using hf))
  simpa using this
end Go.AM

