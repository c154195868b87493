/- Own work over the model of the kit. -/
import Derived.Test.YteblpegdedojdaaWalksB
import Derived.Test.YteblpegdedojdaaLibF
set_option linter.unusedSimpArgs false
set_option linter.unusedVariables false
namespace Go.AM
open Go Go.Proofs

/-! Plain facts of valid caches. -/
theorem nodup_bound : ∀ (n : Nat) (l : List Int), l.Nodup → (∀ x ∈ l, 0 ≤ x ∧ x < n) → l.length ≤ n
  | 0, [], _, _ => by simp
  | 0, x :: l, _, h => by have := h x (by simp); omega
  | n + 1, l, hn, h => by
    have h1 := nodup_bound n (l.erase n) (hn.erase _) (fun x hx => by
      have h2 := (hn.mem_erase_iff).1 hx
      have h3 := h x h2.2
      have h4 : x ≠ n := h2.1
      omega)
    have h5 := List.length_erase (a := (n : Int)) (l := l)
    split at h5 <;> omega

theorem inF_iff {f : Int} : inF f = true ↔ 0 ≤ f ∧ f < 256 := by simp [inF]

theorem zoneE_intro {L : List (List Int)} {z : Int} (h1 : 1 ≤ L.length) (h2 : L.length ≤ 6) (h3 : L.flatten.all inF = true) (h4 : L.flatten.Nodup) (h5 : 0 ≤ z) (h6 : z < L.length) : zoneE L z = 0 := by
  have e : checkE L L.length = 0 := by
    unfold checkE
    rw [if_neg (by omega), if_neg (by simp), if_neg (by simp [h3]), if_pos h4]
  unfold zoneE
  rw [if_neg (by simp [e]), if_neg (by omega)]
theorem zoneE_parts {L : List (List Int)} {z : Int} (h : zoneE L z = 0) : 1 ≤ L.length ∧ L.length ≤ 6 ∧ L.flatten.all inF = true ∧ L.flatten.Nodup ∧ 0 ≤ z ∧ z.toNat < L.length ∧ z < L.length := by
  obtain ⟨h1, h2, h3, h4⟩ := zoneE_zero h
  obtain ⟨g1, g2, _, g3, g4⟩ := checkE_zero h1
  exact ⟨by omega, by omega, g3, g4, h2, h3, h4⟩
theorem flat_le {L : List (List Int)} (h3 : L.flatten.all inF = true) (h4 : L.flatten.Nodup) : L.flatten.length ≤ 256 := by
  refine nodup_bound 256 _ h4 (fun x hx => ?_)
  have := List.all_eq_true.1 h3 x hx
  exact inF_iff.1 this
theorem len_flat : ∀ {L : List (List Int)} {l : List Int}, l ∈ L → l.length ≤ L.flatten.length
  | a :: L, l, h => by
    rcases List.mem_cons.1 h with rfl | h
    · simp
    · have := len_flat h
      simp only [List.flatten_cons, List.length_append]; omega
theorem zone_small {L : List (List Int)} {z : Int} (h : zoneE L z = 0) : L.length ≤ 6 ∧ (∀ l ∈ L, l.length ≤ 256) ∧ Small L := by
  obtain ⟨h1, h2, h3, h4, _⟩ := zoneE_parts h
  have h5 := flat_le h3 h4
  exact ⟨h2, fun l hl => by have := len_flat hl; omega, by omega, fun l hl => by have := len_flat hl; omega⟩

/-- The frames of a cache after one list was set. -/
theorem flat_set : ∀ {L : List (List Int)} {i : Nat} (l' r : List Int), i < L.length → l'.Perm (L.getD i [] ++ r) → (L.set i l').flatten.Perm (L.flatten ++ r)
  | a :: L, 0, l', r, _, h => by
    simp only [List.set_cons_zero, List.flatten_cons, List.getD_cons_zero] at *
    refine (h.append_right _).trans ?_
    rw [List.append_assoc, List.append_assoc]
    exact List.perm_append_comm.append_left _
  | a :: L, i + 1, l', r, hi, h => by
    simp only [List.set_cons_succ, List.flatten_cons, List.getD_cons_succ, List.append_assoc] at *
    exact (flat_set l' r (by simpa using hi) h).append_left _

theorem zone_set {L : List (List Int)} {z : Int} {l r : List Int} (h : zoneE L z = 0) (hp : l.Perm (L.getD z.toNat [] ++ r)) (hr : r.all inF = true) (hn : (L.flatten ++ r).Nodup) : zoneE (setZ L z l) z = 0 := by
  obtain ⟨h1, h2, h3, h4, h5, h6, h7⟩ := zoneE_parts h
  have hq := flat_set l r h6 hp
  have e : setZ L z l = L.set z.toNat l := by simp [setZ, h5]
  refine zoneE_intro ?_ ?_ ?_ ?_ h5 ?_
  · rw [setZ_len]; exact h1
  · rw [setZ_len]; exact h2
  · rw [e, List.all_eq_true]
    intro x hx
    have := hq.mem_iff.1 hx
    rcases List.mem_append.1 this with h | h
    · exact List.all_eq_true.1 h3 x h
    · exact List.all_eq_true.1 hr x h
  · rw [e]; exact hq.nodup_iff.2 hn
  · rw [setZ_len]; exact h7
theorem zone_put {L : List (List Int)} {z f : Int} (h : zoneE L z = 0) (hf : inF f = true) (hn : f ∉ L.flatten) : zoneE (setZ L z (L.getD z.toNat [] ++ [f])) z = 0 := by
  obtain ⟨h1, h2, h3, h4, h5, h6, h7⟩ := zoneE_parts h
  refine zone_set h (List.Perm.refl _) (by simp [hf]) ?_
  rw [List.nodup_append]
  refine ⟨h4, by simp, fun a ha b hb => ?_⟩
  simp only [List.mem_singleton] at hb
  subst hb
  rintro rfl
  exact hn ha

theorem setZ_self (L : List (List Int)) (z : Int) : setZ L z (L.getD z.toNat []) = L := by
  unfold setZ
  split
  · apply List.ext_getElem?
    intro i
    rw [List.getElem?_set]
    split
    · rename_i h; subst h
      split
      · rename_i h; simp [List.getD_eq_getElem?_getD, List.getElem?_eq_getElem h]
      · rename_i h; rw [List.getElem?_eq_none (by omega)]
    · rfl
  · rfl
theorem setZ_set (L : List (List Int)) (z : Int) (a b : List Int) : setZ (setZ L z a) z b = setZ L z b := by
  unfold setZ
  split
  · simp
  · rfl
theorem setZ_at {L : List (List Int)} {z : Int} (a : List Int) (h0 : 0 ≤ z) (h : z.toNat < L.length) : (setZ L z a).getD z.toNat [] = a := by
  simp [setZ, h0, List.getD_eq_getElem?_getD, h]

/-! Last in, first out. -/
def gotL (L : List (List Int)) (z : Int) (p : List Int) : List (List Int) := setZ L z (L.getD z.toNat [] ++ p)
theorem gotL_nil (L : List (List Int)) (z : Int) : gotL L z [] = L := by unfold gotL; rw [List.append_nil, setZ_self]
def Iv (L : List (List Int)) (z : Int) (p : List Int) : Prop := (zoneE L z ≠ 0 → p = []) ∧ (zoneE L z = 0 → ∀ j, j ≤ p.length → zoneE (gotL L z (p.take j)) z = 0)
theorem iv_nil (L : List (List Int)) (z : Int) : Iv L z [] := ⟨fun _ => rfl, fun h j _ => by rw [List.take_nil, gotL_nil]; exact h⟩
theorem iv_small {L : List (List Int)} {z : Int} {p : List Int} (hL : Small L) (h : Iv L z p) : Small (gotL L z p) := by
  by_cases h0 : zoneE L z = 0
  · have := h.2 h0 p.length (Nat.le_refl _)
    rw [List.take_length] at this
    exact (zone_small this).2.2
  · rw [h.1 h0, gotL_nil]; exact hL
theorem lifo_put {L : List (List Int)} {z : Int} {p : List Int} (x : Int) (hL : Small L) (h : Iv L z p) :
    (∃ e A, e ≠ 0 ∧ putV (gotL L z p) z x 1 1000 = .tup [.dat (dC A), .dat (.sl none []), .dat (.int .i64 e)]) ∨
    (putV (gotL L z p) z x 1 1000 = .tup [.dat (dC (gotL L z (p ++ [x]))), .dat (.sl none []), .dat (.int .i64 0)] ∧ Iv L z (p ++ [x])) := by
  by_cases h1 : zoneE (gotL L z p) z ≠ 0
  · exact .inl ⟨_, [], h1, by unfold putV; rw [if_pos h1]; rfl⟩
  by_cases h2 : inF x = false
  · exact .inl ⟨2, [], by decide, by unfold putV; rw [if_neg h1, if_pos h2]; rfl⟩
  by_cases h3 : x ∈ (gotL L z p).flatten
  · exact .inl ⟨7, [], by decide, by unfold putV; rw [if_neg h1, if_neg h2, if_neg (by omega), if_pos h3]; rfl⟩
  have h1' : zoneE (gotL L z p) z = 0 := by simpa using h1
  have h0 : zoneE L z = 0 := by
    by_cases h0 : zoneE L z = 0
    · exact h0
    · rw [h.1 h0, gotL_nil] at h1'; exact h1'
  obtain ⟨_, _, _, _, g1, g2, g3⟩ := zoneE_parts h0
  have e1 : (gotL L z p).getD z.toNat [] = L.getD z.toNat [] ++ p := setZ_at _ g1 g2
  have e2 : setZ (gotL L z p) z ((gotL L z p).getD z.toNat [] ++ [x]) = gotL L z (p ++ [x]) := by
    rw [e1]; unfold gotL; rw [setZ_set, List.append_assoc]
  have h5 := zone_put h1' (by simpa using h2) h3
  rw [e2] at h5
  have h6 := (zone_small h1').2.1 ((gotL L z p).getD z.toNat []) (by
    obtain ⟨_, _, _, _, _, k, _⟩ := zoneE_parts h1'
    simp only [List.getD_eq_getElem?_getD, List.getElem?_eq_getElem k, Option.getD_some]
    exact List.getElem_mem k)
  refine .inr ⟨?_, fun h => absurd h0 h, fun _ j hj => ?_⟩
  · unfold putV
    rw [if_neg h1, if_neg h2, if_neg (by omega), if_neg h3, if_pos (by omega), e2]
  · rcases Nat.lt_or_ge p.length j with hj2 | hj2
    · rw [List.take_of_length_le (by simp; omega)]
      exact h5
    · rw [List.take_append_of_le_length hj2]
      exact h.2 h0 j hj2
theorem lifo_take {L : List (List Int)} {z : Int} {p : List Int} {j : Nat} (h : Iv L z p) (hj : j + 1 ≤ p.length) :
    takeV (gotL L z (p.take (j + 1))) z = .tup [.dat (dC (gotL L z (p.take j))), .dat (.int .i64 (p.getD j 0)), .dat (.int .i64 0)] := by
  have h0 : zoneE L z = 0 := by
    by_cases h0 : zoneE L z = 0
    · exact h0
    · rw [h.1 h0] at hj; simp at hj
  obtain ⟨_, _, _, _, g1, g2, g3⟩ := zoneE_parts h0
  have h1 := h.2 h0 (j + 1) hj
  have e1 : (gotL L z (p.take (j + 1))).getD z.toNat [] = L.getD z.toNat [] ++ p.take (j + 1) := setZ_at _ g1 g2
  have e2 : p.take (j + 1) = p.take j ++ [p.getD j 0] := take_snoc (by omega)
  have e4 : (L.getD z.toNat [] ++ p.take (j + 1)).length = (L.getD z.toNat [] ++ p.take j).length + 1 := by rw [e2]; simp; omega
  have e3 : (L.getD z.toNat [] ++ p.take (j + 1)).take ((L.getD z.toNat [] ++ p.take (j + 1)).length - 1) = L.getD z.toNat [] ++ p.take j := by
    rw [e4, Nat.add_sub_cancel, e2, ← List.append_assoc, List.take_left' rfl]
  have e5 : (L.getD z.toNat [] ++ p.take (j + 1)).getD ((L.getD z.toNat [] ++ p.take (j + 1)).length - 1) 0 = p.getD j 0 := by
    rw [e4, Nat.add_sub_cancel, e2, ← List.append_assoc]
    generalize L.getD z.toNat [] ++ p.take j = q
    simp [List.getD_eq_getElem?_getD]
  unfold takeV
  rw [if_neg (by simp [h1]), e1, if_neg (by rw [e4]; omega), e3, e5]
  unfold gotL
  rw [setZ_set]
end Go.AM

namespace Go.AM
open Go Go.Proofs

/-! The law PercpuLifo. -/
abbrev tabF : List (Nat × Contract) := [(9, dataC fewR), (10, dataC awakeR), (13, dataC sameR), (18, dataC takeR), (23, dataC putR)]
theorem tabF_ok : OkG Try.prog (tbl tabF) := okG_cons few_ok (okG_cons awake_ok (okG_cons same_ok (okG_cons take_ok (okG_cons put_ok okG_nil))))
theorem fits_small {L : List (List Int)} (h : Small L) : Fits L := ⟨by have := h.1; omega, fun l hl => by have := h.2 l hl; omega⟩

def lifoR (ds : List D) (v : AV) : Prop := ∃ L z xs, ds = [dC L, .int .i64 z, .sl none (ints xs)] ∧ xs.length ≤ maxLen ∧ v = .dat (.bool true)

set_option maxRecDepth 100000 in
theorem lifo_ok : OkF Try.prog 7 (dataC lifoR) := by
  refine okF_data Try.func7 rfl (by decide) ?_
  rintro ds v ⟨L, z, xs, rfl, hxm, rfl⟩
  refine sem_of_awp (Γ := tbl tabF) tabF_ok _ _ _ ?_
  simp only [go_sem, Try.ntmps7, dC]
  refine call_data fewR (by simp) _ _ rfl ⟨L, rfl, rfl⟩ (.inl rfl) ?_
  cases hf : fewB L
  · simp only [go_sem, hf]
    refine call_data awakeR (by simp) _ _ rfl awakeR_true (.inl rfl) ?_
    simp only [go_sem]
    exact post_data (.inl rfl) [6] rfl trivial rfl
  · have hL := few_small hf
    by_cases hx : xs.length > 40
    · have hx' : (xs.length : Int) > 40 := by omega
      simp only [go_sem, hf, hx']
      refine call_data awakeR (by simp) _ _ rfl awakeR_true (.inl rfl) ?_
      simp only [go_sem]
      exact post_data (.inl rfl) [6] rfl trivial rfl
    · have hx' : ¬ (xs.length : Int) > 40 := by omega
      simp only [go_sem, hf, hx']
      refine sem_loop (fun q : List Int × Nat => ⟨slotsOf 84 [(1, .dat (.int .i64 z)), (2, .dat (.sl none (ints xs))), (3, .ptr 0 0 0), (7, .ptr 1 0 0), (8, .sl 2 0 q.1.length), (28, .dat (.sl none (ints xs))), (29, .dat (.int .i64 xs.length)), (30, .dat (.int .i64 q.2))],
          [.box [.dat (.sl none (L.map dInts))], .box [.dat (.sl none ((gotL L z q.1).map dInts))], .row none (ints q.1)], 0, []⟩)
        (fun q => q.2 ≤ xs.length ∧ q.1.length ≤ q.2 ∧ Iv L z q.1) (fun q => xs.length - q.2) ([], 0) ⟨Nat.zero_le _, by simp, iv_nil L z⟩ ?_ ?_
      · refine Le.trans (le_addnil 8 none rfl (Nat.zero_le _)) ?_
        simp only [gotL_nil]
        exact le_slots' (by simp only [go_sem, Int.natCast_zero])
      · rintro ⟨p, k⟩ ⟨hk, hpk, hI⟩
        simp only at hk hpk hI
        refine sem_of_awp (Γ := tbl tabF) tabF_ok _ _ _ ?_
        rcases Nat.lt_or_ge k xs.length with hk1 | hge
        · have hlt : (k : Int) < (xs.length : Int) := by omega
          have hn := nth_ints hk1
          generalize xs.getD k 0 = x at *
          simp only [go_sem, hlt, hn, Int.natCast_nonneg]
          refine call_data putR (by simp) _ _ rfl ⟨gotL L z p, z, x, 1, 1000, iv_small hL hI, rfl, rfl⟩ (.inl rfl) ?_
          rcases lifo_put x hL hI with ⟨e, A, he, hA⟩ | ⟨hA, hI2⟩
          · simp only [go_sem, hA, dC, he]
            refine ⟨inR_i64.2 (by omega), (p, k + 1), ⟨hk1, by simp only; omega, hI⟩, by simp only; omega, ?_⟩
            refine le_end (own := [.box [.dat (.sl none (L.map dInts))], .box [.dat (.sl none ((gotL L z p).map dInts))], .row none (ints p)]) (ex := [_]) (Nat.zero_le _) ?_ ?_ ?_
            · simp only [go_sem, Int.natCast_add, Int.cast_ofNat_Int]
            · simp only [go_sem]
            · simp only [go_sem]
          · have e3 : List.take p.length (ints p) = ints p := List.take_of_length_le (by simp)
            have e4 : (ints p).length = p.length := by simp
            simp only [go_sem, hA, dC, e3, e4]
            refine ⟨by simp, by omega, by omega, inR_i64.2 (by omega), (p ++ [x], k + 1), ⟨hk1, by simp only [List.length_append, List.length_singleton]; omega, hI2⟩, by simp only; omega, ?_⟩
            rw [show ints p ++ [D.int .i64 x] = ints (p ++ [x]) by simp]
            refine le_end (own := [.box [.dat (.sl none (L.map dInts))], .box [.dat (.sl none ((gotL L z (p ++ [x])).map dInts))], .row none (ints (p ++ [x]))]) (ex := _) (Nat.zero_le _) ?_ ?_ ?_
            · simp only [go_sem, Int.natCast_add, Int.cast_ofNat_Int, List.length_append, List.length_singleton]
            · simp only [go_sem]
            · simp only [go_sem]
        · have hke : k = xs.length := by omega
          subst hke
          have hlt : ¬ ((xs.length : Int) < (xs.length : Int)) := by omega
          simp only [go_sem, hlt]
          refine ⟨inR_i64.2 (by omega), ?_⟩
          refine sem_loop (fun j : Nat => ⟨slotsOf 84 [(1, .dat (.int .i64 z)), (3, .ptr 0 0 0), (7, .ptr 1 0 0), (8, .sl 2 0 p.length), (14, .dat (.int .i64 ((j : Int) - 1)))],
              [.box [.dat (.sl none (L.map dInts))], .box [.dat (.sl none ((gotL L z (p.take j)).map dInts))], .row none (ints p)], 0, []⟩)
            (fun j => j ≤ p.length) (fun j => j) p.length (Nat.le_refl _) ?_ ?_
          · rw [List.take_length]
            exact le_slots' (by simp only [go_sem])
          · intro j hj
            refine sem_of_awp (Γ := tbl tabF) tabF_ok _ _ _ ?_
            cases j with
            | zero =>
              rw [List.take_zero, gotL_nil]
              simp only [go_sem]
              refine call_data sameR (by simp) _ _ rfl (same_self (fits_small hL)) (.inl rfl) ?_
              simp only [go_sem]
              refine call_data awakeR (by simp) _ _ rfl awakeR_true (.inl rfl) ?_
              simp only [go_sem]
              exact post_data (.inl rfl) [6] rfl trivial rfl
            | succ j =>
              have hI3 : Small (gotL L z (p.take (j + 1))) := by
                by_cases h0 : zoneE L z = 0
                · exact (zone_small (hI.2 h0 (j + 1) hj)).2.2
                · rw [hI.1 h0] at hj; simp at hj
              have hge : ((j + 1 : Nat) : Int) - 1 ≥ 0 := by omega
              have hidx : (((j + 1 : Nat) : Int) - 1).toNat = j := by omega
              have hn := nth_ints (l := p) (i := j) (by omega)
              simp only [go_sem, hge]
              refine call_data takeR (by simp) _ _ rfl ⟨gotL L z (p.take (j + 1)), z, hI3, rfl, rfl⟩ (.inl rfl) ?_
              simp only [go_sem, lifo_take hI hj, dC, hidx, hn]
              refine ⟨by omega, by omega, by omega, inR_i64.2 (by omega), j, by omega, by omega, ?_⟩
              refine le_end (own := [.box [.dat (.sl none (L.map dInts))], .box [.dat (.sl none ((gotL L z (p.take j)).map dInts))], .row none (ints p)]) (ex := [_]) (Nat.zero_le _) ?_ ?_ ?_
              · simp only [go_sem, show ((j + 1 : Nat) : Int) - 1 - 1 = (j : Int) - 1 by omega]
              · simp only [go_sem]
              · simp only [go_sem]
end Go.AM

namespace Go.AM
open Go Go.Proofs

/-! Plain facts for the law of keeping. -/
def Valid (L : List (List Int)) : Prop := 1 ≤ L.length ∧ L.length ≤ 6 ∧ L.flatten.all inF = true ∧ L.flatten.Nodup
def Most (L : List (List Int)) (m : Int) : Prop := ∀ l ∈ L, (l.length : Int) ≤ m

theorem Valid.zone {L : List (List Int)} {z : Int} (h : Valid L) (h0 : 0 ≤ z) (h1 : z < L.length) : zoneE L z = 0 := zoneE_intro h.1 h.2.1 h.2.2.1 h.2.2.2 h0 h1
theorem Valid.small {L : List (List Int)} (h : Valid L) : Small L := by
  have h1 : 0 < L.length := h.1
  exact (zone_small (h.zone (z := 0) (by omega) (by omega))).2.2
theorem Valid.check {L : List (List Int)} {z : Int} (h : Valid L) (hz : (L.length : Int) = z) : checkE L z = 0 := by
  unfold checkE
  have := h.1; have := h.2.1
  rw [if_neg (by omega), if_neg (by simp [hz]), if_neg (by simp [h.2.2.1]), if_pos h.2.2.2]
theorem Valid.inF {L : List (List Int)} (h : Valid L) {x : Int} (hx : x ∈ L.flatten) : 0 ≤ x ∧ x < 256 := inF_iff.1 (List.all_eq_true.1 h.2.2.1 x hx)

/-- The frames of a cache after one list was set, with what came in and what went out. -/
theorem flat_set2 : ∀ {L : List (List Int)} {i : Nat} (l' r' r : List Int), i < L.length → (l' ++ r').Perm (L.getD i [] ++ r) → ((L.set i l').flatten ++ r').Perm (L.flatten ++ r)
  | a :: L, 0, l', r', r, _, h => by
    simp only [List.set_cons_zero, List.flatten_cons, List.getD_cons_zero, List.append_assoc] at *
    have h1 : (l' ++ (L.flatten ++ r')).Perm (L.flatten ++ (l' ++ r')) := by
      rw [← List.append_assoc, ← List.append_assoc]; exact List.perm_append_comm.append_right _
    have h2 : (L.flatten ++ (a ++ r)).Perm (a ++ (L.flatten ++ r)) := by
      rw [← List.append_assoc, ← List.append_assoc]; exact List.perm_append_comm.append_right _
    exact h1.trans ((h.append_left _).trans h2)
  | a :: L, i + 1, l', r', r, hi, h => by
    simp only [List.set_cons_succ, List.flatten_cons, List.getD_cons_succ, List.append_assoc] at *
    exact (flat_set2 l' r' r (by simpa using hi) h).append_left _

theorem valid_set {L : List (List Int)} {z : Int} {l' r' r : List Int} (h : Valid L) (h0 : 0 ≤ z) (h1 : z < L.length) (hp : (l' ++ r').Perm (L.getD z.toNat [] ++ r)) (hr : r.all inF = true) (hn : (L.flatten ++ r).Nodup) :
    Valid (setZ L z l') ∧ (setZ L z l').length = L.length ∧ r'.Nodup ∧ (∀ x ∈ r', x ∈ L.flatten ++ r) ∧ ∀ x, x ∈ (setZ L z l').flatten ↔ (x ∈ L.flatten ++ r ∧ x ∉ r') := by
  have hq := flat_set2 l' r' r (i := z.toNat) (by omega) hp
  have e : setZ L z l' = L.set z.toNat l' := by simp [setZ, h0]
  have hn' := hq.nodup_iff.2 hn
  rw [List.nodup_append] at hn'
  obtain ⟨n1, n2, n3⟩ := hn'
  have hm : ∀ x, (x ∈ (L.set z.toNat l').flatten ∨ x ∈ r') ↔ x ∈ L.flatten ++ r := fun x => by rw [← hq.mem_iff, List.mem_append]
  refine ⟨⟨by rw [setZ_len]; exact h.1, by rw [setZ_len]; exact h.2.1, ?_, by rw [e]; exact n1⟩, setZ_len _ _ _, n2, fun x hx => (hm x).1 (.inr hx), fun x => ?_⟩
  · rw [e, List.all_eq_true]
    intro x hx
    rcases List.mem_append.1 ((hm x).1 (.inl hx)) with g | g
    · exact List.all_eq_true.1 h.2.2.1 x g
    · exact List.all_eq_true.1 hr x g
  · rw [e]
    constructor
    · intro hx
      exact ⟨(hm x).1 (.inl hx), fun hr' => n3 x hx x hr' rfl⟩
    · rintro ⟨g1, g2⟩
      exact ((hm x).2 g1).resolve_right g2

theorem most_set {L : List (List Int)} {z m : Int} {l : List Int} (h : Most L m) (hl : (l.length : Int) ≤ m) : Most (setZ L z l) m := by
  intro x hx
  unfold setZ at hx
  split at hx
  · rcases List.mem_or_eq_of_mem_set hx with g | rfl
    · exact h x g
    · exact hl
  · exact h x hx
theorem mem_get {L : List (List Int)} {i : Nat} (h : i < L.length) : L.getD i [] ∈ L := by
  simp only [List.getD_eq_getElem?_getD, List.getElem?_eq_getElem h, Option.getD_some]
  exact List.getElem_mem h

theorem keep_take {L : List (List Int)} {z m : Int} (hv : Valid L) (h0 : 0 ≤ z) (h1 : z < L.length) (hm : Most L m) :
    (∃ e A n, e ≠ 0 ∧ takeV L z = .tup [.dat (dC A), .dat (.int .i64 n), .dat (.int .i64 e)]) ∨
    ∃ L' f, takeV L z = .tup [.dat (dC L'), .dat (.int .i64 f), .dat (.int .i64 0)] ∧ Valid L' ∧ L'.length = L.length ∧ Most L' m ∧ f ∈ L.flatten ∧ ∀ x, x ∈ L'.flatten ↔ (x ∈ L.flatten ∧ x ≠ f) := by
  have hz := hv.zone h0 h1
  by_cases h2 : (L.getD z.toNat []).length = 0
  · exact .inl ⟨6, [], 0, by decide, by unfold takeV; rw [if_neg (by simp [hz]), if_pos h2]; rfl⟩
  · refine .inr ⟨_, _, by unfold takeV; rw [if_neg (by simp [hz]), if_neg h2], ?_⟩
    have hmem := mem_get (L := L) (i := z.toNat) (by omega)
    have hlen := hm _ hmem
    have hp : ((L.getD z.toNat []).take ((L.getD z.toNat []).length - 1) ++ [(L.getD z.toNat []).getD ((L.getD z.toNat []).length - 1) 0]).Perm (L.getD z.toNat [] ++ []) := by
      rw [← take_snoc (by omega), List.append_nil, List.take_of_length_le (by omega)]
    obtain ⟨g1, g2, g3, g4, g5⟩ := valid_set hv h0 h1 hp (by simp) (by simpa using hv.2.2.2)
    refine ⟨g1, g2, most_set hm (by simp only [List.length_take]; omega), ?_, fun x => ?_⟩
    · have := g4 _ (List.mem_singleton.2 rfl)
      simpa using this
    · rw [g5]; simp

theorem keep_put {L : List (List Int)} {z m : Int} (f b h : Int) (hv : Valid L) (h0 : 0 ≤ z) (h1 : z < L.length) (hm : Most L m) (hf : inF f = true) :
    (∃ e A, e ≠ 0 ∧ putV L z f b h = .tup [.dat (dC A), .dat (.sl none []), .dat (.int .i64 e)]) ∨
    ∃ L' sp, putV L z f b h = .tup [.dat (dC L'), .dat (.sl none (ints sp)), .dat (.int .i64 0)] ∧ Valid L' ∧ L'.length = L.length ∧ Most L' (max m h) ∧ sp.Nodup ∧ sp.length ≤ 1000 ∧ (∀ x ∈ sp, x ∈ L.flatten ++ [f]) ∧ ∀ x, x ∈ L'.flatten ↔ (x ∈ L.flatten ++ [f] ∧ x ∉ sp) := by
  have hz := hv.zone h0 h1
  by_cases h2 : b < 1 ∨ h < b
  · exact .inl ⟨1, [], by decide, by unfold putV; rw [if_neg (by simp [hz]), if_neg (by simp [hf]), if_pos h2]; rfl⟩
  by_cases h3 : f ∈ L.flatten
  · exact .inl ⟨7, [], by decide, by unfold putV; rw [if_neg (by simp [hz]), if_neg (by simp [hf]), if_neg h2, if_pos h3]; rfl⟩
  have hmem := mem_get (L := L) (i := z.toNat) (by omega)
  have hlen := hm _ hmem
  have hsm := hv.small.2 _ hmem
  have hn : (L.flatten ++ [f]).Nodup := by
    rw [List.nodup_append]
    refine ⟨hv.2.2.2, by simp, fun x hx y hy => ?_⟩
    simp only [List.mem_singleton] at hy
    subst hy
    rintro rfl
    exact h3 hx
  have hmm : Most L (max m h) := fun l hl => by have := hm l hl; omega
  by_cases h4 : ((L.getD z.toNat []).length + 1 : Int) ≤ h
  · refine .inr ⟨_, [], by unfold putV; rw [if_neg (by simp [hz]), if_neg (by simp [hf]), if_neg h2, if_neg h3, if_pos h4]; rfl, ?_⟩
    obtain ⟨g1, g2, g3, g4, g5⟩ := valid_set (l' := L.getD z.toNat [] ++ [f]) (r' := []) (r := [f]) hv h0 h1 (by simp) (by simp [hf]) hn
    refine ⟨g1, g2, most_set hmm (by simp only [List.length_append, List.length_singleton]; omega), g3, by simp, by simp, g5⟩
  · refine .inr ⟨_, (L.getD z.toNat [] ++ [f]).take b.toNat, by unfold putV; rw [if_neg (by simp [hz]), if_neg (by simp [hf]), if_neg h2, if_neg h3, if_neg h4], ?_⟩
    obtain ⟨g1, g2, g3, g4, g5⟩ := valid_set (l' := (L.getD z.toNat [] ++ [f]).drop b.toNat) (r' := (L.getD z.toNat [] ++ [f]).take b.toNat) (r := [f]) hv h0 h1
      (by refine List.perm_append_comm.trans ?_; rw [List.take_append_drop]) (by simp [hf]) hn
    refine ⟨g1, g2, most_set hmm (by simp only [List.length_drop, List.length_append, List.length_singleton]; omega), g3, by simp only [List.length_take, List.length_append, List.length_singleton]; omega, g4, g5⟩

/-! The marks. -/
def marks (S : List Int) : List D := (List.range 256).map fun i : Nat => D.bool (decide ((i : Int) ∈ S))
theorem marks_len (S : List Int) : (marks S).length = 256 := by simp [marks]
theorem marks_nil : marks [] = List.replicate 256 (.bool false) := by
  unfold marks
  rw [List.eq_replicate_iff]
  refine ⟨by rw [List.length_map, List.length_range], fun b hb => ?_⟩
  obtain ⟨i, _, rfl⟩ := List.mem_map.1 hb
  rw [decide_eq_false (by exact List.not_mem_nil)]
theorem marks_congr {S T : List Int} (h : ∀ x, x ∈ S ↔ x ∈ T) : marks S = marks T := by
  unfold marks
  simp only [h]
theorem marks_get {S : List Int} {i : Nat} (h : i < 256) : D.nth (marks S) i = .bool (decide ((i : Int) ∈ S)) := by
  simp [D.nth, marks, List.getElem?_range, h]
theorem marks_set {S T : List Int} {i : Nat} {b : Bool} (h : i < 256) (hb : decide ((i : Int) ∈ T) = b) (hx : ∀ x : Int, x ≠ i → (x ∈ S ↔ x ∈ T)) : (marks S).set i (.bool b) = marks T := by
  subst hb
  unfold marks
  apply List.ext_getElem
  · simp
  · intro j h1 h2
    rw [List.getElem_set]
    split
    · rename_i e; subst e; simp
    · rename_i e
      simp only [List.getElem_map, List.getElem_range]
      congr 2
      exact propext (hx j (by omega))

/-! The count. -/
def below (S : List Int) (k : Nat) : Nat := S.countP (fun x => decide (x < (k : Int)))
theorem below_zero {S : List Int} (h : ∀ x ∈ S, 0 ≤ x) : below S 0 = 0 := by
  unfold below
  rw [List.countP_eq_zero]
  intro x hx
  have := h x hx
  simp; omega
theorem below_split (k : Nat) : ∀ S : List Int, below S (k + 1) = below S k + S.count (k : Int)
  | [] => rfl
  | x :: S => by
    have ih := below_split k S
    unfold below at *
    simp only [List.countP_cons, List.count_cons, ih]
    by_cases h1 : x < (k : Int)
    · have d1 : decide (x < (k : Int)) = true := by simpa using h1
      have d2 : decide (x < ((k + 1 : Nat) : Int)) = true := decide_eq_true (by omega)
      have d3 : (x == (k : Int)) = false := by simp; omega
      simp only [d1, d2, d3, if_true]; simp; omega
    · have d1 : decide (x < (k : Int)) = false := by simpa using h1
      by_cases h3 : x = (k : Int)
      · have d2 : decide (x < ((k + 1 : Nat) : Int)) = true := decide_eq_true (by omega)
        have d3 : (x == (k : Int)) = true := by simp [h3]
        simp only [d1, d2, d3, if_true]; simp; omega
      · have d2 : decide (x < ((k + 1 : Nat) : Int)) = false := decide_eq_false (by omega)
        have d3 : (x == (k : Int)) = false := by simp [h3]
        simp only [d1, d2, d3]; simp
theorem below_succ {S : List Int} (h : S.Nodup) (k : Nat) : below S (k + 1) = below S k + if (k : Int) ∈ S then 1 else 0 := by
  rw [below_split, h.count]
theorem below_all {S : List Int} (h : ∀ x ∈ S, x < 256) : below S 256 = S.length := by
  unfold below
  rw [List.countP_eq_length]
  intro x hx
  simpa using h x hx
end Go.AM

namespace Go.AM
open Go Go.Proofs

/-! The law PercpuKeeps. -/
abbrev tabK : List (Nat × Contract) := [(10, dataC awakeR), (11, dataC newR), (14, dataC checkR), (16, dataC countR), (18, dataC takeR), (23, dataC putR)]
theorem tabK_ok : OkG Try.prog (tbl tabK) := okG_cons awake_ok (okG_cons new_ok (okG_cons pcheck_ok (okG_cons pcount_ok (okG_cons take_ok (okG_cons put_ok okG_nil)))))
theorem pureK : PureFns (tbl tabK) [10, 14, 16] := by
  rintro g args own v own' mv hg ⟨C, hm, hC⟩
  simp only [tabK, List.mem_cons, Prod.mk.injEq, List.not_mem_nil, or_false] at hm
  rcases hm with ⟨_, rfl⟩ | ⟨_, rfl⟩ | ⟨_, rfl⟩ | ⟨_, rfl⟩ | ⟨_, rfl⟩ | ⟨_, rfl⟩ <;> (obtain ⟨_, _, _, h1, h2, _⟩ := hC; exact ⟨h1, h2⟩)

abbrev Script := List (Int × Int × Int × Int)
def opD (o : Int × Int × Int × Int) : D := .agg [.int .i64 o.1, .int .i64 o.2.1, .int .i64 o.2.2.1, .int .i64 o.2.2.2]
theorem nth_ops {xs : Script} {k : Nat} (h : k < xs.length) : D.nth (xs.map opD) k = opD (xs.getD k (0, 0, 0, 0)) := by
  simp [D.nth, List.getD_eq_getElem?_getD, h]

def keepsR (ds : List D) (v : AV) : Prop := ∃ (z : Int) (xs : Script), ds = [.int .i64 z, .sl (wantT Try.prog 40) (xs.map opD)] ∧ xs.length ≤ maxLen ∧ v = .dat (.bool true)
theorem want40 : wantT Try.prog 40 = some 4 := by kernel_rfl

theorem newL_of {z : Int} (h : newE z = 0) : 1 ≤ z ∧ z ≤ 6 ∧ newL z = List.replicate z.toNat [] := by
  unfold newE at h
  split at h
  · cases h
  · rename_i h1
    refine ⟨by omega, by omega, ?_⟩
    unfold newL
    rw [if_neg h1]

set_option maxRecDepth 100000 in
set_option maxHeartbeats 4000000 in
theorem keeps_ok : OkF Try.prog 8 (dataC keepsR) := by
  refine okF_data Try.func8 rfl (by decide) ?_
  rintro ds v ⟨z, xs, rfl, hxm, rfl⟩
  rw [want40]
  refine sem_of_awp (Γ := tbl tabK) tabK_ok _ _ _ ?_
  simp only [go_sem, Try.ntmps8]
  refine call_data newR (by simp) _ _ rfl (newR_of z) (.inl rfl) ?_
  have hlen := newL_len z
  by_cases he : newE z = 0
  · obtain ⟨hz1, hz2, hL⟩ := newL_of he
    have hll : (newL z).length = z.toNat := by rw [hL]; simp
    have hll' : ((newL z).length : Int) = z := by omega
    have hz6 : z ≤ 6 := hz2
    have hd1 : (1 ≤ z) = True := by simp [hz1]
    by_cases hx : (xs.length : Int) > 60
    · simp only [go_sem, he, hll', hx, hz1, hz2]
      refine call_data awakeR (by simp) _ _ rfl awakeR_true (.inl rfl) ?_
      simp only [go_sem]
      exact post_data (.inl rfl) [4] rfl trivial rfl
    · simp only [go_sem, he, hll', hx]
      refine sem_loop (fun q : List (List Int) × Int × Nat => ⟨slotsOf 232 [(0, .dat (.int .i64 z)), (5, .ptr 0 0 0), (7, .ptr 1 0 0), (8, .dat (.int .i64 q.2.1)), (55, .dat (.sl (some 4) (xs.map opD))), (56, .dat (.int .i64 xs.length)), (57, .dat (.int .i64 q.2.2))],
          [.box [.dat (.sl none (q.1.map dInts))], .row none (marks q.1.flatten)], 0, []⟩)
        (fun q => Valid q.1 ∧ (q.1.length : Int) = z ∧ Most q.1 q.2.1 ∧ 0 ≤ q.2.1 ∧ q.2.2 ≤ xs.length) (fun q => xs.length - q.2.2) (newL z, 0, 0) ⟨?_, hll', ?_, Int.le_refl _, Nat.zero_le _⟩ ?_ ?_
      · rw [hL]
        exact ⟨by simp; omega, by simp; omega, by simp, by simp⟩
      · intro l hl
        rw [newL_nil z l hl]; simp
      · have e1 : (newL z).flatten = [] := by rw [hL]; simp
        simp only [e1, marks_nil]
        exact le_slots' (by simp only [go_sem, Int.natCast_zero, List.length_map])
      · rintro ⟨L, m, k⟩ ⟨hv, hLz, hm, hm0, hk⟩
        simp only at hv hLz hm hm0 hk
        refine sem_of_awp (Γ := tbl tabK) tabK_ok _ _ _ ?_
        rcases Nat.lt_or_ge k xs.length with hk1 | hge
        · have hlt : (k : Int) < (xs.length : Int) := by omega
          have hn := nth_ops hk1
          generalize xs.getD k (0, 0, 0, 0) = o at *
          obtain ⟨oz, f, b, h⟩ := o
          simp only [opD] at hn
          have hcont : ∀ {s : List AV} {ex : List Obj} {L2 : List (List Int)} {m2 : Int}, slotsLe s (slotsOf 232 [(0, .dat (.int .i64 z)), (5, .ptr 0 0 0), (7, .ptr 1 0 0), (8, .dat (.int .i64 m2)), (55, .dat (.sl (some 4) (xs.map opD))), (56, .dat (.int .i64 xs.length)), (57, .dat (.int .i64 (k + 1 : Nat)))]) →
              Le ⟨s, [.box [.dat (.sl none (L2.map dInts))], .row none (marks L2.flatten)] ++ ex, 0, []⟩ ⟨slotsOf 232 [(0, .dat (.int .i64 z)), (5, .ptr 0 0 0), (7, .ptr 1 0 0), (8, .dat (.int .i64 m2)), (55, .dat (.sl (some 4) (xs.map opD))), (56, .dat (.int .i64 xs.length)), (57, .dat (.int .i64 (k + 1 : Nat)))], [.box [.dat (.sl none (L2.map dInts))], .row none (marks L2.flatten)], 0, []⟩ := fun hs =>
            le_end (Nat.zero_le _) hs (by simp only [go_sem]) (by simp only [go_sem])
          by_cases c1 : oz < 0
          · simp only [go_sem, hlt, hn, c1, List.length_map, Int.natCast_nonneg]
            refine ⟨inR_i64.2 (by omega), (L, m, k + 1), ⟨hv, hLz, hm, hm0, hk1⟩, by simp only; omega, hcont (ex := [_]) ?_⟩
            simp only [go_sem, Int.natCast_add, Int.cast_ofNat_Int]
          by_cases c2 : z ≤ oz
          · simp only [go_sem, hlt, hn, c1, c2, List.length_map, Int.natCast_nonneg]
            refine ⟨inR_i64.2 (by omega), (L, m, k + 1), ⟨hv, hLz, hm, hm0, hk1⟩, by simp only; omega, hcont (ex := [_]) ?_⟩
            simp only [go_sem, Int.natCast_add, Int.cast_ofNat_Int]
          by_cases c3 : f < 0
          · simp only [go_sem, hlt, hn, c1, c2, c3, List.length_map, Int.natCast_nonneg]
            refine ⟨inR_i64.2 (by omega), (L, m, k + 1), ⟨hv, hLz, hm, hm0, hk1⟩, by simp only; omega, hcont (ex := [_]) ?_⟩
            simp only [go_sem, Int.natCast_add, Int.cast_ofNat_Int]
          by_cases c4 : 256 ≤ f
          · simp only [go_sem, hlt, hn, c1, c2, c3, c4, List.length_map, Int.natCast_nonneg]
            refine ⟨inR_i64.2 (by omega), (L, m, k + 1), ⟨hv, hLz, hm, hm0, hk1⟩, by simp only; omega, hcont (ex := [_]) ?_⟩
            simp only [go_sem, Int.natCast_add, Int.cast_ofNat_Int]
          have c3' : 0 ≤ f := by omega
          have c4' : f < 256 := by omega
          have hf : inF f = true := inF_iff.2 ⟨c3', c4'⟩
          have hfn : ((f.toNat : Nat) : Int) = f := by omega
          have hg : D.nth (marks L.flatten) f.toNat = .bool (decide (f ∈ L.flatten)) := by rw [marks_get (by omega), hfn]
          have hidx : f.toNat < 256 := by omega
          by_cases c5 : f ∈ L.flatten
          · simp only [go_sem, hlt, hn, c1, c2, c3, c4, c3', c4', hg, c5, marks_len, List.length_map, Int.natCast_nonneg, hidx]
            refine call_data takeR (by simp) _ _ rfl ⟨L, oz, hv.small, rfl, rfl⟩ (.inl rfl) ?_
            rcases keep_take hv (z := oz) (by omega) (by omega) hm with ⟨e, A, n, he, hA⟩ | ⟨L', g, hA, hv', hl', hm', hgm, hmem⟩
            · simp only [go_sem, hA, dC, he]
              refine ⟨inR_i64.2 (by omega), (L, m, k + 1), ⟨hv, hLz, hm, hm0, hk1⟩, by simp only; omega, hcont (ex := [_, _]) ?_⟩
              simp only [go_sem, Int.natCast_add, Int.cast_ofNat_Int]
            · obtain ⟨d1, d2⟩ := hv.inF hgm
              have d1' : ¬ g < 0 := by omega
              have d2' : ¬ 256 ≤ g := by omega
              have hgn : ((g.toNat : Nat) : Int) = g := by omega
              have hgg : D.nth (marks L.flatten) g.toNat = .bool true := by rw [marks_get (by omega), hgn, decide_eq_true hgm]
              have hset : (marks L.flatten).set g.toNat (.bool false) = marks L'.flatten := by
                refine marks_set (by omega) ?_ ?_
                · rw [hgn]; exact decide_eq_false (by rw [hmem]; simp)
                · intro x hx; rw [hgn] at hx; rw [hmem]; simp [hx]
              simp only [go_sem, hA, dC, d1, d2, d1', d2', hgg, hset, marks_len]
              refine ⟨by omega, by omega, inR_i64.2 (by omega), (L', m, k + 1), ⟨hv', by simp only [hl']; exact hLz, hm', hm0, hk1⟩, by simp only; omega, hcont (ex := [_, _]) ?_⟩
              simp only [go_sem, Int.natCast_add, Int.cast_ofNat_Int]
          · simp only [go_sem, hlt, hn, c1, c2, c3, c4, c3', c4', hg, c5, marks_len, List.length_map, Int.natCast_nonneg, hidx]
            have hset : (marks L.flatten).set f.toNat (.bool true) = marks (L.flatten ++ [f]) := by
              refine marks_set hidx ?_ ?_
              · rw [hfn]; exact decide_eq_true (by simp)
              · intro x hx; rw [hfn] at hx; simp [hx]
            refine call_data putR (by simp) _ _ rfl ⟨L, oz, f, b, h, hv.small, rfl, rfl⟩ (.inl rfl) ?_
            rcases keep_put f b h hv (z := oz) (by omega) (by omega) hm hf with ⟨e, A, he, hA⟩ | ⟨L', sp, hA, hv', hl', hm', hsn, hsl, hsp, hmem⟩
            · simp only [go_sem, hA, dC, he]
              refine ⟨inR_i64.2 (by omega), (L, m, k + 1), ⟨hv, hLz, hm, hm0, hk1⟩, by simp only; omega, hcont (ex := [_, _]) ?_⟩
              simp only [go_sem, Int.natCast_add, Int.cast_ofNat_Int]
            · simp only [go_sem, hA, dC, hset, marks_len]
              refine ⟨c3', c4', hidx, ?_⟩
              generalize hS : L.flatten ++ [f] = S at *
              have hSF : ∀ x ∈ S, 0 ≤ x ∧ x < 256 := by
                intro x hx
                rw [← hS] at hx
                rcases List.mem_append.1 hx with h | h
                · exact hv.inF h
                · rw [List.mem_singleton.1 h]; exact ⟨c3', c4'⟩
              refine sem_loop (fun j : Nat => ⟨slotsOf 232 [(0, .dat (.int .i64 z)), (5, .ptr 0 0 0), (7, .ptr 1 0 0), (8, .dat (.int .i64 m)), (10, .ptr 2 0 0), (14, .ptr 3 0 0), (55, .dat (.sl (some 4) (xs.map opD))), (56, .dat (.int .i64 xs.length)), (57, .dat (.int .i64 k)), (128, .dat (.sl none (ints sp))), (129, .dat (.int .i64 sp.length)), (130, .dat (.int .i64 j))],
                  [.box [.dat (.sl none (L.map dInts))], .row none (marks (S.filter (fun x => decide (x ∉ sp.take j)))), .box [.dat (.int .i64 oz), .dat (.int .i64 f), .dat (.int .i64 b), .dat (.int .i64 h)], .box [.dat (.sl none (L'.map dInts))]], 0, []⟩)
                (fun j => j ≤ sp.length) (fun j => sp.length - j) 0 (Nat.zero_le _) ?_ ?_
              · have e0 : marks (S.filter (fun x => decide (x ∉ sp.take 0))) = marks S := marks_congr (by intro x; simp)
                simp only [e0]
                exact le_slots' (by simp only [go_sem, Int.natCast_zero])
              · intro j hj
                refine sem_of_awp (Γ := tbl tabK) tabK_ok _ _ _ ?_
                rcases Nat.lt_or_ge j sp.length with hj1 | hge2
                · have hlt2 : (j : Int) < (sp.length : Int) := by omega
                  have hn2 := nth_ints hj1
                  have hts : sp.take (j + 1) = sp.take j ++ [sp.getD j 0] := take_snoc hj1
                  have hgm : sp.getD j 0 ∈ S := hsp _ (by simp only [List.getD_eq_getElem?_getD, List.getElem?_eq_getElem hj1, Option.getD_some]; exact List.getElem_mem hj1)
                  have hgn : sp.getD j 0 ∉ sp.take j := by
                    have h1 : (sp.take (j + 1)).Nodup := hsn.sublist (List.take_sublist _ _)
                    rw [hts, List.nodup_append] at h1
                    exact fun h2 => h1.2.2 _ h2 _ (List.mem_singleton.2 rfl) rfl
                  generalize sp.getD j 0 = g at *
                  obtain ⟨d1, d2⟩ := hSF g hgm
                  have d1' : ¬ g < 0 := by omega
                  have d2' : ¬ 256 ≤ g := by omega
                  have hgi : ((g.toNat : Nat) : Int) = g := by omega
                  have hgg : D.nth (marks (S.filter (fun x => decide (x ∉ sp.take j)))) g.toNat = .bool true := by
                    rw [marks_get (by omega), hgi]; congr 1; simp [hgm, hgn]
                  have hset2 : (marks (S.filter (fun x => decide (x ∉ sp.take j)))).set g.toNat (.bool false) = marks (S.filter (fun x => decide (x ∉ sp.take (j + 1)))) := by
                    refine marks_set (by omega) ?_ ?_
                    · rw [hgi, hts]; simp
                    · intro x hx
                      rw [hgi] at hx
                      rw [hts]; simp [hx]
                  simp only [go_sem, hlt2, hn2, d1, d2, d1', d2', hgg, hset2, marks_len, Int.natCast_nonneg]
                  refine ⟨by omega, by omega, inR_i64.2 (by omega), j + 1, hj1, by omega, ?_⟩
                  exact le_slots' (by simp only [go_sem, Int.natCast_add, Int.cast_ofNat_Int])
                · have hje : j = sp.length := by omega
                  subst hje
                  have hlt2 : ¬ ((sp.length : Int) < (sp.length : Int)) := by omega
                  rw [List.take_length, marks_congr (T := L'.flatten) (by intro x; rw [hmem]; simp)]
                  simp only [go_sem, hlt2]
                  refine ⟨inR_i64.2 (by omega), (L', max m h, k + 1), ⟨hv', by simp only [hl']; exact hLz, hm', by simp only; omega, hk1⟩, by simp only; omega, hcont (ex := [_, _]) ?_⟩
                  simp only [go_sem, Int.natCast_add, Int.cast_ofNat_Int]
        · have hke : k = xs.length := by omega
          subst hke
          have hlt : ¬ ((xs.length : Int) < (xs.length : Int)) := by omega
          simp only [go_sem, hlt, List.length_map]
          have hSF : ∀ x ∈ L.flatten, 0 ≤ x ∧ x < 256 := fun x hx => hv.inF hx
          have hfl := flat_le hv.2.2.1 hv.2.2.2
          refine sem_loop (fun i : Nat => ⟨slotsOf 232 [(0, .dat (.int .i64 z)), (5, .ptr 0 0 0), (7, .ptr 1 0 0), (8, .dat (.int .i64 m)), (19, .dat (.int .i64 (below L.flatten i))), (155, .dat (.int .i64 i))],
              [.box [.dat (.sl none (L.map dInts))], .row none (marks L.flatten)], 0, []⟩)
            (fun i => i ≤ 256) (fun i => 256 - i) 0 (Nat.zero_le _) ?_ ?_
          · rw [below_zero (fun x hx => (hSF x hx).1)]
            exact le_slots' (by simp only [go_sem, Int.natCast_zero])
          · intro i hi
            refine sem_of_awp (Γ := tbl tabK) tabK_ok _ _ _ ?_
            rcases Nat.lt_or_ge i 256 with hi1 | hge2
            · have hlt2 : (i : Int) < 256 := by omega
              have hgg := marks_get (S := L.flatten) hi1
              have hbs := below_succ hv.2.2.2 i
              have hle : below L.flatten i ≤ 256 := Nat.le_trans (List.countP_le_length) hfl
              by_cases hmi : (i : Int) ∈ L.flatten
              · rw [decide_eq_true hmi] at hgg
                rw [if_pos hmi] at hbs
                simp only [go_sem, hlt2, hgg, marks_len, Int.natCast_nonneg]
                refine ⟨hi1, inR_i64.2 (by omega), inR_i64.2 (by omega), i + 1, by omega, by omega, ?_⟩
                rw [hbs]
                exact le_slots' (by simp only [go_sem, Int.natCast_add, Int.cast_ofNat_Int])
              · rw [decide_eq_false hmi] at hgg
                rw [if_neg hmi] at hbs
                simp only [go_sem, hlt2, hgg, marks_len, Int.natCast_nonneg]
                refine ⟨hi1, inR_i64.2 (by omega), i + 1, by omega, by omega, ?_⟩
                rw [hbs]
                exact le_slots' (by simp only [go_sem, Int.natCast_add, Int.cast_ofNat_Int, Int.add_zero, Nat.add_zero])
            · have hie : i = 256 := by omega
              subst hie
              have hb := below_all (S := L.flatten) (fun x hx => (hSF x hx).2)
              simp only [go_sem, hb]
              refine sem_loop (fun y : Nat => ⟨slotsOf 232 [(0, .dat (.int .i64 z)), (5, .ptr 0 0 0), (7, .ptr 1 0 0), (8, .dat (.int .i64 m)), (19, .dat (.int .i64 ((L.flatten.length : Int) - (L.take y).flatten.length))), (164, .dat (.int .i64 z)), (165, .dat (.int .i64 y))],
                  [.box [.dat (.sl none (L.map dInts))], .row none (marks L.flatten)], 0, []⟩)
                (fun y => y ≤ L.length) (fun y => L.length - y) 0 (Nat.zero_le _) ?_ ?_
              · exact le_slots' (by simp only [go_sem, Int.natCast_zero, List.take_zero, List.flatten_nil, List.length_nil, Int.sub_zero])
              · intro y hy
                refine sem_of_awp (Γ := tbl tabK) tabK_ok _ _ _ ?_
                rcases Nat.lt_or_ge y L.length with hy1 | hge3
                · have hlt3 : (y : Int) < z := by omega
                  have hny := nth_dInts hy1
                  have hmy := mem_get hy1
                  have hly := hm _ hmy
                  have hsub : ∀ x ∈ L.getD y [], x ∈ L.flatten := fun x hx => List.mem_flatten.2 ⟨_, hmy, hx⟩
                  have hz0 := hv.zone (z := y) (by omega) (by omega)
                  have hcE : countE L y = (L.getD y []).length := by
                    unfold countE
                    rw [if_neg (by simp [hz0]), Int.toNat_natCast]
                  have htk : (L.take (y + 1)).flatten.length = (L.take y).flatten.length + (L.getD y []).length := by
                    have e0 : [L[y]].flatten = L.getD y [] := by simp [List.getD_eq_getElem?_getD, hy1]
                    rw [List.take_succ_eq_append_getElem hy1, List.flatten_append, List.length_append, e0]
                  generalize L.getD y [] = l at *
                  have hly' : ¬ m < (l.length : Int) := by omega
                  simp only [go_sem, hlt3]
                  refine sem_draw (pf := [10, 14, 16]) mixed tabK_ok pureK [0, 1, 2, 3, 4, 5, 6, 7, 8, 9, 10, 11, 12, 13, 14, 15, 16, 17, 18, 19, 20, 21, 22, 23, 24, 25, 26] (by kernel_rfl) ?_
                  simp only [go_sem, hLz, List.length_map, hny, hly', Int.natCast_nonneg, hlt3, Int.toNat_natCast]
                  refine call_data countR (by simp) _ _ rfl ⟨L, y, hv.small, rfl, rfl⟩ (.inl rfl) ?_
                  simp only [go_sem, hcE, hLz, List.length_map, hny, Int.natCast_nonneg, hlt3, Int.toNat_natCast]
                  have hTk : (L.take y).flatten.length ≤ 256 := by
                    have e0 : L.flatten.length = (L.take y).flatten.length + (L.drop y).flatten.length := by rw [← List.length_append, ← List.flatten_append, List.take_append_drop]
                    omega
                  have hll2 : l.length ≤ 256 := Nat.le_trans (len_flat hmy) hfl
                  generalize hT : (L.take y).flatten.length = T at *
                  refine sem_loop (fun j : Nat => ⟨slotsOf 232 [(0, .dat (.int .i64 z)), (5, .ptr 0 0 0), (7, .ptr 1 0 0), (8, .dat (.int .i64 m)), (19, .dat (.int .i64 ((L.flatten.length : Int) - T - j))), (164, .dat (.int .i64 z)), (165, .dat (.int .i64 y)), (199, .dat (.sl none (ints l))), (200, .dat (.int .i64 l.length)), (201, .dat (.int .i64 j))],
                      [.box [.dat (.sl none (L.map dInts))], .row none (marks L.flatten)], 0, []⟩)
                    (fun j => j ≤ l.length) (fun j => l.length - j) 0 (Nat.zero_le _) ?_ ?_
                  · exact le_slots' (by simp only [go_sem, Int.natCast_zero, Int.sub_zero])
                  · intro j hj
                    refine sem_of_awp (Γ := tbl tabK) tabK_ok _ _ _ ?_
                    rcases Nat.lt_or_ge j l.length with hj1 | hge4
                    · have hlt4 : (j : Int) < (l.length : Int) := by omega
                      have hn2 := nth_ints hj1
                      have hgm : l.getD j 0 ∈ L.flatten := hsub _ (by simp only [List.getD_eq_getElem?_getD, List.getElem?_eq_getElem hj1, Option.getD_some]; exact List.getElem_mem hj1)
                      generalize l.getD j 0 = g at *
                      obtain ⟨d1, d2⟩ := hSF g hgm
                      have d1' : ¬ g < 0 := by omega
                      have d2' : ¬ 256 ≤ g := by omega
                      have hgi : ((g.toNat : Nat) : Int) = g := by omega
                      have hgg : D.nth (marks L.flatten) g.toNat = .bool true := by
                        rw [marks_get (by omega), hgi]; congr 1; simp only [hgm, decide_true]
                      simp only [go_sem, hlt4, hn2, d1, d2, d1', d2', hgg, marks_len, Int.natCast_nonneg]
                      refine ⟨by omega, inR_i64.2 (by omega), inR_i64.2 (by omega), j + 1, hj1, by omega, ?_⟩
                      exact le_slots' (by simp only [go_sem, Int.natCast_add, Int.cast_ofNat_Int, show (L.flatten.length : Int) - T - j - 1 = (L.flatten.length : Int) - T - (j + 1) by omega])
                    · have hje : j = l.length := by omega
                      subst hje
                      have hlt4 : ¬ ((l.length : Int) < (l.length : Int)) := by omega
                      simp only [go_sem, hlt4]
                      refine ⟨inR_i64.2 (by omega), y + 1, hy1, by omega, ?_⟩
                      rw [htk]
                      exact le_slots' (by simp only [go_sem, Int.natCast_add, Int.cast_ofNat_Int, show (L.flatten.length : Int) - T - l.length = (L.flatten.length : Int) - (T + l.length) by omega])
                · have hye : y = L.length := by omega
                  subst hye
                  have hlt3 : ¬ ((L.length : Int) < z) := by omega
                  simp only [go_sem, hlt3, List.take_length, Int.sub_self]
                  refine call_data checkR (by simp) _ _ rfl ⟨L, z, hv.small, rfl, rfl⟩ (.inl rfl) ?_
                  simp only [go_sem, hv.check hLz]
                  refine call_data awakeR (by simp) _ _ rfl awakeR_true (.inl rfl) ?_
                  simp only [go_sem]
                  exact post_data (.inl rfl) [4] rfl trivial rfl
  · simp only [go_sem, he]
    have hz : z < 1 ∨ 6 < z := by
      unfold newE at he
      split at he
      · assumption
      · exact absurd rfl he
    by_cases h1 : 1 ≤ z
    · have h2 : ¬ z ≤ 6 := by omega
      simp only [go_sem, h1, h2]
      refine call_data awakeR (by simp) _ _ rfl awakeR_true (.inl rfl) ?_
      simp only [go_sem]
      exact post_data (.inl rfl) [4] rfl trivial rfl
    · simp only [go_sem, h1]
      refine call_data awakeR (by simp) _ _ rfl awakeR_true (.inl rfl) ?_
      simp only [go_sem]
      exact post_data (.inl rfl) [4] rfl trivial rfl
end Go.AM

