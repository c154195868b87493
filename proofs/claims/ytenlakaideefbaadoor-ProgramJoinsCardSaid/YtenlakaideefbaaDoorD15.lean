/- Own work over the model of the kit. -/
import Derived.Test.YtenlakaideefbaaDoorD14
import Derived.Test.YtenlakaideefbaaDoorD10
import Derived.Test.YtenlakaideefbaaDoorD13
set_option linter.unnecessarySimpa false
set_option linter.unusedSimpArgs false
set_option linter.unusedVariables false
set_option maxHeartbeats 4000000
set_option maxRecDepth 8000
namespace Go.AM
private theorem eqk {α : Sort _} {a b : α} (h : a = b) : a = b := Eq.trans h (Eq.refl _)
open Go Go.Proofs
theorem le_addnilB {s : List AV} {own : List Obj} {n0 : Nat} {mv : List Nat} (o : Nat) (T : TypeId) (u : Bool) (e : TypeId) (ho : own[o]? = some (.bld T u [.nils])) (h0 : n0 <= own.length) :
  Le ⟨s, own, n0, mv⟩ ⟨s, own.set o (.bld T u [.sl own.length 0 0]) ++ [.brow e []], n0, mv⟩ := by
 rintro c a w ⟨hd, hn, F, φ, h2, h3, h4⟩
 let L : Loc := ⟨true, 0, 0, 0, 1⟩
 have hmono := ext_old h3 L
 have h4' := AV.Rs_mono (fun _ h => h) (Same.refl F w) hmono _ _ h4
 have h5 := h3.new (L := L) (obj := Obj.brow e []) (Nat.le_refl _) (fun _ _ => rfl) (fun hn' => by cases hn') (by simp only [ObjR]; exact ⟨rfl, .inl ⟨rfl, trivial⟩⟩)
 refine ⟨hd, hn, F, ext φ own.length L, ⟨h2.sub, h2.ext, fun o L' hlt hm h => hmono o L' (h2.keep o L' hlt hm h), h2.rest, fun o L' ho' hn' => ?_, h2.frsh⟩, ?_, h4'⟩
 ·unfold ext at ho'
  split at ho'
  ·cases ho'; cases hn'
  ·exact h2.orig o L' ho' hn'
 ·have holt : o < own.length := by
   rcases Nat.lt_or_ge o own.length with h | h
   ·exact h
   ·rw [List.getElem?_eq_none h] at ho; cases ho
  refine ⟨h5.fb, h5.live, h5.inj, fun o' obj ho' => ?_, fun o' ho' => h5.out o' (by simpa using ho'), h5.glob⟩
  have hset : own.set o (.bld T u [.sl own.length 0 0]) ++ [Obj.brow e []] = (own ++ [Obj.brow e []]).set o (Obj.bld T u [.sl own.length 0 0]) := by rw [List.set_append_left _ _ holt]
  simp only at ho'
  rw [hset, List.getElem?_set] at ho'
  by_cases e : o = o'
  ·subst e
   simp only [if_true, List.length_append, List.length_cons, List.length_nil, show o < own.length + (0 + 1) by omega, Option.some.injEq] at ho'
   subst ho'
   have hr := h5.rep o (.bld T u [.nils]) (by rw [List.getElem?_append_left holt]; exact ho)
   cases hl : ext φ own.length L o with
   | none => rw [hl] at hr; simp only [ObjR] at hr
   | some L' =>
    rw [hl] at hr
    simp only [ObjR] at hr ⊢
    obtain ⟨q1, q2, arr, ty, q3, q4, q5⟩ := hr
    refine ⟨q1, q2, arr, ty, q3, q4, ?_⟩
    simp only [AV.Rs] at q5 ⊢
    obtain ⟨v, vs', rfl, hv, rfl⟩ := q5
    have hv' := R_nils.1 hv
    subst hv'
    refine ⟨_, _, rfl, ?_, rfl⟩
    simp only [AV.R]
    exact ⟨L, ext_self _ _ _, .inl ⟨rfl, by simp⟩⟩
  ·rw [if_neg e] at ho'
   exact h5.rep o' obj ho'
theorem call_ws {l : List (Nat × Contract)} (hm : (27, wsC) ∈ l) {o r : Nat} {u : Bool} {s bs : List UInt8} {own : List Obj} {K : AV -> List Obj -> List Nat -> Prop} (hor : o ≠ r) (hobj : own.getD o .dead = .bld 52 u [.sl r 0 bs.length]) (hrow : own.getD r .dead = .brow 5 bs)
  (hlen : bs.length + s.length <= 140737488355328) (h : K (.tup [.dat (.int .i64 s.length), .top]) (((own.map (Obj.kill r)).set r (.brow 5 (bs ++ s))).set o (.bld 52 true [.sl r 0 (bs ++ s).length])) [r]) :
  callw (tbl l) (.fn 27 []) [.ptr o 0 0, .dat (.str s)] own K :=
 ⟨_, _, _, ⟨wsC, hm, o, u, s, bs, r, rfl, hor, hobj, hrow, hlen, rfl, rfl, rfl⟩, h⟩
theorem call_str {l : List (Nat × Contract)} (hm : (29, strC) ∈ l) {o r : Nat} {u : Bool} {bs : List UInt8} {own : List Obj} {K : AV -> List Obj -> List Nat -> Prop} (hobj : own.getD o .dead = .bld 52 u [.sl r 0 bs.length]) (hrow : own.getD r .dead = .brow 5 bs)
  (hlen : bs.length <= 140737488355328) (h : K (.dat (.str bs)) (own.set r .dead) []) : callw (tbl l) (.fn 29 []) [.ptr o 0 0] own K :=
 ⟨_, _, _, ⟨strC, hm, o, u, bs, r, rfl, hobj, hrow, hlen, rfl, rfl, rfl⟩, h⟩
end Go.AM
namespace Go.AM
open Go Go.Proofs
theorem mixed : Tryd.prog.follows .mixedOrders = true := by kernel_rfl
theorem noMk {Γ : Nat -> Contract} : MakeFns Γ [] := fun g _ _ _ _ _ h => by rcases h with h | h <;> cases h
theorem pureNo {Γ : Nat -> Contract} : PureFns Γ [] := fun g _ _ _ _ _ h => by cases h
theorem pure_of {l : List (Nat × Contract)} {pf : List Nat} (h : ∀ g C, (g, C) ∈ l -> g ∈ pf -> ∃ R, C = dataC R) : PureFns (tbl l) pf := by
 rintro g args own v own' mv hg ⟨C, hm, hC⟩
 obtain ⟨R, rfl⟩ := h g C hm hg
 obtain ⟨_, _, _, h1, h2, _⟩ := hC
 exact ⟨h1, h2⟩
abbrev Str := List UInt8
structure PPool where
 name : Str
 size : Int
 res : Int
deriving Inhabited, DecidableEq
structure PStep where
 kind : Int
 on : Int
 cnt : Int
 deep : Bool
deriving Inhabited, DecidableEq
structure PCls where
 name : Str
 workers : Int
 server : Bool
 steps : List PStep
deriving Inhabited, DecidableEq
structure PSys where
 pools : List PPool
 locks : List Str
 classes : List PCls
deriving Inhabited, DecidableEq
abbrev intsD (u : List Int) : List D := u.map (.int .i64)
abbrev boolsD (b : List Bool) : List D := b.map .bool
def poolD (p : PPool) : D := .agg [.str p.name, .int .i64 p.size, .int .i64 p.res]
def stepD (s : PStep) : D := .agg [.int .i64 s.kind, .int .i64 s.on, .int .i64 s.cnt, .bool s.deep]
def stepsD (l : List PStep) : D := .sl (some 4) (l.map stepD)
def clsD (c : PCls) : D := .agg [.str c.name, .int .i64 c.workers, .bool c.server, stepsD c.steps]
def sysD (s : PSys) : D := .agg [.sl (some 3) (s.pools.map poolD), .sl none (s.locks.map .str), .sl (some 4) (s.classes.map clsD)]
def PStep.ok (s : PStep) : Prop := inR .i64 s.kind /\ inR .i64 s.on /\ inR .i64 s.cnt
def PPool.ok (p : PPool) : Prop := inR .i64 p.size /\ inR .i64 p.res
def PCls.ok (c : PCls) : Prop := inR .i64 c.workers /\ (∀ s ∈ c.steps, s.ok) /\ c.steps.length < 4611686018427387904
structure PSys.ok (s : PSys) : Prop where
 pools : ∀ p ∈ s.pools, p.ok
 classes : ∀ c ∈ s.classes, c.ok
 np : s.pools.length < 4611686018427387904
 nl : s.locks.length < 4611686018427387904
 nc : s.classes.length < 4611686018427387904
end Go.AM
namespace Go.AM
open Go Go.Proofs
def joinS (w : Str) (ns : List Int) : Str := ns.foldl (fun w n => w ++ ([32] ++ Lib.itoa n)) w
theorem joinS_len : ∀ (ns : List Int) (w : Str), (∀ n ∈ ns, inR .i64 n) -> (joinS w ns).length <= w.length + 22 * ns.length
 | [], w, _ => by simp [joinS]
 | n :: ns, w, h => by
  have h1 := joinS_len ns (w ++ ([32] ++ Lib.itoa n)) (fun m hm => h m (by simp [hm]))
  have h2 := inR_i64.1 (h n (by simp))
  have h3 := Lib.itoa_length_le n h2.1 h2.2
  simp only [joinS, List.foldl_cons, List.length_append, List.length_cons, List.length_nil] at h1 ⊢
  omega
theorem joinS_snoc (w : Str) (ns : List Int) (n : Int) : joinS w (ns ++ [n]) = joinS w ns ++ ([32] ++ Lib.itoa n) := by simp [joinS, List.foldl_append]
def joinR (ds : List D) (v : AV) : Prop := ∃ (w : Str) (ns : List Int), ds = [.str w, .sl none (ns.map (D.int .i64))] /\ (∀ n ∈ ns, inR .i64 n) /\ w.length + 22 * ns.length <= 1000000 /\ v = .dat (.str (joinS w ns))
abbrev tabJ : List (Nat × Contract) := [(61, dataC itoaR)]
theorem tabJ_ok : OkG Tryd.prog (tbl tabJ) := okG_cons itoa_ok okG_nil
theorem formatProt_ok : OkF Tryd.prog 48 (dataC fun ds v => ∃ n : Int, ds = [.int .i64 n] /\ v = .dat (.str (if n = 1 then [114] else [114, 119]))) := by
 refine okF_data Tryd.func48 rfl (by decide) ?_
 rintro ds v ⟨n, rfl, rfl⟩
 refine sem_of_awp (Γ := tbl []) okG_nil _ _ _ ?_
 by_cases h : n = 1
 ·simp only [go_sem, Tryd.ntmps48, h, eq_self, decide_true, if_true]
  exact post_data (.inl rfl) [2] rfl trivial rfl
 ·simp only [go_sem, Tryd.ntmps48, h, decide_false, if_false, Bool.false_eq_true]
  exact post_data (.inl rfl) [2] rfl trivial rfl
theorem join_ok : OkF Tryd.prog 47 (dataC joinR) := by
 refine okF_data Tryd.func47 rfl (by decide) ?_
 rintro ds v ⟨w, ns, rfl, hns, hl, rfl⟩
 refine sem_of_awpK [2] (Γ := tbl tabJ) tabJ_ok _ _ _ ?_
 simp only [go_sem, Tryd.ntmps47, List.length_map]
 have hmax : ns.length <= 9223372036854775807 := by omega
 refine sem_loop (fun k : Nat => ⟨slotsOf 20 [(0, .dat (.str (joinS w (ns.take k)))), (1, .dat (.sl none (ns.map (D.int .i64)))), (7, .dat (.sl none (ns.map (D.int .i64)))), (8, .dat (.int .i64 ns.length)), (9, .dat (.int .i64 k))], [], 0, []⟩)
  (fun k => k <= ns.length) (fun k => ns.length - k) 0 (Nat.zero_le _) ?_ ?_
 ·simp only [List.take_zero]
  exact le_slots' (by simp only [go_sem, joinS, List.foldl_nil])
 rintro k hk
 refine sem_of_awp (Γ := tbl tabJ) tabJ_ok _ _ _ ?_
 by_cases hlt : k < ns.length
 ·have h1 : (k : Int) < (ns.length : Int) := by omega
  have h2 : (0 : Int) <= (k : Int) := by omega
  have hx : D.nth (ns.map (D.int .i64)) k = .int .i64 (ns.getD k 0) := by
   simp [D.nth, List.getD_eq_getElem?_getD, List.getElem?_eq_getElem hlt]
  have hin : inR .i64 (ns.getD k 0) := by
   refine hns _ ?_
   rw [List.getD_eq_getElem?_getD, List.getElem?_eq_getElem hlt]
   exact List.getElem_mem hlt
  have hin2 := inR_i64.1 hin
  have htk : ns.take (k + 1) = ns.take k ++ [ns.getD k 0] := by
   rw [List.take_succ_eq_append_getElem hlt, List.getD_eq_getElem?_getD, List.getElem?_eq_getElem hlt]; rfl
  have hjl := joinS_len (ns.take k) w (fun n hn => hns n (List.mem_of_mem_take hn))
  have hil := Lib.itoa_length_le (ns.getD k 0) hin2.1 hin2.2
  have htl : (ns.take k).length = k := by rw [List.length_take]; omega
  simp only [go_sem, h1, h2, decide_true, List.length_map, Int.toNat_natCast, hx]
  refine call_data itoaR (by simp) [.int .i64 (ns.getD k 0)] _ rfl ⟨_, rfl, hin2.1, hin2.2, rfl⟩ (.inl rfl) ?_
  simp only [go_sem]
  refine ⟨by simp only [maxLen]; omega, by simp only [maxLen]; omega, inR_i64.2 (by omega), k + 1, by omega, by omega, ?_⟩
  rw [htk, joinS_snoc]
  exact le_slots' (by simp only [go_sem, List.cons_append, List.nil_append, Int.natCast_add, Int.natCast_one, Int.cast_ofNat_Int])
 ·have h1 : ¬ (k : Int) < (ns.length : Int) := by omega
  have hke : k = ns.length := by omega
  subst hke
  simp only [go_sem, h1, decide_false, List.take_length]
  exact post_data (.inl rfl) [4] rfl trivial rfl
end Go.AM
namespace Go.AM
open Go Go.Proofs
theorem rights_ok : OkF Tryd.prog 51 (dataC fun ds v => ∃ n : Int, ds = [.int .i64 n] /\ v = .dat (.str ([32] ++ (if n = 1 then [114] else [114, 119])))) := by
 refine okF_data Tryd.func51 rfl (by decide) ?_
 rintro ds v ⟨n, rfl, rfl⟩
 refine sem_of_awp (Γ := tbl []) okG_nil _ _ _ ?_
 by_cases h : n = 1
 ·simp only [go_sem, Tryd.ntmps51, h, eq_self, decide_true, if_true]
  exact post_data (.inl rfl) [2] rfl trivial rfl
 ·simp only [go_sem, Tryd.ntmps51, h, decide_false, if_false, Bool.false_eq_true]
  exact post_data (.inl rfl) [2] rfl trivial rfl
theorem words_ok : OkF Tryd.prog 50 (dataC joinR) := by
 refine okF_data Tryd.func50 rfl (by decide) ?_
 rintro ds v ⟨w, ns, rfl, hns, hl, rfl⟩
 refine sem_of_awpK [2] (Γ := tbl tabJ) tabJ_ok _ _ _ ?_
 simp only [go_sem, Tryd.ntmps50, List.length_map]
 have hmax : ns.length <= 9223372036854775807 := by omega
 refine sem_loop (fun k : Nat => ⟨slotsOf 21 [(0, .dat (.str (joinS w (ns.take k)))), (1, .dat (.sl none (ns.map (D.int .i64)))), (5, .dat (.int .i64 k))], [], 0, []⟩)
  (fun k => k <= ns.length) (fun k => ns.length - k) 0 (Nat.zero_le _) ?_ ?_
 ·simp only [List.take_zero]
  exact le_slots' (by simp only [go_sem, joinS, List.foldl_nil])
 rintro k hk
 refine sem_of_awp (Γ := tbl tabJ) tabJ_ok _ _ _ ?_
 by_cases hlt : k < ns.length
 ·have h1 : (k : Int) < (ns.length : Int) := by omega
  have h2 : (0 : Int) <= (k : Int) := by omega
  have hx : D.nth (ns.map (D.int .i64)) k = .int .i64 (ns.getD k 0) := by
   simp [D.nth, List.getD_eq_getElem?_getD, List.getElem?_eq_getElem hlt]
  have hin : inR .i64 (ns.getD k 0) := by
   refine hns _ ?_
   rw [List.getD_eq_getElem?_getD, List.getElem?_eq_getElem hlt]
   exact List.getElem_mem hlt
  have hin2 := inR_i64.1 hin
  have htk : ns.take (k + 1) = ns.take k ++ [ns.getD k 0] := by
   rw [List.take_succ_eq_append_getElem hlt, List.getD_eq_getElem?_getD, List.getElem?_eq_getElem hlt]; rfl
  have hjl := joinS_len (ns.take k) w (fun n hn => hns n (List.mem_of_mem_take hn))
  have hil := Lib.itoa_length_le (ns.getD k 0) hin2.1 hin2.2
  have htl : (ns.take k).length = k := by rw [List.length_take]; omega
  simp only [go_sem, h1, h2, decide_true, List.length_map, Int.toNat_natCast, hx]
  refine call_data itoaR (by simp) [.int .i64 (ns.getD k 0)] _ rfl ⟨_, rfl, hin2.1, hin2.2, rfl⟩ (.inl rfl) ?_
  simp only [go_sem]
  refine ⟨by simp only [maxLen]; omega, by simp only [maxLen]; omega, inR_i64.2 (by omega), k + 1, by omega, by omega, ?_⟩
  rw [htk, joinS_snoc]
  exact le_slots' (by simp only [go_sem, List.cons_append, List.nil_append, Int.natCast_add, Int.natCast_one, Int.cast_ofNat_Int])
 ·have h1 : ¬ (k : Int) < (ns.length : Int) := by omega
  have hke : k = ns.length := by omega
  subst hke
  simp only [go_sem, h1, decide_false, List.take_length, List.length_map]
  exact post_data (.inl rfl) [4] rfl trivial rfl
theorem in_ok : OkF Tryd.prog 20 (dataC fun ds v => ∃ n lo hi : Int, ds = [.int .i64 n, .int .i64 lo, .int .i64 hi] /\ v = .dat (.bool (decide (lo <= n) && decide (n <= hi)))) := by
 refine okF_data Tryd.func20 rfl (by decide) ?_
 rintro ds v ⟨n, lo, hi, rfl, rfl⟩
 refine sem_of_awp (Γ := tbl []) okG_nil _ _ _ ?_
 by_cases h : lo <= n
 ·simp only [go_sem, Tryd.ntmps20, h, decide_true, Bool.true_and]
  exact post_data (.inl rfl) [6] rfl trivial rfl
 ·simp only [go_sem, Tryd.ntmps20, h, decide_false, Bool.false_and]
  exact post_data (.inl rfl) [6] rfl trivial rfl
theorem prots_ok : OkF Tryd.prog 33 (dataC fun ds v => ∃ n : Int, ds = [.int .i64 n] /\ v = .dat (.bool (decide (n = 1) || decide (n = 3)))) := by
 refine okF_data Tryd.func33 rfl (by decide) ?_
 rintro ds v ⟨n, rfl, rfl⟩
 refine sem_of_awp (Γ := tbl []) okG_nil _ _ _ ?_
 by_cases h : n = 1
 ·simp only [go_sem, Tryd.ntmps33, h, eq_self, decide_true, Bool.true_or]
  exact post_data (.inl rfl) [2] rfl trivial rfl
 ·simp only [go_sem, Tryd.ntmps33, h, decide_false, Bool.false_or]
  exact post_data (.inl rfl) [2] rfl trivial rfl
end Go.AM
namespace Go.AM
open Go Go.Proofs
structure Ins where
 op : Int
 page : Int
 count : Int
 index : Int
 value : Int
 file : Int
 prot : Int
 flags : Int
deriving DecidableEq
def Ins.fs (x : Ins) : List Int := [x.page, x.count, x.index, x.value, x.file, x.prot, x.flags]
abbrev insD (x : Ins) : D := .agg [.int .i64 x.op, .int .i64 x.page, .int .i64 x.count, .int .i64 x.index, .int .i64 x.value, .int .i64 x.file, .int .i64 x.prot, .int .i64 x.flags]
def fieldsR (ds : List D) (v : AV) : Prop := ∃ x : Ins, ds = [insD x] /\ v = .dat (.agg (x.fs.map (D.int .i64)))
theorem fields_ok : OkF Tryd.prog 32 (dataC fieldsR) := by
 refine okF_data Tryd.func32 rfl (by decide) ?_
 rintro ds v ⟨x, rfl, rfl⟩
 refine sem_of_awp (Γ := tbl []) okG_nil _ _ _ ?_
 simp only [go_sem, Tryd.ntmps32]
 refine ⟨rfl, ?_⟩
 refine post_resO (mv' := []) (.inl rfl) [.cell 2 63] rfl (fun _ h => h) ?_
 simp only [go_sem, Ins.fs, List.map_cons, List.map_nil]
 exact le_data (by simp only [AV.under])
end Go.AM
namespace Go.AM
open Go Go.Proofs
noncomputable def TF : Ty := (tyOf Tryd.prog 1).getD ⟨false, 0, 0, none, .bool⟩
@[go_sem] theorem tyF : tyOf Tryd.prog 1 = some TF := eqk (by kernel_rfl)
@[go_sem] theorem TF_agg : TF.agg = false := eqk (by kernel_rfl)
@[go_sem] theorem TF_size : TF.size = 1 := eqk (by kernel_rfl)
@[go_sem] theorem TF_arr : TF.arr = none := eqk (by kernel_rfl)
@[go_sem] theorem TF_zero : TF.zero = some .nilFunc := eqk (by kernel_rfl)
def limC (l h : Ins) : List AV := ([l.op, l.page, l.count, l.index, l.value, l.file, l.prot, l.flags, h.op, h.page, h.count, h.index, h.value, h.file, h.prot, h.flags] : List Int).map fun n => .dat (.int .i64 n)
def limK (f : Ins × Ins -> Ins × Ins) (pre : Nat -> List AV) (side : Nat -> List Obj -> Prop) : Contract := fun args own v own' mv => ∃ (o : Nat) (l h : Ins), args = pre o /\ side o own /\ own.getD o .dead = .box (limC l h) /\ v = .tup [] /\ own' = own.set o (.box (limC (f (l, h)).1 (f (l, h)).2)) /\ mv = []
def pageF (p : Ins × Ins) : Ins × Ins := (p.1, { p.2 with page := 511 })
def fileF (p : Ins × Ins) : Ins × Ins := (p.1, { p.2 with file := 3 })
abbrev pageC : Contract := limK pageF (fun o => [.ptr o 0 0]) (fun _ _ => True)
theorem page_ok : OkF Tryd.prog 52 pageC := by
 refine okF_of_sem Tryd.func52 rfl (by decide) ?_
 rintro args own v own' mv ⟨o, l, h, rfl, _, hobj, rfl, rfl, rfl⟩
 refine sem_of_awp (Γ := tbl []) okG_nil _ _ _ ?_
 simp only [go_sem, Tryd.ntmps52, hobj, limC, List.map_cons, List.map_nil]
 simp only [pageF]
 refine post_resO (mv' := []) (.inr rfl) [] rfl (fun _ h => h) ?_
 simp only [go_sem]
 exact Le.refl _
abbrev fileC : Contract := limK fileF (fun o => [.ptr o 0 0]) (fun _ _ => True)
theorem file_ok : OkF Tryd.prog 54 fileC := by
 refine okF_of_sem Tryd.func54 rfl (by decide) ?_
 rintro args own v own' mv ⟨o, l, h, rfl, _, hobj, rfl, rfl, rfl⟩
 refine sem_of_awp (Γ := tbl []) okG_nil _ _ _ ?_
 simp only [go_sem, Tryd.ntmps54, hobj, limC, List.map_cons, List.map_nil]
 simp only [fileF]
 refine post_resO (mv' := []) (.inr rfl) [] rfl (fun _ h => h) ?_
 simp only [go_sem]
 exact Le.refl _
def spanF (p : Ins × Ins) : Ins × Ins := ({ p.1 with count := 1 }, { p.2 with page := 511, count := 512 })
def spanC : Contract := fun args own v own' mv => ∃ (q o : Nat) (l h : Ins), args = [.ptr q 0 0, .ptr o 0 0] /\ own.getD q .dead = .box [.fn 52 [.ptr o 0 0]] /\ own.getD o .dead = .box (limC l h) /\ v = .tup [] /\ own' = own.set o (.box (limC (spanF (l, h)).1 (spanF (l, h)).2)) /\ mv = []
abbrev tabSp : List (Nat × Contract) := [(52, pageC)]
theorem tabSp_ok : OkG Tryd.prog (tbl tabSp) := okG_cons page_ok okG_nil
theorem span_ok : OkF Tryd.prog 53 spanC := by
 refine okF_of_sem Tryd.func53 rfl (by decide) ?_
 rintro args own v own' mv ⟨q, o, l, h, rfl, hq, hobj, rfl, rfl, rfl⟩
 have holt : o < own.length := by
  rcases Nat.lt_or_ge o own.length with h | h
  ·exact h
  ·rw [List.getD_eq_getElem?_getD, List.getElem?_eq_none h] at hobj; cases hobj
 have hset : ∀ x, (own.set o x).getD o .dead = x := fun x => by simp [List.getD_eq_getElem?_getD, holt]
 refine sem_of_awp (Γ := tbl tabSp) tabSp_ok _ _ _ ?_
 simp only [go_sem, Tryd.ntmps53, hq]
 refine ⟨_, _, _, ⟨pageC, by simp, o, l, h, rfl, trivial, hobj, rfl, rfl, rfl⟩, ?_⟩
 simp only [go_sem, pageF, limC, List.map_cons, List.map_nil, hset, List.set_set]
 simp only [spanF]
 refine post_resO (mv' := []) (.inr rfl) [] rfl (fun _ h => h) ?_
 simp only [go_sem]
 exact Le.refl _
end Go.AM
namespace Go.AM
open Go Go.Proofs
def zI : Ins := ⟨0, 0, 0, 0, 0, 0, 0, 0⟩
def ofL (op : Int) : Ins × Ins :=
 if op = 1 then ({ zI with page := -1, file := -1, count := 1 }, { zI with page := 511, count := 512, file := 3, prot := 3, flags := 15, index := 15 })
 else if op = 2 then ({ zI with count := 1 }, { zI with page := 511, count := 512 })
 else if op = 3 then ({ zI with count := 1 }, { zI with page := 511, count := 512, prot := 3 })
 else if op = 4 then ({ zI with count := 1 }, { zI with page := 511, count := 512, value := 1 })
 else if op = 5 then (zI, { zI with page := 511, index := 31 })
 else if op = 6 then (zI, { zI with page := 511, index := 31, value := 255 })
 else if op = 7 then (zI, { zI with file := 3, page := 15, index := 31 })
 else if op = 8 then (zI, { zI with file := 3, page := 15, index := 31, value := 255 })
 else if op = 9 then (zI, { zI with file := 3, count := 16 })
 else if op = 10 then (zI, { zI with file := 3 })
 else if op = 11 then (zI, { zI with value := 48 })
 else (zI, zI)
def limD (p : Ins × Ins) : D := .agg (([p.1.op, p.1.page, p.1.count, p.1.index, p.1.value, p.1.file, p.1.prot, p.1.flags, p.2.op, p.2.page, p.2.count, p.2.index, p.2.value, p.2.file, p.2.prot, p.2.flags] : List Int).map (D.int .i64))
def ofR (ds : List D) (v : AV) : Prop := ∃ op : Int, ds = [.int .i64 op] /\ v = .tup [.dat (limD (ofL op)), .dat (.bool (decide (1 <= op) && decide (op <= 12)))]
abbrev tabOf : List (Nat × Contract) := [(52, pageC), (53, spanC), (54, fileC)]
theorem tabOf_ok : OkG Tryd.prog (tbl tabOf) := okG_cons page_ok (okG_cons span_ok (okG_cons file_ok okG_nil))
theorem of_ok : OkF Tryd.prog 31 (dataC ofR) := by
 refine okF_data Tryd.func31 rfl (by decide) ?_
 rintro ds v ⟨op, rfl, rfl⟩
 refine sem_of_awp (Γ := tbl tabOf) tabOf_ok _ _ _ ?_
 by_cases h1 : op = 1
 ·subst h1
  simp only [go_sem, Tryd.ntmps31, eq_self, decide_true, List.map_cons, List.map_nil]
  refine ⟨rfl, ?_⟩
  refine ⟨_, _, _, ⟨spanC, by simp, 1, 0, ⟨0, 0, 0, 0, 0, 0, 0, 0⟩, ⟨0, 0, 0, 0, 0, 0, 0, 0⟩, rfl, rfl, rfl, rfl, rfl, rfl⟩, ?_⟩
  simp only [go_sem, spanF, limC, List.map_cons, List.map_nil]
  refine ⟨_, _, _, ⟨fileC, by simp, 0, ⟨0, 0, 1, 0, 0, 0, 0, 0⟩, ⟨0, 511, 512, 0, 0, 0, 0, 0⟩, rfl, trivial, rfl, rfl, rfl, rfl⟩, ?_⟩
  simp only [go_sem, fileF, limC, List.map_cons, List.map_nil]
  refine post_resO (mv' := []) (.inl rfl) [.cell 2 60, .tmp 3] rfl (fun _ h => h) ?_
  simp only [go_sem]
  exact le_fin (by rfl) (by simp only [AV.under, AV.unders, and_self])
 by_cases h2 : op = 2
 ·subst h2
  simp only [go_sem, Tryd.ntmps31, eq_self, decide_true, List.map_cons, List.map_nil]
  refine ⟨rfl, ?_⟩
  refine ⟨_, _, _, ⟨spanC, by simp, 1, 0, ⟨0, 0, 0, 0, 0, 0, 0, 0⟩, ⟨0, 0, 0, 0, 0, 0, 0, 0⟩, rfl, rfl, rfl, rfl, rfl, rfl⟩, ?_⟩
  simp only [go_sem, spanF, limC, List.map_cons, List.map_nil]
  refine post_resO (mv' := []) (.inl rfl) [.cell 2 60, .tmp 3] rfl (fun _ h => h) ?_
  simp only [go_sem]
  exact le_fin (by rfl) (by simp only [AV.under, AV.unders, and_self])
 by_cases h3 : op = 3
 ·subst h3
  simp only [go_sem, Tryd.ntmps31, eq_self, decide_true, List.map_cons, List.map_nil]
  refine ⟨rfl, ?_⟩
  refine ⟨_, _, _, ⟨spanC, by simp, 1, 0, ⟨0, 0, 0, 0, 0, 0, 0, 0⟩, ⟨0, 0, 0, 0, 0, 0, 0, 0⟩, rfl, rfl, rfl, rfl, rfl, rfl⟩, ?_⟩
  simp only [go_sem, spanF, limC, List.map_cons, List.map_nil]
  refine post_resO (mv' := []) (.inl rfl) [.cell 2 60, .tmp 3] rfl (fun _ h => h) ?_
  simp only [go_sem]
  exact le_fin (by rfl) (by simp only [AV.under, AV.unders, and_self])
 by_cases h4 : op = 4
 ·subst h4
  simp only [go_sem, Tryd.ntmps31, eq_self, decide_true, List.map_cons, List.map_nil]
  refine ⟨rfl, ?_⟩
  refine ⟨_, _, _, ⟨spanC, by simp, 1, 0, ⟨0, 0, 0, 0, 0, 0, 0, 0⟩, ⟨0, 0, 0, 0, 0, 0, 0, 0⟩, rfl, rfl, rfl, rfl, rfl, rfl⟩, ?_⟩
  simp only [go_sem, spanF, limC, List.map_cons, List.map_nil]
  refine post_resO (mv' := []) (.inl rfl) [.cell 2 60, .tmp 3] rfl (fun _ h => h) ?_
  simp only [go_sem]
  exact le_fin (by rfl) (by simp only [AV.under, AV.unders, and_self])
 by_cases h5 : op = 5
 ·subst h5
  simp only [go_sem, Tryd.ntmps31, eq_self, decide_true, List.map_cons, List.map_nil]
  refine ⟨rfl, ?_⟩
  refine ⟨_, _, _, ⟨pageC, by simp, 0, ⟨0, 0, 0, 0, 0, 0, 0, 0⟩, ⟨0, 0, 0, 0, 0, 0, 0, 0⟩, rfl, trivial, rfl, rfl, rfl, rfl⟩, ?_⟩
  simp only [go_sem, pageF, limC, List.map_cons, List.map_nil]
  refine post_resO (mv' := []) (.inl rfl) [.cell 2 60, .tmp 3] rfl (fun _ h => h) ?_
  simp only [go_sem]
  exact le_fin (by rfl) (by simp only [AV.under, AV.unders, and_self])
 by_cases h6 : op = 6
 ·subst h6
  simp only [go_sem, Tryd.ntmps31, eq_self, decide_true, List.map_cons, List.map_nil]
  refine ⟨rfl, ?_⟩
  refine ⟨_, _, _, ⟨pageC, by simp, 0, ⟨0, 0, 0, 0, 0, 0, 0, 0⟩, ⟨0, 0, 0, 0, 0, 0, 0, 0⟩, rfl, trivial, rfl, rfl, rfl, rfl⟩, ?_⟩
  simp only [go_sem, pageF, limC, List.map_cons, List.map_nil]
  refine post_resO (mv' := []) (.inl rfl) [.cell 2 60, .tmp 3] rfl (fun _ h => h) ?_
  simp only [go_sem]
  exact le_fin (by rfl) (by simp only [AV.under, AV.unders, and_self])
 by_cases h7 : op = 7
 ·subst h7
  simp only [go_sem, Tryd.ntmps31, eq_self, decide_true, List.map_cons, List.map_nil]
  refine ⟨rfl, ?_⟩
  refine ⟨_, _, _, ⟨fileC, by simp, 0, ⟨0, 0, 0, 0, 0, 0, 0, 0⟩, ⟨0, 0, 0, 0, 0, 0, 0, 0⟩, rfl, trivial, rfl, rfl, rfl, rfl⟩, ?_⟩
  simp only [go_sem, fileF, limC, List.map_cons, List.map_nil]
  refine post_resO (mv' := []) (.inl rfl) [.cell 2 60, .tmp 3] rfl (fun _ h => h) ?_
  simp only [go_sem]
  exact le_fin (by rfl) (by simp only [AV.under, AV.unders, and_self])
 by_cases h8 : op = 8
 ·subst h8
  simp only [go_sem, Tryd.ntmps31, eq_self, decide_true, List.map_cons, List.map_nil]
  refine ⟨rfl, ?_⟩
  refine ⟨_, _, _, ⟨fileC, by simp, 0, ⟨0, 0, 0, 0, 0, 0, 0, 0⟩, ⟨0, 0, 0, 0, 0, 0, 0, 0⟩, rfl, trivial, rfl, rfl, rfl, rfl⟩, ?_⟩
  simp only [go_sem, fileF, limC, List.map_cons, List.map_nil]
  refine post_resO (mv' := []) (.inl rfl) [.cell 2 60, .tmp 3] rfl (fun _ h => h) ?_
  simp only [go_sem]
  exact le_fin (by rfl) (by simp only [AV.under, AV.unders, and_self])
 by_cases h9 : op = 9
 ·subst h9
  simp only [go_sem, Tryd.ntmps31, eq_self, decide_true, List.map_cons, List.map_nil]
  refine ⟨rfl, ?_⟩
  refine ⟨_, _, _, ⟨fileC, by simp, 0, ⟨0, 0, 0, 0, 0, 0, 0, 0⟩, ⟨0, 0, 0, 0, 0, 0, 0, 0⟩, rfl, trivial, rfl, rfl, rfl, rfl⟩, ?_⟩
  simp only [go_sem, fileF, limC, List.map_cons, List.map_nil]
  refine post_resO (mv' := []) (.inl rfl) [.cell 2 60, .tmp 3] rfl (fun _ h => h) ?_
  simp only [go_sem]
  exact le_fin (by rfl) (by simp only [AV.under, AV.unders, and_self])
 by_cases h10 : op = 10
 ·subst h10
  simp only [go_sem, Tryd.ntmps31, eq_self, decide_true, List.map_cons, List.map_nil]
  refine ⟨rfl, ?_⟩
  refine ⟨_, _, _, ⟨fileC, by simp, 0, ⟨0, 0, 0, 0, 0, 0, 0, 0⟩, ⟨0, 0, 0, 0, 0, 0, 0, 0⟩, rfl, trivial, rfl, rfl, rfl, rfl⟩, ?_⟩
  simp only [go_sem, fileF, limC, List.map_cons, List.map_nil]
  refine post_resO (mv' := []) (.inl rfl) [.cell 2 60, .tmp 3] rfl (fun _ h => h) ?_
  simp only [go_sem]
  exact le_fin (by rfl) (by simp only [AV.under, AV.unders, and_self])
 by_cases h11 : op = 11
 ·subst h11
  simp only [go_sem, Tryd.ntmps31, eq_self, decide_true, List.map_cons, List.map_nil]
  refine ⟨rfl, ?_⟩
  refine post_resO (mv' := []) (.inl rfl) [.cell 2 60, .tmp 3] rfl (fun _ h => h) ?_
  simp only [go_sem]
  exact le_fin (by rfl) (by simp only [AV.under, AV.unders, and_self])
 by_cases h12 : op = 12
 ·subst h12
  simp only [go_sem, Tryd.ntmps31, eq_self, decide_true, List.map_cons, List.map_nil]
  refine ⟨rfl, ?_⟩
  refine post_resO (mv' := []) (.inl rfl) [.cell 2 60, .tmp 3] rfl (fun _ h => h) ?_
  simp only [go_sem]
  exact le_fin (by rfl) (by simp only [AV.under, AV.unders, and_self])
 have hd : (decide (1 <= op) && decide (op <= 12)) = false := by
  rw [Bool.and_eq_false_iff, decide_eq_false_iff_not, decide_eq_false_iff_not]; omega
 have hl : ofL op = (zI, zI) := by simp only [ofL, h1, h2, h3, h4, h5, h6, h7, h8, h9, h10, h11, if_false]
 simp only [go_sem, Tryd.ntmps31, h1, h2, h3, h4, h5, h6, h7, h8, h9, h10, h11, h12, decide_false, List.map_cons, List.map_nil]
 refine ⟨rfl, ?_⟩
 rw [hd, hl]
 refine post_resO (mv' := []) (.inl rfl) [.cell 2 60, .tmp 3] rfl (fun _ h => h) ?_
 simp only [go_sem]
 exact le_fin (by rfl) (by simp only [AV.under, AV.unders, and_self])
end Go.AM
namespace Go.AM
open Go Go.Proofs
def usedI (x : Ins) : Ins :=
 if x.op = 1 then { zI with op := x.op, page := x.page, count := x.count, prot := x.prot, flags := x.flags, file := x.file, index := x.index }
 else if x.op = 2 then { zI with op := x.op, page := x.page, count := x.count }
 else if x.op = 3 then { zI with op := x.op, page := x.page, count := x.count, prot := x.prot }
 else if x.op = 4 then { zI with op := x.op, page := x.page, count := x.count, value := x.value }
 else if x.op = 5 then { zI with op := x.op, page := x.page, index := x.index }
 else if x.op = 6 then { zI with op := x.op, page := x.page, index := x.index, value := x.value }
 else if x.op = 7 then { zI with op := x.op, file := x.file, page := x.page, index := x.index }
 else if x.op = 8 then { zI with op := x.op, file := x.file, page := x.page, index := x.index, value := x.value }
 else if x.op = 9 then { zI with op := x.op, file := x.file, count := x.count }
 else if x.op = 10 then { zI with op := x.op, file := x.file }
 else if x.op = 11 then { zI with op := x.op, value := x.value }
 else { zI with op := x.op }
def usedR (ds : List D) (v : AV) : Prop := ∃ x : Ins, ds = [insD x] /\ v = .dat (insD (usedI x))
theorem used_ok : OkF Tryd.prog 21 (dataC usedR) := by
 refine okF_data Tryd.func21 rfl (by decide) ?_
 rintro ds v ⟨⟨op, page, count, index, value, file, prot, flags⟩, rfl, rfl⟩
 refine sem_of_awp (Γ := tbl []) okG_nil _ _ _ ?_
 by_cases h1 : op = 1
 ·subst h1
  simp only [go_sem, Tryd.ntmps21, eq_self, decide_true, List.map_cons, List.map_nil]
  refine post_resO (mv' := []) (.inl rfl) [.cell 2 36] rfl (fun _ h => h) ?_
  simp only [go_sem]
  exact le_fin (by rfl) (by simp only [AV.under])
 by_cases h2 : op = 2
 ·subst h2
  simp only [go_sem, Tryd.ntmps21, eq_self, decide_true, List.map_cons, List.map_nil]
  refine post_resO (mv' := []) (.inl rfl) [.cell 2 36] rfl (fun _ h => h) ?_
  simp only [go_sem]
  exact le_fin (by rfl) (by simp only [AV.under])
 by_cases h3 : op = 3
 ·subst h3
  simp only [go_sem, Tryd.ntmps21, eq_self, decide_true, List.map_cons, List.map_nil]
  refine post_resO (mv' := []) (.inl rfl) [.cell 2 36] rfl (fun _ h => h) ?_
  simp only [go_sem]
  exact le_fin (by rfl) (by simp only [AV.under])
 by_cases h4 : op = 4
 ·subst h4
  simp only [go_sem, Tryd.ntmps21, eq_self, decide_true, List.map_cons, List.map_nil]
  refine post_resO (mv' := []) (.inl rfl) [.cell 2 36] rfl (fun _ h => h) ?_
  simp only [go_sem]
  exact le_fin (by rfl) (by simp only [AV.under])
 by_cases h5 : op = 5
 ·subst h5
  simp only [go_sem, Tryd.ntmps21, eq_self, decide_true, List.map_cons, List.map_nil]
  refine post_resO (mv' := []) (.inl rfl) [.cell 2 36] rfl (fun _ h => h) ?_
  simp only [go_sem]
  exact le_fin (by rfl) (by simp only [AV.under])
 by_cases h6 : op = 6
 ·subst h6
  simp only [go_sem, Tryd.ntmps21, eq_self, decide_true, List.map_cons, List.map_nil]
  refine post_resO (mv' := []) (.inl rfl) [.cell 2 36] rfl (fun _ h => h) ?_
  simp only [go_sem]
  exact le_fin (by rfl) (by simp only [AV.under])
 by_cases h7 : op = 7
 ·subst h7
  simp only [go_sem, Tryd.ntmps21, eq_self, decide_true, List.map_cons, List.map_nil]
  refine post_resO (mv' := []) (.inl rfl) [.cell 2 36] rfl (fun _ h => h) ?_
  simp only [go_sem]
  exact le_fin (by rfl) (by simp only [AV.under])
 by_cases h8 : op = 8
 ·subst h8
  simp only [go_sem, Tryd.ntmps21, eq_self, decide_true, List.map_cons, List.map_nil]
  refine post_resO (mv' := []) (.inl rfl) [.cell 2 36] rfl (fun _ h => h) ?_
  simp only [go_sem]
  exact le_fin (by rfl) (by simp only [AV.under])
 by_cases h9 : op = 9
 ·subst h9
  simp only [go_sem, Tryd.ntmps21, eq_self, decide_true, List.map_cons, List.map_nil]
  refine post_resO (mv' := []) (.inl rfl) [.cell 2 36] rfl (fun _ h => h) ?_
  simp only [go_sem]
  exact le_fin (by rfl) (by simp only [AV.under])
 by_cases h10 : op = 10
 ·subst h10
  simp only [go_sem, Tryd.ntmps21, eq_self, decide_true, List.map_cons, List.map_nil]
  refine post_resO (mv' := []) (.inl rfl) [.cell 2 36] rfl (fun _ h => h) ?_
  simp only [go_sem]
  exact le_fin (by rfl) (by simp only [AV.under])
 by_cases h11 : op = 11
 ·subst h11
  simp only [go_sem, Tryd.ntmps21, eq_self, decide_true, List.map_cons, List.map_nil]
  refine post_resO (mv' := []) (.inl rfl) [.cell 2 36] rfl (fun _ h => h) ?_
  simp only [go_sem]
  exact le_fin (by rfl) (by simp only [AV.under])
 have hl : usedI ⟨op, page, count, index, value, file, prot, flags⟩ = { zI with op := op } := by simp only [usedI, h1, h2, h3, h4, h5, h6, h7, h8, h9, h10, h11, if_false]
 simp only [go_sem, Tryd.ntmps21, h1, h2, h3, h4, h5, h6, h7, h8, h9, h10, h11, decide_false, List.map_cons, List.map_nil]
 rw [hl]
 refine post_resO (mv' := []) (.inl rfl) [.cell 2 36] rfl (fun _ h => h) ?_
 simp only [go_sem]
 exact le_fin (by rfl) (by simp only [AV.under])
end Go.AM
namespace Go.AM
open Go Go.Proofs
def lowc (b : UInt8) : Bool := decide (97 <= b.toNat) && decide (b.toNat <= 122)
def digc (b : UInt8) : Bool := decide (48 <= b.toNat) && decide (b.toNat <= 57)
def nmc (b : UInt8) : Bool := lowc b || digc b
def isNm (s : Str) : Bool := match s with | [] => false | b :: r => decide (r.length < 8) && lowc b && r.all nmc
def isNmR (ds : List D) (v : AV) : Prop := ∃ s : Str, ds = [.str s] /\ v = .dat (.bool (isNm s))
theorem digc_iff {b : UInt8} : digc b = true ↔ ¬ (b.toNat : Int) < 48 /\ ¬ (57 : Int) < b.toNat := by
 simp only [digc, Bool.and_eq_true, decide_eq_true_eq]; omega
end Go.AM
namespace Go.AM
open Go Go.Proofs
def numF (s : Str) : Int := s.foldl (fun n b => 10 * n + ((b.toNat : Int) - 48)) 0
def numN (s : Str) : Int := if s.length < 1 ∨ 3 < s.length ∨ (1 < s.length /\ s.getD 0 0 = 48) then -1 else if s.all digc then numF s else -1
theorem numF_snoc (s : Str) (b : UInt8) : numF (s ++ [b]) = 10 * numF s + ((b.toNat : Int) - 48) := by simp [numF, List.foldl_append]
theorem numF_bound : ∀ s : Str, s.length <= 3 -> s.all digc = true -> 0 <= numF s /\ numF s <= 999
 | [], _, _ => by simp [numF]
 | [a], _, h => by
  simp only [List.all_cons, List.all_nil, Bool.and_true, digc_iff] at h
  simp only [numF, List.foldl_cons, List.foldl_nil]; omega
 | [a, b], _, h => by
  simp only [List.all_cons, List.all_nil, Bool.and_true, Bool.and_eq_true, digc_iff] at h
  simp only [numF, List.foldl_cons, List.foldl_nil]; omega
 | [a, b, c], _, h => by
  simp only [List.all_cons, List.all_nil, Bool.and_true, Bool.and_eq_true, digc_iff] at h
  simp only [numF, List.foldl_cons, List.foldl_nil]; omega
 | a :: b :: c :: d :: r, h, _ => by simp at h
theorem bin_sub8 {P : Program} {t : TypeId} {a b : Int} {K : AV -> Prop} : binTop P .sub t (.dat (.int .u8 a)) (.dat (.int .u8 b)) K = K (.dat (.int .u8 (IntKind.u8.wrap (a - b)))) := by simp [binTop, eqOk, eqTy, binw, intw, fitw, isSigned]
theorem wrap_u8 {n : Int} (h0 : 0 <= n) (h1 : n < 256) : IntKind.u8.wrap n = n := by
 simp [IntKind.wrap, IntKind.signed, IntKind.bits]
 omega
def numR (ds : List D) (v : AV) : Prop := ∃ s : Str, ds = [.str s] /\ s.length <= 1000000 /\ v = .dat (.int .i64 (numN s))
theorem number_ok : OkF Tryd.prog 41 (dataC numR) := by
 refine okF_data Tryd.func41 rfl (by decide) ?_
 rintro ds v ⟨s, rfl, hmx, rfl⟩
 generalize hv : numN s = V
 refine sem_of_awpK [5] (Γ := tbl []) okG_nil _ _ _ ?_
 by_cases h1 : s.length < 1
 ·have h1' : (s.length : Int) < 1 := by omega
  simp only [go_sem, Tryd.ntmps41, h1', decide_true]
  have : V = -1 := by rw [← hv]; simp only [numN, h1, true_or, if_true]
  subst this
  exact post_data (.inl rfl) [2] rfl trivial rfl
 have h1' : ¬ (s.length : Int) < 1 := by omega
 by_cases h2 : 3 < s.length
 ·have h2' : (3 : Int) < s.length := by omega
  simp only [go_sem, Tryd.ntmps41, h1', h2', decide_true, decide_false]
  have : V = -1 := by rw [← hv]; simp only [numN, h2, true_or, or_true, if_true]
  subst this
  exact post_data (.inl rfl) [2] rfl trivial rfl
 have h2' : ¬ (3 : Int) < s.length := by omega
 have hc48 : ∀ b : UInt8, ((b.toNat : Int) = 48) = (b = 48) := fun b => by
  apply propext
  constructor
  ·intro h
   have h' : b.toNat = 48 := by omega
   exact UInt8.toNat_inj.1 (by simpa using h')
  ·rintro rfl; rfl
 have hV : ¬ (1 < s.length /\ s.getD 0 0 = 48) -> V = if s.all digc then numF s else -1 := fun h => by
  rw [← hv]; unfold numN; rw [if_neg (by simp only [h1, h2, h, or_self, not_false_eq_true])]
 by_cases h3 : 1 < s.length
 case' pos =>
  have h3' : (1 : Int) < s.length := by omega
  have h00 : (0 : Int) < s.length := by omega
  by_cases h4 : s.getD 0 0 = 48
  ·simp only [go_sem, Tryd.ntmps41, h1', h2', h3', h00, decide_true, decide_false, hc48, h4]
   have : V = -1 := by rw [← hv]; simp only [numN, h3, h4, and_self, or_true, if_true]
   subst this
   exact post_data (.inl rfl) [2] rfl trivial rfl
  have hne : ¬ (1 < s.length /\ s.getD 0 0 = 48) := fun h => h4 h.2
  simp only [go_sem, Tryd.ntmps41, h1', h2', h3', h00, decide_true, decide_false, hc48, h4]
 case' neg =>
  have h3' : ¬ (1 : Int) < s.length := by omega
  have hne : ¬ (1 < s.length /\ s.getD 0 0 = 48) := fun h => h3 h.1
  simp only [go_sem, Tryd.ntmps41, h1', h2', h3', decide_true, decide_false]
 all_goals
  have hV' := hV hne
  refine sem_loop (fun k : Nat => ⟨slotsOf 48 [(0, .dat (.str s)), (3, .dat (.int .i64 (numF (s.take k)))), (4, .dat (.int .i64 k))], [], 0, []⟩)
   (fun k => k <= s.length /\ (s.take k).all digc = true) (fun k => s.length - k) 0 ⟨Nat.zero_le _, by simp⟩ ?_ ?_
  ·simp only [List.take_zero]
   exact le_slots' (by simp only [go_sem, numF, List.foldl_nil])
  rintro k ⟨hk, hall⟩
  refine sem_of_awp (Γ := tbl []) okG_nil _ _ _ ?_
  by_cases hlt : k < s.length
  ·have k1 : (k : Int) < (s.length : Int) := by omega
   have k2 : (0 : Int) <= (k : Int) := by omega
   have htk : s.take (k + 1) = s.take k ++ [s.getD k 0] := by
    rw [List.take_succ_eq_append_getElem hlt, List.getD_eq_getElem?_getD, List.getElem?_eq_getElem hlt]; rfl
   have hb := numF_bound (s.take k) (by rw [List.length_take]; omega) hall
   by_cases d1 : ((s.getD k 0).toNat : Int) < 48
   ·simp only [go_sem, k1, k2, d1, decide_true, Int.toNat_natCast]
    have : V = -1 := by
     rw [hV', if_neg]
     intro ha
     have := List.all_eq_true.1 ha (s.getD k 0) (by rw [List.getD_eq_getElem?_getD, List.getElem?_eq_getElem hlt]; exact List.getElem_mem hlt)
     exact (digc_iff.1 this).1 d1
    subst this
    exact post_data (.inl rfl) [2] rfl trivial rfl
   by_cases d2 : (57 : Int) < ((s.getD k 0).toNat : Int)
   ·simp only [go_sem, k1, k2, d1, d2, decide_true, decide_false, Int.toNat_natCast]
    have : V = -1 := by
     rw [hV', if_neg]
     intro ha
     have := List.all_eq_true.1 ha (s.getD k 0) (by rw [List.getD_eq_getElem?_getD, List.getElem?_eq_getElem hlt]; exact List.getElem_mem hlt)
     exact (digc_iff.1 this).2 d2
    subst this
    exact post_data (.inl rfl) [2] rfl trivial rfl
   have hdg : digc (s.getD k 0) = true := digc_iff.2 ⟨d1, d2⟩
   simp only [go_sem, k1, k2, d1, d2, decide_true, decide_false, Int.toNat_natCast]
   have hw := wrap_u8 (n := ((s.getD k 0).toNat : Int) - 48) (by omega) (by omega)
   refine ⟨inR_i64.2 (by omega), ?_⟩
   simp only [go_sem, bin_sub8, hw]
   have hall' : (s.take (k + 1)).all digc = true := by rw [htk]; simp only [List.all_append, hall, List.all_cons, List.all_nil, hdg, Bool.and_self]
   refine ⟨inR_i64.2 (by omega), inR_i64.2 (by omega), inR_i64.2 (by omega), k + 1, ⟨by omega, hall'⟩, by omega, ?_⟩
   rw [htk, numF_snoc]
   exact le_slots' (by simp only [go_sem, Int.natCast_add, Int.natCast_one, Int.cast_ofNat_Int])
  ·have k1 : ¬ (k : Int) < (s.length : Int) := by omega
   have hke : k = s.length := by omega
   subst hke
   rw [List.take_length] at hall
   simp only [go_sem, k1, decide_false, List.take_length]
   have : V = numF s := by rw [hV', if_pos hall]
   rw [this]
   exact post_data (.inl rfl) [2] rfl trivial rfl
end Go.AM
namespace Go.AM
open Go Go.Proofs
abbrev lineB (ws : List Str) (f : Bool) : Obj := .box [.dat (.sl none (ws.map D.str)), .dat (.bool f)]
def lnC (pre : List AV) (g : List Str × Bool -> AV × (List Str × Bool)) : Contract := fun args own v own' mv => ∃ (o : Nat) (ws : List Str) (f : Bool), args = .ptr o 0 0 :: pre /\ own.getD o .dead = lineB ws f /\ ws.length <= 1000000 /\
 v = (g (ws, f)).1 /\ own' = own.set o (lineB (g (ws, f)).2.1 (g (ws, f)).2.2) /\ mv = []
def nextS : List Str × Bool -> Str × (List Str × Bool)
 | ([], _) => ([], ([], false))
 | (w :: ws, f) => (w, (ws, f))
abbrev nextC : Contract := lnC [] (fun p => (.dat (.str (nextS p).1), (nextS p).2))
theorem next_ok : OkF Tryd.prog 36 nextC := by
 refine okF_of_sem Tryd.func36 rfl (by decide) ?_
 rintro args own v own' mv ⟨o, ws, f, rfl, hobj, hl, rfl, rfl, rfl⟩
 have hset : ∀ x, o < own.length -> (own.set o x).getD o .dead = x := fun x h => by simp [List.getD_eq_getElem?_getD, h]
 refine sem_of_awp (Γ := tbl []) okG_nil _ _ _ ?_
 cases ws with
 | nil =>
  have h0 : ((([] : List Str).map D.str).length : Int) = 0 := rfl
  simp only [go_sem, Tryd.ntmps36, hobj, nextS, List.map_nil, List.length_nil, eq_self, decide_true]
  refine post_resO (mv' := []) (.inl rfl) [.tmp 2] rfl (fun _ h => h) ?_
  simp only [go_sem]
  exact Le.refl _
 | cons w ws =>
  have h0 : ¬ ((ws.length + 1 : Nat) : Int) = 0 := by omega
  have h1 : (1 : Int) <= ((ws.length + 1 : Nat) : Int) := by omega
  simp only [go_sem, Tryd.ntmps36, hobj, nextS, List.map_cons, List.length_cons, List.length_map, h0, decide_false]
  have hn : D.nth (D.str w :: ws.map D.str) 0 = .str w := rfl
  have ht : (ws.map D.str).take (((ws.length + 1 : Nat) : Int) - 1).toNat = ws.map D.str := List.take_of_length_le (by rw [List.length_map]; omega)
  rw [hn, ht]
  refine ⟨by omega, h1, Int.le_refl _, ?_⟩
  refine post_resO (mv' := []) (.inl rfl) [.tmp 2] rfl (fun _ h => h) ?_
  simp only [go_sem]
  exact Le.refl _
end Go.AM
namespace Go.AM
open Go Go.Proofs
theorem call_ln {l : List (Nat × Contract)} {fn : Nat} {pre : List AV} (g : List Str × Bool -> AV × (List Str × Bool)) (hm : (fn, lnC pre g) ∈ l) {o : Nat} {ws : List Str} {f : Bool} {own : List Obj} {K : AV -> List Obj -> List Nat -> Prop} (hobj : own.getD o .dead = lineB ws f) (hl : ws.length <= 1000000)
  (h : K (g (ws, f)).1 (own.set o (lineB (g (ws, f)).2.1 (g (ws, f)).2.2)) []) : callw (tbl l) (.fn fn []) (.ptr o 0 0 :: pre) own K :=
 ⟨_, _, _, ⟨lnC pre g, hm, o, ws, f, by simp, hobj, hl, rfl, rfl, rfl⟩, h⟩
theorem own_lt {own : List Obj} {o : Nat} {cs : List AV} (h : own.getD o .dead = .box cs) : o < own.length := by
 rcases Nat.lt_or_ge o own.length with h' | h'
 ·exact h'
 ·rw [List.getD_eq_getElem?_getD, List.getElem?_eq_none h'] at h; cases h
theorem own_same {own : List Obj} {o : Nat} {x : Obj} (h : own.getD o .dead = x) (hl : o < own.length) : own.set o x = own := by
 rw [← h]; simp [List.getD_eq_getElem?_getD, List.getElem?_eq_getElem hl]
abbrev tabNx : List (Nat × Contract) := [(36, nextC)]
theorem tabNx_ok : OkG Tryd.prog (tbl tabNx) := okG_cons next_ok okG_nil
def protS (p : List Str × Bool) : Int × (List Str × Bool) :=
 if (nextS p).1 = [114] then (1, (nextS p).2) else if (nextS p).1 = [114, 119] then (3, (nextS p).2) else (0, ((nextS p).2.1, false))
theorem prot_ok : OkF Tryd.prog 39 (lnC [] fun p => (.dat (.int .i64 (protS p).1), (protS p).2)) := by
 refine okF_of_sem Tryd.func39 rfl (by decide) ?_
 rintro args own v own' mv ⟨o, ws, f, rfl, hobj, hl, rfl, rfl, rfl⟩
 have hlt := own_lt hobj
 have hset : ∀ x, (own.set o x).getD o .dead = x := fun x => by simp [List.getD_eq_getElem?_getD, hlt]
 refine sem_of_awp (Γ := tbl tabNx) tabNx_ok _ _ _ ?_
 simp only [go_sem, Tryd.ntmps39]
 refine call_ln (fun p => (.dat (.str (nextS p).1), (nextS p).2)) (by simp) hobj hl ?_
 generalize hN : nextS (ws, f) = N
 obtain ⟨w, ws', f'⟩ := N
 unfold protS
 simp only [hN]
 by_cases h1 : w = [114]
 ·subst h1
  simp only [go_sem, hset, eq_self, decide_true, if_true]
  refine post_resO (mv' := []) (.inl rfl) [.tmp 2] rfl (fun _ h => h) ?_
  simp only [go_sem]
  exact Le.refl _
 by_cases h2 : w = [114, 119]
 ·subst h2
  simp only [go_sem, hset, h1, eq_self, decide_true, decide_false, if_true, if_false]
  refine post_resO (mv' := []) (.inl rfl) [.tmp 2] rfl (fun _ h => h) ?_
  simp only [go_sem]
  exact Le.refl _
 simp only [go_sem, hset, h1, h2, decide_false, if_false, List.set_set]
 refine post_resO (mv' := []) (.inl rfl) [.tmp 2] rfl (fun _ h => h) ?_
 simp only [go_sem]
 exact Le.refl _
end Go.AM
namespace Go.AM
open Go Go.Proofs
def atS (w : Str) : List Str × Bool -> Bool × (List Str × Bool)
 | ([], f) => (false, ([], f))
 | (x :: r, f) => if x = w then (true, (r, f)) else (false, (x :: r, f))
theorem at_ok (w : Str) : OkF Tryd.prog 58 (lnC [.dat (.str w)] fun p => (.dat (.bool (atS w p).1), (atS w p).2)) := by
 refine okF_of_sem Tryd.func58 rfl (by decide) ?_
 rintro args own v own' mv ⟨o, ws, f, rfl, hobj, hl, rfl, rfl, rfl⟩
 have hlt := own_lt hobj
 have hsame := own_same hobj hlt
 refine sem_of_awp (Γ := tbl tabNx) tabNx_ok _ _ _ ?_
 cases ws with
 | nil =>
  simp only [go_sem, Tryd.ntmps58, hobj, atS, List.map_nil, List.length_nil, eq_self, decide_true]
  rw [hsame]
  refine post_resO (mv' := []) (.inl rfl) [.tmp 4] rfl (fun _ h => h) ?_
  simp only [go_sem]
  exact le_slots' (by simp only [go_sem])
 | cons x ws =>
  have h0 : ¬ ((ws.length + 1 : Nat) : Int) = 0 := by omega
  have h1 : (0 : Int) < ((ws.length + 1 : Nat) : Int) := by omega
  have hn : D.nth (D.str x :: ws.map D.str) 0 = .str x := rfl
  by_cases h : x = w
  ·subst h
   simp only [go_sem, Tryd.ntmps58, hobj, atS, List.map_cons, List.length_cons, List.length_map, h0, h1, hn, eq_self, decide_true, decide_false, if_true]
   refine call_ln (fun p => (.dat (.str (nextS p).1), (nextS p).2)) (by simp) hobj hl ?_
   simp only [go_sem, nextS]
   refine post_resO (mv' := []) (.inl rfl) [.tmp 4] rfl (fun _ h => h) ?_
   simp only [go_sem]
   exact le_slots' (by simp only [go_sem])
  ·simp only [go_sem, Tryd.ntmps58, hobj, atS, List.map_cons, List.length_cons, List.length_map, h0, h1, hn, h, decide_true, decide_false, if_false]
   rw [hsame]
   refine post_resO (mv' := []) (.inl rfl) [.tmp 4] rfl (fun _ h => h) ?_
   simp only [go_sem]
   exact le_slots' (by simp only [go_sem])
end Go.AM
namespace Go.AM
open Go Go.Proofs
def numS (p : List Str × Bool) : Int × (List Str × Bool) := if numN (nextS p).1 < 0 then (0, ((nextS p).2.1, false)) else (numN (nextS p).1, (nextS p).2)
theorem lnumber_ok : OkF Tryd.prog 38 (lnC [] fun p => (.dat (.int .i64 (numS p).1), (numS p).2)) := by
 refine okF_of_sem Tryd.func38 rfl (by decide) ?_
 rintro args own v own' mv ⟨o, ws, f, rfl, hobj, hl, rfl, rfl, rfl⟩
 have hlt0 := own_lt hobj
 have hset : ∀ x, (own.set o x).getD o .dead = x := fun x => by simp [List.getD_eq_getElem?_getD, hlt0]
 unfold numS
 generalize hN : nextS (ws, f) = N
 obtain ⟨s, ws', f'⟩ := N
 simp only [hN]
 refine sem_of_awpK [7] (Γ := tbl tabNx) tabNx_ok _ _ _ ?_
 simp only [go_sem, Tryd.ntmps38]
 refine call_ln (fun p => (.dat (.str (nextS p).1), (nextS p).2)) (by simp) hobj hl ?_
 simp only [hN]
 generalize hR : (if numN s < 0 then ((0 : Int), ws', false) else (numN s, ws', f')) = R
 have hbad : numN s = -1 -> R = (0, ws', false) := fun h => by rw [← hR, h]; rfl
 have hc48 : ∀ b : UInt8, ((b.toNat : Int) = 48) = (b = 48) := fun b => by
  apply propext
  constructor
  ·intro h
   have h' : b.toNat = 48 := by omega
   exact UInt8.toNat_inj.1 (by simpa using h')
  ·rintro rfl; rfl
 by_cases h1 : s.length < 1
 ·have h1' : (s.length : Int) < 1 := by omega
  simp only [go_sem, h1', decide_true, hset, List.set_set]
  rw [hbad (by simp only [numN, h1, true_or, if_true])]
  refine post_resO (mv' := []) (.inl rfl) [.tmp 2] rfl (fun _ h => h) ?_
  simp only [go_sem]
  exact le_slots' (by simp only [go_sem])
 have h1' : ¬ (s.length : Int) < 1 := by omega
 by_cases h2 : 3 < s.length
 ·have h2' : (3 : Int) < s.length := by omega
  simp only [go_sem, h1', h2', decide_true, decide_false, hset, List.set_set]
  rw [hbad (by simp only [numN, h2, true_or, or_true, if_true])]
  refine post_resO (mv' := []) (.inl rfl) [.tmp 2] rfl (fun _ h => h) ?_
  simp only [go_sem]
  exact le_slots' (by simp only [go_sem])
 have h2' : ¬ (3 : Int) < s.length := by omega
 have h00 : (0 : Int) < s.length := by omega
 have hV : ¬ (1 < s.length /\ s.getD 0 0 = 48) -> R = if s.all digc then (numF s, ws', f') else (0, ws', false) := fun h => by
  have hn : numN s = if s.all digc then numF s else -1 := by
   unfold numN
   exact if_neg (by simp only [h1, h2, h, or_self, not_false_eq_true])
  rw [← hR, hn]
  by_cases ha : s.all digc = true
  ·have := (numF_bound s (by omega) ha).1
   rw [if_pos ha, if_pos ha, if_neg (by omega)]
  ·rw [if_neg ha, if_neg ha]; rfl
 by_cases h4 : s.getD 0 0 = 48
 case' pos =>
  by_cases h3 : 1 < s.length
  ·have h3' : (1 : Int) < s.length := by omega
   simp only [go_sem, h1', h2', h3', h00, decide_true, decide_false, hc48, h4, hset, List.set_set]
   rw [hbad (by simp only [numN, h3, h4, and_self, or_true, if_true])]
   refine post_resO (mv' := []) (.inl rfl) [.tmp 2] rfl (fun _ h => h) ?_
   simp only [go_sem]
   exact le_slots' (by simp only [go_sem])
  have h3' : ¬ (1 : Int) < s.length := by omega
  have hne : ¬ (1 < s.length /\ s.getD 0 0 = 48) := fun h => h3 h.1
  simp only [go_sem, h1', h2', h3', h00, decide_true, decide_false, hc48, h4]
 case' neg =>
  have hne : ¬ (1 < s.length /\ s.getD 0 0 = 48) := fun h => h4 h.2
  simp only [go_sem, h1', h2', h00, decide_true, decide_false, hc48, h4]
 all_goals
  have hV' := hV hne
  refine sem_loop (fun k : Nat => ⟨slotsOf 57 [(0, .ptr o 0 0), (3, .dat (.str s)), (4, .dat (.int .i64 (numF (s.take k)))), (30, .dat (.int .i64 s.length)), (31, .dat (.int .i64 k))], own.set o (lineB ws' f'), own.length, []⟩)
   (fun k => k <= s.length /\ (s.take k).all digc = true) (fun k => s.length - k) 0 ⟨Nat.zero_le _, by simp⟩ ?_ ?_
  ·simp only [List.take_zero]
   exact le_slots' (by simp only [go_sem, numF, List.foldl_nil])
  rintro k ⟨hk, hall⟩
  refine sem_of_awp (Γ := tbl tabNx) tabNx_ok _ _ _ ?_
  by_cases hlt : k < s.length
  ·have k1 : (k : Int) < (s.length : Int) := by omega
   have k2 : (0 : Int) <= (k : Int) := by omega
   have htk : s.take (k + 1) = s.take k ++ [s.getD k 0] := by
    rw [List.take_succ_eq_append_getElem hlt, List.getD_eq_getElem?_getD, List.getElem?_eq_getElem hlt]; rfl
   have hb := numF_bound (s.take k) (by rw [List.length_take]; omega) hall
   have hmem : s.getD k 0 ∈ s := by rw [List.getD_eq_getElem?_getD, List.getElem?_eq_getElem hlt]; exact List.getElem_mem hlt
   by_cases d1 : ((s.getD k 0).toNat : Int) < 48
   ·simp only [go_sem, k1, k2, d1, decide_true, Int.toNat_natCast, hset, List.set_set]
    rw [hV', if_neg (fun ha => (digc_iff.1 (List.all_eq_true.1 ha _ hmem)).1 d1)]
    refine post_resO (mv' := []) (.inl rfl) [.tmp 2] rfl (fun _ h => h) ?_
    simp only [go_sem]
    exact le_slots' (by simp only [go_sem])
   by_cases d2 : (57 : Int) < ((s.getD k 0).toNat : Int)
   ·simp only [go_sem, k1, k2, d1, d2, decide_true, decide_false, Int.toNat_natCast, hset, List.set_set]
    rw [hV', if_neg (fun ha => (digc_iff.1 (List.all_eq_true.1 ha _ hmem)).2 d2)]
    refine post_resO (mv' := []) (.inl rfl) [.tmp 2] rfl (fun _ h => h) ?_
    simp only [go_sem]
    exact le_slots' (by simp only [go_sem])
   have hdg : digc (s.getD k 0) = true := digc_iff.2 ⟨d1, d2⟩
   simp only [go_sem, k1, k2, d1, d2, decide_true, decide_false, Int.toNat_natCast]
   have hw := wrap_u8 (n := ((s.getD k 0).toNat : Int) - 48) (by omega) (by omega)
   refine ⟨inR_i64.2 (by omega), ?_⟩
   simp only [go_sem, bin_sub8, hw]
   have hall' : (s.take (k + 1)).all digc = true := by rw [htk]; simp only [List.all_append, hall, List.all_cons, List.all_nil, hdg, Bool.and_self]
   refine ⟨inR_i64.2 (by omega), inR_i64.2 (by omega), inR_i64.2 (by omega), k + 1, ⟨by omega, hall'⟩, by omega, ?_⟩
   rw [htk, numF_snoc]
   exact le_slots' (by simp only [go_sem, Int.natCast_add, Int.natCast_one, Int.cast_ofNat_Int])
  ·have k1 : ¬ (k : Int) < (s.length : Int) := by omega
   have hke : k = s.length := by omega
   subst hke
   rw [List.take_length] at hall
   simp only [go_sem, k1, decide_false, List.take_length]
   rw [hV', if_pos hall]
   refine post_resO (mv' := []) (.inl rfl) [.tmp 2] rfl (fun _ h => h) ?_
   simp only [go_sem]
   exact le_slots' (by simp only [go_sem])
end Go.AM
namespace Go.AM
open Go Go.Proofs
def rprot (w : Str) : Int := if w = [114] then 1 else if w = [114, 119] then 3 else 0
theorem rprot_ok : OkF Tryd.prog 42 (dataC fun ds v => ∃ w : Str, ds = [.str w] /\ v = .dat (.int .i64 (rprot w))) := by
 refine okF_data Tryd.func42 rfl (by decide) ?_
 rintro ds v ⟨w, rfl, rfl⟩
 refine sem_of_awp (Γ := tbl []) okG_nil _ _ _ ?_
 unfold rprot
 by_cases h1 : w = [114]
 ·simp only [go_sem, Tryd.ntmps42, h1, eq_self, decide_true, if_true]
  exact post_data (.inl rfl) [2] rfl trivial rfl
 by_cases h2 : w = [114, 119]
 ·subst h2
  simp only [go_sem, Tryd.ntmps42, h1, eq_self, decide_true, decide_false, if_true, if_false]
  exact post_data (.inl rfl) [2] rfl trivial rfl
 simp only [go_sem, Tryd.ntmps42, h1, h2, decide_false, if_false]
 exact post_data (.inl rfl) [2] rfl trivial rfl
end Go.AM
namespace Go.AM
open Go Go.Proofs
def opW (w : Str) : Int × Int :=
 if w = [109, 97, 112] then (1, 4)
 else if w = [117, 110, 109, 97, 112] then (2, 3)
 else if w = [112, 114, 111, 116, 101, 99, 116] then (3, 4)
 else if w = [108, 111, 99, 107] then (4, 3)
 else if w = [117, 110, 108, 111, 99, 107] then (4, 3)
 else if w = [108, 111, 97, 100] then (5, 3)
 else if w = [115, 116, 111, 114, 101] then (6, 4)
 else if w = [114, 101, 97, 100] then (7, 4)
 else if w = [119, 114, 105, 116, 101] then (8, 5)
 else if w = [116, 114, 117, 110, 99, 97, 116, 101] then (9, 3)
 else if w = [115, 121, 110, 99] then (10, 2)
 else if w = [102, 111, 114, 107] then (11, 2)
 else if w = [101, 120, 105, 116] then (12, 1)
 else (0, 0)
theorem rop_ok : OkF Tryd.prog 40 (dataC fun ds v => ∃ w : Str, ds = [.str w] /\ v = .tup [.dat (.int .i64 (opW w).1), .dat (.int .i64 (opW w).2)]) := by
 refine okF_data Tryd.func40 rfl (by decide) ?_
 rintro ds v ⟨w, rfl, rfl⟩
 refine sem_of_awp (Γ := tbl []) okG_nil _ _ _ ?_
 by_cases h0 : w = [109, 97, 112]
 ·subst h0
  simp only [go_sem, Tryd.ntmps40, eq_self, decide_true]
  refine post_resO (mv' := []) (.inl rfl) [.tmp 2, .tmp 3] rfl (fun _ h => h) ?_
  simp only [go_sem]
  exact le_fin (by rfl) (by simp only [AV.under, AV.unders, and_self])
 by_cases h1 : w = [117, 110, 109, 97, 112]
 ·subst h1
  simp only [go_sem, Tryd.ntmps40, h0, eq_self, decide_true, decide_false]
  refine post_resO (mv' := []) (.inl rfl) [.tmp 2, .tmp 3] rfl (fun _ h => h) ?_
  simp only [go_sem]
  exact le_fin (by rfl) (by simp only [AV.under, AV.unders, and_self])
 by_cases h2 : w = [112, 114, 111, 116, 101, 99, 116]
 ·subst h2
  simp only [go_sem, Tryd.ntmps40, h0, h1, eq_self, decide_true, decide_false]
  refine post_resO (mv' := []) (.inl rfl) [.tmp 2, .tmp 3] rfl (fun _ h => h) ?_
  simp only [go_sem]
  exact le_fin (by rfl) (by simp only [AV.under, AV.unders, and_self])
 by_cases h3 : w = [108, 111, 99, 107]
 ·subst h3
  simp only [go_sem, Tryd.ntmps40, h0, h1, h2, eq_self, decide_true, decide_false]
  refine post_resO (mv' := []) (.inl rfl) [.tmp 2, .tmp 3] rfl (fun _ h => h) ?_
  simp only [go_sem]
  exact le_fin (by rfl) (by simp only [AV.under, AV.unders, and_self])
 by_cases h4 : w = [117, 110, 108, 111, 99, 107]
 ·subst h4
  simp only [go_sem, Tryd.ntmps40, h0, h1, h2, h3, eq_self, decide_true, decide_false]
  refine post_resO (mv' := []) (.inl rfl) [.tmp 2, .tmp 3] rfl (fun _ h => h) ?_
  simp only [go_sem]
  exact le_fin (by rfl) (by simp only [AV.under, AV.unders, and_self])
 by_cases h5 : w = [108, 111, 97, 100]
 ·subst h5
  simp only [go_sem, Tryd.ntmps40, h0, h1, h2, h3, h4, eq_self, decide_true, decide_false]
  refine post_resO (mv' := []) (.inl rfl) [.tmp 2, .tmp 3] rfl (fun _ h => h) ?_
  simp only [go_sem]
  exact le_fin (by rfl) (by simp only [AV.under, AV.unders, and_self])
 by_cases h6 : w = [115, 116, 111, 114, 101]
 ·subst h6
  simp only [go_sem, Tryd.ntmps40, h0, h1, h2, h3, h4, h5, eq_self, decide_true, decide_false]
  refine post_resO (mv' := []) (.inl rfl) [.tmp 2, .tmp 3] rfl (fun _ h => h) ?_
  simp only [go_sem]
  exact le_fin (by rfl) (by simp only [AV.under, AV.unders, and_self])
 by_cases h7 : w = [114, 101, 97, 100]
 ·subst h7
  simp only [go_sem, Tryd.ntmps40, h0, h1, h2, h3, h4, h5, h6, eq_self, decide_true, decide_false]
  refine post_resO (mv' := []) (.inl rfl) [.tmp 2, .tmp 3] rfl (fun _ h => h) ?_
  simp only [go_sem]
  exact le_fin (by rfl) (by simp only [AV.under, AV.unders, and_self])
 by_cases h8 : w = [119, 114, 105, 116, 101]
 ·subst h8
  simp only [go_sem, Tryd.ntmps40, h0, h1, h2, h3, h4, h5, h6, h7, eq_self, decide_true, decide_false]
  refine post_resO (mv' := []) (.inl rfl) [.tmp 2, .tmp 3] rfl (fun _ h => h) ?_
  simp only [go_sem]
  exact le_fin (by rfl) (by simp only [AV.under, AV.unders, and_self])
 by_cases h9 : w = [116, 114, 117, 110, 99, 97, 116, 101]
 ·subst h9
  simp only [go_sem, Tryd.ntmps40, h0, h1, h2, h3, h4, h5, h6, h7, h8, eq_self, decide_true, decide_false]
  refine post_resO (mv' := []) (.inl rfl) [.tmp 2, .tmp 3] rfl (fun _ h => h) ?_
  simp only [go_sem]
  exact le_fin (by rfl) (by simp only [AV.under, AV.unders, and_self])
 by_cases h10 : w = [115, 121, 110, 99]
 ·subst h10
  simp only [go_sem, Tryd.ntmps40, h0, h1, h2, h3, h4, h5, h6, h7, h8, h9, eq_self, decide_true, decide_false]
  refine post_resO (mv' := []) (.inl rfl) [.tmp 2, .tmp 3] rfl (fun _ h => h) ?_
  simp only [go_sem]
  exact le_fin (by rfl) (by simp only [AV.under, AV.unders, and_self])
 by_cases h11 : w = [102, 111, 114, 107]
 ·subst h11
  simp only [go_sem, Tryd.ntmps40, h0, h1, h2, h3, h4, h5, h6, h7, h8, h9, h10, eq_self, decide_true, decide_false]
  refine post_resO (mv' := []) (.inl rfl) [.tmp 2, .tmp 3] rfl (fun _ h => h) ?_
  simp only [go_sem]
  exact le_fin (by rfl) (by simp only [AV.under, AV.unders, and_self])
 by_cases h12 : w = [101, 120, 105, 116]
 ·subst h12
  simp only [go_sem, Tryd.ntmps40, h0, h1, h2, h3, h4, h5, h6, h7, h8, h9, h10, h11, eq_self, decide_true, decide_false]
  refine post_resO (mv' := []) (.inl rfl) [.tmp 2, .tmp 3] rfl (fun _ h => h) ?_
  simp only [go_sem]
  exact le_fin (by rfl) (by simp only [AV.under, AV.unders, and_self])
 have hw : opW w = (0, 0) := by simp only [opW, h0, h1, h2, h3, h4, h5, h6, h7, h8, h9, h10, h11, h12, if_false]
 rw [hw]
 simp only [go_sem, Tryd.ntmps40, h0, h1, h2, h3, h4, h5, h6, h7, h8, h9, h10, h11, h12, decide_false]
 refine post_resO (mv' := []) (.inl rfl) [.tmp 2, .tmp 3] rfl (fun _ h => h) ?_
 simp only [go_sem]
 exact le_fin (by rfl) (by simp only [AV.under, AV.unders, and_self])
end Go.AM

