/- Own work over the model of the kit. -/
import Derived.Test.YtaecgpgkfajfjaaGreatDoorP12
import Derived.Test.YtaecgpgkfajfjaaGreatDoorP23
import Derived.Test.YtaecgpgkfajfjaaGreatDoorP19
import Derived.Test.YtaecgpgkfajfjaaGreatDoorP18
set_option linter.unnecessarySimpa false
set_option linter.unusedSimpArgs false
set_option linter.unusedVariables false
set_option maxHeartbeats 8000000
set_option maxRecDepth 100000
namespace Go.AM
open Go
section
variable {P:Program}
def litRX(v v0:Value):Prop:=v=v0∨(∃q n n0,v=.int q n/\v0=.int q n0/\inR q n)∨(∃a b,v=.bool a/\v0=.bool b)∨∃s s0,v=.string s/\v0=.string s0/\s.size<=maxLen
def litsRX(cs cs0:List Value):Prop:=cs.length=cs0.length/\∀(i:Nat) (v v0:Value),cs[i]?=some v->cs0[i]?=some v0->litRX v v0
theorem litsR_dropX{cs cs0:List Value}(k:Nat)(h:litsRX cs cs0):litsRX (cs.drop k) (cs0.drop k) :=
 ⟨by simp[h.1],fun i v v0 h1 h2=>h.2 (k+i) v v0 (by simpa using h1) (by simpa using h2)⟩
theorem litsR_takeX{cs cs0:List Value}(k:Nat)(h:litsRX cs cs0):litsRX (cs.take k) (cs0.take k) :=
 ⟨by simp[h.1],fun i v v0 h1 h2=>by
  rw[List.getElem?_take]at h1 h2
  split at h1
  ·rename_i hk
   rw[if_pos hk]at h2
   exact h.2 i v v0 h1 h2
  ·cases h1⟩
theorem litsR_nilX:litsRX [] []:=⟨rfl,fun i v v0 h=>by simp at h⟩
theorem litsR_consX{v v0:Value}{cs cs0:List Value}(h:litRX v v0)(hs:litsRX cs cs0):litsRX (v :: cs) (v0 :: cs0) :=
 ⟨by simp[hs.1],fun i a b h1 h2=>by
  cases i with
  | zero=>simp only[List.getElem?_cons_zero,Option.some.injEq]at h1 h2;subst h1 h2;exact h
  | succ i=>exact hs.2 i a b (by simpa using h1) (by simpa using h2)⟩
theorem litR_intX{q:IntKind}{n n0:Int}(h:inR q n):litRX (.int q n) (.int q n0):=.inr (.inl ⟨q,n,n0,rfl,rfl,h⟩)
theorem keyLits_monoX:∀(d:Nat) (t:TypeId) (cs cs0:List Value),litsRX cs cs0->(P.keyLits d t cs0).isSome=true->(P.keyLits d t cs).isSome=true
 | 0,_,_,_,_,h=>h
 | d+1,t,cs,cs0,hr,h=>by
  have one:∀v0,cs0=[v0]->∃v,cs=[v]/\litRX v v0:=fun v0 e=>by
   subst e
   match cs,hr with
   | [v],hr=>exact⟨v,rfl,hr.2 0 v v0 rfl rfl⟩
   | [],hr=>exact absurd hr.1 (by simp)
   | _ :: _ :: _,hr=>exact absurd hr.1 (by simp)
  unfold Program.keyLits at h ⊢
  split at h
  ·rename_i b hu
   obtain⟨v,rfl,hv⟩:=one _ rfl
   rcases hv with rfl|⟨q,n,n0,rfl,h0,_⟩|⟨a,b,rfl,h0⟩|⟨s,s0,rfl,h0,_⟩
   ·rw[hu];rfl
   ·cases h0
   ·rw[hu];rfl
   ·cases h0
  ·rename_i q q' n hu
   obtain⟨v,rfl,hv⟩:=one _ rfl
   rcases hv with rfl|⟨q2,n2,n0,rfl,h0,hw⟩|⟨a,b,rfl,h0⟩|⟨s,s0,rfl,h0,_⟩
   ·rw[hu];exact h
   ·injection h0 with e1 e2
    subst e1
    rw[hu]
    simp only
    split at h
    ·rename_i hc
     rw[if_pos ⟨hc.1,hc.1 ▸ hw⟩];rfl
    ·cases h
   ·cases h0
   ·cases h0
  ·rename_i s hu
   obtain⟨v,rfl,hv⟩:=one _ rfl
   rcases hv with rfl|⟨q,n,n0,rfl,h0,_⟩|⟨a,b,rfl,h0⟩|⟨s2,s0,rfl,h0,hs⟩
   ·rw[hu];exact h
   ·cases h0
   ·cases h0
   ·rw[hu]
    simp only
    rw[if_pos hs];rfl
  ·rename_i n e hu
   rw[hu]
   simp only
   split at h
   ·rename_i hl
    rw[if_pos (by rw[hr.1];exact hl)]
    rw[Option.isSome_map]at h ⊢
    exact mapM_mono (fun i _ hi=>keyLits_monoX d e _ _ (litsR_takeX _ (litsR_dropX _ hr)) hi) h
   ·cases h
  ·rename_i fs hu
   rw[hu]
   simp only
   split at h
   ·rename_i hl
    rw[if_pos ⟨by rw[hr.1];exact hl.1,hl.2⟩]
    rw[Option.isSome_map]at h ⊢
    exact mapM_mono (fun i _ hi=>keyLits_monoX d _ _ _ (litsR_takeX _ (litsR_dropX _ hr)) hi) h
   ·cases h
  ·cases h
theorem keyOf_monoX{t:TypeId}{cs cs0:List Value}(hr:litsRX cs cs0)(h:(keyOf P t (.agg cs0.toArray)).isSome=true):(keyOf P t (.agg cs.toArray)).isSome=true:=by
 have hf:Value.formed P t (.agg cs.toArray)=Value.formed P t (.agg cs0.toArray):=by
  simp only[Value.formed,List.size_toArray,hr.1]
 unfold keyOf at h ⊢
 split at h
 ·rw[hf]
  split at h
  ·rename_i hc
   simp only[hc,if_true]at h ⊢
   rw[Option.isSome_map]at h ⊢
   exact keyLits_monoX _ _ _ _ (by simpa [Value.cells] using hr) (by simpa [Value.cells] using h)
  ·cases h
 ·rw[hf]
  split at h
  ·rename_i hc
   simp only[hc,if_true]at h ⊢
   rw[Option.isSome_map]at h ⊢
   exact keyLits_monoX _ _ _ _ (by simpa [Value.cells] using hr) (by simpa [Value.cells] using h)
  ·cases h
 ·unfold mapKey at h ⊢
  split at h <;> simp_all
def fldsD:List D->List D->Prop
 | [],[]=>True
 | .int q n :: r,.int q0 n0 :: r0=>q=q0/\inR q n/\fldsD r r0
 | .bool _ :: r,.bool _ :: r0=>fldsD r r0
 | .str s :: r,.str _ :: r0=>s.length<=maxLen/\fldsD r r0
 | _,_=>False
theorem fldsD_R:∀{aa bs:List D},fldsD aa bs->litsRX (aa.map D.val) (bs.map D.val)
 | [],[],_=>litsR_nilX
 | .int q n :: r,.int q0 n0 :: r0,h=>by
  obtain⟨rfl,h1,h2⟩:=h
  exact litsR_consX (litR_intX h1) (fldsD_R h2)
 | .bool a :: r,.bool b :: r0,h=>litsR_consX (.inr (.inr (.inl ⟨a,b,rfl,rfl⟩))) (fldsD_R (aa:=r) (bs:=r0) h)
 | .str s :: r,.str s0 :: r0,h=>litsR_consX (.inr (.inr (.inr ⟨_,_,rfl,rfl,by show s.toArray.size<=maxLen;simpa using h.1⟩))) (fldsD_R h.2)
theorem fldsD_flats:∀{aa bs:List D},fldsD aa bs->D.flats aa=true
 | [],[],_=>rfl
 | .int q n :: r,.int q0 n0 :: r0,h=>by
  obtain⟨rfl,h1,h2⟩:=h
  simp only[D.flats,D.flat,fldsD_flats h2,Bool.true_and]
 | .bool a :: r,.bool b :: r0,h=>by
  have h:fldsD r r0:=h
  simp only[D.flats,D.flat,fldsD_flats h,Bool.true_and]
 | .str s :: r,.str s0 :: r0,h=>by simp only[D.flats,D.flat,fldsD_flats h.2,Bool.true_and]
theorem eqOk_ofF{t:TypeId}{aa bs aa0 bs0:List D}(h0:eqOk P t (.dat (.agg aa0)) (.dat (.agg bs0))=true)(ha:fldsD aa aa0)(hb:fldsD bs bs0):eqOk P t (.dat (.agg aa)) (.dat (.agg bs))=true:=by
 simp only[eqOk,Bool.and_eq_true]at h0 ⊢
 obtain⟨h1,h2,h3,h4,h5,h6⟩:=h0
 exact⟨h1,fldsD_flats ha,fldsD_flats hb,keyOf_monoX (fldsD_R ha) h4,keyOf_monoX (fldsD_R hb) h5,h6⟩
theorem bin_neq_aggF{t:TypeId}{aa bs aa0 bs0:List D}{K:AV->Prop}(h0:eqOk P t (.dat (.agg aa0)) (.dat (.agg bs0))=true)(ha:fldsD aa aa0)(hb:fldsD bs bs0) :
  binTop P .neq t (.dat (.agg aa)) (.dat (.agg bs)) K=K (.dat (.bool (!D.flatEqs aa bs))):=by
 unfold binTop
 rw[eqOk_ofF h0 ha hb]
 simp[binw]
end
end Go.AM
namespace Go.AM
open Go Go.Proofs
def PPool.fk(p:PPool):Prop:=p.name.length<=maxLen/\inR .i64 p.size/\inR .i64 p.res
abbrev poolL0:List D:=[.str [],.int .i64 0,.int .i64 0]
theorem poolEq0:eqOk Tryz.prog 50 (.dat (.agg poolL0)) (.dat (.agg poolL0))=true:=by kernel_rfl
theorem flat_pool(x y:PPool):D.flatEqs [.str x.name,.int .i64 x.size,.int .i64 x.res] [.str y.name,.int .i64 y.size,.int .i64 y.res]=decide (x=y):=by
 cases x;cases y
 simp only[D.flatEqs,D.flatEq,Bool.and_true,PPool.mk.injEq]
 simp only[Bool.decide_and,beq_self_eq_true,Bool.true_and,decide_true,← Bool.beq_eq_decide_eq]
theorem bin_neq_pool{x y:PPool}{K:AV->Prop}(hx:x.fk)(hy:y.fk):binTop Tryz.prog .neq 50 (.dat (poolD x)) (.dat (poolD y)) K=K (.dat (.bool (!decide (x=y)))):=by
 have:=bin_neq_aggF (K:=K) (aa:=[.str x.name,.int .i64 x.size,.int .i64 x.res]) (bs:=[.str y.name,.int .i64 y.size,.int .i64 y.res]) poolEq0 ⟨hx.1,rfl,hx.2.1,rfl,hx.2.2,trivial⟩ ⟨hy.1,rfl,hy.2.1,rfl,hy.2.2,trivial⟩
 rw[flat_pool]at this
 exact this
abbrev stepL0:List D:=[.int .i64 0,.int .i64 0,.int .i64 0,.bool false]
theorem stepEq0:eqOk Tryz.prog 65 (.dat (.agg stepL0)) (.dat (.agg stepL0))=true:=by kernel_rfl
theorem flat_step(x y:PStep):D.flatEqs [.int .i64 x.kind,.int .i64 x.on,.int .i64 x.cnt,.bool x.deep] [.int .i64 y.kind,.int .i64 y.on,.int .i64 y.cnt,.bool y.deep]=decide (x=y):=by
 cases x;cases y
 simp only[D.flatEqs,D.flatEq,Bool.and_true,PStep.mk.injEq]
 simp only[Bool.decide_and,beq_self_eq_true,Bool.true_and,decide_true,← Bool.beq_eq_decide_eq]
theorem bin_neq_step{x y:PStep}{K:AV->Prop}(hx:x.ok)(hy:y.ok):binTop Tryz.prog .neq 65 (.dat (stepD x)) (.dat (stepD y)) K=K (.dat (.bool (!decide (x=y)))):=by
 have:=bin_neq_aggF (K:=K) (aa:=[.int .i64 x.kind,.int .i64 x.on,.int .i64 x.cnt,.bool x.deep]) (bs:=[.int .i64 y.kind,.int .i64 y.on,.int .i64 y.cnt,.bool y.deep]) stepEq0 ⟨rfl,hx.1,rfl,hx.2.1,rfl,hx.2.2,trivial⟩ ⟨rfl,hy.1,rfl,hy.2.1,rfl,hy.2.2,trivial⟩
 rw[flat_step]at this
 exact this
def eqPR(ds:List D)(v:AV):Prop:=∃a b:List PPool,ds=[.sl (some 3) (a.map poolD),.sl (some 3) (b.map poolD)]/\a.length<=1000000/\(∀x∈a,x.fk)/\(∀x∈b,x.fk)/\v=.dat (.bool (decide (a=b)))
theorem eqPool_ok:OkF Tryz.prog 62 (dataC eqPR):=by
 refine okF_data Tryz.func62 rfl (by decide) ?_
 rintro ds v ⟨a,b,rfl,hal,ha,hb,rfl⟩
 refine sem_of_awp (Γ:=tbl []) okG_nil _ _ _ ?_
 by_cases hl:a.length=b.length
 ·have hl':(a.length:Int)=(b.length:Int):=by omega
  simp only[go_sem,Tryz.ntmps62,List.length_map,hl',eq_self,decide_true,Bool.not_true]
  refine sem_loop (fun k:Nat=>⟨slotsOf 26 [(0,.dat (.sl (some 3) (a.map poolD))),(1,.dat (.sl (some 3) (b.map poolD))),(12,.dat (.int .i64 b.length)),(13,.dat (.int .i64 k))],[],0,[]⟩)
   (fun k=>k<=a.length/\a.take k=b.take k) (fun k=>a.length - k) 0 ⟨Nat.zero_le _,rfl⟩ ?_ ?_
  ·exact le_slots' (by simp only[go_sem,Int.natCast_zero])
  rintro k ⟨hk,hI⟩
  refine sem_of_awp (Γ:=tbl []) okG_nil _ _ _ ?_
  cases hd:a.drop k with
  | nil =>
   have hke:=end_of_drop hd hk
   have k1:¬(k:Int)<(b.length:Int):=by omega
   have he:a=b:=by
    rw[List.take_of_length_le (by omega),List.take_of_length_le (by omega)]at hI
    exact hI
   rw[decide_eq_true he]
   simp only[go_sem,k1,decide_false]
   exact post_data (.inl rfl) [4] rfl trivial rfl
  | cons x r =>
   have hlt:=lt_of_drop hd
   cases hd2:b.drop k with
   | nil=>have:=nil_of_drop hd2;omega
   | cons y q =>
    have k1:(k:Int)<(b.length:Int):=by omega
    have hx:D.nth (a.map poolD) k=poolD x:=nth_of_drop hd
    have hy:D.nth (b.map poolD) k=poolD y:=nth_of_drop hd2
    simp only[go_sem,k1,decide_true]
    refine sem_drawU [] [] (pf:=[]) (mf:=[]) mixed okG_nil pureNo growNo noMk (ones [0,1,2,3,4,5,6,7,8]) (by kernel_rfl) ?_
    simp only[go_sem,k1,hl',decide_true,List.length_map,Int.toNat_natCast,hx,hy,bin_neq_pool (ha x (mem_of_drop hd)) (hb y (mem_of_drop hd2))]
    by_cases he:x=y
    ·simp only[go_sem,he,eq_self,decide_true,Bool.not_true]
     refine⟨inR_i64.2 (by omega),k+1,⟨by omega,?_⟩,by omega,le_slots' (by simp only[go_sem,Int.natCast_add,Int.cast_ofNat_Int])⟩
     rw[take_of_drop hd,take_of_drop hd2,hI,he]
    ·have hne:¬a=b:=fun h=>by
      rw[h,hd2]at hd
      exact he (List.cons.inj hd).1.symm
     rw[decide_eq_false hne]
     simp only[go_sem,he,decide_false,Bool.not_false]
     exact post_data (.inl rfl) [4] rfl trivial rfl
 ·have hl':¬(a.length:Int)=(b.length:Int):=by omega
  have hne:¬a=b:=fun h=>hl (by rw[h])
  rw[decide_eq_false hne]
  simp only[go_sem,Tryz.ntmps62,List.length_map,hl',decide_false,Bool.not_false]
  exact post_data (.inl rfl) [4] rfl trivial rfl
def eqSR(ds:List D)(v:AV):Prop:=∃a b:List Str,ds=[.sl none (a.map D.str),.sl none (b.map D.str)]/\a.length<=1000000/\(∀x∈a,True)/\(∀x∈b,True)/\v=.dat (.bool (decide (a=b)))
theorem eqStr_ok:OkF Tryz.prog 63 (dataC eqSR):=by
 refine okF_data Tryz.func63 rfl (by decide) ?_
 rintro ds v ⟨a,b,rfl,hal,ha,hb,rfl⟩
 refine sem_of_awp (Γ:=tbl []) okG_nil _ _ _ ?_
 by_cases hl:a.length=b.length
 ·have hl':(a.length:Int)=(b.length:Int):=by omega
  simp only[go_sem,Tryz.ntmps63,List.length_map,hl',eq_self,decide_true,Bool.not_true]
  refine sem_loop (fun k:Nat=>⟨slotsOf 26 [(0,.dat (.sl none (a.map D.str))),(1,.dat (.sl none (b.map D.str))),(12,.dat (.int .i64 b.length)),(13,.dat (.int .i64 k))],[],0,[]⟩)
   (fun k=>k<=a.length/\a.take k=b.take k) (fun k=>a.length - k) 0 ⟨Nat.zero_le _,rfl⟩ ?_ ?_
  ·exact le_slots' (by simp only[go_sem,Int.natCast_zero])
  rintro k ⟨hk,hI⟩
  refine sem_of_awp (Γ:=tbl []) okG_nil _ _ _ ?_
  cases hd:a.drop k with
  | nil =>
   have hke:=end_of_drop hd hk
   have k1:¬(k:Int)<(b.length:Int):=by omega
   have he:a=b:=by
    rw[List.take_of_length_le (by omega),List.take_of_length_le (by omega)]at hI
    exact hI
   rw[decide_eq_true he]
   simp only[go_sem,k1,decide_false]
   exact post_data (.inl rfl) [4] rfl trivial rfl
  | cons x r =>
   have hlt:=lt_of_drop hd
   cases hd2:b.drop k with
   | nil=>have:=nil_of_drop hd2;omega
   | cons y q =>
    have k1:(k:Int)<(b.length:Int):=by omega
    have hx:D.nth (a.map D.str) k=D.str x:=nth_of_drop hd
    have hy:D.nth (b.map D.str) k=D.str y:=nth_of_drop hd2
    simp only[go_sem,k1,decide_true]
    refine sem_drawU [] [] (pf:=[]) (mf:=[]) mixed okG_nil pureNo growNo noMk (ones [0,1,2,3,4,5,6,7,8]) (by kernel_rfl) ?_
    simp only[go_sem,k1,hl',decide_true,List.length_map,Int.toNat_natCast,hx,hy]
    by_cases he:x=y
    ·simp only[go_sem,he,eq_self,decide_true,Bool.not_true]
     refine⟨inR_i64.2 (by omega),k+1,⟨by omega,?_⟩,by omega,le_slots' (by simp only[go_sem,Int.natCast_add,Int.cast_ofNat_Int])⟩
     rw[take_of_drop hd,take_of_drop hd2,hI,he]
    ·have hne:¬a=b:=fun h=>by
      rw[h,hd2]at hd
      exact he (List.cons.inj hd).1.symm
     rw[decide_eq_false hne]
     simp only[go_sem,he,decide_false,Bool.not_false]
     exact post_data (.inl rfl) [4] rfl trivial rfl
 ·have hl':¬(a.length:Int)=(b.length:Int):=by omega
  have hne:¬a=b:=fun h=>hl (by rw[h])
  rw[decide_eq_false hne]
  simp only[go_sem,Tryz.ntmps63,List.length_map,hl',decide_false,Bool.not_false]
  exact post_data (.inl rfl) [4] rfl trivial rfl
def eqTR(ds:List D)(v:AV):Prop:=∃a b:List PStep,ds=[.sl (some 4) (a.map stepD),.sl (some 4) (b.map stepD)]/\a.length<=1000000/\(∀x∈a,x.ok)/\(∀x∈b,x.ok)/\v=.dat (.bool (decide (a=b)))
theorem eqStep_ok:OkF Tryz.prog 66 (dataC eqTR):=by
 refine okF_data Tryz.func66 rfl (by decide) ?_
 rintro ds v ⟨a,b,rfl,hal,ha,hb,rfl⟩
 refine sem_of_awp (Γ:=tbl []) okG_nil _ _ _ ?_
 by_cases hl:a.length=b.length
 ·have hl':(a.length:Int)=(b.length:Int):=by omega
  simp only[go_sem,Tryz.ntmps66,List.length_map,hl',eq_self,decide_true,Bool.not_true]
  refine sem_loop (fun k:Nat=>⟨slotsOf 26 [(0,.dat (.sl (some 4) (a.map stepD))),(1,.dat (.sl (some 4) (b.map stepD))),(12,.dat (.int .i64 b.length)),(13,.dat (.int .i64 k))],[],0,[]⟩)
   (fun k=>k<=a.length/\a.take k=b.take k) (fun k=>a.length - k) 0 ⟨Nat.zero_le _,rfl⟩ ?_ ?_
  ·exact le_slots' (by simp only[go_sem,Int.natCast_zero])
  rintro k ⟨hk,hI⟩
  refine sem_of_awp (Γ:=tbl []) okG_nil _ _ _ ?_
  cases hd:a.drop k with
  | nil =>
   have hke:=end_of_drop hd hk
   have k1:¬(k:Int)<(b.length:Int):=by omega
   have he:a=b:=by
    rw[List.take_of_length_le (by omega),List.take_of_length_le (by omega)]at hI
    exact hI
   rw[decide_eq_true he]
   simp only[go_sem,k1,decide_false]
   exact post_data (.inl rfl) [4] rfl trivial rfl
  | cons x r =>
   have hlt:=lt_of_drop hd
   cases hd2:b.drop k with
   | nil=>have:=nil_of_drop hd2;omega
   | cons y q =>
    have k1:(k:Int)<(b.length:Int):=by omega
    have hx:D.nth (a.map stepD) k=stepD x:=nth_of_drop hd
    have hy:D.nth (b.map stepD) k=stepD y:=nth_of_drop hd2
    simp only[go_sem,k1,decide_true]
    refine sem_drawU [] [] (pf:=[]) (mf:=[]) mixed okG_nil pureNo growNo noMk (ones [0,1,2,3,4,5,6,7,8]) (by kernel_rfl) ?_
    simp only[go_sem,k1,hl',decide_true,List.length_map,Int.toNat_natCast,hx,hy,bin_neq_step (ha x (mem_of_drop hd)) (hb y (mem_of_drop hd2))]
    by_cases he:x=y
    ·simp only[go_sem,he,eq_self,decide_true,Bool.not_true]
     refine⟨inR_i64.2 (by omega),k+1,⟨by omega,?_⟩,by omega,le_slots' (by simp only[go_sem,Int.natCast_add,Int.cast_ofNat_Int])⟩
     rw[take_of_drop hd,take_of_drop hd2,hI,he]
    ·have hne:¬a=b:=fun h=>by
      rw[h,hd2]at hd
      exact he (List.cons.inj hd).1.symm
     rw[decide_eq_false hne]
     simp only[go_sem,he,decide_false,Bool.not_false]
     exact post_data (.inl rfl) [4] rfl trivial rfl
 ·have hl':¬(a.length:Int)=(b.length:Int):=by omega
  have hne:¬a=b:=fun h=>hl (by rw[h])
  rw[decide_eq_false hne]
  simp only[go_sem,Tryz.ntmps66,List.length_map,hl',decide_false,Bool.not_false]
  exact post_data (.inl rfl) [4] rfl trivial rfl
def PCls.fk(c:PCls):Prop:=c.steps.length<=1000000/\∀x∈c.steps,x.ok
structure PSys.fk (s:PSys):Prop where
 np:s.pools.length<=1000000
 nl:s.locks.length<=1000000
 nc:s.classes.length<=1000000
 p:∀p∈s.pools,p.fk
 c:∀c∈s.classes,c.fk
def eqCR(ds:List D)(v:AV):Prop:=∃x y:PCls,ds=[clsD x,clsD y]/\x.fk/\y.fk/\v=.dat (.bool (decide (x=y)))
abbrev tabSm1:List (Nat×Contract):=[(66,dataC eqTR)]
theorem tabSm1_ok:OkG Tryz.prog (tbl tabSm1):=okG_cons eqStep_ok okG_nil
theorem same1_ok:OkF Tryz.prog 65 (dataC eqCR):=by
 refine okF_data Tryz.func65 rfl (by decide) ?_
 rintro ds v ⟨x,y,rfl,hx,hy,rfl⟩
 obtain⟨n,w,b,l⟩:=x
 obtain⟨n2,w2,b2,l2⟩:=y
 refine sem_of_awp (Γ:=tbl tabSm1) tabSm1_ok _ _ _ ?_
 have fin:∀sl own (t t':Bool),t=t'->sl.getD 4 .top=.dat (.bool t)->post Tryz.prog Tryz.f65 (.dat (.bool t')) [] [] .ret ⟨sl,own,0,[]⟩:=fun sl own t t' e h=>by
  subst e
  exact post_data (.inl rfl) [4] rfl trivial (by simp only[tmpsOf,h];rfl)
 by_cases h1:n=n2
 ·by_cases h2:w=w2
  ·by_cases h3:b=b2
   ·have h3b:(b == b2)=true:=by simp[h3]
    simp only[go_sem,Tryz.ntmps65,clsD,stepsD,eq_true h1,eq_true h2,h3b,decide_true]
    refine call_data eqTR (mem_ix 0 rfl) [stepsD l,stepsD l2] _ rfl ⟨l,l2,rfl,hx.1,hx.2,hy.2,rfl⟩ (.inl rfl) ?_
    simp only[go_sem]
    refine fin _ _ _ _ ?_ rfl
    simp[h1,h2,h3]
   ·have h3b:(b == b2)=false:=by simp[h3]
    simp only[go_sem,Tryz.ntmps65,clsD,stepsD,eq_true h1,eq_true h2,h3b,decide_true,decide_false]
    refine fin _ _ _ _ ?_ rfl
    simp[h3]
  ·simp only[go_sem,Tryz.ntmps65,clsD,stepsD,eq_true h1,eq_false h2,decide_true,decide_false]
   refine fin _ _ _ _ ?_ rfl
   simp[h2]
 ·simp only[go_sem,Tryz.ntmps65,clsD,stepsD,eq_false h1,decide_false]
  refine fin _ _ _ _ ?_ rfl
  simp[h1]
def eqLR(aa:List AV)(obs:List Obj)(v0:AV)(obs' ex:List Obj)(mv0:List Nat):Prop:=∃a b:List PCls,aa=[.dat (.sl (some 4) (a.map clsD)),.dat (.sl (some 4) (b.map clsD)),.fn 65 []]/\a.length<=1000000/\(∀x∈a,x.fk)/\(∀x∈b,x.fk)/\obs=[]/\v0=.dat (.bool (decide (a=b)))/\obs'=[]/\ex=[]/\mv0=[]
abbrev tabSm2:List (Nat×Contract):=[(65,dataC eqCR)]
theorem tabSm2_ok:OkG Tryz.prog (tbl tabSm2):=okG_cons same1_ok okG_nil
theorem eqFunc_ok:OkF Tryz.prog 64 (lentC eqLR):=by
 refine okF_lent Tryz.func64 rfl (by decide) ?_
 rintro aa obs v0 obs' ex mv0 ⟨a,b,rfl,hal,ha,hb,rfl,rfl,rfl,rfl,rfl⟩
 refine sem_of_awp (Γ:=tbl tabSm2) tabSm2_ok _ _ _ ?_
 have fin:∀sl own (t t':Bool),t=t'->sl.getD 6 .top=.dat (.bool t)->post Tryz.prog Tryz.f64 (.dat (.bool t')) ([]++[]) [] .ret ⟨sl,own,0,[]⟩:=fun sl own t t' e h=>by
  subst e
  exact post_data (.inl rfl) [6] rfl trivial (by simp only[tmpsOf,h];rfl)
 by_cases hl:a.length=b.length
 ·have hl':(a.length:Int)=(b.length:Int):=by omega
  simp only[go_sem,Tryz.ntmps64,List.length_map,hl',eq_self,decide_true,Bool.not_true]
  refine sem_loop (fun k:Nat=>⟨slotsOf 32 [(1,.dat (.sl (some 4) (b.map clsD))),(2,.fn 65 []),(15,.dat (.sl (some 4) (a.map clsD))),(16,.dat (.int .i64 b.length)),(17,.dat (.int .i64 k))],[],0,[]⟩)
   (fun k=>k<=a.length/\a.take k=b.take k) (fun k=>a.length - k) 0 ⟨Nat.zero_le _,rfl⟩ ?_ ?_
  ·exact le_slots' (by simp only[go_sem,Int.natCast_zero])
  rintro k ⟨hk,hI⟩
  refine sem_of_awp (Γ:=tbl tabSm2) tabSm2_ok _ _ _ ?_
  cases hd:a.drop k with
  | nil =>
   have hke:=end_of_drop hd hk
   have k1:¬(k:Int)<(b.length:Int):=by omega
   have he:a=b:=by
    rw[List.take_of_length_le (by omega),List.take_of_length_le (by omega)]at hI
    exact hI
   simp only[go_sem,k1,decide_false]
   exact fin _ _ _ _ (decide_eq_true he).symm rfl
  | cons x r =>
   have hlt:=lt_of_drop hd
   cases hd2:b.drop k with
   | nil=>have:=nil_of_drop hd2;omega
   | cons y q =>
    have k1:(k:Int)<(b.length:Int):=by omega
    have k2:(0:Int)<=(k:Int):=by omega
    have hx:D.nth (a.map clsD) k=clsD x:=nth_of_drop hd
    have hy:D.nth (b.map clsD) k=clsD y:=nth_of_drop hd2
    simp only[go_sem,k1,k2,hl',decide_true,List.length_map,Int.toNat_natCast,hx,hy,clsD]
    refine call_data eqCR (mem_ix 0 rfl) [clsD x,clsD y] _ rfl ⟨x,y,rfl,ha x (mem_of_drop hd),hb y (mem_of_drop hd2),rfl⟩ (.inl rfl) ?_
    by_cases he:x=y
    ·simp only[go_sem,eq_true he,decide_true,Bool.not_true]
     refine⟨inR_i64.2 (by omega),k+1,⟨by omega,?_⟩,by omega,?_⟩
     ·rw[take_of_drop hd,take_of_drop hd2,hI,he]
     refine le_end (own:=[]) (ex:=[_,_]) (Nat.zero_le _) ?_ ?_ ?_
     ·simp only[go_sem,Int.natCast_add,Int.cast_ofNat_Int]
     ·simp only[go_sem]
     ·simp only[go_sem]
    ·have hne:¬a=b:=fun h=>by
      rw[h,hd2]at hd
      exact he (List.cons.inj hd).1.symm
     simp only[go_sem,eq_false he,decide_false,Bool.not_false]
     exact fin _ _ _ _ (decide_eq_false hne).symm rfl
 ·have hl':¬(a.length:Int)=(b.length:Int):=by omega
  have hne:¬a=b:=fun h=>hl (by rw[h])
  simp only[go_sem,Tryz.ntmps64,List.length_map,hl',decide_false,Bool.not_false]
  exact fin _ _ _ _ (decide_eq_false hne).symm rfl
def sameR41(ds:List D)(v:AV):Prop:=∃a b:PSys,ds=[sysD a,sysD b]/\a.fk/\b.fk/\v=.dat (.bool (decide (a=b)))
abbrev tabSm3:List (Nat×Contract):=[(62,dataC eqPR),(63,dataC eqSR),(64,lentC eqLR)]
theorem tabSm3_ok:OkG Tryz.prog (tbl tabSm3):=okG_cons eqPool_ok (okG_cons eqStr_ok (okG_cons eqFunc_ok okG_nil))
theorem same41_ok:OkF Tryz.prog 28 (dataC sameR41):=by
 refine okF_data Tryz.func28 rfl (by decide) ?_
 rintro ds v ⟨x,y,rfl,hx,hy,rfl⟩
 have hxp:=hx.p;have hyp:=hy.p;have hxc:=hx.c;have hyc:=hy.c
 have hxn:=hx.np;have hxl:=hx.nl;have hxm:=hx.nc
 obtain⟨p,l,c⟩:=x
 obtain⟨p2,l2,c2⟩:=y
 simp only at hxp hyp hxc hyc hxn hxl hxm
 refine sem_of_awp (Γ:=tbl tabSm3) tabSm3_ok _ _ _ ?_
 have fin:∀sl own (t t':Bool),t=t'->sl.getD 4 .top=.dat (.bool t)->post Tryz.prog Tryz.f28 (.dat (.bool t')) [] [] .ret ⟨sl,own,0,[]⟩:=fun sl own t t' e h=>by
  subst e
  exact post_data (.inl rfl) [4] rfl trivial (by simp only[tmpsOf,h];rfl)
 simp only[go_sem,Tryz.ntmps28,sysD]
 refine call_data eqPR (mem_ix 0 rfl) [.sl (some 3) (p.map poolD),.sl (some 3) (p2.map poolD)] _ rfl ⟨p,p2,rfl,hxn,hxp,hyp,rfl⟩ (.inl rfl) ?_
 by_cases h1:p=p2
 ·simp only[go_sem,eq_true h1,decide_true]
  refine call_data eqSR (mem_ix 1 rfl) [.sl none (strsD l),.sl none (strsD l2)] _ rfl ⟨l,l2,rfl,hxl,fun _ _=>trivial,fun _ _=>trivial,rfl⟩ (.inl rfl) ?_
  by_cases h2:l=l2
  ·simp only[go_sem,eq_true h2,decide_true]
   refine call_lent eqLR (mem_ix 2 rfl) [] ⟨c,c2,rfl,hxm,hxc,hyc,rfl,rfl,rfl,rfl,rfl⟩ (by decide) (by simp) rfl rfl rfl (by simp[AV.unders,AV.under]) (by simp) (fun j hj=>absurd hj (Nat.not_lt_zero _)) ?_
   simp only[go_sem]
   refine fin _ _ _ _ ?_ rfl
   simp[h1,h2]
  ·simp only[go_sem,eq_false h2,decide_false]
   refine fin _ _ _ _ ?_ rfl
   simp[h2]
 ·simp only[go_sem,eq_false h1,decide_false]
  refine fin _ _ _ _ ?_ rfl
  simp[h1]
end Go.AM
namespace Go.AM
open Go Go.Proofs
theorem rsameC_ok:OkF Tryz.prog 51 (dataC eqCR):=by
 refine okF_data Tryz.func51 rfl (by decide) ?_
 rintro ds v ⟨x,y,rfl,hx,hy,rfl⟩
 obtain⟨n,w,b,l⟩:=x
 obtain⟨n2,w2,b2,l2⟩:=y
 have hxl:=hx.1;have hxs:=hx.2;have hys:=hy.2
 simp only at hxl hxs hys
 refine sem_of_awp (Γ:=tbl []) okG_nil _ _ _ ?_
 have fin:∀sl own (t t':Bool),t=t'->sl.getD 4 .top=.dat (.bool t)->post Tryz.prog Tryz.f51 (.dat (.bool t')) [] [] .ret ⟨sl,own,0,[]⟩:=fun sl own t t' e h=>by
  subst e
  exact post_data (.inl rfl) [4] rfl trivial (by simp only[tmpsOf,h];rfl)
 by_cases h1:n=n2
 ·by_cases h2:w=w2
  ·by_cases h3:b=b2
   ·have h3b:(b == b2)=true:=by simp[h3]
    have h3c:(b != b2)=false:=by simp[h3]
    by_cases h4:l.length=l2.length
    ·have h4':(l.length:Int)=(l2.length:Int):=by omega
     simp only[go_sem,Tryz.ntmps51,clsD,stepsD,eq_true h1,eq_true h2,h3b,h3c,h4',List.length_map,decide_true,Bool.not_true]
     refine sem_loop (fun k:Nat=>⟨slotsOf 52 [(2,.ptr 0 0 0),(3,.ptr 1 0 0),(5,.dat (.int .i64 k))],[.box [.dat (.str n),.dat (.int .i64 w),.dat (.bool b),.dat (.sl (some 4) (l.map stepD))],.box [.dat (.str n2),.dat (.int .i64 w2),.dat (.bool b2),.dat (.sl (some 4) (l2.map stepD))]],0,[]⟩)
      (fun k=>k<=l.length/\l.take k=l2.take k) (fun k=>l.length - k) 0 ⟨Nat.zero_le _,rfl⟩ ?_ ?_
     ·exact le_slots' (by simp only[go_sem,Int.natCast_zero])
     rintro k ⟨hk,hI⟩
     refine sem_of_awp (Γ:=tbl []) okG_nil _ _ _ ?_
     cases hd:l.drop k with
     | nil =>
      have hke:=end_of_drop hd hk
      have k1:¬(k:Int)<(l2.length:Int):=by omega
      have k1':¬(k:Int)<(l.length:Int):=by omega
      have he:l=l2:=by
       rw[List.take_of_length_le (by omega),List.take_of_length_le (by omega)]at hI
       exact hI
      simp only[go_sem,k1,k1',List.length_map,decide_false]
      refine fin _ _ _ _ ?_ rfl
      simp[h1,h2,h3,he]
     | cons x r =>
      have hlt:=lt_of_drop hd
      cases hd2:l2.drop k with
      | nil=>have:=nil_of_drop hd2;omega
      | cons y q =>
       have k1:(k:Int)<(l2.length:Int):=by omega
       have k1':(k:Int)<(l.length:Int):=by omega
       have hx:D.nth (l.map stepD) k=stepD x:=nth_of_drop hd
       have hy:D.nth (l2.map stepD) k=stepD y:=nth_of_drop hd2
       simp only[go_sem,k1,k1',List.length_map,decide_true]
       refine sem_drawU [] [] (pf:=[]) (mf:=[]) mixed okG_nil pureNo growNo noMk (ones [0,1,2,3,4,5,6,7,8,9,10]) (by kernel_rfl) ?_
       simp only[go_sem,k1,k1',decide_true,List.length_map,Int.toNat_natCast,hx,hy,bin_neq_step (hxs x (mem_of_drop hd)) (hys y (mem_of_drop hd2))]
       by_cases he:x=y
       ·simp only[go_sem,he,eq_self,decide_true,Bool.not_true]
        refine⟨inR_i64.2 (by omega),k+1,⟨by omega,?_⟩,by omega,le_slots' (by simp only[go_sem,Int.natCast_add,Int.cast_ofNat_Int])⟩
        rw[take_of_drop hd,take_of_drop hd2,hI,he]
       ·have hne:¬l=l2:=fun h=>by
         rw[h,hd2]at hd
         exact he (List.cons.inj hd).1.symm
        simp only[go_sem,he,decide_false,Bool.not_false]
        refine fin _ _ _ _ ?_ rfl
        simp[hne]
    ·have h4':¬(l.length:Int)=(l2.length:Int):=by omega
     simp only[go_sem,Tryz.ntmps51,clsD,stepsD,eq_true h1,eq_true h2,h3b,h3c,h4',List.length_map,decide_true,decide_false,Bool.not_true,Bool.not_false]
     refine fin _ _ _ _ ?_ rfl
     have hne:¬l=l2:=fun h=>h4 (by rw[h])
     simp[hne]
   ·have h3b:(b == b2)=false:=by simp[h3]
    have h3c:(b != b2)=true:=by simp[h3]
    simp only[go_sem,Tryz.ntmps51,clsD,stepsD,eq_true h1,eq_true h2,h3b,h3c,List.length_map,decide_true,decide_false,Bool.not_true,Bool.not_false]
    refine fin _ _ _ _ ?_ rfl
    simp[h3]
  ·simp only[go_sem,Tryz.ntmps51,clsD,stepsD,eq_true h1,eq_false h2,List.length_map,decide_true,decide_false,Bool.not_true,Bool.not_false]
   refine fin _ _ _ _ ?_ rfl
   simp[h2]
 ·simp only[go_sem,Tryz.ntmps51,clsD,stepsD,eq_false h1,List.length_map,decide_true,decide_false,Bool.not_true,Bool.not_false]
  refine fin _ _ _ _ ?_ rfl
  simp[h1]
abbrev tabSm4:List (Nat×Contract):=[(51,dataC eqCR)]
theorem tabSm4_ok:OkG Tryz.prog (tbl tabSm4):=okG_cons rsameC_ok okG_nil
theorem tabSm4_dat(g:Nat)(C:Contract)(h:(g,C)∈tabSm4):∃R,C=dataC R:=by
 simp only[tabSm4,List.mem_singleton,Prod.mk.injEq]at h
 exact⟨_,h.2⟩
theorem rsame41_ok:OkF Tryz.prog 19 (dataC sameR41):=by
 refine okF_data Tryz.func19 rfl (by decide) ?_
 rintro ds v ⟨x,y,rfl,hx,hy,rfl⟩
 have hxp:=hx.p;have hyp:=hy.p;have hxc:=hx.c;have hyc:=hy.c
 have hxn:=hx.np;have hxl:=hx.nl;have hxm:=hx.nc
 obtain⟨p,l,c⟩:=x
 obtain⟨p2,l2,c2⟩:=y
 simp only at hxp hyp hxc hyc hxn hxl hxm
 refine sem_of_awp (Γ:=tbl tabSm4) tabSm4_ok _ _ _ ?_
 have fin:∀sl own (t t':Bool),t=t'->sl.getD 4 .top=.dat (.bool t)->post Tryz.prog Tryz.f19 (.dat (.bool t')) [] [] .ret ⟨sl,own,0,[]⟩:=fun sl own t t' e h=>by
  subst e
  exact post_data (.inl rfl) [4] rfl trivial (by simp only[tmpsOf,h];rfl)
 by_cases g1:p.length=p2.length
 ·have g1':(p.length:Int)=(p2.length:Int):=by omega
  by_cases g2:l.length=l2.length
  ·have g2':(l.length:Int)=(l2.length:Int):=by omega
   by_cases g3:c.length=c2.length
   ·have g3':(c.length:Int)=(c2.length:Int):=by omega
    simp only[go_sem,Tryz.ntmps19,sysD,g1',g2',g3',List.length_map,eq_self,decide_true,Bool.not_true]
    refine sem_loop (fun k:Nat=>⟨slotsOf 88 [(2,.ptr 0 0 0),(3,.ptr 1 0 0),(5,.dat (.int .i64 k))],[.box [.dat (.sl (some 3) (p.map poolD)),.dat (.sl none (strsD l)),.dat (.sl (some 4) (c.map clsD))],.box [.dat (.sl (some 3) (p2.map poolD)),.dat (.sl none (strsD l2)),.dat (.sl (some 4) (c2.map clsD))]],0,[]⟩)
     (fun k=>k<=p.length/\p.take k=p2.take k) (fun k=>p.length - k) 0 ⟨Nat.zero_le _,rfl⟩ ?_ ?_
    ·exact le_slots' (by simp only[go_sem,Int.natCast_zero])
    rintro k ⟨hk,hI⟩
    refine sem_of_awp (Γ:=tbl tabSm4) tabSm4_ok _ _ _ ?_
    cases hd:p.drop k with
    | nil =>
     have hke:=end_of_drop hd hk
     have k1:¬(k:Int)<(p2.length:Int):=by omega
     have k1':¬(k:Int)<(p.length:Int):=by omega
     have hep:p=p2:=by
      rw[List.take_of_length_le (by omega),List.take_of_length_le (by omega)]at hI
      exact hI
     simp only[go_sem,k1,k1',List.length_map,decide_false]
     clear hk hI hd hke k1 k1'
     refine sem_loop (fun k:Nat=>⟨slotsOf 88 [(2,.ptr 0 0 0),(3,.ptr 1 0 0),(6,.dat (.int .i64 k))],[.box [.dat (.sl (some 3) (p.map poolD)),.dat (.sl none (strsD l)),.dat (.sl (some 4) (c.map clsD))],.box [.dat (.sl (some 3) (p2.map poolD)),.dat (.sl none (strsD l2)),.dat (.sl (some 4) (c2.map clsD))]],0,[]⟩)
      (fun k=>k<=l.length/\l.take k=l2.take k) (fun k=>l.length - k) 0 ⟨Nat.zero_le _,rfl⟩ ?_ ?_
     ·exact le_slots' (by simp only[go_sem,Int.natCast_zero])
     rintro k ⟨hk,hI⟩
     refine sem_of_awp (Γ:=tbl tabSm4) tabSm4_ok _ _ _ ?_
     cases hd:l.drop k with
     | nil =>
      have hke:=end_of_drop hd hk
      have k1:¬(k:Int)<(l2.length:Int):=by omega
      have k1':¬(k:Int)<(l.length:Int):=by omega
      have hel:l=l2:=by
       rw[List.take_of_length_le (by omega),List.take_of_length_le (by omega)]at hI
       exact hI
      simp only[go_sem,k1,k1',List.length_map,decide_false]
      clear hk hI hd hke k1 k1'
      refine sem_loop (fun k:Nat=>⟨slotsOf 88 [(2,.ptr 0 0 0),(3,.ptr 1 0 0),(7,.dat (.int .i64 k))],[.box [.dat (.sl (some 3) (p.map poolD)),.dat (.sl none (strsD l)),.dat (.sl (some 4) (c.map clsD))],.box [.dat (.sl (some 3) (p2.map poolD)),.dat (.sl none (strsD l2)),.dat (.sl (some 4) (c2.map clsD))]],0,[]⟩)
       (fun k=>k<=c.length/\c.take k=c2.take k) (fun k=>c.length - k) 0 ⟨Nat.zero_le _,rfl⟩ ?_ ?_
      ·exact le_slots' (by simp only[go_sem,Int.natCast_zero])
      rintro k ⟨hk,hI⟩
      refine sem_of_awp (Γ:=tbl tabSm4) tabSm4_ok _ _ _ ?_
      cases hd:c.drop k with
      | nil =>
       have hke:=end_of_drop hd hk
       have k1:¬(k:Int)<(c2.length:Int):=by omega
       have k1':¬(k:Int)<(c.length:Int):=by omega
       have hec:c=c2:=by
        rw[List.take_of_length_le (by omega),List.take_of_length_le (by omega)]at hI
        exact hI
       simp only[go_sem,k1,k1',List.length_map,decide_false]
       clear hk hI hd hke k1 k1'
       refine fin _ _ _ _ ?_ rfl
       simp[hep,hel,hec]
      | cons x r =>
       have hlt:=lt_of_drop hd
       cases hd2:c2.drop k with
       | nil=>have:=nil_of_drop hd2;omega
       | cons y q =>
        have k1:(k:Int)<(c2.length:Int):=by omega
        have k1':(k:Int)<(c.length:Int):=by omega
        have hx:D.nth (c.map clsD) k=clsD x:=nth_of_drop hd
        have hy:D.nth (c2.map clsD) k=clsD y:=nth_of_drop hd2
        simp only[go_sem,k1,k1',List.length_map,decide_true]
        refine sem_drawU [] [] (pf:=[51]) (mf:=[]) mixed tabSm4_ok (pure_of fun g C h _=>tabSm4_dat g C h) (grow_of fun g C h _=>tabSm4_dat g C h) noMk (ones [0,1,2,3,4,5,6,7,8,9,10,11]) (by kernel_rfl) ?_
        simp only[go_sem,k1,k1',decide_true,List.length_map,Int.toNat_natCast,hx,hy]
        refine call_data eqCR (mem_ix 0 rfl) [clsD x,clsD y] _ rfl ⟨x,y,rfl,hxc x (mem_of_drop hd),hyc y (mem_of_drop hd2),rfl⟩ (.inl rfl) ?_
        by_cases he:x=y
        ·simp only[go_sem,eq_true he,eq_self,decide_true,Bool.not_true]
         refine⟨inR_i64.2 (by omega),k+1,⟨by omega,?_⟩,by omega,le_slots' (by simp only[go_sem,Int.natCast_add,Int.cast_ofNat_Int])⟩
         rw[take_of_drop hd,take_of_drop hd2,hI,he]
        ·have hne:¬c=c2:=fun h=>by
          rw[h,hd2]at hd
          exact he (List.cons.inj hd).1.symm
         simp only[go_sem,eq_false he,decide_false,Bool.not_false]
         refine fin _ _ _ _ ?_ rfl
         simp[hne]
     | cons x r =>
      have hlt:=lt_of_drop hd
      cases hd2:l2.drop k with
      | nil=>have:=nil_of_drop hd2;omega
      | cons y q =>
       have k1:(k:Int)<(l2.length:Int):=by omega
       have k1':(k:Int)<(l.length:Int):=by omega
       have hx:D.nth (l.map D.str) k=D.str x:=nth_of_drop hd
       have hy:D.nth (l2.map D.str) k=D.str y:=nth_of_drop hd2
       simp only[go_sem,k1,k1',List.length_map,decide_true]
       refine sem_drawU [] [] (pf:=[]) (mf:=[]) mixed tabSm4_ok pureNo growNo noMk (ones [0,1,2,3,4,5,6,7,8,9,10]) (by kernel_rfl) ?_
       simp only[go_sem,k1,k1',decide_true,List.length_map,Int.toNat_natCast,hx,hy]
       by_cases he:x=y
       ·simp only[go_sem,he,eq_self,decide_true,Bool.not_true]
        refine⟨inR_i64.2 (by omega),k+1,⟨by omega,?_⟩,by omega,le_slots' (by simp only[go_sem,Int.natCast_add,Int.cast_ofNat_Int])⟩
        rw[take_of_drop hd,take_of_drop hd2,hI,he]
       ·have hne:¬l=l2:=fun h=>by
         rw[h,hd2]at hd
         exact he (List.cons.inj hd).1.symm
        simp only[go_sem,he,decide_false,Bool.not_false]
        refine fin _ _ _ _ ?_ rfl
        simp[hne]
    | cons x r =>
     have hlt:=lt_of_drop hd
     cases hd2:p2.drop k with
     | nil=>have:=nil_of_drop hd2;omega
     | cons y q =>
      have k1:(k:Int)<(p2.length:Int):=by omega
      have k1':(k:Int)<(p.length:Int):=by omega
      have hx:D.nth (p.map poolD) k=poolD x:=nth_of_drop hd
      have hy:D.nth (p2.map poolD) k=poolD y:=nth_of_drop hd2
      simp only[go_sem,k1,k1',List.length_map,decide_true]
      refine sem_drawU [] [] (pf:=[]) (mf:=[]) mixed tabSm4_ok pureNo growNo noMk (ones [0,1,2,3,4,5,6,7,8,9,10]) (by kernel_rfl) ?_
      simp only[go_sem,k1,k1',decide_true,List.length_map,Int.toNat_natCast,hx,hy,bin_neq_pool (hxp x (mem_of_drop hd)) (hyp y (mem_of_drop hd2))]
      by_cases he:x=y
      ·simp only[go_sem,he,eq_self,decide_true,Bool.not_true]
       refine⟨inR_i64.2 (by omega),k+1,⟨by omega,?_⟩,by omega,le_slots' (by simp only[go_sem,Int.natCast_add,Int.cast_ofNat_Int])⟩
       rw[take_of_drop hd,take_of_drop hd2,hI,he]
      ·have hne:¬p=p2:=fun h=>by
        rw[h,hd2]at hd
        exact he (List.cons.inj hd).1.symm
       simp only[go_sem,he,decide_false,Bool.not_false]
       refine fin _ _ _ _ ?_ rfl
       simp[hne]
   ·have g3':¬(c.length:Int)=(c2.length:Int):=by omega
    simp only[go_sem,Tryz.ntmps19,sysD,g1',g2',g3',List.length_map,eq_self,decide_true,decide_false,Bool.not_true,Bool.not_false]
    refine fin _ _ _ _ ?_ rfl
    have hne:¬c=c2:=fun h=>g3 (by rw[h])
    simp[hne]
  ·have g2':¬(l.length:Int)=(l2.length:Int):=by omega
   simp only[go_sem,Tryz.ntmps19,sysD,g1',g2',List.length_map,eq_self,decide_true,decide_false,Bool.not_true,Bool.not_false]
   refine fin _ _ _ _ ?_ rfl
   have hne:¬l=l2:=fun h=>g2 (by rw[h])
   simp[hne]
 ·have g1':¬(p.length:Int)=(p2.length:Int):=by omega
  simp only[go_sem,Tryz.ntmps19,sysD,g1',List.length_map,eq_self,decide_true,decide_false,Bool.not_true,Bool.not_false]
  refine fin _ _ _ _ ?_ rfl
  have hne:¬p=p2:=fun h=>g1 (by rw[h])
  simp[hne]
end Go.AM
namespace Go.AM
open Go Go.Proofs
def tripT(l:Str):List Str:=[32 :: l++[32],[32,35,32]++l,[]]
def spacedT(t:Str):Str:=joinL ((linesW t).flatMap tripT)
def trip(p:PL):List PL:=[p,.skip,.skip]
def upN(n:Int):Int:=3*(n - 1)+1
def upU(u:US):US:=⟨u.cls,3*(u.line - 1)+1,u.name,u.kind,u.cnt,u.deep⟩
def wantN(n:Int):Int:=if 0<n/\n<5000 then 3*(n - 1)+1 else n
end Go.AM
namespace Go.AM
open Go Go.Proofs
def eqIR(ds:List D)(v:AV):Prop:=∃a b:List Int,ds=[.sl none (a.map (D.int .i64)),.sl none (b.map (D.int .i64))]/\a.length<=1000000/\v=.dat (.bool (decide (a=b)))
theorem equal41_ok:OkF Tryz.prog 26 (dataC eqIR):=by
 refine okF_data Tryz.func26 rfl (by decide) ?_
 rintro ds v ⟨a,b,rfl,hal,rfl⟩
 refine sem_of_awp (Γ:=tbl []) okG_nil _ _ _ ?_
 by_cases hl:a.length=b.length
 ·have hl':(a.length:Int)=(b.length:Int):=by omega
  simp only[go_sem,Tryz.ntmps26,List.length_map,hl',eq_self,decide_true,Bool.not_true]
  refine sem_loop (fun k:Nat=>⟨slotsOf 26 [(0,.dat (.sl none (a.map (D.int .i64)))),(1,.dat (.sl none (b.map (D.int .i64)))),(5,.dat (.int .i64 k))],[],0,[]⟩)
   (fun k=>k<=a.length/\a.take k=b.take k) (fun k=>a.length - k) 0 ⟨Nat.zero_le _,rfl⟩ ?_ ?_
  ·exact le_slots' (by simp only[go_sem,Int.natCast_zero])
  rintro k ⟨hk,hI⟩
  refine sem_of_awp (Γ:=tbl []) okG_nil _ _ _ ?_
  cases hd:a.drop k with
  | nil =>
   have hke:=end_of_drop hd hk
   have k1:¬(k:Int)<(a.length:Int):=by omega
   have k1':¬(k:Int)<(b.length:Int):=by omega
   have he:a=b:=by
    rw[List.take_of_length_le (by omega),List.take_of_length_le (by omega)]at hI
    exact hI
   rw[decide_eq_true he]
   simp only[go_sem,List.length_map,k1,k1',decide_false]
   exact post_data (.inl rfl) [4] rfl trivial rfl
  | cons x r =>
   have hlt:=lt_of_drop hd
   cases hd2:b.drop k with
   | nil=>have:=nil_of_drop hd2;omega
   | cons y q =>
    have k1:(k:Int)<(b.length:Int):=by omega
    have k1':(k:Int)<(a.length:Int):=by omega
    have hx:D.nth (a.map (D.int .i64)) k=(D.int .i64) x:=nth_of_drop hd
    have hy:D.nth (b.map (D.int .i64)) k=(D.int .i64) y:=nth_of_drop hd2
    simp only[go_sem,k1,k1',List.length_map,decide_true]
    refine sem_drawU [] [] (pf:=[]) (mf:=[]) mixed okG_nil pureNo growNo noMk (ones [0,1,2,3,4,5,6,7,8]) (by kernel_rfl) ?_
    simp only[go_sem,k1,k1',hl',decide_true,List.length_map,Int.toNat_natCast,hx,hy]
    by_cases he:x=y
    ·simp only[go_sem,he,eq_self,decide_true,Bool.not_true]
     refine⟨inR_i64.2 (by omega),k+1,⟨by omega,?_⟩,by omega,le_slots' (by simp only[go_sem,Int.natCast_add,Int.cast_ofNat_Int])⟩
     rw[take_of_drop hd,take_of_drop hd2,hI,he]
    ·have hne:¬a=b:=fun h=>by
      rw[h,hd2]at hd
      exact he (List.cons.inj hd).1.symm
     rw[decide_eq_false hne]
     simp only[go_sem,he,decide_false,Bool.not_false]
     exact post_data (.inl rfl) [4] rfl trivial rfl
 ·have hl':¬(a.length:Int)=(b.length:Int):=by omega
  have hne:¬a=b:=fun h=>hl (by rw[h])
  rw[decide_eq_false hne]
  simp only[go_sem,Tryz.ntmps26,List.length_map,hl',decide_false,Bool.not_false]
  exact post_data (.inl rfl) [4] rfl trivial rfl
def eqBR(ds:List D)(v:AV):Prop:=∃a b:List Bool,ds=[.sl none (a.map D.bool),.sl none (b.map D.bool)]/\a.length<=1000000/\v=.dat (.bool (decide (a=b)))
theorem flags41_ok:OkF Tryz.prog 27 (dataC eqBR):=by
 refine okF_data Tryz.func27 rfl (by decide) ?_
 rintro ds v ⟨a,b,rfl,hal,rfl⟩
 refine sem_of_awp (Γ:=tbl []) okG_nil _ _ _ ?_
 by_cases hl:a.length=b.length
 ·have hl':(a.length:Int)=(b.length:Int):=by omega
  simp only[go_sem,Tryz.ntmps27,List.length_map,hl',eq_self,decide_true,Bool.not_true]
  refine sem_loop (fun k:Nat=>⟨slotsOf 26 [(0,.dat (.sl none (a.map D.bool))),(1,.dat (.sl none (b.map D.bool))),(5,.dat (.int .i64 k))],[],0,[]⟩)
   (fun k=>k<=a.length/\a.take k=b.take k) (fun k=>a.length - k) 0 ⟨Nat.zero_le _,rfl⟩ ?_ ?_
  ·exact le_slots' (by simp only[go_sem,Int.natCast_zero])
  rintro k ⟨hk,hI⟩
  refine sem_of_awp (Γ:=tbl []) okG_nil _ _ _ ?_
  cases hd:a.drop k with
  | nil =>
   have hke:=end_of_drop hd hk
   have k1:¬(k:Int)<(a.length:Int):=by omega
   have k1':¬(k:Int)<(b.length:Int):=by omega
   have he:a=b:=by
    rw[List.take_of_length_le (by omega),List.take_of_length_le (by omega)]at hI
    exact hI
   rw[decide_eq_true he]
   simp only[go_sem,List.length_map,k1,k1',decide_false]
   exact post_data (.inl rfl) [4] rfl trivial rfl
  | cons x r =>
   have hlt:=lt_of_drop hd
   cases hd2:b.drop k with
   | nil=>have:=nil_of_drop hd2;omega
   | cons y q =>
    have k1:(k:Int)<(b.length:Int):=by omega
    have k1':(k:Int)<(a.length:Int):=by omega
    have hx:D.nth (a.map D.bool) k=D.bool x:=nth_of_drop hd
    have hy:D.nth (b.map D.bool) k=D.bool y:=nth_of_drop hd2
    simp only[go_sem,k1,k1',List.length_map,decide_true]
    refine sem_drawU [] [] (pf:=[]) (mf:=[]) mixed okG_nil pureNo growNo noMk (ones [0,1,2,3,4,5,6,7,8]) (by kernel_rfl) ?_
    simp only[go_sem,k1,k1',hl',decide_true,List.length_map,Int.toNat_natCast,hx,hy]
    by_cases he:x=y
    ·have hb1:(x == y)=true:=by simp[he]
     have hb2:(x != y)=false:=by simp[he]
     simp only[go_sem,hb1,hb2,Bool.not_true]
     refine⟨inR_i64.2 (by omega),k+1,⟨by omega,?_⟩,by omega,le_slots' (by simp only[go_sem,Int.natCast_add,Int.cast_ofNat_Int])⟩
     rw[take_of_drop hd,take_of_drop hd2,hI,he]
    ·have hne:¬a=b:=fun h=>by
      rw[h,hd2]at hd
      exact he (List.cons.inj hd).1.symm
     rw[decide_eq_false hne]
     have hb1:(x == y)=false:=by simp[he]
     have hb2:(x != y)=true:=by simp[he]
     simp only[go_sem,hb1,hb2,Bool.not_false]
     exact post_data (.inl rfl) [4] rfl trivial rfl
 ·have hl':¬(a.length:Int)=(b.length:Int):=by omega
  have hne:¬a=b:=fun h=>hl (by rw[h])
  rw[decide_eq_false hne]
  simp only[go_sem,Tryz.ntmps27,List.length_map,hl',decide_false,Bool.not_false]
  exact post_data (.inl rfl) [4] rfl trivial rfl
def spcR(ds:List D)(v:AV):Prop:=∃s:Str,ds=[.str s]/\s.length<=100000/\v=.dat (.str (spacedT s))
abbrev tabSp:List (Nat×Contract):=[(43,dataC (strsR linesW))]
def spT(ls:List Str):Str:=joinL (ls.flatMap tripT)
end Go.AM
namespace Go.AM
open Go Go.Proofs
def exT:Str:=[112,111,111,108,32,102,114,97,109,101,115,32,52,32,49,10,109,117,116,101,120,32,109,97,112,10,99,108,97,115,115,32,102,97,117,108,116,32,50,10,32,32,108,111,99,107,32,109,97,112,10,32,32,116,97,107,101,32,102,114,97,109,101,115,32,49,10,32,32,99,97,108,108,32,101,118,105,99,116,10,32,32,103,105,118,101,32,102,114,97,109,101,115,32,49,10,32,32,117,110,108,111,99,107,32,109,97,112,10,115,101,114,118,101,114,32,101,118,105,99,116,32,49,10,32,32,116,97,107,101,32,102,114,97,109,101,115,32,49,32,100,101,101,112,10,32,32,103,105,118,101,32,102,114,97,109,101,115,32,49,10]
def exS:PSys:=⟨[⟨[102,114,97,109,101,115],4,1⟩],[[109,97,112]],[⟨[102,97,117,108,116],2,false,[⟨3,0,0,false⟩,⟨1,0,1,false⟩,⟨5,1,0,false⟩,⟨2,0,1,false⟩,⟨4,0,0,false⟩]⟩,⟨[101,118,105,99,116],1,true,[⟨1,0,1,true⟩,⟨2,0,1,false⟩]⟩]⟩
def exA:Str:=[112,111,111,108,32,97,32,49,32,48,10,109,117,116,101,120,32,97]
def exB:Str:=[99,108,97,115,115,32,99,32,49]
def exC:Str:=[116,97,107,101,32,120,32,49]
theorem ex_parse:parse41 (splitC 10) exT=(exS,0,0):=by decide +kernel
theorem ex_text:textS exS=exT:=by decide +kernel
theorem ex_check:checkE exS=0:=by decide +kernel
theorem ex_a:parse41 (splitC 10) exA=(sys0,2,5):=by decide +kernel
theorem ex_b:parse41 (splitC 10) exB=(sys0,0,9):=by decide +kernel
theorem ex_c:parse41 (splitC 10) exC=(sys0,1,4):=by decide +kernel
end Go.AM

