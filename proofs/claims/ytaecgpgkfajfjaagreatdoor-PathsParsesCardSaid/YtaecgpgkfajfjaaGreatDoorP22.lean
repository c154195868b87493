/- Own work over the model of the kit. -/
import Derived.Test.YtaecgpgkfajfjaaGreatDoorP21
import Derived.Test.YtaecgpgkfajfjaaGreatDoorP20
import Derived.Test.YtaecgpgkfajfjaaGreatDoorP19
set_option linter.unnecessarySimpa false
set_option linter.unusedSimpArgs false
set_option linter.unusedVariables false
set_option maxHeartbeats 8000000
set_option maxRecDepth 8000
namespace Go.AM
open Go Go.Proofs
def rfndR(ds:List D)(v:AV):Prop:=∃(s:PSys) (k:Nat) (x:Str),ds=[sysD s,.int .i64 k,.str x]/\s.big/\1<=k/\k<=5/\v=.dat (.int .i64 (findE s k x))
abbrev tabRq:List (Nat×Contract):=[(34,dataC nmsBR)]
theorem tabRq_ok:OkG Tryz.prog (tbl tabRq):=okG_cons rnamesB_ok okG_nil
theorem idxG_shift{x:Str}:∀(l:List Str) (a b:Nat),idxG x a l=-1∨∃i:Nat,i<l.length/\idxG x a l=((a+i:Nat):Int)/\idxG x b l=((b+i:Nat):Int)
 | [],a,b=>.inl rfl
 | y :: r,a,b=>by
  rw[idxG,idxG]
  by_cases h:x=y
  ·rw[if_pos h,if_pos h];exact .inr ⟨0,by simp,by simp,by simp⟩
  ·rw[if_neg h,if_neg h]
   rcases idxG_shift r (a+1) (b+1) with h1|⟨i,h1,h2,h3⟩
   ·exact .inl h1
   ·exact .inr ⟨i+1,by simpa using h1,by rw[h2];congr 1;omega,by rw[h3];congr 1;omega⟩
theorem rfind_ok:OkF Tryz.prog 49 (dataC rfndR):=by
 refine okF_data Tryz.func49 rfl (by decide) ?_
 rintro ds v ⟨s,k,x,rfl,hbig,k1,k5,rfl⟩
 have hp:=hbig.np
 have hl:=hbig.nl
 have hc:=hbig.nc
 refine sem_of_awp (Γ:=tbl tabRq) tabRq_ok _ _ _ ?_
 simp only[go_sem,Tryz.ntmps49,sysD]
 refine call_data nmsBR (mem_ix 0 rfl) [sysD s] _ rfl ⟨s,rfl,hbig,rfl⟩ (.inl rfl) ?_
 simp only[go_sem]
 refine sem_drawU [] [] (pf:=[]) (mf:=[]) mixed tabRq_ok pureNo growNo noMk (ones [0,1,2,3,4]) (by kernel_rfl) ?_
 simp only[go_sem]
 generalize hN:namesL s=N
 have hNl:N.length=s.pools.length+s.locks.length+s.classes.length:=by rw[← hN];simp[namesL];omega
 have step:∀(b i:Nat) (y:Str) (q:List Str),b<=N.length->(N.take b).drop i=y :: q->i<b/\(N.take b).drop (i+1)=q/\D.nth (strsD N) i=.str y:=fun b i y q hb h=>by
  have h1:i<(N.take b).length:=lt_of_drop h
  rw[List.length_take]at h1
  refine⟨by omega,drop_cons h,?_⟩
  have h2:N.drop i=y :: N.drop (i+1):=by
   have e:(N.drop i).take (b - i)=y :: q:=by rw[← List.drop_take];exact h
   have hlt:i<N.length:=by omega
   rw[List.drop_eq_getElem_cons hlt]at e ⊢
   rw[show b - i=(b - i - 1)+1 by omega,List.take_succ_cons]at e
   rw[(List.cons.inj e).1]
  exact nth_of_drop (f:=D.str) h2
 generalize hv:findE s k x=V
 have fin:∀sl own (b:Int),b=V->sl.getD 6 .top=.dat (.int .i64 b)->post Tryz.prog Tryz.f49 (.dat (.int .i64 V)) [] [] .ret ⟨sl,own,0,[]⟩:=fun sl own b e h=>by
  subst e
  exact post_data (.inl rfl) [6] rfl trivial (by simp only[tmpsOf,h];rfl)
 have hk:k=1∨k=2∨k=3∨k=4∨k=5:=by omega
 rcases hk with rfl|rfl|rfl|rfl|rfl
 ·have hV:idxG x 0 (s.pools.map fun p:PPool=>p.name)=V:=by rw[← hv];rfl
  have hsub:(N.take (s.pools.length)).drop (0)=s.pools.map fun p:PPool=>p.name:=by
   rw[← hN];simp[namesL,List.take_append,List.drop_append]
  have hNl':True:=trivial
  simp only[go_sem,Int.natCast_one,Int.cast_ofNat_Int,eq_self,decide_true,decide_false]
  refine sem_loop (fun i:Nat=>⟨slotsOf 58 [(2,.dat (.str x)),(6,.dat (.int .i64 0)),(7,.dat (.sl none (strsD N))),(8,.dat (.int .i64 ((0:Nat):Int))),(9,.dat (.int .i64 ((s.pools.length:Nat):Int))),(10,.dat (.int .i64 i))],[.box [.dat (.sl (some 3) (s.pools.map poolD)),.dat (.sl none (s.locks.map D.str)),.dat (.sl (some 4) (s.classes.map clsD))]],0,[]⟩)
   (fun i=>0<=i/\i<=s.pools.length/\idxG x (i - (0)) ((N.take (s.pools.length)).drop i)=V) (fun i=>(s.pools.length) - i) (0) ⟨Nat.le_refl _,by omega,?_⟩ ?_ ?_
  ·rw[hsub,Nat.sub_self];exact hV
  ·exact le_slots' (by simp only[go_sem,Int.natCast_add,Int.natCast_zero,hNl'])
  rintro i ⟨i1,i2,hI⟩
  refine sem_of_awp (Γ:=tbl tabRq) tabRq_ok _ _ _ ?_
  cases hd:(N.take (s.pools.length)).drop i with
  | nil =>
   have:(N.take (s.pools.length)).length<=i:=List.drop_eq_nil_iff.1 hd
   rw[List.length_take]at this
   have hk2:¬(i:Int)<((s.pools.length:Nat):Int):=by omega
   simp only[go_sem,hk2,decide_false]
   rw[hd]at hI
   exact fin _ _ _ hI rfl
  | cons y q =>
   obtain⟨s1,s2,s3⟩:=step _ _ _ _ (by omega) hd
   have hk2:(i:Int)<((s.pools.length:Nat):Int):=by omega
   have hk3:(i:Int)<N.length:=by omega
   have hk0:(0:Int)<=i:=Int.natCast_nonneg i
   rw[hd,idxG]at hI
   by_cases hy:y=x
   ·simp only[go_sem,hk2,hk3,hk0,s3,eq_true hy,decide_true,Int.toNat_natCast]
    rw[if_pos hy.symm]at hI
    refine⟨inR_i64.2 (by omega),?_⟩
    exact fin _ _ _ (by rw[← hI];omega) rfl
   ·simp only[go_sem,hk2,hk3,hk0,s3,eq_false hy,decide_true,decide_false,Int.toNat_natCast]
    rw[if_neg (fun h=>hy h.symm)]at hI
    refine⟨inR_i64.2 (by omega),i+1,⟨by omega,by omega,by rw[s2,show i+1 - (0)=i - (0)+1 by omega];exact hI⟩,by omega,?_⟩
    exact le_slots' (by simp only[go_sem,Int.natCast_add,Int.cast_ofNat_Int])
 ·have hV:idxG x 0 (s.pools.map fun p:PPool=>p.name)=V:=by rw[← hv];rfl
  have hsub:(N.take (s.pools.length)).drop (0)=s.pools.map fun p:PPool=>p.name:=by
   rw[← hN];simp[namesL,List.take_append,List.drop_append]
  have hNl':True:=trivial
  simp only[go_sem,Int.natCast_one,Int.cast_ofNat_Int,eq_self,decide_true,decide_false]
  refine sem_loop (fun i:Nat=>⟨slotsOf 58 [(2,.dat (.str x)),(6,.dat (.int .i64 0)),(7,.dat (.sl none (strsD N))),(8,.dat (.int .i64 ((0:Nat):Int))),(9,.dat (.int .i64 ((s.pools.length:Nat):Int))),(10,.dat (.int .i64 i))],[.box [.dat (.sl (some 3) (s.pools.map poolD)),.dat (.sl none (s.locks.map D.str)),.dat (.sl (some 4) (s.classes.map clsD))]],0,[]⟩)
   (fun i=>0<=i/\i<=s.pools.length/\idxG x (i - (0)) ((N.take (s.pools.length)).drop i)=V) (fun i=>(s.pools.length) - i) (0) ⟨Nat.le_refl _,by omega,?_⟩ ?_ ?_
  ·rw[hsub,Nat.sub_self];exact hV
  ·exact le_slots' (by simp only[go_sem,Int.natCast_add,Int.natCast_zero,hNl'])
  rintro i ⟨i1,i2,hI⟩
  refine sem_of_awp (Γ:=tbl tabRq) tabRq_ok _ _ _ ?_
  cases hd:(N.take (s.pools.length)).drop i with
  | nil =>
   have:(N.take (s.pools.length)).length<=i:=List.drop_eq_nil_iff.1 hd
   rw[List.length_take]at this
   have hk2:¬(i:Int)<((s.pools.length:Nat):Int):=by omega
   simp only[go_sem,hk2,decide_false]
   rw[hd]at hI
   exact fin _ _ _ hI rfl
  | cons y q =>
   obtain⟨s1,s2,s3⟩:=step _ _ _ _ (by omega) hd
   have hk2:(i:Int)<((s.pools.length:Nat):Int):=by omega
   have hk3:(i:Int)<N.length:=by omega
   have hk0:(0:Int)<=i:=Int.natCast_nonneg i
   rw[hd,idxG]at hI
   by_cases hy:y=x
   ·simp only[go_sem,hk2,hk3,hk0,s3,eq_true hy,decide_true,Int.toNat_natCast]
    rw[if_pos hy.symm]at hI
    refine⟨inR_i64.2 (by omega),?_⟩
    exact fin _ _ _ (by rw[← hI];omega) rfl
   ·simp only[go_sem,hk2,hk3,hk0,s3,eq_false hy,decide_true,decide_false,Int.toNat_natCast]
    rw[if_neg (fun h=>hy h.symm)]at hI
    refine⟨inR_i64.2 (by omega),i+1,⟨by omega,by omega,by rw[s2,show i+1 - (0)=i - (0)+1 by omega];exact hI⟩,by omega,?_⟩
    exact le_slots' (by simp only[go_sem,Int.natCast_add,Int.cast_ofNat_Int])
 ·have hV:idxG x 0 (s.locks)=V:=by rw[← hv];rfl
  have hsub:(N.take (s.pools.length+s.locks.length)).drop (s.pools.length)=s.locks:=by
   rw[← hN];simp[namesL,List.take_append,List.drop_append]
  have hNl':True:=trivial
  simp only[go_sem,Int.natCast_one,Int.cast_ofNat_Int,eq_self,decide_true,decide_false]
  refine sem_drawU [] [] (pf:=[]) (mf:=[]) mixed tabRq_ok pureNo growNo noMk (ones [0,1,2,3,4,5,6,7,8,9,10,11]) (by kernel_rfl) ?_
  simp only[go_sem]
  refine⟨inR_i64.2 (by omega),?_⟩
  refine sem_loop (fun i:Nat=>⟨slotsOf 58 [(2,.dat (.str x)),(6,.dat (.int .i64 0)),(7,.dat (.sl none (strsD N))),(8,.dat (.int .i64 ((s.pools.length:Nat):Int))),(9,.dat (.int .i64 ((s.pools.length+s.locks.length:Nat):Int))),(10,.dat (.int .i64 i))],[.box [.dat (.sl (some 3) (s.pools.map poolD)),.dat (.sl none (s.locks.map D.str)),.dat (.sl (some 4) (s.classes.map clsD))]],0,[]⟩)
   (fun i=>s.pools.length<=i/\i<=s.pools.length+s.locks.length/\idxG x (i - (s.pools.length)) ((N.take (s.pools.length+s.locks.length)).drop i)=V) (fun i=>(s.pools.length+s.locks.length) - i) (s.pools.length) ⟨Nat.le_refl _,by omega,?_⟩ ?_ ?_
  ·rw[hsub,Nat.sub_self];exact hV
  ·exact le_slots' (by simp only[go_sem,Int.natCast_add,Int.natCast_zero,hNl'])
  rintro i ⟨i1,i2,hI⟩
  refine sem_of_awp (Γ:=tbl tabRq) tabRq_ok _ _ _ ?_
  cases hd:(N.take (s.pools.length+s.locks.length)).drop i with
  | nil =>
   have:(N.take (s.pools.length+s.locks.length)).length<=i:=List.drop_eq_nil_iff.1 hd
   rw[List.length_take]at this
   have hk2:¬(i:Int)<((s.pools.length+s.locks.length:Nat):Int):=by omega
   simp only[go_sem,hk2,decide_false]
   rw[hd]at hI
   exact fin _ _ _ hI rfl
  | cons y q =>
   obtain⟨s1,s2,s3⟩:=step _ _ _ _ (by omega) hd
   have hk2:(i:Int)<((s.pools.length+s.locks.length:Nat):Int):=by omega
   have hk3:(i:Int)<N.length:=by omega
   have hk0:(0:Int)<=i:=Int.natCast_nonneg i
   rw[hd,idxG]at hI
   by_cases hy:y=x
   ·simp only[go_sem,hk2,hk3,hk0,s3,eq_true hy,decide_true,Int.toNat_natCast]
    rw[if_pos hy.symm]at hI
    refine⟨inR_i64.2 (by omega),?_⟩
    exact fin _ _ _ (by rw[← hI];omega) rfl
   ·simp only[go_sem,hk2,hk3,hk0,s3,eq_false hy,decide_true,decide_false,Int.toNat_natCast]
    rw[if_neg (fun h=>hy h.symm)]at hI
    refine⟨inR_i64.2 (by omega),i+1,⟨by omega,by omega,by rw[s2,show i+1 - (s.pools.length)=i - (s.pools.length)+1 by omega];exact hI⟩,by omega,?_⟩
    exact le_slots' (by simp only[go_sem,Int.natCast_add,Int.cast_ofNat_Int])
 ·have hV:idxG x 0 (s.locks)=V:=by rw[← hv];rfl
  have hsub:(N.take (s.pools.length+s.locks.length)).drop (s.pools.length)=s.locks:=by
   rw[← hN];simp[namesL,List.take_append,List.drop_append]
  have hNl':True:=trivial
  simp only[go_sem,Int.natCast_one,Int.cast_ofNat_Int,eq_self,decide_true,decide_false]
  refine sem_drawU [] [] (pf:=[]) (mf:=[]) mixed tabRq_ok pureNo growNo noMk (ones [0,1,2,3,4,5,6,7,8,9,10,11]) (by kernel_rfl) ?_
  simp only[go_sem]
  refine⟨inR_i64.2 (by omega),?_⟩
  refine sem_loop (fun i:Nat=>⟨slotsOf 58 [(2,.dat (.str x)),(6,.dat (.int .i64 0)),(7,.dat (.sl none (strsD N))),(8,.dat (.int .i64 ((s.pools.length:Nat):Int))),(9,.dat (.int .i64 ((s.pools.length+s.locks.length:Nat):Int))),(10,.dat (.int .i64 i))],[.box [.dat (.sl (some 3) (s.pools.map poolD)),.dat (.sl none (s.locks.map D.str)),.dat (.sl (some 4) (s.classes.map clsD))]],0,[]⟩)
   (fun i=>s.pools.length<=i/\i<=s.pools.length+s.locks.length/\idxG x (i - (s.pools.length)) ((N.take (s.pools.length+s.locks.length)).drop i)=V) (fun i=>(s.pools.length+s.locks.length) - i) (s.pools.length) ⟨Nat.le_refl _,by omega,?_⟩ ?_ ?_
  ·rw[hsub,Nat.sub_self];exact hV
  ·exact le_slots' (by simp only[go_sem,Int.natCast_add,Int.natCast_zero,hNl'])
  rintro i ⟨i1,i2,hI⟩
  refine sem_of_awp (Γ:=tbl tabRq) tabRq_ok _ _ _ ?_
  cases hd:(N.take (s.pools.length+s.locks.length)).drop i with
  | nil =>
   have:(N.take (s.pools.length+s.locks.length)).length<=i:=List.drop_eq_nil_iff.1 hd
   rw[List.length_take]at this
   have hk2:¬(i:Int)<((s.pools.length+s.locks.length:Nat):Int):=by omega
   simp only[go_sem,hk2,decide_false]
   rw[hd]at hI
   exact fin _ _ _ hI rfl
  | cons y q =>
   obtain⟨s1,s2,s3⟩:=step _ _ _ _ (by omega) hd
   have hk2:(i:Int)<((s.pools.length+s.locks.length:Nat):Int):=by omega
   have hk3:(i:Int)<N.length:=by omega
   have hk0:(0:Int)<=i:=Int.natCast_nonneg i
   rw[hd,idxG]at hI
   by_cases hy:y=x
   ·simp only[go_sem,hk2,hk3,hk0,s3,eq_true hy,decide_true,Int.toNat_natCast]
    rw[if_pos hy.symm]at hI
    refine⟨inR_i64.2 (by omega),?_⟩
    exact fin _ _ _ (by rw[← hI];omega) rfl
   ·simp only[go_sem,hk2,hk3,hk0,s3,eq_false hy,decide_true,decide_false,Int.toNat_natCast]
    rw[if_neg (fun h=>hy h.symm)]at hI
    refine⟨inR_i64.2 (by omega),i+1,⟨by omega,by omega,by rw[s2,show i+1 - (s.pools.length)=i - (s.pools.length)+1 by omega];exact hI⟩,by omega,?_⟩
    exact le_slots' (by simp only[go_sem,Int.natCast_add,Int.cast_ofNat_Int])
 ·have hV:idxG x 0 (s.classes.map fun p:PCls=>p.name)=V:=by rw[← hv];rfl
  have hsub:(N.take (N.length)).drop (s.pools.length+s.locks.length)=s.classes.map fun p:PCls=>p.name:=by
   rw[List.take_length,← hN];exact List.drop_left' (by simp)
  have hNl':True:=trivial
  simp only[go_sem,Int.natCast_one,Int.cast_ofNat_Int,eq_self,decide_true,decide_false]
  refine⟨inR_i64.2 (by omega),?_⟩
  refine sem_loop (fun i:Nat=>⟨slotsOf 58 [(2,.dat (.str x)),(6,.dat (.int .i64 0)),(7,.dat (.sl none (strsD N))),(8,.dat (.int .i64 ((s.pools.length+s.locks.length:Nat):Int))),(9,.dat (.int .i64 ((N.length:Nat):Int))),(10,.dat (.int .i64 i))],[.box [.dat (.sl (some 3) (s.pools.map poolD)),.dat (.sl none (s.locks.map D.str)),.dat (.sl (some 4) (s.classes.map clsD))]],0,[]⟩)
   (fun i=>s.pools.length+s.locks.length<=i/\i<=N.length/\idxG x (i - (s.pools.length+s.locks.length)) ((N.take (N.length)).drop i)=V) (fun i=>(N.length) - i) (s.pools.length+s.locks.length) ⟨Nat.le_refl _,by omega,?_⟩ ?_ ?_
  ·rw[hsub,Nat.sub_self];exact hV
  ·exact le_slots' (by simp only[go_sem,Int.natCast_add,Int.natCast_zero,hNl'])
  rintro i ⟨i1,i2,hI⟩
  refine sem_of_awp (Γ:=tbl tabRq) tabRq_ok _ _ _ ?_
  cases hd:(N.take (N.length)).drop i with
  | nil =>
   have:(N.take (N.length)).length<=i:=List.drop_eq_nil_iff.1 hd
   rw[List.length_take]at this
   have hk2:¬(i:Int)<((N.length:Nat):Int):=by omega
   simp only[go_sem,hk2,decide_false]
   rw[hd]at hI
   exact fin _ _ _ hI rfl
  | cons y q =>
   obtain⟨s1,s2,s3⟩:=step _ _ _ _ (by omega) hd
   have hk2:(i:Int)<((N.length:Nat):Int):=by omega
   have hk3:(i:Int)<N.length:=by omega
   have hk0:(0:Int)<=i:=Int.natCast_nonneg i
   rw[hd,idxG]at hI
   by_cases hy:y=x
   ·simp only[go_sem,hk2,hk3,hk0,s3,eq_true hy,decide_true,Int.toNat_natCast]
    rw[if_pos hy.symm]at hI
    refine⟨inR_i64.2 (by omega),?_⟩
    exact fin _ _ _ (by rw[← hI];omega) rfl
   ·simp only[go_sem,hk2,hk3,hk0,s3,eq_false hy,decide_true,decide_false,Int.toNat_natCast]
    rw[if_neg (fun h=>hy h.symm)]at hI
    refine⟨inR_i64.2 (by omega),i+1,⟨by omega,by omega,by rw[s2,show i+1 - (s.pools.length+s.locks.length)=i - (s.pools.length+s.locks.length)+1 by omega];exact hI⟩,by omega,?_⟩
    exact le_slots' (by simp only[go_sem,Int.natCast_add,Int.cast_ofNat_Int])
end Go.AM
namespace Go.AM
open Go Go.Proofs
theorem le_addrow{s:List AV}{own:List Obj}{n0:Nat}{mv:List Nat}(ag:Option Nat)(h0:n0<=own.length):Le ⟨s,own,n0,mv⟩ ⟨s,own++[.row ag []],n0,mv⟩:=by
 rintro c a w ⟨hd,hn,F,φ,h2,h3,h4⟩
 let L:Loc:=⟨true,0,0,0,es ag⟩
 have hmono:=ext_old h3 L
 have h4':=AV.Rs_mono (fun _ h=>h) (Same.refl F w) hmono _ _ h4
 have h5:=h3.new (L:=L) (obj:=Obj.row ag []) (Nat.le_refl _) (fun _ _=>rfl) (fun hn'=>by cases hn') (by simp only[ObjR];exact⟨rfl,.inl ⟨rfl,trivial⟩⟩)
 refine⟨hd,hn,F,ext φ own.length L,⟨h2.sub,h2.ext,fun o L' hlt hm h=>hmono o L' (h2.keep o L' hlt hm h),h2.rest,fun o L' ho' hn'=>?_,h2.frsh⟩,h5,h4'⟩
 unfold ext at ho'
 split at ho'
 ·cases ho';cases hn'
 ·exact h2.orig o L' ho' hn'
def stp(s:PSys)(i:Nat):List PStep:=(s.classes.getD i default).steps
def cellK(o:Nat)(s:PSys)(cur i:Nat):AV:=if i=cur then .sl o 0 (stp s cur).length else if stp s i=[] then .nils else .dat (stepsD (stp s i))
def cellF(s:PSys)(i:Nat):AV:=if stp s i=[] then .nils else .dat (stepsD (stp s i))
theorem cellK_ok(s:PSys)(cur i:Nat):CellOk (cellK 1 s cur i):=by
 unfold cellK
 split
 ·exact .inr (.inr ⟨_,rfl⟩)
 split
 ·exact .inl rfl
 ·exact .inr (.inl ⟨_,rfl⟩)
theorem cellK_ren(g:Nat->Nat)(o:Nat)(s:PSys)(cur i:Nat):AV.ren g (cellK o s cur i)=cellK (g o) s cur i:=by
 unfold cellK
 split
 ·rfl
 split <;> rfl
theorem cellK_under{o n:Nat}(h:o<n)(s:PSys)(cur i:Nat):(cellK o s cur i).under n:=by
 unfold cellK
 split
 ·exact h
 split <;> trivial
theorem tabC_congr{f g:Nat->AV}:∀(l:List PCls) (i:Nat),(∀j,j<l.length->f (i+j)=g (i+j))->tabC f i l=tabC g i l
 | [],_,_=>rfl
 | c :: r,i,h=>by
  have h0:=h 0 (by simp)
  simp only[Nat.add_zero]at h0
  simp only[tabC,h0]
  have ih:tabC f (i+1) r=tabC g (i+1) r:=by
   refine tabC_congr r (i+1) fun j hj=>?_
   have h1:=h (j+1) (Nat.succ_lt_succ hj)
   rwa [show i+(j+1)=i+1+j by omega]at h1
  rw[ih]
theorem tabC_bare{f:Nat->AV}:∀(l l':List PCls) (i:Nat),l.map bareC=l'.map bareC->tabC f i l=tabC f i l'
 | [],[],_,_=>rfl
 | [],_ :: _,_,h=>by simp at h
 | _ :: _,[],_,h=>by simp at h
 | c :: r,d :: q,i,h=>by
  simp only[List.map_cons,List.cons.injEq,bareC,PCls.mk.injEq]at h
  simp only[tabC,h.1.1,h.1.2.1,h.1.2.2.1]
  rw[tabC_bare r q (i+1) h.2]
theorem tabC_killsF(o:Nat)(f:Nat->AV):∀(l:List PCls) (i:Nat),AV.kills o (tabC f i l)=tabC (fun i=>AV.kill o (f i)) i l
 | [],_=>rfl
 | c :: r,i=>by simp only[tabC,AV.kills,AV.kill];rw[tabC_killsF o f r (i+1)]
theorem tabC_frzsF(o:Nat)(ag:Option Nat)(xs:List D)(f:Nat->AV):∀(l:List PCls) (i:Nat),AV.frzs o ag xs (tabC f i l)=tabC (fun i=>AV.frz o ag xs (f i)) i l
 | [],_=>rfl
 | c :: r,i=>by simp only[tabC,AV.frzs,AV.frz];rw[tabC_frzsF o ag xs f r (i+1)]
theorem tabC_set(f:Nat->AV)(x:AV):∀(l:List PCls) (i c:Nat),c<l.length->(tabC f i l).set (c*4+3) x=tabC (fun j=>if j=i+c then x else f j) i l
 | [],_,c,h=>by simp at h
 | a :: r,i,0,h=>by
  simp only[tabC,Nat.zero_mul,Nat.zero_add,List.set_cons_succ,List.set_cons_zero,Nat.add_zero,if_true]
  congr 4
  exact tabC_congr r (i+1) fun j hj=>by rw[if_neg (by omega)]
 | a :: r,i,c+1,h=>by
  simp only[List.length_cons]at h
  have e:(c+1)*4+3=(c*4+3)+1+1+1+1:=by omega
  simp only[tabC,e,List.set_cons_succ]
  rw[tabC_set f x r (i+1) c (by omega),if_neg (by omega)]
  congr 4
  exact tabC_congr r (i+1) fun j hj=>by simp only[show (i+1+j=i+1+c)=(i+1+j=i+(c+1)) from by rw[show i+1+c=i+(c+1) by omega]]
theorem tabC_underF{f:Nat->AV}{n:Nat}(h:∀i,(f i).under n):∀(l:List PCls) (i:Nat),AV.unders n (tabC f i l)
 | [],_=>by simp only[tabC,AV.unders]
 | c :: r,i=>by simp only[tabC,AV.unders,AV.under,true_and];exact⟨h i,tabC_underF h r (i+1)⟩
theorem tabC_cell(f:Nat->AV)(c:Nat)(l:List PCls)(h:c<l.length):(tabC f 0 l).getD (c*4+3) .top=f c:=by
 obtain⟨x,q,hq⟩:∃x q,l.drop c=x :: q:=by
  cases hd:l.drop c with
  | nil=>have:=List.drop_eq_nil_iff.1 hd;omega
  | cons x q=>exact⟨x,q,rfl⟩
 have:=tabC_at f l 0 c x q hq
 have h3:=congrArg (fun l=>l.getD 3 .top) this
 simp only[List.getD_cons_succ,List.getD_cons_zero,Nat.zero_add]at h3
 rw[← h3]
 simp only[List.getD_eq_getElem?_getD]
 rw[List.getElem?_take,if_pos (by decide),List.getElem?_drop]
theorem stp_out{s:PSys}{i:Nat}(h:s.classes.length<=i):stp s i=[]:=by
 unfold stp
 rw[List.getD_eq_getElem?_getD,List.getElem?_eq_none h];rfl
theorem addS_bare(s:PSys)(c:Nat)(x:PStep):(addS s c x).classes.map bareC=s.classes.map bareC:=by
 unfold addS
 apply List.ext_getElem?
 intro i
 simp only[List.getElem?_map,List.getElem?_set]
 by_cases h:c=i
 ·subst h
  by_cases hl:c<s.classes.length
  ·simp only[hl,if_true,Option.map_some]
   rw[List.getElem?_eq_getElem hl,List.getD_eq_getElem?_getD,List.getElem?_eq_getElem hl]
   rfl
  ·rw[List.getElem?_eq_none (by omega)];simp[hl]
 ·simp only[h,if_false]
theorem addS_stp(s:PSys)(c:Nat)(x:PStep)(h:c<s.classes.length)(i:Nat):stp (addS s c x) i=if i=c then stp s c++[x] else stp s i:=by
 unfold stp addS
 simp only
 rw[List.getD_eq_getElem?_getD,List.getElem?_set]
 by_cases e:c=i
 ·subst e
  simp only[if_true,h,Option.getD_some,addT]
 ·rw[if_neg e,if_neg (fun h=>e (Eq.symm h)),List.getD_eq_getElem?_getD]
theorem addS_len(s:PSys)(c:Nat)(x:PStep):(addS s c x).classes.length=s.classes.length:=by simp[addS]
theorem cells_freeze(o:Nat)(s:PSys)(cur:Nat)(h:cur<s.classes.length->stp s cur≠[]) :
  AV.frzs o (some 4) ((stp s cur).map stepD) (tabC (cellK o s cur) 0 s.classes)=tabC (cellF s) 0 s.classes:=by
 rw[tabC_frzsF]
 refine tabC_congr _ _ fun j hj=>?_
 rw[Nat.zero_add]
 unfold cellK cellF
 by_cases e:j=cur
 ·subst e
  rw[if_pos rfl,if_neg (h hj)]
  simp only[AV.frz,if_true,List.drop_zero]
  rw[List.take_of_length_le (by simp),if_pos (by simp)]
  rfl
 ·rw[if_neg e]
  split <;> rfl
theorem cells_new(o:Nat)(s:PSys)(c:Nat)(hc:c<s.classes.length)(h0:stp s c=[]):(tabC (cellF s) 0 s.classes).set (c*4+3) (.sl o 0 0)=tabC (cellK o s c) 0 s.classes:=by
 rw[tabC_set _ _ _ _ _ hc]
 refine tabC_congr _ _ fun j hj=>?_
 rw[Nat.zero_add,Nat.zero_add]
 unfold cellK cellF
 split
 ·rw[h0];rfl
 ·rfl
theorem cells_app(o:Nat)(s:PSys)(c:Nat)(x:PStep)(hc:c<s.classes.length) :
  (AV.kills o (tabC (cellK o s c) 0 s.classes)).set (c*4+3) (.sl o 0 ((stp s c).length+1))=tabC (cellK o (addS s c x) c) 0 (addS s c x).classes:=by
 rw[tabC_killsF,tabC_set _ _ _ _ _ hc,tabC_bare (addS s c x).classes s.classes 0 (addS_bare s c x)]
 refine tabC_congr _ _ fun j hj=>?_
 rw[Nat.zero_add,Nat.zero_add]
 unfold cellK
 rw[addS_stp s c x hc,addS_stp s c x hc,if_pos rfl]
 by_cases e:j=c
 ·rw[if_pos e,if_pos e];simp
 ·rw[if_neg e,if_neg e,if_neg e,if_neg e]
  split <;> rfl
theorem cells_end(s:PSys):∀(l:List PCls) (i:Nat),(∀j,j<l.length->stp s (i+j)=(l.getD j default).steps)->nds (tabC (cellF s) i l) ((l.map clsF).flatten.map .dat)
 | [],_,_=>trivial
 | c :: r,i,h=>by
  have h0:=h 0 (by simp)
  simp only[Nat.add_zero,List.getD_cons_zero]at h0
  simp only[tabC,List.map_cons,List.flatten_cons,clsF,List.cons_append,List.nil_append,nds]
  refine⟨.inl rfl,.inl rfl,.inl rfl,?_,cells_end s r (i+1) fun j hj=>by
   have h1:=h (j+1) (Nat.succ_lt_succ hj)
   rwa [show i+(j+1)=i+1+j by omega,List.getD_cons_succ]at h1⟩
  unfold cellF
  rw[h0]
  split
  ·rename_i he
   exact .inr ⟨rfl,some 4,by rw[he];rfl⟩
  ·exact .inl rfl
theorem cells_end0(s:PSys):nds (tabC (cellF s) 0 s.classes) ((s.classes.map clsF).flatten.map .dat):=cells_end s s.classes 0 fun j hj=>by rw[Nat.zero_add];rfl
theorem clsF_agg(l:List PCls):(l.map clsF).map D.agg=l.map clsD:=by rw[List.map_map];rfl
structure P2J (S:PSys) (us:List US) (R:(Int×Int) ⊕ PSys) (k:Nat) (s:PSys) (cur:Nat):Prop where
 run:pass2 (us.drop k) s=R
 num:k<=us.length
 hp:s.pools=S.pools
 hl:s.locks=S.locks
 hc:s.classes.length=S.classes.length
 cls:∀u∈us.drop k,1<=u.kind/\u.kind<=5/\u.cls<S.classes.length/\(u.cls=cur∨stp s u.cls=[])/\(cur=S.classes.length∨cur<=u.cls)
 srt:(us.drop k).Pairwise fun a b=>a.cls<=b.cls
 ne:cur<S.classes.length->stp s cur≠[]
 len:(stp s cur).length<=k
theorem P2J.next{S:PSys}{us:List US}{R:(Int×Int) ⊕ PSys}{k:Nat}{s:PSys}{cur:Nat}{u:US}{q:List US}(h:P2J S us R k s cur)(hd:us.drop k=u :: q)(hf:¬findE s u.kind u.name<0)(hlen:(stp s u.cls).length<=k) :
  P2J S us R (k+1) (addS s u.cls (u.step (findE s u.kind u.name))) u.cls:=by
 have hd1:=drop_cons hd
 have hlt:=lt_of_drop hd
 obtain⟨h1,h2,h3,h4,h5,h6,h7,h8,h9⟩:=h
 rw[hd]at h1 h6 h7
 rw[pass2,if_neg hf]at h1
 have hu:=h6 u (by simp)
 have hcl:u.cls<s.classes.length:=by rw[h5];exact hu.2.2.1
 obtain⟨hs1,hs2⟩:=List.pairwise_cons.1 h7
 refine⟨by rw[hd1];exact h1,by omega,h3,h4,(addS_len _ _ _).trans h5,?_,by rw[hd1];exact hs2,?_,?_⟩
 ·rw[hd1]
  intro v hv
  have h10:=h6 v (by simp[hv])
  have h11:=hs1 v hv
  refine⟨h10.1,h10.2.1,h10.2.2.1,?_,.inr h11⟩
  by_cases e:v.cls=u.cls
  ·exact .inl e
  ·refine .inr ?_
   rw[addS_stp _ _ _ hcl,if_neg e]
   rcases h10.2.2.2.1 with e2|e2
   ·have:=hu.2.2.2.2;have:=h10.2.2.1;omega
   ·exact e2
 ·intro _
  rw[addS_stp _ _ _ hcl,if_pos rfl]
  simp
 ·rw[addS_stp _ _ _ hcl,if_pos rfl,List.length_append,List.length_cons,List.length_nil]
  omega
end Go.AM
namespace Go.AM
open Go Go.Proofs
def scanR41(ds:List D)(v:AV):Prop:=∃L:List Str,ds=[.sl none (strsD L)]/\L.length<=100000/\(∀x∈L,x.length<=100000)/\v=.tup [.dat (.int .i64 (scanL (L.map pl41) 0 [] 0).1),.dat (.int .i64 (scanL (L.map pl41) 0 [] 0).2)]
abbrev tabSc:List (Nat×Contract):=[(46,dataC (strsR wordsW)),(47,dataC rignR),(48,dataC rkindR),(82,dataC rformR),(36,peekC beforeR)]
theorem tabSc_ok:OkG Tryz.prog (tbl tabSc):=okG_cons words41_ok (okG_cons rignored_ok (okG_cons rkind_ok (okG_cons rform_ok (okG_cons (okF_peek before_ok) okG_nil))))
theorem scan_skip{w:List Str}(h:skip41 w=true)(r:List PL)(i:Nat)(dn:List Str)(c:Nat):scanL (lineW w :: r) i dn c=scanL r (i+1) dn c:=by
 unfold lineW;rw[h];rfl
theorem scan_bad{w:List Str}(h:skip41 w=false)(hf:formW w (kindS (w.getD 0 []))=false)(r:List PL)(i:Nat)(dn:List Str)(c:Nat):scanL (lineW w :: r) i dn c=(((i+1:Nat):Int),4):=by
 unfold lineW lineK;rw[h,hf];rfl
theorem scan_decl{w:List Str}(h:skip41 w=false)(hf:formW w (kindS (w.getD 0 []))=true)(hk:kindS (w.getD 0 [])<10)(r:List PL)(i:Nat)(dn:List Str)(c:Nat) :
  scanL (lineW w :: r) i dn c=if w.getD 1 []∈dn then (((i+1:Nat):Int),5) else scanL r (i+1) (dn++[w.getD 1 []]) (if 3<=kindS (w.getD 0 []) then c+1 else c):=by
 unfold lineW lineK;rw[h,hf];simp only[Bool.false_eq_true,if_false,if_true,hk,scanL]
theorem scan_use{w:List Str}(h:skip41 w=false)(hf:formW w (kindS (w.getD 0 []))=true)(hk:¬kindS (w.getD 0 [])<10)(r:List PL)(i:Nat)(dn:List Str)(c:Nat) :
  scanL (lineW w :: r) i dn c=if c=0 then (((i+1:Nat):Int),4) else scanL r (i+1) dn c:=by
 unfold lineW lineK;rw[h,hf];simp only[Bool.false_eq_true,if_false,if_true,hk,scanL]
theorem form_len{w:List Str}{k:Nat}(h:formW w k=true):2<=w.length:=by
 unfold formW at h
 simp only[Bool.and_eq_true,decide_eq_true_eq]at h
 have:=h.1.1.1.2
 rw[this]
 unfold wantK
 repeat' split
 all_goals omega
theorem scan41_ok:OkF Tryz.prog 44 (dataC scanR41):=by
 refine okF_data Tryz.func44 rfl (by decide) ?_
 rintro ds v ⟨L,rfl,hL1,hL2,rfl⟩
 generalize hR:scanL (L.map pl41) 0 [] 0=R
 refine sem_of_awpK [2] (Γ:=tbl tabSc) tabSc_ok _ _ _ ?_
 simp only[go_sem,Tryz.ntmps44]
 refine sem_le (le_addnil 4 none rfl (Nat.zero_le _)) ?_
 refine sem_of_awp (Γ:=tbl tabSc) tabSc_ok _ _ _ ?_
 simp only[go_sem]
 refine sem_loop (fun p:Nat×List Str×Nat=>⟨slotsOf 63 [(0,.dat (.sl none (strsD L))),(2,.dat (.int .i64 0)),(3,.dat (.int .i64 0)),(4,.sl 0 0 p.2.1.length),(5,.dat (.int .i64 p.2.2)),(6,.dat (.int .i64 p.1))],[.row none (strsD p.2.1)],0,[]⟩)
  (fun p=>p.1<=L.length/\p.2.1.length<=p.1/\p.2.2<=p.1/\scanL ((L.drop p.1).map pl41) p.1 p.2.1 p.2.2=R) (fun p=>L.length - p.1) (0,[],0) ⟨Nat.zero_le _,Nat.le_refl _,Nat.le_refl _,hR⟩ ?_ ?_
 ·exact le_slots' (by simp only[go_sem,List.length_nil,Int.natCast_zero])
 rintro ⟨i,dn,c⟩ ⟨hi,hdn,hc,hI⟩
 simp only at hi hdn hc hI ⊢
 have fin:∀sl (a b:Int),sl.getD 2 .top=.dat (.int .i64 a)->sl.getD 3 .top=.dat (.int .i64 b)->∀own,(a,b)=R->post Tryz.prog Tryz.f44 (.tup [.dat (.int .i64 R.1),.dat (.int .i64 R.2)]) [] [] .ret ⟨sl,own,0,[]⟩:=fun sl a b h2 h3 own e=>by
  subst e
  refine post_resO (mv':=[]) (.inl rfl) [.tmp 2,.tmp 3] rfl (fun _ h=>h) ?_
  simp only[go_sem,h2,h3]
  refine le_fin ?_ ?_
  ·rfl
  ·simp[AV.under,AV.unders]
 refine sem_of_awp (Γ:=tbl tabSc) tabSc_ok _ _ _ ?_
 cases hd:L.drop i with
 | nil =>
  have hie:=end_of_drop hd hi
  have k1:¬(i:Int)<(L.length:Int):=by omega
  rw[hd]at hI
  simp only[List.map_nil,scanL]at hI
  simp only[go_sem,k1,decide_false,List.length_map]
  exact fin _ _ _ rfl rfl _ hI
 | cons l t =>
  have hlt:=lt_of_drop hd
  have k1:(i:Int)<(L.length:Int):=by omega
  have hk0:(0:Int)<=(i:Int):=by omega
  have hn:D.nth (L.map D.str) i=.str l:=nth_of_drop hd
  have hll:l.length<=100000:=hL2 l (mem_of_drop hd)
  rw[hd,List.map_cons,← drop_cons hd]at hI
  unfold pl41 at hI
  rw[show (fun l=>lineW (wordsW l))=pl41 from rfl]at hI
  simp only[go_sem,k1,hk0,hn,decide_true,List.length_map,Int.toNat_natCast]
  refine call_data (strsR wordsW) (mem_ix 0 rfl) [.str l] _ rfl ⟨l,rfl,by omega,rfl⟩ (.inl rfl) ?_
  obtain⟨w1,w2⟩:=wordsW_len l
  generalize wordsW l=w at *
  simp only[go_sem]
  refine call_data rignR (mem_ix 1 rfl) [.sl none (strsD w)] _ rfl ⟨w,rfl,fun x hx=>(w2 x hx).2,rfl⟩ (.inl rfl) ?_
  cases hsk:skip41 w with
  | true =>
   rw[scan_skip hsk]at hI
   simp only[go_sem]
   refine⟨inR_i64.2 (by omega),(i+1,dn,c),⟨by show i+1<=_;omega,by show dn.length<=i+1;omega,by show c<=i+1;omega,hI⟩,by show L.length - (i+1)<_;omega,le_slots' (by simp only[go_sem,Int.natCast_add,Int.cast_ofNat_Int])⟩
  | false =>
   have hw0:w≠[]:=by rintro rfl;simp[skip41]at hsk
   have hl0:0<w.length:=List.length_pos_iff.2 hw0
   have n0:D.nth (strsD w) 0=.str (w.getD 0 []):=D.nth_map hl0
   have z0:(0:Int)<w.length:=by omega
   have hwx:∀x∈w,x.length<=1000000:=fun x hx=>by have:=(w2 x hx).1;omega
   simp only[go_sem,n0,z0,decide_true,List.length_map]
   refine call_data rkindR (mem_ix 2 rfl) [.str (w.getD 0 [])] _ rfl ⟨_,rfl,rfl⟩ (.inl rfl) ?_
   simp only[go_sem]
   have hkle:=kindS_le (w.getD 0 [])
   refine call_data rformR (mem_ix 3 rfl) [.sl none (strsD w),.int .i64 (kindS (w.getD 0 []))] _ rfl ⟨w,_,rfl,hwx,hkle,rfl⟩ (.inl rfl) ?_
   cases hf:formW w (kindS (w.getD 0 [])) with
   | false =>
    rw[scan_bad hsk hf]at hI
    simp only[go_sem,Bool.not_false]
    refine⟨inR_i64.2 (by omega),?_⟩
    exact fin _ _ _ rfl rfl _ (by rw[← hI];simp)
   | true =>
    have hl2:=form_len hf
    have n1:D.nth (strsD w) 1=.str (w.getD 1 []):=D.nth_map (by omega)
    have z1:(1:Int)<w.length:=by omega
    by_cases hk:kindS (w.getD 0 [])<10
    ·rw[scan_decl hsk hf hk]at hI
     generalize kindS (w.getD 0 [])=kk at *
     have q1:¬(10:Int)<(kk:Int):=by omega
     have q2:(kk:Int)<10:=by omega
     have tkD:(strsD dn).take dn.length=strsD dn:=List.take_of_length_le (by simp)
     simp only[go_sem,Bool.not_true,q1,q2,decide_true,decide_false,n1,z1,tkD,List.length_map]
     refine⟨by omega,by omega,inR_i64.2 (by omega),?_⟩
     have hrow:strsD dn++[D.str (w.getD 1 [])]=strsD (dn++[w.getD 1 []]):=by simp
     have hlen:dn.length+1=(dn++[w.getD 1 []]).length:=by simp
     rw[hrow]
     have hpk:Peek [.row none (strsD (dn++[w.getD 1 []])),.row none [.str (w.getD 1 [])]] (.sl 0 0 (dn.length+1)) (.sl none (strsD (dn++[w.getD 1 []]))):=by
      have:=peek_row0 (own:=[.row none (strsD (dn++[w.getD 1 []])),.row none [.str (w.getD 1 [])]]) (o:=0) (ag:=none) (xs:=strsD (dn++[w.getD 1 []])) rfl
      rwa [List.length_map,← hlen]at this
     refine call_peek beforeR (mem_ix 4 rfl) [.sl none (strsD (dn++[w.getD 1 []])),.int .i64 (dn.length:Int)] (.dat (.bool (decide (w.getD 1 []∈dn)))) ⟨hpk,?_,trivial⟩ ⟨dn++[w.getD 1 []],dn.length,w.getD 1 [],rfl,by simp,by simp;omega,by simp⟩ rfl ?_
     ·rw[show (((dn.length+1:Nat):Int) - 1)=(dn.length:Int) by omega]
      exact peek_dat
     by_cases hin:w.getD 1 []∈dn
     ·rw[if_pos hin]at hI
      simp only[go_sem,eq_true hin,decide_true]
      refine⟨inR_i64.2 (by omega),?_⟩
      exact fin _ _ _ rfl rfl _ (by rw[← hI];simp)
     ·rw[if_neg hin]at hI
      have hkk:kk=3∨kk=4∨(kk≠3/\kk≠4/\kk<3):=by omega
      rcases hkk with rfl|rfl|⟨h3,h4,h5⟩
      ·simp only[go_sem,eq_false hin,decide_false,Int.cast_ofNat_Int,eq_self,decide_true]
       rw[if_pos (by decide)]at hI
       refine⟨inR_i64.2 (by omega),inR_i64.2 (by omega),(i+1,dn++[w.getD 1 []],c+1),⟨by show i+1<=_;omega,by simp;omega,by show c+1<=i+1;omega,hI⟩,by show L.length - (i+1)<_;omega,?_⟩
       refine le_end (own:=[_]) (ex:=[_]) (Nat.zero_le _) ?_ ?_ ?_
       ·simp only[go_sem,List.length_append,List.length_cons,List.length_nil,Int.natCast_add,Int.cast_ofNat_Int]
       ·simp only[go_sem]
       ·simp only[go_sem,Obj.under,AV.unders,AV.under]
      ·simp only[go_sem,eq_false hin,decide_false,Int.cast_ofNat_Int,eq_self,decide_true]
       rw[if_pos (by decide)]at hI
       refine⟨inR_i64.2 (by omega),inR_i64.2 (by omega),(i+1,dn++[w.getD 1 []],c+1),⟨by show i+1<=_;omega,by simp;omega,by show c+1<=i+1;omega,hI⟩,by show L.length - (i+1)<_;omega,?_⟩
       refine le_end (own:=[_]) (ex:=[_]) (Nat.zero_le _) ?_ ?_ ?_
       ·simp only[go_sem,List.length_append,List.length_cons,List.length_nil,Int.natCast_add,Int.cast_ofNat_Int]
       ·simp only[go_sem]
       ·simp only[go_sem,Obj.under,AV.unders,AV.under]
      ·have e3:¬(kk:Int)=3:=by omega
       have e4:¬(kk:Int)=4:=by omega
       simp only[go_sem,eq_false hin,e3,e4,decide_false]
       rw[if_neg (by omega)]at hI
       refine⟨inR_i64.2 (by omega),(i+1,dn++[w.getD 1 []],c),⟨by show i+1<=_;omega,by simp;omega,by show c<=i+1;omega,hI⟩,by show L.length - (i+1)<_;omega,?_⟩
       refine le_end (own:=[_]) (ex:=[_]) (Nat.zero_le _) ?_ ?_ ?_
       ·simp only[go_sem,List.length_append,List.length_cons,List.length_nil,Int.natCast_add,Int.cast_ofNat_Int]
       ·simp only[go_sem]
       ·simp only[go_sem,Obj.under,AV.unders,AV.under]
    ·rw[scan_use hsk hf hk]at hI
     generalize kindS (w.getD 0 [])=kk at *
     have q1:(10:Int)<(kk:Int):=by omega
     have q2:¬(kk:Int)<10:=by omega
     by_cases hc0:c=0
     ·rw[if_pos hc0]at hI
      have hc0':(c:Int)=0:=by omega
      simp only[go_sem,Bool.not_true,q1,q2,hc0',decide_true,decide_false]
      refine⟨inR_i64.2 (by omega),?_⟩
      exact fin _ _ _ rfl rfl _ (by rw[← hI];simp)
     ·have hc0':¬(c:Int)=0:=by omega
      have e3:¬(kk:Int)=3:=by omega
      have e4:¬(kk:Int)=4:=by omega
      rw[if_neg hc0]at hI
      simp only[go_sem,Bool.not_true,q1,q2,hc0',e3,e4,decide_true,decide_false]
      refine⟨inR_i64.2 (by omega),(i+1,dn,c),⟨by show i+1<=_;omega,by show dn.length<=i+1;omega,by show c<=i+1;omega,hI⟩,by show L.length - (i+1)<_;omega,le_slots' (by simp only[go_sem,Int.natCast_add,Int.cast_ofNat_Int])⟩
end Go.AM
namespace Go.AM
open Go Go.Proofs
def rdecR(ds:List D)(v:AV)(ob:List Obj):Prop:=∃L:List Str,ds=[.sl none (strsD L)]/\L.length<=100000/\(∀x∈L,x.length<=100000)/\(∀l∈L,pl41 l≠.bad) /\
 v=.agg [.sl 0 0 (declL (L.map pl41) sys0).pools.length,.sl 1 0 (declL (L.map pl41) sys0).locks.length,.sl 2 0 (declL (L.map pl41) sys0).classes.length] /\
 ob=[.row (some 3) ((declL (L.map pl41) sys0).pools.map poolD),.row none (strsD (declL (L.map pl41) sys0).locks),.tab 4 (tabC (fun _=>.nils) 0 (declL (L.map pl41) sys0).classes)]
abbrev tabDc:List (Nat×Contract):=[(46,dataC (strsR wordsW)),(47,dataC rignR),(48,dataC rkindR),(50,dataC numR)]
theorem tabDc_ok:OkG Tryz.prog (tbl tabDc):=okG_cons words41_ok (okG_cons rignored_ok (okG_cons rkind_ok (okG_cons number_ok okG_nil)))
theorem tabDc_dat(g:Nat)(C:Contract)(h:(g,C)∈tabDc):∃R,C=dataC R:=by
 simp only[tabDc,List.mem_cons,Prod.mk.injEq,List.not_mem_nil,or_false]at h
 rcases h with⟨_,h⟩|⟨_,h⟩|⟨_,h⟩|⟨_,h⟩ <;> exact⟨_,h⟩
theorem pfDc:PureFns (tbl tabDc) [50]:=pure_of fun g C h _=>tabDc_dat g C h
theorem gfDc:GrowFns (tbl tabDc) [50]:=grow_of fun g C h _=>tabDc_dat g C h
theorem decl_skip{w:List Str}(h:skip41 w=true)(r:List PL)(s:PSys):declL (lineW w :: r) s=declL r s:=by
 unfold lineW;rw[h];rfl
theorem decl_decl{w:List Str}(h:skip41 w=false)(hf:formW w (kindS (w.getD 0 []))=true)(hk:kindS (w.getD 0 [])<10)(r:List PL)(s:PSys) :
  declL (lineW w :: r) s=declL r (addD s (kindS (w.getD 0 [])) (w.getD 1 []) (if kindS (w.getD 0 [])=2 then 0 else numN (w.getD 2 [])) (if kindS (w.getD 0 [])=1 then numN (w.getD 3 []) else 0)):=by
 unfold lineW lineK;rw[h,hf];simp only[Bool.false_eq_true,if_false,if_true,hk,declL]
theorem decl_use{w:List Str}(h:skip41 w=false)(hf:formW w (kindS (w.getD 0 []))=true)(hk:¬kindS (w.getD 0 [])<10)(r:List PL)(s:PSys):declL (lineW w :: r) s=declL r s:=by
 unfold lineW lineK;rw[h,hf];simp only[Bool.false_eq_true,if_false,if_true,hk,declL]
theorem form_good{w:List Str}(h:skip41 w=false)(hb:lineW w≠.bad):formW w (kindS (w.getD 0 []))=true:=by
 cases hf:formW w (kindS (w.getD 0 [])) with
 | true=>rfl
 | false=>exact absurd (by unfold lineW lineK;rw[h,hf];rfl) hb
def decO(s:PSys):List Obj:=[.box [.nils,.nils,.nils],.box [.sl 2 0 s.pools.length,.sl 3 0 s.locks.length,.sl 4 0 s.classes.length],.row (some 3) (s.pools.map poolD),.row none (strsD s.locks),.tab 4 (tabC (fun _=>.nils) 0 s.classes)]
theorem rdecl_ok:OkF Tryz.prog 45 (madeC rdecR):=by
 refine okF_made Tryz.func45 rfl (by decide) ?_
 rintro ds v ob ⟨L,rfl,hL1,hL2,hL3,rfl,rfl⟩
 generalize hR:declL (L.map pl41) sys0=R
 refine sem_of_awpK [2] (Γ:=tbl tabDc) tabDc_ok _ _ _ ?_
 simp only[go_sem,Tryz.ntmps45]
 refine sem_le (le_addnilR 1 0 (some 3) rfl rfl (Nat.zero_le _)) ?_
 refine sem_le (le_addnilR 1 1 none rfl rfl (Nat.zero_le _)) ?_
 refine sem_le (le_addnilR 1 2 (some 4) rfl rfl (Nat.zero_le _)) ?_
 simp only[go_sem]
 refine sem_le (le_tab 4 (k:=4) (M:=[]) (by decide) (fun r h=>by cases h) rfl) ?_
 simp only[go_sem,List.flatten_nil,List.map_nil]
 refine sem_of_awp (Γ:=tbl tabDc) tabDc_ok _ _ _ ?_
 simp only[go_sem]
 refine sem_loop (fun p:Nat×PSys=>⟨slotsOf 83 [(0,.dat (.sl none (strsD L))),(2,.ptr 0 0 0),(3,.ptr 1 0 0),(4,.dat (.int .i64 p.1))],decO p.2,0,[]⟩)
  (fun p=>p.1<=L.length/\p.2.pools.length<=p.1/\p.2.locks.length<=p.1/\p.2.classes.length<=p.1/\declL ((L.drop p.1).map pl41) p.2=R) (fun p=>L.length - p.1) (0,sys0) ⟨Nat.zero_le _,Nat.le_refl _,Nat.le_refl _,Nat.le_refl _,hR⟩ ?_ ?_
 ·exact le_slots' (by simp only[go_sem,List.length_nil,Int.natCast_zero])
 rintro ⟨i,s⟩ ⟨hi,hp,hl,hc,hI⟩
 simp only at hi hp hl hc hI ⊢
 refine sem_of_awp (Γ:=tbl tabDc) tabDc_ok _ _ _ ?_
 cases hd:L.drop i with
 | nil =>
  have hie:=end_of_drop hd hi
  have k1:¬(i:Int)<(L.length:Int):=by omega
  rw[hd]at hI
  simp only[List.map_nil,declL]at hI
  subst hI
  simp only[go_sem,k1,decide_false,List.length_map,decO]
  refine post_resO (mv':=[]) (.inl rfl) [.cell 2 26] rfl (fun _ h=>h) ?_
  simp only[go_sem]
  refine Le.trans (le_dead 0) ?_
  refine Le.trans (le_dead 1) ?_
  simp only[go_sem]
  refine Le.trans (le_swp (s':=[.agg [.sl 0 0 s.pools.length,.sl 3 0 s.locks.length,.sl 4 0 s.classes.length]]) (own':=[.row (some 3) (s.pools.map poolD),.dead,.dead,.row none (strsD s.locks),.tab 4 (AV.rens (swp 0 2) (tabC (fun _=>.nils) 0 s.classes))]) 0 2 (by simp) (by simp) rfl rfl) ?_
  rw[tabC_rens]
  refine Le.trans (le_swp (s':=[.agg [.sl 0 0 s.pools.length,.sl 1 0 s.locks.length,.sl 4 0 s.classes.length]]) (own':=[.row (some 3) (s.pools.map poolD),.row none (strsD s.locks),.dead,.dead,.tab 4 (AV.rens (swp 1 3) (tabC (fun _=>.nils) 0 s.classes))]) 1 3 (by simp) (by simp) rfl rfl) ?_
  rw[tabC_rens]
  refine Le.trans (le_swp (s':=[.agg [.sl 0 0 s.pools.length,.sl 1 0 s.locks.length,.sl 2 0 s.classes.length]]) (own':=[.row (some 3) (s.pools.map poolD),.row none (strsD s.locks),.tab 4 (AV.rens (swp 2 4) (tabC (fun _=>.nils) 0 s.classes)),.dead,.dead]) 2 4 (by simp) (by simp) rfl rfl) ?_
  rw[tabC_rens]
  refine le_end (own:=[_,_,_]) (ex:=[_,_]) (Nat.zero_le _) ?_ ?_ ?_
  ·simp only[go_sem]
  ·simp only[go_sem,AV.unders,AV.under,List.length_cons,List.length_nil]
  ·simp only[go_sem,AV.unders,AV.under,List.length_cons,List.length_nil,tabC_under,Obj.allUnder,Obj.under]
 | cons l t =>
  have hlt:=lt_of_drop hd
  have k1:(i:Int)<(L.length:Int):=by omega
  have hk0:(0:Int)<=(i:Int):=by omega
  have hn:D.nth (L.map D.str) i=.str l:=nth_of_drop hd
  have hll:l.length<=100000:=hL2 l (mem_of_drop hd)
  have hnb:=hL3 l (mem_of_drop hd)
  rw[hd,List.map_cons,← drop_cons hd]at hI
  unfold pl41 at hI hnb
  rw[show (fun l=>lineW (wordsW l))=pl41 from rfl]at hI
  simp only[go_sem,k1,hk0,hn,decide_true,List.length_map,Int.toNat_natCast]
  refine call_data (strsR wordsW) (mem_ix 0 rfl) [.str l] _ rfl ⟨l,rfl,by omega,rfl⟩ (.inl rfl) ?_
  obtain⟨w1,w2⟩:=wordsW_len l
  generalize wordsW l=w at *
  simp only[go_sem]
  refine call_data rignR (mem_ix 1 rfl) [.sl none (strsD w)] _ rfl ⟨w,rfl,fun x hx=>(w2 x hx).2,rfl⟩ (.inl rfl) ?_
  cases hsk:skip41 w with
  | true =>
   rw[decl_skip hsk]at hI
   simp only[go_sem]
   refine⟨inR_i64.2 (by omega),(i+1,s),⟨by show i+1<=_;omega,Nat.le_succ_of_le hp,Nat.le_succ_of_le hl,Nat.le_succ_of_le hc,hI⟩,by show L.length - (i+1)<_;omega,le_slots' (by simp only[go_sem,Int.natCast_add,Int.cast_ofNat_Int])⟩
  | false =>
   have hf:=form_good hsk hnb
   have hl2:=form_len hf
   have hw0:w≠[]:=by rintro rfl;simp[skip41]at hsk
   have hl0:0<w.length:=List.length_pos_iff.2 hw0
   have n0:D.nth (strsD w) 0=.str (w.getD 0 []):=D.nth_map hl0
   have z0:(0:Int)<w.length:=by omega
   have hwx:∀x∈w,x.length<=1000000:=fun x hx=>by have:=(w2 x hx).1;omega
   have n1:D.nth (strsD w) 1=.str (w.getD 1 []):=D.nth_map (by omega)
   have z1:(1:Int)<w.length:=by omega
   simp only[go_sem,n0,z0,decide_true,List.length_map]
   refine call_data rkindR (mem_ix 2 rfl) [.str (w.getD 0 [])] _ rfl ⟨_,rfl,rfl⟩ (.inl rfl) ?_
   simp only[go_sem]
   have hkle:=kindS_le (w.getD 0 [])
   by_cases hk:kindS (w.getD 0 [])<10
   ·rw[decl_decl hsk hf hk]at hI
    generalize kindS (w.getD 0 [])=kk at *
    have hkk:kk=0∨kk=1∨kk=2∨kk=3∨kk=4:=by omega
    have hwl:w.length=wantK kk w:=by
     unfold formW at hf
     simp only[Bool.and_eq_true,decide_eq_true_eq]at hf
     exact hf.1.1.1.2
    have gx:∀j,(w.getD j []).length<=1000000:=fun j=>by
     rw[List.getD_eq_getElem?_getD]
     cases hg:w[j]? with
     | none=>simp
     | some y=>exact hwx y (List.mem_of_getElem? hg)
    rcases hkk with rfl|rfl|rfl|rfl|rfl
    ·rw[formW_0]at hf;cases hf
    ·simp only[wantK,if_true]at hwl
     have n2:D.nth (strsD w) 2=.str (w.getD 2 []):=D.nth_map (by omega)
     have z2:(2:Int)<w.length:=by omega
     have n3:D.nth (strsD w) 3=.str (w.getD 3 []):=D.nth_map (by omega)
     have z3:(3:Int)<w.length:=by omega
     simp only[addD,if_true,if_false,Nat.reduceEqDiff,decide_true,decide_false]at hI
     simp only[go_sem,Int.natCast_one,Int.cast_ofNat_Int,eq_self,decide_true,decide_false]
     refine sem_drawU [(17,[1])] [(15,[2])] (pf:=[50]) (mf:=[]) mixed tabDc_ok pfDc gfDc noMk (ones [0,1,2,3,4,5,6,7,8,9,10,11,12,13,14,15,16,17]) (by kernel_rfl) ?_
     simp only[go_sem,n1,z1,n2,z2,n3,z3,decO,List.length_map]
     refine call_data numR (mem_ix 3 rfl) [.str (w.getD 2 [])] _ rfl ⟨_,rfl,gx 2,rfl⟩ (.inl rfl) ?_
     simp only[go_sem,n1,z1,n2,z2,n3,z3,List.length_map]
     refine call_data numR (mem_ix 3 rfl) [.str (w.getD 3 [])] _ rfl ⟨_,rfl,gx 3,rfl⟩ (.inl rfl) ?_
     simp only[go_sem,n1,z1,n2,z2,n3,z3,List.length_map]
     refine⟨by omega,by omega,inR_i64.2 (by omega),(i+1,⟨s.pools++[⟨w.getD 1 [],numN (w.getD 2 []),numN (w.getD 3 [])⟩],s.locks,s.classes⟩),⟨by show i+1<=_;omega,by simp;omega,Nat.le_succ_of_le hl,Nat.le_succ_of_le hc,hI⟩,by show L.length - (i+1)<_;omega,?_⟩
     have tk1:(s.pools.map poolD).take s.pools.length=s.pools.map poolD:=List.take_of_length_le (by simp)
     have tk2:(strsD s.locks).take s.locks.length=strsD s.locks:=List.take_of_length_le (by simp)
     simp only[decO,tk1,tk2,List.map_append,List.map_cons,List.map_nil,List.length_append,List.length_cons,List.length_nil]
     refine le_end (own:=[_,_,_,_,_]) (ex:=[_]) (Nat.zero_le _) ?_ ?_ ?_
     ·simp only[go_sem,Int.natCast_add,Int.cast_ofNat_Int]
     ·simp only[go_sem,AV.unders,AV.under,List.length_cons,List.length_nil]
     ·simp only[go_sem,AV.unders,AV.under,List.length_cons,List.length_nil,tabC_under,Obj.allUnder,Obj.under]
    ·simp only[wantK,if_true,if_false,Nat.reduceEqDiff,or_true,true_or,or_false,or_self]at hwl
     simp only[addD,if_true,if_false,Nat.reduceEqDiff,decide_true,decide_false]at hI
     simp only[go_sem,Int.natCast_one,Int.cast_ofNat_Int,eq_self,decide_true,decide_false]
     refine sem_drawU [(8,[1])] [(6,[3])] (pf:=[50]) (mf:=[]) mixed tabDc_ok pfDc gfDc noMk (ones [0,1,2,3,4,5,6,7,8]) (by kernel_rfl) ?_
     simp only[go_sem,n1,z1,decO,List.length_map]
     refine⟨by omega,by omega,inR_i64.2 (by omega),(i+1,⟨s.pools,s.locks++[w.getD 1 []],s.classes⟩),⟨by show i+1<=_;omega,Nat.le_succ_of_le hp,by simp;omega,Nat.le_succ_of_le hc,hI⟩,by show L.length - (i+1)<_;omega,?_⟩
     have tk1:(s.pools.map poolD).take s.pools.length=s.pools.map poolD:=List.take_of_length_le (by simp)
     have tk2:(strsD s.locks).take s.locks.length=strsD s.locks:=List.take_of_length_le (by simp)
     simp only[decO,tk1,tk2,List.map_append,List.map_cons,List.map_nil,List.length_append,List.length_cons,List.length_nil]
     refine le_end (own:=[_,_,_,_,_]) (ex:=[_]) (Nat.zero_le _) ?_ ?_ ?_
     ·simp only[go_sem,Int.natCast_add,Int.cast_ofNat_Int]
     ·simp only[go_sem,AV.unders,AV.under,List.length_cons,List.length_nil]
     ·simp only[go_sem,AV.unders,AV.under,List.length_cons,List.length_nil,tabC_under,Obj.allUnder,Obj.under]
    ·simp only[wantK,if_true,if_false,Nat.reduceEqDiff,or_true,true_or,or_false,or_self]at hwl
     have n2:D.nth (strsD w) 2=.str (w.getD 2 []):=D.nth_map (by omega)
     have z2:(2:Int)<w.length:=by omega
     simp only[addD,if_true,if_false,Nat.reduceEqDiff,decide_true,decide_false]at hI
     simp only[go_sem,Int.natCast_one,Int.cast_ofNat_Int,eq_self,decide_true,decide_false]
     refine sem_drawU [(13,[1])] [(11,[4])] (pf:=[50]) (mf:=[]) mixed tabDc_ok pfDc gfDc noMk (ones [0,1,2,3,4,5,6,7,8,9,10,11,12,13]) (by kernel_rfl) ?_
     simp only[go_sem,n1,z1,n2,z2,decO,List.length_map]
     refine call_data numR (mem_ix 3 rfl) [.str (w.getD 2 [])] _ rfl ⟨_,rfl,gx 2,rfl⟩ (.inl rfl) ?_
     simp only[go_sem,n1,z1,n2,z2,List.length_map]
     have htl:=tabC_len (fun _=>.nils) s.classes 0
     refine⟨by rw[tabC_len];exact Nat.le_refl _,by omega,by omega,inR_i64.2 (by omega),(i+1,⟨s.pools,s.locks,s.classes++[⟨w.getD 1 [],numN (w.getD 2 []),false,[]⟩]⟩),⟨by show i+1<=_;omega,Nat.le_succ_of_le hp,Nat.le_succ_of_le hl,by simp;omega,hI⟩,by show L.length - (i+1)<_;omega,?_⟩
     have e1:AV.kills 4 (List.take (s.classes.length*4) (tabC (fun _=>.nils) 0 s.classes)++[.dat (.str (w.getD 1 [])),.dat (.int .i64 (numN (w.getD 2 []))),.dat (.bool false),.nils])=tabC (fun _=>.nils) 0 (s.classes++[⟨w.getD 1 [],numN (w.getD 2 []),false,[]⟩]):=by
      rw[List.take_of_length_le (by omega),← tabC_kills 4 (s.classes++_) 0,tabC_snoc]
     have tk1:(s.pools.map poolD).take s.pools.length=s.pools.map poolD:=List.take_of_length_le (by simp)
     have tk2:(strsD s.locks).take s.locks.length=strsD s.locks:=List.take_of_length_le (by simp)
     simp only[decO,tk1,tk2,List.map_append,List.map_cons,List.map_nil,List.length_append,List.length_cons,List.length_nil,e1]
     refine le_end (own:=[_,_,_,_,_]) (ex:=[_]) (Nat.zero_le _) ?_ ?_ ?_
     ·simp only[go_sem,Int.natCast_add,Int.cast_ofNat_Int]
     ·simp only[go_sem,AV.unders,AV.under,List.length_cons,List.length_nil]
     ·simp only[go_sem,AV.unders,AV.under,List.length_cons,List.length_nil,tabC_under,Obj.allUnder,Obj.under]
    ·simp only[wantK,if_true,if_false,Nat.reduceEqDiff,or_true,true_or,or_false,or_self]at hwl
     have n2:D.nth (strsD w) 2=.str (w.getD 2 []):=D.nth_map (by omega)
     have z2:(2:Int)<w.length:=by omega
     simp only[addD,if_true,if_false,Nat.reduceEqDiff,decide_true,decide_false]at hI
     simp only[go_sem,Int.natCast_one,Int.cast_ofNat_Int,eq_self,decide_true,decide_false]
     refine sem_drawU [(13,[1])] [(11,[4])] (pf:=[50]) (mf:=[]) mixed tabDc_ok pfDc gfDc noMk (ones [0,1,2,3,4,5,6,7,8,9,10,11,12,13]) (by kernel_rfl) ?_
     simp only[go_sem,n1,z1,n2,z2,decO,List.length_map]
     refine call_data numR (mem_ix 3 rfl) [.str (w.getD 2 [])] _ rfl ⟨_,rfl,gx 2,rfl⟩ (.inl rfl) ?_
     simp only[go_sem,n1,z1,n2,z2,List.length_map]
     have htl:=tabC_len (fun _=>.nils) s.classes 0
     refine⟨by rw[tabC_len];exact Nat.le_refl _,by omega,by omega,inR_i64.2 (by omega),(i+1,⟨s.pools,s.locks,s.classes++[⟨w.getD 1 [],numN (w.getD 2 []),true,[]⟩]⟩),⟨by show i+1<=_;omega,Nat.le_succ_of_le hp,Nat.le_succ_of_le hl,by simp;omega,hI⟩,by show L.length - (i+1)<_;omega,?_⟩
     have e1:AV.kills 4 (List.take (s.classes.length*4) (tabC (fun _=>.nils) 0 s.classes)++[.dat (.str (w.getD 1 [])),.dat (.int .i64 (numN (w.getD 2 []))),.dat (.bool true),.nils])=tabC (fun _=>.nils) 0 (s.classes++[⟨w.getD 1 [],numN (w.getD 2 []),true,[]⟩]):=by
      rw[List.take_of_length_le (by omega),← tabC_kills 4 (s.classes++_) 0,tabC_snoc]
     have tk1:(s.pools.map poolD).take s.pools.length=s.pools.map poolD:=List.take_of_length_le (by simp)
     have tk2:(strsD s.locks).take s.locks.length=strsD s.locks:=List.take_of_length_le (by simp)
     simp only[decO,tk1,tk2,List.map_append,List.map_cons,List.map_nil,List.length_append,List.length_cons,List.length_nil,e1]
     refine le_end (own:=[_,_,_,_,_]) (ex:=[_]) (Nat.zero_le _) ?_ ?_ ?_
     ·simp only[go_sem,Int.natCast_add,Int.cast_ofNat_Int]
     ·simp only[go_sem,AV.unders,AV.under,List.length_cons,List.length_nil]
     ·simp only[go_sem,AV.unders,AV.under,List.length_cons,List.length_nil,tabC_under,Obj.allUnder,Obj.under]
   ·rw[decl_use hsk hf hk]at hI
    generalize kindS (w.getD 0 [])=kk at *
    have e1:¬(kk:Int)=1:=by omega
    have e2:¬(kk:Int)=2:=by omega
    have e3:¬(kk:Int)=3:=by omega
    have e4:¬(kk:Int)=4:=by omega
    simp only[go_sem,e1,e2,e3,e4,decide_false]
    refine⟨inR_i64.2 (by omega),(i+1,s),⟨by show i+1<=_;omega,Nat.le_succ_of_le hp,Nat.le_succ_of_le hl,Nat.le_succ_of_le hc,hI⟩,by show L.length - (i+1)<_;omega,le_slots' (by simp only[go_sem,Int.natCast_add,Int.cast_ofNat_Int])⟩
end Go.AM
namespace Go.AM
open Go Go.Proofs
def clsN:List PL->Nat
 | []=>0
 | .decl k _ _ _ :: r=>(if 3<=k then 1 else 0)+clsN r
 | .skip :: r=>clsN r
 | .bad :: r=>clsN r
 | .use _ _ _ _ :: r=>clsN r
theorem declL_clsN:∀(ls:List PL) (s:PSys),(∀l∈ls,kindOk l)->(declL ls s).classes.length=s.classes.length+clsN ls
 | [],s,_=>rfl
 | .decl k x a b :: r,s,h=>by
  have hk:1<=k/\k<=4:=h (.decl k x a b) (by simp)
  simp only[declL,clsN]
  rw[declL_clsN r _ fun l hl=>h l (by simp[hl]),addD_len hk]
  split <;> omega
 | .skip :: r,s,h=>declL_clsN r s fun l hl=>h l (by simp[hl])
 | .bad :: r,s,h=>declL_clsN r s fun l hl=>h l (by simp[hl])
 | .use _ _ _ _ :: r,s,h=>declL_clsN r s fun l hl=>h l (by simp[hl])
theorem declL_len:∀(ls:List PL) (s:PSys) (n:Nat),s.pools.length<=n/\s.locks.length<=n/\s.classes.length<=n->(declL ls s).pools.length<=n+ls.length/\(declL ls s).locks.length<=n+ls.length/\(declL ls s).classes.length<=n+ls.length
 | [],s,n,h=>h
 | .decl k x a b :: r,s,n,h=>by
  simp only[declL,List.length_cons]
  have h2:=@addD_cls s k x a b
  have:=declL_len r (addD s k x a b) (n+1) ⟨by omega,by omega,by omega⟩
  omega
 | .skip :: r,s,n,h=>by simp only[declL,List.length_cons];have:=declL_len r s n h;omega
 | .bad :: r,s,n,h=>by simp only[declL,List.length_cons];have:=declL_len r s n h;omega
 | .use _ _ _ _ :: r,s,n,h=>by simp only[declL,List.length_cons];have:=declL_len r s n h;omega
theorem declL_st:∀(ls:List PL) (s:PSys),(∀c∈s.classes,c.steps=[])->∀c∈(declL ls s).classes,c.steps=[]
 | [],s,h=>h
 | .decl k x a b :: r,s,h=>declL_st r _ (addD_st h)
 | .skip :: r,s,h=>declL_st r s h
 | .bad :: r,s,h=>declL_st r s h
 | .use _ _ _ _ :: r,s,h=>declL_st r s h
theorem scan_nobad:∀(ls:List PL) (i:Nat) (dn:List Str) (c:Nat),(scanL ls i dn c).2=0->∀l∈ls,l≠.bad
 | [],_,_,_,_,l,hl=>by cases hl
 | .skip :: r,i,dn,c,h,l,hl=>by
  rcases List.mem_cons.1 hl with rfl|hl
  ·intro e;cases e
  ·exact scan_nobad r _ _ _ h l hl
 | .bad :: r,i,dn,c,h,l,hl=>by simp[scanL]at h
 | .decl k x a b :: r,i,dn,c,h,l,hl=>by
  simp only[scanL]at h
  split at h
  ·simp at h
  ·rcases List.mem_cons.1 hl with rfl|hl
   ·intro e;cases e
   ·exact scan_nobad r _ _ _ h l hl
 | .use _ _ _ _ :: r,i,dn,c,h,l,hl=>by
  simp only[scanL]at h
  split at h
  ·simp at h
  ·rcases List.mem_cons.1 hl with rfl|hl
   ·intro e;cases e
   ·exact scan_nobad r _ _ _ h l hl
theorem tabC_shifts(k:Nat):∀(l:List PCls) (i:Nat),AV.shifts k (tabC (fun _=>.nils) i l)=tabC (fun _=>.nils) i l
 | [],_=>rfl
 | c :: r,i=>by simp only[tabC,AV.shifts,AV.shift];rw[tabC_shifts k r (i+1)]
structure P3J (S:PSys) (L:List PL) (R:(Int×Int) ⊕ PSys) (i c:Nat) (s:PSys) (cur:Nat):Prop where
 run:stepsL (L.drop i) i c s=R
 scn:∃dn,(scanL (L.drop i) i dn c).2=0
 num:c+clsN (L.drop i)=S.classes.length
 hp:s.pools=S.pools
 hl:s.locks=S.locks
 hc:s.classes.length=S.classes.length
 out:∀j,j≠cur->c<=j+1->stp s j=[]
 ne:cur<S.classes.length->stp s cur≠[]
 cl:cur=S.classes.length∨cur+1<=c
 len:(stp s cur).length<=i
theorem P3J.skip{S:PSys}{L:List PL}{R:(Int×Int) ⊕ PSys}{i c:Nat}{s:PSys}{cur:Nat}{r:List PL}(h:P3J S L R i c s cur)(hd:L.drop i=.skip :: r):P3J S L R (i+1) c s cur:=by
 obtain⟨h1,⟨dn,h2⟩,h3,h4,h5,h6,h7,h8,h9,h10⟩:=h
 have hd1:=drop_cons hd
 rw[hd]at h1 h2 h3
 simp only[stepsL,scanL,clsN]at h1 h2 h3
 exact⟨by rw[hd1];exact h1,⟨dn,by rw[hd1];exact h2⟩,by rw[hd1];exact h3,h4,h5,h6,h7,h8,h9,Nat.le_succ_of_le h10⟩
theorem P3J.decl{S:PSys}{L:List PL}{R:(Int×Int) ⊕ PSys}{i c:Nat}{s:PSys}{cur:Nat}{r:List PL}{k:Nat}{x:Str}{a b:Int}(h:P3J S L R i c s cur)(hd:L.drop i=.decl k x a b :: r):P3J S L R (i+1) (if 3<=k then c+1 else c) s cur:=by
 obtain⟨h1,⟨dn,h2⟩,h3,h4,h5,h6,h7,h8,h9,h10⟩:=h
 have hd1:=drop_cons hd
 rw[hd]at h1 h2 h3
 simp only[stepsL,scanL,clsN]at h1 h2 h3
 split at h2
 ·simp at h2
 refine⟨by rw[hd1];exact h1,⟨_,by rw[hd1];exact h2⟩,?_,h4,h5,h6,?_,h8,?_,Nat.le_succ_of_le h10⟩
 ·rw[hd1,← h3];split <;> omega
 ·intro j hj hc
  refine h7 j hj ?_
  split at hc <;> omega
 ·rcases h9 with h9|h9
  ·exact .inl h9
  ·refine .inr ?_
   split <;> omega
theorem P3J.use0{S:PSys}{L:List PL}{R:(Int×Int) ⊕ PSys}{i c:Nat}{s:PSys}{cur:Nat}{r:List PL}{k:Nat}{n:Int}{d:Bool}{x:Str}(h:P3J S L R i c s cur)(hd:L.drop i=.use k n d x :: r) :
  1<=c/\c - 1<s.classes.length/\(c - 1=cur∨stp s (c - 1)=[])/\(stp s (c - 1)).length<=i:=by
 obtain⟨h1,⟨dn,h2⟩,h3,h4,h5,h6,h7,h8,h9,h10⟩:=h
 rw[hd]at h2 h3
 simp only[scanL,clsN]at h2 h3
 split at h2
 ·simp at h2
 rename_i hc0
 have hc1:1<=c:=by omega
 have key:c - 1=cur∨stp s (c - 1)=[]:=by
  by_cases e:c - 1=cur
  ·exact .inl e
  ·exact .inr (h7 (c - 1) e (by omega))
 refine⟨hc1,by rw[h6];omega,key,?_⟩
 rcases key with e|e
 ·rw[e];exact h10
 ·rw[e];exact Nat.zero_le _
theorem P3J.use{S:PSys}{L:List PL}{R:(Int×Int) ⊕ PSys}{i c:Nat}{s:PSys}{cur:Nat}{r:List PL}{k:Nat}{n:Int}{d:Bool}{x:Str}(h:P3J S L R i c s cur)(hd:L.drop i=.use k n d x :: r)(hf:¬findE s k x<0) :
  P3J S L R (i+1) c (addS s (c - 1) ⟨k,findE s k x,n,d⟩) (c - 1):=by
 obtain⟨hc1,hlt,hkey,hlen⟩:=h.use0 hd
 obtain⟨h1,⟨dn,h2⟩,h3,h4,h5,h6,h7,h8,h9,h10⟩:=h
 have hd1:=drop_cons hd
 rw[hd]at h1 h2 h3
 simp only[stepsL,scanL,clsN]at h1 h2 h3
 rw[if_neg hf]at h1
 rw[if_neg (by omega)]at h2
 refine⟨by rw[hd1];exact h1,⟨_,by rw[hd1];exact h2⟩,by rw[hd1];exact h3,h4,h5,(addS_len _ _ _).trans h6,?_,?_,.inr (by omega),?_⟩
 ·intro j hj hc
  rw[addS_stp _ _ _ hlt,if_neg hj]
  by_cases e:j=cur
  ·subst e
   rcases h9 with h9|h9
   ·exact stp_out (by omega)
   ·omega
  ·exact h7 j e hc
 ·intro _
  rw[addS_stp _ _ _ hlt,if_pos rfl];simp
 ·rw[addS_stp _ _ _ hlt,if_pos rfl,List.length_append,List.length_cons,List.length_nil];omega
theorem P3J.bad{S:PSys}{L:List PL}{R:(Int×Int) ⊕ PSys}{i c:Nat}{s:PSys}{cur:Nat}{r:List PL}{k:Nat}{n:Int}{d:Bool}{x:Str}(h:P3J S L R i c s cur)(hd:L.drop i=.use k n d x :: r)(hf:findE s k x<0):R=.inl (((i+1:Nat):Int),5):=by
 have h1:=h.run
 rw[hd]at h1
 simp only[stepsL]at h1
 rw[if_pos hf]at h1
 exact h1.symm
theorem peek_cells{own:List Obj}{o:Nat}{s:PSys}{cur:Nat}(ho:own.getD o .dead=.row (some 4) ((stp s cur).map stepD)):∀(l:List PCls) (i:Nat),(∀j,j<l.length->stp s (i+j)=(l.getD j default).steps)->PeekL own (tabC (cellK o s cur) i l) (l.map clsF).flatten
 | [],_,_=>trivial
 | c :: r,i,h=>by
  have h0:=h 0 (by simp)
  simp only[Nat.add_zero,List.getD_cons_zero]at h0
  rw[List.map_cons,List.flatten_cons]
  simp only[clsF,tabC]
  refine⟨peek_dat,peek_dat,peek_dat,?_,peek_cells ho r (i+1) fun j hj=>by
   have h1:=h (j+1) (Nat.succ_lt_succ hj)
   rwa [show i+(j+1)=i+1+j by omega,List.getD_cons_succ]at h1⟩
  unfold cellK
  by_cases e:i=cur
  ·subst e
   rw[if_pos rfl]
   have:=peek_row0 (own:=own) ho
   rw[List.length_map,h0]at this
   rw[h0]
   exact this
  ·rw[if_neg e,h0]
   split
   ·rename_i he
    rw[he]
    exact peek_nils
   ·exact peek_dat
end Go.AM

