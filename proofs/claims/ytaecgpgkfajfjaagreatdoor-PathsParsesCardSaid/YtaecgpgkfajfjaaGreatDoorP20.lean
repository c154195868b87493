/- Own work over the model of the kit. -/
import Derived.Test.YtaecgpgkfajfjaaGreatDoorP17
import Derived.Test.YtaecgpgkfajfjaaGreatDoorP16
import Derived.Test.YtaecgpgkfajfjaaGreatDoorP14
import Derived.Test.YtaecgpgkfajfjaaGreatDoorP19
set_option linter.unnecessarySimpa false
set_option linter.unusedSimpArgs false
set_option linter.unusedVariables false
set_option maxHeartbeats 8000000
set_option maxRecDepth 8000
namespace Go.AM
open Go Go.Proofs
abbrev sysO(s:PSys):Obj:=.box [.dat (.sl (some 3) (s.pools.map poolD)),.dat (.sl none (s.locks.map .str)),.dat (.sl (some 4) (s.classes.map clsD))]
abbrev tabRK:List (Nat×Contract):=[(34,dataC namesR),(35,dataC isNmR),(36,dataC beforeR),(37,dataC classR)]
theorem tabRK_ok:OkG Tryz.prog (tbl tabRK):=okG_cons rnames_ok (okG_cons rIsName_ok (okG_cons before_ok (okG_cons rclass_ok okG_nil)))
theorem rcheck_ok:OkF Tryz.prog 16 (dataC checkR):=by
 refine okF_data Tryz.func16 rfl (by decide) ?_
 rintro ds v ⟨s,rfl,hf,rfl⟩
 generalize hv:checkE s=V
 have hpu:PureFns (tbl tabRK) [37]:=pure_of (by
  intro g C h hg
  simp only[List.mem_singleton]at hg
  subst hg
  simp only[tabRK,List.mem_cons,Prod.mk.injEq,List.mem_nil_iff,or_false]at h
  rcases h with⟨h,_⟩|⟨h,_⟩|⟨h,_⟩|⟨_,h⟩
  ·simp at h
  ·simp at h
  ·simp at h
  ·exact⟨_,h⟩)
 refine sem_of_awp (Γ:=tbl tabRK) tabRK_ok _ _ _ ?_
 have fin:∀s own (b c:Int),b=c->s.getD 2 .top=.dat (.int .i64 b)->post Tryz.prog Tryz.f16 (.dat (.int .i64 c)) [] [] .ret ⟨s,own,0,[]⟩:=fun s own b c e h=>by
  subst e
  exact post_data (.inl rfl) [2] rfl trivial (by simp only[tmpsOf,h];rfl)
 have hsm:=hf.small
 unfold checkE at hv
 simp only[go_sem,Tryz.ntmps16,sysD]
 by_cases h1:6<(s.pools.length:Int)
 ·simp only[go_sem,h1]
  rw[if_pos (.inl h1)]at hv
  exact fin _ _ _ _ hv (by rfl)
 by_cases h2:4<(s.locks.length:Int)
 ·simp only[go_sem,h1,h2]
  rw[if_pos (.inr (.inl h2))]at hv
  exact fin _ _ _ _ hv (by rfl)
 by_cases h3:6<(s.classes.length:Int)
 ·simp only[go_sem,h1,h2,h3]
  rw[if_pos (.inr (.inr h3))]at hv
  exact fin _ _ _ _ hv (by rfl)
 rw[if_neg (by omega)]at hv
 simp only[go_sem,h1,h2,h3]
 refine call_data namesR (by simp) [sysD s] _ rfl ⟨s,rfl,hsm,rfl⟩ (.inl rfl) ?_
 have hln:(namesL s).length<=30:=by
  have:=hsm.np;have:=hsm.nl;have:=hsm.nc
  simp only[namesL,List.length_append,List.length_map];omega
 generalize hN:namesL s=N at *
 simp only[go_sem]
 refine sem_loop (fun k:Nat=>⟨slotsOf 91 [(1,.ptr 0 0 0),(2,.dat (.int .i64 0)),(3,.dat (.sl none (N.map .str))),(4,.dat (.int .i64 k))],[sysO s],0,[]⟩)
  (fun k=>k<=N.length/\thenE (namesE (N.take k) (N.drop k)) (thenE (poolsE s.pools) (clssE s s.classes))=V) (fun k=>N.length - k) 0 ⟨Nat.zero_le _,hv⟩ ?_ ?_
 ·exact le_slots' (by simp only[go_sem,Int.natCast_zero])
 ·rintro k ⟨hk,hI⟩
  refine sem_of_awp (Γ:=tbl tabRK) tabRK_ok _ _ _ ?_
  cases hd:N.drop k with
  | nil =>
   have:=end_of_drop hd hk
   have hk2:¬(k:Int)<N.length:=by omega
   rw[hd,namesE,thenE_0]at hI
   simp only[go_sem,hk2]
   refine sem_loop (fun k:Nat=>⟨slotsOf 91 [(1,.ptr 0 0 0),(2,.dat (.int .i64 0)),(5,.dat (.int .i64 k))],[sysO s],0,[]⟩)
    (fun k=>k<=s.pools.length/\(∀p∈s.pools.take k,¬p.bad)/\thenE (poolsE (s.pools.drop k)) (clssE s s.classes)=V) (fun k=>s.pools.length - k) 0 ⟨Nat.zero_le _,fun p hp=>by simp at hp,hI⟩ ?_ ?_
   ·exact le_slots' (by simp only[go_sem,Int.natCast_zero])
   ·rintro k ⟨hk,hG,hI⟩
    refine sem_of_awp (Γ:=tbl tabRK) tabRK_ok _ _ _ ?_
    cases hd:s.pools.drop k with
    | nil =>
     have:=end_of_drop hd hk
     have hk2:¬(k:Int)<s.pools.length:=by omega
     rw[hd,poolsE,thenE_0]at hI
     rw[List.take_of_length_le (by omega)]at hG
     have htm:s.tame:=fun p hp=>by have:=hG p hp;unfold PPool.bad at this;omega
     simp only[go_sem,hk2]
     refine sem_loop (fun k:Nat=>⟨slotsOf 91 [(1,.ptr 0 0 0),(2,.dat (.int .i64 0)),(7,.dat (.int .i64 k))],[sysO s],0,[]⟩)
      (fun k=>k<=s.classes.length/\clssE s (s.classes.drop k)=V) (fun k=>s.classes.length - k) 0 ⟨Nat.zero_le _,hI⟩ ?_ ?_
     ·exact le_slots' (by simp only[go_sem,Int.natCast_zero])
     ·rintro k ⟨hk,hI⟩
      refine sem_of_awp (Γ:=tbl tabRK) tabRK_ok _ _ _ ?_
      cases hd:s.classes.drop k with
      | nil =>
       have:=end_of_drop hd hk
       have hk2:¬(k:Int)<s.classes.length:=by omega
       rw[hd,clssE]at hI
       simp only[go_sem,hk2]
       exact fin _ _ _ _ hI (by rfl)
      | cons c q =>
       have hlt:=lt_of_drop hd
       have hk2:(k:Int)<s.classes.length:=by omega
       have hk0:(0:Int)<=k:=Int.natCast_nonneg k
       have hn:=nth_of_drop (f:=clsD) hd
       rw[hd,clssE]at hI
       simp only[go_sem,hk2]
       refine sem_draw (pf:=[37]) mixed tabRK_ok hpu [0,1,2,3,4,5,6,7] (by kernel_rfl) ?_
       simp only[go_sem,chainI,hk2,hk0,hn,hlt,clsD]
       refine call_data classR (by simp) [sysD s,clsD c] _ rfl ⟨s,c,rfl,hsm,htm,rfl⟩ (.inl rfl) ?_
       simp only[go_sem,chainI]
       by_cases he:classE s c=0
       ·rw[if_neg (by rw[he];decide)]at hI
        simp only[go_sem,he]
        refine⟨inR_i64.2 (by omega),k+1,⟨by omega,by rw[drop_cons hd];exact hI⟩,by omega,?_⟩
        exact le_slots' (by simp only[go_sem,Int.natCast_add,Int.cast_ofNat_Int])
       ·rw[if_pos he]at hI
        simp only[go_sem,he]
        exact fin _ _ _ _ hI (by rfl)
    | cons p q =>
     have hlt:=lt_of_drop hd
     have hk2:(k:Int)<s.pools.length:=by omega
     have hk0:(0:Int)<=k:=Int.natCast_nonneg k
     have hn:=nth_of_drop (f:=poolD) hd
     rw[hd,poolsE]at hI
     simp only[go_sem,hk2,hk0,hn,hlt,poolD]
     by_cases b1:p.size<1
     ·simp only[go_sem,b1]
      rw[if_pos (.inl b1)]at hI
      exact fin _ _ _ _ hI (by rfl)
     by_cases b2:8<p.size
     ·simp only[go_sem,b1,b2]
      rw[if_pos (.inr (.inl b2))]at hI
      exact fin _ _ _ _ hI (by rfl)
     by_cases b3:p.res<0
     ·simp only[go_sem,b1,b2,b3]
      rw[if_pos (.inr (.inr (.inl b3)))]at hI
      exact fin _ _ _ _ hI (by rfl)
     by_cases b4:p.size<p.res
     ·simp only[go_sem,b1,b2,b3,b4]
      rw[if_pos (.inr (.inr (.inr b4)))]at hI
      exact fin _ _ _ _ hI (by rfl)
     have hb:¬p.bad:=by unfold PPool.bad;omega
     rw[if_neg hb]at hI
     simp only[go_sem,b1,b2,b3,b4]
     refine⟨inR_i64.2 (by omega),k+1,⟨by omega,?_,by rw[drop_cons hd];exact hI⟩,by omega,?_⟩
     ·rw[take_of_drop hd]
      intro y hy
      rcases List.mem_append.1 hy with h|h
      ·exact hG y h
      ·simp at h;subst h;exact hb
     ·refine le_end (own:=[_]) (ex:=[_]) (Nat.zero_le _) ?_ ?_ ?_
      ·simp only[go_sem,Int.natCast_add,Int.cast_ofNat_Int]
      ·simp only[go_sem]
      ·simp only[go_sem,Obj.under,AV.unders,AV.under]
  | cons x q =>
   have hlt:=lt_of_drop hd
   have hk2:(k:Int)<N.length:=by omega
   have hk0:(0:Int)<=k:=Int.natCast_nonneg k
   have hk3:(k:Int)<=N.length:=by omega
   have hn:=nth_of_drop (f:=D.str) hd
   rw[hd,namesE]at hI
   simp only[go_sem,hk2,hk0,hn,hlt]
   refine call_data isNmR (by simp) [.str x] _ rfl ⟨x,rfl,rfl⟩ (.inl rfl) ?_
   cases hb:isNm x with
   | false =>
    simp only[go_sem,hb]
    rw[if_pos hb,thenE_n (by decide)]at hI
    exact fin _ _ _ _ hI (by rfl)
   | true =>
    rw[if_neg (by rw[hb];decide)]at hI
    simp only[go_sem,hb,hk0,hk3,Int.toNat_natCast]
    refine call_data beforeR (by simp) [.sl none (N.map .str),.int .i64 k] _ rfl ⟨N,k,x,rfl,get_of_drop hd,by omega,rfl⟩ (.inl rfl) ?_
    by_cases hm:x∈N.take k
    ·have hm':decide (x∈N.take k)=true:=decide_eq_true hm
     simp only[go_sem,hm']
     rw[if_pos hm,thenE_n (by decide)]at hI
     exact fin _ _ _ _ hI (by rfl)
    ·have hm':decide (x∈N.take k)=false:=decide_eq_false hm
     simp only[go_sem,hm']
     rw[if_neg hm,← take_of_drop hd,← drop_cons hd]at hI
     refine⟨inR_i64.2 (by omega),k+1,⟨by omega,hI⟩,by omega,?_⟩
     exact le_slots' (by simp only[go_sem,Int.natCast_add,Int.cast_ofNat_Int])
def fewB(s:PSys):Bool:=!decide (10<(s.pools.length:Int)) && !decide (10<(s.locks.length:Int)) && !decide (10<(s.classes.length:Int)) && s.classes.all fun c=>!decide (20<(c.steps.length:Int))
def fewR(ds:List D)(v:AV):Prop:=∃s:PSys,ds=[sysD s]/\v=.dat (.bool (fewB s))
end Go.AM
namespace Go.AM
open Go Go.Proofs
structure PSys.big (s:PSys):Prop where
 np:s.pools.length<=100000
 nl:s.locks.length<=100000
 nc:s.classes.length<=100000
def nmsBR(ds:List D)(v:AV):Prop:=∃s:PSys,ds=[sysD s]/\s.big/\v=.dat (.sl none ((namesL s).map .str))
def nmsSR(ds:List D)(xs:List D):Prop:=∃s:PSys,ds=[sysD s]/\s.big/\xs=(namesL s).map .str
theorem namesS_ok:OkF Tryz.prog 30 (madeC (madeS none nmsSR)):=by
 refine okF_made Tryz.func30 rfl (by decide) ?_
 rintro ds v ob ⟨xs,⟨s,rfl,⟨hp,hl,hc⟩,rfl⟩,rfl,rfl⟩
 obtain⟨pools,locks,classes⟩:=s
 simp only at hp hl hc ⊢
 generalize hv:namesL ⟨pools,locks,classes⟩=V
 rw[List.length_map]
 refine sem_of_awp (Γ:=tbl []) okG_nil _ _ _ ?_
 simp only[go_sem,Tryz.ntmps30,sysD]
 refine sem_le (le_addnil 3 none rfl (Nat.zero_le _)) ?_
 simp only[go_sem]
 refine sem_loop (fun k:Nat=>⟨slotsOf 39 [(1,.ptr 0 0 0),(2,.nils),(3,.sl 1 0 k),(9,.dat (.sl (some 3) (pools.map poolD))),(10,.dat (.int .i64 pools.length)),(11,.dat (.int .i64 k))],
   [.box [.dat (.sl (some 3) (pools.map poolD)),.dat (.sl none (locks.map .str)),.dat (.sl (some 4) (classes.map clsD))],.row none ((pools.take k).map fun p:PPool=>D.str p.name)],0,[]⟩)
  (fun k=>k<=pools.length) (fun k=>pools.length - k) 0 (Nat.zero_le _) ?_ ?_
 ·exact le_slots' (by simp only[go_sem,Int.natCast_zero])
 ·rintro k hk
  refine sem_of_awp (Γ:=tbl []) okG_nil _ _ _ ?_
  cases hd:pools.drop k with
  | nil =>
   have he:=end_of_drop hd hk
   have hk2:¬(k:Int)<pools.length:=by omega
   subst he
   have hlen:(pools.map fun p:PPool=>D.str p.name).take pools.length=pools.map fun p:PPool=>D.str p.name:=List.take_of_length_le (by simp)
   simp only[go_sem,hk2,List.take_length,hlen]
   refine⟨by omega,by omega,?_⟩
   refine sem_loop (fun k:Nat=>⟨slotsOf 39 [(1,.ptr 0 0 0),(2,.nils),(3,.sl 1 0 (pools.length+locks.length+k)),(26,.dat (.sl (some 4) (classes.map clsD))),(27,.dat (.int .i64 classes.length)),(28,.dat (.int .i64 k))],
     [.box [.dat (.sl (some 3) (pools.map poolD)),.dat (.sl none (locks.map .str)),.dat (.sl (some 4) (classes.map clsD))],.row none ((pools.map fun p:PPool=>D.str p.name)++locks.map D.str++(classes.take k).map fun p:PCls=>D.str p.name)],0,[]⟩)
    (fun k=>k<=classes.length) (fun k=>classes.length - k) 0 (Nat.zero_le _) ?_ ?_
   ·simp only[List.take_zero,List.map_nil,List.append_nil]
    exact le_slots' (by simp only[go_sem,Int.natCast_zero])
   ·rintro k hk
    refine sem_of_awp (Γ:=tbl []) okG_nil _ _ _ ?_
    cases hd:classes.drop k with
    | nil =>
     have he:=end_of_drop hd hk
     have hk2:¬(k:Int)<classes.length:=by omega
     subst he
     simp only[go_sem,hk2,List.take_length]
     refine post_resO (mv':=[]) (.inl rfl) [.tmp 2] rfl (fun _ h=>h) ?_
     simp only[go_sem]
     have e:((pools.map fun p:PPool=>D.str p.name)++locks.map D.str++classes.map fun p:PCls=>D.str p.name)=V.map .str:=by
      rw[← hv];simp[namesL,List.map_map,Function.comp_def]
     have e2:pools.length+locks.length+classes.length=V.length:=by rw[← hv];simp[namesL];omega
     rw[e,e2]
     refine Le.trans (le_swp (s':=[.sl 0 0 V.length]) (own':=[.row none (V.map .str),.box [.dat (.sl (some 3) (pools.map poolD)),.dat (.sl none (locks.map .str)),.dat (.sl (some 4) (classes.map clsD))]]) 0 1 (by decide:(0:Nat)<2) (by decide:(1:Nat)<2) (by rfl) (by rfl)) ?_
     refine le_end (own:=[_]) (ex:=[_]) (Nat.zero_le _) ?_ ?_ ?_
     ·simp only[go_sem]
     ·simp only[go_sem]
     ·simp only[go_sem,Obj.under,AV.unders,AV.under]
    | cons c q =>
     have hlt:=lt_of_drop hd
     have hk2:(k:Int)<classes.length:=by omega
     have hk0:(0:Int)<=k:=Int.natCast_nonneg k
     have hn:=nth_of_drop (f:=clsD) hd
     have hml:((classes.take k).map fun p:PCls=>D.str p.name).length=k:=by simp;omega
     have hrow:((pools.map fun p:PPool=>D.str p.name)++locks.map D.str++(classes.take k).map fun p:PCls=>D.str p.name).length=pools.length+locks.length+k:=by simp;omega
     have htk:((pools.map fun p:PPool=>D.str p.name)++locks.map D.str++(classes.take k).map fun p:PCls=>D.str p.name).take (pools.length+locks.length+k)=(pools.map fun p:PPool=>D.str p.name)++locks.map D.str++(classes.take k).map fun p:PCls=>D.str p.name :=
      List.take_of_length_le (by omega)
     have hsn:(pools.map fun p:PPool=>D.str p.name)++locks.map D.str++((classes.take (k+1)).map fun p:PCls=>D.str p.name)=((pools.map fun p:PPool=>D.str p.name)++locks.map D.str++(classes.take k).map fun p:PCls=>D.str p.name)++[.str c.name]:=by
      rw[map_snoc (f:=PCls.name) hd,List.append_assoc,List.append_assoc];simp
     generalize ((pools.map fun p:PPool=>D.str p.name)++locks.map D.str++(classes.take k).map fun p:PCls=>D.str p.name)=row at *
     simp only[go_sem,hk2,hk0,hn,clsD,hrow,htk]
     refine⟨by omega,by omega,inR_i64.2 (by omega),k+1,by omega,by omega,?_⟩
     rw[hsn]
     refine le_end (own:=[_,_]) (ex:=[_,_]) (Nat.zero_le _) ?_ ?_ ?_
     ·simp only[go_sem,Int.natCast_add,Int.cast_ofNat_Int,Nat.add_assoc]
     ·simp only[go_sem]
     ·simp only[go_sem,Obj.under,AV.unders,AV.under]
  | cons c q =>
   have hlt:=lt_of_drop hd
   have hk2:(k:Int)<pools.length:=by omega
   have hk0:(0:Int)<=k:=Int.natCast_nonneg k
   have hn:=nth_of_drop (f:=poolD) hd
   have hrow:((pools.take k).map fun p:PPool=>D.str p.name).length=k:=by simp;omega
   have htk:((pools.take k).map fun p:PPool=>D.str p.name).take k=(pools.take k).map fun p:PPool=>D.str p.name:=List.take_of_length_le (by omega)
   have hsn:=map_snoc (f:=PPool.name) hd
   generalize ((pools.take k).map fun p:PPool=>D.str p.name)=row at *
   simp only[go_sem,hk2,hk0,hn,poolD,hrow,htk]
   refine⟨by omega,by omega,inR_i64.2 (by omega),k+1,by omega,by omega,?_⟩
   rw[hsn]
   refine le_end (own:=[_,_]) (ex:=[_,_]) (Nat.zero_le _) ?_ ?_ ?_
   ·simp only[go_sem,Int.natCast_add,Int.cast_ofNat_Int,Nat.add_assoc]
   ·simp only[go_sem]
   ·simp only[go_sem,Obj.under,AV.unders,AV.under]
theorem rnamesB_ok:OkF Tryz.prog 34 (dataC nmsBR):=by
 refine okF_data Tryz.func34 rfl (by decide) ?_
 rintro ds v ⟨s,rfl,⟨hp,hl,hc⟩,rfl⟩
 obtain⟨pools,locks,classes⟩:=s
 simp only at hp hl hc
 generalize hv:namesL ⟨pools,locks,classes⟩=V
 refine sem_of_awp (Γ:=tbl []) okG_nil _ _ _ ?_
 simp only[go_sem,Tryz.ntmps34,sysD]
 refine sem_le (le_addnil 3 none rfl (Nat.zero_le _)) ?_
 simp only[go_sem]
 refine sem_loop (fun k:Nat=>⟨slotsOf 43 [(1,.ptr 0 0 0),(2,.nils),(3,.sl 1 0 k),(4,.dat (.int .i64 k))],
   [.box [.dat (.sl (some 3) (pools.map poolD)),.dat (.sl none (locks.map .str)),.dat (.sl (some 4) (classes.map clsD))],.row none ((pools.take k).map fun p:PPool=>D.str p.name)],0,[]⟩)
  (fun k=>k<=pools.length) (fun k=>pools.length - k) 0 (Nat.zero_le _) ?_ ?_
 ·exact le_slots' (by simp only[go_sem,Int.natCast_zero])
 ·rintro k hk
  refine sem_of_awp (Γ:=tbl []) okG_nil _ _ _ ?_
  cases hd:pools.drop k with
  | nil =>
   have he:=end_of_drop hd hk
   have hk2:¬(k:Int)<pools.length:=by omega
   subst he
   have hlen:(pools.map fun p:PPool=>D.str p.name).take pools.length=pools.map fun p:PPool=>D.str p.name:=List.take_of_length_le (by simp)
   simp only[go_sem,hk2,List.take_length,hlen]
   refine⟨by omega,by omega,?_⟩
   refine sem_loop (fun k:Nat=>⟨slotsOf 43 [(1,.ptr 0 0 0),(2,.nils),(3,.sl 1 0 (pools.length+locks.length+k)),(5,.dat (.int .i64 k))],
     [.box [.dat (.sl (some 3) (pools.map poolD)),.dat (.sl none (locks.map .str)),.dat (.sl (some 4) (classes.map clsD))],.row none ((pools.map fun p:PPool=>D.str p.name)++locks.map D.str++(classes.take k).map fun p:PCls=>D.str p.name)],0,[]⟩)
    (fun k=>k<=classes.length) (fun k=>classes.length - k) 0 (Nat.zero_le _) ?_ ?_
   ·simp only[List.take_zero,List.map_nil,List.append_nil]
    exact le_slots' (by simp only[go_sem,Int.natCast_zero])
   ·rintro k hk
    refine sem_of_awp (Γ:=tbl []) okG_nil _ _ _ ?_
    cases hd:classes.drop k with
    | nil =>
     have he:=end_of_drop hd hk
     have hk2:¬(k:Int)<classes.length:=by omega
     subst he
     simp only[go_sem,hk2,List.take_length]
     refine post_res (.inl rfl) [.tmp 2] rfl ?_
     simp only[go_sem]
     refine Le.trans (le_freeze 1 (ag:=none) rfl (Nat.zero_le _)) ?_
     have e:((pools.map fun p:PPool=>D.str p.name)++locks.map D.str++classes.map fun p:PCls=>D.str p.name)=V.map .str:=by
      rw[← hv];simp[namesL,List.map_map,Function.comp_def]
     have e2:pools.length+locks.length+classes.length=V.length:=by rw[← hv];simp[namesL];omega
     have e3:(V.map D.str).take V.length=V.map .str:=List.take_of_length_le (by simp)
     rw[e,e2]
     simp only[go_sem,e3]
     exact le_fin (by simp only[go_sem]) (by simp only[go_sem])
    | cons c q =>
     have hlt:=lt_of_drop hd
     have hk2:(k:Int)<classes.length:=by omega
     have hk0:(0:Int)<=k:=Int.natCast_nonneg k
     have hn:=nth_of_drop (f:=clsD) hd
     have hml:((classes.take k).map fun p:PCls=>D.str p.name).length=k:=by simp;omega
     have hrow:((pools.map fun p:PPool=>D.str p.name)++locks.map D.str++(classes.take k).map fun p:PCls=>D.str p.name).length=pools.length+locks.length+k:=by simp;omega
     have htk:((pools.map fun p:PPool=>D.str p.name)++locks.map D.str++(classes.take k).map fun p:PCls=>D.str p.name).take (pools.length+locks.length+k)=(pools.map fun p:PPool=>D.str p.name)++locks.map D.str++(classes.take k).map fun p:PCls=>D.str p.name :=
      List.take_of_length_le (by omega)
     have hsn:(pools.map fun p:PPool=>D.str p.name)++locks.map D.str++((classes.take (k+1)).map fun p:PCls=>D.str p.name)=((pools.map fun p:PPool=>D.str p.name)++locks.map D.str++(classes.take k).map fun p:PCls=>D.str p.name)++[.str c.name]:=by
      rw[map_snoc (f:=PCls.name) hd,List.append_assoc,List.append_assoc];simp
     generalize ((pools.map fun p:PPool=>D.str p.name)++locks.map D.str++(classes.take k).map fun p:PCls=>D.str p.name)=row at *
     simp only[go_sem,hk2,hk0,hn,clsD,hrow,htk]
     refine⟨by omega,by omega,inR_i64.2 (by omega),k+1,by omega,by omega,?_⟩
     rw[hsn]
     refine le_end (own:=[_,_]) (ex:=[_]) (Nat.zero_le _) ?_ ?_ ?_
     ·simp only[go_sem,Int.natCast_add,Int.cast_ofNat_Int,Nat.add_assoc]
     ·simp only[go_sem]
     ·simp only[go_sem,Obj.under,AV.unders,AV.under]
  | cons c q =>
   have hlt:=lt_of_drop hd
   have hk2:(k:Int)<pools.length:=by omega
   have hk0:(0:Int)<=k:=Int.natCast_nonneg k
   have hn:=nth_of_drop (f:=poolD) hd
   have hrow:((pools.take k).map fun p:PPool=>D.str p.name).length=k:=by simp;omega
   have htk:((pools.take k).map fun p:PPool=>D.str p.name).take k=(pools.take k).map fun p:PPool=>D.str p.name:=List.take_of_length_le (by omega)
   have hsn:=map_snoc (f:=PPool.name) hd
   generalize ((pools.take k).map fun p:PPool=>D.str p.name)=row at *
   simp only[go_sem,hk2,hk0,hn,poolD,hrow,htk]
   refine⟨by omega,by omega,inR_i64.2 (by omega),k+1,by omega,by omega,?_⟩
   rw[hsn]
   refine le_end (own:=[_,_]) (ex:=[_]) (Nat.zero_le _) ?_ ?_ ?_
   ·simp only[go_sem,Int.natCast_add,Int.cast_ofNat_Int,Nat.add_assoc]
   ·simp only[go_sem]
   ·simp only[go_sem,Obj.under,AV.unders,AV.under]
end Go.AM
namespace Go.AM
open Go Go.Proofs
def declW(w:List Str)(s:PSys):Int×PSys :=
 if formW w (kindS (w.getD 0 []))=false then (4,s) else if w.getD 1 []∈namesL s then (5,s) else
 (0,addD s (kindS (w.getD 0 [])) (w.getD 1 []) (if kindS (w.getD 0 [])=2 then 0 else numN (w.getD 2 [])) (if kindS (w.getD 0 [])=1 then numN (w.getD 3 []) else 0))
def rdclR(xs:List AV)(obs:List Obj)(v0:AV)(obs' ex:List Obj)(mv0:List Nat):Prop:=∃(s:PSys) (us:List US) (w:List Str),
 xs=[.ptr 0 0 0,.dat (.sl none (strsD w))]/\obs=recO s us/\w≠[]/\w.length<=1000000/\(∀x∈w,x.length<=1000000)/\s.big/\s.pools.length<100000/\s.locks.length<100000/\s.classes.length<100000/\(∀c∈s.classes,c.steps=[])/\1<=kindS (w.getD 0 [])/\kindS (w.getD 0 [])<=4 /\
 v0=.dat (.int .i64 (declW w s).1)/\obs'=recO (declW w s).2 us/\ex=[]/\mv0=[1,2,3]
def clsF(c:PCls):List D:=[.str c.name,.int .i64 c.workers,.bool c.server,stepsD c.steps]
theorem peek_tabC{own:List Obj}:∀(l:List PCls) (i:Nat),(∀c∈l,c.steps=[])->PeekL own (tabC (fun _=>.nils) i l) (l.map clsF).flatten
 | [],_,_=>trivial
 | c :: r,i,h=>by
  have hc:=h c (by simp)
  rw[List.map_cons,List.flatten_cons]
  simp only[clsF,tabC,hc,stepsD,List.map_nil]
  exact⟨peek_dat,peek_dat,peek_dat,peek_nils,peek_tabC r (i+1) fun y hy=>h y (by simp[hy])⟩
theorem peek_rec{s:PSys}{us:List US}{ex:List Obj}(h:∀c∈s.classes,c.steps=[]):Peek (recO s us++ex) (.agg [.sl 1 0 s.pools.length,.sl 2 0 s.locks.length,.sl 3 0 s.classes.length]) (sysD s):=by
 refine peek_agg ⟨?_,?_,?_,trivial⟩
 ·have:=peek_row0 (own:=recO s us++ex) (o:=1) (ag:=some 3) (xs:=s.pools.map poolD) rfl
  rwa [List.length_map]at this
 ·have:=peek_row0 (own:=recO s us++ex) (o:=2) (ag:=none) (xs:=s.locks.map .str) rfl
  rwa [List.length_map]at this
 ·have:=peek_tab (own:=recO s us++ex) (o:=3) (len:=s.classes.length) (k:=4) (cs:=tabC (fun _=>.nils) 0 s.classes) (M:=s.classes.map clsF) rfl (by decide) (fun r hr=>by
   obtain⟨c,_,rfl⟩:=List.mem_map.1 hr;rfl) (by simp) (peek_tabC _ _ h)
  have e:(s.classes.map clsF).map D.agg=s.classes.map clsD:=by rw[List.map_map];rfl
  rwa [e]at this
abbrev tabDe:List (Nat×Contract):=[(31,dataC isNmR),(76,dataC numR),(30,peekS none nmsSR),(32,peekC hasSR)]
theorem tabDe_ok:OkG Tryz.prog (tbl tabDe):=okG_cons isName_ok (okG_cons pnumber_ok (okG_cons (okF_peekS namesS_ok) (okG_cons (okF_peek hasS_ok) okG_nil)))
theorem mkDe:MakeFns (tbl tabDe) [30]:=by
 rintro g args own v own' mv hg ⟨C,hm,hC⟩
 have hg':g=30:=by
  rcases hg with h|h
  ·simpa using h
  ·simp[dynF]at h
 subst hg'
 simp only[tabDe,List.mem_cons,Prod.mk.injEq,List.not_mem_nil,or_false]at hm
 rcases hm with⟨h,_⟩|⟨h,_⟩|⟨_,rfl⟩|⟨h,_⟩
 ·simp at h
 ·simp at h
 ·obtain⟨ds,xs,_,_,_,_,rfl,rfl⟩:=hC
  exact⟨⟨_,rfl⟩,rfl⟩
 ·simp at h
theorem tabC_len(f:Nat->AV):∀(l:List PCls) (i:Nat),(tabC f i l).length=l.length*4
 | [],_=>rfl
 | c :: r,i=>by simp only[tabC,List.length_cons,tabC_len f r];omega
theorem tabC_snoc(f:Nat->AV)(c:PCls):∀(l:List PCls) (i:Nat),tabC f i (l++[c])=tabC f i l++[.dat (.str c.name),.dat (.int .i64 c.workers),.dat (.bool c.server),f (i+l.length)]
 | [],i=>rfl
 | x :: r,i=>by
  simp only[List.cons_append,tabC,tabC_snoc f c r,List.length_cons]
  rw[show i+1+r.length=i+(r.length+1) by omega]
theorem rdcl_fin{s':PSys}{us:List US}{U:Int×PSys}{sl:List AV}{own ex:List Obj}{mvs:List Nat}(h4:sl.getD 4 .top=.dat (.int .i64 0))(hU:U=(0,s'))(ho:own=recO s' us++ex)(hm:∀o,o∈mvs->o∈[1,2,3]) :
  post Tryz.prog Tryz.f40 (.dat (.int .i64 U.1)) (recO U.2 us++[]) [1,2,3] .ret ⟨sl,own,5,mvs⟩:=by
 subst hU;subst ho
 refine post_resO (mv':=mvs) (.inl rfl) [.tmp 4] rfl hm ?_
 simp only[go_sem,h4,List.append_nil]
 exact le_drop (own:=recO s' us) (Nat.le_refl 5) (by simp only[AV.unders,AV.under];exact⟨trivial,trivial⟩) (recO_under s' us)
theorem rdeclare_ok:OkF Tryz.prog 40 (lentC rdclR):=by
 refine okF_lent Tryz.func40 rfl (by decide) ?_
 rintro xs obs v0 obs' ex mv0 ⟨s,us,w,rfl,rfl,hw0,hwl,hwx,hbig,hp,hl,hc,hst,hk1,hk4,rfl,rfl,rfl,rfl⟩
 generalize hu:declW w s=U
 have hl0:0<w.length:=by cases w with|nil=>exact absurd rfl hw0|cons a r=>simp
 have fin:∀sl own (e:Int),sl.getD 4 .top=.dat (.int .i64 e)->U=(e,s)->post Tryz.prog Tryz.f40 (.dat (.int .i64 U.1)) (recO U.2 us++[]) [1,2,3] .ret ⟨sl,recO s us++own,5,[]⟩:=fun sl own e h hU=>by
  subst hU
  refine post_resO (mv':=[]) (.inl rfl) [.tmp 4] rfl (by simp) ?_
  simp only[go_sem,h,List.append_nil]
  exact le_drop (own:=recO s us) (Nat.le_refl 5) (by simp only[AV.unders,AV.under];exact⟨trivial,trivial⟩) (recO_under s us)
 have bad:formW w (kindS (w.getD 0 []))=false->U=(4,s):=fun h=>by rw[← hu];unfold declW;rw[if_pos h]
 refine sem_of_awp (Γ:=tbl tabDe) tabDe_ok _ _ _ ?_
 have n0:D.nth (strsD w) 0=.str (w.getD 0 []):=D.nth_map hl0
 have z0:(0:Int)<w.length:=by omega
 have hK:w.getD 0 []=[112,111,111,108]∨w.getD 0 []=[109,117,116,101,120]∨w.getD 0 []=[99,108,97,115,115]∨w.getD 0 []=[115,101,114,118,101,114]:=by
  unfold kindS at hk1 hk4
  split at hk1
  ·exact .inl ‹_›
  split at hk1
  ·exact .inr (.inl ‹_›)
  split at hk1
  ·exact .inr (.inr (.inl ‹_›))
  split at hk1
  ·exact .inr (.inr (.inr ‹_›))
  rename_i h1 h2 h3 h4
  rw[if_neg h1,if_neg h2,if_neg h3,if_neg h4]at hk4
  exfalso
  revert hk1 hk4
  (repeat' split) <;> omega
 have hnl:(namesL s).length<4611686018427387904:=by
  have:=hbig.np;have:=hbig.nl;have:=hbig.nc
  simp only[namesL,List.length_append,List.length_map];omega
 have numN_rng:∀x:Str,-1<=numN x/\numN x<=999:=fun x=>by
  unfold numN
  split
  ·omega
  ·split
   ·rename_i h1 h2
    have:=numF_bound x (by omega) h2
    omega
   ·omega
 rcases hK with hK|hK|hK|hK
 ·have hk:kindS (w.getD 0 [])=1:=by rw[hK];rfl
  have q2:=eq_false (by decide:¬([112,111,111,108]:Str)=[109,117,116,101,120])
  have q4:=eq_false (by decide:¬([112,111,111,108]:Str)=[115,101,114,118,101,114])
  by_cases nn:w.length=4
  ·have nn':=eq_true (show (w.length:Int)=4 by omega)
   have n1:D.nth (strsD w) 1=.str (w.getD 1 []):=D.nth_map (by omega)
   have z1:(1:Int)<w.length:=by omega
   have z2:(2:Int)<=w.length:=by omega
   simp only[go_sem,Tryz.ntmps40,recO,n0,n1,z0,z1,nn',hK,q2,q4,eq_self,decide_true,decide_false,Bool.not_true]
   refine call_data isNmR (mem_ix 0 rfl) [.str (w.getD 1 [])] _ rfl ⟨_,rfl,rfl⟩ (.inl rfl) ?_
   obtain⟨a,b,c,d,rfl⟩:∃a b c d,w=[a,b,c,d]:=by
    match w,nn with
    | [a,b,c,d],_=>exact⟨a,b,c,d,rfl⟩
   have eb:[a,b,c,d].getD 1 []=b:=rfl
   rw[eb]
   have ha:a=[112,111,111,108]:=hK
   subst ha
   have nb:D.nth [D.str [112,111,111,108],D.str b,D.str c,D.str d] 1=.str b:=rfl
   have na:D.nth [D.str [112,111,111,108],D.str b,D.str c,D.str d] 0=.str [112,111,111,108]:=rfl
   have m0a:D.nth [D.int .i64 (numN c),D.int .i64 0] 0=.int .i64 (numN c):=rfl
   have m0b:D.nth [D.int .i64 (numN c),D.int .i64 (numN d)] 0=.int .i64 (numN c):=rfl
   have m1b:D.nth [D.int .i64 (numN c),D.int .i64 (numN d)] 1=.int .i64 (numN d):=rfl
   by_cases hnm:isNm b=true
   ·simp only[go_sem,hnm,Bool.not_true,List.map_cons,List.map_nil,List.length_cons,List.length_nil]
    refine sem_rounds 3 (rounds_go ?_)
    refine sem_of_awp (Γ:=tbl tabDe) tabDe_ok _ _ _ ?_
    simp only[go_sem]
    refine call_data numR (mem_ix 1 rfl) [.str c] _ rfl ⟨c,rfl,hwx c (by simp),rfl⟩ (.inl rfl) ?_
    by_cases hc:numN c<0
    ·simp only[go_sem,m0a,m0b,m1b,hc,decide_true]
     exact fin _ [_] _ rfl (bad (by rw[hk];simp[formW,wantK,show ¬0<=numN c by omega]))
    have hc':=eq_false hc
    simp only[go_sem,m0a,m0b,m1b,hc',decide_false]
    have ic:=numN_rng c
    refine⟨inR_i64.2 (by omega),?_⟩
    refine rounds_go ?_
    refine sem_of_awp (Γ:=tbl tabDe) tabDe_ok _ _ _ ?_
    simp only[go_sem]
    refine call_data numR (mem_ix 1 rfl) [.str d] _ rfl ⟨d,rfl,hwx d (by simp),rfl⟩ (.inl rfl) ?_
    by_cases hd:numN d<0
    ·simp only[go_sem,m0a,m0b,m1b,hd,decide_true]
     exact fin _ [_] _ rfl (bad (by rw[hk];simp[formW,wantK,show ¬0<=numN d by omega]))
    have hd':=eq_false hd
    simp only[go_sem,m0a,m0b,m1b,hd',decide_false]
    have id:=numN_rng d
    refine⟨inR_i64.2 (by omega),?_⟩
    refine rounds_go ?_
    refine sem_of_awp (Γ:=tbl tabDe) tabDe_ok _ _ _ ?_
    simp only[go_sem]
    refine sem_drawU [] [] (pf:=[]) (mf:=[30]) mixed tabDe_ok pureNo growNo mkDe (ones [0,1,2,3,5,6,7,4,8]) (by kernel_rfl) ?_
    simp only[go_sem,nb]
    refine call_peekS none nmsSR (mem_ix 2 rfl) [sysD s] ((namesL s).map .str) ⟨peek_rec (us:=us) (ex:=[_]) hst,trivial⟩ ⟨s,rfl,hbig,rfl⟩ (fun x hx=>by obtain⟨y,_,rfl⟩:=List.mem_map.1 hx;rfl) ?_
    simp only[go_sem,List.length_map]
    refine call_peek hasSR (mem_ix 3 rfl) [.sl none ((namesL s).map .str),.str b] (.dat (.bool (decide (b∈namesL s)))) ⟨?_,peek_dat,trivial⟩ ⟨namesL s,b,rfl,hnl,rfl⟩ rfl ?_
    ·have:=peek_row0 (own:=recO s us++[.row none [.int .i64 (numN c),.int .i64 (numN d)],.row none ((namesL s).map .str)]) (o:=6) (ag:=none) (xs:=(namesL s).map .str) rfl
     rwa [List.length_map]at this
    have hf:formW [[112,111,111,108],b,c,d] 1=true:=by simp[formW,wantK,hnm,show 0<=numN c by omega,show 0<=numN d by omega]
    by_cases hin:b∈namesL s
    ·simp only[go_sem,eq_true hin,decide_true]
     refine fin _ [_,_] _ rfl ?_
     rw[← hu];unfold declW
     rw[hk,hf,if_neg (by simp)]
     exact if_pos hin
    ·simp only[go_sem,eq_false hin,na,q2,q4,eq_self,decide_true,decide_false]
     refine sem_drawU [(21,[0])] [(17,[1]),(0,[1])] (pf:=[]) (mf:=[]) mixed tabDe_ok pureNo growNo noMk (ones [0,1,2,3,4,5,6,7,8,9,10,11,12,13,14,15,16,17,18,19,20,21]) (by kernel_rfl) ?_
     simp only[go_sem,nb,na,m0a,m0b,m1b,q2,q4,eq_self,decide_true,decide_false]
     refine⟨by omega,by omega,?_⟩
     refine rdcl_fin (s':=⟨s.pools++[⟨b,numN c,numN d⟩],s.locks,s.classes⟩) (ex:=[.row none [.int .i64 (numN c),.int .i64 (numN d)],.row none ((namesL s).map D.str),.row (some 3) [.agg [.str b,.int .i64 (numN c),.int .i64 (numN d)]]]) rfl ?_ ?_ (by simp[addMv])
     ·rw[← hu];unfold declW
      rw[hk,hf,if_neg (by simp)]
      exact if_neg hin
     ·have e1:List.take s.pools.length (s.pools.map poolD)++[D.agg [.str b,.int .i64 (numN c),.int .i64 (numN d)]]=(s.pools++[(⟨b,numN c,numN d⟩:PPool)]).map poolD:=by rw[List.take_of_length_le (by simp)];simp[poolD]
      simp only[recO,tabC_kills,e1,List.length_append,List.length_cons,List.length_nil]
      rfl
   ·have hnm':isNm b=false:=by simpa using hnm
    simp only[go_sem,hnm',Bool.not_false]
    exact fin _ [] _ rfl (bad (by rw[hk];simp[formW,hnm']))
  ·have nn':=eq_false (show ¬(w.length:Int)=4 by omega)
   simp only[go_sem,Tryz.ntmps40,recO,n0,z0,nn',hK,q2,q4,eq_self,decide_true,decide_false,Bool.not_false]
   exact fin _ [] _ rfl (bad (by rw[hk];simp[formW,wantK,nn]))
 ·have hk:kindS (w.getD 0 [])=2:=by rw[hK];rfl
  have q1:=eq_false (by decide:¬([109,117,116,101,120]:Str)=[112,111,111,108])
  have q4:=eq_false (by decide:¬([109,117,116,101,120]:Str)=[115,101,114,118,101,114])
  by_cases nn:w.length=2
  ·have nn':=eq_true (show (w.length:Int)=2 by omega)
   have n1:D.nth (strsD w) 1=.str (w.getD 1 []):=D.nth_map (by omega)
   have z1:(1:Int)<w.length:=by omega
   have z2:(2:Int)<=w.length:=by omega
   simp only[go_sem,Tryz.ntmps40,recO,n0,n1,z0,z1,nn',hK,q1,q4,eq_self,decide_true,decide_false,Bool.not_true]
   refine call_data isNmR (mem_ix 0 rfl) [.str (w.getD 1 [])] _ rfl ⟨_,rfl,rfl⟩ (.inl rfl) ?_
   obtain⟨a,b,rfl⟩:∃a b,w=[a,b]:=by
    match w,nn with
    | [a,b],_=>exact⟨a,b,rfl⟩
   have eb:[a,b].getD 1 []=b:=rfl
   rw[eb]
   have ha:a=[109,117,116,101,120]:=hK
   subst ha
   have nb:D.nth [D.str [109,117,116,101,120],D.str b] 1=.str b:=rfl
   have na:D.nth [D.str [109,117,116,101,120],D.str b] 0=.str [109,117,116,101,120]:=rfl
   by_cases hnm:isNm b=true
   ·simp only[go_sem,hnm,Bool.not_true,List.map_cons,List.map_nil,List.length_cons,List.length_nil]
    refine sem_rounds 1 (rounds_go ?_)
    refine sem_of_awp (Γ:=tbl tabDe) tabDe_ok _ _ _ ?_
    simp only[go_sem]
    refine sem_drawU [] [] (pf:=[]) (mf:=[30]) mixed tabDe_ok pureNo growNo mkDe (ones [0,1,2,3,5,6,7,4,8]) (by kernel_rfl) ?_
    simp only[go_sem,nb]
    refine call_peekS none nmsSR (mem_ix 2 rfl) [sysD s] ((namesL s).map .str) ⟨peek_rec (us:=us) (ex:=[_]) hst,trivial⟩ ⟨s,rfl,hbig,rfl⟩ (fun x hx=>by obtain⟨y,_,rfl⟩:=List.mem_map.1 hx;rfl) ?_
    simp only[go_sem,List.length_map]
    refine call_peek hasSR (mem_ix 3 rfl) [.sl none ((namesL s).map .str),.str b] (.dat (.bool (decide (b∈namesL s)))) ⟨?_,peek_dat,trivial⟩ ⟨namesL s,b,rfl,hnl,rfl⟩ rfl ?_
    ·have:=peek_row0 (own:=recO s us++[.row none [.int .i64 0,.int .i64 0],.row none ((namesL s).map .str)]) (o:=6) (ag:=none) (xs:=(namesL s).map .str) rfl
     rwa [List.length_map]at this
    have hf:formW [[109,117,116,101,120],b] 2=true:=by simp[formW,wantK,hnm]
    by_cases hin:b∈namesL s
    ·simp only[go_sem,eq_true hin,decide_true]
     refine fin _ [_,_] _ rfl ?_
     rw[← hu];unfold declW
     rw[hk,hf,if_neg (by simp)]
     exact if_pos hin
    ·simp only[go_sem,eq_false hin,na,q1,q4,eq_self,decide_true,decide_false]
     refine sem_drawU [(14,[0])] [(10,[2]),(0,[2])] (pf:=[]) (mf:=[]) mixed tabDe_ok pureNo growNo noMk (ones [0,1,2,3,4,5,6,7,8,9,10,11,12,13,14]) (by kernel_rfl) ?_
     simp only[go_sem,nb,na,q1,q4,eq_self,decide_true,decide_false]
     refine⟨by omega,by omega,?_⟩
     refine rdcl_fin (s':=⟨s.pools,s.locks++[b],s.classes⟩) (ex:=[.row none [.int .i64 0,.int .i64 0],.row none ((namesL s).map D.str),.row none [.str b]]) rfl ?_ ?_ (by simp[addMv])
     ·rw[← hu];unfold declW
      rw[hk,hf,if_neg (by simp)]
      exact if_neg hin
     ·have e1:List.take s.locks.length (strsD s.locks)++[D.str b]=strsD (s.locks++[b]):=by rw[List.take_of_length_le (by simp)];simp
      simp only[recO,tabC_kills,e1,List.length_append,List.length_cons,List.length_nil]
      rfl
   ·have hnm':isNm b=false:=by simpa using hnm
    simp only[go_sem,hnm',Bool.not_false]
    exact fin _ [] _ rfl (bad (by rw[hk];simp[formW,hnm']))
  ·have nn':=eq_false (show ¬(w.length:Int)=2 by omega)
   simp only[go_sem,Tryz.ntmps40,recO,n0,z0,nn',hK,q1,q4,eq_self,decide_true,decide_false,Bool.not_false]
   exact fin _ [] _ rfl (bad (by rw[hk];simp[formW,wantK,nn]))
 ·have hk:kindS (w.getD 0 [])=3:=by rw[hK];rfl
  have q1:=eq_false (by decide:¬([99,108,97,115,115]:Str)=[112,111,111,108])
  have q2:=eq_false (by decide:¬([99,108,97,115,115]:Str)=[109,117,116,101,120])
  have q4:=eq_false (by decide:¬([99,108,97,115,115]:Str)=[115,101,114,118,101,114])
  by_cases nn:w.length=3
  ·have nn':=eq_true (show (w.length:Int)=3 by omega)
   have n1:D.nth (strsD w) 1=.str (w.getD 1 []):=D.nth_map (by omega)
   have z1:(1:Int)<w.length:=by omega
   have z2:(2:Int)<=w.length:=by omega
   simp only[go_sem,Tryz.ntmps40,recO,n0,n1,z0,z1,nn',hK,q1,q2,q4,eq_self,decide_true,decide_false,Bool.not_true]
   refine call_data isNmR (mem_ix 0 rfl) [.str (w.getD 1 [])] _ rfl ⟨_,rfl,rfl⟩ (.inl rfl) ?_
   obtain⟨a,b,c,rfl⟩:∃a b c,w=[a,b,c]:=by
    match w,nn with
    | [a,b,c],_=>exact⟨a,b,c,rfl⟩
   have eb:[a,b,c].getD 1 []=b:=rfl
   rw[eb]
   have ha:a=[99,108,97,115,115]:=hK
   subst ha
   have nb:D.nth [D.str [99,108,97,115,115],D.str b,D.str c] 1=.str b:=rfl
   have na:D.nth [D.str [99,108,97,115,115],D.str b,D.str c] 0=.str [99,108,97,115,115]:=rfl
   have m0a:D.nth [D.int .i64 (numN c),D.int .i64 0] 0=.int .i64 (numN c):=rfl
   by_cases hnm:isNm b=true
   ·simp only[go_sem,hnm,Bool.not_true,List.map_cons,List.map_nil,List.length_cons,List.length_nil]
    refine sem_rounds 2 (rounds_go ?_)
    refine sem_of_awp (Γ:=tbl tabDe) tabDe_ok _ _ _ ?_
    simp only[go_sem]
    refine call_data numR (mem_ix 1 rfl) [.str c] _ rfl ⟨c,rfl,hwx c (by simp),rfl⟩ (.inl rfl) ?_
    by_cases hc:numN c<0
    ·simp only[go_sem,m0a,hc,decide_true]
     exact fin _ [_] _ rfl (bad (by rw[hk];simp[formW,wantK,show ¬0<=numN c by omega]))
    have hc':=eq_false hc
    simp only[go_sem,m0a,hc',decide_false]
    have ic:=numN_rng c
    refine⟨inR_i64.2 (by omega),?_⟩
    refine rounds_go ?_
    refine sem_of_awp (Γ:=tbl tabDe) tabDe_ok _ _ _ ?_
    simp only[go_sem]
    refine sem_drawU [] [] (pf:=[]) (mf:=[30]) mixed tabDe_ok pureNo growNo mkDe (ones [0,1,2,3,5,6,7,4,8]) (by kernel_rfl) ?_
    simp only[go_sem,nb]
    refine call_peekS none nmsSR (mem_ix 2 rfl) [sysD s] ((namesL s).map .str) ⟨peek_rec (us:=us) (ex:=[_]) hst,trivial⟩ ⟨s,rfl,hbig,rfl⟩ (fun x hx=>by obtain⟨y,_,rfl⟩:=List.mem_map.1 hx;rfl) ?_
    simp only[go_sem,List.length_map]
    refine call_peek hasSR (mem_ix 3 rfl) [.sl none ((namesL s).map .str),.str b] (.dat (.bool (decide (b∈namesL s)))) ⟨?_,peek_dat,trivial⟩ ⟨namesL s,b,rfl,hnl,rfl⟩ rfl ?_
    ·have:=peek_row0 (own:=recO s us++[.row none [.int .i64 (numN c),.int .i64 0],.row none ((namesL s).map .str)]) (o:=6) (ag:=none) (xs:=(namesL s).map .str) rfl
     rwa [List.length_map]at this
    have hf:formW [[99,108,97,115,115],b,c] 3=true:=by simp[formW,wantK,hnm,show 0<=numN c by omega]
    by_cases hin:b∈namesL s
    ·simp only[go_sem,eq_true hin,decide_true]
     refine fin _ [_,_] _ rfl ?_
     rw[← hu];unfold declW
     rw[hk,hf,if_neg (by simp)]
     exact if_pos hin
    ·simp only[go_sem,eq_false hin,na,q1,q2,q4,eq_self,decide_true,decide_false]
     refine sem_drawU [(22,[0])] [(18,[3]),(0,[3]),(12,[3])] (pf:=[]) (mf:=[]) mixed tabDe_ok pureNo growNo noMk (ones [0,1,2,3,4,5,6,7,8,9,10,11,12,13,14,15,16,17,18,19,20,21,22]) (by kernel_rfl) ?_
     simp only[go_sem,nb,na,m0a,q1,q2,q4,eq_self,decide_true,decide_false]
     have htl:=tabC_len (fun _=>.nils) s.classes 0
     refine⟨by omega,by omega,by omega,?_⟩
     refine rdcl_fin (s':=⟨s.pools,s.locks,s.classes++[⟨b,numN c,false,[]⟩]⟩) (ex:=[.row none [.int .i64 (numN c),.int .i64 0],.row none ((namesL s).map D.str),.tab 4 [.dat (.str b),.dat (.int .i64 (numN c)),.dat (.bool false),.nils]]) rfl ?_ ?_ (by simp[addMv])
     ·rw[← hu];unfold declW
      rw[hk,hf,if_neg (by simp)]
      exact if_neg hin
     ·have e1:AV.kills 3 (List.take (s.classes.length*4) (tabC (fun _=>.nils) 0 s.classes)++[.dat (.str b),.dat (.int .i64 (numN c)),.dat (.bool false),.nils])=tabC (fun _=>.nils) 0 (s.classes++[⟨b,numN c,false,[]⟩]):=by
       rw[List.take_of_length_le (by omega),← tabC_kills 3 (s.classes++_) 0,tabC_snoc]
      simp only[recO,e1,List.length_append,List.length_cons,List.length_nil]
      rfl
   ·have hnm':isNm b=false:=by simpa using hnm
    simp only[go_sem,hnm',Bool.not_false]
    exact fin _ [] _ rfl (bad (by rw[hk];simp[formW,hnm']))
  ·have nn':=eq_false (show ¬(w.length:Int)=3 by omega)
   simp only[go_sem,Tryz.ntmps40,recO,n0,z0,nn',hK,q1,q2,q4,eq_self,decide_true,decide_false,Bool.not_false]
   exact fin _ [] _ rfl (bad (by rw[hk];simp[formW,wantK,nn]))
 ·have hk:kindS (w.getD 0 [])=4:=by rw[hK];rfl
  have q1:=eq_false (by decide:¬([115,101,114,118,101,114]:Str)=[112,111,111,108])
  have q2:=eq_false (by decide:¬([115,101,114,118,101,114]:Str)=[109,117,116,101,120])
  by_cases nn:w.length=3
  ·have nn':=eq_true (show (w.length:Int)=3 by omega)
   have n1:D.nth (strsD w) 1=.str (w.getD 1 []):=D.nth_map (by omega)
   have z1:(1:Int)<w.length:=by omega
   have z2:(2:Int)<=w.length:=by omega
   simp only[go_sem,Tryz.ntmps40,recO,n0,n1,z0,z1,nn',hK,q1,q2,eq_self,decide_true,decide_false,Bool.not_true]
   refine call_data isNmR (mem_ix 0 rfl) [.str (w.getD 1 [])] _ rfl ⟨_,rfl,rfl⟩ (.inl rfl) ?_
   obtain⟨a,b,c,rfl⟩:∃a b c,w=[a,b,c]:=by
    match w,nn with
    | [a,b,c],_=>exact⟨a,b,c,rfl⟩
   have eb:[a,b,c].getD 1 []=b:=rfl
   rw[eb]
   have ha:a=[115,101,114,118,101,114]:=hK
   subst ha
   have nb:D.nth [D.str [115,101,114,118,101,114],D.str b,D.str c] 1=.str b:=rfl
   have na:D.nth [D.str [115,101,114,118,101,114],D.str b,D.str c] 0=.str [115,101,114,118,101,114]:=rfl
   have m0a:D.nth [D.int .i64 (numN c),D.int .i64 0] 0=.int .i64 (numN c):=rfl
   by_cases hnm:isNm b=true
   ·simp only[go_sem,hnm,Bool.not_true,List.map_cons,List.map_nil,List.length_cons,List.length_nil]
    refine sem_rounds 2 (rounds_go ?_)
    refine sem_of_awp (Γ:=tbl tabDe) tabDe_ok _ _ _ ?_
    simp only[go_sem]
    refine call_data numR (mem_ix 1 rfl) [.str c] _ rfl ⟨c,rfl,hwx c (by simp),rfl⟩ (.inl rfl) ?_
    by_cases hc:numN c<0
    ·simp only[go_sem,m0a,hc,decide_true]
     exact fin _ [_] _ rfl (bad (by rw[hk];simp[formW,wantK,show ¬0<=numN c by omega]))
    have hc':=eq_false hc
    simp only[go_sem,m0a,hc',decide_false]
    have ic:=numN_rng c
    refine⟨inR_i64.2 (by omega),?_⟩
    refine rounds_go ?_
    refine sem_of_awp (Γ:=tbl tabDe) tabDe_ok _ _ _ ?_
    simp only[go_sem]
    refine sem_drawU [] [] (pf:=[]) (mf:=[30]) mixed tabDe_ok pureNo growNo mkDe (ones [0,1,2,3,5,6,7,4,8]) (by kernel_rfl) ?_
    simp only[go_sem,nb]
    refine call_peekS none nmsSR (mem_ix 2 rfl) [sysD s] ((namesL s).map .str) ⟨peek_rec (us:=us) (ex:=[_]) hst,trivial⟩ ⟨s,rfl,hbig,rfl⟩ (fun x hx=>by obtain⟨y,_,rfl⟩:=List.mem_map.1 hx;rfl) ?_
    simp only[go_sem,List.length_map]
    refine call_peek hasSR (mem_ix 3 rfl) [.sl none ((namesL s).map .str),.str b] (.dat (.bool (decide (b∈namesL s)))) ⟨?_,peek_dat,trivial⟩ ⟨namesL s,b,rfl,hnl,rfl⟩ rfl ?_
    ·have:=peek_row0 (own:=recO s us++[.row none [.int .i64 (numN c),.int .i64 0],.row none ((namesL s).map .str)]) (o:=6) (ag:=none) (xs:=(namesL s).map .str) rfl
     rwa [List.length_map]at this
    have hf:formW [[115,101,114,118,101,114],b,c] 4=true:=by simp[formW,wantK,hnm,show 0<=numN c by omega]
    by_cases hin:b∈namesL s
    ·simp only[go_sem,eq_true hin,decide_true]
     refine fin _ [_,_] _ rfl ?_
     rw[← hu];unfold declW
     rw[hk,hf,if_neg (by simp)]
     exact if_pos hin
    ·simp only[go_sem,eq_false hin,na,q1,q2,eq_self,decide_true,decide_false]
     refine sem_drawU [(22,[0])] [(18,[3]),(0,[3]),(12,[3])] (pf:=[]) (mf:=[]) mixed tabDe_ok pureNo growNo noMk (ones [0,1,2,3,4,5,6,7,8,9,10,11,12,13,14,15,16,17,18,19,20,21,22]) (by kernel_rfl) ?_
     simp only[go_sem,nb,na,m0a,q1,q2,eq_self,decide_true,decide_false]
     have htl:=tabC_len (fun _=>.nils) s.classes 0
     refine⟨by omega,by omega,by omega,?_⟩
     refine rdcl_fin (s':=⟨s.pools,s.locks,s.classes++[⟨b,numN c,true,[]⟩]⟩) (ex:=[.row none [.int .i64 (numN c),.int .i64 0],.row none ((namesL s).map D.str),.tab 4 [.dat (.str b),.dat (.int .i64 (numN c)),.dat (.bool true),.nils]]) rfl ?_ ?_ (by simp[addMv])
     ·rw[← hu];unfold declW
      rw[hk,hf,if_neg (by simp)]
      exact if_neg hin
     ·have e1:AV.kills 3 (List.take (s.classes.length*4) (tabC (fun _=>.nils) 0 s.classes)++[.dat (.str b),.dat (.int .i64 (numN c)),.dat (.bool true),.nils])=tabC (fun _=>.nils) 0 (s.classes++[⟨b,numN c,true,[]⟩]):=by
       rw[List.take_of_length_le (by omega),← tabC_kills 3 (s.classes++_) 0,tabC_snoc]
      simp only[recO,e1,List.length_append,List.length_cons,List.length_nil]
      rfl
   ·have hnm':isNm b=false:=by simpa using hnm
    simp only[go_sem,hnm',Bool.not_false]
    exact fin _ [] _ rfl (bad (by rw[hk];simp[formW,hnm']))
  ·have nn':=eq_false (show ¬(w.length:Int)=3 by omega)
   simp only[go_sem,Tryz.ntmps40,recO,n0,z0,nn',hK,q1,q2,eq_self,decide_true,decide_false,Bool.not_false]
   exact fin _ [] _ rfl (bad (by rw[hk];simp[formW,wantK,nn]))
end Go.AM
namespace Go.AM
open Go Go.Proofs
def usB(u:US)(n:Int):Obj:=.box [.dat (.int .i64 u.cls),.dat (.int .i64 u.line),.dat (.str u.name),.dat (.int .i64 u.kind),.dat (.int .i64 n),.dat (.int .i64 u.cnt),.dat (.bool u.deep)]
theorem usB_under(u:US)(n:Int):(usB u n).under 1:=by simp[usB,Obj.under,AV.unders,AV.under]
def fnd1R(xs:List AV)(obs:List Obj)(v0:AV)(obs' ex:List Obj)(mv0:List Nat):Prop:=∃(p:PPool) (u:US) (n:Int),xs=[.dat (poolD p),.ptr 0 0 0]/\obs=[usB u n]/\v0=.dat (.bool (decide (p.name=u.name)))/\obs'=[usB u n]/\ex=[]/\mv0=[]
theorem find1_ok:OkF Tryz.prog 79 (lentC fnd1R):=by
 refine okF_lent Tryz.func79 rfl (by decide) ?_
 rintro xs obs v0 obs' ex mv0 ⟨p,u,n,rfl,rfl,rfl,rfl,rfl,rfl⟩
 refine sem_of_awp (Γ:=tbl []) okG_nil _ _ _ ?_
 simp only[go_sem,Tryz.ntmps79,poolD,usB]
 refine post_resO (mv':=[]) (.inl rfl) [.tmp 3] rfl (fun _ h=>h) ?_
 simp only[go_sem,List.append_nil]
 exact le_drop (own:=[usB u n]) (Nat.le_refl 1) (by simp only[AV.unders,AV.under];exact⟨trivial,trivial⟩) (by simp only[List.mem_singleton,forall_eq];exact usB_under u n)
def idx1R(xs:List AV)(obs:List Obj)(v0:AV)(obs' ex:List Obj)(mv0:List Nat):Prop:=∃(l:List PPool) (u:US) (n:Int),l.length<=1000000/\xs=[.dat (.sl (some 3) (l.map poolD)),.fn 79 [.ptr 0 0 0]]/\obs=[usB u n]/\v0=.dat (.int .i64 (idxG u.name 0 (l.map (·.name))))/\obs'=[usB u n]/\ex=[]/\mv0=[]
abbrev tabF1:List (Nat×Contract):=[(79,lentC fnd1R)]
theorem tabF1_ok:OkG Tryz.prog (tbl tabF1):=okG_cons find1_ok okG_nil
theorem indexF1_ok:OkF Tryz.prog 78 (lentC idx1R):=by
 refine okF_lent Tryz.func78 rfl (by decide) ?_
 rintro xs obs v0 obs' ex mv0 ⟨l,u,n,hl,rfl,rfl,rfl,rfl,rfl,rfl⟩
 generalize hv:idxG u.name 0 (l.map (·.name))=V
 refine sem_of_awp (Γ:=tbl tabF1) tabF1_ok _ _ _ ?_
 have fin:∀s (b c:Int),b=c->s.getD 4 .top=.dat (.int .i64 b)->post Tryz.prog Tryz.f78 (.dat (.int .i64 c)) ([usB u n]++[]) [] .ret ⟨s,[usB u n],1,[]⟩:=fun s b c e h=>by
  subst e
  refine post_resO (.inl rfl) [.tmp 4] rfl (fun _ h=>h) ?_
  simp only[go_sem,h]
  exact Le.refl _
 simp only[go_sem,Tryz.ntmps78]
 refine sem_loop (fun k:Nat=>⟨slotsOf 19 [(0,.dat (.sl (some 3) (l.map poolD))),(1,.fn 79 [.ptr 0 0 0]),(4,.dat (.int .i64 0)),(7,.dat (.int .i64 l.length)),(8,.dat (.int .i64 k))],[usB u n],1,[]⟩)
  (fun k=>k<=l.length/\idxG u.name k ((l.drop k).map (·.name))=V) (fun k=>l.length - k) 0 ⟨Nat.zero_le _,hv⟩ ?_ ?_
 ·exact le_slots' (by simp only[go_sem,Int.natCast_zero])
 ·rintro k ⟨hk,hI⟩
  refine sem_of_awp (Γ:=tbl tabF1) tabF1_ok _ _ _ ?_
  cases hd:l.drop k with
  | nil =>
   have:=end_of_drop hd hk
   have hk2:¬(k:Int)<l.length:=by omega
   simp only[go_sem,hk2,decide_false]
   refine fin _ _ _ ?_ (by rfl)
   rw[← hI,hd];rfl
  | cons c q =>
   have hlt:=lt_of_drop hd
   have hk2:(k:Int)<l.length:=by omega
   have hk0:(0:Int)<=k:=Int.natCast_nonneg k
   have hn:=nth_of_drop (f:=poolD) hd
   rw[hd,List.map_cons,idxG]at hI
   simp only[go_sem,hk2,hk0,hn,hlt,decide_true]
   refine call_lent fnd1R (mem_ix 0 rfl) [0] ⟨c,u,n,rfl,rfl,rfl,rfl,rfl,rfl⟩ (by decide) (by simp) rfl rfl rfl (by simp only[go_sem,AV.unders,AV.under]) (by simp only[List.mem_singleton,forall_eq];exact usB_under u n) (fun j hj=>by
    obtain rfl:j=0:=by simp at hj;exact hj
    rfl) ?_
   by_cases he:c.name=u.name
   ·simp only[go_sem,eq_true he,decide_true]
    rw[if_pos he.symm]at hI
    exact fin _ _ _ hI (by rfl)
   ·simp only[go_sem,eq_false he,decide_false]
    rw[if_neg (fun h=>he h.symm)]at hI
    refine⟨inR_i64.2 (by omega),k+1,⟨by omega,by rw[drop_cons hd];exact hI⟩,by omega,?_⟩
    exact le_slots' (by simp only[go_sem,Int.natCast_add,Int.cast_ofNat_Int])
end Go.AM
namespace Go.AM
open Go Go.Proofs
def CellOk(x:AV):Prop:=x=.nils∨(∃d,x=.dat d)∨∃m,x=.sl 1 0 m
theorem CellOk.under{x:AV}(h:CellOk x):x.under 2:=by
 rcases h with rfl|⟨d,rfl⟩|⟨m,rfl⟩
 ·trivial
 ·trivial
 ·show 1<2;decide
def fnd2R(xs:List AV)(obs:List Obj)(v0:AV)(obs' ex:List Obj)(mv0:List Nat):Prop:=∃(c:PCls) (x:AV) (u:US) (n:Int) (cur:List D),CellOk x/\xs=[.agg [.dat (.str c.name),.dat (.int .i64 c.workers),.dat (.bool c.server),x],.ptr 0 0 0]/\obs=[usB u n,.row (some 4) cur] /\
 v0=.dat (.bool (decide (c.name=u.name)))/\obs'=[usB u n,.row (some 4) cur]/\ex=[]/\mv0=[]
theorem usR_under(u:US)(n:Int)(cur:List D):∀x∈[usB u n,Obj.row (some 4) cur],x.under 2:=by
 intro x hx
 simp only[List.mem_cons,List.not_mem_nil,or_false]at hx
 rcases hx with rfl|rfl
 ·simp[usB,Obj.under,AV.unders,AV.under]
 ·trivial
theorem find2_ok:OkF Tryz.prog 81 (lentC fnd2R):=by
 refine okF_lent Tryz.func81 rfl (by decide) ?_
 rintro xs obs v0 obs' ex mv0 ⟨c,x,u,n,cur,hx,rfl,rfl,rfl,rfl,rfl,rfl⟩
 have fin:∀sl ex,sl.getD 3 .top=.dat (.bool (decide (c.name=u.name)))->post Tryz.prog Tryz.f81 (.dat (.bool (decide (c.name=u.name)))) ([usB u n,.row (some 4) cur]++[]) [] .ret ⟨sl,[usB u n,.row (some 4) cur]++ex,2,[]⟩:=fun sl ex h=>by
  refine post_resO (mv':=[]) (.inl rfl) [.tmp 3] rfl (fun _ h=>h) ?_
  simp only[go_sem,h,List.append_nil]
  exact le_drop (own:=[usB u n,.row (some 4) cur]) (Nat.le_refl 2) (by simp only[AV.unders,AV.under];exact⟨trivial,trivial⟩) (usR_under u n cur)
 refine sem_of_awp (Γ:=tbl []) okG_nil _ _ _ ?_
 rcases hx with rfl|⟨d,rfl⟩|⟨m,rfl⟩
 ·simp only[go_sem,Tryz.ntmps81,usB]
  exact fin _ [_] rfl
 ·simp only[go_sem,Tryz.ntmps81,usB]
  exact fin _ [_] rfl
 ·simp only[go_sem,Tryz.ntmps81,usB]
  exact fin _ [_] rfl
theorem tabC_at(f:Nat->AV):∀(l:List PCls) (i k:Nat) (c:PCls) (q:List PCls),l.drop k=c :: q->((tabC f i l).drop (k*4)).take 4=[.dat (.str c.name),.dat (.int .i64 c.workers),.dat (.bool c.server),f (i+k)]
 | [],_,k,c,q,h=>by simp at h
 | x :: r,i,0,c,q,h=>by
  simp only[List.drop_zero,List.cons.injEq]at h
  obtain⟨rfl,rfl⟩:=h
  simp[tabC]
 | x :: r,i,k+1,c,q,h=>by
  have:=tabC_at f r (i+1) k c q (by simpa using h)
  rw[show (k+1)*4=k*4+4 by omega,show i+(k+1)=i+1+k by omega]
  simp only[tabC,List.drop_succ_cons]
  exact this
def idx2R(xs:List AV)(obs:List Obj)(v0:AV)(obs' ex:List Obj)(mv0:List Nat):Prop:=∃(l:List PCls) (f:Nat->AV) (u:US) (n:Int) (cur:List D),(∀i,CellOk (f i))/\l.length<=1000000/\xs=[.sl 0 0 l.length,.fn 81 [.ptr 2 0 0]] /\
 obs=[.tab 4 (tabC f 0 l),.row (some 4) cur,usB u n]/\v0=.dat (.int .i64 (idxG u.name 0 (l.map (·.name))))/\obs'=[.tab 4 (tabC f 0 l),.row (some 4) cur,usB u n]/\ex=[]/\mv0=[]
abbrev tabF2:List (Nat×Contract):=[(81,lentC fnd2R)]
theorem tabF2_ok:OkG Tryz.prog (tbl tabF2):=okG_cons find2_ok okG_nil
theorem indexF2_ok:OkF Tryz.prog 80 (lentC idx2R):=by
 refine okF_lent Tryz.func80 rfl (by decide) ?_
 rintro xs obs v0 obs' ex mv0 ⟨l,f,u,n,cur,hf,hl,rfl,rfl,rfl,rfl,rfl,rfl⟩
 generalize hv:idxG u.name 0 (l.map (·.name))=V
 have htl:=tabC_len f l 0
 generalize hT:tabC f 0 l=T at *
 refine sem_of_awp (Γ:=tbl tabF2) tabF2_ok _ _ _ ?_
 have fin:∀s (b c:Int),b=c->s.getD 4 .top=.dat (.int .i64 b)->post Tryz.prog Tryz.f80 (.dat (.int .i64 c)) ([.tab 4 T,.row (some 4) cur,usB u n]++[]) [] .ret ⟨s,[.tab 4 T,.row (some 4) cur,usB u n],3,[]⟩:=fun s b c e h=>by
  subst e
  refine post_resO (.inl rfl) [.tmp 4] rfl (fun _ h=>h) ?_
  simp only[go_sem,h]
  exact Le.refl _
 simp only[go_sem,Tryz.ntmps80]
 refine sem_loop (fun k:Nat=>⟨slotsOf 19 [(0,.sl 0 0 l.length),(1,.fn 81 [.ptr 2 0 0]),(4,.dat (.int .i64 0)),(7,.dat (.int .i64 l.length)),(8,.dat (.int .i64 k))],[.tab 4 T,.row (some 4) cur,usB u n],3,[]⟩)
  (fun k=>k<=l.length/\idxG u.name k ((l.drop k).map (·.name))=V) (fun k=>l.length - k) 0 ⟨Nat.zero_le _,hv⟩ ?_ ?_
 ·exact le_slots' (by simp only[go_sem,Int.natCast_zero])
 ·rintro k ⟨hk,hI⟩
  refine sem_of_awp (Γ:=tbl tabF2) tabF2_ok _ _ _ ?_
  cases hd:l.drop k with
  | nil =>
   have:=end_of_drop hd hk
   have hk2:¬(k:Int)<l.length:=by omega
   simp only[go_sem,hk2,decide_false]
   refine fin _ _ _ ?_ (by rfl)
   rw[← hI,hd];rfl
  | cons c q =>
   have hlt:=lt_of_drop hd
   have hk2:(k:Int)<l.length:=by omega
   have hk0:(0:Int)<=k:=Int.natCast_nonneg k
   have hat:=tabC_at f l 0 k c q hd
   rw[hT]at hat
   rw[hd,List.map_cons,idxG]at hI
   simp only[go_sem,hk2,hk0,hlt,hat,decide_true,Nat.add_zero,Nat.zero_add]
   refine⟨by omega,?_⟩
   have call:∀(x:AV) (K:AV->List Obj->List Nat->Prop),CellOk x->AV.ren (emb [2,1] 3) x=x->K (.dat (.bool (decide (c.name=u.name)))) [.tab 4 T,.row (some 4) cur,usB u n] [] ->
     callw (tbl tabF2) (.fn 81 [.ptr 2 0 0]) [.agg [.dat (.str c.name),.dat (.int .i64 c.workers),.dat (.bool c.server),x]] [.tab 4 T,.row (some 4) cur,usB u n] K:=fun x K hx hxr hK=>by
    refine⟨_,[.tab 4 T,.row (some 4) cur,usB u n],[],⟨_,mem_ix 0 rfl,[2,1],[.agg [.dat (.str c.name),.dat (.int .i64 c.workers),.dat (.bool c.server),x],.ptr 0 0 0],[usB u n,.row (some 4) cur],.dat (.bool (decide (c.name=u.name))),[usB u n,.row (some 4) cur],[],[],by decide,by simp,rfl,rfl,?_,?_,usR_under u n cur,?_,⟨c,x,u,n,cur,hx,rfl,rfl,rfl,rfl,rfl,rfl⟩,rfl,?_,rfl⟩,hK⟩
    ·have hxr':AV.ren (emb [2,1] [Obj.tab 4 T,Obj.row (some 4) cur,usB u n].length) x=x:=hxr
     simp only[List.cons_append,List.nil_append,AV.rens,AV.ren,hxr'];rfl
    ·simp only[AV.unders,AV.under,true_and,and_true]
     exact⟨hx.under,by decide⟩
    ·intro j hj
     have:j=0∨j=1:=by simp at hj;omega
     rcases this with rfl|rfl <;> rfl
    ·simp only[List.map_nil,map_kill0];rfl
   have hfk:AV.ren (emb [2,1] 3) (f k)=f k:=by
    rcases hf k with h|⟨d,h⟩|⟨m,h⟩ <;> rw[h] <;> rfl
   refine call (f k) _ (hf k) hfk ?_
   by_cases he:c.name=u.name
   ·simp only[go_sem,eq_true he,decide_true]
    rw[if_pos he.symm]at hI
    exact fin _ _ _ hI (by rfl)
   ·simp only[go_sem,eq_false he,decide_false]
    rw[if_neg (fun h=>he h.symm)]at hI
    refine⟨inR_i64.2 (by omega),k+1,⟨by omega,by rw[drop_cons hd];exact hI⟩,by omega,?_⟩
    exact le_slots' (by simp only[go_sem,Int.natCast_add,Int.cast_ofNat_Int])
end Go.AM

