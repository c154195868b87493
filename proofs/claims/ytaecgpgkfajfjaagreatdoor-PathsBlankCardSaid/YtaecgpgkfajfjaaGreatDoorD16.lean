/- Own work over the model of the kit. -/
import Derived.Test.YtaecgpgkfajfjaaGreatDoorD15
set_option linter.unnecessarySimpa false
set_option linter.unusedSimpArgs false
set_option linter.unusedVariables false
set_option maxHeartbeats 1000000
set_option maxRecDepth 8000
namespace Go.AM
open Go Go.Proofs
def namesL(s:PSys):List Str:=s.pools.map (·.name)++s.locks++s.classes.map (·.name)
structure PSys.small (s:PSys):Prop where
 np:s.pools.length<=10
 nl:s.locks.length<=10
 nc:s.classes.length<=10
def namesR(ds:List D)(v:AV):Prop:=∃s:PSys,ds=[sysD s]/\s.small/\v=.dat (.sl none ((namesL s).map .str))
theorem map_snoc{α:Type}{f:α->Str}{l r:List α}{x:α}{k:Nat}(h:l.drop k=x :: r):(l.take (k+1)).map (fun y=>D.str (f y))=(l.take k).map (fun y=>D.str (f y))++[.str (f x)]:=by
 rw[take_of_drop h];simp
theorem names_ok:OkF Tryz.prog 30 (dataC namesR):=by
 refine okF_data Tryz.func30 rfl (by decide) ?_
 rintro ds v ⟨s,rfl,⟨hp,hl,hc⟩,rfl⟩
 obtain⟨pools,locks,classes⟩:=s
 simp only at hp hl hc
 generalize hv:namesL ⟨pools,locks,classes⟩=V
 refine sem_of_awp (Γ:=tbl []) okG_nil _ _ _ ?_
 simp only[go_sem,Tryz.ntmps30,sysD]
 refine sem_le (le_addnil 3 none rfl (Nat.zero_le _)) ?_
 simp only[go_sem]
 refine sem_loop (fun k:Nat=>⟨slotsOf 39 [(1,.ptr 0 0 0),(2,.nils),(3,.sl 1 0 k),(9,.dat (.sl (some 3) (pools.map poolD))),(10,.dat (.int .i64 pools.length)),(11,.dat (.int .i64 k))],
   [.box [.dat (.sl (some 3) (pools.map poolD)),.dat (.sl none (locks.map .str)),.dat (.sl (some 4) (classes.map clsD))],.row none ((pools.take k).map fun p:PPool=>D.str p.name)],0,[]⟩)
  (fun k=>k<=pools.length) (fun k=>pools.length - k) 0 (Nat.zero_le _) ?_ ?_
 ·exact le_slots' (by simp only[go_sem,Int.natCast_zero])
 ·rintro k hk
  refine sem_of_awp (Γ:=tbl []) okG_nil _ _ _ ?_
  cases hd:pools.drop k with
  | nil =>
   have he:=end_of_drop hd hk
   have hk2:¬(k:Int)<pools.length:=by omega
   subst he
   have hlen:(pools.map fun p:PPool=>D.str p.name).take pools.length=pools.map fun p:PPool=>D.str p.name:=List.take_of_length_le (by simp)
   simp only[go_sem,hk2,List.take_length,hlen]
   refine⟨by omega,by omega,?_⟩
   refine sem_loop (fun k:Nat=>⟨slotsOf 39 [(1,.ptr 0 0 0),(2,.nils),(3,.sl 1 0 (pools.length+locks.length+k)),(26,.dat (.sl (some 4) (classes.map clsD))),(27,.dat (.int .i64 classes.length)),(28,.dat (.int .i64 k))],
     [.box [.dat (.sl (some 3) (pools.map poolD)),.dat (.sl none (locks.map .str)),.dat (.sl (some 4) (classes.map clsD))],.row none ((pools.map fun p:PPool=>D.str p.name)++locks.map D.str++(classes.take k).map fun p:PCls=>D.str p.name)],0,[]⟩)
    (fun k=>k<=classes.length) (fun k=>classes.length - k) 0 (Nat.zero_le _) ?_ ?_
   ·simp only[List.take_zero,List.map_nil,List.append_nil]
    exact le_slots' (by simp only[go_sem,Int.natCast_zero])
   ·rintro k hk
    refine sem_of_awp (Γ:=tbl []) okG_nil _ _ _ ?_
    cases hd:classes.drop k with
    | nil =>
     have he:=end_of_drop hd hk
     have hk2:¬(k:Int)<classes.length:=by omega
     subst he
     simp only[go_sem,hk2,List.take_length]
     refine post_res (.inl rfl) [.tmp 2] rfl ?_
     simp only[go_sem]
     refine Le.trans (le_freeze 1 (ag:=none) rfl (Nat.zero_le _)) ?_
     have e:((pools.map fun p:PPool=>D.str p.name)++locks.map D.str++classes.map fun p:PCls=>D.str p.name)=V.map .str:=by
      rw[← hv];simp[namesL,List.map_map,Function.comp_def]
     have e2:pools.length+locks.length+classes.length=V.length:=by rw[← hv];simp[namesL];omega
     have e3:(V.map D.str).take V.length=V.map .str:=List.take_of_length_le (by simp)
     rw[e,e2]
     simp only[go_sem,e3]
     exact le_fin (by simp only[go_sem]) (by simp only[go_sem])
    | cons c q =>
     have hlt:=lt_of_drop hd
     have hk2:(k:Int)<classes.length:=by omega
     have hk0:(0:Int)<=k:=Int.natCast_nonneg k
     have hn:=nth_of_drop (f:=clsD) hd
     have hml:((classes.take k).map fun p:PCls=>D.str p.name).length=k:=by simp;omega
     have hrow:((pools.map fun p:PPool=>D.str p.name)++locks.map D.str++(classes.take k).map fun p:PCls=>D.str p.name).length=pools.length+locks.length+k:=by simp;omega
     have htk:((pools.map fun p:PPool=>D.str p.name)++locks.map D.str++(classes.take k).map fun p:PCls=>D.str p.name).take (pools.length+locks.length+k)=(pools.map fun p:PPool=>D.str p.name)++locks.map D.str++(classes.take k).map fun p:PCls=>D.str p.name :=
      List.take_of_length_le (by omega)
     have hsn:(pools.map fun p:PPool=>D.str p.name)++locks.map D.str++((classes.take (k+1)).map fun p:PCls=>D.str p.name)=((pools.map fun p:PPool=>D.str p.name)++locks.map D.str++(classes.take k).map fun p:PCls=>D.str p.name)++[.str c.name]:=by
      rw[map_snoc (f:=PCls.name) hd,List.append_assoc,List.append_assoc];simp
     generalize ((pools.map fun p:PPool=>D.str p.name)++locks.map D.str++(classes.take k).map fun p:PCls=>D.str p.name)=row at *
     simp only[go_sem,hk2,hk0,hn,clsD,hrow,htk]
     refine⟨by omega,by omega,inR_i64.2 (by omega),k+1,by omega,by omega,?_⟩
     rw[hsn]
     refine le_end (own:=[_,_]) (ex:=[_,_]) (Nat.zero_le _) ?_ ?_ ?_
     ·simp only[go_sem,Int.natCast_add,Int.cast_ofNat_Int,Nat.add_assoc]
     ·simp only[go_sem]
     ·simp only[go_sem,Obj.under,AV.unders,AV.under]
  | cons c q =>
   have hlt:=lt_of_drop hd
   have hk2:(k:Int)<pools.length:=by omega
   have hk0:(0:Int)<=k:=Int.natCast_nonneg k
   have hn:=nth_of_drop (f:=poolD) hd
   have hrow:((pools.take k).map fun p:PPool=>D.str p.name).length=k:=by simp;omega
   have htk:((pools.take k).map fun p:PPool=>D.str p.name).take k=(pools.take k).map fun p:PPool=>D.str p.name:=List.take_of_length_le (by omega)
   have hsn:=map_snoc (f:=PPool.name) hd
   generalize ((pools.take k).map fun p:PPool=>D.str p.name)=row at *
   simp only[go_sem,hk2,hk0,hn,poolD,hrow,htk]
   refine⟨by omega,by omega,inR_i64.2 (by omega),k+1,by omega,by omega,?_⟩
   rw[hsn]
   refine le_end (own:=[_,_]) (ex:=[_,_]) (Nat.zero_le _) ?_ ?_ ?_
   ·simp only[go_sem,Int.natCast_add,Int.cast_ofNat_Int,Nat.add_assoc]
   ·simp only[go_sem]
   ·simp only[go_sem,Obj.under,AV.unders,AV.under]
theorem rnames_ok:OkF Tryz.prog 34 (dataC namesR):=by
 refine okF_data Tryz.func34 rfl (by decide) ?_
 rintro ds v ⟨s,rfl,⟨hp,hl,hc⟩,rfl⟩
 obtain⟨pools,locks,classes⟩:=s
 simp only at hp hl hc
 generalize hv:namesL ⟨pools,locks,classes⟩=V
 refine sem_of_awp (Γ:=tbl []) okG_nil _ _ _ ?_
 simp only[go_sem,Tryz.ntmps34,sysD]
 refine sem_le (le_addnil 3 none rfl (Nat.zero_le _)) ?_
 simp only[go_sem]
 refine sem_loop (fun k:Nat=>⟨slotsOf 43 [(1,.ptr 0 0 0),(2,.nils),(3,.sl 1 0 k),(4,.dat (.int .i64 k))],
   [.box [.dat (.sl (some 3) (pools.map poolD)),.dat (.sl none (locks.map .str)),.dat (.sl (some 4) (classes.map clsD))],.row none ((pools.take k).map fun p:PPool=>D.str p.name)],0,[]⟩)
  (fun k=>k<=pools.length) (fun k=>pools.length - k) 0 (Nat.zero_le _) ?_ ?_
 ·exact le_slots' (by simp only[go_sem,Int.natCast_zero])
 ·rintro k hk
  refine sem_of_awp (Γ:=tbl []) okG_nil _ _ _ ?_
  cases hd:pools.drop k with
  | nil =>
   have he:=end_of_drop hd hk
   have hk2:¬(k:Int)<pools.length:=by omega
   subst he
   have hlen:(pools.map fun p:PPool=>D.str p.name).take pools.length=pools.map fun p:PPool=>D.str p.name:=List.take_of_length_le (by simp)
   simp only[go_sem,hk2,List.take_length,hlen]
   refine⟨by omega,by omega,?_⟩
   refine sem_loop (fun k:Nat=>⟨slotsOf 43 [(1,.ptr 0 0 0),(2,.nils),(3,.sl 1 0 (pools.length+locks.length+k)),(5,.dat (.int .i64 k))],
     [.box [.dat (.sl (some 3) (pools.map poolD)),.dat (.sl none (locks.map .str)),.dat (.sl (some 4) (classes.map clsD))],.row none ((pools.map fun p:PPool=>D.str p.name)++locks.map D.str++(classes.take k).map fun p:PCls=>D.str p.name)],0,[]⟩)
    (fun k=>k<=classes.length) (fun k=>classes.length - k) 0 (Nat.zero_le _) ?_ ?_
   ·simp only[List.take_zero,List.map_nil,List.append_nil]
    exact le_slots' (by simp only[go_sem,Int.natCast_zero])
   ·rintro k hk
    refine sem_of_awp (Γ:=tbl []) okG_nil _ _ _ ?_
    cases hd:classes.drop k with
    | nil =>
     have he:=end_of_drop hd hk
     have hk2:¬(k:Int)<classes.length:=by omega
     subst he
     simp only[go_sem,hk2,List.take_length]
     refine post_res (.inl rfl) [.tmp 2] rfl ?_
     simp only[go_sem]
     refine Le.trans (le_freeze 1 (ag:=none) rfl (Nat.zero_le _)) ?_
     have e:((pools.map fun p:PPool=>D.str p.name)++locks.map D.str++classes.map fun p:PCls=>D.str p.name)=V.map .str:=by
      rw[← hv];simp[namesL,List.map_map,Function.comp_def]
     have e2:pools.length+locks.length+classes.length=V.length:=by rw[← hv];simp[namesL];omega
     have e3:(V.map D.str).take V.length=V.map .str:=List.take_of_length_le (by simp)
     rw[e,e2]
     simp only[go_sem,e3]
     exact le_fin (by simp only[go_sem]) (by simp only[go_sem])
    | cons c q =>
     have hlt:=lt_of_drop hd
     have hk2:(k:Int)<classes.length:=by omega
     have hk0:(0:Int)<=k:=Int.natCast_nonneg k
     have hn:=nth_of_drop (f:=clsD) hd
     have hml:((classes.take k).map fun p:PCls=>D.str p.name).length=k:=by simp;omega
     have hrow:((pools.map fun p:PPool=>D.str p.name)++locks.map D.str++(classes.take k).map fun p:PCls=>D.str p.name).length=pools.length+locks.length+k:=by simp;omega
     have htk:((pools.map fun p:PPool=>D.str p.name)++locks.map D.str++(classes.take k).map fun p:PCls=>D.str p.name).take (pools.length+locks.length+k)=(pools.map fun p:PPool=>D.str p.name)++locks.map D.str++(classes.take k).map fun p:PCls=>D.str p.name :=
      List.take_of_length_le (by omega)
     have hsn:(pools.map fun p:PPool=>D.str p.name)++locks.map D.str++((classes.take (k+1)).map fun p:PCls=>D.str p.name)=((pools.map fun p:PPool=>D.str p.name)++locks.map D.str++(classes.take k).map fun p:PCls=>D.str p.name)++[.str c.name]:=by
      rw[map_snoc (f:=PCls.name) hd,List.append_assoc,List.append_assoc];simp
     generalize ((pools.map fun p:PPool=>D.str p.name)++locks.map D.str++(classes.take k).map fun p:PCls=>D.str p.name)=row at *
     simp only[go_sem,hk2,hk0,hn,clsD,hrow,htk]
     refine⟨by omega,by omega,inR_i64.2 (by omega),k+1,by omega,by omega,?_⟩
     rw[hsn]
     refine le_end (own:=[_,_]) (ex:=[_]) (Nat.zero_le _) ?_ ?_ ?_
     ·simp only[go_sem,Int.natCast_add,Int.cast_ofNat_Int,Nat.add_assoc]
     ·simp only[go_sem]
     ·simp only[go_sem,Obj.under,AV.unders,AV.under]
  | cons c q =>
   have hlt:=lt_of_drop hd
   have hk2:(k:Int)<pools.length:=by omega
   have hk0:(0:Int)<=k:=Int.natCast_nonneg k
   have hn:=nth_of_drop (f:=poolD) hd
   have hrow:((pools.take k).map fun p:PPool=>D.str p.name).length=k:=by simp;omega
   have htk:((pools.take k).map fun p:PPool=>D.str p.name).take k=(pools.take k).map fun p:PPool=>D.str p.name:=List.take_of_length_le (by omega)
   have hsn:=map_snoc (f:=PPool.name) hd
   generalize ((pools.take k).map fun p:PPool=>D.str p.name)=row at *
   simp only[go_sem,hk2,hk0,hn,poolD,hrow,htk]
   refine⟨by omega,by omega,inR_i64.2 (by omega),k+1,by omega,by omega,?_⟩
   rw[hsn]
   refine le_end (own:=[_,_]) (ex:=[_]) (Nat.zero_le _) ?_ ?_ ?_
   ·simp only[go_sem,Int.natCast_add,Int.cast_ofNat_Int,Nat.add_assoc]
   ·simp only[go_sem]
   ·simp only[go_sem,Obj.under,AV.unders,AV.under]
end Go.AM
namespace Go.AM
open Go Go.Proofs
theorem rIsName_ok:OkF Tryz.prog 35 (dataC isNmR):=by
 refine okF_data Tryz.func35 rfl (by decide) ?_
 rintro ds v ⟨s,rfl,rfl⟩
 generalize hv:isNm s=V
 refine sem_of_awp (Γ:=tbl []) okG_nil _ _ _ ?_
 have fin:∀s own (b c:Bool),b=c->s.getD 2 .top=.dat (.bool b)->post Tryz.prog Tryz.f35 (.dat (.bool c)) [] [] .ret ⟨s,own,0,[]⟩:=fun s own b c e h=>by
  subst e
  exact post_data (.inl rfl) [2] rfl trivial (by simp only[tmpsOf,h];rfl)
 by_cases h0:(s.length:Int)<1
 ·simp only[go_sem,Tryz.ntmps35,h0]
  refine fin _ _ _ _ ?_ rfl
  have:s=[]:=List.eq_nil_of_length_eq_zero (by omega)
  subst this;exact hv
 by_cases h1:(8:Int)<s.length
 ·simp only[go_sem,Tryz.ntmps35,h0,h1]
  refine fin _ _ _ _ ?_ rfl
  rw[← hv]
  cases s with
  | nil=>rfl
  | cons b r=>simp only[List.length_cons]at h1;simp only[isNm];rw[decide_eq_false (by omega)];rfl
 simp only[go_sem,Tryz.ntmps35,h0,h1]
 refine sem_loop (fun k:Nat=>⟨slotsOf 47 [(0,.dat (.str s)),(2,.dat (.bool false)),(3,.dat (.int .i64 k))],[],0,[]⟩)
  (fun k=>k<=s.length/\((k=0/\isNm s=V)∨(0<k/\(s.drop k).all nmc=V))) (fun k=>s.length - k) 0 ⟨Nat.zero_le _,.inl ⟨rfl,hv⟩⟩ ?_ ?_
 ·exact le_slots' (by simp only[go_sem,Int.natCast_zero])
 ·rintro k ⟨hk,hI⟩
  refine sem_of_awp (Γ:=tbl []) okG_nil _ _ _ ?_
  cases hd:s.drop k with
  | nil =>
   have:=end_of_drop hd hk
   have hk2:¬(k:Int)<s.length:=by omega
   simp only[go_sem,hk2]
   refine fin _ _ _ _ ?_ rfl
   rcases hI with⟨hI,_⟩|⟨_,hI⟩
   ·omega
   ·rw[← hI,hd];rfl
  | cons c q =>
   have hlt:=lt_of_drop hd
   have hk2:(k:Int)<s.length:=by omega
   have hk0:(0:Int)<=k:=Int.natCast_nonneg k
   have hb:s.getD k 0=c:=getD_of_drop hd
   have hgo:inR .i64 ((k:Int)+1):=inR_i64.2 (by omega)
   have low:(k=0->lowc c=true)->nmc c=true->(s.drop (k+1)).all nmc=V:=fun p1 p2=>by
    rcases hI with⟨rfl,hI⟩|⟨_,hI⟩
    ·simp only[List.drop_zero]at hd
     subst hd
     rw[← hI]
     simp only[isNm,p1 rfl,Bool.and_true,List.drop_succ_cons,List.drop_zero]
     rw[decide_eq_true (by simp only[List.length_cons]at *;omega)];simp
    ·rw[hd,List.all_cons,p2,Bool.true_and]at hI
     rw[drop_cons hd];exact hI
   have bad0:k=0->lowc c=false->V=false:=fun p0 p1=>by
    subst p0
    simp only[List.drop_zero]at hd
    subst hd
    rcases hI with⟨_,hI⟩|⟨hI,_⟩
    ·rw[← hI];simp[isNm,p1]
    ·omega
   have bad1:nmc c=false->V=false:=fun p1=>by
    rcases hI with⟨rfl,hI⟩|⟨_,hI⟩
    ·exact bad0 rfl (by simp only[nmc,Bool.or_eq_false_iff]at p1;exact p1.1)
    ·rw[← hI,hd,List.all_cons,p1,Bool.false_and]
   have next:(s.drop (k+1)).all nmc=V->∃x,(x<=s.length/\((x=0/\isNm s=V)∨(0<x/\(s.drop x).all nmc=V)))/\s.length - x<s.length - k/\x=k+1:=fun h =>
    ⟨k+1,⟨by omega,.inr ⟨by omega,h⟩⟩,by omega,rfl⟩
   by_cases g1:(97:Int)<=c.toNat
   ·by_cases g2:(c.toNat:Int)<=122
    ·have hlow:lowc c=true:=lowc_iff.2 ⟨by omega,by omega⟩
     simp only[go_sem,hk2,hk0,hb,g1,g2]
     obtain⟨x,n1,n2,rfl⟩:=next (low (fun _=>hlow) (by simp[nmc,hlow]))
     refine⟨hgo,k+1,n1,n2,?_⟩
     exact le_slots' (by simp only[go_sem,Int.natCast_add,Int.cast_ofNat_Int])
    ·have g3:¬(c.toNat:Int)<48:=by omega
     have g4:(57:Int)<c.toNat:=by omega
     have hb1:=bad1 (by simp[nmc,lowc_eq,digc_eq,g4];omega)
     by_cases g0:(k:Int)=0
     ·have g0':decide ((k:Int)=0)=true:=decide_eq_true g0
      simp only[go_sem,hk2,hk0,hb,g1,g2,g0']
      exact fin _ _ false _ hb1.symm (by rfl)
     ·simp only[go_sem,hk2,hk0,hb,g1,g2,g0,g3,g4]
      exact fin _ _ false _ hb1.symm (by rfl)
   ·by_cases g0:(k:Int)=0
    ·have g0':decide ((k:Int)=0)=true:=decide_eq_true g0
     have hb1:=bad0 (by omega) (by simp[lowc_eq];omega)
     simp only[go_sem,hk2,hk0,hb,g1,g0']
     exact fin _ _ false _ hb1.symm (by rfl)
    by_cases g3:(c.toNat:Int)<48
    ·have hb1:=bad1 (by simp[nmc,lowc_eq,digc_eq,g3];omega)
     simp only[go_sem,hk2,hk0,hb,g1,g0,g3]
     exact fin _ _ false _ hb1.symm (by rfl)
    by_cases g4:(57:Int)<c.toNat
    ·have hb1:=bad1 (by simp[nmc,lowc_eq,digc_eq,g4];omega)
     simp only[go_sem,hk2,hk0,hb,g1,g0,g3,g4]
     exact fin _ _ false _ hb1.symm (by rfl)
    ·obtain⟨x,n1,n2,rfl⟩:=next (low (fun h=>by omega) (by simp[nmc,lowc_eq,digc_eq,g3,g4]))
     simp only[go_sem,hk2,hk0,hb,g1,g0,g3,g4]
     refine⟨hgo,k+1,n1,n2,?_⟩
     exact le_slots' (by simp only[go_sem,Int.natCast_add,Int.cast_ofNat_Int])
def beforeR(ds:List D)(v:AV):Prop:=∃(l:List Str) (i:Nat) (x:Str),ds=[.sl none (l.map .str),.int .i64 i]/\l[i]?=some x/\l.length<4611686018427387904/\v=.dat (.bool (decide (x∈l.take i)))
theorem before_ok:OkF Tryz.prog 36 (dataC beforeR):=by
 refine okF_data Tryz.func36 rfl (by decide) ?_
 rintro ds v ⟨l,i,x,rfl,hx,hl,rfl⟩
 generalize hv:decide (x∈l.take i)=V
 have hi:i<l.length:=(List.getElem?_eq_some_iff.1 hx).1
 have hi2:(i:Int)<l.length:=by omega
 have hni:D.nth (l.map .str) i=.str x:=nth_of_drop (drop_of_get hx)
 refine sem_of_awp (Γ:=tbl []) okG_nil _ _ _ ?_
 have fin:∀s own (b c:Bool),b=c->s.getD 4 .top=.dat (.bool b)->post Tryz.prog Tryz.f36 (.dat (.bool c)) [] [] .ret ⟨s,own,0,[]⟩:=fun s own b c e h=>by
  subst e
  exact post_data (.inl rfl) [4] rfl trivial (by simp only[tmpsOf,h];rfl)
 simp only[go_sem,Tryz.ntmps36]
 refine sem_loop (fun k:Nat=>⟨slotsOf 20 [(0,.dat (.sl none (l.map .str))),(1,.dat (.int .i64 i)),(4,.dat (.bool false)),(5,.dat (.int .i64 k))],[],0,[]⟩)
  (fun k=>k<=i/\decide (x∈(l.take i).drop k)=V) (fun k=>i - k) 0 ⟨Nat.zero_le _,hv⟩ ?_ ?_
 ·exact le_slots' (by simp only[go_sem,Int.natCast_zero])
 ·rintro k ⟨hk,hI⟩
  refine sem_of_awp (Γ:=tbl []) okG_nil _ _ _ ?_
  have hti:(l.take i).length=i:=by simp;omega
  cases hd:(l.take i).drop k with
  | nil =>
   have:=end_of_drop hd (by omega)
   have hk2:¬(k:Int)<i:=by omega
   simp only[go_sem,hk2]
   refine fin _ _ _ _ ?_ rfl
   rw[← hI,hd];simp
  | cons c q =>
   have hlt:=lt_of_drop hd
   have hk2:(k:Int)<i:=by omega
   have hk0:(0:Int)<=k:=Int.natCast_nonneg k
   have hi0:(0:Int)<=i:=Int.natCast_nonneg i
   have hk3:(k:Int)<l.length:=by omega
   have hgc:l[k]?=some c:=by have:=get_of_drop hd;rw[List.getElem?_take_of_lt (by omega)]at this;exact this
   have hn:D.nth (l.map .str) k=.str c:=nth_of_drop (drop_of_get hgc)
   rw[hd]at hI
   simp only[go_sem,hk2]
   refine sem_draw (pf:=[]) (Γ:=tbl []) mixed okG_nil pureNo [0,1,2,3,4,5,6,7,8] (by kernel_rfl) ?_
   by_cases he:c=x
   ·simp only[go_sem,chainI,hk2,hk0,hk3,hi0,hi2,hn,hni,he]
    refine fin _ _ _ _ ?_ rfl
    rw[← hI];simp[he]
   ·simp only[go_sem,chainI,hk2,hk0,hk3,hi0,hi2,hn,hni,he]
    refine⟨inR_i64.2 (by omega),k+1,⟨by omega,by rw[drop_cons hd,← hI];simp[show ¬x=c from fun e=>he e.symm]⟩,by omega,?_⟩
    exact le_slots' (by simp only[go_sem,Int.natCast_add,Int.cast_ofNat_Int])
end Go.AM
namespace Go.AM
open Go Go.Proofs
def bstep(on kind:Int)(a:Int)(x:PStep):Int :=
 if x.on=on then
  (if x.kind=1 then (if kind=0 then a+x.cnt else a) else
  if x.kind=2 then (if kind=0 then a - x.cnt else a) else
  if x.kind=3 then (if kind=1 then a+1 else a) else
  if x.kind=4 then (if kind=1 then a - 1 else a) else a) else a
def bal(l:List PStep)(on kind:Int):Int:=l.foldl (bstep on kind) 0
def Tame(l:List PStep):Prop:=∀x∈l,-1000<=x.cnt/\x.cnt<=1000
theorem bstep_le{on kind a:Int}{x:PStep}(h:-1000<=x.cnt/\x.cnt<=1000):a - 1000<=bstep on kind a x/\bstep on kind a x<=a+1000:=by
 unfold bstep;(repeat' split) <;> omega
theorem bal_le:∀(l:List PStep) (on kind a:Int),Tame l->a - 1000*l.length<=l.foldl (bstep on kind) a/\l.foldl (bstep on kind) a<=a+1000*l.length
 | [],_,_,a,_=>by simp
 | x :: l,on,kind,a,h=>by
  have h1:=bstep_le (on:=on) (kind:=kind) (a:=a) (h x (by simp))
  have h2:=bal_le l on kind (bstep on kind a x) (fun y hy=>h y (by simp[hy]))
  simp only[List.foldl_cons,List.length_cons]
  omega
theorem bal_snoc(l:List PStep)(x:PStep)(on kind:Int):bal (l++[x]) on kind=bstep on kind (bal l on kind) x:=by simp[bal]
def balR(ds:List D)(v:AV):Prop:=∃(l:List PStep) (n:Nat) (on kind:Int),ds=[stepsD l,.int .i64 n,.int .i64 on,.int .i64 kind]/\(kind=0∨kind=1)/\n<=l.length/\n<=1000/\Tame (l.take n)/\v=.dat (.int .i64 (bal (l.take n) on kind))
theorem balance_ok:OkF Tryz.prog 59 (dataC balR):=by
 refine okF_data Tryz.func59 rfl (by decide) ?_
 rintro ds v ⟨l,n,on,kind,rfl,hkind,hn,hn2,htame,rfl⟩
 generalize hv:bal (l.take n) on kind=V
 refine sem_of_awp (Γ:=tbl []) okG_nil _ _ _ ?_
 have fin:∀s own (b c:Int),b=c->s.getD 8 .top=.dat (.int .i64 b)->post Tryz.prog Tryz.f59 (.dat (.int .i64 c)) [] [] .ret ⟨s,own,0,[]⟩:=fun s own b c e h=>by
  subst e
  exact post_data (.inl rfl) [8] rfl trivial (by simp only[tmpsOf,h];rfl)
 simp only[go_sem,Tryz.ntmps59]
 refine sem_loop (fun p:Nat×Int=>⟨slotsOf 63 [(0,.dat (stepsD l)),(1,.dat (.int .i64 n)),(2,.dat (.int .i64 on)),(3,.dat (.int .i64 kind)),(8,.dat (.int .i64 0)),(9,.dat (.int .i64 p.2)),(10,.dat (.int .i64 p.1))],[],0,[]⟩)
  (fun p=>p.1<=n/\((l.take n).drop p.1).foldl (bstep on kind) p.2=V/\-1000*p.1<=p.2/\p.2<=1000*p.1) (fun p=>n - p.1) (0,0) ⟨Nat.zero_le _,hv,by simp,by simp⟩ ?_ ?_
 ·exact le_slots' (by simp only[go_sem,Int.natCast_zero])
 ·rintro ⟨k,a⟩ ⟨hk,hI,hlo,hhi⟩
  simp only at hk hI hlo hhi
  refine sem_of_awp (Γ:=tbl []) okG_nil _ _ _ ?_
  have hti:(l.take n).length=n:=by simp;omega
  cases hd:(l.take n).drop k with
  | nil =>
   have:=end_of_drop hd (by omega)
   have hk2:¬(k:Int)<n:=by omega
   simp only[go_sem,hk2]
   refine fin _ _ _ _ ?_ rfl
   rw[← hI,hd];rfl
  | cons x q =>
   have hlt:=lt_of_drop hd
   have hk2:(k:Int)<n:=by omega
   have hk0:(0:Int)<=k:=Int.natCast_nonneg k
   have hk3:(k:Int)<l.length:=by omega
   have hgc:l[k]?=some x:=by have:=get_of_drop hd;rw[List.getElem?_take_of_lt (by omega)]at this;exact this
   have hnx:=nth_of_drop (f:=stepD) (drop_of_get hgc)
   have hx:=htame x (mem_of_drop hd)
   have hgo:inR .i64 ((k:Int)+1):=inR_i64.2 (by omega)
   rw[hd,List.foldl_cons,← drop_cons hd]at hI
   have next:∀a',bstep on kind a x=a'->∃y:Nat×Int,(y.1<=n/\((l.take n).drop y.1).foldl (bstep on kind) y.2=V/\-1000*y.1<=y.2/\y.2<=1000*y.1)/\n - y.1<n - k/\y=(k+1,a'):=fun a' h =>
    ⟨(k+1,a'),⟨by simp only;omega,by simp only;rw[← h];exact hI,by have:=bstep_le (on:=on) (kind:=kind) (a:=a) hx;simp only;omega,by have:=bstep_le (on:=on) (kind:=kind) (a:=a) hx;simp only;omega⟩,by simp only;omega,rfl⟩
   by_cases c0:x.on=on
   ·have c0':decide (x.on=on)=true:=decide_eq_true c0
    rcases hkind with rfl|rfl
    ·by_cases k1:x.kind=1
     ·simp only[go_sem,hk2,hk3,hk0,stepsD,stepD,hnx,c0',k1,Int.reduceEq,eq_self]
      obtain⟨y,n1,n2,rfl⟩:=next (a+x.cnt) (by simp[bstep,c0,k1])
      refine⟨inR_i64.2 (by omega),hgo,_,n1,n2,?_⟩
      exact le_slots' (by simp only[go_sem,stepsD,stepD,Int.natCast_add,Int.cast_ofNat_Int])
     by_cases k2:x.kind=2
     ·simp only[go_sem,hk2,hk3,hk0,stepsD,stepD,hnx,c0',k2,Int.reduceEq,eq_self]
      obtain⟨y,n1,n2,rfl⟩:=next (a - x.cnt) (by simp[bstep,c0,k2])
      refine⟨inR_i64.2 (by omega),hgo,_,n1,n2,?_⟩
      exact le_slots' (by simp only[go_sem,stepsD,stepD,Int.natCast_add,Int.cast_ofNat_Int])
     obtain⟨y,n1,n2,rfl⟩:=next a (by simp[bstep,k1,k2])
     by_cases k3:x.kind=3
     ·simp only[go_sem,hk2,hk3,hk0,stepsD,stepD,hnx,c0',k3,Int.reduceEq,eq_self]
      refine⟨hgo,_,n1,n2,?_⟩
      exact le_slots' (by simp only[go_sem,stepsD,stepD,Int.natCast_add,Int.cast_ofNat_Int])
     by_cases k4:x.kind=4
     ·simp only[go_sem,hk2,hk3,hk0,stepsD,stepD,hnx,c0',k4,Int.reduceEq,eq_self]
      refine⟨hgo,_,n1,n2,?_⟩
      exact le_slots' (by simp only[go_sem,stepsD,stepD,Int.natCast_add,Int.cast_ofNat_Int])
     ·simp only[go_sem,hk2,hk3,hk0,stepsD,stepD,hnx,c0',k1,k2,k3,k4,Int.reduceEq,eq_self]
      refine⟨hgo,_,n1,n2,?_⟩
      exact le_slots' (by simp only[go_sem,stepsD,stepD,Int.natCast_add,Int.cast_ofNat_Int])
    ·by_cases k3:x.kind=3
     ·simp only[go_sem,hk2,hk3,hk0,stepsD,stepD,hnx,c0',k3,Int.reduceEq,eq_self]
      obtain⟨y,n1,n2,rfl⟩:=next (a+1) (by simp[bstep,c0,k3])
      refine⟨inR_i64.2 (by omega),hgo,_,n1,n2,?_⟩
      exact le_slots' (by simp only[go_sem,stepsD,stepD,Int.natCast_add,Int.cast_ofNat_Int])
     by_cases k4:x.kind=4
     ·simp only[go_sem,hk2,hk3,hk0,stepsD,stepD,hnx,c0',k4,Int.reduceEq,eq_self]
      obtain⟨y,n1,n2,rfl⟩:=next (a - 1) (by simp[bstep,c0,k4])
      refine⟨inR_i64.2 (by omega),hgo,_,n1,n2,?_⟩
      exact le_slots' (by simp only[go_sem,stepsD,stepD,Int.natCast_add,Int.cast_ofNat_Int])
     obtain⟨y,n1,n2,rfl⟩:=next a (by simp[bstep,k3,k4])
     by_cases k1:x.kind=1
     ·simp only[go_sem,hk2,hk3,hk0,stepsD,stepD,hnx,c0',k1,Int.reduceEq,eq_self]
      refine⟨hgo,_,n1,n2,?_⟩
      exact le_slots' (by simp only[go_sem,stepsD,stepD,Int.natCast_add,Int.cast_ofNat_Int])
     by_cases k2:x.kind=2
     ·simp only[go_sem,hk2,hk3,hk0,stepsD,stepD,hnx,c0',k2,Int.reduceEq,eq_self]
      refine⟨hgo,_,n1,n2,?_⟩
      exact le_slots' (by simp only[go_sem,stepsD,stepD,Int.natCast_add,Int.cast_ofNat_Int])
     ·simp only[go_sem,hk2,hk3,hk0,stepsD,stepD,hnx,c0',k1,k2,k3,k4,Int.reduceEq,eq_self]
      refine⟨hgo,_,n1,n2,?_⟩
      exact le_slots' (by simp only[go_sem,stepsD,stepD,Int.natCast_add,Int.cast_ofNat_Int])
   ·have c0':decide (x.on=on)=false:=decide_eq_false c0
    obtain⟨y,n1,n2,rfl⟩:=next a (by simp[bstep,c0])
    simp only[go_sem,hk2,hk3,hk0,stepsD,stepD,hnx,c0']
    refine⟨hgo,_,n1,n2,?_⟩
    exact le_slots' (by simp only[go_sem,stepsD,stepD,Int.natCast_add,Int.cast_ofNat_Int])
end Go.AM
namespace Go.AM
open Go Go.Proofs
def mostE(s:PSys)(k:Int):Int:=if k=3∨k=4 then s.locks.length else if k=5 then s.classes.length else s.pools.length
def badForm(x:PStep):Bool:=decide (x.kind<1) || decide (5<x.kind) || (!decide (x.kind=1∨x.kind=2) && !decide (x.cnt=0)) || (!decide (x.kind=1) && x.deep)
def preE(s:PSys)(x:PStep):Int :=
 if badForm x=true then 1 else if x.on<0∨mostE s x.kind<=x.on then 6 else
 if (x.kind=1∨x.kind=2)/\(x.cnt<1∨(s.pools.getD x.on.toNat default).size<x.cnt) then 2 else 0
def stepU(s:PSys)(u:List Int)(x:PStep):List Int :=
 if preE s x≠0 then u else if x.kind=1 then u.set x.on.toNat (u.getD x.on.toNat 0+x.cnt) else if x.kind=2 then u.set x.on.toNat (u.getD x.on.toNat 0 - x.cnt) else u
def stepL(s:PSys)(b:List Bool)(x:PStep):List Bool :=
 if preE s x≠0 then b else if x.kind=3 then b.set x.on.toNat true else if x.kind=4 then b.set x.on.toNat false else b
def stepFine(s:PSys)(u:List Int)(b:List Bool)(x:PStep):Bool :=
 if x.kind=1 then decide (u.getD x.on.toNat 0+x.cnt<=(s.pools.getD x.on.toNat default).size) else if x.kind=2 then decide (0<=u.getD x.on.toNat 0 - x.cnt) else
 if x.kind=3 then !b.getD x.on.toNat false else if x.kind=4 then b.getD x.on.toNat false else (s.classes.getD x.on.toNat default).server
def stepE(s:PSys)(u:List Int)(b:List Bool)(x:PStep):Int:=if preE s x≠0 then preE s x else if stepFine s u b x=true then 0 else 11
def holdO(u:List Int)(b:List Bool):List Obj:=[.box [.sl 1 0 u.length,.sl 2 0 b.length],.row none (intsD u),.row none (boolsD b)]
def SmallN(u:List Int):Prop:=∀n∈u,-100000<=n/\n<=100000
def hstepR(xs:List AV)(obs:List Obj)(v0:AV)(obs' ex:List Obj)(mv0:List Nat):Prop:=∃(s:PSys) (x:PStep) (u:List Int) (b:List Bool),
 u.length=s.pools.length/\b.length=s.locks.length/\(∀p∈s.pools,p.size<=1000)/\SmallN u/\xs=[.ptr 0 0 0,.dat (sysD s),.dat (stepD x)]/\obs=holdO u b /\
 v0=.dat (.int .i64 (stepE s u b x))/\obs'=holdO (stepU s u x) (stepL s b x)/\ex=[]/\mv0=[]
theorem ints_set{u:List Int}{i:Nat}{n:Int}:(intsD u).set i (.int .i64 n)=intsD (u.set i n):=by simp[List.map_set]
theorem bools_set{u:List Bool}{i:Nat}{n:Bool}:(boolsD u).set i (.bool n)=boolsD (u.set i n):=by simp[List.map_set]
theorem nth_intsD{l:List Int}{i:Nat}(h:i<l.length):D.nth (intsD l) i=.int .i64 (l.getD i 0):=D.nth_map h
theorem nth_boolsD{l:List Bool}{i:Nat}(h:i<l.length):D.nth (boolsD l) i=.bool (l.getD i false):=D.nth_map h
theorem holdO_len{u u':List Int}{b b':List Bool}(h:u'.length=u.length)(h2:b'.length=b.length):holdO u' b'=[.box [.sl 1 0 u.length,.sl 2 0 b.length],.row none (intsD u'),.row none (boolsD b')]:=by
 unfold holdO;rw[h,h2]
theorem preE_2{s:PSys}{x:PStep}{p:PPool}(hb:badForm x=false)(h0:¬(x.on<0∨mostE s x.kind<=x.on))(hp:s.pools.getD x.on.toNat default=p):preE s x=if (x.kind=1∨x.kind=2)/\(x.cnt<1∨p.size<x.cnt) then 2 else 0:=by
 unfold preE;rw[if_neg (by simp[hb]),if_neg h0,hp]
theorem hstep_ok:OkF Tryz.prog 58 (lentC hstepR):=by
 refine okF_lent Tryz.func58 rfl (by decide) ?_
 rintro xs obs v0 obs' ex mv0 ⟨s,x,u,b,hu,hb,hsz,hsm,rfl,rfl,rfl,rfl,rfl,rfl⟩
 refine sem_of_awp (Γ:=tbl []) okG_nil _ _ _ ?_
 obtain⟨pools,locks,classes⟩:=s
 obtain⟨kind,on,cnt,deep⟩:=x
 simp only at hu hb hsz
 generalize hE:stepE ⟨pools,locks,classes⟩ u b ⟨kind,on,cnt,deep⟩=E
 generalize hU:stepU ⟨pools,locks,classes⟩ u ⟨kind,on,cnt,deep⟩=U
 generalize hL:stepL ⟨pools,locks,classes⟩ b ⟨kind,on,cnt,deep⟩=B
 have fin:∀s (e:Int) (u':List Int) (b':List Bool) a1 a2,e=E->u'=U->b'=B->u'.length=u.length->b'.length=b.length->s.getD 6 .top=.dat (.int .i64 e) ->
   post Tryz.prog Tryz.f58 (.dat (.int .i64 E)) (holdO U B++[]) [] .ret ⟨s,[.box [.sl 1 0 u.length,.sl 2 0 b.length],.row none (intsD u'),.row none (boolsD b'),.box a1,.box a2],3,[]⟩:=fun s e u' b' a1 a2 h1 h2 h3 h4 h5 h6=>by
  subst h1;subst h2;subst h3
  rw[holdO_len h4 h5,List.append_nil]
  refine post_resO (.inl rfl) [.tmp 6] rfl (fun _ h=>h) ?_
  simp only[go_sem,h6]
  exact le_end (own:=[_,_,_]) (ex:=[_,_]) (Nat.le_refl _) (by simp only[go_sem]) (by simp only[go_sem]) (by simp only[go_sem,Obj.under,AV.unders,AV.under])
 have err:∀s a1 a2 (e:Int),e≠0->preE ⟨pools,locks,classes⟩ ⟨kind,on,cnt,deep⟩=e->s.getD 6 .top=.dat (.int .i64 e) ->
   post Tryz.prog Tryz.f58 (.dat (.int .i64 E)) (holdO U B++[]) [] .ret ⟨s,[.box [.sl 1 0 u.length,.sl 2 0 b.length],.row none (intsD u),.row none (boolsD b),.box a1,.box a2],3,[]⟩:=fun s a1 a2 e h1 h2 h3 =>
  fin s e u b a1 a2 (by rw[← hE];unfold stepE;rw[h2,if_pos h1]) (by rw[← hU];unfold stepU;rw[h2,if_pos h1]) (by rw[← hL];unfold stepL;rw[h2,if_pos h1]) rfl rfl h3
 have good:∀s (e:Int) (u':List Int) (b':List Bool) a1 a2,preE ⟨pools,locks,classes⟩ ⟨kind,on,cnt,deep⟩=0->stepU ⟨pools,locks,classes⟩ u ⟨kind,on,cnt,deep⟩=u'->stepL ⟨pools,locks,classes⟩ b ⟨kind,on,cnt,deep⟩=b' ->
   (if stepFine ⟨pools,locks,classes⟩ u b ⟨kind,on,cnt,deep⟩=true then (0:Int) else 11)=e->u'.length=u.length->b'.length=b.length->s.getD 6 .top=.dat (.int .i64 e) ->
   post Tryz.prog Tryz.f58 (.dat (.int .i64 E)) (holdO U B++[]) [] .ret ⟨s,[.box [.sl 1 0 u.length,.sl 2 0 b.length],.row none (intsD u'),.row none (boolsD b'),.box a1,.box a2],3,[]⟩:=fun s e u' b' a1 a2 h0 h1 h2 h3 h4 h5 h6 =>
  fin s e u' b' a1 a2 (by rw[← hE];unfold stepE;rw[if_neg (by rw[h0];decide)];exact h3.symm) (by rw[← hU];exact h1.symm) (by rw[← hL];exact h2.symm) h4 h5 h6
 have bigN:∀{n:Int},n∈u->-100000<=n/\n<=100000:=fun h=>hsm _ h
 by_cases h1:kind<1
 ·simp only[go_sem,Int.reduceEq,Int.reduceLT,Int.reduceLE,eq_self,Int.natCast_nonneg,Int.toNat_natCast,Tryz.ntmps58,holdO,sysD,stepD,h1,show ¬kind=1 by omega,show ¬kind=2 by omega]
  exact err _ _ _ 1 (by decide) (by simp[preE,badForm,h1]) (by rfl)
 by_cases h2:5<kind
 ·simp only[go_sem,Int.reduceEq,Int.reduceLT,Int.reduceLE,eq_self,Int.natCast_nonneg,Int.toNat_natCast,Tryz.ntmps58,holdO,sysD,stepD,h1,h2,show ¬kind=1 by omega,show ¬kind=2 by omega]
  exact err _ _ _ 1 (by decide) (by simp[preE,badForm,h2]) (by rfl)
 have hk:kind=1∨kind=2∨kind=3∨kind=4∨kind=5:=by omega
 clear h1 h2
 rcases hk with rfl|rfl|rfl|rfl|rfl
 ·simp only[go_sem,Int.reduceEq,Int.reduceLT,Int.reduceLE,eq_self,Int.natCast_nonneg,Int.toNat_natCast,Tryz.ntmps58,holdO,sysD,stepD]
  by_cases h0:on<0
  ·simp only[go_sem,Int.reduceEq,Int.reduceLT,Int.reduceLE,eq_self,Int.natCast_nonneg,Int.toNat_natCast,h0]
   exact err _ _ _ 6 (by decide) (by simp[preE,badForm,mostE,h0]) (by rfl)
  obtain⟨i,rfl⟩:∃i:Nat,on=i:=⟨on.toNat,by omega⟩
  simp only[go_sem,Int.reduceEq,Int.reduceLT,Int.reduceLE,eq_self,Int.natCast_nonneg,Int.toNat_natCast,h0]
  by_cases hn:(pools.length:Int)<=i
  ·simp only[go_sem,Int.reduceEq,Int.reduceLT,Int.reduceLE,eq_self,Int.natCast_nonneg,Int.toNat_natCast,hn]
   exact err _ _ _ 6 (by decide) (by simp[preE,badForm,mostE];omega) (by rfl)
  have hi:i<pools.length:=by omega
  have hi2:(i:Int)<pools.length:=by omega
  simp only[go_sem,Int.reduceEq,Int.reduceLT,Int.reduceLE,eq_self,Int.natCast_nonneg,Int.toNat_natCast,hn]
  refine sem_draw (pf:=[]) (Γ:=tbl []) mixed okG_nil pureNo [0,1,2,3,4,5,6,7,8,9,10,11,12,13,14,15,16,17] (by kernel_rfl) ?_
  have hnp:D.nth (pools.map poolD) i=poolD (pools.getD i default):=D.nth_map hi
  have hps:(pools.getD i default).size<=1000:=by rw[List.getD_eq_getElem?_getD,List.getElem?_eq_getElem hi];exact hsz _ (List.getElem_mem hi)
  have hiu:i<u.length:=by omega
  have hiu2:(i:Int)<u.length:=by omega
  have hun:=bigN (n:=u.getD i 0) (by rw[List.getD_eq_getElem?_getD,List.getElem?_eq_getElem hiu];exact List.getElem_mem hiu)
  generalize hp:pools.getD i default=p at *
  have hp2:pools.getD (i:Int).toNat default=p:=by rw[Int.toNat_natCast];exact hp
  have hpe:=preE_2 (s:=⟨pools,locks,classes⟩) (x:=⟨1,i,cnt,deep⟩) (p:=p) (by simp[badForm]) (by simp[mostE];omega) hp2
  have hnu:=nth_intsD hiu
  simp only[go_sem,Int.reduceEq,Int.reduceLT,Int.reduceLE,eq_self,Int.natCast_nonneg,Int.toNat_natCast,chainI]
  by_cases hc1:cnt<1
  ·simp only[go_sem,Int.reduceEq,Int.reduceLT,Int.reduceLE,eq_self,Int.natCast_nonneg,Int.toNat_natCast,chainI,hc1]
   exact err _ _ _ 2 (by decide) (by rw[hpe];simp[hc1]) (by rfl)
  simp only[go_sem,Int.reduceEq,Int.reduceLT,Int.reduceLE,eq_self,Int.natCast_nonneg,Int.toNat_natCast,chainI,hc1,hi,hi2,hnp,poolD]
  by_cases hc2:p.size<cnt
  ·simp only[go_sem,Int.reduceEq,Int.reduceLT,Int.reduceLE,eq_self,Int.natCast_nonneg,Int.toNat_natCast,chainI,hc2]
   exact err _ _ _ 2 (by decide) (by rw[hpe];simp[hc2]) (by rfl)
  have hpre:preE ⟨pools,locks,classes⟩ ⟨1,i,cnt,deep⟩=0:=by rw[hpe];simp[hc1,hc2]
  simp only[go_sem,Int.reduceEq,Int.reduceLT,Int.reduceLE,eq_self,Int.natCast_nonneg,Int.toNat_natCast,chainI,hc2]
  refine sem_drawM (ob:=1) (pf:=[]) (mf:=[]) (ms:=[]) mixed okG_nil pureNo noMk [0,1,2,3,4,5,6,7,8,9,10,11,12] (by kernel_rfl) ?_
  simp only[go_sem,Int.reduceEq,Int.reduceLT,Int.reduceLE,eq_self,Int.natCast_nonneg,Int.toNat_natCast,chainM,opm,hiu,hiu2,hnu,ints_set]
  refine⟨inR_i64.2 (by omega),?_⟩
  have hnu2:D.nth (intsD (u.set i (u.getD i 0+cnt))) i=.int .i64 (u.getD i 0+cnt):=by rw[nth_intsD (by simpa using hiu)];simp[hiu]
  refine sem_draw (pf:=[]) (Γ:=tbl []) mixed okG_nil pureNo [0,1,2,3,4,5,6,7,8,9,10,11,12,13,14,15,16] (by kernel_rfl) ?_
  simp only[go_sem,Int.reduceEq,Int.reduceLT,Int.reduceLE,eq_self,Int.natCast_nonneg,Int.toNat_natCast,chainI,hiu,hiu2,hnu2,hi2,hnp,poolD]
  by_cases hf:u.getD i 0+cnt<=p.size
  ·simp only[go_sem,Int.reduceEq,Int.reduceLT,Int.reduceLE,eq_self,Int.natCast_nonneg,Int.toNat_natCast,hf]
   refine good _ 0 (u.set i (u.getD i 0+cnt)) b _ _ hpre ?_ ?_ ?_ (by simp) rfl (by rfl)
   ·unfold stepU;rw[if_neg (by rw[hpre];decide)];simp only[Int.toNat_natCast,Int.reduceEq,if_true,if_false]
   ·unfold stepL;rw[if_neg (by rw[hpre];decide)];simp only[Int.reduceEq,if_false]
   ·simp only[stepFine,Int.reduceEq,if_true,if_false,hp2];simp only[Int.toNat_natCast,hf,decide_true,decide_false,Bool.false_eq_true,if_true,if_false]
  ·simp only[go_sem,Int.reduceEq,Int.reduceLT,Int.reduceLE,eq_self,Int.natCast_nonneg,Int.toNat_natCast,hf]
   refine good _ 11 (u.set i (u.getD i 0+cnt)) b _ _ hpre ?_ ?_ ?_ (by simp) rfl (by rfl)
   ·unfold stepU;rw[if_neg (by rw[hpre];decide)];simp only[Int.toNat_natCast,Int.reduceEq,if_true,if_false]
   ·unfold stepL;rw[if_neg (by rw[hpre];decide)];simp only[Int.reduceEq,if_false]
   ·simp only[stepFine,Int.reduceEq,if_true,if_false,hp2];simp only[Int.toNat_natCast,hf,decide_true,decide_false,Bool.false_eq_true,if_true,if_false]
 ·simp only[go_sem,Int.reduceEq,Int.reduceLT,Int.reduceLE,eq_self,Int.natCast_nonneg,Int.toNat_natCast,Tryz.ntmps58,holdO,sysD,stepD]
  cases deep with
  | true =>
   simp only[go_sem,Int.reduceEq,Int.reduceLT,Int.reduceLE,eq_self,Int.natCast_nonneg,Int.toNat_natCast]
   exact err _ _ _ 1 (by decide) (by simp[preE,badForm]) (by rfl)
  | false =>
   simp only[go_sem,Int.reduceEq,Int.reduceLT,Int.reduceLE,eq_self,Int.natCast_nonneg,Int.toNat_natCast]
   by_cases h0:on<0
   ·simp only[go_sem,Int.reduceEq,Int.reduceLT,Int.reduceLE,eq_self,Int.natCast_nonneg,Int.toNat_natCast,h0]
    exact err _ _ _ 6 (by decide) (by simp[preE,badForm,mostE,h0]) (by rfl)
   obtain⟨i,rfl⟩:∃i:Nat,on=i:=⟨on.toNat,by omega⟩
   simp only[go_sem,Int.reduceEq,Int.reduceLT,Int.reduceLE,eq_self,Int.natCast_nonneg,Int.toNat_natCast,h0]
   by_cases hn:(pools.length:Int)<=i
   ·simp only[go_sem,Int.reduceEq,Int.reduceLT,Int.reduceLE,eq_self,Int.natCast_nonneg,Int.toNat_natCast,hn]
    exact err _ _ _ 6 (by decide) (by simp[preE,badForm,mostE];omega) (by rfl)
   have hi:i<pools.length:=by omega
   have hi2:(i:Int)<pools.length:=by omega
   simp only[go_sem,Int.reduceEq,Int.reduceLT,Int.reduceLE,eq_self,Int.natCast_nonneg,Int.toNat_natCast,hn]
   refine sem_draw (pf:=[]) (Γ:=tbl []) mixed okG_nil pureNo [0,1,2,3,4,5,6,7,8,9,10,11,12,13,14,15,16,17] (by kernel_rfl) ?_
   have hnp:D.nth (pools.map poolD) i=poolD (pools.getD i default):=D.nth_map hi
   have hps:(pools.getD i default).size<=1000:=by rw[List.getD_eq_getElem?_getD,List.getElem?_eq_getElem hi];exact hsz _ (List.getElem_mem hi)
   have hiu:i<u.length:=by omega
   have hiu2:(i:Int)<u.length:=by omega
   have hun:=bigN (n:=u.getD i 0) (by rw[List.getD_eq_getElem?_getD,List.getElem?_eq_getElem hiu];exact List.getElem_mem hiu)
   generalize hp:pools.getD i default=p at *
   have hp2:pools.getD (i:Int).toNat default=p:=by rw[Int.toNat_natCast];exact hp
   have hpe:=preE_2 (s:=⟨pools,locks,classes⟩) (x:=⟨2,i,cnt,false⟩) (p:=p) (by simp[badForm]) (by simp[mostE];omega) hp2
   have hnu:=nth_intsD hiu
   simp only[go_sem,Int.reduceEq,Int.reduceLT,Int.reduceLE,eq_self,Int.natCast_nonneg,Int.toNat_natCast,chainI]
   by_cases hc1:cnt<1
   ·simp only[go_sem,Int.reduceEq,Int.reduceLT,Int.reduceLE,eq_self,Int.natCast_nonneg,Int.toNat_natCast,chainI,hc1]
    exact err _ _ _ 2 (by decide) (by rw[hpe];simp[hc1]) (by rfl)
   simp only[go_sem,Int.reduceEq,Int.reduceLT,Int.reduceLE,eq_self,Int.natCast_nonneg,Int.toNat_natCast,chainI,hc1,hi,hi2,hnp,poolD]
   by_cases hc2:p.size<cnt
   ·simp only[go_sem,Int.reduceEq,Int.reduceLT,Int.reduceLE,eq_self,Int.natCast_nonneg,Int.toNat_natCast,chainI,hc2]
    exact err _ _ _ 2 (by decide) (by rw[hpe];simp[hc2]) (by rfl)
   have hpre:preE ⟨pools,locks,classes⟩ ⟨2,i,cnt,false⟩=0:=by rw[hpe];simp[hc1,hc2]
   simp only[go_sem,Int.reduceEq,Int.reduceLT,Int.reduceLE,eq_self,Int.natCast_nonneg,Int.toNat_natCast,chainI,hc2]
   refine sem_drawM (ob:=1) (pf:=[]) (mf:=[]) (ms:=[]) mixed okG_nil pureNo noMk [0,1,2,3,4,5,6,7,8,9,10,11,12] (by kernel_rfl) ?_
   simp only[go_sem,Int.reduceEq,Int.reduceLT,Int.reduceLE,eq_self,Int.natCast_nonneg,Int.toNat_natCast,chainM,opm,hiu,hiu2,hnu,ints_set]
   refine⟨inR_i64.2 (by omega),?_⟩
   have hnu2:D.nth (intsD (u.set i (u.getD i 0 - cnt))) i=.int .i64 (u.getD i 0 - cnt):=by rw[nth_intsD (by simpa using hiu)];simp[hiu]
   refine sem_draw (pf:=[]) (Γ:=tbl []) mixed okG_nil pureNo [0,1,2,3,4,5,6,7,8,9] (by kernel_rfl) ?_
   simp only[go_sem,Int.reduceEq,Int.reduceLT,Int.reduceLE,eq_self,Int.natCast_nonneg,Int.toNat_natCast,chainI,hiu,hiu2,hnu2]
   by_cases hf:0<=u.getD i 0 - cnt
   ·simp only[go_sem,Int.reduceEq,Int.reduceLT,Int.reduceLE,eq_self,Int.natCast_nonneg,Int.toNat_natCast,hf]
    refine good _ 0 (u.set i (u.getD i 0 - cnt)) b _ _ hpre ?_ ?_ ?_ (by simp) rfl (by rfl)
    ·unfold stepU;rw[if_neg (by rw[hpre];decide)];simp only[Int.toNat_natCast,Int.reduceEq,if_true,if_false]
    ·unfold stepL;rw[if_neg (by rw[hpre];decide)];simp only[Int.reduceEq,if_false]
    ·simp only[stepFine,Int.reduceEq,if_true,if_false,hp2];simp only[Int.toNat_natCast,hf,decide_true,decide_false,Bool.false_eq_true,if_true,if_false]
   ·simp only[go_sem,Int.reduceEq,Int.reduceLT,Int.reduceLE,eq_self,Int.natCast_nonneg,Int.toNat_natCast,hf]
    refine good _ 11 (u.set i (u.getD i 0 - cnt)) b _ _ hpre ?_ ?_ ?_ (by simp) rfl (by rfl)
    ·unfold stepU;rw[if_neg (by rw[hpre];decide)];simp only[Int.toNat_natCast,Int.reduceEq,if_true,if_false]
    ·unfold stepL;rw[if_neg (by rw[hpre];decide)];simp only[Int.reduceEq,if_false]
    ·simp only[stepFine,Int.reduceEq,if_true,if_false,hp2];simp only[Int.toNat_natCast,hf,decide_true,decide_false,Bool.false_eq_true,if_true,if_false]
 ·simp only[go_sem,Int.reduceEq,Int.reduceLT,Int.reduceLE,eq_self,Int.natCast_nonneg,Int.toNat_natCast,Tryz.ntmps58,holdO,sysD,stepD]
  cases hc':decide (cnt=0) with
  | false =>
   have hc:¬cnt=0:=of_decide_eq_false hc'
   simp only[go_sem,Int.reduceEq,Int.reduceLT,Int.reduceLE,eq_self,Int.natCast_nonneg,Int.toNat_natCast,hc']
   exact err _ _ _ 1 (by decide) (by simp[preE,badForm,hc]) (by rfl)
  | true =>
   have hc:cnt=0:=of_decide_eq_true hc'
   simp only[go_sem,Int.reduceEq,Int.reduceLT,Int.reduceLE,eq_self,Int.natCast_nonneg,Int.toNat_natCast,hc']
   cases deep with
   | true =>
    simp only[go_sem,Int.reduceEq,Int.reduceLT,Int.reduceLE,eq_self,Int.natCast_nonneg,Int.toNat_natCast]
    exact err _ _ _ 1 (by decide) (by simp[preE,badForm,hc]) (by rfl)
   | false =>
    simp only[go_sem,Int.reduceEq,Int.reduceLT,Int.reduceLE,eq_self,Int.natCast_nonneg,Int.toNat_natCast]
    by_cases h0:on<0
    ·simp only[go_sem,Int.reduceEq,Int.reduceLT,Int.reduceLE,eq_self,Int.natCast_nonneg,Int.toNat_natCast,h0]
     exact err _ _ _ 6 (by decide) (by simp[preE,badForm,mostE,hc,h0]) (by rfl)
    obtain⟨i,rfl⟩:∃i:Nat,on=i:=⟨on.toNat,by omega⟩
    simp only[go_sem,Int.reduceEq,Int.reduceLT,Int.reduceLE,eq_self,Int.natCast_nonneg,Int.toNat_natCast,h0]
    by_cases hn:(locks.length:Int)<=i
    ·simp only[go_sem,Int.reduceEq,Int.reduceLT,Int.reduceLE,eq_self,Int.natCast_nonneg,Int.toNat_natCast,hn]
     exact err _ _ _ 6 (by decide) (by simp[preE,badForm,mostE,hc];omega) (by rfl)
    have hi:i<locks.length:=by omega
    have hi2:(i:Int)<locks.length:=by omega
    simp only[go_sem,Int.reduceEq,Int.reduceLT,Int.reduceLE,eq_self,Int.natCast_nonneg,Int.toNat_natCast,hn]
    refine sem_draw (pf:=[]) (Γ:=tbl []) mixed okG_nil pureNo [0,1,2,3,4,5,6,7,8,9,10,11,12,13,14,15,16,17] (by kernel_rfl) ?_
    have hpre:preE ⟨pools,locks,classes⟩ ⟨3,i,cnt,false⟩=0:=by simp[preE,badForm,mostE,hc];omega
    simp only[go_sem,Int.reduceEq,Int.reduceLT,Int.reduceLE,eq_self,Int.natCast_nonneg,Int.toNat_natCast,chainI]
    have hib:i<b.length:=by omega
    have hib2:(i:Int)<b.length:=by omega
    have hnb:=nth_boolsD hib
    refine sem_draw (pf:=[]) (Γ:=tbl []) mixed okG_nil pureNo [0,1,2,3,4,5,6,7,8,9,10,11,12] (by kernel_rfl) ?_
    simp only[go_sem,Int.reduceEq,Int.reduceLT,Int.reduceLE,eq_self,Int.natCast_nonneg,Int.toNat_natCast,chainI,hib,hib2,hnb]
    refine sem_drawM (ob:=2) (pf:=[]) (mf:=[]) (ms:=[]) mixed okG_nil pureNo noMk [0,1,2,3,4,5,6,7,8,9,10] (by kernel_rfl) ?_
    simp only[go_sem,Int.reduceEq,Int.reduceLT,Int.reduceLE,eq_self,Int.natCast_nonneg,Int.toNat_natCast,chainM,opm,hib,hib2,hnb,bools_set]
    cases hf:b.getD i false with
    | true =>
     simp only[go_sem,Int.reduceEq,Int.reduceLT,Int.reduceLE,eq_self,Int.natCast_nonneg,Int.toNat_natCast,hf]
     refine good _ 11 u (b.set i true) _ _ hpre ?_ ?_ ?_ rfl (by simp) (by rfl)
     ·unfold stepU;rw[if_neg (by rw[hpre];decide)];simp only[Int.reduceEq,if_false]
     ·unfold stepL;rw[if_neg (by rw[hpre];decide)];simp only[Int.toNat_natCast,Int.reduceEq,if_true,if_false]
     ·simp only[stepFine,Int.reduceEq,if_true,if_false,Int.toNat_natCast,hf,Bool.not_true,Bool.not_false,Bool.false_eq_true]
    | false =>
     simp only[go_sem,Int.reduceEq,Int.reduceLT,Int.reduceLE,eq_self,Int.natCast_nonneg,Int.toNat_natCast,hf]
     refine good _ 0 u (b.set i true) _ _ hpre ?_ ?_ ?_ rfl (by simp) (by rfl)
     ·unfold stepU;rw[if_neg (by rw[hpre];decide)];simp only[Int.reduceEq,if_false]
     ·unfold stepL;rw[if_neg (by rw[hpre];decide)];simp only[Int.toNat_natCast,Int.reduceEq,if_true,if_false]
     ·simp only[stepFine,Int.reduceEq,if_true,if_false,Int.toNat_natCast,hf,Bool.not_true,Bool.not_false,Bool.false_eq_true]
 ·simp only[go_sem,Int.reduceEq,Int.reduceLT,Int.reduceLE,eq_self,Int.natCast_nonneg,Int.toNat_natCast,Tryz.ntmps58,holdO,sysD,stepD]
  cases hc':decide (cnt=0) with
  | false =>
   have hc:¬cnt=0:=of_decide_eq_false hc'
   simp only[go_sem,Int.reduceEq,Int.reduceLT,Int.reduceLE,eq_self,Int.natCast_nonneg,Int.toNat_natCast,hc']
   exact err _ _ _ 1 (by decide) (by simp[preE,badForm,hc]) (by rfl)
  | true =>
   have hc:cnt=0:=of_decide_eq_true hc'
   simp only[go_sem,Int.reduceEq,Int.reduceLT,Int.reduceLE,eq_self,Int.natCast_nonneg,Int.toNat_natCast,hc']
   cases deep with
   | true =>
    simp only[go_sem,Int.reduceEq,Int.reduceLT,Int.reduceLE,eq_self,Int.natCast_nonneg,Int.toNat_natCast]
    exact err _ _ _ 1 (by decide) (by simp[preE,badForm,hc]) (by rfl)
   | false =>
    simp only[go_sem,Int.reduceEq,Int.reduceLT,Int.reduceLE,eq_self,Int.natCast_nonneg,Int.toNat_natCast]
    by_cases h0:on<0
    ·simp only[go_sem,Int.reduceEq,Int.reduceLT,Int.reduceLE,eq_self,Int.natCast_nonneg,Int.toNat_natCast,h0]
     exact err _ _ _ 6 (by decide) (by simp[preE,badForm,mostE,hc,h0]) (by rfl)
    obtain⟨i,rfl⟩:∃i:Nat,on=i:=⟨on.toNat,by omega⟩
    simp only[go_sem,Int.reduceEq,Int.reduceLT,Int.reduceLE,eq_self,Int.natCast_nonneg,Int.toNat_natCast,h0]
    by_cases hn:(locks.length:Int)<=i
    ·simp only[go_sem,Int.reduceEq,Int.reduceLT,Int.reduceLE,eq_self,Int.natCast_nonneg,Int.toNat_natCast,hn]
     exact err _ _ _ 6 (by decide) (by simp[preE,badForm,mostE,hc];omega) (by rfl)
    have hi:i<locks.length:=by omega
    have hi2:(i:Int)<locks.length:=by omega
    simp only[go_sem,Int.reduceEq,Int.reduceLT,Int.reduceLE,eq_self,Int.natCast_nonneg,Int.toNat_natCast,hn]
    refine sem_draw (pf:=[]) (Γ:=tbl []) mixed okG_nil pureNo [0,1,2,3,4,5,6,7,8,9,10,11,12,13,14,15,16,17] (by kernel_rfl) ?_
    have hpre:preE ⟨pools,locks,classes⟩ ⟨4,i,cnt,false⟩=0:=by simp[preE,badForm,mostE,hc];omega
    simp only[go_sem,Int.reduceEq,Int.reduceLT,Int.reduceLE,eq_self,Int.natCast_nonneg,Int.toNat_natCast,chainI]
    have hib:i<b.length:=by omega
    have hib2:(i:Int)<b.length:=by omega
    have hnb:=nth_boolsD hib
    refine sem_draw (pf:=[]) (Γ:=tbl []) mixed okG_nil pureNo [0,1,2,3,4,5,6,7,8,9,10,11,12] (by kernel_rfl) ?_
    simp only[go_sem,Int.reduceEq,Int.reduceLT,Int.reduceLE,eq_self,Int.natCast_nonneg,Int.toNat_natCast,chainI,hib,hib2,hnb]
    refine sem_drawM (ob:=2) (pf:=[]) (mf:=[]) (ms:=[]) mixed okG_nil pureNo noMk [0,1,2,3,4,5,6,7,8,9,10] (by kernel_rfl) ?_
    simp only[go_sem,Int.reduceEq,Int.reduceLT,Int.reduceLE,eq_self,Int.natCast_nonneg,Int.toNat_natCast,chainM,opm,hib,hib2,hnb,bools_set]
    cases hf:b.getD i false with
    | true =>
     simp only[go_sem,Int.reduceEq,Int.reduceLT,Int.reduceLE,eq_self,Int.natCast_nonneg,Int.toNat_natCast,hf]
     refine good _ 0 u (b.set i false) _ _ hpre ?_ ?_ ?_ rfl (by simp) (by rfl)
     ·unfold stepU;rw[if_neg (by rw[hpre];decide)];simp only[Int.reduceEq,if_false]
     ·unfold stepL;rw[if_neg (by rw[hpre];decide)];simp only[Int.toNat_natCast,Int.reduceEq,if_true,if_false]
     ·simp only[stepFine,Int.reduceEq,if_true,if_false,Int.toNat_natCast,hf,Bool.not_true,Bool.not_false,Bool.false_eq_true]
    | false =>
     simp only[go_sem,Int.reduceEq,Int.reduceLT,Int.reduceLE,eq_self,Int.natCast_nonneg,Int.toNat_natCast,hf]
     refine good _ 11 u (b.set i false) _ _ hpre ?_ ?_ ?_ rfl (by simp) (by rfl)
     ·unfold stepU;rw[if_neg (by rw[hpre];decide)];simp only[Int.reduceEq,if_false]
     ·unfold stepL;rw[if_neg (by rw[hpre];decide)];simp only[Int.toNat_natCast,Int.reduceEq,if_true,if_false]
     ·simp only[stepFine,Int.reduceEq,if_true,if_false,Int.toNat_natCast,hf,Bool.not_true,Bool.not_false,Bool.false_eq_true]
 ·simp only[go_sem,Int.reduceEq,Int.reduceLT,Int.reduceLE,eq_self,Int.natCast_nonneg,Int.toNat_natCast,Tryz.ntmps58,holdO,sysD,stepD]
  cases hc':decide (cnt=0) with
  | false =>
   have hc:¬cnt=0:=of_decide_eq_false hc'
   simp only[go_sem,Int.reduceEq,Int.reduceLT,Int.reduceLE,eq_self,Int.natCast_nonneg,Int.toNat_natCast,hc']
   exact err _ _ _ 1 (by decide) (by simp[preE,badForm,hc]) (by rfl)
  | true =>
   have hc:cnt=0:=of_decide_eq_true hc'
   simp only[go_sem,Int.reduceEq,Int.reduceLT,Int.reduceLE,eq_self,Int.natCast_nonneg,Int.toNat_natCast,hc']
   cases deep with
   | true =>
    simp only[go_sem,Int.reduceEq,Int.reduceLT,Int.reduceLE,eq_self,Int.natCast_nonneg,Int.toNat_natCast]
    exact err _ _ _ 1 (by decide) (by simp[preE,badForm,hc]) (by rfl)
   | false =>
    simp only[go_sem,Int.reduceEq,Int.reduceLT,Int.reduceLE,eq_self,Int.natCast_nonneg,Int.toNat_natCast]
    by_cases h0:on<0
    ·simp only[go_sem,Int.reduceEq,Int.reduceLT,Int.reduceLE,eq_self,Int.natCast_nonneg,Int.toNat_natCast,h0]
     exact err _ _ _ 6 (by decide) (by simp[preE,badForm,mostE,hc,h0]) (by rfl)
    obtain⟨i,rfl⟩:∃i:Nat,on=i:=⟨on.toNat,by omega⟩
    simp only[go_sem,Int.reduceEq,Int.reduceLT,Int.reduceLE,eq_self,Int.natCast_nonneg,Int.toNat_natCast,h0]
    by_cases hn:(classes.length:Int)<=i
    ·simp only[go_sem,Int.reduceEq,Int.reduceLT,Int.reduceLE,eq_self,Int.natCast_nonneg,Int.toNat_natCast,hn]
     exact err _ _ _ 6 (by decide) (by simp[preE,badForm,mostE,hc];omega) (by rfl)
    have hi:i<classes.length:=by omega
    have hi2:(i:Int)<classes.length:=by omega
    simp only[go_sem,Int.reduceEq,Int.reduceLT,Int.reduceLE,eq_self,Int.natCast_nonneg,Int.toNat_natCast,hn]
    refine sem_draw (pf:=[]) (Γ:=tbl []) mixed okG_nil pureNo [0,1,2,3,4,5,6,7,8,9,10,11,12,13,14,15,16,17] (by kernel_rfl) ?_
    have hpre:preE ⟨pools,locks,classes⟩ ⟨5,i,cnt,false⟩=0:=by simp[preE,badForm,mostE,hc];omega
    simp only[go_sem,Int.reduceEq,Int.reduceLT,Int.reduceLE,eq_self,Int.natCast_nonneg,Int.toNat_natCast,chainI]
    have hnc:D.nth (classes.map clsD) i=clsD (classes.getD i default):=D.nth_map hi
    generalize hp:classes.getD i default=c at *
    simp only[go_sem,Int.reduceEq,Int.reduceLT,Int.reduceLE,eq_self,Int.natCast_nonneg,Int.toNat_natCast,hi,hi2,hnc,clsD]
    cases hf:c.server with
    | true =>
     simp only[go_sem,Int.reduceEq,Int.reduceLT,Int.reduceLE,eq_self,Int.natCast_nonneg,Int.toNat_natCast,hf]
     refine good _ 0 u b _ _ hpre ?_ ?_ ?_ rfl rfl (by rfl)
     ·unfold stepU;rw[if_neg (by rw[hpre];decide)];simp only[Int.reduceEq,if_false]
     ·unfold stepL;rw[if_neg (by rw[hpre];decide)];simp only[Int.reduceEq,if_false]
     ·simp only[stepFine,Int.reduceEq,if_false,Int.toNat_natCast,hp,hf,Bool.false_eq_true,if_true]
    | false =>
     simp only[go_sem,Int.reduceEq,Int.reduceLT,Int.reduceLE,eq_self,Int.natCast_nonneg,Int.toNat_natCast,hf]
     refine good _ 11 u b _ _ hpre ?_ ?_ ?_ rfl rfl (by rfl)
     ·unfold stepU;rw[if_neg (by rw[hpre];decide)];simp only[Int.reduceEq,if_false]
     ·unfold stepL;rw[if_neg (by rw[hpre];decide)];simp only[Int.reduceEq,if_false]
     ·simp only[stepFine,Int.reduceEq,if_false,Int.toNat_natCast,hp,hf,Bool.false_eq_true,if_true]
end Go.AM

