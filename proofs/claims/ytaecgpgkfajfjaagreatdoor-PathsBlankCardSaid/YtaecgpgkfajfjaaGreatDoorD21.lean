/- Own work over the model of the kit. -/
import Derived.Test.YtaecgpgkfajfjaaGreatDoorD20
import Derived.Test.YtaecgpgkfajfjaaGreatDoorD18
import Derived.Test.YtaecgpgkfajfjaaGreatDoorD14
import Derived.Test.YtaecgpgkfajfjaaGreatDoorD13
import Derived.Test.YtaecgpgkfajfjaaGreatDoorD11
set_option linter.unnecessarySimpa false
set_option linter.unusedSimpArgs false
set_option linter.unusedVariables false
set_option maxHeartbeats 8000000
set_option maxRecDepth 8000
namespace Go.AM
open Go Go.Proofs
def usB(u:US)(n:Int):Obj:=.box [.dat (.int .i64 u.cls),.dat (.int .i64 u.line),.dat (.str u.name),.dat (.int .i64 u.kind),.dat (.int .i64 n),.dat (.int .i64 u.cnt),.dat (.bool u.deep)]
theorem usB_under(u:US)(n:Int):(usB u n).under 1:=by simp[usB,Obj.under,AV.unders,AV.under]
def fnd1R(xs:List AV)(obs:List Obj)(v0:AV)(obs' ex:List Obj)(mv0:List Nat):Prop:=∃(p:PPool) (u:US) (n:Int),xs=[.dat (poolD p),.ptr 0 0 0]/\obs=[usB u n]/\v0=.dat (.bool (decide (p.name=u.name)))/\obs'=[usB u n]/\ex=[]/\mv0=[]
theorem find1_ok:OkF Tryz.prog 79 (lentC fnd1R):=by
 refine okF_lent Tryz.func79 rfl (by decide) ?_
 rintro xs obs v0 obs' ex mv0 ⟨p,u,n,rfl,rfl,rfl,rfl,rfl,rfl⟩
 refine sem_of_awp (Γ:=tbl []) okG_nil _ _ _ ?_
 simp only[go_sem,Tryz.ntmps79,poolD,usB]
 refine post_resO (mv':=[]) (.inl rfl) [.tmp 3] rfl (fun _ h=>h) ?_
 simp only[go_sem,List.append_nil]
 exact le_drop (own:=[usB u n]) (Nat.le_refl 1) (by simp only[AV.unders,AV.under];exact⟨trivial,trivial⟩) (by simp only[List.mem_singleton,forall_eq];exact usB_under u n)
def idx1R(xs:List AV)(obs:List Obj)(v0:AV)(obs' ex:List Obj)(mv0:List Nat):Prop:=∃(l:List PPool) (u:US) (n:Int),l.length<=1000000/\xs=[.dat (.sl (some 3) (l.map poolD)),.fn 79 [.ptr 0 0 0]]/\obs=[usB u n]/\v0=.dat (.int .i64 (idxG u.name 0 (l.map (·.name))))/\obs'=[usB u n]/\ex=[]/\mv0=[]
abbrev tabF1:List (Nat×Contract):=[(79,lentC fnd1R)]
theorem tabF1_ok:OkG Tryz.prog (tbl tabF1):=okG_cons find1_ok okG_nil
theorem indexF1_ok:OkF Tryz.prog 78 (lentC idx1R):=by
 refine okF_lent Tryz.func78 rfl (by decide) ?_
 rintro xs obs v0 obs' ex mv0 ⟨l,u,n,hl,rfl,rfl,rfl,rfl,rfl,rfl⟩
 generalize hv:idxG u.name 0 (l.map (·.name))=V
 refine sem_of_awp (Γ:=tbl tabF1) tabF1_ok _ _ _ ?_
 have fin:∀s (b c:Int),b=c->s.getD 4 .top=.dat (.int .i64 b)->post Tryz.prog Tryz.f78 (.dat (.int .i64 c)) ([usB u n]++[]) [] .ret ⟨s,[usB u n],1,[]⟩:=fun s b c e h=>by
  subst e
  refine post_resO (.inl rfl) [.tmp 4] rfl (fun _ h=>h) ?_
  simp only[go_sem,h]
  exact Le.refl _
 simp only[go_sem,Tryz.ntmps78]
 refine sem_loop (fun k:Nat=>⟨slotsOf 19 [(0,.dat (.sl (some 3) (l.map poolD))),(1,.fn 79 [.ptr 0 0 0]),(4,.dat (.int .i64 0)),(7,.dat (.int .i64 l.length)),(8,.dat (.int .i64 k))],[usB u n],1,[]⟩)
  (fun k=>k<=l.length/\idxG u.name k ((l.drop k).map (·.name))=V) (fun k=>l.length - k) 0 ⟨Nat.zero_le _,hv⟩ ?_ ?_
 ·exact le_slots' (by simp only[go_sem,Int.natCast_zero])
 ·rintro k ⟨hk,hI⟩
  refine sem_of_awp (Γ:=tbl tabF1) tabF1_ok _ _ _ ?_
  cases hd:l.drop k with
  | nil =>
   have:=end_of_drop hd hk
   have hk2:¬(k:Int)<l.length:=by omega
   simp only[go_sem,hk2,decide_false]
   refine fin _ _ _ ?_ (by rfl)
   rw[← hI,hd];rfl
  | cons c q =>
   have hlt:=lt_of_drop hd
   have hk2:(k:Int)<l.length:=by omega
   have hk0:(0:Int)<=k:=Int.natCast_nonneg k
   have hn:=nth_of_drop (f:=poolD) hd
   rw[hd,List.map_cons,idxG]at hI
   simp only[go_sem,hk2,hk0,hn,hlt,decide_true]
   refine call_lent fnd1R (mem_ix 0 rfl) [0] ⟨c,u,n,rfl,rfl,rfl,rfl,rfl,rfl⟩ (by decide) (by simp) rfl rfl rfl (by simp only[go_sem,AV.unders,AV.under]) (by simp only[List.mem_singleton,forall_eq];exact usB_under u n) (fun j hj=>by
    obtain rfl:j=0:=by simp at hj;exact hj
    rfl) ?_
   by_cases he:c.name=u.name
   ·simp only[go_sem,eq_true he,decide_true]
    rw[if_pos he.symm]at hI
    exact fin _ _ _ hI (by rfl)
   ·simp only[go_sem,eq_false he,decide_false]
    rw[if_neg (fun h=>he h.symm)]at hI
    refine⟨inR_i64.2 (by omega),k+1,⟨by omega,by rw[drop_cons hd];exact hI⟩,by omega,?_⟩
    exact le_slots' (by simp only[go_sem,Int.natCast_add,Int.cast_ofNat_Int])
end Go.AM
namespace Go.AM
open Go Go.Proofs
def CellOk(x:AV):Prop:=x=.nils∨(∃d,x=.dat d)∨∃m,x=.sl 1 0 m
theorem CellOk.under{x:AV}(h:CellOk x):x.under 2:=by
 rcases h with rfl|⟨d,rfl⟩|⟨m,rfl⟩
 ·trivial
 ·trivial
 ·show 1<2;decide
def fnd2R(xs:List AV)(obs:List Obj)(v0:AV)(obs' ex:List Obj)(mv0:List Nat):Prop:=∃(c:PCls) (x:AV) (u:US) (n:Int) (cur:List D),CellOk x/\xs=[.agg [.dat (.str c.name),.dat (.int .i64 c.workers),.dat (.bool c.server),x],.ptr 0 0 0]/\obs=[usB u n,.row (some 4) cur] /\
 v0=.dat (.bool (decide (c.name=u.name)))/\obs'=[usB u n,.row (some 4) cur]/\ex=[]/\mv0=[]
theorem usR_under(u:US)(n:Int)(cur:List D):∀x∈[usB u n,Obj.row (some 4) cur],x.under 2:=by
 intro x hx
 simp only[List.mem_cons,List.not_mem_nil,or_false]at hx
 rcases hx with rfl|rfl
 ·simp[usB,Obj.under,AV.unders,AV.under]
 ·trivial
theorem find2_ok:OkF Tryz.prog 81 (lentC fnd2R):=by
 refine okF_lent Tryz.func81 rfl (by decide) ?_
 rintro xs obs v0 obs' ex mv0 ⟨c,x,u,n,cur,hx,rfl,rfl,rfl,rfl,rfl,rfl⟩
 have fin:∀sl ex,sl.getD 3 .top=.dat (.bool (decide (c.name=u.name)))->post Tryz.prog Tryz.f81 (.dat (.bool (decide (c.name=u.name)))) ([usB u n,.row (some 4) cur]++[]) [] .ret ⟨sl,[usB u n,.row (some 4) cur]++ex,2,[]⟩:=fun sl ex h=>by
  refine post_resO (mv':=[]) (.inl rfl) [.tmp 3] rfl (fun _ h=>h) ?_
  simp only[go_sem,h,List.append_nil]
  exact le_drop (own:=[usB u n,.row (some 4) cur]) (Nat.le_refl 2) (by simp only[AV.unders,AV.under];exact⟨trivial,trivial⟩) (usR_under u n cur)
 refine sem_of_awp (Γ:=tbl []) okG_nil _ _ _ ?_
 rcases hx with rfl|⟨d,rfl⟩|⟨m,rfl⟩
 ·simp only[go_sem,Tryz.ntmps81,usB]
  exact fin _ [_] rfl
 ·simp only[go_sem,Tryz.ntmps81,usB]
  exact fin _ [_] rfl
 ·simp only[go_sem,Tryz.ntmps81,usB]
  exact fin _ [_] rfl
theorem tabC_at(f:Nat->AV):∀(l:List PCls) (i k:Nat) (c:PCls) (q:List PCls),l.drop k=c :: q->((tabC f i l).drop (k*4)).take 4=[.dat (.str c.name),.dat (.int .i64 c.workers),.dat (.bool c.server),f (i+k)]
 | [],_,k,c,q,h=>by simp at h
 | x :: r,i,0,c,q,h=>by
  simp only[List.drop_zero,List.cons.injEq]at h
  obtain⟨rfl,rfl⟩:=h
  simp[tabC]
 | x :: r,i,k+1,c,q,h=>by
  have:=tabC_at f r (i+1) k c q (by simpa using h)
  rw[show (k+1)*4=k*4+4 by omega,show i+(k+1)=i+1+k by omega]
  simp only[tabC,List.drop_succ_cons]
  exact this
def idx2R(xs:List AV)(obs:List Obj)(v0:AV)(obs' ex:List Obj)(mv0:List Nat):Prop:=∃(l:List PCls) (f:Nat->AV) (u:US) (n:Int) (cur:List D),(∀i,CellOk (f i))/\l.length<=1000000/\xs=[.sl 0 0 l.length,.fn 81 [.ptr 2 0 0]] /\
 obs=[.tab 4 (tabC f 0 l),.row (some 4) cur,usB u n]/\v0=.dat (.int .i64 (idxG u.name 0 (l.map (·.name))))/\obs'=[.tab 4 (tabC f 0 l),.row (some 4) cur,usB u n]/\ex=[]/\mv0=[]
abbrev tabF2:List (Nat×Contract):=[(81,lentC fnd2R)]
theorem tabF2_ok:OkG Tryz.prog (tbl tabF2):=okG_cons find2_ok okG_nil
theorem indexF2_ok:OkF Tryz.prog 80 (lentC idx2R):=by
 refine okF_lent Tryz.func80 rfl (by decide) ?_
 rintro xs obs v0 obs' ex mv0 ⟨l,f,u,n,cur,hf,hl,rfl,rfl,rfl,rfl,rfl,rfl⟩
 generalize hv:idxG u.name 0 (l.map (·.name))=V
 have htl:=tabC_len f l 0
 generalize hT:tabC f 0 l=T at *
 refine sem_of_awp (Γ:=tbl tabF2) tabF2_ok _ _ _ ?_
 have fin:∀s (b c:Int),b=c->s.getD 4 .top=.dat (.int .i64 b)->post Tryz.prog Tryz.f80 (.dat (.int .i64 c)) ([.tab 4 T,.row (some 4) cur,usB u n]++[]) [] .ret ⟨s,[.tab 4 T,.row (some 4) cur,usB u n],3,[]⟩:=fun s b c e h=>by
  subst e
  refine post_resO (.inl rfl) [.tmp 4] rfl (fun _ h=>h) ?_
  simp only[go_sem,h]
  exact Le.refl _
 simp only[go_sem,Tryz.ntmps80]
 refine sem_loop (fun k:Nat=>⟨slotsOf 19 [(0,.sl 0 0 l.length),(1,.fn 81 [.ptr 2 0 0]),(4,.dat (.int .i64 0)),(7,.dat (.int .i64 l.length)),(8,.dat (.int .i64 k))],[.tab 4 T,.row (some 4) cur,usB u n],3,[]⟩)
  (fun k=>k<=l.length/\idxG u.name k ((l.drop k).map (·.name))=V) (fun k=>l.length - k) 0 ⟨Nat.zero_le _,hv⟩ ?_ ?_
 ·exact le_slots' (by simp only[go_sem,Int.natCast_zero])
 ·rintro k ⟨hk,hI⟩
  refine sem_of_awp (Γ:=tbl tabF2) tabF2_ok _ _ _ ?_
  cases hd:l.drop k with
  | nil =>
   have:=end_of_drop hd hk
   have hk2:¬(k:Int)<l.length:=by omega
   simp only[go_sem,hk2,decide_false]
   refine fin _ _ _ ?_ (by rfl)
   rw[← hI,hd];rfl
  | cons c q =>
   have hlt:=lt_of_drop hd
   have hk2:(k:Int)<l.length:=by omega
   have hk0:(0:Int)<=k:=Int.natCast_nonneg k
   have hat:=tabC_at f l 0 k c q hd
   rw[hT]at hat
   rw[hd,List.map_cons,idxG]at hI
   simp only[go_sem,hk2,hk0,hlt,hat,decide_true,Nat.add_zero,Nat.zero_add]
   refine⟨by omega,?_⟩
   have call:∀(x:AV) (K:AV->List Obj->List Nat->Prop),CellOk x->AV.ren (emb [2,1] 3) x=x->K (.dat (.bool (decide (c.name=u.name)))) [.tab 4 T,.row (some 4) cur,usB u n] [] ->
     callw (tbl tabF2) (.fn 81 [.ptr 2 0 0]) [.agg [.dat (.str c.name),.dat (.int .i64 c.workers),.dat (.bool c.server),x]] [.tab 4 T,.row (some 4) cur,usB u n] K:=fun x K hx hxr hK=>by
    refine⟨_,[.tab 4 T,.row (some 4) cur,usB u n],[],⟨_,mem_ix 0 rfl,[2,1],[.agg [.dat (.str c.name),.dat (.int .i64 c.workers),.dat (.bool c.server),x],.ptr 0 0 0],[usB u n,.row (some 4) cur],.dat (.bool (decide (c.name=u.name))),[usB u n,.row (some 4) cur],[],[],by decide,by simp,rfl,rfl,?_,?_,usR_under u n cur,?_,⟨c,x,u,n,cur,hx,rfl,rfl,rfl,rfl,rfl,rfl⟩,rfl,?_,rfl⟩,hK⟩
    ·have hxr':AV.ren (emb [2,1] [Obj.tab 4 T,Obj.row (some 4) cur,usB u n].length) x=x:=hxr
     simp only[List.cons_append,List.nil_append,AV.rens,AV.ren,hxr'];rfl
    ·simp only[AV.unders,AV.under,true_and,and_true]
     exact⟨hx.under,by decide⟩
    ·intro j hj
     have:j=0∨j=1:=by simp at hj;omega
     rcases this with rfl|rfl <;> rfl
    ·simp only[List.map_nil,map_kill0];rfl
   have hfk:AV.ren (emb [2,1] 3) (f k)=f k:=by
    rcases hf k with h|⟨d,h⟩|⟨m,h⟩ <;> rw[h] <;> rfl
   refine call (f k) _ (hf k) hfk ?_
   by_cases he:c.name=u.name
   ·simp only[go_sem,eq_true he,decide_true]
    rw[if_pos he.symm]at hI
    exact fin _ _ _ hI (by rfl)
   ·simp only[go_sem,eq_false he,decide_false]
    rw[if_neg (fun h=>he h.symm)]at hI
    refine⟨inR_i64.2 (by omega),k+1,⟨by omega,by rw[drop_cons hd];exact hI⟩,by omega,?_⟩
    exact le_slots' (by simp only[go_sem,Int.natCast_add,Int.cast_ofNat_Int])
end Go.AM
namespace Go.AM
open Go Go.Proofs
def cellR(x:AV):AV:=match x with|.sl 1 a b=>.sl 2 a b|y=>y
def recP(s:PSys)(us:List US)(f:Nat->AV)(cur:List D):List Obj:=[.box [.dat (.sl (some 3) (s.pools.map poolD)),.dat (.sl none (strsD s.locks)),.sl 1 0 s.classes.length,.dat (.sl (some 7) (us.map usD))],.tab 4 (tabC (fun i=>AV.ren (emb [1,2,3] 4) (f i)) 0 s.classes),.row (some 4) cur]
theorem tabC_ren(g:Nat->Nat)(f:Nat->AV):∀(l:List PCls) (i:Nat),AV.rens g (tabC f i l)=tabC (fun i=>AV.ren g (f i)) i l
 | [],_=>rfl
 | c :: r,i=>by simp only[tabC,AV.rens,AV.ren];rw[tabC_ren g f r (i+1)]
def fndR(xs:List AV)(obs:List Obj)(v0:AV)(obs' ex:List Obj)(mv0:List Nat):Prop:=∃(s:PSys) (us:List US) (f:Nat->AV) (cur:List D) (u:US),(∀i,CellOk (f i))/\s.big/\1<=u.kind/\u.kind<=5 /\
 xs=[.ptr 0 0 0,.dat (usD u)]/\obs=recP s us f cur/\v0=.dat (.int .i64 (findE s u.kind u.name))/\obs'=recP s us f cur/\ex=[]/\mv0=[]
abbrev tabFn:List (Nat×Contract):=[(78,lentC idx1R),(80,lentC idx2R),(67,dataC idxSR)]
theorem tabFn_ok:OkG Tryz.prog (tbl tabFn):=okG_cons indexF1_ok (okG_cons indexF2_ok (okG_cons idxS_ok okG_nil))
theorem pfFn:PureFns (tbl tabFn) [67]:=pure_of (by
 intro g C h hg
 simp only[List.mem_singleton]at hg
 subst hg
 simp only[tabFn,List.mem_cons,Prod.mk.injEq,List.not_mem_nil,or_false]at h
 rcases h with⟨h,_⟩|⟨h,_⟩|⟨_,h⟩
 ·simp at h
 ·simp at h
 ·exact⟨_,h⟩)
theorem gfFn:GrowFns (tbl tabFn) [67]:=grow_of (by
 intro g C h hg
 simp only[List.mem_singleton]at hg
 subst hg
 simp only[tabFn,List.mem_cons,Prod.mk.injEq,List.not_mem_nil,or_false]at h
 rcases h with⟨h,_⟩|⟨h,_⟩|⟨_,h⟩
 ·simp at h
 ·simp at h
 ·exact⟨_,h⟩)
theorem find41_ok:OkF Tryz.prog 42 (lentC fndR):=by
 refine okF_lent Tryz.func42 rfl (by decide) ?_
 rintro xs obs v0 obs' ex mv0 ⟨s,us,f,cur,u,hf,hbig,k1,k5,rfl,rfl,rfl,rfl,rfl,rfl⟩
 generalize hV:findE s u.kind u.name=V
 unfold findE at hV
 refine sem_of_awp (Γ:=tbl tabFn) tabFn_ok _ _ _ ?_
 have hp:=hbig.np
 have hc:=hbig.nc
 have hl:=hbig.nl
 have under:∀x∈recP s us f cur,x.under 3:=fun x hx=>by
  simp only[recP,List.mem_cons,List.not_mem_nil,or_false]at hx
  rcases hx with rfl|rfl|rfl
  ·simp[Obj.under,AV.unders,AV.under]
  ·have key:∀(l:List PCls) (i:Nat),AV.unders 3 (tabC (fun i=>AV.ren (emb [1,2,3] 4) (f i)) i l):=fun l=>by
    induction l with
    | nil=>intro i;simp only[tabC,AV.unders]
    | cons c r ih =>
     intro i
     simp only[tabC,AV.unders,AV.under,true_and]
     refine⟨?_,ih (i+1)⟩
     rcases hf i with h|⟨d,h⟩|⟨m,h⟩ <;> rw[h]
     ·trivial
     ·trivial
     ·show 2<3;decide
   exact key _ _
  ·trivial
 have fin:∀sl ex (v:Int),sl.getD 4 .top=.dat (.int .i64 v)->v=V->post Tryz.prog Tryz.f42 (.dat (.int .i64 V)) (recP s us f cur++[]) [] .ret ⟨sl,recP s us f cur++ex,3,[]⟩:=fun sl ex v h e=>by
  subst e
  refine post_resO (mv':=[]) (.inl rfl) [.tmp 4] rfl (fun _ h=>h) ?_
  simp only[go_sem,h,List.append_nil]
  exact le_drop (own:=recP s us f cur) (Nat.le_refl 3) (by simp only[AV.unders,AV.under];exact⟨trivial,trivial⟩) under
 have call1:∀(K:AV->List Obj->List Nat->Prop),K (.dat (.int .i64 (idxG u.name 0 (s.pools.map fun p:PPool=>p.name)))) (recP s us f cur++[usB u 0]) [] ->
   callw (tbl tabFn) (.fn 78 []) [.dat (.sl (some 3) (s.pools.map poolD)),.fn 79 [.ptr 3 0 0]] (recP s us f cur++[usB u 0]) K:=fun K hK=>by
  refine⟨.dat (.int .i64 (idxG u.name 0 (s.pools.map fun p:PPool=>p.name))),recP s us f cur++[usB u 0],[],⟨_,mem_ix 0 rfl,[3],[.dat (.sl (some 3) (s.pools.map poolD)),.fn 79 [.ptr 0 0 0]],[usB u 0],.dat (.int .i64 (idxG u.name 0 (s.pools.map fun p:PPool=>p.name))),[usB u 0],[],[],by decide,by simp[recP],rfl,rfl,rfl,?_,?_,?_,⟨s.pools,u,0,by omega,rfl,rfl,rfl,rfl,rfl,rfl⟩,by simp only[AV.ren],?_,rfl⟩,hK⟩
  ·simp only[AV.unders,AV.under,true_and,and_true];decide
  ·simp only[List.mem_singleton,forall_eq];exact usB_under u 0
  ·intro j hj
   obtain rfl:j=0:=by simp at hj;exact hj
   rfl
  ·simp only[List.map_nil,map_kill0];rfl
 have call2:∀(K:AV->List Obj->List Nat->Prop),K (.dat (.int .i64 (idxG u.name 0 (s.classes.map fun p:PCls=>p.name)))) (recP s us f cur++[usB u 0]) [] ->
   callw (tbl tabFn) (.fn 80 []) [.sl 1 0 s.classes.length,.fn 81 [.ptr 3 0 0]] (recP s us f cur++[usB u 0]) K:=fun K hK=>by
  have hr:(Obj.tab 4 (tabC f 0 s.classes)).ren (emb [1,2,3] 4)=.tab 4 (tabC (fun i=>AV.ren (emb [1,2,3] 4) (f i)) 0 s.classes):=by simp only[Obj.ren,tabC_ren]
  refine⟨.dat (.int .i64 (idxG u.name 0 (s.classes.map fun p:PCls=>p.name))),recP s us f cur++[usB u 0],[],⟨_,mem_ix 1 rfl,[1,2,3],[.sl 0 0 s.classes.length,.fn 81 [.ptr 2 0 0]],[.tab 4 (tabC f 0 s.classes),.row (some 4) cur,usB u 0],.dat (.int .i64 (idxG u.name 0 (s.classes.map fun p:PCls=>p.name))),[.tab 4 (tabC f 0 s.classes),.row (some 4) cur,usB u 0],[],[],by decide,by simp[recP],rfl,rfl,rfl,?_,?_,?_,⟨s.classes,f,u,0,cur,hf,by omega,rfl,rfl,rfl,rfl,rfl,rfl⟩,by simp only[AV.ren],?_,rfl⟩,hK⟩
  ·simp only[AV.unders,AV.under,true_and,and_true];decide
  ·intro x hx
   simp only[List.mem_cons,List.not_mem_nil,or_false]at hx
   rcases hx with rfl|rfl|rfl
   ·have key:∀(l:List PCls) (i:Nat),AV.unders 3 (tabC f i l):=fun l=>by
     induction l with
     | nil=>intro i;simp only[tabC,AV.unders]
     | cons c r ih =>
      intro i
      simp only[tabC,AV.unders,AV.under,true_and]
      refine⟨?_,ih (i+1)⟩
      rcases hf i with h|⟨d,h⟩|⟨m,h⟩ <;> rw[h]
      ·trivial
      ·trivial
      ·show 1<3;decide
    exact key _ _
   ·trivial
   ·simp[usB,Obj.under,AV.unders,AV.under]
  ·intro j hj
   have:j=0∨j=1∨j=2:=by simp at hj;omega
   rcases this with rfl|rfl|rfl
   ·exact congrArg some hr.symm
   ·rfl
   ·rfl
  ·have hl4:(recP s us f cur++[usB u 0]).length=4:=rfl
   simp only[List.map_nil,map_kill0,List.map_cons,hl4,hr];rfl
 have hk:u.kind=1∨u.kind=2∨u.kind=3∨u.kind=4∨u.kind=5:=by omega
 have wrong:∀m:Nat,u.kind≠m->((u.kind:Int)=(m:Int))=False:=fun m h=>eq_false (by omega)
 obtain⟨cls,line,name,kind,cnt,deep⟩:=u
 simp only at *
 rcases hk with rfl|rfl|rfl|rfl|rfl
 ·simp only[go_sem,Tryz.ntmps42,recP,usD,Int.natCast_one,eq_self,decide_true]
  refine call1 _ ?_
  simp only[go_sem,recP,usB]
  exact fin _ [_] _ rfl hV
 ·simp only[go_sem,Tryz.ntmps42,recP,usD,Int.natCast_one,Int.cast_ofNat_Int,eq_self,decide_true,decide_false]
  refine call1 _ ?_
  simp only[go_sem,recP,usB]
  exact fin _ [_] _ rfl hV
 ·simp only[go_sem,Tryz.ntmps42,recP,usD,Int.natCast_one,Int.cast_ofNat_Int,eq_self,decide_true,decide_false]
  refine sem_drawU [] [] (pf:=[67]) (mf:=[]) mixed tabFn_ok pfFn gfFn noMk (ones [0,1,2,3,4,5,6,7,8]) (by kernel_rfl) ?_
  simp only[go_sem]
  refine call_data idxSR (mem_ix 2 rfl) [.sl none (strsD s.locks),.str name] _ rfl ⟨s.locks,name,rfl,by omega,rfl⟩ (.inl rfl) ?_
  simp only[go_sem]
  exact fin _ [_] _ rfl hV
 ·simp only[go_sem,Tryz.ntmps42,recP,usD,Int.natCast_one,Int.cast_ofNat_Int,eq_self,decide_true,decide_false]
  refine sem_drawU [] [] (pf:=[67]) (mf:=[]) mixed tabFn_ok pfFn gfFn noMk (ones [0,1,2,3,4,5,6,7,8]) (by kernel_rfl) ?_
  simp only[go_sem]
  refine call_data idxSR (mem_ix 2 rfl) [.sl none (strsD s.locks),.str name] _ rfl ⟨s.locks,name,rfl,by omega,rfl⟩ (.inl rfl) ?_
  simp only[go_sem]
  exact fin _ [_] _ rfl hV
 ·simp only[go_sem,Tryz.ntmps42,recP,usD,Int.natCast_one,Int.cast_ofNat_Int,eq_self,decide_true,decide_false]
  refine call2 _ ?_
  simp only[go_sem,recP,usB]
  exact fin _ [_] _ rfl hV
end Go.AM
namespace Go.AM
open Go Go.Proofs
theorem splitC_len(c:UInt8):∀s:Str,(splitC c s).length<=s.length+1/\∀x∈splitC c s,x.length<=s.length
 | []=>by simp[splitC]
 | b :: t=>by
  have ih:=splitC_len c t
  rw[splitC_cons]
  by_cases h:b=c
  ·rw[if_pos h]
   refine⟨by simp only[List.length_cons];omega,fun x hx=>?_⟩
   rcases List.mem_cons.1 hx with rfl|hx
   ·simp
   ·have:=ih.2 x hx;simp only[List.length_cons];omega
  ·rw[if_neg h]
   cases hs:splitC c t with
   | nil=>exact absurd hs (splitC_ne c t)
   | cons y r =>
    rw[hs]at ih
    simp only[List.length_cons]at ih ⊢
    refine⟨by omega,fun x hx=>?_⟩
    rcases List.mem_cons.1 hx with rfl|hx
    ·have:=ih.2 y (by simp);simp only[List.length_cons];omega
    ·have:=ih.2 x (by simp[hx]);omega
theorem wordsW_len(s:Str):(wordsW s).length<=s.length+1/\∀x∈wordsW s,x.length<=s.length/\x≠[]:=by
 have h:=splitC_len 32 s
 refine⟨Nat.le_trans (List.length_filter_le _ _) h.1,fun x hx=>?_⟩
 obtain⟨h1,h2⟩:=List.mem_filter.1 hx
 exact⟨h.2 x h1,by simpa using h2⟩
theorem lRun_len:∀(s c:Str),(lRun c s).length<=s.length+1/\∀x∈lRun c s,x.length<=c.length+s.length
 | [],c=>by
  unfold lRun
  split <;> simp
 | b :: t,c=>by
  rw[lRun_cons]
  split
  ·have ih:=lRun_len t []
   refine⟨by simp only[List.length_cons];omega,fun x hx=>?_⟩
   rcases List.mem_cons.1 hx with rfl|hx
   ·simp only[List.length_cons];omega
   ·have:=ih.2 x hx;simp only[List.length_cons,List.length_nil]at this ⊢;omega
  ·have ih:=lRun_len t (c++[b])
   refine⟨by simp only[List.length_cons];omega,fun x hx=>?_⟩
   have:=ih.2 x hx
   simp only[List.length_append,List.length_cons,List.length_nil]at this ⊢
   omega
theorem killAll_of{s:List AV}{L:List Nat}(h:∀o∈L,AV.kills o s=s):∀kl,(∀o∈kl,o∈L)->killAll kl s=s
 | [],_=>rfl
 | o :: kl,hk=>by
  simp only[killAll]
  rw[h o (hk o (by simp))]
  exact killAll_of h kl fun k hk'=>hk k (by simp[hk'])
def recW(w:List Str)(i:Nat)(E:PSys×List US):Int×PSys×List US :=
 if kindS (w.getD 0 [])=0 then (4,E) else if kindS (w.getD 0 [])<=4 then ((declW w E.1).1,(declW w E.1).2,E.2) else ((useW w (i+1) E.1 E.2).1,E.1,(useW w (i+1) E.1 E.2).2)
structure RdOk (i:Nat) (E:PSys×List US):Prop where
 np:E.1.pools.length<=i
 nl:E.1.locks.length<=i
 nc:E.1.classes.length<=i
 nu:E.2.length<=i
 st:∀c∈E.1.classes,c.steps=[]
 us:∀u∈E.2,1<=u.kind/\u.kind<=5/\u.cls<E.1.classes.length/\u.line<=i
 srt:E.2.Pairwise fun a b=>a.cls<=b.cls
theorem formW_0(w:List Str):formW w 0=false:=by simp[formW]
theorem pass1_rec{w:List Str}(hsk:skip41 w=false)(r:List PL)(i:Nat)(s:PSys)(us:List US) :
  pass1 (lineW w :: r) i s us=if (recW w i (s,us)).1=0 then pass1 r (i+1) (recW w i (s,us)).2.1 (recW w i (s,us)).2.2 else .inl ((i+1:Nat),(recW w i (s,us)).1):=by
 have hk:=kindS_le (w.getD 0 [])
 unfold lineW recW
 rw[hsk]
 simp only[Bool.false_eq_true,if_false]
 generalize hK:kindS (w.getD 0 [])=k at *
 by_cases h0:k=0
 ·subst h0
  unfold lineK
  rw[formW_0]
  simp[pass1]
 rw[if_neg h0]
 rcases hk with hk|⟨h11,h15⟩
 ·simp only[hk,if_true]
  unfold lineK declW
  rw[hK]
  cases hf:formW w k with
  | false=>simp[pass1]
  | true =>
   simp only[if_true,show k<10 by omega,pass1,Bool.true_eq_false,if_false]
   by_cases hin:w.getD 1 []∈namesL s
   ·simp only[hin,if_true];simp
   ·simp only[hin,if_false];simp
 ·simp only[show ¬k<=4 by omega,if_false]
  unfold lineK useW
  rw[hK]
  cases hf:formW w k with
  | false=>simp[pass1]
  | true =>
   simp only[if_true,show ¬k<10 by omega,pass1,Bool.true_eq_false,if_false,false_or]
   by_cases hc:s.classes.length=0
   ·simp only[hc,if_true];simp
   ·simp only[hc,if_false];simp
theorem pass1_skip{w:List Str}(hsk:skip41 w=true)(r:List PL)(i:Nat)(s:PSys)(us:List US):pass1 (lineW w :: r) i s us=pass1 r (i+1) s us:=by
 unfold lineW
 rw[hsk]
 rfl
theorem RdOk.more{i:Nat}{E:PSys×List US}(h:RdOk i E):RdOk (i+1) E :=
 ⟨Nat.le_succ_of_le h.np,Nat.le_succ_of_le h.nl,Nat.le_succ_of_le h.nc,Nat.le_succ_of_le h.nu,h.st,fun u hu=>⟨(h.us u hu).1,(h.us u hu).2.1,(h.us u hu).2.2.1,Nat.le_succ_of_le (h.us u hu).2.2.2⟩,h.srt⟩
theorem addD_cls{s:PSys}{k:Nat}{x:Str}{a b:Int}:s.classes.length<=(addD s k x a b).classes.length/\(addD s k x a b).classes.length<=s.classes.length+1/\(addD s k x a b).pools.length<=s.pools.length+1/\(addD s k x a b).locks.length<=s.locks.length+1:=by
 unfold addD
 split
 ·simp
 split
 ·simp
 ·simp
theorem addD_st{s:PSys}{k:Nat}{x:Str}{a b:Int}(h:∀c∈s.classes,c.steps=[]):∀c∈(addD s k x a b).classes,c.steps=[]:=by
 unfold addD
 split
 ·exact h
 split
 ·exact h
 ·intro c hc
  simp only[List.mem_append,List.mem_singleton]at hc
  rcases hc with hc|rfl
  ·exact h c hc
  ·rfl
theorem RdOk.step{w:List Str}{i:Nat}{E:PSys×List US}(h:RdOk i E)(h0:(recW w i E).1=0):RdOk (i+1) (recW w i E).2:=by
 obtain⟨s,us⟩:=E
 have hk:=kindS_le (w.getD 0 [])
 unfold recW at h0 ⊢
 generalize hK:kindS (w.getD 0 [])=k at *
 by_cases hk0:k=0
 ·rw[if_pos hk0]at h0;cases h0
 rw[if_neg hk0]at h0 ⊢
 rcases hk with hk|⟨h11,h15⟩
 ·rw[if_pos hk]at h0 ⊢
  unfold declW at h0 ⊢
  rw[hK]at h0 ⊢
  by_cases hf:formW w k=false
  ·rw[if_pos hf]at h0;cases h0
  rw[if_neg hf]at h0 ⊢
  by_cases hin:w.getD 1 []∈namesL s
  ·simp only[if_pos hin]at h0;cases h0
  simp only[if_neg hin]at h0 ⊢
  generalize hs':addD s k _ _ _=s'
  have hc:s.classes.length<=s'.classes.length/\s'.classes.length<=s.classes.length+1/\s'.pools.length<=s.pools.length+1/\s'.locks.length<=s.locks.length+1:=by rw[← hs'];exact addD_cls
  have hst:∀c∈s'.classes,c.steps=[]:=by rw[← hs'];exact addD_st h.st
  have h1:=h.np;have h2:=h.nl;have h3:=h.nc;have h4:=h.nu
  simp only at h1 h2 h3 h4
  exact⟨by simp only;omega,by simp only;omega,by simp only;omega,by simp only;omega,hst,fun u hu=>⟨(h.us u hu).1,(h.us u hu).2.1,Nat.lt_of_lt_of_le (h.us u hu).2.2.1 hc.1,Nat.le_succ_of_le (h.us u hu).2.2.2⟩,h.srt⟩
 ·rw[if_neg (by omega)]at h0 ⊢
  unfold useW at h0 ⊢
  rw[hK]at h0 ⊢
  by_cases hf:formW w k=false∨s.classes.length=0
  ·simp only[if_pos hf]at h0;cases h0
  simp only[if_neg hf]at h0 ⊢
  have hc0:s.classes.length≠0:=fun e=>hf (.inr e)
  have h1:=h.np;have h2:=h.nl;have h3:=h.nc;have h4:=h.nu
  simp only at h1 h2 h3 h4
  refine⟨by simp only;omega,by simp only;omega,by simp only;omega,by simp only[List.length_append,List.length_cons,List.length_nil];omega,h.st,?_,?_⟩
  ·intro u hu
   rcases List.mem_append.1 hu with hu|hu
   ·exact⟨(h.us u hu).1,(h.us u hu).2.1,(h.us u hu).2.2.1,Nat.le_succ_of_le (h.us u hu).2.2.2⟩
   ·obtain rfl:=List.mem_singleton.1 hu
    refine⟨by show 1<=k - 10;omega,by show k - 10<=5;omega,by show s.classes.length - 1<s.classes.length;omega,by show i+1<=i+1;omega⟩
  ·rw[List.pairwise_append]
   refine⟨h.srt,List.pairwise_singleton _ _,fun a ha b hb=>?_⟩
   obtain rfl:=List.mem_singleton.1 hb
   have:=(h.us a ha).2.2.1
   simp only at this
   show a.cls<=s.classes.length - 1
   omega
theorem rdOk0:RdOk 0 (sys0,[]):=⟨Nat.le_refl _,Nat.le_refl _,Nat.le_refl _,Nat.le_refl _,(fun c hc=>by cases hc),(fun u hu=>by cases hu),List.Pairwise.nil⟩
end Go.AM
namespace Go.AM
open Go Go.Proofs
def seqRun{ε α:Type}(f:Str->ε->ε ⊕ α):List Str->ε->ε ⊕ α
 | [],E=>.inl E
 | p :: ps,E=>match f p E with
  | .inl E'=>seqRun f ps E'
  | .inr o=>.inr o
def inrMap{ε α β:Type}(h:α->β):ε ⊕ α->ε ⊕ β
 | .inl E=>.inl E
 | .inr a=>.inr (h a)
theorem seqRun_iter{ε α:Type}(f:Str->ε->ε ⊕ α)(h:α->List Obj):∀(l:List Str) (E:ε),iterRun (fun x E=>inrMap h (f x E)) l E=inrMap h (seqRun f l E)
 | [],E=>rfl
 | p :: ps,E=>by
  simp only[iterRun,seqRun]
  cases hf:f p E with
  | inl E'=>exact seqRun_iter f h ps E'
  | inr a=>rfl
theorem seqRun_inr{ε α:Type}(f:Str->ε->ε ⊕ α)(J:List Str->ε->Prop)(hJ:∀E x ps E',J (x :: ps) E->f x E=.inl E'->J ps E'):∀(l:List Str) (E:ε) (a:α),J l E->seqRun f l E=.inr a->∃E' x ps,J (x :: ps) E'/\f x E'=.inr a
 | [],E,a,_,h=>by cases h
 | p :: ps,E,a,hj,h=>by
  simp only[seqRun]at h
  cases hf:f p E with
  | inl E'=>rw[hf]at h;exact seqRun_inr f J hJ ps E' a (hJ E p ps E' hj hf) h
  | inr o =>
   rw[hf]at h
   cases h
   exact⟨E,p,ps,hj,hf⟩
theorem seqRun_inl{ε α:Type}(f:Str->ε->ε ⊕ α)(J:List Str->ε->Prop)(hJ:∀E x ps E',J (x :: ps) E->f x E=.inl E'->J ps E'):∀(l:List Str) (E E':ε),J l E->seqRun f l E=.inl E'->J [] E'
 | [],E,E',hj,h=>by cases h;exact hj
 | p :: ps,E,E',hj,h=>by
  simp only[seqRun]at h
  cases hf:f p E with
  | inl E2=>rw[hf]at h;exact seqRun_inl f J hJ ps E2 E' (hJ E p ps E2 hj hf) h
  | inr o=>rw[hf]at h;cases h
abbrev sqT(s:Str)(c:UInt8)(x:Obj):List Obj:=[.box [.dat (.str s)],.box [.dat (.str [c])],.box [.dat (.int .i64 0)],x]
def sqEnd{ε:Type}(pre:ε->List Obj)(M:List Nat)(s:Str)(c:UInt8):ε ⊕ (List Obj×Code)->Exit->S->Prop
 | .inl E'=>roundQ true (pre E'++sqT s c .dead) M none
 | .inr (O,jc)=>roundQ false (O++sqT s c .dead) M (some jc)
theorem sqT_kill(s:Str)(c:UInt8)(x:Obj)(o:Nat):(sqT s c x).map (Obj.killAll [o])=sqT s c (Obj.killAll [o] x):=by
 simp only[sqT,List.map_cons,List.map_nil,Obj.killAll,killAll,AV.kills,AV.kill]
theorem sqT_set(A:List Obj)(s:Str)(c:UInt8)(x y:Obj):(A++sqT s c x).set (A.length+3) y=A++sqT s c y:=by
 rw[List.set_append_right _ _ (by omega)]
 simp[sqT]
theorem sem_splitSeq{l:List (Nat×Contract)}(hΓ:OkG Tryz.prog (tbl l))(hm:(90,iterC)∈l){g:Operand}{p:Tmp}{assign body:Code}{Q:Exit->S->Prop}{sl:List AV}{own:List Obj}{n0:Nat}{mv0:List Nat}
  {ε:Type} (n:Nat) (c:UInt8) (s:Str) (pre:ε->List Obj) (E0:ε) (M:List Nat) (f:Str->ε->ε ⊕ (List Obj×Code)) (J:List Str->ε->Prop)
  (hg:ev sl g=.fn 90 [.ptr (n+1) 0 0,.ptr n 0 0,.ptr (n+2) 0 0]) (hs:s.length<=9000000000000000000)
  (hown:own=pre E0++[.box [.dat (.str s)],.box [.dat (.str [c])],.box [.dat (.int .i64 0)]])
  (hpre:∀E,(pre E).length=n/\(pre E).map (Obj.killAll [n+3])=pre E)
  (hsl:∀kl:List Nat,(∀o∈kl,o∈M∨o=n+3)->killAll kl sl=sl)
  (hM:∀o∈M,o<n∨n+3<o)
  (hJ0:J (splitC c s) E0)
  (hJ:∀E x ps E',J (x :: ps) E->f x E=.inl E'->J ps E')
  (hO:∀E x ps O jc,J (x :: ps) E->f x E=.inr (O,jc)->O.length=n/\O.map (Obj.killAll [n+3])=O)
  (hstep:∀E s' x ps,J (x :: ps) E->sem Tryz.prog assign (fun e σ=>e=.normal/\σ.mv=[]/\sem Tryz.prog body (sqEnd pre M s' c (f x E)) σ) ⟨sl.set p (.dat (.str x)),pre E++sqT s' c .dead,n+4,[]⟩)
  (hQ:match seqRun f (splitC c s) E0 with
   | .inl E=>Q .normal ⟨sl,pre E++[.dead,.box [.dat (.str [c])],.box [.dat (.int .i64 0)],.dead],n0,addMv n0 mv0 M⟩
   | .inr (O,jc)=>jumpQ Q (some jc) ⟨sl,O++[.dead,.box [.dat (.str [c])],.box [.dat (.int .i64 0)],.dead],n0,addMv n0 mv0 M⟩) :
  sem Tryz.prog (.rangeFunc g #[p] assign body) Q ⟨sl,own,n0,mv0⟩:=by
 refine sem_range hΓ hg ?_
 intro fn dfr
 have hlen:own.length=n+3:=by rw[hown];simp[(hpre E0).1]
 simp only[hlen]
 let r:Loop:=newLoop fn dfr #[p] assign body
 have hr:newLoop fn dfr #[p] assign body=r:=rfl
 simp only[hr]
 have hslk:∀kl:List Nat,(∀o∈kl,o∈M)->killAll kl sl=sl:=fun kl h=>hsl kl fun o ho=>.inl (h o ho)
 have hsl1:killAll [n+3] sl=sl:=hsl _ fun o ho=>.inr (by simpa using ho)
 have hslM:killAll M sl=sl:=hslk M fun o h=>h
 have hslX:killAll ((n+3) :: M) sl=sl:=hsl _ fun o ho=>by (rcases List.mem_cons.1 ho with h|h);exact .inr h;exact .inl h
 let W:ε->Str->List Obj:=fun E s=>pre E++sqT s c (.lp r sl)
 let h':List Obj×Code->List Obj:=fun a=>a.1++[.dead,.box [.dat (.str [c])],.box [.dat (.int .i64 0)],.lp { r with state:=.done,pending:=some a.2 } sl]
 have hW:∀E s,W E s=pre E++sqT s c (.lp r sl):=fun _ _=>rfl
 have nd:∀(A:List Obj) (s:Str) (x:Obj),A.length=n->(A++sqT s c x).set n .dead=A++[.dead,.box [.dat (.str [c])],.box [.dat (.int .i64 0)],x]:=fun A s x h=>by
  rw[List.set_append_right _ _ (by omega),h,Nat.sub_self]
  rfl
 have hget:∀(A B:List Obj) (k:Nat),A.length=n->(A++B).getD (n+k) .dead=B.getD k .dead:=fun A B k h=>by
  simp only[List.getD_eq_getElem?_getD]
  rw[List.getElem?_append_right (by omega),h,Nat.add_sub_cancel_left]
 have hit:IterW Tryz.prog n c W M (fun x E=>inrMap h' (f x E)) J:=by
  refine⟨fun E s=>hget _ _ 0 (hpre E).1,fun E s=>hget _ _ 1 (hpre E).1,fun E s=>hget _ _ 2 (hpre E).1,fun E s s'=>?_,hM,fun E s' x ps hj=>?_⟩
  ·simp only[hW]
   rw[List.set_append_right _ _ (by have:=(hpre E).1;omega),(hpre E).1,Nat.sub_self]
   rfl
  ·have hE:=hpre E
   have hstart:((W E s').map (Obj.killAll [n+3])).set (n+3) .dead=pre E++sqT s' c .dead:=by
    rw[hW,List.map_append,hE.2,sqT_kill]
    have:=sqT_set (pre E) s' c (Obj.killAll [n+3] (.lp r sl)) .dead
    rwa [hE.1]at this
   have hWl:(W E s').length=n+4:=by rw[hW,List.length_append,hE.1];rfl
   have hst:=hstep E s' x ps hj
   have key:∀b ownB pend,ownB.length=n->ownB.map (Obj.killAll [n+3])=ownB->sqEnd pre M s' c (f x E)=roundQ b (ownB++sqT s' c .dead) M pend ->
     RoundW Tryz.prog (n+3) r [.dat (.str x)] (W E s') b (ownB++sqT s' c (.lp (if b then r else { r with state:=.done,pending:=pend }) sl)) M:=by
    intro b ownB pend h1 h2 h3
    have h:=round_ok (P:=Tryz.prog) (o:=n+3) (r:=r) (cs:=sl) (args:=[.dat (.str x)]) (own:=W E s') (b:=b) (ownB:=ownB++sqT s' c .dead) (mvB:=M) (pend:=pend) (hget _ _ 3 hE.1) rfl rfl (by rw[List.length_append,h1];show n+3<n+4;omega) (by
     rw[hstart,hsl1,hWl]
     rw[h3]at hst
     exact hst)
    rw[hslM,List.map_append,h2,sqT_kill]at h
    have e:=sqT_set ownB s' c (Obj.killAll [n+3] .dead) (.lp (if b then r else { r with state:=.done,pending:=pend }) sl)
    rw[h1]at e
    rw[e]at h
    exact h
   cases hf:f x E with
   | inl E' =>
    refine⟨r,sl,true,W E' s',M,hget _ _ 3 hE.1,rfl,?_,fun o h=>h,rfl,rfl,hJ E x ps E' hj hf⟩
    have h:=key true (pre E') none (hpre E').1 (hpre E').2 (by rw[hf];rfl)
    exact h
   | inr a =>
    obtain⟨O,jc⟩:=a
    obtain⟨o1,o2⟩:=hO E x ps O jc hj hf
    refine⟨r,sl,false,O++sqT s' c (.lp { r with state:=.done,pending:=some jc } sl),M,hget _ _ 3 hE.1,rfl,?_,fun o h=>h,rfl,?_⟩
    ·exact key false O (some jc) o1 o2 (by rw[hf];rfl)
    ·exact nd O s' _ o1
 have hcall:tbl l 90 (.yld (n+3) :: [.ptr (n+1) 0 0,.ptr n 0 0,.ptr (n+2) 0 0]) (own++[.lp r sl]) (.tup []) (iterOut W n (iterRun (fun x E=>inrMap h' (f x E)) (splitC c s) E0)) M :=
  ⟨iterC,hm,n,c,ε,W,M,_,J,E0,s,hit,rfl,hs,by rw[hown,hW,List.append_assoc];rfl,hJ0,rfl,rfl,rfl⟩
 rw[seqRun_iter]at hcall
 have hMn:n+3∉M:=fun h=>by have:=hM _ h;omega
 have fin:∀(A:List Obj) (x:Obj),A.length=n->A.map (Obj.killAll [n+3])=A->(((A++[.dead,.box [.dat (.str [c])],.box [.dat (.int .i64 0)],x]).map (Obj.killAll [n+3])).set (n+3) .dead)=A++[.dead,.box [.dat (.str [c])],.box [.dat (.int .i64 0)],.dead]:=fun A x h1 h2=>by
  rw[List.map_append,h2,List.set_append_right _ _ (by omega),h1,Nat.add_sub_cancel_left]
  simp only[List.map_cons,List.map_nil,Obj.killAll,killAll,AV.kills,AV.kill,List.set_cons_succ,List.set_cons_zero]
 cases hR:seqRun f (splitC c s) E0 with
 | inl E =>
  rw[hR]at hcall hQ
  have e:iterOut W n (.inl E)=pre E++[.dead,.box [.dat (.str [c])],.box [.dat (.int .i64 0)],.lp r sl]:=nd (pre E) [] _ (hpre E).1
  replace hcall:tbl l _ _ _ _ (iterOut W n (.inl E)) M:=hcall
  rw[e]at hcall
  refine⟨.tup [],_,M,r,sl,hcall,hget _ _ 3 (hpre E).1,(fun h=>by cases h),by simp[(hpre E).1],hMn,?_⟩
  rw[fin _ _ (hpre E).1 (hpre E).2,hslX]
  exact hQ
 | inr a =>
  obtain⟨O,jc⟩:=a
  obtain⟨E',x,ps,hj,hfx⟩:=seqRun_inr f J hJ _ _ _ hJ0 hR
  obtain⟨o1,o2⟩:=hO E' x ps O jc hj hfx
  rw[hR]at hcall hQ
  replace hcall:tbl l _ _ _ _ (O++[.dead,.box [.dat (.str [c])],.box [.dat (.int .i64 0)],.lp { r with state:=.done,pending:=some jc } sl]) M:=hcall
  refine⟨.tup [],_,M,{ r with state:=.done,pending:=some jc },sl,hcall,hget _ _ 3 o1,(fun h=>by cases h),by simp[o1],hMn,?_⟩
  rw[fin _ _ o1 o2,hslX]
  exact hQ
end Go.AM
namespace Go.AM
open Go
theorem le_addnilT{s:List AV}{own:List Obj}{n0:Nat}{mv:List Nat}(o j:Nat)(ag:Option Nat){k:Nat}{cs:List AV}(ho:own[o]?=some (.tab k cs))(hj:cs.getD j .top=.nils)(h0:n0<=own.length) :
  Le ⟨s,own,n0,mv⟩ ⟨s,own.set o (.tab k (cs.set j (.sl own.length 0 0)))++[.row ag []],n0,mv⟩:=by
 rintro c a w ⟨hd,hn,F,φ,h2,h3,h4⟩
 let L:Loc:=⟨true,0,0,0,es ag⟩
 have hmono:=ext_old h3 L
 have h4':=AV.Rs_mono (fun _ h=>h) (Same.refl F w) hmono _ _ h4
 have h5:=h3.new (L:=L) (obj:=Obj.row ag []) (Nat.le_refl _) (fun _ _=>rfl) (fun hn'=>by cases hn') (by simp only[ObjR];exact⟨rfl,.inl ⟨rfl,trivial⟩⟩)
 refine⟨hd,hn,F,ext φ own.length L,⟨h2.sub,h2.ext,fun o L' hlt hm h=>hmono o L' (h2.keep o L' hlt hm h),h2.rest,fun o L' ho' hn'=>?_,h2.frsh⟩,?_,h4'⟩
 ·unfold ext at ho'
  split at ho'
  ·cases ho';cases hn'
  ·exact h2.orig o L' ho' hn'
 ·have holt:o<own.length:=by
   rcases Nat.lt_or_ge o own.length with h|h
   ·exact h
   ·rw[List.getElem?_eq_none h]at ho;cases ho
  refine⟨h5.fb,h5.live,h5.inj,fun o' obj ho'=>?_,fun o' ho'=>h5.out o' (by simpa using ho'),h5.glob⟩
  have hset:own.set o (.tab k (cs.set j (.sl own.length 0 0)))++[Obj.row ag []]=(own++[Obj.row ag []]).set o (Obj.tab k (cs.set j (.sl own.length 0 0))):=by rw[List.set_append_left _ _ holt]
  simp only at ho'
  rw[hset,List.getElem?_set]at ho'
  by_cases e:o=o'
  ·subst e
   simp only[if_true,List.length_append,List.length_cons,List.length_nil,show o<own.length+(0+1) by omega,Option.some.injEq]at ho'
   subst ho'
   have hr:=h5.rep o (.tab k cs) (by rw[List.getElem?_append_left holt];exact ho)
   cases hl:ext φ own.length L o with
   | none=>rw[hl]at hr;simp only[ObjR]at hr
   | some L' =>
    rw[hl]at hr
    simp only[ObjR]at hr ⊢
    obtain⟨q1,q2⟩:=hr
    refine⟨q1,?_⟩
    rcases q2 with⟨q2,rfl⟩|⟨q2,arr,ty,q3,q4,q5,vs,q6,q7⟩
    ·exact .inl ⟨q2,rfl⟩
    refine .inr ⟨q2,arr,ty,q3,q4,by simpa using q5,vs,?_,by simpa using q7⟩
    have hget:=AV.Rs_get (AV.Ra_iff.1 q6).1 j
    rw[hj]at hget
    have hv:=R_nils.1 hget
    have key:=AV.Ra_set q6 j (.sl own.length 0 0) (.slice none 0 0) rfl (by
     simp only[AV.R]
     exact⟨L,ext_self _ _ _,.inl ⟨rfl,by simp⟩⟩)
    have hself:vs.set j (.slice none 0 0)=vs:=by
     apply List.ext_getElem?
     intro k
     rw[List.getElem?_set]
     split
     ·rename_i hk
      subst hk
      split
      ·rename_i hlt
       rw[← hv]
       simp[List.getD_eq_getElem?_getD,List.getElem?_eq_getElem hlt]
      ·rename_i hge
       rw[List.getElem?_eq_none (by omega)]
     ·rfl
    rw[hself]at key
    exact key
  ·simp only[e,if_false]at ho'
   exact h5.rep o' obj ho'
def nd(x y:AV):Prop:=y=x∨(x=.nils/\∃ag,y=.dat (.sl ag []))
def nds:List AV->List AV->Prop
 | [],[]=>True
 | x :: xs,y :: ys=>nd x y/\nds xs ys
 | _,_=>False
theorem nd_R{F:Nat->Prop}{φ:Nat->Option Loc}{w:World}{x y:AV}{v:Value}(h:nd x y)(hv:AV.R F φ w x v):AV.R F φ w y v:=by
 rcases h with rfl|⟨rfl,ag,rfl⟩
 ·exact hv
 ·exact nils_dat ag hv
theorem nds_Ra{F:Nat->Prop}{φ:Nat->Option Loc}{w:World}:∀{xs ys:List AV} {vs:List Value},nds xs ys->AV.Ra F φ w xs vs->AV.Ra F φ w ys vs
 | [],[],_,_,h=>h
 | x :: xs,y :: ys,vs,h,hv=>by
  simp only[AV.Ra]at hv ⊢
  obtain⟨u,us,e,h1,h2,h3⟩:=hv
  exact⟨u,us,e,h1,nd_R h.1 h2,nds_Ra h.2 h3⟩
theorem nds_len:∀{xs ys:List AV},nds xs ys->ys.length=xs.length
 | [],[],_=>rfl
 | x :: xs,y :: ys,h=>by simp only[List.length_cons,nds_len h.2]
theorem le_nilsT{s:List AV}{own:List Obj}{n0:Nat}{mv:List Nat}(o:Nat){k:Nat}{cs cs':List AV}(ho:own[o]?=some (.tab k cs))(h:nds cs cs'):Le ⟨s,own,n0,mv⟩ ⟨s,own.set o (.tab k cs'),n0,mv⟩:=by
 refine le_obj o ho ?_ (by intro F φ w h;simp only[ObjR]at h)
 intro F φ w L hr
 have hl:=nds_len h
 simp only[ObjR]at hr ⊢
 obtain⟨h1,h2⟩:=hr
 refine⟨h1,?_⟩
 rcases h2 with⟨h2,rfl⟩|⟨h2,arr,ty,h3,h4,h5,vs,h6,h7⟩
 ·exact .inl ⟨h2,List.length_eq_zero_iff.1 (by rw[hl];rfl)⟩
 ·exact .inr ⟨h2,arr,ty,h3,h4,by rw[hl];exact h5,vs,nds_Ra h h6,by rw[hl];exact h7⟩
theorem nils_agg3{F:Nat->Prop}{φ:Nat->Option Loc}{w:World}{v:Value}(a b c:Option Nat)(h:AV.R F φ w (.agg [.nils,.nils,.nils]) v):AV.R F φ w (.dat (.agg [.sl a [],.sl b [],.sl c []])) v:=by
 refine agg_dat (ds:=[.sl a [],.sl b [],.sl c []]) ?_
 simp only[AV.R]at h ⊢
 obtain⟨cs,e,h⟩:=h
 exact⟨cs,e,nds_Ra (xs:=[.nils,.nils,.nils]) ⟨.inr ⟨rfl,a,rfl⟩,.inr ⟨rfl,b,rfl⟩,.inr ⟨rfl,c,rfl⟩,trivial⟩ h⟩
theorem le_tupagg{vs:List AV}{own:List Obj}{n0:Nat}{mv:List Nat}(a b c:Option Nat):Le ⟨[.tup (.agg [.nils,.nils,.nils] :: vs)],own,n0,mv⟩ ⟨[.tup (.dat (.agg [.sl a [],.sl b [],.sl c []]) :: vs)],own,n0,mv⟩:=by
 rintro cx act w ⟨hd,hn,F,φ,h2,h3,h4⟩
 refine⟨hd,hn,F,φ,h2,h3,?_⟩
 simp only[AV.Rs,AV.R]at h4 ⊢
 obtain⟨v,us,e,⟨vs',rfl,h5⟩,h6⟩:=h4
 obtain⟨u,us2,e2,h7,h8⟩:=h5
 refine⟨_,us,e,⟨_,rfl,u,us2,e2,?_,h8⟩,h6⟩
 have:=nils_agg3 (F:=F) (φ:=φ) (w:=w) (v:=u) a b c (by simpa only[AV.R] using h7)
 simpa only[AV.R] using this
end Go.AM
namespace Go.AM
open Go Go.Proofs
abbrev parD41(q:PSys×Int×Int):AV:=.tup [.dat (sysD q.1),.dat (.int .i64 q.2.1),.dat (.int .i64 q.2.2)]
def parR41(lines:Str->List Str)(ds:List D)(v:AV):Prop:=∃s:Str,ds=[.str s]/\s.length<=1000000/\v=parD41 (parse41 lines s)
theorem tabC_killAll(kl:List Nat):∀(l:List PCls) (i:Nat),killAll kl (tabC (fun _=>.nils) i l)=tabC (fun _=>.nils) i l:=by
 induction kl with
 | nil=>intro l i;rfl
 | cons o r ih=>intro l i;simp only[killAll,tabC_kills,ih]
theorem tabC_rens(g:Nat->Nat)(l:List PCls)(i:Nat):AV.rens g (tabC (fun _=>.nils) i l)=tabC (fun _=>.nils) i l:=by
 rw[tabC_ren];rfl
theorem tabC_frzs(o:Nat)(ag:Option Nat)(xs:List D):∀(l:List PCls) (i:Nat),AV.frzs o ag xs (tabC (fun _=>.nils) i l)=tabC (fun _=>.nils) i l
 | [],_=>rfl
 | c :: r,i=>by simp only[tabC,AV.frzs,AV.frz];rw[tabC_frzs o ag xs r (i+1)]
@[go_sem] theorem PutE_kills {d:Tmp} {K:S->Prop} {s:List AV} {own own':List Obj} {n o p:Nat} {os m:List Nat} {v:AV}:PutE (some d) K ⟨s,own,n,m⟩ v own' (o :: p :: os)=K ⟨(killAll (o :: p :: os) s).set d v,own',n,addMv n m (o :: p :: os)⟩:=Eq.trans rfl rfl
attribute [go_sem] tabC_killAll tabC_kills tabC_rens tabC_frzs
def pPre41(E:Nat×PSys×List US):List Obj:=[.box [.nils,.nils,.nils],.box [.dat (.int .i64 0)],.box [.dat (.int .i64 0)],.box [.sl 5 0 E.2.1.pools.length,.sl 6 0 E.2.1.locks.length,.sl 7 0 E.2.1.classes.length,.sl 8 0 E.2.2.length],.box [.dat (.int .i64 E.1)],
 .row (some 3) (E.2.1.pools.map poolD),.row none (strsD E.2.1.locks),.tab 4 (tabC (fun _=>.nils) 0 E.2.1.classes),.row (some 7) (E.2.2.map usD)]
def pOut41(E:Nat×PSys×List US)(e:Int):List Obj:=[.box [.nils,.nils,.nils],.box [.dat (.int .i64 E.1)],.box [.dat (.int .i64 e)],.box [.sl 5 0 E.2.1.pools.length,.sl 6 0 E.2.1.locks.length,.sl 7 0 E.2.1.classes.length,.sl 8 0 E.2.2.length],.box [.dat (.int .i64 E.1)],
 .row (some 3) (E.2.1.pools.map poolD),.row none (strsD E.2.1.locks),.tab 4 (tabC (fun _=>.nils) 0 E.2.1.classes),.row (some 7) (E.2.2.map usD)]
theorem pPre41_kill(o:Nat)(h:8<o)(E:Nat×PSys×List US):(pPre41 E).map (Obj.killAll [o])=pPre41 E:=by
 have h5:¬5=o:=by omega
 have h6:¬6=o:=by omega
 have h7:¬7=o:=by omega
 have h8:¬8=o:=by omega
 simp[pPre41,Obj.killAll,killAll,AV.kills,AV.kill,tabC_kills,h5,h6,h7,h8]
theorem pOut41_kill(o:Nat)(h:8<o)(E:Nat×PSys×List US)(e:Int):(pOut41 E e).map (Obj.killAll [o])=pOut41 E e:=by
 have h5:¬5=o:=by omega
 have h6:¬6=o:=by omega
 have h7:¬7=o:=by omega
 have h8:¬8=o:=by omega
 simp[pOut41,Obj.killAll,killAll,AV.kills,AV.kill,tabC_kills,h5,h6,h7,h8]
def pF41(x:Str)(E:Nat×PSys×List US):(Nat×PSys×List US) ⊕ (List Obj×Code) :=
 if skip41 (wordsW x) then .inl (E.1+1,E.2) else if (recW (wordsW x) E.1 E.2).1=0 then .inl (E.1+1,(recW (wordsW x) E.1 E.2).2) else .inr (pOut41 (E.1+1,(recW (wordsW x) E.1 E.2).2) (recW (wordsW x) E.1 E.2).1,.ret)
def pl41(l:Str):PL:=lineW (wordsW l)
structure PJ41 (R:(Int×Int) ⊕ (PSys×List US)) (ps:List Str) (E:Nat×PSys×List US):Prop where
 run:pass1 (ps.map pl41) E.1 E.2.1 E.2.2=R
 len:∀x∈ps,x.length<=4000
 num:E.1+ps.length<=4001
 rd:RdOk E.1 E.2
theorem PJ41.next{R:(Int×Int) ⊕ (PSys×List US)}:∀E x ps E',PJ41 R (x :: ps) E->pF41 x E=.inl E'->PJ41 R ps E':=by
 rintro ⟨i,s,us⟩ x ps E' ⟨j1,j2,j3,j4⟩ hf
 simp only at j1 j2 j3 j4
 simp only[List.map_cons]at j1
 simp only[List.length_cons]at j3
 unfold pF41 at hf
 cases hsk:skip41 (wordsW x) with
 | true =>
  rw[hsk,if_pos rfl]at hf
  cases hf
  unfold pl41 at j1
  rw[pass1_skip hsk]at j1
  exact⟨j1,fun y hy=>j2 y (by simp[hy]),by simp only;omega,j4.more⟩
 | false =>
  rw[hsk,if_neg (by decide)]at hf
  unfold pl41 at j1
  rw[pass1_rec hsk]at j1
  by_cases h0:(recW (wordsW x) i (s,us)).1=0
  ·simp only[if_pos h0]at hf j1
   cases hf
   exact⟨j1,fun y hy=>j2 y (by simp[hy]),by simp only;omega,j4.step h0⟩
  ·simp only[if_neg h0]at hf
   cases hf
theorem pF41_skip{x:Str}{E:Nat×PSys×List US}(h:skip41 (wordsW x)=true):pF41 x E=.inl (E.1+1,E.2):=by unfold pF41;rw[h,if_pos rfl]
theorem pF41_ok{x:Str}{E:Nat×PSys×List US}(h:skip41 (wordsW x)=false)(h0:(recW (wordsW x) E.1 E.2).1=0):pF41 x E=.inl (E.1+1,(recW (wordsW x) E.1 E.2).2):=by unfold pF41;rw[h,if_neg (by decide),if_pos h0]
theorem pF41_bad{x:Str}{E:Nat×PSys×List US}(h:skip41 (wordsW x)=false)(h0:¬(recW (wordsW x) E.1 E.2).1=0):pF41 x E=.inr (pOut41 (E.1+1,(recW (wordsW x) E.1 E.2).2) (recW (wordsW x) E.1 E.2).1,.ret):=by unfold pF41;rw[h,if_neg (by decide),if_neg h0]
def chkAR(ds:List D)(v:AV):Prop:=∃s:PSys,ds=[sysD s]/\v=.dat (.int .i64 (checkE s))
def chkBR(ds:List D)(v:AV):Prop:=∃s:PSys,ds=[sysD s]/\¬s.small/\v=.dat (.int .i64 (checkE s))
theorem checkB_ok:OkF Tryz.prog 15 (dataC chkBR):=by
 refine okF_data Tryz.func15 rfl (by decide) ?_
 rintro ds v ⟨s,rfl,hf,rfl⟩
 generalize hv:checkE s=V
 refine sem_of_awp (Γ:=tbl []) okG_nil _ _ _ ?_
 have fin:∀s own (b c:Int),b=c->s.getD 2 .top=.dat (.int .i64 b)->post Tryz.prog Tryz.f15 (.dat (.int .i64 c)) [] [] .ret ⟨s,own,0,[]⟩:=fun s own b c e h=>by
  subst e
  exact post_data (.inl rfl) [2] rfl trivial (by simp only[tmpsOf,h];rfl)
 unfold checkE at hv
 simp only[go_sem,Tryz.ntmps15,sysD]
 by_cases h1:6<(s.pools.length:Int)
 ·simp only[go_sem,h1]
  rw[if_pos (.inl h1)]at hv
  exact fin _ _ _ _ hv (by rfl)
 by_cases h2:4<(s.locks.length:Int)
 ·simp only[go_sem,h1,h2]
  rw[if_pos (.inr (.inl h2))]at hv
  exact fin _ _ _ _ hv (by rfl)
 by_cases h3:6<(s.classes.length:Int)
 ·simp only[go_sem,h1,h2,h3]
  rw[if_pos (.inr (.inr h3))]at hv
  exact fin _ _ _ _ hv (by rfl)
 exact absurd ⟨by omega,by omega,by omega⟩ hf
theorem checkA_ok:OkF Tryz.prog 15 (dataC chkAR):=by
 rintro args own v own' mv ⟨ds,h1,⟨s,rfl,rfl⟩,h2⟩
 by_cases hs:s.small
 ·exact check_ok args own _ own' mv ⟨_,h1,⟨s,rfl,⟨hs⟩,rfl⟩,h2⟩
 ·exact checkB_ok args own _ own' mv ⟨_,h1,⟨s,rfl,hs,rfl⟩,h2⟩
abbrev tabPq:List (Nat×Contract):=[(38,madeC sqR),(90,iterC),(39,madeC (madeS none wdsR)),(40,lentC rdclR),(41,lentC rstpR),(42,normC (lentC fndR)),(15,dataC chkAR)]
theorem tabPq_ok:OkG Tryz.prog (tbl tabPq):=okG_cons splitSeq_ok (okG_cons iter_ok (okG_cons pwords_ok (okG_cons rdeclare_ok (okG_cons rstep41_ok (okG_cons (okF_norm find41_ok) (okG_cons checkA_ok okG_nil))))))
theorem kindS_w{w:Str}:(w=[112,111,111,108]/\kindS w=1)∨(w=[109,117,116,101,120]/\kindS w=2)∨(w=[99,108,97,115,115]/\kindS w=3)∨(w=[115,101,114,118,101,114]/\kindS w=4)∨(w=[116,97,107,101]/\kindS w=11)∨(w=[103,105,118,101]/\kindS w=12)∨(w=[108,111,99,107]/\kindS w=13)∨(w=[117,110,108,111,99,107]/\kindS w=14)∨(w=[99,97,108,108]/\kindS w=15)∨(kindS w=0/\¬w=[112,111,111,108]/\¬w=[109,117,116,101,120]/\¬w=[99,108,97,115,115]/\¬w=[115,101,114,118,101,114]/\¬w=[116,97,107,101]/\¬w=[103,105,118,101]/\¬w=[108,111,99,107]/\¬w=[117,110,108,111,99,107]/\¬w=[99,97,108,108]):=by
 by_cases h0:w=[112,111,111,108]
 ·exact .inl ⟨h0,by rw[h0];rfl⟩
 by_cases h1:w=[109,117,116,101,120]
 ·exact .inr (.inl ⟨h1,by rw[h1];rfl⟩)
 by_cases h2:w=[99,108,97,115,115]
 ·exact .inr (.inr (.inl ⟨h2,by rw[h2];rfl⟩))
 by_cases h3:w=[115,101,114,118,101,114]
 ·exact .inr (.inr (.inr (.inl ⟨h3,by rw[h3];rfl⟩)))
 by_cases h4:w=[116,97,107,101]
 ·exact .inr (.inr (.inr (.inr (.inl ⟨h4,by rw[h4];rfl⟩))))
 by_cases h5:w=[103,105,118,101]
 ·exact .inr (.inr (.inr (.inr (.inr (.inl ⟨h5,by rw[h5];rfl⟩)))))
 by_cases h6:w=[108,111,99,107]
 ·exact .inr (.inr (.inr (.inr (.inr (.inr (.inl ⟨h6,by rw[h6];rfl⟩))))))
 by_cases h7:w=[117,110,108,111,99,107]
 ·exact .inr (.inr (.inr (.inr (.inr (.inr (.inr (.inl ⟨h7,by rw[h7];rfl⟩)))))))
 by_cases h8:w=[99,97,108,108]
 ·exact .inr (.inr (.inr (.inr (.inr (.inr (.inr (.inr (.inl ⟨h8,by rw[h8];rfl⟩))))))))
 exact .inr (.inr (.inr (.inr (.inr (.inr (.inr (.inr (.inr (⟨by unfold kindS;simp only[h0,h1,h2,h3,h4,h5,h6,h7,h8,if_false],h0,h1,h2,h3,h4,h5,h6,h7,h8⟩)))))))))
end Go.AM
namespace Go.AM
open Go Go.Proofs
def rkindR(ds:List D)(v:AV):Prop:=∃s:Str,ds=[.str s]/\v=.dat (.int .i64 (kindS s))
def rignR(ds:List D)(v:AV):Prop:=∃w:List Str,ds=[.sl none (strsD w)]/\(∀x∈w,x≠[])/\v=.dat (.bool (skip41 w))
end Go.AM
namespace Go.AM
open Go Go.Proofs
def rformR(ds:List D)(v:AV):Prop:=∃(w:List Str) (k:Nat),ds=[.sl none (strsD w),.int .i64 k]/\(∀x∈w,x.length<=1000000)/\(k<=4∨(11<=k/\k<=15))/\v=.dat (.bool (formW w k))
abbrev tabRf:List (Nat×Contract):=[(35,dataC isNmR),(50,dataC numR)]
end Go.AM
namespace Go.AM
open Go Go.Proofs
def rfndR(ds:List D)(v:AV):Prop:=∃(s:PSys) (k:Nat) (x:Str),ds=[sysD s,.int .i64 k,.str x]/\s.big/\1<=k/\k<=5/\v=.dat (.int .i64 (findE s k x))
abbrev tabRq:List (Nat×Contract):=[(34,dataC nmsBR)]
theorem idxG_shift{x:Str}:∀(l:List Str) (a b:Nat),idxG x a l=-1∨∃i:Nat,i<l.length/\idxG x a l=((a+i:Nat):Int)/\idxG x b l=((b+i:Nat):Int)
 | [],a,b=>.inl rfl
 | y :: r,a,b=>by
  rw[idxG,idxG]
  by_cases h:x=y
  ·rw[if_pos h,if_pos h];exact .inr ⟨0,by simp,by simp,by simp⟩
  ·rw[if_neg h,if_neg h]
   rcases idxG_shift r (a+1) (b+1) with h1|⟨i,h1,h2,h3⟩
   ·exact .inl h1
   ·exact .inr ⟨i+1,by simpa using h1,by rw[h2];congr 1;omega,by rw[h3];congr 1;omega⟩
end Go.AM

