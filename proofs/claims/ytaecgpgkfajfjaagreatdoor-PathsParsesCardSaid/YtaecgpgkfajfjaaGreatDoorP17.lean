/- Own work over the model of the kit. -/
import Derived.Test.YtaecgpgkfajfjaaGreatDoorP16
import Derived.Test.YtaecgpgkfajfjaaGreatDoorP11
set_option linter.unnecessarySimpa false
set_option linter.unusedSimpArgs false
set_option linter.unusedVariables false
set_option maxHeartbeats 1000000
set_option maxRecDepth 8000
namespace Go.AM
open Go Go.Proofs
def zerosI(n:Nat):List Int:=List.replicate n 0
def zerosB(n:Nat):List Bool:=List.replicate n false
def startR(ds:List D)(v:AV)(ob:List Obj):Prop:=∃s:PSys,ds=[sysD s]/\s.small/\v=.agg [.sl 0 0 s.pools.length,.sl 1 0 s.locks.length]/\ob=[.row none (intsD (zerosI s.pools.length)),.row none (boolsD (zerosB s.locks.length))]
theorem start_ok:OkF Tryz.prog 57 (madeC startR):=by
 refine okF_made Tryz.func57 rfl (by decide) ?_
 rintro ds v ob ⟨s,rfl,⟨hp,hl,hc⟩,rfl,rfl⟩
 obtain⟨pools,locks,classes⟩:=s
 simp only at hp hl hc ⊢
 refine sem_of_awp (Γ:=tbl []) okG_nil _ _ _ ?_
 simp only[go_sem,Tryz.ntmps57,sysD]
 refine sem_drawB (ob:=0) (pf:=[]) (mf:=[]) (ms:=[]) mixed okG_nil pureNo noMk [0,1,2,4,5,6] 3 7 [7,8,9] [3,8,9] (by kernel_rfl) ?_
 simp only[go_sem,chainM,opm,Int.natCast_nonneg,Int.toNat_natCast,Int.le_refl]
 have fin:∀s,s.getD 2 .top=.ptr 1 0 0->post Tryz.prog Tryz.f57 (.agg [.sl 0 0 pools.length,.sl 1 0 locks.length]) [.row none (intsD (zerosI pools.length)),.row none (boolsD (zerosB locks.length))] [] .ret
   ⟨s,[.box [.dat (.sl (some 3) (pools.map poolD)),.dat (.sl none (locks.map .str)),.dat (.sl (some 4) (classes.map clsD))],.box [.sl 2 0 pools.length,.sl 3 0 locks.length],.row none (List.replicate pools.length (.int .i64 0)),.row none (List.replicate locks.length (.bool false))],0,[]⟩:=fun s h=>by
  refine post_resO (.inl rfl) [.cell 2 89] rfl (fun _ h=>h) ?_
  simp only[go_sem,h]
  refine Le.trans (le_swp (s':=[.agg [.sl 0 0 pools.length,.sl 3 0 locks.length]]) (own':=[.row none (List.replicate pools.length (.int .i64 0)),.box [.sl 0 0 pools.length,.sl 3 0 locks.length],.box [.dat (.sl (some 3) (pools.map poolD)),.dat (.sl none (locks.map .str)),.dat (.sl (some 4) (classes.map clsD))],.row none (List.replicate locks.length (.bool false))])
   0 2 (by decide:(0:Nat)<4) (by decide:(2:Nat)<4) (by rfl) (by rfl)) ?_
  refine Le.trans (le_swp (s':=[.agg [.sl 0 0 pools.length,.sl 1 0 locks.length]]) (own':=[.row none (List.replicate pools.length (.int .i64 0)),.row none (List.replicate locks.length (.bool false)),.box [.dat (.sl (some 3) (pools.map poolD)),.dat (.sl none (locks.map .str)),.dat (.sl (some 4) (classes.map clsD))],.box [.sl 0 0 pools.length,.sl 1 0 locks.length]])
   1 3 (by decide:(1:Nat)<4) (by decide:(3:Nat)<4) (by rfl) (by rfl)) ?_
  have e1:intsD (zerosI pools.length)=List.replicate pools.length (.int .i64 0):=by simp[intsD,zerosI]
  have e2:boolsD (zerosB locks.length)=List.replicate locks.length (.bool false):=by simp[boolsD,zerosB]
  rw[e1,e2]
  refine le_end (own:=[_,_]) (ex:=[_,_]) (Nat.zero_le _) ?_ ?_ ?_
  ·simp only[go_sem]
  ·simp only[go_sem]
  ·simp only[go_sem,Obj.under,AV.unders,AV.under]
 have swap:∀s,s.getD 2 .top=.ptr 1 0 0->post Tryz.prog Tryz.f57 (.agg [.sl 0 0 pools.length,.sl 1 0 locks.length]) [.row none (intsD (zerosI pools.length)),.row none (boolsD (zerosB locks.length))] [] .ret
   ⟨s,[.box [.dat (.sl (some 3) (pools.map poolD)),.dat (.sl none (locks.map .str)),.dat (.sl (some 4) (classes.map clsD))],.box [.sl 3 0 pools.length,.sl 2 0 locks.length],.row none (List.replicate locks.length (.bool false)),.row none (List.replicate pools.length (.int .i64 0))],0,[]⟩:=fun s h=>by
  refine post_resO (.inl rfl) [.cell 2 89] rfl (fun _ h=>h) ?_
  simp only[go_sem,h]
  refine Le.trans (le_swp (s':=[.agg [.sl 0 0 pools.length,.sl 2 0 locks.length]]) (own':=[.row none (List.replicate pools.length (.int .i64 0)),.box [.sl 0 0 pools.length,.sl 2 0 locks.length],.row none (List.replicate locks.length (.bool false)),.box [.dat (.sl (some 3) (pools.map poolD)),.dat (.sl none (locks.map .str)),.dat (.sl (some 4) (classes.map clsD))]])
   0 3 (by decide:(0:Nat)<4) (by decide:(3:Nat)<4) (by rfl) (by rfl)) ?_
  refine Le.trans (le_swp (s':=[.agg [.sl 0 0 pools.length,.sl 1 0 locks.length]]) (own':=[.row none (List.replicate pools.length (.int .i64 0)),.row none (List.replicate locks.length (.bool false)),.box [.sl 0 0 pools.length,.sl 1 0 locks.length],.box [.dat (.sl (some 3) (pools.map poolD)),.dat (.sl none (locks.map .str)),.dat (.sl (some 4) (classes.map clsD))]])
   1 2 (by decide:(1:Nat)<4) (by decide:(2:Nat)<4) (by rfl) (by rfl)) ?_
  have e1:intsD (zerosI pools.length)=List.replicate pools.length (.int .i64 0):=by simp[intsD,zerosI]
  have e2:boolsD (zerosB locks.length)=List.replicate locks.length (.bool false):=by simp[boolsD,zerosB]
  rw[e1,e2]
  refine le_end (own:=[_,_]) (ex:=[_,_]) (Nat.zero_le _) ?_ ?_ ?_
  ·simp only[go_sem]
  ·simp only[go_sem]
  ·simp only[go_sem,Obj.under,AV.unders,AV.under]
 refine⟨⟨by omega,by omega,fin _ (by rfl)⟩,by omega,by omega,swap _ (by rfl)⟩
def idxP:Nat->List Int->Int
 | _,[]=>-1
 | k,n :: r=>if 0<n then k else idxP (k+1) r
theorem idxP_mem:∀(k:Nat) (l:List Int),(0<=idxP k l)↔∃n∈l,0<n
 | _,[]=>by simp[idxP]
 | k,y :: r=>by
  simp only[idxP]
  split
  ·rename_i h;simp[h]
  ·rename_i h;simp[idxP_mem (k+1) r,h]
def idxPR(xs:List AV)(obs:List Obj)(v0:AV)(obs' ex:List Obj)(mv0:List Nat):Prop:=∃u:List Int,u.length<=1000000/\xs=[.sl 0 0 u.length,.fn 70 []]/\obs=[.row none (intsD u)]/\v0=.dat (.int .i64 (idxP 0 u))/\obs'=[.row none (intsD u)]/\ex=[]/\mv0=[]
abbrev tabIP:List (Nat×Contract):=[(70,dataC pos1R)]
theorem tabIP_ok:OkG Tryz.prog (tbl tabIP):=okG_cons pos1_ok okG_nil
theorem idxP_ok:OkF Tryz.prog 89 (lentC idxPR):=by
 refine okF_lent Tryz.func89 rfl (by decide) ?_
 rintro xs obs v0 obs' ex mv0 ⟨u,hu,rfl,rfl,rfl,rfl,rfl,rfl⟩
 generalize hv:idxP 0 u=V
 refine sem_of_awp (Γ:=tbl tabIP) tabIP_ok _ _ _ ?_
 have fin:∀s (b c:Int),b=c->s.getD 4 .top=.dat (.int .i64 b)->post Tryz.prog Tryz.f89 (.dat (.int .i64 c)) ([.row none (intsD u)]++[]) [] .ret ⟨s,[.row none (intsD u)],1,[]⟩:=fun s b c e h=>by
  subst e
  refine post_resO (.inl rfl) [.tmp 4] rfl (fun _ h=>h) ?_
  simp only[go_sem,h]
  exact Le.refl _
 simp only[go_sem,Tryz.ntmps89]
 refine sem_loop (fun k:Nat=>⟨slotsOf 19 [(0,.sl 0 0 u.length),(1,.fn 70 []),(4,.dat (.int .i64 0)),(7,.dat (.int .i64 u.length)),(8,.dat (.int .i64 k))],[.row none (intsD u)],1,[]⟩)
  (fun k=>k<=u.length/\idxP k (u.drop k)=V) (fun k=>u.length - k) 0 ⟨Nat.zero_le _,hv⟩ ?_ ?_
 ·exact le_slots' (by simp only[go_sem,Int.natCast_zero])
 ·rintro k ⟨hk,hI⟩
  refine sem_of_awp (Γ:=tbl tabIP) tabIP_ok _ _ _ ?_
  cases hd:u.drop k with
  | nil =>
   have:=end_of_drop hd hk
   have hk2:¬(k:Int)<u.length:=by omega
   simp only[go_sem,hk2]
   refine fin _ _ _ ?_ (by rfl)
   rw[← hI,hd];rfl
  | cons c q =>
   have hlt:=lt_of_drop hd
   have hk2:(k:Int)<u.length:=by omega
   have hk0:(0:Int)<=k:=Int.natCast_nonneg k
   have hn:=nth_of_drop (f:=.int .i64) hd
   rw[hd,idxP]at hI
   simp only[go_sem,hk2,hk0,hn,hlt]
   refine call_data pos1R (by simp) _ _ rfl ⟨c,rfl,rfl⟩ (.inl rfl) ?_
   by_cases he:0<c
   ·simp only[go_sem,he]
    rw[if_pos he]at hI
    exact fin _ _ _ hI (by rfl)
   ·simp only[go_sem,he]
    rw[if_neg he]at hI
    refine⟨inR_i64.2 (by omega),k+1,⟨by omega,by rw[drop_cons hd];exact hI⟩,by omega,?_⟩
    exact le_slots' (by simp only[go_sem,Int.natCast_add,Int.cast_ofNat_Int])
def hasPR(xs:List AV)(obs:List Obj)(v0:AV)(obs' ex:List Obj)(mv0:List Nat):Prop:=∃u:List Int,u.length<=1000000/\xs=[.sl 0 0 u.length,.fn 70 []]/\obs=[.row none (intsD u)]/\v0=.dat (.bool (decide (∃n∈u,0<n)))/\obs'=[.row none (intsD u)]/\ex=[]/\mv0=[]
theorem hasP_ok:OkF Tryz.prog 69 (lentC hasPR):=by
 refine okF_lent Tryz.func69 rfl (by decide) ?_
 rintro xs obs v0 obs' ex mv0 ⟨u,hu,rfl,rfl,rfl,rfl,rfl,rfl⟩
 refine sem_of_awp (Γ:=tbl [(89,lentC idxPR)]) (okG_cons idxP_ok okG_nil) _ _ _ ?_
 simp only[go_sem,Tryz.ntmps69]
 refine call_lent idxPR (by simp) [0] ⟨u,hu,rfl,rfl,rfl,rfl,rfl,rfl⟩ (by decide) (by simp) rfl rfl rfl (by simp only[go_sem,AV.unders,AV.under]) (by simp only[List.mem_singleton,forall_eq];trivial) (fun j hj=>by
    obtain rfl:j=0:=by simp at hj;exact hj
    rfl) ?_
 simp only[go_sem,idxP_mem]
 refine post_resO (.inl rfl) [.tmp 4] rfl (fun _ h=>h) ?_
 simp only[go_sem]
 exact Le.refl _
end Go.AM
namespace Go.AM
open Go Go.Proofs
structure Hold where
 units:List Int
 locks:List Bool
def runE(s:PSys):List PStep->Hold->Int×Hold
 | [],h=>(0,h)
 | x :: l,h=>if stepE s h.units h.locks x≠0 then (stepE s h.units h.locks x,⟨stepU s h.units x,stepL s h.locks x⟩) else runE s l ⟨stepU s h.units x,stepL s h.locks x⟩
def hold0(s:PSys):Hold:=⟨zerosI s.pools.length,zerosB s.locks.length⟩
def endE(h:Hold):Int:=if true∈h.locks∨∃n∈h.units,0<n then 11 else 0
def verd(r:Int×Hold):Int:=if r.1≠0 then r.1 else endE r.2
theorem verd_nil(s:PSys)(h:Hold):verd (runE s [] h)=endE h:=by simp[verd,runE]
theorem verd_err{s:PSys}{h:Hold}{x:PStep}{l:List PStep}(he:¬stepE s h.units h.locks x=0):verd (runE s (x :: l) h)=stepE s h.units h.locks x:=by simp[verd,runE,he]
theorem verd_go{s:PSys}{h:Hold}{x:PStep}{l:List PStep}(he:stepE s h.units h.locks x=0):verd (runE s (x :: l) h)=verd (runE s l ⟨stepU s h.units x,stepL s h.locks x⟩):=by simp[verd,runE,he]
def classE(s:PSys)(c:PCls):Int :=
 if c.workers<0∨4<c.workers then 2 else if (c.steps.length:Int)<1∨12<(c.steps.length:Int) then 9 else
 verd (runE s c.steps (hold0 s))
theorem stepU_len(s:PSys)(u:List Int)(x:PStep):(stepU s u x).length=u.length:=by unfold stepU;(repeat' split) <;> simp
theorem stepL_len(s:PSys)(u:List Bool)(x:PStep):(stepL s u x).length=u.length:=by unfold stepL;(repeat' split) <;> simp
def PSys.tame(s:PSys):Prop:=∀p∈s.pools,p.size<=1000
theorem getD_tame{s:PSys}(h:s.tame)(i:Nat):(s.pools.getD i default).size<=1000:=by
 rw[List.getD_eq_getElem?_getD]
 cases e:s.pools[i]? with
 | none=>simp[instInhabitedPPool,default];decide
 | some p=>exact h _ (List.mem_of_getElem? e)
theorem stepU_small{s:PSys}{u:List Int}{x:PStep}{b:Int}(h:s.tame)(hb:∀n∈u,-b<=n/\n<=b)(hb0:0<=b):∀n∈stepU s u x,-(b+1000)<=n/\n<=b+1000:=by
 have hg:∀i,-b<=u.getD i 0/\u.getD i 0<=b:=fun i=>by
  rw[List.getD_eq_getElem?_getD]
  cases e:u[i]? with
  | none=>simp;omega
  | some n=>exact hb _ (List.mem_of_getElem? e)
 have hg:=hg x.on.toNat
 have hs:=getD_tame h x.on.toNat
 intro n hn
 unfold stepU at hn
 have old:n∈u->-(b+1000)<=n/\n<=b+1000:=fun h=>by have:=hb _ h;omega
 split at hn
 ·exact old hn
 ·rename_i hp
  have hc:x.kind=1∨x.kind=2->1<=x.cnt/\x.cnt<=1000:=fun hk=>by
   unfold preE at hp
   by_cases h1:badForm x=true
   ·rw[if_pos h1]at hp;simp at hp
   rw[if_neg h1]at hp
   split at hp
   ·simp at hp
   ·split at hp
    ·simp at hp
    ·rename_i h3;simp only[hk,true_and]at h3;omega
  split at hn
  ·rename_i hk
   rcases List.mem_or_eq_of_mem_set hn with h|h
   ·exact old h
   ·have:=hc (.inl hk);omega
  ·split at hn
   ·rename_i hk
    rcases List.mem_or_eq_of_mem_set hn with h|h
    ·exact old h
    ·have:=hc (.inr hk);omega
   ·exact old hn
def classR(ds:List D)(v:AV):Prop:=∃(s:PSys) (c:PCls),ds=[sysD s,clsD c]/\s.small/\s.tame/\v=.dat (.int .i64 (classE s c))
abbrev tabCC:List (Nat×Contract):=[(57,madeC startR),(58,normC (lentC hstepR)),(68,dataC hasBR),(69,lentC hasPR)]
theorem tabCC_ok:OkG Tryz.prog (tbl tabCC):=okG_cons start_ok (okG_cons (okF_norm hstep_ok) (okG_cons hasB_ok (okG_cons hasP_ok okG_nil)))
theorem checkClass_ok:OkF Tryz.prog 33 (dataC classR):=by
 refine okF_data Tryz.func33 rfl (by decide) ?_
 rintro ds v ⟨s,c,rfl,hsm,htm,rfl⟩
 generalize hv:classE s c=V
 refine sem_of_awp (Γ:=tbl tabCC) tabCC_ok _ _ _ ?_
 have fin:∀s own (b c:Int),b=c->s.getD 4 .top=.dat (.int .i64 b)->post Tryz.prog Tryz.f33 (.dat (.int .i64 c)) [] [] .ret ⟨s,own,0,[]⟩:=fun s own b c e h=>by
  subst e
  exact post_data (.inl rfl) [4] rfl trivial (by simp only[tmpsOf,h];rfl)
 obtain⟨name,workers,server,steps⟩:=c
 unfold classE at hv
 simp only at hv
 simp only[go_sem,Tryz.ntmps33,clsD]
 by_cases h1:workers<0
 ·simp only[go_sem,h1]
  rw[if_pos (.inl h1)]at hv
  exact fin _ _ _ _ hv (by rfl)
 by_cases h2:4<workers
 ·simp only[go_sem,h1,h2]
  rw[if_pos (.inr h2)]at hv
  exact fin _ _ _ _ hv (by rfl)
 rw[if_neg (by omega)]at hv
 simp only[go_sem,h1,h2,stepsD]
 by_cases h3:(steps.length:Int)<1
 ·simp only[go_sem,h3]
  rw[if_pos (.inl h3)]at hv
  exact fin _ _ _ _ hv (by rfl)
 by_cases h4:12<(steps.length:Int)
 ·simp only[go_sem,h3,h4]
  rw[if_pos (.inr h4)]at hv
  exact fin _ _ _ _ hv (by rfl)
 rw[if_neg (by omega)]at hv
 simp only[go_sem,h3,h4,sysD]
 refine call_made startR (by simp) _ _ _ rfl rfl ⟨s,rfl,hsm,rfl,rfl⟩ ?_
 simp only[go_sem,AV.shift,Obj.shift,AV.shifts]
 have hnp:(hold0 s).units.length=s.pools.length:=by simp[hold0,zerosI]
 have hnl:(hold0 s).locks.length=s.locks.length:=by simp[hold0,zerosB]
 refine sem_loop (fun p:Nat×Hold=>⟨slotsOf 51 [(2,.ptr 0 0 0),(3,.ptr 1 0 0),(4,.dat (.int .i64 0)),(5,.ptr 4 0 0),(30,.dat (.sl (some 4) (steps.map stepD))),(31,.dat (.int .i64 steps.length)),(32,.dat (.int .i64 p.1))],
   [.box [.dat (.sl (some 3) (s.pools.map poolD)),.dat (.sl none (s.locks.map .str)),.dat (.sl (some 4) (s.classes.map clsD))],.box [.dat (.str name),.dat (.int .i64 workers),.dat (.bool server),.dat (.sl (some 4) (steps.map stepD))],
    .row none (intsD p.2.units),.row none (boolsD p.2.locks),.box [.sl 2 0 p.2.units.length,.sl 3 0 p.2.locks.length]],0,[]⟩)
  (fun p=>p.1<=steps.length/\p.2.units.length=s.pools.length/\p.2.locks.length=s.locks.length/\(∀n∈p.2.units,-(1000*(p.1:Int))<=n/\n<=1000*(p.1:Int)) /\
   verd (runE s (steps.drop p.1) p.2)=V) (fun p=>steps.length - p.1) (0,hold0 s) ⟨Nat.zero_le _,hnp,hnl,by simp[hold0,zerosI],hv⟩ ?_ ?_
 ·simp only[hnp,hnl]
  exact le_slots' (by simp only[go_sem,Int.natCast_zero])
 ·rintro ⟨k,u,b⟩ ⟨hk,hu,hb,hbd,hI⟩
  simp only at hk hu hb hbd hI
  refine sem_of_awp (Γ:=tbl tabCC) tabCC_ok _ _ _ ?_
  cases hd:steps.drop k with
  | nil =>
   have:=end_of_drop hd hk
   have hk2:¬(k:Int)<steps.length:=by omega
   simp only[go_sem,hk2]
   have hbn:b.length<4611686018427387904:=by have:=hsm.nl;omega
   have htk:List.take b.length (boolsD b)=boolsD b:=List.take_of_length_le (by simp)
   refine call_data hasBR (by simp) [.sl none (b.map .bool),.bool true] _ (by simp[asDL,AV.asD,htk]) ⟨b,true,rfl,hbn,rfl⟩ (.inr rfl) ?_
   simp only[go_sem]
   rw[hd,verd_nil]at hI
   unfold endE at hI
   by_cases ht:true∈b
   ·have ht':decide (true∈b)=true:=decide_eq_true ht
    simp only[go_sem,ht']
    rw[if_pos (.inl ht)]at hI
    exact fin _ _ _ _ hI (by rfl)
   have ht':decide (true∈b)=false:=decide_eq_false ht
   simp only[go_sem,ht']
   have hun:u.length<=1000000:=by have:=hsm.np;omega
   refine call_lent hasPR (by simp) [2] ⟨u,hun,rfl,rfl,rfl,rfl,rfl,rfl⟩ (by decide) (by simp) rfl rfl rfl (by simp only[go_sem,AV.unders,AV.under]) (by simp only[List.mem_singleton,forall_eq];trivial) (fun j hj=>by
    obtain rfl:j=0:=by simp at hj;exact hj
    rfl) ?_
   simp only[go_sem]
   by_cases hp:∃n∈u,0<n
   ·simp only[go_sem,hp]
    rw[if_pos (.inr hp)]at hI
    exact fin _ _ _ _ hI (by rfl)
   ·simp only[go_sem,hp]
    rw[if_neg (by simp only[ht,hp,or_self,not_false_eq_true])]at hI
    exact fin _ _ _ _ hI (by rfl)
  | cons x q =>
   have hlt:=lt_of_drop hd
   have hk2:(k:Int)<steps.length:=by omega
   have hk0:(0:Int)<=k:=Int.natCast_nonneg k
   have hn:=nth_of_drop (f:=stepD) hd
   rw[hd]at hI
   simp only[go_sem,hk2,hk0,hn,hlt,stepD]
   refine call_lentN hstepR (by simp) [4,2,3] ⟨s,x,u,b,hu,hb,htm,fun n hn=>by have:=hbd n hn;omega,rfl,rfl,rfl,rfl,rfl,rfl⟩ (by decide) (by simp) rfl rfl rfl (by simp only[go_sem,AV.unders,AV.under]) ?_ ?_ ?_
   ·simp only[holdO,List.mem_cons,List.mem_nil_iff,or_false,forall_eq_or_imp,forall_eq];exact⟨by simp only[Obj.under,AV.unders,AV.under];decide,trivial,trivial⟩
   ·intro j hj
    rcases j with _|_|_|j
    ·rfl
    ·rfl
    ·rfl
    ·simp at hj;omega
   simp only[go_sem]
   by_cases he:stepE s u b x=0
   ·rw[verd_go he]at hI
    simp only[go_sem,he]
    refine⟨inR_i64.2 (by omega),(k+1,⟨stepU s u x,stepL s b x⟩),⟨by omega,by simp only[stepU_len,hu],by simp only[stepL_len,hb],fun n hn=>?_,by rw[drop_cons hd];exact hI⟩,by omega,?_⟩
    ·have:=stepU_small htm (b:=1000*(k:Int)) hbd (by omega) n hn
     simp only
     omega
    ·simp only[holdO,setAll,emb,AV.ren,AV.rens,Obj.ren]
     refine le_end (own:=[_,_,_,_,_]) (ex:=[_]) (Nat.zero_le _) ?_ ?_ ?_
     ·simp only[go_sem,Int.natCast_add,Int.cast_ofNat_Int]
     ·simp only[go_sem,stepU_len,stepL_len]
     ·simp only[go_sem,Obj.under,AV.unders,AV.under]
      decide
   ·rw[verd_err he]at hI
    simp only[go_sem,he]
    exact fin _ _ _ _ hI (by rfl)
end Go.AM
namespace Go.AM
open Go Go.Proofs
theorem preE_0{s:PSys}{x:PStep}(h:preE s x=0):(1<=x.kind/\x.kind<=5)/\(0<=x.on/\x.on<mostE s x.kind)/\((x.kind=1∨x.kind=2)->1<=x.cnt/\x.cnt<=(s.pools.getD x.on.toNat default).size)/\(¬(x.kind=1∨x.kind=2)->x.cnt=0):=by
 unfold preE at h
 split at h
 ·simp at h
 rename_i hb
 split at h
 ·simp at h
 rename_i hm
 split at h
 ·simp at h
 rename_i hc
 simp only[badForm,Bool.or_eq_true,Bool.and_eq_true,Bool.not_eq_true',decide_eq_true_eq,decide_eq_false_iff_not,not_or,not_and,Bool.not_eq_true]at hb
 refine⟨by omega,by omega,fun hk=>?_,fun hk=>?_⟩
 ·have:=fun h=>hc ⟨hk,h⟩
  constructor <;> (apply Classical.byContradiction;intro h;apply this;omega)
 ·have:=hb.1.2 ⟨fun h=>hk (.inl h),fun h=>hk (.inr h)⟩
  omega
def refBad(s:PSys)(l:List PStep)(x:PStep):Bool :=
 if x.kind=1 then decide ((s.pools.getD x.on.toNat default).size<bal l x.on 0+x.cnt) else if x.kind=2 then decide (bal l x.on 0<x.cnt) else
 if x.kind=3 then decide (0<bal l x.on 1) else if x.kind=4 then decide (bal l x.on 1=0) else !(s.classes.getD x.on.toNat default).server
def refE(s:PSys)(l:List PStep)(x:PStep):Int:=if preE s x≠0 then preE s x else if refBad s l x=true then 11 else 0
structure Tr (s:PSys) (l:List PStep) (h:Hold):Prop where
 ul:h.units.length=s.pools.length
 ll:h.locks.length=s.locks.length
 un:∀i:Nat,i<s.pools.length->h.units.getD i 0=bal l i 0
 lo:∀i:Nat,i<s.locks.length->(h.locks.getD i false=true↔bal l i 1=1)/\(bal l i 1=0∨bal l i 1=1)
theorem tr_nil(s:PSys):Tr s [] (hold0 s):=by
 refine⟨by simp[hold0,zerosI],by simp[hold0,zerosB],fun i h=>?_,fun i h=>?_⟩
 ·simp[hold0,zerosI,bal,List.getElem?_replicate,h]
 ·simp[hold0,zerosB,bal,List.getElem?_replicate,h]
theorem getD_set{α:Type}{l:List α}{i j:Nat}{a d:α}:(l.set i a).getD j d=if i=j/\i<l.length then a else l.getD j d:=by
 rw[List.getD_eq_getElem?_getD,List.getElem?_set,List.getD_eq_getElem?_getD]
 by_cases h:i=j
 ·subst h
  by_cases h2:i<l.length
  ·simp[h2]
  ·simp[h2]
 ·simp[h]
theorem tr_step{s:PSys}{l:List PStep}{h:Hold}{x:PStep}(t:Tr s l h)(he:stepE s h.units h.locks x=0):Tr s (l++[x]) ⟨stepU s h.units x,stepL s h.locks x⟩:=by
 obtain⟨ul,ll,un,lo⟩:=t
 have hp:preE s x=0:=by
  apply Classical.byContradiction;intro hn
  unfold stepE at he;rw[if_pos hn]at he;exact hn he
 have hf:stepFine s h.units h.locks x=true:=by
  unfold stepE at he;rw[if_neg (by rw[hp];decide)]at he
  apply Classical.byContradiction;intro hn;rw[if_neg hn]at he;simp at he
 obtain⟨⟨k1,k2⟩,⟨o1,o2⟩,hc,hc0⟩:=preE_0 hp
 obtain⟨kind,on,cnt,deep⟩:=x
 simp only at *
 obtain⟨j,rfl⟩:∃j:Nat,on=j:=⟨on.toNat,by omega⟩
 have hpn:¬preE s ⟨kind,j,cnt,deep⟩≠0:=by rw[hp];decide
 refine⟨by rw[stepU_len];exact ul,by rw[stepL_len];exact ll,fun i hi=>?_,fun i hi=>?_⟩
 ·have hu:=un i hi
  simp only[stepU,if_neg hpn,Int.toNat_natCast]
  rw[bal_snoc]
  by_cases hij:(j:Int)=i
  ·obtain rfl:j=i:=by omega
   rw[← hu]
   have hk:kind=1∨kind=2∨kind=3∨kind=4∨kind=5:=by omega
   rcases hk with rfl|rfl|rfl|rfl|rfl <;> simp[bstep,getD_set,ul,hi]
  ·have hij2:¬j=i:=by omega
   have:bstep (i:Int) 0 (bal l i 0) ⟨kind,j,cnt,deep⟩=bal l i 0:=by simp[bstep,hij]
   rw[this,← hu]
   (repeat' split) <;> simp[getD_set,hij2]
 ·have hu:=lo i hi
  simp only[stepL,if_neg hpn,Int.toNat_natCast]
  rw[bal_snoc]
  by_cases hij:(j:Int)=i
  ·obtain rfl:j=i:=by omega
   have hk:kind=1∨kind=2∨kind=3∨kind=4∨kind=5:=by omega
   rcases hk with rfl|rfl|rfl|rfl|rfl
   ·simpa [bstep] using hu
   ·simpa [bstep] using hu
   ·have hb:h.locks.getD j false=false:=by simpa [stepFine] using hf
    have h0:bal l j 1=0:=by
     rcases hu.2 with h|h
     ·exact h
     ·rw[hu.1.2 h]at hb;simp at hb
    simp[bstep,getD_set,ll,hi,h0]
   ·have hb:h.locks.getD j false=true:=by simpa [stepFine] using hf
    have h0:bal l j 1=1:=hu.1.1 hb
    simp[bstep,getD_set,ll,hi,h0]
   ·simpa [bstep] using hu
  ·have hij2:¬j=i:=by omega
   have:bstep (i:Int) 1 (bal l i 1) ⟨kind,j,cnt,deep⟩=bal l i 1:=by simp[bstep,hij]
   rw[this]
   (repeat' split) <;> simpa [getD_set,hij2] using hu
theorem tr_E{s:PSys}{l:List PStep}{h:Hold}{x:PStep}(t:Tr s l h):refE s l x=stepE s h.units h.locks x:=by
 obtain⟨ul,ll,un,lo⟩:=t
 unfold refE stepE
 by_cases hp:preE s x=0
 ·have hpn:¬preE s x≠0:=by rw[hp];decide
  rw[if_neg hpn,if_neg hpn]
  obtain⟨⟨k1,k2⟩,⟨o1,o2⟩,hc,hc0⟩:=preE_0 hp
  obtain⟨kind,on,cnt,deep⟩:=x
  simp only at *
  obtain⟨j,rfl⟩:∃j:Nat,on=j:=⟨on.toNat,by omega⟩
  have hk:kind=1∨kind=2∨kind=3∨kind=4∨kind=5:=by omega
  have flip:∀p q:Bool,p=!q->(if p=true then (11:Int) else 0)=if q=true then 0 else 11:=by intro p q h;subst h;cases q <;> rfl
  apply flip
  rcases hk with rfl|rfl|rfl|rfl|rfl
  ·simp only[mostE]at o2;have hu:=un j (by simp at o2;omega)
   simp only[refBad,stepFine,Int.toNat_natCast,hu,if_true]
   by_cases hh:(s.pools.getD j default).size<bal l j 0+cnt
   ·rw[decide_eq_true hh,decide_eq_false (by omega)];rfl
   ·rw[decide_eq_false hh,decide_eq_true (by omega)];rfl
  ·simp only[mostE]at o2;have hu:=un j (by simp at o2;omega)
   simp only[refBad,stepFine,Int.toNat_natCast,hu,if_true,Int.reduceEq,if_false]
   by_cases hh:bal l j 0<cnt
   ·rw[decide_eq_true hh,decide_eq_false (by omega)];rfl
   ·rw[decide_eq_false hh,decide_eq_true (by omega)];rfl
  ·simp only[mostE]at o2;have hu:=lo j (by simp at o2;omega)
   simp only[refBad,stepFine,Int.toNat_natCast,if_true,Int.reduceEq,if_false,Bool.not_not]
   cases hb:h.locks.getD j false with
   | true=>have:=hu.1.1 hb;rw[this];rfl
   | false =>
    rcases hu.2 with h0|h0
    ·rw[h0];rfl
    ·rw[hu.1.2 h0]at hb;simp at hb
  ·simp only[mostE]at o2;have hu:=lo j (by simp at o2;omega)
   simp only[refBad,stepFine,Int.toNat_natCast,if_true,Int.reduceEq,if_false,Bool.not_not]
   cases hb:h.locks.getD j false with
   | true=>have:=hu.1.1 hb;rw[this];rfl
   | false =>
    rcases hu.2 with h0|h0
    ·rw[h0];rfl
    ·rw[hu.1.2 h0]at hb;simp at hb
  ·simp[refBad,stepFine]
 ·rw[if_pos hp,if_pos hp]
theorem stepE_0{s:PSys}{u:List Int}{b:List Bool}{x:PStep}(he:stepE s u b x=0):preE s x=0:=by
 apply Classical.byContradiction;intro hn
 unfold stepE at he;rw[if_pos hn]at he;exact hn he
theorem pre_tame{s:PSys}{x:PStep}(ht:s.tame)(h:preE s x=0):-1000<=x.cnt/\x.cnt<=1000:=by
 obtain⟨_,_,hc,hc0⟩:=preE_0 h
 by_cases hk:x.kind=1∨x.kind=2
 ·have:=getD_tame ht x.on.toNat;have:=hc hk;omega
 ·have:=hc0 hk;omega
theorem tr_end{s:PSys}{l:List PStep}{h:Hold}(t:Tr s l h):endE h=if (∃i:Nat,i<s.pools.length/\0<bal l i 0)∨(∃i:Nat,i<s.locks.length/\0<bal l i 1) then 11 else 0:=by
 obtain⟨ul,ll,un,lo⟩:=t
 unfold endE
 have e1:(∃n∈h.units,0<n)↔∃i:Nat,i<s.pools.length/\0<bal l i 0:=by
  constructor
  ·rintro ⟨n,hn,h0⟩
   obtain⟨i,hi,rfl⟩:=List.getElem_of_mem hn
   refine⟨i,by omega,?_⟩
   rw[← un i (by omega),List.getD_eq_getElem?_getD,List.getElem?_eq_getElem hi];exact h0
  ·rintro ⟨i,hi,h0⟩
   rw[← un i hi,List.getD_eq_getElem?_getD,List.getElem?_eq_getElem (by omega)]at h0
   exact⟨_,List.getElem_mem _,h0⟩
 have e2:true∈h.locks↔∃i:Nat,i<s.locks.length/\0<bal l i 1:=by
  constructor
  ·intro hm
   obtain⟨i,hi,h0⟩:=List.getElem_of_mem hm
   refine⟨i,by omega,?_⟩
   have:=(lo i (by omega)).1.1 (by rw[List.getD_eq_getElem?_getD,List.getElem?_eq_getElem hi];exact h0)
   omega
  ·rintro ⟨i,hi,h0⟩
   have h2:=lo i hi
   have:=h2.1.2 (by omega)
   rw[List.getD_eq_getElem?_getD,List.getElem?_eq_getElem (by omega)]at this
   simp only[Option.getD_some]at this
   exact this ▸ List.getElem_mem _
 have e3:(true∈h.locks∨∃n∈h.units,0<n)↔((∃i:Nat,i<s.pools.length/\0<bal l i 0)∨∃i:Nat,i<s.locks.length/\0<bal l i 1):=by rw[e1,e2,or_comm]
 by_cases hA:true∈h.locks∨∃n∈h.units,0<n
 ·rw[if_pos hA,if_pos (e3.1 hA)]
 ·rw[if_neg hA,if_neg (fun h=>hA (e3.2 h))]
end Go.AM
namespace Go.AM
open Go Go.Proofs
def rstepR(ds:List D)(v:AV):Prop:=∃(s:PSys) (l:List PStep) (i:Nat) (x:PStep),ds=[sysD s,stepsD l,.int .i64 i]/\l[i]?=some x/\s.tame/\Tame (l.take i)/\i<=1000/\v=.dat (.int .i64 (refE s (l.take i) x))
theorem rstep_ok:OkF Tryz.prog 71 (dataC rstepR):=by
 refine okF_data Tryz.func71 rfl (by decide) ?_
 rintro ds v ⟨s,l,m,x,rfl,hx,hsz,hT,hm,rfl⟩
 generalize hv:refE s (l.take m) x=V
 have hpu:PureFns (tbl [(59,dataC balR)]) [59]:=pure_of (by
  intro g C h _
  simp only[List.mem_singleton,Prod.mk.injEq]at h
  exact⟨_,h.2⟩)
 have hok:OkG Tryz.prog (tbl [(59,dataC balR)]):=okG_cons balance_ok okG_nil
 refine sem_of_awp (Γ:=tbl [(59,dataC balR)]) hok _ _ _ ?_
 obtain⟨pools,locks,classes⟩:=s
 obtain⟨kind,on,cnt,deep⟩:=x
 have hml:m<l.length:=(List.getElem?_eq_some_iff.1 hx).1
 have hml2:(m:Int)<l.length:=by omega
 have hnx:=nth_of_drop (f:=stepD) (drop_of_get hx)
 have fin:∀s own (b:Int),b=V->s.getD 6 .top=.dat (.int .i64 b)->post Tryz.prog Tryz.f71 (.dat (.int .i64 V)) [] [] .ret ⟨s,own,0,[]⟩:=fun s own b e h=>by
  subst e
  exact post_data (.inl rfl) [6] rfl trivial (by simp only[tmpsOf,h];rfl)
 have err:∀s own (e:Int),e≠0->preE ⟨pools,locks,classes⟩ ⟨kind,on,cnt,deep⟩=e->s.getD 6 .top=.dat (.int .i64 e) ->
   post Tryz.prog Tryz.f71 (.dat (.int .i64 V)) [] [] .ret ⟨s,own,0,[]⟩:=fun s own e h1 h2 h3 =>
  fin s own e (by rw[← hv];unfold refE;rw[h2,if_pos h1]) h3
 have good:∀s own (b:Bool) (e:Int),preE ⟨pools,locks,classes⟩ ⟨kind,on,cnt,deep⟩=0->refBad ⟨pools,locks,classes⟩ (l.take m) ⟨kind,on,cnt,deep⟩=b->e=(if b=true then 11 else 0)->s.getD 6 .top=.dat (.int .i64 e) ->
   post Tryz.prog Tryz.f71 (.dat (.int .i64 V)) [] [] .ret ⟨s,own,0,[]⟩:=fun s own b e h1 h2 h3 h4 =>
  fin s own e (by rw[← hv];unfold refE;rw[if_neg (by rw[h1];decide),h2,h3]) h4
 have hbal:∀(o k:Int),-1000000<=bal (l.take m) o k/\bal (l.take m) o k<=1000000:=fun o k=>by
  have:=bal_le (l.take m) o k 0 hT
  have h2:(l.take m).length<=1000:=by simp;omega
  unfold bal;omega
 by_cases h1:kind<1
 ·simp only[go_sem,Tryz.ntmps71,sysD,stepD,stepsD,hnx,hml2,h1,show ¬kind=1 by omega,show ¬kind=2 by omega]
  exact err _ _ 1 (by decide) (by simp[preE,badForm,h1]) (by rfl)
 by_cases h2:5<kind
 ·simp only[go_sem,Tryz.ntmps71,sysD,stepD,stepsD,hnx,hml2,h1,h2,show ¬kind=1 by omega,show ¬kind=2 by omega]
  exact err _ _ 1 (by decide) (by simp[preE,badForm,h2]) (by rfl)
 have hk:kind=1∨kind=2∨kind=3∨kind=4∨kind=5:=by omega
 clear h1 h2
 rcases hk with rfl|rfl|rfl|rfl|rfl
 ·simp only[go_sem,Tryz.ntmps71,sysD,stepD,stepsD,hnx,hml2]
  cases deep with
  | true =>
   simp only[go_sem]
   by_cases h0:on<0
   ·simp only[go_sem,h0]
    exact err _ _ 6 (by decide) (by simp[preE,badForm,mostE,h0]) (by rfl)
   obtain⟨i,rfl⟩:∃i:Nat,on=i:=⟨on.toNat,by omega⟩
   simp only[go_sem,h0]
   by_cases hn:(pools.length:Int)<=i
   ·simp only[go_sem,hn]
    exact err _ _ 6 (by decide) (by simp[preE,badForm,mostE];omega) (by rfl)
   have hi:i<pools.length:=by omega
   have hi2:(i:Int)<pools.length:=by omega
   simp only[go_sem,hn]
   refine sem_draw (pf:=[]) mixed hok pureNo [0,1,2,3,4,5,6,7,8,9,10,11,12,13,14,15,16,17] (by kernel_rfl) ?_
   have hnp:D.nth (pools.map poolD) i=poolD (pools.getD i default):=D.nth_map hi
   have hps:(pools.getD i default).size<=1000:=getD_tame hsz i
   generalize hp:pools.getD i default=p at *
   have hp2:pools.getD (i:Int).toNat default=p:=by rw[Int.toNat_natCast];exact hp
   have hpe:=preE_2 (s:=⟨pools,locks,classes⟩) (x:=⟨1,i,cnt,true⟩) (p:=p) (by simp[badForm]) (by simp[mostE];omega) hp2
   simp only[go_sem,chainI]
   by_cases hc1:cnt<1
   ·simp only[go_sem,chainI,hc1]
    exact err _ _ 2 (by decide) (by rw[hpe];simp[hc1]) (by rfl)
   simp only[go_sem,chainI,hc1,hi,hi2,hnp,poolD]
   by_cases hc2:p.size<cnt
   ·simp only[go_sem,chainI,hc2]
    exact err _ _ 2 (by decide) (by rw[hpe];simp[hc2]) (by rfl)
   have hpre:preE ⟨pools,locks,classes⟩ ⟨1,i,cnt,true⟩=0:=by rw[hpe];simp[hc1,hc2]
   simp only[go_sem,chainI,hc2]
   refine sem_draw (pf:=[59]) mixed hok hpu [0,1,2,3,4,5,6,7,8,9,10,11,12,13,14,15,16] (by kernel_rfl) ?_
   simp only[go_sem,chainI]
   refine call_data balR (by simp) _ _ rfl ⟨l,m,i,0,rfl,.inl rfl,by omega,hm,hT,rfl⟩ (.inl rfl) ?_
   simp only[go_sem,chainI,hi,hi2,hnp,poolD]
   have hb:=hbal i 0
   have hbad:refBad ⟨pools,locks,classes⟩ (l.take m) ⟨1,i,cnt,true⟩=decide (p.size<bal (l.take m) i 0+cnt):=by simp only[refBad,if_true,hp2]
   refine⟨inR_i64.2 (by omega),?_⟩
   by_cases hf:p.size<bal (l.take m) i 0+cnt
   ·simp only[go_sem,hf]
    exact good _ _ _ 11 hpre hbad (by rw[decide_eq_true hf];rfl) (by rfl)
   ·simp only[go_sem,hf]
    exact good _ _ _ 0 hpre hbad (by rw[decide_eq_false hf];rfl) (by rfl)
  | false =>
   simp only[go_sem]
   by_cases h0:on<0
   ·simp only[go_sem,h0]
    exact err _ _ 6 (by decide) (by simp[preE,badForm,mostE,h0]) (by rfl)
   obtain⟨i,rfl⟩:∃i:Nat,on=i:=⟨on.toNat,by omega⟩
   simp only[go_sem,h0]
   by_cases hn:(pools.length:Int)<=i
   ·simp only[go_sem,hn]
    exact err _ _ 6 (by decide) (by simp[preE,badForm,mostE];omega) (by rfl)
   have hi:i<pools.length:=by omega
   have hi2:(i:Int)<pools.length:=by omega
   simp only[go_sem,hn]
   refine sem_draw (pf:=[]) mixed hok pureNo [0,1,2,3,4,5,6,7,8,9,10,11,12,13,14,15,16,17] (by kernel_rfl) ?_
   have hnp:D.nth (pools.map poolD) i=poolD (pools.getD i default):=D.nth_map hi
   have hps:(pools.getD i default).size<=1000:=getD_tame hsz i
   generalize hp:pools.getD i default=p at *
   have hp2:pools.getD (i:Int).toNat default=p:=by rw[Int.toNat_natCast];exact hp
   have hpe:=preE_2 (s:=⟨pools,locks,classes⟩) (x:=⟨1,i,cnt,false⟩) (p:=p) (by simp[badForm]) (by simp[mostE];omega) hp2
   simp only[go_sem,chainI]
   by_cases hc1:cnt<1
   ·simp only[go_sem,chainI,hc1]
    exact err _ _ 2 (by decide) (by rw[hpe];simp[hc1]) (by rfl)
   simp only[go_sem,chainI,hc1,hi,hi2,hnp,poolD]
   by_cases hc2:p.size<cnt
   ·simp only[go_sem,chainI,hc2]
    exact err _ _ 2 (by decide) (by rw[hpe];simp[hc2]) (by rfl)
   have hpre:preE ⟨pools,locks,classes⟩ ⟨1,i,cnt,false⟩=0:=by rw[hpe];simp[hc1,hc2]
   simp only[go_sem,chainI,hc2]
   refine sem_draw (pf:=[59]) mixed hok hpu [0,1,2,3,4,5,6,7,8,9,10,11,12,13,14,15,16] (by kernel_rfl) ?_
   simp only[go_sem,chainI]
   refine call_data balR (by simp) _ _ rfl ⟨l,m,i,0,rfl,.inl rfl,by omega,hm,hT,rfl⟩ (.inl rfl) ?_
   simp only[go_sem,chainI,hi,hi2,hnp,poolD]
   have hb:=hbal i 0
   have hbad:refBad ⟨pools,locks,classes⟩ (l.take m) ⟨1,i,cnt,false⟩=decide (p.size<bal (l.take m) i 0+cnt):=by simp only[refBad,if_true,hp2]
   refine⟨inR_i64.2 (by omega),?_⟩
   by_cases hf:p.size<bal (l.take m) i 0+cnt
   ·simp only[go_sem,hf]
    exact good _ _ _ 11 hpre hbad (by rw[decide_eq_true hf];rfl) (by rfl)
   ·simp only[go_sem,hf]
    exact good _ _ _ 0 hpre hbad (by rw[decide_eq_false hf];rfl) (by rfl)
 ·simp only[go_sem,Tryz.ntmps71,sysD,stepD,stepsD,hnx,hml2]
  cases deep with
  | true =>
   simp only[go_sem]
   exact err _ _ 1 (by decide) (by simp[preE,badForm]) (by rfl)
  | false =>
   simp only[go_sem]
   by_cases h0:on<0
   ·simp only[go_sem,h0]
    exact err _ _ 6 (by decide) (by simp[preE,badForm,mostE,h0]) (by rfl)
   obtain⟨i,rfl⟩:∃i:Nat,on=i:=⟨on.toNat,by omega⟩
   simp only[go_sem,h0]
   by_cases hn:(pools.length:Int)<=i
   ·simp only[go_sem,hn]
    exact err _ _ 6 (by decide) (by simp[preE,badForm,mostE];omega) (by rfl)
   have hi:i<pools.length:=by omega
   have hi2:(i:Int)<pools.length:=by omega
   simp only[go_sem,hn]
   refine sem_draw (pf:=[]) mixed hok pureNo [0,1,2,3,4,5,6,7,8,9,10,11,12,13,14,15,16,17] (by kernel_rfl) ?_
   have hnp:D.nth (pools.map poolD) i=poolD (pools.getD i default):=D.nth_map hi
   have hps:(pools.getD i default).size<=1000:=getD_tame hsz i
   generalize hp:pools.getD i default=p at *
   have hp2:pools.getD (i:Int).toNat default=p:=by rw[Int.toNat_natCast];exact hp
   have hpe:=preE_2 (s:=⟨pools,locks,classes⟩) (x:=⟨2,i,cnt,false⟩) (p:=p) (by simp[badForm]) (by simp[mostE];omega) hp2
   simp only[go_sem,chainI]
   by_cases hc1:cnt<1
   ·simp only[go_sem,chainI,hc1]
    exact err _ _ 2 (by decide) (by rw[hpe];simp[hc1]) (by rfl)
   simp only[go_sem,chainI,hc1,hi,hi2,hnp,poolD]
   by_cases hc2:p.size<cnt
   ·simp only[go_sem,chainI,hc2]
    exact err _ _ 2 (by decide) (by rw[hpe];simp[hc2]) (by rfl)
   have hpre:preE ⟨pools,locks,classes⟩ ⟨2,i,cnt,false⟩=0:=by rw[hpe];simp[hc1,hc2]
   simp only[go_sem,chainI,hc2]
   refine sem_draw (pf:=[59]) mixed hok hpu [0,1,2,3,4,5,6,7,8] (by kernel_rfl) ?_
   simp only[go_sem,chainI]
   refine call_data balR (by simp) _ _ rfl ⟨l,m,i,0,rfl,.inl rfl,by omega,hm,hT,rfl⟩ (.inl rfl) ?_
   simp only[go_sem,chainI]
   have hbad:refBad ⟨pools,locks,classes⟩ (l.take m) ⟨2,i,cnt,false⟩=decide (bal (l.take m) i 0<cnt):=by simp[refBad]
   by_cases hf:bal (l.take m) i 0<cnt
   ·simp only[go_sem,hf]
    exact good _ _ _ 11 hpre hbad (by rw[decide_eq_true hf];rfl) (by rfl)
   ·simp only[go_sem,hf]
    exact good _ _ _ 0 hpre hbad (by rw[decide_eq_false hf];rfl) (by rfl)
 ·simp only[go_sem,Tryz.ntmps71,sysD,stepD,stepsD,hnx,hml2]
  cases hc':decide (cnt=0) with
  | false =>
   have hc:¬cnt=0:=of_decide_eq_false hc'
   simp only[go_sem,hc']
   exact err _ _ 1 (by decide) (by simp[preE,badForm,hc]) (by rfl)
  | true =>
   have hc:cnt=0:=of_decide_eq_true hc'
   simp only[go_sem,hc']
   cases deep with
   | true =>
    simp only[go_sem]
    exact err _ _ 1 (by decide) (by simp[preE,badForm,hc]) (by rfl)
   | false =>
    simp only[go_sem]
    by_cases h0:on<0
    ·simp only[go_sem,h0]
     exact err _ _ 6 (by decide) (by simp[preE,badForm,mostE,hc,h0]) (by rfl)
    obtain⟨i,rfl⟩:∃i:Nat,on=i:=⟨on.toNat,by omega⟩
    simp only[go_sem,h0]
    by_cases hn:(locks.length:Int)<=i
    ·simp only[go_sem,hn]
     exact err _ _ 6 (by decide) (by simp[preE,badForm,mostE,hc];omega) (by rfl)
    have hi:i<locks.length:=by omega
    have hi2:(i:Int)<locks.length:=by omega
    simp only[go_sem,hn]
    refine sem_draw (pf:=[]) mixed hok pureNo [0,1,2,3,4,5,6,7,8,9,10,11,12,13,14,15,16,17] (by kernel_rfl) ?_
    have hpre:preE ⟨pools,locks,classes⟩ ⟨3,i,cnt,false⟩=0:=by simp[preE,badForm,mostE,hc];omega
    simp only[go_sem,chainI]
    refine call_data balR (by simp) _ _ rfl ⟨l,m,i,1,rfl,.inr rfl,by omega,hm,hT,rfl⟩ (.inl rfl) ?_
    simp only[go_sem]
    have hbad:refBad ⟨pools,locks,classes⟩ (l.take m) ⟨3,i,cnt,false⟩=decide (0<bal (l.take m) i 1):=by simp[refBad]
    cases hf':decide (0<bal (l.take m) i 1) with
    | true =>
     have hf:=of_decide_eq_true hf'
     simp only[go_sem,hf,hf']
     exact good _ _ _ 11 hpre hbad (by rw[hf'];rfl) (by rfl)
    | false =>
     have hf:=of_decide_eq_false hf'
     simp only[go_sem,hf,hf']
     exact good _ _ _ 0 hpre hbad (by rw[hf'];rfl) (by rfl)
 ·simp only[go_sem,Tryz.ntmps71,sysD,stepD,stepsD,hnx,hml2]
  cases hc':decide (cnt=0) with
  | false =>
   have hc:¬cnt=0:=of_decide_eq_false hc'
   simp only[go_sem,hc']
   exact err _ _ 1 (by decide) (by simp[preE,badForm,hc]) (by rfl)
  | true =>
   have hc:cnt=0:=of_decide_eq_true hc'
   simp only[go_sem,hc']
   cases deep with
   | true =>
    simp only[go_sem]
    exact err _ _ 1 (by decide) (by simp[preE,badForm,hc]) (by rfl)
   | false =>
    simp only[go_sem]
    by_cases h0:on<0
    ·simp only[go_sem,h0]
     exact err _ _ 6 (by decide) (by simp[preE,badForm,mostE,hc,h0]) (by rfl)
    obtain⟨i,rfl⟩:∃i:Nat,on=i:=⟨on.toNat,by omega⟩
    simp only[go_sem,h0]
    by_cases hn:(locks.length:Int)<=i
    ·simp only[go_sem,hn]
     exact err _ _ 6 (by decide) (by simp[preE,badForm,mostE,hc];omega) (by rfl)
    have hi:i<locks.length:=by omega
    have hi2:(i:Int)<locks.length:=by omega
    simp only[go_sem,hn]
    refine sem_draw (pf:=[]) mixed hok pureNo [0,1,2,3,4,5,6,7,8,9,10,11,12,13,14,15,16,17] (by kernel_rfl) ?_
    have hpre:preE ⟨pools,locks,classes⟩ ⟨4,i,cnt,false⟩=0:=by simp[preE,badForm,mostE,hc];omega
    simp only[go_sem,chainI]
    refine call_data balR (by simp) _ _ rfl ⟨l,m,i,1,rfl,.inr rfl,by omega,hm,hT,rfl⟩ (.inl rfl) ?_
    simp only[go_sem]
    have hbad:refBad ⟨pools,locks,classes⟩ (l.take m) ⟨4,i,cnt,false⟩=decide (bal (l.take m) i 1=0):=by simp[refBad]
    cases hf':decide (bal (l.take m) i 1=0) with
    | true =>
     have hf:=of_decide_eq_true hf'
     simp only[go_sem,hf,hf']
     exact good _ _ _ 11 hpre hbad (by rw[hf'];rfl) (by rfl)
    | false =>
     have hf:=of_decide_eq_false hf'
     simp only[go_sem,hf,hf']
     exact good _ _ _ 0 hpre hbad (by rw[hf'];rfl) (by rfl)
 ·simp only[go_sem,Tryz.ntmps71,sysD,stepD,stepsD,hnx,hml2]
  cases hc':decide (cnt=0) with
  | false =>
   have hc:¬cnt=0:=of_decide_eq_false hc'
   simp only[go_sem,hc']
   exact err _ _ 1 (by decide) (by simp[preE,badForm,hc]) (by rfl)
  | true =>
   have hc:cnt=0:=of_decide_eq_true hc'
   simp only[go_sem,hc']
   cases deep with
   | true =>
    simp only[go_sem]
    exact err _ _ 1 (by decide) (by simp[preE,badForm,hc]) (by rfl)
   | false =>
    simp only[go_sem]
    by_cases h0:on<0
    ·simp only[go_sem,h0]
     exact err _ _ 6 (by decide) (by simp[preE,badForm,mostE,hc,h0]) (by rfl)
    obtain⟨i,rfl⟩:∃i:Nat,on=i:=⟨on.toNat,by omega⟩
    simp only[go_sem,h0]
    by_cases hn:(classes.length:Int)<=i
    ·simp only[go_sem,hn]
     exact err _ _ 6 (by decide) (by simp[preE,badForm,mostE,hc];omega) (by rfl)
    have hi:i<classes.length:=by omega
    have hi2:(i:Int)<classes.length:=by omega
    simp only[go_sem,hn]
    refine sem_draw (pf:=[]) mixed hok pureNo [0,1,2,3,4,5,6,7,8,9,10,11,12,13,14,15,16,17] (by kernel_rfl) ?_
    have hpre:preE ⟨pools,locks,classes⟩ ⟨5,i,cnt,false⟩=0:=by simp[preE,badForm,mostE,hc];omega
    simp only[go_sem,chainI]
    have hnc:D.nth (classes.map clsD) i=clsD (classes.getD i default):=D.nth_map hi
    have hbad:refBad ⟨pools,locks,classes⟩ (l.take m) ⟨5,i,cnt,false⟩=!(classes.getD i default).server:=by simp[refBad]
    generalize hp:classes.getD i default=c at *
    simp only[go_sem,hi,hi2,hnc,clsD]
    cases hf:c.server with
    | true =>
     simp only[go_sem,hf]
     exact good _ _ _ 0 hpre hbad (by rw[hf];rfl) (by rfl)
    | false =>
     simp only[go_sem,hf]
     exact good _ _ _ 11 hpre hbad (by rw[hf];rfl) (by rfl)
end Go.AM
namespace Go.AM
open Go Go.Proofs
abbrev tabRC:List (Nat×Contract):=[(71,dataC rstepR),(59,dataC balR)]
theorem tabRC_ok:OkG Tryz.prog (tbl tabRC):=okG_cons rstep_ok (okG_cons balance_ok okG_nil)
theorem tame_snoc{l:List PStep}{x:PStep}(h:Tame l)(hx:-1000<=x.cnt/\x.cnt<=1000):Tame (l++[x]):=fun y hy=>by
 rcases List.mem_append.1 hy with h1|h1
 ·exact h y h1
 ·simp at h1;subst h1;exact hx
theorem rclass_ok:OkF Tryz.prog 37 (dataC classR):=by
 refine okF_data Tryz.func37 rfl (by decide) ?_
 rintro ds v ⟨s,c,rfl,hsm,htm,rfl⟩
 generalize hv:classE s c=V
 refine sem_of_awp (Γ:=tbl tabRC) tabRC_ok _ _ _ ?_
 have fin:∀s own (b c:Int),b=c->s.getD 4 .top=.dat (.int .i64 b)->post Tryz.prog Tryz.f37 (.dat (.int .i64 c)) [] [] .ret ⟨s,own,0,[]⟩:=fun s own b c e h=>by
  subst e
  exact post_data (.inl rfl) [4] rfl trivial (by simp only[tmpsOf,h];rfl)
 obtain⟨name,workers,server,steps⟩:=c
 unfold classE at hv
 simp only at hv
 simp only[go_sem,Tryz.ntmps37,clsD]
 by_cases h1:workers<0
 ·simp only[go_sem,h1]
  rw[if_pos (.inl h1)]at hv
  exact fin _ _ _ _ hv (by rfl)
 by_cases h2:4<workers
 ·simp only[go_sem,h1,h2]
  rw[if_pos (.inr h2)]at hv
  exact fin _ _ _ _ hv (by rfl)
 rw[if_neg (by omega)]at hv
 simp only[go_sem,h1,h2,stepsD]
 by_cases h3:(steps.length:Int)<1
 ·simp only[go_sem,h3]
  rw[if_pos (.inl h3)]at hv
  exact fin _ _ _ _ hv (by rfl)
 by_cases h4:12<(steps.length:Int)
 ·simp only[go_sem,h3,h4]
  rw[if_pos (.inr h4)]at hv
  exact fin _ _ _ _ hv (by rfl)
 rw[if_neg (by omega)]at hv
 simp only[go_sem,h3,h4,sysD]
 have hnp:=hsm.np
 have hnl:=hsm.nl
 obtain⟨pools,locks,classes⟩:=s
 simp only at hnp hnl
 refine sem_loop (fun p:Nat×Hold=>⟨slotsOf 66 [(2,.ptr 0 0 0),(3,.ptr 1 0 0),(4,.dat (.int .i64 0)),(5,.dat (.int .i64 steps.length)),(6,.dat (.int .i64 p.1))],
   [.box [.dat (.sl (some 3) (pools.map poolD)),.dat (.sl none (locks.map .str)),.dat (.sl (some 4) (classes.map clsD))],.box [.dat (.str name),.dat (.int .i64 workers),.dat (.bool server),.dat (.sl (some 4) (steps.map stepD))]],0,[]⟩)
  (fun p=>p.1<=steps.length/\Tr ⟨pools,locks,classes⟩ (steps.take p.1) p.2/\Tame (steps.take p.1)/\verd (runE ⟨pools,locks,classes⟩ (steps.drop p.1) p.2)=V) (fun p=>steps.length - p.1) (0,hold0 ⟨pools,locks,classes⟩) ⟨Nat.zero_le _,tr_nil _,fun x hx=>by simp at hx,hv⟩ ?_ ?_
 ·exact le_slots' (by simp only[go_sem,Int.natCast_zero])
 ·rintro ⟨k,h⟩ ⟨hk,hT,hta,hI⟩
  simp only at hk hT hta hI
  refine sem_of_awp (Γ:=tbl tabRC) tabRC_ok _ _ _ ?_
  cases hd:steps.drop k with
  | nil =>
   have:=end_of_drop hd hk
   subst this
   have hk2:¬(steps.length:Int)<steps.length:=by omega
   rw[hd,verd_nil,tr_end hT]at hI
   rw[List.take_length]at hI hta
   simp only at hI
   simp only[go_sem,hk2]
   refine sem_loop (fun k:Nat=>⟨slotsOf 66 [(2,.ptr 0 0 0),(3,.ptr 1 0 0),(4,.dat (.int .i64 0)),(5,.dat (.int .i64 steps.length)),(8,.dat (.int .i64 k))],
     [.box [.dat (.sl (some 3) (pools.map poolD)),.dat (.sl none (locks.map .str)),.dat (.sl (some 4) (classes.map clsD))],.box [.dat (.str name),.dat (.int .i64 workers),.dat (.bool server),.dat (.sl (some 4) (steps.map stepD))]],0,[]⟩)
    (fun k=>k<=pools.length/\∀i:Nat,i<k->¬0<bal steps i 0) (fun k=>pools.length - k) 0 ⟨Nat.zero_le _,fun i hi=>by omega⟩ ?_ ?_
   ·exact le_slots' (by simp only[go_sem,Int.natCast_zero])
   ·rintro k ⟨hk,hB⟩
    refine sem_of_awp (Γ:=tbl tabRC) tabRC_ok _ _ _ ?_
    by_cases hk2:(k:Int)<pools.length
    ·simp only[go_sem,hk2]
     refine call_data balR (by simp) [stepsD steps,.int .i64 steps.length,.int .i64 k,.int .i64 0] _ rfl ⟨steps,steps.length,k,0,rfl,.inl rfl,by omega,by omega,by rw[List.take_length];exact hta,rfl⟩ (.inl rfl) ?_
     simp only[go_sem,List.take_length]
     by_cases hb:0<bal steps k 0
     ·simp only[go_sem,hb]
      refine fin _ _ _ _ ?_ (by rfl)
      rw[← hI,if_pos (.inl ⟨k,by omega,hb⟩)]
     ·simp only[go_sem,hb]
      refine⟨inR_i64.2 (by omega),k+1,⟨by omega,fun i hi=>?_⟩,by omega,?_⟩
      ·by_cases e:i=k
       ·subst e;exact hb
       ·exact hB i (by omega)
      ·exact le_slots' (by simp only[go_sem,Int.natCast_add,Int.cast_ofNat_Int])
    ·simp only[go_sem,hk2]
     obtain rfl:k=pools.length:=by omega
     refine sem_loop (fun k:Nat=>⟨slotsOf 66 [(2,.ptr 0 0 0),(3,.ptr 1 0 0),(4,.dat (.int .i64 0)),(5,.dat (.int .i64 steps.length)),(9,.dat (.int .i64 k))],
       [.box [.dat (.sl (some 3) (pools.map poolD)),.dat (.sl none (locks.map .str)),.dat (.sl (some 4) (classes.map clsD))],.box [.dat (.str name),.dat (.int .i64 workers),.dat (.bool server),.dat (.sl (some 4) (steps.map stepD))]],0,[]⟩)
      (fun k=>k<=locks.length/\∀i:Nat,i<k->¬0<bal steps i 1) (fun k=>locks.length - k) 0 ⟨Nat.zero_le _,fun i hi=>by omega⟩ ?_ ?_
     ·exact le_slots' (by simp only[go_sem,Int.natCast_zero])
     ·rintro k ⟨hk,hC⟩
      refine sem_of_awp (Γ:=tbl tabRC) tabRC_ok _ _ _ ?_
      by_cases hk2:(k:Int)<locks.length
      ·simp only[go_sem,hk2]
       refine call_data balR (by simp) [stepsD steps,.int .i64 steps.length,.int .i64 k,.int .i64 1] _ rfl ⟨steps,steps.length,k,1,rfl,.inr rfl,by omega,by omega,by rw[List.take_length];exact hta,rfl⟩ (.inl rfl) ?_
       simp only[go_sem,List.take_length]
       by_cases hb:0<bal steps k 1
       ·simp only[go_sem,hb]
        refine fin _ _ _ _ ?_ (by rfl)
        rw[← hI,if_pos (.inr ⟨k,by omega,hb⟩)]
       ·simp only[go_sem,hb]
        refine⟨inR_i64.2 (by omega),k+1,⟨by omega,fun i hi=>?_⟩,by omega,?_⟩
        ·by_cases e:i=k
         ·subst e;exact hb
         ·exact hC i (by omega)
        ·exact le_slots' (by simp only[go_sem,Int.natCast_add,Int.cast_ofNat_Int])
      ·simp only[go_sem,hk2]
       refine fin _ _ _ _ ?_ (by rfl)
       rw[← hI,if_neg ?_]
       rintro (⟨i,h1,h2⟩|⟨i,h1,h2⟩)
       ·exact hB i (by omega) h2
       ·exact hC i (by omega) h2
  | cons x q =>
   have hlt:=lt_of_drop hd
   have hk2:(k:Int)<steps.length:=by omega
   have hk0:(0:Int)<=k:=Int.natCast_nonneg k
   rw[hd]at hI
   have hE:=tr_E (x:=x) hT
   simp only[go_sem,hk2]
   refine call_data rstepR (by simp) [sysD ⟨pools,locks,classes⟩,stepsD steps,.int .i64 k] _ rfl ⟨⟨pools,locks,classes⟩,steps,k,x,rfl,get_of_drop hd,htm,hta,by omega,rfl⟩ (.inl rfl) ?_
   rw[hE]
   simp only[go_sem]
   by_cases he:stepE ⟨pools,locks,classes⟩ h.units h.locks x=0
   ·rw[verd_go he]at hI
    simp only[go_sem,he]
    refine⟨inR_i64.2 (by omega),(k+1,⟨stepU ⟨pools,locks,classes⟩ h.units x,stepL ⟨pools,locks,classes⟩ h.locks x⟩),⟨by omega,?_,?_,by rw[drop_cons hd];exact hI⟩,by omega,?_⟩
    ·rw[take_of_drop hd];exact tr_step hT he
    ·rw[take_of_drop hd];exact tame_snoc hta (pre_tame htm (stepE_0 he))
    ·exact le_slots' (by simp only[go_sem,Int.natCast_add,Int.cast_ofNat_Int])
   ·rw[verd_err he]at hI
    simp only[go_sem,he]
    exact fin _ _ _ _ hI (by rfl)
end Go.AM
namespace Go.AM
open Go Go.Proofs
def namesE:List Str->List Str->Int
 | _,[]=>0
 | pre,x :: r=>if isNm x=false then 3 else if x∈pre then 5 else namesE (pre++[x]) r
def PPool.bad(p:PPool):Prop:=p.size<1∨8<p.size∨p.res<0∨p.size<p.res
instance (p:PPool):Decidable p.bad:=by unfold PPool.bad;exact inferInstance
def poolsE:List PPool->Int
 | []=>0
 | p :: r=>if p.bad then 2 else poolsE r
def clssE(s:PSys):List PCls->Int
 | []=>0
 | c :: r=>if classE s c≠0 then classE s c else clssE s r
def thenE(a b:Int):Int:=if a≠0 then a else b
def checkE(s:PSys):Int :=
 if 6<(s.pools.length:Int)∨4<(s.locks.length:Int)∨6<(s.classes.length:Int) then 9 else thenE (namesE [] (namesL s)) (thenE (poolsE s.pools) (clssE s s.classes))
theorem thenE_0{b:Int}:thenE 0 b=b:=by simp[thenE]
theorem thenE_n{a b:Int}(h:a≠0):thenE a b=a:=by simp[thenE,h]
theorem poolsE_0:∀{l:List PPool},poolsE l=0->∀p∈l,¬p.bad
 | [],_,p,hp=>by simp at hp
 | q :: r,h,p,hp=>by
  simp only[poolsE]at h
  split at h
  ·simp at h
  ·rename_i hb
   rcases List.mem_cons.1 hp with rfl|hp
   ·exact hb
   ·exact poolsE_0 h p hp
theorem thenE_eq0{a b:Int}(h:thenE a b=0):a=0/\b=0:=by
 unfold thenE at h;split at h
 ·contradiction
 ·rename_i h2;exact⟨Classical.byContradiction h2,h⟩
structure PSys.fit (s:PSys):Prop where
 small:s.small
def checkR(ds:List D)(v:AV):Prop:=∃s:PSys,ds=[sysD s]/\s.fit/\v=.dat (.int .i64 (checkE s))
abbrev tabPC:List (Nat×Contract):=[(30,dataC namesR),(31,dataC isNmR),(32,dataC hasSR),(33,dataC classR)]
theorem tabPC_ok:OkG Tryz.prog (tbl tabPC):=okG_cons names_ok (okG_cons isName_ok (okG_cons hasS_ok (okG_cons checkClass_ok okG_nil)))
theorem check_ok:OkF Tryz.prog 15 (dataC checkR):=by
 refine okF_data Tryz.func15 rfl (by decide) ?_
 rintro ds v ⟨s,rfl,hf,rfl⟩
 generalize hv:checkE s=V
 refine sem_of_awp (Γ:=tbl tabPC) tabPC_ok _ _ _ ?_
 have fin:∀s own (b c:Int),b=c->s.getD 2 .top=.dat (.int .i64 b)->post Tryz.prog Tryz.f15 (.dat (.int .i64 c)) [] [] .ret ⟨s,own,0,[]⟩:=fun s own b c e h=>by
  subst e
  exact post_data (.inl rfl) [2] rfl trivial (by simp only[tmpsOf,h];rfl)
 have hsm:=hf.small
 unfold checkE at hv
 simp only[go_sem,Tryz.ntmps15,sysD]
 by_cases h1:6<(s.pools.length:Int)
 ·simp only[go_sem,h1]
  rw[if_pos (.inl h1)]at hv
  exact fin _ _ _ _ hv (by rfl)
 by_cases h2:4<(s.locks.length:Int)
 ·simp only[go_sem,h1,h2]
  rw[if_pos (.inr (.inl h2))]at hv
  exact fin _ _ _ _ hv (by rfl)
 by_cases h3:6<(s.classes.length:Int)
 ·simp only[go_sem,h1,h2,h3]
  rw[if_pos (.inr (.inr h3))]at hv
  exact fin _ _ _ _ hv (by rfl)
 rw[if_neg (by omega)]at hv
 simp only[go_sem,h1,h2,h3]
 refine call_data namesR (by simp) [sysD s] _ rfl ⟨s,rfl,hsm,rfl⟩ (.inl rfl) ?_
 have hln:(namesL s).length<=30:=by
  have:=hsm.np;have:=hsm.nl;have:=hsm.nc
  simp only[namesL,List.length_append,List.length_map];omega
 generalize hN:namesL s=N at *
 simp only[go_sem]
 refine sem_loop (fun k:Nat=>⟨slotsOf 87 [(1,.ptr 0 0 0),(2,.dat (.int .i64 0)),(3,.dat (.sl none (N.map .str))),(29,.dat (.sl none (N.map .str))),(30,.dat (.int .i64 N.length)),(31,.dat (.int .i64 k))],
   [.box [.dat (.sl (some 3) (s.pools.map poolD)),.dat (.sl none (s.locks.map .str)),.dat (.sl (some 4) (s.classes.map clsD))]],0,[]⟩)
  (fun k=>k<=N.length/\thenE (namesE (N.take k) (N.drop k)) (thenE (poolsE s.pools) (clssE s s.classes))=V) (fun k=>N.length - k) 0 ⟨Nat.zero_le _,hv⟩ ?_ ?_
 ·exact le_slots' (by simp only[go_sem,Int.natCast_zero])
 ·rintro k ⟨hk,hI⟩
  refine sem_of_awp (Γ:=tbl tabPC) tabPC_ok _ _ _ ?_
  cases hd:N.drop k with
  | nil =>
   have:=end_of_drop hd hk
   have hk2:¬(k:Int)<N.length:=by omega
   rw[hd,namesE,thenE_0]at hI
   simp only[go_sem,hk2]
   refine sem_loop (fun k:Nat=>⟨slotsOf 87 [(1,.ptr 0 0 0),(2,.dat (.int .i64 0)),(46,.dat (.sl (some 3) (s.pools.map poolD))),(47,.dat (.int .i64 s.pools.length)),(48,.dat (.int .i64 k))],
     [.box [.dat (.sl (some 3) (s.pools.map poolD)),.dat (.sl none (s.locks.map .str)),.dat (.sl (some 4) (s.classes.map clsD))]],0,[]⟩)
    (fun k=>k<=s.pools.length/\(∀p∈s.pools.take k,¬p.bad)/\thenE (poolsE (s.pools.drop k)) (clssE s s.classes)=V) (fun k=>s.pools.length - k) 0 ⟨Nat.zero_le _,fun p hp=>by simp at hp,hI⟩ ?_ ?_
   ·exact le_slots' (by simp only[go_sem,Int.natCast_zero])
   ·rintro k ⟨hk,hG,hI⟩
    refine sem_of_awp (Γ:=tbl tabPC) tabPC_ok _ _ _ ?_
    cases hd:s.pools.drop k with
    | nil =>
     have:=end_of_drop hd hk
     have hk2:¬(k:Int)<s.pools.length:=by omega
     rw[hd,poolsE,thenE_0]at hI
     rw[List.take_of_length_le (by omega)]at hG
     have htm:s.tame:=fun p hp=>by have:=hG p hp;unfold PPool.bad at this;omega
     simp only[go_sem,hk2]
     refine sem_loop (fun k:Nat=>⟨slotsOf 87 [(1,.ptr 0 0 0),(2,.dat (.int .i64 0)),(74,.dat (.sl (some 4) (s.classes.map clsD))),(75,.dat (.int .i64 s.classes.length)),(76,.dat (.int .i64 k))],
       [.box [.dat (.sl (some 3) (s.pools.map poolD)),.dat (.sl none (s.locks.map .str)),.dat (.sl (some 4) (s.classes.map clsD))]],0,[]⟩)
      (fun k=>k<=s.classes.length/\clssE s (s.classes.drop k)=V) (fun k=>s.classes.length - k) 0 ⟨Nat.zero_le _,hI⟩ ?_ ?_
     ·exact le_slots' (by simp only[go_sem,Int.natCast_zero])
     ·rintro k ⟨hk,hI⟩
      refine sem_of_awp (Γ:=tbl tabPC) tabPC_ok _ _ _ ?_
      cases hd:s.classes.drop k with
      | nil =>
       have:=end_of_drop hd hk
       have hk2:¬(k:Int)<s.classes.length:=by omega
       rw[hd,clssE]at hI
       simp only[go_sem,hk2]
       exact fin _ _ _ _ hI (by rfl)
      | cons c q =>
       have hlt:=lt_of_drop hd
       have hk2:(k:Int)<s.classes.length:=by omega
       have hk0:(0:Int)<=k:=Int.natCast_nonneg k
       have hn:=nth_of_drop (f:=clsD) hd
       rw[hd,clssE]at hI
       simp only[go_sem,hk2,hk0,hn,hlt,clsD]
       refine call_data classR (by simp) [sysD s,clsD c] _ rfl ⟨s,c,rfl,hsm,htm,rfl⟩ (.inl rfl) ?_
       simp only[go_sem]
       by_cases he:classE s c=0
       ·rw[if_neg (by rw[he];decide)]at hI
        simp only[go_sem,he]
        refine⟨inR_i64.2 (by omega),k+1,⟨by omega,by rw[drop_cons hd];exact hI⟩,by omega,?_⟩
        refine le_end (own:=[_]) (ex:=[_]) (Nat.zero_le _) ?_ ?_ ?_
        ·simp only[go_sem,Int.natCast_add,Int.cast_ofNat_Int]
        ·simp only[go_sem]
        ·simp only[go_sem,Obj.under,AV.unders,AV.under]
       ·rw[if_pos he]at hI
        simp only[go_sem,he]
        exact fin _ _ _ _ hI (by rfl)
    | cons p q =>
     have hlt:=lt_of_drop hd
     have hk2:(k:Int)<s.pools.length:=by omega
     have hk0:(0:Int)<=k:=Int.natCast_nonneg k
     have hn:=nth_of_drop (f:=poolD) hd
     rw[hd,poolsE]at hI
     simp only[go_sem,hk2,hk0,hn,hlt,poolD]
     by_cases b1:p.size<1
     ·simp only[go_sem,b1]
      rw[if_pos (.inl b1)]at hI
      exact fin _ _ _ _ hI (by rfl)
     by_cases b2:8<p.size
     ·simp only[go_sem,b1,b2]
      rw[if_pos (.inr (.inl b2))]at hI
      exact fin _ _ _ _ hI (by rfl)
     by_cases b3:p.res<0
     ·simp only[go_sem,b1,b2,b3]
      rw[if_pos (.inr (.inr (.inl b3)))]at hI
      exact fin _ _ _ _ hI (by rfl)
     by_cases b4:p.size<p.res
     ·simp only[go_sem,b1,b2,b3,b4]
      rw[if_pos (.inr (.inr (.inr b4)))]at hI
      exact fin _ _ _ _ hI (by rfl)
     have hb:¬p.bad:=by unfold PPool.bad;omega
     rw[if_neg hb]at hI
     simp only[go_sem,b1,b2,b3,b4]
     refine⟨inR_i64.2 (by omega),k+1,⟨by omega,?_,by rw[drop_cons hd];exact hI⟩,by omega,?_⟩
     ·rw[take_of_drop hd]
      intro y hy
      rcases List.mem_append.1 hy with h|h
      ·exact hG y h
      ·simp at h;subst h;exact hb
     ·refine le_end (own:=[_]) (ex:=[_]) (Nat.zero_le _) ?_ ?_ ?_
      ·simp only[go_sem,Int.natCast_add,Int.cast_ofNat_Int]
      ·simp only[go_sem]
      ·simp only[go_sem,Obj.under,AV.unders,AV.under]
  | cons x q =>
   have hlt:=lt_of_drop hd
   have hk2:(k:Int)<N.length:=by omega
   have hk0:(0:Int)<=k:=Int.natCast_nonneg k
   have hk3:(k:Int)<=N.length:=by omega
   have hn:=nth_of_drop (f:=D.str) hd
   have hpre:(N.take k).length<4611686018427387904:=by simp;omega
   have hmt:(N.map D.str).take k=(N.take k).map D.str:=by simp[List.map_take]
   rw[hd,namesE]at hI
   simp only[go_sem,hk2,hk0,hn,hlt]
   refine call_data isNmR (by simp) [.str x] _ rfl ⟨x,rfl,rfl⟩ (.inl rfl) ?_
   cases hb:isNm x with
   | false =>
    simp only[go_sem,hb]
    rw[if_pos hb,thenE_n (by decide)]at hI
    exact fin _ _ _ _ hI (by rfl)
   | true =>
    rw[if_neg (by rw[hb];decide)]at hI
    simp only[go_sem,hb,hk0,hk3,Int.toNat_natCast]
    refine call_data hasSR (by simp) [.sl none ((N.take k).map .str),.str x] _ (by rw[← hmt];rfl) ⟨N.take k,x,rfl,hpre,rfl⟩ (.inl rfl) ?_
    by_cases hm:x∈N.take k
    ·have hm':decide (x∈N.take k)=true:=decide_eq_true hm
     simp only[go_sem,hm']
     rw[if_pos hm,thenE_n (by decide)]at hI
     exact fin _ _ _ _ hI (by rfl)
    ·have hm':decide (x∈N.take k)=false:=decide_eq_false hm
     simp only[go_sem,hm']
     rw[if_neg hm,← take_of_drop hd,← drop_cons hd]at hI
     refine⟨inR_i64.2 (by omega),k+1,⟨by omega,hI⟩,by omega,?_⟩
     exact le_slots' (by simp only[go_sem,Int.natCast_add,Int.cast_ofNat_Int])
end Go.AM

