/- Own work over the model of the kit. -/
import Derived.Test.YtaecgpgkfajfjaaGreatDoorK23
import Derived.Test.YtaecgpgkfajfjaaGreatDoorK8
import Derived.Test.YtaecgpgkfajfjaaGreatDoorTie
import Derived.Test.YtaecgpgkfajfjaaGreatDoorCards
import Derived.Lay
set_option linter.constructorNameAsVariable false
set_option linter.unnecessarySimpa false
set_option linter.unusedSimpArgs false
set_option linter.unusedVariables false
set_option maxHeartbeats 8000000
set_option maxRecDepth 100000
namespace Go.AM
open Go Go.Proofs
def heldT(s:PSys)(c k:Int):List Int×List Bool×Int :=
 if checkE s≠0 then ([],[],checkE s) else
 if c<0∨(s.classes.length:Int)<=c∨k<0∨((s.classes.getD c.toNat default).steps.length:Int)<k then ([],[],2) else
 (balU s ((s.classes.getD c.toNat default).steps.take k.toNat),balB s ((s.classes.getD c.toNat default).steps.take k.toNat),0)
theorem heldT_1{s:PSys}{c k:Int}(h:checkE s≠0):heldT s c k=([],[],checkE s):=by unfold heldT;rw[if_pos h]
theorem heldT_2{s:PSys}{c k:Int}(h:checkE s=0)(h2:c<0∨(s.classes.length:Int)<=c∨k<0∨((s.classes.getD c.toNat default).steps.length:Int)<k):heldT s c k=([],[],2):=by
 unfold heldT;rw[if_neg (by rw[h];decide),if_pos h2]
theorem heldT_3{s:PSys}{c k:Nat}(h:checkE s=0)(hc:c<s.classes.length)(hk:k<=(s.classes.getD c default).steps.length) :
  heldT s c k=(balU s ((s.classes.getD c default).steps.take k),balB s ((s.classes.getD c default).steps.take k),0):=by
 unfold heldT;rw[if_neg (by rw[h];decide),if_neg (by rw[Int.toNat_natCast];omega),Int.toNat_natCast,Int.toNat_natCast]
def heldMR(ds:List D)(v:AV)(ob:List Obj):Prop:=∃(s:PSys) (c k:Int),ds=[sysD s,.int .i64 c,.int .i64 k]/\s.fit/\v=.tup [.sl 0 0 (heldT s c k).1.length,.sl 1 0 (heldT s c k).2.1.length,.dat (.int .i64 (heldT s c k).2.2)]/\ob=[.row none (intsD (heldT s c k).1),.row none (boolsD (heldT s c k).2.1)]
def callsMR(ds:List D)(v:AV)(ob:List Obj):Prop:=∃(s:PSys) (c:Int),ds=[sysD s,.int .i64 c]/\v=.tup [.sl 0 0 (callsV s c).1.length,.dat (.int .i64 (callsV s c).2)]/\ob=[.row none (intsD (callsV s c).1)]
theorem heldM_ok:OkF Tryz.prog 22 (madeC heldMR):=by
 refine okF_made Tryz.func22 rfl (by decide) ?_
 rintro ds v ob ⟨s,c,k,rfl,hf,rfl,rfl⟩
 refine sem_of_awp (Γ:=tbl tabPH) tabPH_ok _ _ _ ?_
 generalize hv:heldT s c k=V
 have nilE:∀s X e,s.getD 6 .top=.nils->s.getD 7 .top=.nils->s.getD 8 .top=.dat (.int .i64 e)->post Tryz.prog Tryz.f22 (.tup [.sl 0 0 0,.sl 1 0 0,.dat (.int .i64 e)]) [.row none [],.row none []] [] .ret ⟨s,[X],0,[]⟩:=fun s X e h6 h7 h8=>by
  refine post_resO (mv':=[]) (.inl rfl) [.tmp 6,.tmp 7,.tmp 8] rfl (fun _ h=>h) ?_
  simp only[go_sem,h6,h7,h8]
  refine Le.trans (le_tupadd 0 none rfl (Nat.zero_le _)) ?_
  refine Le.trans (le_tupadd 1 none rfl (Nat.zero_le _)) ?_
  exact le_two (ex:=[])
 simp only[go_sem,Tryz.ntmps22,sysD]
 refine call_data checkR (by simp) [sysD s] _ rfl ⟨s,rfl,hf,rfl⟩ (.inl rfl) ?_
 by_cases h:checkE s=0
 case neg =>
  simp only[go_sem,h]
  rw[← hv,heldT_1 h]
  exact nilE _ _ _ (by rfl) (by rfl) (by rfl)
 simp only[go_sem,h]
 by_cases h1:c<0
 ·rw[← hv,heldT_2 h (.inl h1)]
  simp only[go_sem,h1]
  exact nilE _ _ _ (by rfl) (by rfl) (by rfl)
 by_cases h2:(s.classes.length:Int)<=c
 ·rw[← hv,heldT_2 h (.inr (.inl h2))]
  simp only[go_sem,h1,h2]
  exact nilE _ _ _ (by rfl) (by rfl) (by rfl)
 by_cases h3:k<0
 ·rw[← hv,heldT_2 h (.inr (.inr (.inl h3)))]
  simp only[go_sem,h1,h2,h3]
  exact nilE _ _ _ (by rfl) (by rfl) (by rfl)
 obtain⟨i,rfl⟩:∃i:Nat,c=i:=⟨c.toNat,by omega⟩
 obtain⟨j,rfl⟩:∃j:Nat,k=j:=⟨k.toNat,by omega⟩
 have hi:i<s.classes.length:=by omega
 have hi2:(i:Int)<s.classes.length:=by omega
 have hnc:D.nth (s.classes.map clsD) i=clsD (s.classes.getD i default):=D.nth_map hi
 have hcm:s.classes.getD i default∈s.classes:=by rw[List.getD_eq_getElem?_getD,List.getElem?_eq_getElem hi];exact List.getElem_mem hi
 have hcg:=(good_of h).cls _ hcm
 have hv2:=fun h4=>heldT_2 (s:=s) (c:=i) (k:=j) h (.inr (.inr (.inr h4)))
 have hv3:=heldT_3 (k:=j) h hi
 rw[Int.toNat_natCast]at hv2
 generalize s.classes.getD i default=c at *
 simp only[go_sem,h1,h2,h3,hi2,hi,hnc,clsD,stepsD]
 by_cases h4:(c.steps.length:Int)<j
 ·rw[← hv,hv2 h4]
  simp only[go_sem,h4]
  exact nilE _ _ _ (by rfl) (by rfl) (by rfl)
 have hj:j<=c.steps.length:=by omega
 have hj2:(j:Int)<=c.steps.length:=by omega
 have hV:=hv3 hj
 rw[hV]at hv
 subst hv
 simp only[go_sem,h4]
 refine call_made startR (by simp) _ _ _ rfl rfl ⟨s,rfl,hf.small,rfl,rfl⟩ ?_
 have htk:List.take j (c.steps.map stepD)=(c.steps.take j).map stepD:=by simp[List.map_take]
 have hlt:(c.steps.take j).length=j:=by simp;omega
 simp only[go_sem,AV.shift,Obj.shift,AV.shifts,hi,hi2,hnc,clsD,stepsD,hj2,Int.sub_zero,List.length_map,htk,hlt]
 have hnp:(hold0 s).units.length=s.pools.length:=by simp[hold0,zerosI]
 have hnl:(hold0 s).locks.length=s.locks.length:=by simp[hold0,zerosB]
 have hsm:=hf.small
 have hl12:=hcg.l12
 refine sem_loop (fun p:Nat×Hold=>⟨slotsOf 65 [(3,.ptr 0 0 0),(10,.ptr 3 0 0),(51,.dat (.sl (some 4) ((c.steps.take j).map stepD))),(52,.dat (.int .i64 j)),(53,.dat (.int .i64 p.1))],
   [sysO s,.row none (intsD p.2.units),.row none (boolsD p.2.locks),.box [.sl 1 0 p.2.units.length,.sl 2 0 p.2.locks.length]],0,[]⟩)
  (fun p=>p.1<=j/\Tr s (c.steps.take p.1) p.2/\verd (runE s (c.steps.drop p.1) p.2)=0/\(∀n∈p.2.units,-(1000*(p.1:Int))<=n/\n<=1000*(p.1:Int))) (fun p=>j - p.1) (0,hold0 s) ⟨Nat.zero_le _,tr_nil _,hcg.run,by simp[hold0,zerosI]⟩ ?_ ?_
 ·simp only[hnp,hnl]
  exact le_slots' (by simp only[go_sem,Int.natCast_zero])
 ·rintro ⟨m,h⟩ ⟨hm,hT,hI,hbd⟩
  simp only at hm hT hI hbd
  refine sem_of_awp (Γ:=tbl tabPH) tabPH_ok _ _ _ ?_
  have hu:=hT.ul
  have hb:=hT.ll
  by_cases hmj:m<j
  ·have hmc:m<c.steps.length:=by omega
   have hd:c.steps.drop m=c.steps[m] :: c.steps.drop (m+1):=List.drop_eq_getElem_cons hmc
   have hk2:(m:Int)<j:=by omega
   have hk0:(0:Int)<=m:=Int.natCast_nonneg m
   have hn:D.nth ((c.steps.take j).map stepD) m=stepD c.steps[m]:=by
    have:(c.steps.take j).drop m=c.steps[m] :: (c.steps.take j).drop (m+1):=by
     rw[List.drop_eq_getElem_cons (by rw[hlt];exact hmj)];simp
    exact nth_of_drop (f:=stepD) this
   have hx0:stepE s h.units h.locks c.steps[m]=0:=by
    rw[hd]at hI
    apply Classical.byContradiction;intro he
    rw[verd_err he]at hI;exact he hI
   have hI2:=hI
   rw[hd,verd_go hx0]at hI2
   have htr:=tr_step hT hx0
   rw[← take_of_drop hd]at htr
   generalize c.steps[m]=x at *
   obtain⟨u,b⟩:=h
   simp only at hu hb hbd hx0 hI2 htr
   simp only[go_sem,hk2,hk0,hn,hmj,hlt,stepD]
   refine call_lentN hstepR (by simp) [3,1,2] ⟨s,x,u,b,hu,hb,(good_of ‹_›).tame,fun n hn=>by have:=hbd n hn;omega,rfl,rfl,rfl,rfl,rfl,rfl⟩ (by decide) (by simp) rfl rfl rfl (by simp only[go_sem,AV.unders,AV.under]) ?_ ?_ ?_
   ·simp only[holdO,List.mem_cons,List.mem_nil_iff,or_false,forall_eq_or_imp,forall_eq];exact⟨by simp only[Obj.under,AV.unders,AV.under];decide,trivial,trivial⟩
   ·intro j hj
    rcases j with _|_|_|j
    ·rfl
    ·rfl
    ·rfl
    ·simp at hj;omega
   simp only[go_sem,hx0]
   refine⟨inR_i64.2 (by omega),(m+1,⟨stepU s u x,stepL s b x⟩),⟨by simp only;omega,htr,hI2,fun n hn=>?_⟩,by simp only;omega,?_⟩
   ·have:=stepU_small (good_of ‹_›).tame (b:=1000*(m:Int)) hbd (by omega) n hn
    simp only
    omega
   ·simp only[holdO,setAll,emb,AV.ren,AV.rens,Obj.ren]
    refine le_end (own:=[_,_,_,_]) (ex:=[_]) (Nat.zero_le _) ?_ ?_ ?_
    ·simp only[go_sem,Int.natCast_add,Int.cast_ofNat_Int]
    ·simp only[go_sem,stepU_len,stepL_len]
    ·simp only[go_sem,Obj.under,AV.unders,AV.under]
     decide
  ·obtain rfl:m=j:=by omega
   have hk2:¬(m:Int)<m:=by omega
   obtain⟨e1,e2⟩:=tr_hold hT
   rw[← e1,← e2]
   simp only[go_sem,hk2]
   refine sem_draw (pf:=[]) mixed tabPH_ok pureNo [0,1,2,3,4,5,6] (by kernel_rfl) ?_
   simp only[go_sem,chainI]
   refine post_resO (mv':=[]) (.inl rfl) [.tmp 6,.tmp 7,.tmp 8] rfl (fun _ h=>h) ?_
   simp only[go_sem]
   exact le_two (ex:=[_])
theorem callsM_ok:OkF Tryz.prog 24 (madeC callsMR):=by
 refine okF_made Tryz.func24 rfl (by decide) ?_
 rintro ds v ob ⟨s,c,rfl,rfl,rfl⟩
 refine sem_of_awpK [7] (Γ:=tbl tabCl) tabCl_ok _ _ _ ?_
 simp only[go_sem,Tryz.ntmps24,sysD]
 refine call_data chkAR (mem_ix 0 rfl) [sysD s] _ rfl ⟨s,rfl,rfl⟩ (.inl rfl) ?_
 unfold callsV
 by_cases hc:checkE s=0
 ·rw[if_neg (fun h=>h hc)]
  have g:=goodS_of hc
  have gnc:=g.nc
  simp only[go_sem,hc,eq_self,decide_true,Bool.not_true]
  by_cases h1:c<0
  ·rw[if_pos (.inl h1)]
   simp only[go_sem,h1,decide_true]
   refine post_resO (mv':=[]) (.inl rfl) [.tmp 4,.tmp 5] rfl (fun _ h=>h) ?_
   simp only[go_sem]
   exact Le.trans (le_tupadd 0 none rfl (Nat.zero_le _)) (le_one (ex:=[]))
  by_cases h2:(s.classes.length:Int)<=c
  ·rw[if_pos (.inr h2)]
   simp only[go_sem,h1,h2,decide_true,decide_false,List.length_map]
   refine post_resO (mv':=[]) (.inl rfl) [.tmp 4,.tmp 5] rfl (fun _ h=>h) ?_
   simp only[go_sem]
   exact Le.trans (le_tupadd 0 none rfl (Nat.zero_le _)) (le_one (ex:=[]))
  rw[if_neg (by omega)]
  obtain⟨n,rfl⟩:∃n:Nat,c=n:=⟨c.toNat,by omega⟩
  have hn:n<s.classes.length:=by omega
  have hnI:(n:Int)<(s.classes.length:Int):=by omega
  have hx:D.nth (s.classes.map clsD) n=clsD (s.classes.getD n default):=D.nth_map hn
  have hcm:s.classes.getD n default∈s.classes:=getD_mem hn
  have hst:=g.st _ hcm
  have hns:=g.ns _ hcm
  rw[Int.toNat_natCast]
  generalize s.classes.getD n default=cl at *
  obtain⟨name,workers,server,steps⟩:=cl
  simp only at hst hns ⊢
  have hon:=on_ok hst
  simp only[go_sem,h1,h2,decide_false,List.length_map]
  refine sem_le (le_addnil 7 none rfl (Nat.zero_le _)) ?_
  refine sem_of_awp (Γ:=tbl tabCl) tabCl_ok _ _ _ ?_
  simp only[go_sem,hnI,hx,clsD,stepsD,List.length_map,Int.toNat_natCast,List.cons_append,List.nil_append,List.length_cons,List.length_nil]
  refine sem_loop (fun k:Nat=>⟨slotsOf 54 [(7,.sl 1 0 (callsD (steps.take k)).length),(29,.dat (.sl (some 4) (steps.map stepD))),(30,.dat (.int .i64 steps.length)),(31,.dat (.int .i64 k))],[.dead,.row none (intsD (callsD (steps.take k)))],0,[]⟩)
   (fun k=>k<=steps.length) (fun k=>steps.length - k) 0 (Nat.zero_le _) ?_ ?_
  ·refine Le.trans (le_dead 0) ?_
   simp only[go_sem]
   exact le_slots' (by simp only[go_sem,Int.natCast_zero,List.take_zero,callsD,List.foldl_nil,List.length_nil])
  rintro k hk
  refine sem_of_awp (Γ:=tbl tabCl) tabCl_ok _ _ _ ?_
  have hlk:=callsD_take hon k
  cases hd:steps.drop k with
  | nil =>
   have hke:=end_of_drop hd hk
   have k1:¬(k:Int)<(steps.length:Int):=by omega
   have hall:steps.take k=steps:=by rw[hke];exact List.take_length
   rw[hall]at hlk ⊢
   simp only[go_sem,k1,decide_false]
   refine call_lent sortR41 (mem_ix 2 rfl) [1] ⟨callsD steps,callsL s.classes.length steps,by omega,fun u' hp hs=>calls_sorted hp hs hon,rfl,rfl,rfl,rfl,rfl,rfl⟩ (by decide) (by simp) rfl rfl rfl (by simp[AV.unders,AV.under]) (by simp[Obj.under]) (fun j hj=>by
    obtain rfl:j=0:=by simp at hj;exact hj
    rfl) ?_
   have hlen:(callsL s.classes.length steps).length=(callsD steps).length:=calls_len hon
   simp only[go_sem]
   refine post_resO (mv':=[]) (.inl rfl) [.tmp 4,.tmp 5] rfl (fun _ h=>h) ?_
   have tkT:(intsD (callsL s.classes.length steps)).take (callsD steps).length=intsD (callsL s.classes.length steps):=List.take_of_length_le (by simp[hlen])
   have hle:(callsD steps).length<=(callsL s.classes.length steps).length:=by omega
   simp only[go_sem]
   simp only[go_sem,hlen]
   exact le_one (ex:=[])
  | cons x r =>
   have hlt:=lt_of_drop hd
   have k1:(k:Int)<(steps.length:Int):=by omega
   have hk0:(0:Int)<=(k:Int):=by omega
   have hy:D.nth (steps.map stepD) k=stepD x:=nth_of_drop hd
   have hsn:callsD (steps.take (k+1))=callsS (callsD (steps.take k)) x:=by rw[take_of_drop hd,callsD_snoc]
   simp only[go_sem,k1,hk0,decide_true,List.length_map,Int.toNat_natCast,hy,stepD]
   by_cases h5:x.kind=5
   ·have hpk:Peek [.dead,.row none (intsD (callsD (steps.take k))),.box [.dat (.int .i64 x.kind),.dat (.int .i64 x.on),.dat (.int .i64 x.cnt),.dat (.bool x.deep)]] (.sl 1 0 (callsD (steps.take k)).length) (.sl none (intsD (callsD (steps.take k)))):=by
     have:=peek_row0 (own:=[.dead,.row none (intsD (callsD (steps.take k))),.box [.dat (.int .i64 x.kind),.dat (.int .i64 x.on),.dat (.int .i64 x.cnt),.dat (.bool x.deep)]]) (o:=1) (ag:=none) (xs:=intsD (callsD (steps.take k))) rfl
     rwa [List.length_map]at this
    have h5b:decide (x.kind=5)=true:=decide_eq_true h5
    have tkD:(intsD (callsD (steps.take k))).take (callsD (steps.take k)).length=intsD (callsD (steps.take k)):=List.take_of_length_le (by simp)
    simp only[go_sem,h5b]
    refine call_peek contIZ (mem_ix 1 rfl) [.sl none (intsD (callsD (steps.take k))),.int .i64 x.on] (.dat (.bool (decide (x.on∈callsD (steps.take k))))) ⟨hpk,peek_dat,trivial⟩ ⟨_,_,rfl,by omega,rfl⟩ rfl ?_
    by_cases hin:x.on∈callsD (steps.take k)
    ·have e:callsD (steps.take (k+1))=callsD (steps.take k):=by rw[hsn];unfold callsS;rw[if_neg (fun h=>h.2 hin)]
     simp only[go_sem,eq_true hin,decide_true,Bool.not_true]
     refine⟨inR_i64.2 (by omega),k+1,by omega,by omega,?_⟩
     rw[e]
     refine le_end (own:=[_,_]) (ex:=[_]) (Nat.zero_le _) ?_ ?_ ?_
     ·simp only[go_sem,Int.natCast_add,Int.cast_ofNat_Int]
     ·simp only[go_sem]
     ·simp only[go_sem,AV.unders,AV.under,List.length_cons,List.length_nil]
    ·have e:callsD (steps.take (k+1))=callsD (steps.take k)++[x.on]:=by rw[hsn];unfold callsS;rw[if_pos ⟨h5,hin⟩]
     simp only[go_sem,eq_false hin,decide_false,Bool.not_false,tkD,List.length_map]
     refine⟨by omega,by omega,inR_i64.2 (by omega),k+1,by omega,by omega,?_⟩
     simp only[e,List.map_append,List.map_cons,List.map_nil,List.length_append,List.length_cons,List.length_nil]
     refine le_end (own:=[_,_]) (ex:=[_,_]) (Nat.zero_le _) ?_ ?_ ?_
     ·simp only[go_sem,Int.natCast_add,Int.cast_ofNat_Int]
     ·simp only[go_sem]
     ·simp only[go_sem,AV.unders,AV.under,List.length_cons,List.length_nil]
   ·have e:callsD (steps.take (k+1))=callsD (steps.take k):=by rw[hsn];unfold callsS;rw[if_neg (fun h=>h5 h.1)]
    have h5b:decide (x.kind=5)=false:=decide_eq_false h5
    simp only[go_sem,h5b]
    refine⟨inR_i64.2 (by omega),k+1,by omega,by omega,?_⟩
    rw[e]
    refine le_end (own:=[_,_]) (ex:=[_]) (Nat.zero_le _) ?_ ?_ ?_
    ·simp only[go_sem,Int.natCast_add,Int.cast_ofNat_Int]
    ·simp only[go_sem]
    ·simp only[go_sem,AV.unders,AV.under,List.length_cons,List.length_nil]
 ·rw[if_pos hc]
  simp only[go_sem,hc,decide_false,Bool.not_false]
  refine post_resO (mv':=[]) (.inl rfl) [.tmp 4,.tmp 5] rfl (fun _ h=>h) ?_
  simp only[go_sem]
  exact Le.trans (le_tupadd 0 none rfl (Nat.zero_le _)) (le_one (ex:=[]))
end Go.AM
namespace Go.AM
open Go Go.Proofs
abbrev tabN9:List (Nat×Contract):=[(14,dataC awR41),(13,dataC fewR),(22,madeC heldMR),(24,madeC callsMR),(19,dataC sameR41)]
theorem tabN9_ok:OkG Tryz.prog (tbl tabN9):=okG_cons awake41_ok (okG_cons few_ok (okG_cons heldM_ok (okG_cons callsM_ok (okG_cons rsame41_ok okG_nil))))
def kpS(c k:Int)(o:Nat):List AV:=slotsOf 106 [(1,.dat (.int .i64 c)),(2,.dat (.int .i64 k)),(3,.ptr 0 0 0),(6,.dat (.bool false)),(7,.ptr o 0 0)]
def kpO(s:PSys)(u:List Int)(b:List Bool)(q:List Int):List Obj:=[.box [.dat (.sl (some 3) (s.pools.map poolD)),.dat (.sl none (s.locks.map .str)),.dat (.sl (some 4) (s.classes.map clsD))],.box [.dat (.sl (some 3) (s.pools.map poolD)),.dat (.sl none (s.locks.map .str)),.dat (.sl (some 4) (s.classes.map clsD))],.dead,.dead,.dead,.row none (intsD u),.row none (boolsD b),.row none (intsD q)]
theorem heldT_len{s:PSys}{c k:Int}(hs:s.small):(heldT s c k).1.length<=10/\(heldT s c k).2.1.length<=10:=by
 have:=hs.np;have:=hs.nl
 unfold heldT
 split
 ·simp
 split
 ·simp
 ·simp[balU,balB];omega
theorem lawKeeps41_ok:OkF Tryz.prog 12 (dataC lawSIR):=by
 refine okF_data Tryz.func12 rfl (by decide) ?_
 rintro ds v ⟨s,c,k,rfl,hok,rfl⟩
 refine sem_of_awpK [4,10] (Γ:=tbl tabN9) tabN9_ok _ _ _ ?_
 simp only[go_sem,Tryz.ntmps12,sysD]
 refine call_data fewR (mem_ix 1 rfl) [sysD s] _ rfl ⟨s,rfl,rfl⟩ (.inl rfl) ?_
 cases hf:fewB s with
 | false =>
  simp only[go_sem,Bool.not_false]
  refine call_aw41 (mem_ix 0 rfl) ?_
  simp only[go_sem]
  exact post_data (.inl rfl) [6] rfl trivial rfl
 | true =>
  obtain⟨hs,hst⟩:=few_small hf
  have hfk:=few_fk hf hok
  have hnp:=hs.np;have hnl:=hs.nl;have hnc:=hs.nc
  simp only[go_sem,Bool.not_true]
  refine sem_to ⟨kpS c k 1,[.box [.dat (.sl (some 3) (s.pools.map poolD)),.dat (.sl none (s.locks.map .str)),.dat (.sl (some 4) (s.classes.map clsD))],.box [.sl 2 0 s.pools.length,.sl 3 0 s.locks.length,.nils],.row (some 3) (s.pools.map poolD),.row none (s.locks.map .str)],0,[]⟩ ?_ ?_
  ·refine sem_drawU [] [(3,[1,2,3,4]),(7,[1,2,3,4]),(5,[1,2,3,4]),(6,[1,2,3,4])] (pf:=[]) (mf:=[]) mixed tabN9_ok pureNo growNo noMk (.one 1 (.one 2 (.one 5 (.one 6 (.alt 0 (.alt 3 (.alt 4 (.alt 7 (.one 8 (.one 9 (.one 10 .fin))) (.alt 9 (.one 7 (.one 8 (.one 10 .fin))) .stop)) (.alt 9 (.one 4 (.one 7 (.one 8 (.one 10 .fin)))) .stop)) (.alt 4 (.alt 3 (.alt 7 (.one 8 (.one 9 (.one 10 .fin))) (.alt 9 (.one 7 (.one 8 (.one 10 .fin))) .stop)) (.alt 9 (.one 3 (.one 7 (.one 8 (.one 10 .fin)))) .stop)) (.alt 9 (.alt 3 (.one 4 (.one 7 (.one 8 (.one 10 .fin)))) (.alt 4 (.one 3 (.one 7 (.one 8 (.one 10 .fin)))) .stop)) .stop))) (.alt 4 (.alt 0 (.alt 3 (.alt 7 (.one 8 (.one 9 (.one 10 .fin))) (.alt 9 (.one 7 (.one 8 (.one 10 .fin))) .stop)) (.alt 9 (.one 3 (.one 7 (.one 8 (.one 10 .fin)))) .stop)) (.alt 9 (.one 0 (.one 3 (.one 7 (.one 8 (.one 10 .fin))))) .stop)) (.alt 9 (.alt 0 (.alt 3 (.one 4 (.one 7 (.one 8 (.one 10 .fin)))) (.alt 4 (.one 3 (.one 7 (.one 8 (.one 10 .fin)))) .stop)) (.alt 4 (.one 0 (.one 3 (.one 7 (.one 8 (.one 10 .fin))))) .stop)) .stop))))))) (by kernel_rfl) ?_
   simp only[go_sem,List.length_map,true_and,and_true]
   repeat' (first|exact rfl|refine And.intro ?_ ?_)
   all_goals first
    | omega
    | exact le_slots' (s':=kpS c k 1) (by simp only[go_sem,kpS])
    | exact Le.trans (le_slots' (s':=kpS c k 1) (by simp only[go_sem,kpS])) (le_swp (s':=kpS c k 1) (own':=[.box [.dat (.sl (some 3) (s.pools.map poolD)),.dat (.sl none (s.locks.map .str)),.dat (.sl (some 4) (s.classes.map clsD))],.box [.sl 2 0 s.pools.length,.sl 3 0 s.locks.length,.nils],.row (some 3) (s.pools.map poolD),.row none (s.locks.map .str)]) 2 3 (by decide:(2:Nat)<4) (by decide:(3:Nat)<4) rfl rfl)
    | exact Le.trans (le_slots' (s':=kpS c k 2) (by simp only[go_sem,kpS])) (le_swp (s':=kpS c k 1) (own':=[.box [.dat (.sl (some 3) (s.pools.map poolD)),.dat (.sl none (s.locks.map .str)),.dat (.sl (some 4) (s.classes.map clsD))],.box [.sl 2 0 s.pools.length,.sl 3 0 s.locks.length,.nils],.row (some 3) (s.pools.map poolD),.row none (s.locks.map .str)]) 1 2 (by decide:(1:Nat)<4) (by decide:(2:Nat)<4) rfl rfl)
    | exact Le.trans (Le.trans (le_slots' (s':=kpS c k 2) (by simp only[go_sem,kpS])) (le_swp (s':=kpS c k 1) (own':=[.box [.dat (.sl (some 3) (s.pools.map poolD)),.dat (.sl none (s.locks.map .str)),.dat (.sl (some 4) (s.classes.map clsD))],.box [.sl 3 0 s.pools.length,.sl 2 0 s.locks.length,.nils],.row none (s.locks.map .str),.row (some 3) (s.pools.map poolD)]) 1 2 (by decide:(1:Nat)<4) (by decide:(2:Nat)<4) rfl rfl)) (le_swp (s':=kpS c k 1) (own':=[.box [.dat (.sl (some 3) (s.pools.map poolD)),.dat (.sl none (s.locks.map .str)),.dat (.sl (some 4) (s.classes.map clsD))],.box [.sl 2 0 s.pools.length,.sl 3 0 s.locks.length,.nils],.row (some 3) (s.pools.map poolD),.row none (s.locks.map .str)]) 2 3 (by decide:(2:Nat)<4) (by decide:(3:Nat)<4) rfl rfl)
    | exact Le.trans (Le.trans (le_slots' (s':=kpS c k 3) (by simp only[go_sem,kpS])) (le_swp (s':=kpS c k 1) (own':=[.box [.dat (.sl (some 3) (s.pools.map poolD)),.dat (.sl none (s.locks.map .str)),.dat (.sl (some 4) (s.classes.map clsD))],.box [.sl 3 0 s.pools.length,.sl 2 0 s.locks.length,.nils],.row none (s.locks.map .str),.row (some 3) (s.pools.map poolD)]) 1 3 (by decide:(1:Nat)<4) (by decide:(3:Nat)<4) rfl rfl)) (le_swp (s':=kpS c k 1) (own':=[.box [.dat (.sl (some 3) (s.pools.map poolD)),.dat (.sl none (s.locks.map .str)),.dat (.sl (some 4) (s.classes.map clsD))],.box [.sl 2 0 s.pools.length,.sl 3 0 s.locks.length,.nils],.row (some 3) (s.pools.map poolD),.row none (s.locks.map .str)]) 2 3 (by decide:(2:Nat)<4) (by decide:(3:Nat)<4) rfl rfl)
    | exact Le.trans (le_slots' (s':=kpS c k 3) (by simp only[go_sem,kpS])) (le_swp (s':=kpS c k 1) (own':=[.box [.dat (.sl (some 3) (s.pools.map poolD)),.dat (.sl none (s.locks.map .str)),.dat (.sl (some 4) (s.classes.map clsD))],.box [.sl 2 0 s.pools.length,.sl 3 0 s.locks.length,.nils],.row (some 3) (s.pools.map poolD),.row none (s.locks.map .str)]) 1 3 (by decide:(1:Nat)<4) (by decide:(3:Nat)<4) rfl rfl)
  refine sem_le (le_addnilR 1 2 (some 4) rfl rfl (Nat.zero_le _)) ?_
  refine sem_of_awpK [10] (Γ:=tbl tabN9) tabN9_ok _ _ _ ?_
  simp only[go_sem,kpS]
  refine sem_loop (fun i:Nat=>⟨slotsOf 106 [(1,.dat (.int .i64 c)),(2,.dat (.int .i64 k)),(3,.ptr 0 0 0),(6,.dat (.bool false)),(7,.ptr 1 0 0),(8,.dat (.int .i64 i))],[.box [.dat (.sl (some 3) (s.pools.map poolD)),.dat (.sl none (s.locks.map .str)),.dat (.sl (some 4) (s.classes.map clsD))],.box [.dat (.sl (some 3) (s.pools.map poolD)),.dat (.sl none (s.locks.map .str)),.sl 4 0 i],.dead,.dead,.row (some 4) ((s.classes.take i).map clsD)],0,[]⟩)
   (fun i=>i<=s.classes.length) (fun i=>s.classes.length - i) 0 (Nat.zero_le _) ?_ ?_
  ·refine Le.trans (le_freeze 2 (ag:=some 3) rfl (Nat.zero_le _)) ?_
   refine Le.trans (le_freeze 3 (ag:=none) rfl (Nat.zero_le _)) ?_
   have tkp:(s.pools.map poolD).take s.pools.length=s.pools.map poolD:=List.take_of_length_le (by simp)
   have tkl:(s.locks.map D.str).take s.locks.length=s.locks.map D.str:=List.take_of_length_le (by simp)
   simp only[go_sem,tkp,tkl,List.take_zero,List.map_nil]
   exact le_slots' (by simp only[go_sem,Int.natCast_zero])
  rintro i hi
  refine sem_of_awpK [9] (Γ:=tbl tabN9) tabN9_ok _ _ _ ?_
  cases hd:s.classes.drop i with
  | nil =>
   have hie:=end_of_drop hd hi
   have k1:¬(i:Int)<(s.classes.length:Int):=by omega
   simp only[go_sem,k1,decide_false,List.length_map]
   subst hie
   rw[List.take_length]
   refine sem_le (le_freeze 4 (ag:=some 4) rfl (Nat.zero_le _)) ?_
   have tkc:(s.classes.map clsD).take s.classes.length=s.classes.map clsD:=List.take_of_length_le (by simp)
   simp only[go_sem,tkc]
   refine sem_of_awp (Γ:=tbl tabN9) tabN9_ok _ _ _ ?_
   simp only[go_sem]
   refine call_made heldMR (mem_ix 2 rfl) [sysD s,.int .i64 c,.int .i64 k] _ _ rfl rfl ⟨s,c,k,rfl,⟨hs⟩,rfl,rfl⟩ ?_
   generalize hH:heldT s c k=H
   obtain⟨hu,hb⟩:H.1.length<=10/\H.2.1.length<=10:=by rw[← hH];exact heldT_len hs
   obtain⟨u,b,e⟩:=H
   simp only at hu hb
   simp only[go_sem,AV.shift,AV.shifts,Obj.shift]
   refine call_made callsMR (mem_ix 3 rfl) [sysD s,.int .i64 c] _ _ rfl rfl ⟨s,c,rfl,rfl,rfl⟩ ?_
   have hcl:=callsV_len s c hs
   generalize callsV s c=q at *
   obtain⟨q,e2⟩:=q
   simp only at hcl
   simp only[go_sem,AV.shift,AV.shifts,Obj.shift]
   refine sem_loop (fun p:Nat×List Int=>⟨slotsOf 106 [(3,.ptr 0 0 0),(7,.ptr 1 0 0),(10,.sl 5 0 u.length),(11,.sl 6 0 b.length),(13,.sl 7 0 q.length),(15,.dat (.int .i64 p.1))],kpO s p.2 b q,0,[]⟩)
    (fun p=>p.1<=u.length/\p.2.length=u.length) (fun p=>u.length - p.1) (0,u) ⟨Nat.zero_le _,rfl⟩ (le_slots' (by simp only[go_sem,Int.natCast_zero])) ?_
   rintro ⟨j,u'⟩ ⟨hj,hu'⟩
   simp only at hj hu' ⊢
   refine sem_of_awp (Γ:=tbl tabN9) tabN9_ok _ _ _ ?_
   have j0:(0:Int)<=(j:Int):=by omega
   by_cases hlt:j<u.length
   ·have j1:(j:Int)<(u.length:Int):=by omega
    simp only[go_sem,kpO,j0,j1,hu',hlt,decide_true,List.length_map,Int.toNat_natCast]
    refine⟨inR_i64.2 (by omega),(j+1,u'.set j (-1)),⟨by omega,by simp[hu']⟩,by omega,?_⟩
    simp only[List.map_set]
    exact le_slots' (by simp only[go_sem,Int.natCast_add,Int.cast_ofNat_Int])
   have j1:¬(j:Int)<(u.length:Int):=by omega
   simp only[go_sem,j1,decide_false]
   refine sem_loop (fun p:Nat×List Bool=>⟨slotsOf 106 [(3,.ptr 0 0 0),(7,.ptr 1 0 0),(11,.sl 6 0 b.length),(13,.sl 7 0 q.length),(16,.dat (.int .i64 p.1))],kpO s u' p.2 q,0,[]⟩)
    (fun p=>p.1<=b.length/\p.2.length=b.length) (fun p=>b.length - p.1) (0,b) ⟨Nat.zero_le _,rfl⟩ (le_slots' (by simp only[go_sem,Int.natCast_zero])) ?_
   rintro ⟨j2,b'⟩ ⟨hj2,hb'⟩
   simp only at hj2 hb' ⊢
   refine sem_of_awp (Γ:=tbl tabN9) tabN9_ok _ _ _ ?_
   have j20:(0:Int)<=(j2:Int):=by omega
   by_cases hlt2:j2<b.length
   ·have j21:(j2:Int)<(b.length:Int):=by omega
    have hnb:D.nth (boolsD b') j2=.bool (b'.getD j2 false):=nthB (by omega)
    simp only[go_sem,kpO,j20,j21,hb',hlt2,decide_true,List.length_map,Int.toNat_natCast,hnb]
    refine⟨inR_i64.2 (by omega),(j2+1,b'.set j2 (!b'.getD j2 false)),⟨by omega,by simp[hb']⟩,by omega,?_⟩
    simp only[List.map_set]
    exact le_slots' (by simp only[go_sem,Int.natCast_add,Int.cast_ofNat_Int])
   have j21:¬(j2:Int)<(b.length:Int):=by omega
   simp only[go_sem,j21,decide_false]
   refine sem_loop (fun p:Nat×List Int=>⟨slotsOf 106 [(3,.ptr 0 0 0),(7,.ptr 1 0 0),(13,.sl 7 0 q.length),(17,.dat (.int .i64 p.1))],kpO s u' b' p.2,0,[]⟩)
    (fun p=>p.1<=q.length/\p.2.length=q.length) (fun p=>q.length - p.1) (0,q) ⟨Nat.zero_le _,rfl⟩ (le_slots' (by simp only[go_sem,Int.natCast_zero])) ?_
   rintro ⟨j3,q'⟩ ⟨hj3,hq'⟩
   simp only at hj3 hq' ⊢
   refine sem_of_awp (Γ:=tbl tabN9) tabN9_ok _ _ _ ?_
   have j30:(0:Int)<=(j3:Int):=by omega
   by_cases hlt3:j3<q.length
   ·have j31:(j3:Int)<(q.length:Int):=by omega
    simp only[go_sem,kpO,j30,j31,hq',hlt3,decide_true,List.length_map,Int.toNat_natCast]
    refine⟨inR_i64.2 (by omega),(j3+1,q'.set j3 (-1)),⟨by omega,by simp[hq']⟩,by omega,?_⟩
    simp only[List.map_set]
    exact le_slots' (by simp only[go_sem,Int.natCast_add,Int.cast_ofNat_Int])
   have j31:¬(j3:Int)<(q.length:Int):=by omega
   simp only[go_sem,j31,decide_false,kpO]
   refine call_data sameR41 (mem_ix 4 rfl) [sysD s,sysD s] _ rfl ⟨s,s,rfl,hfk,hfk,rfl⟩ (.inl rfl) ?_
   simp only[go_sem,eq_self,decide_true]
   refine call_aw41 (mem_ix 0 rfl) ?_
   simp only[go_sem]
   exact post_data (.inl rfl) [6] rfl trivial rfl
  | cons x r =>
   have hlt:=lt_of_drop hd
   have k1:(i:Int)<(s.classes.length:Int):=by omega
   have k2:(0:Int)<=(i:Int):=by omega
   have hx:D.nth (s.classes.map clsD) i=clsD x:=nth_of_drop hd
   simp only[go_sem,k1,k2,decide_true,List.length_map,Int.toNat_natCast,hx,clsD,stepsD]
   have hxl:=hst x (mem_of_drop hd)
   refine⟨by omega,by omega,?_⟩
   refine sem_le (le_freeze 6 (ag:=some 4) rfl (Nat.zero_le _)) ?_
   have tks:(x.steps.map stepD).take x.steps.length=x.steps.map stepD:=List.take_of_length_le (by simp)
   simp only[go_sem,tks]
   refine sem_of_awp (Γ:=tbl tabN9) tabN9_ok _ _ _ ?_
   have htl:(s.classes.take i).length=i:=by simp;omega
   have tkc:((s.classes.take i).map clsD).take i=(s.classes.take i).map clsD:=List.take_of_length_le (by simp;omega)
   have hsn:(s.classes.take (i+1)).map clsD=(s.classes.take i).map clsD++[clsD x]:=by rw[take_of_drop hd];simp
   simp only[go_sem,List.length_map,htl,tkc,Int.toNat_natCast]
   refine⟨by omega,by omega,inR_i64.2 (by omega),i+1,by omega,by omega,?_⟩
   rw[hsn]
   refine le_end (own:=[_,_,_,_,_]) (ex:=[_,_,_]) (Nat.zero_le _) ?_ ?_ ?_
   ·simp only[go_sem,Int.natCast_add,Int.cast_ofNat_Int]
   ·simp only[go_sem,AV.unders,AV.under,List.length_cons,List.length_nil]
   ·simp only[go_sem,AV.unders,AV.under,List.length_cons,List.length_nil,Obj.allUnder,Obj.under]
end Go.AM
namespace Go.AM
open Go Go.Proofs
theorem glob_ok {w : World} {n1 n2 : String} {d1 d2 : DataW Unit} {laid : List (String × DataW Unit)} {ps : List MemPlace} {d : DataW Unit} (hd : d = .agg (Lib.pow10Tab.map fun z => .lit (.int .u64 z))) (h : DataW.LaidVars Tryz.prog w ((n1, d1) :: (n2, d2) :: ("internal/strconv.uint64pow10", d) :: laid) ps) : GlobOk (fun b => b < w.heap.size) w := by
 obtain⟨_,h⟩:=laid_skip h
 obtain⟨_,h⟩:=laid_skip h
 obtain⟨⟨cs,h1,h2,h3,h4⟩,_⟩:=glob_array (g:=3) (t:=159) (e:=140) (n:=20) (k:=.u64) (ns:=Lib.pow10Tab) h hd (by kernel_rfl) (by kernel_rfl) (by kernel_rfl) (by kernel_rfl) (by kernel_rfl) (by kernel_rfl) (by decide)
 intro g ag d' hg
 unfold globs at hg
 split at hg
 ·simp only[Option.some.injEq,Prod.mk.injEq]at hg
  obtain⟨rfl,rfl⟩:=hg
  exact⟨cs,h1,h2,h3,rfl,h4⟩
 ·cases hg
end Go.AM
namespace Go.Proofs.YtaecgpgkfajfjaaGreatDoor
open Go Go.AM Go.ChangeShapes Go.WideShapes Go.ChangeAt Go.RowKit
theorem own:ownKnob Tryz.prog.godebug=none:=by kernel_rfl
theorem laidOut:laidOutB Tryz.prog=true:=by kernel_rfl
abbrev laid1 : List (String × DataW Unit) := [("math/bits.deBruijn32tab", Rows.laid_math_bits_deBruijn32tab), ("math/bits.deBruijn64tab", Rows.laid_math_bits_deBruijn64tab), ("internal/strconv.uint64pow10", Rows.laid_internal_strconv_uint64pow10), ("unicode/utf8.acceptRanges", Rows.laid_unicode_utf8_acceptRanges), ("unicode/utf8.first", Rows.laid_unicode_utf8_first)]
theorem pow_datum:(Rows.laid_internal_strconv_uint64pow10:DataW Unit)=.agg (Lib.pow10Tab.map fun z=>.lit (.int .u64 z)):=by kernel_rfl
theorem glob_met(w:World)(h:laidMetH Tryz.prog laid1 w):GlobOk (fun b=>b<w.heap.size) w:=by
 rw[MakeChecks.laidMetH_plain _ _ _ (by kernel_rfl)]at h
 obtain⟨ps,hl,_⟩:=h
 exact glob_ok pow_datum hl
theorem fits_laid(os:Os):(World.holding Tryz.prog os ⟨#[],#[],[]⟩).layFits Tryz.prog laid1 []=true:=by kernel_rfl
theorem ifaces_laid(os:Os):(World.holding Tryz.prog os ⟨#[],#[],[]⟩).layIfaces Tryz.prog laid1 (World.laidAll Tryz.prog os laid1)=true:=by kernel_rfl
theorem shaped_laid(os:Os):(World.laidAll Tryz.prog os laid1).Shaped Tryz.prog:=World.shaped_of_ZipB (by kernel_rfl) (by kernel_rfl)
theorem door_met(os:Os)(args:Array Value):laidMetH Tryz.prog laid1 ((World.laidAll Tryz.prog os laid1).forCall (fun _ _=>0) ⟨#[],args,[]⟩).memory:=by
 rw[MakeChecks.laidMetH_plain _ _ _ (by kernel_rfl)]
 exact laidMet_laidAll _ (fits_laid os) (ifaces_laid os)
end Go.Proofs.YtaecgpgkfajfjaaGreatDoor

