/- Own work over the model of the kit. -/
import Derived.Test.YtaecgpgkfajfjaaGreatDoorD25
import Derived.Test.YtaecgpgkfajfjaaGreatDoorD24
import Derived.Test.YtaecgpgkfajfjaaGreatDoorD15
import Derived.Test.YtaecgpgkfajfjaaGreatDoorD6
import Derived.Test.YtaecgpgkfajfjaaGreatDoorD8
import Derived.Test.YtaecgpgkfajfjaaGreatDoorD22
import Derived.Test.YtaecgpgkfajfjaaGreatDoorD19
import Derived.Test.YtaecgpgkfajfjaaGreatDoorD23
set_option linter.constructorNameAsVariable false
set_option linter.unnecessarySimpa false
set_option linter.unusedSimpArgs false
set_option linter.unusedVariables false
set_option maxHeartbeats 8000000
set_option maxRecDepth 100000
namespace Go.AM
open Go Go.Proofs
def balU(s:PSys)(l:List PStep):List Int:=(List.range s.pools.length).map fun i=>bal l (i:Nat) 0
def balB(s:PSys)(l:List PStep):List Bool:=(List.range s.locks.length).map fun i=>decide (0<bal l (i:Nat) 1)
theorem tr_hold{s:PSys}{l:List PStep}{h:Hold}(t:Tr s l h):h.units=balU s l/\h.locks=balB s l:=by
 obtain⟨ul,ll,un,lo⟩:=t
 constructor
 ·refine List.ext_getElem (by simp[balU,ul]) fun i h1 h2=>?_
  have:=un i (by omega)
  rw[List.getD_eq_getElem?_getD,List.getElem?_eq_getElem h1]at this
  simpa [balU] using this
 ·refine List.ext_getElem (by simp[balB,ll]) fun i h1 h2=>?_
  have:=lo i (by omega)
  rw[List.getD_eq_getElem?_getD,List.getElem?_eq_getElem h1]at this
  simp only[Option.getD_some]at this
  simp only[balB,List.getElem_map,List.getElem_range]
  cases hb:h.locks[i] with
  | true=>have:=this.1.1 hb;rw[this];rfl
  | false =>
   rcases this.2 with h0|h0
   ·rw[h0];rfl
   ·rw[this.1.2 h0]at hb;cases hb
def heldV(s:PSys)(c k:Int):AV :=
 if checkE s≠0 then .tup [.dat (.sl none []),.dat (.sl none []),.dat (.int .i64 (checkE s))] else
 if c<0∨(s.classes.length:Int)<=c∨k<0∨((s.classes.getD c.toNat default).steps.length:Int)<k then .tup [.dat (.sl none []),.dat (.sl none []),.dat (.int .i64 2)] else
 .tup [.dat (.sl none (intsD (balU s ((s.classes.getD c.toNat default).steps.take k.toNat)))),.dat (.sl none (boolsD (balB s ((s.classes.getD c.toNat default).steps.take k.toNat)))),.dat (.int .i64 0)]
theorem heldV_1{s:PSys}{c k:Int}(h:checkE s≠0):heldV s c k=.tup [.dat (.sl none []),.dat (.sl none []),.dat (.int .i64 (checkE s))]:=by unfold heldV;rw[if_pos h]
theorem heldV_2{s:PSys}{c k:Int}(h:checkE s=0)(h2:c<0∨(s.classes.length:Int)<=c∨k<0∨((s.classes.getD c.toNat default).steps.length:Int)<k):heldV s c k=.tup [.dat (.sl none []),.dat (.sl none []),.dat (.int .i64 2)]:=by
 unfold heldV;rw[if_neg (by rw[h];decide),if_pos h2]
theorem heldV_3{s:PSys}{c k:Nat}(h:checkE s=0)(hc:c<s.classes.length)(hk:k<=(s.classes.getD c default).steps.length) :
  heldV s c k=.tup [.dat (.sl none (intsD (balU s ((s.classes.getD c default).steps.take k)))),.dat (.sl none (boolsD (balB s ((s.classes.getD c default).steps.take k)))),.dat (.int .i64 0)]:=by
 unfold heldV;rw[if_neg (by rw[h];decide),if_neg (by rw[Int.toNat_natCast];omega),Int.toNat_natCast,Int.toNat_natCast]
def heldR(ds:List D)(v:AV):Prop:=∃(s:PSys) (c k:Int),ds=[sysD s,.int .i64 c,.int .i64 k]/\s.fit/\v=heldV s c k
abbrev tabPH:List (Nat×Contract):=[(15,dataC checkR),(57,madeC startR),(58,normC (lentC hstepR))]
theorem tabPH_ok:OkG Tryz.prog (tbl tabPH):=okG_cons check_ok (okG_cons start_ok (okG_cons (okF_norm hstep_ok) okG_nil))
theorem held_ok:OkF Tryz.prog 22 (dataC heldR):=by
 refine okF_data Tryz.func22 rfl (by decide) ?_
 rintro ds v ⟨s,c,k,rfl,hf,rfl⟩
 refine sem_of_awp (Γ:=tbl tabPH) tabPH_ok _ _ _ ?_
 generalize hv:heldV s c k=V
 have nilE:∀s own e,s.getD 6 .top=.nils->s.getD 7 .top=.nils->s.getD 8 .top=.dat (.int .i64 e)->post Tryz.prog Tryz.f22 (.tup [.dat (.sl none []),.dat (.sl none []),.dat (.int .i64 e)]) [] [] .ret ⟨s,own,0,[]⟩:=fun s own e h6 h7 h8=>by
  refine post_res (.inl rfl) [.tmp 6,.tmp 7,.tmp 8] rfl ?_
  simp only[go_sem,h6,h7,h8]
  exact le_fin (by simp only[go_sem]) (by simp only[go_sem])
 simp only[go_sem,Tryz.ntmps22,sysD]
 refine call_data checkR (by simp) [sysD s] _ rfl ⟨s,rfl,hf,rfl⟩ (.inl rfl) ?_
 by_cases h:checkE s=0
 case neg =>
  simp only[go_sem,h]
  rw[← hv,heldV_1 h]
  exact nilE _ _ _ (by rfl) (by rfl) (by rfl)
 simp only[go_sem,h]
 by_cases h1:c<0
 ·rw[← hv,heldV_2 h (.inl h1)]
  simp only[go_sem,h1]
  exact nilE _ _ _ (by rfl) (by rfl) (by rfl)
 by_cases h2:(s.classes.length:Int)<=c
 ·rw[← hv,heldV_2 h (.inr (.inl h2))]
  simp only[go_sem,h1,h2]
  exact nilE _ _ _ (by rfl) (by rfl) (by rfl)
 by_cases h3:k<0
 ·rw[← hv,heldV_2 h (.inr (.inr (.inl h3)))]
  simp only[go_sem,h1,h2,h3]
  exact nilE _ _ _ (by rfl) (by rfl) (by rfl)
 obtain⟨i,rfl⟩:∃i:Nat,c=i:=⟨c.toNat,by omega⟩
 obtain⟨j,rfl⟩:∃j:Nat,k=j:=⟨k.toNat,by omega⟩
 have hi:i<s.classes.length:=by omega
 have hi2:(i:Int)<s.classes.length:=by omega
 have hnc:D.nth (s.classes.map clsD) i=clsD (s.classes.getD i default):=D.nth_map hi
 have hcm:s.classes.getD i default∈s.classes:=by rw[List.getD_eq_getElem?_getD,List.getElem?_eq_getElem hi];exact List.getElem_mem hi
 have hcg:=(good_of h).cls _ hcm
 have hv2:=fun h4=>heldV_2 (s:=s) (c:=i) (k:=j) h (.inr (.inr (.inr h4)))
 have hv3:=heldV_3 (k:=j) h hi
 rw[Int.toNat_natCast]at hv2
 generalize s.classes.getD i default=c at *
 simp only[go_sem,h1,h2,h3,hi2,hi,hnc,clsD,stepsD]
 by_cases h4:(c.steps.length:Int)<j
 ·rw[← hv,hv2 h4]
  simp only[go_sem,h4]
  exact nilE _ _ _ (by rfl) (by rfl) (by rfl)
 have hj:j<=c.steps.length:=by omega
 have hj2:(j:Int)<=c.steps.length:=by omega
 have hV:=hv3 hj
 rw[hV]at hv
 subst hv
 simp only[go_sem,h4]
 refine call_made startR (by simp) _ _ _ rfl rfl ⟨s,rfl,hf.small,rfl,rfl⟩ ?_
 have htk:List.take j (c.steps.map stepD)=(c.steps.take j).map stepD:=by simp[List.map_take]
 have hlt:(c.steps.take j).length=j:=by simp;omega
 simp only[go_sem,AV.shift,Obj.shift,AV.shifts,hi,hi2,hnc,clsD,stepsD,hj2,Int.sub_zero,List.length_map,htk,hlt]
 have hnp:(hold0 s).units.length=s.pools.length:=by simp[hold0,zerosI]
 have hnl:(hold0 s).locks.length=s.locks.length:=by simp[hold0,zerosB]
 have hsm:=hf.small
 have hl12:=hcg.l12
 refine sem_loop (fun p:Nat×Hold=>⟨slotsOf 65 [(3,.ptr 0 0 0),(10,.ptr 3 0 0),(51,.dat (.sl (some 4) ((c.steps.take j).map stepD))),(52,.dat (.int .i64 j)),(53,.dat (.int .i64 p.1))],
   [sysO s,.row none (intsD p.2.units),.row none (boolsD p.2.locks),.box [.sl 1 0 p.2.units.length,.sl 2 0 p.2.locks.length]],0,[]⟩)
  (fun p=>p.1<=j/\Tr s (c.steps.take p.1) p.2/\verd (runE s (c.steps.drop p.1) p.2)=0/\(∀n∈p.2.units,-(1000*(p.1:Int))<=n/\n<=1000*(p.1:Int))) (fun p=>j - p.1) (0,hold0 s) ⟨Nat.zero_le _,tr_nil _,hcg.run,by simp[hold0,zerosI]⟩ ?_ ?_
 ·simp only[hnp,hnl]
  exact le_slots' (by simp only[go_sem,Int.natCast_zero])
 ·rintro ⟨m,h⟩ ⟨hm,hT,hI,hbd⟩
  simp only at hm hT hI hbd
  refine sem_of_awp (Γ:=tbl tabPH) tabPH_ok _ _ _ ?_
  have hu:=hT.ul
  have hb:=hT.ll
  by_cases hmj:m<j
  ·have hmc:m<c.steps.length:=by omega
   have hd:c.steps.drop m=c.steps[m] :: c.steps.drop (m+1):=List.drop_eq_getElem_cons hmc
   have hk2:(m:Int)<j:=by omega
   have hk0:(0:Int)<=m:=Int.natCast_nonneg m
   have hn:D.nth ((c.steps.take j).map stepD) m=stepD c.steps[m]:=by
    have:(c.steps.take j).drop m=c.steps[m] :: (c.steps.take j).drop (m+1):=by
     rw[List.drop_eq_getElem_cons (by rw[hlt];exact hmj)];simp
    exact nth_of_drop (f:=stepD) this
   have hx0:stepE s h.units h.locks c.steps[m]=0:=by
    rw[hd]at hI
    apply Classical.byContradiction;intro he
    rw[verd_err he]at hI;exact he hI
   have hI2:=hI
   rw[hd,verd_go hx0]at hI2
   have htr:=tr_step hT hx0
   rw[← take_of_drop hd]at htr
   generalize c.steps[m]=x at *
   obtain⟨u,b⟩:=h
   simp only at hu hb hbd hx0 hI2 htr
   simp only[go_sem,hk2,hk0,hn,hmj,hlt,stepD]
   refine call_lentN hstepR (by simp) [3,1,2] ⟨s,x,u,b,hu,hb,(good_of ‹_›).tame,fun n hn=>by have:=hbd n hn;omega,rfl,rfl,rfl,rfl,rfl,rfl⟩ (by decide) (by simp) rfl rfl rfl (by simp only[go_sem,AV.unders,AV.under]) ?_ ?_ ?_
   ·simp only[holdO,List.mem_cons,List.mem_nil_iff,or_false,forall_eq_or_imp,forall_eq];exact⟨by simp only[Obj.under,AV.unders,AV.under];decide,trivial,trivial⟩
   ·intro j hj
    rcases j with _|_|_|j
    ·rfl
    ·rfl
    ·rfl
    ·simp at hj;omega
   simp only[go_sem,hx0]
   refine⟨inR_i64.2 (by omega),(m+1,⟨stepU s u x,stepL s b x⟩),⟨by simp only;omega,htr,hI2,fun n hn=>?_⟩,by simp only;omega,?_⟩
   ·have:=stepU_small (good_of ‹_›).tame (b:=1000*(m:Int)) hbd (by omega) n hn
    simp only
    omega
   ·simp only[holdO,setAll,emb,AV.ren,AV.rens,Obj.ren]
    refine le_end (own:=[_,_,_,_]) (ex:=[_]) (Nat.zero_le _) ?_ ?_ ?_
    ·simp only[go_sem,Int.natCast_add,Int.cast_ofNat_Int]
    ·simp only[go_sem,stepU_len,stepL_len]
    ·simp only[go_sem,Obj.under,AV.unders,AV.under]
     decide
  ·obtain rfl:m=j:=by omega
   have hk2:¬(m:Int)<m:=by omega
   obtain⟨e1,e2⟩:=tr_hold hT
   rw[← e1,← e2]
   simp only[go_sem,hk2]
   refine sem_draw (pf:=[]) mixed tabPH_ok pureNo [0,1,2,3,4,5,6] (by kernel_rfl) ?_
   simp only[go_sem,chainI]
   refine post_res (.inl rfl) [.tmp 6,.tmp 7,.tmp 8] rfl ?_
   simp only[go_sem]
   refine Le.trans (le_freeze 1 (ag:=none) rfl (Nat.zero_le _)) ?_
   refine Le.trans (le_freeze 2 (ag:=none) rfl (Nat.zero_le _)) ?_
   have t1:List.take h.units.length (intsD h.units)=intsD h.units:=List.take_of_length_le (by simp)
   have t2:List.take h.locks.length (boolsD h.locks)=boolsD h.locks:=List.take_of_length_le (by simp)
   simp only[go_sem,t1,t2]
   exact le_fin (by simp only[go_sem]) (by simp only[go_sem])
end Go.AM
namespace Go.AM
open Go Go.Proofs
abbrev tabAw:List (Nat×Contract):=[(17,dataC (parR41 (splitC 10))),(20,dataC fmtR41),(22,dataC heldR),(24,dataC callsR41),(26,dataC eqIR),(27,dataC eqBR),(15,dataC chkAR),(28,peekC sameR41)]
theorem tabAw_ok:OkG Tryz.prog (tbl tabAw):=okG_cons parse41_ok (okG_cons format41_ok (okG_cons held_ok (okG_cons calls41_ok (okG_cons equal41_ok (okG_cons flags41_ok (okG_cons checkA_ok (okG_cons (okF_peek same41_ok) okG_nil)))))))
theorem aw_held:heldV exS 0 2=.tup [.dat (.sl none (intsD [1])),.dat (.sl none (boolsD [true])),.dat (.int .i64 0)]:=by
 have h:=heldV_3 (s:=exS) (c:=0) (k:=2) ex_check (by decide) (by decide)
 have e1:balU exS ((exS.classes.getD 0 default).steps.take 2)=[1]:=by decide +kernel
 have e2:balB exS ((exS.classes.getD 0 default).steps.take 2)=[true]:=by decide +kernel
 rw[e1,e2]at h
 exact h
theorem aw_calls:callsV exS 0=([1],0):=by decide +kernel
theorem exS_fk:exS.fk:=by
 refine⟨by decide,by decide,by decide,?_,?_⟩
 ·intro p hp
  simp only[exS,List.mem_singleton]at hp
  subst hp
  exact⟨by decide,inR_i64.2 (by decide),inR_i64.2 (by decide)⟩
 ·intro c hc
  simp only[exS,List.mem_cons,List.not_mem_nil,or_false]at hc
  rcases hc with rfl|rfl
  ·refine⟨by decide,fun x hx=>?_⟩
   simp only[List.mem_cons,List.not_mem_nil,or_false]at hx
   rcases hx with rfl|rfl|rfl|rfl|rfl <;> (refine⟨?_,?_,?_⟩ <;> exact inR_i64.2 (by decide))
  ·refine⟨by decide,fun x hx=>?_⟩
   simp only[List.mem_cons,List.not_mem_nil,or_false]at hx
   rcases hx with rfl|rfl <;> (refine⟨?_,?_,?_⟩ <;> exact inR_i64.2 (by decide))
theorem sys0_fk:sys0.fk:=⟨by decide,by decide,by decide,(fun p hp=>by cases hp),(fun c hc=>by cases hc)⟩
theorem exS_ne:decide (exS=sys0)=false:=by decide
theorem awake41_ok:OkF Tryz.prog 14 (dataC fun ds v=>ds=[]/\v=.dat (.bool true)):=by
 refine okF_data Tryz.func14 rfl (by decide) ?_
 rintro ds v ⟨rfl,rfl⟩
 refine sem_of_awpK [2,3,4,5,6,7] (Γ:=tbl tabAw) tabAw_ok _ _ _ ?_
 simp only[go_sem,Tryz.ntmps14,List.append_eq,List.cons_append,List.nil_append,List.length_cons,List.length_nil]
 refine call_data (parR41 (splitC 10)) (mem_ix 0 rfl) [.str exT] _ rfl ⟨exT,rfl,by decide,rfl⟩ (.inl rfl) ?_
 rw[ex_parse]
 simp only[go_sem,sysD]
 refine sem_of_awpK [3,4,5,6,7] (Γ:=tbl tabAw) tabAw_ok _ _ _ ?_
 simp only[go_sem]
 refine call_data fmtR41 (mem_ix 1 rfl) [sysD exS] _ rfl ⟨exS,rfl,rfl⟩ (.inl rfl) ?_
 have hfm:fmtS exS=(exT,0):=by unfold fmtS;rw[if_pos ex_check,ex_text]
 rw[hfm]
 simp only[go_sem]
 refine sem_of_awpK [4,5,6,7] (Γ:=tbl tabAw) tabAw_ok _ _ _ ?_
 simp only[go_sem]
 refine call_data heldR (mem_ix 2 rfl) [sysD exS,.int .i64 0,.int .i64 2] _ rfl ⟨exS,0,2,rfl,⟨⟨by decide,by decide,by decide⟩⟩,rfl⟩ (.inl rfl) ?_
 rw[aw_held]
 simp only[go_sem]
 refine sem_of_awpK [5,6,7] (Γ:=tbl tabAw) tabAw_ok _ _ _ ?_
 simp only[go_sem]
 refine call_data callsR41 (mem_ix 3 rfl) [sysD exS,.int .i64 0] _ rfl ⟨exS,0,rfl,rfl⟩ (.inl rfl) ?_
 rw[aw_calls]
 simp only[go_sem]
 refine sem_of_awpK [6,7] (Γ:=tbl tabAw) tabAw_ok _ _ _ ?_
 simp only[go_sem,List.length_cons,List.length_nil]
 refine call_data (parR41 (splitC 10)) (mem_ix 0 rfl) [.str exA] _ rfl ⟨exA,rfl,by decide,rfl⟩ (.inl rfl) ?_
 rw[ex_a]
 simp only[go_sem,sysD]
 refine sem_of_awpK [7] (Γ:=tbl tabAw) tabAw_ok _ _ _ ?_
 simp only[go_sem,List.length_cons,List.length_nil]
 refine call_data (parR41 (splitC 10)) (mem_ix 0 rfl) [.str exB] _ rfl ⟨exB,rfl,by decide,rfl⟩ (.inl rfl) ?_
 rw[ex_b]
 simp only[go_sem,sysD]
 refine sem_of_awp (Γ:=tbl tabAw) tabAw_ok _ _ _ ?_
 simp only[go_sem,List.length_cons,List.length_nil]
 refine call_data (parR41 (splitC 10)) (mem_ix 0 rfl) [.str exC] _ rfl ⟨exC,rfl,by decide,rfl⟩ (.inl rfl) ?_
 rw[ex_c]
 have hS2:exS.classes.length=2:=rfl
 have hT2:(2:Int)=((2:Nat):Int):=rfl
 have n1:D.nth (exS.classes.map clsD) 1=clsD ⟨[101,118,105,99,116],1,true,[⟨1,0,1,true⟩,⟨2,0,1,false⟩]⟩:=rfl
 simp only[go_sem,sysD,exT,List.append_eq,List.cons_append,List.nil_append,eq_self,decide_true,List.map_cons,List.map_nil,List.length_cons,List.length_nil]
 refine call_data eqIR (mem_ix 4 rfl) [.sl none (intsD [1]),.sl none (intsD [1])] (.dat (.bool true)) rfl ⟨[1],[1],rfl,by decide,rfl⟩ (.inr rfl) ?_
 simp only[go_sem,List.length_cons,List.length_nil]
 refine call_data eqBR (mem_ix 5 rfl) [.sl none (boolsD [true]),.sl none (boolsD [true])] (.dat (.bool true)) rfl ⟨[true],[true],rfl,by decide,rfl⟩ (.inr rfl) ?_
 simp only[go_sem,List.length_cons,List.length_nil,eq_self,decide_true]
 refine call_data eqIR (mem_ix 4 rfl) [.sl none (intsD [1]),.sl none (intsD [1])] (.dat (.bool true)) rfl ⟨[1],[1],rfl,by decide,rfl⟩ (.inr rfl) ?_
 simp only[go_sem,List.length_cons,List.length_nil,List.length_map,hS2,n1,clsD,eq_self,decide_true]
 refine call_data chkAR (mem_ix 6 rfl) [sysD exS] _ rfl ⟨exS,rfl,rfl⟩ (.inr rfl) ?_
 rw[ex_check]
 simp only[go_sem,eq_self,decide_true]
 refine call_peek sameR41 (mem_ix 7 rfl) [sysD exS,sysD sys0] (.dat (.bool false)) ⟨peek_agg ⟨peek_dat,peek_dat,peek_dat,trivial⟩,peek_agg ⟨peek_nils,peek_nils,peek_nils,trivial⟩,trivial⟩ ⟨exS,sys0,rfl,exS_fk,sys0_fk,by rw[exS_ne]⟩ rfl ?_
 simp only[go_sem,Bool.not_false]
 refine post_resO (mv':=[]) (.inl rfl) [.tmp 0] rfl (fun _ h=>h) ?_
 simp only[go_sem]
 exact le_fin (by rfl) (by simp only[AV.under])
end Go.AM
namespace Go.AM
open Go Go.Proofs
theorem want87:wantT Tryz.prog 50=some 3:=by kernel_rfl
theorem want9:wantT Tryz.prog 9=none:=by kernel_rfl
theorem want54:wantT Tryz.prog 48=some 4:=by kernel_rfl
theorem want56:wantT Tryz.prog 65=some 4:=by kernel_rfl
theorem int_arg{m:Nat}{d:D}(h:argT Tryz.prog (m+1) 3 d):∃n:Int,d=.int .i64 n/\inR .i64 n:=arg_int (by kernel_rfl) h
end Go.AM
namespace Go.AM
open Go Go.Proofs
structure PSys.okA (s:PSys):Prop where
 p:∀p∈s.pools,p.fk
 c:∀c∈s.classes,∀x∈c.steps,x.ok
theorem str_arg41{m:Nat}{d:D}(h:argT Tryz.prog (m+1) 9 d):∃s:Str,d=.str s:=by
 obtain⟨s,h,_⟩:=arg_str (by kernel_rfl) h
 exact⟨s,h⟩
theorem poolA_arg{m:Nat}{d:D}(h:argT Tryz.prog (m+3) 50 d):∃p:PPool,d=poolD p/\p.fk:=by
 obtain⟨ds,rfl,hf⟩:=arg_fields (ts:=[9,3,3]) (by kernel_rfl) h
 obtain⟨a,r,rfl,ha,hf⟩:=hf
 obtain⟨b,r,rfl,hb,hf⟩:=hf
 obtain⟨c,r,rfl,hc,rfl⟩:=hf
 rw[dataT_str (by kernel_rfl)]at ha
 rw[dataT_int (k:=.i64) (by kernel_rfl)]at hb hc
 obtain⟨a,rfl,a1⟩:=ha
 obtain⟨b,rfl,b1⟩:=hb
 obtain⟨c,rfl,c1⟩:=hc
 exact⟨⟨a,b,c⟩,rfl,a1,b1,c1⟩
theorem stepA_arg{m:Nat}{d:D}(h:argT Tryz.prog (m+3) 65 d):∃p:PStep,d=stepD p/\p.ok:=by
 obtain⟨ds,rfl,hf⟩:=arg_fields (ts:=[3,3,3,4]) (by kernel_rfl) h
 obtain⟨a,r,rfl,ha,hf⟩:=hf
 obtain⟨b,r,rfl,hb,hf⟩:=hf
 obtain⟨c,r,rfl,hc,hf⟩:=hf
 obtain⟨e,r,rfl,he,rfl⟩:=hf
 rw[dataT_int (k:=.i64) (by kernel_rfl)]at ha hb hc
 rw[dataT_bool (by kernel_rfl)]at he
 obtain⟨a,rfl,a1⟩:=ha
 obtain⟨b,rfl,b1⟩:=hb
 obtain⟨c,rfl,c1⟩:=hc
 obtain⟨e,rfl⟩:=he
 exact⟨⟨a,b,c,e⟩,rfl,a1,b1,c1⟩
theorem clsA_arg{m:Nat}{d:D}(h:argT Tryz.prog (m+6) 48 d):∃p:PCls,d=clsD p/\∀x∈p.steps,x.ok:=by
 obtain⟨ds,rfl,hf⟩:=arg_fields (ts:=[9,3,4,46]) (by kernel_rfl) h
 obtain⟨a,r,rfl,ha,hf⟩:=hf
 obtain⟨b,r,rfl,hb,hf⟩:=hf
 obtain⟨c,r,rfl,hc,hf⟩:=hf
 obtain⟨e,r,rfl,he,rfl⟩:=hf
 rw[dataT_str (by kernel_rfl)]at ha
 rw[dataT_int (k:=.i64) (by kernel_rfl)]at hb
 rw[dataT_bool (by kernel_rfl)]at hc
 rw[dataT_slice (e:=65) (by kernel_rfl),want56]at he
 obtain⟨a,rfl,_⟩:=ha
 obtain⟨b,rfl,_⟩:=hb
 obtain⟨c,rfl⟩:=hc
 obtain⟨e,rfl,_,hx⟩:=he
 obtain⟨l,rfl,hl⟩:=list_of stepD (Q:=PStep.ok) (fun x hx'=>stepA_arg (hx x hx'))
 exact⟨⟨a,b,c,l⟩,rfl,hl⟩
theorem sysA_arg{m:Nat}{d:D}(h:argT Tryz.prog (m+9) 26 d):∃s:PSys,d=sysD s/\s.okA:=by
 obtain⟨ds,rfl,hf⟩:=arg_fields (ts:=[22,23,24]) (by kernel_rfl) h
 obtain⟨a,r,rfl,ha,hf⟩:=hf
 obtain⟨b,r,rfl,hb,hf⟩:=hf
 obtain⟨c,r,rfl,hc,rfl⟩:=hf
 rw[dataT_slice (e:=50) (by kernel_rfl),want87]at ha
 rw[dataT_slice (e:=9) (by kernel_rfl),want9]at hb
 rw[dataT_slice (e:=48) (by kernel_rfl),want54]at hc
 obtain⟨a,rfl,_,ha⟩:=ha
 obtain⟨b,rfl,_,hb⟩:=hb
 obtain⟨c,rfl,_,hc⟩:=hc
 obtain⟨a,rfl,a1⟩:=list_of poolD (Q:=PPool.fk) (fun x hx'=>poolA_arg (ha x hx'))
 obtain⟨b,rfl,_⟩:=list_of D.str (Q:=fun _=>True) (fun x hx'=>by
  obtain⟨s,h,_⟩:=arg_str (by kernel_rfl) (hb x hx')
  exact⟨s,h,trivial⟩)
 obtain⟨c,rfl,c1⟩:=list_of clsD (Q:=fun c:PCls=>∀x∈c.steps,x.ok) (fun x hx'=>clsA_arg (hc x hx'))
 exact⟨⟨a,b,c⟩,rfl,a1,c1⟩
theorem laid_skip{P:Program}{w:World}{n:String}{d:DataW Unit}{laid:List (String×DataW Unit)}{ps:List MemPlace}(h:DataW.LaidVars P w ((n,d) :: laid) ps):∃ps',DataW.LaidVars P w laid ps':=by
 obtain⟨g0,t0,cs0,f0,p0,q0,_,_,_,_,hrest,_⟩:=h
 exact⟨_,hrest⟩
theorem few_small{s:PSys}(h:fewB s=true):s.small/\∀c∈s.classes,c.steps.length<=20:=by
 unfold fewB at h
 simp only[Bool.and_eq_true,Bool.not_eq_true',decide_eq_false_iff_not,List.all_eq_true]at h
 exact⟨⟨by omega,by omega,by omega⟩,fun c hc=>by have:=h.2 c hc;omega⟩
theorem few_fk{s:PSys}(h:fewB s=true)(ha:s.okA):s.fk:=by
 obtain⟨⟨h1,h2,h3⟩,h4⟩:=few_small h
 exact⟨by omega,by omega,by omega,ha.p,fun c hc=>⟨by have:=h4 c hc;omega,ha.c c hc⟩⟩
theorem good_fk{s:PSys}(h:checkE s=0):s.fk:=by
 have g:=goodS_of h
 have h1:=g.np;have h2:=g.nl;have h3:=g.nc
 refine⟨by omega,by omega,by omega,fun p hp=>?_,fun c hc=>⟨by have:=g.ns c hc;omega,fun x hx=>?_⟩⟩
 ·have hn:=(isNm_len (g.nms p.name (by unfold namesL;exact List.mem_append.2 (.inl (List.mem_append.2 (.inl (List.mem_map.2 ⟨p,hp,rfl⟩))))))).2
  obtain⟨a1,a2,a3,a4⟩:=pool_fit (g.pl p hp)
  exact⟨by simp only[maxLen];omega,inR_i64.2 (by omega),inR_i64.2 (by omega)⟩
 ·have hp:=g.st c hc x hx
  have f:=st_fit g hp
  obtain⟨⟨k1,k5⟩,⟨on0,on1⟩,_⟩:=preE_0 hp
  have f0:=f.c0;have f1:=f.c1
  have:mostE s x.kind<=100:=by
   unfold mostE
   (repeat' split) <;> omega
  exact⟨inR_i64.2 (by omega),inR_i64.2 (by omega),inR_i64.2 (by omega)⟩
theorem parse_fk(lines:Str->List Str)(t:Str):(parse41 lines t).1.fk:=by
 by_cases h:(parse41 lines t).2.2=0
 ·exact good_fk (parse_good h)
 ·rw[parse_bad h];exact sys0_fk
end Go.AM
namespace Go.AM
open Go Go.Proofs
theorem balU_len(s:PSys)(l:List PStep):(balU s l).length=s.pools.length:=by simp[balU]
theorem balB_len(s:PSys)(l:List PStep):(balB s l).length=s.locks.length:=by simp[balB]
theorem balU_drop{s:PSys}{l:List PStep}{k:Nat}(h:k<s.pools.length):(balU s l).drop k=bal l k 0 :: (balU s l).drop (k+1):=by
 rw[List.drop_eq_getElem_cons (by rw[balU_len];exact h)];simp[balU]
theorem balB_drop{s:PSys}{l:List PStep}{k:Nat}(h:k<s.locks.length):(balB s l).drop k=decide (0<bal l k 1) :: (balB s l).drop (k+1):=by
 rw[List.drop_eq_getElem_cons (by rw[balB_len];exact h)];simp[balB]
abbrev tabRH:List (Nat×Contract):=[(16,dataC checkR),(59,dataC balR)]
theorem tabRH_ok:OkG Tryz.prog (tbl tabRH):=okG_cons rcheck_ok (okG_cons balance_ok okG_nil)
theorem rheld_ok:OkF Tryz.prog 23 (dataC heldR):=by
 refine okF_data Tryz.func23 rfl (by decide) ?_
 rintro ds v ⟨s,c,k,rfl,hf,rfl⟩
 refine sem_of_awp (Γ:=tbl tabRH) tabRH_ok _ _ _ ?_
 generalize hv:heldV s c k=V
 have nilE:∀s own e,s.getD 6 .top=.nils->s.getD 7 .top=.nils->s.getD 8 .top=.dat (.int .i64 e)->post Tryz.prog Tryz.f23 (.tup [.dat (.sl none []),.dat (.sl none []),.dat (.int .i64 e)]) [] [] .ret ⟨s,own,0,[]⟩:=fun s own e h6 h7 h8=>by
  refine post_res (.inl rfl) [.tmp 6,.tmp 7,.tmp 8] rfl ?_
  simp only[go_sem,h6,h7,h8]
  exact le_fin (by simp only[go_sem]) (by simp only[go_sem])
 simp only[go_sem,Tryz.ntmps23,sysD]
 refine call_data checkR (by simp) [sysD s] _ rfl ⟨s,rfl,hf,rfl⟩ (.inl rfl) ?_
 by_cases h:checkE s=0
 case neg =>
  simp only[go_sem,h]
  rw[← hv,heldV_1 h]
  exact nilE _ _ _ (by rfl) (by rfl) (by rfl)
 simp only[go_sem,h]
 by_cases h1:c<0
 ·rw[← hv,heldV_2 h (.inl h1)]
  simp only[go_sem,h1]
  exact nilE _ _ _ (by rfl) (by rfl) (by rfl)
 by_cases h2:(s.classes.length:Int)<=c
 ·rw[← hv,heldV_2 h (.inr (.inl h2))]
  simp only[go_sem,h1,h2]
  exact nilE _ _ _ (by rfl) (by rfl) (by rfl)
 by_cases h3:k<0
 ·rw[← hv,heldV_2 h (.inr (.inr (.inl h3)))]
  simp only[go_sem,h1,h2,h3]
  exact nilE _ _ _ (by rfl) (by rfl) (by rfl)
 obtain⟨i,rfl⟩:∃i:Nat,c=i:=⟨c.toNat,by omega⟩
 obtain⟨j,rfl⟩:∃j:Nat,k=j:=⟨k.toNat,by omega⟩
 have hi:i<s.classes.length:=by omega
 have hi2:(i:Int)<s.classes.length:=by omega
 have hnc:D.nth (s.classes.map clsD) i=clsD (s.classes.getD i default):=D.nth_map hi
 have hcm:s.classes.getD i default∈s.classes:=by rw[List.getD_eq_getElem?_getD,List.getElem?_eq_getElem hi];exact List.getElem_mem hi
 have hg:=good_of h
 have hcg:=hg.cls _ hcm
 have hv2:=fun h4=>heldV_2 (s:=s) (c:=i) (k:=j) h (.inr (.inr (.inr h4)))
 have hv3:=heldV_3 (k:=j) h hi
 rw[Int.toNat_natCast]at hv2
 generalize s.classes.getD i default=c at *
 simp only[go_sem,h1,h2,h3,hi2,hi,hnc,clsD,stepsD]
 by_cases h4:(c.steps.length:Int)<j
 ·rw[← hv,hv2 h4]
  simp only[go_sem,h4]
  exact nilE _ _ _ (by rfl) (by rfl) (by rfl)
 have hj:j<=c.steps.length:=by omega
 have hV:=hv3 hj
 rw[hV]at hv
 subst hv
 simp only[go_sem,h4,hi2,hi,hnc,clsD,stepsD]
 have hT:Tame (c.steps.take j):=fun x hx=>hcg.steps hg x (List.mem_of_mem_take hx)
 have hl12:=hcg.l12
 have hnp:=hg.np
 have hnl:=hg.nl
 generalize hL:c.steps.take j=L at *
 refine sem_le (le_addnil 11 none rfl (Nat.zero_le _)) ?_
 simp only[go_sem]
 refine sem_le (le_addnil 12 none rfl (Nat.zero_le _)) ?_
 simp only[go_sem]
 refine sem_loop (fun k:Nat=>⟨slotsOf 81 [(1,.dat (.int .i64 i)),(2,.dat (.int .i64 j)),(3,.ptr 0 0 0),(6,.nils),(7,.nils),(8,.dat (.int .i64 0)),(10,.dat (.sl (some 4) (c.steps.map stepD))),(11,.sl 1 0 k),(12,.sl 2 0 0),(13,.dat (.int .i64 k))],
   [sysO s,.row none (intsD ((balU s L).take k)),.row none []],0,[]⟩)
  (fun k=>k<=s.pools.length) (fun k=>s.pools.length - k) 0 (Nat.zero_le _) ?_ ?_
 ·exact le_slots' (by simp only[go_sem,Int.natCast_zero])
 ·rintro k hk
  refine sem_of_awp (Γ:=tbl tabRH) tabRH_ok _ _ _ ?_
  by_cases hkp:k<s.pools.length
  ·have hk2:(k:Int)<s.pools.length:=by omega
   have hrl:(intsD ((balU s L).take k)).length=k:=by simp[balU_len];omega
   have htk:(intsD ((balU s L).take k)).take k=intsD ((balU s L).take k):=List.take_of_length_le (by omega)
   have hsn:intsD ((balU s L).take (k+1))=intsD ((balU s L).take k)++[.int .i64 (bal L k 0)]:=by rw[take_of_drop (balU_drop hkp)];simp
   generalize intsD ((balU s L).take k)=row at *
   simp only[go_sem,hk2]
   refine call_data balR (by simp) [stepsD c.steps,.int .i64 j,.int .i64 k,.int .i64 0] _ rfl ⟨c.steps,j,k,0,rfl,.inl rfl,hj,by omega,by rw[hL];exact hT,rfl⟩ (.inl rfl) ?_
   simp only[go_sem,hL,hrl,htk]
   refine⟨by omega,by omega,inR_i64.2 (by omega),k+1,by omega,by omega,?_⟩
   rw[hsn]
   refine le_end (own:=[_,_,_]) (ex:=[_]) (Nat.zero_le _) ?_ ?_ ?_
   ·simp only[go_sem,Int.natCast_add,Int.cast_ofNat_Int]
   ·simp only[go_sem]
   ·simp only[go_sem,Obj.under,AV.unders,AV.under]
  ·obtain rfl:k=s.pools.length:=by omega
   have hk2:¬(s.pools.length:Int)<s.pools.length:=by omega
   have hfull:(balU s L).take s.pools.length=balU s L:=List.take_of_length_le (by rw[balU_len];exact Nat.le_refl _)
   rw[hfull]
   simp only[go_sem,hk2]
   refine sem_loop (fun k:Nat=>⟨slotsOf 81 [(1,.dat (.int .i64 i)),(2,.dat (.int .i64 j)),(3,.ptr 0 0 0),(6,.nils),(7,.nils),(8,.dat (.int .i64 0)),(10,.dat (.sl (some 4) (c.steps.map stepD))),(11,.sl 1 0 s.pools.length),(12,.sl 2 0 k),(14,.dat (.int .i64 k))],
     [sysO s,.row none (intsD (balU s L)),.row none (boolsD ((balB s L).take k))],0,[]⟩)
    (fun k=>k<=s.locks.length) (fun k=>s.locks.length - k) 0 (Nat.zero_le _) ?_ ?_
   ·exact le_slots' (by simp only[go_sem,Int.natCast_zero])
   ·rintro k hk
    refine sem_of_awp (Γ:=tbl tabRH) tabRH_ok _ _ _ ?_
    by_cases hkp:k<s.locks.length
    ·have hk2:(k:Int)<s.locks.length:=by omega
     have hrl:(boolsD ((balB s L).take k)).length=k:=by simp[balB_len];omega
     have htk:(boolsD ((balB s L).take k)).take k=boolsD ((balB s L).take k):=List.take_of_length_le (by omega)
     have hsn:boolsD ((balB s L).take (k+1))=boolsD ((balB s L).take k)++[.bool (decide (0<bal L k 1))]:=by rw[take_of_drop (balB_drop hkp)];simp
     generalize boolsD ((balB s L).take k)=row at *
     simp only[go_sem,hk2]
     refine call_data balR (by simp) [stepsD c.steps,.int .i64 j,.int .i64 k,.int .i64 1] _ rfl ⟨c.steps,j,k,1,rfl,.inr rfl,hj,by omega,by rw[hL];exact hT,rfl⟩ (.inl rfl) ?_
     simp only[go_sem,hL,hrl,htk]
     refine⟨by omega,by omega,inR_i64.2 (by omega),k+1,by omega,by omega,?_⟩
     rw[hsn]
     refine le_end (own:=[_,_,_]) (ex:=[_]) (Nat.zero_le _) ?_ ?_ ?_
     ·simp only[go_sem,Int.natCast_add,Int.cast_ofNat_Int]
     ·simp only[go_sem]
     ·simp only[go_sem,Obj.under,AV.unders,AV.under]
    ·obtain rfl:k=s.locks.length:=by omega
     have hk2:¬(s.locks.length:Int)<s.locks.length:=by omega
     have hfull:(balB s L).take s.locks.length=balB s L:=List.take_of_length_le (by rw[balB_len];exact Nat.le_refl _)
     rw[hfull]
     simp only[go_sem,hk2]
     refine post_res (.inl rfl) [.tmp 6,.tmp 7,.tmp 8] rfl ?_
     simp only[go_sem]
     refine Le.trans (le_freeze 1 (ag:=none) rfl (Nat.zero_le _)) ?_
     refine Le.trans (le_freeze 2 (ag:=none) rfl (Nat.zero_le _)) ?_
     have t1:List.take s.pools.length (intsD (balU s L))=intsD (balU s L):=List.take_of_length_le (by simp[balU_len])
     have t2:List.take s.locks.length (boolsD (balB s L))=boolsD (balB s L):=List.take_of_length_le (by simp[balB_len])
     simp only[go_sem,t1,t2,balU_len,balB_len,Nat.le_refl]
     exact le_fin (by simp only[go_sem]) (by simp only[go_sem])
def targetN(s:PSys)(x:PStep):Int:=if x.kind=3 then s.pools.length+x.on else if x.kind=5 then (s.pools.length:Int)+s.locks.length+x.on else x.on
def targetR(ds:List D)(v:AV):Prop:=∃(s:PSys) (x:PStep),ds=[sysD s,stepD x]/\s.good/\preE s x=0/\v=.dat (.int .i64 (targetN s x))
end Go.AM
namespace Go.AM
open Go Go.Proofs
def awR41(ds:List D)(v:AV):Prop:=ds=[]/\v=.dat (.bool true)
theorem call_aw41{l:List (Nat×Contract)}(hm:(14,dataC awR41)∈l){own:List Obj}{K:AV->List Obj->List Nat->Prop}(h:K (.dat (.bool true)) own []):callw (tbl l) (.fn 14 []) [] own K :=
 call_data awR41 hm [] _ rfl ⟨rfl,rfl⟩ (.inl rfl) h
def lawSR(ds:List D)(v:AV):Prop:=∃s:PSys,ds=[sysD s]/\s.okA/\v=.dat (.bool true)
def lawTR41(ds:List D)(v:AV):Prop:=∃s:Str,ds=[.str s]/\v=.dat (.bool true)
def lawSSR(ds:List D)(v:AV):Prop:=∃a b:PSys,ds=[sysD a,sysD b]/\a.okA/\b.okA/\v=.dat (.bool true)
def lawSIR(ds:List D)(v:AV):Prop:=∃(s:PSys) (c k:Int),ds=[sysD s,.int .i64 c,.int .i64 k]/\s.okA/\v=.dat (.bool true)
abbrev tabN1:List (Nat×Contract):=[(14,dataC awR41),(13,dataC fewR),(15,dataC chkAR),(16,dataC chkAR)]
theorem tabN1_ok:OkG Tryz.prog (tbl tabN1):=okG_cons awake41_ok (okG_cons few_ok (okG_cons checkA_ok (okG_cons rcheckA_ok okG_nil)))
theorem tabN1_dat(g:Nat)(C:Contract)(h:(g,C)∈tabN1):∃R,C=dataC R:=by
 simp only[tabN1,List.mem_cons,Prod.mk.injEq,List.not_mem_nil,or_false]at h
 rcases h with⟨_,h⟩|⟨_,h⟩|⟨_,h⟩|⟨_,h⟩ <;> exact⟨_,h⟩
theorem lawChecks41_ok:OkF Tryz.prog 3 (dataC lawSR):=by
 refine okF_data Tryz.func3 rfl (by decide) ?_
 rintro ds v ⟨s,rfl,hok,rfl⟩
 refine sem_of_awp (Γ:=tbl tabN1) tabN1_ok _ _ _ ?_
 simp only[go_sem,Tryz.ntmps3,sysD]
 refine call_data fewR (mem_ix 1 rfl) [sysD s] _ rfl ⟨s,rfl,rfl⟩ (.inl rfl) ?_
 cases hf:fewB s with
 | false =>
  simp only[go_sem,Bool.not_false]
  refine call_aw41 (mem_ix 0 rfl) ?_
  simp only[go_sem]
  exact post_data (.inl rfl) [2] rfl trivial rfl
 | true =>
  simp only[go_sem,Bool.not_true]
  refine sem_drawU [] [] (pf:=[15,16,14]) (mf:=[]) mixed tabN1_ok (pure_of fun g C h _=>tabN1_dat g C h) (grow_of fun g C h _=>tabN1_dat g C h) noMk (ones [0,1,2,3,4,5,6,7,8]) (by kernel_rfl) ?_
  simp only[go_sem]
  refine call_data chkAR (mem_ix 2 rfl) [sysD s] _ rfl ⟨s,rfl,rfl⟩ (.inl rfl) ?_
  simp only[go_sem]
  refine call_data chkAR (mem_ix 3 rfl) [sysD s] _ rfl ⟨s,rfl,rfl⟩ (.inl rfl) ?_
  simp only[go_sem,eq_self,decide_true]
  refine call_aw41 (mem_ix 0 rfl) ?_
  simp only[go_sem]
  exact post_data (.inl rfl) [2] rfl trivial rfl
abbrev tabN2:List (Nat×Contract):=[(14,dataC awR41),(17,dataC (parR41 (splitC 10))),(18,dataC (parR41 linesW)),(19,dataC sameR41)]
abbrev tabN3:List (Nat×Contract):=[(14,dataC awR41),(13,dataC fewR),(20,dataC fmtR41),(21,dataC fmtR41)]
theorem tabN3_ok:OkG Tryz.prog (tbl tabN3):=okG_cons awake41_ok (okG_cons few_ok (okG_cons format41_ok (okG_cons rformat41_ok okG_nil)))
theorem lawFormats41_ok:OkF Tryz.prog 5 (dataC lawSR):=by
 refine okF_data Tryz.func5 rfl (by decide) ?_
 rintro ds v ⟨s,rfl,hok,rfl⟩
 refine sem_of_awp (Γ:=tbl tabN3) tabN3_ok _ _ _ ?_
 simp only[go_sem,Tryz.ntmps5,sysD]
 refine call_data fewR (mem_ix 1 rfl) [sysD s] _ rfl ⟨s,rfl,rfl⟩ (.inl rfl) ?_
 cases hf:fewB s with
 | false =>
  simp only[go_sem,Bool.not_false]
  refine call_aw41 (mem_ix 0 rfl) ?_
  simp only[go_sem]
  exact post_data (.inl rfl) [2] rfl trivial rfl
 | true =>
  simp only[go_sem,Bool.not_true]
  refine call_data fmtR41 (mem_ix 2 rfl) [sysD s] _ rfl ⟨s,rfl,rfl⟩ (.inl rfl) ?_
  simp only[go_sem]
  refine call_data fmtR41 (mem_ix 3 rfl) [sysD s] _ rfl ⟨s,rfl,rfl⟩ (.inl rfl) ?_
  simp only[go_sem,eq_self,decide_true]
  refine call_aw41 (mem_ix 0 rfl) ?_
  simp only[go_sem]
  exact post_data (.inl rfl) [2] rfl trivial rfl
abbrev tabN4:List (Nat×Contract):=[(14,dataC awR41),(13,dataC fewR),(22,dataC heldR),(23,dataC heldR),(24,dataC callsR41),(25,dataC callsR41),(26,dataC eqIR),(27,dataC eqBR)]
theorem tabN4_ok:OkG Tryz.prog (tbl tabN4):=okG_cons awake41_ok (okG_cons few_ok (okG_cons held_ok (okG_cons rheld_ok (okG_cons calls41_ok (okG_cons rcalls41_ok (okG_cons equal41_ok (okG_cons flags41_ok okG_nil)))))))
theorem heldV_parts(s:PSys)(c k:Int)(hs:s.small):∃(u:List Int) (b:List Bool) (e:Int),heldV s c k=.tup [.dat (.sl none (intsD u)),.dat (.sl none (boolsD b)),.dat (.int .i64 e)]/\u.length<=10/\b.length<=10:=by
 by_cases h:checkE s=0
 ·by_cases h2:c<0∨(s.classes.length:Int)<=c∨k<0∨((s.classes.getD c.toNat default).steps.length:Int)<k
  ·exact⟨[],[],2,heldV_2 h h2,by simp,by simp⟩
  ·refine⟨balU s ((s.classes.getD c.toNat default).steps.take k.toNat),balB s ((s.classes.getD c.toNat default).steps.take k.toNat),0,?_,?_,?_⟩
   ·unfold heldV;rw[if_neg (by rw[h];decide),if_neg h2]
   ·have:=hs.np;simp[balU];omega
   ·have:=hs.nl;simp[balB];omega
 ·exact⟨[],[],checkE s,heldV_1 h,by simp,by simp⟩
theorem callsV_len(s:PSys)(c:Int)(hs:s.small):(callsV s c).1.length<=10:=by
 unfold callsV
 have:=hs.nc
 split
 ·simp
 split
 ·simp
 ·exact Nat.le_trans (callsL_le _ _) this
theorem lawHolds41_ok:OkF Tryz.prog 6 (dataC lawSIR):=by
 refine okF_data Tryz.func6 rfl (by decide) ?_
 rintro ds v ⟨s,c,k,rfl,hok,rfl⟩
 refine sem_of_awp (Γ:=tbl tabN4) tabN4_ok _ _ _ ?_
 simp only[go_sem,Tryz.ntmps6,sysD]
 refine call_data fewR (mem_ix 1 rfl) [sysD s] _ rfl ⟨s,rfl,rfl⟩ (.inl rfl) ?_
 cases hf:fewB s with
 | false =>
  simp only[go_sem,Bool.not_false]
  refine call_aw41 (mem_ix 0 rfl) ?_
  simp only[go_sem]
  exact post_data (.inl rfl) [6] rfl trivial rfl
 | true =>
  obtain⟨hs,_⟩:=few_small hf
  obtain⟨u,b,e,hh,hu,hb⟩:=heldV_parts s c k hs
  have hcl:=callsV_len s c hs
  simp only[go_sem,Bool.not_true]
  refine call_data heldR (mem_ix 2 rfl) [sysD s,.int .i64 c,.int .i64 k] _ rfl ⟨s,c,k,rfl,⟨hs⟩,rfl⟩ (.inl rfl) ?_
  rw[hh]
  simp only[go_sem]
  refine call_data heldR (mem_ix 3 rfl) [sysD s,.int .i64 c,.int .i64 k] _ rfl ⟨s,c,k,rfl,⟨hs⟩,rfl⟩ (.inl rfl) ?_
  rw[hh]
  simp only[go_sem]
  refine call_data callsR41 (mem_ix 4 rfl) [sysD s,.int .i64 c] _ rfl ⟨s,c,rfl,rfl⟩ (.inl rfl) ?_
  simp only[go_sem]
  refine call_data callsR41 (mem_ix 5 rfl) [sysD s,.int .i64 c] _ rfl ⟨s,c,rfl,rfl⟩ (.inl rfl) ?_
  generalize callsV s c=q at *
  simp only[go_sem,eq_self,decide_true]
  refine call_data eqIR (mem_ix 6 rfl) [.sl none (intsD u),.sl none (intsD u)] _ rfl ⟨u,u,rfl,by omega,rfl⟩ (.inl rfl) ?_
  simp only[go_sem,eq_self,decide_true]
  refine call_data eqBR (mem_ix 7 rfl) [.sl none (boolsD b),.sl none (boolsD b)] _ rfl ⟨b,b,rfl,by omega,rfl⟩ (.inl rfl) ?_
  simp only[go_sem,eq_self,decide_true]
  refine call_data eqIR (mem_ix 6 rfl) [.sl none (intsD q.1),.sl none (intsD q.1)] _ rfl ⟨q.1,q.1,rfl,by omega,rfl⟩ (.inl rfl) ?_
  simp only[go_sem,eq_self,decide_true]
  refine call_aw41 (mem_ix 0 rfl) ?_
  simp only[go_sem]
  exact post_data (.inl rfl) [6] rfl trivial rfl
abbrev tabN5:List (Nat×Contract):=[(14,dataC awR41),(13,dataC fewR),(28,dataC sameR41),(19,dataC sameR41)]
theorem tabN5_ok:OkG Tryz.prog (tbl tabN5):=okG_cons awake41_ok (okG_cons few_ok (okG_cons same41_ok (okG_cons rsame41_ok okG_nil)))
theorem tabN5_dat(g:Nat)(C:Contract)(h:(g,C)∈tabN5):∃R,C=dataC R:=by
 simp only[tabN5,List.mem_cons,Prod.mk.injEq,List.not_mem_nil,or_false]at h
 rcases h with⟨_,h⟩|⟨_,h⟩|⟨_,h⟩|⟨_,h⟩ <;> exact⟨_,h⟩
theorem lawEquals41_ok:OkF Tryz.prog 7 (dataC lawSSR):=by
 refine okF_data Tryz.func7 rfl (by decide) ?_
 rintro ds v ⟨s,t,rfl,hok,hok2,rfl⟩
 refine sem_of_awp (Γ:=tbl tabN5) tabN5_ok _ _ _ ?_
 simp only[go_sem,Tryz.ntmps7,sysD]
 refine call_data fewR (mem_ix 1 rfl) [sysD s] _ rfl ⟨s,rfl,rfl⟩ (.inl rfl) ?_
 cases hf:fewB s with
 | false =>
  simp only[go_sem,Bool.not_false]
  refine call_aw41 (mem_ix 0 rfl) ?_
  simp only[go_sem]
  exact post_data (.inl rfl) [4] rfl trivial rfl
 | true =>
  simp only[go_sem,Bool.not_true]
  refine call_data fewR (mem_ix 1 rfl) [sysD t] _ rfl ⟨t,rfl,rfl⟩ (.inl rfl) ?_
  cases hf2:fewB t with
  | false =>
   simp only[go_sem,Bool.not_false]
   refine call_aw41 (mem_ix 0 rfl) ?_
   simp only[go_sem]
   exact post_data (.inl rfl) [4] rfl trivial rfl
  | true =>
   have h1:=few_fk hf hok
   have h2:=few_fk hf2 hok2
   simp only[go_sem,Bool.not_true]
   refine sem_drawU [] [] (pf:=[28,19,14]) (mf:=[]) mixed tabN5_ok (pure_of fun g C h _=>tabN5_dat g C h) (grow_of fun g C h _=>tabN5_dat g C h) noMk (ones [0,1,2,3,4,5,6,7,8,9,10,11,12,13,14,15]) (by kernel_rfl) ?_
   simp only[go_sem]
   refine call_data sameR41 (mem_ix 2 rfl) [sysD s,sysD t] _ rfl ⟨s,t,rfl,h1,h2,rfl⟩ (.inl rfl) ?_
   simp only[go_sem]
   refine call_data sameR41 (mem_ix 3 rfl) [sysD s,sysD t] _ rfl ⟨s,t,rfl,h1,h2,rfl⟩ (.inl rfl) ?_
   have hbb:(decide (s=t) == decide (s=t))=true:=by simp
   simp only[go_sem,hbb,eq_self,decide_true]
   refine call_data sameR41 (mem_ix 2 rfl) [sysD s,sysD s] _ rfl ⟨s,s,rfl,h1,h1,rfl⟩ (.inl rfl) ?_
   simp only[go_sem,eq_self,decide_true]
   refine call_aw41 (mem_ix 0 rfl) ?_
   simp only[go_sem]
   exact post_data (.inl rfl) [4] rfl trivial rfl
abbrev tabN6:List (Nat×Contract):=[(14,dataC awR41),(13,dataC fewR),(20,dataC fmtR41),(17,dataC (parR41 (splitC 10))),(19,dataC sameR41),(15,dataC chkAR)]
theorem tabN6_ok:OkG Tryz.prog (tbl tabN6):=okG_cons awake41_ok (okG_cons few_ok (okG_cons format41_ok (okG_cons parse41_ok (okG_cons rsame41_ok (okG_cons checkA_ok okG_nil)))))
theorem lawBack41_ok:OkF Tryz.prog 8 (dataC lawSR):=by
 refine okF_data Tryz.func8 rfl (by decide) ?_
 rintro ds v ⟨s,rfl,hok,rfl⟩
 refine sem_of_awp (Γ:=tbl tabN6) tabN6_ok _ _ _ ?_
 simp only[go_sem,Tryz.ntmps8,sysD]
 refine call_data fewR (mem_ix 1 rfl) [sysD s] _ rfl ⟨s,rfl,rfl⟩ (.inl rfl) ?_
 cases hf:fewB s with
 | false =>
  simp only[go_sem,Bool.not_false]
  refine call_aw41 (mem_ix 0 rfl) ?_
  simp only[go_sem]
  exact post_data (.inl rfl) [2] rfl trivial rfl
 | true =>
  simp only[go_sem,Bool.not_true]
  refine call_data fmtR41 (mem_ix 2 rfl) [sysD s] _ rfl ⟨s,rfl,rfl⟩ (.inl rfl) ?_
  unfold fmtS
  by_cases hc:checkE s=0
  ·have g:=goodS_of hc
   have htl:=textS_len g
   have hfk:=few_fk hf hok
   rw[if_pos hc]
   simp only[go_sem,eq_self,decide_true,Bool.not_true]
   refine call_data (parR41 (splitC 10)) (mem_ix 3 rfl) [.str (textS s)] _ rfl ⟨_,rfl,by omega,rfl⟩ (.inl rfl) ?_
   rw[parse_back hc]
   simp only[go_sem,sysD,eq_self,decide_true,List.length_cons,List.length_nil]
   refine call_data sameR41 (mem_ix 4 rfl) [sysD s,sysD s] _ rfl ⟨s,s,rfl,hfk,hfk,rfl⟩ (.inl rfl) ?_
   simp only[go_sem,eq_self,decide_true]
   refine call_data chkAR (mem_ix 5 rfl) [sysD s] _ rfl ⟨s,rfl,rfl⟩ (.inl rfl) ?_
   simp only[go_sem,hc,eq_self,decide_true]
   refine call_aw41 (mem_ix 0 rfl) ?_
   simp only[go_sem]
   exact post_data (.inl rfl) [2] rfl trivial rfl
  ·rw[if_neg hc]
   simp only[go_sem,hc,decide_false,Bool.not_false,eq_self,decide_true]
   refine call_data chkAR (mem_ix 5 rfl) [sysD s] _ rfl ⟨s,rfl,rfl⟩ (.inl rfl) ?_
   simp only[go_sem,eq_self,decide_true]
   refine call_aw41 (mem_ix 0 rfl) ?_
   simp only[go_sem]
   exact post_data (.inl rfl) [2] rfl trivial rfl
end Go.AM
namespace Go.AM
open Go Go.Proofs
def unitsIn(s:PSys)(l:List PStep):Prop:=∀i:Nat,i<s.pools.length->0<=bal l i 0/\bal l i 0<=(s.pools.getD i default).size
theorem units_step{s:PSys}{l:List PStep}{h:Hold}{x:PStep}(t:Tr s l h)(hu:unitsIn s l)(he:stepE s h.units h.locks x=0):unitsIn s (l++[x]):=by
 have hp:=stepE_0 he
 have hf:stepFine s h.units h.locks x=true:=by
  unfold stepE at he;rw[if_neg (by rw[hp];decide)]at he
  apply Classical.byContradiction;intro hn;rw[if_neg hn]at he;simp at he
 obtain⟨k,o,c,_⟩:=preE_0 hp
 intro i hi
 have h0:=hu i hi
 rw[bal_snoc]
 by_cases hon:x.on=(i:Int)
 ·unfold bstep
  by_cases h1:x.kind=1
  ·have hc:=c (.inl h1)
   unfold stepFine at hf
   rw[if_pos h1,hon,Int.toNat_natCast,t.un i hi]at hf
   have:=of_decide_eq_true hf
   generalize (s.pools.getD i default).size=sz at *
   simp only[hon,h1]
   simp
   omega
  ·by_cases h2:x.kind=2
   ·have hc:=c (.inr h2)
    unfold stepFine at hf
    rw[if_neg h1,if_pos h2,hon,Int.toNat_natCast,t.un i hi]at hf
    have:=of_decide_eq_true hf
    generalize (s.pools.getD i default).size=sz at *
    simp only[hon,h2]
    simp
    omega
   ·generalize (s.pools.getD i default).size=sz at *
    simp[hon,h1,h2,h0]
 ·unfold bstep
  generalize (s.pools.getD i default).size=sz at *
  simp[hon,h0]
theorem pref_in{s:PSys}:∀(l l0:List PStep) (h:Hold),Tr s l0 h->unitsIn s l0->(runE s l h).1=0 ->
  (∀k,k<=l.length->unitsIn s (l0++l.take k))/\Tr s (l0++l) (runE s l h).2
 | [],l0,h,t,hu,_=>⟨fun k hk=>by simpa using hu,by simpa [runE] using t⟩
 | x :: l,l0,h,t,hu,h0=>by
  simp only[runE]at h0 ⊢
  split at h0
  ·rename_i h1;exact absurd h0 h1
  ·rename_i h1
   have he:stepE s h.units h.locks x=0:=Classical.byContradiction h1
   rw[if_neg h1]
   obtain⟨a,b⟩:=pref_in l (l0++[x]) _ (tr_step t he) (units_step t hu he) h0
   refine⟨fun k hk=>?_,by simpa using b⟩
   cases k with
   | zero=>simpa using hu
   | succ k =>
    have:=a k (by simpa using hk)
    simpa using this
theorem ends_in{s:PSys}{c:PCls}(h:checkE s=0)(hc:c∈s.classes)(hs:∀p∈s.pools,0<=p.size) :
  (∀k,k<=c.steps.length->unitsIn s (c.steps.take k))/\(∀i:Nat,i<s.pools.length->bal c.steps i 0=0)/\∀i:Nat,i<s.locks.length->¬0<bal c.steps i 1:=by
 have hcl:classE s c=0:=by
  unfold checkE at h
  split at h
  ·simp at h
  ·exact clssE_0 s s.classes (thenE_eq0 (thenE_eq0 h).2).2 c hc
 unfold classE at hcl
 split at hcl
 ·simp at hcl
 split at hcl
 ·simp at hcl
 have hr:(runE s c.steps (hold0 s)).1=0/\endE (runE s c.steps (hold0 s)).2=0:=by
  unfold verd at hcl
  split at hcl
  ·rename_i w;exact absurd hcl w
  ·rename_i w;exact⟨Classical.byContradiction w,hcl⟩
 have hu0:unitsIn s []:=fun i hi=>by
  have:=hs _ (getD_mem (d:=default) hi)
  have e:bal [] (i:Int) 0=0:=rfl
  rw[e];exact⟨Int.le_refl _,this⟩
 obtain⟨a,b⟩:=pref_in c.steps [] (hold0 s) (tr_nil s) hu0 hr.1
 simp only[List.nil_append]at a b
 have hend:=tr_end b
 rw[hr.2]at hend
 have hno:¬((∃i:Nat,i<s.pools.length/\0<bal c.steps i 0)∨∃i:Nat,i<s.locks.length/\0<bal c.steps i 1):=fun hx=>by
  rw[if_pos hx]at hend;simp at hend
 refine⟨a,fun i hi=>?_,fun i hi h0=>hno (.inr ⟨i,hi,h0⟩)⟩
 have h1:=a c.steps.length (Nat.le_refl _) i hi
 rw[List.take_length]at h1
 have:¬0<bal c.steps i 0:=fun h0=>hno (.inl ⟨i,hi,h0⟩)
 omega
end Go.AM
namespace Go.AM
open Go Go.Proofs
abbrev tabN7:List (Nat×Contract):=[(14,dataC awR41),(17,dataC (parR41 (splitC 10))),(20,dataC fmtR41),(19,peekC sameR41),(29,dataC spcR)]
theorem tabN7_ok:OkG Tryz.prog (tbl tabN7):=okG_cons awake41_ok (okG_cons parse41_ok (okG_cons format41_ok (okG_cons (okF_peek rsame41_ok) (okG_cons spaced41_ok okG_nil))))
theorem lawText41_ok:OkF Tryz.prog 9 (dataC lawTR41):=by
 refine okF_data Tryz.func9 rfl (by decide) ?_
 rintro ds v ⟨s,rfl,rfl⟩
 refine sem_of_awp (Γ:=tbl tabN7) tabN7_ok _ _ _ ?_
 by_cases hl:4100<s.length
 ·have hl':(4100:Int)<(s.length:Int):=by omega
  simp only[go_sem,Tryz.ntmps9,hl',decide_true]
  refine call_aw41 (mem_ix 0 rfl) ?_
  simp only[go_sem]
  exact post_data (.inl rfl) [2] rfl trivial rfl
 ·have hl':¬(4100:Int)<(s.length:Int):=by omega
  simp only[go_sem,Tryz.ntmps9,hl',decide_false]
  refine call_data (parR41 (splitC 10)) (mem_ix 1 rfl) [.str s] _ rfl ⟨s,rfl,by omega,rfl⟩ (.inl rfl) ?_
  have hg:=@parse_good (splitC 10) s
  have hb:=@parse_bad (splitC 10) s
  generalize parse41 (splitC 10) s=q at *
  obtain⟨z,n,e⟩:=q
  simp only at hg hb
  by_cases he:e=0
  ·have hc:=hg he
   have g:=goodS_of hc
   have htl:=textS_len g
   have hfk:=good_fk hc
   have hfm:fmtS z=(textS z,0):=by unfold fmtS;rw[if_pos hc]
   simp only[go_sem,sysD,he,eq_self,decide_true,Bool.not_true,List.length_cons,List.length_nil]
   refine call_data fmtR41 (mem_ix 2 rfl) [sysD z] _ rfl ⟨z,rfl,rfl⟩ (.inl rfl) ?_
   rw[hfm]
   simp only[go_sem]
   refine call_data (parR41 (splitC 10)) (mem_ix 1 rfl) [.str (textS z)] _ rfl ⟨_,rfl,by omega,rfl⟩ (.inl rfl) ?_
   rw[parse_back hc]
   simp only[go_sem,sysD,List.length_cons,List.length_nil]
   refine call_data fmtR41 (mem_ix 2 rfl) [sysD z] _ rfl ⟨z,rfl,rfl⟩ (.inl rfl) ?_
   rw[hfm]
   simp only[go_sem,eq_self,decide_true]
   refine call_peek sameR41 (mem_ix 3 rfl) [sysD z,sysD z] (.dat (.bool true)) ⟨peek_agg ⟨peek_dat,peek_dat,peek_dat,trivial⟩,peek_agg ⟨peek_dat,peek_dat,peek_dat,trivial⟩,trivial⟩ ⟨z,z,rfl,hfk,hfk,by simp⟩ rfl ?_
   simp only[go_sem]
   refine call_aw41 (mem_ix 0 rfl) ?_
   simp only[go_sem]
   exact post_data (.inl rfl) [2] rfl trivial rfl
  ·have hz:=hb he
   subst hz
   simp only[go_sem,sysD,he,decide_false,Bool.not_false,List.length_cons,List.length_nil]
   refine call_peek sameR41 (mem_ix 3 rfl) [sysD sys0,sysD sys0] (.dat (.bool true)) ⟨peek_agg ⟨peek_dat,peek_dat,peek_dat,trivial⟩,peek_agg ⟨peek_nils,peek_nils,peek_nils,trivial⟩,trivial⟩ ⟨sys0,sys0,rfl,sys0_fk,sys0_fk,by simp⟩ rfl ?_
   simp only[go_sem]
   refine call_aw41 (mem_ix 0 rfl) ?_
   simp only[go_sem]
   exact post_data (.inl rfl) [2] rfl trivial rfl
theorem lawBlank41_ok:OkF Tryz.prog 10 (dataC lawTR41):=by
 refine okF_data Tryz.func10 rfl (by decide) ?_
 rintro ds v ⟨s,rfl,rfl⟩
 refine sem_of_awp (Γ:=tbl tabN7) tabN7_ok _ _ _ ?_
 by_cases hl:4100<s.length
 ·have hl':(4100:Int)<(s.length:Int):=by omega
  simp only[go_sem,Tryz.ntmps10,hl',decide_true]
  refine call_aw41 (mem_ix 0 rfl) ?_
  simp only[go_sem]
  exact post_data (.inl rfl) [2] rfl trivial rfl
 ·have hl':¬(4100:Int)<(s.length:Int):=by omega
  simp only[go_sem,Tryz.ntmps10,hl',decide_false]
  refine call_data spcR (mem_ix 4 rfl) [.str s] _ rfl ⟨s,rfl,by omega,rfl⟩ (.inl rfl) ?_
  simp only[go_sem]
  by_cases hl2:4000<(spacedT s).length
  ·have hl2':(4000:Int)<((spacedT s).length:Int):=by omega
   simp only[go_sem,hl2',decide_true]
   refine call_aw41 (mem_ix 0 rfl) ?_
   simp only[go_sem]
   exact post_data (.inl rfl) [2] rfl trivial rfl
  ·have hl2':¬(4000:Int)<((spacedT s).length:Int):=by omega
   obtain⟨b1,b2,b3⟩:=blank41 (t:=s) (by omega)
   have hfk:=parse_fk (splitC 10) s
   have hfk2:=parse_fk (splitC 10) (spacedT s)
   simp only[go_sem,hl2',decide_false]
   refine call_data (parR41 (splitC 10)) (mem_ix 1 rfl) [.str s] _ rfl ⟨s,rfl,by omega,rfl⟩ (.inl rfl) ?_
   simp only[go_sem,sysD,List.length_cons,List.length_nil]
   refine call_data (parR41 (splitC 10)) (mem_ix 1 rfl) [.str (spacedT s)] _ rfl ⟨_,rfl,by omega,rfl⟩ (.inl rfl) ?_
   generalize parse41 (splitC 10) (spacedT s)=q2 at *
   generalize parse41 (splitC 10) s=q at *
   obtain⟨z,n,e⟩:=q
   obtain⟨z2,n2,e2⟩:=q2
   simp only at b1 b2 b3 hfk hfk2
   subst b1 b2 b3
   by_cases h1:0<n
   ·by_cases h2:n<5000
    ·have hw:wantN n=3*(n - 1)+1:=by unfold wantN;rw[if_pos ⟨h1,h2⟩]
     rw[hw]
     simp only[go_sem,sysD,h1,h2,eq_self,decide_true,List.length_cons,List.length_nil]
     refine⟨inR_i64.2 (by omega),inR_i64.2 (by omega),inR_i64.2 (by omega),?_⟩
     refine call_peek sameR41 (mem_ix 3 rfl) [sysD z2,sysD z2] (.dat (.bool true)) ⟨peek_agg ⟨peek_dat,peek_dat,peek_dat,trivial⟩,peek_agg ⟨peek_dat,peek_dat,peek_dat,trivial⟩,trivial⟩ ⟨z2,z2,rfl,hfk,hfk,by simp⟩ rfl ?_
     simp only[go_sem]
     refine call_aw41 (mem_ix 0 rfl) ?_
     simp only[go_sem]
     exact post_data (.inl rfl) [2] rfl trivial rfl
    ·have hw:wantN n=n:=by unfold wantN;rw[if_neg (by omega)]
     rw[hw]
     simp only[go_sem,sysD,h1,h2,eq_self,decide_true,decide_false,List.length_cons,List.length_nil]
     refine call_peek sameR41 (mem_ix 3 rfl) [sysD z2,sysD z2] (.dat (.bool true)) ⟨peek_agg ⟨peek_dat,peek_dat,peek_dat,trivial⟩,peek_agg ⟨peek_dat,peek_dat,peek_dat,trivial⟩,trivial⟩ ⟨z2,z2,rfl,hfk,hfk,by simp⟩ rfl ?_
     simp only[go_sem]
     refine call_aw41 (mem_ix 0 rfl) ?_
     simp only[go_sem]
     exact post_data (.inl rfl) [2] rfl trivial rfl
   ·have hw:wantN n=n:=by unfold wantN;rw[if_neg (by omega)]
    rw[hw]
    simp only[go_sem,sysD,h1,eq_self,decide_true,decide_false,List.length_cons,List.length_nil]
    refine call_peek sameR41 (mem_ix 3 rfl) [sysD z2,sysD z2] (.dat (.bool true)) ⟨peek_agg ⟨peek_dat,peek_dat,peek_dat,trivial⟩,peek_agg ⟨peek_dat,peek_dat,peek_dat,trivial⟩,trivial⟩ ⟨z2,z2,rfl,hfk,hfk,by simp⟩ rfl ?_
    simp only[go_sem]
    refine call_aw41 (mem_ix 0 rfl) ?_
    simp only[go_sem]
    exact post_data (.inl rfl) [2] rfl trivial rfl
abbrev tabN8:List (Nat×Contract):=[(14,dataC awR41),(13,dataC fewR),(16,dataC chkAR),(22,dataC heldR)]
theorem tabN8_ok:OkG Tryz.prog (tbl tabN8):=okG_cons awake41_ok (okG_cons few_ok (okG_cons rcheckA_ok (okG_cons held_ok okG_nil)))
theorem balU_get{s:PSys}{l:List PStep}{i:Nat}(h:i<s.pools.length):(balU s l).getD i 0=bal l (i:Nat) 0:=by
 unfold balU
 rw[List.getD_eq_getElem?_getD,List.getElem?_map,List.getElem?_range h];rfl
theorem balB_get{s:PSys}{l:List PStep}{i:Nat}(h:i<s.locks.length):(balB s l).getD i false=decide (0<bal l (i:Nat) 1):=by
 unfold balB
 rw[List.getD_eq_getElem?_getD,List.getElem?_map,List.getElem?_range h];rfl
theorem nthB{l:List Bool}{i:Nat}(h:i<l.length):D.nth (boolsD l) i=.bool (l.getD i false):=D.nth_map h
theorem lawEnds41_ok:OkF Tryz.prog 11 (dataC lawSR):=by
 refine okF_data Tryz.func11 rfl (by decide) ?_
 rintro ds v ⟨s,rfl,hok,rfl⟩
 refine sem_of_awp (Γ:=tbl tabN8) tabN8_ok _ _ _ ?_
 simp only[go_sem,Tryz.ntmps11,sysD]
 refine call_data fewR (mem_ix 1 rfl) [sysD s] _ rfl ⟨s,rfl,rfl⟩ (.inl rfl) ?_
 cases hf:fewB s with
 | false =>
  simp only[go_sem,Bool.not_false]
  refine call_aw41 (mem_ix 0 rfl) ?_
  simp only[go_sem]
  exact post_data (.inl rfl) [2] rfl trivial rfl
 | true =>
  simp only[go_sem,Bool.not_true]
  refine call_data chkAR (mem_ix 2 rfl) [sysD s] _ rfl ⟨s,rfl,rfl⟩ (.inl rfl) ?_
  by_cases hc:checkE s=0
  ·have g:=goodS_of hc
   obtain⟨hs,_⟩:=few_small hf
   have hs1:=hs.np;have hs2:=hs.nl;have hs3:=hs.nc
   have hsz:∀p∈s.pools,0<=p.size:=fun p hp=>by have:=pool_fit (g.pl p hp);omega
   simp only[go_sem,hc,eq_self,decide_true,Bool.not_true]
   refine sem_loop (fun c:Nat=>⟨slotsOf 125 [(1,.ptr 0 0 0),(3,.dat (.int .i64 c))],[sysO s],0,[]⟩)
    (fun c=>c<=s.classes.length) (fun c=>s.classes.length - c) 0 (Nat.zero_le _) ?_ ?_
   ·exact le_slots' (by simp only[go_sem,Int.natCast_zero])
   rintro c hcl
   refine sem_of_awp (Γ:=tbl tabN8) tabN8_ok _ _ _ ?_
   by_cases hlt:c<s.classes.length
   ·have k1:(c:Int)<(s.classes.length:Int):=by omega
    have hx:D.nth (s.classes.map clsD) c=clsD (s.classes.getD c default):=D.nth_map hlt
    have hcm:s.classes.getD c default∈s.classes:=getD_mem hlt
    have hns:=g.ns _ hcm
    obtain⟨e1,e2,e3⟩:=ends_in hc hcm hsz
    have hhv:=fun (i:Nat) (hi:i<=(s.classes.getD c default).steps.length)=>heldV_3 (s:=s) (c:=c) (k:=i) hc hlt hi
    generalize hC:s.classes.getD c default=C at *
    obtain⟨name,workers,server,steps⟩:=C
    simp only at hns e1 e2 e3 hhv
    simp only[go_sem,k1,hx,clsD,stepsD,decide_true,List.length_map,Int.toNat_natCast]
    refine sem_loop (fun i:Nat=>⟨slotsOf 125 [(1,.ptr 0 0 0),(3,.dat (.int .i64 c)),(4,.dat (.int .i64 steps.length)),(5,.dat (.int .i64 i))],[sysO s],0,[]⟩)
     (fun i=>i<=steps.length+1) (fun i=>steps.length+1 - i) 0 (Nat.zero_le _) ?_ ?_
    ·exact le_slots' (by simp only[go_sem,Int.natCast_zero])
    rintro i hi
    refine sem_of_awp (Γ:=tbl tabN8) tabN8_ok _ _ _ ?_
    by_cases hil:i<=steps.length
    ·have i1:(i:Int)<=(steps.length:Int):=by omega
     simp only[go_sem,i1,decide_true]
     refine call_data heldR (mem_ix 3 rfl) [sysD s,.int .i64 c,.int .i64 i] _ rfl ⟨s,c,i,rfl,⟨hs⟩,rfl⟩ (.inl rfl) ?_
     rw[hhv i hil]
     have hul:(balU s (steps.take i)).length=s.pools.length:=by simp[balU]
     have hbl:(balB s (steps.take i)).length=s.locks.length:=by simp[balB]
     have hU:∀k:Nat,k<s.pools.length->0<=(balU s (steps.take i)).getD k 0/\(balU s (steps.take i)).getD k 0<=(s.pools.getD k default).size/\((i=0∨i=steps.length)->(balU s (steps.take i)).getD k 0=0):=fun k hk=>by
      rw[balU_get hk]
      obtain⟨a1,a2⟩:=e1 i hil k hk
      refine⟨a1,a2,fun h=>?_⟩
      rcases h with rfl|rfl
      ·rfl
      ·rw[List.take_length];exact e2 k hk
     have hB:∀k:Nat,k<s.locks.length->(i=0∨i=steps.length)->(balB s (steps.take i)).getD k false=false:=fun k hk h=>by
      rw[balB_get hk]
      rcases h with rfl|rfl
      ·rfl
      ·rw[List.take_length];exact decide_eq_false (e3 k hk)
     generalize balU s (steps.take i)=U at *
     generalize balB s (steps.take i)=B at *
     simp only[go_sem,hul,hbl,eq_self,decide_true,Bool.not_true,List.length_map]
     refine sem_loop (fun k:Nat=>⟨slotsOf 125 [(1,.ptr 0 0 0),(3,.dat (.int .i64 c)),(4,.dat (.int .i64 steps.length)),(5,.dat (.int .i64 i)),(6,.dat (.sl none (intsD U))),(7,.dat (.sl none (boolsD B))),(9,.dat (.int .i64 k))],[sysO s],0,[]⟩)
      (fun k=>k<=s.pools.length) (fun k=>s.pools.length - k) 0 (Nat.zero_le _) ?_ ?_
     ·exact le_slots' (by simp only[go_sem,Int.natCast_zero])
     rintro k hk
     refine sem_of_awp (Γ:=tbl tabN8) tabN8_ok _ _ _ ?_
     by_cases hkl:k<s.pools.length
     ·have j1:(k:Int)<(s.pools.length:Int):=by omega
      have j0:(0:Int)<=(k:Int):=by omega
      have hxU:=nthI (l:=U) (i:=k) (by omega)
      have hxP:D.nth (s.pools.map poolD) k=poolD (s.pools.getD k default):=D.nth_map hkl
      obtain⟨u1,u2,u3⟩:=hU k hkl
      have u1':¬U.getD k 0<0:=by omega
      have u2':¬(s.pools.getD k default).size<U.getD k 0:=by omega
      have u4':¬(s.pools.getD k default).size<0:=by omega
      simp only[go_sem,j1,hul,decide_true,List.length_map]
      refine sem_drawU [] [] (pf:=[]) (mf:=[]) mixed tabN8_ok pureNo growNo noMk (ones [0,1,2,3,4,5,6,7,8,9,10,11,12,13,14,15,16,17,18,19,20,21,22,23,24,25,26,27,28,29,30,31,32,33]) (by kernel_rfl) ?_
      generalize U.getD k 0=uk at *
      generalize s.pools.getD k default=P at *
      by_cases i0:i=0
      ·have i0':(i:Int)=0:=by omega
       have hz:=u3 (.inl i0)
       simp only[go_sem,j1,j0,hul,hxU,hxP,poolD,u1',u2',u4',i0',hz,eq_self,decide_true,decide_false,Bool.not_true,List.length_map,Int.toNat_natCast]
       refine⟨inR_i64.2 (by omega),k+1,by omega,by omega,?_⟩
       exact le_slots' (by simp only[go_sem,Int.natCast_add,Int.cast_ofNat_Int])
      ·by_cases i2:i=steps.length
       ·have i0':¬(i:Int)=0:=by omega
        have i2':(i:Int)=(steps.length:Int):=by omega
        have i3':¬(steps.length:Int)=0:=by omega
        have hz:=u3 (.inr i2)
        simp only[go_sem,j1,j0,hul,hxU,hxP,poolD,u1',u2',u4',i0',i2',i3',hz,eq_self,decide_true,decide_false,Bool.not_true,List.length_map,Int.toNat_natCast]
        refine⟨inR_i64.2 (by omega),k+1,by omega,by omega,?_⟩
        exact le_slots' (by simp only[go_sem,Int.natCast_add,Int.cast_ofNat_Int])
       ·have i0':¬(i:Int)=0:=by omega
        have i2':¬(i:Int)=(steps.length:Int):=by omega
        simp only[go_sem,j1,j0,hul,hxU,hxP,poolD,u1',u2',u4',i0',i2',eq_self,decide_true,decide_false,Bool.not_true,List.length_map,Int.toNat_natCast]
        refine⟨inR_i64.2 (by omega),k+1,by omega,by omega,?_⟩
        exact le_slots' (by simp only[go_sem,Int.natCast_add,Int.cast_ofNat_Int])
     ·have j1:¬(k:Int)<(s.pools.length:Int):=by omega
      simp only[go_sem,j1,hul,decide_false,List.length_map]
      refine sem_loop (fun k:Nat=>⟨slotsOf 125 [(1,.ptr 0 0 0),(3,.dat (.int .i64 c)),(4,.dat (.int .i64 steps.length)),(5,.dat (.int .i64 i)),(7,.dat (.sl none (boolsD B))),(10,.dat (.int .i64 k))],[sysO s],0,[]⟩)
       (fun k=>k<=s.locks.length) (fun k=>s.locks.length - k) 0 (Nat.zero_le _) ?_ ?_
      ·exact le_slots' (by simp only[go_sem,Int.natCast_zero])
      rintro k hk
      refine sem_of_awp (Γ:=tbl tabN8) tabN8_ok _ _ _ ?_
      by_cases hkl:k<s.locks.length
      ·have j1:(k:Int)<(s.locks.length:Int):=by omega
       have j0:(0:Int)<=(k:Int):=by omega
       have hxB:=nthB (l:=B) (i:=k) (by omega)
       have u3:=hB k hkl
       generalize B.getD k false=bk at *
       by_cases i0:i=0
       ·have i0':(i:Int)=0:=by omega
        have hz:=u3 (.inl i0)
        simp only[go_sem,j1,j0,hbl,hxB,i0',hz,eq_self,decide_true,decide_false,Bool.not_true,List.length_map,Int.toNat_natCast]
        refine⟨inR_i64.2 (by omega),k+1,by omega,by omega,?_⟩
        exact le_slots' (by simp only[go_sem,Int.natCast_add,Int.cast_ofNat_Int])
       ·by_cases i2:i=steps.length
        ·have i0':¬(i:Int)=0:=by omega
         have i2':(i:Int)=(steps.length:Int):=by omega
         have i3':¬(steps.length:Int)=0:=by omega
         have hz:=u3 (.inr i2)
         simp only[go_sem,j1,j0,hbl,hxB,i0',i2',i3',hz,eq_self,decide_true,decide_false,Bool.not_true,List.length_map,Int.toNat_natCast]
         refine⟨inR_i64.2 (by omega),k+1,by omega,by omega,?_⟩
         exact le_slots' (by simp only[go_sem,Int.natCast_add,Int.cast_ofNat_Int])
        ·have i0':¬(i:Int)=0:=by omega
         have i2':¬(i:Int)=(steps.length:Int):=by omega
         cases bk with
         | true =>
          simp only[go_sem,j1,j0,hbl,hxB,i0',i2',eq_self,decide_true,decide_false,Bool.not_true,List.length_map,Int.toNat_natCast]
          refine⟨inR_i64.2 (by omega),k+1,by omega,by omega,?_⟩
          exact le_slots' (by simp only[go_sem,Int.natCast_add,Int.cast_ofNat_Int])
         | false =>
          simp only[go_sem,j1,j0,hbl,hxB,i0',i2',eq_self,decide_true,decide_false,Bool.not_true,List.length_map,Int.toNat_natCast]
          refine⟨inR_i64.2 (by omega),k+1,by omega,by omega,?_⟩
          exact le_slots' (by simp only[go_sem,Int.natCast_add,Int.cast_ofNat_Int])
      ·have j1:¬(k:Int)<(s.locks.length:Int):=by omega
       simp only[go_sem,j1,hbl,decide_false,List.length_map]
       refine⟨inR_i64.2 (by omega),i+1,by omega,by omega,?_⟩
       exact le_slots' (by simp only[go_sem,Int.natCast_add,Int.cast_ofNat_Int])
    ·have i1:¬(i:Int)<=(steps.length:Int):=by omega
     simp only[go_sem,i1,decide_false]
     refine⟨inR_i64.2 (by omega),c+1,by omega,by omega,?_⟩
     exact le_slots' (by simp only[go_sem,Int.natCast_add,Int.cast_ofNat_Int])
   ·have k1:¬(c:Int)<(s.classes.length:Int):=by omega
    simp only[go_sem,k1,decide_false,List.length_map]
    refine call_aw41 (mem_ix 0 rfl) ?_
    simp only[go_sem]
    exact post_data (.inl rfl) [2] rfl trivial rfl
  ·simp only[go_sem,hc,decide_false,Bool.not_false]
   refine call_aw41 (mem_ix 0 rfl) ?_
   simp only[go_sem]
   exact post_data (.inl rfl) [2] rfl trivial rfl
end Go.AM
namespace Go.AM
open Go Go.Proofs
theorem glob_ok {w : World} {n1 n2 : String} {d1 d2 : DataW Unit} {laid : List (String × DataW Unit)} {ps : List MemPlace} {d : DataW Unit} (hd : d = .agg (Lib.pow10Tab.map fun z => .lit (.int .u64 z))) (h : DataW.LaidVars Tryz.prog w ((n1, d1) :: (n2, d2) :: ("internal/strconv.uint64pow10", d) :: laid) ps) : GlobOk (fun b => b < w.heap.size) w := by
 obtain⟨_,h⟩:=laid_skip h
 obtain⟨_,h⟩:=laid_skip h
 obtain⟨⟨cs,h1,h2,h3,h4⟩,_⟩:=glob_array (g:=3) (t:=159) (e:=140) (n:=20) (k:=.u64) (ns:=Lib.pow10Tab) h hd (by kernel_rfl) (by kernel_rfl) (by kernel_rfl) (by kernel_rfl) (by kernel_rfl) (by kernel_rfl) (by decide)
 intro g ag d' hg
 unfold globs at hg
 split at hg
 ·simp only[Option.some.injEq,Prod.mk.injEq]at hg
  obtain⟨rfl,rfl⟩:=hg
  exact⟨cs,h1,h2,h3,rfl,h4⟩
 ·cases hg
end Go.AM

