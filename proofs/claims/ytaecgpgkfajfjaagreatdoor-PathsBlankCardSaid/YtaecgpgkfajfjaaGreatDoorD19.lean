/- Own work over the model of the kit. -/
import Derived.Test.YtaecgpgkfajfjaaGreatDoorD18
import Derived.Test.YtaecgpgkfajfjaaGreatDoorD17
import Derived.Test.YtaecgpgkfajfjaaGreatDoorProg
import Derived.Shelf.LaysM
import Derived.Test.YtaecgpgkfajfjaaGreatDoorD14
import Derived.Shelf.Strconv.Itoa3
import Derived.Lib.ItoaLen
import Derived.Test.YtaecgpgkfajfjaaGreatDoorD15
set_option linter.unnecessarySimpa false
set_option linter.unusedSimpArgs false
set_option linter.unusedVariables false
set_option maxHeartbeats 4000000
set_option maxRecDepth 100000
namespace Go.AM
open Go Go.Proofs
theorem namesE_0:∀(l pre:List Str),namesE pre l=0->(∀x∈l,isNm x=true/\x∉pre)/\l.Nodup
 | [],_,_=>⟨fun x h=>by simp at h,List.nodup_nil⟩
 | x :: r,pre,h=>by
  simp only[namesE]at h
  split at h
  ·simp at h
  ·rename_i h1
   split at h
   ·simp at h
   ·rename_i h2
    obtain⟨h3,h4⟩:=namesE_0 r (pre++[x]) h
    refine⟨fun y hy=>?_,List.nodup_cons.2 ⟨fun hx=>?_,h4⟩⟩
    ·rcases List.mem_cons.1 hy with rfl|hy
     ·exact⟨by simpa using h1,h2⟩
     ·exact⟨(h3 y hy).1,fun hp=>(h3 y hy).2 (by simp[hp])⟩
    ·exact(h3 x hx).2 (by simp)
theorem runE_0(s:PSys):∀(l:List PStep) (h:Hold),(runE s l h).1=0->∀x∈l,preE s x=0
 | [],_,_,x,hx=>by simp at hx
 | y :: l,h,h0,x,hx=>by
  simp only[runE]at h0
  split at h0
  ·rename_i h1;exact absurd h0 h1
  ·rename_i h1
   rcases List.mem_cons.1 hx with rfl|hx
   ·exact stepE_0 (Classical.byContradiction h1)
   ·exact runE_0 s l _ h0 x hx
theorem clssE_0(s:PSys):∀(l:List PCls),clssE s l=0->∀c∈l,classE s c=0
 | [],_,c,hc=>by simp at hc
 | y :: l,h,c,hc=>by
  simp only[clssE]at h
  split at h
  ·rename_i h1;exact absurd h h1
  ·rename_i h1
   rcases List.mem_cons.1 hc with rfl|hc
   ·exact Classical.byContradiction h1
   ·exact clssE_0 s l h c hc
structure Good (s:PSys):Prop where
 np:s.pools.length<=6
 nl:s.locks.length<=4
 nc:s.classes.length<=6
 nms:∀x∈namesL s,isNm x=true
 nd:(namesL s).Nodup
 pl:∀p∈s.pools,¬p.bad
 wk:∀c∈s.classes,0<=c.workers/\c.workers<=4
 ns:∀c∈s.classes,c.steps.length<=12
 st:∀c∈s.classes,∀x∈c.steps,preE s x=0
theorem goodS_of{s:PSys}(h:checkE s=0):Good s:=by
 unfold checkE at h
 split at h
 ·simp at h
 ·rename_i hl
  obtain⟨h1,h2⟩:=thenE_eq0 h
  obtain⟨h3,h4⟩:=thenE_eq0 h2
  obtain⟨a,b⟩:=namesE_0 _ _ h1
  have hc:=clssE_0 s s.classes h4
  have hcc:∀c∈s.classes,(0<=c.workers/\c.workers<=4)/\c.steps.length<=12/\(runE s c.steps (hold0 s)).1=0:=fun c hcm=>by
   have:=hc c hcm
   unfold classE at this
   split at this
   ·simp at this
   ·split at this
    ·simp at this
    ·rename_i w1 w2
     refine⟨by omega,by omega,?_⟩
     unfold verd at this
     split at this
     ·rename_i w3;exact absurd this w3
     ·rename_i w3;exact Classical.byContradiction w3
  exact⟨by omega,by omega,by omega,fun x hx=>(a x hx).1,b,poolsE_0 h3,fun c hcm=>(hcc c hcm).1,fun c hcm=>(hcc c hcm).2.1,fun c hcm=>runE_0 s _ _ (hcc c hcm).2.2⟩
theorem pool_fit{p:PPool}(h:¬p.bad):1<=p.size/\p.size<=8/\0<=p.res/\p.res<=8:=by
 unfold PPool.bad at h;omega
theorem getD_mem{α:Type}{l:List α}{i:Nat}{d:α}(h:i<l.length):l.getD i d∈l:=by
 rw[List.getD_eq_getElem?_getD,List.getElem?_eq_getElem h];exact List.getElem_mem h
theorem onName_mem{s:PSys}{x:PStep}(h:preE s x=0):onName s x∈namesL s:=by
 obtain⟨k,o,_⟩:=preE_0 h
 unfold onName namesL
 unfold mostE at o
 by_cases h1:x.kind=1∨x.kind=2
 ·rw[if_pos h1];rw[if_neg (by omega),if_neg (by omega)]at o
  exact List.mem_append.2 (.inl (List.mem_append.2 (.inl (List.mem_map.2 ⟨_,getD_mem (by omega),rfl⟩))))
 ·rw[if_neg h1]
  by_cases h2:x.kind=3∨x.kind=4
  ·rw[if_pos h2];rw[if_pos h2]at o
   exact List.mem_append.2 (.inl (List.mem_append.2 (.inr (getD_mem (by omega)))))
  ·rw[if_neg h2];rw[if_neg h2,if_pos (by omega)]at o
   exact List.mem_append.2 (.inr (List.mem_map.2 ⟨_,getD_mem (by omega),rfl⟩))
theorem idxG_at{α:Type}[DecidableEq α]{x:α}:∀{l:List α} {i k:Nat},l.Nodup->l[i]?=some x->idxG x k l=((k+i:Nat):Int)
 | [],i,k,_,h=>by simp at h
 | y :: r,0,k,_,h=>by
  simp only[List.getElem?_cons_zero,Option.some.injEq]at h
  subst h
  simp[idxG]
 | y :: r,i+1,k,hn,h=>by
  simp only[List.getElem?_cons_succ]at h
  have hne:¬y=x:=fun e=>(List.nodup_cons.1 hn).1 (e ▸ List.mem_of_getElem? h)
  have:=idxG_at (k:=k+1) (List.nodup_cons.1 hn).2 h
  have e:k+1+i=k+(i+1):=by omega
  rw[e]at this
  first
   | rw[idxG,if_neg hne,this]
   | rw[idxG,if_neg (fun e=>hne e.symm),this]
theorem nodup3{a b c:List Str}(h:(a++b++c).Nodup):a.Nodup/\b.Nodup/\c.Nodup:=by
 obtain⟨h1,h2,_⟩:=List.nodup_append.1 h
 obtain⟨h3,h4,_⟩:=List.nodup_append.1 h1
 exact⟨h3,h4,h2⟩
theorem find_on{s:PSys}{x:PStep}(g:Good s)(h:preE s x=0):findE s x.kind.toNat (onName s x)=x.on:=by
 obtain⟨k,o,_⟩:=preE_0 h
 obtain⟨n1,n2,n3⟩:=nodup3 g.nd
 unfold mostE at o
 unfold findE onName
 have at':∀{α:Type} (l:List α) (f:α->Str) (d:α),x.on<l.length->(l.map f)[x.on.toNat]?=some (f (l.getD x.on.toNat d)):=fun l f d hl=>by
  have:x.on.toNat<l.length:=by omega
  rw[List.getElem?_map,List.getD_eq_getElem?_getD,List.getElem?_eq_getElem this];rfl
 by_cases h1:x.kind=1∨x.kind=2
 ·rw[if_pos h1,if_pos (by omega:x.kind.toNat=1∨x.kind.toNat=2)]
  rw[if_neg (by omega),if_neg (by omega)]at o
  rw[idxG_at n1 (at' s.pools (·.name) default o.2)];omega
 ·rw[if_neg h1,if_neg (by omega:¬(x.kind.toNat=1∨x.kind.toNat=2))]
  by_cases h2:x.kind=3∨x.kind=4
  ·rw[if_pos h2,if_neg (by omega:¬x.kind.toNat=5)]
   rw[if_pos h2]at o
   have:=at' s.locks id [] o.2
   rw[List.map_id]at this
   have e:idxG (s.locks.getD x.on.toNat []) 0 s.locks=_:=idxG_at n2 this
   rw[e];omega
  ·rw[if_neg h2,if_pos (by omega:x.kind.toNat=5)]
   rw[if_neg h2,if_pos (by omega)]at o
   rw[idxG_at n3 (at' s.classes (·.name) default o.2)];omega
theorem pre_deep{s:PSys}{x:PStep}(h:preE s x=0)(hk:x.kind≠1):x.deep=false:=by
 unfold preE at h
 split at h
 ·simp at h
 ·rename_i hb
  simp only[badForm,Bool.or_eq_true,Bool.and_eq_true,Bool.not_eq_true',decide_eq_true_eq,decide_eq_false_iff_not,not_or,not_and,Bool.not_eq_true]at hb
  exact hb.2 hk
theorem st_fit{s:PSys}{x:PStep}(g:Good s)(h:preE s x=0):StFit s x:=by
 obtain⟨k,o,c,c2⟩:=preE_0 h
 have hc:0<=x.cnt/\x.cnt<=999:=by
  by_cases h1:x.kind=1∨x.kind=2
  ·have:=c h1
   unfold mostE at o
   rw[if_neg (by omega),if_neg (by omega)]at o
   have hp:=pool_fit (g.pl _ (getD_mem (d:=default) (by omega:x.on.toNat<s.pools.length)))
   omega
  ·rw[c2 h1];omega
 exact⟨k,g.nms _ (onName_mem h),hc.1,hc.2,c2,pre_deep h⟩
theorem scan_pools(R:List PL)(c:Nat):∀(ps:List PPool) (i:Nat) (dn:List Str),(dn++ps.map (·.name)).Nodup->∃j,scanL (ps.map (fun p=>PL.decl 1 p.name p.size p.res)++R) i dn c=scanL R j (dn++ps.map (·.name)) c
 | [],i,dn,_=>⟨i,by simp⟩
 | p :: ps,i,dn,h=>by
  have hx:p.name∉dn:=fun hp=>by
   have:=(List.nodup_append.1 h).2.2
   exact this _ hp _ (by simp) rfl
  obtain⟨j,hj⟩:=scan_pools R c ps (i+1) (dn++[p.name]) (by simpa using h)
  exact⟨j,by simp only[List.map_cons,List.cons_append,scanL];rw[if_neg hx,if_neg (by decide),hj];simp⟩
theorem scan_locks(R:List PL)(c:Nat):∀(ps:List Str) (i:Nat) (dn:List Str),(dn++ps).Nodup->∃j,scanL (ps.map (fun p=>PL.decl 2 p 0 0)++R) i dn c=scanL R j (dn++ps) c
 | [],i,dn,_=>⟨i,by simp⟩
 | p :: ps,i,dn,h=>by
  have hx:p∉dn:=fun hp=>by
   have:=(List.nodup_append.1 h).2.2
   exact this _ hp _ (by simp) rfl
  obtain⟨j,hj⟩:=scan_locks R c ps (i+1) (dn++[p]) (by simpa using h)
  exact⟨j,by simp only[List.map_cons,List.cons_append,scanL];rw[if_neg hx,if_neg (by decide),hj];simp⟩
theorem scan_steps(s:PSys)(R:List PL)(c:Nat)(hc:c≠0)(dn:List Str):∀(l:List PStep) (i:Nat),∃j,scanL (l.map (stPL s)++R) i dn c=scanL R j dn c
 | [],i=>⟨i,by simp⟩
 | x :: l,i=>by
  obtain⟨j,hj⟩:=scan_steps s R c hc dn l (i+1)
  exact⟨j,by simp only[List.map_cons,List.cons_append,stPL,scanL];rw[if_neg hc];exact hj⟩
theorem scan_cls(s:PSys)(R:List PL):∀(cs:List PCls) (i:Nat) (dn:List Str) (c:Nat),(dn++cs.map (·.name)).Nodup->∃j,scanL (cs.flatMap (clPL s)++R) i dn c=scanL R j (dn++cs.map (·.name)) (c+cs.length)
 | [],i,dn,c,_=>⟨i,by simp⟩
 | x :: cs,i,dn,c,h=>by
  have hx:x.name∉dn:=fun hp=>by
   have:=(List.nodup_append.1 h).2.2
   exact this _ hp _ (by simp) rfl
  have h3:3<=(if x.server then 4 else 3):=by split <;> omega
  obtain⟨j0,h0⟩:=scan_steps s (cs.flatMap (clPL s)++R) (c+1) (by omega) (dn++[x.name]) x.steps (i+1)
  obtain⟨j,hj⟩:=scan_cls s R cs j0 (dn++[x.name]) (c+1) (by simpa using h)
  refine⟨j,?_⟩
  simp only[List.flatMap_cons,clPL,List.cons_append,List.append_assoc,scanL]
  rw[if_neg hx,if_pos h3,h0,hj]
  have e:c+1+cs.length=c+(cs.length+1):=by omega
  simp[e]
def bareC(c:PCls):PCls:=⟨c.name,c.workers,c.server,[]⟩
theorem decl_pools(R:List PL)(l:List Str)(c:List PCls):∀(ps qs:List PPool),declL (ps.map (fun p=>PL.decl 1 p.name p.size p.res)++R) ⟨qs,l,c⟩=declL R ⟨qs++ps,l,c⟩
 | [],qs=>by simp
 | p :: ps,qs=>by
  simp only[List.map_cons,List.cons_append,declL]
  have e:addD ⟨qs,l,c⟩ 1 p.name p.size p.res=⟨qs++[p],l,c⟩:=rfl
  rw[e,decl_pools R l c ps];simp
theorem decl_locks(R:List PL)(q:List PPool)(c:List PCls):∀(ps qs:List Str),declL (ps.map (fun p=>PL.decl 2 p 0 0)++R) ⟨q,qs,c⟩=declL R ⟨q,qs++ps,c⟩
 | [],qs=>by simp
 | p :: ps,qs=>by
  simp only[List.map_cons,List.cons_append,declL]
  have e:addD ⟨q,qs,c⟩ 2 p 0 0=⟨q,qs++[p],c⟩:=rfl
  rw[e,decl_locks R q c ps];simp
theorem decl_steps(s:PSys)(R:List PL)(z:PSys):∀l:List PStep,declL (l.map (stPL s)++R) z=declL R z
 | []=>rfl
 | x :: l=>by simp only[List.map_cons,List.cons_append,stPL,declL];exact decl_steps s R z l
theorem decl_cls(s:PSys)(R:List PL)(q:List PPool)(l:List Str):∀(cs ds:List PCls),declL (cs.flatMap (clPL s)++R) ⟨q,l,ds⟩=declL R ⟨q,l,ds++cs.map bareC⟩
 | [],ds=>by simp
 | x :: cs,ds=>by
  simp only[List.flatMap_cons,clPL,List.cons_append,List.append_assoc,declL]
  have e:addD ⟨q,l,ds⟩ (if x.server then 4 else 3) x.name x.workers 0=⟨q,l,ds++[bareC x]⟩:=by
   unfold addD bareC
   cases x.server <;> rfl
  rw[decl_steps,e,decl_cls s R q l cs];simp
theorem steps_decls(R:List PL)(c:Nat)(z:PSys):∀(ds:List PL) (i:Nat),(∀d∈ds,∃k x a b,d=.decl k x a b/\k<3)->∃j,stepsL (ds++R) i c z=stepsL R j c z
 | [],i,_=>⟨i,by simp⟩
 | d :: ds,i,h=>by
  obtain⟨k,x,a,b,rfl,hk⟩:=h d (by simp)
  obtain⟨j,hj⟩:=steps_decls R c z ds (i+1) fun y hy=>h y (by simp[hy])
  exact⟨j,by simp only[List.cons_append,stepsL];rw[if_neg (by omega),hj]⟩
theorem findE_names{s t:PSys}(k:Nat)(x:Str)(h1:s.pools=t.pools)(h2:s.locks=t.locks)(h3:s.classes.map (·.name)=t.classes.map (·.name)):findE s k x=findE t k x:=by
 unfold findE;rw[h1,h2,h3]
theorem set_mid{α:Type}(A:List α)(x y:α)(B:List α):(A++x :: B).set A.length y=A++y :: B:=by
 rw[List.set_append_right _ _ (by omega)];simp
theorem getD_mid{α:Type}(A:List α)(x d:α)(B:List α):(A++x :: B).getD A.length d=x:=by
 rw[List.getD_eq_getElem?_getD,List.getElem?_append_right (by omega)];simp
theorem steps_steps{s:PSys}(R:List PL)(A B:List PCls)(c:PCls)(hcl:(A++c :: B).map (·.name)=s.classes.map (·.name)):∀(l st:List PStep) (i:Nat),(∀x∈l,findE s x.kind.toNat (onName s x)=x.on/\0<=x.on/\1<=x.kind) ->
  ∃j,stepsL (l.map (stPL s)++R) i (A.length+1) ⟨s.pools,s.locks,A++⟨c.name,c.workers,c.server,st⟩ :: B⟩=stepsL R j (A.length+1) ⟨s.pools,s.locks,A++⟨c.name,c.workers,c.server,st++l⟩ :: B⟩
 | [],st,i,_=>⟨i,by simp⟩
 | x :: l,st,i,h=>by
  obtain⟨h1,h2,h3⟩:=h x (by simp)
  have hf:findE ⟨s.pools,s.locks,A++⟨c.name,c.workers,c.server,st⟩ :: B⟩ x.kind.toNat (onName s x)=x.on:=by
   rw[← h1]
   exact findE_names _ _ rfl rfl (by rw[← hcl];simp)
  obtain⟨j,hj⟩:=steps_steps R A B c hcl l (st++[x]) (i+1) fun y hy=>h y (by simp[hy])
  refine⟨j,?_⟩
  simp only[List.map_cons,List.cons_append,stPL,stepsL]
  rw[hf,if_neg (by omega),Nat.add_sub_cancel]
  have e:addS ⟨s.pools,s.locks,A++⟨c.name,c.workers,c.server,st⟩ :: B⟩ A.length ⟨(x.kind.toNat:Nat),x.on,x.cnt,x.deep⟩=⟨s.pools,s.locks,A++⟨c.name,c.workers,c.server,st++[x]⟩ :: B⟩:=by
   unfold addS addT
   rw[getD_mid,set_mid]
   have:((x.kind.toNat:Nat):Int)=x.kind:=by omega
   rw[this]
  rw[e,hj]
  simp
theorem steps_cls{s:PSys}(R:List PL)(hg:∀c∈s.classes,∀x∈c.steps,findE s x.kind.toNat (onName s x)=x.on/\0<=x.on/\1<=x.kind):∀(cs A:List PCls) (i:Nat),A++cs=s.classes ->
  ∃j,stepsL (cs.flatMap (clPL s)++R) i A.length ⟨s.pools,s.locks,A++cs.map bareC⟩=stepsL R j s.classes.length ⟨s.pools,s.locks,s.classes⟩
 | [],A,i,h=>⟨i,by rw[List.append_nil]at h;simp[h]⟩
 | c :: cs,A,i,h=>by
  have h3:3<=(if c.server then 4 else 3):=by split <;> omega
  obtain⟨j0,h0⟩:=steps_steps (s:=s) (cs.flatMap (clPL s)++R) A (cs.map bareC) c (by rw[← h];simp[bareC]) c.steps [] (i+1) (hg c (by rw[← h];simp))
  obtain⟨j,hj⟩:=steps_cls R hg cs (A++[c]) j0 (by simpa using h)
  refine⟨j,?_⟩
  simp only[List.flatMap_cons,clPL,List.cons_append,List.append_assoc,stepsL,List.map_cons]
  rw[if_pos h3]
  have e:bareC c=⟨c.name,c.workers,c.server,[]⟩:=rfl
  rw[e,h0,List.nil_append]
  have e2:(A++[c]).length=A.length+1:=by simp
  rw[e2]at hj
  rw[← hj]
  simp
theorem parse_sysPL{s:PSys}(h:checkE s=0):parseMR (sysPL s++[.skip])=(s,0,0):=by
 have g:=goodS_of h
 have hnd:=g.nd
 unfold namesL at hnd
 obtain⟨j1,e1⟩:=scan_pools (s.locks.map (fun x=>.decl 2 x 0 0)++(s.classes.flatMap (clPL s)++[.skip])) 0 s.pools 0 [] (by simpa using (nodup3 g.nd).1)
 obtain⟨j2,e2⟩:=scan_locks (s.classes.flatMap (clPL s)++[.skip]) 0 s.locks j1 ([]++s.pools.map (·.name)) (by simpa using (List.nodup_append.1 hnd).1)
 obtain⟨j3,e3⟩:=scan_cls s [.skip] s.classes j2 ([]++s.pools.map (·.name)++s.locks) 0 (by simpa using hnd)
 have hs:scanL (sysPL s++[.skip]) 0 [] 0=(0,0):=by
  unfold sysPL
  rw[List.append_assoc,List.append_assoc,e1,e2,e3]
  rfl
 have hd:declL (sysPL s++[.skip]) sys0=⟨s.pools,s.locks,s.classes.map bareC⟩:=by
  unfold sysPL sys0
  rw[List.append_assoc,List.append_assoc,decl_pools,decl_locks,decl_cls]
  simp[declL]
 have hst:stepsL (sysPL s++[.skip]) 0 0 ⟨s.pools,s.locks,s.classes.map bareC⟩=.inr s:=by
  obtain⟨k1,f1⟩:=steps_decls (s.classes.flatMap (clPL s)++[.skip]) 0 ⟨s.pools,s.locks,s.classes.map bareC⟩ (s.pools.map (fun p=>.decl 1 p.name p.size p.res)++s.locks.map (fun x=>.decl 2 x 0 0)) 0 (fun d hd=>by
   rcases List.mem_append.1 hd with hd|hd
   ·obtain⟨p,_,rfl⟩:=List.mem_map.1 hd;exact⟨1,_,_,_,rfl,by decide⟩
   ·obtain⟨p,_,rfl⟩:=List.mem_map.1 hd;exact⟨2,_,_,_,rfl,by decide⟩)
  obtain⟨k2,f2⟩:=steps_cls (s:=s) [.skip] (fun c hc x hx=>by
   have hp:=g.st c hc x hx
   have:=preE_0 hp
   exact⟨find_on g hp,this.2.1.1,this.1.1⟩) s.classes [] k1 rfl
  unfold sysPL
  rw[List.append_assoc,f1]
  simp only[List.length_nil,List.nil_append]at f2
  rw[f2]
  rfl
 unfold parseMR
 rw[hs,hd,hst]
 simp only[ne_eq,not_true_eq_false,if_false,end41,h]
end Go.AM
namespace Go.AM
open Go Go.Proofs
theorem pass1_skips(n:Nat):∀(ls:List PL) (i:Nat) (s:PSys) (us:List US),pass1 (ls++List.replicate n .skip) i s us=pass1 ls i s us
 | [],i,s,us=>by
  rw[List.nil_append]
  induction n generalizing i with
  | zero=>rfl
  | succ n ih=>rw[List.replicate_succ];exact(ih (i+1)).trans rfl
 | .skip :: r,i,s,us=>pass1_skips n r (i+1) s us
 | .bad :: r,i,s,us=>rfl
 | .decl k x a b :: r,i,s,us=>by
  simp only[List.cons_append,pass1]
  rw[pass1_skips n r]
 | .use k c d x :: r,i,s,us=>by
  simp only[List.cons_append,pass1]
  rw[pass1_skips n r]
theorem lineW_nil:lineW (wordsW [])=.skip:=rfl
theorem parse41_lines(t:Str):parse41 (splitC 10) t=parse41 linesW t:=by
 unfold parse41 lines41 parseM
 rw[linesW_split]
 by_cases h:(splitC 10 t).getLast?=some []
 ·rw[if_pos h]
  have e:splitC 10 t=(splitC 10 t).dropLast++[[]]:=by
   obtain⟨hne,hl⟩:=List.getLast?_eq_some_iff.1 h
   rw[hl];simp
  generalize (splitC 10 t).dropLast=l at *
  rw[e,List.map_append,List.map_singleton,lineW_nil]
  rw[show [PL.skip]=List.replicate 1 .skip from rfl,pass1_skips]
 ·rw[if_neg h]
theorem word_no10{s:Str}(h:Word s):∀b∈s,b≠10:=fun b hb=>(h.2 b hb).2
theorem sysL_no10{s:PSys}(g:Good s):∀l∈sysL s,∀b∈l,b≠10:=by
 have nmn:∀x∈namesL s,∀b∈x,b≠10:=fun x hx=>word_no10 (isNm_word (g.nms x hx))
 have num:∀n:Int,0<=n->n<=999->∀b∈Lib.itoa n,b≠10:=fun n h1 h2=>word_no10 (numOk h1 h2).word
 intro l hl
 unfold sysL at hl
 rcases List.mem_append.1 hl with hl|hl
 ·rcases List.mem_append.1 hl with hl|hl
  ·obtain⟨p,hp,rfl⟩:=List.mem_map.1 hl
   have hn:=nmn p.name (by unfold namesL;exact List.mem_append.2 (.inl (List.mem_append.2 (.inl (List.mem_map.2 ⟨p,hp,rfl⟩)))))
   obtain⟨a1,a2,a3,a4⟩:=pool_fit (g.pl p hp)
   have h1:=num p.size (by omega) (by omega)
   have h2:=num p.res (by omega) (by omega)
   intro b hb
   simp only[poolL,List.mem_append,List.mem_cons,List.not_mem_nil,or_false]at hb
   rcases hb with(hb|hb)|rfl|hb|rfl|hb
   ·rcases hb with rfl|rfl|rfl|rfl|rfl <;> decide
   ·exact hn b hb
   ·decide
   ·exact h1 b hb
   ·decide
   ·exact h2 b hb
  ·obtain⟨x,hx,rfl⟩:=List.mem_map.1 hl
   have hn:=nmn x (by unfold namesL;exact List.mem_append.2 (.inl (List.mem_append.2 (.inr hx))))
   intro b hb
   simp only[lockL,List.mem_append,List.mem_cons,List.not_mem_nil,or_false]at hb
   rcases hb with hb|hb
   ·rcases hb with rfl|rfl|rfl|rfl|rfl|rfl <;> decide
   ·exact hn b hb
 ·obtain⟨c,hc,hl⟩:=List.mem_flatMap.1 hl
  unfold clsT at hl
  rcases List.mem_cons.1 hl with rfl|hl
  ·have hn:=nmn c.name (by unfold namesL;exact List.mem_append.2 (.inr (List.mem_map.2 ⟨c,hc,rfl⟩)))
   have hw:=g.wk c hc
   have h1:=num c.workers hw.1 (by omega)
   intro b hb
   unfold clsL at hb
   simp only[List.mem_append,List.mem_cons]at hb
   rcases hb with(hb|hb)|rfl|hb
   ·cases hs:c.server <;> rw[hs]at hb
    ·simp only[Bool.false_eq_true,if_false,List.mem_cons,List.not_mem_nil,or_false]at hb
     rcases hb with rfl|rfl|rfl|rfl|rfl|rfl <;> decide
    ·simp only[if_true,List.mem_cons,List.not_mem_nil,or_false]at hb
     rcases hb with rfl|rfl|rfl|rfl|rfl|rfl|rfl <;> decide
   ·exact hn b hb
   ·decide
   ·exact h1 b hb
  ·obtain⟨x,hx,rfl⟩:=List.mem_map.1 hl
   have hp:=g.st c hc x hx
   have f:=st_fit g hp
   have hn:=nmn _ (onName_mem hp)
   have h1:=num x.cnt f.c0 f.c1
   intro b hb
   rcases List.mem_cons.1 hb with rfl|hb
   ·decide
   rcases List.mem_cons.1 hb with rfl|hb
   ·decide
   unfold stepT at hb
   have key:∀(w:Str),b∈w++onName s x->(∀y∈w,y≠10)->b≠10:=fun w hb hw=>by
    rcases List.mem_append.1 hb with hb|hb
    ·exact hw b hb
    ·exact hn b hb
   have key2:∀(w:Str),b∈w++onName s x++32 :: Lib.itoa x.cnt->(∀y∈w,y≠10)->b≠10:=fun w hb hw=>by
    rcases List.mem_append.1 hb with hb|hb
    ·exact key w hb hw
    ·rcases List.mem_cons.1 hb with rfl|hb
     ·decide
     ·exact h1 b hb
   split at hb
   ·rcases List.mem_append.1 hb with hb|hb
    ·exact key2 _ hb (by decide)
    ·split at hb
     ·simp only[List.mem_cons,List.not_mem_nil,or_false]at hb
      rcases hb with rfl|rfl|rfl|rfl|rfl <;> decide
     ·cases hb
   ·split at hb
    ·exact key2 _ hb (by decide)
    ·split at hb
     ·exact key _ hb (by decide)
     ·split at hb
      ·exact key _ hb (by decide)
      ·exact key _ hb (by decide)
theorem lines_sys{s:PSys}(g:Good s):(sysL s).map (fun l=>lineW (wordsW l))=sysPL s:=by
 unfold sysL sysPL
 have mem1:∀p∈s.pools,isNm p.name=true:=fun p hp=>g.nms _ (by unfold namesL;exact List.mem_append.2 (.inl (List.mem_append.2 (.inl (List.mem_map.2 ⟨p,hp,rfl⟩)))))
 have mem2:∀x∈s.locks,isNm x=true:=fun x hx=>g.nms _ (by unfold namesL;exact List.mem_append.2 (.inl (List.mem_append.2 (.inr hx))))
 have mem3:∀c∈s.classes,isNm c.name=true:=fun c hc=>g.nms _ (by unfold namesL;exact List.mem_append.2 (.inr (List.mem_map.2 ⟨c,hc,rfl⟩)))
 rw[List.map_append,List.map_append,List.map_map,List.map_map,List.map_flatMap]
 congr 1
 ·congr 1
  ·refine List.map_congr_left fun p hp=>?_
   obtain⟨a1,a2,a3,a4⟩:=pool_fit (g.pl p hp)
   exact lineW_pool (mem1 p hp) (by omega) (by omega) a3 (by omega)
  ·exact List.map_congr_left fun x hx=>lineW_lock (mem2 x hx)
 ·have key:∀cs:List PCls,(∀c∈cs,c∈s.classes)->(cs.flatMap fun c=>(clsT s c).map fun l=>lineW (wordsW l))=cs.flatMap (clPL s):=fun cs=>by
   induction cs with
   | nil=>intro _;rfl
   | cons c cs ih =>
    intro h
    rw[List.flatMap_cons,List.flatMap_cons,ih fun y hy=>h y (by simp[hy])]
    congr 1
    have hc:=h c (by simp)
    have hw:=g.wk c hc
    unfold clsT clPL
    rw[List.map_cons,lineW_cls (mem3 c hc) hw.1 (by omega),List.map_map]
    congr 1
    exact List.map_congr_left fun x hx=>lineW_step (st_fit g (g.st c hc x hx))
  exact key s.classes fun c hc=>hc
theorem joinL_len:∀(l:List Str) (k:Nat),(∀x∈l,x.length<=k)->(joinL l).length<=(k+1)*l.length
 | [],k,_=>by simp[joinL]
 | x :: l,k,h=>by
  have h1:=joinL_len l k fun y hy=>h y (by simp[hy])
  have h2:=h x (by simp)
  rw[joinL_cons,List.length_append,List.length_cons,List.length_cons,Nat.mul_add]
  omega
theorem sysL_len{s:PSys}(g:Good s):(∀l∈sysL s,l.length<=28)/\(sysL s).length<=88:=by
 have nmn:∀x∈namesL s,x.length<=8:=fun x hx=>(isNm_len (g.nms x hx)).2
 have num:∀n:Int,0<=n->n<=999->(Lib.itoa n).length<=3:=fun n h1 h2=>(numOk h1 h2).l3
 constructor
 ·intro l hl
  unfold sysL at hl
  rcases List.mem_append.1 hl with hl|hl
  ·rcases List.mem_append.1 hl with hl|hl
   ·obtain⟨p,hp,rfl⟩:=List.mem_map.1 hl
    have hn:=nmn p.name (by unfold namesL;exact List.mem_append.2 (.inl (List.mem_append.2 (.inl (List.mem_map.2 ⟨p,hp,rfl⟩)))))
    obtain⟨a1,a2,a3,a4⟩:=pool_fit (g.pl p hp)
    have h1:=num p.size (by omega) (by omega)
    have h2:=num p.res (by omega) (by omega)
    simp only[poolL,List.length_append,List.length_cons,List.length_nil];omega
   ·obtain⟨x,hx,rfl⟩:=List.mem_map.1 hl
    have hn:=nmn x (by unfold namesL;exact List.mem_append.2 (.inl (List.mem_append.2 (.inr hx))))
    simp only[lockL,List.length_append,List.length_cons,List.length_nil];omega
  ·obtain⟨c,hc,hl⟩:=List.mem_flatMap.1 hl
   unfold clsT at hl
   rcases List.mem_cons.1 hl with rfl|hl
   ·have hn:=nmn c.name (by unfold namesL;exact List.mem_append.2 (.inr (List.mem_map.2 ⟨c,hc,rfl⟩)))
    have hw:=g.wk c hc
    have h1:=num c.workers hw.1 (by omega)
    unfold clsL
    cases c.server <;> simp only[Bool.false_eq_true,if_false,if_true,List.length_append,List.length_cons,List.length_nil] <;> omega
   ·obtain⟨x,hx,rfl⟩:=List.mem_map.1 hl
    have hp:=g.st c hc x hx
    have f:=st_fit g hp
    have hn:=nmn _ (onName_mem hp)
    have h1:=num x.cnt f.c0 f.c1
    unfold stepT
    (repeat' split) <;> simp only[List.length_append,List.length_cons,List.length_nil] <;> omega
 ·unfold sysL
  have key:∀cs:List PCls,(∀c∈cs,c.steps.length<=12)->(cs.flatMap (clsT s)).length<=13*cs.length:=fun cs=>by
   induction cs with
   | nil=>intro _;simp
   | cons c cs ih =>
    intro h
    have h1:=ih fun y hy=>h y (by simp[hy])
    have h2:=h c (by simp)
    rw[List.flatMap_cons,List.length_append,List.length_cons]
    simp only[clsT,List.length_cons,List.length_map]
    omega
  have h1:=key s.classes g.ns
  have a:=g.np
  have b:=g.nl
  have c:=g.nc
  simp only[List.length_append,List.length_map]
  omega
theorem textS_len{s:PSys}(g:Good s):(textS s).length<=4000:=by
 obtain⟨h1,h2⟩:=sysL_len g
 have:=joinL_len (sysL s) 28 h1
 unfold textS
 omega
theorem parse_back{s:PSys}(h:checkE s=0):parse41 (splitC 10) (textS s)=(s,0,0):=by
 have g:=goodS_of h
 rw[parse41_eq,if_neg (by have:=textS_len g;omega)]
 have e:lines41 (splitC 10) (textS s)=sysPL s++[.skip]:=by
  unfold lines41 textS
  rw[joinL_split _ (sysL_no10 g),List.map_append,lines_sys g]
  rfl
 rw[e,parse_sysPL h]
theorem parse_good{lines:Str->List Str}{t:Str}(h:(parse41 lines t).2.2=0):checkE (parse41 lines t).1=0:=by
 unfold parse41 at h ⊢
 split at h
 ·simp at h
 ·rename_i h1
  rw[if_neg h1]
  unfold parseM at h ⊢
  generalize mid41 (pass1 (lines41 lines t) 0 sys0 [])=q at *
  cases q with
  | inl ne =>
   simp only[end41]at h ⊢
   decide
  | inr s =>
   simp only[end41]at h ⊢
   by_cases hc:checkE s=0
   ·rw[if_neg (fun h=>h hc)];exact hc
   ·rw[if_pos hc]at h;exact absurd h hc
theorem parse_bad{lines:Str->List Str}{t:Str}(h:(parse41 lines t).2.2≠0):(parse41 lines t).1=sys0:=by
 unfold parse41 at h ⊢
 split at h
 ·rename_i h1;rw[if_pos h1]
 ·rename_i h1
  rw[if_neg h1]
  unfold parseM at h ⊢
  generalize mid41 (pass1 (lines41 lines t) 0 sys0 [])=q at *
  cases q with
  | inl ne=>rfl
  | inr s =>
   simp only[end41]at h ⊢
   by_cases hc:checkE s=0
   ·rw[if_neg (fun h=>h hc)]at h;exact absurd rfl h
   ·rw[if_pos hc]
end Go.AM
namespace Go.AM
open Go Go.Proofs Go.Shelf
def rI:Ren where
 f:=fun x=>match x with
  | 171=>53
  | 243=>84
  | 246=>96
  | 283=>112
  | 284=>113
  | 285=>114
  | 286=>115
  | 129=>107
  | 317=>128
  | 318=>129
  | 319=>130
  | 320=>131
  | 337=>135
  | 338=>136
  | n=>n
 t:=fun x=>match x with
  | 3=>3
  | 9=>9
  | 2=>2
  | 4=>4
  | 171=>142
  | 0=>0
  | 53=>140
  | 37=>78
  | 5=>5
  | 173=>144
  | 212=>159
  | 51=>138
  | 20=>20
  | 213=>160
  | 46=>117
  | 232=>165
  | 233=>166
  | n=>n
 g:=fun x=>match x with
  | 17=>3
  | 18=>4
  | 19=>5
  | n=>n
theorem laysI:LaysM.n171 Tryz.prog rI where
 mixed:=by kernel_rfl
 f129:=Eq.trans Tryz.func107 (congrArg some (by kernel_rfl))
 f171:=Eq.trans Tryz.func53 (congrArg some (by kernel_rfl))
 f243:=Eq.trans Tryz.func84 (congrArg some (by kernel_rfl))
 f246:=Eq.trans Tryz.func96 (congrArg some (by kernel_rfl))
 f283:=Eq.trans Tryz.func112 (congrArg some (by kernel_rfl))
 f284:=Eq.trans Tryz.func113 (congrArg some (by kernel_rfl))
 f285:=Eq.trans Tryz.func114 (congrArg some (by kernel_rfl))
 f286:=Eq.trans Tryz.func115 (congrArg some (by kernel_rfl))
 f317:=Eq.trans Tryz.func128 (congrArg some (by kernel_rfl))
 f318:=Eq.trans Tryz.func129 (congrArg some (by kernel_rfl))
 f319:=Eq.trans Tryz.func130 (congrArg some (by kernel_rfl))
 f320:=Eq.trans Tryz.func131 (congrArg some (by kernel_rfl))
 f337:=Eq.trans Tryz.func135 (congrArg some (by kernel_rfl))
 f338:=Eq.trans Tryz.func136 (congrArg some (by kernel_rfl))
 t0:=Tryz.underlying0
 a0:=Tryz.isAgg0
 z0:=Tryz.sizeOf0
 v0:=Tryz.zeroValue0
 t2:=Tryz.underlying2
 a2:=Tryz.isAgg2
 z2:=Tryz.sizeOf2
 v2:=Tryz.zeroValue2
 t3:=Tryz.underlying3
 a3:=Tryz.isAgg3
 z3:=Tryz.sizeOf3
 v3:=Tryz.zeroValue3
 t4:=Tryz.underlying4
 a4:=Tryz.isAgg4
 z4:=Tryz.sizeOf4
 v4:=Tryz.zeroValue4
 t5:=Tryz.underlying5
 a5:=Tryz.isAgg5
 z5:=Tryz.sizeOf5
 v5:=Tryz.zeroValue5
 t9:=Tryz.underlying9
 a9:=Tryz.isAgg9
 z9:=Tryz.sizeOf9
 v9:=Tryz.zeroValue9
 t20:=Tryz.underlying20
 a20:=Tryz.isAgg20
 z20:=Tryz.sizeOf20
 v20:=Tryz.zeroValue20
 t37:=Tryz.underlying78
 a37:=Tryz.isAgg78
 z37:=Tryz.sizeOf78
 v37:=Tryz.zeroValue78
 t46:=Tryz.underlying117
 a46:=Tryz.isAgg117
 z46:=Tryz.sizeOf117
 v46:=Tryz.zeroValue117
 t51:=Tryz.underlying138
 a51:=Tryz.isAgg138
 z51:=Tryz.sizeOf138
 v51:=Tryz.zeroValue138
 t53:=Tryz.underlying140
 a53:=Tryz.isAgg140
 z53:=Tryz.sizeOf140
 v53:=Tryz.zeroValue140
 t171:=Tryz.underlying142
 a171:=Tryz.isAgg142
 z171:=Tryz.sizeOf142
 v171:=Tryz.zeroValue142
 t173:=Tryz.underlying144
 a173:=Tryz.isAgg144
 z173:=Tryz.sizeOf144
 v173:=Tryz.zeroValue144
 t212:=Tryz.underlying159
 a212:=Tryz.isAgg159
 z212:=Tryz.sizeOf159
 v212:=Tryz.zeroValue159
 t213:=Tryz.underlying160
 a213:=Tryz.isAgg160
 z213:=Tryz.sizeOf160
 t232:=Tryz.underlying165
 a232:=Tryz.isAgg165
 z232:=Tryz.sizeOf165
 v232:=Tryz.zeroValue165
 t233:=Tryz.underlying166
 a233:=Tryz.isAgg166
 z233:=Tryz.sizeOf166
 v233:=Tryz.zeroValue166
 g17:=by kernel_rfl
 g18:=by kernel_rfl
 g19:=by kernel_rfl
 i0:=by kernel_rfl
 i2:=by kernel_rfl
 i3:=by kernel_rfl
 i4:=by kernel_rfl
 i5:=by kernel_rfl
 i9:=by kernel_rfl
 i20:=by kernel_rfl
 i37:=by kernel_rfl
 i46:=by kernel_rfl
 i51:=by kernel_rfl
 i53:=by kernel_rfl
 i171:=by kernel_rfl
 i173:=by kernel_rfl
 i212:=by kernel_rfl
 i232:=by kernel_rfl
 i233:=by kernel_rfl
 m17:=by kernel_rfl
 m18:=by kernel_rfl
 m19:=by kernel_rfl
end Go.AM
namespace Go.AM
open Go Go.Proofs
theorem After.grown{F:Nat->Prop}{φ:Nat->Option Loc}{own:List Obj}{w:World}(hc:Conc F φ own w)(k:Nat)(os:Array Go.Obj):After F φ w F φ own (Go.Sort.grow (w.drewN k) os) []:=by
 have hold:∀b,b<w.heap.size->(Go.Sort.grow (w.drewN k) os).heap[b]?=w.heap[b]?:=fun b hb=>by
  show (w.heap++os)[b]?=w.heap[b]?
  rw[Array.getElem?_append_left hb]
 have hsz:w.heap.size<=(Go.Sort.grow (w.drewN k) os).heap.size:=by
  show w.heap.size<=(w.heap++os).size
  simp
 exact⟨fun _ h=>h,⟨rfl,rfl,rfl,hsz,fun b hb=>hold b (hc.fb b hb)⟩,hc.beside hsz (fun b hb=>hold b (hc.fb b hb)) (fun o L h hn=>hold _ (hc.live o L h hn).2),fun _ _ _ h=>h,fun b hb _=>hold b hb,
  fun o L' ho hn=>.inr ⟨o,L',ho,hn,rfl⟩,fun b hb=>.inl hb⟩
theorem Cs_ints{F:Nat->Prop}{w:World}{k:IntKind}:∀(l:List Int) (cs:List Value),D.Cs F w (l.map (D.int k)) cs->cs=l.map (Value.int k)
 | [],cs,h=>by simpa only[List.map_nil,D.Cs] using h
 | z :: l,cs,h=>by
  simp only[List.map_cons,D.Cs]at h
  obtain⟨c,cs',rfl,_,h1,h2⟩:=h
  rw[Cs_ints l cs' h2]
  simp only[D.C,List.cons.injEq]at h1
  simp only[List.map_cons,h1.1.1]
def itoaR(ds:List D)(v:AV):Prop:=∃n:Int,ds=[.int .i64 n]/\-9223372036854775808<=n/\n<=9223372036854775807/\v=.dat (.str (Lib.itoa n))
theorem itoa_ok:OkF Tryz.prog 53 (dataC itoaR):=by
 rintro args own v own' mv ⟨ds,hds,⟨n,rfl,h0,h1,rfl⟩,rfl,rfl,_⟩
 refine⟨⟨_,_,Tryz.func53,rfl,by decide⟩,fun F φ w vs hc hs=>?_⟩
 obtain⟨x,rfl⟩:∃x,args=[x]:=by
  match args,hds with
  | [x],_=>exact⟨x,rfl⟩
  | [],h=>simp[asDL]at h
  | x :: y :: r,h =>
   simp only[asDL,Option.bind_eq_some_iff,Option.map_eq_some_iff,List.cons.injEq]at h
   obtain⟨d,_,ds',⟨d',_,ds'',_,rfl⟩,h2⟩:=h
   simp at h2
 simp only[asDL,Option.bind_eq_some_iff,Option.map_eq_some_iff,List.cons.injEq,Option.some.injEq,exists_eq_left,and_true]at hds
 obtain⟨d,hd,ds',rfl,rfl,_⟩:=hds
 obtain rfl:x=.dat (.int .i64 n):=by
  cases x <;> simp[AV.asD]at hd
  all_goals first|exact congrArg AV.dat hd|(split at hd <;> simp at hd;try (obtain⟨_,h⟩:=hd;cases h))|skip
  all_goals trace_state
 simp only[AV.Rs,AV.R,D.R]at hs
 obtain⟨c,vs',rfl,hcn,rfl⟩:=hs
 obtain⟨cs,g1,g2,g3,g4,g5,ty,fr,g6⟩:=hc.glob 3 _ _ rfl
 simp only[D.C]at g5
 have hcs:=Cs_ints _ _ g5
 have htab : Lib.TabIs Tryz.prog w "internal/strconv.uint64pow10" .u64 Lib.pow10Tab := by
  unfold Lib.TabIs World.var?
  rw [show Tryz.prog.globalNamed "internal/strconv.uint64pow10" = some 3 by kernel_rfl]
  simp only[Option.bind_some,g6,hcs]
 have hcall:=Any.strconv_Itoa laysI n h0 h1 w htab
 have ef:rI.f 171=53:=rfl
 rw[ef]at hcall
 have ev:#[Value.int .i64 n]=[c].toArray:=by rw[hcn.1]
 rw[ev]at hcall
 refine hcall.mono ?_
 rintro e w' ⟨rfl,k,os,rfl⟩
 exact⟨_,F,φ,rfl,After.grown hc k os,by simp only[AV.R,D.R,D.C];exact⟨trivial,Nat.le_trans (Lib.itoa_length_le n h0 h1) (by decide)⟩⟩
end Go.AM
namespace Go.AM
open Go Go.Proofs
theorem mem_ix{α:Type}{l:List α}{x:α}(k:Nat)(h:l[k]?=some x):x∈l:=List.mem_of_getElem? h
theorem splitC_count(c:UInt8):∀s:Str,(splitC c s).length=s.count c+1
 | []=>rfl
 | b :: t=>by
  have ih:=splitC_count c t
  rw[splitC_cons,List.count_cons]
  by_cases h:b=c
  ·rw[if_pos h,List.length_cons,ih];simp[h]
  ·rw[if_neg h]
   cases hs:splitC c t with
   | nil=>exact absurd hs (splitC_ne c t)
   | cons x r=>rw[hs]at ih;simp only[List.length_cons]at ih ⊢;simp[h];omega
end Go.AM
namespace Go.AM
open Go Go.Proofs
theorem pnumber_ok:OkF Tryz.prog 76 (dataC numR):=by
 refine okF_data Tryz.func76 rfl (by decide) ?_
 rintro ds v ⟨s,rfl,hmx,rfl⟩
 generalize hv:numN s=V
 refine sem_of_awpK [5] (Γ:=tbl []) okG_nil _ _ _ ?_
 by_cases h1:s.length<1
 ·have h1':(s.length:Int)<1:=by omega
  simp only[go_sem,Tryz.ntmps76,h1',decide_true]
  have:V=-1:=by rw[← hv];simp only[numN,h1,true_or,if_true]
  subst this
  exact post_data (.inl rfl) [2] rfl trivial rfl
 have h1':¬(s.length:Int)<1:=by omega
 by_cases h2:3<s.length
 ·have h2':(3:Int)<s.length:=by omega
  simp only[go_sem,Tryz.ntmps76,h1',h2',decide_true,decide_false]
  have:V=-1:=by rw[← hv];simp only[numN,h2,true_or,or_true,if_true]
  subst this
  exact post_data (.inl rfl) [2] rfl trivial rfl
 have h2':¬(3:Int)<s.length:=by omega
 have hc48:∀b:UInt8,((b.toNat:Int)=48)=(b=48):=fun b=>by
  apply propext
  constructor
  ·intro h
   have h':b.toNat=48:=by omega
   exact UInt8.toNat_inj.1 (by simpa using h')
  ·rintro rfl;rfl
 have hV:¬(1<s.length/\s.getD 0 0=48)->V=if s.all digc then numF s else -1:=fun h=>by
  rw[← hv];unfold numN;rw[if_neg (by simp only[h1,h2,h,or_self,not_false_eq_true])]
 have h00:(0:Int)<s.length:=by omega
 by_cases h4:s.getD 0 0=48
 case' pos =>
  by_cases h3:1<s.length
  ·have h3':(1:Int)<s.length:=by omega
   simp only[go_sem,Tryz.ntmps76,h1',h2',h3',h00,decide_true,decide_false,hc48,h4]
   have:V=-1:=by rw[← hv];simp only[numN,h3,h4,and_self,or_true,if_true]
   subst this
   exact post_data (.inl rfl) [2] rfl trivial rfl
  have h3':¬(1:Int)<s.length:=by omega
  have hne:¬(1<s.length/\s.getD 0 0=48):=fun h=>h3 h.1
  simp only[go_sem,Tryz.ntmps76,h1',h2',h3',h00,decide_true,decide_false,hc48,h4]
 case' neg =>
  have hne:¬(1<s.length/\s.getD 0 0=48):=fun h=>h4 h.2
  simp only[go_sem,Tryz.ntmps76,h1',h2',h00,decide_true,decide_false,hc48,h4]
 all_goals
  have hV':=hV hne
  refine sem_loop (fun k:Nat=>⟨slotsOf 48 [(0,.dat (.str s)),(3,.dat (.int .i64 (numF (s.take k)))),(24,.dat (.int .i64 s.length)),(25,.dat (.int .i64 k))],[],0,[]⟩)
   (fun k=>k<=s.length/\(s.take k).all digc=true) (fun k=>s.length - k) 0 ⟨Nat.zero_le _,by simp⟩ ?_ ?_
  ·simp only[List.take_zero]
   exact le_slots' (by simp only[go_sem,numF,List.foldl_nil])
  rintro k ⟨hk,hall⟩
  refine sem_of_awp (Γ:=tbl []) okG_nil _ _ _ ?_
  by_cases hlt:k<s.length
  ·have k1:(k:Int)<(s.length:Int):=by omega
   have k2:(0:Int)<=(k:Int):=by omega
   have htk:s.take (k+1)=s.take k++[s.getD k 0]:=by
    rw[List.take_succ_eq_append_getElem hlt,List.getD_eq_getElem?_getD,List.getElem?_eq_getElem hlt];rfl
   have hb:=numF_bound (s.take k) (by rw[List.length_take];omega) hall
   by_cases d1:((s.getD k 0).toNat:Int)<48
   ·simp only[go_sem,k1,k2,d1,decide_true,Int.toNat_natCast]
    have:V=-1:=by
     rw[hV',if_neg]
     intro ha
     have:=List.all_eq_true.1 ha (s.getD k 0) (by rw[List.getD_eq_getElem?_getD,List.getElem?_eq_getElem hlt];exact List.getElem_mem hlt)
     exact(digc_iff.1 this).1 d1
    subst this
    exact post_data (.inl rfl) [2] rfl trivial rfl
   by_cases d2:(57:Int)<((s.getD k 0).toNat:Int)
   ·simp only[go_sem,k1,k2,d1,d2,decide_true,decide_false,Int.toNat_natCast]
    have:V=-1:=by
     rw[hV',if_neg]
     intro ha
     have:=List.all_eq_true.1 ha (s.getD k 0) (by rw[List.getD_eq_getElem?_getD,List.getElem?_eq_getElem hlt];exact List.getElem_mem hlt)
     exact(digc_iff.1 this).2 d2
    subst this
    exact post_data (.inl rfl) [2] rfl trivial rfl
   have hdg:digc (s.getD k 0)=true:=digc_iff.2 ⟨d1,d2⟩
   simp only[go_sem,k1,k2,d1,d2,decide_true,decide_false,Int.toNat_natCast]
   have hw:=wrap_u8 (n:=((s.getD k 0).toNat:Int) - 48) (by omega) (by omega)
   refine⟨inR_i64.2 (by omega),?_⟩
   simp only[go_sem,bin_sub8,hw]
   have hall':(s.take (k+1)).all digc=true:=by rw[htk];simp only[List.all_append,hall,List.all_cons,List.all_nil,hdg,Bool.and_self]
   refine⟨inR_i64.2 (by omega),inR_i64.2 (by omega),inR_i64.2 (by omega),k+1,⟨by omega,hall'⟩,by omega,?_⟩
   rw[htk,numF_snoc]
   exact le_slots' (by simp only[go_sem,Int.natCast_add,Int.natCast_one,Int.cast_ofNat_Int])
  ·have k1:¬(k:Int)<(s.length:Int):=by omega
   have hke:k=s.length:=by omega
   subst hke
   rw[List.take_length]at hall
   simp only[go_sem,k1,decide_false,List.take_length]
   have:V=numF s:=by rw[hV',if_pos hall]
   rw[this]
   exact post_data (.inl rfl) [2] rfl trivial rfl
def kindP(w:Str):Nat:=if w=[116,97,107,101] then 1 else if w=[103,105,118,101] then 2 else if w=[108,111,99,107] then 3 else if w=[117,110,108,111,99,107] then 4 else if w=[99,97,108,108] then 5 else 0
def kindPR(ds:List D)(v:AV):Prop:=∃s:Str,ds=[.str s]/\v=.dat (.int .i64 (kindP s))
theorem pkind_ok:OkF Tryz.prog 77 (dataC kindPR):=by
 refine okF_data Tryz.func77 rfl (by decide) ?_
 rintro ds v ⟨s,rfl,rfl⟩
 generalize hv:kindP s=V
 unfold kindP at hv
 refine sem_of_awp (Γ:=tbl []) okG_nil _ _ _ ?_
 by_cases h1:s=[116,97,107,101]
 ·rw[if_pos h1]at hv;subst hv
  simp only[go_sem,Tryz.ntmps77,eq_true h1,decide_true]
  exact post_data (.inl rfl) [2] rfl trivial rfl
 rw[if_neg h1]at hv
 by_cases h2:s=[103,105,118,101]
 ·rw[if_pos h2]at hv;subst hv
  simp only[go_sem,Tryz.ntmps77,eq_false h1,eq_true h2,decide_true,decide_false]
  exact post_data (.inl rfl) [2] rfl trivial rfl
 rw[if_neg h2]at hv
 by_cases h3:s=[108,111,99,107]
 ·rw[if_pos h3]at hv;subst hv
  simp only[go_sem,Tryz.ntmps77,eq_false h1,eq_false h2,eq_true h3,decide_true,decide_false]
  exact post_data (.inl rfl) [2] rfl trivial rfl
 rw[if_neg h3]at hv
 by_cases h4:s=[117,110,108,111,99,107]
 ·rw[if_pos h4]at hv;subst hv
  simp only[go_sem,Tryz.ntmps77,eq_false h1,eq_false h2,eq_false h3,eq_true h4,decide_true,decide_false]
  exact post_data (.inl rfl) [2] rfl trivial rfl
 rw[if_neg h4]at hv
 by_cases h5:s=[99,97,108,108]
 ·rw[if_pos h5]at hv;subst hv
  simp only[go_sem,Tryz.ntmps77,eq_false h1,eq_false h2,eq_false h3,eq_false h4,eq_true h5,decide_true,decide_false]
  exact post_data (.inl rfl) [2] rfl trivial rfl
 rw[if_neg h5]at hv;subst hv
 simp only[go_sem,Tryz.ntmps77,eq_false h1,eq_false h2,eq_false h3,eq_false h4,eq_false h5,decide_true,decide_false]
 exact post_data (.inl rfl) [2] rfl trivial rfl
end Go.AM
namespace Go.AM
open Go Go.Proofs
theorem ext_count(s:Str)(c:UInt8):ExtOk Tryz.prog 127 [.dat (.str s),.dat (.int .u8 c.toNat)] (.dat (.int .i64 (s.count c))):=by
 refine ext_of (e:=Extern.BytealgCount.count) Tryz.func127 (by decide) rfl (by kernel_rfl) (by kernel_rfl) ?_
 intro F φ w vs hs
 simp only[AV.Rs]at hs
 obtain⟨v1,r1,rfl,h1,v2,r2,rfl,h2,rfl⟩:=hs
 obtain⟨rfl,hl⟩:=R_str.1 h1
 obtain⟨rfl,_⟩:=R_int.1 h2
 refine⟨_,Lib.run_countString _ _ _,?_⟩
 have e:((c.toNat:Nat):Int).toNat.toUInt8=c:=by simp
 rw[e]
 have:=List.count_le_length (a:=c) (l:=s)
 simp only[maxLen]at hl
 exact R_int.2 ⟨rfl,inR_i64.2 (by show -9223372036854775808<=((s.count c:Nat):Int)/\((s.count c:Nat):Int)<=9223372036854775807;omega)⟩
def cntR(ds:List D)(v:AV):Prop:=∃(s:Str) (c:UInt8),ds=[.str s,.str [c]]/\v=.dat (.int .i64 (s.count c))
theorem count_ok:OkF Tryz.prog 111 (dataC cntR):=by
 refine okF_data Tryz.func111 rfl (by decide) ?_
 rintro ds v ⟨s,c,rfl,rfl⟩
 refine sem_of_awpK [4] (Γ:=tbl []) okG_nil _ _ _ ?_
 simp only[go_sem,Tryz.ntmps111,List.length_cons,List.length_nil,eq_self,decide_true]
 refine sem_regionE (Γ:=tbl []) okG_nil ?_
 refine .inr ?_
 simp only[go_sem]
 refine .inr ?_
 simp only[go_sem]
 refine .inr ?_
 simp only[go_sem,List.length_cons,List.length_nil]
 refine .inl ?_
 refine⟨_,ext_count s c,?_⟩
 simp only[go_sem]
 refine .inr ?_
 simp only[go_sem]
 exact post_data (.inl rfl) [4] rfl trivial rfl
def gspR(ds:List D)(xs:List D):Prop:=∃(s:Str) (c:UInt8),ds=[.str s,.str [c],.int .i64 0,.int .i64 (-1)]/\s.length<=1000000/\xs=(splitC c s).map .str
abbrev tabGs:List (Nat×Contract):=[(111,dataC cntR),(92,dataC idxTR)]
theorem tabGs_ok:OkG Tryz.prog (tbl tabGs):=okG_cons count_ok (okG_cons strIndex_ok okG_nil)
theorem genSplit_ok:OkF Tryz.prog 94 (madeC (madeS none gspR)):=by
 refine okF_made Tryz.func94 rfl (by decide) ?_
 rintro ds v ob ⟨xs,⟨s,c,rfl,hmx,rfl⟩,rfl,rfl⟩
 have hcl:=List.count_le_length (a:=c) (l:=s)
 have hsc:=splitC_count c s
 refine sem_of_awp (Γ:=tbl tabGs) tabGs_ok _ _ _ ?_
 have c0:([c]=([]:Str))=False:=by simp
 have m1:((-1:Int)=0)=False:=by simp
 have m2:((-1:Int)<0)=True:=by simp
 simp only[go_sem,Tryz.ntmps94,c0,m1,m2,decide_true,decide_false]
 refine call_data cntR (mem_ix 0 rfl) [.str s,.str [c]] _ rfl ⟨s,c,rfl,rfl⟩ (.inl rfl) ?_
 have hmin:min ((s.count c:Int)+1) ((s.length:Int)+1)=((s.count c+1:Nat):Int):=by omega
 have hm1:((s.count c+1:Nat):Int) - 1=((s.count c:Nat):Int):=by omega
 simp only[go_sem,hmin,hm1,Int.toNat_natCast]
 refine⟨inR_i64.2 (by omega),inR_i64.2 (by omega),Int.le_refl _,by omega,inR_i64.2 (by omega),?_⟩
 refine sem_loop (fun x:Nat×Str=>⟨slotsOf 66 [(0,.dat (.str x.2)),(1,.dat (.str [c])),(2,.dat (.int .i64 0)),(3,.dat (.int .i64 (s.count c:Nat))),(9,.sl 0 0 (s.count c+1)),(10,.dat (.int .i64 x.1))],[.row none (((splitC c s).take x.1).map D.str++List.replicate (s.count c+1 - x.1) (.str []))],0,[]⟩)
  (fun x=>x.1<=s.count c/\splitC c x.2=(splitC c s).drop x.1/\x.2.length<=s.length) (fun x=>s.count c - x.1) (0,s) ⟨Nat.zero_le _,rfl,Nat.le_refl _⟩ ?_ ?_
 ·exact le_slots' (by simp only[go_sem,Int.natCast_zero,List.take_zero,List.map_nil,List.nil_append,Nat.sub_zero])
 rintro ⟨i,r⟩ ⟨h1,h2,h3⟩
 simp only at h1 h2 h3
 refine sem_of_awp (Γ:=tbl tabGs) tabGs_ok _ _ _ ?_
 have hrc:=splitC_count c r
 have hdl:(splitC c r).length=s.count c+1 - i:=by rw[h2,List.length_drop,hsc]
 have htl:(((splitC c s).take i).map D.str).length=i:=by rw[List.length_map,List.length_take,hsc];omega
 by_cases hi:i<s.count c
 ·have k1:(i:Int)<((s.count c:Nat):Int):=by omega
  simp only[go_sem,k1,decide_true]
  refine call_data idxTR (mem_ix 1 rfl) [.str r,.str [c]] _ rfl ⟨r,c,rfl,rfl⟩ (.inl rfl) ?_
  have hge:0<=idxB r c:=by
   rcases Int.lt_or_le (idxB r c) 0 with h|h
   ·have:=splitC_none h
    rw[this]at hdl;simp at hdl;omega
   ·exact h
  obtain⟨m,hm⟩:∃m:Nat,idxB r c=m:=⟨(idxB r c).toNat,by omega⟩
  have hml:m<r.length:=by
   rcases idxB_lt c r with h|⟨_,h⟩ <;> rw[hm]at h <;> omega
  have hsp:=splitC_some hm
  have hdc:(splitC c s).drop i=r.take m :: splitC c (r.drop (m+1)):=by rw[← h2,hsp]
  have hdr:(splitC c s).drop (i+1)=splitC c (r.drop (m+1)):=by
   have:=congrArg (List.drop 1) hdc
   rw[List.drop_drop]at this
   rw[this];rfl
  have htk:(splitC c s).take (i+1)=(splitC c s).take i++[r.take m]:=take_of_drop hdc
  have m3:(m:Int)+0=m:=by omega
  simp only[go_sem,hm,eq_false (show ¬((m:Nat):Int)<0 by omega),decide_false,m3,Int.toNat_natCast]
  have e1:((m:Int)+1).toNat=m+1:=by omega
  have e2:((r.length:Int) - ((m:Int)+1)).toNat=r.length - (m+1):=by omega
  have e3:(r.drop (m+1)).take (r.length - (m+1))=r.drop (m+1):=List.take_of_length_le (by simp)
  refine⟨inR_i64.2 (by omega),by omega,by omega,by rw[List.length_map]at htl;omega,inR_i64.2 (by omega),by omega,by omega,Int.le_refl _,inR_i64.2 (by omega),(i+1,r.drop (m+1)),⟨by simp only;omega,hdr.symm,by simp only[List.length_drop];omega⟩,by simp only;omega,?_⟩
  have e4:((m:Int) - 0).toNat=m:=by omega
  rw[e1,e2,e3,e4]
  have hrow:(((splitC c s).take i).map D.str++List.replicate (s.count c+1 - i) (D.str [])).set i (.str (r.take m))=((splitC c s).take (i+1)).map D.str++List.replicate (s.count c+1 - (i+1)) (.str []):=by
   obtain⟨k,hk⟩:∃k,s.count c+1 - i=k+1:=⟨s.count c - i,by omega⟩
   rw[hk,show s.count c+1 - (i+1)=k by omega,htk,List.map_append,List.replicate_succ,List.set_append_right _ _ (by omega),htl,Nat.sub_self]
   simp
  rw[hrow]
  exact le_slots' (by simp only[go_sem,Int.natCast_add,Int.cast_ofNat_Int])
 ·have k1:¬(i:Int)<((s.count c:Nat):Int):=by omega
  have hie:i=s.count c:=by omega
  have hr1:splitC c r=[r]:=by
   refine splitC_none' r fun b hb e=>?_
   subst e
   have:=List.count_pos_iff.2 hb
   omega
  have hall:splitC c s=(splitC c s).take i++[r]:=by
   rw[← hr1,h2,List.take_append_drop]
  simp only[go_sem,k1,decide_false,Int.toNat_natCast]
  have e1:((i:Int)+1 - 0).toNat=(splitC c s).length:=by rw[hsc];omega
  have hrow:(((splitC c s).take i).map D.str++List.replicate (s.count c+1 - i) (D.str [])).set i (.str r)=(splitC c s).map D.str:=by
   rw[show s.count c+1 - i=0+1 by omega,List.replicate_succ,List.set_append_right _ _ (by omega),htl,Nat.sub_self]
   conv=>rhs;rw[hall]
   simp
  refine⟨by omega,by rw[List.length_map]at htl;omega,inR_i64.2 (by omega),by omega,by omega,?_⟩
  rw[e1,hrow]
  exact post_own (.inl rfl) [8] rfl rfl (fun _ h=>h)
end Go.AM
namespace Go.AM
open Go Go.Proofs
def splR(ds:List D)(xs:List D):Prop:=∃(s:Str) (c:UInt8),ds=[.str s,.str [c]]/\s.length<=1000000/\xs=(splitC c s).map .str
theorem split_ok:OkF Tryz.prog 74 (madeC (madeS none splR)):=by
 refine okF_made Tryz.func74 rfl (by decide) ?_
 rintro ds v ob ⟨xs,⟨s,c,rfl,hmx,rfl⟩,rfl,rfl⟩
 refine sem_of_awp (Γ:=tbl [(94,madeC (madeS none gspR))]) (okG_cons genSplit_ok okG_nil) _ _ _ ?_
 simp only[go_sem,Tryz.ntmps74]
 refine call_made (madeS none gspR) (mem_ix 0 rfl) [.str s,.str [c],.int .i64 0,.int .i64 (-1)] _ _ rfl rfl ⟨_,⟨s,c,rfl,hmx,rfl⟩,rfl,rfl⟩ ?_
 simp only[go_sem,AV.shift,Obj.shift,AV.shifts,List.map_cons,List.map_nil,List.nil_append,List.length_nil,Nat.zero_add]
 exact post_own (.inl rfl) [4] rfl rfl (fun _ h=>h)
def isER(ds:List D)(v:AV):Prop:=∃s:Str,ds=[.str s]/\v=.dat (.bool (decide (s=[])))
theorem isE_ok:OkF Tryz.prog 75 (dataC isER):=by
 refine okF_data Tryz.func75 rfl (by decide) ?_
 rintro ds v ⟨s,rfl,rfl⟩
 refine sem_of_awp (Γ:=tbl []) okG_nil _ _ _ ?_
 simp only[go_sem,Tryz.ntmps75]
 exact post_data (.inl rfl) [2] rfl trivial rfl
abbrev strsD(l:List Str):List D:=l.map .str
def idxER(xs:List AV)(obs:List Obj)(v0:AV)(obs' ex:List Obj)(mv0:List Nat):Prop:=∃u:List Str,u.length<=2000000/\xs=[.sl 0 0 u.length,.fn 75 []]/\obs=[.row none (strsD u)]/\v0=.dat (.int .i64 (idxG [] 0 u))/\obs'=[.row none (strsD u)]/\ex=[]/\mv0=[]
abbrev tabIE:List (Nat×Contract):=[(75,dataC isER)]
theorem tabIE_ok:OkG Tryz.prog (tbl tabIE):=okG_cons isE_ok okG_nil
theorem idxE_ok:OkF Tryz.prog 93 (lentC idxER):=by
 refine okF_lent Tryz.func93 rfl (by decide) ?_
 rintro xs obs v0 obs' ex mv0 ⟨u,hu,rfl,rfl,rfl,rfl,rfl,rfl⟩
 generalize hv:idxG [] 0 u=V
 refine sem_of_awp (Γ:=tbl tabIE) tabIE_ok _ _ _ ?_
 have fin:∀s (b c:Int),b=c->s.getD 4 .top=.dat (.int .i64 b)->post Tryz.prog Tryz.f93 (.dat (.int .i64 c)) ([.row none (strsD u)]++[]) [] .ret ⟨s,[.row none (strsD u)],1,[]⟩:=fun s b c e h=>by
  subst e
  refine post_resO (.inl rfl) [.tmp 4] rfl (fun _ h=>h) ?_
  simp only[go_sem,h]
  exact Le.refl _
 simp only[go_sem,Tryz.ntmps93]
 refine sem_loop (fun k:Nat=>⟨slotsOf 19 [(0,.sl 0 0 u.length),(1,.fn 75 []),(4,.dat (.int .i64 0)),(7,.dat (.int .i64 u.length)),(8,.dat (.int .i64 k))],[.row none (strsD u)],1,[]⟩)
  (fun k=>k<=u.length/\idxG [] k (u.drop k)=V) (fun k=>u.length - k) 0 ⟨Nat.zero_le _,hv⟩ ?_ ?_
 ·exact le_slots' (by simp only[go_sem,Int.natCast_zero])
 ·rintro k ⟨hk,hI⟩
  refine sem_of_awp (Γ:=tbl tabIE) tabIE_ok _ _ _ ?_
  cases hd:u.drop k with
  | nil =>
   have:=end_of_drop hd hk
   have hk2:¬(k:Int)<u.length:=by omega
   simp only[go_sem,hk2,decide_false]
   refine fin _ _ _ ?_ (by rfl)
   rw[← hI,hd];rfl
  | cons c q =>
   have hlt:=lt_of_drop hd
   have hk2:(k:Int)<u.length:=by omega
   have hk0:(0:Int)<=k:=Int.natCast_nonneg k
   have hn:=nth_of_drop (f:=D.str) hd
   rw[hd,idxG]at hI
   simp only[go_sem,hk2,hk0,hn,hlt,decide_true]
   refine call_data isER (mem_ix 0 rfl) _ _ rfl ⟨c,rfl,rfl⟩ (.inl rfl) ?_
   by_cases he:c=[]
   ·subst he
    simp only[go_sem,decide_true]
    rw[if_pos rfl]at hI
    exact fin _ _ _ hI (by rfl)
   ·simp only[go_sem,he,decide_false]
    rw[if_neg (fun h=>he h.symm)]at hI
    refine⟨inR_i64.2 (by omega),k+1,⟨by omega,by rw[drop_cons hd];exact hI⟩,by omega,?_⟩
    exact le_slots' (by simp only[go_sem,Int.natCast_add,Int.cast_ofNat_Int])
def nonE(w:Str):Bool:=!decide (w=[])
def delR(xs:List AV)(obs:List Obj)(v0:AV)(obs' ex:List Obj)(mv0:List Nat):Prop:=∃u:List Str,u.length<=2000000/\xs=[.sl 0 0 u.length,.fn 75 []]/\obs=[.row none (strsD u)] /\
 v0=.sl 0 0 (u.filter nonE).length/\obs'=[.row none (strsD (u.filter nonE))]/\ex=[]/\mv0=[]
theorem idxG_first{u:List Str}:∀{k:Nat} {v:Int},idxG [] k u=v->(v=-1/\u.filter nonE=u)∨∃i:Nat,v=((k+i:Nat):Int)/\i<u.length/\(u.take i).filter nonE=u.take i/\u.getD i []=[]:=by
 induction u with
 | nil=>intro k v h;exact .inl ⟨h.symm,rfl⟩
 | cons y r ih =>
  intro k v h
  rw[idxG]at h
  by_cases hy:([]:Str)=y
  ·rw[if_pos hy]at h
   exact .inr ⟨0,by simpa using h.symm,by simp,rfl,by simp[← hy]⟩
  ·rw[if_neg hy]at h
   have hn:nonE y=true:=by simp[nonE];exact fun e=>hy e.symm
   rcases ih h with⟨h1,h2⟩|⟨i,h1,h2,h3,h4⟩
   ·exact .inl ⟨h1,by rw[List.filter_cons,if_pos hn,h2]⟩
   ·exact .inr ⟨i+1,by omega,by simpa using h2,by rw[List.take_succ_cons,List.filter_cons,if_pos hn,h3],by simpa using h4⟩
abbrev tabDf:List (Nat×Contract):=[(75,dataC isER),(93,lentC idxER)]
theorem tabDf_ok:OkG Tryz.prog (tbl tabDf):=okG_cons isE_ok (okG_cons idxE_ok okG_nil)
theorem deleteFunc_ok:OkF Tryz.prog 73 (lentC delR):=by
 refine okF_lent Tryz.func73 rfl (by decide) ?_
 rintro xs obs v0 obs' ex mv0 ⟨u,hu,rfl,rfl,rfl,rfl,rfl,rfl⟩
 refine sem_of_awp (Γ:=tbl tabDf) tabDf_ok _ _ _ ?_
 simp only[go_sem,Tryz.ntmps73]
 refine call_lent idxER (mem_ix 1 rfl) [0] ⟨u,hu,rfl,rfl,rfl,rfl,rfl,rfl⟩ (by decide) (by simp) rfl rfl rfl (by simp only[go_sem,AV.unders,AV.under]) (by simp only[List.mem_singleton,forall_eq];trivial) (fun j hj=>by
    obtain rfl:j=0:=by simp at hj;exact hj
    rfl) ?_
 have fin:∀s (x y:List Str),x=y->s.getD 4 .top=.sl 0 0 x.length->post Tryz.prog Tryz.f73 (.sl 0 0 y.length) ([.row none (strsD y)]++[]) [] .ret ⟨s,[.row none (strsD x)],1,[]⟩:=fun s x y e h=>by
  subst e
  refine post_resO (.inl rfl) [.tmp 4] rfl (fun _ h=>h) ?_
  simp only[go_sem,h]
  exact Le.refl _
 rcases idxG_first (k:=0) (u:=u) rfl with⟨h1,h2⟩|⟨i0,h1,h2,h3,h4⟩
 ·simp only[go_sem,h1,eq_self,decide_true]
  exact fin _ _ _ h2.symm rfl
 ·rw[Nat.zero_add]at h1
  have hne:=eq_false (show ¬((i0:Nat):Int)=-1 by omega)
  simp only[go_sem,h1,hne,decide_false]
  refine⟨inR_i64.2 (by omega),?_⟩
  refine sem_loop (fun x:Nat×Nat×List Str=>⟨slotsOf 42 [(0,.sl 0 0 u.length),(1,.fn 75 []),(5,.dat (.int .i64 x.1)),(6,.dat (.int .i64 x.2.1))],[.row none (strsD x.2.2)],1,[]⟩)
   (fun x=>x.1<x.2.1/\x.2.1<=u.length/\x.2.2.length=u.length/\x.2.2.take x.1=(u.take x.2.1).filter nonE/\x.2.2.drop x.2.1=u.drop x.2.1) (fun x=>u.length - x.2.1) (i0,i0+1,u) ⟨by simp only;omega,by simp only;omega,rfl,?_,rfl⟩ ?_ ?_
  ·show u.take i0=(u.take (i0+1)).filter nonE
   rw[List.take_succ_eq_append_getElem h2,List.filter_append,h3]
   have:u[i0]=[]:=by rw[List.getD_eq_getElem?_getD,List.getElem?_eq_getElem h2]at h4;exact h4
   simp[this,nonE]
  ·exact le_slots' (by simp only[go_sem,Int.natCast_add,Int.cast_ofNat_Int])
  rintro ⟨i,j,R⟩ ⟨g1,g2,g3,g4,g5⟩
  simp only at g1 g2 g3 g4 g5
  refine sem_of_awp (Γ:=tbl tabDf) tabDf_ok _ _ _ ?_
  cases hd:u.drop j with
  | nil =>
   have:=end_of_drop hd g2
   have hk2:¬(j:Int)<u.length:=by omega
   simp only[go_sem,hk2,decide_false,Int.toNat_natCast]
   have e1:((i:Int) - 0).toNat=i:=by omega
   have e2:List.take i (strsD R)=strsD (u.filter nonE):=by
    have:u.take j=u:=by rw[this,List.take_length]
    rw[this]at g4
    rw[← g4];simp[strsD,List.map_take]
   have e3:i=(u.filter nonE).length:=by
    have:=congrArg List.length e2
    simp only[strsD,List.length_take,List.length_map]at this
    omega
   refine⟨by omega,Int.le_refl _,by omega,by omega,?_⟩
   rw[e1,e2]
   exact fin _ _ _ rfl (by rw[← e3];rfl)
  | cons c q =>
   have hlt:=lt_of_drop hd
   have hk2:(j:Int)<u.length:=by omega
   have hk0:(0:Int)<=j:=Int.natCast_nonneg j
   have hn:=nth_of_drop (f:=D.str) (g5.trans hd)
   simp only[go_sem,hk2,hk0,hn,hlt,g3,decide_true]
   refine call_data isER (mem_ix 0 rfl) _ _ rfl ⟨c,rfl,rfl⟩ (.inl rfl) ?_
   by_cases he:c=[]
   ·subst he
    simp only[go_sem,decide_true,Bool.not_true]
    have hd1:=drop_cons hd
    have hR1:R.drop (j+1)=u.drop (j+1):=by
     have:=congrArg (List.drop 1) g5
     rwa [List.drop_drop,List.drop_drop]at this
    refine⟨inR_i64.2 (by omega),(i,j+1,R),⟨by simp only;omega,by simp only;omega,g3,?_,hR1⟩,by simp only;omega,?_⟩
    ·simp only
     rw[take_of_drop hd,List.filter_append,g4];simp[nonE]
    ·exact le_slots' (by simp only[go_sem,Int.natCast_add,Int.cast_ofNat_Int])
   ·simp only[go_sem,he,decide_false,Bool.not_false]
    have hR1:R.drop (j+1)=u.drop (j+1):=by
     have:=congrArg (List.drop 1) g5
     rwa [List.drop_drop,List.drop_drop]at this
    have hset:(strsD R).set i (D.str c)=strsD (R.set i c):=by simp[strsD,List.map_set]
    refine⟨by omega,by omega,inR_i64.2 (by omega),inR_i64.2 (by omega),(i+1,j+1,R.set i c),⟨by simp only;omega,by simp only;omega,by simpa using g3,?_,?_⟩,by simp only;omega,?_⟩
    ·show (R.set i c).take (i+1)=(u.take (j+1)).filter nonE
     rw[take_of_drop hd,List.filter_append,← g4]
     have h5:[c].filter nonE=[c]:=by simp[nonE,he]
     rw[h5,List.take_succ_eq_append_getElem (by rw[List.length_set];omega),List.getElem_set_self,List.take_set_of_le (Nat.le_refl _)]
    ·show (R.set i c).drop (j+1)=u.drop (j+1)
     rw[List.drop_set_of_lt (by omega)];exact hR1
    ·rw[hset]
     exact le_slots' (by simp only[go_sem,Int.natCast_add,Int.cast_ofNat_Int])
theorem wordsW_filter(s:Str):wordsW s=(splitC 32 s).filter nonE:=rfl
def wdsR(ds:List D)(xs:List D):Prop:=∃s:Str,ds=[.str s]/\s.length<=1000000/\xs=strsD (wordsW s)
abbrev tabWd:List (Nat×Contract):=[(74,madeC (madeS none splR)),(73,lentC delR)]
theorem tabWd_ok:OkG Tryz.prog (tbl tabWd):=okG_cons split_ok (okG_cons deleteFunc_ok okG_nil)
theorem pwords_ok:OkF Tryz.prog 39 (madeC (madeS none wdsR)):=by
 refine okF_made Tryz.func39 rfl (by decide) ?_
 rintro ds v ob ⟨xs,⟨s,rfl,hmx,rfl⟩,rfl,rfl⟩
 refine sem_of_awp (Γ:=tbl tabWd) tabWd_ok _ _ _ ?_
 simp only[go_sem,Tryz.ntmps39]
 refine call_made (madeS none splR) (mem_ix 0 rfl) [.str s,.str [32]] _ _ rfl rfl ⟨_,⟨s,32,rfl,hmx,rfl⟩,rfl,rfl⟩ ?_
 simp only[go_sem,AV.shift,Obj.shift,AV.shifts,List.map_cons,List.map_nil,List.nil_append,List.length_nil,Nat.zero_add]
 have hl:(splitC 32 s).length<=2000000:=by have:=splitC_count 32 s;have:=List.count_le_length (a:=32) (l:=s);omega
 refine call_lent delR (mem_ix 1 rfl) [0] ⟨splitC 32 s,hl,rfl,rfl,rfl,rfl,rfl,rfl⟩ (by decide) (by simp) rfl rfl rfl (by simp only[go_sem,AV.unders,AV.under]) (by simp only[List.mem_singleton,forall_eq];trivial) (fun j hj=>by
    obtain rfl:j=0:=by simp at hj;exact hj
    rfl) ?_
 simp only[go_sem]
 exact post_own (.inl rfl) [2] rfl (by simp[wordsW_filter,strsD];rfl) (fun _ h=>h)
end Go.AM

