/- Own work over the model of the kit. -/
import Derived.Test.YtmmbjdgmhdjbjaaGreatDoorD23
import Derived.Test.YtmmbjdgmhdjbjaaGreatDoorD16
import Derived.Test.YtmmbjdgmhdjbjaaGreatDoorProg
import Derived.Shelf.LaysM
import Derived.Test.YtmmbjdgmhdjbjaaGreatDoorD13
import Derived.Shelf.Strconv.Itoa3
import Derived.Lib.ItoaLen
import Derived.Test.YtmmbjdgmhdjbjaaGreatDoorD15
set_option linter.unnecessarySimpa false
set_option linter.unusedSimpArgs false
set_option linter.unusedVariables false
set_option maxHeartbeats 4000000
set_option maxRecDepth 100000
namespace Go.AM
open Go Go.Proofs
theorem xk:∀(l pre:List Str),nz pre l=0->(∀x∈l,gg x=true/\x∉pre)/\l.Nodup
 | [],_,_=>⟨fun x h=>by simp at h,List.nodup_nil⟩
 | x :: r,pre,h=>by
  simp only[nz]at h
  split at h
  ·simp at h
  ·rename_i h1
   split at h
   ·simp at h
   ·rename_i h2
    obtain⟨h3,h4⟩:=xk r (pre++[x]) h
    refine⟨fun y hy=>?_,List.nodup_cons.2 ⟨fun hx=>?_,h4⟩⟩
    ·rcases List.mem_cons.1 hy with rfl|hy
     ·exact⟨by simpa using h1,h2⟩
     ·exact⟨(h3 y hy).1,fun hp=>(h3 y hy).2 (by simp[hp])⟩
    ·exact(h3 x hx).2 (by simp)
theorem Iu(s:PSys):∀(l:List PStep) (h:Hold),(uY s l h).1=0->∀x∈l,dd s x=0
 | [],_,_,x,hx=>by simp at hx
 | y :: l,h,h0,x,hx=>by
  simp only[uY]at h0
  split at h0
  ·rename_i h1;exact absurd h0 h1
  ·rename_i h1
   rcases List.mem_cons.1 hx with rfl|hx
   ·exact Ap (Classical.byContradiction h1)
   ·exact Iu s l _ h0 x hx
theorem BP(s:PSys):∀(l:List PCls),oX s l=0->∀c∈l,iq s c=0
 | [],_,c,hc=>by simp at hc
 | y :: l,h,c,hc=>by
  simp only[oX]at h
  split at h
  ·rename_i h1;exact absurd h h1
  ·rename_i h1
   rcases List.mem_cons.1 hc with rfl|hc
   ·exact Classical.byContradiction h1
   ·exact BP s l h c hc
structure Good (s:PSys):Prop where
 np:s.pools.length<=6
 nl:s.locks.length<=4
 nc:s.classes.length<=6
 nms:∀x∈aB s,gg x=true
 nd:(aB s).Nodup
 pl:∀p∈s.pools,¬p.bad
 wk:∀c∈s.classes,0<=c.workers/\c.workers<=4
 ns:∀c∈s.classes,c.steps.length<=12
 st:∀c∈s.classes,∀x∈c.steps,dd s x=0
theorem ki{s:PSys}(h:aT s=0):Good s:=by
 unfold aT at h
 split at h
 ·simp at h
 ·rename_i hl
  obtain⟨h1,h2⟩:=kN h
  obtain⟨h3,h4⟩:=kN h2
  obtain⟨a,b⟩:=xk _ _ h1
  have hc:=BP s s.classes h4
  have hcc:∀c∈s.classes,(0<=c.workers/\c.workers<=4)/\c.steps.length<=12/\(uY s c.steps (fZ s)).1=0:=fun c hcm=>by
   have:=hc c hcm
   unfold iq at this
   split at this
   ·simp at this
   ·split at this
    ·simp at this
    ·rename_i w1 w2
     refine⟨by omega,by omega,?_⟩
     unfold xi at this
     split at this
     ·rename_i w3;exact absurd this w3
     ·rename_i w3;exact Classical.byContradiction w3
  exact⟨by omega,by omega,by omega,fun x hx=>(a x hx).1,b,sj h3,fun c hcm=>(hcc c hcm).1,fun c hcm=>(hcc c hcm).2.1,fun c hcm=>Iu s _ _ (hcc c hcm).2.2⟩
theorem jU{p:PPool}(h:¬p.bad):1<=p.size/\p.size<=8/\0<=p.res/\p.res<=8:=by
 unfold PPool.bad at h;omega
theorem acJ{α:Type}{l:List α}{i:Nat}{d:α}(h:i<l.length):l.getD i d∈l:=by
 rw[List.getD_eq_getElem?_getD,List.getElem?_eq_getElem h];exact List.getElem_mem h
theorem lT{s:PSys}{x:PStep}(h:dd s x=0):bt s x∈aB s:=by
 obtain⟨k,o,_⟩:=dy h
 unfold bt aB
 unfold cD at o
 by_cases h1:x.kind=1∨x.kind=2
 ·rw[if_pos h1];rw[if_neg (by omega),if_neg (by omega)]at o
  exact List.mem_append.2 (.inl (List.mem_append.2 (.inl (List.mem_map.2 ⟨_,acJ (by omega),rfl⟩))))
 ·rw[if_neg h1]
  by_cases h2:x.kind=3∨x.kind=4
  ·rw[if_pos h2];rw[if_pos h2]at o
   exact List.mem_append.2 (.inl (List.mem_append.2 (.inr (acJ (by omega)))))
  ·rw[if_neg h2];rw[if_neg h2,if_pos (by omega)]at o
   exact List.mem_append.2 (.inr (List.mem_map.2 ⟨_,acJ (by omega),rfl⟩))
theorem rq{α:Type}[DecidableEq α]{x:α}:∀{l:List α} {i k:Nat},l.Nodup->l[i]?=some x->dF x k l=((k+i:Nat):Int)
 | [],i,k,_,h=>by simp at h
 | y :: r,0,k,_,h=>by
  simp only[List.getElem?_cons_zero,Option.some.injEq]at h
  subst h
  simp[dF]
 | y :: r,i+1,k,hn,h=>by
  simp only[List.getElem?_cons_succ]at h
  have hne:¬y=x:=fun e=>(List.nodup_cons.1 hn).1 (e ▸ List.mem_of_getElem? h)
  have:=rq (k:=k+1) (List.nodup_cons.1 hn).2 h
  have e:k+1+i=k+(i+1):=by omega
  rw[e]at this
  first
   | rw[dF,if_neg hne,this]
   | rw[dF,if_neg (fun e=>hne e.symm),this]
theorem Jm{a b c:List Str}(h:(a++b++c).Nodup):a.Nodup/\b.Nodup/\c.Nodup:=by
 obtain⟨h1,h2,_⟩:=List.nodup_append.1 h
 obtain⟨h3,h4,_⟩:=List.nodup_append.1 h1
 exact⟨h3,h4,h2⟩
theorem KR{s:PSys}{x:PStep}(g:Good s)(h:dd s x=0):eM s x.kind.toNat (bt s x)=x.on:=by
 obtain⟨k,o,_⟩:=dy h
 obtain⟨n1,n2,n3⟩:=Jm g.nd
 unfold cD at o
 unfold eM bt
 have at':∀{α:Type} (l:List α) (f:α->Str) (d:α),x.on<l.length->(l.map f)[x.on.toNat]?=some (f (l.getD x.on.toNat d)):=fun l f d hl=>by
  have:x.on.toNat<l.length:=by omega
  rw[List.getElem?_map,List.getD_eq_getElem?_getD,List.getElem?_eq_getElem this];rfl
 by_cases h1:x.kind=1∨x.kind=2
 ·rw[if_pos h1,if_pos (by omega:x.kind.toNat=1∨x.kind.toNat=2)]
  rw[if_neg (by omega),if_neg (by omega)]at o
  rw[rq n1 (at' s.pools (·.name) default o.2)];omega
 ·rw[if_neg h1,if_neg (by omega:¬(x.kind.toNat=1∨x.kind.toNat=2))]
  by_cases h2:x.kind=3∨x.kind=4
  ·rw[if_pos h2,if_neg (by omega:¬x.kind.toNat=5)]
   rw[if_pos h2]at o
   have:=at' s.locks id [] o.2
   rw[List.map_id]at this
   have e:dF (s.locks.getD x.on.toNat []) 0 s.locks=_:=rq n2 this
   rw[e];omega
  ·rw[if_neg h2,if_pos (by omega:x.kind.toNat=5)]
   rw[if_neg h2,if_pos (by omega)]at o
   rw[rq n3 (at' s.classes (·.name) default o.2)];omega
theorem GB{s:PSys}{x:PStep}(h:dd s x=0)(hk:x.kind≠1):x.deep=false:=by
 unfold dd at h
 split at h
 ·simp at h
 ·rename_i hb
  simp only[bj,Bool.or_eq_true,Bool.and_eq_true,Bool.not_eq_true',decide_eq_true_eq,decide_eq_false_iff_not,not_or,not_and,Bool.not_eq_true]at hb
  exact hb.2 hk
theorem yL{s:PSys}{x:PStep}(g:Good s)(h:dd s x=0):StFit s x:=by
 obtain⟨k,o,c,c2⟩:=dy h
 have hc:0<=x.cnt/\x.cnt<=999:=by
  by_cases h1:x.kind=1∨x.kind=2
  ·have:=c h1
   unfold cD at o
   rw[if_neg (by omega),if_neg (by omega)]at o
   have hp:=jU (g.pl _ (acJ (d:=default) (by omega:x.on.toNat<s.pools.length)))
   omega
  ·rw[c2 h1];omega
 exact⟨k,g.nms _ (lT h),hc.1,hc.2,c2,GB h⟩
theorem qF(R:List PL)(c:Nat):∀(ps:List PPool) (i:Nat) (dn:List Str),(dn++ps.map (·.name)).Nodup->∃j,dq (ps.map (fun p=>PL.decl 1 p.name p.size p.res)++R) i dn c=dq R j (dn++ps.map (·.name)) c
 | [],i,dn,_=>⟨i,by simp⟩
 | p :: ps,i,dn,h=>by
  have hx:p.name∉dn:=fun hp=>by
   have:=(List.nodup_append.1 h).2.2
   exact this _ hp _ (by simp) rfl
  obtain⟨j,hj⟩:=qF R c ps (i+1) (dn++[p.name]) (by simpa using h)
  exact⟨j,by simp only[List.map_cons,List.cons_append,dq];rw[if_neg hx,if_neg (by decide),hj];simp⟩
theorem qf(R:List PL)(c:Nat):∀(ps:List Str) (i:Nat) (dn:List Str),(dn++ps).Nodup->∃j,dq (ps.map (fun p=>PL.decl 2 p 0 0)++R) i dn c=dq R j (dn++ps) c
 | [],i,dn,_=>⟨i,by simp⟩
 | p :: ps,i,dn,h=>by
  have hx:p∉dn:=fun hp=>by
   have:=(List.nodup_append.1 h).2.2
   exact this _ hp _ (by simp) rfl
  obtain⟨j,hj⟩:=qf R c ps (i+1) (dn++[p]) (by simpa using h)
  exact⟨j,by simp only[List.map_cons,List.cons_append,dq];rw[if_neg hx,if_neg (by decide),hj];simp⟩
theorem qR(s:PSys)(R:List PL)(c:Nat)(hc:c≠0)(dn:List Str):∀(l:List PStep) (i:Nat),∃j,dq (l.map (yf s)++R) i dn c=dq R j dn c
 | [],i=>⟨i,by simp⟩
 | x :: l,i=>by
  obtain⟨j,hj⟩:=qR s R c hc dn l (i+1)
  exact⟨j,by simp only[List.map_cons,List.cons_append,yf,dq];rw[if_neg hc];exact hj⟩
theorem yc(s:PSys)(R:List PL):∀(cs:List PCls) (i:Nat) (dn:List Str) (c:Nat),(dn++cs.map (·.name)).Nodup->∃j,dq (cs.flatMap (yj s)++R) i dn c=dq R j (dn++cs.map (·.name)) (c+cs.length)
 | [],i,dn,c,_=>⟨i,by simp⟩
 | x :: cs,i,dn,c,h=>by
  have hx:x.name∉dn:=fun hp=>by
   have:=(List.nodup_append.1 h).2.2
   exact this _ hp _ (by simp) rfl
  have h3:3<=(if x.server then 4 else 3):=by split <;> omega
  obtain⟨j0,h0⟩:=qR s (cs.flatMap (yj s)++R) (c+1) (by omega) (dn++[x.name]) x.steps (i+1)
  obtain⟨j,hj⟩:=yc s R cs j0 (dn++[x.name]) (c+1) (by simpa using h)
  refine⟨j,?_⟩
  simp only[List.flatMap_cons,yj,List.cons_append,List.append_assoc,dq]
  rw[if_neg hx,if_pos h3,h0,hj]
  have e:c+1+cs.length=c+(cs.length+1):=by omega
  simp[e]
def jC(c:PCls):PCls:=⟨c.name,c.workers,c.server,[]⟩
theorem qj(R:List PL)(l:List Str)(c:List PCls):∀(ps qs:List PPool),fm (ps.map (fun p=>PL.decl 1 p.name p.size p.res)++R) ⟨qs,l,c⟩=fm R ⟨qs++ps,l,c⟩
 | [],qs=>by simp
 | p :: ps,qs=>by
  simp only[List.map_cons,List.cons_append,fm]
  have e:ru ⟨qs,l,c⟩ 1 p.name p.size p.res=⟨qs++[p],l,c⟩:=rfl
  rw[e,qj R l c ps];simp
theorem pZ(R:List PL)(q:List PPool)(c:List PCls):∀(ps qs:List Str),fm (ps.map (fun p=>PL.decl 2 p 0 0)++R) ⟨q,qs,c⟩=fm R ⟨q,qs++ps,c⟩
 | [],qs=>by simp
 | p :: ps,qs=>by
  simp only[List.map_cons,List.cons_append,fm]
  have e:ru ⟨q,qs,c⟩ 2 p 0 0=⟨q,qs++[p],c⟩:=rfl
  rw[e,pZ R q c ps];simp
theorem qh(s:PSys)(R:List PL)(z:PSys):∀l:List PStep,fm (l.map (yf s)++R) z=fm R z
 | []=>rfl
 | x :: l=>by simp only[List.map_cons,List.cons_append,yf,fm];exact qh s R z l
theorem xO(s:PSys)(R:List PL)(q:List PPool)(l:List Str):∀(cs ds:List PCls),fm (cs.flatMap (yj s)++R) ⟨q,l,ds⟩=fm R ⟨q,l,ds++cs.map jC⟩
 | [],ds=>by simp
 | x :: cs,ds=>by
  simp only[List.flatMap_cons,yj,List.cons_append,List.append_assoc,fm]
  have e:ru ⟨q,l,ds⟩ (if x.server then 4 else 3) x.name x.workers 0=⟨q,l,ds++[jC x]⟩:=by
   unfold ru jC
   cases x.server <;> rfl
  rw[qh,e,xO s R q l cs];simp
theorem om(R:List PL)(c:Nat)(z:PSys):∀(ds:List PL) (i:Nat),(∀d∈ds,∃k x a b,d=.decl k x a b/\k<3)->∃j,df (ds++R) i c z=df R j c z
 | [],i,_=>⟨i,by simp⟩
 | d :: ds,i,h=>by
  obtain⟨k,x,a,b,rfl,hk⟩:=h d (by simp)
  obtain⟨j,hj⟩:=om R c z ds (i+1) fun y hy=>h y (by simp[hy])
  exact⟨j,by simp only[List.cons_append,df];rw[if_neg (by omega),hj]⟩
theorem vO{s t:PSys}(k:Nat)(x:Str)(h1:s.pools=t.pools)(h2:s.locks=t.locks)(h3:s.classes.map (·.name)=t.classes.map (·.name)):eM s k x=eM t k x:=by
 unfold eM;rw[h1,h2,h3]
theorem Ml{α:Type}(A:List α)(x y:α)(B:List α):(A++x :: B).set A.length y=A++y :: B:=by
 rw[List.set_append_right _ _ (by omega)];simp
theorem FU{α:Type}(A:List α)(x d:α)(B:List α):(A++x :: B).getD A.length d=x:=by
 rw[List.getD_eq_getElem?_getD,List.getElem?_append_right (by omega)];simp
theorem o4{s:PSys}(R:List PL)(A B:List PCls)(c:PCls)(hcl:(A++c :: B).map (·.name)=s.classes.map (·.name)):∀(l st:List PStep) (i:Nat),(∀x∈l,eM s x.kind.toNat (bt s x)=x.on/\0<=x.on/\1<=x.kind) ->
  ∃j,df (l.map (yf s)++R) i (A.length+1) ⟨s.pools,s.locks,A++⟨c.name,c.workers,c.server,st⟩ :: B⟩=df R j (A.length+1) ⟨s.pools,s.locks,A++⟨c.name,c.workers,c.server,st++l⟩ :: B⟩
 | [],st,i,_=>⟨i,by simp⟩
 | x :: l,st,i,h=>by
  obtain⟨h1,h2,h3⟩:=h x (by simp)
  have hf:eM ⟨s.pools,s.locks,A++⟨c.name,c.workers,c.server,st⟩ :: B⟩ x.kind.toNat (bt s x)=x.on:=by
   rw[← h1]
   exact vO _ _ rfl rfl (by rw[← hcl];simp)
  obtain⟨j,hj⟩:=o4 R A B c hcl l (st++[x]) (i+1) fun y hy=>h y (by simp[hy])
  refine⟨j,?_⟩
  simp only[List.map_cons,List.cons_append,yf,df]
  rw[hf,if_neg (by omega),Nat.add_sub_cancel]
  have e:vh ⟨s.pools,s.locks,A++⟨c.name,c.workers,c.server,st⟩ :: B⟩ A.length ⟨(x.kind.toNat:Nat),x.on,x.cnt,x.deep⟩=⟨s.pools,s.locks,A++⟨c.name,c.workers,c.server,st++[x]⟩ :: B⟩:=by
   unfold vh Xt
   rw[FU,Ml]
   have:((x.kind.toNat:Nat):Int)=x.kind:=by omega
   rw[this]
  rw[e,hj]
  simp
theorem tv{s:PSys}(R:List PL)(hg:∀c∈s.classes,∀x∈c.steps,eM s x.kind.toNat (bt s x)=x.on/\0<=x.on/\1<=x.kind):∀(cs A:List PCls) (i:Nat),A++cs=s.classes ->
  ∃j,df (cs.flatMap (yj s)++R) i A.length ⟨s.pools,s.locks,A++cs.map jC⟩=df R j s.classes.length ⟨s.pools,s.locks,s.classes⟩
 | [],A,i,h=>⟨i,by rw[List.append_nil]at h;simp[h]⟩
 | c :: cs,A,i,h=>by
  have h3:3<=(if c.server then 4 else 3):=by split <;> omega
  obtain⟨j0,h0⟩:=o4 (s:=s) (cs.flatMap (yj s)++R) A (cs.map jC) c (by rw[← h];simp[jC]) c.steps [] (i+1) (hg c (by rw[← h];simp))
  obtain⟨j,hj⟩:=tv R hg cs (A++[c]) j0 (by simpa using h)
  refine⟨j,?_⟩
  simp only[List.flatMap_cons,yj,List.cons_append,List.append_assoc,df,List.map_cons]
  rw[if_pos h3]
  have e:jC c=⟨c.name,c.workers,c.server,[]⟩:=rfl
  rw[e,h0,List.nil_append]
  have e2:(A++[c]).length=A.length+1:=by simp
  rw[e2]at hj
  rw[← hj]
  simp
theorem wK{s:PSys}(h:aT s=0):oh (pR s++[.skip])=(s,0,0):=by
 have g:=ki h
 have hnd:=g.nd
 unfold aB at hnd
 obtain⟨j1,e1⟩:=qF (s.locks.map (fun x=>.decl 2 x 0 0)++(s.classes.flatMap (yj s)++[.skip])) 0 s.pools 0 [] (by simpa using (Jm g.nd).1)
 obtain⟨j2,e2⟩:=qf (s.classes.flatMap (yj s)++[.skip]) 0 s.locks j1 ([]++s.pools.map (·.name)) (by simpa using (List.nodup_append.1 hnd).1)
 obtain⟨j3,e3⟩:=yc s [.skip] s.classes j2 ([]++s.pools.map (·.name)++s.locks) 0 (by simpa using hnd)
 have hs:dq (pR s++[.skip]) 0 [] 0=(0,0):=by
  unfold pR
  rw[List.append_assoc,List.append_assoc,e1,e2,e3]
  rfl
 have hd:fm (pR s++[.skip]) sys0=⟨s.pools,s.locks,s.classes.map jC⟩:=by
  unfold pR sys0
  rw[List.append_assoc,List.append_assoc,qj,pZ,xO]
  simp[fm]
 have hst:df (pR s++[.skip]) 0 0 ⟨s.pools,s.locks,s.classes.map jC⟩=.inr s:=by
  obtain⟨k1,f1⟩:=om (s.classes.flatMap (yj s)++[.skip]) 0 ⟨s.pools,s.locks,s.classes.map jC⟩ (s.pools.map (fun p=>.decl 1 p.name p.size p.res)++s.locks.map (fun x=>.decl 2 x 0 0)) 0 (fun d hd=>by
   rcases List.mem_append.1 hd with hd|hd
   ·obtain⟨p,_,rfl⟩:=List.mem_map.1 hd;exact⟨1,_,_,_,rfl,by decide⟩
   ·obtain⟨p,_,rfl⟩:=List.mem_map.1 hd;exact⟨2,_,_,_,rfl,by decide⟩)
  obtain⟨k2,f2⟩:=tv (s:=s) [.skip] (fun c hc x hx=>by
   have hp:=g.st c hc x hx
   have:=dy hp
   exact⟨KR g hp,this.2.1.1,this.1.1⟩) s.classes [] k1 rfl
  unfold pR
  rw[List.append_assoc,f1]
  simp only[List.length_nil,List.nil_append]at f2
  rw[f2]
  rfl
 unfold oh
 rw[hs,hd,hst]
 simp only[ne_eq,not_true_eq_false,if_false,zq,h]
theorem uS{s:Str}(h:Kd s):∀b∈s,b≠10:=fun b hb=>(h.2 b hb).2
theorem Dr{s:PSys}(g:Good s):∀l∈sk s,∀b∈l,b≠10:=by
 have nmn:∀x∈aB s,∀b∈x,b≠10:=fun x hx=>uS (gy (g.nms x hx))
 have num:∀n:Int,0<=n->n<=999->∀b∈Lib.itoa n,b≠10:=fun n h1 h2=>uS (pE h1 h2).word
 intro l hl
 unfold sk at hl
 rcases List.mem_append.1 hl with hl|hl
 ·rcases List.mem_append.1 hl with hl|hl
  ·obtain⟨p,hp,rfl⟩:=List.mem_map.1 hl
   have hn:=nmn p.name (by unfold aB;exact List.mem_append.2 (.inl (List.mem_append.2 (.inl (List.mem_map.2 ⟨p,hp,rfl⟩)))))
   obtain⟨a1,a2,a3,a4⟩:=jU (g.pl p hp)
   have h1:=num p.size (by omega) (by omega)
   have h2:=num p.res (by omega) (by omega)
   intro b hb
   simp only[bU,List.mem_append,List.mem_cons,List.not_mem_nil,or_false]at hb
   rcases hb with(hb|hb)|rfl|hb|rfl|hb
   ·rcases hb with rfl|rfl|rfl|rfl|rfl <;> decide
   ·exact hn b hb
   ·decide
   ·exact h1 b hb
   ·decide
   ·exact h2 b hb
  ·obtain⟨x,hx,rfl⟩:=List.mem_map.1 hl
   have hn:=nmn x (by unfold aB;exact List.mem_append.2 (.inl (List.mem_append.2 (.inr hx))))
   intro b hb
   simp only[da,List.mem_append,List.mem_cons,List.not_mem_nil,or_false]at hb
   rcases hb with hb|hb
   ·rcases hb with rfl|rfl|rfl|rfl|rfl|rfl <;> decide
   ·exact hn b hb
 ·obtain⟨c,hc,hl⟩:=List.mem_flatMap.1 hl
  unfold jF at hl
  rcases List.mem_cons.1 hl with rfl|hl
  ·have hn:=nmn c.name (by unfold aB;exact List.mem_append.2 (.inr (List.mem_map.2 ⟨c,hc,rfl⟩)))
   have hw:=g.wk c hc
   have h1:=num c.workers hw.1 (by omega)
   intro b hb
   unfold tT at hb
   simp only[List.mem_append,List.mem_cons]at hb
   rcases hb with(hb|hb)|rfl|hb
   ·cases hs:c.server <;> rw[hs]at hb
    ·simp only[Bool.false_eq_true,if_false,List.mem_cons,List.not_mem_nil,or_false]at hb
     rcases hb with rfl|rfl|rfl|rfl|rfl|rfl <;> decide
    ·simp only[if_true,List.mem_cons,List.not_mem_nil,or_false]at hb
     rcases hb with rfl|rfl|rfl|rfl|rfl|rfl|rfl <;> decide
   ·exact hn b hb
   ·decide
   ·exact h1 b hb
  ·obtain⟨x,hx,rfl⟩:=List.mem_map.1 hl
   have hp:=g.st c hc x hx
   have f:=yL g hp
   have hn:=nmn _ (lT hp)
   have h1:=num x.cnt f.c0 f.c1
   intro b hb
   rcases List.mem_cons.1 hb with rfl|hb
   ·decide
   rcases List.mem_cons.1 hb with rfl|hb
   ·decide
   unfold c6 at hb
   have key:∀(w:Str),b∈w++bt s x->(∀y∈w,y≠10)->b≠10:=fun w hb hw=>by
    rcases List.mem_append.1 hb with hb|hb
    ·exact hw b hb
    ·exact hn b hb
   have key2:∀(w:Str),b∈w++bt s x++32 :: Lib.itoa x.cnt->(∀y∈w,y≠10)->b≠10:=fun w hb hw=>by
    rcases List.mem_append.1 hb with hb|hb
    ·exact key w hb hw
    ·rcases List.mem_cons.1 hb with rfl|hb
     ·decide
     ·exact h1 b hb
   split at hb
   ·rcases List.mem_append.1 hb with hb|hb
    ·exact key2 _ hb (by decide)
    ·split at hb
     ·simp only[List.mem_cons,List.not_mem_nil,or_false]at hb
      rcases hb with rfl|rfl|rfl|rfl|rfl <;> decide
     ·cases hb
   ·split at hb
    ·exact key2 _ hb (by decide)
    ·split at hb
     ·exact key _ hb (by decide)
     ·split at hb
      ·exact key _ hb (by decide)
      ·exact key _ hb (by decide)
theorem CX{s:PSys}(g:Good s):(sk s).map (fun l=>eP (aU l))=pR s:=by
 unfold sk pR
 have mem1:∀p∈s.pools,gg p.name=true:=fun p hp=>g.nms _ (by unfold aB;exact List.mem_append.2 (.inl (List.mem_append.2 (.inl (List.mem_map.2 ⟨p,hp,rfl⟩)))))
 have mem2:∀x∈s.locks,gg x=true:=fun x hx=>g.nms _ (by unfold aB;exact List.mem_append.2 (.inl (List.mem_append.2 (.inr hx))))
 have mem3:∀c∈s.classes,gg c.name=true:=fun c hc=>g.nms _ (by unfold aB;exact List.mem_append.2 (.inr (List.mem_map.2 ⟨c,hc,rfl⟩)))
 rw[List.map_append,List.map_append,List.map_map,List.map_map,List.map_flatMap]
 congr 1
 ·congr 1
  ·refine List.map_congr_left fun p hp=>?_
   obtain⟨a1,a2,a3,a4⟩:=jU (g.pl p hp)
   exact zk (mem1 p hp) (by omega) (by omega) a3 (by omega)
  ·exact List.map_congr_left fun x hx=>zj (mem2 x hx)
 ·have key:∀cs:List PCls,(∀c∈cs,c∈s.classes)->(cs.flatMap fun c=>(jF s c).map fun l=>eP (aU l))=cs.flatMap (yj s):=fun cs=>by
   induction cs with
   | nil=>intro _;rfl
   | cons c cs ih =>
    intro h
    rw[List.flatMap_cons,List.flatMap_cons,ih fun y hy=>h y (by simp[hy])]
    congr 1
    have hc:=h c (by simp)
    have hw:=g.wk c hc
    unfold jF yj
    rw[List.map_cons,Dq (mem3 c hc) hw.1 (by omega),List.map_map]
    congr 1
    exact List.map_congr_left fun x hx=>zo (yL g (g.st c hc x hx))
  exact key s.classes fun c hc=>hc
theorem nk:∀(l:List Str) (k:Nat),(∀x∈l,x.length<=k)->(c7 l).length<=(k+1)*l.length
 | [],k,_=>by simp[c7]
 | x :: l,k,h=>by
  have h1:=nk l k fun y hy=>h y (by simp[hy])
  have h2:=h x (by simp)
  rw[qv,List.length_append,List.length_cons,List.length_cons,Nat.mul_add]
  omega
theorem ro{s:PSys}(g:Good s):(∀l∈sk s,l.length<=28)/\(sk s).length<=88:=by
 have nmn:∀x∈aB s,x.length<=8:=fun x hx=>(rl (g.nms x hx)).2
 have num:∀n:Int,0<=n->n<=999->(Lib.itoa n).length<=3:=fun n h1 h2=>(pE h1 h2).l3
 constructor
 ·intro l hl
  unfold sk at hl
  rcases List.mem_append.1 hl with hl|hl
  ·rcases List.mem_append.1 hl with hl|hl
   ·obtain⟨p,hp,rfl⟩:=List.mem_map.1 hl
    have hn:=nmn p.name (by unfold aB;exact List.mem_append.2 (.inl (List.mem_append.2 (.inl (List.mem_map.2 ⟨p,hp,rfl⟩)))))
    obtain⟨a1,a2,a3,a4⟩:=jU (g.pl p hp)
    have h1:=num p.size (by omega) (by omega)
    have h2:=num p.res (by omega) (by omega)
    simp only[bU,List.length_append,List.length_cons,List.length_nil];omega
   ·obtain⟨x,hx,rfl⟩:=List.mem_map.1 hl
    have hn:=nmn x (by unfold aB;exact List.mem_append.2 (.inl (List.mem_append.2 (.inr hx))))
    simp only[da,List.length_append,List.length_cons,List.length_nil];omega
  ·obtain⟨c,hc,hl⟩:=List.mem_flatMap.1 hl
   unfold jF at hl
   rcases List.mem_cons.1 hl with rfl|hl
   ·have hn:=nmn c.name (by unfold aB;exact List.mem_append.2 (.inr (List.mem_map.2 ⟨c,hc,rfl⟩)))
    have hw:=g.wk c hc
    have h1:=num c.workers hw.1 (by omega)
    unfold tT
    cases c.server <;> simp only[Bool.false_eq_true,if_false,if_true,List.length_append,List.length_cons,List.length_nil] <;> omega
   ·obtain⟨x,hx,rfl⟩:=List.mem_map.1 hl
    have hp:=g.st c hc x hx
    have f:=yL g hp
    have hn:=nmn _ (lT hp)
    have h1:=num x.cnt f.c0 f.c1
    unfold c6
    (repeat' split) <;> simp only[List.length_append,List.length_cons,List.length_nil] <;> omega
 ·unfold sk
  have key:∀cs:List PCls,(∀c∈cs,c.steps.length<=12)->(cs.flatMap (jF s)).length<=13*cs.length:=fun cs=>by
   induction cs with
   | nil=>intro _;simp
   | cons c cs ih =>
    intro h
    have h1:=ih fun y hy=>h y (by simp[hy])
    have h2:=h c (by simp)
    rw[List.flatMap_cons,List.length_append,List.length_cons]
    simp only[jF,List.length_cons,List.length_map]
    omega
  have h1:=key s.classes g.ns
  have a:=g.np
  have b:=g.nl
  have c:=g.nc
  simp only[List.length_append,List.length_map]
  omega
theorem tr{s:PSys}(g:Good s):(pX s).length<=4000:=by
 obtain⟨h1,h2⟩:=ro g
 have:=nk (sk s) 28 h1
 unfold pX
 omega
theorem zb{s:PSys}(h:aT s=0):pn (aJ 10) (pX s)=(s,0,0):=by
 have g:=ki h
 rw[A1,if_neg (by have:=tr g;omega)]
 have e:lF (aJ 10) (pX s)=pR s++[.skip]:=by
  unfold lF pX
  rw[oz _ (Dr g),List.map_append,CX g]
  rfl
 rw[e,wK h]
end Go.AM
namespace Go.AM
open Go Go.Proofs Go.Shelf
def rI:Ren where
 f:=fun x=>match x with
  | 171=>13
  | 243=>35
  | 246=>65
  | 283=>80
  | 284=>81
  | 285=>82
  | 286=>83
  | 129=>90
  | 317=>89
  | 318=>91
  | 319=>92
  | 320=>93
  | 337=>100
  | 338=>101
  | n=>n
 t:=fun x=>match x with
  | 3=>3
  | 9=>9
  | 2=>2
  | 4=>4
  | 171=>160
  | 0=>0
  | 53=>161
  | 37=>44
  | 5=>5
  | 173=>164
  | 212=>170
  | 51=>171
  | 20=>20
  | 213=>172
  | 46=>173
  | 232=>183
  | 233=>184
  | n=>n
 g:=fun x=>match x with
  | 17=>0
  | 18=>4
  | 19=>5
  | n=>n
theorem X2:LaysM.n171 Tryz.prog rI where
 mixed:=by kernel_rfl
 f129:=Eq.trans Tryz.func90 (congrArg some (by kernel_rfl))
 f171:=Eq.trans Tryz.func13 (congrArg some (by kernel_rfl))
 f243:=Eq.trans Tryz.func35 (congrArg some (by kernel_rfl))
 f246:=Eq.trans Tryz.func65 (congrArg some (by kernel_rfl))
 f283:=Eq.trans Tryz.func80 (congrArg some (by kernel_rfl))
 f284:=Eq.trans Tryz.func81 (congrArg some (by kernel_rfl))
 f285:=Eq.trans Tryz.func82 (congrArg some (by kernel_rfl))
 f286:=Eq.trans Tryz.func83 (congrArg some (by kernel_rfl))
 f317:=Eq.trans Tryz.func89 (congrArg some (by kernel_rfl))
 f318:=Eq.trans Tryz.func91 (congrArg some (by kernel_rfl))
 f319:=Eq.trans Tryz.func92 (congrArg some (by kernel_rfl))
 f320:=Eq.trans Tryz.func93 (congrArg some (by kernel_rfl))
 f337:=Eq.trans Tryz.func100 (congrArg some (by kernel_rfl))
 f338:=Eq.trans Tryz.func101 (congrArg some (by kernel_rfl))
 t0:=Tryz.underlying0
 a0:=Tryz.isAgg0
 z0:=Tryz.sizeOf0
 v0:=Tryz.zeroValue0
 t2:=Tryz.underlying2
 a2:=Tryz.isAgg2
 z2:=Tryz.sizeOf2
 v2:=Tryz.zeroValue2
 t3:=Tryz.underlying3
 a3:=Tryz.isAgg3
 z3:=Tryz.sizeOf3
 v3:=Tryz.zeroValue3
 t4:=Tryz.underlying4
 a4:=Tryz.isAgg4
 z4:=Tryz.sizeOf4
 v4:=Tryz.zeroValue4
 t5:=Tryz.underlying5
 a5:=Tryz.isAgg5
 z5:=Tryz.sizeOf5
 v5:=Tryz.zeroValue5
 t9:=Tryz.underlying9
 a9:=Tryz.isAgg9
 z9:=Tryz.sizeOf9
 v9:=Tryz.zeroValue9
 t20:=Tryz.underlying20
 a20:=Tryz.isAgg20
 z20:=Tryz.sizeOf20
 v20:=Tryz.zeroValue20
 t37:=Tryz.underlying44
 a37:=Tryz.isAgg44
 z37:=Tryz.sizeOf44
 v37:=Tryz.zeroValue44
 t46:=Tryz.underlying173
 a46:=Tryz.isAgg173
 z46:=Tryz.sizeOf173
 v46:=Tryz.zeroValue173
 t51:=Tryz.underlying171
 a51:=Tryz.isAgg171
 z51:=Tryz.sizeOf171
 v51:=Tryz.zeroValue171
 t53:=Tryz.underlying161
 a53:=Tryz.isAgg161
 z53:=Tryz.sizeOf161
 v53:=Tryz.zeroValue161
 t171:=Tryz.underlying160
 a171:=Tryz.isAgg160
 z171:=Tryz.sizeOf160
 v171:=Tryz.zeroValue160
 t173:=Tryz.underlying164
 a173:=Tryz.isAgg164
 z173:=Tryz.sizeOf164
 v173:=Tryz.zeroValue164
 t212:=Tryz.underlying170
 a212:=Tryz.isAgg170
 z212:=Tryz.sizeOf170
 v212:=Tryz.zeroValue170
 t213:=Tryz.underlying172
 a213:=Tryz.isAgg172
 z213:=Tryz.sizeOf172
 t232:=Tryz.underlying183
 a232:=Tryz.isAgg183
 z232:=Tryz.sizeOf183
 v232:=Tryz.zeroValue183
 t233:=Tryz.underlying184
 a233:=Tryz.isAgg184
 z233:=Tryz.sizeOf184
 v233:=Tryz.zeroValue184
 g17:=by kernel_rfl
 g18:=by kernel_rfl
 g19:=by kernel_rfl
 i0:=by kernel_rfl
 i2:=by kernel_rfl
 i3:=by kernel_rfl
 i4:=by kernel_rfl
 i5:=by kernel_rfl
 i9:=by kernel_rfl
 i20:=by kernel_rfl
 i37:=by kernel_rfl
 i46:=by kernel_rfl
 i51:=by kernel_rfl
 i53:=by kernel_rfl
 i171:=by kernel_rfl
 i173:=by kernel_rfl
 i212:=by kernel_rfl
 i232:=by kernel_rfl
 i233:=by kernel_rfl
 m17:=by kernel_rfl
 m18:=by kernel_rfl
 m19:=by kernel_rfl
end Go.AM
namespace Go.AM
open Go Go.Proofs
theorem After.grown{F:Nat->Prop}{φ:Nat->Option Loc}{own:List Obj}{w:World}(hc:Conc F φ own w)(k:Nat)(os:Array Go.Obj):After F φ w F φ own (Go.Sort.grow (w.drewN k) os) []:=by
 have dX:∀b,b<w.heap.size->(Go.Sort.grow (w.drewN k) os).heap[b]?=w.heap[b]?:=fun b hb=>by
  show (w.heap++os)[b]?=w.heap[b]?
  rw[Array.getElem?_append_left hb]
 have hsz:w.heap.size<=(Go.Sort.grow (w.drewN k) os).heap.size:=by
  show w.heap.size<=(w.heap++os).size
  simp
 exact⟨fun _ h=>h,⟨rfl,rfl,rfl,hsz,fun b hb=>dX b (hc.fb b hb),Nat.le_add_right _ _⟩,hc.beside hsz (fun b hb=>dX b (hc.fb b hb)) (fun o L h hn=>dX _ (hc.live o L h hn).2),fun _ _ _ h=>h,fun b hb _=>dX b hb,
  fun o L' ho hn=>.inr ⟨o,L',ho,hn,rfl⟩,fun b hb=>.inl hb⟩
theorem C8{F:Nat->Prop}{w:World}{k:IntKind}:∀(l:List Int) (cs:List Value),D.Cs F w (l.map (D.int k)) cs->cs=l.map (Value.int k)
 | [],cs,h=>by simpa only[List.map_nil,D.Cs] using h
 | z :: l,cs,h=>by
  simp only[List.map_cons,D.Cs]at h
  obtain⟨c,cs',rfl,_,h1,h2⟩:=h
  rw[C8 l cs' h2]
  simp only[D.C,List.cons.injEq]at h1
  simp only[List.map_cons,h1.1.1]
def sK(ds:List D)(v:AV):Prop:=∃n:Int,ds=[.int .i64 n]/\-9223372036854775808<=n/\n<=9223372036854775807/\v=.dat (.str (Lib.itoa n))
theorem CW:OkF Tryz.prog 13 (au sK):=by
 rintro args own v own' mv ⟨ds,hds,⟨n,rfl,h0,h1,rfl⟩,rfl,rfl,_⟩
 refine⟨⟨_,_,Tryz.func13,rfl,by decide⟩,fun F φ w vs hc hs=>?_⟩
 obtain⟨x,rfl⟩:∃x,args=[x]:=by
  match args,hds with
  | [x],_=>exact⟨x,rfl⟩
  | [],h=>simp[qX]at h
  | x :: y :: r,h =>
   simp only[qX,Option.bind_eq_some_iff,Option.map_eq_some_iff,List.cons.injEq]at h
   obtain⟨d,_,ds',⟨d',_,ds'',_,rfl⟩,h2⟩:=h
   simp at h2
 simp only[qX,Option.bind_eq_some_iff,Option.map_eq_some_iff,List.cons.injEq,Option.some.injEq,exists_eq_left,and_true]at hds
 obtain⟨d,hd,ds',rfl,rfl,_⟩:=hds
 obtain rfl:x=.dat (.int .i64 n):=by
  cases x <;> simp[AV.asD]at hd
  all_goals first|exact congrArg AV.dat hd|(split at hd <;> simp at hd;try (obtain⟨_,h⟩:=hd;cases h))|skip
  all_goals trace_state
 simp only[AV.Rs,AV.R,D.R]at hs
 obtain⟨c,vs',rfl,hcn,rfl⟩:=hs
 obtain⟨cs,g1,g2,g3,g4,g5,ty,fr,g6⟩:=hc.glob 0 _ _ rfl
 simp only[D.C]at g5
 have hcs:=C8 _ _ g5
 have abO : Lib.TabIs Tryz.prog w "internal/strconv.uint64pow10" .u64 Lib.pow10Tab := by
  unfold Lib.TabIs World.var?
  rw [show Tryz.prog.globalNamed "internal/strconv.uint64pow10" = some 0 by kernel_rfl]
  simp only[Option.bind_some,g6,hcs]
 have hcall:=Any.strconv_Itoa X2 n h0 h1 w abO
 have ef:rI.f 171=13:=rfl
 rw[ef]at hcall
 have ev:#[Value.int .i64 n]=[c].toArray:=by rw[hcn.1]
 rw[ev]at hcall
 refine hcall.mono ?_
 rintro e w' ⟨rfl,k,os,rfl⟩
 exact⟨_,F,φ,rfl,After.grown hc k os,by simp only[AV.R,D.R,D.C];exact⟨trivial,Nat.le_trans (Lib.itoa_length_le n h0 h1) (by decide)⟩⟩
theorem aI{α:Type}{l:List α}{x:α}(k:Nat)(h:l[k]?=some x):x∈l:=List.mem_of_getElem? h
theorem fM(c:UInt8):∀s:Str,(aJ c s).length=s.count c+1
 | []=>rfl
 | b :: t=>by
  have ih:=fM c t
  rw[cT,List.count_cons]
  by_cases h:b=c
  ·rw[if_pos h,List.length_cons,ih];simp[h]
  ·rw[if_neg h]
   cases hs:aJ c t with
   | nil=>exact absurd hs (p7 c t)
   | cons x r=>rw[hs]at ih;simp only[List.length_cons]at ih ⊢;simp[h];omega
theorem qz:OkF Tryz.prog 40 (au Eo):=by
 refine az Tryz.func40 rfl (by decide) ?_
 rintro ds v ⟨s,rfl,hmx,rfl⟩
 generalize hv:ct s=V
 refine al [5] (Γ:=tbl []) ae _ _ _ ?_
 by_cases h1:s.length<1
 ·have h1':(s.length:Int)<1:=by omega
  simp only[go_sem,Tryz.ntmps40,h1',decide_true]
  have:V=-1:=by rw[← hv];simp only[ct,h1,true_or,if_true]
  subst this
  exact am (.inl rfl) [2] rfl trivial rfl
 have h1':¬(s.length:Int)<1:=by omega
 by_cases h2:3<s.length
 ·have h2':(3:Int)<s.length:=by omega
  simp only[go_sem,Tryz.ntmps40,h1',h2',decide_true,decide_false]
  have:V=-1:=by rw[← hv];simp only[ct,h2,true_or,or_true,if_true]
  subst this
  exact am (.inl rfl) [2] rfl trivial rfl
 have h2':¬(3:Int)<s.length:=by omega
 have YN:∀b:UInt8,((b.toNat:Int)=48)=(b=48):=fun b=>by
  apply propext
  constructor
  ·intro h
   have h':b.toNat=48:=by omega
   exact UInt8.toNat_inj.1 (by simpa using h')
  ·rintro rfl;rfl
 have hV:¬(1<s.length/\s.getD 0 0=48)->V=if s.all DC then x8 s else -1:=fun h=>by
  rw[← hv];unfold ct;rw[if_neg (by simp only[h1,h2,h,or_self,not_false_eq_true])]
 have h00:(0:Int)<s.length:=by omega
 by_cases h4:s.getD 0 0=48
 case' pos =>
  by_cases h3:1<s.length
  ·have h3':(1:Int)<s.length:=by omega
   simp only[go_sem,Tryz.ntmps40,h1',h2',h3',h00,decide_true,decide_false,YN,h4]
   have:V=-1:=by rw[← hv];simp only[ct,h3,h4,and_self,or_true,if_true]
   subst this
   exact am (.inl rfl) [2] rfl trivial rfl
  have h3':¬(1:Int)<s.length:=by omega
  have hne:¬(1<s.length/\s.getD 0 0=48):=fun h=>h3 h.1
  simp only[go_sem,Tryz.ntmps40,h1',h2',h3',h00,decide_true,decide_false,YN,h4]
 case' neg =>
  have hne:¬(1<s.length/\s.getD 0 0=48):=fun h=>h4 h.2
  simp only[go_sem,Tryz.ntmps40,h1',h2',h00,decide_true,decide_false,YN,h4]
 all_goals
  have hV':=hV hne
  refine ap (fun k:Nat=>⟨an 48 [(0,.dat (.str s)),(3,.dat (.int .i64 (x8 (s.take k)))),(24,.dat (.int .i64 s.length)),(25,.dat (.int .i64 k))],[],0,[]⟩)
   (fun k=>k<=s.length/\(s.take k).all DC=true) (fun k=>s.length - k) 0 ⟨Nat.zero_le _,by simp⟩ ?_ ?_
  ·simp only[List.take_zero]
   exact a7 (by simp only[go_sem,x8,List.foldl_nil])
  rintro k ⟨hk,cO⟩
  refine a6 (Γ:=tbl []) ae _ _ _ ?_
  by_cases hlt:k<s.length
  ·have k1:(k:Int)<(s.length:Int):=by omega
   have k2:(0:Int)<=(k:Int):=by omega
   have htk:s.take (k+1)=s.take k++[s.getD k 0]:=by
    rw[List.take_succ_eq_append_getElem hlt,List.getD_eq_getElem?_getD,List.getElem?_eq_getElem hlt];rfl
   have hb:=r5 (s.take k) (by rw[List.length_take];omega) cO
   by_cases d1:((s.getD k 0).toNat:Int)<48
   ·simp only[go_sem,k1,k2,d1,decide_true,Int.toNat_natCast]
    have:V=-1:=by
     rw[hV',if_neg]
     intro ha
     have:=List.all_eq_true.1 ha (s.getD k 0) (by rw[List.getD_eq_getElem?_getD,List.getElem?_eq_getElem hlt];exact List.getElem_mem hlt)
     exact(gW.1 this).1 d1
    subst this
    exact am (.inl rfl) [2] rfl trivial rfl
   by_cases d2:(57:Int)<((s.getD k 0).toNat:Int)
   ·simp only[go_sem,k1,k2,d1,d2,decide_true,decide_false,Int.toNat_natCast]
    have:V=-1:=by
     rw[hV',if_neg]
     intro ha
     have:=List.all_eq_true.1 ha (s.getD k 0) (by rw[List.getD_eq_getElem?_getD,List.getElem?_eq_getElem hlt];exact List.getElem_mem hlt)
     exact(gW.1 this).2 d2
    subst this
    exact am (.inl rfl) [2] rfl trivial rfl
   have hdg:DC (s.getD k 0)=true:=gW.2 ⟨d1,d2⟩
   simp only[go_sem,k1,k2,d1,d2,decide_true,decide_false,Int.toNat_natCast]
   have hw:=Hu (n:=((s.getD k 0).toNat:Int) - 48) (by omega) (by omega)
   refine⟨ac.2 (by omega),?_⟩
   simp only[go_sem,HB,hw]
   have HT:(s.take (k+1)).all DC=true:=by rw[htk];simp only[List.all_append,cO,List.all_cons,List.all_nil,hdg,Bool.and_self]
   refine⟨ac.2 (by omega),ac.2 (by omega),ac.2 (by omega),k+1,⟨by omega,HT⟩,by omega,?_⟩
   rw[htk,BX]
   exact a7 (by simp only[go_sem,Int.natCast_add,Int.natCast_one,Int.cast_ofNat_Int])
  ·have k1:¬(k:Int)<(s.length:Int):=by omega
   have hke:k=s.length:=by omega
   subst hke
   rw[List.take_length]at cO
   simp only[go_sem,k1,decide_false,List.take_length]
   have:V=x8 s:=by rw[hV',if_pos cO]
   rw[this]
   exact am (.inl rfl) [2] rfl trivial rfl
def vN(w:Str):Nat:=if w=[116,97,107,101] then 1 else if w=[103,105,118,101] then 2 else if w=[108,111,99,107] then 3 else if w=[117,110,108,111,99,107] then 4 else if w=[99,97,108,108] then 5 else 0
def E7(ds:List D)(v:AV):Prop:=∃s:Str,ds=[.str s]/\v=.dat (.int .i64 (vN s))
theorem F4:OkF Tryz.prog 41 (au E7):=by
 refine az Tryz.func41 rfl (by decide) ?_
 rintro ds v ⟨s,rfl,rfl⟩
 generalize hv:vN s=V
 unfold vN at hv
 refine a6 (Γ:=tbl []) ae _ _ _ ?_
 by_cases h1:s=[116,97,107,101]
 ·rw[if_pos h1]at hv;subst hv
  simp only[go_sem,Tryz.ntmps41,eq_true h1,decide_true]
  exact am (.inl rfl) [2] rfl trivial rfl
 rw[if_neg h1]at hv
 by_cases h2:s=[103,105,118,101]
 ·rw[if_pos h2]at hv;subst hv
  simp only[go_sem,Tryz.ntmps41,eq_false h1,eq_true h2,decide_true,decide_false]
  exact am (.inl rfl) [2] rfl trivial rfl
 rw[if_neg h2]at hv
 by_cases h3:s=[108,111,99,107]
 ·rw[if_pos h3]at hv;subst hv
  simp only[go_sem,Tryz.ntmps41,eq_false h1,eq_false h2,eq_true h3,decide_true,decide_false]
  exact am (.inl rfl) [2] rfl trivial rfl
 rw[if_neg h3]at hv
 by_cases h4:s=[117,110,108,111,99,107]
 ·rw[if_pos h4]at hv;subst hv
  simp only[go_sem,Tryz.ntmps41,eq_false h1,eq_false h2,eq_false h3,eq_true h4,decide_true,decide_false]
  exact am (.inl rfl) [2] rfl trivial rfl
 rw[if_neg h4]at hv
 by_cases h5:s=[99,97,108,108]
 ·rw[if_pos h5]at hv;subst hv
  simp only[go_sem,Tryz.ntmps41,eq_false h1,eq_false h2,eq_false h3,eq_false h4,eq_true h5,decide_true,decide_false]
  exact am (.inl rfl) [2] rfl trivial rfl
 rw[if_neg h5]at hv;subst hv
 simp only[go_sem,Tryz.ntmps41,eq_false h1,eq_false h2,eq_false h3,eq_false h4,eq_false h5,decide_true,decide_false]
 exact am (.inl rfl) [2] rfl trivial rfl
theorem Ea(s:Str)(c:UInt8):Fu Tryz.prog 99 [.dat (.str s),.dat (.int .u8 c.toNat)] (.dat (.int .i64 (s.count c))):=by
 refine Jb (e:=Extern.BytealgCount.count) Tryz.func99 (by decide) rfl (by kernel_rfl) (by kernel_rfl) ?_
 intro F φ w vs hs
 simp only[AV.Rs]at hs
 obtain⟨v1,r1,rfl,h1,v2,r2,rfl,h2,rfl⟩:=hs
 obtain⟨rfl,hl⟩:=im.1 h1
 obtain⟨rfl,_⟩:=bw.1 h2
 refine⟨_,Lib.run_countString _ _ _,?_⟩
 have e:((c.toNat:Nat):Int).toNat.toUInt8=c:=by simp
 rw[e]
 have:=List.count_le_length (a:=c) (l:=s)
 simp only[maxLen]at hl
 exact bw.2 ⟨rfl,ac.2 (by show -9223372036854775808<=((s.count c:Nat):Int)/\((s.count c:Nat):Int)<=9223372036854775807;omega)⟩
def Wl(ds:List D)(v:AV):Prop:=∃(s:Str) (c:UInt8),ds=[.str s,.str [c]]/\v=.dat (.int .i64 (s.count c))
theorem F7:OkF Tryz.prog 87 (au Wl):=by
 refine az Tryz.func87 rfl (by decide) ?_
 rintro ds v ⟨s,c,rfl,rfl⟩
 refine al [4] (Γ:=tbl []) ae _ _ _ ?_
 simp only[go_sem,Tryz.ntmps87,List.length_cons,List.length_nil,eq_self,decide_true]
 refine nE (Γ:=tbl []) ae ?_
 refine .inr ?_
 simp only[go_sem]
 refine .inr ?_
 simp only[go_sem]
 refine .inr ?_
 simp only[go_sem,List.length_cons,List.length_nil]
 refine .inl ?_
 refine⟨_,Ea s c,?_⟩
 simp only[go_sem]
 refine .inr ?_
 simp only[go_sem]
 exact am (.inl rfl) [4] rfl trivial rfl
def XN(ds:List D)(xs:List D):Prop:=∃(s:Str) (c:UInt8),ds=[.str s,.str [c],.int .i64 0,.int .i64 (-1)]/\s.length<=1000000/\xs=(aJ c s).map .str
abbrev JR:List (Nat×a8):=[(87,au Wl),(68,au tL)]
theorem yi:OkG Tryz.prog (tbl JR):=ai F7 (ai nX ae)
theorem wp:OkF Tryz.prog 70 (fk (pb none XN)):=by
 refine ec Tryz.func70 rfl (by decide) ?_
 rintro ds v ob ⟨xs,⟨s,c,rfl,hmx,rfl⟩,rfl,rfl⟩
 have hcl:=List.count_le_length (a:=c) (l:=s)
 have hsc:=fM c s
 refine a6 (Γ:=tbl JR) yi _ _ _ ?_
 have c0:([c]=([]:Str))=False:=by simp
 have m1:((-1:Int)=0)=False:=by simp
 have m2:((-1:Int)<0)=True:=by simp
 simp only[go_sem,Tryz.ntmps70,c0,m1,m2,decide_true,decide_false]
 refine ah Wl (aI 0 rfl) [.str s,.str [c]] _ rfl ⟨s,c,rfl,rfl⟩ (.inl rfl) ?_
 have abP:min ((s.count c:Int)+1) ((s.length:Int)+1)=((s.count c+1:Nat):Int):=by omega
 have hm1:((s.count c+1:Nat):Int) - 1=((s.count c:Nat):Int):=by omega
 simp only[go_sem,abP,hm1,Int.toNat_natCast]
 refine⟨ac.2 (by omega),ac.2 (by omega),Int.le_refl _,by omega,ac.2 (by omega),?_⟩
 refine ap (fun x:Nat×Str=>⟨an 66 [(0,.dat (.str x.2)),(1,.dat (.str [c])),(2,.dat (.int .i64 0)),(3,.dat (.int .i64 (s.count c:Nat))),(9,.sl 0 0 (s.count c+1)),(10,.dat (.int .i64 x.1))],[.row none (((aJ c s).take x.1).map D.str++List.replicate (s.count c+1 - x.1) (.str []))],0,[]⟩)
  (fun x=>x.1<=s.count c/\aJ c x.2=(aJ c s).drop x.1/\x.2.length<=s.length) (fun x=>s.count c - x.1) (0,s) ⟨Nat.zero_le _,rfl,Nat.le_refl _⟩ ?_ ?_
 ·exact a7 (by simp only[go_sem,Int.natCast_zero,List.take_zero,List.map_nil,List.nil_append,Nat.sub_zero])
 rintro ⟨i,r⟩ ⟨h1,h2,h3⟩
 simp only at h1 h2 h3
 refine a6 (Γ:=tbl JR) yi _ _ _ ?_
 have hrc:=fM c r
 have hdl:(aJ c r).length=s.count c+1 - i:=by rw[h2,List.length_drop,hsc]
 have htl:(((aJ c s).take i).map D.str).length=i:=by rw[List.length_map,List.length_take,hsc];omega
 by_cases hi:i<s.count c
 ·have k1:(i:Int)<((s.count c:Nat):Int):=by omega
  simp only[go_sem,k1,decide_true]
  refine ah tL (aI 1 rfl) [.str r,.str [c]] _ rfl ⟨r,c,rfl,rfl⟩ (.inl rfl) ?_
  have hge:0<=mT r c:=by
   rcases Int.lt_or_le (mT r c) 0 with h|h
   ·have:=jL h
    rw[this]at hdl;simp at hdl;omega
   ·exact h
  obtain⟨m,hm⟩:∃m:Nat,mT r c=m:=⟨(mT r c).toNat,by omega⟩
  have hml:m<r.length:=by
   rcases rE c r with h|⟨_,h⟩ <;> rw[hm]at h <;> omega
  have hsp:=jA hm
  have hdc:(aJ c s).drop i=r.take m :: aJ c (r.drop (m+1)):=by rw[← h2,hsp]
  have hdr:(aJ c s).drop (i+1)=aJ c (r.drop (m+1)):=by
   have:=congrArg (List.drop 1) hdc
   rw[List.drop_drop]at this
   rw[this];rfl
  have htk:(aJ c s).take (i+1)=(aJ c s).take i++[r.take m]:=aC hdc
  have m3:(m:Int)+0=m:=by omega
  simp only[go_sem,hm,eq_false (show ¬((m:Nat):Int)<0 by omega),decide_false,m3,Int.toNat_natCast]
  have e1:((m:Int)+1).toNat=m+1:=by omega
  have e2:((r.length:Int) - ((m:Int)+1)).toNat=r.length - (m+1):=by omega
  have e3:(r.drop (m+1)).take (r.length - (m+1))=r.drop (m+1):=List.take_of_length_le (by simp)
  refine⟨ac.2 (by omega),by omega,by omega,by rw[List.length_map]at htl;omega,ac.2 (by omega),by omega,by omega,Int.le_refl _,ac.2 (by omega),(i+1,r.drop (m+1)),⟨by simp only;omega,hdr.symm,by simp only[List.length_drop];omega⟩,by simp only;omega,?_⟩
  have e4:((m:Int) - 0).toNat=m:=by omega
  rw[e1,e2,e3,e4]
  have dj:(((aJ c s).take i).map D.str++List.replicate (s.count c+1 - i) (D.str [])).set i (.str (r.take m))=((aJ c s).take (i+1)).map D.str++List.replicate (s.count c+1 - (i+1)) (.str []):=by
   obtain⟨k,hk⟩:∃k,s.count c+1 - i=k+1:=⟨s.count c - i,by omega⟩
   rw[hk,show s.count c+1 - (i+1)=k by omega,htk,List.map_append,List.replicate_succ,List.set_append_right _ _ (by omega),htl,Nat.sub_self]
   simp
  rw[dj]
  exact a7 (by simp only[go_sem,Int.natCast_add,Int.cast_ofNat_Int])
 ·have k1:¬(i:Int)<((s.count c:Nat):Int):=by omega
  have hie:i=s.count c:=by omega
  have hr1:aJ c r=[r]:=by
   refine fT r fun b hb e=>?_
   subst e
   have:=List.count_pos_iff.2 hb
   omega
  have cO:aJ c s=(aJ c s).take i++[r]:=by
   rw[← hr1,h2,List.take_append_drop]
  simp only[go_sem,k1,decide_false,Int.toNat_natCast]
  have e1:((i:Int)+1 - 0).toNat=(aJ c s).length:=by rw[hsc];omega
  have dj:(((aJ c s).take i).map D.str++List.replicate (s.count c+1 - i) (D.str [])).set i (.str r)=(aJ c s).map D.str:=by
   rw[show s.count c+1 - i=0+1 by omega,List.replicate_succ,List.set_append_right _ _ (by omega),htl,Nat.sub_self]
   conv=>rhs;rw[cO]
   simp
  refine⟨by omega,by rw[List.length_map]at htl;omega,ac.2 (by omega),by omega,by omega,?_⟩
  rw[e1,dj]
  exact gP (.inl rfl) [8] rfl rfl (fun _ h=>h)
def WV(ds:List D)(xs:List D):Prop:=∃(s:Str) (c:UInt8),ds=[.str s,.str [c]]/\s.length<=1000000/\xs=(aJ c s).map .str
theorem EW:OkF Tryz.prog 38 (fk (pb none WV)):=by
 refine ec Tryz.func38 rfl (by decide) ?_
 rintro ds v ob ⟨xs,⟨s,c,rfl,hmx,rfl⟩,rfl,rfl⟩
 refine a6 (Γ:=tbl [(70,fk (pb none XN))]) (ai wp ae) _ _ _ ?_
 simp only[go_sem,Tryz.ntmps38]
 refine co (pb none XN) (aI 0 rfl) [.str s,.str [c],.int .i64 0,.int .i64 (-1)] _ _ rfl rfl ⟨_,⟨s,c,rfl,hmx,rfl⟩,rfl,rfl⟩ ?_
 simp only[go_sem,AV.shift,Obj.shift,AV.shifts,List.map_cons,List.map_nil,List.nil_append,List.length_nil,Nat.zero_add]
 exact gP (.inl rfl) [4] rfl rfl (fun _ h=>h)
def PK(ds:List D)(v:AV):Prop:=∃s:Str,ds=[.str s]/\v=.dat (.bool (decide (s=[])))
theorem Jp:OkF Tryz.prog 39 (au PK):=by
 refine az Tryz.func39 rfl (by decide) ?_
 rintro ds v ⟨s,rfl,rfl⟩
 refine a6 (Γ:=tbl []) ae _ _ _ ?_
 simp only[go_sem,Tryz.ntmps39]
 exact am (.inl rfl) [2] rfl trivial rfl
abbrev bb(l:List Str):List D:=l.map .str
def Lo(xs:List AV)(obs:List Obj)(v0:AV)(obs' ex:List Obj)(mv0:List Nat):Prop:=∃u:List Str,u.length<=2000000/\xs=[.sl 0 0 u.length,.fn 39 []]/\obs=[.row none (bb u)]/\v0=.dat (.int .i64 (dF [] 0 u))/\obs'=[.row none (bb u)]/\ex=[]/\mv0=[]
abbrev KP:List (Nat×a8):=[(39,au PK)]
theorem yF:OkG Tryz.prog (tbl KP):=ai Jp ae
theorem K3:OkF Tryz.prog 69 (cr Lo):=by
 refine c9 Tryz.func69 rfl (by decide) ?_
 rintro xs obs v0 obs' ex mv0 ⟨u,hu,rfl,rfl,rfl,rfl,rfl,rfl⟩
 generalize hv:dF [] 0 u=V
 refine a6 (Γ:=tbl KP) yF _ _ _ ?_
 have fin:∀s (b c:Int),b=c->s.getD 4 .top=.dat (.int .i64 b)->post Tryz.prog Tryz.f69 (.dat (.int .i64 c)) ([.row none (bb u)]++[]) [] .ret ⟨s,[.row none (bb u)],1,[]⟩:=fun s b c e h=>by
  subst e
  refine aH (.inl rfl) [.tmp 4] rfl (fun _ h=>h) ?_
  simp only[go_sem,h]
  exact Le.refl _
 simp only[go_sem,Tryz.ntmps69]
 refine ap (fun k:Nat=>⟨an 19 [(0,.sl 0 0 u.length),(1,.fn 39 []),(4,.dat (.int .i64 0)),(7,.dat (.int .i64 u.length)),(8,.dat (.int .i64 k))],[.row none (bb u)],1,[]⟩)
  (fun k=>k<=u.length/\dF [] k (u.drop k)=V) (fun k=>u.length - k) 0 ⟨Nat.zero_le _,hv⟩ ?_ ?_
 ·exact a7 (by simp only[go_sem,Int.natCast_zero])
 ·rintro k ⟨hk,hI⟩
  refine a6 (Γ:=tbl KP) yF _ _ _ ?_
  cases hd:u.drop k with
  | nil =>
   have:=aj hd hk
   have hk2:¬(k:Int)<u.length:=by omega
   simp only[go_sem,hk2,decide_false]
   refine fin _ _ _ ?_ (by rfl)
   rw[← hI,hd];rfl
  | cons c q =>
   have hlt:=ao hd
   have hk2:(k:Int)<u.length:=by omega
   have hk0:(0:Int)<=k:=Int.natCast_nonneg k
   have hn:=ak (f:=D.str) hd
   rw[hd,dF]at hI
   simp only[go_sem,hk2,hk0,hn,hlt,decide_true]
   refine ah PK (aI 0 rfl) _ _ rfl ⟨c,rfl,rfl⟩ (.inl rfl) ?_
   by_cases he:c=[]
   ·subst he
    simp only[go_sem,decide_true]
    rw[if_pos rfl]at hI
    exact fin _ _ _ hI (by rfl)
   ·simp only[go_sem,he,decide_false]
    rw[if_neg (fun h=>he h.symm)]at hI
    refine⟨ac.2 (by omega),k+1,⟨by omega,by rw[aE hd];exact hI⟩,by omega,?_⟩
    exact a7 (by simp only[go_sem,Int.natCast_add,Int.cast_ofNat_Int])
def vv(w:Str):Bool:=!decide (w=[])
def WU(xs:List AV)(obs:List Obj)(v0:AV)(obs' ex:List Obj)(mv0:List Nat):Prop:=∃u:List Str,u.length<=2000000/\xs=[.sl 0 0 u.length,.fn 39 []]/\obs=[.row none (bb u)] /\
 v0=.sl 0 0 (u.filter vv).length/\obs'=[.row none (bb (u.filter vv))]/\ex=[]/\mv0=[]
theorem zZ{u:List Str}:∀{k:Nat} {v:Int},dF [] k u=v->(v=-1/\u.filter vv=u)∨∃i:Nat,v=((k+i:Nat):Int)/\i<u.length/\(u.take i).filter vv=u.take i/\u.getD i []=[]:=by
 induction u with
 | nil=>intro k v h;exact .inl ⟨h.symm,rfl⟩
 | cons y r ih =>
  intro k v h
  rw[dF]at h
  by_cases hy:([]:Str)=y
  ·rw[if_pos hy]at h
   exact .inr ⟨0,by simpa using h.symm,by simp,rfl,by simp[← hy]⟩
  ·rw[if_neg hy]at h
   have hn:vv y=true:=by simp[vv];exact fun e=>hy e.symm
   rcases ih h with⟨h1,h2⟩|⟨i,h1,h2,h3,h4⟩
   ·exact .inl ⟨h1,by rw[List.filter_cons,if_pos hn,h2]⟩
   ·exact .inr ⟨i+1,by omega,by simpa using h2,by rw[List.take_succ_cons,List.filter_cons,if_pos hn,h3],by simpa using h4⟩
abbrev L7:List (Nat×a8):=[(39,au PK),(69,cr Lo)]
theorem yo:OkG Tryz.prog (tbl L7):=ai Jp (ai K3 ae)
theorem sa:OkF Tryz.prog 37 (cr WU):=by
 refine c9 Tryz.func37 rfl (by decide) ?_
 rintro xs obs v0 obs' ex mv0 ⟨u,hu,rfl,rfl,rfl,rfl,rfl,rfl⟩
 refine a6 (Γ:=tbl L7) yo _ _ _ ?_
 simp only[go_sem,Tryz.ntmps37]
 refine bC Lo (aI 1 rfl) [0] ⟨u,hu,rfl,rfl,rfl,rfl,rfl,rfl⟩ (by decide) (by simp) rfl rfl rfl (by simp only[go_sem,AV.unders,AV.under]) (by simp only[List.mem_singleton,forall_eq];trivial) (fun j hj=>by
    obtain rfl:j=0:=by simp at hj;exact hj
    rfl) ?_
 have fin:∀s (x y:List Str),x=y->s.getD 4 .top=.sl 0 0 x.length->post Tryz.prog Tryz.f37 (.sl 0 0 y.length) ([.row none (bb y)]++[]) [] .ret ⟨s,[.row none (bb x)],1,[]⟩:=fun s x y e h=>by
  subst e
  refine aH (.inl rfl) [.tmp 4] rfl (fun _ h=>h) ?_
  simp only[go_sem,h]
  exact Le.refl _
 rcases zZ (k:=0) (u:=u) rfl with⟨h1,h2⟩|⟨i0,h1,h2,h3,h4⟩
 ·simp only[go_sem,h1,eq_self,decide_true]
  exact fin _ _ _ h2.symm rfl
 ·rw[Nat.zero_add]at h1
  have hne:=eq_false (show ¬((i0:Nat):Int)=-1 by omega)
  simp only[go_sem,h1,hne,decide_false]
  refine⟨ac.2 (by omega),?_⟩
  refine ap (fun x:Nat×Nat×List Str=>⟨an 42 [(0,.sl 0 0 u.length),(1,.fn 39 []),(5,.dat (.int .i64 x.1)),(6,.dat (.int .i64 x.2.1))],[.row none (bb x.2.2)],1,[]⟩)
   (fun x=>x.1<x.2.1/\x.2.1<=u.length/\x.2.2.length=u.length/\x.2.2.take x.1=(u.take x.2.1).filter vv/\x.2.2.drop x.2.1=u.drop x.2.1) (fun x=>u.length - x.2.1) (i0,i0+1,u) ⟨by simp only;omega,by simp only;omega,rfl,?_,rfl⟩ ?_ ?_
  ·show u.take i0=(u.take (i0+1)).filter vv
   rw[List.take_succ_eq_append_getElem h2,List.filter_append,h3]
   have:u[i0]=[]:=by rw[List.getD_eq_getElem?_getD,List.getElem?_eq_getElem h2]at h4;exact h4
   simp[this,vv]
  ·exact a7 (by simp only[go_sem,Int.natCast_add,Int.cast_ofNat_Int])
  rintro ⟨i,j,R⟩ ⟨g1,g2,g3,g4,g5⟩
  simp only at g1 g2 g3 g4 g5
  refine a6 (Γ:=tbl L7) yo _ _ _ ?_
  cases hd:u.drop j with
  | nil =>
   have:=aj hd g2
   have hk2:¬(j:Int)<u.length:=by omega
   simp only[go_sem,hk2,decide_false,Int.toNat_natCast]
   have e1:((i:Int) - 0).toNat=i:=by omega
   have e2:List.take i (bb R)=bb (u.filter vv):=by
    have:u.take j=u:=by rw[this,List.take_length]
    rw[this]at g4
    rw[← g4];simp[bb,List.map_take]
   have e3:i=(u.filter vv).length:=by
    have:=congrArg List.length e2
    simp only[bb,List.length_take,List.length_map]at this
    omega
   refine⟨by omega,Int.le_refl _,by omega,by omega,?_⟩
   rw[e1,e2]
   exact fin _ _ _ rfl (by rw[← e3];rfl)
  | cons c q =>
   have hlt:=ao hd
   have hk2:(j:Int)<u.length:=by omega
   have hk0:(0:Int)<=j:=Int.natCast_nonneg j
   have hn:=ak (f:=D.str) (g5.trans hd)
   simp only[go_sem,hk2,hk0,hn,hlt,g3,decide_true]
   refine ah PK (aI 0 rfl) _ _ rfl ⟨c,rfl,rfl⟩ (.inl rfl) ?_
   by_cases he:c=[]
   ·subst he
    simp only[go_sem,decide_true,Bool.not_true]
    have hd1:=aE hd
    have hR1:R.drop (j+1)=u.drop (j+1):=by
     have:=congrArg (List.drop 1) g5
     rwa [List.drop_drop,List.drop_drop]at this
    refine⟨ac.2 (by omega),(i,j+1,R),⟨by simp only;omega,by simp only;omega,g3,?_,hR1⟩,by simp only;omega,?_⟩
    ·simp only
     rw[aC hd,List.filter_append,g4];simp[vv]
    ·exact a7 (by simp only[go_sem,Int.natCast_add,Int.cast_ofNat_Int])
   ·simp only[go_sem,he,decide_false,Bool.not_false]
    have hR1:R.drop (j+1)=u.drop (j+1):=by
     have:=congrArg (List.drop 1) g5
     rwa [List.drop_drop,List.drop_drop]at this
    have dB:(bb R).set i (D.str c)=bb (R.set i c):=by simp[bb,List.map_set]
    refine⟨by omega,by omega,ac.2 (by omega),ac.2 (by omega),(i+1,j+1,R.set i c),⟨by simp only;omega,by simp only;omega,by simpa using g3,?_,?_⟩,by simp only;omega,?_⟩
    ·show (R.set i c).take (i+1)=(u.take (j+1)).filter vv
     rw[aC hd,List.filter_append,← g4]
     have h5:[c].filter vv=[c]:=by simp[vv,he]
     rw[h5,List.take_succ_eq_append_getElem (by rw[List.length_set];omega),List.getElem_set_self,List.take_set_of_le (Nat.le_refl _)]
    ·show (R.set i c).drop (j+1)=u.drop (j+1)
     rw[List.drop_set_of_lt (by omega)];exact hR1
    ·rw[dB]
     exact a7 (by simp only[go_sem,Int.natCast_add,Int.cast_ofNat_Int])
theorem rA(s:Str):aU s=(aJ 32 s).filter vv:=rfl
def Wz(ds:List D)(xs:List D):Prop:=∃s:Str,ds=[.str s]/\s.length<=1000000/\xs=bb (aU s)
abbrev Qm:List (Nat×a8):=[(38,fk (pb none WV)),(37,cr WU)]
theorem Gd:OkG Tryz.prog (tbl Qm):=ai EW (ai sa ae)
theorem BA:OkF Tryz.prog 17 (fk (pb none Wz)):=by
 refine ec Tryz.func17 rfl (by decide) ?_
 rintro ds v ob ⟨xs,⟨s,rfl,hmx,rfl⟩,rfl,rfl⟩
 refine a6 (Γ:=tbl Qm) Gd _ _ _ ?_
 simp only[go_sem,Tryz.ntmps17]
 refine co (pb none WV) (aI 0 rfl) [.str s,.str [32]] _ _ rfl rfl ⟨_,⟨s,32,rfl,hmx,rfl⟩,rfl,rfl⟩ ?_
 simp only[go_sem,AV.shift,Obj.shift,AV.shifts,List.map_cons,List.map_nil,List.nil_append,List.length_nil,Nat.zero_add]
 have hl:(aJ 32 s).length<=2000000:=by have:=fM 32 s;have:=List.count_le_length (a:=32) (l:=s);omega
 refine bC WU (aI 1 rfl) [0] ⟨aJ 32 s,hl,rfl,rfl,rfl,rfl,rfl,rfl⟩ (by decide) (by simp) rfl rfl rfl (by simp only[go_sem,AV.unders,AV.under]) (by simp only[List.mem_singleton,forall_eq];trivial) (fun j hj=>by
    obtain rfl:j=0:=by simp at hj;exact hj
    rfl) ?_
 simp only[go_sem]
 exact gP (.inl rfl) [2] rfl (by simp[rA,bb];rfl) (fun _ h=>h)
end Go.AM

