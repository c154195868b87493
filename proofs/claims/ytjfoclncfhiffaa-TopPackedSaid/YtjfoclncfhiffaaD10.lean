/- Own work over the model of the kit. -/
import Derived.Test.YtjfoclncfhiffaaD9
import Derived.Test.YtjfoclncfhiffaaD6
import Derived.Test.YtjfoclncfhiffaaD8
import Derived.Test.YtjfoclncfhiffaaD5
set_option linter.unnecessarySimpa false
set_option linter.unusedSimpArgs false
set_option linter.unusedVariables false
namespace Go.AM
open Go
mutual
def D.eqB:D->D->Bool
 | .int k n,.int k' n'=>decide (k=k') && decide (n=n')
 | .bool b,.bool b'=>decide (b=b')
 | .str s,.str s'=>decide (s=s')
 | .sl ag xs,.sl ag' xs'=>decide (ag=ag') && D.eqBs xs xs'
 | .agg ds,.agg ds'=>D.eqBs ds ds'
 | _,_=>false
def D.eqBs:List D->List D->Bool
 | [],[]=>true
 | d :: ds,d' :: ds'=>D.eqB d d' && D.eqBs ds ds'
 | _,_=>false
end
mutual
theorem D.eqB_ok:∀(d d':D),D.eqB d d'=true->d=d'
 | .int k n,d',h=>by cases d' <;> simp_all [D.eqB]
 | .bool b,d',h=>by cases d' <;> simp_all [D.eqB]
 | .str s,d',h=>by cases d' <;> simp_all [D.eqB]
 | .sl ag xs,d',h=>by
  cases d' with
  | sl ag' xs' =>
   simp only[D.eqB,Bool.and_eq_true,decide_eq_true_eq]at h
   rw[h.1,D.eqBs_ok xs xs' h.2]
  | _=>simp[D.eqB]at h
 | .agg ds,d',h=>by
  cases d' with
  | agg ds' =>
   simp only[D.eqB]at h
   rw[D.eqBs_ok ds ds' h]
  | _=>simp[D.eqB]at h
theorem D.eqBs_ok:∀(ds ds':List D),D.eqBs ds ds'=true->ds=ds'
 | [],ds',h=>by cases ds' <;> simp_all [D.eqBs]
 | d :: ds,ds',h=>by
  cases ds' with
  | nil=>simp[D.eqBs]at h
  | cons d' ds' =>
   simp only[D.eqBs,Bool.and_eq_true]at h
   rw[D.eqB_ok d d' h.1,D.eqBs_ok ds ds' h.2]
end
mutual
def AV.eqB:AV->AV->Bool
 | .dat d,.dat d'=>D.eqB d d'
 | .nils,.nils=>true
 | .nilm,.nilm=>true
 | .sl o i j,.sl o' i' j'=>decide (o=o') && decide (i=i') && decide (j=j')
 | .ptr o i j,.ptr o' i' j'=>decide (o=o') && decide (i=i') && decide (j=j')
 | .rptr ag d,.rptr ag' d'=>decide (ag=ag') && D.eqB d d'
 | .agg vs,.agg vs'=>AV.eqBs vs vs'
 | .tup vs,.tup vs'=>AV.eqBs vs vs'
 | .map o,.map o'=>decide (o=o')
 | .yld o,.yld o'=>decide (o=o')
 | .fn f vs,.fn f' vs'=>decide (f=f') && AV.eqBs vs vs'
 | .top,.top=>true
 | _,_=>false
def AV.eqBs:List AV->List AV->Bool
 | [],[]=>true
 | d :: ds,d' :: ds'=>AV.eqB d d' && AV.eqBs ds ds'
 | _,_=>false
end
mutual
theorem AV.eqB_ok:∀(d d':AV),AV.eqB d d'=true->d=d'
 | .dat d,v,h=>by
  cases v with
  | dat d'=>simp only[AV.eqB]at h;rw[D.eqB_ok d d' h]
  | _=>simp[AV.eqB]at h
 | .nils,v,h=>by cases v <;> simp_all [AV.eqB]
 | .nilm,v,h=>by cases v <;> simp_all [AV.eqB]
 | .sl o i j,v,h=>by cases v <;> simp_all [AV.eqB]
 | .ptr o i j,v,h=>by cases v <;> simp_all [AV.eqB]
 | .rptr ag d,v,h=>by
  cases v with
  | rptr ag' d'=>simp only[AV.eqB,Bool.and_eq_true,decide_eq_true_eq]at h;rw[h.1,D.eqB_ok d d' h.2]
  | _=>simp[AV.eqB]at h
 | .agg vs,v,h=>by
  cases v with
  | agg vs'=>simp only[AV.eqB]at h;rw[AV.eqBs_ok vs vs' h]
  | _=>simp[AV.eqB]at h
 | .tup vs,v,h=>by
  cases v with
  | tup vs'=>simp only[AV.eqB]at h;rw[AV.eqBs_ok vs vs' h]
  | _=>simp[AV.eqB]at h
 | .map o,v,h=>by cases v <;> simp_all [AV.eqB]
 | .yld o,v,h=>by cases v <;> simp_all [AV.eqB]
 | .fn f vs,v,h=>by
  cases v with
  | fn f' vs'=>simp only[AV.eqB,Bool.and_eq_true,decide_eq_true_eq]at h;rw[h.1,AV.eqBs_ok vs vs' h.2]
  | _=>simp[AV.eqB]at h
 | .top,v,h=>by cases v <;> simp_all [AV.eqB]
theorem AV.eqBs_ok:∀(ds ds':List AV),AV.eqBs ds ds'=true->ds=ds'
 | [],ds',h=>by cases ds' <;> simp_all [AV.eqBs]
 | d :: ds,ds',h=>by
  cases ds' with
  | nil=>simp[AV.eqBs]at h
  | cons d' ds' =>
   simp only[AV.eqBs,Bool.and_eq_true]at h
   rw[AV.eqB_ok d d' h.1,AV.eqBs_ok ds ds' h.2]
end
def mapEqB:List (D×D)->List (D×D)->Bool
 | [],[]=>true
 | d :: ds,d' :: ds'=>D.eqB d.1 d'.1 && D.eqB d.2 d'.2 && mapEqB ds ds'
 | _,_=>false
theorem mapEqB_ok:∀(ds ds':List (D×D)),mapEqB ds ds'=true->ds=ds'
 | [],ds',h=>by cases ds' <;> simp_all [mapEqB]
 | (a,b) :: ds,ds',h=>by
  cases ds' with
  | nil=>simp[mapEqB]at h
  | cons d' ds' =>
   obtain⟨a',b'⟩:=d'
   simp only[mapEqB,Bool.and_eq_true]at h
   rw[D.eqB_ok a a' h.1.1,D.eqB_ok b b' h.1.2,mapEqB_ok ds ds' h.2]
def Obj.eqB:Obj->Obj->Bool
 | .row ag xs,.row ag' xs'=>decide (ag=ag') && D.eqBs xs xs'
 | .vec cs,.vec cs'=>AV.eqBs cs cs'
 | .tab k cs,.tab k' cs'=>decide (k=k') && AV.eqBs cs cs'
 | .box cs,.box cs'=>AV.eqBs cs cs'
 | .bld T u cs,.bld T' u' cs'=>decide (T=T') && decide (u=u') && AV.eqBs cs cs'
 | .map m,.map m'=>mapEqB m m'
 | .dead,.dead=>true
 | _,_=>false
theorem Obj.eqB_ok(x y:Obj)(h:Obj.eqB x y=true):x=y:=by
 cases x <;> cases y <;> simp only[Obj.eqB,Bool.and_eq_true,decide_eq_true_eq]at h <;> first
  | rw[h.1,D.eqBs_ok _ _ h.2]
  | rw[h.1,AV.eqBs_ok _ _ h.2]
  | rw[h.1.1,h.1.2,AV.eqBs_ok _ _ h.2]
  | rw[AV.eqBs_ok _ _ h]
  | rw[mapEqB_ok _ _ h]
  | rfl
  | cases h
def Obj.eqBs:List Obj->List Obj->Bool
 | [],[]=>true
 | d :: ds,d' :: ds'=>Obj.eqB d d' && Obj.eqBs ds ds'
 | _,_=>false
theorem Obj.eqBs_ok:∀(ds ds':List Obj),Obj.eqBs ds ds'=true->ds=ds'
 | [],ds',h=>by cases ds' <;> simp_all [Obj.eqBs]
 | d :: ds,ds',h=>by
  cases ds' with
  | nil=>simp[Obj.eqBs]at h
  | cons d' ds' =>
   simp only[Obj.eqBs,Bool.and_eq_true]at h
   rw[Obj.eqB_ok d d' h.1,Obj.eqBs_ok ds ds' h.2]
mutual
def AV.underB(n:Nat):AV->Bool
 | .sl o _ _=>decide (o<n)
 | .ptr o _ _=>decide (o<n)
 | .map o=>decide (o<n)
 | .yld o=>decide (o<n)
 | .agg vs=>AV.undersB n vs
 | .tup vs=>AV.undersB n vs
 | .fn _ vs=>AV.undersB n vs
 | .dat _=>true
 | .nils=>true
 | .nilm=>true
 | .rptr _ _=>true
 | .top=>true
def AV.undersB(n:Nat):List AV->Bool
 | []=>true
 | a :: as=>AV.underB n a && AV.undersB n as
end
mutual
theorem AV.underB_ok{n:Nat}:∀(a:AV),AV.underB n a=true->a.under n
 | .sl o _ _,h=>by simpa [AV.underB,AV.under] using h
 | .ptr o _ _,h=>by simpa [AV.underB,AV.under] using h
 | .map o,h=>by simpa [AV.underB,AV.under] using h
 | .yld o,h=>by simpa [AV.underB,AV.under] using h
 | .agg vs,h=>by simp only[AV.underB,AV.under]at h ⊢;exact AV.undersB_ok vs h
 | .tup vs,h=>by simp only[AV.underB,AV.under]at h ⊢;exact AV.undersB_ok vs h
 | .fn _ vs,h=>by simp only[AV.underB,AV.under]at h ⊢;exact AV.undersB_ok vs h
 | .dat _,h=>by simp[AV.under]
 | .nils,h=>by simp[AV.under]
 | .nilm,h=>by simp[AV.under]
 | .rptr _ _,h=>by simp[AV.under]
 | .top,h=>by simp[AV.under]
theorem AV.undersB_ok{n:Nat}:∀(as:List AV),AV.undersB n as=true->AV.unders n as
 | [],h=>by simp[AV.unders]
 | a :: as,h=>by
  simp only[AV.undersB,Bool.and_eq_true]at h
  simp only[AV.unders]
  exact⟨AV.underB_ok a h.1,AV.undersB_ok as h.2⟩
end
def Obj.underB(n:Nat):Obj->Bool
 | .box cs=>AV.undersB n cs
 | .lp _ cs=>AV.undersB n cs
 | .bld _ _ cs=>AV.undersB n cs
 | .vec cs=>AV.undersB n cs
 | .tab _ cs=>AV.undersB n cs
 | _=>true
theorem Obj.underB_ok{n:Nat}{x:Obj}(h:x.underB n=true):x.under n:=by
 cases x <;> simp only[Obj.underB,Obj.under]at h ⊢ <;> exact AV.undersB_ok _ h
theorem le_mvs{s:List AV}{own:List Obj}{n0:Nat}{mv mv':List Nat}(h:∀o∈mv,o∈mv'):Le ⟨s,own,n0,mv⟩ ⟨s,own,n0,mv'⟩:=by
 rintro c a w ⟨hd,hn,F,φ,h2,h3,h4⟩
 exact⟨hd,hn,F,φ,{ h2 with keep:=fun o L hlt hm ho=>h2.keep o L hlt (fun hm'=>hm (h o hm')) ho },h3,h4⟩
theorem le_renG{s:List AV}{own own':List Obj}{n0:Nat}{mv:List Nat}(p q:Nat->Nat)(hqp:∀o,q (p o)=o)(hpq:∀o,p (q o)=o)(hlt:∀o,o<own.length->q o<own.length)(hge:∀o,own.length<=o->q o=o)
  (h0:∀o,o<n0->q o=o) (ho:own'=(List.range own.length).map fun o=>(own.getD (q o) .dead).ren p):Le ⟨s,own,n0,mv⟩ ⟨AV.rens p s,own',n0,mv⟩:=by
 rintro c a w ⟨hd,hn,F,φ,h2,h3,h4⟩
 have hφ:∀o L,φ o=some L->(fun i=>φ (q i)) (p o)=some L:=fun o L h=>by simp only[hqp];exact h
 have hl:own'.length=own.length:=by rw[ho];simp
 simp only at hn
 refine⟨hd,hn,F,fun i=>φ (q i),⟨h2.sub,h2.ext,fun o L hlt' hm h=>?_,h2.rest,fun o L' ho' hn'=>h2.orig (q o) L' ho' hn',h2.frsh⟩,?_,AV.Rs_ren (π:=p) (φ:=φ) (φ':=fun i=>φ (q i)) hφ s _ h4⟩
 ·show φ (q o)=some L
  rw[h0 o (by omega)]
  exact h2.keep o L hlt' hm h
 ·refine⟨h3.fb,fun o L h=>h3.live (q o) L h,fun o o' L L' h h' n n' hne=>h3.inj (q o) (q o') L L' h h' n n' (fun e=>hne (by rw[← hpq o,← hpq o',e])),fun o obj hob=>?_,fun o hge'=>?_,h3.glob⟩
  ·have hlt':o<own.length:=by
    have:=(List.getElem?_eq_some_iff.1 hob).1
    simp only[hl]at this
    exact this
   simp only[ho,List.getElem?_map,List.getElem?_range hlt',Option.map_some,Option.some.injEq]at hob
   subst hob
   have hp:=hlt o hlt'
   have:=h3.rep (q o) (own.getD (q o) .dead) (by simp only;rw[List.getD_eq_getElem?_getD,List.getElem?_eq_getElem hp];rfl)
   exact ObjR_ren (π:=p) (φ:=φ) (φ':=fun i=>φ (q i)) hφ this
  ·simp only[hl]at hge'
   show φ (q o)=none
   rw[hge o hge']
   exact h3.out o hge'
def cutF(n:Nat)(f:Nat->Nat):Nat->Nat:=fun o=>if o<n then f o else o
def permB(n n0:Nat)(p q:Nat->Nat):Bool:=(List.range n).all fun o=>decide (q (p o)=o) && decide (p (q o)=o) && decide (p o<n) && decide (q o<n) && (decide (n0<=o) || decide (q o=o))
def S.sameB(p q:Nat->Nat)(σ σ':S):Bool :=
 decide (σ.n0=σ'.n0) && decide (σ.own.length=σ'.own.length) && permB σ.own.length σ.n0 p q && decide (σ.n0<=σ.own.length) && (σ.mv.all fun o=>σ'.mv.contains o) &&
  AV.eqBs (AV.rens (cutF σ.own.length p) σ.slots) σ'.slots && Obj.eqBs ((List.range σ.own.length).map fun o=>(σ.own.getD (cutF σ.own.length q o) .dead).ren (cutF σ.own.length p)) σ'.own
theorem le_perm{s:List AV}{own own':List Obj}{n0:Nat}{mv:List Nat}{p q:Nat->Nat}(h3:permB own.length n0 p q=true)(h4:n0<=own.length)(ho:own'=(List.range own.length).map fun o=>(own.getD (cutF own.length q o) .dead).ren (cutF own.length p)) :
  Le ⟨s,own,n0,mv⟩ ⟨AV.rens (cutF own.length p) s,own',n0,mv⟩:=by
 have hp:∀o,o<own.length->(q (p o)=o/\p (q o)=o/\p o<own.length/\q o<own.length/\(n0<=o∨q o=o)):=fun o ho=>by
  have:=List.all_eq_true.1 h3 o (List.mem_range.2 ho)
  simp only[Bool.and_eq_true,Bool.or_eq_true,decide_eq_true_eq]at this
  exact⟨this.1.1.1.1,this.1.1.1.2,this.1.1.2,this.1.2,this.2⟩
 refine le_renG (cutF own.length p) (cutF own.length q) (fun o=>?_) (fun o=>?_) (fun o ho=>?_) (fun o ho=>?_) (fun o ho=>?_) ho
 ·unfold cutF
  by_cases e:o<own.length
  ·simp only[e,if_true,(hp o e).2.2.1,(hp o e).1]
  ·simp only[e,if_false]
 ·unfold cutF
  by_cases e:o<own.length
  ·simp only[e,if_true,(hp o e).2.2.2.1,(hp o e).2.1]
  ·simp only[e,if_false]
 ·unfold cutF;rw[if_pos ho];exact(hp o ho).2.2.2.1
 ·unfold cutF;rw[if_neg (by omega)]
 ·unfold cutF
  rw[if_pos (by omega)]
  rcases(hp o (by omega)).2.2.2.2 with h|h
  ·omega
  ·exact h
theorem S.sameB_ok{p q:Nat->Nat}{σ σ':S}(h:S.sameB p q σ σ'=true):Le σ σ':=by
 obtain⟨s,own,n0,mv⟩:=σ
 obtain⟨s',own',n0',mv'⟩:=σ'
 simp only[S.sameB,Bool.and_eq_true,decide_eq_true_eq,List.all_eq_true,List.contains_eq_mem]at h
 obtain⟨⟨⟨⟨⟨⟨h1,h2⟩,h3⟩,h4⟩,h5⟩,h6⟩,h7⟩:=h
 subst h1
 refine Le.trans (le_perm h3 h4 rfl) ?_
 ·rw[AV.eqBs_ok _ _ h6,Obj.eqBs_ok _ _ h7]
  exact le_mvs fun o ho=>by simpa using h5 o ho
def natsF{α:Type}:List Nat->(List Nat->α)->α
 | [],K=>K []
 | x :: xs,K=>natF x fun x=>natsF xs fun xs=>K (x :: xs)
theorem natsF_eq{α:Type}:∀(l:List Nat) (K:List Nat->α),natsF l K=K l
 | [],K=>rfl
 | x :: xs,K=>by rw[natsF,natF_eq,natsF_eq xs]
abbrev Blk:=List (Nat×Nat×Nat)
def blkMap(b b':Blk)(o:Nat):Nat :=
 match b.find? (fun x=>decide (x.2.1<=o) && decide (o<x.2.1+x.2.2)) with
 | none=>o
 | some (x,s,_)=>(match b'.find? (fun y=>decide (y.1=x)) with|some (_,s',_)=>s'+(o - s)|none=>o)
def addBlk(bl:Blk)(x n n':Nat):Blk:=match decide (n<n') with|true=>(x,n,n' - n) :: bl|false=>bl
section
variable {P:Program}
def condXB(ko:Nat)(o:Oper)(s:List AV):Bool :=
 match o.op with
 | .call c=>(match c.args.toList with|[x,_]=>(match ev s x with|.sl o' _ _=>decide (o'=ko)|.nils=>true|_=>false)|_=>false)
 | .load _ x=>(match ev s x with|.ptr o' _ _=>decide (o'≠ko)|.rptr _ _=>true|_=>false)
 | .fieldAddr _ x _=>(match ev s x with|.ptr o' _ _=>decide (o'≠ko)|.rptr _ _=>true|_=>false)
 | .indexAddr _ x i=>(match ev s x with|.ptr o' _ _=>decide (o'≠ko)|.sl o' _ _=>decide (o'≠ko)|.dat _=>true|_=>false) && (match ev s i with|.dat _=>true|_=>false)
 | .move _=>true
 | .assign _=>true
 | _=>false
theorem condXB_ok{ko:Nat}{o:Oper}{s:List AV}(h:condXB ko o s=true):condX ko o s:=by
 unfold condXB at h
 unfold condX
 split at h
 ·rename_i e;rw[e];simp only
  split at h
  ·rename_i e2;rw[e2];simp only
   split at h
   ·rename_i e3;simp only[e3];exact of_decide_eq_true h
   ·rename_i e3;simp only[e3]
   ·cases h
  ·cases h
 ·rename_i e;rw[e];simp only[condA,e]
  split at h
  ·rename_i e3;simp only[e3];exact of_decide_eq_true h
  ·rename_i e3;simp only[e3]
  ·cases h
 ·rename_i e;rw[e];simp only[condA,e]
  split at h
  ·rename_i e3;simp only[e3];exact of_decide_eq_true h
  ·rename_i e3;simp only[e3]
  ·cases h
 ·rename_i e;rw[e];simp only[condA,e]
  rw[Bool.and_eq_true]at h
  refine⟨?_,?_⟩
  ·have h:=h.1
   split at h
   ·rename_i e3;simp only[e3];exact of_decide_eq_true h
   ·rename_i e3;simp only[e3];exact of_decide_eq_true h
   ·rename_i e3;simp only[e3]
   ·cases h
  ·have h:=h.2
   split at h
   ·rename_i e3;simp only[e3]
   ·cases h
 ·rename_i e;rw[e];simp only[condA,e]
 ·rename_i e;rw[e];simp only[condA,e]
 ·cases h
def runT(P:Program)(call:CallO)(all:Array Oper)(ob ko:Nat)(ms ks:List Nat):DT->S->Blk->Option (S×Blk)->Option (S×Blk)
 | .fin,σ,bl,r=>(match r with
  | none=>some (σ,bl)
  | some x=>gd (S.sameB (blkMap bl x.2) (blkMap x.2 bl) σ x.1) (some x))
 | .stop,_,_,r=>r
 | .one p t,σ,bl,r=>(match all[p]? with
  | none=>none
  | some o=>gd ((!ms.contains p || condB ob o σ.slots) && (!ks.contains p || condXB ko o σ.slots)) (match opgO P call all o σ with
   | some σ'=>natF σ.own.length fun n=>natF σ'.own.length fun n'=>runT P call all ob ko ms ks t σ' (addBlk bl p n n') r
   | none=>none))
 | .alt p t u,σ,bl,r=>(match all[p]? with
  | none=>none
  | some o=>gd ((!ms.contains p || condB ob o σ.slots) && (!ks.contains p || condXB ko o σ.slots)) (match opgO P call all o σ with
   | some σ'=>(match (natF σ.own.length fun n=>natF σ'.own.length fun n'=>runT P call all ob ko ms ks t σ' (addBlk bl p n n') r) with
    | some x=>runT P call all ob ko ms ks u σ bl (some x)
    | none=>none)
   | none=>none))
theorem runT_ok{Γ:Nat->Contract}{call:CallO}(hc:∀g args own r,call g args own=some r->Γ g args own r.1 r.2.1 r.2.2){all:Array Oper}{ob ko:Nat}{ms ks:List Nat}{Q:Exit->S->Prop} :
  ∀(T:DT) (σ:S) (bl:Blk) (r:Option (S×Blk)) (x:S×Blk),runT P call all ob ko ms ks T σ bl r=some x->(∀s,Le s x.1->Q .normal s)->chT P Γ all ob ko ms ks Q T σ/\∀y,r=some y->x=y
 | .fin,σ,bl,r,x,h,hq=>by
  unfold runT at h
  split at h
  ·cases h
   exact⟨hq _ (Le.refl _),fun y hy=>by cases hy⟩
  ·obtain⟨h1,h2⟩:=gd_some h
   cases h2
   exact⟨hq _ (S.sameB_ok h1),fun y hy=>by cases hy;rfl⟩
 | .stop,σ,bl,r,x,h,hq=>by
  unfold runT at h
  exact⟨trivial,fun y hy=>by rw[hy]at h;cases h;rfl⟩
 | .one p t,σ,bl,r,x,h,hq=>by
  unfold runT at h
  unfold chT
  split at h
  ·cases h
  ·rename_i o e
   rw[e]
   obtain⟨h1,h2⟩:=gd_some h
   rw[Bool.and_eq_true]at h1
   have h1a:ms.contains p=true->condB ob o σ.slots=true:=fun hm=>by simpa only[hm,Bool.not_true,Bool.false_or] using h1.1
   have h1b:ks.contains p=true->condXB ko o σ.slots=true:=fun hm=>by simpa only[hm,Bool.not_true,Bool.false_or] using h1.2
   split at h2
   ·rename_i σ' e2
    simp only[natF_eq]at h2
    obtain⟨g1,g2⟩:=runT_ok hc t σ' _ r x h2 hq
    exact⟨⟨⟨fun hm=>condB_ok (h1a hm),fun hk=>condXB_ok (h1b hk)⟩,opgO_ok hc e2 g1⟩,g2⟩
   ·cases h2
 | .alt p t u,σ,bl,r,x,h,hq=>by
  unfold runT at h
  unfold chT
  split at h
  ·cases h
  ·rename_i o e
   rw[e]
   obtain⟨h1,h2⟩:=gd_some h
   rw[Bool.and_eq_true]at h1
   have h1a:ms.contains p=true->condB ob o σ.slots=true:=fun hm=>by simpa only[hm,Bool.not_true,Bool.false_or] using h1.1
   have h1b:ks.contains p=true->condXB ko o σ.slots=true:=fun hm=>by simpa only[hm,Bool.not_true,Bool.false_or] using h1.2
   split at h2
   ·rename_i σ' e2
    simp only[natF_eq]at h2
    split at h2
    ·rename_i x' e3
     obtain⟨k1,k2⟩:=runT_ok hc u σ bl (some x') x h2 hq
     have:=k2 x' rfl
     subst this
     obtain⟨g1,g2⟩:=runT_ok hc t σ' _ r x e3 hq
     exact⟨⟨⟨⟨fun hm=>condB_ok (h1a hm),fun hk=>condXB_ok (h1b hk)⟩,opgO_ok hc e2 g1⟩,k1⟩,g2⟩
    ·cases h2
   ·cases h2
def readyO(ops:Array Oper)(left:List Nat):List Nat:=left.filter fun i=>left.all fun j=>!Region.waitsFor .any ops i j
def altsT(f:Nat->DT):List Nat->DT
 | []=>.stop
 | x :: l=>.alt x (f x) (altsT f l)
def buildT(pf mf ms ks:List Nat)(ops:Array Oper):Nat->List Nat->DT
 | 0,_=>.fin
 | n+1,left =>
  (match (readyO ops left).find? (fun p=>(left.filter (· != p)).all fun i=>Region.waitsFor .any ops i p || swapOkX pf mf ms ks ops p i) with
  | some p=>.one p (natsF (left.filter (· != p)) fun l=>buildT pf mf ms ks ops n l)
  | none=>(match readyO ops left with
   | []=>.fin
   | l=>altsT (fun x=>natsF (left.filter (· != x)) fun l=>buildT pf mf ms ks ops n l) l))
mutual
def AV.objsOf:AV->List Nat
 | .sl o _ _=>[o]
 | .ptr o _ _=>[o]
 | .map o=>[o]
 | .yld o=>[o]
 | .agg vs=>AV.objsOfL vs
 | .tup vs=>AV.objsOfL vs
 | .fn _ vs=>AV.objsOfL vs
 | .dat _=>[]
 | .nils=>[]
 | .nilm=>[]
 | .rptr _ _=>[]
 | .top=>[]
def AV.objsOfL:List AV->List Nat
 | []=>[]
 | a :: as=>AV.objsOf a++AV.objsOfL as
end
def Obj.objsOf:Obj->List Nat
 | .box cs=>AV.objsOfL cs
 | .lp _ cs=>AV.objsOfL cs
 | .bld _ _ cs=>AV.objsOfL cs
 | .vec cs=>AV.objsOfL cs
 | .tab _ cs=>AV.objsOfL cs
 | _=>[]
def reachO(own:List Obj):Nat->List Nat->List Nat->List Nat
 | 0,_,seen=>seen
 | _+1,[],seen=>seen
 | n+1,o :: t,seen=>(match seen.contains o with|true=>reachO own n t seen|false=>reachO own n ((own.getD o .dead).objsOf++t) (o :: seen))
def reachL(own:List Obj)(l:List Nat):List Nat:=reachO own 100000 l []
def idxIn(o:Nat):List Nat->Nat->Nat
 | [],_=>o
 | x :: l,i=>(match decide (x=o) with|true=>i|false=>idxIn o l (i+1))
def S.gc(σ:S):S :=
 natF σ.own.length fun n =>
 natsF (reachL σ.own (AV.objsOfL σ.slots++List.range σ.n0)) fun seen =>
 natsF ((List.range n).filter fun o=>seen.contains o) fun L =>
 natF L.length fun k =>
 (match decide (k=n) with
 | true=>σ
 | false =>
  natsF (L++(List.range n).filter fun o=>!seen.contains o) fun ord =>
  let q:=fun o=>ord.getD o o
  let p:=fun o=>idxIn o ord 0
  let s':=AV.rens (cutF n p) σ.slots
  let own':=((List.range n).map fun o=>(σ.own.getD (cutF n q o) .dead).ren (cutF n p)).take k
  (match permB n σ.n0 p q && decide (k<=n) && decide (σ.n0<=k) && AV.undersB k s' && own'.all (Obj.underB k) with
  | true=>⟨s',own',σ.n0,σ.mv⟩
  | false=>σ))
theorem le_gcP{s:List AV}{own own1:List Obj}{n0:Nat}{mv:List Nat}{p q:Nat->Nat}{k:Nat}(h1:permB own.length n0 p q=true)(h2:k<=own.length)(h3:n0<=k)(ho:own1=(List.range own.length).map fun o=>(own.getD (cutF own.length q o) .dead).ren (cutF own.length p))
  (h4:AV.undersB k (AV.rens (cutF own.length p) s)=true) (h5:∀x∈own1.take k,Obj.underB k x=true):Le ⟨s,own,n0,mv⟩ ⟨AV.rens (cutF own.length p) s,own1.take k,n0,mv⟩:=by
 have hl:own1.length=own.length:=by rw[ho,List.length_map,List.length_range]
 have hk:(own1.take k).length=k:=by rw[List.length_take,hl];omega
 refine Le.trans (le_perm h1 (Nat.le_trans h3 h2) ho) ?_
 have:=le_drop (s:=AV.rens (cutF own.length p) s) (own:=own1.take k) (ex:=own1.drop k) (n0:=n0) (mv:=mv) (by rw[hk];exact h3) (by rw[hk];exact AV.undersB_ok _ h4) (fun x hx=>by rw[hk];exact Obj.underB_ok (h5 x hx))
 rwa [List.take_append_drop]at this
theorem le_gc(σ:S):Le σ σ.gc:=by
 obtain⟨s,own,n0,mv⟩:=σ
 unfold S.gc
 rw[natF_eq,natsF_eq,natsF_eq,natF_eq]
 split
 ·exact Le.refl _
 ·rw[natsF_eq]
  simp only
  split
  ·rename_i h
   simp only[Bool.and_eq_true,decide_eq_true_eq,List.all_eq_true]at h
   obtain⟨⟨⟨⟨h1,h2⟩,h3⟩,h4⟩,h5⟩:=h
   exact le_gcP h1 h2 h3 rfl h4 h5
  ·exact Le.refl _
attribute [irreducible] S.gc
variable {rec:Code->S->Option (Exit×S)}
def dataRun2(P:Program)(rec:Code->S->Option (Exit×S))(fn:Func)(body:Code)(ds:List D):Option (AV×List Obj) :=
 match bodyO P rec fn body (ds.map .dat) [] with
 | none=>none
 | some (σ,vs)=>(match decide (σ.n0=0),(resV vs).norm.scal with
  | true,true=>AV.force (resV vs).norm fun v=>some (v,[])
  | true,false=>(match S.gc ⟨[resV vs],σ.own,0,σ.mv⟩ with
   | ⟨[v],ob,n0,_⟩=>(match decide (n0=0) with|true=>some (v,ob)|false=>none)
   | _=>none)
  | false,_=>none)
theorem scal_under{v:AV}{n:Nat}(h:v.scal=true):v.under n:=by
 cases v with
 | dat d=>simp[AV.under]
 | tup vs =>
  simp only[AV.under]
  simp only[AV.scal]at h
  induction vs with
  | nil=>simp[AV.unders]
  | cons v vs ih =>
   simp only[List.all_cons,Bool.and_eq_true]at h
   simp only[AV.unders]
   refine⟨?_,ih h.2⟩
   have:=h.1
   cases v <;> simp at this
   simp[AV.under]
 | _=>simp[AV.scal]at h
theorem dataRun2_ok(hrec:RecOk P rec){fn:Func}{body:Code}{ds:List D}{v:AV}{ob:List Obj}(h:dataRun2 P rec fn body ds=some (v,ob)) :
  sem P body (post P fn v ob []) ⟨ds.map .dat++List.replicate (fn.ntmps - (ds.map AV.dat).length) .top,[],0,[]⟩:=by
 unfold dataRun2 at h
 split at h
 ·cases h
 ·rename_i σ vs e1
  split at h
  ·rename_i e2 e3
   rw[AV.force_eq]at h
   cases h
   have hn:σ.n0=0:=by simpa using e2
   refine bodyO_ok hrec e1 ⟨[],?_,fun _ h=>h⟩
   rw[hn]
   refine Le.trans le_mv0 ?_
   exact le_fin rfl (scal_under e3)
  ·rename_i e2 e3
   have hn:σ.n0=0:=by simpa using e2
   split at h
   ·rename_i v' ob' n0 mv' e4
    split at h
    ·rename_i e5
     cases h
     have hn0:n0=0:=by simpa using e5
     subst hn0
     refine bodyO_ok hrec e1 ⟨[],?_,fun _ h=>h⟩
     rw[hn]
     have:=le_gc ⟨[resV vs],σ.own,0,σ.mv⟩
     rw[e4]at this
     exact Le.trans this le_mv0
    ·cases h
   ·cases h
  ·cases h
def fullO(P:Program)(rec:Code->S->Option (Exit×S))(fn:Func)(body:Code)(args:List AV)(own:List Obj):Option Eff3 :=
 match bodyO P rec fn body args own with
 | none=>none
 | some (σ,vs) =>
  (match S.gc ⟨[match (resV vs).norm.scal with|true=>(resV vs).norm|false=>resV vs],σ.own,σ.n0,σ.mv⟩ with
  | ⟨[v],own',n0,mv⟩=>gd (decide (σ.n0=n0)) (some (v,own',mv))
  | _=>none)
theorem fullO_okG(hrec:RecOk P rec)(hnames:Names P){g:Nat}{fn:Func}{body:Code}(hf:P.funcs[g]?=some fn)(hb:fn.body=some body){args:List AV}{own:List Obj}{r:Eff3}(h:fullO P rec fn body args own=some r) :
  (∃ fn body, P.funcs[g]? = some fn /\ fn.body = some body /\ fn.name ≠ "runtime.NumGoroutine") /\
  ∀F φ w vs,Conc F φ own w->AV.Rs F φ w args vs->Calls P g vs.toArray w fun e w'=>∃v F' φ',e=.returned v/\After F φ w F' φ' r.2.1 w' r.2.2/\AV.R F' φ' w' r.1 v:=by
 unfold fullO at h
 split at h
 ·cases h
 ·rename_i σ vs e1
  split at h
  ·rename_i v own' n0 mv e2
   obtain⟨h1,h2⟩:=gd_some h
   have h1:=of_decide_eq_true h1
   cases h2
   refine okF_of_sem (C:=fun a o v' o' m=>a=args/\o=own/\v'=v/\o'=own'/\m=mv) hf hb (hnames g fn hf) (fun a o v' o' m h=>?_) _ _ _ _ _ ⟨rfl,rfl,rfl,rfl,rfl⟩
   obtain⟨rfl,rfl,rfl,rfl,rfl⟩:=h
   refine bodyO_ok hrec e1 ⟨m,?_,fun _ h=>h⟩
   have hle:Le ⟨[resV vs],σ.own,σ.n0,σ.mv⟩ ⟨[match (resV vs).norm.scal with|true=>(resV vs).norm|false=>resV vs],σ.own,σ.n0,σ.mv⟩:=by
    split
    ·exact le_norm
    ·exact Le.refl _
   have:=le_gc ⟨[match (resV vs).norm.scal with|true=>(resV vs).norm|false=>resV vs],σ.own,σ.n0,σ.mv⟩
   rw[e2]at this
   rw[h1]at this hle ⊢
   exact Le.trans hle this
  ·cases h
def fullM(P:Program)(rec:Code->S->Option (Exit×S))(fn:Func)(body:Code)(args:List AV)(own:List Obj):Option Eff3 :=
 match fullO P rec fn body args own with
 | some (v,own',mv)=>gd (mv.isEmpty && Obj.eqBs (own'.take own.length) own) (some (v,own++own'.drop own.length,[]))
 | none=>none
theorem fullM_eq{fn:Func}{body:Code}{args:List AV}{own:List Obj}{r:Eff3}(h:fullM P rec fn body args own=some r):fullO P rec fn body args own=some r/\(∃ex,r.2.1=own++ex)/\r.2.2=[]:=by
 unfold fullM at h
 split at h
 ·rename_i v own' mv e
  obtain⟨h1,h2⟩:=gd_some h
  simp only[Bool.and_eq_true,List.isEmpty_iff]at h1
  cases h2
  have ht:=Obj.eqBs_ok _ _ h1.2
  have hown:own'=own++own'.drop own.length:=by
   conv=>lhs;rw[← List.take_append_drop own.length own',ht]
  refine⟨?_,⟨_,rfl⟩,rfl⟩
  rw[e,h1.1]
  exact congrArg (fun x=>some (v,x,[])) hown
 ·cases h
def frzO(P:Program)(rec:Code->S->Option (Exit×S))(fn:Func)(body:Code)(args:List AV)(own:List Obj):Option Eff3 :=
 match S.frzL ((args.map (deepRefs own 3)).flatten) ⟨args,own,own.length,[]⟩ with
 | ⟨args',own',_,mv'⟩=>(match args'.all AV.isDat,asDL own' args' with
  | true,some ds=>(match dataRun P rec fn body ds with
   | some (v,_)=>(match pureV v.norm with|true=>some (v.norm,own',mv')|false=>none)
   | none=>none)
  | _,_=>none)
theorem frzO_okG(hrec:RecOk P rec)(hnames:Names P){g:Nat}{fn:Func}{body:Code}(hf:P.funcs[g]?=some fn)(hb:fn.body=some body){args:List AV}{own:List Obj}{r:Eff3}(h:frzO P rec fn body args own=some r) :
  (∃ fn body, P.funcs[g]? = some fn /\ fn.body = some body /\ fn.name ≠ "runtime.NumGoroutine") /\
  ∀F φ w vs,Conc F φ own w->AV.Rs F φ w args vs->Calls P g vs.toArray w fun e w'=>∃v F' φ',e=.returned v/\After F φ w F' φ' r.2.1 w' r.2.2/\AV.R F' φ' w' r.1 v:=by
 unfold frzO at h
 split at h
 rename_i args' own1 n1 mv1 hS
 split at h
 ·rename_i ds hall hds
  split at h
  ·rename_i v0 ob hrun
   split at h
   ·rename_i hp
    cases h
    have hd:OkF P g (dataC fun ds' v'=>ds'=ds/\v'=v0.norm):=okF_data hf hb (hnames g fn hf) (fun ds' v' h=>by
     obtain⟨rfl,rfl⟩:=h
     exact dataRun_pure hrec hrun hp)
    exact okF_frzL hd _ _ _ _ _ ⟨_,_,_,hS,⟨ds,hds,⟨rfl,rfl⟩,rfl,rfl,.inl hall⟩⟩
   ·cases h
  ·cases h
 ·cases h
def restO(P:Program)(rec:Code->S->Option (Exit×S))(fn:Func)(body:Code)(args:List AV)(own:List Obj):Option Eff3 :=
 match fullO P rec fn body args own with
 | some r=>some r
 | none=>frzO P rec fn body args own
abbrev Tab:=List (Nat×List D×AV×List Obj)
def Tab.find:Tab->Nat->List D->Option (AV×List Obj)
 | [],_,_=>none
 | x :: l,g,ds=>match Nat.beq x.1 g && D.eqBs x.2.1 ds with|true=>some x.2.2|false=>Tab.find l g ds
def Tab.has:Tab->Nat->Bool
 | [],_=>false
 | x :: l,g=>match Nat.beq x.1 g with|true=>true|false=>Tab.has l g
def Base(P:Program)(tab:Tab):Prop:=∀g ds v ob,(g,ds,v,ob)∈tab->∀fn body,P.funcs[g]?=some fn->fn.body=some body->sem P body (post P fn v ob []) ⟨ds.map .dat++List.replicate (fn.ntmps - (ds.map AV.dat).length) .top,[],0,[]⟩
theorem Tab.find_mem:∀{tab:Tab} {g:Nat} {ds:List D} {r:AV×List Obj},Tab.find tab g ds=some r->(g,ds,r.1,r.2)∈tab
 | [],g,ds,r,h=>by cases h
 | x :: l,g,ds,r,h=>by
  unfold Tab.find at h
  split at h
  ·rename_i e
   rw[Bool.and_eq_true]at e
   have e1:=Nat.eq_of_beq_eq_true e.1
   have e2:=D.eqBs_ok _ _ e.2
   cases h
   subst e1;subst e2
   exact List.mem_cons_self
  ·exact List.mem_cons_of_mem _ (Tab.find_mem h)
def dataRunT(P:Program)(tab:Tab)(rec:Code->S->Option (Exit×S))(g:Nat)(fn:Func)(body:Code)(ds:List D):Option (AV×List Obj) :=
 match Tab.has tab g with
 | false=>dataRun2 P rec fn body ds
 | true=>(match Tab.find tab g ds with|some r=>some r|none=>dataRun2 P rec fn body ds)
theorem dataRunT_ok{tab:Tab}(hTab:Base P tab)(hrec:RecOk P rec){g:Nat}{fn:Func}{body:Code}(hf:P.funcs[g]?=some fn)(hb:fn.body=some body){ds:List D}{v:AV}{ob:List Obj}(h:dataRunT P tab rec g fn body ds=some (v,ob)) :
  sem P body (post P fn v ob []) ⟨ds.map .dat++List.replicate (fn.ntmps - (ds.map AV.dat).length) .top,[],0,[]⟩:=by
 unfold dataRunT at h
 split at h
 ·exact dataRun2_ok hrec h
 ·split at h
  ·rename_i r e
   cases h
   exact hTab _ _ _ _ (Tab.find_mem e) _ _ hf hb
  ·exact dataRun2_ok hrec h
def memO(tab:Tab):CallO:=fun g args own =>
 match Tab.has tab g with
 | false=>none
 | true =>
 match S.frzL ((args.map (deepRefs own 3)).flatten) ⟨args,own,own.length,[]⟩ with
 | ⟨args',own',_,mv'⟩=>(match args'.all AV.isDat,asDL own' args' with
  | true,some ds=>(match Tab.find tab g ds with
   | some (v,ob)=>some (v.shift own'.length,own'++ob.map (Obj.shift own'.length),mv')
   | none=>none)
  | _,_=>none)
def pureSig(P:Program)(fn:Func):Bool :=
 !fn.resultTypes.toList.isEmpty && (fn.resultTypes.toList.all fun t=>P.keyTypeAt 8 t) && (fn.params.toList.all fun t=>match P.underlying t with|some (.pointer _)=>false|some (.map _ _)=>false|some (.func _ _ _)=>false|_=>true)
def callBy(P:Program)(tab:Tab)(rec:Code->S->Option (Exit×S))(K:Func->Code->List AV->List Obj->Option Eff3):CallO:=fun g args own =>
 match P.funcs[g]? with
 | none=>none
 | some fn=>(match fn.body with
  | none=>none
  | some body =>
   (match pureSig P fn || args.all AV.isDat with
   | false=>K fn body args own
   | true=>(match asDL own args with
    | none=>K fn body args own
    | some ds=>(match dataRunT P tab rec g fn body ds with
     | none=>K fn body args own
     | some (v,ob)=>(match v.scal && ob.isEmpty with
      | true=>some (v,own,[])
      | false=>(match args.all AV.isDat with
       | true=>some (v.shift own.length,own++ob.map (Obj.shift own.length),[])
       | false=>K fn body args own))))))
def callO2(P:Program)(tab:Tab)(rec:Code->S->Option (Exit×S)):CallO:=callBy P tab rec fun fn body args own=>restO P rec fn body args own
def callO3(P:Program)(tab:Tab)(rec:Code->S->Option (Exit×S)):CallO:=fun g args own =>
 match memO tab g args own with
 | none=>callO2 P tab rec g args own
 | some r=>(match P.funcs[g]? with
  | none=>none
  | some fn=>(match fn.body with
   | none=>none
   | some _=>some r))
def mcallO(P:Program)(tab:Tab)(rec:Code->S->Option (Exit×S)):CallO:=callBy P tab rec (fullM P rec)
def pcallO2(P:Program)(tab:Tab)(rec:Code->S->Option (Exit×S)):CallO:=fun g args own =>
 match P.funcs[g]? with
 | none=>none
 | some fn=>(match fn.body with
  | none=>none
  | some body =>
   (match asDL own args with
   | none=>none
   | some ds=>(match dataRunT P tab rec g fn body ds with
    | none=>none
    | some (v,ob)=>gd (v.scal && ob.isEmpty) (some (v,own,[])))))
theorem data_scal{tab:Tab}(hTab:Base P tab)(hrec:RecOk P rec)(hnames:Names P){g:Nat}{fn:Func}{body:Code}(hf:P.funcs[g]?=some fn)(hb:fn.body=some body){args:List AV}{own:List Obj}{ds:List D}(hds:asDL own args=some ds){v:AV}{ob:List Obj}(hrun:dataRunT P tab rec g fn body ds=some (v,ob))(hs:(v.scal && ob.isEmpty)=true) :
  (∃ fn body, P.funcs[g]? = some fn /\ fn.body = some body /\ fn.name ≠ "runtime.NumGoroutine") /\
  ∀F φ w vs,Conc F φ own w->AV.Rs F φ w args vs->Calls P g vs.toArray w fun e w'=>∃r F' φ',e=.returned r/\After F φ w F' φ' own w' []/\AV.R F' φ' w' v r:=by
 simp only[Bool.and_eq_true,List.isEmpty_iff]at hs
 obtain⟨hs,rfl⟩:=hs
 exact okF_data (R:=fun ds' v'=>ds'=ds/\v'=v) hf hb (hnames g fn hf) (fun ds' v' h=>by
  obtain⟨rfl,rfl⟩:=h
  exact dataRunT_ok hTab hrec hf hb hrun) _ _ _ _ _ ⟨ds,hds,⟨rfl,rfl⟩,rfl,rfl,.inr hs⟩
theorem data_made{tab:Tab}(hTab:Base P tab)(hrec:RecOk P rec)(hnames:Names P){g:Nat}{fn:Func}{body:Code}(hf:P.funcs[g]?=some fn)(hb:fn.body=some body){args:List AV}{own:List Obj}{ds:List D}(hds:asDL own args=some ds){v:AV}{ob:List Obj}(hrun:dataRunT P tab rec g fn body ds=some (v,ob))(hk:args.all AV.isDat=true) :
  (∃ fn body, P.funcs[g]? = some fn /\ fn.body = some body /\ fn.name ≠ "runtime.NumGoroutine") /\
  ∀F φ w vs,Conc F φ own w->AV.Rs F φ w args vs->Calls P g vs.toArray w fun e w'=>∃r F' φ',e=.returned r/\After F φ w F' φ' (own++ob.map (Obj.shift own.length)) w' []/\AV.R F' φ' w' (v.shift own.length) r :=
 okF_made (R:=fun ds' v' ob'=>ds'=ds/\v'=v/\ob'=ob) hf hb (hnames g fn hf) (fun ds' v' ob' h=>by
  obtain⟨rfl,rfl,rfl⟩:=h
  exact dataRunT_ok hTab hrec hf hb hrun) _ _ _ _ _ ⟨ds,v,ob,hk,hds,⟨rfl,rfl,rfl⟩,rfl,rfl,rfl⟩
theorem callBy_cases{tab:Tab}(hTab:Base P tab)(hrec:RecOk P rec)(hnames:Names P){K:Func->Code->List AV->List Obj->Option Eff3}{g:Nat}{args:List AV}{own:List Obj}{r:Eff3}(h:callBy P tab rec K g args own=some r) :
  (∃fn body,P.funcs[g]?=some fn/\fn.body=some body/\K fn body args own=some r) ∨
  (((∃ fn body, P.funcs[g]? = some fn /\ fn.body = some body /\ fn.name ≠ "runtime.NumGoroutine") /\
  ∀F φ w vs,Conc F φ own w->AV.Rs F φ w args vs->Calls P g vs.toArray w fun e w'=>∃v F' φ',e=.returned v/\After F φ w F' φ' r.2.1 w' r.2.2/\AV.R F' φ' w' r.1 v)/\(∃ex,r.2.1=own++ex)/\r.2.2=[]):=by
 unfold callBy at h
 split at h
 ·cases h
 ·rename_i fn hf
  split at h
  ·cases h
  ·rename_i body hb
   split at h
   ·exact .inl ⟨fn,body,hf,hb,h⟩
   ·split at h
    ·exact .inl ⟨fn,body,hf,hb,h⟩
    ·rename_i ds hds
     split at h
     ·exact .inl ⟨fn,body,hf,hb,h⟩
     ·rename_i v0 ob hrun
      split at h
      ·rename_i hs
       cases h
       exact .inr ⟨data_scal hTab hrec hnames hf hb hds hrun hs,⟨[],by simp⟩,rfl⟩
      ·split at h
       ·rename_i hk
        cases h
        exact .inr ⟨data_made hTab hrec hnames hf hb hds hrun hk,⟨_,rfl⟩,rfl⟩
       ·exact .inl ⟨fn,body,hf,hb,h⟩
theorem callO2_okG{tab:Tab}(hTab:Base P tab)(hrec:RecOk P rec)(hnames:Names P):OkG P (runΓ P (callO2 P tab rec)):=by
 intro g args own v own' mv h
 unfold runΓ callO2 at h
 rcases callBy_cases hTab hrec hnames h with⟨fn,body,hf,hb,h⟩|h
 ·unfold restO at h
  split at h
  ·rename_i r e
   cases h
   exact fullO_okG hrec hnames hf hb e
  ·exact frzO_okG hrec hnames hf hb h
 ·exact h.1
def frzLC2(C:Contract):Contract:=fun args own v own' mv=>∃os args' own1 n0 ,S.frzL os ⟨args,own,own.length,[]⟩=⟨args',own1,n0,mv⟩/\C args' own1 v own' []
theorem okF_frzL2{g:Nat}{C:Contract}(h:OkF P g C):OkF P g (frzLC2 C):=by
 rintro args own v own' mv ⟨os,args',own1,n0,he,hC⟩
 refine⟨(h _ _ _ _ _ hC).1,fun F φ w vs hc hs=>?_⟩
 have hst:St ⟨F,w,φ,own.length,none,[]⟩ ⟨args,own,own.length,[]⟩ { tmps:=vs.toArray,defers:=[] } w :=
  ⟨⟨rfl,Ctx.ok0 hc⟩,rfl,F,φ,⟨fun _ h=>h,Ext.refl F w,fun _ _ _ _ h=>h,fun _ _ _=>rfl,fun o L' ho hn=>.inr ⟨o,L',ho,hn,rfl⟩,fun b hb=>.inl hb⟩,hc,by simpa using hs⟩
 have hst':=le_SfrzL os _ _ _ _ hst
 rw[he]at hst'
 obtain⟨_,hn,F1,φ1,s2,s3,s4⟩:=hst'
 simp only at hn s2 s3 s4
 refine((h _ _ _ _ _ hC).2 F1 φ1 w vs s3 (by simpa using s4)).mono ?_
 rintro e w' ⟨r,F',φ',rfl,ha,hv⟩
 refine⟨r,F',φ',rfl,⟨fun b hb=>ha.sub b (s2.sub b hb),ha.ext.mono s2.sub,ha.conc,fun o L hm ho=>?_,fun b hb hall=>?_,fun o L' ho hn'=>?_,fun b hb=>?_⟩,hv⟩
 ·have hlt:o<own.length:=by
   rcases Nat.lt_or_ge o own.length with h|h
   ·exact h
   ·rw[hc.out o h]at ho;cases ho
  exact ha.keep o L (by simp) (s2.keep o L hlt hm ho)
 ·refine ha.rest b hb (fun o L ho hn' e=>?_)
  rcases s2.orig o L ho hn' with h|⟨o',L',h1,h2,h3⟩
  ·simp only at h;omega
  ·exact hall o' L' h1 h2 (h3.trans e)
 ·rcases ha.orig o L' ho hn' with h|⟨o',L,h1,h2,h3⟩
  ·exact .inl h
  ·rw[← h3];exact s2.orig o' L h1 h2
 ·rcases ha.frsh b hb with h|h|⟨o,L,h1,h2,h3⟩
  ·exact s2.frsh b h
  ·exact .inr (.inl h)
  ·rw[← h3]
   rcases s2.orig o L h1 h2 with h|h
   ·exact .inr (.inl h)
   ·exact .inr (.inr h)
theorem memO_ok{tab:Tab}(hTab:Base P tab)(hnames:Names P){g:Nat}{fn:Func}{body:Code}(hf:P.funcs[g]?=some fn)(hb:fn.body=some body){args:List AV}{own:List Obj}{r:Eff3}(h:memO tab g args own=some r) :
  (∃ fn body, P.funcs[g]? = some fn /\ fn.body = some body /\ fn.name ≠ "runtime.NumGoroutine") /\
  ∀F φ w vs,Conc F φ own w->AV.Rs F φ w args vs->Calls P g vs.toArray w fun e w'=>∃v F' φ',e=.returned v/\After F φ w F' φ' r.2.1 w' r.2.2/\AV.R F' φ' w' r.1 v:=by
 unfold memO at h
 split at h
 ·cases h
 ·split at h
  rename_i args' own1 n1 mv1 hS
  split at h
  ·rename_i ds hall hds
   split at h
   ·rename_i v0 ob hfind
    cases h
    have hd:OkF P g (madeC fun ds' v' ob'=>ds'=ds/\v'=v0/\ob'=ob):=okF_made hf hb (hnames g fn hf) (fun ds' v' ob' h=>by
     obtain⟨rfl,rfl,rfl⟩:=h
     exact hTab _ _ _ _ (Tab.find_mem hfind) _ _ hf hb)
    exact okF_frzL2 hd _ _ _ _ _ ⟨_,args',own1,n1,hS,⟨ds,v0,ob,hall,hds,⟨rfl,rfl,rfl⟩,rfl,rfl,rfl⟩⟩
   ·cases h
  ·cases h
theorem callO3_okG{tab:Tab}(hTab:Base P tab)(hrec:RecOk P rec)(hnames:Names P):OkG P (runΓ P (callO3 P tab rec)):=by
 intro g args own v own' mv h
 unfold runΓ callO3 at h
 split at h
 ·exact callO2_okG hTab hrec hnames _ _ _ _ _ _ h
 ·rename_i r e
  split at h
  ·cases h
  ·rename_i fn hf
   split at h
   ·cases h
   ·rename_i body hb
    cases h
    exact memO_ok hTab hnames hf hb e
theorem mcallO_both{tab:Tab}(hTab:Base P tab)(hrec:RecOk P rec)(hnames:Names P){g:Nat}{args:List AV}{own:List Obj}{r:Eff3}(h:mcallO P tab rec g args own=some r) :
  ((∃ fn body, P.funcs[g]? = some fn /\ fn.body = some body /\ fn.name ≠ "runtime.NumGoroutine") /\
  ∀F φ w vs,Conc F φ own w->AV.Rs F φ w args vs->Calls P g vs.toArray w fun e w'=>∃v F' φ',e=.returned v/\After F φ w F' φ' r.2.1 w' r.2.2/\AV.R F' φ' w' r.1 v)/\(∃ex,r.2.1=own++ex)/\r.2.2=[]:=by
 unfold mcallO at h
 rcases callBy_cases hTab hrec hnames h with⟨fn,body,hf,hb,h⟩|h
 ·obtain⟨h1,h2⟩:=fullM_eq h
  exact⟨fullO_okG hrec hnames hf hb h1,h2⟩
 ·exact h
theorem pcallO2_both{tab:Tab}(hTab:Base P tab)(hrec:RecOk P rec)(hnames:Names P){g:Nat}{args:List AV}{own:List Obj}{r:Eff3}(h:pcallO2 P tab rec g args own=some r) :
  ((∃ fn body, P.funcs[g]? = some fn /\ fn.body = some body /\ fn.name ≠ "runtime.NumGoroutine") /\
  ∀F φ w vs,Conc F φ own w->AV.Rs F φ w args vs->Calls P g vs.toArray w fun e w'=>∃v F' φ',e=.returned v/\After F φ w F' φ' r.2.1 w' r.2.2/\AV.R F' φ' w' r.1 v)/\r.2.1=own/\r.2.2=[]:=by
 unfold pcallO2 at h
 split at h
 ·cases h
 ·rename_i fn hf
  split at h
  ·cases h
  ·rename_i body hb
   split at h
   ·cases h
   ·rename_i ds hds
    split at h
    ·cases h
    ·rename_i v0 ob hrun
     obtain⟨h1,h2⟩:=gd_some h
     cases h2
     exact⟨data_scal hTab hrec hnames hf hb hds hrun h1,rfl,rfl⟩
def pmcallO(P:Program)(tab:Tab)(rec:Code->S->Option (Exit×S))(pf:List Nat):CallO:=fun g args own=>match pf.contains g with|true=>pcallO2 P tab rec g args own|false=>mcallO P tab rec g args own
theorem pmcallO_okG{tab:Tab}(hTab:Base P tab)(hrec:RecOk P rec)(hnames:Names P)(pf:List Nat):OkG P (runΓ P (pmcallO P tab rec pf)):=by
 intro g args own v own' mv h
 unfold runΓ pmcallO at h
 split at h
 ·exact(pcallO2_both hTab hrec hnames h).1
 ·exact(mcallO_both hTab hrec hnames h).1
theorem pmcallO_pure{tab:Tab}(hTab:Base P tab)(hrec:RecOk P rec)(hnames:Names P)(pf:List Nat):PureFns (runΓ P (pmcallO P tab rec pf)) pf:=by
 intro g args own v own' mv hg h
 unfold runΓ pmcallO at h
 split at h
 ·exact(pcallO2_both hTab hrec hnames h).2
 ·rename_i e;simp at e;exact(e hg).elim
theorem pmcallO_made{tab:Tab}(hTab:Base P tab)(hrec:RecOk P rec)(hnames:Names P)(pf mf:List Nat):MakeFns (runΓ P (pmcallO P tab rec pf)) mf:=by
 intro g args own v own' mv hg h
 unfold runΓ pmcallO at h
 split at h
 ·obtain⟨h1,h2⟩:=(pcallO2_both hTab hrec hnames h).2
  exact⟨⟨[],by simpa using h1⟩,h2⟩
 ·exact(mcallO_both hTab hrec hnames h).2
theorem pcallO2_okG{tab:Tab}(hTab:Base P tab)(hrec:RecOk P rec)(hnames:Names P):OkG P (runΓ P (pcallO2 P tab rec)):=fun _ _ _ _ _ _ h=>(pcallO2_both hTab hrec hnames h).1
theorem pcallO2_pure{tab:Tab}(hTab:Base P tab)(hrec:RecOk P rec)(hnames:Names P)(pf:List Nat):PureFns (runΓ P (pcallO2 P tab rec)) pf:=fun _ _ _ _ _ _ _ h=>(pcallO2_both hTab hrec hnames h).2
def makersO(P:Program)(ops:Array Oper):List Nat:=(ops.toList.map Oper.callee).flatten.filter fun g=>match P.funcs[g]? with|some fn=>!pureSig P fn|none=>true
def appsO(ops:Array Oper):List Nat :=
 let r:=List.range ops.size
 let ap:=fun i=>match ops[i]? with|some o=>isApp o|none=>false
 match r.any ap with
 | false=>[]
 | true=>r.filter fun p=>ap p || (match ops[p]? with|some o=>isQ o && r.any fun i=>ap i && !Region.waitsFor .any ops i p && !Region.waitsFor .any ops p i|none=>false)
def findKo(P:Program)(call:CallO)(all:Array Oper):List Nat->S->Nat
 | [],_=>1000000
 | i :: r,σ=>match all[i]? with
  | none=>1000000
  | some o=>(match isApp o with
   | true=>(match o.op with|.call c=>(match c.args.toList with|[x,_]=>(match ev σ.slots x with|.sl ob _ _=>ob|_=>1000000)|_=>1000000)|_=>1000000)
   | false=>(match opgO P call all o σ with|some σ'=>findKo P call all r σ'|none=>1000000))
def drawT0(P:Program)(tab:Tab)(rec:Code->S->Option (Exit×S))(mk:List Nat)(ops:Array Oper)(σ:S):Option S :=
 natsF (orderO ops ops.size [] (List.range ops.size)) fun L =>
 natsF (marksO ops) fun ms =>
 natsF (appsO ops) fun ks =>
 natsF ((ops.toList.map Oper.callee).flatten.filter fun g=>!mk.contains g) fun pf =>
 let mf:=dynF :: mk
 let T:=buildT pf mf ms ks ops ops.size (List.range ops.size)
 gd (drawOkT pf mf ms ks ops T) (match natF (match ms with|[]=>0|_=>findOb P (pmcallO P tab rec pf) ops ms L σ) fun ob=>natF (match ks with|[]=>0|_=>findKo P (pmcallO P tab rec pf) ops L σ) fun ko=>runT P (pmcallO P tab rec pf) ops ob ko ms ks T σ [] none with
  | some x=>some x.1
  | none=>none)
theorem drawT0_ok{tab:Tab}(hTab:Base P tab)(hm:P.follows .mixedOrders=true)(hrec:RecOk P rec)(hnames:Names P){id:Nat}{ops:Array Oper}{σ σ':S}{Q:Exit->S->Prop}
  {mk:List Nat} (h:drawT0 P tab rec mk ops σ=some σ') (hq:Q .normal σ'):sem P (.region id ops true) Q σ:=by
 unfold drawT0 at h
 simp only[natsF_eq,natF_eq]at h
 obtain⟨h1,h2⟩:=gd_some h
 split at h2
 ·rename_i x e
  cases h2
  have hT:=runT_ok (Γ:=runΓ P (pmcallO P tab rec _)) (fun _ _ _ _ h=>h) (Q:=fun e s=>e=.normal/\Le s x.1) _ _ _ _ _ e (fun s hs=>⟨rfl,hs⟩)
  have hs:=sem_drawT (id:=id) hm (pmcallO_okG hTab hrec hnames _) (pmcallO_pure hTab hrec hnames _) (pmcallO_made hTab hrec hnames _ _) _ h1 hT.1
  intro c a w hst
  refine wpIn_mono (hs c a w hst) ?_
  rintro e' a' w' ⟨c',s,hx,hst',rfl,hle⟩
  exact⟨c',x.1,hx,hle _ _ _ hst',hq⟩
 ·cases h2
def drawO2(P:Program)(tab:Tab)(rec:Code->S->Option (Exit×S))(ops:Array Oper)(σ:S):Option S :=
 natsF (makersO P ops) fun mk =>
 match (match mk with|[]=>drawO0 P (pcallO2 P tab rec) ops σ|_=>none) with
 | some s=>some s
 | none=>(match drawT0 P tab rec mk ops σ with
  | some s=>some s
  | none=>drawT0 P tab rec mk ops (σ.frzL (ops.toList.map fun o=>(o.op.operands.toList.map fun x=>(ev σ.slots x).rowRefs).flatten).flatten))
theorem drawO2_ok{tab:Tab}(hTab:Base P tab)(hm:P.follows .mixedOrders=true)(hrec:RecOk P rec)(hnames:Names P){id:Nat}{ops:Array Oper}{σ σ':S}{Q:Exit->S->Prop}
  (h:drawO2 P tab rec ops σ=some σ') (hq:Q .normal σ'):sem P (.region id ops true) Q σ:=by
 unfold drawO2 at h
 rw[natsF_eq]at h
 split at h
 ·rename_i s e
  cases h
  split at e
  ·exact drawO0_ok hm (pcallO2_okG hTab hrec hnames) (pcallO2_pure hTab hrec hnames) (fun _ _ _ _ h=>h) e hq
  ·cases e
 ·split at h
  ·rename_i s e;cases h;exact drawT0_ok hTab hm hrec hnames e hq
  ·exact sem_le (le_SfrzL _ _) (drawT0_ok hTab hm hrec hnames h hq)
def preF(tab:Tab)(code:Code)(σ:S):S :=
 match code with
 | .region _ ops false=>(match ops.toList.any fun o=>(Oper.callee o).any (Tab.has tab) with
  | true=>S.frzL ((ops.toList.map fun o=>(o.op.operands.toList.map fun x=>deepRefs σ.own 3 (ev σ.slots x)).flatten).flatten) σ
  | false=>σ)
 | _=>σ
theorem le_preF(tab:Tab)(code:Code)(σ:S):Le σ (preF tab code σ):=by
 unfold preF
 split
 ·split
  ·exact le_SfrzL _ _
  ·exact Le.refl _
 ·exact Le.refl _
attribute [irreducible] preF
def stepC2(P:Program)(tab:Tab)(call:CallO)(rec:Code->S->Option (Exit×S))(code:Code)(σ:S):Option (Exit×S) :=
 match code with
 | .region _ ops true=>(match drawO2 P tab rec ops σ with|some s=>spineF s.slots fun sl=>some (.normal,{ s with slots:=sl })|none=>none)
 | code=>stepC P call (pcallO P rec) rec code (preF tab code σ)
theorem stepC2_ok{tab:Tab}(hTab:Base P tab){Γ:Nat->Contract}{call:CallO}(hm:P.follows .mixedOrders=true)(hnames:Names P)(hΓ:OkG P Γ)(hc:∀g args own r,call g args own=some r->Γ g args own r.1 r.2.1 r.2.2)(hrec:RecOk P rec):RecOk P (stepC2 P tab call rec):=by
 intro code σ e s h Q hq
 unfold stepC2 at h
 split at h
 ·split at h
  ·rename_i s' e1;rw[spineF_eq]at h;cases h;exact drawO2_ok hTab hm hrec hnames e1 hq
  ·cases h
 ·exact sem_le (le_preF _ _ _) (stepC_ok hm hΓ hc (pcallO_okG hrec hnames) pcallO_pure (fun _ _ _ _ h=>h) hrec _ _ _ _ h Q hq)
def runC2(P:Program)(tab:Tab)(n:Nat):Code->S->Option (Exit×S) :=
 Nat.rec (motive:=fun _=>Code->S->Option (Exit×S)) (fun _ _=>none) (fun _ rec=>stepC2 P tab (callO3 P tab rec) rec) n
theorem runC2_ok{tab:Tab}(hTab:Base P tab)(hm:P.follows .mixedOrders=true)(hnames:Names P):∀n,RecOk P (runC2 P tab n)
 | 0=>fun _ _ _ _ h=>by cases h
 | n+1=>stepC2_ok hTab hm hnames (callO3_okG hTab (runC2_ok hTab hm hnames n) hnames) (fun _ _ _ _ h=>h) (runC2_ok hTab hm hnames n)
def evalF2(P:Program)(tab:Tab)(n:Nat)(g:Nat)(ds:List D):Option AV :=
 match pcallO2 P tab (runC2 P tab n) g (ds.map .dat) [] with|some r=>some r.1|none=>none
def evalM(P:Program)(tab:Tab)(n:Nat)(g:Nat)(ds:List D):Option (AV×List Obj) :=
 match P.funcs[g]? with
 | none=>none
 | some fn=>(match fn.body with
  | none=>none
  | some body=>dataRun2 P (runC2 P tab n) fn body ds)
theorem okF_eval2{tab:Tab}(hTab:Base P tab)(hm:P.follows .mixedOrders=true)(hnames:Names P){g:Nat}(n:Nat)(l:List (List D×AV))(h:∀x∈l,evalF2 P tab n g x.1=some x.2):OkF P g (dataC fun ds v=>(ds,v)∈l):=by
 have hrec:=runC2_ok hTab hm hnames n
 intro args own v own' mv hC
 obtain⟨ds,hds,hR,rfl,rfl,_⟩:=hC
 have he:=h _ hR
 simp only at he
 unfold evalF2 pcallO2 at he
 split at he
 ·rename_i r hr
  cases he
  split at hr
  ·cases hr
  ·rename_i fn hf
   split at hr
   ·cases hr
   ·rename_i body hb
    rw[asDL_dats']at hr
    simp only at hr
    split at hr
    ·cases hr
    ·rename_i v0 ob hrun
     obtain⟨h1,h2⟩:=gd_some hr
     cases h2
     exact data_scal hTab hrec hnames hf hb hds hrun h1
 ·cases he
end
end Go.AM
namespace Go.AM
open Go
section
variable {P:Program}
def normC(C:Contract):Contract:=fun args own v own' mv=>C (args.map AV.norm) own v own' mv
end
end Go.AM

