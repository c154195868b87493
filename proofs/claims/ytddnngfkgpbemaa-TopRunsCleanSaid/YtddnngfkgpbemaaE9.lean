/- Own work over the model of the kit. -/
import Derived.Test.YtddnngfkgpbemaaE8
import Derived.Test.YtddnngfkgpbemaaE5
import Derived.Test.YtddnngfkgpbemaaE7
import Derived.Test.YtddnngfkgpbemaaE6
import Derived.Test.YtddnngfkgpbemaaE4
set_option linter.unnecessarySimpa false
set_option linter.unusedSimpArgs false
set_option linter.unusedVariables false
namespace Go.AM
open Go
mutual
def D.eqB:D->D->Bool
 | .int k n,.int k' n'=>decide (k=k') && decide (n=n')
 | .bool b,.bool b'=>decide (b=b')
 | .str s,.str s'=>decide (s=s')
 | .sl ag xs,.sl ag' xs'=>decide (ag=ag') && D.eqBs xs xs'
 | .agg ds,.agg ds'=>D.eqBs ds ds'
 | _,_=>false
def D.eqBs:List D->List D->Bool
 | [],[]=>true
 | d :: ds,d' :: ds'=>D.eqB d d' && D.eqBs ds ds'
 | _,_=>false
end
mutual
theorem D.eqB_ok:∀(d d':D),D.eqB d d'=true->d=d'
 | .int k n,d',h=>by cases d' <;> simp_all [D.eqB]
 | .bool b,d',h=>by cases d' <;> simp_all [D.eqB]
 | .str s,d',h=>by cases d' <;> simp_all [D.eqB]
 | .sl ag xs,d',h=>by
  cases d' with
  | sl ag' xs' =>
   simp only[D.eqB,Bool.and_eq_true,decide_eq_true_eq]at h
   rw[h.1,D.eqBs_ok xs xs' h.2]
  | _=>simp[D.eqB]at h
 | .agg ds,d',h=>by
  cases d' with
  | agg ds' =>
   simp only[D.eqB]at h
   rw[D.eqBs_ok ds ds' h]
  | _=>simp[D.eqB]at h
theorem D.eqBs_ok:∀(ds ds':List D),D.eqBs ds ds'=true->ds=ds'
 | [],ds',h=>by cases ds' <;> simp_all [D.eqBs]
 | d :: ds,ds',h=>by
  cases ds' with
  | nil=>simp[D.eqBs]at h
  | cons d' ds' =>
   simp only[D.eqBs,Bool.and_eq_true]at h
   rw[D.eqB_ok d d' h.1,D.eqBs_ok ds ds' h.2]
end
mutual
def AV.eqB:AV->AV->Bool
 | .dat d,.dat d'=>D.eqB d d'
 | .nils,.nils=>true
 | .nilm,.nilm=>true
 | .sl o i j,.sl o' i' j'=>decide (o=o') && decide (i=i') && decide (j=j')
 | .ptr o i j,.ptr o' i' j'=>decide (o=o') && decide (i=i') && decide (j=j')
 | .rptr ag d,.rptr ag' d'=>decide (ag=ag') && D.eqB d d'
 | .agg vs,.agg vs'=>AV.eqBs vs vs'
 | .tup vs,.tup vs'=>AV.eqBs vs vs'
 | .map o,.map o'=>decide (o=o')
 | .yld o,.yld o'=>decide (o=o')
 | .fn f vs,.fn f' vs'=>decide (f=f') && AV.eqBs vs vs'
 | .top,.top=>true
 | _,_=>false
def AV.eqBs:List AV->List AV->Bool
 | [],[]=>true
 | d :: ds,d' :: ds'=>AV.eqB d d' && AV.eqBs ds ds'
 | _,_=>false
end
mutual
theorem AV.eqB_ok:∀(d d':AV),AV.eqB d d'=true->d=d'
 | .dat d,v,h=>by
  cases v with
  | dat d'=>simp only[AV.eqB]at h;rw[D.eqB_ok d d' h]
  | _=>simp[AV.eqB]at h
 | .nils,v,h=>by cases v <;> simp_all [AV.eqB]
 | .nilm,v,h=>by cases v <;> simp_all [AV.eqB]
 | .sl o i j,v,h=>by cases v <;> simp_all [AV.eqB]
 | .ptr o i j,v,h=>by cases v <;> simp_all [AV.eqB]
 | .rptr ag d,v,h=>by
  cases v with
  | rptr ag' d'=>simp only[AV.eqB,Bool.and_eq_true,decide_eq_true_eq]at h;rw[h.1,D.eqB_ok d d' h.2]
  | _=>simp[AV.eqB]at h
 | .agg vs,v,h=>by
  cases v with
  | agg vs'=>simp only[AV.eqB]at h;rw[AV.eqBs_ok vs vs' h]
  | _=>simp[AV.eqB]at h
 | .tup vs,v,h=>by
  cases v with
  | tup vs'=>simp only[AV.eqB]at h;rw[AV.eqBs_ok vs vs' h]
  | _=>simp[AV.eqB]at h
 | .map o,v,h=>by cases v <;> simp_all [AV.eqB]
 | .yld o,v,h=>by cases v <;> simp_all [AV.eqB]
 | .fn f vs,v,h=>by
  cases v with
  | fn f' vs'=>simp only[AV.eqB,Bool.and_eq_true,decide_eq_true_eq]at h;rw[h.1,AV.eqBs_ok vs vs' h.2]
  | _=>simp[AV.eqB]at h
 | .top,v,h=>by cases v <;> simp_all [AV.eqB]
theorem AV.eqBs_ok:∀(ds ds':List AV),AV.eqBs ds ds'=true->ds=ds'
 | [],ds',h=>by cases ds' <;> simp_all [AV.eqBs]
 | d :: ds,ds',h=>by
  cases ds' with
  | nil=>simp[AV.eqBs]at h
  | cons d' ds' =>
   simp only[AV.eqBs,Bool.and_eq_true]at h
   rw[AV.eqB_ok d d' h.1,AV.eqBs_ok ds ds' h.2]
end
def mapEqB:List (D×D)->List (D×D)->Bool
 | [],[]=>true
 | d :: ds,d' :: ds'=>D.eqB d.1 d'.1 && D.eqB d.2 d'.2 && mapEqB ds ds'
 | _,_=>false
theorem mapEqB_ok:∀(ds ds':List (D×D)),mapEqB ds ds'=true->ds=ds'
 | [],ds',h=>by cases ds' <;> simp_all [mapEqB]
 | (a,b) :: ds,ds',h=>by
  cases ds' with
  | nil=>simp[mapEqB]at h
  | cons d' ds' =>
   obtain⟨a',b'⟩:=d'
   simp only[mapEqB,Bool.and_eq_true]at h
   rw[D.eqB_ok a a' h.1.1,D.eqB_ok b b' h.1.2,mapEqB_ok ds ds' h.2]
def Obj.eqB:Obj->Obj->Bool
 | .row ag xs,.row ag' xs'=>decide (ag=ag') && D.eqBs xs xs'
 | .vec cs,.vec cs'=>AV.eqBs cs cs'
 | .tab k cs,.tab k' cs'=>decide (k=k') && AV.eqBs cs cs'
 | .box cs,.box cs'=>AV.eqBs cs cs'
 | .bld T u cs,.bld T' u' cs'=>decide (T=T') && decide (u=u') && AV.eqBs cs cs'
 | .map m,.map m'=>mapEqB m m'
 | .dead,.dead=>true
 | _,_=>false
theorem Obj.eqB_ok(x y:Obj)(h:Obj.eqB x y=true):x=y:=by
 cases x <;> cases y <;> simp only[Obj.eqB,Bool.and_eq_true,decide_eq_true_eq]at h <;> first
  | rw[h.1,D.eqBs_ok _ _ h.2]
  | rw[h.1,AV.eqBs_ok _ _ h.2]
  | rw[h.1.1,h.1.2,AV.eqBs_ok _ _ h.2]
  | rw[AV.eqBs_ok _ _ h]
  | rw[mapEqB_ok _ _ h]
  | rfl
  | cases h
def Obj.eqBs:List Obj->List Obj->Bool
 | [],[]=>true
 | d :: ds,d' :: ds'=>Obj.eqB d d' && Obj.eqBs ds ds'
 | _,_=>false
theorem Obj.eqBs_ok:∀(ds ds':List Obj),Obj.eqBs ds ds'=true->ds=ds'
 | [],ds',h=>by cases ds' <;> simp_all [Obj.eqBs]
 | d :: ds,ds',h=>by
  cases ds' with
  | nil=>simp[Obj.eqBs]at h
  | cons d' ds' =>
   simp only[Obj.eqBs,Bool.and_eq_true]at h
   rw[Obj.eqB_ok d d' h.1,Obj.eqBs_ok ds ds' h.2]
mutual
def AV.underB(n:Nat):AV->Bool
 | .sl o _ _=>decide (o<n)
 | .ptr o _ _=>decide (o<n)
 | .map o=>decide (o<n)
 | .yld o=>decide (o<n)
 | .agg vs=>AV.undersB n vs
 | .tup vs=>AV.undersB n vs
 | .fn _ vs=>AV.undersB n vs
 | .dat _=>true
 | .nils=>true
 | .nilm=>true
 | .rptr _ _=>true
 | .top=>true
def AV.undersB(n:Nat):List AV->Bool
 | []=>true
 | a :: as=>AV.underB n a && AV.undersB n as
end
mutual
theorem AV.underB_ok{n:Nat}:∀(a:AV),AV.underB n a=true->a.under n
 | .sl o _ _,h=>by simpa [AV.underB,AV.under] using h
 | .ptr o _ _,h=>by simpa [AV.underB,AV.under] using h
 | .map o,h=>by simpa [AV.underB,AV.under] using h
 | .yld o,h=>by simpa [AV.underB,AV.under] using h
 | .agg vs,h=>by simp only[AV.underB,AV.under]at h ⊢;exact AV.undersB_ok vs h
 | .tup vs,h=>by simp only[AV.underB,AV.under]at h ⊢;exact AV.undersB_ok vs h
 | .fn _ vs,h=>by simp only[AV.underB,AV.under]at h ⊢;exact AV.undersB_ok vs h
 | .dat _,h=>by simp[AV.under]
 | .nils,h=>by simp[AV.under]
 | .nilm,h=>by simp[AV.under]
 | .rptr _ _,h=>by simp[AV.under]
 | .top,h=>by simp[AV.under]
theorem AV.undersB_ok{n:Nat}:∀(as:List AV),AV.undersB n as=true->AV.unders n as
 | [],h=>by simp[AV.unders]
 | a :: as,h=>by
  simp only[AV.undersB,Bool.and_eq_true]at h
  simp only[AV.unders]
  exact⟨AV.underB_ok a h.1,AV.undersB_ok as h.2⟩
end
def Obj.underB(n:Nat):Obj->Bool
 | .box cs=>AV.undersB n cs
 | .lp _ cs=>AV.undersB n cs
 | .bld _ _ cs=>AV.undersB n cs
 | .vec cs=>AV.undersB n cs
 | .tab _ cs=>AV.undersB n cs
 | _=>true
theorem Obj.underB_ok{n:Nat}{x:Obj}(h:x.underB n=true):x.under n:=by
 cases x <;> simp only[Obj.underB,Obj.under]at h ⊢ <;> exact AV.undersB_ok _ h
theorem le_mvs{s:List AV}{own:List Obj}{n0:Nat}{mv mv':List Nat}(h:∀o∈mv,o∈mv'):Le ⟨s,own,n0,mv⟩ ⟨s,own,n0,mv'⟩:=by
 rintro c a w ⟨hd,hn,F,φ,h2,h3,h4⟩
 exact⟨hd,hn,F,φ,{ h2 with keep:=fun o L hlt hm ho=>h2.keep o L hlt (fun hm'=>hm (h o hm')) ho },h3,h4⟩
def cutF(n:Nat)(f:Nat->Nat):Nat->Nat:=fun o=>if o<n then f o else o
def permB(n n0:Nat)(p q:Nat->Nat):Bool:=(List.range n).all fun o=>decide (q (p o)=o) && decide (p (q o)=o) && decide (p o<n) && decide (q o<n) && (decide (n0<=o) || decide (q o=o))
def S.sameB(p q:Nat->Nat)(σ σ':S):Bool :=
 decide (σ.n0=σ'.n0) && decide (σ.own.length=σ'.own.length) && permB σ.own.length σ.n0 p q && decide (σ.n0<=σ.own.length) && (σ.mv.all fun o=>σ'.mv.contains o) &&
  AV.eqBs (AV.rens (cutF σ.own.length p) σ.slots) σ'.slots && Obj.eqBs ((List.range σ.own.length).map fun o=>(σ.own.getD (cutF σ.own.length q o) .dead).ren (cutF σ.own.length p)) σ'.own
def natsF{α:Type}:List Nat->(List Nat->α)->α
 | [],K=>K []
 | x :: xs,K=>natF x fun x=>natsF xs fun xs=>K (x :: xs)
abbrev Blk:=List (Nat×Nat×Nat)
def blkMap(b b':Blk)(o:Nat):Nat :=
 match b.find? (fun x=>decide (x.2.1<=o) && decide (o<x.2.1+x.2.2)) with
 | none=>o
 | some (x,s,_)=>(match b'.find? (fun y=>decide (y.1=x)) with|some (_,s',_)=>s'+(o - s)|none=>o)
def addBlk(bl:Blk)(x n n':Nat):Blk:=match decide (n<n') with|true=>(x,n,n' - n) :: bl|false=>bl
section
variable {P:Program}
def condXB(ko:Nat)(o:Oper)(s:List AV):Bool :=
 match o.op with
 | .call c=>(match c.args.toList with|[x,_]=>(match ev s x with|.sl o' _ _=>decide (o'=ko)|.nils=>true|_=>false)|_=>false)
 | .load _ x=>(match ev s x with|.ptr o' _ _=>decide (o'≠ko)|.rptr _ _=>true|_=>false)
 | .fieldAddr _ x _=>(match ev s x with|.ptr o' _ _=>decide (o'≠ko)|.rptr _ _=>true|_=>false)
 | .indexAddr _ x i=>(match ev s x with|.ptr o' _ _=>decide (o'≠ko)|.sl o' _ _=>decide (o'≠ko)|.dat _=>true|_=>false) && (match ev s i with|.dat _=>true|_=>false)
 | .move _=>true
 | .assign _=>true
 | _=>false
def runT(P:Program)(call:CallO)(all:Array Oper)(ob ko:Nat)(ms ks:List Nat):DT->S->Blk->Option (S×Blk)->Option (S×Blk)
 | .fin,σ,bl,r=>(match r with
  | none=>some (σ,bl)
  | some x=>gd (S.sameB (blkMap bl x.2) (blkMap x.2 bl) σ x.1) (some x))
 | .stop,_,_,r=>r
 | .one p t,σ,bl,r=>(match all[p]? with
  | none=>none
  | some o=>gd ((!ms.contains p || condB ob o σ.slots) && (!ks.contains p || condXB ko o σ.slots)) (match opgO P call all o σ with
   | some σ'=>natF σ.own.length fun n=>natF σ'.own.length fun n'=>runT P call all ob ko ms ks t σ' (addBlk bl p n n') r
   | none=>none))
 | .alt p t u,σ,bl,r=>(match all[p]? with
  | none=>none
  | some o=>gd ((!ms.contains p || condB ob o σ.slots) && (!ks.contains p || condXB ko o σ.slots)) (match opgO P call all o σ with
   | some σ'=>(match (natF σ.own.length fun n=>natF σ'.own.length fun n'=>runT P call all ob ko ms ks t σ' (addBlk bl p n n') r) with
    | some x=>runT P call all ob ko ms ks u σ bl (some x)
    | none=>none)
   | none=>none))
def readyO(ops:Array Oper)(left:List Nat):List Nat:=left.filter fun i=>left.all fun j=>!Region.waitsFor .any ops i j
def altsT(f:Nat->DT):List Nat->DT
 | []=>.stop
 | x :: l=>.alt x (f x) (altsT f l)
def buildT(pf mf ms ks:List Nat)(ops:Array Oper):Nat->List Nat->DT
 | 0,_=>.fin
 | n+1,left =>
  (match (readyO ops left).find? (fun p=>(left.filter (· != p)).all fun i=>Region.waitsFor .any ops i p || swapOkX pf mf ms ks ops p i) with
  | some p=>.one p (natsF (left.filter (· != p)) fun l=>buildT pf mf ms ks ops n l)
  | none=>(match readyO ops left with
   | []=>.fin
   | l=>altsT (fun x=>natsF (left.filter (· != x)) fun l=>buildT pf mf ms ks ops n l) l))
mutual
def AV.objsOf:AV->List Nat
 | .sl o _ _=>[o]
 | .ptr o _ _=>[o]
 | .map o=>[o]
 | .yld o=>[o]
 | .agg vs=>AV.objsOfL vs
 | .tup vs=>AV.objsOfL vs
 | .fn _ vs=>AV.objsOfL vs
 | .dat _=>[]
 | .nils=>[]
 | .nilm=>[]
 | .rptr _ _=>[]
 | .top=>[]
def AV.objsOfL:List AV->List Nat
 | []=>[]
 | a :: as=>AV.objsOf a++AV.objsOfL as
end
def Obj.objsOf:Obj->List Nat
 | .box cs=>AV.objsOfL cs
 | .lp _ cs=>AV.objsOfL cs
 | .bld _ _ cs=>AV.objsOfL cs
 | .vec cs=>AV.objsOfL cs
 | .tab _ cs=>AV.objsOfL cs
 | _=>[]
def reachO(own:List Obj):Nat->List Nat->List Nat->List Nat
 | 0,_,seen=>seen
 | _+1,[],seen=>seen
 | n+1,o :: t,seen=>(match seen.contains o with|true=>reachO own n t seen|false=>reachO own n ((own.getD o .dead).objsOf++t) (o :: seen))
def reachL(own:List Obj)(l:List Nat):List Nat:=reachO own 100000 l []
def idxIn(o:Nat):List Nat->Nat->Nat
 | [],_=>o
 | x :: l,i=>(match decide (x=o) with|true=>i|false=>idxIn o l (i+1))
def S.gc(σ:S):S :=
 natF σ.own.length fun n =>
 natsF (reachL σ.own (AV.objsOfL σ.slots++List.range σ.n0)) fun seen =>
 natsF ((List.range n).filter fun o=>seen.contains o) fun L =>
 natF L.length fun k =>
 (match decide (k=n) with
 | true=>σ
 | false =>
  natsF (L++(List.range n).filter fun o=>!seen.contains o) fun ord =>
  let q:=fun o=>ord.getD o o
  let p:=fun o=>idxIn o ord 0
  let s':=AV.rens (cutF n p) σ.slots
  let own':=((List.range n).map fun o=>(σ.own.getD (cutF n q o) .dead).ren (cutF n p)).take k
  (match permB n σ.n0 p q && decide (k<=n) && decide (σ.n0<=k) && AV.undersB k s' && own'.all (Obj.underB k) with
  | true=>⟨s',own',σ.n0,σ.mv⟩
  | false=>σ))
attribute [irreducible] S.gc
variable {rec:Code->S->Option (Exit×S)}
def dataRun2(P:Program)(rec:Code->S->Option (Exit×S))(fn:Func)(body:Code)(ds:List D):Option (AV×List Obj) :=
 match bodyO P rec fn body (ds.map .dat) [] with
 | none=>none
 | some (σ,vs)=>(match decide (σ.n0=0),(resV vs).norm.scal with
  | true,true=>AV.force (resV vs).norm fun v=>some (v,[])
  | true,false=>(match S.gc ⟨[resV vs],σ.own,0,σ.mv⟩ with
   | ⟨[v],ob,n0,_⟩=>(match decide (n0=0) with|true=>some (v,ob)|false=>none)
   | _=>none)
  | false,_=>none)
def fullO(P:Program)(rec:Code->S->Option (Exit×S))(fn:Func)(body:Code)(args:List AV)(own:List Obj):Option Eff3 :=
 match bodyO P rec fn body args own with
 | none=>none
 | some (σ,vs) =>
  (match S.gc ⟨[match (resV vs).norm.scal with|true=>(resV vs).norm|false=>resV vs],σ.own,σ.n0,σ.mv⟩ with
  | ⟨[v],own',n0,mv⟩=>gd (decide (σ.n0=n0)) (some (v,own',mv))
  | _=>none)
def fullM(P:Program)(rec:Code->S->Option (Exit×S))(fn:Func)(body:Code)(args:List AV)(own:List Obj):Option Eff3 :=
 match fullO P rec fn body args own with
 | some (v,own',mv)=>gd (mv.isEmpty && Obj.eqBs (own'.take own.length) own) (some (v,own++own'.drop own.length,[]))
 | none=>none
def frzO(P:Program)(rec:Code->S->Option (Exit×S))(fn:Func)(body:Code)(args:List AV)(own:List Obj):Option Eff3 :=
 match S.frzL ((args.map (deepRefs own 3)).flatten) ⟨args,own,own.length,[]⟩ with
 | ⟨args',own',_,mv'⟩=>(match args'.all AV.isDat,asDL own' args' with
  | true,some ds=>(match dataRun P rec fn body ds with
   | some (v,_)=>(match pureV v.norm with|true=>some (v.norm,own',mv')|false=>none)
   | none=>none)
  | _,_=>none)
def restO(P:Program)(rec:Code->S->Option (Exit×S))(fn:Func)(body:Code)(args:List AV)(own:List Obj):Option Eff3 :=
 match fullO P rec fn body args own with
 | some r=>some r
 | none=>frzO P rec fn body args own
abbrev Tab:=List (Nat×List D×AV×List Obj)
def Tab.find:Tab->Nat->List D->Option (AV×List Obj)
 | [],_,_=>none
 | x :: l,g,ds=>match Nat.beq x.1 g && D.eqBs x.2.1 ds with|true=>some x.2.2|false=>Tab.find l g ds
def Tab.has:Tab->Nat->Bool
 | [],_=>false
 | x :: l,g=>match Nat.beq x.1 g with|true=>true|false=>Tab.has l g
def Base(P:Program)(tab:Tab):Prop:=∀g ds v ob,(g,ds,v,ob)∈tab->∀fn body,P.funcs[g]?=some fn->fn.body=some body->sem P body (post P fn v ob []) ⟨ds.map .dat++List.replicate (fn.ntmps - (ds.map AV.dat).length) .top,[],0,[]⟩
def dataRunT(P:Program)(tab:Tab)(rec:Code->S->Option (Exit×S))(g:Nat)(fn:Func)(body:Code)(ds:List D):Option (AV×List Obj) :=
 match Tab.has tab g with
 | false=>dataRun2 P rec fn body ds
 | true=>(match Tab.find tab g ds with|some r=>some r|none=>dataRun2 P rec fn body ds)
def memO(tab:Tab):CallO:=fun g args own =>
 match Tab.has tab g with
 | false=>none
 | true =>
 match S.frzL ((args.map (deepRefs own 3)).flatten) ⟨args,own,own.length,[]⟩ with
 | ⟨args',own',_,mv'⟩=>(match args'.all AV.isDat,asDL own' args' with
  | true,some ds=>(match Tab.find tab g ds with
   | some (v,ob)=>some (v.shift own'.length,own'++ob.map (Obj.shift own'.length),mv')
   | none=>none)
  | _,_=>none)
def pureSig(P:Program)(fn:Func):Bool :=
 !fn.resultTypes.toList.isEmpty && (fn.resultTypes.toList.all fun t=>P.keyTypeAt 8 t) && (fn.params.toList.all fun t=>match P.underlying t with|some (.pointer _)=>false|some (.map _ _)=>false|some (.func _ _ _)=>false|_=>true)
def callBy(P:Program)(tab:Tab)(rec:Code->S->Option (Exit×S))(K:Func->Code->List AV->List Obj->Option Eff3):CallO:=fun g args own =>
 match P.funcs[g]? with
 | none=>none
 | some fn=>(match fn.body with
  | none=>none
  | some body =>
   (match pureSig P fn || args.all AV.isDat with
   | false=>K fn body args own
   | true=>(match asDL own args with
    | none=>K fn body args own
    | some ds=>(match dataRunT P tab rec g fn body ds with
     | none=>K fn body args own
     | some (v,ob)=>(match v.scal && ob.isEmpty with
      | true=>some (v,own,[])
      | false=>(match args.all AV.isDat with
       | true=>some (v.shift own.length,own++ob.map (Obj.shift own.length),[])
       | false=>K fn body args own))))))
def callO2(P:Program)(tab:Tab)(rec:Code->S->Option (Exit×S)):CallO:=callBy P tab rec fun fn body args own=>restO P rec fn body args own
def callO3(P:Program)(tab:Tab)(rec:Code->S->Option (Exit×S)):CallO:=fun g args own =>
 match memO tab g args own with
 | none=>callO2 P tab rec g args own
 | some r=>(match P.funcs[g]? with
  | none=>none
  | some fn=>(match fn.body with
   | none=>none
   | some _=>some r))
def mcallO(P:Program)(tab:Tab)(rec:Code->S->Option (Exit×S)):CallO:=callBy P tab rec (fullM P rec)
def pcallO2(P:Program)(tab:Tab)(rec:Code->S->Option (Exit×S)):CallO:=fun g args own =>
 match P.funcs[g]? with
 | none=>none
 | some fn=>(match fn.body with
  | none=>none
  | some body =>
   (match asDL own args with
   | none=>none
   | some ds=>(match dataRunT P tab rec g fn body ds with
    | none=>none
    | some (v,ob)=>gd (v.scal && ob.isEmpty) (some (v,own,[])))))
def frzLC2(C:Contract):Contract:=fun args own v own' mv=>∃os args' own1 n0 ,S.frzL os ⟨args,own,own.length,[]⟩=⟨args',own1,n0,mv⟩/\C args' own1 v own' []
def pmcallO(P:Program)(tab:Tab)(rec:Code->S->Option (Exit×S))(pf:List Nat):CallO:=fun g args own=>match pf.contains g with|true=>pcallO2 P tab rec g args own|false=>mcallO P tab rec g args own
def makersO(P:Program)(ops:Array Oper):List Nat:=(ops.toList.map Oper.callee).flatten.filter fun g=>match P.funcs[g]? with|some fn=>!pureSig P fn|none=>true
def appsO(ops:Array Oper):List Nat :=
 let r:=List.range ops.size
 let ap:=fun i=>match ops[i]? with|some o=>isApp o|none=>false
 match r.any ap with
 | false=>[]
 | true=>r.filter fun p=>ap p || (match ops[p]? with|some o=>isQ o && r.any fun i=>ap i && !Region.waitsFor .any ops i p && !Region.waitsFor .any ops p i|none=>false)
def findKo(P:Program)(call:CallO)(all:Array Oper):List Nat->S->Nat
 | [],_=>1000000
 | i :: r,σ=>match all[i]? with
  | none=>1000000
  | some o=>(match isApp o with
   | true=>(match o.op with|.call c=>(match c.args.toList with|[x,_]=>(match ev σ.slots x with|.sl ob _ _=>ob|_=>1000000)|_=>1000000)|_=>1000000)
   | false=>(match opgO P call all o σ with|some σ'=>findKo P call all r σ'|none=>1000000))
def drawT0(P:Program)(tab:Tab)(rec:Code->S->Option (Exit×S))(mk:List Nat)(ops:Array Oper)(σ:S):Option S :=
 natsF (orderO ops ops.size [] (List.range ops.size)) fun L =>
 natsF (marksO ops) fun ms =>
 natsF (appsO ops) fun ks =>
 natsF ((ops.toList.map Oper.callee).flatten.filter fun g=>!mk.contains g) fun pf =>
 let mf:=dynF :: mk
 let T:=buildT pf mf ms ks ops ops.size (List.range ops.size)
 gd (drawOkT pf mf ms ks ops T) (match natF (match ms with|[]=>0|_=>findOb P (pmcallO P tab rec pf) ops ms L σ) fun ob=>natF (match ks with|[]=>0|_=>findKo P (pmcallO P tab rec pf) ops L σ) fun ko=>runT P (pmcallO P tab rec pf) ops ob ko ms ks T σ [] none with
  | some x=>some x.1
  | none=>none)
def drawO2(P:Program)(tab:Tab)(rec:Code->S->Option (Exit×S))(ops:Array Oper)(σ:S):Option S :=
 natsF (makersO P ops) fun mk =>
 match (match mk with|[]=>drawO0 P (pcallO2 P tab rec) ops σ|_=>none) with
 | some s=>some s
 | none=>(match drawT0 P tab rec mk ops σ with
  | some s=>some s
  | none=>drawT0 P tab rec mk ops (σ.frzL (ops.toList.map fun o=>(o.op.operands.toList.map fun x=>(ev σ.slots x).rowRefs).flatten).flatten))
def preF(tab:Tab)(code:Code)(σ:S):S :=
 match code with
 | .region _ ops false=>(match ops.toList.any fun o=>(Oper.callee o).any (Tab.has tab) with
  | true=>S.frzL ((ops.toList.map fun o=>(o.op.operands.toList.map fun x=>deepRefs σ.own 3 (ev σ.slots x)).flatten).flatten) σ
  | false=>σ)
 | _=>σ
attribute [irreducible] preF
def stepC2(P:Program)(tab:Tab)(call:CallO)(rec:Code->S->Option (Exit×S))(code:Code)(σ:S):Option (Exit×S) :=
 match code with
 | .region _ ops true=>(match drawO2 P tab rec ops σ with|some s=>spineF s.slots fun sl=>some (.normal,{ s with slots:=sl })|none=>none)
 | code=>stepC P call (pcallO P rec) rec code (preF tab code σ)
def runC2(P:Program)(tab:Tab)(n:Nat):Code->S->Option (Exit×S) :=
 Nat.rec (motive:=fun _=>Code->S->Option (Exit×S)) (fun _ _=>none) (fun _ rec=>stepC2 P tab (callO3 P tab rec) rec) n
def evalF2(P:Program)(tab:Tab)(n:Nat)(g:Nat)(ds:List D):Option AV :=
 match pcallO2 P tab (runC2 P tab n) g (ds.map .dat) [] with|some r=>some r.1|none=>none
def evalM(P:Program)(tab:Tab)(n:Nat)(g:Nat)(ds:List D):Option (AV×List Obj) :=
 match P.funcs[g]? with
 | none=>none
 | some fn=>(match fn.body with
  | none=>none
  | some body=>dataRun2 P (runC2 P tab n) fn body ds)
end
end Go.AM
namespace Go.AM
open Go
@[go_sem] theorem one_string {b:ByteArray}:(Value.string b).oneCell'=true:=Eq.trans rfl rfl
@[go_sem] theorem constAV0_str {l:List UInt8} (h:l.length<=1000000):constAV0 (.string ⟨l.toArray⟩)=.dat (.str l):=by
 simp only[constAV0]
 rw[if_pos (show (ByteArray.mk l.toArray).size<=1000000 by simpa [ByteArray.size] using h)]
@[go_sem] theorem ev_str {s:List AV} {l:List UInt8} (h:l.length<=1000000):ev s (.const (.string ⟨l.toArray⟩))=.dat (.str l):=by
 simp only[ev,constAV]
 exact constAV0_str h
@[go_sem ↓] theorem fits_nil {ag:Option Nat}:(∀d∈([]:List D),D.fits ag d)=True:=by simp
@[go_sem ↓] theorem fits_cons {ag:Option Nat} {x:D} {l:List D}:(∀d∈(x :: l),D.fits ag d)=(D.fits ag x/\∀d∈l,D.fits ag d):=by simp
@[go_sem ↓] theorem fits_sing {ag:Option Nat} {x:D}:(∀d∈[x],D.fits ag d)=D.fits ag x:=by simp
section
variable {α:Type} {l r:List α} {x:α} {k:Nat}
theorem lt_of_drop(h:l.drop k=x :: r):k<l.length:=by
 rcases Nat.lt_or_ge k l.length with h1|h1
 ·exact h1
 ·rw[List.drop_eq_nil_of_le h1]at h;cases h
theorem drop_cons(h:l.drop k=x :: r):l.drop (k+1)=r:=by
 have:=congrArg List.tail h
 simpa [List.tail_drop] using this
theorem get_of_drop(h:l.drop k=x :: r):l[k]?=some x:=by
 have:=congrArg List.head? h
 simpa [List.head?_drop] using this
theorem nth_of_drop{f:α->D}(h:l.drop k=x :: r):D.nth (l.map f) k=f x:=by
 simp[D.nth,get_of_drop h]
theorem nil_of_drop(h:l.drop k=[]):l.length<=k:=by simpa using h
theorem end_of_drop(h:l.drop k=[])(hk:k<=l.length):k=l.length:=by have:=nil_of_drop h;omega
end
end Go.AM
namespace Go.AM
open Go
section
variable {P:Program}
def normC(C:Contract):Contract:=fun args own v own' mv=>C (args.map AV.norm) own v own' mv
end
end Go.AM

