/- Own work over the model of the kit. -/
import Derived.Test.YtmmbjdgmhdjbjaaGreatDoorD9
import Derived.Test.YtmmbjdgmhdjbjaaGreatDoorD6
import Derived.Test.YtmmbjdgmhdjbjaaGreatDoorD8
import Derived.Test.YtmmbjdgmhdjbjaaGreatDoorD7
import Derived.Test.YtmmbjdgmhdjbjaaGreatDoorD5
set_option linter.unnecessarySimpa false
set_option linter.unusedSimpArgs false
set_option linter.unusedVariables false
namespace Go.AM
open Go
mutual
def D.eqB:D->D->Bool
 | .int k n,.int k' n'=>decide (k=k') && decide (n=n')
 | .bool b,.bool b'=>decide (b=b')
 | .str s,.str s'=>decide (s=s')
 | .sl ag xs,.sl ag' xs'=>decide (ag=ag') && D.eqBs xs xs'
 | .agg ds,.agg ds'=>D.eqBs ds ds'
 | _,_=>false
def D.eqBs:List D->List D->Bool
 | [],[]=>true
 | d :: ds,d' :: ds'=>D.eqB d d' && D.eqBs ds ds'
 | _,_=>false
end
mutual
theorem D.eqB_ok:∀(d d':D),D.eqB d d'=true->d=d'
 | .int k n,d',h=>by cases d' <;> simp_all [D.eqB]
 | .bool b,d',h=>by cases d' <;> simp_all [D.eqB]
 | .str s,d',h=>by cases d' <;> simp_all [D.eqB]
 | .sl ag xs,d',h=>by
  cases d' with
  | sl ag' xs' =>
   simp only[D.eqB,Bool.and_eq_true,decide_eq_true_eq]at h
   rw[h.1,D.eqBs_ok xs xs' h.2]
  | _=>simp[D.eqB]at h
 | .agg ds,d',h=>by
  cases d' with
  | agg ds' =>
   simp only[D.eqB]at h
   rw[D.eqBs_ok ds ds' h]
  | _=>simp[D.eqB]at h
theorem D.eqBs_ok:∀(ds ds':List D),D.eqBs ds ds'=true->ds=ds'
 | [],ds',h=>by cases ds' <;> simp_all [D.eqBs]
 | d :: ds,ds',h=>by
  cases ds' with
  | nil=>simp[D.eqBs]at h
  | cons d' ds' =>
   simp only[D.eqBs,Bool.and_eq_true]at h
   rw[D.eqB_ok d d' h.1,D.eqBs_ok ds ds' h.2]
end
mutual
def AV.eqB:AV->AV->Bool
 | .dat d,.dat d'=>D.eqB d d'
 | .nils,.nils=>true
 | .nilm,.nilm=>true
 | .sl o i j,.sl o' i' j'=>decide (o=o') && decide (i=i') && decide (j=j')
 | .ptr o i j,.ptr o' i' j'=>decide (o=o') && decide (i=i') && decide (j=j')
 | .rptr ag d,.rptr ag' d'=>decide (ag=ag') && D.eqB d d'
 | .agg vs,.agg vs'=>AV.eqBs vs vs'
 | .tup vs,.tup vs'=>AV.eqBs vs vs'
 | .map o,.map o'=>decide (o=o')
 | .yld o,.yld o'=>decide (o=o')
 | .fn f vs,.fn f' vs'=>decide (f=f') && AV.eqBs vs vs'
 | .top,.top=>true
 | _,_=>false
def AV.eqBs:List AV->List AV->Bool
 | [],[]=>true
 | d :: ds,d' :: ds'=>AV.eqB d d' && AV.eqBs ds ds'
 | _,_=>false
end
mutual
theorem AV.eqB_ok:∀(d d':AV),AV.eqB d d'=true->d=d'
 | .dat d,v,h=>by
  cases v with
  | dat d'=>simp only[AV.eqB]at h;rw[D.eqB_ok d d' h]
  | _=>simp[AV.eqB]at h
 | .nils,v,h=>by cases v <;> simp_all [AV.eqB]
 | .nilm,v,h=>by cases v <;> simp_all [AV.eqB]
 | .sl o i j,v,h=>by cases v <;> simp_all [AV.eqB]
 | .ptr o i j,v,h=>by cases v <;> simp_all [AV.eqB]
 | .rptr ag d,v,h=>by
  cases v with
  | rptr ag' d'=>simp only[AV.eqB,Bool.and_eq_true,decide_eq_true_eq]at h;rw[h.1,D.eqB_ok d d' h.2]
  | _=>simp[AV.eqB]at h
 | .agg vs,v,h=>by
  cases v with
  | agg vs'=>simp only[AV.eqB]at h;rw[AV.eqBs_ok vs vs' h]
  | _=>simp[AV.eqB]at h
 | .tup vs,v,h=>by
  cases v with
  | tup vs'=>simp only[AV.eqB]at h;rw[AV.eqBs_ok vs vs' h]
  | _=>simp[AV.eqB]at h
 | .map o,v,h=>by cases v <;> simp_all [AV.eqB]
 | .yld o,v,h=>by cases v <;> simp_all [AV.eqB]
 | .fn f vs,v,h=>by
  cases v with
  | fn f' vs'=>simp only[AV.eqB,Bool.and_eq_true,decide_eq_true_eq]at h;rw[h.1,AV.eqBs_ok vs vs' h.2]
  | _=>simp[AV.eqB]at h
 | .top,v,h=>by cases v <;> simp_all [AV.eqB]
theorem AV.eqBs_ok:∀(ds ds':List AV),AV.eqBs ds ds'=true->ds=ds'
 | [],ds',h=>by cases ds' <;> simp_all [AV.eqBs]
 | d :: ds,ds',h=>by
  cases ds' with
  | nil=>simp[AV.eqBs]at h
  | cons d' ds' =>
   simp only[AV.eqBs,Bool.and_eq_true]at h
   rw[AV.eqB_ok d d' h.1,AV.eqBs_ok ds ds' h.2]
end
def qI:List (D×D)->List (D×D)->Bool
 | [],[]=>true
 | d :: ds,d' :: ds'=>D.eqB d.1 d'.1 && D.eqB d.2 d'.2 && qI ds ds'
 | _,_=>false
theorem ux:∀(ds ds':List (D×D)),qI ds ds'=true->ds=ds'
 | [],ds',h=>by cases ds' <;> simp_all [qI]
 | (a,b) :: ds,ds',h=>by
  cases ds' with
  | nil=>simp[qI]at h
  | cons d' ds' =>
   obtain⟨a',b'⟩:=d'
   simp only[qI,Bool.and_eq_true]at h
   rw[D.eqB_ok a a' h.1.1,D.eqB_ok b b' h.1.2,ux ds ds' h.2]
def Obj.eqB:Obj->Obj->Bool
 | .row ag xs,.row ag' xs'=>decide (ag=ag') && D.eqBs xs xs'
 | .vec cs,.vec cs'=>AV.eqBs cs cs'
 | .tab k cs,.tab k' cs'=>decide (k=k') && AV.eqBs cs cs'
 | .box cs,.box cs'=>AV.eqBs cs cs'
 | .bld T u cs,.bld T' u' cs'=>decide (T=T') && decide (u=u') && AV.eqBs cs cs'
 | .map m,.map m'=>qI m m'
 | .dead,.dead=>true
 | _,_=>false
theorem Obj.eqB_ok(x y:Obj)(h:Obj.eqB x y=true):x=y:=by
 cases x <;> cases y <;> simp only[Obj.eqB,Bool.and_eq_true,decide_eq_true_eq]at h <;> first
  | rw[h.1,D.eqBs_ok _ _ h.2]
  | rw[h.1,AV.eqBs_ok _ _ h.2]
  | rw[h.1.1,h.1.2,AV.eqBs_ok _ _ h.2]
  | rw[AV.eqBs_ok _ _ h]
  | rw[ux _ _ h]
  | rfl
  | cases h
def Obj.eqBs:List Obj->List Obj->Bool
 | [],[]=>true
 | d :: ds,d' :: ds'=>Obj.eqB d d' && Obj.eqBs ds ds'
 | _,_=>false
theorem Obj.eqBs_ok:∀(ds ds':List Obj),Obj.eqBs ds ds'=true->ds=ds'
 | [],ds',h=>by cases ds' <;> simp_all [Obj.eqBs]
 | d :: ds,ds',h=>by
  cases ds' with
  | nil=>simp[Obj.eqBs]at h
  | cons d' ds' =>
   simp only[Obj.eqBs,Bool.and_eq_true]at h
   rw[Obj.eqB_ok d d' h.1,Obj.eqBs_ok ds ds' h.2]
mutual
def AV.underB(n:Nat):AV->Bool
 | .sl o _ _=>decide (o<n)
 | .ptr o _ _=>decide (o<n)
 | .map o=>decide (o<n)
 | .yld o=>decide (o<n)
 | .agg vs=>AV.undersB n vs
 | .tup vs=>AV.undersB n vs
 | .fn _ vs=>AV.undersB n vs
 | .dat _=>true
 | .nils=>true
 | .nilm=>true
 | .rptr _ _=>true
 | .top=>true
def AV.undersB(n:Nat):List AV->Bool
 | []=>true
 | a :: as=>AV.underB n a && AV.undersB n as
end
mutual
theorem AV.underB_ok{n:Nat}:∀(a:AV),AV.underB n a=true->a.under n
 | .sl o _ _,h=>by simpa [AV.underB,AV.under] using h
 | .ptr o _ _,h=>by simpa [AV.underB,AV.under] using h
 | .map o,h=>by simpa [AV.underB,AV.under] using h
 | .yld o,h=>by simpa [AV.underB,AV.under] using h
 | .agg vs,h=>by simp only[AV.underB,AV.under]at h ⊢;exact AV.undersB_ok vs h
 | .tup vs,h=>by simp only[AV.underB,AV.under]at h ⊢;exact AV.undersB_ok vs h
 | .fn _ vs,h=>by simp only[AV.underB,AV.under]at h ⊢;exact AV.undersB_ok vs h
 | .dat _,h=>by simp[AV.under]
 | .nils,h=>by simp[AV.under]
 | .nilm,h=>by simp[AV.under]
 | .rptr _ _,h=>by simp[AV.under]
 | .top,h=>by simp[AV.under]
theorem AV.undersB_ok{n:Nat}:∀(as:List AV),AV.undersB n as=true->AV.unders n as
 | [],h=>by simp[AV.unders]
 | a :: as,h=>by
  simp only[AV.undersB,Bool.and_eq_true]at h
  simp only[AV.unders]
  exact⟨AV.underB_ok a h.1,AV.undersB_ok as h.2⟩
end
def Obj.underB(n:Nat):Obj->Bool
 | .box cs=>AV.undersB n cs
 | .lp _ cs=>AV.undersB n cs
 | .bld _ _ cs=>AV.undersB n cs
 | .vec cs=>AV.undersB n cs
 | .tab _ cs=>AV.undersB n cs
 | _=>true
theorem Obj.underB_ok{n:Nat}{x:Obj}(h:x.underB n=true):x.under n:=by
 cases x <;> simp only[Obj.underB,Obj.under]at h ⊢ <;> exact AV.undersB_ok _ h
theorem qx{s:List AV}{own:List Obj}{n0:Nat}{mv mv':List Nat}(h:∀o∈mv,o∈mv'):Le ⟨s,own,n0,mv⟩ ⟨s,own,n0,mv'⟩:=by
 rintro c a w ⟨hd,hn,F,φ,h2,h3,h4⟩
 exact⟨hd,hn,F,φ,{ h2 with keep:=fun o L hlt hm ho=>h2.keep o L hlt (fun hm'=>hm (h o hm')) ho },h3,h4⟩
def VU(n:Nat)(f:Nat->Nat):Nat->Nat:=fun o=>if o<n then f o else o
def VB(n n0:Nat)(p q:Nat->Nat):Bool:=(List.range n).all fun o=>decide (q (p o)=o) && decide (p (q o)=o) && decide (p o<n) && decide (q o<n) && (decide (n0<=o) || decide (q o=o))
def H4{α:Type}:List Nat->(List Nat->α)->α
 | [],K=>K []
 | x :: xs,K=>u5 x fun x=>H4 xs fun xs=>K (x :: xs)
section
variable {P:Program}
mutual
def AV.objsOf:AV->List Nat
 | .sl o _ _=>[o]
 | .ptr o _ _=>[o]
 | .map o=>[o]
 | .yld o=>[o]
 | .agg vs=>AV.objsOfL vs
 | .tup vs=>AV.objsOfL vs
 | .fn _ vs=>AV.objsOfL vs
 | .dat _=>[]
 | .nils=>[]
 | .nilm=>[]
 | .rptr _ _=>[]
 | .top=>[]
def AV.objsOfL:List AV->List Nat
 | []=>[]
 | a :: as=>AV.objsOf a++AV.objsOfL as
end
def Obj.objsOf:Obj->List Nat
 | .box cs=>AV.objsOfL cs
 | .lp _ cs=>AV.objsOfL cs
 | .bld _ _ cs=>AV.objsOfL cs
 | .vec cs=>AV.objsOfL cs
 | .tab _ cs=>AV.objsOfL cs
 | _=>[]
def CT(own:List Obj):Nat->List Nat->List Nat->List Nat
 | 0,_,seen=>seen
 | _+1,[],seen=>seen
 | n+1,o :: t,seen=>(match seen.contains o with|true=>CT own n t seen|false=>CT own n ((own.getD o .dead).objsOf++t) (o :: seen))
def P8(own:List Obj)(l:List Nat):List Nat:=CT own 100000 l []
def P9(o:Nat):List Nat->Nat->Nat
 | [],_=>o
 | x :: l,i=>(match decide (x=o) with|true=>i|false=>P9 o l (i+1))
def S.gc(σ:S):S :=
 u5 σ.own.length fun n =>
 H4 (P8 σ.own (AV.objsOfL σ.slots++List.range σ.n0)) fun seen =>
 H4 ((List.range n).filter fun o=>seen.contains o) fun L =>
 u5 L.length fun k =>
 (match decide (k=n) with
 | true=>σ
 | false =>
  H4 (L++(List.range n).filter fun o=>!seen.contains o) fun ord =>
  let q:=fun o=>ord.getD o o
  let p:=fun o=>P9 o ord 0
  let s':=AV.rens (VU n p) σ.slots
  let own':=((List.range n).map fun o=>(σ.own.getD (VU n q o) .dead).ren (VU n p)).take k
  (match VB n σ.n0 p q && decide (k<=n) && decide (σ.n0<=k) && AV.undersB k s' && own'.all (Obj.underB k) with
  | true=>⟨s',own',σ.n0,σ.mv⟩
  | false=>σ))
attribute [irreducible] S.gc
variable {rec:Code->S->Option (Exit×S)}
abbrev Tab:=List (Nat×List D×AV×List Obj)
def Tab.find:Tab->Nat->List D->Option (AV×List Obj)
 | [],_,_=>none
 | x :: l,g,ds=>match Nat.beq x.1 g && D.eqBs x.2.1 ds with|true=>some x.2.2|false=>Tab.find l g ds
def Tab.has:Tab->Nat->Bool
 | [],_=>false
 | x :: l,g=>match Nat.beq x.1 g with|true=>true|false=>Tab.has l g
def aaU(tab:Tab)(code:Code)(σ:S):S :=
 match code with
 | .region _ ops false=>(match ops.toList.any fun o=>(Oper.callee o).any (Tab.has tab) with
  | true=>S.frzL ((ops.toList.map fun o=>(o.op.operands.toList.map fun x=>ya σ.own 3 (ev σ.slots x)).flatten).flatten) σ
  | false=>σ)
 | _=>σ
attribute [irreducible] aaU
end
end Go.AM
namespace Go.AM
open Go
@[go_sem] theorem NH {b:ByteArray}:(Value.string b).oneCell'=true:=Eq.trans rfl rfl
@[go_sem] theorem v6 {l:List UInt8} (h:l.length<=1000000):br (.string ⟨l.toArray⟩)=.dat (.str l):=by
 simp only[br]
 rw[if_pos (show (ByteArray.mk l.toArray).size<=1000000 by simpa [ByteArray.size] using h)]
@[go_sem] theorem ZU {s:List AV} {l:List UInt8} (h:l.length<=1000000):ev s (.const (.string ⟨l.toArray⟩))=.dat (.str l):=by
 simp only[ev,fx]
 exact v6 h
@[go_sem ↓] theorem Sr {ag:Option Nat}:(∀d∈([]:List D),D.fits ag d)=True:=by simp
@[go_sem ↓] theorem OS {ag:Option Nat} {x:D} {l:List D}:(∀d∈(x :: l),D.fits ag d)=(D.fits ag x/\∀d∈l,D.fits ag d):=by simp
@[go_sem ↓] theorem Rg {ag:Option Nat} {x:D}:(∀d∈[x],D.fits ag d)=D.fits ag x:=by simp
section
variable {α:Type} {l r:List α} {x:α} {k:Nat}
theorem ao(h:l.drop k=x :: r):k<l.length:=by
 rcases Nat.lt_or_ge k l.length with h1|h1
 ·exact h1
 ·rw[List.drop_eq_nil_of_le h1]at h;cases h
theorem aE(h:l.drop k=x :: r):l.drop (k+1)=r:=by
 have:=congrArg List.tail h
 simpa [List.tail_drop] using this
theorem fu(h:l.drop k=x :: r):l[k]?=some x:=by
 have:=congrArg List.head? h
 simpa [List.head?_drop] using this
theorem uJ{d:α}(h:l.drop k=x :: r):l.getD k d=x:=by
 rw[List.getD_eq_getElem?_getD,fu h];rfl
theorem aC(h:l.drop k=x :: r):l.take (k+1)=l.take k++[x]:=by
 rw[List.take_add_one,fu h];rfl
theorem ak{f:α->D}(h:l.drop k=x :: r):D.nth (l.map f) k=f x:=by
 simp[D.nth,fu h]
theorem wI(h:l.drop k=[]):l.length<=k:=by simpa using h
theorem aj(h:l.drop k=[])(hk:k<=l.length):k=l.length:=by have:=wI h;omega
theorem aN(h:l.drop k=x :: r):x∈l:=List.mem_of_getElem? (fu h)
end
section
variable {P:Program}
def z8(C:a8):a8:=fun args own v own' mv=>C (args.map AV.norm) own v own' mv
theorem Ch{F:Nat->Prop}{φ:Nat->Option Loc}{w:World}:∀{vs:List AV} {us:List Value},AV.Rs F φ w vs us->AV.Rs F φ w (vs.map AV.norm) us
 | [],us,h=>h
 | x :: xs,us,h=>by
  simp only[AV.Rs]at h
  obtain⟨u,us',rfl,h1,h2⟩:=h
  simp only[List.map_cons,AV.Rs]
  exact⟨u,us',rfl,IP h1,Ch h2⟩
theorem sF{g:Nat}{C:a8}(h:OkF P g C):OkF P g (z8 C):=by
 intro args own v own' mv hC
 refine⟨(h _ _ _ _ _ hC).1,fun F φ w vs hc hs=>(h _ _ _ _ _ hC).2 F φ w vs hc (Ch hs)⟩
theorem l4{l:List (Nat×a8)}{g:Nat}(R:List AV->List Obj->AV->List Obj->List Obj->List Nat->Prop)(hm:(g,z8 (cr R))∈l){args:List AV}{own:List Obj}{K:AV->List Obj->List Nat->Prop}(os:List Nat){as:List AV}{obs:List Obj}{v0:AV}{obs' ex:List Obj}{mv0:List Nat}
  (hR:R as obs v0 obs' ex mv0) (hnd:os.Nodup) (hlt:∀o∈os,o<own.length) (h1:obs.length=os.length) (h2:obs'.length=os.length) (c5:args.map AV.norm=AV.rens (emb os own.length) as) (hun:AV.unders os.length as) (hob:∀x∈obs,x.under os.length)
  (yN:∀j,j<os.length->own[os.getD j 0]?=some ((obs.getD j .dead).ren (emb os own.length)))
  (hK:K (v0.ren (emb os own.length)) (dv (own.map (Obj.killAll (mv0.map (emb os own.length)))) os (obs'.map (Obj.ren (emb os own.length)))++ex.map (Obj.ren (emb os own.length))) (mv0.map (emb os own.length))):eB (tbl l) (.fn g []) args own K :=
 jv (z8 (cr R)) hm _ _ _ ⟨os,as,obs,v0,obs',ex,mv0,hnd,hlt,h1,h2,c5,hun,hob,yN,hR,rfl,rfl,rfl⟩ hK
end
end Go.AM

