/- Own work over the model of the kit. -/
import Derived.Test.YtmmbjdgmhdjbjaaGreatDoorD5
import Derived.WalkKit
import Derived.ProofKit
import Derived.OpenShut
import Derived.ShutString
import Derived.ChangeOld
import Derived.Below
set_option linter.unnecessarySimpa false
set_option linter.unusedSimpArgs false
set_option linter.unusedVariables false
namespace Go.AM
open Go Go.ChangeShapes Go.WideShapes Go.ChangeAt Go.RowKit
theorem uZ{α β:Type}{f:α->Option β}:∀{l:List α} {r:List β},l.mapM f=some r->r.length=l.length/\∀(i:Nat) (x:α),l[i]?=some x->∃y,r[i]?=some y/\f x=some y
 | [],r,h=>by simp at h;subst h;simp
 | a :: l,r,h=>by
  rw[List.mapM_cons]at h
  cases ha:f a with
  | none=>rw[ha]at h;simp at h
  | some y =>
   rw[ha]at h
   cases hl:l.mapM f with
   | none=>rw[hl]at h;simp at h
   | some ys =>
    rw[hl]at h
    simp at h
    subst h
    obtain⟨h1,h2⟩:=uZ hl
    refine⟨by simp[h1],fun i x hx=>?_⟩
    cases i with
    | zero=>simp at hx;subst hx;exact⟨y,rfl,ha⟩
    | succ i=>simpa using h2 i x (by simpa using hx)
theorem lD{β:Type}{f:Nat->Option β}{n:Nat}{r:List β}(h:(List.range n).mapM f=some r):r.length=n/\∀i,i<n->∃y,r[i]?=some y/\f i=some y:=by
 obtain⟨h1,h2⟩:=uZ h
 refine⟨by simpa using h1,fun i hi=>h2 i i (List.getElem?_range hi)⟩
def iS(P:Program):Nat->List Field->Bool
 | _,[]=>true
 | o,f :: fs=>f.offset == o && iS P (o+P.cellsOf f.type) fs
def gq(P:Program):List Field->Nat
 | []=>0
 | f :: fs=>P.cellsOf f.type+gq P fs
def eW(P:Program):Nat->TypeId->Bool
 | 0,_=>false
 | n+1,t=>match P.underlying t with
  | some .bool=>true
  | some (.int _)=>true
  | some .string=>true
  | some (.slice e)=>eW P n e && decide (0<P.cellsOf e)
  | some (.struct fs)=>iS P 0 fs.toList && fs.toList.all (fun f=>eW P n f.type) && P.cellsOf t == gq P fs.toList
  | some (.array k e)=>eW P n e && P.cellsOf t == k*P.cellsOf e
  | _=>false
def vz(P:Program)(t:TypeId):Bool:=match P.underlying t with|some (.struct _)=>true|some (.array _ _)=>true|_=>false
def jV(P:Program)(t:TypeId):Option Nat:=if vz P t then some (P.cellsOf t) else none
def mB(ag:Bool)(es:List D):D:=if ag then .agg es else es.headD default
def l5(T:TypeId->List D->Prop):List Field->List D->Prop
 | [],ds=>ds=[]
 | f :: fs,ds=>∃a b,ds=a++b/\T f.type a/\l5 T fs b
def Xb(T:List D->Prop):Nat->List D->Prop
 | 0,ds=>ds=[]
 | k+1,ds=>∃a b,ds=a++b/\T a/\Xb T k b
def dU(P:Program):Nat->TypeId->List D->Prop
 | 0,_,_=>False
 | n+1,t,ds=>match P.underlying t with
  | some .bool=>∃b,ds=[.bool b]
  | some (.int k)=>∃m,ds=[.int k m]/\(Lit.int k m).wf=true
  | some .string=>∃s,ds=[.str s]/\s.length<=maxLen
  | some (.slice e)=>∃xs,ds=[.sl (jV P e) xs]/\xs.length<=maxLen/\∀x∈xs,∃es,dU P n e es/\x=mB (vz P e) es
  | some (.struct fs)=>l5 (dU P n) fs.toList ds
  | some (.array k e)=>Xb (dU P n e) k ds
  | _=>False
theorem D.Cs_append{F:Nat->Prop}{w:World}:∀{as bs:List D} {cs ds:List Value},D.Cs F w as cs->D.Cs F w bs ds->D.Cs F w (as++bs) (cs++ds)
 | [],bs,cs,ds,h,k=>by simp only[D.Cs]at h;subst h;simpa using k
 | a :: as,bs,cs,ds,h,k=>by
  simp only[D.Cs]at h
  obtain⟨c,cs',rfl,h1,h2,h3⟩:=h
  simp only[List.cons_append,D.Cs]
  exact⟨c,_,rfl,h1,h2,D.Cs_append h3 k⟩
section
variable {H:Type} {enc:TypeId×Value->H} {P:Program} {w:World} {base:Nat} {spare:Nat->Bool} {yO:Bool}
theorem xB{F:Nat->Prop}{n m:Nat}
  (ih:∀(t:TypeId) (cs:List Value) (x:DataW H×List MemPlace),eW P m t=true->DataW.trod enc P w base spare yO n t cs=some x->∃ds,dU P m t ds/\D.Cs F w ds cs)
  {cs:List Value}:∀(fs:List Field) (o:Nat) {xs:List (DataW H×List MemPlace)},iS P o fs=true->fs.all (fun f=>eW P m f.type)=true->cs.length=o+gq P fs ->
   (fs.mapM fun f=>DataW.trod enc P w base spare yO n f.type ((cs.drop f.offset).take (P.cellsOf f.type)))=some xs->∃ds,l5 (dU P m) fs ds/\D.Cs F w ds (cs.drop o)
 | [],o,xs,_,_,hl,_=>by
  refine⟨[],rfl,?_⟩
  simp only[gq]at hl
  rw[List.drop_of_length_le (by omega)]
  simp only[D.Cs]
 | f :: fs,o,xs,hlaid,cO,hl,hm=>by
  simp only[iS,Bool.and_eq_true,beq_iff_eq]at hlaid
  simp only[List.all_cons,Bool.and_eq_true]at cO
  simp only[gq]at hl
  rw[List.mapM_cons]at hm
  cases hf:DataW.trod enc P w base spare yO n f.type ((cs.drop f.offset).take (P.cellsOf f.type)) with
  | none=>rw[hf]at hm;simp at hm
  | some y =>
   rw[hf]at hm
   cases hr:(fs.mapM fun f=>DataW.trod enc P w base spare yO n f.type ((cs.drop f.offset).take (P.cellsOf f.type))) with
   | none=>rw[hr]at hm;simp at hm
   | some ys =>
    obtain⟨a,ha1,ha2⟩:=ih _ _ _ cO.1 hf
    obtain⟨b,hb1,hb2⟩:=xB ih fs (o+P.cellsOf f.type) hlaid.2 cO.2 (by omega) hr
    refine⟨a++b,⟨a,b,rfl,ha1,hb1⟩,?_⟩
    have:=D.Cs_append ha2 hb2
    rw[hlaid.1,← List.drop_drop,List.take_append_drop]at this
    exact this
theorem D4{F:Nat->Prop}{n m k e:Nat}
  (ih:∀(t:TypeId) (cs:List Value) (x:DataW H×List MemPlace),eW P m t=true->DataW.trod enc P w base spare yO n t cs=some x->∃ds,dU P m t ds/\D.Cs F w ds cs)
  {cs:List Value} (he:eW P m e=true) (hl:cs.length=k*P.cellsOf e)
  (hm:∀i,i<k->∃y,DataW.trod enc P w base spare yO n e ((cs.drop (i*P.cellsOf e)).take (P.cellsOf e))=some y) :
  ∀r i,i+r=k->∃ds,Xb (dU P m e) r ds/\D.Cs F w ds (cs.drop (i*P.cellsOf e))
 | 0,i,hi=>by
  have:i=k:=by omega
  subst this
  refine⟨[],rfl,?_⟩
  rw[List.drop_of_length_le (by omega)]
  simp only[D.Cs]
 | r+1,i,hi=>by
  obtain⟨y,hy⟩:=hm i (by omega)
  obtain⟨a,ha1,ha2⟩:=ih _ _ _ he hy
  obtain⟨b,hb1,hb2⟩:=D4 ih he hl hm r (i+1) (by omega)
  refine⟨a++b,⟨a,b,rfl,ha1,hb1⟩,?_⟩
  have:=D.Cs_append ha2 hb2
  rw[Nat.succ_mul,← List.drop_drop,List.take_append_drop]at this
  exact this
theorem AC{a:Addr}{v:Value}(h:w.cell? a=some v):a.block<w.heap.size:=by
 unfold World.cell? at h
 split at h
 ·rename_i c t f he
  exact(Array.getElem?_eq_some_iff.1 he).1
 ·cases h
theorem Bl{a:Addr}{n:Nat}{cs:List Value}(h:w.cells? base a n=some cs):cs.length=n/\∀j,j<n->w.cell? (a.add j)=cs[j]?:=by
 unfold World.cells? at h
 split at h
 ·obtain⟨h1,h2⟩:=lD h
  refine⟨h1,fun j hj=>?_⟩
  obtain⟨y,hy,hf⟩:=h2 j hj
  rw[hy,hf]
 ·cases h
theorem KW(a:Addr)(hs:a.spot=none)(i j:Nat):(a.add i).add j=⟨a.block,a.off+i+j,none⟩:=by
 obtain⟨b,o,s⟩:=a
 simp only at hs
 subst hs
 unfold Addr.add
 split <;> split <;> simp_all
theorem qZ{t:TypeId}(h:vz P t=false){m:Nat}{ds:List D}(hd:dU P m t ds):∃d,ds=[d]:=by
 cases m with
 | zero=>exact hd.elim
 | succ m =>
  unfold vz at h
  unfold dU at hd
  split at hd
  ·obtain⟨b,rfl⟩:=hd;exact⟨_,rfl⟩
  ·obtain⟨b,rfl,_⟩:=hd;exact⟨_,rfl⟩
  ·obtain⟨b,rfl,_⟩:=hd;exact⟨_,rfl⟩
  ·obtain⟨b,rfl,_⟩:=hd;exact⟨_,rfl⟩
  ·rename_i hu;rw[hu]at h;cases h
  ·rename_i hu;rw[hu]at h;cases h
  ·exact hd.elim
theorem IN{F:Nat->Prop}(hF:∀b,b<w.heap.size->F b):∀(n m:Nat) (t:TypeId) (cs:List Value) (x:DataW H×List MemPlace),eW P m t=true ->
  DataW.trod enc P w base spare yO n t cs=some x->∃ds,dU P m t ds/\D.Cs F w ds cs
 | 0,m,t,cs,x,_,h=>by simp[DataW.trod]at h
 | n+1,0,t,cs,x,hp,h=>by simp[eW]at hp
 | n+1,m+1,t,cs,x,hp,h=>by
  have ih':∀(t:TypeId) (cs:List Value) (x:DataW H×List MemPlace),eW P m t=true->DataW.trod enc P w base spare yO n t cs=some x->∃ds,dU P m t ds/\D.Cs F w ds cs :=
   fun t cs x hp h=>IN hF n m t cs x hp h
  unfold eW at hp
  unfold DataW.trod at h
  unfold dU
  cases hu:P.underlying t with
  | none=>rw[hu]at hp;cases hp
  | some u =>
   rw[hu]at hp h
   cases u with
   | bool =>
    simp only at h ⊢
    split at h <;> first|cases h|skip
    all_goals simp_all only[reduceCtorEq,Option.some.injEq,TypeDesc.int.injEq]
    rename_i b
    exact⟨[.bool b],⟨b,rfl⟩,by simp only[D.Cs];exact⟨_,[],rfl,rfl,by simp only[D.C],rfl⟩⟩
   | int k =>
    simp only at h ⊢
    split at h <;> first|cases h|skip
    all_goals simp_all only[reduceCtorEq,Option.some.injEq,TypeDesc.int.injEq]
    rename_i k0 k' n' _
    split at h
    ·rename_i hk
     obtain⟨rfl,hw⟩:=hk
     exact⟨[.int k' n'],⟨n',rfl,hw⟩,by simp only[D.Cs];exact⟨_,[],rfl,rfl,by simp only[D.C];exact⟨trivial,hw⟩,rfl⟩⟩
    ·cases h
   | string =>
    simp only at h ⊢
    split at h <;> first|cases h|skip
    all_goals simp_all only[reduceCtorEq,Option.some.injEq,TypeDesc.int.injEq]
    rename_i s
    split at h
    ·rename_i hk
     exact⟨[.str s.data.toList],⟨_,rfl,by simpa using hk⟩,by simp only[D.Cs];exact⟨_,[],rfl,rfl,by simp only[D.C];exact⟨by simp,by simpa using hk⟩,rfl⟩⟩
    ·cases h
   | slice e =>
    simp only[Bool.and_eq_true,decide_eq_true_eq]at hp
    simp only at h ⊢
    split at h <;> first|cases h|skip
    all_goals simp_all only[reduceCtorEq,Option.some.injEq,TypeDesc.slice.injEq]
    ·exact⟨[.sl (jV P _) []],⟨[],rfl,Nat.zero_le _,by simp⟩,by simp only[D.Cs];exact⟨_,[],rfl,rfl,by simp only[D.C];exact⟨none,0,rfl,by simp,Nat.zero_le _,.inl trivial⟩,rfl⟩⟩
    ·rename_i a len cap he
     subst he
     split at h
     ·rename_i hb
      obtain⟨hb1,hb2,hb3⟩:=hb
      rw[Option.bind_eq_some_iff]at h
      obtain⟨elems,hel,_⟩:=h
      obtain⟨hlen,jt⟩:=lD hel
      have each:∀i,i<len->∃es cs,dU P m e es/\D.Cs F w es cs/\cs.length=P.cellsOf e/\(∀j,j<P.cellsOf e->w.cell? ((a.add (i*P.cellsOf e)).add j)=cs[j]?):=by
       intro i hi
       obtain⟨y,_,hy⟩:=jt i hi
       rw[Option.bind_eq_some_iff]at hy
       obtain⟨cs,hc,ht⟩:=hy
       obtain⟨c1,c2⟩:=Bl hc
       obtain⟨es,t1,t2⟩:=ih' _ _ _ hp.1 ht
       exact⟨es,cs,t1,t2,c1,c2⟩
      have hx:∃xs:List D,xs.length=len/\∀i,i<len->∃es cs,dU P m e es/\D.Cs F w es cs/\cs.length=P.cellsOf e/\(∀j,j<P.cellsOf e->w.cell? ((a.add (i*P.cellsOf e)).add j)=cs[j]?)/\xs[i]?=some (mB (vz P e) es):=by
       classical
       refine⟨(List.range len).map fun i=>if hi:i<len then mB (vz P e) (Classical.choose (each i hi)) else default,by simp,fun i hi=>?_⟩
       obtain⟨cs,q⟩:=Classical.choose_spec (each i hi)
       refine⟨Classical.choose (each i hi),cs,q.1,q.2.1,q.2.2.1,q.2.2.2,?_⟩
       rw[List.getElem?_map,List.getElem?_range hi]
       simp only[Option.map_some,hi,dif_pos]
      obtain⟨xs,hxl,hxe⟩:=hx
      refine⟨[.sl (jV P e) xs],⟨xs,rfl,by omega,?_⟩,?_⟩
      ·intro x hx
       obtain⟨i,hi,rfl⟩:=List.getElem_of_mem hx
       obtain⟨es,cs,q1,_,_,_,q2⟩:=hxe i (by omega)
       rw[List.getElem?_eq_getElem hi]at q2
       exact⟨es,q1,Option.some.inj q2⟩
      ·simp only[D.Cs]
       refine⟨_,[],rfl,rfl,?_,rfl⟩
       simp only[D.C]
       refine⟨some a,cap,by rw[hxl],by omega,hb3,?_⟩
       by_cases h0:len=0
       ·left
        exact List.eq_nil_of_length_eq_zero (by omega)
       ·right
        obtain⟨es,cs,_,_,q3,q4,_⟩:=hxe 0 (by omega)
        have hc0:=q4 0 hp.2
        rw[List.getElem?_eq_getElem (by omega)]at hc0
        have ha:a.spot=none:=by
         have:=World.cell?_spot hc0
         simpa [Addr.add] using this
        have hlt:=AC hc0
        have EG:((a.add (0*P.cellsOf e)).add 0).block=a.block:=by simp[Addr.add]
        rw[EG]at hlt
        obtain⟨b,off,s⟩:=a
        simp only at ha
        subst ha
        refine⟨b,off,rfl,hF b hlt,?_⟩
        refine D.Cr_of_get _ _ _ _ fun i d hd=>?_
        have hi:i<len:=by rw[← hxl];exact(List.getElem?_eq_some_iff.1 hd).1
        obtain⟨es,cs,t1,t2,t3,t4,t5⟩:=hxe i hi
        rw[hd]at t5
        cases t5
        have bN:∀j,j<P.cellsOf e->w.cell? ⟨b,off+i*P.cellsOf e+j,none⟩=cs[j]?:=fun j hj=>by
         rw[← t4 j hj,KW _ rfl]
        by_cases hag:vz P e=true
        ·refine⟨cs,?_,?_,?_,?_⟩
         ·simp[jV,hag,Go.AM.es,t3]
         ·simpa [jV,hag,Go.AM.es] using bN
         ·simp[jV,hag,mB,D.isAgg]
         ·simp only[mB,hag,if_true,D.C];exact t2
        ·have yP:vz P e=false:=by simpa using hag
         obtain⟨d,rfl⟩:=qZ yP t1
         simp only[D.Cs]at t2
         obtain⟨c,cs',rfl,g1,g2,rfl⟩:=t2
         have EF:P.cellsOf e=1:=by simpa using t3.symm
         rw[EF]at bN
         refine⟨[c],?_,?_,?_,?_⟩
         ·simp[jV,yP,Go.AM.es]
         ·simpa [jV,yP,Go.AM.es] using bN
         ·simp[jV,yP,mB,g1]
         ·simpa [mB,yP] using g2
     ·cases h
   | struct fs =>
    simp only[Bool.and_eq_true,beq_iff_eq]at hp
    simp only at h ⊢
    split at h <;> first|cases h|skip
    all_goals simp_all only[reduceCtorEq,Option.some.injEq,TypeDesc.struct.injEq]
    rename_i hl
    rw[Option.map_eq_some_iff]at h
    obtain⟨xs,hxs,_⟩:=h
    obtain⟨ds,h1,h2⟩:=xB ih' fs.toList 0 hp.1.1 hp.1.2 (by omega) hxs
    exact⟨ds,h1,by simpa using h2⟩
   | array k e =>
    simp only[Bool.and_eq_true,beq_iff_eq]at hp
    simp only at h ⊢
    split at h <;> first|cases h|skip
    all_goals simp_all only[reduceCtorEq,Option.some.injEq,TypeDesc.array.injEq]
    rename_i hl
    rw[Option.map_eq_some_iff]at h
    obtain⟨xs,hxs,_⟩:=h
    obtain⟨_,hg⟩:=lD hxs
    obtain⟨ds,h1,h2⟩:=D4 (e:=e) ih' hp.1 hl (fun i hi=>by obtain⟨y,_,hy⟩:=hg i hi;exact⟨y,hy⟩) k 0 (by omega)
    exact⟨ds,h1,by simpa using h2⟩
   | _=>cases hp
end
def Ev(P:Program)(m:Nat)(t:TypeId)(d:D):Prop:=∃ds,dU P m t ds/\d=mB (vz P t) ds
def Be(P:Program)(m:Nat):List TypeId->List D->Prop
 | [],ds=>ds=[]
 | t :: ts,ds=>∃d ds',ds=d :: ds'/\Ev P m t d/\Be P m ts ds'
section
variable {H:Type} {enc:TypeId×Value->H} {P:Program} {w:World} {base:Nat} {spare:Nat->Bool} {yO:Bool}
theorem Wv{F:Nat->Prop}(hF:∀b,b<w.heap.size->F b){m:Nat}{t:TypeId}{v:Value}{d:DataW H}{ps:List MemPlace}{r:Reach}{base':Nat}(hp:eW P m t=true)
  (hok:Value.okWide P w r base' t v) (h:DataW.Trod enc P w base spare yO t v d ps):∃x,Ev P m t x/\D.R F w x v:=by
 obtain⟨n,hn⟩:=h
 obtain⟨ds,h1,h2⟩:=IN hF n m t _ _ hp hn
 refine⟨_,⟨ds,h1,rfl⟩,?_⟩
 by_cases hag:vz P t=true
 ·have hv:∃cs,v=.agg cs:=by
   unfold vz at hag
   unfold Value.okWide at hok
   split at hag
   ·rename_i hu
    rw[hu]at hok
    obtain⟨cs,hc,_⟩:=hok
    exact⟨cs,hc⟩
   ·rename_i hu
    rw[hu]at hok
    obtain⟨cs,hc,_⟩:=hok
    exact⟨cs,hc⟩
   ·cases hag
  obtain⟨cs,rfl⟩:=hv
  simp only[mB,hag,if_true]
  exact⟨cs.toList,by simp,by simpa [Value.cells] using h2⟩
 ·have yP:vz P t=false:=by simpa using hag
  obtain⟨x,rfl⟩:=qZ yP h1
  have hc:v.cells=#[v]:=by
   cases m with
   | zero=>simp[eW]at hp
   | succ m =>
    unfold eW at hp
    split at hp
    ·rename_i hu;obtain⟨b,rfl⟩:=okWide_bool hu hok;rfl
    ·rename_i hu;obtain⟨b,rfl⟩:=okWide_int hu hok;rfl
    ·rename_i hu;obtain⟨b,rfl⟩:=okWide_string hu hok;rfl
    ·rename_i hu;obtain⟨_,_,_,rfl⟩:=okWide_slice hu hok;rfl
    ·rename_i hu;unfold vz at yP;rw[hu]at yP;cases yP
    ·rename_i hu;unfold vz at yP;rw[hu]at yP;cases yP
    ·cases hp
  rw[hc]at h2
  simp only[D.Cs]at h2
  obtain⟨c,cs',e,g1,g2,rfl⟩:=h2
  simp only[List.cons.injEq,and_true]at e
  subst e
  simp only[mB,yP,Bool.false_eq_true,if_false,List.headD_cons]
  exact(D.R_plain g1).2 g2
theorem Ia{F:Nat->Prop}(hF:∀b,b<w.heap.size->F b){m:Nat}{r:Reach}{base':Nat}:∀(ts:List TypeId) (vs:List Value) (ds:List (DataW H)) (ps:List MemPlace),ts.all (eW P m)=true ->
  (∀(j:Nat) t v,ts[j]?=some t->vs[j]?=some v->Value.okWide P w r base' t v)->DataW.TrodAll enc P w base spare yO ts vs ds ps->∃xs,Be P m ts xs/\AV.Rs F (fun _=>none) w (xs.map .dat) vs
 | [],vs,ds,ps,_,_,h=>by
  obtain⟨rfl,_,_⟩:=trodAll_nil h
  exact⟨[],rfl,by simp only[List.map_nil,AV.Rs]⟩
 | t :: ts,vs,ds,ps,hp,hok,h=>by
  obtain⟨v,vs',d,ds',p,q,rfl,rfl,rfl,h1,h2⟩:=trodAll_cons h
  simp only[List.all_cons,Bool.and_eq_true]at hp
  obtain⟨x,x1,x2⟩:=Wv hF hp.1 (hok 0 t v rfl rfl) h1
  obtain⟨xs,y1,y2⟩:=Ia hF ts vs' ds' q hp.2 (fun j t v ht hv=>hok (j+1) t v (by simpa using ht) (by simpa using hv)) h2
  refine⟨x :: xs,⟨x,xs,rfl,x1,y1⟩,?_⟩
  simp only[List.map_cons,AV.Rs]
  exact⟨v,vs',rfl,by simp only[AV.R];exact x2,y2⟩
theorem kq(hl:laidOutB P=true){w':World}(hb:Below w.heap.size w w'):∀(ts:List TypeId) (vs:List Value) (ds:List (DataW H)) (ps:List MemPlace),(∀t∈ts,P.readableRec t=true/\t<P.types.size)->(∀x∈ps,x.block<w.heap.size) ->
  DataW.TrodAll enc P w 0 (fun _=>true) true ts vs ds ps->DataW.TrodAll enc P w' 0 (fun b=>decide (b<w.heap.size)) true ts vs ds ps
 | [],vs,ds,ps,_,_,h=>by
  obtain⟨rfl,rfl,rfl⟩:=trodAll_nil h
  exact trodAll_mk0
 | t :: ts,vs,ds,ps,hr,hlt,h=>by
  obtain⟨v,vs',d,ds',p,q,rfl,rfl,rfl,h1,h2⟩:=trodAll_cons h
  exact trodAll_cons_mk (Below.trod hl (hr t (by simp)).1 (hr t (by simp)).2 h1 hb (fun x hx=>hlt x (by simp[hx]))) (kq hl hb ts vs' ds' q (fun t ht=>hr t (by simp[ht])) (fun x hx=>hlt x (by simp[hx])) h2)
theorem qA:∀(ts:List TypeId) (vs:List Value) (ds:List (DataW H)) (ps:List MemPlace),DataW.TrodAll enc P w 0 spare yO ts vs ds ps->∀x∈ps,x.block<w.heap.size
 | [],vs,ds,ps,h=>by
  obtain⟨rfl,rfl,rfl⟩:=trodAll_nil h
  simp
 | t :: ts,vs,ds,ps,h=>by
  obtain⟨v,vs',d,ds',p,q,rfl,rfl,rfl,⟨n,h1⟩,h2⟩:=trodAll_cons h
  intro x hx
  rcases List.mem_append.1 hx with hx|hx
  ·exact DataW.trod_lt n _ _ _ h1 x hx
  ·exact qA ts vs' ds' q h2 x hx
end
def JB(P:Program)(f:Nat)(m:Nat)(ts:List TypeId):Prop:=∀xs,Be P m ts xs->∃R,OkF P f (au R)/\R xs (.dat (.bool true))
theorem kC(own:List Obj):∀xs:List D,qX own (xs.map .dat)=some xs
 | []=>rfl
 | x :: xs=>by simp only[List.map_cons,qX,AV.asD,kC own xs,Option.bind_some,Option.map_some]
theorem C3{P:Program}{f m:Nat}{ts:List TypeId}(YS:JB P f m ts){F:Nat->Prop}{w:World}(hF:∀b,F b↔b<w.heap.size)(hg:GlobOk F w){xs:List D}{vs:List Value}(ht:Be P m ts xs)
  (hv:AV.Rs F (fun _=>none) w (xs.map .dat) vs):Calls P f vs.toArray w fun e w'=>e=.returned (.bool true)/\Below w.heap.size w w':=by
 obtain⟨R,hok,hR⟩:=YS xs ht
 have hc:Conc F (fun _=>none) [] w:=⟨fun b hb=>(hF b).1 hb,(fun o L h=>by cases h),(fun o o' L L' h=>by cases h),(fun o obj h=>by simp at h),fun _ _=>rfl,hg⟩
 have hC:au R (xs.map .dat) [] (.dat (.bool true)) [] []:=⟨xs,kC _ _,hR,rfl,rfl,.inr rfl⟩
 refine((hok _ _ _ _ _ hC).2 F _ w vs hc hv).mono ?_
 rintro e w' ⟨r,F',φ',rfl,ha,hr⟩
 have:r=.bool true:=by simpa only[AV.R,D.R,D.C,List.cons.injEq,and_true] using hr
 subst this
 exact⟨rfl,ha.ext.os,ha.ext.tape,ha.ext.output,ha.ext.size,fun k hk=>ha.ext.same k ((hF k).2 hk)⟩
section
variable {P:Program} {m:Nat} {t e:TypeId} {ds:List D}
theorem qM(hu:P.underlying t=some .bool):dU P (m+1) t ds=∃b,ds=[.bool b]:=by unfold dU;rw[hu]
theorem nO{k:IntKind}(hu:P.underlying t=some (.int k)):dU P (m+1) t ds=∃n,ds=[.int k n]/\(Lit.int k n).wf=true:=by unfold dU;rw[hu]
theorem pr(hu:P.underlying t=some .string):dU P (m+1) t ds=∃s,ds=[.str s]/\s.length<=maxLen:=by unfold dU;rw[hu]
theorem gN(hu:P.underlying t=some (.slice e)):dU P (m+1) t ds=∃xs,ds=[.sl (jV P e) xs]/\xs.length<=maxLen/\∀x∈xs,Ev P m e x:=by unfold dU;rw[hu];rfl
theorem uX{fs:Array Field}(hu:P.underlying t=some (.struct fs)):dU P (m+1) t ds=l5 (dU P m) fs.toList ds:=by unfold dU;rw[hu]
theorem Kq{x:D}(hu:P.underlying t=some .string)(h:Ev P (m+1) t x):∃s,x=.str s/\s.length<=maxLen:=by
 obtain⟨ds,h1,rfl⟩:=h
 rw[pr hu]at h1
 obtain⟨b,rfl,h2⟩:=h1
 exact⟨b,by simp[mB,vz,hu],h2⟩
theorem yX{x:D}{fs:Array Field}(hu:P.underlying t=some (.struct fs))(h:Ev P (m+1) t x):∃ds,x=.agg ds/\l5 (dU P m) fs.toList ds:=by
 obtain⟨ds,h1,rfl⟩:=h
 rw[uX hu]at h1
 exact⟨ds,by simp[mB,vz,hu],h1⟩
def o6(P:Program)(t:TypeId):Option (List TypeId):=match P.underlying t with|some (.struct fs)=>some (fs.toList.map (·.type))|_=>none
def wG(T:TypeId->List D->Prop):List TypeId->List D->Prop
 | [],ds=>ds=[]
 | f :: fs,ds=>∃a b,ds=a++b/\T f a/\wG T fs b
theorem uM{T:TypeId->List D->Prop}:∀{fs:List Field} {ds:List D},l5 T fs ds->wG T (fs.map (·.type)) ds
 | [],_,h=>h
 | f :: fs,_,⟨a,b,h1,h2,h3⟩=>⟨a,b,h1,h2,uM h3⟩
theorem iT{x:D}{ts:List TypeId}(hu:o6 P t=some ts)(h:Ev P (m+1) t x):∃ds,x=.agg ds/\wG (dU P m) ts ds:=by
 unfold o6 at hu
 split at hu
 ·rename_i fs e
  cases hu
  obtain⟨ds,h1,h2⟩:=yX e h
  exact⟨ds,h1,uM h2⟩
 ·cases hu
theorem rO{α:Type}{xs:List D}(f:α->D){Q:α->Prop}(h:∀x∈xs,∃a,x=f a/\Q a):∃l:List α,xs=l.map f/\∀a∈l,Q a:=by
 induction xs with
 | nil=>exact⟨[],rfl,by simp⟩
 | cons x xs ih =>
  obtain⟨a,rfl,ha⟩:=h x (by simp)
  obtain⟨l,rfl,hl⟩:=ih fun y hy=>h y (by simp[hy])
  exact⟨a :: l,rfl,fun b hb=>by rcases List.mem_cons.1 hb with rfl|hb <;> first|exact ha|exact hl b hb⟩
end
end Go.AM
namespace Go.AM
open Go
theorem xa{F:Nat->Prop}{φ:Nat->Option Loc}{w:World}:∀{cs:List AV} {vs:List Value},AV.Ra F φ w cs vs->AV.Ra F φ w (cs.map AV.norm1) vs
 | [],_,h=>by simpa only[List.map_nil,AV.Ra] using h
 | c :: cs,_,h=>by
  simp only[AV.Ra]at h
  obtain⟨v,vs,rfl,h0,h1,h2⟩:=h
  simp only[List.map_cons,AV.Ra]
  exact⟨v,vs,rfl,h0,vV h1,xa h2⟩
theorem yV{s:List AV}{own:List Obj}{n0:Nat}{mv:List Nat}(o:Nat){cs:List AV}(ho:own[o]?=some (.vec cs)):Le ⟨s,own,n0,mv⟩ ⟨s,own.set o (.vec (cs.map AV.norm1)),n0,mv⟩:=by
 rintro c a w ⟨hd,hn,F,φ,h2,h3,h4⟩
 refine⟨hd,hn,F,φ,h2,⟨h3.fb,h3.live,h3.inj,fun o' obj ho'=>?_,fun o' ho'=>h3.out o' (by simpa using ho'),h3.glob⟩,h4⟩
 simp only at ho'
 rw[List.getElem?_set]at ho'
 by_cases e:o=o'
 ·subst e
  split at ho'
  ·split at ho'
   ·cases ho'
    have hr:=h3.rep o _ ho
    cases hl:φ o with
    | none=>rw[hl]at hr;simp only[ObjR]at hr
    | some L =>
     rw[hl]at hr
     simp only[ObjR]at hr ⊢
     obtain⟨q1,q2⟩:=hr
     refine⟨q1,?_⟩
     rcases q2 with⟨q2,q3⟩|⟨q2,arr,ty,q3,q4,q5,vs,q6,q7⟩
     ·subst q3;exact .inl ⟨q2,rfl⟩
     ·exact .inr ⟨q2,arr,ty,q3,q4,by simpa using q5,vs,xa q6,by simpa using q7⟩
   ·cases ho'
  ·rename_i hh;exact(hh rfl).elim
 ·simp only[e,if_false]at ho'
  exact h3.rep o' obj ho'
theorem gz{s:List AV}{own:List Obj}{n0:Nat}{mv:List Nat}(o:Nat){cs:List AV}{ds:List D}(ho:own[o]?=some (.vec cs))(hcs:cs.map AV.norm1=ds.map .dat)(h0:n0<=o) :
  Le ⟨s,own,n0,mv⟩ ⟨AV.frzs o none ds s,((own.set o (.row none ds)).map (Obj.frz o none ds)).set o .dead,n0,mv⟩:=by
 have hlt:o<own.length:=by
  rcases Nat.lt_or_ge o own.length with h|h
  ·exact h
  ·rw[List.getElem?_eq_none h]at ho;cases ho
 refine Le.trans (yV o ho) ?_
 rw[hcs]
 refine Le.trans (ES (xs:=ds) o (by rw[List.getElem?_set];simp[hlt])) ?_
 rw[List.set_set]
 exact aq o (by rw[List.getElem?_set];simp[hlt]) h0
def Obj.allUnder(n:Nat):List Obj->Prop
 | []=>True
 | x :: l=>x.under n/\Obj.allUnder n l
theorem Obj.allUnder_mem{n:Nat}:∀{l:List Obj},Obj.allUnder n l->∀x∈l,x.under n
 | [],_,x,hx=>by simp at hx
 | y :: l,h,x,hx=>by
  rcases List.mem_cons.1 hx with rfl|hx
  ·exact h.1
  ·exact Obj.allUnder_mem h.2 x hx
theorem aP{s s':List AV}{own ex:List Obj}{n0:Nat}{mv:List Nat}(h0:n0<=own.length)(hl:bZ s s')(hs:AV.unders own.length s')(ho:Obj.allUnder own.length own):Le ⟨s,own++ex,n0,mv⟩ ⟨s',own,n0,mv⟩ :=
 Le.trans (a7 hl) (gf h0 hs (Obj.allUnder_mem ho))
attribute [go_sem] Obj.allUnder Nat.le_refl
section
variable {P:Program} {Γ:Nat->a8} {all:Array Oper} {Q:Exit->S->Prop} {i ob:Nat} {r ms:List Nat} {s:List AV} {own:List Obj} {n:Nat} {m:List Nat}
@[go_sem] theorem Rv:bl P Γ all Q (i :: r) ⟨s,own,n,m⟩=(match all[i]? with|some o=>opg P Γ all o (bl P Γ all Q r) ⟨s,own,n,m⟩|none=>False):=Eq.trans rfl rfl
@[go_sem] theorem Ob:bh P Γ all ob ms Q [] ⟨s,own,n,m⟩=Q .normal ⟨s,own,n,m⟩:=Eq.trans rfl rfl
@[go_sem] theorem OL:bh P Γ all ob ms Q (i :: r) ⟨s,own,n,m⟩=(match all[i]? with|some o=>((ms.contains i=true->cA ob o s)/\opg P Γ all o (bh P Γ all ob ms Q r) ⟨s,own,n,m⟩)|none=>False):=Eq.trans rfl rfl
end
end Go.AM
namespace Go.AM
open Go
def gd{α:Type}(b:Bool)(x:Option α):Option α:=match b with|true=>x|false=>none
section
variable {P:Program}
end
def u5{α:Type}(n:Nat)(K:Nat->α):α:=match n with|0=>K 0|m+1=>K (m+1)
theorem eU{α:Type}(n:Nat)(K:Nat->α):u5 n K=K n:=by cases n <;> rfl
def Xy{α:Type}(n:Int)(K:Int->α):α:=match n with|.ofNat m=>u5 m fun m=>K (.ofNat m)|.negSucc m=>u5 m fun m=>K (.negSucc m)
theorem Kt{α:Type}(n:Int)(K:Int->α):Xy n K=K n:=by cases n <;> simp only[Xy,eU]
def Rt{α:Type}(b:Bool)(K:Bool->α):α:=match b with|true=>K true|false=>K false
theorem H3{α:Type}(b:Bool)(K:Bool->α):Rt b K=K b:=by cases b <;> rfl
def QH{α:Type}(k:IntKind)(K:IntKind->α):α:=match k with|.i8=>K .i8|.i16=>K .i16|.i32=>K .i32|.i64=>K .i64|.u8=>K .u8|.u16=>K .u16|.u32=>K .u32|.u64=>K .u64
theorem GA{α:Type}(k:IntKind)(K:IntKind->α):QH k K=K k:=by cases k <;> rfl
def V6{α:Type}(n:Option Nat)(K:Option Nat->α):α:=match n with|none=>K none|some m=>u5 m fun m=>K (some m)
theorem Bn{α:Type}(n:Option Nat)(K:Option Nat->α):V6 n K=K n:=by cases n <;> simp only[V6,eU]
def o9{α β:Type}:List β->(List β->α)->α
 | [],K=>K []
 | x :: xs,K=>o9 xs fun xs=>K (x :: xs)
theorem iw{α β:Type}:∀(l:List β) (K:List β->α),o9 l K=K l
 | [],K=>rfl
 | x :: xs,K=>by rw[o9,iw xs]
mutual
def D.force{α:Type}:D->(D->α)->α
 | .int k n,K=>QH k fun k=>Xy n fun n=>K (.int k n)
 | .bool b,K=>Rt b fun b=>K (.bool b)
 | .str s,K=>o9 s fun s=>K (.str s)
 | .sl ag xs,K=>V6 ag fun ag=>D.forces xs fun xs=>K (.sl ag xs)
 | .agg ds,K=>D.forces ds fun ds=>K (.agg ds)
def D.forces{α:Type}:List D->(List D->α)->α
 | [],K=>K []
 | d :: ds,K=>D.force d fun d=>D.forces ds fun ds=>K (d :: ds)
end
mutual
theorem D.force_eq{α:Type}:∀(d:D) (K:D->α),D.force d K=K d
 | .int k n,K=>by rw[D.force,GA,Kt]
 | .bool b,K=>by rw[D.force,H3]
 | .str s,K=>by rw[D.force,iw]
 | .sl ag xs,K=>by rw[D.force,Bn,D.forces_eq xs]
 | .agg ds,K=>by rw[D.force,D.forces_eq ds]
theorem D.forces_eq{α:Type}:∀(ds:List D) (K:List D->α),D.forces ds K=K ds
 | [],K=>by rw[D.forces]
 | d :: ds,K=>by rw[D.forces,D.force_eq d,D.forces_eq ds]
end
mutual
def AV.force{α:Type}:AV->(AV->α)->α
 | .dat d,K=>D.force d fun d=>K (.dat d)
 | .sl o i j,K=>u5 o fun o=>u5 i fun i=>u5 j fun j=>K (.sl o i j)
 | .ptr o i j,K=>u5 o fun o=>u5 i fun i=>u5 j fun j=>K (.ptr o i j)
 | .rptr ag d,K=>V6 ag fun ag=>D.force d fun d=>K (.rptr ag d)
 | .agg vs,K=>AV.forces vs fun vs=>K (.agg vs)
 | .tup vs,K=>AV.forces vs fun vs=>K (.tup vs)
 | .map o,K=>u5 o fun o=>K (.map o)
 | .yld o,K=>u5 o fun o=>K (.yld o)
 | .fn f vs,K=>u5 f fun f=>AV.forces vs fun vs=>K (.fn f vs)
 | .nils,K=>K .nils
 | .nilm,K=>K .nilm
 | .top,K=>K .top
def AV.forces{α:Type}:List AV->(List AV->α)->α
 | [],K=>K []
 | d :: ds,K=>AV.force d fun d=>AV.forces ds fun ds=>K (d :: ds)
end
mutual
theorem AV.force_eq{α:Type}:∀(v:AV) (K:AV->α),AV.force v K=K v
 | .dat d,K=>by rw[AV.force,D.force_eq]
 | .sl o i j,K=>by rw[AV.force,eU,eU,eU]
 | .ptr o i j,K=>by rw[AV.force,eU,eU,eU]
 | .rptr ag d,K=>by rw[AV.force,Bn,D.force_eq]
 | .agg vs,K=>by rw[AV.force,AV.forces_eq vs]
 | .tup vs,K=>by rw[AV.force,AV.forces_eq vs]
 | .map o,K=>by rw[AV.force,eU]
 | .yld o,K=>by rw[AV.force,eU]
 | .fn f vs,K=>by rw[AV.force,eU,AV.forces_eq vs]
 | .nils,K=>by rw[AV.force]
 | .nilm,K=>by rw[AV.force]
 | .top,K=>by rw[AV.force]
theorem AV.forces_eq{α:Type}:∀(vs:List AV) (K:List AV->α),AV.forces vs K=K vs
 | [],K=>by rw[AV.forces]
 | d :: ds,K=>by rw[AV.forces,AV.force_eq d,AV.forces_eq ds]
end
def Obj.shal{α:Type}(x:Obj)(K:Obj->α):α :=
 match x with
 | .row ag xs=>D.forces xs fun xs=>K (.row ag xs)
 | .vec cs=>AV.forces cs fun cs=>K (.vec cs)
 | .tab k cs=>AV.forces cs fun cs=>K (.tab k cs)
 | .box cs=>AV.forces cs fun cs=>K (.box cs)
 | .lp r cs=>AV.forces cs fun cs=>K (.lp r cs)
 | .bld T u cs=>AV.forces cs fun cs=>K (.bld T u cs)
 | .map m=>o9 m fun m=>K (.map m)
 | .brow e bs=>K (.brow e bs)
 | .dead=>K .dead
theorem Obj.shal_eq{α:Type}(x:Obj)(K:Obj->α):x.shal K=K x:=by cases x <;> simp only[Obj.shal,D.forces_eq,AV.forces_eq,iw]
def Obj.shals{α:Type}:List Obj->(List Obj->α)->α
 | [],K=>K []
 | x :: xs,K=>x.shal fun x=>Obj.shals xs fun xs=>K (x :: xs)
theorem Obj.shals_eq{α:Type}:∀(l:List Obj) (K:List Obj->α),Obj.shals l K=K l
 | [],K=>rfl
 | x :: xs,K=>by rw[Obj.shals,Obj.shal_eq,Obj.shals_eq xs]
def S.force{α:Type}(σ:S)(K:S->α):α:=o9 σ.slots fun s=>Obj.shals σ.own fun own=>u5 σ.n0 fun n0=>o9 σ.mv fun mv=>K ⟨s,own,n0,mv⟩
theorem S.force_eq{α:Type}(σ:S)(K:S->α):σ.force K=K σ:=by
 unfold S.force
 rw[iw,Obj.shals_eq,eU,iw]
section
variable {P:Program}
end
theorem OA{s:List AV}{own:List Obj}{mv:List Nat}:Le ⟨s,own,0,mv⟩ ⟨s,own,0,[]⟩:=by
 rintro c a w ⟨hd,hn,F,φ,h2,h3,h4⟩
 exact⟨hd,hn,F,φ,{ h2 with keep:=fun o L hlt _ _=>by rw[← hn]at hlt;simp at hlt },h3,h4⟩
def WG:AV->Option D|.dat d=>some d|_=>none
def J4:List AV->Option (List D)
 | []=>some []
 | v :: vs=>match WG v,J4 vs with|some d,some ds=>some (d :: ds)|_,_=>none
def S.frz(o:Nat)(σ:S):S :=
 match σ.own[o]? with
 | some (.row ag xs)=>⟨AV.frzs o ag xs σ.slots,(σ.own.map (Obj.frz o ag xs)).set o .dead,σ.n0,bW σ.n0 σ.mv [o]⟩
 | some (.vec cs)=>(match J4 (cs.map AV.norm1) with
  | some ds=>⟨AV.frzs o none ds σ.slots,(((σ.own.set o (.vec (ds.map .dat))).set o (.row none ds)).map (Obj.frz o none ds)).set o .dead,σ.n0,bW σ.n0 σ.mv [o]⟩
  | none=>σ)
 | _=>σ
def S.frzL:List Nat->S->S
 | [],σ=>σ
 | o :: os,σ=>S.frzL os (σ.frz o)
def AV.rowRefs:AV->List Nat
 | .sl o _ _=>[o]
 | .agg vs=>AV.rowRefsL vs
 | _=>[]
where
 AV.rowRefsL:List AV->List Nat
  | []=>[]
  | .sl o _ _ :: vs=>o :: AV.rowRefsL vs
  | _ :: vs=>AV.rowRefsL vs
section
variable {P:Program}
def Oper.callee(o:Oper):List Nat:=match o.op with|.call c=>(match c.callee with|.value (.func g)=>[g]|_=>[])|_=>[]
def ya(own:List Obj):Nat->AV->List Nat
 | 0,_=>[]
 | n+1,v=>(v.rowRefs.map fun o=>(match own.getD o .dead with|.vec cs=>(cs.map (ya own n)).flatten++[o]|.row _ _=>[o]|_=>[])).flatten
variable {rec:Code->S->Option (Exit×S)}
end
end Go.AM

