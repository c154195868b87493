/- Own work over the model of the kit. -/
import Derived.Test.YtddnngfkgpbemaaE4
import Derived.WalkKit
import Derived.ProofKit
import Derived.OpenShut
import Derived.ShutString
import Derived.ChangeOld
import Derived.Below
set_option linter.unnecessarySimpa false
set_option linter.unusedSimpArgs false
set_option linter.unusedVariables false
namespace Go.AM
open Go Go.ChangeShapes Go.WideShapes Go.ChangeAt Go.RowKit
theorem mapM_some{α β:Type}{f:α->Option β}:∀{l:List α} {r:List β},l.mapM f=some r->r.length=l.length/\∀(i:Nat) (x:α),l[i]?=some x->∃y,r[i]?=some y/\f x=some y
 | [],r,h=>by simp at h;subst h;simp
 | a :: l,r,h=>by
  rw[List.mapM_cons]at h
  cases ha:f a with
  | none=>rw[ha]at h;simp at h
  | some y =>
   rw[ha]at h
   cases hl:l.mapM f with
   | none=>rw[hl]at h;simp at h
   | some ys =>
    rw[hl]at h
    simp at h
    subst h
    obtain⟨h1,h2⟩:=mapM_some hl
    refine⟨by simp[h1],fun i x hx=>?_⟩
    cases i with
    | zero=>simp at hx;subst hx;exact⟨y,rfl,ha⟩
    | succ i=>simpa using h2 i x (by simpa using hx)
theorem mapM_range{β:Type}{f:Nat->Option β}{n:Nat}{r:List β}(h:(List.range n).mapM f=some r):r.length=n/\∀i,i<n->∃y,r[i]?=some y/\f i=some y:=by
 obtain⟨h1,h2⟩:=mapM_some h
 refine⟨by simpa using h1,fun i hi=>h2 i i (List.getElem?_range hi)⟩
def fieldsLaid(P:Program):Nat->List Field->Bool
 | _,[]=>true
 | o,f :: fs=>f.offset == o && fieldsLaid P (o+P.cellsOf f.type) fs
def fieldsSize(P:Program):List Field->Nat
 | []=>0
 | f :: fs=>P.cellsOf f.type+fieldsSize P fs
def plainT(P:Program):Nat->TypeId->Bool
 | 0,_=>false
 | n+1,t=>match P.underlying t with
  | some .bool=>true
  | some (.int _)=>true
  | some .string=>true
  | some (.slice e)=>plainT P n e && decide (0<P.cellsOf e)
  | some (.struct fs)=>fieldsLaid P 0 fs.toList && fs.toList.all (fun f=>plainT P n f.type) && P.cellsOf t == fieldsSize P fs.toList
  | some (.array k e)=>plainT P n e && P.cellsOf t == k*P.cellsOf e
  | _=>false
def aggT(P:Program)(t:TypeId):Bool:=match P.underlying t with|some (.struct _)=>true|some (.array _ _)=>true|_=>false
def wantT(P:Program)(t:TypeId):Option Nat:=if aggT P t then some (P.cellsOf t) else none
def packD(ag:Bool)(es:List D):D:=if ag then .agg es else es.headD default
def fieldsT(T:TypeId->List D->Prop):List Field->List D->Prop
 | [],ds=>ds=[]
 | f :: fs,ds=>∃a b,ds=a++b/\T f.type a/\fieldsT T fs b
def repT(T:List D->Prop):Nat->List D->Prop
 | 0,ds=>ds=[]
 | k+1,ds=>∃a b,ds=a++b/\T a/\repT T k b
def dataT(P:Program):Nat->TypeId->List D->Prop
 | 0,_,_=>False
 | n+1,t,ds=>match P.underlying t with
  | some .bool=>∃b,ds=[.bool b]
  | some (.int k)=>∃m,ds=[.int k m]/\(Lit.int k m).wf=true
  | some .string=>∃s,ds=[.str s]/\s.length<=maxLen
  | some (.slice e)=>∃xs,ds=[.sl (wantT P e) xs]/\xs.length<=maxLen/\∀x∈xs,∃es,dataT P n e es/\x=packD (aggT P e) es
  | some (.struct fs)=>fieldsT (dataT P n) fs.toList ds
  | some (.array k e)=>repT (dataT P n e) k ds
  | _=>False
theorem D.Cs_append{F:Nat->Prop}{w:World}:∀{as bs:List D} {cs ds:List Value},D.Cs F w as cs->D.Cs F w bs ds->D.Cs F w (as++bs) (cs++ds)
 | [],bs,cs,ds,h,k=>by simp only[D.Cs]at h;subst h;simpa using k
 | a :: as,bs,cs,ds,h,k=>by
  simp only[D.Cs]at h
  obtain⟨c,cs',rfl,h1,h2,h3⟩:=h
  simp only[List.cons_append,D.Cs]
  exact⟨c,_,rfl,h1,h2,D.Cs_append h3 k⟩
section
variable {H:Type} {enc:TypeId×Value->H} {P:Program} {w:World} {base:Nat} {spare:Nat->Bool} {held:Bool}
theorem fields_D{F:Nat->Prop}{n m:Nat}
  (ih:∀(t:TypeId) (cs:List Value) (x:DataW H×List MemPlace),plainT P m t=true->DataW.trod enc P w base spare held n t cs=some x->∃ds,dataT P m t ds/\D.Cs F w ds cs)
  {cs:List Value}:∀(fs:List Field) (o:Nat) {xs:List (DataW H×List MemPlace)},fieldsLaid P o fs=true->fs.all (fun f=>plainT P m f.type)=true->cs.length=o+fieldsSize P fs ->
   (fs.mapM fun f=>DataW.trod enc P w base spare held n f.type ((cs.drop f.offset).take (P.cellsOf f.type)))=some xs->∃ds,fieldsT (dataT P m) fs ds/\D.Cs F w ds (cs.drop o)
 | [],o,xs,_,_,hl,_=>by
  refine⟨[],rfl,?_⟩
  simp only[fieldsSize]at hl
  rw[List.drop_of_length_le (by omega)]
  simp only[D.Cs]
 | f :: fs,o,xs,hlaid,hall,hl,hm=>by
  simp only[fieldsLaid,Bool.and_eq_true,beq_iff_eq]at hlaid
  simp only[List.all_cons,Bool.and_eq_true]at hall
  simp only[fieldsSize]at hl
  rw[List.mapM_cons]at hm
  cases hf:DataW.trod enc P w base spare held n f.type ((cs.drop f.offset).take (P.cellsOf f.type)) with
  | none=>rw[hf]at hm;simp at hm
  | some y =>
   rw[hf]at hm
   cases hr:(fs.mapM fun f=>DataW.trod enc P w base spare held n f.type ((cs.drop f.offset).take (P.cellsOf f.type))) with
   | none=>rw[hr]at hm;simp at hm
   | some ys =>
    obtain⟨a,ha1,ha2⟩:=ih _ _ _ hall.1 hf
    obtain⟨b,hb1,hb2⟩:=fields_D ih fs (o+P.cellsOf f.type) hlaid.2 hall.2 (by omega) hr
    refine⟨a++b,⟨a,b,rfl,ha1,hb1⟩,?_⟩
    have:=D.Cs_append ha2 hb2
    rw[hlaid.1,← List.drop_drop,List.take_append_drop]at this
    exact this
theorem array_D{F:Nat->Prop}{n m k e:Nat}
  (ih:∀(t:TypeId) (cs:List Value) (x:DataW H×List MemPlace),plainT P m t=true->DataW.trod enc P w base spare held n t cs=some x->∃ds,dataT P m t ds/\D.Cs F w ds cs)
  {cs:List Value} (he:plainT P m e=true) (hl:cs.length=k*P.cellsOf e)
  (hm:∀i,i<k->∃y,DataW.trod enc P w base spare held n e ((cs.drop (i*P.cellsOf e)).take (P.cellsOf e))=some y) :
  ∀r i,i+r=k->∃ds,repT (dataT P m e) r ds/\D.Cs F w ds (cs.drop (i*P.cellsOf e))
 | 0,i,hi=>by
  have:i=k:=by omega
  subst this
  refine⟨[],rfl,?_⟩
  rw[List.drop_of_length_le (by omega)]
  simp only[D.Cs]
 | r+1,i,hi=>by
  obtain⟨y,hy⟩:=hm i (by omega)
  obtain⟨a,ha1,ha2⟩:=ih _ _ _ he hy
  obtain⟨b,hb1,hb2⟩:=array_D ih he hl hm r (i+1) (by omega)
  refine⟨a++b,⟨a,b,rfl,ha1,hb1⟩,?_⟩
  have:=D.Cs_append ha2 hb2
  rw[Nat.succ_mul,← List.drop_drop,List.take_append_drop]at this
  exact this
theorem cell_lt{a:Addr}{v:Value}(h:w.cell? a=some v):a.block<w.heap.size:=by
 unfold World.cell? at h
 split at h
 ·rename_i c t f he
  exact(Array.getElem?_eq_some_iff.1 he).1
 ·cases h
theorem cells_get{a:Addr}{n:Nat}{cs:List Value}(h:w.cells? base a n=some cs):cs.length=n/\∀j,j<n->w.cell? (a.add j)=cs[j]?:=by
 unfold World.cells? at h
 split at h
 ·obtain⟨h1,h2⟩:=mapM_range h
  refine⟨h1,fun j hj=>?_⟩
  obtain⟨y,hy,hf⟩:=h2 j hj
  rw[hy,hf]
 ·cases h
theorem add_add(a:Addr)(hs:a.spot=none)(i j:Nat):(a.add i).add j=⟨a.block,a.off+i+j,none⟩:=by
 obtain⟨b,o,s⟩:=a
 simp only at hs
 subst hs
 unfold Addr.add
 split <;> split <;> simp_all
theorem aggT_false{t:TypeId}(h:aggT P t=false){m:Nat}{ds:List D}(hd:dataT P m t ds):∃d,ds=[d]:=by
 cases m with
 | zero=>exact hd.elim
 | succ m =>
  unfold aggT at h
  unfold dataT at hd
  split at hd
  ·obtain⟨b,rfl⟩:=hd;exact⟨_,rfl⟩
  ·obtain⟨b,rfl,_⟩:=hd;exact⟨_,rfl⟩
  ·obtain⟨b,rfl,_⟩:=hd;exact⟨_,rfl⟩
  ·obtain⟨b,rfl,_⟩:=hd;exact⟨_,rfl⟩
  ·rename_i hu;rw[hu]at h;cases h
  ·rename_i hu;rw[hu]at h;cases h
  ·exact hd.elim
theorem trod_D{F:Nat->Prop}(hF:∀b,b<w.heap.size->F b):∀(n m:Nat) (t:TypeId) (cs:List Value) (x:DataW H×List MemPlace),plainT P m t=true ->
  DataW.trod enc P w base spare held n t cs=some x->∃ds,dataT P m t ds/\D.Cs F w ds cs
 | 0,m,t,cs,x,_,h=>by simp[DataW.trod]at h
 | n+1,0,t,cs,x,hp,h=>by simp[plainT]at hp
 | n+1,m+1,t,cs,x,hp,h=>by
  have ih':∀(t:TypeId) (cs:List Value) (x:DataW H×List MemPlace),plainT P m t=true->DataW.trod enc P w base spare held n t cs=some x->∃ds,dataT P m t ds/\D.Cs F w ds cs :=
   fun t cs x hp h=>trod_D hF n m t cs x hp h
  unfold plainT at hp
  unfold DataW.trod at h
  unfold dataT
  cases hu:P.underlying t with
  | none=>rw[hu]at hp;cases hp
  | some u =>
   rw[hu]at hp h
   cases u with
   | bool =>
    simp only at h ⊢
    split at h <;> first|cases h|skip
    all_goals simp_all only[reduceCtorEq,Option.some.injEq,TypeDesc.int.injEq]
    rename_i b
    exact⟨[.bool b],⟨b,rfl⟩,by simp only[D.Cs];exact⟨_,[],rfl,rfl,by simp only[D.C],rfl⟩⟩
   | int k =>
    simp only at h ⊢
    split at h <;> first|cases h|skip
    all_goals simp_all only[reduceCtorEq,Option.some.injEq,TypeDesc.int.injEq]
    rename_i k0 k' n' _
    split at h
    ·rename_i hk
     obtain⟨rfl,hw⟩:=hk
     exact⟨[.int k' n'],⟨n',rfl,hw⟩,by simp only[D.Cs];exact⟨_,[],rfl,rfl,by simp only[D.C];exact⟨trivial,hw⟩,rfl⟩⟩
    ·cases h
   | string =>
    simp only at h ⊢
    split at h <;> first|cases h|skip
    all_goals simp_all only[reduceCtorEq,Option.some.injEq,TypeDesc.int.injEq]
    rename_i s
    split at h
    ·rename_i hk
     exact⟨[.str s.data.toList],⟨_,rfl,by simpa using hk⟩,by simp only[D.Cs];exact⟨_,[],rfl,rfl,by simp only[D.C];exact⟨by simp,by simpa using hk⟩,rfl⟩⟩
    ·cases h
   | slice e =>
    simp only[Bool.and_eq_true,decide_eq_true_eq]at hp
    simp only at h ⊢
    split at h <;> first|cases h|skip
    all_goals simp_all only[reduceCtorEq,Option.some.injEq,TypeDesc.slice.injEq]
    ·exact⟨[.sl (wantT P _) []],⟨[],rfl,Nat.zero_le _,by simp⟩,by simp only[D.Cs];exact⟨_,[],rfl,rfl,by simp only[D.C];exact⟨none,0,rfl,by simp,Nat.zero_le _,.inl trivial⟩,rfl⟩⟩
    ·rename_i a len cap he
     subst he
     split at h
     ·rename_i hb
      obtain⟨hb1,hb2,hb3⟩:=hb
      rw[Option.bind_eq_some_iff]at h
      obtain⟨elems,hel,_⟩:=h
      obtain⟨hlen,hget⟩:=mapM_range hel
      have each:∀i,i<len->∃es cs,dataT P m e es/\D.Cs F w es cs/\cs.length=P.cellsOf e/\(∀j,j<P.cellsOf e->w.cell? ((a.add (i*P.cellsOf e)).add j)=cs[j]?):=by
       intro i hi
       obtain⟨y,_,hy⟩:=hget i hi
       rw[Option.bind_eq_some_iff]at hy
       obtain⟨cs,hc,ht⟩:=hy
       obtain⟨c1,c2⟩:=cells_get hc
       obtain⟨es,t1,t2⟩:=ih' _ _ _ hp.1 ht
       exact⟨es,cs,t1,t2,c1,c2⟩
      have hx:∃xs:List D,xs.length=len/\∀i,i<len->∃es cs,dataT P m e es/\D.Cs F w es cs/\cs.length=P.cellsOf e/\(∀j,j<P.cellsOf e->w.cell? ((a.add (i*P.cellsOf e)).add j)=cs[j]?)/\xs[i]?=some (packD (aggT P e) es):=by
       classical
       refine⟨(List.range len).map fun i=>if hi:i<len then packD (aggT P e) (Classical.choose (each i hi)) else default,by simp,fun i hi=>?_⟩
       obtain⟨cs,q⟩:=Classical.choose_spec (each i hi)
       refine⟨Classical.choose (each i hi),cs,q.1,q.2.1,q.2.2.1,q.2.2.2,?_⟩
       rw[List.getElem?_map,List.getElem?_range hi]
       simp only[Option.map_some,hi,dif_pos]
      obtain⟨xs,hxl,hxe⟩:=hx
      refine⟨[.sl (wantT P e) xs],⟨xs,rfl,by omega,?_⟩,?_⟩
      ·intro x hx
       obtain⟨i,hi,rfl⟩:=List.getElem_of_mem hx
       obtain⟨es,cs,q1,_,_,_,q2⟩:=hxe i (by omega)
       rw[List.getElem?_eq_getElem hi]at q2
       exact⟨es,q1,Option.some.inj q2⟩
      ·simp only[D.Cs]
       refine⟨_,[],rfl,rfl,?_,rfl⟩
       simp only[D.C]
       refine⟨some a,cap,by rw[hxl],by omega,hb3,?_⟩
       by_cases h0:len=0
       ·left
        exact List.eq_nil_of_length_eq_zero (by omega)
       ·right
        obtain⟨es,cs,_,_,q3,q4,_⟩:=hxe 0 (by omega)
        have hc0:=q4 0 hp.2
        rw[List.getElem?_eq_getElem (by omega)]at hc0
        have ha:a.spot=none:=by
         have:=World.cell?_spot hc0
         simpa [Addr.add] using this
        have hlt:=cell_lt hc0
        have hblk:((a.add (0*P.cellsOf e)).add 0).block=a.block:=by simp[Addr.add]
        rw[hblk]at hlt
        obtain⟨b,off,s⟩:=a
        simp only at ha
        subst ha
        refine⟨b,off,rfl,hF b hlt,?_⟩
        refine D.Cr_of_get _ _ _ _ fun i d hd=>?_
        have hi:i<len:=by rw[← hxl];exact(List.getElem?_eq_some_iff.1 hd).1
        obtain⟨es,cs,t1,t2,t3,t4,t5⟩:=hxe i hi
        rw[hd]at t5
        cases t5
        have hcells:∀j,j<P.cellsOf e->w.cell? ⟨b,off+i*P.cellsOf e+j,none⟩=cs[j]?:=fun j hj=>by
         rw[← t4 j hj,add_add _ rfl]
        by_cases hag:aggT P e=true
        ·refine⟨cs,?_,?_,?_,?_⟩
         ·simp[wantT,hag,Go.AM.es,t3]
         ·simpa [wantT,hag,Go.AM.es] using hcells
         ·simp[wantT,hag,packD,D.isAgg]
         ·simp only[packD,hag,if_true,D.C];exact t2
        ·have hag':aggT P e=false:=by simpa using hag
         obtain⟨d,rfl⟩:=aggT_false hag' t1
         simp only[D.Cs]at t2
         obtain⟨c,cs',rfl,g1,g2,rfl⟩:=t2
         have hone:P.cellsOf e=1:=by simpa using t3.symm
         rw[hone]at hcells
         refine⟨[c],?_,?_,?_,?_⟩
         ·simp[wantT,hag',Go.AM.es]
         ·simpa [wantT,hag',Go.AM.es] using hcells
         ·simp[wantT,hag',packD,g1]
         ·simpa [packD,hag'] using g2
     ·cases h
   | struct fs =>
    simp only[Bool.and_eq_true,beq_iff_eq]at hp
    simp only at h ⊢
    split at h <;> first|cases h|skip
    all_goals simp_all only[reduceCtorEq,Option.some.injEq,TypeDesc.struct.injEq]
    rename_i hl
    rw[Option.map_eq_some_iff]at h
    obtain⟨xs,hxs,_⟩:=h
    obtain⟨ds,h1,h2⟩:=fields_D ih' fs.toList 0 hp.1.1 hp.1.2 (by omega) hxs
    exact⟨ds,h1,by simpa using h2⟩
   | array k e =>
    simp only[Bool.and_eq_true,beq_iff_eq]at hp
    simp only at h ⊢
    split at h <;> first|cases h|skip
    all_goals simp_all only[reduceCtorEq,Option.some.injEq,TypeDesc.array.injEq]
    rename_i hl
    rw[Option.map_eq_some_iff]at h
    obtain⟨xs,hxs,_⟩:=h
    obtain⟨_,hg⟩:=mapM_range hxs
    obtain⟨ds,h1,h2⟩:=array_D (e:=e) ih' hp.1 hl (fun i hi=>by obtain⟨y,_,hy⟩:=hg i hi;exact⟨y,hy⟩) k 0 (by omega)
    exact⟨ds,h1,by simpa using h2⟩
   | _=>cases hp
end
end Go.AM
namespace Go.AM
open Go Go.ChangeShapes Go.WideShapes Go.ChangeAt Go.RowKit
def argT(P:Program)(m:Nat)(t:TypeId)(d:D):Prop:=∃ds,dataT P m t ds/\d=packD (aggT P t) ds
def argsT(P:Program)(m:Nat):List TypeId->List D->Prop
 | [],ds=>ds=[]
 | t :: ts,ds=>∃d ds',ds=d :: ds'/\argT P m t d/\argsT P m ts ds'
section
variable {H:Type} {enc:TypeId×Value->H} {P:Program} {w:World} {base:Nat} {spare:Nat->Bool} {held:Bool}
theorem arg_D{F:Nat->Prop}(hF:∀b,b<w.heap.size->F b){m:Nat}{t:TypeId}{v:Value}{d:DataW H}{ps:List MemPlace}{r:Reach}{base':Nat}(hp:plainT P m t=true)
  (hok:Value.okWide P w r base' t v) (h:DataW.Trod enc P w base spare held t v d ps):∃x,argT P m t x/\D.R F w x v:=by
 obtain⟨n,hn⟩:=h
 obtain⟨ds,h1,h2⟩:=trod_D hF n m t _ _ hp hn
 refine⟨_,⟨ds,h1,rfl⟩,?_⟩
 by_cases hag:aggT P t=true
 ·have hv:∃cs,v=.agg cs:=by
   unfold aggT at hag
   unfold Value.okWide at hok
   split at hag
   ·rename_i hu
    rw[hu]at hok
    obtain⟨cs,hc,_⟩:=hok
    exact⟨cs,hc⟩
   ·rename_i hu
    rw[hu]at hok
    obtain⟨cs,hc,_⟩:=hok
    exact⟨cs,hc⟩
   ·cases hag
  obtain⟨cs,rfl⟩:=hv
  simp only[packD,hag,if_true]
  exact⟨cs.toList,by simp,by simpa [Value.cells] using h2⟩
 ·have hag':aggT P t=false:=by simpa using hag
  obtain⟨x,rfl⟩:=aggT_false hag' h1
  have hc:v.cells=#[v]:=by
   cases m with
   | zero=>simp[plainT]at hp
   | succ m =>
    unfold plainT at hp
    split at hp
    ·rename_i hu;obtain⟨b,rfl⟩:=okWide_bool hu hok;rfl
    ·rename_i hu;obtain⟨b,rfl⟩:=okWide_int hu hok;rfl
    ·rename_i hu;obtain⟨b,rfl⟩:=okWide_string hu hok;rfl
    ·rename_i hu;obtain⟨_,_,_,rfl⟩:=okWide_slice hu hok;rfl
    ·rename_i hu;unfold aggT at hag';rw[hu]at hag';cases hag'
    ·rename_i hu;unfold aggT at hag';rw[hu]at hag';cases hag'
    ·cases hp
  rw[hc]at h2
  simp only[D.Cs]at h2
  obtain⟨c,cs',e,g1,g2,rfl⟩:=h2
  simp only[List.cons.injEq,and_true]at e
  subst e
  simp only[packD,hag',Bool.false_eq_true,if_false,List.headD_cons]
  exact(D.R_plain g1).2 g2
theorem args_D{F:Nat->Prop}(hF:∀b,b<w.heap.size->F b){m:Nat}{r:Reach}{base':Nat}:∀(ts:List TypeId) (vs:List Value) (ds:List (DataW H)) (ps:List MemPlace),ts.all (plainT P m)=true ->
  (∀(j:Nat) t v,ts[j]?=some t->vs[j]?=some v->Value.okWide P w r base' t v)->DataW.TrodAll enc P w base spare held ts vs ds ps->∃xs,argsT P m ts xs/\AV.Rs F (fun _=>none) w (xs.map .dat) vs
 | [],vs,ds,ps,_,_,h=>by
  obtain⟨rfl,_,_⟩:=trodAll_nil h
  exact⟨[],rfl,by simp only[List.map_nil,AV.Rs]⟩
 | t :: ts,vs,ds,ps,hp,hok,h=>by
  obtain⟨v,vs',d,ds',p,q,rfl,rfl,rfl,h1,h2⟩:=trodAll_cons h
  simp only[List.all_cons,Bool.and_eq_true]at hp
  obtain⟨x,x1,x2⟩:=arg_D hF hp.1 (hok 0 t v rfl rfl) h1
  obtain⟨xs,y1,y2⟩:=args_D hF ts vs' ds' q hp.2 (fun j t v ht hv=>hok (j+1) t v (by simpa using ht) (by simpa using hv)) h2
  refine⟨x :: xs,⟨x,xs,rfl,x1,y1⟩,?_⟩
  simp only[List.map_cons,AV.Rs]
  exact⟨v,vs',rfl,by simp only[AV.R];exact x2,y2⟩
theorem trodAll_below(hl:laidOutB P=true){w':World}(hb:Below w.heap.size w w'):∀(ts:List TypeId) (vs:List Value) (ds:List (DataW H)) (ps:List MemPlace),(∀t∈ts,P.readableRec t=true/\t<P.types.size)->(∀x∈ps,x.block<w.heap.size) ->
  DataW.TrodAll enc P w 0 (fun _=>true) true ts vs ds ps->DataW.TrodAll enc P w' 0 (fun b=>decide (b<w.heap.size)) true ts vs ds ps
 | [],vs,ds,ps,_,_,h=>by
  obtain⟨rfl,rfl,rfl⟩:=trodAll_nil h
  exact trodAll_mk0
 | t :: ts,vs,ds,ps,hr,hlt,h=>by
  obtain⟨v,vs',d,ds',p,q,rfl,rfl,rfl,h1,h2⟩:=trodAll_cons h
  exact trodAll_cons_mk (Below.trod hl (hr t (by simp)).1 (hr t (by simp)).2 h1 hb (fun x hx=>hlt x (by simp[hx]))) (trodAll_below hl hb ts vs' ds' q (fun t ht=>hr t (by simp[ht])) (fun x hx=>hlt x (by simp[hx])) h2)
theorem trodAll_lt:∀(ts:List TypeId) (vs:List Value) (ds:List (DataW H)) (ps:List MemPlace),DataW.TrodAll enc P w 0 spare held ts vs ds ps->∀x∈ps,x.block<w.heap.size
 | [],vs,ds,ps,h=>by
  obtain⟨rfl,rfl,rfl⟩:=trodAll_nil h
  simp
 | t :: ts,vs,ds,ps,h=>by
  obtain⟨v,vs',d,ds',p,q,rfl,rfl,rfl,⟨n,h1⟩,h2⟩:=trodAll_cons h
  intro x hx
  rcases List.mem_append.1 hx with hx|hx
  ·exact DataW.trod_lt n _ _ _ h1 x hx
  ·exact trodAll_lt ts vs' ds' q h2 x hx
end
def LawAt(P:Program)(f:Nat)(m:Nat)(ts:List TypeId):Prop:=∀xs,argsT P m ts xs->∃R,OkF P f (dataC R)/\R xs (.dat (.bool true))
theorem asDL_dats(own:List Obj):∀xs:List D,asDL own (xs.map .dat)=some xs
 | []=>rfl
 | x :: xs=>by simp only[List.map_cons,asDL,AV.asD,asDL_dats own xs,Option.bind_some,Option.map_some]
theorem law_calls{P:Program}{f m:Nat}{ts:List TypeId}(hlaw:LawAt P f m ts){F:Nat->Prop}{w:World}(hF:∀b,F b↔b<w.heap.size)(hg:GlobOk F w){xs:List D}{vs:List Value}(ht:argsT P m ts xs)
  (hv:AV.Rs F (fun _=>none) w (xs.map .dat) vs):Calls P f vs.toArray w fun e w'=>e=.returned (.bool true)/\Below w.heap.size w w':=by
 obtain⟨R,hok,hR⟩:=hlaw xs ht
 have hc:Conc F (fun _=>none) [] w:=⟨fun b hb=>(hF b).1 hb,(fun o L h=>by cases h),(fun o o' L L' h=>by cases h),(fun o obj h=>by simp at h),fun _ _=>rfl,hg⟩
 have hC:dataC R (xs.map .dat) [] (.dat (.bool true)) [] []:=⟨xs,asDL_dats _ _,hR,rfl,rfl,.inr rfl⟩
 refine((hok _ _ _ _ _ hC).2 F _ w vs hc hv).mono ?_
 rintro e w' ⟨r,F',φ',rfl,ha,hr⟩
 have:r=.bool true:=by simpa only[AV.R,D.R,D.C,List.cons.injEq,and_true] using hr
 subst this
 exact⟨rfl,ha.ext.os,ha.ext.tape,ha.ext.output,ha.ext.size,fun k hk=>ha.ext.same k ((hF k).2 hk)⟩
theorem law_lifted{C:Checked}{os:Os}{f:FuncId}{fn:Func}{s:ChangeSpec}{H:Type}{enc:TypeId×Value->H}(m:Nat)(own:ownKnob C.prog.godebug=none)(started:os.Started)
  (noInit:C.prog.inits.idxOf? f=none) (hfn:C.prog.funcs[f]?=some fn) (tb:TypeId) (hres:fn.resultTypes.toList=[tb]) (hsz:fn.resultTypes.size=1) (htb:C.prog.underlying tb=some .bool) (hvars:s.vars=[])
  (laidOut:laidOutB C.prog=true) (hread:fn.params.toList.all (fun t=>C.prog.readableRec t && decide (t<C.prog.types.size))=true) (hplain:fn.params.toList.all (plainT C.prog m)=true)
  (hspec:∀(H:Type) (ds:List (DataW H)),ds.length=fn.params.toList.length->s.fn H ds={ results:=[.lit (.bool true)],args:=ds })
  (hlaw:LawAt C.prog f m fn.params.toList) (hglob:∀F w,GlobOk F w)
  (witness:∃(w:World) (tape:Tape) (i:Input),w.os=os/\(w.forCall tape i).Shaped C.prog/\i.vars=[]/\Input.okWide C.prog (w.forCall tape i) .any w.heap.size f i /\
   s.pre6 enc C.prog fn [] false (w.forCall tape i).memory i.args/\({}:Assume).holds C.prog (lone (Frame.enter C.prog f i.args .normal) [] (w.forCall tape i))) :
  ReturnsInHanded {} C os f .any (s.pre6 enc C.prog fn [] false) (s.post enc C.prog fn false true false false):=by
 refine returnsInHanded_of_change own started noInit hfn witness ?_
 intro W base args ds gs before hval hW hcnd _
 have hW':=hW
 obtain⟨p,q,hA,hV,rfl,hfz,hnd⟩:=hW
 rw[hvars]at hV
 obtain⟨rfl,rfl⟩:=trodVars_none hV
 have hlt:=trodAll_lt _ _ _ _ hA
 obtain⟨xs,hx1,hx2⟩:=args_D (F:=fun b=>b<W.heap.size) (fun b hb=>hb) fn.params.toList args.toList ds p hplain
  (fun j t v ht hv=>hval j t v (by simpa using ht) (by simpa using hv)) hA
 have hc:=law_calls hlaw (F:=fun b=>b<W.heap.size) (fun b=>Iff.rfl) (hglob _ _) hx1 hx2
 have hargs:args.toList.toArray=args:=by simp
 rw[hargs]at hc
 refine hc.mono ?_
 rintro e W' ⟨rfl,bel⟩
 have hlen:ds.length=fn.params.toList.length:=by
  have key:∀(ts:List TypeId) (vs:List Value) (ds:List (DataW H)) (ps:List MemPlace),DataW.TrodAll enc C.prog W 0 (fun _=>true) true ts vs ds ps->ds.length=ts.length:=by
   intro ts
   induction ts with
   | nil=>intro vs ds ps h;obtain⟨_,rfl,_⟩:=trodAll_nil h;rfl
   | cons t ts ih=>intro vs ds ps h;obtain⟨v,vs',d,ds',p,q,rfl,rfl,rfl,h1,h2⟩:=trodAll_cons h;simp[ih _ _ _ h2]
  exact key _ _ _ _ hA
 have hfn':s.fn H (ds++[])={ results:=[.lit (.bool true)],args:=ds }:=by rw[List.append_nil];exact hspec H ds hlen
 refine⟨_,rfl,ds,[],p++[],[],p,[],hW',?_,?_,?_,bel.frame _,fun h=>by cases h⟩
 ·rw[hfn',hres,hsz]
  exact trodAll_mk1 (shut_bool htb true)
 ·rw[hfn']
  exact trodAll_below laidOut bel _ _ _ _ (fun t ht=>by
   have:=List.all_eq_true.1 hread t ht
   simpa using this) hlt hA
 ·rw[hfn',hvars]
  rfl
section
variable {P:Program} {m:Nat} {t e:TypeId} {ds:List D}
theorem dataT_bool(hu:P.underlying t=some .bool):dataT P (m+1) t ds=∃b,ds=[.bool b]:=by unfold dataT;rw[hu]
theorem dataT_int{k:IntKind}(hu:P.underlying t=some (.int k)):dataT P (m+1) t ds=∃n,ds=[.int k n]/\(Lit.int k n).wf=true:=by unfold dataT;rw[hu]
theorem dataT_slice(hu:P.underlying t=some (.slice e)):dataT P (m+1) t ds=∃xs,ds=[.sl (wantT P e) xs]/\xs.length<=maxLen/\∀x∈xs,argT P m e x:=by unfold dataT;rw[hu];rfl
theorem dataT_struct{fs:Array Field}(hu:P.underlying t=some (.struct fs)):dataT P (m+1) t ds=fieldsT (dataT P m) fs.toList ds:=by unfold dataT;rw[hu]
theorem arg_int{x:D}{k:IntKind}(hu:P.underlying t=some (.int k))(h:argT P (m+1) t x):∃n,x=.int k n/\(Lit.int k n).wf=true:=by
 obtain⟨ds,h1,rfl⟩:=h
 rw[dataT_int hu]at h1
 obtain⟨b,rfl,h2⟩:=h1
 exact⟨b,by simp[packD,aggT,hu],h2⟩
theorem arg_slice{x:D}(hu:P.underlying t=some (.slice e))(h:argT P (m+1) t x):∃xs,x=.sl (wantT P e) xs/\xs.length<=maxLen/\∀x∈xs,argT P m e x:=by
 obtain⟨ds,h1,rfl⟩:=h
 rw[dataT_slice hu]at h1
 obtain⟨b,rfl,h2⟩:=h1
 exact⟨b,by simp[packD,aggT,hu],h2⟩
theorem arg_struct{x:D}{fs:Array Field}(hu:P.underlying t=some (.struct fs))(h:argT P (m+1) t x):∃ds,x=.agg ds/\fieldsT (dataT P m) fs.toList ds:=by
 obtain⟨ds,h1,rfl⟩:=h
 rw[dataT_struct hu]at h1
 exact⟨ds,by simp[packD,aggT,hu],h1⟩
def structTypes(P:Program)(t:TypeId):Option (List TypeId):=match P.underlying t with|some (.struct fs)=>some (fs.toList.map (·.type))|_=>none
def fieldsL(T:TypeId->List D->Prop):List TypeId->List D->Prop
 | [],ds=>ds=[]
 | f :: fs,ds=>∃a b,ds=a++b/\T f a/\fieldsL T fs b
theorem fieldsT_L{T:TypeId->List D->Prop}:∀{fs:List Field} {ds:List D},fieldsT T fs ds->fieldsL T (fs.map (·.type)) ds
 | [],_,h=>h
 | f :: fs,_,⟨a,b,h1,h2,h3⟩=>⟨a,b,h1,h2,fieldsT_L h3⟩
theorem arg_fields{x:D}{ts:List TypeId}(hu:structTypes P t=some ts)(h:argT P (m+1) t x):∃ds,x=.agg ds/\fieldsL (dataT P m) ts ds:=by
 unfold structTypes at hu
 split at hu
 ·rename_i fs e
  cases hu
  obtain⟨ds,h1,h2⟩:=arg_struct e h
  exact⟨ds,h1,fieldsT_L h2⟩
 ·cases hu
theorem list_of{α:Type}{xs:List D}(f:α->D){Q:α->Prop}(h:∀x∈xs,∃a,x=f a/\Q a):∃l:List α,xs=l.map f/\∀a∈l,Q a:=by
 induction xs with
 | nil=>exact⟨[],rfl,by simp⟩
 | cons x xs ih =>
  obtain⟨a,rfl,ha⟩:=h x (by simp)
  obtain⟨l,rfl,hl⟩:=ih fun y hy=>h y (by simp[hy])
  exact⟨a :: l,rfl,fun b hb=>by rcases List.mem_cons.1 hb with rfl|hb <;> first|exact ha|exact hl b hb⟩
end
end Go.AM
namespace Go.AM
open Go
theorem conc_freeze{F:Nat->Prop}{φ:Nat->Option Loc}{own:List Obj}{w:World}(h3:Conc F φ own w)(o:Nat){ag:Option Nat}{xs:List D}(ho:own[o]?=some (.row ag xs)) :
  ∃(F':Nat->Prop) (φ':Nat->Option Loc),(∀b,F b->F' b)/\Conc F' φ' ((own.map (Obj.frz o ag xs)).set o .dead) w/\(∀as vs,AV.Rs F φ w as vs->AV.Rs F' φ' w (AV.frzs o ag xs as) vs) /\
   (∀o' L',o'≠o->φ o'=some L'->φ' o'=some L')/\(∀o' L',φ' o'=some L'->φ o'=some L')/\(∀b,F' b->F b∨∃L,φ o=some L/\L.nil=false/\L.b=b):=by
 have hlt:o<own.length:=by
  rcases Nat.lt_or_ge o own.length with h|h
  ·exact h
  ·rw[List.getElem?_eq_none h]at ho;cases ho
 have hrep:=h3.rep o _ ho
 obtain⟨L,hL⟩:∃L,φ o=some L:=by
  cases hl:φ o with
  | none=>rw[hl]at hrep;simp only[ObjR]at hrep
  | some L=>exact⟨L,rfl⟩
 rw[hL]at hrep
 let F':Nat->Prop:=fun b=>F b∨(L.nil=false/\b=L.b)
 let φ':Nat->Option Loc:=fun i=>if i=o then none else φ i
 have hF:∀b,F b->F' b:=fun b hb=>.inl hb
 have hFL:L.nil=false->F' L.b:=fun hn=>.inr ⟨hn,rfl⟩
 have hφ:∀o' L',o'≠o->φ o'=some L'->φ' o'=some L':=fun o' L' hne h=>by simp only[φ',hne,if_false];exact h
 refine⟨F',φ',hF,?_,fun as vs h4=>AV.Rs_frz hF hφ hL hFL hrep _ _ h4,hφ,fun o' L' ho'=>?_,fun b hb=>?_⟩
 ·constructor
  ·intro b hb
   rcases hb with hb|⟨hn',rfl⟩
   ·exact h3.fb b hb
   ·exact(h3.live o L hL hn').2
  ·intro o' L' ho' hn'
   simp only[φ']at ho'
   split at ho'
   ·cases ho'
   ·rename_i hne
    refine⟨fun hF'=>?_,(h3.live o' L' ho' hn').2⟩
    rcases hF' with hF'|⟨hn2,hb⟩
    ·exact(h3.live o' L' ho' hn').1 hF'
    ·exact h3.inj o' o L' L ho' hL hn' hn2 hne hb
  ·intro o1 o2 L1 L2 h1 h2' n1 n2 hne
   simp only[φ']at h1 h2'
   split at h1 <;> split at h2' <;> first|exact h3.inj o1 o2 L1 L2 h1 h2' n1 n2 hne|cases h1|cases h2'
  ·intro o' obj ho'
   rw[List.getElem?_set]at ho'
   by_cases e:o=o'
   ·subst e
    simp only[if_true,List.length_map,hlt,Option.some.injEq]at ho'
    subst ho'
    simp only[φ',if_true,ObjR]
   ·simp only[e,if_false,List.getElem?_map,Option.map_eq_some_iff]at ho'
    obtain⟨ob,hob,rfl⟩:=ho'
    have hrep':=h3.rep o' ob hob
    simp only[φ',if_neg (fun e':o'=o=>e e'.symm)]
    cases hl:φ o' with
    | none=>rw[hl]at hrep';cases ob <;> simp only[ObjR,Obj.frz]at hrep' ⊢
    | some L' =>
     rw[hl]at hrep'
     cases ob with
     | vec cs =>
      simp only[ObjR,Obj.frz]at hrep' ⊢
      obtain⟨q1,q2⟩:=hrep'
      refine⟨q1,?_⟩
      have hl':(AV.frzs o ag xs cs).length=cs.length:=AV.frzs_length _
      rcases q2 with⟨q2,q3⟩|⟨q2,arr,ty,q3,q4,q5,vs,q6,q7⟩
      ·subst q3;exact .inl ⟨q2,rfl⟩
      ·exact .inr ⟨q2,arr,ty,q3,q4,by rw[hl'];exact q5,vs,AV.Ra_frz hF hφ hL hFL hrep _ _ q6,by rw[hl'];exact q7⟩
     | tab k0 cs =>
      simp only[ObjR,Obj.frz]at hrep' ⊢
      obtain⟨q1,q2⟩:=hrep'
      refine⟨q1,?_⟩
      have hl':(AV.frzs o ag xs cs).length=cs.length:=AV.frzs_length _
      rcases q2 with⟨q2,q3⟩|⟨q2,arr,ty,q3,q4,q5,vs,q6,q7⟩
      ·subst q3;exact .inl ⟨q2,rfl⟩
      ·exact .inr ⟨q2,arr,ty,q3,q4,by rw[hl'];exact q5,vs,AV.Ra_frz hF hφ hL hFL hrep _ _ q6,by rw[hl'];exact q7⟩
     | box cs =>
      simp only[ObjR,Obj.frz]at hrep' ⊢
      obtain⟨q1,q2,arr,ty,q3,q4,q5⟩:=hrep'
      exact⟨q1,q2,arr,ty,q3,q4,AV.Ra_frz hF hφ hL hFL hrep _ _ q5⟩
     | lp r0 cs =>
      simp only[ObjR,Obj.frz]at hrep' ⊢
      obtain⟨q1,q2,arr,ty,q3,q4,q5⟩:=hrep'
      exact⟨q1,q2,arr,ty,q3,q4,AV.Rs_frz hF hφ hL hFL hrep _ _ q5⟩
     | bld T0 u0 cs =>
      simp only[ObjR,Obj.frz]at hrep' ⊢
      obtain⟨q1,q2,arr,ty,q3,q4,q5⟩:=hrep'
      exact⟨q1,q2,arr,ty,q3,q4,AV.Rs_frz hF hφ hL hFL hrep _ _ q5⟩
     | row ag' xs' =>
      simp only[ObjR,Obj.frz]at hrep' ⊢
      obtain⟨q1,q2⟩:=hrep'
      refine⟨q1,?_⟩
      rcases q2 with q2|⟨q2,q3,q4,q5⟩
      ·exact .inl q2
      ·exact .inr ⟨q2,q3,q4,D.Cr_congr hF (Same.refl F w) ag' L'.b L'.b _ _ _ (fun _ _=>rfl) q5⟩
     | brow e0 bs0=>simpa only[ObjR,Obj.frz] using hrep'
     | map m =>
      simp only[ObjR,Obj.frz]at hrep' ⊢
      obtain⟨q1,es,clock,q3,q4⟩:=hrep'
      exact⟨q1,es,clock,q3,mapR_mono hF (Same.refl F w) _ _ q4⟩
     | dead=>simp only[ObjR,Obj.frz]
  ·intro o' ho'
   simp only[List.length_set,List.length_map]at ho'
   simp only[φ']
   rw[if_neg (by omega)]
   exact h3.out o' ho'
  ·exact h3.glob.mono hF (Same.refl F w)
 ·simp only[φ']at ho'
  split at ho'
  ·cases ho'
  ·exact ho'
 ·rcases hb with hb|⟨hn',rfl⟩
  ·exact .inl hb
  ·exact .inr ⟨L,hL,hn',rfl⟩
def frzC(C:Contract):Contract:=fun args own v own' mv=>∃o ag xs mv',own[o]?=some (.row ag xs)/\C (AV.frzs o ag xs args) ((own.map (Obj.frz o ag xs)).set o .dead) v own' mv'/\mv=o :: mv'
theorem okF_frz{P:Program}{g:Nat}{C:Contract}(h:OkF P g C):OkF P g (frzC C):=by
 rintro args own v own' mv ⟨o,ag,xs,mv',ho,hC,rfl⟩
 refine⟨(h _ _ _ _ _ hC).1,fun F φ w vs hc hs=>?_⟩
 obtain⟨F1,φ1,q1,q2,q3,q4,q5,q6⟩:=conc_freeze hc o ho
 refine((h _ _ _ _ _ hC).2 F1 φ1 w vs q2 (q3 _ _ hs)).mono ?_
 rintro e w' ⟨r,F',φ',rfl,ha,hv⟩
 refine⟨r,F',φ',rfl,⟨fun b hb=>ha.sub b (q1 b hb),ha.ext.mono q1,ha.conc,fun o' L hm hL=>?_,fun b hb hall=>?_,fun o' L' ho' hn'=>?_,fun b hb=>?_⟩,hv⟩
 ·simp only[List.mem_cons,not_or]at hm
  exact ha.keep o' L hm.2 (q4 o' L hm.1 hL)
 ·exact ha.rest b hb (fun o' L ho' hn=>hall o' L (q5 o' L ho') hn)
 ·rcases ha.orig o' L' ho' hn' with h|⟨o2,L,h1,h2,h3⟩
  ·exact .inl h
  ·exact .inr ⟨o2,L,q5 _ _ h1,h2,h3⟩
 ·rcases ha.frsh b hb with h|h|⟨o2,L,h1,h2,h3⟩
  ·rcases q6 b h with h|h
   ·exact .inl h
   ·exact .inr (.inr ⟨o,h⟩)
  ·exact .inr (.inl h)
  ·exact .inr (.inr ⟨o2,L,q5 _ _ h1,h2,h3⟩)
theorem call_frzdata{l:List (Nat×Contract)}{g:Nat}(R:List D->AV->Prop)(hm:(g,frzC (dataC R))∈l){args:List AV}{own:List Obj}{K:AV->List Obj->List Nat->Prop}(o:Nat){ag:Option Nat}{xs:List D}(ho:own[o]?=some (.row ag xs))(ds:List D)(v:AV)
  (hds:asDL ((own.map (Obj.frz o ag xs)).set o .dead) (AV.frzs o ag xs args)=some ds) (hR:R ds v) (hsc:(AV.frzs o ag xs args).all AV.isDat=true∨v.scal=true)
  (hK:K v ((own.map (Obj.frz o ag xs)).set o .dead) [o]):callw (tbl l) (.fn g []) args own K:=by
 refine call_by (frzC (dataC R)) hm v _ [o] ?_ hK
 exact⟨o,ag,xs,[],ho,⟨ds,hds,hR,rfl,rfl,hsc⟩,rfl⟩
def Obj.allUnder(n:Nat):List Obj->Prop
 | []=>True
 | x :: l=>x.under n/\Obj.allUnder n l
theorem Obj.allUnder_mem{n:Nat}:∀{l:List Obj},Obj.allUnder n l->∀x∈l,x.under n
 | [],_,x,hx=>by simp at hx
 | y :: l,h,x,hx=>by
  rcases List.mem_cons.1 hx with rfl|hx
  ·exact h.1
  ·exact Obj.allUnder_mem h.2 x hx
theorem le_end{s s':List AV}{own ex:List Obj}{n0:Nat}{mv:List Nat}(h0:n0<=own.length)(hl:slotsLe s s')(hs:AV.unders own.length s')(ho:Obj.allUnder own.length own):Le ⟨s,own++ex,n0,mv⟩ ⟨s',own,n0,mv⟩ :=
 Le.trans (le_slots' hl) (le_drop h0 hs (Obj.allUnder_mem ho))
attribute [go_sem] Obj.allUnder Nat.le_refl
section
variable {P:Program} {Γ:Nat->Contract} {all:Array Oper} {Q:Exit->S->Prop} {i ob:Nat} {r ms:List Nat} {s:List AV} {own:List Obj} {n:Nat} {m:List Nat}
@[go_sem] theorem chainI_go:chainI P Γ all Q (i :: r) ⟨s,own,n,m⟩=(match all[i]? with|some o=>opg P Γ all o (chainI P Γ all Q r) ⟨s,own,n,m⟩|none=>False):=Eq.trans rfl rfl
@[go_sem] theorem chainM_nil:chainM P Γ all ob ms Q [] ⟨s,own,n,m⟩=Q .normal ⟨s,own,n,m⟩:=Eq.trans rfl rfl
@[go_sem] theorem chainM_go:chainM P Γ all ob ms Q (i :: r) ⟨s,own,n,m⟩=(match all[i]? with|some o=>((ms.contains i=true->condM ob o s)/\opg P Γ all o (chainM P Γ all ob ms Q r) ⟨s,own,n,m⟩)|none=>False):=Eq.trans rfl rfl
end
end Go.AM
namespace Go.AM
open Go
def gd{α:Type}(b:Bool)(x:Option α):Option α:=match b with|true=>x|false=>none
def wfB(k:IntKind)(n:Int):Bool:=(Lit.int k n).wf
def fitO(k:IntKind)(n:Int):Option AV:=match isSigned k with|true=>gd (wfB k n) (some (.dat (.int k n)))|false=>some (.dat (.int k (k.wrap n)))
def intO(op:BinOp)(k:IntKind)(a b:Int):Option AV :=
 match op with
 | .add=>fitO k (a+b)
 | .sub=>fitO k (a - b)
 | .mul=>fitO k (a*b)
 | .quo=>gd (!decide (b=0)) (fitO k (a.tdiv b))
 | .rem=>gd (!decide (b=0)) (gd (wfB k (a.tmod b)) (some (.dat (.int k (a.tmod b)))))
 | .and=>some (.dat (.int k (bitsV .and k a b)))
 | .or=>some (.dat (.int k (bitsV .or k a b)))
 | .xor=>some (.dat (.int k (bitsV .xor k a b)))
 | .andNot=>some (.dat (.int k (bitsV .andNot k a b)))
 | .eql=>some (.dat (.bool (decide (a=b))))
 | .neq=>some (.dat (.bool (!decide (a=b))))
 | .lss=>some (.dat (.bool (decide (a<b))))
 | .leq=>some (.dat (.bool (decide (a<=b))))
 | .gtr=>some (.dat (.bool (decide (b<a))))
 | .geq=>some (.dat (.bool (decide (b<=a))))
 | _=>none
def binO(op:BinOp)(x y:AV):Option AV :=
 match x,y with
 | .dat (.int k a),.dat (.int k' b) =>
  (match op with
  | .shl=>gd (decide (0<=b)) (some (.dat (.int k (shlV k a b))))
  | .shr=>gd (decide (0<=b)) (gd (wfB k (shrV k a b)) (some (.dat (.int k (shrV k a b)))))
  | op=>gd (decide (k=k')) (intO op k a b))
 | .dat (.str a),.dat (.str b) =>
  (match op with
  | .add=>gd (decide (a.length+b.length<=1000000)) (some (.dat (.str (a++b))))
  | .eql=>some (.dat (.bool (decide (a=b))))
  | .neq=>some (.dat (.bool (!decide (a=b))))
  | _=>none)
 | .dat (.bool a),.dat (.bool b) =>
  (match op with
  | .eql=>some (.dat (.bool (a == b)))
  | .neq=>some (.dat (.bool (!(a == b))))
  | _=>none)
 | .nils,.nils =>
  (match op with
  | .eql=>some (.dat (.bool true))
  | .neq=>some (.dat (.bool false))
  | _=>none)
 | .dat (.sl _ xs),.nils =>
  (match op with
  | .eql=>gd (!xs.isEmpty) (some (.dat (.bool false)))
  | .neq=>gd (!xs.isEmpty) (some (.dat (.bool true)))
  | _=>none)
 | .sl _ _ len,.nils =>
  (match op with
  | .eql=>gd (decide (0<len)) (some (.dat (.bool false)))
  | .neq=>gd (decide (0<len)) (some (.dat (.bool true)))
  | _=>none)
 | .dat (.agg as),.dat (.agg bs) =>
  (match op with
  | .eql=>some (.dat (.bool (D.flatEqs as bs)))
  | .neq=>some (.dat (.bool (!D.flatEqs as bs)))
  | _=>none)
 | _,_=>none
def unO(op:UnOp)(x:AV):Option AV :=
 match op,x with
 | .not,.dat (.bool b)=>some (.dat (.bool (!b)))
 | .neg,.dat (.int k n)=>fitO k (0 - n)
 | .xor,.dat (.int k n)=>some (.dat (.int k (bitsV .xor k (if k.signed then -1 else k.max) n)))
 | _,_=>none
def convO(τs τd:Option Ty)(x:AV):Option AV :=
 match τs,τd,x with
 | some _,some τ,.dat (.int _ n)=>(match τ.desc with|.int k=>fitO k n|.string=>some (.dat (.str (runeS n)))|_=>none)
 | some _,some τ,.dat (.str s)=>(match τ.desc with|.string=>some (.dat (.str s))|_=>none)
 | _,_,_=>none
def partOkB(ag:Option Nat)(j:Nat)(want:Option Nat):Bool :=
 match ag,want with
 | none,none=>decide (j=0)
 | some k,none=>decide (j<k)
 | some k,some m=>decide (j+m<=k) && decide (0<m)
 | none,some _=>false
def loadObjO(τ:Ty)(obj:Obj)(i j:Nat):Option AV :=
 match obj with
 | .row none xs=>(match τ.agg with
  | true=>gd (decide (i=0) && decide (j=0) && decide (xs.length=τ.size)) (some (.dat (.agg xs)))
  | false=>gd (decide (j=0) && decide (i<xs.length)) (some (.dat (D.nth xs i))))
 | .row (some k) xs=>gd (partOkB (some k) j τ.want && decide (i<xs.length)) (some (.dat (D.part (some k) (D.nth xs i) j τ.want)))
 | .vec cs=>gd (!τ.agg && decide (j=0) && decide (i<cs.length)) (some (cs.getD i .top))
 | .tab k cs=>(match τ.agg with
  | true=>gd (decide (i*k+j+τ.size<=cs.length)) (some (.agg ((cs.drop (i*k+j)).take τ.size)))
  | false=>gd (decide (i*k+j<cs.length)) (some (cs.getD (i*k+j) .top)))
 | .box cs=>gd (decide (i=0)) (match τ.agg with
  | true=>gd (decide (j+τ.size<=cs.length)) (some (.agg ((cs.drop j).take τ.size)))
  | false=>gd (decide (j<cs.length)) (some (cs.getD j .top)))
 | _=>none
def loadO(τ:Option Ty)(own:List Obj)(x:AV):Option AV :=
 match τ,x with
 | some τ,.ptr o i j=>loadObjO τ (own.getD o .dead) i j
 | some τ,.rptr ag d=>gd (decide (ag=τ.want)) (some (.dat d))
 | _,_=>none
section
variable {P:Program}
def fieldAddrO(P:Program)(τ:Option Ty)(x:AV)(f:Nat):Option AV :=
 match fieldOf P τ f,x with
 | some (off,_),.ptr o i j=>some (.ptr o i (j+off))
 | some (off,τf),.rptr ag d=>gd (partOkB ag off τf.want) (some (.rptr τf.want (D.part ag d off τf.want)))
 | _,_=>none
def partO(τ:Ty)(vs:List AV)(off:Nat):Option AV :=
 match τ.agg with
 | true=>gd (decide (off+τ.size<=vs.length)) (some (.agg ((vs.drop off).take τ.size)))
 | false=>gd (decide (off<vs.length)) (some (vs.getD off .top))
def fieldO(P:Program)(τ:Option Ty)(x:AV)(f:Nat):Option AV :=
 match fieldOf P τ f,x.cellsOf with
 | some (off,τf),some vs=>partO τf vs off
 | _,_=>none
def idxAddrO(P:Program)(τ:Option Ty)(own:List Obj)(x i:AV):Option AV :=
 match τ,x,i with
 | some τ,.sl o off len,.dat (.int _ n) =>
  (match τ.desc with
  | .slice e=>(match tyOf P e with
   | some τe=>gd (decide (0<=n) && decide (n<len) && (match own.getD o .dead with|.row ag _=>decide (es ag=τe.size)|.vec _=>decide (τe.size=1)|.tab k _=>decide (τe.size=k)|_=>false)) (some (.ptr o (off+n.toNat) 0))
   | none=>none)
  | _=>none)
 | some τ,.dat (.sl ag xs),.dat (.int _ n) =>
  (match τ.desc with|.slice e=>(match tyOf P e with|some τe=>gd (decide (0<=n) && decide (n<xs.length) && decide (es ag=τe.size)) (some (.rptr ag (D.nth xs n.toNat)))|none=>none)|_=>none)
 | some τ,.ptr o i0 j,.dat (.int _ n) =>
  (match τ.desc with
  | .array m e=>(match tyOf P e with
    | some τe=>gd (decide (0<=n) && decide (n<m)) (match own.getD o .dead with
      | .row none _=>gd (decide (i0=0) && decide (j=0) && decide (τe.size=1)) (some (.ptr o n.toNat 0))
      | .row (some _) _=>some (.ptr o i0 (j+n.toNat*τe.size))
      | .box _=>some (.ptr o i0 (j+n.toNat*τe.size))
      | _=>none)
    | none=>none)
  | _=>none)
 | some τ,.rptr ag d,.dat (.int _ n) =>
  (match τ.desc with
  | .array m e=>(match tyOf P e with
    | some τe=>gd (decide (0<=n) && decide (n<m)) (gd (partOkB ag (n.toNat*τe.size) τe.want) (some (.rptr τe.want (D.part ag d (n.toNat*τe.size) τe.want))))
    | none=>none)
  | _=>none)
 | _,_,_=>none
def indexO(P:Program)(τ:Option Ty)(x i:AV):Option AV :=
 match τ,i with
 | some τ,.dat (.int _ n) =>
  (match τ.desc with
  | .array m e=>(match tyOf P e,x.cellsOf with
    | some τe,some vs=>gd (decide (0<=n) && decide (n<m)) (partO τe vs (n.toNat*τe.size))
    | _,_=>none)
  | .string=>(match x with
    | .dat (.str s)=>gd (decide (0<=n) && decide (n<s.length)) (some (.dat (.int .u8 (s.getD n.toNat 0).toNat)))
    | _=>none)
  | _=>none)
 | _,_=>none
def sliceO(P:Program)(τ:Option Ty)(own:List Obj)(x:AV)(lo hi:Option AV):Option AV :=
 match τ,x with
 | some τ,.sl o off len =>
  (match τ.desc with
  | .slice e=>(match tyOf P e,optInt lo 0,optInt hi len with
   | some τe,some l,some h=>gd (match own.getD o .dead with|.row ag _=>decide (es ag=τe.size) && decide (0<=l) && decide (l<=h) && decide (h<=len)|_=>false) (some (.sl o (off+l.toNat) (h - l).toNat))
   | _,_,_=>none)
  | _=>none)
 | some τ,.dat (.sl ag xs) =>
  (match τ.desc with
  | .slice e=>(match tyOf P e,optInt lo 0,optInt hi xs.length with
   | some τe,some l,some h=>gd (decide (es ag=τe.size) && decide (0<=l) && decide (l<=h) && decide (h<=xs.length)) (some (.dat (.sl ag ((xs.drop l.toNat).take (h - l).toNat))))
   | _,_,_=>none)
  | _=>none)
 | some τ,.nils =>
  (match τ.desc with
  | .slice e=>(match tyOf P e,optInt lo 0,optInt hi 0 with
   | some τe,some l,some h=>gd (decide (l=0) && decide (h=0)) (some .nils)
   | _,_,_=>none)
  | _=>none)
 | some τ,.dat (.str s) =>
  (match τ.desc with
  | .string=>(match optInt lo 0,optInt hi s.length with
   | some l,some h=>gd (decide (0<=l) && decide (l<=h) && decide (h<=s.length)) (some (.dat (.str ((s.drop l.toNat).take (h - l).toNat))))
   | _,_=>none)
  | _=>none)
 | _,_=>none
def buildO(P:Program)(τ:Option Ty)(parts:List (Nat×AV)):Option AV :=
 match τ with
 | some τ=>(match placesOf P τ,τ.zero with
  | some pl,some (.agg z)=>gd (z.toList.all (·.oneCell')) ((fillAV (fun i=>pl[i]?) (z.toList.map constAV0) parts).map .agg)
  | _,_=>none)
 | none=>none
def extractO(x:AV)(ix:Nat):Option AV:=match x with|.tup vs=>gd (decide (ix<vs.length)) (some (vs.getD ix .top))|_=>none
def lookupO(P:Program)(τ:Option Ty)(own:List Obj)(x k:AV)(commaOk:Bool):Option AV :=
 match τ,x,k.keyD with
 | some τ,.map o,some k=>(match τ.desc with
  | .map kt et=>(match tyOf P kt,(tyOf P et).bind zeroD,own.getD o .dead with
   | some τk,some z,.map m=>gd (D.isKeyP P kt τk.desc k && m.all fun x=>D.isKeyP P kt τk.desc x.1)
     (some (match commaOk with|true=>.tup [.dat ((mapFind k m).getD z),.dat (.bool (mapFind k m).isSome)]|false=>.dat ((mapFind k m).getD z)))
   | _,_,_=>none)
  | _=>none)
 | _,_,_=>none
def nilO(x:AV):Option AV:=match x with|.ptr o i j=>some (.ptr o i j)|.rptr ag d=>some (.rptr ag d)|.fn f cs=>some (.fn f cs)|_=>none
def pickO(c a b:AV):Option AV:=match c with|.dat (.bool t)=>some (match t with|true=>a|false=>b)|_=>none
def lenO(P:Program)(τ:Option Ty)(own:List Obj)(x:AV):Option AV :=
 match τ with
 | some τ=>(match τ.desc,x with
  | .string,.dat (.str s)=>some (.dat (.int .i64 s.length))
  | .slice _,.dat (.sl _ xs)=>some (.dat (.int .i64 xs.length))
  | .slice _,.sl _ _ len=>some (.dat (.int .i64 len))
  | .slice _,.nils=>some (.dat (.int .i64 0))
  | .array n _,_=>gd (wfB .i64 n) (some (.dat (.int .i64 n)))
  | .map _ _,.nilm=>some (.dat (.int .i64 0))
  | .map _ _,.map o=>(match own.getD o .dead with|.map m=>gd (wfB .i64 m.length) (some (.dat (.int .i64 m.length)))|_=>none)
  | _,_=>none)
 | none=>none
def minO(isMin:Bool)(x y:AV):Option AV:=match x,y with|.dat (.int k a),.dat (.int k' b)=>gd (decide (k=k')) (some (.dat (.int k (if isMin then min a b else max a b))))|_,_=>none
def bltO(P:Program)(own:List Obj)(slots:List AV)(f:Callee)(args:List Operand)(ts:List TypeId):Option AV :=
 match f,args,ts with
 | .builtin .len,[x],[t]=>lenO P (tyOf P t) own (ev slots x)
 | .builtin .min,[x,y],_=>minO true (ev slots x) (ev slots y)
 | .builtin .max,[x,y],_=>minO false (ev slots x) (ev slots y)
 | _,_,_=>none
def vopO(P:Program)(own:List Obj)(slots:List AV)(op:Op):Option AV :=
 match op with
 | .move x=>some (ev slots x)
 | .assign x=>some (ev slots x)
 | .pick c a b=>pickO (ev slots c) (ev slots a) (ev slots b)
 | .binOp op t x y _=>gd (eqOk P t (ev slots x) (ev slots y)) (binO op (ev slots x) (ev slots y))
 | .unOp op _ x=>unO op (ev slots x)
 | .convert s d x=>convO (tyOf P s) (tyOf P d) (ev slots x)
 | .load t x=>loadO (tyOf P t) own (ev slots x)
 | .fieldAddr t x f=>fieldAddrO P (tyOf P t) (ev slots x) f
 | .field t x f=>fieldO P (tyOf P t) (ev slots x) f
 | .indexAddr t x i=>idxAddrO P (tyOf P t) own (ev slots x) (ev slots i)
 | .index t x i=>indexO P (tyOf P t) (ev slots x) (ev slots i)
 | .slice t x lo hi none=>sliceO P (tyOf P t) own (ev slots x) (lo.map (ev slots)) (hi.map (ev slots))
 | .build t parts=>buildO P (tyOf P t) (parts.toList.map fun p=>(p.1,ev slots p.2))
 | .extract x i=>extractO (ev slots x) i
 | .lookup t x k ok=>lookupO P (tyOf P t) own (ev slots x) (ev slots k) ok
 | .nilCheck x=>nilO (ev slots x)
 | .makeFunc (.func f) first cs=>gd first.toList.isEmpty (some (.fn f (cs.toList.map (ev slots))))
 | .call c=>bltO P own slots c.callee c.args.toList c.argTypes.toList
 | _=>none
end
end Go.AM
namespace Go.AM
open Go
abbrev Eff3:=AV×List Obj×List Nat
def natF{α:Type}(n:Nat)(K:Nat->α):α:=match n with|0=>K 0|m+1=>K (m+1)
theorem natF_eq{α:Type}(n:Nat)(K:Nat->α):natF n K=K n:=by cases n <;> rfl
def intF{α:Type}(n:Int)(K:Int->α):α:=match n with|.ofNat m=>natF m fun m=>K (.ofNat m)|.negSucc m=>natF m fun m=>K (.negSucc m)
theorem intF_eq{α:Type}(n:Int)(K:Int->α):intF n K=K n:=by cases n <;> simp only[intF,natF_eq]
def boolF{α:Type}(b:Bool)(K:Bool->α):α:=match b with|true=>K true|false=>K false
theorem boolF_eq{α:Type}(b:Bool)(K:Bool->α):boolF b K=K b:=by cases b <;> rfl
def kindF{α:Type}(k:IntKind)(K:IntKind->α):α:=match k with|.i8=>K .i8|.i16=>K .i16|.i32=>K .i32|.i64=>K .i64|.u8=>K .u8|.u16=>K .u16|.u32=>K .u32|.u64=>K .u64
theorem kindF_eq{α:Type}(k:IntKind)(K:IntKind->α):kindF k K=K k:=by cases k <;> rfl
def optF{α:Type}(n:Option Nat)(K:Option Nat->α):α:=match n with|none=>K none|some m=>natF m fun m=>K (some m)
theorem optF_eq{α:Type}(n:Option Nat)(K:Option Nat->α):optF n K=K n:=by cases n <;> simp only[optF,natF_eq]
def spineF{α β:Type}:List β->(List β->α)->α
 | [],K=>K []
 | x :: xs,K=>spineF xs fun xs=>K (x :: xs)
theorem spineF_eq{α β:Type}:∀(l:List β) (K:List β->α),spineF l K=K l
 | [],K=>rfl
 | x :: xs,K=>by rw[spineF,spineF_eq xs]
mutual
def D.force{α:Type}:D->(D->α)->α
 | .int k n,K=>kindF k fun k=>intF n fun n=>K (.int k n)
 | .bool b,K=>boolF b fun b=>K (.bool b)
 | .str s,K=>spineF s fun s=>K (.str s)
 | .sl ag xs,K=>optF ag fun ag=>D.forces xs fun xs=>K (.sl ag xs)
 | .agg ds,K=>D.forces ds fun ds=>K (.agg ds)
def D.forces{α:Type}:List D->(List D->α)->α
 | [],K=>K []
 | d :: ds,K=>D.force d fun d=>D.forces ds fun ds=>K (d :: ds)
end
mutual
theorem D.force_eq{α:Type}:∀(d:D) (K:D->α),D.force d K=K d
 | .int k n,K=>by rw[D.force,kindF_eq,intF_eq]
 | .bool b,K=>by rw[D.force,boolF_eq]
 | .str s,K=>by rw[D.force,spineF_eq]
 | .sl ag xs,K=>by rw[D.force,optF_eq,D.forces_eq xs]
 | .agg ds,K=>by rw[D.force,D.forces_eq ds]
theorem D.forces_eq{α:Type}:∀(ds:List D) (K:List D->α),D.forces ds K=K ds
 | [],K=>by rw[D.forces]
 | d :: ds,K=>by rw[D.forces,D.force_eq d,D.forces_eq ds]
end
mutual
def AV.force{α:Type}:AV->(AV->α)->α
 | .dat d,K=>D.force d fun d=>K (.dat d)
 | .sl o i j,K=>natF o fun o=>natF i fun i=>natF j fun j=>K (.sl o i j)
 | .ptr o i j,K=>natF o fun o=>natF i fun i=>natF j fun j=>K (.ptr o i j)
 | .rptr ag d,K=>optF ag fun ag=>D.force d fun d=>K (.rptr ag d)
 | .agg vs,K=>AV.forces vs fun vs=>K (.agg vs)
 | .tup vs,K=>AV.forces vs fun vs=>K (.tup vs)
 | .map o,K=>natF o fun o=>K (.map o)
 | .yld o,K=>natF o fun o=>K (.yld o)
 | .fn f vs,K=>natF f fun f=>AV.forces vs fun vs=>K (.fn f vs)
 | .nils,K=>K .nils
 | .nilm,K=>K .nilm
 | .top,K=>K .top
def AV.forces{α:Type}:List AV->(List AV->α)->α
 | [],K=>K []
 | d :: ds,K=>AV.force d fun d=>AV.forces ds fun ds=>K (d :: ds)
end
mutual
theorem AV.force_eq{α:Type}:∀(v:AV) (K:AV->α),AV.force v K=K v
 | .dat d,K=>by rw[AV.force,D.force_eq]
 | .sl o i j,K=>by rw[AV.force,natF_eq,natF_eq,natF_eq]
 | .ptr o i j,K=>by rw[AV.force,natF_eq,natF_eq,natF_eq]
 | .rptr ag d,K=>by rw[AV.force,optF_eq,D.force_eq]
 | .agg vs,K=>by rw[AV.force,AV.forces_eq vs]
 | .tup vs,K=>by rw[AV.force,AV.forces_eq vs]
 | .map o,K=>by rw[AV.force,natF_eq]
 | .yld o,K=>by rw[AV.force,natF_eq]
 | .fn f vs,K=>by rw[AV.force,natF_eq,AV.forces_eq vs]
 | .nils,K=>by rw[AV.force]
 | .nilm,K=>by rw[AV.force]
 | .top,K=>by rw[AV.force]
theorem AV.forces_eq{α:Type}:∀(vs:List AV) (K:List AV->α),AV.forces vs K=K vs
 | [],K=>by rw[AV.forces]
 | d :: ds,K=>by rw[AV.forces,AV.force_eq d,AV.forces_eq ds]
end
def Obj.shal{α:Type}(x:Obj)(K:Obj->α):α :=
 match x with
 | .row ag xs=>D.forces xs fun xs=>K (.row ag xs)
 | .vec cs=>AV.forces cs fun cs=>K (.vec cs)
 | .tab k cs=>AV.forces cs fun cs=>K (.tab k cs)
 | .box cs=>AV.forces cs fun cs=>K (.box cs)
 | .lp r cs=>AV.forces cs fun cs=>K (.lp r cs)
 | .bld T u cs=>AV.forces cs fun cs=>K (.bld T u cs)
 | .map m=>spineF m fun m=>K (.map m)
 | .brow e bs=>K (.brow e bs)
 | .dead=>K .dead
theorem Obj.shal_eq{α:Type}(x:Obj)(K:Obj->α):x.shal K=K x:=by cases x <;> simp only[Obj.shal,D.forces_eq,AV.forces_eq,spineF_eq]
def Obj.shals{α:Type}:List Obj->(List Obj->α)->α
 | [],K=>K []
 | x :: xs,K=>x.shal fun x=>Obj.shals xs fun xs=>K (x :: xs)
theorem Obj.shals_eq{α:Type}:∀(l:List Obj) (K:List Obj->α),Obj.shals l K=K l
 | [],K=>rfl
 | x :: xs,K=>by rw[Obj.shals,Obj.shal_eq,Obj.shals_eq xs]
def S.force{α:Type}(σ:S)(K:S->α):α:=spineF σ.slots fun s=>Obj.shals σ.own fun own=>natF σ.n0 fun n0=>spineF σ.mv fun mv=>K ⟨s,own,n0,mv⟩
theorem S.force_eq{α:Type}(σ:S)(K:S->α):σ.force K=K σ:=by
 unfold S.force
 rw[spineF_eq,Obj.shals_eq,natF_eq,spineF_eq]
section
variable {P:Program}
def zeroFit(τ:Ty):Bool:=match τ.zero with|some z=>decide (z.cells.size=τ.size)|none=>false
def fitsB(ag:Option Nat)(d:D):Bool:=decide (d.isAgg=ag.isSome) && decide (d.size=es ag)
def appendRO(P:Program)(τ:Option Ty)(own:List Obj)(x y:AV):Option Eff3 :=
 match τ with
 | some τ=>(match τ.desc with
  | .slice e=>(match tyOf P e,y.elems own with
   | some τe,some (tag,ys) =>
    gd ((decide (tag=some τe.want) || ys.isEmpty) && decide (es τe.want=τe.size) && decide (0<τe.size) && zeroFit τe)
    (match x with
    | .sl o off len=>(match own.getD o .dead with
     | .row ag xs=>gd (decide (ag=τe.want) && decide (off+len<=xs.length) && decide (len+ys.length<=140737488355328) && decide ((len+ys.length)*τe.bytes<=140737488355328))
       (some (.sl o 0 (len+ys.length),(own.map (Obj.kill o)).set o (.row ag ((xs.drop off).take len++ys)),[o]))
     | _=>none)
    | .nils=>gd (decide (ys.length<=140737488355328) && decide (ys.length*τe.bytes<=140737488355328)) (some (.sl own.length 0 ys.length,own++[.row τe.want ys],[]))
    | _=>none)
   | _,_=>none)
  | _=>none)
 | none=>none
def appendVO(P:Program)(τ:Option Ty)(own:List Obj)(o off len:Nat)(cs:List AV)(y:AV):Option Eff3 :=
 match τ with
 | some τ=>(match τ.desc with
  | .slice e=>(match tyOf P e,y.vcells own with
   | some τe,some ys=>gd (decide (τe.size=1) && zeroFit τe && decide (off+len<=cs.length) && decide (len+ys.length<=140737488355328) && decide ((len+ys.length)*τe.bytes<=140737488355328))
     (some (.sl o 0 (len+ys.length),(own.map (Obj.kill o)).set o (.vec (AV.kills o ((cs.drop off).take len++ys))),[o]))
   | _,_=>none)
  | _=>none)
 | none=>none
def appendNO(P:Program)(τ:Option Ty)(own:List Obj)(ys:List AV):Option Eff3 :=
 match τ with
 | some τ=>(match τ.desc with
  | .slice e=>(match tyOf P e with
   | some τe=>gd (decide (τe.size=1) && zeroFit τe && decide (ys.length<=140737488355328) && decide (ys.length*τe.bytes<=140737488355328) && decide (0<ys.length))
     (some (.sl own.length 0 ys.length,own++[.vec ys],[]))
   | none=>none)
  | _=>none)
 | none=>none
def appendO(P:Program)(τ:Option Ty)(own:List Obj)(x y:AV):Option Eff3 :=
 match x with
 | .sl o off len=>(match own.getD o .dead with
  | .vec cs=>appendVO P τ own o off len cs y
  | .tab _ _=>none
  | _=>appendRO P τ own x y)
 | .nils=>(match y.vcells own with
  | some ys=>appendNO P τ own ys
  | none=>appendRO P τ own x y)
 | _=>appendRO P τ own x y
def copyO(P:Program)(τ:Option Ty)(own:List Obj)(x y:AV):Option Eff3 :=
 match τ with
 | some τ=>(match τ.desc with
  | .slice e=>(match tyOf P e,y.elems own with
   | some τe,some (tag,ys) =>
    gd ((decide (tag=some τe.want) || ys.isEmpty) && decide (es τe.want=τe.size))
    (match x with
    | .sl o off len=>(match own.getD o .dead with
     | .row ag xs=>gd (decide (ag=τe.want) && decide (off+len<=xs.length))
       (some (.dat (.int .i64 (min ys.length len:Nat)),own.set o (.row ag (xs.take off++ys.take len++xs.drop (off+min ys.length len))),[]))
     | _=>none)
    | _=>none)
   | _,_=>none)
  | _=>none)
 | none=>none
def allocO(P:Program)(t:TypeId)(own:List Obj):Option Eff3 :=
 match tyOf P t with
 | some τ=>(match τ.arr with
  | some (n,e)=>(match tyOf P e with
   | some τe=>(match zeroD τe,τe.zero,τ.zero with
    | some zd,some (.int k z),some (.agg arr)=>gd (decide (arr.size=n) && arr.toList.all fun v=>match v with|.int k' z'=>decide (k'=k) && decide (z'=z)|_=>false)
      (some (.ptr own.length 0 0,own++[.row none (List.replicate n zd)],[]))
    | some zd,some (.bool z),some (.agg arr)=>gd (decide (arr.size=n) && arr.toList.all fun v=>match v with|.bool z'=>decide (z'=z)|_=>false)
      (some (.ptr own.length 0 0,own++[.row none (List.replicate n zd)],[]))
    | _,_,_=>none)
   | none=>none)
  | none=>(match τ.zero with
   | some z=>gd (z.cells.toList.all (·.oneCell')) (some (.ptr own.length 0 0,own++[varObj t z],[]))
   | none=>none))
 | none=>none
def boxO(own:List Obj)(x:AV):Option Eff3:=match x.asCells with|some vs=>some (.ptr own.length 0 0,own++[.box vs],[])|none=>none
def buildSliceO(P:Program)(τ:Option Ty)(own:List Obj)(len:Nat)(parts:List (Nat×AV)):Option Eff3 :=
 match τ with
 | some τ=>(match τ.desc with
  | .slice e=>(match tyOf P e,litN parts with
   | some τe,some ds=>gd (decide (ds.length=len) && decide (es τe.want=τe.size) && decide (0<τe.size) && decide (len*τe.size<=16777216) && zeroFit τe && ds.all (fitsB τe.want))
     (some (.sl own.length 0 len,own++[.row τe.want ds],[]))
   | some τe,none=>(match litV 0 parts with
    | some as=>gd (decide (as.length=len) && decide (τe.size=1) && decide (len<=16777216) && zeroFit τe) (some (.sl own.length 0 len,own++[.vec as],[]))
    | none=>none)
   | _,_=>none)
  | _=>none)
 | none=>none
def makeSliceO(P:Program)(τ:Option Ty)(own:List Obj)(l c:AV):Option Eff3 :=
 match τ,l,c with
 | some τ,.dat (.int .i64 l),.dat (.int .i64 c)=>(match τ.desc with
  | .slice e=>(match tyOf P e with
   | some τe=>(match isNilSl τe.zero with
    | true=>gd (decide (0<=l) && decide (l<=c) && decide ((τe.bytes:Int)*c<=281474976710656) && decide (τe.size=1))
      (some (.sl own.length 0 l.toNat,own++[.vec (List.replicate l.toNat .nils)],[]))
    | false=>(match zeroElem τe with
     | some z=>gd (decide (0<=l) && decide (l<=c) && decide ((τe.bytes:Int)*c<=281474976710656) && decide (es τe.want=τe.size) && fitsB τe.want z)
       (some (.sl own.length 0 l.toNat,own++[.row τe.want (List.replicate l.toNat z)],[]))
     | none=>none))
   | none=>none)
  | _=>none)
 | _,_,_=>none
def storeObjO(τ:Ty)(obj:Obj)(i j:Nat)(x:AV):Option Obj :=
 match obj with
 | .row none xs=>(match τ.agg with
  | false=>gd (decide (τ.size=1) && decide (j=0) && decide (i<xs.length)) (match x.pure with|some d=>gd (!d.isAgg) (some (.row none (xs.set i d)))|none=>none)
  | true=>gd (decide (i=0) && decide (j=0) && decide (τ.size=xs.length)) (match x.pure with|some (.agg ds)=>gd (decide (ds.length=xs.length)) (some (.row none ds))|_=>none))
 | .row (some k) xs=>gd (decide (i<xs.length)) (match x.pure with
   | some d=>(match τ.agg with
    | true=>gd (decide (j=0) && decide (τ.size=k) && fitsB (some k) d) (some (.row (some k) (xs.set i d)))
    | false=>gd (decide (τ.size=1) && decide (j<k) && !d.isAgg) (some (.row (some k) (xs.set i (D.setPart (D.nth xs i) j d)))))
   | none=>none)
 | .vec cs=>gd (decide (τ.size=1) && decide (j=0) && decide (i<cs.length)) (match x.asCells with|some [v]=>some (.vec (cs.set i v))|_=>none)
 | .tab k cs=>(match x.asCells with|some vs=>gd (decide (vs.length=τ.size) && decide (i*k+j+vs.length<=cs.length)) (some (.tab k (splice cs (i*k+j) vs)))|none=>none)
 | .box cs=>gd (decide (i=0)) (match x.asCells with|some vs=>gd (decide (vs.length=τ.size) && decide (j+vs.length<=cs.length)) (some (.box (splice cs j vs)))|none=>none)
 | _=>none
def storeO(τ:Option Ty)(own:List Obj)(a x:AV):Option Eff3 :=
 match τ,a with
 | some τ,.ptr o i j=>(match storeObjO τ (own.getD o .dead) i j x with|some obj=>some (.top,own.set o obj,[])|none=>none)
 | _,_=>none
def mapUpdateO(P:Program)(τ:Option Ty)(own:List Obj)(x k v:AV):Option Eff3 :=
 match τ,x,k.keyD with
 | some τ,.map o,some k=>(match τ.desc with
  | .map kt _=>(match tyOf P kt,own.getD o .dead,v.pure with
   | some τk,.map m,some v=>gd (D.isKeyP P kt τk.desc k && m.all fun x=>D.isKeyP P kt τk.desc x.1) (some (.top,own.set o (.map (mapSet k v m)),[]))
   | _,_,_=>none)
  | _=>none)
 | _,_,_=>none
abbrev CallO:=Nat->List AV->List Obj->Option Eff3
def callwO(call:CallO)(f:AV)(args:List AV)(own:List Obj):Option Eff3:=match f with|.fn g caps=>call g (args++caps) own|_=>none
def ecallO(P:Program)(call:CallO)(own:List Obj)(slots:List AV)(f:Callee)(args:List Operand)(ts:List TypeId):Option Eff3 :=
 match f,args,ts with
 | .builtin .append,[x,y],[t,t']=>gd (decide (t=t')) (appendO P (tyOf P t) own (ev slots x) (ev slots y))
 | .builtin .copy,[x,y],[t,_]=>copyO P (tyOf P t) own (ev slots x) (ev slots y)
 | .value f,args,_=>callwO call (ev slots f) (args.map (ev slots)) own
 | _,_,_=>none
def eopO(P:Program)(call:CallO)(own:List Obj)(slots:List AV)(op:Op):Option Eff3 :=
 match op with
 | .alloc e=>allocO P e own
 | .box _ x=>boxO own (ev slots x)
 | .buildSlice t len parts=>buildSliceO P (tyOf P t) own len (parts.toList.map fun p=>(p.1,ev slots p.2))
 | .store t a x=>storeO (tyOf P t) own (ev slots a) (ev slots x)
 | .makeMap _ none=>some (.map own.length,own++[.map []],[])
 | .makeSlice t l c=>makeSliceO P (tyOf P t) own (ev slots l) (ev slots c)
 | .mapUpdate t m k x=>mapUpdateO P (tyOf P t) own (ev slots m) (ev slots k) (ev slots x)
 | .insert t m k x=>mapUpdateO P (tyOf P t) own (ev slots m) (ev slots k) (ev slots x)
 | .call c=>ecallO P call own slots c.callee c.args.toList c.argTypes.toList
 | _=>none
def opO(P:Program)(call:CallO)(o:Oper)(σ:S):Option S :=
 match isV o.op with
 | true=>(match vopO P σ.own σ.slots o.op with|some v=>AV.force v fun v=>some (σ.put o.dst v)|none=>none)
 | false=>(match eopO P call σ.own σ.slots o.op with|some r=>AV.force r.1 fun v=>spineF r.2.2 fun kl=>some (σ.effect o.dst v r.2.1 kl)|none=>none)
def opgO(P:Program)(call:CallO)(all:Array Oper)(o:Oper)(σ:S):Option S :=
 match o.guard with
 | none=>opO P call o σ
 | some (j,want) =>
  (match (all[j]?).bind (·.dst) with
  | some d=>(match σ.slots.getD d .top with
   | .dat (.bool b)=>(match decide (b=want) with|true=>opO P call o σ|false=>some (σ.put o.dst (.tup [])))
   | .tup []=>some (σ.put o.dst (.tup []))
   | _=>none)
  | none=>none)
end
end Go.AM
namespace Go.AM
open Go
def datOf:AV->Option D|.dat d=>some d|_=>none
def datsOf:List AV->Option (List D)
 | []=>some []
 | v :: vs=>match datOf v,datsOf vs with|some d,some ds=>some (d :: ds)|_,_=>none
def S.frz(o:Nat)(σ:S):S :=
 match σ.own[o]? with
 | some (.row ag xs)=>⟨AV.frzs o ag xs σ.slots,(σ.own.map (Obj.frz o ag xs)).set o .dead,σ.n0,addMv σ.n0 σ.mv [o]⟩
 | some (.vec cs)=>(match datsOf (cs.map AV.norm1) with
  | some ds=>⟨AV.frzs o none ds σ.slots,(((σ.own.set o (.vec (ds.map .dat))).set o (.row none ds)).map (Obj.frz o none ds)).set o .dead,σ.n0,addMv σ.n0 σ.mv [o]⟩
  | none=>σ)
 | _=>σ
def S.frzL:List Nat->S->S
 | [],σ=>σ
 | o :: os,σ=>S.frzL os (σ.frz o)
def AV.rowRefs:AV->List Nat
 | .sl o _ _=>[o]
 | .agg vs=>AV.rowRefsL vs
 | _=>[]
where
 AV.rowRefsL:List AV->List Nat
  | []=>[]
  | .sl o _ _ :: vs=>o :: AV.rowRefsL vs
  | _ :: vs=>AV.rowRefsL vs
def prepL(own:List Obj)(slots:List AV)(op:Op):List Nat :=
 match op with
 | .buildSlice _ _ parts=>(match litV 0 (parts.toList.map fun p=>(p.1,ev slots p.2)) with|some _=>[]|none=>(parts.toList.map fun p=>(ev slots p.2).rowRefs).flatten)
 | .store _ a x=>(match ev slots a with|.ptr o _ _=>(match own.getD o .dead with|.row (some _) _=>(ev slots x).rowRefs|_=>[])|_=>[])
 | .mapUpdate _ _ _ x=>(ev slots x).rowRefs
 | .insert _ _ _ x=>(ev slots x).rowRefs
 | _=>[]
def vecL(own:List Obj)(slots:List AV)(op:Op):Option Nat :=
 match op with
 | .store _ a x=>(match ev slots a,ev slots x with|.ptr o _ _,.sl _ _ _=>(match own.getD o .dead with|.row none _=>some o|_=>none)|_,_=>none)
 | _=>none
def S.toVec(σ:S):Option Nat->S
 | none=>σ
 | some o=>(match σ.own[o]? with|some (.row none xs)=>{ σ with own:=σ.own.set o (.vec (xs.map .dat)) }|_=>σ)
def S.prep(σ:S)(op:Op):S:=(σ.toVec (vecL σ.own σ.slots op)).frzL (prepL σ.own σ.slots op)
section
variable {P:Program}
def runOps(P:Program)(call:CallO)(all:Array Oper):List Oper->S->Option S
 | [],σ=>some σ
 | o :: os,σ=>match opgO P call all o (σ.prep o.op) with|some σ'=>runOps P call all os σ'|none=>none
def Oper.callee(o:Oper):List Nat:=match o.op with|.call c=>(match c.callee with|.value (.func g)=>[g]|_=>[])|_=>[]
def isFreeV(o:Oper):Bool:=isV o.op || !(Oper.callee o).isEmpty
def orderO(ops:Array Oper):Nat->List Nat->List Nat->List Nat
 | 0,acc,_=>acc.reverse
 | n+1,acc,left =>
  let ready:=left.filter fun i=>left.all fun j=>!Region.waitsFor .any ops i j
  (match ready.find? (fun i=>match ops[i]? with|some o=>isFreeV o|none=>false) with
  | some i=>orderO ops n (i :: acc) (left.filter (· != i))
  | none=>(match ready with
   | i :: _=>orderO ops n (i :: acc) (left.filter (· != i))
   | []=>acc.reverse))
def marksO(ops:Array Oper):List Nat :=
 let r:=List.range ops.size
 let st:=fun i=>match ops[i]? with|some o=>isStore o|none=>false
 r.filter fun p=>r.any fun i=>decide (i≠p) && (st p || st i) && !Region.waitsFor .any ops i p && !Region.waitsFor .any ops p i
def condB(ob:Nat)(o:Oper)(slots:List AV):Bool :=
 match o.op with
 | .store _ a _=>(match ev slots a with|.ptr o' _ _=>decide (o'=ob)|_=>false)
 | op=>op.operands.toList.all fun x=>!(ev slots x).refs ob
def findOb(P:Program)(call:CallO)(all:Array Oper)(ms:List Nat):List Nat->S->Nat
 | [],_=>0
 | i :: r,σ=>match all[i]? with
  | none=>0
  | some o=>(match isStore o && ms.contains i with
   | true=>(match o.op with|.store _ a _=>(match ev σ.slots a with|.ptr ob _ _=>ob|_=>0)|_=>0)
   | false=>(match opgO P call all o σ with|some σ'=>findOb P call all ms r σ'|none=>0))
def chainO(P:Program)(call:CallO)(all:Array Oper)(ob:Nat)(ms:List Nat):List Nat->S->Option S
 | [],σ=>some σ
 | i :: r,σ=>match all[i]? with
  | none=>none
  | some o=>gd (!ms.contains i || condB ob o σ.slots) (match opgO P call all o σ with|some σ'=>chainO P call all ob ms r σ'|none=>none)
def drawO0(P:Program)(call:CallO)(ops:Array Oper)(σ:S):Option S :=
 let L:=orderO ops ops.size [] (List.range ops.size)
 let ms:=marksO ops
 let pf:=(ops.toList.map Oper.callee).flatten
 gd (drawOkM pf [] ms ops L) (chainO P call ops (match ms with|[]=>0|_=>findOb P call ops ms L σ) ms L σ)
def drawO(P:Program)(call:CallO)(ops:Array Oper)(σ:S):Option S :=
 match drawO0 P call ops σ with
 | some s=>some s
 | none=>drawO0 P call ops (σ.frzL (ops.toList.map fun o=>(o.op.operands.toList.map fun x=>(ev σ.slots x).rowRefs).flatten).flatten)
def loopO(rec:Code->S->Option (Exit×S))(b:Code):Nat->S->Option (Exit×S)
 | 0,_=>none
 | n+1,σ=>match rec b σ with|some (.normal,s)=>s.force fun s=>loopO rec b n s|r=>r
def stepC(P:Program)(call pcall:CallO)(rec:Code->S->Option (Exit×S))(code:Code)(σ:S):Option (Exit×S) :=
 match code with
 | .skip=>some (.normal,σ)
 | .region _ ops draw=>(match draw with
  | false=>(match runOps P call ops ops.toList σ with|some s=>spineF s.slots fun sl=>some (.normal,{ s with slots:=sl })|none=>none)
  | true=>(match drawO P pcall ops σ with|some s=>spineF s.slots fun sl=>some (.normal,{ s with slots:=sl })|none=>none))
 | .seq a b=>(match rec a σ with|some (.normal,s)=>rec b s|r=>r)
 | .cond c x y=>(match ev σ.slots c with|.dat (.bool b)=>(match b with|true=>rec x σ|false=>rec y σ)|_=>none)
 | .block id body=>(match rec body σ with|some (.exit i,s)=>(match decide (i=id) with|true=>some (.normal,s)|false=>some (.exit i,s))|r=>r)
 | .exit id=>some (.exit id,σ)
 | .ret=>some (.ret,σ)
 | .loop b=>loopO rec b 1000000 σ
 | .label _=>some (.normal,σ)
 | .goto l=>some (.goto l,σ)
 | _=>none
def RecOk(P:Program)(rec:Code->S->Option (Exit×S)):Prop:=∀code σ e s,rec code σ=some (e,s)->∀Q:Exit->S->Prop,Q e s->sem P code Q σ
def resO(P:Program):List ResultVar->S->Option (List AV)
 | [],_=>some []
 | .tmp t :: rs,σ=>(match resO P rs σ with|some vs=>some (σ.slots.getD t .top :: vs)|none=>none)
 | .cell a t :: rs,σ=>(match loadO (tyOf P t) σ.own (σ.slots.getD a .top),resO P rs σ with|some v,some vs=>some (v :: vs)|_,_=>none)
def bodyO(P:Program)(rec:Code->S->Option (Exit×S))(fn:Func)(body:Code)(args:List AV)(own:List Obj):Option (S×List AV) :=
 match rec body ⟨args++List.replicate (fn.ntmps - args.length) .top,own,own.length,[]⟩ with
 | some (.ret,σ)=>(match resO P fn.results.toList σ with|some vs=>some (σ,vs)|none=>none)
 | some (.normal,σ)=>(match resO P fn.results.toList σ with|some vs=>some (σ,vs)|none=>none)
 | _=>none
def finO(v:AV)(own:List Obj)(mv:List Nat):S :=
 let r:=List.range own.length
 (S.frzL (r++r) ⟨[v],own,0,mv⟩)
def pureV:AV->Bool
 | .dat _=>true
 | .tup vs=>vs.all fun v=>match v with|.dat _=>true|_=>false
 | _=>false
def dataRun(P:Program)(rec:Code->S->Option (Exit×S))(fn:Func)(body:Code)(ds:List D):Option (AV×List Obj) :=
 match bodyO P rec fn body (ds.map .dat) [] with
 | none=>none
 | some (σ,vs)=>(match decide (σ.n0=0),finO (resV vs) σ.own σ.mv with
  | true,⟨[v],ob,_,_⟩=>some (v,ob)
  | _,_=>none)
def deepRefs(own:List Obj):Nat->AV->List Nat
 | 0,_=>[]
 | n+1,v=>(v.rowRefs.map fun o=>(match own.getD o .dead with|.vec cs=>(cs.map (deepRefs own n)).flatten++[o]|.row _ _=>[o]|_=>[])).flatten
def callO(P:Program)(rec:Code->S->Option (Exit×S)):CallO:=fun g args own =>
 match P.funcs[g]? with
 | none=>none
 | some fn=>(match fn.body with
  | none=>none
  | some body =>
   let full:Option Eff3:=(match bodyO P rec fn body args own with|some (σ,vs)=>some (resV vs,σ.own,σ.mv)|none=>none)
   let frz:Option Eff3:=(match S.frzL ((args.map (deepRefs own 3)).flatten) ⟨args,own,own.length,[]⟩ with
    | ⟨args',own',_,mv'⟩=>(match args'.all AV.isDat,asDL own' args' with
     | true,some ds=>(match dataRun P rec fn body ds with
      | some (v,_)=>(match pureV v.norm with|true=>some (v.norm,own',mv')|false=>full)
      | none=>full)
     | _,_=>full))
   (match asDL own args with
   | none=>frz
   | some ds=>(match dataRun P rec fn body ds with
    | none=>full
    | some (v,ob) =>
      (match pureV v.norm with
      | true=>(match args.all AV.isDat || v.norm.scal with|true=>some (v.norm,own,[])|false=>frz)
      | false=>(match args.all AV.isDat with|true=>some (v.shift own.length,own++ob.map (Obj.shift own.length),[])|false=>full)))))
def pcallO(P:Program)(rec:Code->S->Option (Exit×S)):CallO:=fun g args own =>
 match P.funcs[g]? with
 | none=>none
 | some fn=>(match fn.body with
  | none=>none
  | some body =>
   (match asDL own args with
   | none=>none
   | some ds=>(match dataRun P rec fn body ds with
    | none=>none
    | some (v,ob)=>gd (pureV v.norm && (args.all AV.isDat || v.norm.scal)) (some (v.norm,own,[])))))
variable {rec:Code->S->Option (Exit×S)}
def Names (P : Program) : Prop := ∀ (g : Nat) (fn : Func), P.funcs[g]? = some fn -> fn.name ≠ "runtime.NumGoroutine"
def runΓ(P:Program)(call:CallO):Nat->Contract:=fun g args own v own' mv=>call g args own=some (v,own',mv)
def frzLC(C:Contract):Contract:=fun args own v own' mv=>∃os args' n0 ,S.frzL os ⟨args,own,own.length,[]⟩=⟨args',own',n0,mv⟩/\C args' own' v own' []
def runC(P:Program)(n:Nat):Code->S->Option (Exit×S) :=
 Nat.rec (motive:=fun _=>Code->S->Option (Exit×S)) (fun _ _=>none) (fun _ rec=>stepC P (callO P rec) (pcallO P rec) rec) n
def evalF(P:Program)(n:Nat)(g:Nat)(ds:List D):Option AV :=
 match pcallO P (runC P n) g (ds.map .dat) [] with|some r=>some r.1|none=>none
end
end Go.AM

