/- Own work over the model of the kit. -/
import Derived.Test.YtjfoclncfhiffaaD5
import Derived.WalkKit
import Derived.ProofKit
import Derived.OpenShut
import Derived.ShutString
import Derived.ChangeOld
import Derived.Below
import Derived.Test.YtjfoclncfhiffaaD4
set_option linter.unnecessarySimpa false
set_option linter.unusedSimpArgs false
set_option linter.unusedVariables false
namespace Go.AM
open Go Go.ChangeShapes Go.WideShapes Go.ChangeAt Go.RowKit
theorem mapM_some{α β:Type}{f:α->Option β}:∀{l:List α} {r:List β},l.mapM f=some r->r.length=l.length/\∀(i:Nat) (x:α),l[i]?=some x->∃y,r[i]?=some y/\f x=some y
 | [],r,h=>by simp at h;subst h;simp
 | a :: l,r,h=>by
  rw[List.mapM_cons]at h
  cases ha:f a with
  | none=>rw[ha]at h;simp at h
  | some y =>
   rw[ha]at h
   cases hl:l.mapM f with
   | none=>rw[hl]at h;simp at h
   | some ys =>
    rw[hl]at h
    simp at h
    subst h
    obtain⟨h1,h2⟩:=mapM_some hl
    refine⟨by simp[h1],fun i x hx=>?_⟩
    cases i with
    | zero=>simp at hx;subst hx;exact⟨y,rfl,ha⟩
    | succ i=>simpa using h2 i x (by simpa using hx)
theorem mapM_range{β:Type}{f:Nat->Option β}{n:Nat}{r:List β}(h:(List.range n).mapM f=some r):r.length=n/\∀i,i<n->∃y,r[i]?=some y/\f i=some y:=by
 obtain⟨h1,h2⟩:=mapM_some h
 refine⟨by simpa using h1,fun i hi=>h2 i i (List.getElem?_range hi)⟩
def fieldsLaid(P:Program):Nat->List Field->Bool
 | _,[]=>true
 | o,f :: fs=>f.offset == o && fieldsLaid P (o+P.cellsOf f.type) fs
def fieldsSize(P:Program):List Field->Nat
 | []=>0
 | f :: fs=>P.cellsOf f.type+fieldsSize P fs
def plainT(P:Program):Nat->TypeId->Bool
 | 0,_=>false
 | n+1,t=>match P.underlying t with
  | some .bool=>true
  | some (.int _)=>true
  | some .string=>true
  | some (.slice e)=>plainT P n e && decide (0<P.cellsOf e)
  | some (.struct fs)=>fieldsLaid P 0 fs.toList && fs.toList.all (fun f=>plainT P n f.type) && P.cellsOf t == fieldsSize P fs.toList
  | some (.array k e)=>plainT P n e && P.cellsOf t == k*P.cellsOf e
  | _=>false
def aggT(P:Program)(t:TypeId):Bool:=match P.underlying t with|some (.struct _)=>true|some (.array _ _)=>true|_=>false
def wantT(P:Program)(t:TypeId):Option Nat:=if aggT P t then some (P.cellsOf t) else none
def packD(ag:Bool)(es:List D):D:=if ag then .agg es else es.headD default
def fieldsT(T:TypeId->List D->Prop):List Field->List D->Prop
 | [],ds=>ds=[]
 | f :: fs,ds=>∃a b,ds=a++b/\T f.type a/\fieldsT T fs b
def repT(T:List D->Prop):Nat->List D->Prop
 | 0,ds=>ds=[]
 | k+1,ds=>∃a b,ds=a++b/\T a/\repT T k b
def dataT(P:Program):Nat->TypeId->List D->Prop
 | 0,_,_=>False
 | n+1,t,ds=>match P.underlying t with
  | some .bool=>∃b,ds=[.bool b]
  | some (.int k)=>∃m,ds=[.int k m]/\(Lit.int k m).wf=true
  | some .string=>∃s,ds=[.str s]/\s.length<=maxLen
  | some (.slice e)=>∃xs,ds=[.sl (wantT P e) xs]/\xs.length<=maxLen/\∀x∈xs,∃es,dataT P n e es/\x=packD (aggT P e) es
  | some (.struct fs)=>fieldsT (dataT P n) fs.toList ds
  | some (.array k e)=>repT (dataT P n e) k ds
  | _=>False
theorem D.Cs_append{F:Nat->Prop}{w:World}:∀{as bs:List D} {cs ds:List Value},D.Cs F w as cs->D.Cs F w bs ds->D.Cs F w (as++bs) (cs++ds)
 | [],bs,cs,ds,h,k=>by simp only[D.Cs]at h;subst h;simpa using k
 | a :: as,bs,cs,ds,h,k=>by
  simp only[D.Cs]at h
  obtain⟨c,cs',rfl,h1,h2,h3⟩:=h
  simp only[List.cons_append,D.Cs]
  exact⟨c,_,rfl,h1,h2,D.Cs_append h3 k⟩
section
variable {H:Type} {enc:TypeId×Value->H} {P:Program} {w:World} {base:Nat} {spare:Nat->Bool} {held:Bool}
theorem fields_D{F:Nat->Prop}{n m:Nat}
  (ih:∀(t:TypeId) (cs:List Value) (x:DataW H×List MemPlace),plainT P m t=true->DataW.trod enc P w base spare held n t cs=some x->∃ds,dataT P m t ds/\D.Cs F w ds cs)
  {cs:List Value}:∀(fs:List Field) (o:Nat) {xs:List (DataW H×List MemPlace)},fieldsLaid P o fs=true->fs.all (fun f=>plainT P m f.type)=true->cs.length=o+fieldsSize P fs ->
   (fs.mapM fun f=>DataW.trod enc P w base spare held n f.type ((cs.drop f.offset).take (P.cellsOf f.type)))=some xs->∃ds,fieldsT (dataT P m) fs ds/\D.Cs F w ds (cs.drop o)
 | [],o,xs,_,_,hl,_=>by
  refine⟨[],rfl,?_⟩
  simp only[fieldsSize]at hl
  rw[List.drop_of_length_le (by omega)]
  simp only[D.Cs]
 | f :: fs,o,xs,hlaid,hall,hl,hm=>by
  simp only[fieldsLaid,Bool.and_eq_true,beq_iff_eq]at hlaid
  simp only[List.all_cons,Bool.and_eq_true]at hall
  simp only[fieldsSize]at hl
  rw[List.mapM_cons]at hm
  cases hf:DataW.trod enc P w base spare held n f.type ((cs.drop f.offset).take (P.cellsOf f.type)) with
  | none=>rw[hf]at hm;simp at hm
  | some y =>
   rw[hf]at hm
   cases hr:(fs.mapM fun f=>DataW.trod enc P w base spare held n f.type ((cs.drop f.offset).take (P.cellsOf f.type))) with
   | none=>rw[hr]at hm;simp at hm
   | some ys =>
    obtain⟨a,ha1,ha2⟩:=ih _ _ _ hall.1 hf
    obtain⟨b,hb1,hb2⟩:=fields_D ih fs (o+P.cellsOf f.type) hlaid.2 hall.2 (by omega) hr
    refine⟨a++b,⟨a,b,rfl,ha1,hb1⟩,?_⟩
    have:=D.Cs_append ha2 hb2
    rw[hlaid.1,← List.drop_drop,List.take_append_drop]at this
    exact this
theorem array_D{F:Nat->Prop}{n m k e:Nat}
  (ih:∀(t:TypeId) (cs:List Value) (x:DataW H×List MemPlace),plainT P m t=true->DataW.trod enc P w base spare held n t cs=some x->∃ds,dataT P m t ds/\D.Cs F w ds cs)
  {cs:List Value} (he:plainT P m e=true) (hl:cs.length=k*P.cellsOf e)
  (hm:∀i,i<k->∃y,DataW.trod enc P w base spare held n e ((cs.drop (i*P.cellsOf e)).take (P.cellsOf e))=some y) :
  ∀r i,i+r=k->∃ds,repT (dataT P m e) r ds/\D.Cs F w ds (cs.drop (i*P.cellsOf e))
 | 0,i,hi=>by
  have:i=k:=by omega
  subst this
  refine⟨[],rfl,?_⟩
  rw[List.drop_of_length_le (by omega)]
  simp only[D.Cs]
 | r+1,i,hi=>by
  obtain⟨y,hy⟩:=hm i (by omega)
  obtain⟨a,ha1,ha2⟩:=ih _ _ _ he hy
  obtain⟨b,hb1,hb2⟩:=array_D ih he hl hm r (i+1) (by omega)
  refine⟨a++b,⟨a,b,rfl,ha1,hb1⟩,?_⟩
  have:=D.Cs_append ha2 hb2
  rw[Nat.succ_mul,← List.drop_drop,List.take_append_drop]at this
  exact this
theorem cell_lt{a:Addr}{v:Value}(h:w.cell? a=some v):a.block<w.heap.size:=by
 unfold World.cell? at h
 split at h
 ·rename_i c t f he
  exact(Array.getElem?_eq_some_iff.1 he).1
 ·cases h
theorem cells_get{a:Addr}{n:Nat}{cs:List Value}(h:w.cells? base a n=some cs):cs.length=n/\∀j,j<n->w.cell? (a.add j)=cs[j]?:=by
 unfold World.cells? at h
 split at h
 ·obtain⟨h1,h2⟩:=mapM_range h
  refine⟨h1,fun j hj=>?_⟩
  obtain⟨y,hy,hf⟩:=h2 j hj
  rw[hy,hf]
 ·cases h
theorem add_add(a:Addr)(hs:a.spot=none)(i j:Nat):(a.add i).add j=⟨a.block,a.off+i+j,none⟩:=by
 obtain⟨b,o,s⟩:=a
 simp only at hs
 subst hs
 unfold Addr.add
 split <;> split <;> simp_all
theorem aggT_false{t:TypeId}(h:aggT P t=false){m:Nat}{ds:List D}(hd:dataT P m t ds):∃d,ds=[d]:=by
 cases m with
 | zero=>exact hd.elim
 | succ m =>
  unfold aggT at h
  unfold dataT at hd
  split at hd
  ·obtain⟨b,rfl⟩:=hd;exact⟨_,rfl⟩
  ·obtain⟨b,rfl,_⟩:=hd;exact⟨_,rfl⟩
  ·obtain⟨b,rfl,_⟩:=hd;exact⟨_,rfl⟩
  ·obtain⟨b,rfl,_⟩:=hd;exact⟨_,rfl⟩
  ·rename_i hu;rw[hu]at h;cases h
  ·rename_i hu;rw[hu]at h;cases h
  ·exact hd.elim
theorem trod_D{F:Nat->Prop}(hF:∀b,b<w.heap.size->F b):∀(n m:Nat) (t:TypeId) (cs:List Value) (x:DataW H×List MemPlace),plainT P m t=true ->
  DataW.trod enc P w base spare held n t cs=some x->∃ds,dataT P m t ds/\D.Cs F w ds cs
 | 0,m,t,cs,x,_,h=>by simp[DataW.trod]at h
 | n+1,0,t,cs,x,hp,h=>by simp[plainT]at hp
 | n+1,m+1,t,cs,x,hp,h=>by
  have ih':∀(t:TypeId) (cs:List Value) (x:DataW H×List MemPlace),plainT P m t=true->DataW.trod enc P w base spare held n t cs=some x->∃ds,dataT P m t ds/\D.Cs F w ds cs :=
   fun t cs x hp h=>trod_D hF n m t cs x hp h
  unfold plainT at hp
  unfold DataW.trod at h
  unfold dataT
  cases hu:P.underlying t with
  | none=>rw[hu]at hp;cases hp
  | some u =>
   rw[hu]at hp h
   cases u with
   | bool =>
    simp only at h ⊢
    split at h <;> first|cases h|skip
    all_goals simp_all only[reduceCtorEq,Option.some.injEq,TypeDesc.int.injEq]
    rename_i b
    exact⟨[.bool b],⟨b,rfl⟩,by simp only[D.Cs];exact⟨_,[],rfl,rfl,by simp only[D.C],rfl⟩⟩
   | int k =>
    simp only at h ⊢
    split at h <;> first|cases h|skip
    all_goals simp_all only[reduceCtorEq,Option.some.injEq,TypeDesc.int.injEq]
    rename_i k0 k' n' _
    split at h
    ·rename_i hk
     obtain⟨rfl,hw⟩:=hk
     exact⟨[.int k' n'],⟨n',rfl,hw⟩,by simp only[D.Cs];exact⟨_,[],rfl,rfl,by simp only[D.C];exact⟨trivial,hw⟩,rfl⟩⟩
    ·cases h
   | string =>
    simp only at h ⊢
    split at h <;> first|cases h|skip
    all_goals simp_all only[reduceCtorEq,Option.some.injEq,TypeDesc.int.injEq]
    rename_i s
    split at h
    ·rename_i hk
     exact⟨[.str s.data.toList],⟨_,rfl,by simpa using hk⟩,by simp only[D.Cs];exact⟨_,[],rfl,rfl,by simp only[D.C];exact⟨by simp,by simpa using hk⟩,rfl⟩⟩
    ·cases h
   | slice e =>
    simp only[Bool.and_eq_true,decide_eq_true_eq]at hp
    simp only at h ⊢
    split at h <;> first|cases h|skip
    all_goals simp_all only[reduceCtorEq,Option.some.injEq,TypeDesc.slice.injEq]
    ·exact⟨[.sl (wantT P _) []],⟨[],rfl,Nat.zero_le _,by simp⟩,by simp only[D.Cs];exact⟨_,[],rfl,rfl,by simp only[D.C];exact⟨none,0,rfl,by simp,Nat.zero_le _,.inl trivial⟩,rfl⟩⟩
    ·rename_i a len cap he
     subst he
     split at h
     ·rename_i hb
      obtain⟨hb1,hb2,hb3⟩:=hb
      rw[Option.bind_eq_some_iff]at h
      obtain⟨elems,hel,_⟩:=h
      obtain⟨hlen,hget⟩:=mapM_range hel
      have each:∀i,i<len->∃es cs,dataT P m e es/\D.Cs F w es cs/\cs.length=P.cellsOf e/\(∀j,j<P.cellsOf e->w.cell? ((a.add (i*P.cellsOf e)).add j)=cs[j]?):=by
       intro i hi
       obtain⟨y,_,hy⟩:=hget i hi
       rw[Option.bind_eq_some_iff]at hy
       obtain⟨cs,hc,ht⟩:=hy
       obtain⟨c1,c2⟩:=cells_get hc
       obtain⟨es,t1,t2⟩:=ih' _ _ _ hp.1 ht
       exact⟨es,cs,t1,t2,c1,c2⟩
      have hx:∃xs:List D,xs.length=len/\∀i,i<len->∃es cs,dataT P m e es/\D.Cs F w es cs/\cs.length=P.cellsOf e/\(∀j,j<P.cellsOf e->w.cell? ((a.add (i*P.cellsOf e)).add j)=cs[j]?)/\xs[i]?=some (packD (aggT P e) es):=by
       classical
       refine⟨(List.range len).map fun i=>if hi:i<len then packD (aggT P e) (Classical.choose (each i hi)) else default,by simp,fun i hi=>?_⟩
       obtain⟨cs,q⟩:=Classical.choose_spec (each i hi)
       refine⟨Classical.choose (each i hi),cs,q.1,q.2.1,q.2.2.1,q.2.2.2,?_⟩
       rw[List.getElem?_map,List.getElem?_range hi]
       simp only[Option.map_some,hi,dif_pos]
      obtain⟨xs,hxl,hxe⟩:=hx
      refine⟨[.sl (wantT P e) xs],⟨xs,rfl,by omega,?_⟩,?_⟩
      ·intro x hx
       obtain⟨i,hi,rfl⟩:=List.getElem_of_mem hx
       obtain⟨es,cs,q1,_,_,_,q2⟩:=hxe i (by omega)
       rw[List.getElem?_eq_getElem hi]at q2
       exact⟨es,q1,Option.some.inj q2⟩
      ·simp only[D.Cs]
       refine⟨_,[],rfl,rfl,?_,rfl⟩
       simp only[D.C]
       refine⟨some a,cap,by rw[hxl],by omega,hb3,?_⟩
       by_cases h0:len=0
       ·left
        exact List.eq_nil_of_length_eq_zero (by omega)
       ·right
        obtain⟨es,cs,_,_,q3,q4,_⟩:=hxe 0 (by omega)
        have hc0:=q4 0 hp.2
        rw[List.getElem?_eq_getElem (by omega)]at hc0
        have ha:a.spot=none:=by
         have:=World.cell?_spot hc0
         simpa [Addr.add] using this
        have hlt:=cell_lt hc0
        have hblk:((a.add (0*P.cellsOf e)).add 0).block=a.block:=by simp[Addr.add]
        rw[hblk]at hlt
        obtain⟨b,off,s⟩:=a
        simp only at ha
        subst ha
        refine⟨b,off,rfl,hF b hlt,?_⟩
        refine D.Cr_of_get _ _ _ _ fun i d hd=>?_
        have hi:i<len:=by rw[← hxl];exact(List.getElem?_eq_some_iff.1 hd).1
        obtain⟨es,cs,t1,t2,t3,t4,t5⟩:=hxe i hi
        rw[hd]at t5
        cases t5
        have hcells:∀j,j<P.cellsOf e->w.cell? ⟨b,off+i*P.cellsOf e+j,none⟩=cs[j]?:=fun j hj=>by
         rw[← t4 j hj,add_add _ rfl]
        by_cases hag:aggT P e=true
        ·refine⟨cs,?_,?_,?_,?_⟩
         ·simp[wantT,hag,Go.AM.es,t3]
         ·simpa [wantT,hag,Go.AM.es] using hcells
         ·simp[wantT,hag,packD,D.isAgg]
         ·simp only[packD,hag,if_true,D.C];exact t2
        ·have hag':aggT P e=false:=by simpa using hag
         obtain⟨d,rfl⟩:=aggT_false hag' t1
         simp only[D.Cs]at t2
         obtain⟨c,cs',rfl,g1,g2,rfl⟩:=t2
         have hone:P.cellsOf e=1:=by simpa using t3.symm
         rw[hone]at hcells
         refine⟨[c],?_,?_,?_,?_⟩
         ·simp[wantT,hag',Go.AM.es]
         ·simpa [wantT,hag',Go.AM.es] using hcells
         ·simp[wantT,hag',packD,g1]
         ·simpa [packD,hag'] using g2
     ·cases h
   | struct fs =>
    simp only[Bool.and_eq_true,beq_iff_eq]at hp
    simp only at h ⊢
    split at h <;> first|cases h|skip
    all_goals simp_all only[reduceCtorEq,Option.some.injEq,TypeDesc.struct.injEq]
    rename_i hl
    rw[Option.map_eq_some_iff]at h
    obtain⟨xs,hxs,_⟩:=h
    obtain⟨ds,h1,h2⟩:=fields_D ih' fs.toList 0 hp.1.1 hp.1.2 (by omega) hxs
    exact⟨ds,h1,by simpa using h2⟩
   | array k e =>
    simp only[Bool.and_eq_true,beq_iff_eq]at hp
    simp only at h ⊢
    split at h <;> first|cases h|skip
    all_goals simp_all only[reduceCtorEq,Option.some.injEq,TypeDesc.array.injEq]
    rename_i hl
    rw[Option.map_eq_some_iff]at h
    obtain⟨xs,hxs,_⟩:=h
    obtain⟨_,hg⟩:=mapM_range hxs
    obtain⟨ds,h1,h2⟩:=array_D (e:=e) ih' hp.1 hl (fun i hi=>by obtain⟨y,_,hy⟩:=hg i hi;exact⟨y,hy⟩) k 0 (by omega)
    exact⟨ds,h1,by simpa using h2⟩
   | _=>cases hp
end
end Go.AM
namespace Go.AM
open Go Go.ChangeShapes Go.WideShapes Go.ChangeAt Go.RowKit
def argT(P:Program)(m:Nat)(t:TypeId)(d:D):Prop:=∃ds,dataT P m t ds/\d=packD (aggT P t) ds
def argsT(P:Program)(m:Nat):List TypeId->List D->Prop
 | [],ds=>ds=[]
 | t :: ts,ds=>∃d ds',ds=d :: ds'/\argT P m t d/\argsT P m ts ds'
section
variable {H:Type} {enc:TypeId×Value->H} {P:Program} {w:World} {base:Nat} {spare:Nat->Bool} {held:Bool}
theorem arg_D{F:Nat->Prop}(hF:∀b,b<w.heap.size->F b){m:Nat}{t:TypeId}{v:Value}{d:DataW H}{ps:List MemPlace}{r:Reach}{base':Nat}(hp:plainT P m t=true)
  (hok:Value.okWide P w r base' t v) (h:DataW.Trod enc P w base spare held t v d ps):∃x,argT P m t x/\D.R F w x v:=by
 obtain⟨n,hn⟩:=h
 obtain⟨ds,h1,h2⟩:=trod_D hF n m t _ _ hp hn
 refine⟨_,⟨ds,h1,rfl⟩,?_⟩
 by_cases hag:aggT P t=true
 ·have hv:∃cs,v=.agg cs:=by
   unfold aggT at hag
   unfold Value.okWide at hok
   split at hag
   ·rename_i hu
    rw[hu]at hok
    obtain⟨cs,hc,_⟩:=hok
    exact⟨cs,hc⟩
   ·rename_i hu
    rw[hu]at hok
    obtain⟨cs,hc,_⟩:=hok
    exact⟨cs,hc⟩
   ·cases hag
  obtain⟨cs,rfl⟩:=hv
  simp only[packD,hag,if_true]
  exact⟨cs.toList,by simp,by simpa [Value.cells] using h2⟩
 ·have hag':aggT P t=false:=by simpa using hag
  obtain⟨x,rfl⟩:=aggT_false hag' h1
  have hc:v.cells=#[v]:=by
   cases m with
   | zero=>simp[plainT]at hp
   | succ m =>
    unfold plainT at hp
    split at hp
    ·rename_i hu;obtain⟨b,rfl⟩:=okWide_bool hu hok;rfl
    ·rename_i hu;obtain⟨b,rfl⟩:=okWide_int hu hok;rfl
    ·rename_i hu;obtain⟨b,rfl⟩:=okWide_string hu hok;rfl
    ·rename_i hu;obtain⟨_,_,_,rfl⟩:=okWide_slice hu hok;rfl
    ·rename_i hu;unfold aggT at hag';rw[hu]at hag';cases hag'
    ·rename_i hu;unfold aggT at hag';rw[hu]at hag';cases hag'
    ·cases hp
  rw[hc]at h2
  simp only[D.Cs]at h2
  obtain⟨c,cs',e,g1,g2,rfl⟩:=h2
  simp only[List.cons.injEq,and_true]at e
  subst e
  simp only[packD,hag',Bool.false_eq_true,if_false,List.headD_cons]
  exact(D.R_plain g1).2 g2
theorem args_D{F:Nat->Prop}(hF:∀b,b<w.heap.size->F b){m:Nat}{r:Reach}{base':Nat}:∀(ts:List TypeId) (vs:List Value) (ds:List (DataW H)) (ps:List MemPlace),ts.all (plainT P m)=true ->
  (∀(j:Nat) t v,ts[j]?=some t->vs[j]?=some v->Value.okWide P w r base' t v)->DataW.TrodAll enc P w base spare held ts vs ds ps->∃xs,argsT P m ts xs/\AV.Rs F (fun _=>none) w (xs.map .dat) vs
 | [],vs,ds,ps,_,_,h=>by
  obtain⟨rfl,_,_⟩:=trodAll_nil h
  exact⟨[],rfl,by simp only[List.map_nil,AV.Rs]⟩
 | t :: ts,vs,ds,ps,hp,hok,h=>by
  obtain⟨v,vs',d,ds',p,q,rfl,rfl,rfl,h1,h2⟩:=trodAll_cons h
  simp only[List.all_cons,Bool.and_eq_true]at hp
  obtain⟨x,x1,x2⟩:=arg_D hF hp.1 (hok 0 t v rfl rfl) h1
  obtain⟨xs,y1,y2⟩:=args_D hF ts vs' ds' q hp.2 (fun j t v ht hv=>hok (j+1) t v (by simpa using ht) (by simpa using hv)) h2
  refine⟨x :: xs,⟨x,xs,rfl,x1,y1⟩,?_⟩
  simp only[List.map_cons,AV.Rs]
  exact⟨v,vs',rfl,by simp only[AV.R];exact x2,y2⟩
theorem trodAll_below(hl:laidOutB P=true){w':World}(hb:Below w.heap.size w w'):∀(ts:List TypeId) (vs:List Value) (ds:List (DataW H)) (ps:List MemPlace),(∀t∈ts,P.readableRec t=true/\t<P.types.size)->(∀x∈ps,x.block<w.heap.size) ->
  DataW.TrodAll enc P w 0 (fun _=>true) true ts vs ds ps->DataW.TrodAll enc P w' 0 (fun b=>decide (b<w.heap.size)) true ts vs ds ps
 | [],vs,ds,ps,_,_,h=>by
  obtain⟨rfl,rfl,rfl⟩:=trodAll_nil h
  exact trodAll_mk0
 | t :: ts,vs,ds,ps,hr,hlt,h=>by
  obtain⟨v,vs',d,ds',p,q,rfl,rfl,rfl,h1,h2⟩:=trodAll_cons h
  exact trodAll_cons_mk (Below.trod hl (hr t (by simp)).1 (hr t (by simp)).2 h1 hb (fun x hx=>hlt x (by simp[hx]))) (trodAll_below hl hb ts vs' ds' q (fun t ht=>hr t (by simp[ht])) (fun x hx=>hlt x (by simp[hx])) h2)
theorem trodAll_lt:∀(ts:List TypeId) (vs:List Value) (ds:List (DataW H)) (ps:List MemPlace),DataW.TrodAll enc P w 0 spare held ts vs ds ps->∀x∈ps,x.block<w.heap.size
 | [],vs,ds,ps,h=>by
  obtain⟨rfl,rfl,rfl⟩:=trodAll_nil h
  simp
 | t :: ts,vs,ds,ps,h=>by
  obtain⟨v,vs',d,ds',p,q,rfl,rfl,rfl,⟨n,h1⟩,h2⟩:=trodAll_cons h
  intro x hx
  rcases List.mem_append.1 hx with hx|hx
  ·exact DataW.trod_lt n _ _ _ h1 x hx
  ·exact trodAll_lt ts vs' ds' q h2 x hx
end
def LawAt(P:Program)(f:Nat)(m:Nat)(ts:List TypeId):Prop:=∀xs,argsT P m ts xs->∃R,OkF P f (dataC R)/\R xs (.dat (.bool true))
theorem asDL_dats(own:List Obj):∀xs:List D,asDL own (xs.map .dat)=some xs
 | []=>rfl
 | x :: xs=>by simp only[List.map_cons,asDL,AV.asD,asDL_dats own xs,Option.bind_some,Option.map_some]
theorem law_calls{P:Program}{f m:Nat}{ts:List TypeId}(hlaw:LawAt P f m ts){F:Nat->Prop}{w:World}(hF:∀b,F b↔b<w.heap.size)(hg:GlobOk F w){xs:List D}{vs:List Value}(ht:argsT P m ts xs)
  (hv:AV.Rs F (fun _=>none) w (xs.map .dat) vs):Calls P f vs.toArray w fun e w'=>e=.returned (.bool true)/\Below w.heap.size w w':=by
 obtain⟨R,hok,hR⟩:=hlaw xs ht
 have hc:Conc F (fun _=>none) [] w:=⟨fun b hb=>(hF b).1 hb,(fun o L h=>by cases h),(fun o o' L L' h=>by cases h),(fun o obj h=>by simp at h),fun _ _=>rfl,hg⟩
 have hC:dataC R (xs.map .dat) [] (.dat (.bool true)) [] []:=⟨xs,asDL_dats _ _,hR,rfl,rfl,.inr rfl⟩
 refine((hok _ _ _ _ _ hC).2 F _ w vs hc hv).mono ?_
 rintro e w' ⟨r,F',φ',rfl,ha,hr⟩
 have:r=.bool true:=by simpa only[AV.R,D.R,D.C,List.cons.injEq,and_true] using hr
 subst this
 exact⟨rfl,ha.ext.os,ha.ext.tape,ha.ext.output,ha.ext.size,fun k hk=>ha.ext.same k ((hF k).2 hk)⟩
theorem law_lifted{C:Checked}{os:Os}{f:FuncId}{fn:Func}{s:ChangeSpec}{H:Type}{enc:TypeId×Value->H}(m:Nat)(own:ownKnob C.prog.godebug=none)(started:os.Started)
  (noInit:C.prog.inits.idxOf? f=none) (hfn:C.prog.funcs[f]?=some fn) (tb:TypeId) (hres:fn.resultTypes.toList=[tb]) (hsz:fn.resultTypes.size=1) (htb:C.prog.underlying tb=some .bool) (hvars:s.vars=[])
  (laidOut:laidOutB C.prog=true) (hread:fn.params.toList.all (fun t=>C.prog.readableRec t && decide (t<C.prog.types.size))=true) (hplain:fn.params.toList.all (plainT C.prog m)=true)
  (hspec:∀(H:Type) (ds:List (DataW H)),ds.length=fn.params.toList.length->s.fn H ds={ results:=[.lit (.bool true)],args:=ds })
  (hlaw:LawAt C.prog f m fn.params.toList) (hglob:∀F w,GlobOk F w)
  (witness:∃(w:World) (tape:Tape) (i:Input),w.os=os/\(w.forCall tape i).Shaped C.prog/\i.vars=[]/\Input.okWide C.prog (w.forCall tape i) .any w.heap.size f i /\
   s.pre6 enc C.prog fn [] false (w.forCall tape i).memory i.args/\({}:Assume).holds C.prog (lone (Frame.enter C.prog f i.args .normal) [] (w.forCall tape i))) :
  ReturnsInHanded {} C os f .any (s.pre6 enc C.prog fn [] false) (s.post enc C.prog fn false true false false):=by
 refine returnsInHanded_of_change own started noInit hfn witness ?_
 intro W base args ds gs before hval hW hcnd _
 have hW':=hW
 obtain⟨p,q,hA,hV,rfl,hfz,hnd⟩:=hW
 rw[hvars]at hV
 obtain⟨rfl,rfl⟩:=trodVars_none hV
 have hlt:=trodAll_lt _ _ _ _ hA
 obtain⟨xs,hx1,hx2⟩:=args_D (F:=fun b=>b<W.heap.size) (fun b hb=>hb) fn.params.toList args.toList ds p hplain
  (fun j t v ht hv=>hval j t v (by simpa using ht) (by simpa using hv)) hA
 have hc:=law_calls hlaw (F:=fun b=>b<W.heap.size) (fun b=>Iff.rfl) (hglob _ _) hx1 hx2
 have hargs:args.toList.toArray=args:=by simp
 rw[hargs]at hc
 refine hc.mono ?_
 rintro e W' ⟨rfl,bel⟩
 have hlen:ds.length=fn.params.toList.length:=by
  have key:∀(ts:List TypeId) (vs:List Value) (ds:List (DataW H)) (ps:List MemPlace),DataW.TrodAll enc C.prog W 0 (fun _=>true) true ts vs ds ps->ds.length=ts.length:=by
   intro ts
   induction ts with
   | nil=>intro vs ds ps h;obtain⟨_,rfl,_⟩:=trodAll_nil h;rfl
   | cons t ts ih=>intro vs ds ps h;obtain⟨v,vs',d,ds',p,q,rfl,rfl,rfl,h1,h2⟩:=trodAll_cons h;simp[ih _ _ _ h2]
  exact key _ _ _ _ hA
 have hfn':s.fn H (ds++[])={ results:=[.lit (.bool true)],args:=ds }:=by rw[List.append_nil];exact hspec H ds hlen
 refine⟨_,rfl,ds,[],p++[],[],p,[],hW',?_,?_,?_,bel.frame _,fun h=>by cases h⟩
 ·rw[hfn',hres,hsz]
  exact trodAll_mk1 (shut_bool htb true)
 ·rw[hfn']
  exact trodAll_below laidOut bel _ _ _ _ (fun t ht=>by
   have:=List.all_eq_true.1 hread t ht
   simpa using this) hlt hA
 ·rw[hfn',hvars]
  rfl
section
variable {P:Program} {m:Nat} {t e:TypeId} {ds:List D}
theorem dataT_int{k:IntKind}(hu:P.underlying t=some (.int k)):dataT P (m+1) t ds=∃n,ds=[.int k n]/\(Lit.int k n).wf=true:=by unfold dataT;rw[hu]
theorem dataT_slice(hu:P.underlying t=some (.slice e)):dataT P (m+1) t ds=∃xs,ds=[.sl (wantT P e) xs]/\xs.length<=maxLen/\∀x∈xs,argT P m e x:=by unfold dataT;rw[hu];rfl
theorem arg_int{x:D}{k:IntKind}(hu:P.underlying t=some (.int k))(h:argT P (m+1) t x):∃n,x=.int k n/\(Lit.int k n).wf=true:=by
 obtain⟨ds,h1,rfl⟩:=h
 rw[dataT_int hu]at h1
 obtain⟨b,rfl,h2⟩:=h1
 exact⟨b,by simp[packD,aggT,hu],h2⟩
theorem arg_slice{x:D}(hu:P.underlying t=some (.slice e))(h:argT P (m+1) t x):∃xs,x=.sl (wantT P e) xs/\xs.length<=maxLen/\∀x∈xs,argT P m e x:=by
 obtain⟨ds,h1,rfl⟩:=h
 rw[dataT_slice hu]at h1
 obtain⟨b,rfl,h2⟩:=h1
 exact⟨b,by simp[packD,aggT,hu],h2⟩
def structTypes(P:Program)(t:TypeId):Option (List TypeId):=match P.underlying t with|some (.struct fs)=>some (fs.toList.map (·.type))|_=>none
def fieldsL(T:TypeId->List D->Prop):List TypeId->List D->Prop
 | [],ds=>ds=[]
 | f :: fs,ds=>∃a b,ds=a++b/\T f a/\fieldsL T fs b
theorem list_of{α:Type}{xs:List D}(f:α->D){Q:α->Prop}(h:∀x∈xs,∃a,x=f a/\Q a):∃l:List α,xs=l.map f/\∀a∈l,Q a:=by
 induction xs with
 | nil=>exact⟨[],rfl,by simp⟩
 | cons x xs ih =>
  obtain⟨a,rfl,ha⟩:=h x (by simp)
  obtain⟨l,rfl,hl⟩:=ih fun y hy=>h y (by simp[hy])
  exact⟨a :: l,rfl,fun b hb=>by rcases List.mem_cons.1 hb with rfl|hb <;> first|exact ha|exact hl b hb⟩
end
end Go.AM
namespace Go.AM
open Go
theorem conc_freeze{F:Nat->Prop}{φ:Nat->Option Loc}{own:List Obj}{w:World}(h3:Conc F φ own w)(o:Nat){ag:Option Nat}{xs:List D}(ho:own[o]?=some (.row ag xs)) :
  ∃(F':Nat->Prop) (φ':Nat->Option Loc),(∀b,F b->F' b)/\Conc F' φ' ((own.map (Obj.frz o ag xs)).set o .dead) w/\(∀as vs,AV.Rs F φ w as vs->AV.Rs F' φ' w (AV.frzs o ag xs as) vs) /\
   (∀o' L',o'≠o->φ o'=some L'->φ' o'=some L')/\(∀o' L',φ' o'=some L'->φ o'=some L')/\(∀b,F' b->F b∨∃L,φ o=some L/\L.nil=false/\L.b=b):=by
 have hlt:o<own.length:=by
  rcases Nat.lt_or_ge o own.length with h|h
  ·exact h
  ·rw[List.getElem?_eq_none h]at ho;cases ho
 have hrep:=h3.rep o _ ho
 obtain⟨L,hL⟩:∃L,φ o=some L:=by
  cases hl:φ o with
  | none=>rw[hl]at hrep;simp only[ObjR]at hrep
  | some L=>exact⟨L,rfl⟩
 rw[hL]at hrep
 let F':Nat->Prop:=fun b=>F b∨(L.nil=false/\b=L.b)
 let φ':Nat->Option Loc:=fun i=>if i=o then none else φ i
 have hF:∀b,F b->F' b:=fun b hb=>.inl hb
 have hFL:L.nil=false->F' L.b:=fun hn=>.inr ⟨hn,rfl⟩
 have hφ:∀o' L',o'≠o->φ o'=some L'->φ' o'=some L':=fun o' L' hne h=>by simp only[φ',hne,if_false];exact h
 refine⟨F',φ',hF,?_,fun as vs h4=>AV.Rs_frz hF hφ hL hFL hrep _ _ h4,hφ,fun o' L' ho'=>?_,fun b hb=>?_⟩
 ·constructor
  ·intro b hb
   rcases hb with hb|⟨hn',rfl⟩
   ·exact h3.fb b hb
   ·exact(h3.live o L hL hn').2
  ·intro o' L' ho' hn'
   simp only[φ']at ho'
   split at ho'
   ·cases ho'
   ·rename_i hne
    refine⟨fun hF'=>?_,(h3.live o' L' ho' hn').2⟩
    rcases hF' with hF'|⟨hn2,hb⟩
    ·exact(h3.live o' L' ho' hn').1 hF'
    ·exact h3.inj o' o L' L ho' hL hn' hn2 hne hb
  ·intro o1 o2 L1 L2 h1 h2' n1 n2 hne
   simp only[φ']at h1 h2'
   split at h1 <;> split at h2' <;> first|exact h3.inj o1 o2 L1 L2 h1 h2' n1 n2 hne|cases h1|cases h2'
  ·intro o' obj ho'
   rw[List.getElem?_set]at ho'
   by_cases e:o=o'
   ·subst e
    simp only[if_true,List.length_map,hlt,Option.some.injEq]at ho'
    subst ho'
    simp only[φ',if_true,ObjR]
   ·simp only[e,if_false,List.getElem?_map,Option.map_eq_some_iff]at ho'
    obtain⟨ob,hob,rfl⟩:=ho'
    have hrep':=h3.rep o' ob hob
    simp only[φ',if_neg (fun e':o'=o=>e e'.symm)]
    cases hl:φ o' with
    | none=>rw[hl]at hrep';cases ob <;> simp only[ObjR,Obj.frz]at hrep' ⊢
    | some L' =>
     rw[hl]at hrep'
     cases ob with
     | vec cs =>
      simp only[ObjR,Obj.frz]at hrep' ⊢
      obtain⟨q1,q2⟩:=hrep'
      refine⟨q1,?_⟩
      have hl':(AV.frzs o ag xs cs).length=cs.length:=AV.frzs_length _
      rcases q2 with⟨q2,q3⟩|⟨q2,arr,ty,q3,q4,q5,vs,q6,q7⟩
      ·subst q3;exact .inl ⟨q2,rfl⟩
      ·exact .inr ⟨q2,arr,ty,q3,q4,by rw[hl'];exact q5,vs,AV.Ra_frz hF hφ hL hFL hrep _ _ q6,by rw[hl'];exact q7⟩
     | tab k0 cs =>
      simp only[ObjR,Obj.frz]at hrep' ⊢
      obtain⟨q1,q2⟩:=hrep'
      refine⟨q1,?_⟩
      have hl':(AV.frzs o ag xs cs).length=cs.length:=AV.frzs_length _
      rcases q2 with⟨q2,q3⟩|⟨q2,arr,ty,q3,q4,q5,vs,q6,q7⟩
      ·subst q3;exact .inl ⟨q2,rfl⟩
      ·exact .inr ⟨q2,arr,ty,q3,q4,by rw[hl'];exact q5,vs,AV.Ra_frz hF hφ hL hFL hrep _ _ q6,by rw[hl'];exact q7⟩
     | box cs =>
      simp only[ObjR,Obj.frz]at hrep' ⊢
      obtain⟨q1,q2,arr,ty,q3,q4,q5⟩:=hrep'
      exact⟨q1,q2,arr,ty,q3,q4,AV.Ra_frz hF hφ hL hFL hrep _ _ q5⟩
     | lp r0 cs =>
      simp only[ObjR,Obj.frz]at hrep' ⊢
      obtain⟨q1,q2,arr,ty,q3,q4,q5⟩:=hrep'
      exact⟨q1,q2,arr,ty,q3,q4,AV.Rs_frz hF hφ hL hFL hrep _ _ q5⟩
     | bld T0 u0 cs =>
      simp only[ObjR,Obj.frz]at hrep' ⊢
      obtain⟨q1,q2,arr,ty,q3,q4,q5⟩:=hrep'
      exact⟨q1,q2,arr,ty,q3,q4,AV.Rs_frz hF hφ hL hFL hrep _ _ q5⟩
     | row ag' xs' =>
      simp only[ObjR,Obj.frz]at hrep' ⊢
      obtain⟨q1,q2⟩:=hrep'
      refine⟨q1,?_⟩
      rcases q2 with q2|⟨q2,q3,q4,q5⟩
      ·exact .inl q2
      ·exact .inr ⟨q2,q3,q4,D.Cr_congr hF (Same.refl F w) ag' L'.b L'.b _ _ _ (fun _ _=>rfl) q5⟩
     | brow e0 bs0=>simpa only[ObjR,Obj.frz] using hrep'
     | map m =>
      simp only[ObjR,Obj.frz]at hrep' ⊢
      obtain⟨q1,es,clock,q3,q4⟩:=hrep'
      exact⟨q1,es,clock,q3,mapR_mono hF (Same.refl F w) _ _ q4⟩
     | dead=>simp only[ObjR,Obj.frz]
  ·intro o' ho'
   simp only[List.length_set,List.length_map]at ho'
   simp only[φ']
   rw[if_neg (by omega)]
   exact h3.out o' ho'
  ·exact h3.glob.mono hF (Same.refl F w)
 ·simp only[φ']at ho'
  split at ho'
  ·cases ho'
  ·exact ho'
 ·rcases hb with hb|⟨hn',rfl⟩
  ·exact .inl hb
  ·exact .inr ⟨L,hL,hn',rfl⟩
def frzC(C:Contract):Contract:=fun args own v own' mv=>∃o ag xs mv',own[o]?=some (.row ag xs)/\C (AV.frzs o ag xs args) ((own.map (Obj.frz o ag xs)).set o .dead) v own' mv'/\mv=o :: mv'
theorem okF_frz{P:Program}{g:Nat}{C:Contract}(h:OkF P g C):OkF P g (frzC C):=by
 rintro args own v own' mv ⟨o,ag,xs,mv',ho,hC,rfl⟩
 refine⟨(h _ _ _ _ _ hC).1,fun F φ w vs hc hs=>?_⟩
 obtain⟨F1,φ1,q1,q2,q3,q4,q5,q6⟩:=conc_freeze hc o ho
 refine((h _ _ _ _ _ hC).2 F1 φ1 w vs q2 (q3 _ _ hs)).mono ?_
 rintro e w' ⟨r,F',φ',rfl,ha,hv⟩
 refine⟨r,F',φ',rfl,⟨fun b hb=>ha.sub b (q1 b hb),ha.ext.mono q1,ha.conc,fun o' L hm hL=>?_,fun b hb hall=>?_,fun o' L' ho' hn'=>?_,fun b hb=>?_⟩,hv⟩
 ·simp only[List.mem_cons,not_or]at hm
  exact ha.keep o' L hm.2 (q4 o' L hm.1 hL)
 ·exact ha.rest b hb (fun o' L ho' hn=>hall o' L (q5 o' L ho') hn)
 ·rcases ha.orig o' L' ho' hn' with h|⟨o2,L,h1,h2,h3⟩
  ·exact .inl h
  ·exact .inr ⟨o2,L,q5 _ _ h1,h2,h3⟩
 ·rcases ha.frsh b hb with h|h|⟨o2,L,h1,h2,h3⟩
  ·rcases q6 b h with h|h
   ·exact .inl h
   ·exact .inr (.inr ⟨o,h⟩)
  ·exact .inr (.inl h)
  ·exact .inr (.inr ⟨o2,L,q5 _ _ h1,h2,h3⟩)
theorem call_frzdata{l:List (Nat×Contract)}{g:Nat}(R:List D->AV->Prop)(hm:(g,frzC (dataC R))∈l){args:List AV}{own:List Obj}{K:AV->List Obj->List Nat->Prop}(o:Nat){ag:Option Nat}{xs:List D}(ho:own[o]?=some (.row ag xs))(ds:List D)(v:AV)
  (hds:asDL ((own.map (Obj.frz o ag xs)).set o .dead) (AV.frzs o ag xs args)=some ds) (hR:R ds v) (hsc:(AV.frzs o ag xs args).all AV.isDat=true∨v.scal=true)
  (hK:K v ((own.map (Obj.frz o ag xs)).set o .dead) [o]):callw (tbl l) (.fn g []) args own K:=by
 refine call_by (frzC (dataC R)) hm v _ [o] ?_ hK
 exact⟨o,ag,xs,[],ho,⟨ds,hds,hR,rfl,rfl,hsc⟩,rfl⟩
theorem Ra_norm1{F:Nat->Prop}{φ:Nat->Option Loc}{w:World}:∀{cs:List AV} {vs:List Value},AV.Ra F φ w cs vs->AV.Ra F φ w (cs.map AV.norm1) vs
 | [],_,h=>by simpa only[List.map_nil,AV.Ra] using h
 | c :: cs,_,h=>by
  simp only[AV.Ra]at h
  obtain⟨v,vs,rfl,h0,h1,h2⟩:=h
  simp only[List.map_cons,AV.Ra]
  exact⟨v,vs,rfl,h0,R_norm1 h1,Ra_norm1 h2⟩
theorem le_vecnorm{s:List AV}{own:List Obj}{n0:Nat}{mv:List Nat}(o:Nat){cs:List AV}(ho:own[o]?=some (.vec cs)):Le ⟨s,own,n0,mv⟩ ⟨s,own.set o (.vec (cs.map AV.norm1)),n0,mv⟩:=by
 rintro c a w ⟨hd,hn,F,φ,h2,h3,h4⟩
 refine⟨hd,hn,F,φ,h2,⟨h3.fb,h3.live,h3.inj,fun o' obj ho'=>?_,fun o' ho'=>h3.out o' (by simpa using ho'),h3.glob⟩,h4⟩
 simp only at ho'
 rw[List.getElem?_set]at ho'
 by_cases e:o=o'
 ·subst e
  split at ho'
  ·split at ho'
   ·cases ho'
    have hr:=h3.rep o _ ho
    cases hl:φ o with
    | none=>rw[hl]at hr;simp only[ObjR]at hr
    | some L =>
     rw[hl]at hr
     simp only[ObjR]at hr ⊢
     obtain⟨q1,q2⟩:=hr
     refine⟨q1,?_⟩
     rcases q2 with⟨q2,q3⟩|⟨q2,arr,ty,q3,q4,q5,vs,q6,q7⟩
     ·subst q3;exact .inl ⟨q2,rfl⟩
     ·exact .inr ⟨q2,arr,ty,q3,q4,by simpa using q5,vs,Ra_norm1 q6,by simpa using q7⟩
   ·cases ho'
  ·rename_i hh;exact(hh rfl).elim
 ·simp only[e,if_false]at ho'
  exact h3.rep o' obj ho'
def Obj.allUnder(n:Nat):List Obj->Prop
 | []=>True
 | x :: l=>x.under n/\Obj.allUnder n l
theorem Obj.allUnder_mem{n:Nat}:∀{l:List Obj},Obj.allUnder n l->∀x∈l,x.under n
 | [],_,x,hx=>by simp at hx
 | y :: l,h,x,hx=>by
  rcases List.mem_cons.1 hx with rfl|hx
  ·exact h.1
  ·exact Obj.allUnder_mem h.2 x hx
theorem le_end{s s':List AV}{own ex:List Obj}{n0:Nat}{mv:List Nat}(h0:n0<=own.length)(hl:slotsLe s s')(hs:AV.unders own.length s')(ho:Obj.allUnder own.length own):Le ⟨s,own++ex,n0,mv⟩ ⟨s',own,n0,mv⟩ :=
 Le.trans (le_slots' hl) (le_drop h0 hs (Obj.allUnder_mem ho))
attribute [go_sem] Obj.allUnder Nat.le_refl
section
variable {P:Program} {Γ:Nat->Contract} {all:Array Oper} {Q:Exit->S->Prop} {i ob:Nat} {r ms:List Nat} {s:List AV} {own:List Obj} {n:Nat} {m:List Nat}
@[go_sem] theorem chainI_go:chainI P Γ all Q (i :: r) ⟨s,own,n,m⟩=(match all[i]? with|some o=>opg P Γ all o (chainI P Γ all Q r) ⟨s,own,n,m⟩|none=>False):=Eq.trans rfl rfl
@[go_sem] theorem chainM_nil:chainM P Γ all ob ms Q [] ⟨s,own,n,m⟩=Q .normal ⟨s,own,n,m⟩:=Eq.trans rfl rfl
@[go_sem] theorem chainM_go:chainM P Γ all ob ms Q (i :: r) ⟨s,own,n,m⟩=(match all[i]? with|some o=>((ms.contains i=true->condM ob o s)/\opg P Γ all o (chainM P Γ all ob ms Q r) ⟨s,own,n,m⟩)|none=>False):=Eq.trans rfl rfl
end
end Go.AM
namespace Go.AM
open Go
def gd{α:Type}(b:Bool)(x:Option α):Option α:=match b with|true=>x|false=>none
theorem gd_some{α:Type}{b:Bool}{x:Option α}{r:α}(h:gd b x=some r):b=true/\x=some r:=by
 cases b with
 | true=>exact⟨rfl,h⟩
 | false=>cases h
def wfB(k:IntKind)(n:Int):Bool:=(Lit.int k n).wf
def fitO(k:IntKind)(n:Int):Option AV:=match isSigned k with|true=>gd (wfB k n) (some (.dat (.int k n)))|false=>some (.dat (.int k (k.wrap n)))
theorem fitO_ok{k:IntKind}{n:Int}{v:AV}{K:AV->Prop}(h:fitO k n=some v)(hK:K v):fitw k n K:=by
 unfold fitO at h;unfold fitw
 split at h
 ·rename_i e;obtain⟨h1,h2⟩:=gd_some h;cases h2;rw[e];exact⟨h1,hK⟩
 ·rename_i e;cases h;rw[e];exact hK
def intO(op:BinOp)(k:IntKind)(a b:Int):Option AV :=
 match op with
 | .add=>fitO k (a+b)
 | .sub=>fitO k (a - b)
 | .mul=>fitO k (a*b)
 | .quo=>gd (!decide (b=0)) (fitO k (a.tdiv b))
 | .rem=>gd (!decide (b=0)) (gd (wfB k (a.tmod b)) (some (.dat (.int k (a.tmod b)))))
 | .and=>some (.dat (.int k (bitsV .and k a b)))
 | .or=>some (.dat (.int k (bitsV .or k a b)))
 | .xor=>some (.dat (.int k (bitsV .xor k a b)))
 | .andNot=>some (.dat (.int k (bitsV .andNot k a b)))
 | .eql=>some (.dat (.bool (decide (a=b))))
 | .neq=>some (.dat (.bool (!decide (a=b))))
 | .lss=>some (.dat (.bool (decide (a<b))))
 | .leq=>some (.dat (.bool (decide (a<=b))))
 | .gtr=>some (.dat (.bool (decide (b<a))))
 | .geq=>some (.dat (.bool (decide (b<=a))))
 | _=>none
theorem intO_ok{op:BinOp}{k:IntKind}{a b:Int}{v:AV}{K:AV->Prop}(h:intO op k a b=some v)(hK:K v):intw op k a b K:=by
 unfold intO at h;unfold intw
 cases op <;> simp only at h ⊢ <;> first
  | exact fitO_ok h hK
  | (obtain⟨h1,h2⟩:=gd_some h;exact⟨by simpa using h1,fitO_ok h2 hK⟩)
  | (obtain⟨h1,h2⟩:=gd_some h;obtain⟨h3,h4⟩:=gd_some h2;cases h4;exact⟨by simpa using h1,h3,hK⟩)
  | (cases h;exact hK)
  | (cases h)
def binO(op:BinOp)(x y:AV):Option AV :=
 match x,y with
 | .dat (.int k a),.dat (.int k' b) =>
  (match op with
  | .shl=>gd (decide (0<=b)) (some (.dat (.int k (shlV k a b))))
  | .shr=>gd (decide (0<=b)) (gd (wfB k (shrV k a b)) (some (.dat (.int k (shrV k a b)))))
  | op=>gd (decide (k=k')) (intO op k a b))
 | .dat (.str a),.dat (.str b) =>
  (match op with
  | .add=>gd (decide (a.length+b.length<=1000000)) (some (.dat (.str (a++b))))
  | .eql=>some (.dat (.bool (decide (a=b))))
  | .neq=>some (.dat (.bool (!decide (a=b))))
  | _=>none)
 | .dat (.bool a),.dat (.bool b) =>
  (match op with
  | .eql=>some (.dat (.bool (a == b)))
  | .neq=>some (.dat (.bool (!(a == b))))
  | _=>none)
 | .nils,.nils =>
  (match op with
  | .eql=>some (.dat (.bool true))
  | .neq=>some (.dat (.bool false))
  | _=>none)
 | .dat (.sl _ xs),.nils =>
  (match op with
  | .eql=>gd (!xs.isEmpty) (some (.dat (.bool false)))
  | .neq=>gd (!xs.isEmpty) (some (.dat (.bool true)))
  | _=>none)
 | .sl _ _ len,.nils =>
  (match op with
  | .eql=>gd (decide (0<len)) (some (.dat (.bool false)))
  | .neq=>gd (decide (0<len)) (some (.dat (.bool true)))
  | _=>none)
 | .dat (.agg as),.dat (.agg bs) =>
  (match op with
  | .eql=>some (.dat (.bool (D.flatEqs as bs)))
  | .neq=>some (.dat (.bool (!D.flatEqs as bs)))
  | _=>none)
 | _,_=>none
theorem binO_ok{op:BinOp}{x y v:AV}{K:AV->Prop}(h:binO op x y=some v)(hK:K v):binw op x y K:=by
 unfold binO at h;unfold binw
 split at h
 ·split at h
  ·obtain⟨h1,h2⟩:=gd_some h;cases h2;exact⟨by simpa using h1,hK⟩
  ·obtain⟨h1,h2⟩:=gd_some h;obtain⟨h3,h4⟩:=gd_some h2;cases h4;exact⟨by simpa using h1,h3,hK⟩
  ·rename_i n1 n2
   obtain⟨h1,h2⟩:=gd_some h
   have:=intO_ok h2 hK
   cases op <;> first|exact⟨by simpa using h1,this⟩|exact(n1 rfl).elim|exact(n2 rfl).elim
 ·split at h
  ·obtain⟨h1,h2⟩:=gd_some h;cases h2
   refine⟨?_,hK⟩
   have:=of_decide_eq_true h1
   unfold maxLen
   omega
  ·cases h;exact hK
  ·cases h;exact hK
  ·cases h
 ·split at h <;> first|(cases h;exact hK)|cases h
 ·split at h <;> first|(cases h;exact hK)|cases h
 ·split at h
  ·obtain⟨h1,h2⟩:=gd_some h;cases h2;exact⟨by simpa using h1,hK⟩
  ·obtain⟨h1,h2⟩:=gd_some h;cases h2;exact⟨by simpa using h1,hK⟩
  ·cases h
 ·split at h
  ·obtain⟨h1,h2⟩:=gd_some h;cases h2;exact⟨by simpa using h1,hK⟩
  ·obtain⟨h1,h2⟩:=gd_some h;cases h2;exact⟨by simpa using h1,hK⟩
  ·cases h
 ·split at h <;> first|(cases h;exact hK)|cases h
 ·cases h
def unO(op:UnOp)(x:AV):Option AV :=
 match op,x with
 | .not,.dat (.bool b)=>some (.dat (.bool (!b)))
 | .neg,.dat (.int k n)=>fitO k (0 - n)
 | .xor,.dat (.int k n)=>some (.dat (.int k (bitsV .xor k (if k.signed then -1 else k.max) n)))
 | _,_=>none
theorem unO_ok{op:UnOp}{x v:AV}{K:AV->Prop}(h:unO op x=some v)(hK:K v):unw op x K:=by
 unfold unO at h;unfold unw
 split at h
 ·cases h;exact hK
 ·exact fitO_ok h hK
 ·cases h;exact hK
 ·cases h
def convO(τs τd:Option Ty)(x:AV):Option AV :=
 match τs,τd,x with
 | some _,some τ,.dat (.int _ n)=>(match τ.desc with|.int k=>fitO k n|.string=>some (.dat (.str (runeS n)))|_=>none)
 | some _,some τ,.dat (.str s)=>(match τ.desc with|.string=>some (.dat (.str s))|_=>none)
 | _,_,_=>none
theorem convO_ok{P:Program}{τs τd:Option Ty}{x v:AV}{K:AV->Prop}(h:convO τs τd x=some v)(hK:K v):convw P τs τd x K:=by
 unfold convO at h;unfold convw
 split at h
 ·simp only
  split at h
  ·rename_i e;rw[e];exact fitO_ok h hK
  ·rename_i e;rw[e];cases h;exact hK
  ·cases h
 ·simp only
  split at h
  ·rename_i e;rw[e];cases h;exact hK
  ·cases h
 ·cases h
def partOkB(ag:Option Nat)(j:Nat)(want:Option Nat):Bool :=
 match ag,want with
 | none,none=>decide (j=0)
 | some k,none=>decide (j<k)
 | some k,some m=>decide (j+m<=k) && decide (0<m)
 | none,some _=>false
theorem partOkB_ok{ag:Option Nat}{j:Nat}{want:Option Nat}(h:partOkB ag j want=true):partOk ag j want:=by
 unfold partOkB at h;unfold partOk
 split at h <;> simp_all
def loadObjO(τ:Ty)(obj:Obj)(i j:Nat):Option AV :=
 match obj with
 | .row none xs=>(match τ.agg with
  | true=>gd (decide (i=0) && decide (j=0) && decide (xs.length=τ.size)) (some (.dat (.agg xs)))
  | false=>gd (decide (j=0) && decide (i<xs.length)) (some (.dat (D.nth xs i))))
 | .row (some k) xs=>gd (partOkB (some k) j τ.want && decide (i<xs.length)) (some (.dat (D.part (some k) (D.nth xs i) j τ.want)))
 | .vec cs=>gd (!τ.agg && decide (j=0) && decide (i<cs.length)) (some (cs.getD i .top))
 | .tab k cs=>(match τ.agg with
  | true=>gd (decide (i*k+j+τ.size<=cs.length)) (some (.agg ((cs.drop (i*k+j)).take τ.size)))
  | false=>gd (decide (i*k+j<cs.length)) (some (cs.getD (i*k+j) .top)))
 | .box cs=>gd (decide (i=0)) (match τ.agg with
  | true=>gd (decide (j+τ.size<=cs.length)) (some (.agg ((cs.drop j).take τ.size)))
  | false=>gd (decide (j<cs.length)) (some (cs.getD j .top)))
 | _=>none
theorem loadObjO_ok{τ:Ty}{obj:Obj}{i j:Nat}{v:AV}{K:AV->Prop}(h:loadObjO τ obj i j=some v)(hK:K v):loadObj τ obj i j K:=by
 unfold loadObjO at h;unfold loadObj
 split at h
 ·split at h
  ·rename_i e
   obtain⟨h1,h2⟩:=gd_some h;cases h2
   simp only[Bool.and_eq_true,decide_eq_true_eq]at h1
   rw[e];exact⟨h1.1.1,h1.1.2,h1.2,hK⟩
  ·rename_i e
   obtain⟨h1,h2⟩:=gd_some h;cases h2
   simp only[Bool.and_eq_true,decide_eq_true_eq]at h1
   rw[e];exact⟨h1.1,h1.2,hK⟩
 ·obtain⟨h1,h2⟩:=gd_some h;cases h2
  simp only[Bool.and_eq_true,decide_eq_true_eq]at h1
  exact⟨partOkB_ok h1.1,h1.2,hK⟩
 ·obtain⟨h1,h2⟩:=gd_some h;cases h2
  simp only[Bool.and_eq_true,decide_eq_true_eq,Bool.not_eq_true']at h1
  exact⟨h1.1.1,h1.1.2,h1.2,hK⟩
 ·split at h
  ·rename_i e
   obtain⟨h3,h4⟩:=gd_some h;cases h4
   simp only[e,if_true];exact⟨by simpa using h3,hK⟩
  ·rename_i e
   obtain⟨h3,h4⟩:=gd_some h;cases h4
   simp only[e,Bool.false_eq_true,if_false];exact⟨by simpa using h3,hK⟩
 ·obtain⟨h1,h2⟩:=gd_some h
  refine⟨by simpa using h1,?_⟩
  split at h2
  ·rename_i e
   obtain⟨h3,h4⟩:=gd_some h2;cases h4
   rw[e];exact⟨by simpa using h3,hK⟩
  ·rename_i e
   obtain⟨h3,h4⟩:=gd_some h2;cases h4
   rw[e];exact⟨by simpa using h3,hK⟩
 ·cases h
def loadO(τ:Option Ty)(own:List Obj)(x:AV):Option AV :=
 match τ,x with
 | some τ,.ptr o i j=>loadObjO τ (own.getD o .dead) i j
 | some τ,.rptr ag d=>gd (decide (ag=τ.want)) (some (.dat d))
 | _,_=>none
theorem loadO_ok{τ:Option Ty}{own:List Obj}{x v:AV}{K:AV->Prop}(h:loadO τ own x=some v)(hK:K v):loadw τ own x K:=by
 unfold loadO at h;unfold loadw
 split at h
 ·exact loadObjO_ok h hK
 ·obtain⟨h1,h2⟩:=gd_some h;cases h2;exact⟨by simpa using h1,hK⟩
 ·cases h
section
variable {P:Program}
def fieldAddrO(P:Program)(τ:Option Ty)(x:AV)(f:Nat):Option AV :=
 match fieldOf P τ f,x with
 | some (off,_),.ptr o i j=>some (.ptr o i (j+off))
 | some (off,τf),.rptr ag d=>gd (partOkB ag off τf.want) (some (.rptr τf.want (D.part ag d off τf.want)))
 | _,_=>none
theorem fieldAddrO_ok{τ:Option Ty}{x v:AV}{f:Nat}{K:AV->Prop}(h:fieldAddrO P τ x f=some v)(hK:K v):fieldAddrw P τ x f K:=by
 unfold fieldAddrO at h;unfold fieldAddrw
 split at h
 ·rename_i e;rw[e];cases h;exact hK
 ·rename_i e;rw[e];obtain⟨h1,h2⟩:=gd_some h;cases h2;exact⟨partOkB_ok h1,hK⟩
 ·cases h
def partO(τ:Ty)(vs:List AV)(off:Nat):Option AV :=
 match τ.agg with
 | true=>gd (decide (off+τ.size<=vs.length)) (some (.agg ((vs.drop off).take τ.size)))
 | false=>gd (decide (off<vs.length)) (some (vs.getD off .top))
theorem partO_ok{τ:Ty}{vs:List AV}{off:Nat}{v:AV}{K:AV->Prop}(h:partO τ vs off=some v)(hK:K v):partw τ vs off K:=by
 unfold partO at h;unfold partw
 split at h
 ·rename_i e;obtain⟨h1,h2⟩:=gd_some h;cases h2;rw[e];exact⟨by simpa using h1,hK⟩
 ·rename_i e;obtain⟨h1,h2⟩:=gd_some h;cases h2;rw[e];exact⟨by simpa using h1,hK⟩
def fieldO(P:Program)(τ:Option Ty)(x:AV)(f:Nat):Option AV :=
 match fieldOf P τ f,x.cellsOf with
 | some (off,τf),some vs=>partO τf vs off
 | _,_=>none
theorem fieldO_ok{τ:Option Ty}{x v:AV}{f:Nat}{K:AV->Prop}(h:fieldO P τ x f=some v)(hK:K v):fieldw P τ x f K:=by
 unfold fieldO at h;unfold fieldw
 split at h
 ·rename_i e1 e2;rw[e1,e2];exact partO_ok h hK
 ·cases h
def idxAddrO(P:Program)(τ:Option Ty)(own:List Obj)(x i:AV):Option AV :=
 match τ,x,i with
 | some τ,.sl o off len,.dat (.int _ n) =>
  (match τ.desc with
  | .slice e=>(match tyOf P e with
   | some τe=>gd (decide (0<=n) && decide (n<len) && (match own.getD o .dead with|.row ag _=>decide (es ag=τe.size)|.vec _=>decide (τe.size=1)|.tab k _=>decide (τe.size=k)|_=>false)) (some (.ptr o (off+n.toNat) 0))
   | none=>none)
  | _=>none)
 | some τ,.dat (.sl ag xs),.dat (.int _ n) =>
  (match τ.desc with|.slice e=>(match tyOf P e with|some τe=>gd (decide (0<=n) && decide (n<xs.length) && decide (es ag=τe.size)) (some (.rptr ag (D.nth xs n.toNat)))|none=>none)|_=>none)
 | some τ,.ptr o i0 j,.dat (.int _ n) =>
  (match τ.desc with
  | .array m e=>(match tyOf P e with
    | some τe=>gd (decide (0<=n) && decide (n<m)) (match own.getD o .dead with
      | .row none _=>gd (decide (i0=0) && decide (j=0) && decide (τe.size=1)) (some (.ptr o n.toNat 0))
      | .row (some _) _=>some (.ptr o i0 (j+n.toNat*τe.size))
      | .box _=>some (.ptr o i0 (j+n.toNat*τe.size))
      | _=>none)
    | none=>none)
  | _=>none)
 | some τ,.rptr ag d,.dat (.int _ n) =>
  (match τ.desc with
  | .array m e=>(match tyOf P e with
    | some τe=>gd (decide (0<=n) && decide (n<m)) (gd (partOkB ag (n.toNat*τe.size) τe.want) (some (.rptr τe.want (D.part ag d (n.toNat*τe.size) τe.want))))
    | none=>none)
  | _=>none)
 | _,_,_=>none
theorem idxAddrO_ok{τ:Option Ty}{own:List Obj}{x i v:AV}{K:AV->Prop}(h:idxAddrO P τ own x i=some v)(hK:K v):idxAddrw P τ own x i K:=by
 unfold idxAddrO at h;unfold idxAddrw
 split at h
 ·simp only
  split at h
  ·rename_i e;rw[e];simp only
   split at h
   ·rename_i e2;rw[e2]
    obtain⟨h1,h2⟩:=gd_some h;cases h2
    simp only[Bool.and_eq_true,decide_eq_true_eq]at h1
    refine⟨h1.1.1,h1.1.2,?_,hK⟩
    have h3:=h1.2
    split at h3
    ·rename_i e3;exact .inl ⟨_,_,e3,by simpa using h3⟩
    ·rename_i e3;exact .inr (.inl ⟨_,e3,by simpa using h3⟩)
    ·rename_i e3;exact .inr (.inr ⟨_,_,e3,by simpa using h3⟩)
    ·cases h3
   ·cases h
  ·cases h
 ·simp only
  split at h
  ·rename_i e;rw[e];simp only
   split at h
   ·rename_i e2;rw[e2]
    obtain⟨h1,h2⟩:=gd_some h;cases h2
    simp only[Bool.and_eq_true,decide_eq_true_eq]at h1
    exact⟨h1.1.1,h1.1.2,h1.2,hK⟩
   ·cases h
  ·cases h
 ·simp only
  split at h
  ·rename_i e;rw[e];simp only
   split at h
   ·rename_i e2;rw[e2]
    obtain⟨h1,h2⟩:=gd_some h
    simp only[Bool.and_eq_true,decide_eq_true_eq]at h1
    refine⟨h1.1,h1.2,?_⟩
    split at h2
    ·rename_i e3;rw[e3]
     obtain⟨h3,h4⟩:=gd_some h2;cases h4
     simp only[Bool.and_eq_true,decide_eq_true_eq]at h3
     exact⟨h3.1.1,h3.1.2,h3.2,hK⟩
    ·rename_i e3;rw[e3];cases h2;exact hK
    ·rename_i e3;rw[e3];cases h2;exact hK
    ·cases h2
   ·cases h
  ·cases h
 ·simp only
  split at h
  ·rename_i e;rw[e];simp only
   split at h
   ·rename_i e2;rw[e2]
    obtain⟨h1,h2⟩:=gd_some h
    obtain⟨h3,h4⟩:=gd_some h2;cases h4
    simp only[Bool.and_eq_true,decide_eq_true_eq]at h1
    exact⟨h1.1,h1.2,partOkB_ok h3,hK⟩
   ·cases h
  ·cases h
 ·cases h
def indexO(P:Program)(τ:Option Ty)(x i:AV):Option AV :=
 match τ,i with
 | some τ,.dat (.int _ n) =>
  (match τ.desc with
  | .array m e=>(match tyOf P e,x.cellsOf with
    | some τe,some vs=>gd (decide (0<=n) && decide (n<m)) (partO τe vs (n.toNat*τe.size))
    | _,_=>none)
  | .string=>(match x with
    | .dat (.str s)=>gd (decide (0<=n) && decide (n<s.length)) (some (.dat (.int .u8 (s.getD n.toNat 0).toNat)))
    | _=>none)
  | _=>none)
 | _,_=>none
theorem indexO_ok{τ:Option Ty}{x i v:AV}{K:AV->Prop}(h:indexO P τ x i=some v)(hK:K v):indexw P τ x i K:=by
 unfold indexO at h;unfold indexw
 split at h
 ·simp only
  split at h
  ·rename_i e;rw[e];simp only
   split at h
   ·rename_i e2 e3;rw[e2,e3]
    obtain⟨h1,h2⟩:=gd_some h
    simp only[Bool.and_eq_true,decide_eq_true_eq]at h1
    exact⟨h1.1,h1.2,partO_ok h2 hK⟩
   ·cases h
  ·rename_i e;rw[e];simp only
   split at h
   ·obtain⟨h1,h2⟩:=gd_some h;cases h2
    simp only[Bool.and_eq_true,decide_eq_true_eq]at h1
    exact⟨h1.1,h1.2,hK⟩
   ·cases h
  ·cases h
 ·cases h
def sliceO(P:Program)(τ:Option Ty)(own:List Obj)(x:AV)(lo hi:Option AV):Option AV :=
 match τ,x with
 | some τ,.sl o off len =>
  (match τ.desc with
  | .slice e=>(match tyOf P e,optInt lo 0,optInt hi len with
   | some τe,some l,some h=>gd (match own.getD o .dead with|.row ag _=>decide (es ag=τe.size) && decide (0<=l) && decide (l<=h) && decide (h<=len)|_=>false) (some (.sl o (off+l.toNat) (h - l).toNat))
   | _,_,_=>none)
  | _=>none)
 | some τ,.dat (.sl ag xs) =>
  (match τ.desc with
  | .slice e=>(match tyOf P e,optInt lo 0,optInt hi xs.length with
   | some τe,some l,some h=>gd (decide (es ag=τe.size) && decide (0<=l) && decide (l<=h) && decide (h<=xs.length)) (some (.dat (.sl ag ((xs.drop l.toNat).take (h - l).toNat))))
   | _,_,_=>none)
  | _=>none)
 | some τ,.nils =>
  (match τ.desc with
  | .slice e=>(match tyOf P e,optInt lo 0,optInt hi 0 with
   | some τe,some l,some h=>gd (decide (l=0) && decide (h=0)) (some .nils)
   | _,_,_=>none)
  | _=>none)
 | some τ,.dat (.str s) =>
  (match τ.desc with
  | .string=>(match optInt lo 0,optInt hi s.length with
   | some l,some h=>gd (decide (0<=l) && decide (l<=h) && decide (h<=s.length)) (some (.dat (.str ((s.drop l.toNat).take (h - l).toNat))))
   | _,_=>none)
  | _=>none)
 | _,_=>none
theorem sliceO_ok{τ:Option Ty}{own:List Obj}{x v:AV}{lo hi:Option AV}{K:AV->Prop}(h:sliceO P τ own x lo hi=some v)(hK:K v):slicew P τ own x lo hi K:=by
 unfold sliceO at h;unfold slicew
 split at h
 ·simp only
  split at h
  ·rename_i e;rw[e];simp only
   split at h
   ·rename_i e1 e2 e3;rw[e1,e2,e3]
    obtain⟨h1,h2⟩:=gd_some h;cases h2
    split at h1
    ·rename_i e4
     simp only[Bool.and_eq_true,decide_eq_true_eq]at h1
     exact⟨⟨_,_,e4,h1.1.1.1⟩,h1.1.1.2,h1.1.2,h1.2,hK⟩
    ·cases h1
   ·cases h
  ·cases h
 ·simp only
  split at h
  ·rename_i e;rw[e];simp only
   split at h
   ·rename_i e1 e2 e3;rw[e1,e2,e3]
    obtain⟨h1,h2⟩:=gd_some h;cases h2
    simp only[Bool.and_eq_true,decide_eq_true_eq]at h1
    exact⟨h1.1.1.1,h1.1.1.2,h1.1.2,h1.2,hK⟩
   ·cases h
  ·cases h
 ·simp only
  split at h
  ·rename_i e;rw[e];simp only
   split at h
   ·rename_i e1 e2 e3;rw[e1,e2,e3]
    obtain⟨h1,h2⟩:=gd_some h;cases h2
    simp only[Bool.and_eq_true,decide_eq_true_eq]at h1
    exact⟨h1.1,h1.2,hK⟩
   ·cases h
  ·cases h
 ·simp only
  split at h
  ·rename_i e;rw[e];simp only
   split at h
   ·rename_i e1 e2;rw[e1,e2]
    obtain⟨h1,h2⟩:=gd_some h;cases h2
    simp only[Bool.and_eq_true,decide_eq_true_eq]at h1
    exact⟨h1.1.1,h1.1.2,h1.2,hK⟩
   ·cases h
  ·cases h
 ·cases h
def buildO(P:Program)(τ:Option Ty)(parts:List (Nat×AV)):Option AV :=
 match τ with
 | some τ=>(match placesOf P τ,τ.zero with
  | some pl,some (.agg z)=>gd (z.toList.all (·.oneCell')) ((fillAV (fun i=>pl[i]?) (z.toList.map constAV0) parts).map .agg)
  | _,_=>none)
 | none=>none
theorem buildO_ok{τ:Option Ty}{parts:List (Nat×AV)}{v:AV}{K:AV->Prop}(h:buildO P τ parts=some v)(hK:K v):buildw P τ parts K:=by
 unfold buildO at h;unfold buildw
 split at h
 ·simp only
  split at h
  ·rename_i e1 e2;rw[e1,e2]
   obtain⟨h1,h2⟩:=gd_some h
   rw[Option.map_eq_some_iff]at h2
   obtain⟨cells,h3,rfl⟩:=h2
   simp only[h3]
   exact⟨h1,hK⟩
  ·cases h
 ·cases h
def extractO(x:AV)(ix:Nat):Option AV:=match x with|.tup vs=>gd (decide (ix<vs.length)) (some (vs.getD ix .top))|_=>none
theorem extractO_ok{x v:AV}{ix:Nat}{K:AV->Prop}(h:extractO x ix=some v)(hK:K v):extractw x ix K:=by
 unfold extractO at h;unfold extractw
 split at h
 ·obtain⟨h1,h2⟩:=gd_some h;cases h2;exact⟨by simpa using h1,hK⟩
 ·cases h
def lookupO(P:Program)(τ:Option Ty)(own:List Obj)(x k:AV)(commaOk:Bool):Option AV :=
 match τ,x,k.keyD with
 | some τ,.map o,some k=>(match τ.desc with
  | .map kt et=>(match tyOf P kt,(tyOf P et).bind zeroD,own.getD o .dead with
   | some τk,some z,.map m=>gd (D.isKeyP P kt τk.desc k && m.all fun x=>D.isKeyP P kt τk.desc x.1)
     (some (match commaOk with|true=>.tup [.dat ((mapFind k m).getD z),.dat (.bool (mapFind k m).isSome)]|false=>.dat ((mapFind k m).getD z)))
   | _,_,_=>none)
  | _=>none)
 | _,_,_=>none
theorem lookupO_ok{τ:Option Ty}{own:List Obj}{x k v:AV}{ok:Bool}{K:AV->Prop}(h:lookupO P τ own x k ok=some v)(hK:K v):lookupw P τ own x k ok K:=by
 unfold lookupO at h;unfold lookupw
 split at h
 ·rename_i hkd
  simp only[hkd]
  split at h
  ·rename_i e;rw[e];simp only
   split at h
   ·rename_i e1 e2 e3;rw[e1,e2,e3]
    obtain⟨h1,h2⟩:=gd_some h;cases h2
    simp only[Bool.and_eq_true]at h1
    refine⟨h1.1,h1.2,?_⟩
    cases ok <;> exact hK
   ·cases h
  ·cases h
 ·cases h
def nilO(x:AV):Option AV:=match x with|.ptr o i j=>some (.ptr o i j)|.rptr ag d=>some (.rptr ag d)|.fn f cs=>some (.fn f cs)|_=>none
theorem nilO_ok{x v:AV}{K:AV->Prop}(h:nilO x=some v)(hK:K v):nilw x K:=by
 unfold nilO at h;unfold nilw
 split at h <;> first|(cases h;exact hK)|cases h
def pickO(c a b:AV):Option AV:=match c with|.dat (.bool t)=>some (match t with|true=>a|false=>b)|_=>none
theorem pickO_ok{c a b v:AV}{K:AV->Prop}(h:pickO c a b=some v)(hK:K v):pickw c a b K:=by
 unfold pickO at h;unfold pickw
 split at h
 ·rename_i t
  cases h
  cases t
  ·exact⟨(fun h=>by cases h),fun _=>hK⟩
  ·exact⟨fun _=>hK,(fun h=>by cases h)⟩
 ·cases h
def lenO(P:Program)(τ:Option Ty)(own:List Obj)(x:AV):Option AV :=
 match τ with
 | some τ=>(match τ.desc,x with
  | .string,.dat (.str s)=>some (.dat (.int .i64 s.length))
  | .slice _,.dat (.sl _ xs)=>some (.dat (.int .i64 xs.length))
  | .slice _,.sl _ _ len=>some (.dat (.int .i64 len))
  | .slice _,.nils=>some (.dat (.int .i64 0))
  | .array n _,_=>gd (wfB .i64 n) (some (.dat (.int .i64 n)))
  | .map _ _,.nilm=>some (.dat (.int .i64 0))
  | .map _ _,.map o=>(match own.getD o .dead with|.map m=>gd (wfB .i64 m.length) (some (.dat (.int .i64 m.length)))|_=>none)
  | _,_=>none)
 | none=>none
theorem lenO_ok{τ:Option Ty}{own:List Obj}{x v:AV}{K:AV->Prop}(h:lenO P τ own x=some v)(hK:K v):lenw P τ own x K:=by
 unfold lenO at h;unfold lenw
 split at h
 ·simp only
  split at h
  ·rename_i e;rw[e];cases h;exact hK
  ·rename_i e;rw[e];cases h;exact hK
  ·rename_i e;rw[e];cases h;exact hK
  ·rename_i e;rw[e];cases h;exact hK
  ·rename_i e;rw[e];obtain⟨h1,h2⟩:=gd_some h;cases h2;exact⟨h1,hK⟩
  ·rename_i e;rw[e];cases h;exact hK
  ·rename_i e;rw[e]
   split at h
   ·rename_i e2;simp only[e2];obtain⟨h1,h2⟩:=gd_some h;cases h2;exact⟨h1,hK⟩
   ·cases h
  ·cases h
 ·cases h
def minO(isMin:Bool)(x y:AV):Option AV:=match x,y with|.dat (.int k a),.dat (.int k' b)=>gd (decide (k=k')) (some (.dat (.int k (if isMin then min a b else max a b))))|_,_=>none
theorem minO_ok{m:Bool}{x y v:AV}{K:AV->Prop}(h:minO m x y=some v)(hK:K v):minw m x y K:=by
 unfold minO at h;unfold minw
 split at h
 ·obtain⟨h1,h2⟩:=gd_some h;cases h2;exact⟨by simpa using h1,hK⟩
 ·cases h
def bltO(P:Program)(own:List Obj)(slots:List AV)(f:Callee)(args:List Operand)(ts:List TypeId):Option AV :=
 match f,args,ts with
 | .builtin .len,[x],[t]=>lenO P (tyOf P t) own (ev slots x)
 | .builtin .min,[x,y],_=>minO true (ev slots x) (ev slots y)
 | .builtin .max,[x,y],_=>minO false (ev slots x) (ev slots y)
 | _,_,_=>none
theorem bltO_ok{own:List Obj}{slots:List AV}{f:Callee}{args:List Operand}{ts:List TypeId}{v:AV}{K:AV->Prop}(h:bltO P own slots f args ts=some v)(hK:K v):bltw P own slots f args ts K:=by
 unfold bltO at h;unfold bltw
 split at h
 ·exact lenO_ok h hK
 ·exact minO_ok h hK
 ·exact minO_ok h hK
 ·cases h
def vopO(P:Program)(own:List Obj)(slots:List AV)(op:Op):Option AV :=
 match op with
 | .move x=>some (ev slots x)
 | .assign x=>some (ev slots x)
 | .pick c a b=>pickO (ev slots c) (ev slots a) (ev slots b)
 | .binOp op t x y _=>gd (eqOk P t (ev slots x) (ev slots y)) (binO op (ev slots x) (ev slots y))
 | .unOp op _ x=>unO op (ev slots x)
 | .convert s d x=>convO (tyOf P s) (tyOf P d) (ev slots x)
 | .load t x=>loadO (tyOf P t) own (ev slots x)
 | .fieldAddr t x f=>fieldAddrO P (tyOf P t) (ev slots x) f
 | .field t x f=>fieldO P (tyOf P t) (ev slots x) f
 | .indexAddr t x i=>idxAddrO P (tyOf P t) own (ev slots x) (ev slots i)
 | .index t x i=>indexO P (tyOf P t) (ev slots x) (ev slots i)
 | .slice t x lo hi none=>sliceO P (tyOf P t) own (ev slots x) (lo.map (ev slots)) (hi.map (ev slots))
 | .build t parts=>buildO P (tyOf P t) (parts.toList.map fun p=>(p.1,ev slots p.2))
 | .extract x i=>extractO (ev slots x) i
 | .lookup t x k ok=>lookupO P (tyOf P t) own (ev slots x) (ev slots k) ok
 | .nilCheck x=>nilO (ev slots x)
 | .makeFunc (.func f) first cs=>gd first.toList.isEmpty (some (.fn f (cs.toList.map (ev slots))))
 | .call c=>bltO P own slots c.callee c.args.toList c.argTypes.toList
 | _=>none
theorem binTop_aggD{op:BinOp}{t:TypeId}{x y:AV}{K:AV->Prop}(h:binTop P op t x y K):binTop P op t x (aggD y) K:=by
 cases y with
 | agg vs =>
  exfalso
  have h4:=h.2
  cases x <;> simp[binw]at h4
 | _=>exact h
theorem vopO_ok{own:List Obj}{slots:List AV}{op:Op}{v:AV}{K:AV->Prop}(h:vopO P own slots op=some v)(hK:K v):vop P own slots op K:=by
 unfold vopO at h;unfold vop
 split at h
 ·cases h;exact hK
 ·cases h;exact hK
 ·exact pickO_ok h hK
 ·obtain⟨h1,h2⟩:=gd_some h;exact binTop_aggD ⟨h1,binO_ok h2 hK⟩
 ·exact unO_ok h hK
 ·exact convO_ok h hK
 ·exact loadO_ok h hK
 ·exact fieldAddrO_ok h hK
 ·exact fieldO_ok h hK
 ·exact idxAddrO_ok h hK
 ·exact indexO_ok h hK
 ·exact sliceO_ok h hK
 ·exact buildO_ok h hK
 ·exact extractO_ok h hK
 ·exact lookupO_ok h hK
 ·exact nilO_ok h hK
 ·obtain⟨h1,h2⟩:=gd_some h;cases h2;exact⟨by simpa using h1,hK⟩
 ·exact bltO_ok h hK
 ·cases h
end
end Go.AM
namespace Go.AM
open Go
abbrev Eff3:=AV×List Obj×List Nat
def natF{α:Type}(n:Nat)(K:Nat->α):α:=match n with|0=>K 0|m+1=>K (m+1)
theorem natF_eq{α:Type}(n:Nat)(K:Nat->α):natF n K=K n:=by cases n <;> rfl
def intF{α:Type}(n:Int)(K:Int->α):α:=match n with|.ofNat m=>natF m fun m=>K (.ofNat m)|.negSucc m=>natF m fun m=>K (.negSucc m)
theorem intF_eq{α:Type}(n:Int)(K:Int->α):intF n K=K n:=by cases n <;> simp only[intF,natF_eq]
def boolF{α:Type}(b:Bool)(K:Bool->α):α:=match b with|true=>K true|false=>K false
theorem boolF_eq{α:Type}(b:Bool)(K:Bool->α):boolF b K=K b:=by cases b <;> rfl
def kindF{α:Type}(k:IntKind)(K:IntKind->α):α:=match k with|.i8=>K .i8|.i16=>K .i16|.i32=>K .i32|.i64=>K .i64|.u8=>K .u8|.u16=>K .u16|.u32=>K .u32|.u64=>K .u64
theorem kindF_eq{α:Type}(k:IntKind)(K:IntKind->α):kindF k K=K k:=by cases k <;> rfl
def optF{α:Type}(n:Option Nat)(K:Option Nat->α):α:=match n with|none=>K none|some m=>natF m fun m=>K (some m)
theorem optF_eq{α:Type}(n:Option Nat)(K:Option Nat->α):optF n K=K n:=by cases n <;> simp only[optF,natF_eq]
def spineF{α β:Type}:List β->(List β->α)->α
 | [],K=>K []
 | x :: xs,K=>spineF xs fun xs=>K (x :: xs)
theorem spineF_eq{α β:Type}:∀(l:List β) (K:List β->α),spineF l K=K l
 | [],K=>rfl
 | x :: xs,K=>by rw[spineF,spineF_eq xs]
mutual
def D.force{α:Type}:D->(D->α)->α
 | .int k n,K=>kindF k fun k=>intF n fun n=>K (.int k n)
 | .bool b,K=>boolF b fun b=>K (.bool b)
 | .str s,K=>spineF s fun s=>K (.str s)
 | .sl ag xs,K=>optF ag fun ag=>D.forces xs fun xs=>K (.sl ag xs)
 | .agg ds,K=>D.forces ds fun ds=>K (.agg ds)
def D.forces{α:Type}:List D->(List D->α)->α
 | [],K=>K []
 | d :: ds,K=>D.force d fun d=>D.forces ds fun ds=>K (d :: ds)
end
mutual
theorem D.force_eq{α:Type}:∀(d:D) (K:D->α),D.force d K=K d
 | .int k n,K=>by rw[D.force,kindF_eq,intF_eq]
 | .bool b,K=>by rw[D.force,boolF_eq]
 | .str s,K=>by rw[D.force,spineF_eq]
 | .sl ag xs,K=>by rw[D.force,optF_eq,D.forces_eq xs]
 | .agg ds,K=>by rw[D.force,D.forces_eq ds]
theorem D.forces_eq{α:Type}:∀(ds:List D) (K:List D->α),D.forces ds K=K ds
 | [],K=>by rw[D.forces]
 | d :: ds,K=>by rw[D.forces,D.force_eq d,D.forces_eq ds]
end
mutual
def AV.force{α:Type}:AV->(AV->α)->α
 | .dat d,K=>D.force d fun d=>K (.dat d)
 | .sl o i j,K=>natF o fun o=>natF i fun i=>natF j fun j=>K (.sl o i j)
 | .ptr o i j,K=>natF o fun o=>natF i fun i=>natF j fun j=>K (.ptr o i j)
 | .rptr ag d,K=>optF ag fun ag=>D.force d fun d=>K (.rptr ag d)
 | .agg vs,K=>AV.forces vs fun vs=>K (.agg vs)
 | .tup vs,K=>AV.forces vs fun vs=>K (.tup vs)
 | .map o,K=>natF o fun o=>K (.map o)
 | .yld o,K=>natF o fun o=>K (.yld o)
 | .fn f vs,K=>natF f fun f=>AV.forces vs fun vs=>K (.fn f vs)
 | .nils,K=>K .nils
 | .nilm,K=>K .nilm
 | .top,K=>K .top
def AV.forces{α:Type}:List AV->(List AV->α)->α
 | [],K=>K []
 | d :: ds,K=>AV.force d fun d=>AV.forces ds fun ds=>K (d :: ds)
end
mutual
theorem AV.force_eq{α:Type}:∀(v:AV) (K:AV->α),AV.force v K=K v
 | .dat d,K=>by rw[AV.force,D.force_eq]
 | .sl o i j,K=>by rw[AV.force,natF_eq,natF_eq,natF_eq]
 | .ptr o i j,K=>by rw[AV.force,natF_eq,natF_eq,natF_eq]
 | .rptr ag d,K=>by rw[AV.force,optF_eq,D.force_eq]
 | .agg vs,K=>by rw[AV.force,AV.forces_eq vs]
 | .tup vs,K=>by rw[AV.force,AV.forces_eq vs]
 | .map o,K=>by rw[AV.force,natF_eq]
 | .yld o,K=>by rw[AV.force,natF_eq]
 | .fn f vs,K=>by rw[AV.force,natF_eq,AV.forces_eq vs]
 | .nils,K=>by rw[AV.force]
 | .nilm,K=>by rw[AV.force]
 | .top,K=>by rw[AV.force]
theorem AV.forces_eq{α:Type}:∀(vs:List AV) (K:List AV->α),AV.forces vs K=K vs
 | [],K=>by rw[AV.forces]
 | d :: ds,K=>by rw[AV.forces,AV.force_eq d,AV.forces_eq ds]
end
def Obj.shal{α:Type}(x:Obj)(K:Obj->α):α :=
 match x with
 | .row ag xs=>D.forces xs fun xs=>K (.row ag xs)
 | .vec cs=>AV.forces cs fun cs=>K (.vec cs)
 | .tab k cs=>AV.forces cs fun cs=>K (.tab k cs)
 | .box cs=>AV.forces cs fun cs=>K (.box cs)
 | .lp r cs=>AV.forces cs fun cs=>K (.lp r cs)
 | .bld T u cs=>AV.forces cs fun cs=>K (.bld T u cs)
 | .map m=>spineF m fun m=>K (.map m)
 | .brow e bs=>K (.brow e bs)
 | .dead=>K .dead
theorem Obj.shal_eq{α:Type}(x:Obj)(K:Obj->α):x.shal K=K x:=by cases x <;> simp only[Obj.shal,D.forces_eq,AV.forces_eq,spineF_eq]
def Obj.shals{α:Type}:List Obj->(List Obj->α)->α
 | [],K=>K []
 | x :: xs,K=>x.shal fun x=>Obj.shals xs fun xs=>K (x :: xs)
theorem Obj.shals_eq{α:Type}:∀(l:List Obj) (K:List Obj->α),Obj.shals l K=K l
 | [],K=>rfl
 | x :: xs,K=>by rw[Obj.shals,Obj.shal_eq,Obj.shals_eq xs]
def S.force{α:Type}(σ:S)(K:S->α):α:=spineF σ.slots fun s=>Obj.shals σ.own fun own=>natF σ.n0 fun n0=>spineF σ.mv fun mv=>K ⟨s,own,n0,mv⟩
theorem S.force_eq{α:Type}(σ:S)(K:S->α):σ.force K=K σ:=by
 unfold S.force
 rw[spineF_eq,Obj.shals_eq,natF_eq,spineF_eq]
section
variable {P:Program}
def zeroFit(τ:Ty):Bool:=match τ.zero with|some z=>decide (z.cells.size=τ.size)|none=>false
theorem zeroFit_ok{τ:Ty}(h:zeroFit τ=true):∃z,τ.zero=some z/\z.cells.size=τ.size:=by
 unfold zeroFit at h
 split at h
 ·rename_i z e;exact⟨z,e,by simpa using h⟩
 ·cases h
def fitsB(ag:Option Nat)(d:D):Bool:=decide (d.isAgg=ag.isSome) && decide (d.size=es ag)
theorem fitsB_ok{ag:Option Nat}{d:D}(h:fitsB ag d=true):d.fits ag:=by
 unfold fitsB at h;simp only[Bool.and_eq_true,decide_eq_true_eq]at h;exact h
def appendRO(P:Program)(τ:Option Ty)(own:List Obj)(x y:AV):Option Eff3 :=
 match τ with
 | some τ=>(match τ.desc with
  | .slice e=>(match tyOf P e,y.elems own with
   | some τe,some (tag,ys) =>
    gd ((decide (tag=some τe.want) || ys.isEmpty) && decide (es τe.want=τe.size) && decide (0<τe.size) && zeroFit τe)
    (match x with
    | .sl o off len=>(match own.getD o .dead with
     | .row ag xs=>gd (decide (ag=τe.want) && decide (off+len<=xs.length) && decide (len+ys.length<=140737488355328) && decide ((len+ys.length)*τe.bytes<=140737488355328))
       (some (.sl o 0 (len+ys.length),(own.map (Obj.kill o)).set o (.row ag ((xs.drop off).take len++ys)),[o]))
     | _=>none)
    | .nils=>gd (decide (ys.length<=140737488355328) && decide (ys.length*τe.bytes<=140737488355328)) (some (.sl own.length 0 ys.length,own++[.row τe.want ys],[]))
    | _=>none)
   | _,_=>none)
  | _=>none)
 | none=>none
theorem appendRO_ok{τ:Option Ty}{own:List Obj}{x y:AV}{r:Eff3}{K:AV->List Obj->List Nat->Prop}(h:appendRO P τ own x y=some r)(hK:K r.1 r.2.1 r.2.2):appendRw P τ own x y K:=by
 unfold appendRO at h;unfold appendRw
 split at h
 ·simp only
  split at h
  ·rename_i e;rw[e];simp only
   split at h
   ·rename_i e1 e2;rw[e1,e2]
    obtain⟨h1,h2⟩:=gd_some h
    simp only[Bool.and_eq_true,decide_eq_true_eq,Bool.or_eq_true,List.isEmpty_iff]at h1
    refine⟨h1.1.1.1,h1.1.1.2,h1.1.2,zeroFit_ok h1.2,?_⟩
    split at h2
    ·simp only
     split at h2
     ·rename_i e3;rw[e3]
      obtain⟨h3,h4⟩:=gd_some h2;cases h4
      simp only[Bool.and_eq_true,decide_eq_true_eq]at h3
      exact⟨h3.1.1.1,h3.1.1.2,h3.1.2,h3.2,hK⟩
     ·cases h2
    ·obtain⟨h3,h4⟩:=gd_some h2;cases h4
     simp only[Bool.and_eq_true,decide_eq_true_eq]at h3
     exact⟨h3.1,h3.2,hK⟩
    ·cases h2
   ·cases h
  ·cases h
 ·cases h
def appendVO(P:Program)(τ:Option Ty)(own:List Obj)(o off len:Nat)(cs:List AV)(y:AV):Option Eff3 :=
 match τ with
 | some τ=>(match τ.desc with
  | .slice e=>(match tyOf P e,y.vcells own with
   | some τe,some ys=>gd (decide (τe.size=1) && zeroFit τe && decide (off+len<=cs.length) && decide (len+ys.length<=140737488355328) && decide ((len+ys.length)*τe.bytes<=140737488355328))
     (some (.sl o 0 (len+ys.length),(own.map (Obj.kill o)).set o (.vec (AV.kills o ((cs.drop off).take len++ys))),[o]))
   | _,_=>none)
  | _=>none)
 | none=>none
theorem appendVO_ok{τ:Option Ty}{own:List Obj}{o off len:Nat}{cs:List AV}{y:AV}{r:Eff3}{K:AV->List Obj->List Nat->Prop}(h:appendVO P τ own o off len cs y=some r)(hK:K r.1 r.2.1 r.2.2):appendVw P τ own o off len cs y K:=by
 unfold appendVO at h;unfold appendVw
 split at h
 ·simp only
  split at h
  ·rename_i e;rw[e];simp only
   split at h
   ·rename_i e1 e2;rw[e1,e2]
    obtain⟨h1,h2⟩:=gd_some h;cases h2
    simp only[Bool.and_eq_true,decide_eq_true_eq]at h1
    exact⟨h1.1.1.1.1,zeroFit_ok h1.1.1.1.2,h1.1.1.2,h1.1.2,h1.2,hK⟩
   ·cases h
  ·cases h
 ·cases h
def appendNO(P:Program)(τ:Option Ty)(own:List Obj)(ys:List AV):Option Eff3 :=
 match τ with
 | some τ=>(match τ.desc with
  | .slice e=>(match tyOf P e with
   | some τe=>gd (decide (τe.size=1) && zeroFit τe && decide (ys.length<=140737488355328) && decide (ys.length*τe.bytes<=140737488355328) && decide (0<ys.length))
     (some (.sl own.length 0 ys.length,own++[.vec ys],[]))
   | none=>none)
  | _=>none)
 | none=>none
theorem appendNO_ok{τ:Option Ty}{own:List Obj}{ys:List AV}{r:Eff3}{K:AV->List Obj->List Nat->Prop}(h:appendNO P τ own ys=some r)(hK:K r.1 r.2.1 r.2.2):appendNw P τ own ys K:=by
 unfold appendNO at h;unfold appendNw
 split at h
 ·simp only
  split at h
  ·rename_i e;rw[e];simp only
   split at h
   ·rename_i e1;rw[e1]
    obtain⟨h1,h2⟩:=gd_some h;cases h2
    simp only[Bool.and_eq_true,decide_eq_true_eq]at h1
    exact⟨h1.1.1.1.1,zeroFit_ok h1.1.1.1.2,h1.1.1.2,h1.1.2,h1.2,hK⟩
   ·cases h
  ·cases h
 ·cases h
def appendO(P:Program)(τ:Option Ty)(own:List Obj)(x y:AV):Option Eff3 :=
 match x with
 | .sl o off len=>(match own.getD o .dead with
  | .vec cs=>appendVO P τ own o off len cs y
  | .tab _ _=>none
  | _=>appendRO P τ own x y)
 | .nils=>(match y.vcells own with
  | some ys=>appendNO P τ own ys
  | none=>appendRO P τ own x y)
 | _=>appendRO P τ own x y
theorem appendO_ok{τ:Option Ty}{own:List Obj}{x y:AV}{r:Eff3}{K:AV->List Obj->List Nat->Prop}(h:appendO P τ own x y=some r)(hK:K r.1 r.2.1 r.2.2):appendw P τ own x y K:=by
 unfold appendO at h;unfold appendw
 split at h
 ·simp only
  split at h
  ·rename_i e;rw[e];exact appendVO_ok h hK
  ·cases h
  ·rename_i hne hnt
   split
   ·rename_i e;exact(hne _ e).elim
   ·rename_i e;exact(hnt _ _ e).elim
   ·exact appendRO_ok h hK
 ·simp only
  split at h
  ·rename_i e;rw[e];exact appendNO_ok h hK
  ·rename_i e;rw[e];exact appendRO_ok h hK
 ·rename_i h1 h2
  split
  ·exact(h1 _ _ _ rfl).elim
  ·exact(h2 rfl).elim
  ·exact appendRO_ok h hK
def copyO(P:Program)(τ:Option Ty)(own:List Obj)(x y:AV):Option Eff3 :=
 match τ with
 | some τ=>(match τ.desc with
  | .slice e=>(match tyOf P e,y.elems own with
   | some τe,some (tag,ys) =>
    gd ((decide (tag=some τe.want) || ys.isEmpty) && decide (es τe.want=τe.size))
    (match x with
    | .sl o off len=>(match own.getD o .dead with
     | .row ag xs=>gd (decide (ag=τe.want) && decide (off+len<=xs.length))
       (some (.dat (.int .i64 (min ys.length len:Nat)),own.set o (.row ag (xs.take off++ys.take len++xs.drop (off+min ys.length len))),[]))
     | _=>none)
    | _=>none)
   | _,_=>none)
  | _=>none)
 | none=>none
theorem copyO_ok{τ:Option Ty}{own:List Obj}{x y:AV}{r:Eff3}{K:AV->List Obj->List Nat->Prop}(h:copyO P τ own x y=some r)(hK:K r.1 r.2.1 r.2.2):copyw P τ own x y K:=by
 unfold copyO at h;unfold copyw
 split at h
 ·simp only
  split at h
  ·rename_i e;rw[e];simp only
   split at h
   ·rename_i e1 e2;rw[e1,e2]
    obtain⟨h1,h2⟩:=gd_some h
    simp only[Bool.and_eq_true,decide_eq_true_eq,Bool.or_eq_true,List.isEmpty_iff]at h1
    refine⟨h1.1,h1.2,?_⟩
    split at h2
    ·simp only
     split at h2
     ·rename_i e3;rw[e3]
      obtain⟨h3,h4⟩:=gd_some h2;cases h4
      simp only[Bool.and_eq_true,decide_eq_true_eq]at h3
      exact⟨h3.1,h3.2,hK⟩
     ·cases h2
    ·cases h2
   ·cases h
  ·cases h
 ·cases h
def allocO(P:Program)(t:TypeId)(own:List Obj):Option Eff3 :=
 match tyOf P t with
 | some τ=>(match τ.arr with
  | some (n,e)=>(match tyOf P e with
   | some τe=>(match zeroD τe,τe.zero,τ.zero with
    | some zd,some (.int k z),some (.agg arr)=>gd (decide (arr.size=n) && arr.toList.all fun v=>match v with|.int k' z'=>decide (k'=k) && decide (z'=z)|_=>false)
      (some (.ptr own.length 0 0,own++[.row none (List.replicate n zd)],[]))
    | some zd,some (.bool z),some (.agg arr)=>gd (decide (arr.size=n) && arr.toList.all fun v=>match v with|.bool z'=>decide (z'=z)|_=>false)
      (some (.ptr own.length 0 0,own++[.row none (List.replicate n zd)],[]))
    | _,_,_=>none)
   | none=>none)
  | none=>(match τ.zero with
   | some z=>gd (z.cells.toList.all (·.oneCell')) (some (.ptr own.length 0 0,own++[varObj t z],[]))
   | none=>none))
 | none=>none
theorem arr_rep{arr:Array Value}{n:Nat}{v:Value}(hs:arr.size=n)(h:∀u∈arr.toList,u=v):arr=Array.replicate n v:=by
 apply Array.ext'
 rw[Array.toList_replicate]
 exact List.eq_replicate_iff.2 ⟨by simpa using hs,h⟩
theorem allocO_ok{t:TypeId}{own:List Obj}{r:Eff3}{K:AV->List Obj->List Nat->Prop}(h:allocO P t own=some r)(hK:K r.1 r.2.1 r.2.2):allocw P t own K:=by
 unfold allocO at h;unfold allocw
 split at h
 ·rename_i hτ;rw[hτ];simp only
  split at h
  ·rename_i e;rw[e];simp only
   split at h
   ·rename_i e1;rw[e1];simp only
    split at h
    ·rename_i e2 e3 e4;rw[e2,e3,e4]
     obtain⟨h1,h2⟩:=gd_some h;cases h2
     simp only[Bool.and_eq_true,decide_eq_true_eq,List.all_eq_true]at h1
     refine⟨?_,hK⟩
     rw[arr_rep h1.1 (fun u hu=>?_)]
     have:=h1.2 u hu
     split at this
     ·simp only[Bool.and_eq_true,decide_eq_true_eq]at this;rw[this.1,this.2]
     ·cases this
    ·rename_i e2 e3 e4;rw[e2,e3,e4]
     obtain⟨h1,h2⟩:=gd_some h;cases h2
     simp only[Bool.and_eq_true,decide_eq_true_eq,List.all_eq_true]at h1
     refine⟨?_,hK⟩
     rw[arr_rep h1.1 (fun u hu=>?_)]
     have:=h1.2 u hu
     split at this
     ·simp only[decide_eq_true_eq]at this;rw[this]
     ·cases this
    ·cases h
   ·cases h
  ·rename_i e;rw[e];simp only
   split at h
   ·rename_i e1;rw[e1]
    obtain⟨h1,h2⟩:=gd_some h;cases h2
    exact⟨h1,hK⟩
   ·cases h
 ·cases h
def boxO(own:List Obj)(x:AV):Option Eff3:=match x.asCells with|some vs=>some (.ptr own.length 0 0,own++[.box vs],[])|none=>none
theorem boxO_ok{own:List Obj}{x:AV}{r:Eff3}{K:AV->List Obj->List Nat->Prop}(h:boxO own x=some r)(hK:K r.1 r.2.1 r.2.2):boxw own x K:=by
 unfold boxO at h;unfold boxw
 split at h
 ·rename_i e;rw[e];cases h;exact hK
 ·cases h
def buildSliceO(P:Program)(τ:Option Ty)(own:List Obj)(len:Nat)(parts:List (Nat×AV)):Option Eff3 :=
 match τ with
 | some τ=>(match τ.desc with
  | .slice e=>(match tyOf P e,litN parts with
   | some τe,some ds=>gd (decide (ds.length=len) && decide (es τe.want=τe.size) && decide (0<τe.size) && decide (len*τe.size<=16777216) && zeroFit τe && ds.all (fitsB τe.want))
     (some (.sl own.length 0 len,own++[.row τe.want ds],[]))
   | some τe,none=>(match litV 0 parts with
    | some as=>gd (decide (as.length=len) && decide (τe.size=1) && decide (len<=16777216) && zeroFit τe) (some (.sl own.length 0 len,own++[.vec as],[]))
    | none=>none)
   | _,_=>none)
  | _=>none)
 | none=>none
theorem buildSliceO_ok{τ:Option Ty}{own:List Obj}{len:Nat}{parts:List (Nat×AV)}{r:Eff3}{K:AV->List Obj->List Nat->Prop}(h:buildSliceO P τ own len parts=some r)(hK:K r.1 r.2.1 r.2.2):buildSlicew P τ own len parts K:=by
 unfold buildSliceO at h;unfold buildSlicew
 split at h
 ·simp only
  split at h
  ·rename_i e;rw[e];simp only
   split at h
   ·rename_i e1 e2;rw[e1,e2]
    obtain⟨h1,h2⟩:=gd_some h;cases h2
    simp only[Bool.and_eq_true,decide_eq_true_eq,List.all_eq_true]at h1
    exact⟨h1.1.1.1.1.1,h1.1.1.1.1.2,h1.1.1.1.2,h1.1.1.2,zeroFit_ok h1.1.2,fun d hd=>fitsB_ok (h1.2 d hd),hK⟩
   ·rename_i e1 e2;rw[e1,e2];simp only
    split at h
    ·rename_i e3;rw[e3]
     obtain⟨h1,h2⟩:=gd_some h;cases h2
     simp only[Bool.and_eq_true,decide_eq_true_eq]at h1
     exact⟨h1.1.1.1,h1.1.1.2,h1.1.2,zeroFit_ok h1.2,hK⟩
    ·cases h
   ·cases h
  ·cases h
 ·cases h
def makeSliceO(P:Program)(τ:Option Ty)(own:List Obj)(l c:AV):Option Eff3 :=
 match τ,l,c with
 | some τ,.dat (.int .i64 l),.dat (.int .i64 c)=>(match τ.desc with
  | .slice e=>(match tyOf P e with
   | some τe=>(match isNilSl τe.zero with
    | true=>gd (decide (0<=l) && decide (l<=c) && decide ((τe.bytes:Int)*c<=281474976710656) && decide (τe.size=1))
      (some (.sl own.length 0 l.toNat,own++[.vec (List.replicate l.toNat .nils)],[]))
    | false=>(match zeroElem τe with
     | some z=>gd (decide (0<=l) && decide (l<=c) && decide ((τe.bytes:Int)*c<=281474976710656) && decide (es τe.want=τe.size) && fitsB τe.want z)
       (some (.sl own.length 0 l.toNat,own++[.row τe.want (List.replicate l.toNat z)],[]))
     | none=>none))
   | none=>none)
  | _=>none)
 | _,_,_=>none
theorem makeSliceO_ok{τ:Option Ty}{own:List Obj}{l c:AV}{r:Eff3}{K:AV->List Obj->List Nat->Prop}(h:makeSliceO P τ own l c=some r)(hK:K r.1 r.2.1 r.2.2):makeSlicew P τ own l c K:=by
 unfold makeSliceO at h;unfold makeSlicew
 split at h
 ·simp only
  split at h
  ·rename_i e;rw[e];simp only
   split at h
   ·rename_i e1;rw[e1];simp only
    split at h
    ·rename_i e0;rw[e0]
     obtain⟨h1,h2⟩:=gd_some h;cases h2
     simp only[Bool.and_eq_true,decide_eq_true_eq]at h1
     exact⟨h1.1.1.1,h1.1.1.2,h1.1.2,h1.2,hK⟩
    ·rename_i e0;rw[e0];simp only
     split at h
     ·rename_i e2;rw[e2]
      obtain⟨h1,h2⟩:=gd_some h;cases h2
      simp only[Bool.and_eq_true,decide_eq_true_eq]at h1
      exact⟨h1.1.1.1.1,h1.1.1.1.2,h1.1.1.2,h1.1.2,fitsB_ok h1.2,hK⟩
     ·cases h
   ·cases h
  ·cases h
 ·cases h
def storeObjO(τ:Ty)(obj:Obj)(i j:Nat)(x:AV):Option Obj :=
 match obj with
 | .row none xs=>(match τ.agg with
  | false=>gd (decide (τ.size=1) && decide (j=0) && decide (i<xs.length)) (match x.pure with|some d=>gd (!d.isAgg) (some (.row none (xs.set i d)))|none=>none)
  | true=>gd (decide (i=0) && decide (j=0) && decide (τ.size=xs.length)) (match x.pure with|some (.agg ds)=>gd (decide (ds.length=xs.length)) (some (.row none ds))|_=>none))
 | .row (some k) xs=>gd (decide (i<xs.length)) (match x.pure with
   | some d=>(match τ.agg with
    | true=>gd (decide (j=0) && decide (τ.size=k) && fitsB (some k) d) (some (.row (some k) (xs.set i d)))
    | false=>gd (decide (τ.size=1) && decide (j<k) && !d.isAgg) (some (.row (some k) (xs.set i (D.setPart (D.nth xs i) j d)))))
   | none=>none)
 | .vec cs=>gd (decide (τ.size=1) && decide (j=0) && decide (i<cs.length)) (match x.asCells with|some [v]=>some (.vec (cs.set i v))|_=>none)
 | .tab k cs=>(match x.asCells with|some vs=>gd (decide (vs.length=τ.size) && decide (i*k+j+vs.length<=cs.length)) (some (.tab k (splice cs (i*k+j) vs)))|none=>none)
 | .box cs=>gd (decide (i=0)) (match x.asCells with|some vs=>gd (decide (vs.length=τ.size) && decide (j+vs.length<=cs.length)) (some (.box (splice cs j vs)))|none=>none)
 | _=>none
theorem storeObjO_ok{τ:Ty}{obj obj':Obj}{i j:Nat}{x:AV}{K:Obj->Prop}(h:storeObjO τ obj i j x=some obj')(hK:K obj'):storeObj τ obj i j x K:=by
 unfold storeObjO at h;unfold storeObj
 split at h
 ·split at h
  ·rename_i ea;rw[ea]
   obtain⟨h1,h2⟩:=gd_some h
   simp only[Bool.and_eq_true,decide_eq_true_eq]at h1
   refine⟨h1.1.1,h1.1.2,h1.2,?_⟩
   split at h2
   ·rename_i e;rw[e]
    obtain⟨h3,h4⟩:=gd_some h2;cases h4
    exact⟨by simpa using h3,hK⟩
   ·cases h2
  ·rename_i ea;rw[ea]
   obtain⟨h1,h2⟩:=gd_some h
   simp only[Bool.and_eq_true,decide_eq_true_eq]at h1
   refine⟨h1.1.1,h1.1.2,h1.2,?_⟩
   split at h2
   ·rename_i e;rw[e]
    obtain⟨h3,h4⟩:=gd_some h2;cases h4
    exact⟨by simpa using h3,hK⟩
   ·cases h2
 ·obtain⟨h1,h2⟩:=gd_some h
  refine⟨by simpa using h1,?_⟩
  split at h2
  ·rename_i e;rw[e];simp only
   split at h2
   ·rename_i e2;rw[e2]
    obtain⟨h3,h4⟩:=gd_some h2;cases h4
    simp only[Bool.and_eq_true,decide_eq_true_eq]at h3
    exact⟨h3.1.1,h3.1.2,fitsB_ok h3.2,hK⟩
   ·rename_i e2;rw[e2]
    obtain⟨h3,h4⟩:=gd_some h2;cases h4
    simp only[Bool.and_eq_true,decide_eq_true_eq,Bool.not_eq_true']at h3
    exact⟨h3.1.1,h3.1.2,h3.2,hK⟩
  ·cases h2
 ·obtain⟨h1,h2⟩:=gd_some h
  simp only[Bool.and_eq_true,decide_eq_true_eq]at h1
  refine⟨h1.1.1,h1.1.2,h1.2,?_⟩
  split at h2
  ·rename_i e;rw[e];cases h2;exact hK
  ·cases h2
 ·split at h
  ·rename_i e;rw[e]
   obtain⟨h3,h4⟩:=gd_some h;cases h4
   simp only[Bool.and_eq_true,decide_eq_true_eq]at h3
   exact⟨h3.1,h3.2,hK⟩
  ·cases h
 ·obtain⟨h1,h2⟩:=gd_some h
  refine⟨by simpa using h1,?_⟩
  split at h2
  ·rename_i e;rw[e]
   obtain⟨h3,h4⟩:=gd_some h2;cases h4
   simp only[Bool.and_eq_true,decide_eq_true_eq]at h3
   exact⟨h3.1,h3.2,hK⟩
  ·cases h2
 ·cases h
def storeO(τ:Option Ty)(own:List Obj)(a x:AV):Option Eff3 :=
 match τ,a with
 | some τ,.ptr o i j=>(match storeObjO τ (own.getD o .dead) i j x with|some obj=>some (.top,own.set o obj,[])|none=>none)
 | _,_=>none
theorem storeO_ok{τ:Option Ty}{own:List Obj}{a x:AV}{r:Eff3}{K:AV->List Obj->List Nat->Prop}(h:storeO τ own a x=some r)(hK:K r.1 r.2.1 r.2.2):storew τ own a x K:=by
 unfold storeO at h;unfold storew
 split at h
 ·simp only
  split at h
  ·rename_i e;cases h;exact storeObjO_ok e hK
  ·cases h
 ·cases h
def mapUpdateO(P:Program)(τ:Option Ty)(own:List Obj)(x k v:AV):Option Eff3 :=
 match τ,x,k.keyD with
 | some τ,.map o,some k=>(match τ.desc with
  | .map kt _=>(match tyOf P kt,own.getD o .dead,v.pure with
   | some τk,.map m,some v=>gd (D.isKeyP P kt τk.desc k && m.all fun x=>D.isKeyP P kt τk.desc x.1) (some (.top,own.set o (.map (mapSet k v m)),[]))
   | _,_,_=>none)
  | _=>none)
 | _,_,_=>none
theorem mapUpdateO_ok{τ:Option Ty}{own:List Obj}{x k v:AV}{r:Eff3}{K:AV->List Obj->List Nat->Prop}(h:mapUpdateO P τ own x k v=some r)(hK:K r.1 r.2.1 r.2.2):mapUpdatew P τ own x k v K:=by
 unfold mapUpdateO at h;unfold mapUpdatew
 split at h
 ·rename_i hkd
  simp only[hkd]
  split at h
  ·rename_i e;rw[e];simp only
   split at h
   ·rename_i e1 e2 e3;rw[e1,e2,e3]
    obtain⟨h1,h2⟩:=gd_some h;cases h2
    simp only[Bool.and_eq_true]at h1
    exact⟨h1.1,h1.2,hK⟩
   ·cases h
  ·cases h
 ·cases h
abbrev CallO:=Nat->List AV->List Obj->Option Eff3
def callwO(call:CallO)(f:AV)(args:List AV)(own:List Obj):Option Eff3:=match f with|.fn g caps=>call g (args++caps) own|_=>none
theorem callwO_ok{Γ:Nat->Contract}{call:CallO}(hc:∀g args own r,call g args own=some r->Γ g args own r.1 r.2.1 r.2.2){f:AV}{args:List AV}{own:List Obj}{r:Eff3}{K:AV->List Obj->List Nat->Prop}
  (h:callwO call f args own=some r) (hK:K r.1 r.2.1 r.2.2):callw Γ f args own K:=by
 unfold callwO at h;unfold callw
 split at h
 ·exact⟨_,_,_,hc _ _ _ _ h,hK⟩
 ·cases h
def ecallO(P:Program)(call:CallO)(own:List Obj)(slots:List AV)(f:Callee)(args:List Operand)(ts:List TypeId):Option Eff3 :=
 match f,args,ts with
 | .builtin .append,[x,y],[t,t']=>gd (decide (t=t')) (appendO P (tyOf P t) own (ev slots x) (ev slots y))
 | .builtin .copy,[x,y],[t,_]=>copyO P (tyOf P t) own (ev slots x) (ev slots y)
 | .value f,args,_=>callwO call (ev slots f) (args.map (ev slots)) own
 | _,_,_=>none
theorem ecallO_ok{Γ:Nat->Contract}{call:CallO}(hc:∀g args own r,call g args own=some r->Γ g args own r.1 r.2.1 r.2.2){own:List Obj}{slots:List AV}{f:Callee}{args:List Operand}{ts:List TypeId}{r:Eff3}
  {K:AV->List Obj->List Nat->Prop} (h:ecallO P call own slots f args ts=some r) (hK:K r.1 r.2.1 r.2.2):ecall P Γ own slots f args ts K:=by
 unfold ecallO at h;unfold ecall
 split at h
 ·obtain⟨h1,h2⟩:=gd_some h;obtain rfl:=of_decide_eq_true h1;show appTw _ _ _ _ _ _ _;rw[appTw_same];exact appendO_ok h2 hK
 ·exact copyO_ok h hK
 ·exact callwO_ok hc h hK
 ·cases h
def eopO(P:Program)(call:CallO)(own:List Obj)(slots:List AV)(op:Op):Option Eff3 :=
 match op with
 | .alloc e=>allocO P e own
 | .box _ x=>boxO own (ev slots x)
 | .buildSlice t len parts=>buildSliceO P (tyOf P t) own len (parts.toList.map fun p=>(p.1,ev slots p.2))
 | .store t a x=>storeO (tyOf P t) own (ev slots a) (ev slots x)
 | .makeMap _ none=>some (.map own.length,own++[.map []],[])
 | .makeSlice t l c=>makeSliceO P (tyOf P t) own (ev slots l) (ev slots c)
 | .mapUpdate t m k x=>mapUpdateO P (tyOf P t) own (ev slots m) (ev slots k) (ev slots x)
 | .insert t m k x=>mapUpdateO P (tyOf P t) own (ev slots m) (ev slots k) (ev slots x)
 | .call c=>ecallO P call own slots c.callee c.args.toList c.argTypes.toList
 | _=>none
theorem eopO_ok{Γ:Nat->Contract}{call:CallO}(hc:∀g args own r,call g args own=some r->Γ g args own r.1 r.2.1 r.2.2){own:List Obj}{slots:List AV}{op:Op}{r:Eff3}
  {K:AV->List Obj->List Nat->Prop} (h:eopO P call own slots op=some r) (hK:K r.1 r.2.1 r.2.2):eop P Γ own slots op K:=by
 unfold eopO at h;unfold eop
 split at h
 ·exact allocO_ok h hK
 ·exact boxO_ok h hK
 ·exact buildSliceO_ok h hK
 ·exact storeO_ok h hK
 ·cases h;exact hK
 ·exact makeSliceO_ok h hK
 ·exact mapUpdateO_ok h hK
 ·exact mapUpdateO_ok h hK
 ·exact ecallO_ok hc h hK
 ·cases h
def opO(P:Program)(call:CallO)(o:Oper)(σ:S):Option S :=
 match isV o.op with
 | true=>(match vopO P σ.own σ.slots o.op with|some v=>AV.force v fun v=>some (σ.put o.dst v)|none=>none)
 | false=>(match eopO P call σ.own σ.slots o.op with|some r=>AV.force r.1 fun v=>spineF r.2.2 fun kl=>some (σ.effect o.dst v r.2.1 kl)|none=>none)
theorem opO_ok{Γ:Nat->Contract}{call:CallO}(hc:∀g args own r,call g args own=some r->Γ g args own r.1 r.2.1 r.2.2){o:Oper}{σ σ':S}{K:S->Prop}(h:opO P call o σ=some σ')(hK:K σ'):opw P Γ o K σ:=by
 unfold opO at h;unfold opw
 split at h
 ·rename_i e;rw[if_pos e]
  split at h
  ·rename_i e2;rw[AV.force_eq]at h;cases h;exact vopO_ok e2 hK
  ·cases h
 ·rename_i e;rw[if_neg (by simp[e])]
  split at h
  ·rename_i e2;rw[AV.force_eq,spineF_eq]at h;cases h;exact eopO_ok hc e2 hK
  ·cases h
def opgO(P:Program)(call:CallO)(all:Array Oper)(o:Oper)(σ:S):Option S :=
 match o.guard with
 | none=>opO P call o σ
 | some (j,want) =>
  (match (all[j]?).bind (·.dst) with
  | some d=>(match σ.slots.getD d .top with
   | .dat (.bool b)=>(match decide (b=want) with|true=>opO P call o σ|false=>some (σ.put o.dst (.tup [])))
   | .tup []=>some (σ.put o.dst (.tup []))
   | _=>none)
  | none=>none)
theorem opgO_ok{Γ:Nat->Contract}{call:CallO}(hc:∀g args own r,call g args own=some r->Γ g args own r.1 r.2.1 r.2.2){all:Array Oper}{o:Oper}{σ σ':S}{K:S->Prop}(h:opgO P call all o σ=some σ')(hK:K σ'):opg P Γ all o K σ:=by
 unfold opgO at h;unfold opg
 split at h
 ·rename_i e;rw[e];exact opO_ok hc h hK
 ·rename_i e;rw[e];simp only
  split at h
  ·rename_i e2;rw[e2];simp only
   unfold grd
   split at h
   ·rename_i b e3;rw[e3];simp only
    split at h
    ·rename_i e4
     have e5:=of_decide_eq_true e4
     refine⟨fun _=>opO_ok hc h hK,fun hb=>?_⟩
     rw[← e5]at hb
     cases b <;> cases hb
    ·rename_i e4
     refine⟨fun hb=>?_,fun _=>by cases h;exact hK⟩
     simp[hb]at e4
   ·rename_i e3;rw[e3];cases h;exact hK
   ·cases h
  ·cases h
end
end Go.AM
namespace Go.AM
open Go
theorem le_freezeM{s:List AV}{own:List Obj}{n0:Nat}{mv:List Nat}(o:Nat){ag:Option Nat}{xs:List D}(ho:own[o]?=some (.row ag xs)) :
  Le ⟨s,own,n0,mv⟩ ⟨AV.frzs o ag xs s,(own.map (Obj.frz o ag xs)).set o .dead,n0,addMv n0 mv [o]⟩:=by
 rintro c a w ⟨hd,hn,F,φ,h2,h3,h4⟩
 obtain⟨F',φ',q1,q2,q3,q4,q5,q6⟩:=conc_freeze h3 o ho
 refine⟨hd,hn,F',φ',⟨fun b hb=>q1 b (h2.sub b hb),h2.ext,fun o' L hlt hm hL=>?_,h2.rest,fun o' L' ho' hn'=>h2.orig o' L' (q5 _ _ ho') hn',fun b hb=>?_⟩,q2,q3 _ _ h4⟩
 ·simp only at hm hn
  rw[hn]at hm
  obtain⟨m1,m2⟩:=mem_addMv [o] mv c.n0 o' hlt hm
  exact q4 o' L (by simpa using m2) (h2.keep o' L hlt m1 hL)
 ·rcases q6 b hb with h|⟨L,l1,l2,l3⟩
  ·exact h2.frsh b h
  ·rw[← l3]
   rcases h2.orig o L l1 l2 with h|h
   ·exact .inr (.inl h)
   ·exact .inr (.inr h)
theorem le_mv0{s:List AV}{own:List Obj}{mv:List Nat}:Le ⟨s,own,0,mv⟩ ⟨s,own,0,[]⟩:=by
 rintro c a w ⟨hd,hn,F,φ,h2,h3,h4⟩
 exact⟨hd,hn,F,φ,{ h2 with keep:=fun o L hlt _ _=>by rw[← hn]at hlt;simp at hlt },h3,h4⟩
def datOf:AV->Option D|.dat d=>some d|_=>none
def datsOf:List AV->Option (List D)
 | []=>some []
 | v :: vs=>match datOf v,datsOf vs with|some d,some ds=>some (d :: ds)|_,_=>none
theorem datsOf_ok:∀{vs:List AV} {ds:List D},datsOf vs=some ds->vs=ds.map .dat
 | [],ds,h=>by simp only[datsOf,Option.some.injEq]at h;subst h;rfl
 | v :: vs,ds,h=>by
  unfold datsOf at h
  split at h
  ·rename_i d ds' e1 e2
   cases h
   rw[List.map_cons,← datsOf_ok e2]
   unfold datOf at e1
   split at e1
   ·cases e1;rfl
   ·cases e1
  ·cases h
def S.frz(o:Nat)(σ:S):S :=
 match σ.own[o]? with
 | some (.row ag xs)=>⟨AV.frzs o ag xs σ.slots,(σ.own.map (Obj.frz o ag xs)).set o .dead,σ.n0,addMv σ.n0 σ.mv [o]⟩
 | some (.vec cs)=>(match datsOf (cs.map AV.norm1) with
  | some ds=>⟨AV.frzs o none ds σ.slots,(((σ.own.set o (.vec (ds.map .dat))).set o (.row none ds)).map (Obj.frz o none ds)).set o .dead,σ.n0,addMv σ.n0 σ.mv [o]⟩
  | none=>σ)
 | _=>σ
theorem lt_of_get{α:Type}{l:List α}{i:Nat}{x:α}(h:l[i]?=some x):i<l.length:=by
 rcases Nat.lt_or_ge i l.length with h1|h1
 ·exact h1
 ·rw[List.getElem?_eq_none h1]at h;cases h
theorem le_Sfrz(o:Nat)(σ:S):Le σ (σ.frz o):=by
 obtain⟨s,own,n0,mv⟩:=σ
 unfold S.frz
 simp only
 split
 ·rename_i e;exact le_freezeM o e
 ·rename_i cs e
  split
  ·rename_i ds e2
   have hlt:=lt_of_get e
   refine Le.trans (le_vecnorm o e) ?_
   rw[datsOf_ok e2]
   refine Le.trans (le_unvec (xs:=ds) o (by rw[List.getElem?_set];simp[hlt])) ?_
   exact le_freezeM o (by rw[List.getElem?_set];simp[hlt])
  ·exact Le.refl _
 ·exact Le.refl _
def S.frzL:List Nat->S->S
 | [],σ=>σ
 | o :: os,σ=>S.frzL os (σ.frz o)
theorem le_SfrzL:∀(os:List Nat) (σ:S),Le σ (σ.frzL os)
 | [],σ=>Le.refl _
 | o :: os,σ=>Le.trans (le_Sfrz o σ) (le_SfrzL os _)
def AV.rowRefs:AV->List Nat
 | .sl o _ _=>[o]
 | .agg vs=>AV.rowRefsL vs
 | _=>[]
where
 AV.rowRefsL:List AV->List Nat
  | []=>[]
  | .sl o _ _ :: vs=>o :: AV.rowRefsL vs
  | _ :: vs=>AV.rowRefsL vs
def prepL(own:List Obj)(slots:List AV)(op:Op):List Nat :=
 match op with
 | .buildSlice _ _ parts=>(match litV 0 (parts.toList.map fun p=>(p.1,ev slots p.2)) with|some _=>[]|none=>(parts.toList.map fun p=>(ev slots p.2).rowRefs).flatten)
 | .store _ a x=>(match ev slots a with|.ptr o _ _=>(match own.getD o .dead with|.row (some _) _=>(ev slots x).rowRefs|_=>[])|_=>[])
 | .mapUpdate _ _ _ x=>(ev slots x).rowRefs
 | .insert _ _ _ x=>(ev slots x).rowRefs
 | _=>[]
def vecL(own:List Obj)(slots:List AV)(op:Op):Option Nat :=
 match op with
 | .store _ a x=>(match ev slots a,ev slots x with|.ptr o _ _,.sl _ _ _=>(match own.getD o .dead with|.row none _=>some o|_=>none)|_,_=>none)
 | _=>none
def S.toVec(σ:S):Option Nat->S
 | none=>σ
 | some o=>(match σ.own[o]? with|some (.row none xs)=>{ σ with own:=σ.own.set o (.vec (xs.map .dat)) }|_=>σ)
theorem le_toVec(σ:S)(r:Option Nat):Le σ (σ.toVec r):=by
 cases r with
 | none=>exact Le.refl _
 | some o =>
  obtain⟨s,own,n0,mv⟩:=σ
  simp only[S.toVec]
  split
  ·rename_i e;exact le_vec o e
  ·exact Le.refl _
def S.prep(σ:S)(op:Op):S:=(σ.toVec (vecL σ.own σ.slots op)).frzL (prepL σ.own σ.slots op)
theorem le_prep(σ:S)(op:Op):Le σ (σ.prep op):=Le.trans (le_toVec _ _) (le_SfrzL _ _)
section
variable {P:Program}
def runOps(P:Program)(call:CallO)(all:Array Oper):List Oper->S->Option S
 | [],σ=>some σ
 | o :: os,σ=>match opgO P call all o (σ.prep o.op) with|some σ'=>runOps P call all os σ'|none=>none
theorem runOps_ok{Γ:Nat->Contract}{call:CallO}(hΓ:OkG P Γ)(hc:∀g args own r,call g args own=some r->Γ g args own r.1 r.2.1 r.2.2){all:Array Oper}{Q:Exit->S->Prop}{c:Ctx} :
  ∀(l:List Oper) (σ σ':S),runOps P call all l σ=some σ'->Q .normal σ'->∀a w,St c σ a w->wpListIn (fen c.rd) 0 P all (lift c Q) l a w
 | [],σ,σ',h,hq,a,w,hst=>by
  simp only[runOps,Option.some.injEq]at h
  subst h
  exact lift_mk hst hq
 | o :: os,σ,σ',h,hq,a,w,hst=>by
  unfold runOps at h
  have hst':=le_prep σ o.op c a w hst
  split at h
  ·rename_i σ1 e
   have hop:=opgO_ok hc (K:=fun s=>s=σ1) e rfl
   unfold wpListIn
   rcases opg_sound hΓ (Q:=lift c Q) hst' hop with⟨hw,hwp⟩|⟨hw,σ2,hst2,rfl⟩
   ·rw[if_pos hw]
    refine Oper.wpIn_mono ?_ hwp
    rintro a' w' ⟨σ2,hst2,rfl⟩
    exact runOps_ok hΓ hc os _ σ' h hq a' w' hst2
   ·rw[if_neg (by simp[hw])]
    exact⟨fun _ _=>trivial,runOps_ok hΓ hc os _ σ' h hq _ w hst2⟩
  ·cases h
def Oper.callee(o:Oper):List Nat:=match o.op with|.call c=>(match c.callee with|.value (.func g)=>[g]|_=>[])|_=>[]
def isFreeV(o:Oper):Bool:=isV o.op || !(Oper.callee o).isEmpty
def orderO(ops:Array Oper):Nat->List Nat->List Nat->List Nat
 | 0,acc,_=>acc.reverse
 | n+1,acc,left =>
  let ready:=left.filter fun i=>left.all fun j=>!Region.waitsFor .any ops i j
  (match ready.find? (fun i=>match ops[i]? with|some o=>isFreeV o|none=>false) with
  | some i=>orderO ops n (i :: acc) (left.filter (· != i))
  | none=>(match ready with
   | i :: _=>orderO ops n (i :: acc) (left.filter (· != i))
   | []=>acc.reverse))
def marksO(ops:Array Oper):List Nat :=
 let r:=List.range ops.size
 let st:=fun i=>match ops[i]? with|some o=>isStore o|none=>false
 r.filter fun p=>r.any fun i=>decide (i≠p) && (st p || st i) && !Region.waitsFor .any ops i p && !Region.waitsFor .any ops p i
def condB(ob:Nat)(o:Oper)(slots:List AV):Bool :=
 match o.op with
 | .store _ a _=>(match ev slots a with|.ptr o' _ _=>decide (o'=ob)|_=>false)
 | op=>op.operands.toList.all fun x=>!(ev slots x).refs ob
theorem condB_ok{ob:Nat}{o:Oper}{slots:List AV}(h:condB ob o slots=true):condM ob o slots:=by
 unfold condB at h;unfold condM
 split at h
 ·rename_i e;rw[e]
  split at h
  ·rename_i e2;simp only[e2];have:=of_decide_eq_true h;subst this;exact⟨_,_,rfl⟩
  ·cases h
 ·rename_i hn
  split
  ·rename_i e2;exact(hn _ _ _ e2).elim
  ·intro x hx
   have:=List.all_eq_true.1 h x hx
   simpa using this
def findOb(P:Program)(call:CallO)(all:Array Oper)(ms:List Nat):List Nat->S->Nat
 | [],_=>0
 | i :: r,σ=>match all[i]? with
  | none=>0
  | some o=>(match isStore o && ms.contains i with
   | true=>(match o.op with|.store _ a _=>(match ev σ.slots a with|.ptr ob _ _=>ob|_=>0)|_=>0)
   | false=>(match opgO P call all o σ with|some σ'=>findOb P call all ms r σ'|none=>0))
def chainO(P:Program)(call:CallO)(all:Array Oper)(ob:Nat)(ms:List Nat):List Nat->S->Option S
 | [],σ=>some σ
 | i :: r,σ=>match all[i]? with
  | none=>none
  | some o=>gd (!ms.contains i || condB ob o σ.slots) (match opgO P call all o σ with|some σ'=>chainO P call all ob ms r σ'|none=>none)
theorem chainO_ok{Γ:Nat->Contract}{call:CallO}(hc:∀g args own r,call g args own=some r->Γ g args own r.1 r.2.1 r.2.2){all:Array Oper}{ob:Nat}{ms:List Nat}{Q:Exit->S->Prop} :
  ∀(l:List Nat) (σ σ':S),chainO P call all ob ms l σ=some σ'->Q .normal σ'->chainM P Γ all ob ms Q l σ
 | [],σ,σ',h,hq=>by
  simp only[chainO,Option.some.injEq]at h
  subst h
  exact hq
 | i :: r,σ,σ',h,hq=>by
  unfold chainO at h
  unfold chainM
  split at h
  ·cases h
  ·rename_i o e
   rw[e]
   obtain⟨h1,h2⟩:=gd_some h
   split at h2
   ·rename_i σ1 e2
    refine⟨fun hm=>condB_ok (by simpa only[hm,Bool.not_true,Bool.false_or] using h1),opgO_ok hc e2 ?_⟩
    exact chainO_ok hc r σ1 σ' h2 hq
   ·cases h2
def drawO0(P:Program)(call:CallO)(ops:Array Oper)(σ:S):Option S :=
 let L:=orderO ops ops.size [] (List.range ops.size)
 let ms:=marksO ops
 let pf:=(ops.toList.map Oper.callee).flatten
 gd (drawOkM pf [] ms ops L) (chainO P call ops (match ms with|[]=>0|_=>findOb P call ops ms L σ) ms L σ)
theorem drawO0_ok{Γ:Nat->Contract}{call:CallO}(hm:P.follows .mixedOrders=true)(hΓ:OkG P Γ)(hpf:∀pf,PureFns Γ pf)(hc:∀g args own r,call g args own=some r->Γ g args own r.1 r.2.1 r.2.2){id:Nat}{ops:Array Oper}{σ σ':S}{Q:Exit->S->Prop}
  (h:drawO0 P call ops σ=some σ') (hq:Q .normal σ'):sem P (.region id ops true) Q σ:=by
 unfold drawO0 at h
 obtain⟨h1,h2⟩:=gd_some h
 exact sem_drawM hm hΓ (hpf _) (fun g _ _ _ _ _ hg=>by rcases hg with hg|hg <;> cases hg) _ h1 (chainO_ok hc _ _ _ h2 hq)
def drawO(P:Program)(call:CallO)(ops:Array Oper)(σ:S):Option S :=
 match drawO0 P call ops σ with
 | some s=>some s
 | none=>drawO0 P call ops (σ.frzL (ops.toList.map fun o=>(o.op.operands.toList.map fun x=>(ev σ.slots x).rowRefs).flatten).flatten)
theorem drawO_ok{Γ:Nat->Contract}{call:CallO}(hm:P.follows .mixedOrders=true)(hΓ:OkG P Γ)(hpf:∀pf,PureFns Γ pf)(hc:∀g args own r,call g args own=some r->Γ g args own r.1 r.2.1 r.2.2){id:Nat}{ops:Array Oper}{σ σ':S}{Q:Exit->S->Prop}
  (h:drawO P call ops σ=some σ') (hq:Q .normal σ'):sem P (.region id ops true) Q σ:=by
 unfold drawO at h
 split at h
 ·rename_i s e;cases h;exact drawO0_ok hm hΓ hpf hc e hq
 ·exact sem_le (le_SfrzL _ _) (drawO0_ok hm hΓ hpf hc h hq)
def loopO(rec:Code->S->Option (Exit×S))(b:Code):Nat->S->Option (Exit×S)
 | 0,_=>none
 | n+1,σ=>match rec b σ with|some (.normal,s)=>s.force fun s=>loopO rec b n s|r=>r
def stepC(P:Program)(call pcall:CallO)(rec:Code->S->Option (Exit×S))(code:Code)(σ:S):Option (Exit×S) :=
 match code with
 | .skip=>some (.normal,σ)
 | .region _ ops draw=>(match draw with
  | false=>(match runOps P call ops ops.toList σ with|some s=>spineF s.slots fun sl=>some (.normal,{ s with slots:=sl })|none=>none)
  | true=>(match drawO P pcall ops σ with|some s=>spineF s.slots fun sl=>some (.normal,{ s with slots:=sl })|none=>none))
 | .seq a b=>(match rec a σ with|some (.normal,s)=>rec b s|r=>r)
 | .cond c x y=>(match ev σ.slots c with|.dat (.bool b)=>(match b with|true=>rec x σ|false=>rec y σ)|_=>none)
 | .block id body=>(match rec body σ with|some (.exit i,s)=>(match decide (i=id) with|true=>some (.normal,s)|false=>some (.exit i,s))|r=>r)
 | .exit id=>some (.exit id,σ)
 | .ret=>some (.ret,σ)
 | .loop b=>loopO rec b 1000000 σ
 | .label _=>some (.normal,σ)
 | .goto l=>some (.goto l,σ)
 | _=>none
def RecOk(P:Program)(rec:Code->S->Option (Exit×S)):Prop:=∀code σ e s,rec code σ=some (e,s)->∀Q:Exit->S->Prop,Q e s->sem P code Q σ
theorem loopO_ok{rec:Code->S->Option (Exit×S)}(hrec:RecOk P rec){b:Code}{n:Nat}{σ s:S}{e:Exit}(h:loopO rec b n σ=some (e,s)){Q:Exit->S->Prop}(hq:Q e s):sem P (.loop b) Q σ:=by
 refine sem_loop (τ:=S×Nat) (fun x=>x.1) (fun x=>loopO rec b x.2 x.1=some (e,s)) (fun x=>x.2) (σ,n) h (Le.refl _) ?_
 rintro ⟨σ1,m⟩ hI
 simp only at hI ⊢
 cases m with
 | zero=>simp only[loopO]at hI;cases hI
 | succ m =>
  unfold loopO at hI
  split at hI
  ·rename_i s' e1
   rw[S.force_eq]at hI
   exact hrec _ _ _ _ e1 _ ⟨(s',m),hI,Nat.lt_succ_self m,Le.refl _⟩
  ·rename_i hne
   refine hrec _ _ _ _ hI _ ?_
   cases e with
   | normal=>exact(hne s hI).elim
   | _=>exact hq
theorem stepC_ok{Γ Γp:Nat->Contract}{call pcall:CallO}(hm:P.follows .mixedOrders=true)(hΓ:OkG P Γ)(hc:∀g args own r,call g args own=some r->Γ g args own r.1 r.2.1 r.2.2)
  (hΓp:OkG P Γp) (hpf:∀pf,PureFns Γp pf) (hcp:∀g args own r,pcall g args own=some r->Γp g args own r.1 r.2.1 r.2.2) {rec:Code->S->Option (Exit×S)} (hrec:RecOk P rec):RecOk P (stepC P call pcall rec):=by
 intro code σ e s h Q hq
 unfold stepC at h
 split at h
 ·cases h;exact fun c a w hst=>wpIn_skip (lift_mk hst hq)
 ·split at h
  ·split at h
   ·rename_i s' e1;rw[spineF_eq]at h;cases h;exact fun c a w hst=>wpIn_region_list (runOps_ok hΓ hc _ _ _ e1 hq a w hst)
   ·cases h
  ·split at h
   ·rename_i s' e1;rw[spineF_eq]at h;cases h;exact drawO_ok hm hΓp hpf hcp e1 hq
   ·cases h
 ·split at h
  ·rename_i s' e1
   refine sem_seq (hrec _ _ _ _ e1 _ ?_)
   exact hrec _ _ _ _ h Q hq
  ·rename_i hne
   refine sem_seq (hrec _ _ _ _ h _ ?_)
   cases e with
   | normal=>exact(hne s h).elim
   | _=>exact hq
 ·rename_i cc x y
  split at h
  ·rename_i b e1
   intro c a w hst
   have hst':=hst
   obtain⟨hd,hn,F,φ,h2,h3,h4⟩:=hst'
   have hv:=ev_R (F:=F) (φ:=φ) (w:=w) h3.glob h4 cc
   rw[e1]at hv
   refine wpIn_cond_split (R_bool.1 hv) (fun hb=>?_) (fun hb=>?_)
   ·subst hb;exact hrec _ _ _ _ h Q hq c a w hst
   ·subst hb;exact hrec _ _ _ _ h Q hq c a w hst
  ·cases h
 ·rename_i id body
  intro c a w hst
  refine wpIn_block ?_
  split at h
  ·rename_i i s' e1
   refine wpIn_mono (hrec _ _ _ _ e1 (fun e' s''=>e'=.exit i/\s''=s') ⟨rfl,rfl⟩ c a w hst) ?_
   rintro e' a' w' ⟨c',s'',hx,hst',rfl,rfl⟩
   simp only[Exit.inBlock]
   split at h
   ·rename_i e2
    cases h
    rw[if_pos (by simpa using e2)]
    exact⟨c',_,hx,hst',hq⟩
   ·rename_i e2
    cases h
    rw[if_neg (by simpa using e2)]
    exact⟨c',_,hx,hst',hq⟩
  ·rename_i hne
   refine wpIn_mono (hrec _ _ _ _ h (fun e' s''=>e'=e/\s''=s) ⟨rfl,rfl⟩ c a w hst) ?_
   rintro e' a' w' ⟨c',s'',hx,hst',rfl,rfl⟩
   cases e' with
   | exit i=>exact(hne i _ h).elim
   | _=>exact⟨c',_,hx,hst',hq⟩
 ·cases h;exact fun c a w hst=>wpIn_exit (lift_mk hst hq)
 ·cases h;exact fun c a w hst=>wpIn_ret (lift_mk hst hq)
 ·exact loopO_ok hrec h hq
 ·cases h;exact fun c a w hst=>wpIn_label (lift_mk hst hq)
 ·cases h;exact fun c a w hst=>wpIn_goto (lift_mk hst hq)
 ·cases h
def resO(P:Program):List ResultVar->S->Option (List AV)
 | [],_=>some []
 | .tmp t :: rs,σ=>(match resO P rs σ with|some vs=>some (σ.slots.getD t .top :: vs)|none=>none)
 | .cell a t :: rs,σ=>(match loadO (tyOf P t) σ.own (σ.slots.getD a .top),resO P rs σ with|some v,some vs=>some (v :: vs)|_,_=>none)
theorem resO_ok:∀(rs:List ResultVar) (σ:S) (vs:List AV) (K:List AV->Prop),resO P rs σ=some vs->K vs->resL P rs σ K
 | [],σ,vs,K,h,hK=>by simp only[resO,Option.some.injEq]at h;subst h;exact hK
 | .tmp t :: rs,σ,vs,K,h,hK=>by
  unfold resO at h
  split at h
  ·rename_i vs' e;cases h;exact resO_ok rs σ vs' _ e hK
  ·cases h
 | .cell a t :: rs,σ,vs,K,h,hK=>by
  unfold resO at h
  split at h
  ·rename_i v vs' e1 e2
   cases h
   unfold resL
   exact loadO_ok e1 (resO_ok rs σ vs' _ e2 hK)
  ·cases h
def bodyO(P:Program)(rec:Code->S->Option (Exit×S))(fn:Func)(body:Code)(args:List AV)(own:List Obj):Option (S×List AV) :=
 match rec body ⟨args++List.replicate (fn.ntmps - args.length) .top,own,own.length,[]⟩ with
 | some (.ret,σ)=>(match resO P fn.results.toList σ with|some vs=>some (σ,vs)|none=>none)
 | some (.normal,σ)=>(match resO P fn.results.toList σ with|some vs=>some (σ,vs)|none=>none)
 | _=>none
theorem bodyO_ok{rec:Code->S->Option (Exit×S)}(hrec:RecOk P rec){fn:Func}{body:Code}{args:List AV}{own:List Obj}{σ:S}{vs:List AV}(h:bodyO P rec fn body args own=some (σ,vs)){v:AV}{own':List Obj}{mv:List Nat}
  (hle:∃mv',Le ⟨[resV vs],σ.own,σ.n0,σ.mv⟩ ⟨[v],own',σ.n0,mv'⟩/\∀o,o∈mv'->o∈mv) :
  sem P body (post P fn v own' mv) ⟨args++List.replicate (fn.ntmps - args.length) .top,own,own.length,[]⟩:=by
 unfold bodyO at h
 split at h
 ·rename_i σ1 e1
  split at h
  ·rename_i vs' e2
   cases h
   exact hrec _ _ _ _ e1 _ ⟨trivial,resO_ok _ _ _ _ e2 hle⟩
  ·cases h
 ·rename_i σ1 e1
  split at h
  ·rename_i vs' e2
   cases h
   exact hrec _ _ _ _ e1 _ ⟨trivial,resO_ok _ _ _ _ e2 hle⟩
  ·cases h
 ·cases h
def finO(v:AV)(own:List Obj)(mv:List Nat):S :=
 let r:=List.range own.length
 (S.frzL (r++r) ⟨[v],own,0,mv⟩)
theorem frzL_n0:∀(os:List Nat) (σ:S),(σ.frzL os).n0=σ.n0
 | [],σ=>rfl
 | o :: os,σ=>by
  rw[S.frzL,frzL_n0 os]
  unfold S.frz
  split
  ·rfl
  ·split <;> rfl
  ·rfl
def pureV:AV->Bool
 | .dat _=>true
 | .tup vs=>vs.all fun v=>match v with|.dat _=>true|_=>false
 | _=>false
theorem pureV_under{v:AV}(h:pureV v=true):v.under 0:=by
 unfold pureV at h
 split at h
 ·simp only[AV.under]
 ·rename_i vs
  simp only[AV.under]
  induction vs with
  | nil=>simp only[AV.unders]
  | cons v vs ih =>
   simp only[List.all_cons,Bool.and_eq_true]at h
   simp only[AV.unders]
   refine⟨?_,ih h.2⟩
   have:=h.1
   split at this
   ·simp only[AV.under]
   ·cases this
 ·cases h
def dataRun(P:Program)(rec:Code->S->Option (Exit×S))(fn:Func)(body:Code)(ds:List D):Option (AV×List Obj) :=
 match bodyO P rec fn body (ds.map .dat) [] with
 | none=>none
 | some (σ,vs)=>(match decide (σ.n0=0),finO (resV vs) σ.own σ.mv with
  | true,⟨[v],ob,_,_⟩=>some (v,ob)
  | _,_=>none)
def deepRefs(own:List Obj):Nat->AV->List Nat
 | 0,_=>[]
 | n+1,v=>(v.rowRefs.map fun o=>(match own.getD o .dead with|.vec cs=>(cs.map (deepRefs own n)).flatten++[o]|.row _ _=>[o]|_=>[])).flatten
def callO(P:Program)(rec:Code->S->Option (Exit×S)):CallO:=fun g args own =>
 match P.funcs[g]? with
 | none=>none
 | some fn=>(match fn.body with
  | none=>none
  | some body =>
   let full:Option Eff3:=(match bodyO P rec fn body args own with|some (σ,vs)=>some (resV vs,σ.own,σ.mv)|none=>none)
   let frz:Option Eff3:=(match S.frzL ((args.map (deepRefs own 3)).flatten) ⟨args,own,own.length,[]⟩ with
    | ⟨args',own',_,mv'⟩=>(match args'.all AV.isDat,asDL own' args' with
     | true,some ds=>(match dataRun P rec fn body ds with
      | some (v,_)=>(match pureV v.norm with|true=>some (v.norm,own',mv')|false=>full)
      | none=>full)
     | _,_=>full))
   (match asDL own args with
   | none=>frz
   | some ds=>(match dataRun P rec fn body ds with
    | none=>full
    | some (v,ob) =>
      (match pureV v.norm with
      | true=>(match args.all AV.isDat || v.norm.scal with|true=>some (v.norm,own,[])|false=>frz)
      | false=>(match args.all AV.isDat with|true=>some (v.shift own.length,own++ob.map (Obj.shift own.length),[])|false=>full)))))
theorem asDL_dats'(own:List Obj):∀xs:List D,asDL own (xs.map .dat)=some xs
 | []=>rfl
 | x :: xs=>by simp only[List.map_cons,asDL,AV.asD,asDL_dats' own xs,Option.bind_some,Option.map_some]
def pcallO(P:Program)(rec:Code->S->Option (Exit×S)):CallO:=fun g args own =>
 match P.funcs[g]? with
 | none=>none
 | some fn=>(match fn.body with
  | none=>none
  | some body =>
   (match asDL own args with
   | none=>none
   | some ds=>(match dataRun P rec fn body ds with
    | none=>none
    | some (v,ob)=>gd (pureV v.norm && (args.all AV.isDat || v.norm.scal)) (some (v.norm,own,[])))))
theorem fin_le{v v':AV}{own ob:List Obj}{mv mv':List Nat}{n0:Nat}(h:finO v own mv=⟨[v'],ob,n0,mv'⟩):Le ⟨[v],own,0,mv⟩ ⟨[v'],ob,0,[]⟩:=by
 have h0:=frzL_n0 (List.range own.length++List.range own.length) ⟨[v],own,0,mv⟩
 have hle:=le_SfrzL (List.range own.length++List.range own.length) ⟨[v],own,0,mv⟩
 unfold finO at h
 simp only at h
 rw[h]at hle h0
 simp only at h0
 subst h0
 exact Le.trans hle le_mv0
variable {rec:Code->S->Option (Exit×S)}
theorem dataRun_pure(hrec:RecOk P rec){fn:Func}{body:Code}{ds:List D}{v:AV}{ob:List Obj}(h:dataRun P rec fn body ds=some (v,ob))(hp:pureV v.norm=true) :
  sem P body (post P fn v.norm [] []) ⟨ds.map .dat++List.replicate (fn.ntmps - (ds.map AV.dat).length) .top,[],0,[]⟩:=by
 unfold dataRun at h
 split at h
 ·cases h
 ·rename_i σ vs e1
  split at h
  ·rename_i v' ob' n0 mv' e2 e3
   cases h
   have hn:σ.n0=0:=by simpa using e2
   refine bodyO_ok hrec e1 ⟨[],?_,fun _ h=>h⟩
   rw[hn]
   exact Le.trans (fin_le e3) (le_fin rfl (pureV_under hp))
  ·cases h
def Names (P : Program) : Prop := ∀ (g : Nat) (fn : Func), P.funcs[g]? = some fn -> fn.name ≠ "runtime.NumGoroutine"
def runΓ(P:Program)(call:CallO):Nat->Contract:=fun g args own v own' mv=>call g args own=some (v,own',mv)
theorem pcallO_okG(hrec:RecOk P rec)(hnames:Names P):OkG P (runΓ P (pcallO P rec)):=by
 intro g args own v own' mv h
 unfold runΓ pcallO at h
 split at h
 ·cases h
 ·rename_i fn hf
  split at h
  ·cases h
  ·rename_i body hb
   split at h
   ·cases h
   ·rename_i ds hds
    split at h
    ·cases h
    ·rename_i v0 ob hrun
     obtain⟨h1,h2⟩:=gd_some h
     simp only[Bool.and_eq_true,Bool.or_eq_true]at h1
     simp only[Option.some.injEq,Prod.mk.injEq]at h2
     obtain⟨rfl,rfl,rfl⟩:=h2
     exact okF_data (R:=fun ds' v'=>ds'=ds/\v'=v0.norm) hf hb (hnames g fn hf) (fun ds' v' h=>by
      obtain⟨rfl,rfl⟩:=h
      exact dataRun_pure hrec hrun h1.1) _ _ _ _ _ ⟨ds,hds,⟨rfl,rfl⟩,rfl,rfl,h1.2⟩
theorem pcallO_pure(pf:List Nat):PureFns (runΓ P (pcallO P rec)) pf:=by
 intro g args own v own' mv _ h
 unfold runΓ pcallO at h
 split at h
 ·cases h
 ·split at h
  ·cases h
  ·split at h
   ·cases h
   ·split at h
    ·cases h
    ·obtain⟨h1,h2⟩:=gd_some h
     simp only[Option.some.injEq,Prod.mk.injEq]at h2
     obtain⟨_,rfl,rfl⟩:=h2
     exact⟨rfl,rfl⟩
def frzLC(C:Contract):Contract:=fun args own v own' mv=>∃os args' n0 ,S.frzL os ⟨args,own,own.length,[]⟩=⟨args',own',n0,mv⟩/\C args' own' v own' []
theorem okF_frzL{g:Nat}{C:Contract}(h:OkF P g C):OkF P g (frzLC C):=by
 rintro args own v own' mv ⟨os,args',n0,he,hC⟩
 refine⟨(h _ _ _ _ _ hC).1,fun F φ w vs hc hs=>?_⟩
 have hst:St ⟨F,w,φ,own.length,none,[]⟩ ⟨args,own,own.length,[]⟩ { tmps:=vs.toArray,defers:=[] } w :=
  ⟨⟨rfl,Ctx.ok0 hc⟩,rfl,F,φ,⟨fun _ h=>h,Ext.refl F w,fun _ _ _ _ h=>h,fun _ _ _=>rfl,fun o L' ho hn=>.inr ⟨o,L',ho,hn,rfl⟩,fun b hb=>.inl hb⟩,hc,by simpa using hs⟩
 have hst':=le_SfrzL os _ _ _ _ hst
 rw[he]at hst'
 obtain⟨_,hn,F1,φ1,s2,s3,s4⟩:=hst'
 simp only at hn s2 s3 s4
 refine((h _ _ _ _ _ hC).2 F1 φ1 w vs s3 (by simpa using s4)).mono ?_
 rintro e w' ⟨r,F',φ',rfl,ha,hv⟩
 refine⟨r,F',φ',rfl,⟨fun b hb=>ha.sub b (s2.sub b hb),ha.ext.mono s2.sub,ha.conc,fun o L hm ho=>?_,fun b hb hall=>?_,fun o L' ho hn'=>?_,fun b hb=>?_⟩,hv⟩
 ·have hlt:o<own.length:=by
   rcases Nat.lt_or_ge o own.length with h|h
   ·exact h
   ·rw[hc.out o h]at ho;cases ho
  exact ha.keep o L (by simp) (s2.keep o L hlt hm ho)
 ·refine ha.rest b hb (fun o L ho hn' e=>?_)
  rcases s2.orig o L ho hn' with h|⟨o',L',h1,h2,h3⟩
  ·simp only at h;omega
  ·exact hall o' L' h1 h2 (h3.trans e)
 ·rcases ha.orig o L' ho hn' with h|⟨o',L,h1,h2,h3⟩
  ·exact .inl h
  ·rw[← h3];exact s2.orig o' L h1 h2
 ·rcases ha.frsh b hb with h|h|⟨o,L,h1,h2,h3⟩
  ·exact s2.frsh b h
  ·exact .inr (.inl h)
  ·rw[← h3]
   rcases s2.orig o L h1 h2 with h|h
   ·exact .inr (.inl h)
   ·exact .inr (.inr h)
def runC(P:Program)(n:Nat):Code->S->Option (Exit×S) :=
 Nat.rec (motive:=fun _=>Code->S->Option (Exit×S)) (fun _ _=>none) (fun _ rec=>stepC P (callO P rec) (pcallO P rec) rec) n
def evalF(P:Program)(n:Nat)(g:Nat)(ds:List D):Option AV :=
 match pcallO P (runC P n) g (ds.map .dat) [] with|some r=>some r.1|none=>none
end
end Go.AM

