/- Own work over the model of the kit. -/
import Derived.Test.YtmmbjdgmhdjbjaaGreatDoorD6
import Derived.LaidMore
import Derived.MakeChecks
import Derived.Stop.Joined
set_option linter.unnecessarySimpa false
set_option linter.unusedSimpArgs false
set_option linter.unusedVariables false
namespace Go.AM
open Go Go.ChangeShapes Go.WideShapes Go.ChangeAt Go.RowKit
theorem nJ{C:Checked}{os:Os}{f:FuncId}{fn:Func}{s:ChangeSpec}{H:Type}{enc:TypeId×Value->H}(laid:List (String×DataW Unit))(m:Nat)(own:ownKnob C.prog.godebug=none)(started:os.Started)
  (noInit:C.prog.inits.idxOf? f=none) (hfn:C.prog.funcs[f]?=some fn) (tb:TypeId) (YP:fn.resultTypes.toList=[tb]) (hsz:fn.resultTypes.size=1) (htb:C.prog.underlying tb=some .bool) (S6:s.vars=[])
  (vM:laidOutB C.prog=true) (YQ:fn.params.toList.all (fun t=>C.prog.readableRec t && decide (t<C.prog.types.size))=true) (S7:fn.params.toList.all (eW C.prog m)=true)
  (YR:∀(H:Type) (ds:List (DataW H)),ds.length=fn.params.toList.length->s.fn H ds={ results:=[.lit (.bool true)],args:=ds })
  (YS:JB C.prog f m fn.params.toList) (YT:∀w,laidMetH C.prog laid w->GlobOk (fun b=>b<w.heap.size) w)
  (witness:∃(w:World) (tape:Tape) (i:Input),w.os=os/\(w.forCall tape i).Shaped C.prog/\i.vars=[]/\Input.okWide C.prog (w.forCall tape i) .any w.heap.size f i /\
   ((s.pre enc C.prog fn [] false (w.forCall tape i).memory i.args/\laidMetH C.prog laid (w.forCall tape i).memory)/\sizedMet enc C.prog fn (OpenSpec.ofChange s) false (w.forCall tape i).memory i.args)/\({}:Assume).holds C.prog (lone (Frame.enter C.prog f i.args .normal) [] (w.forCall tape i))) :
  ReturnsInHanded {} C os f .any (fun w args=>(s.pre enc C.prog fn [] false w args/\laidMetH C.prog laid w)/\sizedMet enc C.prog fn (OpenSpec.ofChange s) false w args) (s.post enc C.prog fn false true false false):=by
 refine returnsInHanded_of_change_and (X:=fun w _=>laidMetH C.prog laid w) (fun _ _ _ hh h=>h.of_heap hh) own started noInit hfn witness ?_
 intro W base args ds gs before hval hW hcnd _ hL _
 have hW':=hW
 obtain⟨p,q,hA,hV,rfl,hfz,hnd⟩:=hW
 rw[S6]at hV
 obtain⟨rfl,rfl⟩:=trodVars_none hV
 have hlt:=qA _ _ _ _ hA
 obtain⟨xs,hx1,hx2⟩:=Ia (F:=fun b=>b<W.heap.size) (fun b hb=>hb) fn.params.toList args.toList ds p S7
  (fun j t v ht hv=>hval j t v (by simpa using ht) (by simpa using hv)) hA
 have hc:=C3 YS (F:=fun b=>b<W.heap.size) (fun b=>Iff.rfl) (YT _ hL) hx1 hx2
 have c5:args.toList.toArray=args:=by simp
 rw[c5]at hc
 refine hc.mono ?_
 rintro e W' ⟨rfl,bel⟩
 have hlen:ds.length=fn.params.toList.length:=by
  have key:∀(ts:List TypeId) (vs:List Value) (ds:List (DataW H)) (ps:List MemPlace),DataW.TrodAll enc C.prog W 0 (fun _=>true) true ts vs ds ps->ds.length=ts.length:=by
   intro ts
   induction ts with
   | nil=>intro vs ds ps h;obtain⟨_,rfl,_⟩:=trodAll_nil h;rfl
   | cons t ts ih=>intro vs ds ps h;obtain⟨v,vs',d,ds',p,q,rfl,rfl,rfl,h1,h2⟩:=trodAll_cons h;simp[ih _ _ _ h2]
  exact key _ _ _ _ hA
 have YU:s.fn H (ds++[])={ results:=[.lit (.bool true)],args:=ds }:=by rw[List.append_nil];exact YR H ds hlen
 refine⟨_,rfl,ds,[],p++[],[],p,[],hW',?_,?_,?_,bel.frame _,fun h=>by cases h⟩
 ·rw[YU,YP,hsz]
  exact trodAll_mk1 (shut_bool htb true)
 ·rw[YU]
  exact kq vM bel _ _ _ _ (fun t ht=>by
   have:=List.all_eq_true.1 YQ t ht
   simpa using this) hlt hA
 ·rw[YU,S6]
  rfl
theorem pQ{P:Program}{w:World}{t e:TypeId}{n m:Nat}{k:IntKind}{cs:List Value}{ns:List Int}{p:List MemPlace}{spare:Nat->Bool}{yO:Bool}(ht:P.underlying t=some (.array n e))(he:P.underlying e=some (.int k))(h1:P.cellsOf e=1)(hn:P.cellsOf t=n)
  (h:DataW.trod (fun _=>()) P w 0 spare yO m t cs=some (.agg (ns.map fun z=>.lit (.int k z)),p)):cs=ns.map (.int k)/\∀z∈ns,(Lit.int k z).wf=true:=by
 obtain⟨xs,m1,rfl,hx1,hlen,hn3,hel⟩:=DataW.trod_array ht h
 rw[h1]at hel
 simp only[Nat.mul_one,Prod.mk.injEq,DataW.agg.injEq]at hel hx1
 have hxl:ns.length=xs.length:=by have:=congrArg List.length hx1.1;simpa using this
 have each:∀i,i<n->∃z,ns[i]?=some z/\cs[i]?=some (.int k z)/\(Lit.int k z).wf=true:=by
  intro i hi
  have hx:xs[i]?=some xs[i]:=List.getElem?_eq_getElem (by omega)
  have hd:=hel i hi
  rw[hx]at hd
  obtain⟨z,e1,e2,e3⟩:=DataW.trod_int he hd
  have hc:cs[i]?=some (.int k z):=by
   have hlt:i<cs.length:=by omega
   rw[List.getElem?_eq_getElem hlt]
   rw[List.drop_eq_getElem_cons hlt]at e1
   simp only[List.take_succ_cons,List.take_zero,List.cons.injEq,and_true]at e1
   rw[e1]
  refine⟨z,?_,hc,e3⟩
  have h5:=congrArg (fun l=>l[i]?) hx1.1
  simp only[List.getElem?_map,hx,Option.map_some,e2]at h5
  cases hz:ns[i]? with
  | none=>rw[hz]at h5;simp at h5
  | some y=>rw[hz]at h5;simp at h5;rw[h5]
 refine⟨List.ext_getElem? fun i=>?_,fun z hz=>?_⟩
 ·by_cases hi:i<n
  ·obtain⟨z,g1,g2,_⟩:=each i hi
   rw[g2,List.getElem?_map,g1];rfl
  ·rw[List.getElem?_eq_none (by omega),List.getElem?_eq_none (by simp;omega)]
 ·obtain⟨i,hi,rfl⟩:=List.getElem_of_mem hz
  obtain⟨z,g1,_,g3⟩:=each i (by omega)
  rw[List.getElem?_eq_getElem hi]at g1
  cases g1
  exact g3
theorem z7{P:Program}{w:World}{name:String}{laid:List (String×DataW Unit)}{ps:List MemPlace}{g t e n:Nat}{k:IntKind}{ns:List Int}{d:DataW Unit}(h:DataW.LaidVars P w ((name,d) :: laid) ps)(hd:d=.agg (ns.map fun z=>.lit (.int k z)))
  (hg:P.globalNamed name=some g) (hgt:(P.globals[g]?).map (·.type)=some t) (ht:P.underlying t=some (.array n e)) (he:P.underlying e=some (.int k)) (h1:P.cellsOf e=1) (hn:P.cellsOf t=n) (jS:0<n) :
  (∃cs:List Value,g<w.heap.size/\cs.length=n/\(∀j,j<n->w.cell? ⟨g,0+j,none⟩=cs[j]?)/\D.C (fun b=>b<w.heap.size) w (.agg (ns.map (D.int k))) cs/\∃ty fr,w.heap[g]?=some (.cells cs.toArray ty fr))/\∃ps',DataW.LaidVars P w laid ps':=by
 subst hd
 obtain⟨g0,t0,cs0,f0,p0,q0,hg0,ht0,hv0,hd0,hrest,_⟩:=h
 obtain rfl:=Option.some.inj (hg.symm.trans hg0)
 obtain rfl:=Option.some.inj (hgt.symm.trans ht0)
 obtain⟨hcs,hwf⟩:=pQ ht he h1 hn hd0
 have cN:∀j,w.cell? ⟨g,j,none⟩=cs0[j]?:=fun j=>World.var?_cell hg0 hv0 j
 obtain⟨xs,m1,_,_,hlen,_,_⟩:=DataW.trod_array ht hd0
 have hh:∃ty fr,w.heap[g]?=some (.cells cs0 ty fr):=by
  unfold World.var? at hv0
  rw[hg0]at hv0
  simp only[Option.bind_some]at hv0
  split at hv0
  ·rename_i c1 ty fr he;cases hv0;exact⟨ty,fr,he⟩
  ·cases hv0
 refine⟨⟨cs0.toList,?_,by rw[hlen,hn],fun j hj=>by rw[Nat.zero_add,cN];simp,?_,by simpa using hh⟩,_,hrest⟩
 ·have h0:=cN 0
  have:0<cs0.size:=by simpa [hn] using (hlen ▸ (hn.symm ▸ jS):0<cs0.toList.length)
  rw[Array.getElem?_eq_getElem this]at h0
  exact AC h0
 ·rw[hcs]
  simp only[D.C]
  have key:∀l:List Int,(∀z∈l,(Lit.int k z).wf=true)->D.Cs (fun b=>b<w.heap.size) w (l.map (D.int k)) (l.map (Value.int k)):=by
   intro l
   induction l with
   | nil=>intro _;simp only[List.map_nil,D.Cs]
   | cons z l ih =>
    intro hz
    simp only[List.map_cons,D.Cs]
    exact⟨_,_,rfl,rfl,by simp only[D.C];exact⟨trivial,hz z (by simp)⟩,ih (fun y hy=>hz y (by simp[hy]))⟩
  exact key ns hwf
end Go.AM

