/- Own work over the model of the kit. -/
import Derived.Test.YtmmbjdgmhdjbjaaGreatDoorD12
import Derived.RangeFuncNested
import Derived.Test.YtmmbjdgmhdjbjaaGreatDoorD10
import Derived.Lib.Bytealg
import Derived.LoopNIn
import Derived.Test.YtmmbjdgmhdjbjaaGreatDoorD6
set_option linter.unnecessarySimpa false
set_option linter.unusedSimpArgs false
set_option linter.unusedVariables false
namespace Go.AM
open Go
def Yj(P:Program)(Γ:Nat->a8)(all:Array Oper)(Q:Exit->S->Prop)(os:List Oper):Exit->S->Prop:=fun e σ=>match e with
 | .normal=>∃σ',Le σ σ'/\f5 P Γ all Q os σ'
 | _=>False
section
variable {P:Program} {Γ:Nat->a8} {c:Ctx}
theorem lj(hΓ:OkG P Γ){all:Array Oper}{Q:Exit->S->Prop}{l2:List Oper}:∀(l:List Oper) (σ:S) (a:Act) (w:World),St c σ a w->f5 P Γ all (Yj P Γ all Q l2) l σ->wpListIn (fen c.rd) 0 P all (lift c Q) (l++l2) a w
 | [],σ,a,w,hst,h=>by
  obtain⟨σ',h1,h2⟩:=h
  exact ez hΓ l2 σ' a w (h1 c a w hst) h2
 | o :: os,σ,a,w,hst,h=>by
  simp only[f5]at h
  rw[List.cons_append]
  unfold wpListIn
  rcases cf hΓ (Q:=lift c Q) hst h with⟨hw,hwp⟩|⟨hw,σ',bA,hK⟩
  ·rw[if_pos hw]
   refine Oper.wpIn_mono ?_ hwp
   rintro a' w' ⟨σ',bA,hK⟩
   exact lj hΓ os σ' a' w' bA hK
  ·rw[if_neg (by simp[hw])]
   exact⟨fun _ _=>trivial,lj hΓ os σ' _ w bA hK⟩
theorem DY{id:Nat}{ops:List Oper}{Q:Exit->S->Prop}{σ:S}(n:Nat)(hΓ:OkG P Γ)(h:f5 P Γ ops.toArray (Yj P Γ ops.toArray Q (ops.drop n)) (ops.take n) σ):sem P (.region id ops.toArray false) Q σ:=by
 intro c a w hst
 refine wpIn_region_list ?_
 have:=lj hΓ (ops.take n) σ a w hst h
 rwa [List.take_append_drop]at this
@[go_sem] theorem Ki {all:Array Oper} {Q:Exit->S->Prop} {os:List Oper} {σ:S}:Yj P Γ all Q os .normal σ=∃σ',Le σ σ'/\f5 P Γ all Q os σ':=Eq.trans rfl rfl
end
attribute [go_sem] List.take_succ_cons List.take_zero List.drop_succ_cons List.drop_zero
end Go.AM
namespace Go.AM
open Go
def opz(P:Program)(Γ:Nat->a8)(ops:Array Oper)(C:Nat->List AV->Prop)(p:Nat)(o:Oper)(K:S->Prop)(σ:S):Prop:=C p σ.slots/\opg P Γ ops o K σ
def mn(P:Program)(Γ:Nat->a8)(ops:Array Oper)(C:Nat->List AV->Prop)(sw:Nat->Nat->Bool):Prop:=∀p i op oi,ops[p]?=some op->ops[i]?=some oi->sw p i=true ->
 (∀(K K':S->Prop) (σ:S),(∀σ,K σ->K' σ)->opg P Γ ops op K σ->opg P Γ ops op K' σ)/\∀(K:S->Prop) (σ:S),opz P Γ ops C p op (opz P Γ ops C i oi K) σ->opz P Γ ops C i oi (opz P Γ ops C p op K) σ
def okZ(sw:Nat->Nat->Bool)(ops:Array Oper):DT->Option (List Nat)->Bool
 | .fin,none=>true
 | .stop,some _=>true
 | .one p t,none=>(t.ops.all fun i=>Region.waitsFor .any ops i p || sw p i) && okZ sw ops t none
 | .alt x t u,none=>okZ sw ops t none && okZ sw ops u (some (x :: t.ops)) && ((x :: t.ops).all fun i=>(x :: u.heads).contains i || (x :: t.ops).any fun j=>Region.waitsFor .any ops i j)
 | .alt x t u,some R=>okZ sw ops t none && ot R (x :: t.ops) && okZ sw ops u (some R)
 | _,_=>false
def nK(sw:Nat->Nat->Bool)(i:Nat):DT->Option DT
 | .one p t=>if p=i then some t else if sw p i=true then (nK sw i t).map (.one p) else none
 | .alt x t u=>if x=i then some t else nK sw i u
 | _=>none
section
variable {P:Program} {Γ:Nat->a8}
def chZ(P:Program)(Γ:Nat->a8)(ops:Array Oper)(C:Nat->List AV->Prop)(Q:Exit->S->Prop):DT->S->Prop
 | .fin,σ=>Q .normal σ
 | .stop,_=>True
 | .one p t,σ=>(match ops[p]? with|some o=>opz P Γ ops C p o (chZ P Γ ops C Q t) σ|none=>False)
 | .alt x t u,σ=>(match ops[x]? with|some o=>opz P Γ ops C x o (chZ P Γ ops C Q t) σ|none=>False)/\chZ P Γ ops C Q u σ
theorem sg{sw:Nat->Nat->Bool}{C:Nat->List AV->Prop}{ops:Array Oper}(hS:mn P Γ ops C sw){Q:Exit->S->Prop}{i:Nat}{oi:Oper}(hi:ops[i]?=some oi):∀(T T':DT) (σ:S),nK sw i T=some T'->chZ P Γ ops C Q T σ->opz P Γ ops C i oi (chZ P Γ ops C Q T') σ
 | .fin,T',σ,h,_=>by simp[nK]at h
 | .stop,T',σ,h,_=>by simp[nK]at h
 | .one p t,T',σ,h,hc=>by
  simp only[nK]at h
  simp only[chZ]at hc
  by_cases e:p=i
  ·subst e
   rw[if_pos rfl]at h
   cases h
   rw[hi]at hc
   exact hc
  ·rw[if_neg e]at h
   split at h
   ·rename_i hsw
    obtain⟨t',ht,rfl⟩:=Option.map_eq_some_iff.1 h
    split at hc
    ·rename_i op hop
     have h':opz P Γ ops C p op (opz P Γ ops C i oi (chZ P Γ ops C Q t')) σ :=
      ⟨hc.1,(hS p i op oi hop hi hsw).1 _ _ _ (fun σ' hσ'=>sg hS hi t t' σ' ht hσ') hc.2⟩
     have:=(hS p i op oi hop hi hsw).2 _ _ h'
     have e2:chZ P Γ ops C Q (.one p t')=opz P Γ ops C p op (chZ P Γ ops C Q t'):=by funext s;simp only[chZ,hop]
     rw[e2]
     exact this
    ·exact hc.elim
   ·cases h
 | .alt x t u,T',σ,h,hc=>by
  simp only[nK]at h
  simp only[chZ]at hc
  by_cases e:x=i
  ·subst e
   rw[if_pos rfl]at h
   cases h
   have h1:=hc.1
   rw[hi]at h1
   exact h1
  ·rw[if_neg e]at h
   exact sg hS hi u T' σ h hc.2
theorem j6{sw:Nat->Nat->Bool}{ops:Array Oper}{i:Nat}:∀(T:DT),
  (okZ sw ops T none=true->T.ops.Nodup->i∈T.ops->(∀p∈T.ops,Region.waitsFor .any ops i p=false)->∃T',nK sw i T=some T'/\okZ sw ops T' none=true/\(∀j,j∈T'.ops↔j∈T.ops/\j≠i)/\T'.ops.length+1=T.ops.length/\T'.ops.Nodup) /\
  (∀R,okZ sw ops T (some R)=true->i∈T.heads->∃T',nK sw i T=some T'/\okZ sw ops T' none=true/\(∀j,j∈T'.ops↔j∈R/\j≠i)/\T'.ops.length+1=R.length/\T'.ops.Nodup)
 | .fin=>⟨fun _ _ h=>by simp[DT.ops]at h,fun R h=>by simp[okZ]at h⟩
 | .stop=>⟨fun h=>by simp[okZ]at h,fun R _ h=>by simp[DT.heads]at h⟩
 | .one p t=>by
  refine⟨fun h hn hm hw=>?_,fun R h=>by simp[okZ]at h⟩
  simp only[okZ,Bool.and_eq_true]at h
  simp only[DT.ops]at hn hm hw
  obtain⟨n1,n2⟩:=List.nodup_cons.1 hn
  by_cases e:p=i
  ·subst e
   refine⟨t,by simp[nK],h.2,fun j=>?_,by simp[DT.ops],n2⟩
   simp only[DT.ops,List.mem_cons]
   constructor
   ·intro hj;exact⟨.inr hj,fun ej=>n1 (ej ▸ hj)⟩
   ·rintro ⟨hj|hj,hne⟩
    ·exact(hne hj).elim
    ·exact hj
  ·have hmt:i∈t.ops:=by
    rcases List.mem_cons.1 hm with h1|h1
    ·exact(e h1.symm).elim
    ·exact h1
   obtain⟨T',b1,b2,b3,b4,b5⟩:=(j6 (i:=i) t).1 h.2 n2 hmt (fun q hq=>hw q (by simp[hq]))
   have hsw:sw p i=true:=by
    have:=List.all_eq_true.1 h.1 i hmt
    rw[hw p (by simp)]at this
    simpa using this
   refine⟨.one p T',by simp[nK,e,hsw,b1],?_,fun j=>?_,by simp only[DT.ops,List.length_cons];omega,?_⟩
   ·simp only[okZ,Bool.and_eq_true]
    exact⟨List.all_eq_true.2 fun j hj=>List.all_eq_true.1 h.1 j ((b3 j).1 hj).1,b2⟩
   ·simp only[DT.ops,List.mem_cons,b3]
    constructor
    ·rintro (rfl|⟨h1,h2⟩)
     ·exact⟨.inl rfl,e⟩
     ·exact⟨.inr h1,h2⟩
    ·rintro ⟨h1|h1,h2⟩
     ·exact .inl h1
     ·exact .inr ⟨h1,h2⟩
   ·exact List.nodup_cons.2 ⟨fun hp=>n1 ((b3 p).1 hp).1,b5⟩
 | .alt x t u=>by
  refine⟨fun h hn hm hw=>?_,fun R h hm=>?_⟩
  ·simp only[okZ,Bool.and_eq_true]at h
   obtain⟨⟨h1,h2⟩,h3⟩:=h
   simp only[DT.ops]at hn hm hw
   obtain⟨n1,n2⟩:=List.nodup_cons.1 hn
   have Ee:i∈x :: u.heads:=by
    have:=List.all_eq_true.1 h3 i hm
    rcases Bool.or_eq_true_iff.1 this with h4|h4
    ·simpa using h4
    ·obtain⟨j,hj,hwj⟩:=List.any_eq_true.1 h4
     rw[hw j hj]at hwj
     cases hwj
   by_cases e:x=i
   ·subst e
    refine⟨t,by simp[nK],h1,fun j=>?_,by simp[DT.ops],n2⟩
    simp only[DT.ops,List.mem_cons]
    constructor
    ·intro hj;exact⟨.inr hj,fun ej=>n1 (ej ▸ hj)⟩
    ·rintro ⟨hj|hj,hne⟩
     ·exact(hne hj).elim
     ·exact hj
   ·have hu:i∈u.heads:=by
     rcases List.mem_cons.1 Ee with h4|h4
     ·exact(e h4.symm).elim
     ·exact h4
    obtain⟨T',b1,b2,b3,b4,b5⟩:=(j6 (i:=i) u).2 (x :: t.ops) h2 hu
    exact⟨T',by simp[nK,e,b1],b2,fun j=>by simp only[DT.ops];exact b3 j,by simpa only[DT.ops] using b4,b5⟩
  ·simp only[okZ,Bool.and_eq_true]at h
   obtain⟨⟨h1,h2⟩,h3⟩:=h
   obtain⟨s1,s2,s3⟩:=iI h2
   obtain⟨n1,n2⟩:=List.nodup_cons.1 s3
   by_cases e:x=i
   ·subst e
    refine⟨t,by simp[nK],h1,fun j=>?_,by simpa using s1.symm,n2⟩
    rw[s2 j]
    simp only[List.mem_cons]
    constructor
    ·intro hj;exact⟨.inr hj,fun ej=>n1 (ej ▸ hj)⟩
    ·rintro ⟨hj|hj,hne⟩
     ·exact(hne hj).elim
     ·exact hj
   ·have hu:i∈u.heads:=by
     rcases List.mem_cons.1 (show i∈x :: u.heads from hm) with h4|h4
     ·exact(e h4.symm).elim
     ·exact h4
    obtain⟨T',b1,b2,b3,b4,b5⟩:=(j6 (i:=i) u).2 R h3 hu
    exact⟨T',by simp[nK,e,b1],b2,b3,b4,b5⟩
theorem AQ{sw:Nat->Nat->Bool}{ops:Array Oper}{T:DT}(h:okZ sw ops T none=true)(he:T.ops=[]):T=.fin:=by
 cases T with
 | fin=>rfl
 | stop=>simp[okZ]at h
 | one p t=>simp[DT.ops]at he
 | alt x t u=>simp[DT.ops]at he
theorem A0{sw:Nat->Nat->Bool}{C:Nat->List AV->Prop}{ops:Array Oper}(hΓ:OkG P Γ)(hS:mn P Γ ops C sw){Q:Exit->S->Prop}(gk:gx ops=true)(dk:e9 ops=true){c:Ctx}:∀(fuel:Nat) (T:DT) (listed:Array Bool) (σ:S) (a:Act) (w:World),listed.size=ops.size ->
  okZ sw ops T none=true->T.ops.Nodup->(∀i,i<ops.size->(listed.getD i true=false↔i∈T.ops))->(∀i∈T.ops,i<ops.size)->T.ops.length<=fuel->St c σ a w->chZ P Γ ops C Q T σ->wpAnyIn (fen c.rd) 0 P .any ops (lift c Q) fuel listed a w:=by
 intro fuel
 induction fuel with
 | zero =>
  intro T listed σ a w hsz hok hnd dB hlt hf hst hch
  have he:T.ops=[]:=List.eq_nil_of_length_eq_zero (by omega)
  obtain rfl:=AQ hok he
  refine⟨?_,bn hst hch⟩
  rw[List.eq_nil_iff_forall_not_mem]
  intro i hi
  obtain⟨g1,o,g2,_⟩:=mem_ready.1 hi
  have hi':i<ops.size:=(Array.getElem?_eq_some_iff.1 g2).1
  have:=(dB i hi').1 g1
  rw[he]at this
  cases this
 | succ fuel ih =>
  intro T listed σ a w hsz hok hnd dB hlt hf hst hch
  refine⟨fun hr=>?_,fun i hi=>?_⟩
  ·have he:T.ops=[]:=by
    rw[List.eq_nil_iff_forall_not_mem]
    intro i hi
    have h1:=kw gk dk hsz hr i (hlt i hi)
    rw[(dB i (hlt i hi)).2 hi]at h1
    cases h1
   obtain rfl:=AQ hok he
   exact bn hst hch
  ·obtain⟨g1,o,g2,g3⟩:=mem_ready.1 hi
   have hi':i<ops.size:=(Array.getElem?_eq_some_iff.1 g2).1
   have him:=(dB i hi').1 g1
   obtain⟨T',b1,b2,b3,b4,b5⟩:=(j6 (i:=i) T).1 hok hnd him (fun p hp=>ft g2 g3 ((dB p (hlt p hp)).2 hp))
   have hb:=sg hS g2 T T' σ b1 hch
   have vo:∀j,j<ops.size->((listed.setIfInBounds i true).getD j true=false↔j∈T'.ops):=fun j hj=>by
    rw[b3 j]
    by_cases e:i=j
    ·subst e
     simp[hsz,hi']
    ·have e':j≠i:=fun h=>e h.symm
     have h1:(listed.setIfInBounds i true).getD j true=listed.getD j true:=by simp[Array.getElem?_setIfInBounds_ne e]
     rw[h1,dB j hj]
     simp[e']
   have eH:∀j∈T'.ops,j<ops.size:=fun j hj=>hlt j ((b3 j).1 hj).1
   unfold wpOpIn
   simp only[g2]
   rcases cf hΓ (Q:=lift c Q) hst hb.2 with⟨hw,hwp⟩|⟨hw,σ',bA,hK⟩
   ·rw[if_pos hw]
    refine Oper.wpIn_mono ?_ hwp
    rintro a' w' ⟨σ',bA,hK⟩
    exact ih T' _ σ' a' w' (by simp[hsz]) b2 b5 vo eH (by omega) bA hK
   ·rw[if_neg (by simp[hw])]
    exact⟨fun _ _=>trivial,ih T' _ σ' _ w (by simp[hsz]) b2 b5 vo eH (by omega) bA hK⟩
def sR(sw:Nat->Nat->Bool)(ops:Array Oper)(T:DT):Bool:=okZ sw ops T none && gx ops && e9 ops && dC ops.size T.ops && fC T.ops
theorem ui{sw:Nat->Nat->Bool}{C:Nat->List AV->Prop}(hm:P.follows .mixedOrders=true)(hΓ:OkG P Γ){id:Nat}{ops:Array Oper}(hS:mn P Γ ops C sw){Q:Exit->S->Prop}{σ:S}(T:DT)(hok:sR sw ops T=true)
  (h:chZ P Γ ops C Q T σ):sem P (.region id ops true) Q σ:=by
 intro c a w hst
 refine wpIn_region_any hm ?_
 have bA:St c σ a { w with drawn:=w.drawn+1 }:=by
  obtain⟨hd,hn,F,φ,h2,h3,h4⟩:=hst
  refine⟨hd,hn,F,φ,⟨h2.sub,⟨h2.ext.os,h2.ext.tape,h2.ext.output,h2.ext.size,h2.ext.same,Nat.le_trans h2.ext.drn (Nat.le_succ _)⟩,h2.keep,h2.rest,h2.orig,h2.frsh⟩,h3.drew,?_⟩
  exact AV.Rs_mono (fun _ h=>h) eE (fun _ _ h=>h) _ _ h4
 simp only[sR,Bool.and_eq_true]at hok
 obtain⟨⟨⟨⟨h1,h2⟩,h3⟩,h4⟩,h5⟩:=hok
 simp only[dC,Bool.and_eq_true,List.all_eq_true,List.mem_range,List.contains_eq_mem,decide_eq_true_eq]at h4
 obtain⟨⟨m1,m2⟩,m3⟩:=h4
 refine A0 hΓ hS h2 h3 ops.size T _ σ a _ (by simp) h1 (dP h5) (fun i hi=>?_) m3 (by omega) bA h
 simp[hi,m1 i hi]
end
def vA:List Nat->Oper->List AV->Prop
 | [],_,_=>True
 | k :: L,o,s=>cA k o s/\vA L o s
def wg:List Nat->Oper->List AV->Prop
 | [],_,_=>True
 | k :: L,o,s=>dD k o s/\wg L o s
def inL(L:List Nat)(v:AV):Prop:=match v with|.ptr o _ _=>L.contains o=true|_=>False
def QL(L:List Nat)(v:AV):Prop:=match v with|.sl o _ _=>L.contains o=true|.nils=>True|_=>False
def dK(L:List Nat)(o:Oper)(s:List AV):Prop:=match o.op with
 | .store _ a _=>inL L (ev s a)
 | _=>vA L o s
def dL(L:List Nat)(o:Oper)(s:List AV):Prop:=match o.op with
 | .call c=>(match c.args.toList with|[x,_]=>QL L (ev s x)|_=>False)
 | _=>wg L o s
def cMs:List (Nat×List Nat)->Nat->Oper->List AV->Prop
 | [],_,_,_=>True
 | (q,k) :: r,p,o,s=>(q=p->dK k o s)/\cMs r p o s
def cKs:List (Nat×List Nat)->Nat->Oper->List AV->Prop
 | [],_,_,_=>True
 | (q,k) :: r,p,o,s=>(q=p->dL k o s)/\cKs r p o s
def cY(ops:Array Oper)(ms ks:List (Nat×List Nat))(p:Nat)(s:List AV):Prop:=match ops[p]? with
 | some o=>cMs ms p o s/\cKs ks p o s
 | none=>True
def Yb(ms:List (Nat×List Nat))(p i:Nat):Bool:=ms.any fun x=>x.1 == i && ms.contains (p,x.2)
def swY(pf mf:List Nat)(ms ks:List (Nat×List Nat))(ops:Array Oper)(p i:Nat):Bool :=
 match ops[p]?,ops[i]? with
 | some op,some oi=>op.apart ops oi && ((be pf op && be pf oi) || (isV op.op && (M0 mf oi || E1 oi)) || (isV op.op && gO oi && Yb ms p i) || (isQ op && isV op.op && pH oi && Yb ks p i) || (zC op && Aw oi))
 | _,_=>false
section
variable {P:Program} {Γ:Nat->a8}
theorem D5{o:Oper}{s:List AV}{k:Nat}:∀{L:List Nat},vA L o s->k∈L->cA k o s
 | [],_,h=>by cases h
 | q :: L,hc,h=>by
  rcases List.mem_cons.1 h with rfl|h
  ·exact hc.1
  ·exact D5 hc.2 h
theorem Cw{o:Oper}{s:List AV}{k:Nat}:∀{L:List Nat},wg L o s->k∈L->dD k o s
 | [],_,h=>by cases h
 | q :: L,hc,h=>by
  rcases List.mem_cons.1 h with rfl|h
  ·exact hc.1
  ·exact Cw hc.2 h
theorem oN{o:Oper}{s s':List AV}(h:∀k,cA k o s->cA k o s'):∀{L:List Nat},vA L o s->vA L o s'
 | [],_=>trivial
 | k :: L,hc=>⟨h k hc.1,oN h hc.2⟩
theorem oA{o:Oper}{s s':List AV}(h:∀k,dD k o s->dD k o s'):∀{L:List Nat},wg L o s->wg L o s'
 | [],_=>trivial
 | k :: L,hc=>⟨h k hc.1,oA h hc.2⟩
theorem iJ{o:Oper}{L:List Nat}{s s':List AV}(h:∀x∈o.op.operands.toList,ev s' x=ev s x)(hc:dK L o s):dK L o s':=by
 unfold dK at hc ⊢
 split
 ·rename_i t a x hop
  rw[hop]at hc h
  rw[h a (by simp[Op.operands])]
  exact hc
 ·rename_i hn
  split at hc
  ·rename_i hop;exact(hn _ _ _ hop).elim
  ·exact oN (fun k hh=>dY h hh) hc
theorem iF{o:Oper}{L:List Nat}{s s':List AV}(h:∀x∈o.op.operands.toList,ev s' x=ev s x)(hc:dL L o s):dL L o s':=by
 unfold dL at hc ⊢
 split
 ·rename_i c hop
  rw[hop]at hc h
  simp only at hc
  split at hc
  ·rename_i x y c5
   rw[h x (by simp[Op.operands,Call.operands,c5])]
   exact hc
  ·exact hc.elim
 ·rename_i hn
  split at hc
  ·rename_i hop;exact(hn _ hop).elim
  ·exact oA (fun k hh=>d5 h hh) hc
theorem CM{o:Oper}{s:List AV}{p:Nat}{k:List Nat}:∀{ms:List (Nat×List Nat)},cMs ms p o s->(p,k)∈ms->dK k o s
 | [],_,h=>by cases h
 | (q,k') :: r,hc,h=>by
  rcases List.mem_cons.1 h with e|h
  ·cases e;exact hc.1 rfl
  ·exact CM hc.2 h
theorem Av{o:Oper}{s:List AV}{p:Nat}{k:List Nat}:∀{ms:List (Nat×List Nat)},cKs ms p o s->(p,k)∈ms->dL k o s
 | [],_,h=>by cases h
 | (q,k') :: r,hc,h=>by
  rcases List.mem_cons.1 h with e|h
  ·cases e;exact hc.1 rfl
  ·exact Av hc.2 h
theorem kg{o:Oper}{s s':List AV}{p:Nat}(h:∀k,dK k o s->dK k o s'):∀{ms:List (Nat×List Nat)},cMs ms p o s->cMs ms p o s'
 | [],_=>trivial
 | (q,k) :: r,hc=>⟨fun e=>h k (hc.1 e),kg h hc.2⟩
theorem kR{o:Oper}{s s':List AV}{p:Nat}(h:∀k,dL k o s->dL k o s'):∀{ms:List (Nat×List Nat)},cKs ms p o s->cKs ms p o s'
 | [],_=>trivial
 | (q,k) :: r,hc=>⟨fun e=>h k (hc.1 e),kR h hc.2⟩
theorem w5{ops:Array Oper}{ms ks:List (Nat×List Nat)}{p:Nat}{o:Oper}{s:List AV}(h:ops[p]?=some o):cY ops ms ks p s=(cMs ms p o s/\cKs ks p o s):=by unfold cY;rw[h]
theorem ut{ms:List (Nat×List Nat)}{p i:Nat}(h:Yb ms p i=true):∃k,(i,k)∈ms/\(p,k)∈ms:=by
 obtain⟨⟨a,k⟩,h1,h2⟩:=List.any_eq_true.1 h
 simp only[Bool.and_eq_true,beq_iff_eq,List.contains_eq_mem,decide_eq_true_eq]at h2
 obtain⟨rfl,h2⟩:=h2
 exact⟨k,h1,h2⟩
theorem Bv{o k:Nat}(a:AV)(h:a.refs o=false):(a.kill k).refs o=false:=by
 cases a with
 | dat _=>rfl
 | nils=>rfl
 | nilm=>rfl
 | top=>rfl
 | rptr _ _=>rfl
 | sl o' i j=>simp only[AV.kill];split <;> first|rfl|exact h
 | ptr o' i j=>simp only[AV.kill];split <;> first|rfl|exact h
 | map o'=>simp only[AV.kill];split <;> first|rfl|exact h
 | yld o'=>simp only[AV.kill];split <;> rfl
 | agg vs=>rfl
 | tup vs=>rfl
 | fn f vs=>rfl
theorem wY{o:Oper}(hq:isQ o=true){m k:Nat}{s:List AV}(h:cA m o s):cA m o (AV.kills k s):=by
 have key:(∀x∈o.op.operands.toList,(ev s x).refs m=false)->∀x∈o.op.operands.toList,(ev (AV.kills k s) x).refs m=false:=fun h x hx=>by
  rw[bM];exact Bv _ (h x hx)
 unfold cA at h ⊢
 split
 ·rename_i t a x hop;unfold isQ at hq;rw[hop]at hq;cases hq
 ·rename_i hn
  split at h
  ·rename_i hop;exact(hn _ _ _ hop).elim
  ·exact key h
theorem xj{o:Oper}(hq:isQ o=true){k:List Nat}{s:List AV}:dL k o s=wg k o s:=by
 unfold dL
 split
 ·rename_i c hop;unfold isQ at hq;rw[hop]at hq;cases hq
 ·rfl
theorem xd{o:Oper}(hq:isV o.op=true){k:List Nat}{s:List AV}:dK k o s=vA k o s:=by
 unfold dK
 split
 ·rename_i hop;rw[hop]at hq;cases hq
 ·rfl
theorem vf{o:Oper}(hq:isQ o=true){k m:Nat}{s:List AV}(hk:dD k o s)(hm:dD m o s):dD m o (AV.kills k s):=by
 unfold isQ at hq
 unfold dD at hk hm ⊢
 split at hq
 ·rename_i x hop _;rw[hop];trivial
 ·rename_i x hop _;rw[hop];trivial
 ·rename_i t x hop _
  rw[hop]at hk hm ⊢
  simp only at hk hm ⊢
  rw[bM]
  cases hx:ev s x <;> rw[hx]at hk hm <;> simp only at hk hm
  ·simp only[AV.kill,hk,if_false];exact hm
  ·trivial
 ·rename_i t x f hop _
  rw[hop]at hk hm ⊢
  simp only at hk hm ⊢
  rw[bM]
  cases hx:ev s x <;> rw[hx]at hk hm <;> simp only at hk hm
  ·simp only[AV.kill,hk,if_false];exact hm
  ·trivial
 ·rename_i t x i hop _
  rw[hop]at hk hm ⊢
  simp only at hk hm ⊢
  rw[bM,bM]
  obtain⟨hk,hi⟩:=hk
  obtain⟨hm,_⟩:=hm
  refine⟨?_,?_⟩
  ·cases hx:ev s x <;> rw[hx]at hk hm <;> simp only at hk hm
   ·trivial
   ·simp only[AV.kill,hk,if_false];exact hm
   ·simp only[AV.kill,hk,if_false];exact hm
  ·cases hy:ev s i <;> rw[hy]at hi <;> simp only at hi
   trivial
 ·rename_i x hop _
  rw[hop]at hk hm ⊢
  simp only at hk hm ⊢
  rw[bM]
  cases hx:ev s x <;> rw[hx]at hk hm <;> simp only at hk hm
  ·simp only[AV.kill,hk,if_false];exact hm
  ·trivial
 ·cases hq
theorem G7{o:Oper}(hm:pH o=true){L:List Nat}{K:S->Prop}{σ:S}{all:Array Oper}(hc:dL L o σ.slots)(h:opg P Γ all o K σ) :
  ∃v own' kl,K (σ.effect o.dst v own' kl)/\((kl=[]/\∃obj,own'=σ.own++[obj])∨(∃k,k∈L/\kl=[k]/\∃obj,own'=(σ.own.map (Obj.kill k)).set k obj)) /\
   ∀(K':S->Prop) (σ':S),σ'.own=σ.own->(∀x∈o.op.operands.toList,ev σ'.slots x=ev σ.slots x)->K' (σ'.effect o.dst v own' kl)->opg P Γ all o K' σ':=by
 unfold pH at hm
 split at hm
 ·rename_i c hop hg
  split at hm
  ·rename_i lX
   unfold dL at hc
   rw[hop]at hc
   simp only at hc
   split at hc
   ·rename_i x y c5
    have e:∀(K:S->Prop) (σ:S),opg P Γ all o K σ=(match c.argTypes.toList with|[t,t']=>iy P σ.own t t' (ev σ.slots x) (ev σ.slots y) (gb o.dst K σ)|_=>False):=fun K σ=>by
     unfold opg
     rw[hg]
     simp only
     unfold opw
     rw[hop]
     simp only[isV,lX,eop,Bool.false_eq_true,if_false,rg,c5]
     split <;> simp_all
    rw[e]at h
    split at h
    ·rename_i t t' hts
     have mem:∀z∈c.args.toList,z∈o.op.operands.toList:=fun z hz=>by
      rw[hop]
      simp[Op.operands,Call.operands,lX,hz]
     unfold QL at hc
     split at hc
     ·rename_i o' off len hx
      rw[hx]at h
      obtain⟨v,obj',h1,h2⟩:=nC h
      refine⟨v,_,_,h1,.inr ⟨o',by simpa using hc,rfl,_,rfl⟩,fun K' σ' ho hxs hK'=>?_⟩
      rw[e,hts]
      simp only
      rw[ho,hxs x (mem x (by rw[c5];simp)),hxs y (mem y (by rw[c5];simp)),hx]
      exact h2 _ hK'
     ·rename_i hx
      rw[hx]at h
      obtain⟨v,obj',h1,h2⟩:=tW h
      refine⟨v,_,_,h1,.inl ⟨rfl,_,rfl⟩,fun K' σ' ho hxs hK'=>?_⟩
      rw[e,hts]
      simp only
      rw[ho,hxs x (mem x (by rw[c5];simp)),hxs y (mem y (by rw[c5];simp)),hx]
      exact h2 _ hK'
     ·exact hc.elim
    ·exact h.elim
   ·exact hc.elim
  ·cases hm
 ·cases hm
theorem Jh{pf mf:List Nat}{ms ks:List (Nat×List Nat)}(hpf:aQ Γ pf)(hmf:bF Γ mf){ops:Array Oper}:mn P Γ ops (cY ops ms ks) (swY pf mf ms ks ops):=by
 intro p i op oi hop hi hsw
 unfold swY at hsw
 rw[hi,hop]at hsw
 simp only[Bool.and_eq_true,Bool.or_eq_true]at hsw
 obtain⟨hap,hk⟩:=hsw
 have hv:be pf op=true:=by
  rcases hk with(((hk|hk)|hk)|hk)|hk
  ·exact hk.1
  ·simp[be,hk.1]
  ·simp[be,hk.1.1]
  ·simp[be,hk.1.1.2]
  ·simp[be,Mz hk.1]
 refine⟨fun K K' σ h hh=>dz hpf hv h hh,fun K σ h=>?_⟩
 have eO:∀(q:Nat) (o:Oper) (K:S->Prop),ops[q]?=some o->opz P Γ ops (cY ops ms ks) q o K=fun σ=>(cMs ms q o σ.slots/\cKs ks q o σ.slots)/\opg P Γ ops o K σ:=fun q o K hq=>by
  funext σ;unfold opz;rw[w5 hq]
 rw[eO i oi _ hi,eO p op _ hop]
 rw[eO i oi _ hi,eO p op _ hop]at h
 have hC:∀(q:Nat) (o:Oper) (s s':List AV),(∀x∈o.op.operands.toList,ev s' x=ev s x)->(cMs ms q o s/\cKs ks q o s)->(cMs ms q o s'/\cKs ks q o s'):=fun q o s s' hx hc=>⟨kg (fun k hh=>iJ hx hh) hc.1,kR (fun k hh=>iF hx hh) hc.2⟩
 have same:∀(vp:AV) (ex:List Obj),isV op.op=true->vG P Γ pf ops op σ.slots σ.own (fun v=>v=vp)->vG P Γ pf ops op (killAll [] σ.slots) (σ.own++ex) (fun v=>v=vp):=fun vp ex hv hg=>kF hv ex _ hg
 rcases hk with(((hk|hk)|hk)|hk)|hk
 ·exact xR hpf hk.1 hk.2 hap (hC p op) (hC i oi) h
 ·refine pK hpf hv hap (hC p op) (hC i oi) (fun K σ' ho cp ci hh=>?_) h
  have Ys:∃v ex,K (σ'.effect oi.dst v (σ'.own++ex) [])/\Eff P Γ ops oi σ' v (σ'.own++ex):=by
   rcases hk.2 with hm|hl
   ·exact va hmf hm hh
   ·exact wd hl hh
  obtain⟨v,ex,g1,g2⟩:=Ys
  exact⟨v,_,[],id,g1,g2,fun s d u=>rfl,cp,fun vp hg=>by rw[ho];exact same vp ex hk.1 hg⟩
 ·obtain⟨⟨q1,q2⟩,q3⟩:=hk
  obtain⟨k,m1,m2⟩:=ut q3
  refine pK hpf hv hap (hC p op) (hC i oi) (fun K σ' ho cp ci hh=>?_) h
  have hs:=CM ci.1 m1
  obtain⟨ob,hin,hcm⟩:∃ob,ob∈k/\cA ob oi σ'.slots:=by
   unfold gO at q2
   split at q2
   ·rename_i t a x aal _ _
    unfold dK at hs
    rw[aal]at hs
    simp only at hs
    unfold inL at hs
    split at hs
    ·rename_i ob i0 j0 hev
     refine⟨ob,by simpa using hs,?_⟩
     unfold cA
     rw[aal]
     exact⟨i0,j0,hev⟩
    ·exact hs.elim
   ·cases q2
  obtain⟨obj',g1,g2⟩:=nN q2 hcm hh
  refine⟨.top,_,[],id,g1,g2,fun s d u=>rfl,cp,fun vp hg=>by
   rw[ho]
   have:=CM cp.1 m2
   rw[xd q1]at this
   exact oK q1 (D5 this hin) hg⟩
 ·obtain⟨⟨⟨q1,q2⟩,q4⟩,q5⟩:=hk
  obtain⟨L,m1,m2⟩:=ut q5
  refine pK hpf hv hap (hC p op) (hC i oi) (fun K σ' ho cp ci hh=>?_) h
  have hs:=Av ci.2 m1
  have hpL:=Av cp.2 m2
  rw[xj q1]at hpL
  have hg:op.guard=none:=by
   unfold isQ at q1
   split at q1 <;> first|assumption|cases q1
  have eG:∀(s:List AV) (own:List Obj) (k:AV->Prop),vG P Γ pf ops op s own k=vop P own s op.op k:=fun s own k=>by
   unfold vG vB
   rw[hg]
   simp only[q2,if_true]
  obtain⟨v,own',kl,g1,g2,g3⟩:=G7 q4 hs hh
  rcases g2 with⟨rfl,obj,rfl⟩|⟨k,hkL,rfl,obj,rfl⟩
  ·exact⟨v,_,[],id,g1,g3,fun s d u=>rfl,cp,fun vp hg=>by rw[ho];exact same vp _ q2 hg⟩
  ·have hcA:=Cw hpL hkL
   refine⟨v,_,[k],AV.kill k,g1,g3,fun s d u=>by rw[cX,cX,kx],?_,fun vp hvg=>?_⟩
   ·rw[cX]
    refine⟨kg (fun m hm=>?_) cp.1,kR (fun m hm=>?_) cp.2⟩
    ·rw[xd q2]at hm ⊢;exact oN (fun m hm=>wY q1 hm) hm
    ·rw[xj q1]at hm ⊢;exact oA (fun m hm=>vf q1 hcA hm) hm
   ·rw[eG]at hvg
    rw[eG,cX,ho]
    have:=sA q1 (obj':=obj) hcA hvg
    obtain⟨v',⟨u,rfl,rfl⟩,hy⟩:=ph _ op.op _ this
    exact hy _ rfl
 ·refine pK hpf hv hap (hC p op) (hC i oi) (fun K σ' ho cp ci hh=>?_) h
  obtain⟨v,own',g1,g2⟩:=vI hk.2 hh
  exact⟨v,own',[],id,g1,g2,fun s d u=>rfl,cp,fun vp hg=>AS hk.1 hg⟩
theorem cW{pf mf:List Nat}(ms ks:List (Nat×List Nat))(hm:P.follows .mixedOrders=true)(hΓ:OkG P Γ)(hpf:aQ Γ pf)(hmf:bF Γ mf){id:Nat}{ops:Array Oper}{Q:Exit->S->Prop}{σ:S}(T:DT)(hok:sR (swY pf mf ms ks ops) ops T=true)
  (h:chZ P Γ ops (cY ops ms ks) Q T σ):sem P (.region id ops true) Q σ:=ui hm hΓ (Jh hpf hmf) T hok h
variable {all:Array Oper} {Q:Exit->S->Prop} {p q k:Nat} {r L:List Nat} {ms ks:List (Nat×List Nat)} {t u:DT} {σ:S} {s:List AV} {own:List Obj} {n:Nat} {m:List Nat} {o:Oper}
@[go_sem] theorem XY:cMs [] p o s=True:=Eq.trans rfl rfl
@[go_sem] theorem TO:cMs ((p,L) :: ms) p o s=(dK L o s/\cMs ms p o s):=by simp[cMs]
@[go_sem] theorem PQ (h:q≠p):cMs ((q,L) :: ms) p o s=cMs ms p o s:=by simp[cMs,h]
@[go_sem] theorem Y5:cKs [] p o s=True:=Eq.trans rfl rfl
@[go_sem] theorem Tn:cKs ((p,L) :: ms) p o s=(dL L o s/\cKs ms p o s):=by simp[cKs]
@[go_sem] theorem P4 (h:q≠p):cKs ((q,L) :: ms) p o s=cKs ms p o s:=by simp[cKs,h]
@[go_sem] theorem U2:vA [] o s=True:=Eq.trans rfl rfl
@[go_sem] theorem QG:vA (k :: L) o s=(cA k o s/\vA L o s):=Eq.trans rfl rfl
@[go_sem] theorem Ua:wg [] o s=True:=Eq.trans rfl rfl
@[go_sem] theorem QP:wg (k :: L) o s=(dD k o s/\wg L o s):=Eq.trans rfl rfl
@[go_sem] theorem XL {i j:Nat}:inL L (.ptr k i j)=(L.contains k=true):=Eq.trans rfl rfl
@[go_sem] theorem Wj {i j:Nat}:QL L (.sl k i j)=(L.contains k=true):=Eq.trans rfl rfl
@[go_sem] theorem OU:QL L .nils=True:=Eq.trans rfl rfl
section
variable {dst:Option Tmp} {ty t1:TypeId} {pos:String} {af:Array Edge} {gd:Option (Nat×Bool)} {x y a:Operand} {f:Nat}
@[go_sem] theorem Ic:dK L ⟨dst,.store t1 a x,ty,pos,af,gd⟩ s=inL L (ev s a):=Eq.trans rfl rfl
@[go_sem] theorem Lf:dK L ⟨dst,.load t1 x,ty,pos,af,gd⟩ s=vA L ⟨dst,.load t1 x,ty,pos,af,gd⟩ s:=Eq.trans rfl rfl
@[go_sem] theorem K9:dK L ⟨dst,.move x,ty,pos,af,gd⟩ s=vA L ⟨dst,.move x,ty,pos,af,gd⟩ s:=Eq.trans rfl rfl
@[go_sem] theorem Gc:dK L ⟨dst,.assign x,ty,pos,af,gd⟩ s=vA L ⟨dst,.assign x,ty,pos,af,gd⟩ s:=Eq.trans rfl rfl
@[go_sem] theorem Ah:dK L ⟨dst,.indexAddr t1 x y,ty,pos,af,gd⟩ s=vA L ⟨dst,.indexAddr t1 x y,ty,pos,af,gd⟩ s:=Eq.trans rfl rfl
@[go_sem] theorem Ak:dK L ⟨dst,.fieldAddr t1 x f,ty,pos,af,gd⟩ s=vA L ⟨dst,.fieldAddr t1 x f,ty,pos,af,gd⟩ s:=Eq.trans rfl rfl
@[go_sem] theorem CF:dK L ⟨dst,.nilCheck x,ty,pos,af,gd⟩ s=vA L ⟨dst,.nilCheck x,ty,pos,af,gd⟩ s:=Eq.trans rfl rfl
@[go_sem] theorem Jk {b:BinOp} {t2:TypeId}:dK L ⟨dst,.binOp b t1 x y t2,ty,pos,af,gd⟩ s=vA L ⟨dst,.binOp b t1 x y t2,ty,pos,af,gd⟩ s:=Eq.trans rfl rfl
@[go_sem] theorem Ls {b:Builtin} {ts:Array TypeId}:dL L ⟨dst,.call ⟨.builtin b,#[x,y],ts⟩,ty,pos,af,gd⟩ s=QL L (ev s x):=Eq.trans rfl rfl
@[go_sem] theorem JJ:dL L ⟨dst,.load t1 x,ty,pos,af,gd⟩ s=wg L ⟨dst,.load t1 x,ty,pos,af,gd⟩ s:=Eq.trans rfl rfl
@[go_sem] theorem Mr:dL L ⟨dst,.move x,ty,pos,af,gd⟩ s=wg L ⟨dst,.move x,ty,pos,af,gd⟩ s:=Eq.trans rfl rfl
@[go_sem] theorem Ff:dL L ⟨dst,.assign x,ty,pos,af,gd⟩ s=wg L ⟨dst,.assign x,ty,pos,af,gd⟩ s:=Eq.trans rfl rfl
@[go_sem] theorem Ai:dL L ⟨dst,.indexAddr t1 x y,ty,pos,af,gd⟩ s=wg L ⟨dst,.indexAddr t1 x y,ty,pos,af,gd⟩ s:=Eq.trans rfl rfl
@[go_sem] theorem Co:dL L ⟨dst,.nilCheck x,ty,pos,af,gd⟩ s=wg L ⟨dst,.nilCheck x,ty,pos,af,gd⟩ s:=Eq.trans rfl rfl
@[go_sem] theorem An:dL L ⟨dst,.fieldAddr t1 x f,ty,pos,af,gd⟩ s=wg L ⟨dst,.fieldAddr t1 x f,ty,pos,af,gd⟩ s:=Eq.trans rfl rfl
end
def chY(P:Program)(Γ:Nat->a8)(all:Array Oper)(ms ks:List (Nat×List Nat))(Q:Exit->S->Prop)(t:DT)(p:Nat)(s:List AV)(own:List Obj)(n:Nat)(m:List Nat)(oo:Option Oper):Prop:=match oo with
 | some o=>(cMs ms p o s/\cKs ks p o s)/\opg P Γ all o (chZ P Γ all (cY all ms ks) Q t) ⟨s,own,n,m⟩
 | none=>False
@[go_sem] theorem U7:chY P Γ all ms ks Q t p s own n m (some o)=((cMs ms p o s/\cKs ks p o s)/\opg P Γ all o (chZ P Γ all (cY all ms ks) Q t) ⟨s,own,n,m⟩):=Eq.trans rfl rfl
theorem C6:chY P Γ all ms ks Q t p s own n m all[p]?=(match all[p]? with|some o=>opz P Γ all (cY all ms ks) p o (chZ P Γ all (cY all ms ks) Q t) ⟨s,own,n,m⟩|none=>False):=by
 cases h:all[p]? with
 | none=>rfl
 | some o=>simp only[chY,opz,cY,h]
@[go_sem] theorem X3:chZ P Γ all (cY all ms ks) Q .fin σ=Q .normal σ:=Eq.trans rfl rfl
@[go_sem] theorem U5:chZ P Γ all (cY all ms ks) Q .stop σ=True:=Eq.trans rfl rfl
@[go_sem] theorem KY:chZ P Γ all (cY all ms ks) Q (il []) σ=Q .normal σ:=Eq.trans rfl rfl
@[go_sem] theorem IM:chZ P Γ all (cY all ms ks) Q (il (p :: r)) ⟨s,own,n,m⟩=chY P Γ all ms ks Q (il r) p s own n m all[p]?:=by rw[C6];rfl
@[go_sem] theorem W3:chZ P Γ all (cY all ms ks) Q (.one p t) ⟨s,own,n,m⟩=chY P Γ all ms ks Q t p s own n m all[p]?:=by rw[C6];rfl
@[go_sem] theorem WI:chZ P Γ all (cY all ms ks) Q (.alt p t u) ⟨s,own,n,m⟩=(chY P Γ all ms ks Q t p s own n m all[p]?/\chZ P Γ all (cY all ms ks) Q u ⟨s,own,n,m⟩):=by rw[C6];rfl
end
mutual
def AV.frzB(o:Nat)(ds:List D):AV->AV
 | .sl o' i j=>if o'=o then .top else .sl o' i j
 | .ptr o' i j=>if o'=o then (if i=0/\j=0 then .rptr (some ds.length) (.agg ds) else .top) else .ptr o' i j
 | .map o'=>if o'=o then .top else .map o'
 | .yld o'=>if o'=o then .top else .yld o'
 | .agg vs=>.agg (AV.frzBs o ds vs)
 | .tup vs=>.tup (AV.frzBs o ds vs)
 | .fn f vs=>.fn f (AV.frzBs o ds vs)
 | .dat d=>.dat d
 | .nils=>.nils
 | .nilm=>.nilm
 | .rptr a d=>.rptr a d
 | .top=>.top
def AV.frzBs(o:Nat)(ds:List D):List AV->List AV
 | []=>[]
 | a :: as=>a.frzB o ds :: AV.frzBs o ds as
end
theorem AV.frzBs_length{o:Nat}{ds:List D}:∀(cs:List AV),(AV.frzBs o ds cs).length=cs.length
 | []=>rfl
 | c :: cs=>by simp only[AV.frzBs,List.length_cons,AV.frzBs_length cs]
def Obj.frzB(o:Nat)(ds:List D):Obj->Obj
 | .box cs=>.box (AV.frzBs o ds cs)
 | .lp r cs=>.lp r (AV.frzBs o ds cs)
 | .bld T u cs=>.bld T u (AV.frzBs o ds cs)
 | .vec cs=>.vec (AV.frzBs o ds cs)
 | .tab k cs=>.tab k (AV.frzBs o ds cs)
 | x=>x
section
variable {P:Program} {F F':Nat->Prop} {φ φ':Nat->Option Loc} {w:World} {o:Nat} {ds:List D} {L:Loc}
theorem EY(hF:∀b,F b->F' b)(ho:φ o=some L)(hFL:L.nil=false->F' L.b)(hr:ObjR F φ w (some L) (.box (ds.map .dat))){v:Value}(h:AV.R F φ w (.ptr o 0 0) v) :
  AV.R F' φ' w (.rptr (some ds.length) (.agg ds)) v:=by
 simp only[AV.R]at h
 obtain⟨L',h1,hn,rfl⟩:=h
 rw[ho]at h1
 cases h1
 simp only[ObjR]at hr
 obtain⟨_,hb,arr,ty,h3,h4,h5⟩:=hr
 have h6:=nw h5
 have hl:=D.Cs_length _ _ h6
 simp only[AV.R]
 refine⟨L.b,0,arr,by rw[hb];simp,hFL hn,by simpa [es] using hl,fun j hj=>?_,rfl,?_⟩
 ·simp[World.cell?,h3]
 ·simp only[D.C]
  exact D.Cs_mono hF (Same.refl F w) _ _ h6
mutual
theorem AV.R_frzB(hF:∀b,F b->F' b)(hφ:∀o' L',o'≠o->φ o'=some L'->φ' o'=some L')(ho:φ o=some L)(hFL:L.nil=false->F' L.b)(hr:ObjR F φ w (some L) (.box (ds.map .dat))) :
  ∀(a:AV) (v:Value),AV.R F φ w a v->AV.R F' φ' w (a.frzB o ds) v
 | .dat d,v,h=>by
  simp only[AV.frzB,AV.R]at h ⊢
  exact D.R_mono hF (Same.refl F w) h
 | .nils,_,h=>by simpa only[AV.frzB,AV.R] using h
 | .nilm,_,h=>by simpa only[AV.frzB,AV.R] using h
 | .sl o' i j,v,h=>by
  simp only[AV.frzB]
  split
  ·simp only[AV.R]
  ·rename_i hne
   simp only[AV.R]at h ⊢
   obtain⟨L',h1,h2⟩:=h
   exact⟨L',hφ o' L' hne h1,h2⟩
 | .ptr o' i j,v,h=>by
  simp only[AV.frzB]
  split
  ·rename_i e
   subst e
   split
   ·rename_i hij
    obtain⟨rfl,rfl⟩:=hij
    exact EY hF ho hFL hr h
   ·simp only[AV.R]
  ·rename_i hne
   simp only[AV.R]at h ⊢
   obtain⟨L',h1,h2⟩:=h
   exact⟨L',hφ o' L' hne h1,h2⟩
 | .rptr a d,v,h=>by
  simp only[AV.frzB,AV.R]at h ⊢
  obtain⟨b,off,cs,h1,h2,h5,h3,h6,h4⟩:=h
  exact⟨b,off,cs,h1,hF b h2,h5,h3,h6,D.C_mono hF (Same.refl F w) _ _ h4⟩
 | .agg vs,v,h=>by
  simp only[AV.frzB,AV.R]at h ⊢
  obtain⟨arr,h1,h2⟩:=h
  exact⟨arr,h1,AV.Ra_frzB hF hφ ho hFL hr vs arr h2⟩
 | .tup vs,v,h=>by
  simp only[AV.frzB,AV.R]at h ⊢
  obtain⟨arr,h1,h2⟩:=h
  exact⟨arr,h1,AV.Rs_frzB hF hφ ho hFL hr vs arr h2⟩
 | .map o',v,h=>by
  simp only[AV.frzB]
  split
  ·simp only[AV.R]
  ·rename_i hne
   simp only[AV.R]at h ⊢
   obtain⟨L',h1,h2⟩:=h
   exact⟨L',hφ o' L' hne h1,h2⟩
 | .yld o',v,h=>by
  simp only[AV.frzB]
  split
  ·simp only[AV.R]
  ·rename_i hne
   simp only[AV.R]at h ⊢
   obtain⟨L',h1,h2⟩:=h
   exact⟨L',hφ o' L' hne h1,h2⟩
 | .fn f vs,v,h=>by
  simp only[AV.frzB,AV.R]at h ⊢
  obtain⟨arr,h1,h2⟩:=h
  exact⟨arr,h1,AV.Rs_frzB hF hφ ho hFL hr vs arr h2⟩
 | .top,_,_=>by simp only[AV.frzB,AV.R]
theorem AV.Rs_frzB(hF:∀b,F b->F' b)(hφ:∀o' L',o'≠o->φ o'=some L'->φ' o'=some L')(ho:φ o=some L)(hFL:L.nil=false->F' L.b)(hr:ObjR F φ w (some L) (.box (ds.map .dat))) :
  ∀(as:List AV) (vs:List Value),AV.Rs F φ w as vs->AV.Rs F' φ' w (AV.frzBs o ds as) vs
 | [],_,h=>by simpa only[AV.frzBs,AV.Rs] using h
 | a :: as,vs,h=>by
  simp only[AV.frzBs,AV.Rs]at h ⊢
  obtain⟨v,vs',h1,h2,h3⟩:=h
  exact⟨v,vs',h1,AV.R_frzB hF hφ ho hFL hr a v h2,AV.Rs_frzB hF hφ ho hFL hr as vs' h3⟩
theorem AV.Ra_frzB(hF:∀b,F b->F' b)(hφ:∀o' L',o'≠o->φ o'=some L'->φ' o'=some L')(ho:φ o=some L)(hFL:L.nil=false->F' L.b)(hr:ObjR F φ w (some L) (.box (ds.map .dat))) :
  ∀(as:List AV) (vs:List Value),AV.Ra F φ w as vs->AV.Ra F' φ' w (AV.frzBs o ds as) vs
 | [],_,h=>by simpa only[AV.frzBs,AV.Ra] using h
 | a :: as,vs,h=>by
  simp only[AV.frzBs,AV.Ra]at h ⊢
  obtain⟨v,vs',h1,h0,h2,h3⟩:=h
  exact⟨v,vs',h1,h0,AV.R_frzB hF hφ ho hFL hr a v h2,AV.Ra_frzB hF hφ ho hFL hr as vs' h3⟩
end
theorem zi{s:List AV}{own:List Obj}{n0:Nat}{mv:List Nat}(o:Nat){ds:List D}(ho:own[o]?=some (.box (ds.map .dat)))(h0:n0<=o) :
  Le ⟨s,own,n0,mv⟩ ⟨AV.frzBs o ds s,(own.map (Obj.frzB o ds)).set o .dead,n0,mv⟩:=by
 rintro c a w ⟨hd,hn,F,φ,h2,h3,h4⟩
 have hlt:o<own.length:=by
  rcases Nat.lt_or_ge o own.length with h|h
  ·exact h
  ·rw[List.getElem?_eq_none h]at ho;cases ho
 have dg:=h3.rep o _ ho
 obtain⟨L,hL⟩:∃L,φ o=some L:=by
  cases hl:φ o with
  | none=>rw[hl]at dg;simp only[ObjR]at dg
  | some L=>exact⟨L,rfl⟩
 rw[hL]at dg
 let F':Nat->Prop:=fun b=>F b∨(L.nil=false/\b=L.b)
 let φ':Nat->Option Loc:=fun i=>if i=o then none else φ i
 have hF:∀b,F b->F' b:=fun b hb=>.inl hb
 have hFL:L.nil=false->F' L.b:=fun hn=>.inr ⟨hn,rfl⟩
 have hφ:∀o' L',o'≠o->φ o'=some L'->φ' o'=some L':=fun o' L' hne h=>by simp only[φ',hne,if_false];exact h
 refine⟨hd,hn,F',φ',⟨fun b hb=>hF b (h2.sub b hb),h2.ext,fun o' L' eH hm h=>?_,h2.rest,fun o' L' ho' hn'=>?_,fun b hb=>?_⟩,?_,AV.Rs_frzB hF hφ hL hFL dg _ _ h4⟩
 ·have:o'≠o:=by rw[← hn]at eH;simp only at eH;omega
  exact hφ o' L' this (h2.keep o' L' eH hm h)
 ·simp only[φ']at ho'
  split at ho'
  ·cases ho'
  ·exact h2.orig o' L' ho' hn'
 ·rcases hb with hb|⟨hn',rfl⟩
  ·exact h2.frsh b hb
  ·rcases h2.orig o L hL hn' with h|h
   ·exact .inr (.inl h)
   ·exact .inr (.inr h)
 ·constructor
  ·intro b hb
   rcases hb with hb|⟨hn',rfl⟩
   ·exact h3.fb b hb
   ·exact(h3.live o L hL hn').2
  ·intro o' L' ho' hn'
   simp only[φ']at ho'
   split at ho'
   ·cases ho'
   ·rename_i hne
    refine⟨fun hF'=>?_,(h3.live o' L' ho' hn').2⟩
    rcases hF' with hF'|⟨hn2,hb⟩
    ·exact(h3.live o' L' ho' hn').1 hF'
    ·exact h3.inj o' o L' L ho' hL hn' hn2 hne hb
  ·intro o1 o2 L1 L2 h1 h2' n1 n2 hne
   simp only[φ']at h1 h2'
   split at h1 <;> split at h2' <;> first|exact h3.inj o1 o2 L1 L2 h1 h2' n1 n2 hne|cases h1|cases h2'
  ·intro o' obj ho'
   rw[List.getElem?_set]at ho'
   by_cases e:o=o'
   ·subst e
    simp only[if_true,List.length_map,hlt,Option.some.injEq]at ho'
    subst ho'
    simp only[φ',if_true,ObjR]
   ·simp only[e,if_false,List.getElem?_map,Option.map_eq_some_iff]at ho'
    obtain⟨ob,hob,rfl⟩:=ho'
    have cJ:=h3.rep o' ob hob
    simp only[φ',if_neg (fun e':o'=o=>e e'.symm)]
    cases hl:φ o' with
    | none=>rw[hl]at cJ;cases ob <;> simp only[ObjR,Obj.frzB]at cJ ⊢
    | some L' =>
     rw[hl]at cJ
     cases ob with
     | vec cs =>
      simp only[ObjR,Obj.frzB]at cJ ⊢
      obtain⟨q1,q2⟩:=cJ
      refine⟨q1,?_⟩
      have hl':(AV.frzBs o ds cs).length=cs.length:=AV.frzBs_length _
      rcases q2 with⟨q2,q3⟩|⟨q2,arr,ty,q3,q4,q5,vs,q6,q7⟩
      ·subst q3;exact .inl ⟨q2,rfl⟩
      ·exact .inr ⟨q2,arr,ty,q3,q4,by rw[hl'];exact q5,vs,AV.Ra_frzB hF hφ hL hFL dg _ _ q6,by rw[hl'];exact q7⟩
     | tab k0 cs =>
      simp only[ObjR,Obj.frzB]at cJ ⊢
      obtain⟨q1,q2⟩:=cJ
      refine⟨q1,?_⟩
      have hl':(AV.frzBs o ds cs).length=cs.length:=AV.frzBs_length _
      rcases q2 with⟨q2,q3⟩|⟨q2,arr,ty,q3,q4,q5,vs,q6,q7⟩
      ·subst q3;exact .inl ⟨q2,rfl⟩
      ·exact .inr ⟨q2,arr,ty,q3,q4,by rw[hl'];exact q5,vs,AV.Ra_frzB hF hφ hL hFL dg _ _ q6,by rw[hl'];exact q7⟩
     | box cs =>
      simp only[ObjR,Obj.frzB]at cJ ⊢
      obtain⟨q1,q2,arr,ty,q3,q4,q5⟩:=cJ
      exact⟨q1,q2,arr,ty,q3,q4,AV.Ra_frzB hF hφ hL hFL dg _ _ q5⟩
     | lp r0 cs =>
      simp only[ObjR,Obj.frzB]at cJ ⊢
      obtain⟨q1,q2,arr,ty,q3,q4,q5⟩:=cJ
      exact⟨q1,q2,arr,ty,q3,q4,AV.Rs_frzB hF hφ hL hFL dg _ _ q5⟩
     | bld T0 u0 cs =>
      simp only[ObjR,Obj.frzB]at cJ ⊢
      obtain⟨q1,q2,arr,ty,q3,q4,q5⟩:=cJ
      exact⟨q1,q2,arr,ty,q3,q4,AV.Rs_frzB hF hφ hL hFL dg _ _ q5⟩
     | row ag' xs' =>
      simp only[ObjR,Obj.frzB]at cJ ⊢
      obtain⟨q1,q2⟩:=cJ
      refine⟨q1,?_⟩
      rcases q2 with q2|⟨q2,q3,q4,q5⟩
      ·exact .inl q2
      ·exact .inr ⟨q2,q3,q4,D.Cr_congr hF (Same.refl F w) ag' L'.b L'.b _ _ _ (fun _ _=>rfl) q5⟩
     | brow e0 bs0=>simpa only[ObjR,Obj.frzB] using cJ
     | map m =>
      simp only[ObjR,Obj.frzB]at cJ ⊢
      obtain⟨q1,es,clock,q3,q4⟩:=cJ
      exact⟨q1,es,clock,q3,gC hF (Same.refl F w) _ _ q4⟩
     | dead=>simp only[ObjR,Obj.frzB]
  ·intro o' ho'
   simp only[List.length_set,List.length_map]at ho'
   simp only[φ']
   rw[if_neg (by omega)]
   exact h3.out o' ho'
  ·exact h3.glob.mono hF (Same.refl F w)
end
attribute [go_sem] AV.frzB AV.frzBs Obj.frzB
@[go_sem] theorem zT {o:Nat} {ds:List D}:∀(xs:List D),AV.frzBs o ds (xs.map .dat)=xs.map .dat
 | []=>rfl
 | d :: xs=>by simp only[List.map_cons,AV.frzBs,AV.frzB,zT xs]
end Go.AM
namespace Go.AM
open Go
def DV(o:Oper):Bool :=
 match o.op,o.guard with
 | .move _,none|.assign _,none|.fieldAddr _ _ _,none|.nilCheck _,none|.binOp _ _ _ _ _,none|.unOp _ _ _,none|.extract _ _,none|.field _ _ _,none|.convert _ _ _,none|.build _ _,none|.pick _ _ _,none|.index _ _ _,none=>true
 | _,_=>false
def D0(o:Oper):Bool :=
 match o.op,o.guard with
 | .indexAddr _ _ _,none=>true
 | _,_=>false
def Obj.knd:Obj->Nat×Option Nat
 | .row ag _=>(0,ag)
 | .vec _=>(1,none)
 | .tab k _=>(5,some k)
 | .box _=>(2,none)
 | .lp _ _=>(6,none)
 | .bld _ _ _=>(7,none)
 | .map _=>(3,none)
 | .brow _ _=>(8,none)
 | .dead=>(4,none)
def swV(pf mf:List Nat)(ms ks:List (Nat×List Nat))(ops:Array Oper)(p i:Nat):Bool :=
 swY pf mf ms ks ops p i || (match ops[p]?,ops[i]? with|some op,some oi=>op.apart ops oi && ((DV op && Aw oi) || (D0 op && gO oi))|_,_=>false)
section
variable {P:Program} {Γ:Nat->a8}
theorem Mj{pf:List Nat}{all:Array Oper}{o:Oper}(hm:DV o=true){s:List AV}{own own':List Obj}{k:AV->Prop}(h:vG P Γ pf all o s own k):vG P Γ pf all o s own' k:=by
 unfold DV at hm
 split at hm <;> first
  | (rename_i hop hg;unfold vG vB at h ⊢;rw[hg]at h ⊢;simp only[hop,isV,if_true,vop]at h ⊢;exact h)
  | cases hm
theorem Yc{o:Oper}(hm:DV o=true):isV o.op=true:=by
 unfold DV at hm
 split at hm <;> first|(rename_i hop hg;rw[hop];rfl)|cases hm
theorem XS{o:Oper}(hm:D0 o=true):isV o.op=true:=by
 unfold D0 at hm
 split at hm <;> first|(rename_i hop hg;rw[hop];rfl)|cases hm
theorem rP{τ:Ty}{obj:Obj}{i j:Nat}{x:AV}{K:Obj->Prop}(h:ei τ obj i j x K):∃obj',K obj'/\(∀K':Obj->Prop,K' obj'->ei τ obj i j x K')/\obj'.knd=obj.knd:=by
 unfold ei at h ⊢
 split at h
 ·split at h
  ·obtain⟨h2,h3,h4,h⟩:=h
   split at h
   ·exact⟨_,h.2,fun K' hK'=>⟨h2,h3,h4,h.1,hK'⟩,rfl⟩
   ·exact h.elim
  ·obtain⟨h2,h3,h4,h⟩:=h
   split at h
   ·exact⟨_,h.2,fun K' hK'=>⟨h2,h3,h4,h.1,hK'⟩,rfl⟩
   ·exact h.elim
 ·obtain⟨h1,h⟩:=h
  split at h
  ·split at h
   ·rename_i ha
    refine⟨_,h.2.2.2,fun K' hK'=>⟨h1,?_⟩,rfl⟩
    rw[if_pos ha]
    exact⟨h.1,h.2.1,h.2.2.1,hK'⟩
   ·rename_i ha
    refine⟨_,h.2.2.2,fun K' hK'=>⟨h1,?_⟩,rfl⟩
    rw[if_neg ha]
    exact⟨h.1,h.2.1,h.2.2.1,hK'⟩
  ·exact h.elim
 ·obtain⟨h1,h2,h3,h⟩:=h
  split at h
  ·exact⟨_,h,fun K' hK'=>⟨h1,h2,h3,hK'⟩,rfl⟩
  ·exact h.elim
 ·split at h
  ·exact⟨_,h.2.2,fun K' hK'=>⟨h.1,h.2.1,hK'⟩,rfl⟩
  ·exact h.elim
 ·obtain⟨h1,h2,h3,h⟩:=h
  split at h
  ·exact⟨_,h,fun K' hK'=>⟨h1,h2,h3,hK'⟩,rfl⟩
  ·exact h.elim
 ·obtain⟨h1,h⟩:=h
  split at h
  ·exact⟨_,h.2.2,fun K' hK'=>⟨h1,h.1,h.2.1,hK'⟩,rfl⟩
  ·exact h.elim
 ·exact h.elim
theorem Bj{o:Oper}(hm:gO o=true){K:S->Prop}{σ:S}{all:Array Oper}(h:opg P Γ all o K σ) :
  ∃v own',K (σ.effect o.dst v own' [])/\Eff P Γ all o σ v own'/\∀k,(own'.getD k .dead).knd=(σ.own.getD k .dead).knd:=by
 unfold gO at hm
 split at hm
 ·rename_i t a x hop Yt hg
  have e:∀(K:S->Prop) (σ:S),opg P Γ all o K σ=fK (aw P t) σ.own (ev σ.slots a) (ev σ.slots x) (gb o.dst K σ):=fun K σ=>by
   unfold opg;rw[hg];simp only;unfold opw
   simp only[hop,isV,Bool.false_eq_true,if_false,eop]
  have h':=h
  rw[e]at h
  unfold fK at h
  split at h
  ·rename_i τ o' i j hτ ha
   obtain⟨obj',h1,h2,hk⟩:=rP h
   refine⟨.top,σ.own.set o' obj',h1,fun K' σ' ho hx hK'=>?_,fun k=>?_⟩
   ·rw[e,hx a (by rw[hop];simp[Op.operands]),hx x (by rw[hop];simp[Op.operands]),ho,ha,hτ]
    exact h2 (fun obj=>gb o.dst K' σ' .top (σ.own.set o' obj) []) (by rw[← ho]at hK' ⊢;exact hK')
   ·simp only[List.getD_eq_getElem?_getD,List.getElem?_set]
    by_cases ek:o'=k
    ·subst ek
     rw[if_pos rfl]
     split
     ·rw[Option.getD_some]
      simpa [List.getD_eq_getElem?_getD] using hk
     ·rename_i hge
      rw[List.getElem?_eq_none (by omega)]
    ·rw[if_neg ek]
  ·exact h.elim
 ·cases hm
theorem vD{a:Obj}{ag:Option Nat}{xs:List D}(h:a.knd=(Obj.row ag xs).knd):∃ys,a=.row ag ys:=by
 cases a <;> simp only[Obj.knd,Prod.mk.injEq,true_and]at h
 ·subst h;exact⟨_,rfl⟩
 all_goals (exact absurd h.1 (by decide))
theorem Mw{a:Obj}{xs:List AV}(h:a.knd=(Obj.vec xs).knd):∃ys,a=.vec ys:=by
 cases a <;> simp only[Obj.knd,Prod.mk.injEq,and_true]at h
 all_goals first|exact⟨_,rfl⟩|exact absurd h (by decide)|exact absurd h.1 (by decide)
theorem LB{a:Obj}{k:Nat}{xs:List AV}(h:a.knd=(Obj.tab k xs).knd):∃ys,a=.tab k ys:=by
 cases a <;> simp only[Obj.knd,Prod.mk.injEq,true_and,and_true]at h
 all_goals first|(simp only[Option.some.injEq]at h;subst h;exact⟨_,rfl⟩)|exact absurd h.1 (by decide)|exact absurd h (by decide)
theorem Mg{a:Obj}{xs:List AV}(h:a.knd=(Obj.box xs).knd):∃ys,a=.box ys:=by
 cases a <;> simp only[Obj.knd,Prod.mk.injEq,and_true]at h
 all_goals first|exact⟨_,rfl⟩|exact absurd h (by decide)|exact absurd h.1 (by decide)
theorem Ht{τ:Option Ty}{x i:AV}{own own':List Obj}(hk:∀k,(own'.getD k .dead).knd=(own.getD k .dead).knd){k:AV->Prop}(h:bE P τ own x i k):bE P τ own' x i k:=by
 unfold bE at h
 split at h
 ·rename_i τ o off len kk n
  rw[wi]
  split at h
  ·rename_i e he
   rw[he]
   simp only
   split at h
   ·rename_i τe hτ
    rw[hτ]
    obtain⟨h1,h2,h3,h4⟩:=h
    refine⟨h1,h2,?_,h4⟩
    rcases h3 with⟨ag,xs,h3,h5⟩|⟨cs,h3,h5⟩|⟨k9,cs,h3,h5⟩
    ·have hh:=hk o
     rw[h3]at hh
     obtain⟨ys,hy⟩:=vD hh
     exact .inl ⟨ag,ys,hy,h5⟩
    ·have hh:=hk o
     rw[h3]at hh
     obtain⟨ys,hy⟩:=Mw hh
     exact .inr (.inl ⟨ys,hy,h5⟩)
    ·have hh:=hk o
     rw[h3]at hh
     obtain⟨ys,hy⟩:=LB hh
     exact .inr (.inr ⟨_,ys,hy,h5⟩)
   ·exact h.elim
  ·exact h.elim
 ·rw[tf];exact h
 ·rename_i τ o i0 j kk n
  unfold bE
  simp only
  split at h
  ·rename_i m e he
   split at h
   ·rename_i τe hτ
    obtain⟨h1,h2,h3⟩:=h
    refine⟨h1,h2,?_⟩
    split at h3
    ·rename_i xs b9
     have hh:=hk o
     rw[b9]at hh
     obtain⟨ys,hy⟩:=vD hh
     rw[hy];exact h3
    ·rename_i q xs b9
     have hh:=hk o
     rw[b9]at hh
     obtain⟨ys,hy⟩:=vD hh
     rw[hy];exact h3
    ·rename_i xs b9
     have hh:=hk o
     rw[b9]at hh
     obtain⟨ys,hy⟩:=Mg hh
     rw[hy];exact h3
    ·exact h3.elim
   ·exact h.elim
  ·exact h.elim
 ·rw[sE];exact h
 ·exact h.elim
theorem LF{pf:List Nat}{all:Array Oper}{o:Oper}(hm:D0 o=true){s:List AV}{own own':List Obj}(hk:∀k,(own'.getD k .dead).knd=(own.getD k .dead).knd){k:AV->Prop}(h:vG P Γ pf all o s own k):vG P Γ pf all o s own' k:=by
 unfold D0 at hm
 split at hm
 ·rename_i t x i hop hg
  unfold vG vB at h ⊢
  rw[hg]at h ⊢
  simp only[hop,isV,if_true,vop]at h ⊢
  exact Ht hk h
 ·cases hm
theorem Ax{pf mf:List Nat}{ms ks:List (Nat×List Nat)}(hpf:aQ Γ pf)(hmf:bF Γ mf){ops:Array Oper}:mn P Γ ops (cY ops ms ks) (swV pf mf ms ks ops):=by
 intro p i op oi hop hi hsw
 unfold swV at hsw
 rw[Bool.or_eq_true]at hsw
 rcases hsw with hsw|hsw
 ·exact Jh hpf hmf p i op oi hop hi hsw
 rw[hi,hop]at hsw
 simp only[Bool.and_eq_true,Bool.or_eq_true]at hsw
 obtain⟨hap,hk⟩:=hsw
 have hv:be pf op=true:=by
  rcases hk with hk|hk
  ·simp[be,Yc hk.1]
  ·simp[be,XS hk.1]
 refine⟨fun K K' σ h hh=>dz hpf hv h hh,fun K σ h=>?_⟩
 have eO:∀(q:Nat) (o:Oper) (K:S->Prop),ops[q]?=some o->opz P Γ ops (cY ops ms ks) q o K=fun σ=>(cMs ms q o σ.slots/\cKs ks q o σ.slots)/\opg P Γ ops o K σ:=fun q o K hq=>by
  funext σ;unfold opz;rw[w5 hq]
 rw[eO i oi _ hi,eO p op _ hop]
 rw[eO i oi _ hi,eO p op _ hop]at h
 have hC:∀(q:Nat) (o:Oper) (s s':List AV),(∀x∈o.op.operands.toList,ev s' x=ev s x)->(cMs ms q o s/\cKs ks q o s)->(cMs ms q o s'/\cKs ks q o s'):=fun q o s s' hx hc=>⟨kg (fun k hh=>iJ hx hh) hc.1,kR (fun k hh=>iF hx hh) hc.2⟩
 refine pK hpf hv hap (hC p op) (hC i oi) (fun K σ' ho cp ci hh=>?_) h
 rcases hk with hk|hk
 ·obtain⟨v,own',g1,g2⟩:=vI hk.2 hh
  exact⟨v,own',[],id,g1,g2,fun s d u=>rfl,cp,fun vp hg=>Mj hk.1 hg⟩
 ·obtain⟨v,own',g1,g2,g3⟩:=Bj hk.2 hh
  exact⟨v,own',[],id,g1,g2,fun s d u=>rfl,cp,fun vp hg=>LF hk.1 (fun k=>by rw[g3 k,ho]) hg⟩
theorem kL{pf mf:List Nat}(ms ks:List (Nat×List Nat))(hm:P.follows .mixedOrders=true)(hΓ:OkG P Γ)(hpf:aQ Γ pf)(hmf:bF Γ mf){id:Nat}{ops:Array Oper}{Q:Exit->S->Prop}{σ:S}(T:DT)(hok:sR (swV pf mf ms ks ops) ops T=true)
  (h:chZ P Γ ops (cY ops ms ks) Q T σ):sem P (.region id ops true) Q σ:=ui hm hΓ (Ax hpf hmf) T hok h
end
def tw(ops:Array Oper)(L:List Nat):Nat->Nat->Nat->Bool
 | 0,i,p=>Region.waitsFor .any ops i p
 | n+1,i,p=>Region.waitsFor .any ops i p || L.any fun j=>Region.waitsFor .any ops i j && tw ops L n j p
theorem xQ{ops:Array Oper}{L:List Nat}{p i:Nat}:∀n,(∀q∈p :: L,Region.waitsFor .any ops i q=false)->tw ops L n i p=false
 | 0,h=>h p (by simp)
 | n+1,h=>by
  unfold tw
  rw[h p (by simp),Bool.false_or,List.any_eq_false]
  intro j hj
  rw[h j (by simp[hj])];simp
theorem HX{ops:Array Oper}{L L':List Nat}{p i:Nat}(hw:∀q∈p :: L,Region.waitsFor .any ops i q=false)(hL:∀j,j∈L'↔j∈L/\j≠i):∀n k,tw ops L n k p=true->k≠i->tw ops L' n k p=true
 | 0,k,h,_=>h
 | n+1,k,h,hk=>by
  unfold tw at h ⊢
  rcases Bool.or_eq_true_iff.1 h with h|h
  ·rw[h];rfl
  ·obtain⟨j,hj,hjj⟩:=List.any_eq_true.1 h
   rw[Bool.and_eq_true]at hjj
   have hne:j≠i:=by
    rintro rfl
    rw[xQ n hw]at hjj
    exact absurd hjj.2 (by decide)
   refine Bool.or_eq_true_iff.2 (.inr (List.any_eq_true.2 ⟨j,(hL j).2 ⟨hj,hne⟩,?_⟩))
   rw[hjj.1,HX hw hL n j hjj.2 hne];rfl
def okW(sw:Nat->Nat->Bool)(ops:Array Oper):DT->Option (List Nat)->Bool
 | .fin,none=>true
 | .stop,some _=>true
 | .one p t,none=>(t.ops.all fun i=>tw ops t.ops 4 i p || sw p i) && okW sw ops t none
 | .alt x t u,none=>okW sw ops t none && okW sw ops u (some (x :: t.ops)) && ((x :: t.ops).all fun i=>(x :: u.heads).contains i || (x :: t.ops).any fun j=>Region.waitsFor .any ops i j)
 | .alt x t u,some R=>okW sw ops t none && ot R (x :: t.ops) && okW sw ops u (some R)
 | _,_=>false
section
variable {P:Program} {Γ:Nat->a8}
theorem iQ{sw:Nat->Nat->Bool}{ops:Array Oper}{i:Nat}:∀(T:DT),
  (okW sw ops T none=true->T.ops.Nodup->i∈T.ops->(∀p∈T.ops,Region.waitsFor .any ops i p=false)->∃T',nK sw i T=some T'/\okW sw ops T' none=true/\(∀j,j∈T'.ops↔j∈T.ops/\j≠i)/\T'.ops.length+1=T.ops.length/\T'.ops.Nodup) /\
  (∀R,okW sw ops T (some R)=true->i∈T.heads->∃T',nK sw i T=some T'/\okW sw ops T' none=true/\(∀j,j∈T'.ops↔j∈R/\j≠i)/\T'.ops.length+1=R.length/\T'.ops.Nodup)
 | .fin=>⟨fun _ _ h=>by simp[DT.ops]at h,fun R h=>by simp[okW]at h⟩
 | .stop=>⟨fun h=>by simp[okW]at h,fun R _ h=>by simp[DT.heads]at h⟩
 | .one p t=>by
  refine⟨fun h hn hm hw=>?_,fun R h=>by simp[okW]at h⟩
  simp only[okW,Bool.and_eq_true]at h
  simp only[DT.ops]at hn hm hw
  obtain⟨n1,n2⟩:=List.nodup_cons.1 hn
  by_cases e:p=i
  ·subst e
   refine⟨t,by simp[nK],h.2,fun j=>?_,by simp[DT.ops],n2⟩
   simp only[DT.ops,List.mem_cons]
   constructor
   ·intro hj;exact⟨.inr hj,fun ej=>n1 (ej ▸ hj)⟩
   ·rintro ⟨hj|hj,hne⟩
    ·exact(hne hj).elim
    ·exact hj
  ·have hmt:i∈t.ops:=by
    rcases List.mem_cons.1 hm with h1|h1
    ·exact(e h1.symm).elim
    ·exact h1
   obtain⟨T',b1,b2,b3,b4,b5⟩:=(iQ (i:=i) t).1 h.2 n2 hmt (fun q hq=>hw q (by simp[hq]))
   have hno:∀n,tw ops t.ops n i p=false:=fun n=>xQ n fun q hq=>hw q hq
   have hsw:sw p i=true:=by
    have:=List.all_eq_true.1 h.1 i hmt
    rw[hno]at this
    simpa using this
   refine⟨.one p T',by simp[nK,e,hsw,b1],?_,fun j=>?_,by simp only[DT.ops,List.length_cons];omega,?_⟩
   ·simp only[okW,Bool.and_eq_true]
    refine⟨List.all_eq_true.2 fun j hj=>?_,b2⟩
    have hj':=(b3 j).1 hj
    have:=List.all_eq_true.1 h.1 j hj'.1
    rcases Bool.or_eq_true_iff.1 this with h4|h4
    ·rw[HX (fun q hq=>hw q hq) b3 _ j h4 hj'.2];rfl
    ·rw[h4];simp
   ·simp only[DT.ops,List.mem_cons,b3]
    constructor
    ·rintro (rfl|⟨h1,h2⟩)
     ·exact⟨.inl rfl,e⟩
     ·exact⟨.inr h1,h2⟩
    ·rintro ⟨h1|h1,h2⟩
     ·exact .inl h1
     ·exact .inr ⟨h1,h2⟩
   ·exact List.nodup_cons.2 ⟨fun hp=>n1 ((b3 p).1 hp).1,b5⟩
 | .alt x t u=>by
  refine⟨fun h hn hm hw=>?_,fun R h hm=>?_⟩
  ·simp only[okW,Bool.and_eq_true]at h
   obtain⟨⟨h1,h2⟩,h3⟩:=h
   simp only[DT.ops]at hn hm hw
   obtain⟨n1,n2⟩:=List.nodup_cons.1 hn
   have Ee:i∈x :: u.heads:=by
    have:=List.all_eq_true.1 h3 i hm
    rcases Bool.or_eq_true_iff.1 this with h4|h4
    ·simpa using h4
    ·obtain⟨j,hj,hwj⟩:=List.any_eq_true.1 h4
     rw[hw j hj]at hwj
     cases hwj
   by_cases e:x=i
   ·subst e
    refine⟨t,by simp[nK],h1,fun j=>?_,by simp[DT.ops],n2⟩
    simp only[DT.ops,List.mem_cons]
    constructor
    ·intro hj;exact⟨.inr hj,fun ej=>n1 (ej ▸ hj)⟩
    ·rintro ⟨hj|hj,hne⟩
     ·exact(hne hj).elim
     ·exact hj
   ·have hu:i∈u.heads:=by
     rcases List.mem_cons.1 Ee with h4|h4
     ·exact(e h4.symm).elim
     ·exact h4
    obtain⟨T',b1,b2,b3,b4,b5⟩:=(iQ (i:=i) u).2 (x :: t.ops) h2 hu
    exact⟨T',by simp[nK,e,b1],b2,fun j=>by simp only[DT.ops];exact b3 j,by simpa only[DT.ops] using b4,b5⟩
  ·simp only[okW,Bool.and_eq_true]at h
   obtain⟨⟨h1,h2⟩,h3⟩:=h
   obtain⟨s1,s2,s3⟩:=iI h2
   obtain⟨n1,n2⟩:=List.nodup_cons.1 s3
   by_cases e:x=i
   ·subst e
    refine⟨t,by simp[nK],h1,fun j=>?_,by simpa using s1.symm,n2⟩
    rw[s2 j]
    simp only[List.mem_cons]
    constructor
    ·intro hj;exact⟨.inr hj,fun ej=>n1 (ej ▸ hj)⟩
    ·rintro ⟨hj|hj,hne⟩
     ·exact(hne hj).elim
     ·exact hj
   ·have hu:i∈u.heads:=by
     rcases List.mem_cons.1 (show i∈x :: u.heads from hm) with h4|h4
     ·exact(e h4.symm).elim
     ·exact h4
    obtain⟨T',b1,b2,b3,b4,b5⟩:=(iQ (i:=i) u).2 R h3 hu
    exact⟨T',by simp[nK,e,b1],b2,b3,b4,b5⟩
theorem C4{sw:Nat->Nat->Bool}{ops:Array Oper}{T:DT}(h:okW sw ops T none=true)(he:T.ops=[]):T=.fin:=by
 cases T with
 | fin=>rfl
 | stop=>simp[okW]at h
 | one p t=>simp[DT.ops]at he
 | alt x t u=>simp[DT.ops]at he
theorem zm{sw:Nat->Nat->Bool}{C:Nat->List AV->Prop}{ops:Array Oper}(hΓ:OkG P Γ)(hS:mn P Γ ops C sw){Q:Exit->S->Prop}(gk:gx ops=true)(dk:e9 ops=true){c:Ctx}:∀(fuel:Nat) (T:DT) (listed:Array Bool) (σ:S) (a:Act) (w:World),listed.size=ops.size ->
  okW sw ops T none=true->T.ops.Nodup->(∀i,i<ops.size->(listed.getD i true=false↔i∈T.ops))->(∀i∈T.ops,i<ops.size)->T.ops.length<=fuel->St c σ a w->chZ P Γ ops C Q T σ->wpAnyIn (fen c.rd) 0 P .any ops (lift c Q) fuel listed a w:=by
 intro fuel
 induction fuel with
 | zero =>
  intro T listed σ a w hsz hok hnd dB hlt hf hst hch
  have he:T.ops=[]:=List.eq_nil_of_length_eq_zero (by omega)
  obtain rfl:=C4 hok he
  refine⟨?_,bn hst hch⟩
  rw[List.eq_nil_iff_forall_not_mem]
  intro i hi
  obtain⟨g1,o,g2,_⟩:=mem_ready.1 hi
  have hi':i<ops.size:=(Array.getElem?_eq_some_iff.1 g2).1
  have:=(dB i hi').1 g1
  rw[he]at this
  cases this
 | succ fuel ih =>
  intro T listed σ a w hsz hok hnd dB hlt hf hst hch
  refine⟨fun hr=>?_,fun i hi=>?_⟩
  ·have he:T.ops=[]:=by
    rw[List.eq_nil_iff_forall_not_mem]
    intro i hi
    have h1:=kw gk dk hsz hr i (hlt i hi)
    rw[(dB i (hlt i hi)).2 hi]at h1
    cases h1
   obtain rfl:=C4 hok he
   exact bn hst hch
  ·obtain⟨g1,o,g2,g3⟩:=mem_ready.1 hi
   have hi':i<ops.size:=(Array.getElem?_eq_some_iff.1 g2).1
   have him:=(dB i hi').1 g1
   obtain⟨T',b1,b2,b3,b4,b5⟩:=(iQ (i:=i) T).1 hok hnd him (fun p hp=>ft g2 g3 ((dB p (hlt p hp)).2 hp))
   have hb:=sg hS g2 T T' σ b1 hch
   have vo:∀j,j<ops.size->((listed.setIfInBounds i true).getD j true=false↔j∈T'.ops):=fun j hj=>by
    rw[b3 j]
    by_cases e:i=j
    ·subst e
     simp[hsz,hi']
    ·have e':j≠i:=fun h=>e h.symm
     have h1:(listed.setIfInBounds i true).getD j true=listed.getD j true:=by simp[Array.getElem?_setIfInBounds_ne e]
     rw[h1,dB j hj]
     simp[e']
   have eH:∀j∈T'.ops,j<ops.size:=fun j hj=>hlt j ((b3 j).1 hj).1
   unfold wpOpIn
   simp only[g2]
   rcases cf hΓ (Q:=lift c Q) hst hb.2 with⟨hw,hwp⟩|⟨hw,σ',bA,hK⟩
   ·rw[if_pos hw]
    refine Oper.wpIn_mono ?_ hwp
    rintro a' w' ⟨σ',bA,hK⟩
    exact ih T' _ σ' a' w' (by simp[hsz]) b2 b5 vo eH (by omega) bA hK
   ·rw[if_neg (by simp[hw])]
    exact⟨fun _ _=>trivial,ih T' _ σ' _ w (by simp[hsz]) b2 b5 vo eH (by omega) bA hK⟩
def rR(sw:Nat->Nat->Bool)(ops:Array Oper)(T:DT):Bool:=okW sw ops T none && gx ops && e9 ops && dC ops.size T.ops && fC T.ops
theorem uu{sw:Nat->Nat->Bool}{C:Nat->List AV->Prop}(hm:P.follows .mixedOrders=true)(hΓ:OkG P Γ){id:Nat}{ops:Array Oper}(hS:mn P Γ ops C sw){Q:Exit->S->Prop}{σ:S}(T:DT)(hok:rR sw ops T=true)
  (h:chZ P Γ ops C Q T σ):sem P (.region id ops true) Q σ:=by
 intro c a w hst
 refine wpIn_region_any hm ?_
 have bA:St c σ a { w with drawn:=w.drawn+1 }:=by
  obtain⟨hd,hn,F,φ,h2,h3,h4⟩:=hst
  refine⟨hd,hn,F,φ,⟨h2.sub,⟨h2.ext.os,h2.ext.tape,h2.ext.output,h2.ext.size,h2.ext.same,Nat.le_trans h2.ext.drn (Nat.le_succ _)⟩,h2.keep,h2.rest,h2.orig,h2.frsh⟩,h3.drew,?_⟩
  exact AV.Rs_mono (fun _ h=>h) eE (fun _ _ h=>h) _ _ h4
 simp only[rR,Bool.and_eq_true]at hok
 obtain⟨⟨⟨⟨h1,h2⟩,h3⟩,h4⟩,h5⟩:=hok
 simp only[dC,Bool.and_eq_true,List.all_eq_true,List.mem_range,List.contains_eq_mem,decide_eq_true_eq]at h4
 obtain⟨⟨m1,m2⟩,m3⟩:=h4
 refine zm hΓ hS h2 h3 ops.size T _ σ a _ (by simp) h1 (dP h5) (fun i hi=>?_) m3 (by omega) bA h
 simp[hi,m1 i hi]
theorem BF{pf mf:List Nat}(ms ks:List (Nat×List Nat))(hm:P.follows .mixedOrders=true)(hΓ:OkG P Γ)(hpf:aQ Γ pf)(hmf:bF Γ mf){id:Nat}{ops:Array Oper}{Q:Exit->S->Prop}{σ:S}(T:DT)(hok:rR (swV pf mf ms ks ops) ops T=true)
  (h:chZ P Γ ops (cY ops ms ks) Q T σ):sem P (.region id ops true) Q σ:=uu hm hΓ (Ax hpf hmf) T hok h
end
section
variable {P:Program} {F:Nat->Prop} {φ:Nat->Option Loc} {w:World}
theorem n9{α:Type}{k:Nat}:∀{M:List (List α)},(∀r∈M,r.length=k)->M.flatten.length=M.length*k
 | [],_=>by simp
 | r :: M,h=>by
  rw[List.flatten_cons,List.length_append,h r (.head _),n9 (fun r hr=>h r (.tail _ hr)),List.length_cons,Nat.add_mul,Nat.one_mul,Nat.add_comm]
theorem mP{α:Type}{k:Nat}:∀{M:List (List α)},(∀r∈M,r.length=k)->∀{i j:Nat} {r:List α},M[i]?=some r->j<k->M.flatten[i*k+j]?=r[j]?
 | [],_,i,j,r,h,_=>by simp at h
 | r0 :: M,hM,i,j,r,h,hj=>by
  have h0:=hM r0 (.head _)
  rw[List.flatten_cons]
  cases i with
  | zero =>
   simp only[List.getElem?_cons_zero,Option.some.injEq]at h
   subst h
   rw[Nat.zero_mul,Nat.zero_add,List.getElem?_append_left (by omega)]
  | succ i =>
   rw[List.getElem?_cons_succ]at h
   rw[List.getElem?_append_right (by rw[h0,Nat.add_mul];omega)]
   rw[← mP (fun r hr=>hM r (.tail _ hr)) h hj]
   congr 1
   rw[h0,Nat.add_mul];omega
theorem EH{α:Type}{k:Nat}{M:List (List α)}(hM:∀r∈M,r.length=k)(hk:0<k){p:Nat}(hp:p<M.length*k):∃r,M[p / k]?=some r/\M.flatten[p]?=r[p % k]?:=by
 have h1:p / k<M.length:=by rw[Nat.div_lt_iff_lt_mul hk];exact hp
 refine⟨M[p / k],List.getElem?_eq_getElem h1,?_⟩
 have:=mP hM (List.getElem?_eq_getElem h1) (Nat.mod_lt p hk)
 rw[← this]
 congr 1
 exact(Nat.div_add_mod' p k).symm
theorem IG{s:List AV}{own:List Obj}{n0:Nat}{mv:List Nat}(o:Nat){k:Nat}{M:List (List D)}(hk:0<k)(hM:∀r∈M,r.length=k)(ho:own[o]?=some (.row (some k) (M.map .agg))) :
  Le ⟨s,own,n0,mv⟩ ⟨s,own.set o (.tab k (M.flatten.map .dat)),n0,mv⟩:=by
 refine tC o ho ?_ (by intro F φ w h;simp only[ObjR]at h)
 intro F φ w L h
 simp only[ObjR,es]at h ⊢
 obtain⟨h1,h2⟩:=h
 refine⟨h1,?_⟩
 have hfl:=n9 hM
 rcases h2 with⟨h2,h3⟩|⟨h2,⟨arr,ty,h3,h4⟩,h5,h6⟩
 ·have:M=[]:=by simpa using h3
  subst this
  exact .inl ⟨h2,rfl⟩
 ·rw[h1,List.length_map]at h5
  have cN:∀p,w.cell? ⟨L.b,p,none⟩=arr[p]?:=fun p=>by simp[World.cell?,h3]
  refine .inr ⟨h2,arr,ty,h3,h4,by rw[List.length_map,hfl];exact h5,(arr.toList.drop L.base).take M.flatten.length,vK ?_,fun j hj=>?_⟩
  ·refine D.Cs_iff.2 ⟨by simp only[List.length_take,List.length_drop,Array.length_toList];omega,fun p d c hd hc=>?_⟩
   have hp:p<M.flatten.length:=by
    rcases Nat.lt_or_ge p M.flatten.length with h|h
    ·exact h
    ·rw[List.getElem?_eq_none h]at hd;cases hd
   rw[hfl]at hp
   obtain⟨r,g1,g2⟩:=EH hM hk hp
   obtain⟨cs,q1,q2,q3,q4⟩:=D.Cr_iff.1 h6 (p / k) (.agg r) (by rw[List.getElem?_map,g1];rfl)
   have:=q2 (p % k) (Nat.mod_lt p hk)
   rw[cN]at this
   simp only[es]at this
   rw[Nat.add_assoc,Nat.div_add_mod' p k]at this
   rw[List.getElem?_take,if_pos (by omega),List.getElem?_drop,Array.getElem?_toList,this]at hc
   simp only[D.C]at q4
   exact(D.Cs_iff.1 q4).2 (p % k) d c (by rw[← g2];exact hd) hc
  ·simp only[List.length_map]at hj
   rw[List.getElem?_take,if_pos hj,List.getElem?_drop,Array.getElem?_toList]
theorem FM{s:List AV}{own:List Obj}{n0:Nat}{mv:List Nat}(o:Nat){k:Nat}{M:List (List D)}(hk:0<k)(hM:∀r∈M,r.length=k)(ho:own[o]?=some (.tab k (M.flatten.map .dat))) :
  Le ⟨s,own,n0,mv⟩ ⟨s,own.set o (.row (some k) (M.map .agg)),n0,mv⟩:=by
 refine tC o ho ?_ (by intro F φ w h;simp only[ObjR]at h)
 intro F φ w L h
 simp only[ObjR,es]at h ⊢
 obtain⟨h1,h2⟩:=h
 refine⟨h1,?_⟩
 have hfl:=n9 hM
 rcases h2 with⟨h2,h3⟩|⟨h2,arr,ty,h3,h4,h5,vs,h6,h7⟩
 ·refine .inl ⟨h2,?_⟩
  have:M.flatten.length=0:=by have:=congrArg List.length h3;rwa [List.length_map]at this
  rw[hfl]at this
  have:M.length=0:=by
   rcases Nat.mul_eq_zero.1 this with h|h
   ·exact h
   ·omega
  rw[List.eq_nil_of_length_eq_zero this];rfl
 ·rw[List.length_map,hfl]at h5
  rw[List.length_map]at h7
  refine .inr ⟨h2,⟨arr,ty,h3,h4⟩,by rw[h1,List.length_map];exact h5,D.Cr_iff.2 fun i d hd=>?_⟩
  rw[List.getElem?_map,Option.map_eq_some_iff]at hd
  obtain⟨r,hr,rfl⟩:=hd
  have hi:i<M.length:=by
   rcases Nat.lt_or_ge i M.length with h|h
   ·exact h
   ·rw[List.getElem?_eq_none h]at hr;cases hr
  have hik:i*k+k<=M.length*k:=by
   have:=Nat.mul_le_mul_right k (show i+1<=M.length by omega)
   rw[Nat.add_mul]at this;omega
  obtain⟨q1,q2⟩:=D.Cs_iff.1 (nw h6)
  have hrl:=hM r (List.mem_of_getElem? hr)
  refine⟨(vs.drop (i*k)).take k,by simp only[List.length_take,List.length_drop,es];omega,fun j hj=>?_,rfl,?_⟩
  ·simp only[es]at hj
   have:w.cell? ⟨L.b,L.base+i*es (some k)+j,none⟩=arr[L.base+i*es (some k)+j]?:=by simp[World.cell?,h3]
   rw[this]
   simp only[es]
   rw[Nat.add_assoc,h7 (i*k+j) (by omega),List.getElem?_take,if_pos hj,List.getElem?_drop]
  ·simp only[D.C]
   refine D.Cs_iff.2 ⟨by simp only[List.length_take,List.length_drop];omega,fun j d c hd hc=>?_⟩
   have hj:j<k:=by
    rcases Nat.lt_or_ge j k with h|h
    ·exact h
    ·rw[List.getElem?_eq_none (by omega)]at hd;cases hd
   rw[List.getElem?_take,if_pos hj,List.getElem?_drop]at hc
   exact q2 (i*k+j) d c (by rw[mP hM hr hj];exact hd) hc
end
theorem lK{s:List AV}{own:List Obj}{n0:Nat}{mv:List Nat}(o:Nat){k:Nat}{cs:List AV}(M:List (List D))(hk:0<k)(hM:∀r∈M,r.length=k)(ho:own[o]?=some (.tab k cs))(hcs:cs=M.flatten.map .dat)(h0:n0<=o) :
  Le ⟨s,own,n0,mv⟩ ⟨AV.frzs o (some k) (M.map .agg) s,((own.set o (.row (some k) (M.map .agg))).map (Obj.frz o (some k) (M.map .agg))).set o .dead,n0,mv⟩:=by
 subst hcs
 have hlt:o<own.length:=by
  rcases Nat.lt_or_ge o own.length with h|h
  ·exact h
  ·rw[List.getElem?_eq_none h]at ho;cases ho
 refine Le.trans (FM o hk hM ho) ?_
 exact aq o (by rw[List.getElem?_set];simp[hlt]) h0
attribute [go_sem] AV.tcells jd
@[go_sem] theorem Vv {k n:Nat} {cs:List AV}:(∃k' cs',Obj.tab k cs=Obj.tab k' cs'/\n=k')=(n=k):=by
 apply propext;constructor
 ·rintro ⟨k',cs',h,rfl⟩;cases h;rfl
 ·rintro rfl;exact⟨_,_,rfl,rfl⟩
end Go.AM
namespace Go.AM
open Go
section
variable {P:Program} {Γ:Nat->a8}
def oQ(P:Program)(o:Oper)(K:S->Prop)(σ:S):Prop :=
 match o.guard,o.op with
 | none,.call c=>(match c.callee with
  | .value f=>(match ev σ.slots f with
   | .yld oo=>CO P oo (c.args.toList.map (ev σ.slots)) σ.own (gb o.dst K σ)
   | _=>False)
  | _=>False)
 | _,_=>False
theorem rG{c:Ctx}{all:Array Oper}{o:Oper}{K:S->Prop}{σ:S}{a:Act}{w:World}{Q:Exit->Act->World->Prop}(hst:St c σ a w)(h:oQ P o K σ) :
  Region.wanted o (yielded all a.tmps)=true/\o.wpIn (fen c.rd) 0 P a w (fun a' w'=>∃σ',St c σ' a' w'/\K σ') Q:=by
 obtain⟨hd,hn,F,φ,h2,h3,h4⟩:=hst
 obtain⟨dst,op,ty,pos,after,guard⟩:=o
 unfold oQ at h
 split at h
 ·rename_i call hg hop
  simp only at hg hop
  subst hg;subst hop
  obtain⟨callee,args,ts⟩:=call
  split at h
  ·rename_i f lX
   simp only at lX
   subst lX
   split at h
   ·rename_i oo hf
    refine⟨by simp[Region.wanted],?_⟩
    obtain⟨r,cs,b,own',mv,b9,hsz,hround,hK⟩:=h
    have hfR:=eX (F:=F) (φ:=φ) (w:=w) h3.glob h4 f
    rw[hf]at hfR
    simp only[AV.R]at hfR
    obtain⟨L,hL,hLn,hfe⟩:=hfR
    have hr0:=aR h3 hL
    rw[b9]at hr0
    simp only[ObjR]at hr0
    obtain⟨_,_,arr,_,hheap,_,hcs⟩:=hr0
    have c5:=tO (F:=F) (φ:=φ) (w:=w) h3.glob h4 args.toList
    have hal:=AV.Rs_length c5
    have hrd:=hround F φ w _ L arr.toArray h3 c5 hL hheap
    have bQ:(execOp a.eval { dst:=dst,op:=.call { callee:=.value f,args:=args,argTypes:=ts },type:=ty,pos:=pos,after:=after,guard:=none }).run P w=.ok (.round L.b r.fn ((r.params.zip (args.toList.map a.eval).toArray).foldl (fun tmps (t,a)=>tmps.setIfInBounds t a) arr.toArray) r.assign r.body) w:=by
     have e:args.map a.eval=(args.toList.map a.eval).toArray:=by
      apply Array.ext'
      simp
     have hy:=run_yield (P:=P) (w:=w) (args:=(args.toList.map a.eval).toArray) hheap (by rw[List.size_toArray,hsz];simp)
     simp only[execOp,resolve,Deferred.ofValue,hfe,pure_bind,invoke,Array.empty_append,e]
     exact hy
    unfold Oper.wpIn
    refine⟨fun _ _=>trivial,?_⟩
    rw[Oper.semAt_eq _ _ _ (fun d e=>by cases e),bQ,Oper.uponIn_round]
    refine⟨fun h=>Bool.noConfusion (show false=true from h),?_⟩
    have hci:RoundIn (fen c.rd) 0 P L.b r.fn _ r.assign r.body w _:=hrd
    refine hci.mono fun e w' hpost=>?_
    obtain⟨F',φ',rfl,ha⟩:=hpost
    exact⟨_,St.effect hd hn h2 h4 ha (bB.2 rfl),hK⟩
   ·exact h.elim
  ·exact h.elim
 ·exact h.elim
def lR(P:Program)(Γ:Nat->a8)(all:Array Oper)(Q:Exit->S->Prop):List Oper->S->Prop
 | [],σ=>Q .normal σ
 | o :: os,σ=>oQ P o (lR P Γ all Q os) σ∨opg P Γ all o (lR P Γ all Q os) σ
theorem fa{c:Ctx}(hΓ:OkG P Γ){all:Array Oper}{Q:Exit->S->Prop}:∀(l:List Oper) (σ:S) (a:Act) (w:World),St c σ a w->lR P Γ all Q l σ->wpListIn (fen c.rd) 0 P all (lift c Q) l a w
 | [],σ,a,w,hst,h=>bn hst h
 | o :: os,σ,a,w,hst,h=>by
  simp only[lR]at h
  unfold wpListIn
  rcases h with h|h
  ·obtain⟨hw,hwp⟩:=rG (all:=all) (Q:=lift c Q) hst h
   rw[if_pos hw]
   refine Oper.wpIn_mono ?_ hwp
   rintro a' w' ⟨σ',bA,hK⟩
   exact fa hΓ os σ' a' w' bA hK
  ·rcases cf hΓ (Q:=lift c Q) hst h with⟨hw,hwp⟩|⟨hw,σ',bA,hK⟩
   ·rw[if_pos hw]
    refine Oper.wpIn_mono ?_ hwp
    rintro a' w' ⟨σ',bA,hK⟩
    exact fa hΓ os σ' a' w' bA hK
   ·rw[if_neg (by simp[hw])]
    exact⟨fun _ _=>trivial,fa hΓ os σ' _ w bA hK⟩
theorem p5(hΓ:OkG P Γ){id:Nat}{ops:Array Oper}{Q:Exit->S->Prop}{σ:S}(h:lR P Γ ops Q ops.toList σ):sem P (.region id ops false) Q σ :=
 fun c a w hst=>wpIn_region_list (fa hΓ ops.toList σ a w hst h)
end
section
variable {P:Program} {Γ:Nat->a8}
def vj:List Tmp->List AV->List AV->List AV
 | t :: ts,a :: as,s=>vj ts as (s.set t a)
 | _,_,s=>s
theorem B6{F:Nat->Prop}{φ:Nat->Option Loc}{w:World}:∀(ts:List Tmp) (as:List AV) (vs:List Value) (s:List AV) (arr:Array Value),AV.Rs F φ w as vs->AV.Rs F φ w s arr.toList ->
  AV.Rs F φ w (vj ts as s) ((ts.zip vs).foldl (fun tmps (x:Tmp×Value)=>tmps.setIfInBounds x.1 x.2) arr).toList
 | [],as,vs,s,arr,_,h=>by simpa only[vj,List.zip_nil_left,List.foldl_nil] using h
 | t :: ts,[],vs,s,arr,ha,h=>by
  simp only[AV.Rs]at ha
  subst ha
  simpa only[vj,List.zip_nil_right,List.foldl_nil] using h
 | t :: ts,a :: as,vs,s,arr,ha,h=>by
  simp only[AV.Rs]at ha
  obtain⟨v,vs',rfl,h1,h2⟩:=ha
  simp only[vj,List.zip_cons_cons,List.foldl_cons]
  exact B6 ts as vs' _ _ h2 (by rw[Array.toList_setIfInBounds];exact AV.Rs_set h t a v h1)
def uo(b:Bool)(ownB:List Obj)(mvB:List Nat)(pend:Option Code):Exit->S->Prop:=fun e s =>
 (match e with
  | .normal=>b=true/\pend=none
  | .ret=>b=false/\pend=some .ret
  | .exit i=>b=false/\pend=some (.exit i)
  | .goto t=>b=false/\pend=some (.goto t)
  | _=>False)/\Le ⟨[],s.own,s.n0,s.mv⟩ ⟨[],ownB,s.n0,mvB⟩
theorem mY{w:World}{l:Nat}{r:Loop}{pend:Option Code}(h:w.heap[l]?=some (.loop r)) :
  (Instr.endRound l pend).run P w=.ok (.bool pend.isNone) (w.putObj l (.loop { r with state:=if pend.isNone then .ready else .done,pending:=pend })):=run_endRound pend h
theorem EL{o:Nat}{r:Loop}{cs args:List AV}{own:List Obj}{b:Bool}{ownB:List Obj}{mvB:List Nat}{pend:Option Code}(b9:own.getD o .dead=.lp r cs)(hst:r.state=.ready)(hpd:r.pending=none)
  (hol:o<ownB.length)
  (h:sem P r.assign (fun e s=>e=.normal/\s.mv=[]/\sem P r.body (uo b ownB mvB pend) s) ⟨vj r.params.toList (killAll [o] args) (killAll [o] cs),(own.map (Obj.killAll [o])).set o .dead,own.length,[]⟩) :
  xl P o r args own b ((ownB.map (Obj.killAll [o])).set o (.lp (if b then r else { r with state:=.done,pending:=pend }) (killAll mvB cs))) mvB:=by
 intro F φ w vs L arr hc hvs ho hheap
 have dg:=aR hc ho
 rw[b9]at dg
 simp only[ObjR]at dg
 obtain⟨hLn,hLb,arr',_,hheap',_,hcs⟩:=dg
 have RP:arr'.toArray=arr:=by
  rw[hheap]at hheap'
  simp only[Option.some.injEq,Obj.loop.injEq,Loop.mk.injEq]at hheap'
  exact hheap'.2.2.2.1.symm
 have aam:AV.Rs F φ w cs arr.toList:=by rw[← RP];simpa using hcs
 have hlt:L.b<w.heap.size:=(hc.live o L ho hLn).2
 have pt:o<own.length:=by
  rcases Nat.lt_or_ge o own.length with h|h
  ·exact h
  ·rw[hc.out o h]at ho;cases ho
 let φ0:Nat->Option Loc:=fun i=>if i=o then none else φ i
 have hφ0:∀i L',φ0 i=some L'->i≠o/\φ i=some L':=fun i L' h=>by
  simp only[φ0]at h
  split at h
  ·cases h
  ·rename_i hne;exact⟨hne,h⟩
 have hφk:∀i L',i∉[o]->φ i=some L'->φ0 i=some L':=fun i L' h1 h2=>by
  simp only[φ0]
  rw[if_neg (by simpa using h1)];exact h2
 let c:Ctx:=⟨F,w,φ0,own.length,some L.b,[]⟩
 have third:∀i L',φ i=some L'->L'.nil=false->i≠o->L'.b≠L.b:=fun i L' h1 h2 hne=>hc.inj i o L' L h1 ho h2 hLn hne
 have cok:c.ok:=by
  refine⟨fun l hl=>?_,fun _ h=>(by cases h),List.nodup_nil,fun i L' h1 h2=>(hc.live i L' (hφ0 i L' h1).2 h2).2⟩
  cases hl
  exact⟨⟨hlt,(hc.live o L ho hLn).1,fun i L' h1 h2=>third i L' (hφ0 i L' h1).2 h2 (hφ0 i L' h1).1⟩,_,hheap⟩
 have hc0:Conc F φ0 ((own.map (Obj.killAll [o])).set o .dead) w:=by
  refine⟨hc.fb,fun i L' h1 h2=>hc.live i L' (hφ0 i L' h1).2 h2,fun i j Li Lj h1 h2 n1 n2 hne=>hc.inj i j Li Lj (hφ0 i Li h1).2 (hφ0 j Lj h2).2 n1 n2 hne,fun i obj hi=>?_,fun i hi=>?_,hc.glob⟩
  ·rw[List.getElem?_set]at hi
   by_cases e:o=i
   ·subst e
    simp only[if_true,List.length_map,pt,Option.some.injEq]at hi
    subst hi
    simp only[φ0,if_true,ObjR]
   ·simp only[e,if_false,List.getElem?_map,Option.map_eq_some_iff]at hi
    obtain⟨ob,hob,rfl⟩:=hi
    have e':φ0 i=φ i:=by simp only[φ0];rw[if_neg (fun h=>e h.symm)]
    rw[e']
    exact fN (fun _ h=>h) (Same.refl F w) hφk (fun _ _ _=>rfl) (hc.rep i ob hob)
  ·simp only[List.length_set,List.length_map]at hi
   simp only[φ0]
   split
   ·rfl
   ·exact hc.out i hi
 have hs0:AV.Rs F φ0 w (vj r.params.toList (killAll [o] args) (killAll [o] cs)) ((r.params.zip vs.toArray).foldl (fun tmps (t,a)=>tmps.setIfInBounds t a) arr).toList:=by
  have h1:=B6 (F:=F) (φ:=φ0) (w:=w) r.params.toList (killAll [o] args) vs (killAll [o] cs) arr (cU (fun _ h=>h) (Same.refl F w) [o] hφk hvs) (cU (fun _ h=>h) (Same.refl F w) [o] hφk aam)
  have e:(r.params.zip vs.toArray)=(r.params.toList.zip vs).toArray:=by
   apply Array.ext'
   simp
  rw[e,List.foldl_toArray]
  exact h1
 have RQ:St c ⟨vj r.params.toList (killAll [o] args) (killAll [o] cs),(own.map (Obj.killAll [o])).set o .dead,own.length,[]⟩ { tmps:=(r.params.zip vs.toArray).foldl (fun tmps (t,a)=>tmps.setIfInBounds t a) arr,defers:=[] } w :=
  ⟨⟨rfl,cok⟩,rfl,F,φ0,⟨fun _ h=>h,Ext.refl F w,fun _ _ _ _ h=>h,fun _ _ _=>rfl,fun i L' h1 h2=>.inr ⟨i,L',h1,h2,rfl⟩,fun b hb=>.inl hb⟩,hc0,hs0⟩
 refine roundIn_of_wpIn trivial ?_
 refine wpIn_mono (h c _ w RQ) ?_
 rintro e a₁ w₁ ⟨c1,σ1,hx1,hst1,he,hmv1,hbody⟩
 subst he
 obtain⟨⟨hd1,hok1⟩,hn1,F1,φ1,s1,k1,t1⟩:=hst1
 rw[hmv1]at s1
 have s1c:=hx1.since _ _ _ _ s1
 obtain⟨q1,q2,q3,q4⟩:=s1c.third (cok.rnd _ rfl).1
 have hh1:w₁.heap[L.b]?=some (.loop { r with tmps:=arr }):=q4.trans hheap
 refine⟨_,run_beginRound hh1 hst,?_⟩
 generalize hw2:w₁.putObj L.b (.loop { { r with tmps:=arr } with state:=.busy })=w₂
 have off2:∀b,b≠L.b->w₂.heap[b]?=w₁.heap[b]?:=fun b hb=>by rw[← hw2];exact World.putObj_heap_other hb
 have size2:w₂.heap.size=w₁.heap.size:=by rw[← hw2];exact World.putObj_size
 have same2:Same F1 w₁ w₂:=fun b hb=>off2 b fun e=>q2 (e ▸ hb)
 have hh2:w₂.heap[L.b]?=some (.loop { { r with tmps:=arr } with state:=.busy }):=by rw[← hw2];exact World.putObj_heap_same q1
 have own2:∀i L',φ1 i=some L'->L'.nil=false->w₂.heap[L'.b]?=w₁.heap[L'.b]?:=fun i L' h1 h2=>off2 _ (q3 i L' h1 h2)
 let c2:Ctx:=⟨F1,w₂,φ1,own.length,some L.b,a₁.defers⟩
 have l2:c2.third L.b:=⟨by show L.b<w₂.heap.size;omega,q2,q3⟩
 have cok2:c2.ok:=by
  refine⟨fun l hl=>?_,fun d hd=>?_,?_,fun i L' h1 h2=>(show L'.b<w₂.heap.size from by rw[size2];exact(k1.live i L' h1 h2).2)⟩
  ·cases hl;exact⟨l2,_,hh2⟩
  ·have hd':d∈c1.ds:=by rw[← hd1];exact hd
   obtain⟨b',e1,e2,e3⟩:=hok1.mks d hd'
   obtain⟨z1,z2,z3,z4⟩:=s1.third e2
   have hne:b'≠L.b:=fun e=>by have h9:=hh1;rw[← e,z4,e3]at h9;cases h9
   exact⟨b',e1,⟨by show b'<w₂.heap.size;omega,z2,z3⟩,(off2 b' hne).trans (z4.trans e3)⟩
  ·show a₁.defers.Nodup
   rw[hd1];exact hok1.nod
 have ab9:St c2 σ1 a₁ w₂:=⟨⟨rfl,cok2⟩,hn1.trans hx1.n0,F1,φ1,by rw[hmv1];exact⟨fun _ h=>h,Ext.refl _ _,fun _ _ _ _ h=>h,fun _ _ _=>rfl,fun i L' h1 h2=>.inr ⟨i,L',h1,h2,rfl⟩,fun b hb=>.inl hb⟩,
  k1.beside (by omega) same2 own2,AV.Rs_mono (fun _ h=>h) same2 (fun _ _ h=>h) _ _ t1⟩
 refine wpIn_mono (hbody c2 _ w₂ ab9) ?_
 rintro e a₃ w₃ ⟨c3,σ3,hx3,hst3,he,hle⟩
 have Yu:St c3 ⟨[],σ3.own,σ3.n0,σ3.mv⟩ { tmps:=#[],defers:=a₃.defers } w₃:=by
  obtain⟨hd,hn,F3,φ3,x1,x2,x3⟩:=hst3
  exact⟨hd,hn,F3,φ3,x1,x2,by simp only[AV.Rs]⟩
 obtain⟨⟨hd3,hok3⟩,hn3,F3,φ3,s3,k3,_⟩:=hle c3 _ w₃ Yu
 simp only at hn3 s3 k3
 have s3c:=hx3.since _ _ _ _ s3
 obtain⟨p1,p2,p3,p4⟩:=s3c.third l2
 have hh3:w₃.heap[L.b]?=some (.loop { { r with tmps:=arr } with state:=.busy }):=p4.trans hh2
 have fin:∀(st:LoopState) (pd:Option Code),∃F' φ',After F φ w F' φ' ((ownB.map (Obj.killAll [o])).set o (.lp { r with state:=st,pending:=pd } (killAll mvB cs))) (w₃.putObj L.b (.loop { { { r with tmps:=arr } with state:=.busy } with state:=st,pending:=pd })) mvB:=by
  intro st pd
  generalize hw4:w₃.putObj L.b (.loop { { { r with tmps:=arr } with state:=.busy } with state:=st,pending:=pd })=w₄
  have off4:∀b,b≠L.b->w₄.heap[b]?=w₃.heap[b]?:=fun b hb=>by rw[← hw4];exact World.putObj_heap_other hb
  have size4:w₄.heap.size=w₃.heap.size:=by rw[← hw4];exact World.putObj_size
  have hh4:w₄.heap[L.b]?=some (.loop { r with tmps:=arr,state:=st,pending:=pd }):=by rw[← hw4];exact World.putObj_heap_same p1
  have same4:Same F3 w₃ w₄:=fun b hb=>off4 b fun e=>p2 (e ▸ hb)
  have os4:w₄.os=w₃.os/\w₄.tape=w₃.tape/\w₄.output=w₃.output:=by rw[← hw4];exact⟨rfl,rfl,rfl⟩
  have dr4:w₃.drawn<=w₄.drawn:=by rw[← hw4];exact Nat.le_refl _
  have dr2:w₁.drawn<=w₂.drawn:=by rw[← hw2];exact Nat.le_refl _
  have os2:w₂.os=w₁.os/\w₂.tape=w₁.tape/\w₂.output=w₁.output:=by rw[← hw2];exact⟨rfl,rfl,rfl⟩
  let φ4:Nat->Option Loc:=fun i=>if i=o then some L else φ3 i
  have hφ4:∀i L',i∉[o]->φ3 i=some L'->φ4 i=some L':=fun i L' h1 h2=>by
   simp only[φ4]
   rw[if_neg (by simpa using h1)];exact h2
  have h04:φ4 o=some L:=by simp only[φ4,if_true]
  have F13:∀b,F1 b->F3 b:=s3c.sub
  have F03:∀b,F b->F3 b:=fun b hb=>F13 b (s1c.sub b hb)
  have same04:Same F w w₄:=fun b hb=>by
   rw[same4 b (F03 b hb),s3c.ext.same b (s1c.sub b hb),same2 b (s1c.sub b hb),s1c.ext.same b hb]
  have size04:w.heap.size<=w₄.heap.size:=by
   have h1:=s1c.ext.size
   have h2:=s3c.ext.size
   have h1':w.heap.size<=w₁.heap.size:=h1
   have h2':w₂.heap.size<=w₃.heap.size:=h2
   omega
  have keep:∀i L',i∉mvB->φ i=some L'->φ4 i=some L':=fun i L' h1 h2=>by
   by_cases e:i=o
   ·subst e;rw[ho]at h2;cases h2;exact h04
   ·have hil:i<own.length:=by
     rcases Nat.lt_or_ge i own.length with h|h
     ·exact h
     ·rw[hc.out i h]at h2;cases h2
    refine hφ4 i L' (by simpa using e) (s3c.keep i L' hil h1 (s1c.keep i L' hil (by simp) (hφk i L' (by simpa using e) h2)))
  have orig3:∀i L',φ3 i=some L'->L'.nil=false->w.heap.size<=L'.b∨∃j Lj,φ j=some Lj/\Lj.nil=false/\Lj.b=L'.b:=fun i L' h1 h2=>by
   rcases s3c.orig i L' h1 h2 with h|⟨j,Lj,g1,g2,g3⟩
   ·have h':w₂.heap.size<=L'.b:=h
    have:w.heap.size<=w₁.heap.size:=s1c.ext.size
    exact .inl (by omega)
   ·rcases s1c.orig j Lj g1 g2 with h|⟨j',Lj',g4,g5,g6⟩
    ·exact .inl (by rw[← g3];exact h)
    ·exact .inr ⟨j',Lj',(hφ0 _ _ g4).2,g5,g6.trans g3⟩
  refine⟨F3,φ4,F03,⟨os4.1.trans (s3c.ext.os.trans (os2.1.trans s1c.ext.os)),os4.2.1.trans (s3c.ext.tape.trans (os2.2.1.trans s1c.ext.tape)),os4.2.2.trans (s3c.ext.output.trans (os2.2.2.trans s1c.ext.output)),size04,same04,Nat.le_trans s1c.ext.drn (Nat.le_trans dr2 (Nat.le_trans s3c.ext.drn dr4))⟩,?_,keep,?_,?_,?_⟩
  ·
   refine⟨fun b hb=>by rw[size4];exact k3.fb b hb,fun i L' h1 h2=>?_,fun i j Li Lj h1 h2 n1 n2 hne=>?_,fun i obj hi=>?_,fun i hi=>?_,k3.glob.mono (fun _ h=>h) same4⟩
   ·simp only[φ4]at h1
    split at h1
    ·cases h1;exact⟨p2,by omega⟩
    ·exact⟨(k3.live i L' h1 h2).1,by rw[size4];exact(k3.live i L' h1 h2).2⟩
   ·simp only[φ4]at h1 h2
    split at h1 <;> split at h2
    ·rename_i e1 e2;exact absurd (e1.trans e2.symm) hne
    ·cases h1;exact fun e=>p3 j Lj h2 n2 e.symm
    ·cases h2;exact p3 i Li h1 n1
    ·exact k3.inj i j Li Lj h1 h2 n1 n2 hne
   ·rw[List.getElem?_set]at hi
    by_cases e:o=i
    ·subst e
     simp only[if_true,List.length_map,hol,Option.some.injEq]at hi
     subst hi
     rw[h04]
     simp only[ObjR]
     refine⟨hLn,hLb,arr.toList,(),?_,trivial,cU (F:=F) (w:=w) F03 same04 mvB keep aam⟩
     rw[hh4]
    ·simp only[e,if_false,List.getElem?_map,Option.map_eq_some_iff]at hi
     obtain⟨ob,hob,rfl⟩:=hi
     have e':φ4 i=φ3 i:=by simp only[φ4];rw[if_neg (fun h=>e h.symm)]
     rw[e']
     exact fN (fun _ h=>h) same4 hφ4 (fun L' h1 h2=>off4 _ (p3 i L' h1 h2)) (k3.rep i ob hob)
   ·simp only[List.length_set,List.length_map]at hi
    simp only[φ4]
    rw[if_neg (by omega)]
    exact k3.out i hi
  ·
   intro b hb cO
   have hbl:b≠L.b:=fun e=>cO o L ho hLn e.symm
   have h1:w₁.heap[b]?=w.heap[b]?:=s1c.rest b hb fun i L' g1 g2=>cO i L' (hφ0 i L' g1).2 g2
   have hb2:b<w₂.heap.size:=by
    have:w.heap.size<=w₁.heap.size:=s1c.ext.size
    omega
   have h3:w₃.heap[b]?=w₂.heap[b]?:=s3c.rest b hb2 fun i L' g1 g2 e=>by
    rcases s1c.orig i L' g1 g2 with g|⟨j,Lj,g4,g5,g6⟩
    ·have g':w.heap.size<=L'.b:=g
     omega
    ·exact cO j Lj (hφ0 _ _ g4).2 g5 (g6.trans e)
   rw[off4 b hbl,h3,off2 b hbl,h1]
  ·
   intro i L' h1 h2
   simp only[φ4]at h1
   split at h1
   ·cases h1;exact .inr ⟨o,L,ho,hLn,rfl⟩
   ·exact orig3 i L' h1 h2
  ·
   intro b hb
   rcases s3c.frsh b hb with h|h|⟨i,L',g1,g2,g3⟩
   ·rcases s1c.frsh b h with h|h|⟨i,L',g1,g2,g3⟩
    ·exact .inl h
    ·exact .inr (.inl h)
    ·exact .inr (.inr ⟨i,L',(hφ0 _ _ g1).2,g2,g3⟩)
   ·have h':w₂.heap.size<=b:=h
    have:w.heap.size<=w₁.heap.size:=s1c.ext.size
    exact .inr (.inl (by omega))
   ·rcases s1c.orig i L' g1 g2 with g|⟨j,Lj,g4,g5,g6⟩
    ·exact .inr (.inl (by rw[← g3];exact g))
    ·exact .inr (.inr ⟨j,Lj,(hφ0 _ _ g4).2,g5,g6.trans g3⟩)
 cases e with
 | normal =>
  obtain⟨rfl,rfl⟩:=he
  refine⟨_,_,mY hh3,?_⟩
  obtain⟨F',φ',hA⟩:=fin .ready none
  refine⟨F',φ',rfl,?_⟩
  have e:({ r with state:=.ready,pending:=none }:Loop)=r:=by cases r;simp only at hst hpd;subst hst;subst hpd;rfl
  rw[e]at hA
  exact hA
 | ret =>
  obtain⟨rfl,rfl⟩:=he
  obtain⟨F',φ',hA⟩:=fin .done (some .ret)
  exact⟨_,_,mY hh3,F',φ',rfl,hA⟩
 | exit i =>
  obtain⟨rfl,rfl⟩:=he
  obtain⟨F',φ',hA⟩:=fin .done (some (.exit i))
  exact⟨_,_,mY hh3,F',φ',rfl,hA⟩
 | goto t =>
  obtain⟨rfl,rfl⟩:=he
  obtain⟨F',φ',hA⟩:=fin .done (some (.goto t))
  exact⟨_,_,mY hh3,F',φ',rfl,hA⟩
 | _=>exact he.elim
end
section
variable {P:Program} {Γ:Nat->a8}
def lO(fn dfr:Nat)(ps:Array Tmp)(assign body:Code):Loop:={ state:=.ready,pending:=none,fn:=fn,tmps:=#[],params:=ps,assign:=assign,body:=body,defers:=dfr }
def LW(Q:Exit->S->Prop):Option Code->S->Prop
 | none,s=>Q .normal s
 | some .ret,s=>Q .ret s
 | some (.exit i),s=>Q (.exit i) s
 | some (.goto t),s=>Q (.goto t) s
 | _,_=>False
def Q4(Γ:Nat->a8)(f:Nat)(caps:List AV)(ps:Array Tmp)(assign body:Code)(Q:Exit->S->Prop)(σ:S):Prop :=
 ∀fn dfr,∃v own' mv r' cs',Γ f (.yld σ.own.length :: caps) (σ.own++[.lp (lO fn dfr ps assign body) σ.slots]) v own' mv /\
  own'.getD σ.own.length .dead=.lp r' cs'/\r'.state≠.busy/\σ.own.length<own'.length/\σ.own.length∉mv /\
  LW Q r'.pending ⟨killAll (σ.own.length :: mv) σ.slots,(own'.map (Obj.killAll [σ.own.length])).set σ.own.length .dead,σ.n0,bW σ.n0 σ.mv mv⟩
theorem K5{c:Ctx}{mv:List Nat}{F:Nat->Prop}{φ:Nat->Option Loc}{w:World}{D:Nat}(hs:Since c mv F φ w)(hr:c.rd=none)(hok:c.ok)(hD:D<w.heap.size)(hD0:c.w0.heap.size<=D)(hDF:¬F D)(hDo:∀o L,φ o=some L->L.nil=false->L.b≠D)(Yv:∀o L,φ o=some L->L.nil=false->L.b<w.heap.size)
  (hh:w.heap[D]?=some (.deferred (some []))) :
  ∃c',CExt c c'/\c'.ok/\c'.ds=lL D :: c.ds/\Since c' mv F φ w:=by
 let ψ:Nat->Option Loc:=fun i=>if i<c.n0 then c.φ0 i else φ (i - c.n0)
 have hψ:∀i L,ψ i=some L->(i<c.n0/\c.φ0 i=some L)∨φ (i - c.n0)=some L:=fun i L h=>by
  simp only[ψ]at h
  split at h
  ·rename_i h1;exact .inl ⟨h1,h⟩
  ·exact .inr h
 have hφψ:∀i L,φ i=some L->ψ (i+c.n0)=some L:=fun i L h=>by
  simp only[ψ]
  rw[if_neg (by omega),Nat.add_sub_cancel];exact h
 let c':Ctx:=⟨F,w,ψ,c.n0,none,lL D :: c.ds⟩
 have RR:Since c' mv F φ w:=⟨fun _ h=>h,Ext.refl _ _,fun o L ho hm h=>by
   have h':ψ o=some L:=h
   simp only[ψ]at h'
   have ho':o<c.n0:=ho
   rw[if_pos ho']at h'
   exact hs.keep o L ho' hm h',fun _ _ _=>rfl,fun o L h hn=>.inr ⟨_,L,hφψ o L h,hn,rfl⟩,fun b h=>.inl h⟩
 have blk:∀i L,ψ i=some L->L.nil=false->L.b≠D:=fun i L h hn=>by
  rcases hψ i L h with⟨_,h1⟩|h1
  ·have:=hok.old i L h1 hn
   omega
  ·exact hDo _ L h1 hn
 have blt:∀i L,ψ i=some L->L.nil=false->L.b<w.heap.size:=fun i L h hn=>by
  rcases hψ i L h with⟨_,h1⟩|h1
  ·exact Nat.lt_of_lt_of_le (hok.old i L h1 hn) hs.ext.size
  ·exact Yv _ L h1 hn
 have third':∀b,c.third b->c'.third b:=fun b hb=>by
  obtain⟨q1,q2,q3,q4⟩:=hs.third hb
  refine⟨q1,q2,fun i L h hn=>?_⟩
  rcases hψ i L h with⟨_,h1⟩|h1
  ·exact hb.2.2 i L h1 hn
  ·exact q3 _ L h1 hn
 have aba:lL D∉c.ds:=fun hm=>by
  obtain⟨b,e,h1,h2⟩:=hok.mks _ hm
  have e':D=b:=by simpa [lL] using e
  subst e'
  have:=h1.1
  omega
 refine⟨c',⟨hr.symm,rfl,hs.ext.size,fun mv' F' φ' w' h=>?_,fun d hd=>?_⟩,⟨fun l hl=>(by cases hl),fun d hd=>?_,?_,blt⟩,rfl,RR⟩
 ·refine⟨fun b hb=>h.sub b (hs.sub b hb),hs.ext.trans (h.ext.mono fun b hb=>hs.sub b hb),fun o L ho hm h0=>?_,fun b hb cO=>?_,fun o L' ho hn=>?_,fun b hb=>?_⟩
  ·refine h.keep o L ho hm ?_
   show ψ o=some L
   simp only[ψ]
   rw[if_pos ho];exact h0
  ·have hb2:b<w.heap.size:=Nat.lt_of_lt_of_le hb hs.ext.size
   rw[h.rest b hb2 (fun i L h1 hn e=>?_)]
   ·exact hs.rest b hb cO
   ·rcases hψ i L h1 with⟨_,h2⟩|h2
    ·exact cO i L h2 hn e
    ·rcases hs.orig _ L h2 hn with h3|⟨o',L',g1,g2,g3⟩
     ·omega
     ·exact cO o' L' g1 g2 (g3.trans e)
  ·rcases h.orig o L' ho hn with h1|⟨i,L,h1,h2,h3⟩
   ·exact .inl (Nat.le_trans hs.ext.size h1)
   ·rcases hψ i L h1 with⟨_,h4⟩|h4
    ·exact .inr ⟨i,L,h4,h2,h3⟩
    ·rcases hs.orig _ L h4 h2 with h5|⟨o',L2,g1,g2,g3⟩
     ·exact .inl (by rw[← h3];exact h5)
     ·exact .inr ⟨o',L2,g1,g2,g3.trans h3⟩
  ·rcases h.frsh b hb with h1|h1|⟨i,L,h1,h2,h3⟩
   ·exact hs.frsh b h1
   ·exact .inr (.inl (Nat.le_trans hs.ext.size h1))
   ·rcases hψ i L h1 with⟨_,h4⟩|h4
    ·exact .inr (.inr ⟨i,L,h4,h2,h3⟩)
    ·rcases hs.orig _ L h4 h2 with h5|⟨o',L2,g1,g2,g3⟩
     ·exact .inr (.inl (by rw[← h3];exact h5))
     ·exact .inr (.inr ⟨o',L2,g1,g2,g3.trans h3⟩)
 ·rcases List.mem_cons.1 hd with rfl|hd
  ·exact .inr ⟨D,rfl,hD0⟩
  ·exact .inl hd
 ·rcases List.mem_cons.1 hd with rfl|hd
  ·exact⟨D,rfl,⟨hD,hDF,blk⟩,hh⟩
  ·obtain⟨b,e,h1,h2⟩:=hok.mks d hd
   exact⟨b,e,third' b h1,(hs.third h1).2.2.2.trans h2⟩
 ·exact List.nodup_cons.2 ⟨aba,hok.nod⟩
theorem F6{c:Ctx}{mv:List Nat}{F:Nat->Prop}{φ:Nat->Option Loc}{w:World}(hs:Since c mv F φ w)(hok:c.ok)(fn:Nat)(tmps:Array Value)(ps:Array Tmp)(assign body:Code) :
  ∃l mark w₁ dfr,(Instr.enterLoop fn tmps ps assign body c.rd).run P w=.ok (l,mark) w₁/\w.heap.size<=l/\l<w₁.heap.size/\w₁.heap[l]?=some (.loop { lO fn dfr ps assign body with tmps:=tmps }) /\
   (∀b,b<w.heap.size->w₁.heap[b]?=w.heap[b]?)/\w.heap.size<=w₁.heap.size/\w₁.os=w.os/\w₁.tape=w.tape/\(w₁.output=w.output/\w.drawn<=w₁.drawn) /\
   ((c.rd≠none/\mark=[])∨(c.rd=none/\∃D,mark=[lL D]/\w.heap.size<=D/\D<w₁.heap.size/\D≠l/\w₁.heap[D]?=some (.deferred (some [])))):=by
 cases hr:c.rd with
 | some l0 =>
  obtain⟨h1,r0,h2⟩:=hok.rnd l0 hr
  have hh:w.heap[l0]?=some (.loop r0):=(hs.third h1).2.2.2.trans h2
  refine⟨w.heap.size,[],_,r0.defers,run_enterLoop_inner hh fn tmps ps assign body,Nat.le_refl _,by rw[World.size_alloc];omega,World.alloc_heap_new w _,fun b hb=>heap_alloc_old w _ hb,by rw[World.size_alloc];omega,rfl,rfl,⟨rfl,Nat.le_refl _⟩,.inl ⟨by simp,rfl⟩⟩
 | none =>
  refine⟨w.heap.size+1,[lL w.heap.size],_,w.heap.size,run_enterLoop_outer fn tmps ps assign body,by omega,by rw[World.size_alloc,World.size_alloc];omega,?_,fun b hb=>?_,by rw[World.size_alloc,World.size_alloc];omega,rfl,rfl,⟨rfl,Nat.le_refl _⟩,
   .inr ⟨rfl,w.heap.size,rfl,Nat.le_refl _,by rw[World.size_alloc,World.size_alloc];omega,by omega,?_⟩⟩
  ·have:=World.alloc_heap_new (w.alloc (.deferred (some []))) (.loop { lO fn w.heap.size ps assign body with tmps:=tmps })
   rwa [World.size_alloc]at this
  ·rw[heap_alloc_old _ _ (by rw[World.size_alloc];omega),heap_alloc_old w _ hb]
  ·rw[heap_alloc_old _ _ (by rw[World.size_alloc];omega)]
   exact World.alloc_heap_new w _
theorem BM(hΓ:OkG P Γ){g:Operand}{ps:Array Tmp}{assign body:Code}{Q:Exit->S->Prop}{σ:S}{f:Nat}{caps:List AV}(hg:ev σ.slots g=.fn f caps)(h:Q4 Γ f caps ps assign body Q σ) :
  sem P (.rangeFunc g ps assign body) Q σ:=by
 intro c a w hst
 obtain⟨⟨hd,hok⟩,hn,F,φ,h2,h3,h4⟩:=hst
 refine wpIn_rangeFunc ?_
 intro fn _
 have hgR:=eX (F:=F) (φ:=φ) (w:=w) h3.glob h4 g
 rw[hg]at hgR
 simp only[AV.R]at hgR
 obtain⟨carr,hfe,hcaps⟩:=hgR
 obtain⟨l,mark,w₁,dfr,henter,hl1,hl2,hl3,dX,hsz,hos1,htp1,hou1,hmark⟩:=F6 (P:=P) h2 hok fn a.tmps ps assign body
 obtain⟨v,own',mv,r',cs',hΓg,MA,hbusy,hlen,hnmv,hQ⟩:=h fn dfr
 obtain⟨⟨fnd,bd,hfn,hbody,lY⟩,hcalls⟩:=hΓ f _ _ _ _ _ hΓg
 let L:Loc:=⟨false,l,0,0,0⟩
 have hF1:Same F w w₁:=fun b hb=>dX b (h3.fb b hb)
 have RS:Conc F (ext φ σ.own.length L) (σ.own++[.lp (lO fn dfr ps assign body) σ.slots]) w₁:=by
  refine h3.new hsz dX (fun _=>⟨hl1,hl2⟩) ?_
  simp only[ObjR]
  refine⟨rfl,rfl,a.tmps.toList,(),?_,trivial,AV.Rs_mono (fun _ h=>h) hF1 (dO h3 L) _ _ h4⟩
  simpa using hl3
 have hoL:ext φ σ.own.length L σ.own.length=some L:=aM _ _ _
 have c5:AV.Rs F (ext φ σ.own.length L) w₁ (.yld σ.own.length :: caps) (.func (.yield l) #[] #[] :: carr):=by
  simp only[AV.Rs,AV.R]
  exact⟨_,_,rfl,⟨L,hoL,rfl,rfl⟩,AV.Rs_mono (fun _ h=>h) hF1 (dO h3 L) _ _ hcaps⟩
 have hc':=hcalls F _ w₁ _ RS c5
 have hbn:fnd.body.isNone=false:=by rw[hbody];rfl
 have hnm : (fnd.name == "runtime.NumGoroutine") = false := by simpa using lY
 have my:φ σ.own.length=none:=h3.out _ (Nat.le_refl _)
 refine⟨l,mark,w₁,{ target:=.fn (.func f) carr.toArray,args:=#[.func (.yield l) #[] #[]] },w₁,f,(.func (.yield l) #[] #[] :: carr).toArray,w₁,henter,?_,fun _ _=>trivial,?_,fun h=>Bool.noConfusion (show false=true from h),?_⟩
 ·have hy:a.eval (.const (.func (.yield l) #[] #[]))=.func (.yield l) #[] #[]:=rfl
  simp only[resolve,Deferred.ofValue,hfe,Sem.run_pure,List.map_toArray,List.map_cons,List.map_nil,hy,Array.empty_append]
 ·have e:(#[.func (.yield l) #[] #[]]++carr.toArray:Array Value)=(.func (.yield l) #[] #[] :: carr).toArray:=by simp
  simp only[invoke,callFunc,Sem.run_bind,run_program,Result.andThen_ok,hfn,hnm,hbn,Bool.false_eq_true,if_false,Sem.run_pure,e]
 ·have hci:CallsIn (fen c.rd) (0 - 1) P f (.func (.yield l) #[] #[] :: carr).toArray w₁ _:=(callsIn_wide (n:=0)).2 hc'
  refine hci.mono ?_
  rintro e w' ⟨rv,F',φ',rfl,ha,hv⟩
  have hφo:φ' σ.own.length=some L:=ha.keep _ L hnmv hoL
  have dg:=aR ha.conc hφo
  rw[MA]at dg
  simp only[ObjR]at dg
  obtain⟨_,_,arr',_,hh',_,_⟩:=dg
  refine⟨r'.pending,_,run_endLoop (r:={ r' with tmps:=arr'.toArray }) hh' hbusy,?_⟩
  generalize hw4:w'.putObj l (.loop { { r' with tmps:=arr'.toArray } with state:=.exhausted })=w₄
  have off4:∀b,b≠l->w₄.heap[b]?=w'.heap[b]?:=fun b hb=>by rw[← hw4];exact World.putObj_heap_other hb
  have size4:w₄.heap.size=w'.heap.size:=by rw[← hw4];exact World.putObj_size
  have dr4:w'.drawn<=w₄.drawn:=by rw[← hw4];exact Nat.le_refl _
  have os4:w₄.os=w'.os/\w₄.tape=w'.tape/\w₄.output=w'.output:=by rw[← hw4];exact⟨rfl,rfl,rfl⟩
  have hlF:¬F' l:=(ha.conc.live _ L hφo rfl).1
  have same4:Same F' w' w₄:=fun b hb=>off4 b fun e=>hlF (e ▸ hb)
  have inj4:∀i L',φ' i=some L'->L'.nil=false->i≠σ.own.length->L'.b≠l:=fun i L' h1 h2 hne=>ha.conc.inj i _ L' L h1 hφo h2 rfl hne
  let φ4:Nat->Option Loc:=fun i=>if i=σ.own.length then none else φ' i
  have hφ4:∀i L',φ4 i=some L'->i≠σ.own.length/\φ' i=some L':=fun i L' h=>by
   simp only[φ4]at h
   split at h
   ·cases h
   ·rename_i hne;exact⟨hne,h⟩
  have hφk:∀i L',i∉[σ.own.length]->φ' i=some L'->φ4 i=some L':=fun i L' h1 h2=>by
   simp only[φ4]
   rw[if_neg (by simpa using h1)];exact h2
  have HQ:∀i L',ext φ σ.own.length L i=some L'->L'.nil=false->L'.b=l∨(∃j Lj,φ j=some Lj/\Lj.nil=false/\Lj.b=L'.b):=fun i L' h1 h2=>by
   unfold ext at h1
   split at h1
   ·cases h1;exact .inl rfl
   ·exact .inr ⟨i,L',h1,h2,rfl⟩
  have hconc4:Conc F' φ4 ((own'.map (Obj.killAll [σ.own.length])).set σ.own.length .dead) w₄:=by
   refine⟨fun b hb=>by rw[size4];exact ha.conc.fb b hb,fun i L' h1 h2=>⟨(ha.conc.live i L' (hφ4 i L' h1).2 h2).1,by rw[size4];exact(ha.conc.live i L' (hφ4 i L' h1).2 h2).2⟩,
    fun i j Li Lj h1 h2 n1 n2 hne=>ha.conc.inj i j Li Lj (hφ4 i Li h1).2 (hφ4 j Lj h2).2 n1 n2 hne,fun i obj hi=>?_,fun i hi=>?_,ha.conc.glob.mono (fun _ h=>h) same4⟩
   ·rw[List.getElem?_set]at hi
    by_cases e:σ.own.length=i
    ·subst e
     simp only[if_true,List.length_map,hlen,Option.some.injEq]at hi
     subst hi
     simp only[φ4,if_true,ObjR]
    ·simp only[e,if_false,List.getElem?_map,Option.map_eq_some_iff]at hi
     obtain⟨ob,hob,rfl⟩:=hi
     have e':φ4 i=φ' i:=by simp only[φ4];rw[if_neg (fun h=>e h.symm)]
     rw[e']
     exact fN (fun _ h=>h) same4 hφk (fun L' h1 h2=>off4 _ (inj4 i L' h1 h2 (fun h=>e h.symm))) (ha.conc.rep i ob hob)
   ·simp only[List.length_set,List.length_map]at hi
    simp only[φ4]
    split
    ·rfl
    ·exact ha.conc.out i hi
  have ha4:After F φ w F' φ4 ((own'.map (Obj.killAll [σ.own.length])).set σ.own.length .dead) w₄ mv:=by
   refine⟨ha.sub,⟨os4.1.trans (ha.ext.os.trans hos1),os4.2.1.trans (ha.ext.tape.trans htp1),os4.2.2.trans (ha.ext.output.trans hou1.1),by have:=ha.ext.size;omega,fun b hb=>by rw[same4 b (ha.sub b hb),ha.ext.same b hb,hF1 b hb],Nat.le_trans hou1.2 (Nat.le_trans ha.ext.drn dr4)⟩,hconc4,fun i L' h1 h2=>?_,fun b hb cO=>?_,fun i L' h1 h2=>?_,fun b hb=>?_⟩
   ·have hne:i≠σ.own.length:=fun e=>by rw[e,my]at h2;cases h2
    exact hφk i L' (by simpa using hne) (ha.keep i L' h1 (by unfold ext;rw[if_neg hne];exact h2))
   ·rw[off4 b (by omega),ha.rest b (by omega) (fun i L' g1 g2 e=>?_),dX b hb]
    rcases HQ i L' g1 g2 with h|⟨j,Lj,g3,g4,g5⟩
    ·omega
    ·exact cO j Lj g3 g4 (g5.trans e)
   ·rcases ha.orig i L' (hφ4 i L' h1).2 h2 with h|⟨j,Lj,g1,g2,g3⟩
    ·exact .inl (by omega)
    ·rcases HQ j Lj g1 g2 with h|⟨k,Lk,g4,g5,g6⟩
     ·exact .inl (by omega)
     ·exact .inr ⟨k,Lk,g4,g5,g6.trans g3⟩
   ·rcases ha.frsh b hb with h|h|⟨j,Lj,g1,g2,g3⟩
    ·exact .inl h
    ·exact .inr (.inl (by omega))
    ·rcases HQ j Lj g1 g2 with h|⟨k,Lk,g4,g5,g6⟩
     ·exact .inr (.inl (by omega))
     ·exact .inr (.inr ⟨k,Lk,g4,g5,g6.trans g3⟩)
  have s4:Since c (bW c.n0 σ.mv mv) F' φ4 w₄:=h2.after ha4
  have hsl:AV.Rs F' φ4 w₄ (killAll (σ.own.length :: mv) σ.slots) a.tmps.toList:=by
   refine cU ha4.sub ha4.ext.same _ (fun i L' h1 h2=>?_) h4
   simp only[List.mem_cons,not_or]at h1
   exact ha4.keep i L' h1.2 h2
  have key:∃c',CExt c c'/\St c' ⟨killAll (σ.own.length :: mv) σ.slots,(own'.map (Obj.killAll [σ.own.length])).set σ.own.length .dead,σ.n0,bW σ.n0 σ.mv mv⟩ { a with defers:=mark++a.defers } w₄:=by
   rcases hmark with⟨_,rfl⟩|⟨hr,D,rfl,hD1,hD2,hD3,hD4⟩
   ·exact⟨c,.refl c,⟨by simpa using hd,hok⟩,hn,F',φ4,by rw[hn];exact s4,hconc4,hsl⟩
   ·have MB:∀i L',ext φ σ.own.length L i=some L'->L'.nil=false->L'.b≠D:=fun i L' g1 g2 e=>by
     rcases HQ i L' g1 g2 with h|⟨j,Lj,g3,g4,g5⟩
     ·omega
     ·have:=(h3.live j Lj g3 g4).2;omega
    have hDF:¬F' D:=fun hF=>by
     rcases ha.frsh D hF with h|h|⟨j,Lj,g1,g2,g3⟩
     ·have:=h3.fb D h;omega
     ·omega
     ·exact MB j Lj g1 g2 g3
    have hDo:∀i L',φ4 i=some L'->L'.nil=false->L'.b≠D:=fun i L' g1 g2 e=>by
     rcases ha.orig i L' (hφ4 i L' g1).2 g2 with h|⟨j,Lj,g3,g4,g5⟩
     ·omega
     ·exact MB j Lj g3 g4 (g5.trans e)
    have hDh:w₄.heap[D]?=some (.deferred (some [])):=by
     rw[off4 D hD3,ha.rest D hD2 (fun i L' g1 g2=>MB i L' g1 g2)];exact hD4
    have hDl:D<w₄.heap.size:=by have:=ha.ext.size;omega
    obtain⟨c',hx,hok',hds,hs'⟩:=K5 s4 hr hok hDl (Nat.le_trans h2.ext.size hD1) hDF hDo (fun i L' g1 g2=>(hconc4.live i L' g1 g2).2) hDh
    refine⟨c',hx,⟨by rw[hds,hd];rfl,hok'⟩,hn.trans hx.n0.symm,F',φ4,by rw[hn];exact hs',hconc4,hsl⟩
  obtain⟨c',hx,bA⟩:=key
  cases hpj:r'.pending with
  | none =>
   rw[hpj]at hQ
   exact⟨c',_,hx,bA,hQ⟩
  | some jc =>
   rw[hpj]at hQ
   cases jc with
   | ret=>exact wpIn_ret ⟨c',_,hx,bA,hQ⟩
   | exit i=>exact wpIn_exit ⟨c',_,hx,bA,hQ⟩
   | goto t=>exact wpIn_goto ⟨c',_,hx,bA,hQ⟩
   | _=>exact hQ.elim
end
section
variable {P:Program} {Γ:Nat->a8}
def Fu(P:Program)(g:Nat)(args:List AV)(v:AV):Prop :=
 ∀F φ w vs,AV.Rs F φ w args vs->∃r,(callFunc g vs.toArray).run P w=.ok (.value r) w/\AV.R F φ w v r
def rK(P:Program)(o:Oper)(K:S->Prop)(σ:S):Prop :=
 match o.guard,o.op with
 | none,.call c=>(match c.callee with
  | .value (.func g)=>∃v,Fu P g (c.args.toList.map (ev σ.slots)) v/\n7 o.dst K σ v
  | _=>False)
 | _,_=>False
theorem pL{c:Ctx}{all:Array Oper}{o:Oper}{K:S->Prop}{σ:S}{a:Act}{w:World}{Q:Exit->Act->World->Prop}(hst:St c σ a w)(h:rK P o K σ) :
  Region.wanted o (yielded all a.tmps)=true/\o.wpIn (fen c.rd) 0 P a w (fun a' w'=>∃σ',St c σ' a' w'/\K σ') Q:=by
 obtain⟨hd,hn,F,φ,h2,h3,h4⟩:=hst
 obtain⟨dst,op,ty,pos,after,guard⟩:=o
 unfold rK at h
 split at h
 ·rename_i call hg hop
  simp only at hg hop
  subst hg;subst hop
  obtain⟨callee,args,ts⟩:=call
  split at h
  ·rename_i g lX
   simp only at lX
   subst lX
   refine⟨by simp[Region.wanted],?_⟩
   obtain⟨v,hext,hK⟩:=h
   have c5:=tO (F:=F) (φ:=φ) (w:=w) h3.glob h4 args.toList
   obtain⟨r,hr,hv⟩:=hext F φ w _ c5
   refine sx (fun d e=>by cases e) (r:=r) (w':=w) ?_ ⟨_,St.put hd hn h2 h3 h4 hv,hK⟩
   have e:args.map a.eval++#[]=(args.toList.map a.eval).toArray:=by
    apply Array.ext'
    simp
   have hf:a.eval (.func g)=.func (.func g) #[] #[]:=rfl
   simp only[execOp,resolve,Deferred.ofValue,hf,pure_bind,invoke,Array.empty_append,e]
   exact hr
  ·exact h.elim
 ·exact h.elim
def lf(P:Program)(Γ:Nat->a8)(all:Array Oper)(Q:Exit->S->Prop):List Oper->S->Prop
 | [],σ=>Q .normal σ
 | o :: os,σ=>rK P o (lf P Γ all Q os) σ∨opg P Γ all o (lf P Γ all Q os) σ
theorem f8{c:Ctx}(hΓ:OkG P Γ){all:Array Oper}{Q:Exit->S->Prop}:∀(l:List Oper) (σ:S) (a:Act) (w:World),St c σ a w->lf P Γ all Q l σ->wpListIn (fen c.rd) 0 P all (lift c Q) l a w
 | [],σ,a,w,hst,h=>bn hst h
 | o :: os,σ,a,w,hst,h=>by
  simp only[lf]at h
  unfold wpListIn
  rcases h with h|h
  ·obtain⟨hw,hwp⟩:=pL (all:=all) (Q:=lift c Q) hst h
   rw[if_pos hw]
   refine Oper.wpIn_mono ?_ hwp
   rintro a' w' ⟨σ',bA,hK⟩
   exact f8 hΓ os σ' a' w' bA hK
  ·rcases cf hΓ (Q:=lift c Q) hst h with⟨hw,hwp⟩|⟨hw,σ',bA,hK⟩
   ·rw[if_pos hw]
    refine Oper.wpIn_mono ?_ hwp
    rintro a' w' ⟨σ',bA,hK⟩
    exact f8 hΓ os σ' a' w' bA hK
   ·rw[if_neg (by simp[hw])]
    exact⟨fun _ _=>trivial,f8 hΓ os σ' _ w bA hK⟩
theorem nE(hΓ:OkG P Γ){id:Nat}{ops:Array Oper}{Q:Exit->S->Prop}{σ:S}(h:lf P Γ ops Q ops.toList σ):sem P (.region id ops false) Q σ :=
 fun c a w hst=>wpIn_region_list (f8 hΓ ops.toList σ a w hst h)
theorem Jb {g : Nat} {fn : Func} {e : Array Value -> Sem Value} {args : List AV} {v : AV} (hf : P.funcs[g]? = some fn) (hn : fn.name ≠ "runtime.NumGoroutine") (hb : fn.body = none) (h1 : Extern.findNext fn = none) (h2 : Extern.find fn = some e)
  (h:∀F φ w vs,AV.Rs F φ w args vs->∃r,(e vs.toArray).run P w=.ok r w/\AV.R F φ w v r):Fu P g args v:=by
 intro F φ w vs hs
 obtain⟨r,hr,hv⟩:=h F φ w vs hs
 refine⟨r,?_,hv⟩
 have hnm : (fn.name == "runtime.NumGoroutine") = false := by simpa using hn
 simp only[callFunc,Sem.run_bind,run_program,Result.andThen_ok,hf,hnm,Bool.false_eq_true,if_false,hb,Option.isNone_none,if_true,h1,h2]
 simp only[run_mark,Result.andThen_ok,hr,Sem.run_pure]
@[go_sem] theorem JS {all:Array Oper} {Q:Exit->S->Prop} {σ:S}:lR P Γ all Q [] σ=Q .normal σ:=Eq.trans rfl rfl
@[go_sem] theorem Jz {all:Array Oper} {Q:Exit->S->Prop} {σ:S}:lf P Γ all Q [] σ=Q .normal σ:=Eq.trans rfl rfl
def Cv(P:Program)(f:AV)(args:List AV)(own:List Obj)(K:AV->List Obj->List Nat->Prop):Prop:=match f with|.yld o=>CO P o args own K|_=>False
@[go_sem] theorem N2 {o:Nat} {args:List AV} {own:List Obj} {K:AV->List Obj->List Nat->Prop}:Cv P (.yld o) args own K=CO P o args own K:=Eq.trans rfl rfl
variable {σ:S} {K:S->Prop} {dst:Option Tmp} {ty:TypeId} {pos:String} {af:Array Edge}
@[go_sem] theorem J0 {f:Operand} {args:List Operand} {ts:Array TypeId}:oQ P ⟨dst,.call { callee:=.value f,args:=args.toArray,argTypes:=ts },ty,pos,af,none⟩ K σ=Cv P (ev σ.slots f) (args.map (ev σ.slots)) σ.own (gb dst K σ):=by
 unfold oQ Cv
 simp only
 try (split <;> simp_all)
@[go_sem] theorem MM {τ:Ty} {own:List Obj} {s:List UInt8} {lo hi:Option AV} {K:AV->Prop}:ig P (some τ) own (.dat (.str s)) lo hi K=(match τ.desc with
  | .string=>(match dA lo 0,dA hi s.length with
   | some l,some h=>0<=l/\l<=h/\h<=s.length/\K (.dat (.str ((s.drop l.toNat).take (h - l).toNat)))
   | _,_=>False)
  | _=>False):=Eq.trans rfl rfl
end
def qQ(P:Program)(body:Code)(Q:Exit->S->Prop):Nat->S->Prop
 | 0,_=>False
 | m+1,σ=>sem P body (fun e s=>match e with|.normal=>qQ P body Q m s|e=>Q e s) σ
def kD(P:Program)(body:Code)(Q:Exit->S->Prop)(m:Nat):Exit->S->Prop:=fun e s=>match e with|.normal=>qQ P body Q m s|e=>Q e s
section
variable {P:Program} {body:Code} {Q:Exit->S->Prop}
theorem th{c:Ctx}:∀(m:Nat) (c':Ctx) (σ:S) (a:Act) (w:World),CExt c c'->St c' σ a w->qQ P body Q m σ->Code.roundsIn (fen c.rd) 0 P body (lift c Q) m a w
 | 0,_,_,_,_,_,_,h=>h.elim
 | m+1,c',σ,a,w,hx,hst,h=>by
  rw[roundsIn_succ]
  refine wpIn_mono (sh h hx hst) ?_
  rintro e a' w' ⟨c2,s,hx2,bA,hq⟩
  cases e with
  | normal=>exact th m c2 s a' w' hx2 bA hq
  | _=>exact⟨c2,s,hx2,bA,hq⟩
theorem iW{σ:S}(m:Nat)(h:qQ P body Q m σ):sem P (.loop body) Q σ:=fun c a w hst=>wpIn_loop_rounds m (th m c σ a w (.refl c) hst h)
theorem er{σ:S}{m:Nat}(h:sem P body (kD P body Q m) σ):qQ P body Q (m+1) σ:=h
@[go_sem] theorem Ag {m:Nat} {s:S}:kD P body Q m .normal s=qQ P body Q m s:=Eq.trans rfl rfl
@[go_sem] theorem Ex {m i:Nat} {s:S}:kD P body Q m (.exit i) s=Q (.exit i) s:=Eq.trans rfl rfl
@[go_sem] theorem Fw {m:Nat} {s:S}:kD P body Q m .ret s=Q .ret s:=Eq.trans rfl rfl
end
section
variable {P:Program} {Γ:Nat->a8}
theorem QJ{code:Code}{Q:Exit->S->Prop}{σ:S}(σ1:S)(h:sem P code (fun e s=>e=.normal/\Le s σ1) σ)(hq:Q .normal σ1):sem P code Q σ:=by
 intro c a w hst
 refine wpIn_mono (h c a w hst) ?_
 rintro e a' w' ⟨c',s,hx,bA,rfl,hle⟩
 exact⟨c',σ1,hx,hle c' a' w' bA,hq⟩
theorem qJ{own:List Obj}{o:Nat}(ex:List Obj)(h:own.getD o .dead≠.dead):(own++ex).getD o .dead=own.getD o .dead:=by
 have hlt:o<own.length:=by
  rcases Nat.lt_or_ge o own.length with h'|h'
  ·exact h'
  ·rw[List.getD_eq_getElem?_getD,List.getElem?_eq_none h']at h
   exact absurd rfl h
 simp only[List.getD_eq_getElem?_getD]
 rw[List.getElem?_append_left hlt]
theorem tS{own:List Obj}(ex:List Obj):∀(vs:List AV) (ds:List D),AV.asD.AV.asDs own vs=some ds->AV.asD.AV.asDs (own++ex) vs=some ds
 | [],ds,h=>h
 | v :: vs,ds,h=>by
  simp only[AV.asD.AV.asDs,Option.bind_eq_some_iff,Option.map_eq_some_iff]at h ⊢
  obtain⟨d,h1,ds',h2,rfl⟩:=h
  refine⟨d,?_,ds',tS ex vs ds' h2,rfl⟩
  cases v with
  | sl o off len =>
   simp only at h1 ⊢
   cases hr:own.getD o .dead with
   | row ag xs=>rw[qJ ex (by rw[hr];exact fun e=>by cases e)];exact h1
   | _=>rw[hr]at h1;cases h1
  | _=>exact h1
theorem G9{own:List Obj}(ex:List Obj){v:AV}{d:D}(h1:v.asD own=some d):v.asD (own++ex)=some d:=by
 cases v with
 | sl o off len =>
  simp only[AV.asD]at h1 ⊢
  cases hr:own.getD o .dead with
  | row ag xs=>rw[qJ ex (by rw[hr];exact fun e=>by cases e)];exact h1
  | _=>rw[hr]at h1;cases h1
 | agg vs =>
  simp only[AV.asD,Option.map_eq_some_iff]at h1 ⊢
  obtain⟨ds,h2,rfl⟩:=h1
  exact⟨ds,tS ex vs ds h2,rfl⟩
 | _=>exact h1
theorem tm{own:List Obj}(ex:List Obj):∀(vs:List AV) (ds:List D),qX own vs=some ds->qX (own++ex) vs=some ds
 | [],ds,h=>h
 | v :: vs,ds,h=>by
  simp only[qX,Option.bind_eq_some_iff,Option.map_eq_some_iff]at h ⊢
  obtain⟨d,h1,ds',h2,rfl⟩:=h
  exact⟨d,G9 ex h1,ds',tm ex vs ds' h2,rfl⟩
def iC(Γ:Nat->a8)(pf:List Nat):Prop:=∀g args own v,g∈pf->Γ g args own v own []->∀ex,Γ g args (own++ex) v (own++ex) []
theorem ew:iC Γ []:=fun g _ _ _ h=>by cases h
theorem rC{l:List (Nat×a8)}{pf:List Nat}(h:∀g C,(g,C)∈l->g∈pf->∃R,C=au R):iC (tbl l) pf:=by
 rintro g args own v hg ⟨C,hm,hC⟩ ex
 obtain⟨R,rfl⟩:=h g C hm hg
 obtain⟨ds,h1,h2,_,_,h3⟩:=hC
 exact⟨au R,hm,ds,tm ex _ _ h1,h2,rfl,rfl,h3⟩
theorem JV{pf:List Nat}(hg:iC Γ pf){o:Oper}(hv:be pf o=true){slots:List AV}{own:List Obj}{k:AV->Prop}(ex:List Obj)(h:vB P Γ pf o slots own k)(hvx:isV o.op=true->vB P Γ pf o slots (own++ex) k):vB P Γ pf o slots (own++ex) k:=by
 by_cases hi:isV o.op=true
 ·exact hvx hi
 ·unfold vB at h ⊢
  rw[if_neg hi]at h ⊢
  cases hc:mr pf o with
  | none=>rw[hc]at h;exact h.elim
  | some ga =>
   obtain⟨g,args⟩:=ga
   rw[hc]at h
   obtain⟨v,h1,h2⟩:=h
   exact⟨v,hg g _ own v (gV hc).1 h1 ex,h2⟩
theorem KC{pf:List Nat}(hg:iC Γ pf){all:Array Oper}{o:Oper}(hc:(mr pf o).isSome=true)(hgd:o.guard=none){slots:List AV}{own:List Obj}{k:AV->Prop}(ex:List Obj)(h:vG P Γ pf all o slots own k):vG P Γ pf all o slots (own++ex) k:=by
 unfold vG at h ⊢
 rw[hgd]at h ⊢
 have hni:¬isV o.op=true:=by
  obtain⟨⟨g,args⟩,hh⟩:=Option.isSome_iff_exists.1 hc
  obtain⟨_,ts,hop⟩:=gV hh
  rw[hop]
  simp[isV]
 exact JV hg (by simp[be,hc]) ex h (fun hi=>absurd hi hni)
def swU(pf mf:List Nat)(ms ks:List (Nat×List Nat))(ops:Array Oper)(p i:Nat):Bool :=
 swV pf mf ms ks ops p i || (match ops[p]?,ops[i]? with|some op,some oi=>op.apart ops oi && (mr pf op).isSome && op.guard.isNone && M0 mf oi|_,_=>false)
theorem Rm{pf mf:List Nat}{ms ks:List (Nat×List Nat)}(hpf:aQ Γ pf)(hgf:iC Γ pf)(hmf:bF Γ mf){ops:Array Oper}:mn P Γ ops (cY ops ms ks) (swU pf mf ms ks ops):=by
 intro p i op oi hop hi hsw
 unfold swU at hsw
 rw[Bool.or_eq_true]at hsw
 rcases hsw with hsw|hsw
 ·exact Ax hpf hmf p i op oi hop hi hsw
 rw[hi,hop]at hsw
 simp only[Bool.and_eq_true]at hsw
 obtain⟨⟨⟨hap,hc⟩,hgd⟩,hmk⟩:=hsw
 have abb:op.guard=none:=by simpa using hgd
 have hv:be pf op=true:=by simp[be,hc]
 refine⟨fun K K' σ h hh=>dz hpf hv h hh,fun K σ h=>?_⟩
 have eO:∀(q:Nat) (o:Oper) (K:S->Prop),ops[q]?=some o->opz P Γ ops (cY ops ms ks) q o K=fun σ=>(cMs ms q o σ.slots/\cKs ks q o σ.slots)/\opg P Γ ops o K σ:=fun q o K hq=>by
  funext σ;unfold opz;rw[w5 hq]
 rw[eO i oi _ hi,eO p op _ hop]
 rw[eO i oi _ hi,eO p op _ hop]at h
 have hC:∀(q:Nat) (o:Oper) (s s':List AV),(∀x∈o.op.operands.toList,ev s' x=ev s x)->(cMs ms q o s/\cKs ks q o s)->(cMs ms q o s'/\cKs ks q o s'):=fun q o s s' hx hc=>⟨kg (fun k hh=>iJ hx hh) hc.1,kR (fun k hh=>iF hx hh) hc.2⟩
 refine pK hpf hv hap (hC p op) (hC i oi) (fun K σ' ho cp ci hh=>?_) h
 obtain⟨v,ex,g1,g2⟩:=va hmf hmk hh
 exact⟨v,_,[],id,g1,g2,fun s d u=>rfl,cp,fun vp hg=>by rw[ho];exact KC hgf hc abb ex hg⟩
theorem aX{pf mf:List Nat}(ms ks:List (Nat×List Nat))(hm:P.follows .mixedOrders=true)(hΓ:OkG P Γ)(hpf:aQ Γ pf)(hgf:iC Γ pf)(hmf:bF Γ mf){id:Nat}{ops:Array Oper}{Q:Exit->S->Prop}{σ:S}(T:DT)(hok:rR (swU pf mf ms ks ops) ops T=true)
  (h:chZ P Γ ops (cY ops ms ks) Q T σ):sem P (.region id ops true) Q σ:=uu hm hΓ (Rm hpf hgf hmf) T hok h
end
@[go_sem] theorem O2 {P:Program} {Γ:Nat->a8} {ks:List Nat} {Q:Exit->S->Prop} {σ:S} {f:Operand} {ps:Array Tmp} {a b:Code}:jQ ks P Γ (.rangeFunc f ps a b) Q σ=sem P (.rangeFunc f ps a b) Q σ:=Eq.trans rfl rfl
@[go_sem] theorem Pe {P:Program} {Γ:Nat->a8} {Q:Exit->S->Prop} {σ:S} {f:Operand} {ps:Array Tmp} {a b:Code}:awp P Γ (.rangeFunc f ps a b) Q σ=sem P (.rangeFunc f ps a b) Q σ:=Eq.trans rfl rfl
theorem Gl{F:Nat->Prop}{φ:Nat->Option Loc}{w:World}{v:Value}(ag:Option Nat)(h:AV.R F φ w .nils v):AV.R F φ w (.dat (.sl ag [])) v:=by
 simp only[AV.R]at h
 subst h
 simp only[AV.R,D.R,D.C]
 exact⟨none,0,rfl,Nat.le_refl _,Nat.zero_le _,.inl trivial⟩
section
variable {P:Program} {Γ:Nat->a8}
variable {all:Array Oper} {Q:Exit->S->Prop} {n:Nat} {ns:List Nat} {os:List Oper} {σ:S} {R:S->Prop}
end
section
variable {P:Program} {F:Nat->Prop} {φ:Nat->Option Loc} {own:List Obj} {w:World}
def Hl(own:List Obj)(x:AV)(d:D):Prop:=∀F φ w c,Conc F φ own w->AV.R F φ w x c->D.R (wide F φ) w d c
def nB(own:List Obj):List AV->List D->Prop
 | [],[]=>True
 | x :: xs,d :: ds=>Hl own x d/\nB own xs ds
 | _,_=>False
theorem H7{x:AV}{d:D}(h:x.asD own=some d):Hl own x d:=fun _ _ _ _ hc hx=>Rb hc h hx
theorem gS{d:D}:Hl own (.dat d) d:=H7 rfl
theorem B4{ag:Option Nat}:Hl own .nils (.sl ag []):=fun _ _ _ _ hc hx=>by
 have:=cR.1 hx
 subst this
 exact⟨none,0,rfl,Nat.le_refl _,Nat.zero_le _,.inl rfl⟩
theorem HH{o off len:Nat}{ag:Option Nat}{xs:List D}(ho:own.getD o .dead=.row ag xs)(hl:off+len<=xs.length):Hl own (.sl o off len) (.sl ag ((xs.drop off).take len)) :=
 fun _ _ _ _ hc hx=>(Md hc ho hl hx).1
theorem gF{o:Nat}{ag:Option Nat}{xs:List D}(ho:own.getD o .dead=.row ag xs):Hl own (.sl o 0 xs.length) (.sl ag xs):=by
 have:=HH (off:=0) (len:=xs.length) ho (by omega)
 rwa [List.drop_zero,List.take_length]at this
theorem BG(hc:Conc F φ own w):∀(vs:List AV) (ds:List D) (arr:List Value),nB own vs ds->AV.Ra F φ w vs arr->D.Cs (wide F φ) w ds arr
 | [],[],arr,_,hra=>by simpa only[AV.Ra,D.Cs] using hra
 | [],_ :: _,arr,h,_=>h.elim
 | _ :: _,[],arr,h,_=>h.elim
 | v :: vs,d :: ds,arr,h,hra=>by
  simp only[AV.Ra]at hra
  obtain⟨u,us,rfl,h1,h2,h3⟩:=hra
  obtain⟨g1,g2⟩:=fP h1 (h.1 F φ w u hc h2)
  simp only[D.Cs]
  exact⟨u,us,rfl,g1,g2,BG hc vs ds us h.2 h3⟩
theorem Hy{vs:List AV}{ds:List D}(h:nB own vs ds):Hl own (.agg vs) (.agg ds):=fun _ _ _ _ hc hx=>by
 simp only[AV.R]at hx
 obtain⟨arr,rfl,hra⟩:=hx
 exact⟨arr,rfl,BG hc _ _ _ h hra⟩
theorem v7:∀{vs:List AV} {ds:List D},nB own vs ds->vs.length=ds.length
 | [],[],_=>rfl
 | [],_ :: _,h=>h.elim
 | _ :: _,[],h=>h.elim
 | v :: vs,d :: ds,h=>by rw[List.length_cons,List.length_cons,v7 h.2]
theorem G0{o len k:Nat}{cs:List AV}{M:List (List D)}(ho:own.getD o .dead=.tab k cs)(hk:0<k)(hM:∀r∈M,r.length=k)(hl:len=M.length)(hp:nB own cs M.flatten):Hl own (.sl o 0 len) (.sl (some k) (M.map .agg)):=by
 intro F φ w c hc h
 subst hl
 simp only[AV.R]at h
 obtain⟨L,hL,h2⟩:=h
 have hr:=aR hc hL
 rw[ho]at hr
 simp only[ObjR]at hr
 obtain⟨hsz,hr⟩:=hr
 have hfl:=n9 hM
 have hcl:=v7 hp
 refine(Ep (φ:=fun _=>none)).2 ?_
 rcases h2 with⟨hn,_,h0,rfl⟩|⟨hn,c,cap,rfl,g1,g2,g3,g4⟩
 ·have:M=[]:=List.eq_nil_of_length_eq_zero h0
  subst this
  exact⟨none,0,rfl,Nat.le_refl _,Nat.zero_le _,.inl rfl⟩
 ·rcases hr with⟨dh,_⟩|⟨_,arr,ty,h3,h4,h5,vs,h6,h7⟩
  ·rw[hn]at dh;cases dh
  refine⟨_,cap,by rw[List.length_map],by rw[List.length_map];exact g1,g2,?_⟩
  by_cases h0:cap=0
  ·left
   have:M=[]:=List.eq_nil_of_length_eq_zero (by omega)
   rw[this];rfl
  ·right
   refine⟨L.b,c,rfl,.inr ⟨o,L,hL,hn,rfl⟩,D.Cr_iff.2 fun i d hd=>?_⟩
   rw[List.getElem?_map,Option.map_eq_some_iff]at hd
   obtain⟨r,hr,rfl⟩:=hd
   have hi:i<M.length:=by
    rcases Nat.lt_or_ge i M.length with h|h
    ·exact h
    ·rw[List.getElem?_eq_none h]at hr;cases hr
   have hik:i*k+k<=M.length*k:=by
    have:=Nat.mul_le_mul_right k (show i+1<=M.length by omega)
    rw[Nat.add_mul]at this;omega
   obtain⟨q1,q2⟩:=D.Cs_iff.1 (BG hc _ _ _ hp h6)
   have hrl:=hM r (List.mem_of_getElem? hr)
   have hc0:c=L.base:=by rw[g3.resolve_left h0];omega
   refine⟨(vs.drop (i*k)).take k,by simp only[List.length_take,List.length_drop,es];omega,fun j hj=>?_,rfl,?_⟩
   ·simp only[es]at hj
    have:w.cell? ⟨L.b,c+i*es (some k)+j,none⟩=arr[c+i*es (some k)+j]?:=by simp[World.cell?,h3]
    rw[this,hc0]
    simp only[es]
    rw[Nat.add_assoc,h7 (i*k+j) (by omega),List.getElem?_take,if_pos hj,List.getElem?_drop]
   ·simp only[D.C]
    refine D.Cs_iff.2 ⟨by simp only[List.length_take,List.length_drop];omega,fun j d c hd hc=>?_⟩
    have hj:j<k:=by
     rcases Nat.lt_or_ge j k with h|h
     ·exact h
     ·rw[List.getElem?_eq_none (by omega)]at hd;cases hd
    rw[List.getElem?_take,if_pos hj,List.getElem?_drop]at hc
    exact q2 (i*k+j) d c (by rw[mP hM hr hj];exact hd) hc
theorem wB(hc:Conc F φ own w):∀(args:List AV) (ds:List D) (vs:List Value),nB own args ds->AV.Rs F φ w args vs->AV.Rs (wide F φ) (fun _=>none) w (ds.map .dat) vs
 | [],[],vs,_,hs=>by simpa only[AV.Rs,List.map_nil] using hs
 | [],_ :: _,vs,h,_=>h.elim
 | _ :: _,[],vs,h,_=>h.elim
 | x :: args,d :: ds,vs,h,hs=>by
  simp only[AV.Rs]at hs
  obtain⟨v,vs',rfl,h1,h2⟩:=hs
  simp only[List.map_cons,AV.Rs]
  exact⟨v,vs',rfl,by simpa only[AV.R] using h.1 F φ w v hc h1,wB hc args ds vs' h.2 h2⟩
def Gg(R:List D->AV->Prop):a8:=fun args own v own' mv=>∃ds,nB own args ds/\R ds v/\own'=own/\mv=[]/\v.scal=true
theorem tR(hc:Conc F φ own w):Conc (wide F φ) (fun _=>none) [] w :=
 ⟨fun b hb=>by
  rcases hb with hb|⟨o,L,ho,hn,rfl⟩
  ·exact hc.fb b hb
  ·exact(hc.live o L ho hn).2,(fun _ _ h=>by cases h),(fun _ _ _ _ h=>by cases h),(fun _ _ h=>by simp at h),(fun _ _=>rfl),hc.glob.mono (fun _ h=>.inl h) (Same.refl F w)⟩
theorem Fe{g:Nat}{R:List D->AV->Prop}(h:OkF P g (au R)):OkF P g (Gg R):=by
 rintro args own v own' mv ⟨ds,hds,hR,rfl,rfl,hsc⟩
 obtain⟨hfn,run⟩:=h (ds.map .dat) [] v [] [] ⟨ds,kC _ _,hR,rfl,rfl,.inr hsc⟩
 refine⟨hfn,fun F φ w vs hc hs=>?_⟩
 refine(run (wide F φ) (fun _=>none) w vs (tR hc) (wB hc _ _ _ hds hs)).mono ?_
 rintro e w' ⟨r,F',φ',rfl,ha,hv⟩
 have dX:∀b,b<w.heap.size->w'.heap[b]?=w.heap[b]?:=fun b hb=>ha.rest b hb (fun _ _ h=>by cases h)
 refine⟨r,F,φ,rfl,?_,IL hsc hv⟩
 exact { sub:=fun _ h=>h,ext:=ha.ext.mono (fun b hb=>.inl hb),conc:=hc.same ha.ext.size dX,keep:=fun _ _ _ h=>h,rest:=fun b hb _=>dX b hb,orig:=fun o L' ho hn=>.inr ⟨o,L',ho,hn,rfl⟩,frsh:=fun b hb=>.inl hb }
theorem jZ{l:List (Nat×a8)}{g:Nat}(R:List D->AV->Prop)(hm:(g,Gg R)∈l){args:List AV}{own:List Obj}{K:AV->List Obj->List Nat->Prop}(ds:List D)(v:AV)(hds:nB own args ds)(hR:R ds v)
  (hk:v.scal=true) (hK:K v own []):eB (tbl l) (.fn g []) args own K :=
 jv (Gg R) hm v own [] ⟨ds,hds,hR,rfl,rfl,hk⟩ hK
def D.plain1:D->Bool
 | .int _ _=>true
 | .bool _=>true
 | .str _=>true
 | _=>false
theorem HK{F F':Nat->Prop}{w:World}{d:D}{cs:List Value}(hd:d.plain1=true)(h:D.C F w d cs):D.C F' w d cs:=by
 cases d with
 | int k n=>simpa only[D.C] using h
 | bool b=>simpa only[D.C] using h
 | str s=>simpa only[D.C] using h
 | sl ag xs=>cases hd
 | agg ds=>cases hd
theorem uc{F F':Nat->Prop}{w:World}{ag:Option Nat}{b:Nat}:∀(xs:List D) (off:Nat),(∀x∈xs,x.plain1=true)->D.Cr F w ag b off xs->D.Cr F' w ag b off xs
 | [],_,_,_=>by simp only[D.Cr]
 | x :: xs,off,hx,h=>by
  simp only[D.Cr]at h ⊢
  obtain⟨⟨cs,h1,h2,h3,h4⟩,h5⟩:=h
  exact⟨⟨cs,h1,h2,h3,HK (hx x (.head _)) h4⟩,uc xs _ (fun y hy=>hx y (.tail _ hy)) h5⟩
def pb(ag:Option Nat)(R:List D->List D->Prop)(ds:List D)(v:AV)(ob:List Obj):Prop:=∃xs,R ds xs/\v=.sl 0 0 xs.length/\ob=[.row ag xs]
def Fa(ag:Option Nat)(R:List D->List D->Prop):a8:=fun args own v own' mv =>
 ∃ds xs,nB own args ds/\R ds xs/\(∀x∈xs,x.plain1=true)/\v=.sl own.length 0 xs.length/\own'=own++[.row ag xs]/\mv=[]
theorem Bx{g:Nat}{ag:Option Nat}{R:List D->List D->Prop}(h:OkF P g (fk (pb ag R))):OkF P g (Fa ag R):=by
 rintro args own v own' mv ⟨ds,xs,hds,hR,hflat,rfl,rfl,rfl⟩
 have cO:(ds.map AV.dat).all AV.isDat=true:=by simp[AV.isDat]
 obtain⟨hfn,run⟩:=h (ds.map .dat) [] (.sl 0 0 xs.length) [.row ag xs] [] ⟨ds,.sl 0 0 xs.length,[.row ag xs],cO,kC _ _,⟨xs,hR,rfl,rfl⟩,rfl,rfl,rfl⟩
 refine⟨hfn,fun F φ w vs hc hs=>?_⟩
 refine(run (wide F φ) (fun _=>none) w vs (tR hc) (wB hc _ _ _ hds hs)).mono ?_
 rintro e w' ⟨r,F',φ',rfl,ha,hv⟩
 have dX:∀b,b<w.heap.size->w'.heap[b]?=w.heap[b]?:=fun b hb=>ha.rest b hb (fun _ _ h=>by cases h)
 let n:=own.length
 let φ2:Nat->Option Loc:=fun o=>if o<n then φ o else φ' (o - n)
 have hφ:∀o L,φ' o=some L->φ2 (n+o)=some L:=fun o L ho=>by
  simp only[φ2]
  rw[if_neg (by omega),Nat.add_sub_cancel_left];exact ho
 have vq:∀o L',φ' o=some L'->L'.nil=false->w.heap.size<=L'.b:=fun o L' ho hn=>by
  rcases ha.orig o L' ho hn with h|⟨_,_,h,_⟩
  ·exact h
  ·cases h
 have RT:∀o L,φ o=some L->o<n:=fun o L ho=>by
  rcases Nat.lt_or_ge o n with h|h
  ·exact h
  ·rw[hc.out o h]at ho;cases ho
 have hφ0:∀o L,φ o=some L->φ2 o=some L:=fun o L ho=>by
  simp only[φ2]
  rw[if_pos (RT o L ho)];exact ho
 have hsame:=hc.same ha.ext.size dX
 refine⟨r,F,φ2,rfl,?_,?_⟩
 ·refine { sub:=fun _ h=>h,ext:=ha.ext.mono (fun b hb=>.inl hb),conc:=?_,keep:=fun o L _ ho=>hφ0 o L ho,rest:=fun b hb _=>dX b hb,orig:=fun o L' ho hn=>?_,frsh:=fun b hb=>.inl hb }
  ·constructor
   ·exact hsame.fb
   ·intro o L ho hn
    simp only[φ2]at ho
    split at ho
    ·exact hsame.live o L ho hn
    ·have:=vq _ L ho hn
     exact⟨fun hF=>by have:=hc.fb _ hF;omega,(ha.conc.live _ L ho hn).2⟩
   ·intro o1 o2 L1 L2 h1 h2 n1 n2 hne
    simp only[φ2]at h1 h2
    split at h1 <;> split at h2
    ·exact hc.inj o1 o2 L1 L2 h1 h2 n1 n2 hne
    ·have:=(hc.live o1 L1 h1 n1).2
     have:=vq _ L2 h2 n2
     omega
    ·have:=(hc.live o2 L2 h2 n2).2
     have:=vq _ L1 h1 n1
     omega
    ·exact ha.conc.inj _ _ L1 L2 h1 h2 n1 n2 (by omega)
   ·intro o obj ho
    by_cases hlt:o<own.length
    ·rw[List.getElem?_append_left hlt]at ho
     have e:φ2 o=φ o:=by simp only[φ2];rw[if_pos hlt]
     rw[e]
     exact(hc.rep o obj ho).mono (fun _ h=>h) (hc.sameF dX) hφ0 (fun L hL hn=>dX _ (hc.live o L hL hn).2)
    ·rw[List.getElem?_append_right (by omega)]at ho
     have e:φ2 o=φ' (o - n):=by simp only[φ2];rw[if_neg hlt]
     rw[e]
     have hr:=ha.conc.rep (o - n) obj ho
     have ho0:obj=.row ag xs:=by
      cases hk:o - n with
      | zero=>rw[hk]at ho;simpa using ho.symm
      | succ k=>rw[hk]at ho;simp at ho
     subst ho0
     cases hφe:φ' (o - n) with
     | none=>rw[hφe]at hr;simp only[ObjR]at hr
     | some L =>
      rw[hφe]at hr
      simp only[ObjR]at hr ⊢
      refine⟨hr.1,?_⟩
      rcases hr.2 with h|⟨h1,h2,h3,h4⟩
      ·exact .inl h
      ·exact .inr ⟨h1,h2,h3,uc _ _ hflat h4⟩
   ·intro o ho
    simp only[List.length_append,List.length_cons,List.length_nil]at ho
    simp only[φ2]
    rw[if_neg (by omega)]
    exact ha.conc.out _ (by simp only[List.length_cons,List.length_nil];omega)
   ·exact hsame.glob
  ·simp only[φ2]at ho
   split at ho
   ·exact .inr ⟨o,L',ho,hn,rfl⟩
   ·exact .inl (vq _ L' ho hn)
 ·have:=AV.R_shift hφ _ _ hv
  simpa only[AV.shift,AV.R,Nat.add_zero] using this
theorem je{l:List (Nat×a8)}{g:Nat}(ag:Option Nat)(R:List D->List D->Prop)(hm:(g,Fa ag R)∈l){args:List AV}{own:List Obj}{K:AV->List Obj->List Nat->Prop}(ds xs:List D)(hds:nB own args ds)(hR:R ds xs)
  (hk:∀x∈xs,x.plain1=true) (hK:K (.sl own.length 0 xs.length) (own++[.row ag xs]) []):eB (tbl l) (.fn g []) args own K :=
 jv (Fa ag R) hm _ _ [] ⟨ds,xs,hds,hR,hk,rfl,rfl,rfl⟩ hK
attribute [go_sem] vc Fc
@[go_sem] theorem RM {Γ:Nat->a8} {σ:S} {K:S->Prop} {dst:Option Tmp} {ty t:TypeId} {pos:String} {af:Array Edge} {gd:Option (Nat×Bool)} {x:Operand} :
  opw P Γ ⟨dst,.call { callee:=.builtin .clear,args:=#[x],argTypes:=#[t] },ty,pos,af,gd⟩ K σ=vc P (aw P t) σ.own (ev σ.slots x) (gb dst K σ):=Eq.trans rfl rfl
end
section
variable {P:Program} {Γ:Nat->a8}
def acG(o:Oper)(K:S->Prop)(σ:S):Prop :=
 match o.guard,o.op with
 | none,.binOp .add _ x y _=>(match ev σ.slots x,ev σ.slots y with
  | .dat (.int .i64 m),.dat (.int .i64 n)=>n7 o.dst K σ (.dat (.int .i64 (IntKind.i64.wrap (m+n))))
  | _,_=>False)
 | _,_=>False
theorem acE{c:Ctx}{all:Array Oper}{o:Oper}{K:S->Prop}{σ:S}{a:Act}{w:World}{Q:Exit->Act->World->Prop}(hst:St c σ a w)(h:acG o K σ) :
  Region.wanted o (yielded all a.tmps)=true/\o.wpIn (fen c.rd) 0 P a w (fun a' w'=>∃σ',St c σ' a' w'/\K σ') Q:=by
 obtain⟨hd,hn,F,φ,h2,h3,h4⟩:=hst
 obtain⟨dst,op,ty,pos,after,guard⟩:=o
 unfold acG at h
 split at h
 ·rename_i t x y t' hg hop
  simp only at hg hop
  subst hg;subst hop
  split at h
  ·rename_i m n hx hy
   refine⟨by simp[Region.wanted],?_⟩
   have hxR:=eX (F:=F) (φ:=φ) (w:=w) h3.glob h4 x
   have hyR:=eX (F:=F) (φ:=φ) (w:=w) h3.glob h4 y
   rw[hx]at hxR
   rw[hy]at hyR
   obtain⟨ex,_⟩:=bw.1 hxR
   obtain⟨ey,_⟩:=bw.1 hyR
   refine sx (fun d e=>by cases e) (r:=.int .i64 (IntKind.i64.wrap (m+n))) (w':=w) ?_ ⟨_,St.put hd hn h2 h3 h4 (bw.2 ⟨rfl,gZ _ _⟩),h⟩
   simp only[execOp,ex,ey,Sem.run_bind,ww (show JX (.int .i64 m)=true from rfl),Result.andThen_ok,binOp,ne_eq,not_true_eq_false,if_false,Op.intArith,Sem.run_pure]
  ·exact h.elim
 ·exact h.elim
def acD(P:Program)(Γ:Nat->a8)(all:Array Oper)(Q:Exit->S->Prop):List Oper->S->Prop
 | [],σ=>Q .normal σ
 | o :: os,σ=>acG o (acD P Γ all Q os) σ∨opg P Γ all o (acD P Γ all Q os) σ
theorem acC{c:Ctx}(hΓ:OkG P Γ){all:Array Oper}{Q:Exit->S->Prop}:∀(l:List Oper) (σ:S) (a:Act) (w:World),St c σ a w->acD P Γ all Q l σ->wpListIn (fen c.rd) 0 P all (lift c Q) l a w
 | [],σ,a,w,hst,h=>bn hst h
 | o :: os,σ,a,w,hst,h=>by
  simp only[acD]at h
  unfold wpListIn
  rcases h with h|h
  ·obtain⟨hw,hwp⟩:=acE (P:=P) (all:=all) (Q:=lift c Q) hst h
   rw[if_pos hw]
   refine Oper.wpIn_mono ?_ hwp
   rintro a' w' ⟨σ',bA,hK⟩
   exact acC hΓ os σ' a' w' bA hK
  ·rcases cf hΓ (Q:=lift c Q) hst h with⟨hw,hwp⟩|⟨hw,σ',bA,hK⟩
   ·rw[if_pos hw]
    refine Oper.wpIn_mono ?_ hwp
    rintro a' w' ⟨σ',bA,hK⟩
    exact acC hΓ os σ' a' w' bA hK
   ·rw[if_neg (by simp[hw])]
    exact⟨fun _ _=>trivial,acC hΓ os σ' _ w bA hK⟩
theorem acF(hΓ:OkG P Γ){id:Nat}{ops:Array Oper}{Q:Exit->S->Prop}{σ:S}(h:acD P Γ ops Q ops.toList σ):sem P (.region id ops false) Q σ :=
 fun c a w hst=>wpIn_region_list (acC hΓ ops.toList σ a w hst h)
variable {all:Array Oper} {Q:Exit->S->Prop} {K:S->Prop} {o:Oper} {os:List Oper} {σ:S} {s:List AV} {own:List Obj} {n:Nat} {m:List Nat} {dst:Option Tmp} {ty t t1:TypeId} {pos:String} {af:Array Edge} {x y:Operand}
@[go_sem] theorem acH:acD P Γ all Q [] σ=Q .normal σ:=Eq.trans rfl rfl
@[go_sem] theorem acI:acG ⟨dst,.binOp .add t x y t1,ty,pos,af,none⟩ K ⟨s,own,n,m⟩=(match ev s x,ev s y with
  | .dat (.int .i64 m'),.dat (.int .i64 n')=>n7 dst K ⟨s,own,n,m⟩ (.dat (.int .i64 (IntKind.i64.wrap (m'+n'))))
  | _,_=>False):=Eq.trans rfl rfl
end
end Go.AM

