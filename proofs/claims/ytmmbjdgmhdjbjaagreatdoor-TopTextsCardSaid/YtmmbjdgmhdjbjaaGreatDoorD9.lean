/- Own work over the model of the kit. -/
import Derived.Test.YtmmbjdgmhdjbjaaGreatDoorD8
import Derived.Test.YtmmbjdgmhdjbjaaGreatDoorD7
set_option linter.unnecessarySimpa false
set_option linter.unusedSimpArgs false
set_option linter.unusedVariables false
namespace Go.AM
open Go
inductive DT where
 | fin
 | stop
 | one (p:Nat) (t:DT)
 | alt (x:Nat) (t u:DT)
deriving Inhabited
def DT.ops:DT->List Nat
 | .fin=>[]
 | .stop=>[]
 | .one p t=>p :: t.ops
 | .alt x t _=>x :: t.ops
def DT.heads:DT->List Nat
 | .alt x _ u=>x :: u.heads
 | _=>[]
def ot(R L:List Nat):Bool:=decide (R.length=L.length) && R.all (fun i=>L.contains i) && L.all (fun i=>R.contains i) && fC L
theorem iI{R L:List Nat}(h:ot R L=true):R.length=L.length/\(∀i,i∈R↔i∈L)/\L.Nodup:=by
 simp only[ot,Bool.and_eq_true,decide_eq_true_eq,List.all_eq_true,List.contains_eq_mem]at h
 obtain⟨⟨⟨h1,h2⟩,h3⟩,h4⟩:=h
 exact⟨h1,fun i=>⟨fun hi=>by simpa using h2 i hi,fun hi=>by simpa using h3 i hi⟩,dP h4⟩
section
variable {P:Program} {Γ:Nat->a8} {own:List Obj} {ob ko:Nat}
def lk(ko:Nat)(o:Oper)(s:List AV):Prop :=
 match o.op with
 | .call c=>(match c.args.toList with|[x,_]=>(match ev s x with|.sl o' _ _=>o'=ko|.nils=>True|_=>False)|_=>False)
 | _=>dD ko o s
theorem wo{o:Oper}{s s':List AV}(h:∀x∈o.op.operands.toList,ev s' x=ev s x)(hc:lk ko o s):lk ko o s':=by
 unfold lk at hc ⊢
 split
 ·rename_i c hop
  rw[hop]at hc h
  simp only at hc
  split at hc
  ·rename_i x y c5
   rw[h x (by simp[Op.operands,Call.operands,c5])]
   exact hc
  ·exact hc.elim
 ·rename_i hn
  split at hc
  ·rename_i hop;exact(hn _ hop).elim
  ·exact d5 h hc
def opx(P:Program)(Γ:Nat->a8)(all:Array Oper)(ob ko:Nat)(m k:Bool)(o:Oper)(K:S->Prop)(σ:S):Prop:=((m=true->cA ob o σ.slots)/\(k=true->lk ko o σ.slots))/\opg P Γ all o K σ
theorem wD{τ:Option Ty}{y:AV}{K:AV->List Obj->List Nat->Prop}(h:eS P τ own .nils y K) :
  ∃v obj',K v (own++[obj']) []/\∀K':AV->List Obj->List Nat->Prop,K' v (own++[obj']) []->eS P τ own .nils y K':=by
 unfold eS at h ⊢
 simp only at h ⊢
 split at h
 ·rename_i ys hys
  unfold iY at h ⊢
  split at h
  ·split at h
   ·split at h
    ·obtain⟨h1,h2,h3,h4,h5,h6⟩:=h
     exact⟨_,_,h6,fun K' hK'=>⟨h1,h2,h3,h4,h5,hK'⟩⟩
    ·exact h.elim
   ·exact h.elim
  ·exact h.elim
 ·unfold dJ at h ⊢
  split at h
  ·split at h
   ·split at h
    ·obtain⟨h1,h2,h3,h4,h5⟩:=h
     simp only at h5
     obtain⟨g1,g2,g3⟩:=h5
     exact⟨_,_,g3,fun K' hK'=>⟨h1,h2,h3,h4,g1,g2,hK'⟩⟩
    ·exact h.elim
   ·exact h.elim
  ·exact h.elim
theorem uN{τ:Option Ty}{s:List UInt8}{K:AV->List Obj->List Nat->Prop}(h:dI P τ own .nils s K) :
  ∃v obj',K v (own++[obj']) []/\∀K':AV->List Obj->List Nat->Prop,K' v (own++[obj']) []->dI P τ own .nils s K':=by
 unfold dI at h ⊢
 split at h
 ·split at h
  ·split at h
   ·obtain⟨h1,h2,h3,h4,h5,h6⟩:=h
    exact⟨_,_,h6,fun K' hK'=>⟨h1,h2,h3,h4,h5,hK'⟩⟩
   ·exact h.elim
  ·exact h.elim
 ·exact h.elim
theorem tW{t t':TypeId}{y:AV}{K:AV->List Obj->List Nat->Prop}(h:iy P own t t' .nils y K) :
  ∃v obj',K v (own++[obj']) []/\∀K':AV->List Obj->List Nat->Prop,K' v (own++[obj']) []->iy P own t t' .nils y K':=by
 unfold iy at h ⊢
 split at h
 ·rename_i e
  obtain⟨v,obj',h1,h2⟩:=wD h
  exact⟨v,obj',h1,fun K' hK'=>by rw[if_pos e];exact h2 K' hK'⟩
 ·rename_i e
  split at h
  ·rename_i hτ'
   obtain⟨v,obj',h1,h2⟩:=uN h.2
   exact⟨v,obj',h1,fun K' hK'=>by rw[if_neg e];exact⟨h.1,h2 K' hK'⟩⟩
  ·exact h.elim
theorem Fk{o:Oper}(hm:pH o=true){K:S->Prop}{σ:S}{all:Array Oper}(hc:lk ko o σ.slots)(h:opg P Γ all o K σ) :
  ∃v own' kl,K (σ.effect o.dst v own' kl)/\((kl=[]/\∃obj,own'=σ.own++[obj])∨(kl=[ko]/\∃obj,own'=(σ.own.map (Obj.kill ko)).set ko obj)) /\
   ∀(K':S->Prop) (σ':S),σ'.own=σ.own->(∀x∈o.op.operands.toList,ev σ'.slots x=ev σ.slots x)->K' (σ'.effect o.dst v own' kl)->opg P Γ all o K' σ':=by
 unfold pH at hm
 split at hm
 ·rename_i c hop hg
  split at hm
  ·rename_i lX
   unfold lk at hc
   rw[hop]at hc
   simp only at hc
   split at hc
   ·rename_i x y c5
    have e:∀(K:S->Prop) (σ:S),opg P Γ all o K σ=(match c.argTypes.toList with|[t,t']=>iy P σ.own t t' (ev σ.slots x) (ev σ.slots y) (gb o.dst K σ)|_=>False):=fun K σ=>by
     unfold opg
     rw[hg]
     simp only
     unfold opw
     rw[hop]
     simp only[isV,lX,eop,Bool.false_eq_true,if_false,rg,c5]
     split <;> simp_all
    rw[e]at h
    split at h
    ·rename_i t t' hts
     have mem:∀z∈c.args.toList,z∈o.op.operands.toList:=fun z hz=>by
      rw[hop]
      simp[Op.operands,Call.operands,lX,hz]
     split at hc
     ·rename_i o' off len hx
      subst hc
      rw[hx]at h
      obtain⟨v,obj',h1,h2⟩:=nC h
      refine⟨v,_,_,h1,.inr ⟨rfl,_,rfl⟩,fun K' σ' ho hxs hK'=>?_⟩
      rw[e,hts]
      simp only
      rw[ho,hxs x (mem x (by rw[c5];simp)),hxs y (mem y (by rw[c5];simp)),hx]
      exact h2 _ hK'
     ·rename_i hx
      rw[hx]at h
      obtain⟨v,obj',h1,h2⟩:=tW h
      refine⟨v,_,_,h1,.inl ⟨rfl,_,rfl⟩,fun K' σ' ho hxs hK'=>?_⟩
      rw[e,hts]
      simp only
      rw[ho,hxs x (mem x (by rw[c5];simp)),hxs y (mem y (by rw[c5];simp)),hx]
      exact h2 _ hK'
     ·exact hc.elim
    ·exact h.elim
   ·exact hc.elim
  ·cases hm
 ·cases hm
theorem pK{pf:List Nat}(hpf:aQ Γ pf){all:Array Oper}{p i:Oper}(hp:be pf p=true)(hap:p.apart all i=true){K:S->Prop}{σ:S}{Cp Ci:List AV->Prop}
  (hCp:∀s s',(∀x∈p.op.operands.toList,ev s' x=ev s x)->Cp s->Cp s') (hCi:∀s s',(∀x∈i.op.operands.toList,ev s' x=ev s x)->Ci s->Ci s')
  (hi:∀(K:S->Prop) (σ':S),σ'.own=σ.own->Cp σ.slots->Ci σ'.slots->opg P Γ all i K σ'->∃(v:AV) (own':List Obj) (kl:List Nat) (kv:AV->AV),K (σ'.effect i.dst v own' kl) /\
   (∀(K':S->Prop) (σ'':S),σ''.own=σ'.own->(∀x∈i.op.operands.toList,ev σ''.slots x=ev σ'.slots x)->K' (σ''.effect i.dst v own' kl)->opg P Γ all i K' σ'') /\
   (∀(s:List AV) (d:Nat) (u:AV),killAll kl (s.set d u)=(killAll kl s).set d (kv u))/\Cp (killAll kl σ.slots) /\
   (∀vp,vG P Γ pf all p σ.slots σ.own (fun v=>v=vp)->vG P Γ pf all p (killAll kl σ.slots) own' (fun v=>v=kv vp)))
  (h:Cp σ.slots/\opg P Γ all p (fun σ=>Ci σ.slots/\opg P Γ all i K σ) σ):Ci σ.slots/\opg P Γ all i (fun σ=>Cp σ.slots/\opg P Γ all p K σ) σ:=by
 obtain⟨h1,h2,h3⟩:=Oper.apart_spec hap
 obtain⟨cp,h⟩:=h
 rw[cm hpf hp]at h
 obtain⟨vp,⟨ci,hk⟩,hyp⟩:=fW pf all p σ.slots σ.own _ h
 have Ek:∀x∈i.op.operands.toList,ev σ.slots x=ev (σ.put p.dst vp).slots x:=fun x hx=>by
  cases hd:p.dst with
  | none=>rfl
  | some d =>
   simp only[S.put]
   rw[fR (fun e=>h1 d hd (cK (e ▸ hx)))]
 obtain⟨vi,own',kl,kv,hk2,hyi,hkl,hck,hst⟩:=hi _ _ (eT σ p.dst vp).1 cp ci hk
 refine⟨hCi _ _ Ek ci,hyi _ σ (eT σ p.dst vp).1.symm Ek ⟨?_,?_⟩⟩
 ·refine hCp _ _ (fun x hx=>?_) hck
  unfold S.effect
  cases hd:i.dst with
  | none=>rfl
  | some d =>
   simp only[S.put]
   rw[fR (fun e=>h3 d hd (cK (e ▸ hx)))]
 ·rw[cm hpf hp]
  have e:∀k,vG P Γ pf all p (σ.effect i.dst vi own' kl).slots (σ.effect i.dst vi own' kl).own k=vG P Γ pf all p (killAll kl σ.slots) own' k:=by
   intro k
   unfold S.effect
   exact gI (P:=P) (Γ:=Γ) (pf:=pf) (all:=all) (o:=p) (o':=i) (σ:={ slots:=killAll kl σ.slots,own:=own',n0:=σ.n0,mv:=bW σ.n0 σ.mv kl }) (u:=vi) (k:=k) h3
  rw[e]
  have hv:=hst vp (hyp (fun v=>v=vp) rfl)
  obtain⟨v',hvv,hy2⟩:=fW pf all p _ _ _ hv
  subst hvv
  refine hy2 _ ?_
  have e2:(σ.effect i.dst vi own' kl).put p.dst (kv vp)=(σ.put p.dst vp).effect i.dst vi own' kl:=by
   unfold S.effect
   have:=ff { slots:=killAll kl σ.slots,own:=own',n0:=σ.n0,mv:=bW σ.n0 σ.mv kl } (x:=p.dst) (y:=i.dst) (kv vp) vi h2
   rw[← this]
   congr 1
   cases hd:p.dst with
   | none=>rfl
   | some d=>simp only[S.put,hkl]
  rw[e2]
  exact hk2
def zC(o:Oper):Bool :=
 match o.op,o.guard with
 | .move _,none|.assign _,none=>true
 | _,_=>false
def Aw(o:Oper):Bool :=
 match o.op,o.guard with
 | .store _ _ _,none|.mapUpdate _ _ _ _,none|.insert _ _ _ _,none=>true
 | .call c,none=>(match c.callee with|.builtin .copy=>true|_=>false)
 | _,_=>false
theorem zJ{τ:Option Ty}{a x:AV}{K:AV->List Obj->List Nat->Prop}(h:fK τ own a x K):∃v own',K v own' []/\∀K':AV->List Obj->List Nat->Prop,K' v own' []->fK τ own a x K':=by
 unfold fK at h ⊢
 split at h
 ·obtain⟨obj',h1,h2⟩:=m5 h
  exact⟨_,_,h1,fun K' hK'=>h2 _ hK'⟩
 ·exact h.elim
theorem js{τ:Option Ty}{x k v:AV}{K:AV->List Obj->List Nat->Prop}(h:bx P τ own x k v K):∃v' own',K v' own' []/\∀K':AV->List Obj->List Nat->Prop,K' v' own' []->bx P τ own x k v K':=by
 unfold bx at h ⊢
 split at h
 ·split at h
  ·rename_i e1 _ _
   split at h
   ·rename_i e2 e3 e4
    obtain⟨h1,h2,h3⟩:=h
    refine⟨_,_,h3,fun K' hK'=>?_⟩
    exact⟨h1,h2,hK'⟩
   ·exact h.elim
  ·exact h.elim
 ·exact h.elim
theorem AZ{τ:Option Ty}{x y:AV}{K:AV->List Obj->List Nat->Prop}(h:rH P τ own x y K):∃v' own',K v' own' []/\∀K':AV->List Obj->List Nat->Prop,K' v' own' []->rH P τ own x y K':=by
 unfold rH at h ⊢
 split at h
 ·split at h
  ·split at h
   ·obtain⟨h1,h2,h3⟩:=h
    split at h3
    ·split at h3
     ·obtain⟨h4,h5,h6⟩:=h3
      exact⟨_,_,h6,fun K' hK'=>⟨h1,h2,h4,h5,hK'⟩⟩
     ·exact h3.elim
    ·exact h3.elim
   ·exact h.elim
  ·exact h.elim
 ·exact h.elim
theorem vI{o:Oper}(hm:Aw o=true){K:S->Prop}{σ:S}{all:Array Oper}(h:opg P Γ all o K σ) :
  ∃v own',K (σ.effect o.dst v own' [])/\Eff P Γ all o σ v own':=by
 unfold Aw at hm
 split at hm
 ·rename_i t a x hop hg
  have e:∀(K:S->Prop) (σ:S),opg P Γ all o K σ=fK (aw P t) σ.own (ev σ.slots a) (ev σ.slots x) (gb o.dst K σ):=fun K σ=>by
   unfold opg;rw[hg];simp only;unfold opw
   simp only[hop,isV,Bool.false_eq_true,if_false,eop]
  rw[e]at h
  obtain⟨v,own',h1,h2⟩:=zJ h
  refine⟨v,own',h1,fun K' σ' ho hx hK'=>?_⟩
  rw[e,hx a (by rw[hop];simp[Op.operands]),hx x (by rw[hop];simp[Op.operands]),ho]
  exact h2 _ hK'
 ·rename_i t m k x hop hg
  have e:∀(K:S->Prop) (σ:S),opg P Γ all o K σ=bx P (aw P t) σ.own (ev σ.slots m) (ev σ.slots k) (ev σ.slots x) (gb o.dst K σ):=fun K σ=>by
   unfold opg;rw[hg];simp only;unfold opw
   simp only[hop,isV,Bool.false_eq_true,if_false,eop]
  rw[e]at h
  obtain⟨v,own',h1,h2⟩:=js h
  refine⟨v,own',h1,fun K' σ' ho hx hK'=>?_⟩
  rw[e,hx m (by rw[hop];simp[Op.operands]),hx k (by rw[hop];simp[Op.operands]),hx x (by rw[hop];simp[Op.operands]),ho]
  exact h2 _ hK'
 ·rename_i t m k x hop hg
  have e:∀(K:S->Prop) (σ:S),opg P Γ all o K σ=bx P (aw P t) σ.own (ev σ.slots m) (ev σ.slots k) (ev σ.slots x) (gb o.dst K σ):=fun K σ=>by
   unfold opg;rw[hg];simp only;unfold opw
   simp only[hop,isV,Bool.false_eq_true,if_false,eop]
  rw[e]at h
  obtain⟨v,own',h1,h2⟩:=js h
  refine⟨v,own',h1,fun K' σ' ho hx hK'=>?_⟩
  rw[e,hx m (by rw[hop];simp[Op.operands]),hx k (by rw[hop];simp[Op.operands]),hx x (by rw[hop];simp[Op.operands]),ho]
  exact h2 _ hK'
 ·rename_i c hop hg
  split at hm
  ·rename_i lX
   have e:∀(K:S->Prop) (σ:S),opg P Γ all o K σ=(match c.args.toList,c.argTypes.toList with|[x,y],[t,_]=>rH P (aw P t) σ.own (ev σ.slots x) (ev σ.slots y) (gb o.dst K σ)|_,_=>False):=fun K σ=>by
    unfold opg;rw[hg];simp only;unfold opw
    rw[hop]
    simp only[isV,lX,eop,Bool.false_eq_true,if_false]
    unfold rg
    split <;> first|(simp_all;done)|skip
    split <;> first|(simp_all;done)|skip
    rename_i hno _ _ _ _ _ _ _ h1 h2
    exact(hno _ _ _ _ rfl h1 h2).elim
   rw[e]at h
   split at h
   ·rename_i x y t t' ha ht
    obtain⟨v,own',h1,h2⟩:=AZ h
    refine⟨v,own',h1,fun K' σ' ho hx hK'=>?_⟩
    have mem:∀z∈c.args.toList,z∈o.op.operands.toList:=fun z hz=>by
     rw[hop]
     simp[Op.operands,Call.operands,lX,hz]
    rw[e,ha,ht]
    simp only
    rw[hx x (mem x (by rw[ha];simp)),hx y (mem y (by rw[ha];simp)),ho]
    exact h2 _ hK'
   ·exact h.elim
  ·cases hm
 ·cases hm
theorem AS{pf:List Nat}{all:Array Oper}{o:Oper}(hm:zC o=true){s:List AV}{own own':List Obj}{k:AV->Prop}(h:vG P Γ pf all o s own k):vG P Γ pf all o s own' k:=by
 unfold zC at hm
 split at hm
 ·rename_i x hop hg
  unfold vG vB at h ⊢
  rw[hg]at h ⊢
  simp only[hop,isV,if_true,vop]at h ⊢
  exact h
 ·rename_i x hop hg
  unfold vG vB at h ⊢
  rw[hg]at h ⊢
  simp only[hop,isV,if_true,vop]at h ⊢
  exact h
 ·cases hm
theorem Mz{o:Oper}(hm:zC o=true):isV o.op=true:=by
 unfold zC at hm
 split at hm
 ·rename_i x hop hg;rw[hop];rfl
 ·rename_i x hop hg;rw[hop];rfl
 ·cases hm
def jJ(pf mf ms ks:List Nat)(ops:Array Oper)(p i:Nat):Bool :=
 match ops[p]?,ops[i]? with
 | some op,some oi=>op.apart ops oi && ((be pf op && be pf oi) || (isV op.op && (M0 mf oi || E1 oi)) || (isV op.op && ms.contains p && gO oi && ms.contains i) || (isQ op && isV op.op && ks.contains p && pH oi && ks.contains i && !ms.contains p) || (zC op && Aw oi))
 | _,_=>false
theorem xR{pf:List Nat}(hpf:aQ Γ pf){all:Array Oper}{p i:Oper}(hp:be pf p=true)(hi:be pf i=true)(hap:p.apart all i=true){Cp Ci:List AV->Prop}{K:S->Prop}{σ:S}
  (hCp:∀s s',(∀x∈p.op.operands.toList,ev s' x=ev s x)->Cp s->Cp s') (hCi:∀s s',(∀x∈i.op.operands.toList,ev s' x=ev s x)->Ci s->Ci s')
  (h:Cp σ.slots/\opg P Γ all p (fun σ=>Ci σ.slots/\opg P Γ all i K σ) σ):Ci σ.slots/\opg P Γ all i (fun σ=>Cp σ.slots/\opg P Γ all p K σ) σ:=by
 obtain⟨h1,h2,h3⟩:=Oper.apart_spec hap
 obtain⟨cp,h⟩:=h
 rw[cm hpf hp]at h
 obtain⟨vp,⟨ci,hk⟩,hyp⟩:=fW pf all p σ.slots σ.own _ h
 rw[cm hpf hi,gI h1]at hk
 obtain⟨vi,hk2,hyi⟩:=fW pf all i σ.slots σ.own _ hk
 have sameOps:∀(a b:Oper) (v:AV),(∀d,a.dst=some d->d∉b.looksAt all)->∀x∈b.op.operands.toList,ev (σ.put a.dst v).slots x=ev σ.slots x:=fun a b v hab x hx=>by
  cases hd:a.dst with
  | none=>rfl
  | some d =>
   simp only[S.put]
   rw[fR (fun e=>hab d hd (cK (e ▸ hx)))]
 refine⟨hCi _ _ (fun x hx=>(sameOps p i vp h1 x hx).symm) ci,?_⟩
 rw[cm hpf hi]
 refine hyi _ ⟨hCp _ _ (sameOps i p vi h3) cp,?_⟩
 rw[cm hpf hp,gI h3]
 refine hyp _ ?_
 rw[← ff σ vp vi h2]
 exact hk2
theorem killAll_nil(s:List AV):killAll [] s=s:=rfl
theorem cX(o:Nat)(s:List AV):killAll [o] s=AV.kills o s:=rfl
theorem Y6{pf mf ms ks:List Nat}(hpf:aQ Γ pf)(hmf:bF Γ mf){ops:Array Oper}{p i:Nat}{op oi:Oper}(hop:ops[p]?=some op)(hi:ops[i]?=some oi)(hp:jJ pf mf ms ks ops p i=true){K:S->Prop}{σ:S}
  (h:opx P Γ ops ob ko (ms.contains p) (ks.contains p) op (opx P Γ ops ob ko (ms.contains i) (ks.contains i) oi K) σ):opx P Γ ops ob ko (ms.contains i) (ks.contains i) oi (opx P Γ ops ob ko (ms.contains p) (ks.contains p) op K) σ:=by
 unfold jJ at hp
 rw[hi,hop]at hp
 simp only[Bool.and_eq_true,Bool.or_eq_true]at hp
 obtain⟨hap,hk⟩:=hp
 have hC:∀(o:Oper) (m k:Bool) (s s':List AV),(∀x∈o.op.operands.toList,ev s' x=ev s x)->((m=true->cA ob o s)/\(k=true->lk ko o s))->((m=true->cA ob o s')/\(k=true->lk ko o s')):=fun o m k s s' hx hc=>⟨fun hm=>dY hx (hc.1 hm),fun hk=>wo hx (hc.2 hk)⟩
 have same:∀(vp:AV) (ex:List Obj),isV op.op=true->vG P Γ pf ops op σ.slots σ.own (fun v=>v=vp)->vG P Γ pf ops op (killAll [] σ.slots) (σ.own++ex) (fun v=>v=vp):=fun vp ex hv hg=>kF hv ex _ hg
 rcases hk with(((hk|hk)|hk)|hk)|hk
 ·exact xR hpf hk.1 hk.2 hap (hC op _ _) (hC oi _ _) h
 ·refine pK hpf (by simp[be,hk.1]) hap (hC op _ _) (hC oi _ _) (fun K σ' ho cp ci hh=>?_) h
  have Ys:∃v ex,K (σ'.effect oi.dst v (σ'.own++ex) [])/\Eff P Γ ops oi σ' v (σ'.own++ex):=by
   rcases hk.2 with hm|hl
   ·exact va hmf hm hh
   ·exact wd hl hh
  obtain⟨v,ex,g1,g2⟩:=Ys
  exact⟨v,_,[],id,g1,g2,fun s d u=>rfl,cp,fun vp hg=>by rw[ho];exact same vp ex hk.1 hg⟩
 ·refine pK hpf (by simp[be,hk.1.1.1]) hap (hC op _ _) (hC oi _ _) (fun K σ' ho cp ci hh=>?_) h
  obtain⟨obj',g1,g2⟩:=nN hk.1.2 (ci.1 hk.2) hh
  exact⟨.top,_,[],id,g1,g2,fun s d u=>rfl,cp,fun vp hg=>by rw[ho];exact oK hk.1.1.1 (cp.1 hk.1.1.2) hg⟩
 ·obtain⟨⟨⟨⟨⟨q1,q2⟩,q3⟩,q4⟩,q5⟩,q6⟩:=hk
  have q6:ms.contains p=false:=by simpa using q6
  refine pK hpf (by simp[be,q2]) hap (hC op _ _) (hC oi _ _) (fun K σ' ho cp ci hh=>?_) h
  obtain⟨v,own',kl,g1,g2,g3⟩:=Fk q4 (ci.2 q5) hh
  rcases g2 with⟨rfl,obj,rfl⟩|⟨rfl,obj,rfl⟩
  ·exact⟨v,_,[],id,g1,g3,fun s d u=>rfl,cp,fun vp hg=>by rw[ho];exact same vp _ q2 hg⟩
  ·have hg:op.guard=none:=by
    unfold isQ at q1
    split at q1 <;> first|assumption|cases q1
   have hcA:dD ko op σ.slots:=by
    have:=cp.2 q3
    unfold lk at this
    split at this
    ·rename_i c YY
     unfold isQ at q1
     rw[YY]at q1
     cases q1
    ·exact this
   have eG:∀(s:List AV) (own:List Obj) (k:AV->Prop),vG P Γ pf ops op s own k=vop P own s op.op k:=fun s own k=>by
    unfold vG vB
    rw[hg]
    simp only[q2,if_true]
   refine⟨v,_,[ko],AV.kill ko,g1,g3,fun s d u=>by rw[cX,cX,kx],⟨fun hm=>(by rw[q6]at hm;cases hm),fun _=>?_⟩,fun vp hvg=>?_⟩
   ·rw[cX]
    have:=nP q1 hcA
    unfold lk
    split
    ·rename_i c YY
     unfold isQ at q1
     rw[YY]at q1
     cases q1
    ·exact this
   ·rw[eG]at hvg
    rw[eG,cX,ho]
    have:=sA q1 (obj':=obj) hcA hvg
    obtain⟨v',⟨u,rfl,rfl⟩,hy⟩:=ph _ op.op _ this
    exact hy _ rfl
 ·refine pK hpf (by simp[be,Mz hk.1]) hap (hC op _ _) (hC oi _ _) (fun K σ' ho cp ci hh=>?_) h
  obtain⟨v,own',g1,g2⟩:=vI hk.2 hh
  exact⟨v,own',[],id,g1,g2,fun s d u=>rfl,cp,fun vp hg=>AS hk.1 hg⟩
end
def okG(pf mf ms ks:List Nat)(ops:Array Oper):DT->Option (List Nat)->Bool
 | .fin,none=>true
 | .stop,some _=>true
 | .one p t,none=>(t.ops.all fun i=>Region.waitsFor .any ops i p || jJ pf mf ms ks ops p i) && okG pf mf ms ks ops t none
 | .alt x t u,none=>okG pf mf ms ks ops t none && okG pf mf ms ks ops u (some (x :: t.ops)) && ((x :: t.ops).all fun i=>(x :: u.heads).contains i || (x :: t.ops).any fun j=>Region.waitsFor .any ops i j)
 | .alt x t u,some R=>okG pf mf ms ks ops t none && ot R (x :: t.ops) && okG pf mf ms ks ops u (some R)
 | _,_=>false
def wC(pf mf ms ks:List Nat)(ops:Array Oper)(i:Nat):DT->Option DT
 | .one p t=>if p=i then some t else if jJ pf mf ms ks ops p i=true then (wC pf mf ms ks ops i t).map (.one p) else none
 | .alt x t u=>if x=i then some t else wC pf mf ms ks ops i u
 | _=>none
section
variable {P:Program} {Γ:Nat->a8} {ob ko:Nat}
def chT(P:Program)(Γ:Nat->a8)(ops:Array Oper)(ob ko:Nat)(ms ks:List Nat)(Q:Exit->S->Prop):DT->S->Prop
 | .fin,σ=>Q .normal σ
 | .stop,_=>True
 | .one p t,σ=>(match ops[p]? with|some o=>opx P Γ ops ob ko (ms.contains p) (ks.contains p) o (chT P Γ ops ob ko ms ks Q t) σ|none=>False)
 | .alt x t u,σ=>(match ops[x]? with|some o=>opx P Γ ops ob ko (ms.contains x) (ks.contains x) o (chT P Γ ops ob ko ms ks Q t) σ|none=>False)/\chT P Γ ops ob ko ms ks Q u σ
theorem PB{pf mf ms ks:List Nat}{ops:Array Oper}{p i:Nat}{op oi:Oper}(hop:ops[p]?=some op)(hi:ops[i]?=some oi)(hp:jJ pf mf ms ks ops p i=true):be pf op=true:=by
 unfold jJ at hp
 rw[hi,hop]at hp
 simp only[Bool.and_eq_true,Bool.or_eq_true]at hp
 rcases hp.2 with(((hk|hk)|hk)|hk)|hk
 ·exact hk.1
 ·simp[be,hk.1]
 ·simp[be,hk.1.1.1]
 ·simp[be,hk.1.1.1.1.2]
 ·simp[be,Mz hk.1]
theorem wj{pf mf ms ks:List Nat}(hpf:aQ Γ pf)(hmf:bF Γ mf){ops:Array Oper}{Q:Exit->S->Prop}{i:Nat}{oi:Oper}(hi:ops[i]?=some oi):∀(T T':DT) (σ:S),wC pf mf ms ks ops i T=some T'->chT P Γ ops ob ko ms ks Q T σ->opx P Γ ops ob ko (ms.contains i) (ks.contains i) oi (chT P Γ ops ob ko ms ks Q T') σ
 | .fin,T',σ,h,_=>by simp[wC]at h
 | .stop,T',σ,h,_=>by simp[wC]at h
 | .one p t,T',σ,h,hc=>by
  simp only[wC]at h
  simp only[chT]at hc
  by_cases e:p=i
  ·subst e
   rw[if_pos rfl]at h
   cases h
   rw[hi]at hc
   exact hc
  ·rw[if_neg e]at h
   split at h
   ·rename_i hsw
    obtain⟨t',ht,rfl⟩:=Option.map_eq_some_iff.1 h
    split at hc
    ·rename_i op hop
     have hv:=PB hop hi hsw
     have h':opx P Γ ops ob ko (ms.contains p) (ks.contains p) op (opx P Γ ops ob ko (ms.contains i) (ks.contains i) oi (chT P Γ ops ob ko ms ks Q t')) σ :=
      ⟨hc.1,dz hpf hv (fun σ' hσ'=>wj hpf hmf hi t t' σ' ht hσ') hc.2⟩
     have:=Y6 hpf hmf hop hi hsw h'
     have e2:chT P Γ ops ob ko ms ks Q (.one p t')=opx P Γ ops ob ko (ms.contains p) (ks.contains p) op (chT P Γ ops ob ko ms ks Q t'):=by funext s;simp only[chT,hop]
     rw[e2]
     exact this
    ·exact hc.elim
   ·cases h
 | .alt x t u,T',σ,h,hc=>by
  simp only[wC]at h
  simp only[chT]at hc
  by_cases e:x=i
  ·subst e
   rw[if_pos rfl]at h
   cases h
   have h1:=hc.1
   rw[hi]at h1
   exact h1
  ·rw[if_neg e]at h
   exact wj hpf hmf hi u T' σ h hc.2
theorem kb{pf mf ms ks:List Nat}{ops:Array Oper}{i:Nat}:∀(T:DT),
  (okG pf mf ms ks ops T none=true->T.ops.Nodup->i∈T.ops->(∀p∈T.ops,Region.waitsFor .any ops i p=false)->∃T',wC pf mf ms ks ops i T=some T'/\okG pf mf ms ks ops T' none=true/\(∀j,j∈T'.ops↔j∈T.ops/\j≠i)/\T'.ops.length+1=T.ops.length/\T'.ops.Nodup) /\
  (∀R,okG pf mf ms ks ops T (some R)=true->i∈T.heads->∃T',wC pf mf ms ks ops i T=some T'/\okG pf mf ms ks ops T' none=true/\(∀j,j∈T'.ops↔j∈R/\j≠i)/\T'.ops.length+1=R.length/\T'.ops.Nodup)
 | .fin=>⟨fun _ _ h=>by simp[DT.ops]at h,fun R h=>by simp[okG]at h⟩
 | .stop=>⟨fun h=>by simp[okG]at h,fun R _ h=>by simp[DT.heads]at h⟩
 | .one p t=>by
  refine⟨fun h hn hm hw=>?_,fun R h=>by simp[okG]at h⟩
  simp only[okG,Bool.and_eq_true]at h
  simp only[DT.ops]at hn hm hw
  obtain⟨n1,n2⟩:=List.nodup_cons.1 hn
  by_cases e:p=i
  ·subst e
   refine⟨t,by simp[wC],h.2,fun j=>?_,by simp[DT.ops],n2⟩
   simp only[DT.ops,List.mem_cons]
   constructor
   ·intro hj;exact⟨.inr hj,fun ej=>n1 (ej ▸ hj)⟩
   ·rintro ⟨hj|hj,hne⟩
    ·exact(hne hj).elim
    ·exact hj
  ·have hmt:i∈t.ops:=by
    rcases List.mem_cons.1 hm with h1|h1
    ·exact(e h1.symm).elim
    ·exact h1
   obtain⟨T',b1,b2,b3,b4,b5⟩:=(kb (i:=i) t).1 h.2 n2 hmt (fun q hq=>hw q (by simp[hq]))
   have hsw:jJ pf mf ms ks ops p i=true:=by
    have:=List.all_eq_true.1 h.1 i hmt
    rw[hw p (by simp)]at this
    simpa using this
   refine⟨.one p T',by simp[wC,e,hsw,b1],?_,fun j=>?_,by simp only[DT.ops,List.length_cons];omega,?_⟩
   ·simp only[okG,Bool.and_eq_true]
    exact⟨List.all_eq_true.2 fun j hj=>List.all_eq_true.1 h.1 j ((b3 j).1 hj).1,b2⟩
   ·simp only[DT.ops,List.mem_cons,b3]
    constructor
    ·rintro (rfl|⟨h1,h2⟩)
     ·exact⟨.inl rfl,e⟩
     ·exact⟨.inr h1,h2⟩
    ·rintro ⟨h1|h1,h2⟩
     ·exact .inl h1
     ·exact .inr ⟨h1,h2⟩
   ·exact List.nodup_cons.2 ⟨fun hp=>n1 ((b3 p).1 hp).1,b5⟩
 | .alt x t u=>by
  refine⟨fun h hn hm hw=>?_,fun R h hm=>?_⟩
  ·simp only[okG,Bool.and_eq_true]at h
   obtain⟨⟨h1,h2⟩,h3⟩:=h
   simp only[DT.ops]at hn hm hw
   obtain⟨n1,n2⟩:=List.nodup_cons.1 hn
   have Ee:i∈x :: u.heads:=by
    have:=List.all_eq_true.1 h3 i hm
    rcases Bool.or_eq_true_iff.1 this with h4|h4
    ·simpa using h4
    ·obtain⟨j,hj,hwj⟩:=List.any_eq_true.1 h4
     rw[hw j hj]at hwj
     cases hwj
   by_cases e:x=i
   ·subst e
    refine⟨t,by simp[wC],h1,fun j=>?_,by simp[DT.ops],n2⟩
    simp only[DT.ops,List.mem_cons]
    constructor
    ·intro hj;exact⟨.inr hj,fun ej=>n1 (ej ▸ hj)⟩
    ·rintro ⟨hj|hj,hne⟩
     ·exact(hne hj).elim
     ·exact hj
   ·have hu:i∈u.heads:=by
     rcases List.mem_cons.1 Ee with h4|h4
     ·exact(e h4.symm).elim
     ·exact h4
    obtain⟨T',b1,b2,b3,b4,b5⟩:=(kb (i:=i) u).2 (x :: t.ops) h2 hu
    exact⟨T',by simp[wC,e,b1],b2,fun j=>by simp only[DT.ops];exact b3 j,by simpa only[DT.ops] using b4,b5⟩
  ·simp only[okG,Bool.and_eq_true]at h
   obtain⟨⟨h1,h2⟩,h3⟩:=h
   obtain⟨s1,s2,s3⟩:=iI h2
   obtain⟨n1,n2⟩:=List.nodup_cons.1 s3
   by_cases e:x=i
   ·subst e
    refine⟨t,by simp[wC],h1,fun j=>?_,by simpa using s1.symm,n2⟩
    rw[s2 j]
    simp only[List.mem_cons]
    constructor
    ·intro hj;exact⟨.inr hj,fun ej=>n1 (ej ▸ hj)⟩
    ·rintro ⟨hj|hj,hne⟩
     ·exact(hne hj).elim
     ·exact hj
   ·have hu:i∈u.heads:=by
     rcases List.mem_cons.1 (show i∈x :: u.heads from hm) with h4|h4
     ·exact(e h4.symm).elim
     ·exact h4
    obtain⟨T',b1,b2,b3,b4,b5⟩:=(kb (i:=i) u).2 R h3 hu
    exact⟨T',by simp[wC,e,b1],b2,b3,b4,b5⟩
theorem CL{pf mf ms ks:List Nat}{ops:Array Oper}{T:DT}(h:okG pf mf ms ks ops T none=true)(he:T.ops=[]):T=.fin:=by
 cases T with
 | fin=>rfl
 | stop=>simp[okG]at h
 | one p t=>simp[DT.ops]at he
 | alt x t u=>simp[DT.ops]at he
theorem yW{pf mf ms ks:List Nat}(hΓ:OkG P Γ)(hpf:aQ Γ pf)(hmf:bF Γ mf){ops:Array Oper}{Q:Exit->S->Prop}(gk:gx ops=true)(dk:e9 ops=true){c:Ctx}:∀(fuel:Nat) (T:DT) (listed:Array Bool) (σ:S) (a:Act) (w:World),listed.size=ops.size ->
  okG pf mf ms ks ops T none=true->T.ops.Nodup->(∀i,i<ops.size->(listed.getD i true=false↔i∈T.ops))->(∀i∈T.ops,i<ops.size)->T.ops.length<=fuel->St c σ a w->chT P Γ ops ob ko ms ks Q T σ->wpAnyIn (fen c.rd) 0 P .any ops (lift c Q) fuel listed a w:=by
 intro fuel
 induction fuel with
 | zero =>
  intro T listed σ a w hsz hok hnd dB hlt hf hst hch
  have he:T.ops=[]:=List.eq_nil_of_length_eq_zero (by omega)
  obtain rfl:=CL hok he
  refine⟨?_,bn hst hch⟩
  rw[List.eq_nil_iff_forall_not_mem]
  intro i hi
  obtain⟨g1,o,g2,_⟩:=mem_ready.1 hi
  have hi':i<ops.size:=(Array.getElem?_eq_some_iff.1 g2).1
  have:=(dB i hi').1 g1
  rw[he]at this
  cases this
 | succ fuel ih =>
  intro T listed σ a w hsz hok hnd dB hlt hf hst hch
  refine⟨fun hr=>?_,fun i hi=>?_⟩
  ·have he:T.ops=[]:=by
    rw[List.eq_nil_iff_forall_not_mem]
    intro i hi
    have h1:=kw gk dk hsz hr i (hlt i hi)
    rw[(dB i (hlt i hi)).2 hi]at h1
    cases h1
   obtain rfl:=CL hok he
   exact bn hst hch
  ·obtain⟨g1,o,g2,g3⟩:=mem_ready.1 hi
   have hi':i<ops.size:=(Array.getElem?_eq_some_iff.1 g2).1
   have him:=(dB i hi').1 g1
   obtain⟨T',b1,b2,b3,b4,b5⟩:=(kb (i:=i) T).1 hok hnd him (fun p hp=>ft g2 g3 ((dB p (hlt p hp)).2 hp))
   have hb:=wj hpf hmf g2 T T' σ b1 hch
   have vo:∀j,j<ops.size->((listed.setIfInBounds i true).getD j true=false↔j∈T'.ops):=fun j hj=>by
    rw[b3 j]
    by_cases e:i=j
    ·subst e
     simp[hsz,hi']
    ·have e':j≠i:=fun h=>e h.symm
     have h1:(listed.setIfInBounds i true).getD j true=listed.getD j true:=by simp[Array.getElem?_setIfInBounds_ne e]
     rw[h1,dB j hj]
     simp[e']
   have eH:∀j∈T'.ops,j<ops.size:=fun j hj=>hlt j ((b3 j).1 hj).1
   unfold wpOpIn
   simp only[g2]
   rcases cf hΓ (Q:=lift c Q) hst hb.2 with⟨hw,hwp⟩|⟨hw,σ',bA,hK⟩
   ·rw[if_pos hw]
    refine Oper.wpIn_mono ?_ hwp
    rintro a' w' ⟨σ',bA,hK⟩
    exact ih T' _ σ' a' w' (by simp[hsz]) b2 b5 vo eH (by omega) bA hK
   ·rw[if_neg (by simp[hw])]
    exact⟨fun _ _=>trivial,ih T' _ σ' _ w (by simp[hsz]) b2 b5 vo eH (by omega) bA hK⟩
def AR(pf mf ms ks:List Nat)(ops:Array Oper)(T:DT):Bool:=okG pf mf ms ks ops T none && gx ops && e9 ops && dC ops.size T.ops && fC T.ops
theorem E8{pf mf ms ks:List Nat}(hm:P.follows .mixedOrders=true)(hΓ:OkG P Γ)(hpf:aQ Γ pf)(hmf:bF Γ mf){id:Nat}{ops:Array Oper}{Q:Exit->S->Prop}{σ:S}(T:DT)(hok:AR pf mf ms ks ops T=true)
  (h:chT P Γ ops ob ko ms ks Q T σ):sem P (.region id ops true) Q σ:=by
 intro c a w hst
 refine wpIn_region_any hm ?_
 have bA:St c σ a { w with drawn:=w.drawn+1 }:=by
  obtain⟨hd,hn,F,φ,h2,h3,h4⟩:=hst
  refine⟨hd,hn,F,φ,⟨h2.sub,⟨h2.ext.os,h2.ext.tape,h2.ext.output,h2.ext.size,h2.ext.same,Nat.le_trans h2.ext.drn (Nat.le_succ _)⟩,h2.keep,h2.rest,h2.orig,h2.frsh⟩,h3.drew,?_⟩
  exact AV.Rs_mono (fun _ h=>h) eE (fun _ _ h=>h) _ _ h4
 simp only[AR,Bool.and_eq_true]at hok
 obtain⟨⟨⟨⟨h1,h2⟩,h3⟩,h4⟩,h5⟩:=hok
 simp only[dC,Bool.and_eq_true,List.all_eq_true,List.mem_range,List.contains_eq_mem,decide_eq_true_eq]at h4
 obtain⟨⟨m1,m2⟩,m3⟩:=h4
 refine yW hΓ hpf hmf h2 h3 ops.size T _ σ a _ (by simp) h1 (dP h5) (fun i hi=>?_) m3 (by omega) bA h
 simp[hi,m1 i hi]
end
end Go.AM

