/- Own work over the model of the kit. -/
import Derived.Test.YtjfoclncfhiffaaD8
import Derived.Test.YtjfoclncfhiffaaD7
set_option linter.unnecessarySimpa false
set_option linter.unusedSimpArgs false
set_option linter.unusedVariables false
namespace Go.AM
open Go
inductive DT where
 | fin
 | stop
 | one (p:Nat) (t:DT)
 | alt (x:Nat) (t u:DT)
deriving Inhabited
def DT.ops:DT->List Nat
 | .fin=>[]
 | .stop=>[]
 | .one p t=>p :: t.ops
 | .alt x t _=>x :: t.ops
def DT.heads:DT->List Nat
 | .alt x _ u=>x :: u.heads
 | _=>[]
def sameSet(R L:List Nat):Bool:=decide (R.length=L.length) && R.all (fun i=>L.contains i) && L.all (fun i=>R.contains i) && nodupB L
theorem sameSet_spec{R L:List Nat}(h:sameSet R L=true):R.length=L.length/\(∀i,i∈R↔i∈L)/\L.Nodup:=by
 simp only[sameSet,Bool.and_eq_true,decide_eq_true_eq,List.all_eq_true,List.contains_eq_mem]at h
 obtain⟨⟨⟨h1,h2⟩,h3⟩,h4⟩:=h
 exact⟨h1,fun i=>⟨fun hi=>by simpa using h2 i hi,fun hi=>by simpa using h3 i hi⟩,nodup_of h4⟩
section
variable {P:Program} {Γ:Nat->Contract} {own:List Obj} {ob ko:Nat}
def condX(ko:Nat)(o:Oper)(s:List AV):Prop :=
 match o.op with
 | .call c=>(match c.args.toList with|[x,_]=>(match ev s x with|.sl o' _ _=>o'=ko|.nils=>True|_=>False)|_=>False)
 | _=>condA ko o s
theorem condX_congr{o:Oper}{s s':List AV}(h:∀x∈o.op.operands.toList,ev s' x=ev s x)(hc:condX ko o s):condX ko o s':=by
 unfold condX at hc ⊢
 split
 ·rename_i c hop
  rw[hop]at hc h
  simp only at hc
  split at hc
  ·rename_i x y hargs
   rw[h x (by simp[Op.operands,Call.operands,hargs])]
   exact hc
  ·exact hc.elim
 ·rename_i hn
  split at hc
  ·rename_i hop;exact(hn _ hop).elim
  ·exact condA_congr h hc
def opx(P:Program)(Γ:Nat->Contract)(all:Array Oper)(ob ko:Nat)(m k:Bool)(o:Oper)(K:S->Prop)(σ:S):Prop:=((m=true->condM ob o σ.slots)/\(k=true->condX ko o σ.slots))/\opg P Γ all o K σ
theorem appendn_det{τ:Option Ty}{y:AV}{K:AV->List Obj->List Nat->Prop}(h:appendw P τ own .nils y K) :
  ∃v obj',K v (own++[obj']) []/\∀K':AV->List Obj->List Nat->Prop,K' v (own++[obj']) []->appendw P τ own .nils y K':=by
 unfold appendw at h ⊢
 simp only at h ⊢
 split at h
 ·rename_i ys hys
  unfold appendNw at h ⊢
  split at h
  ·split at h
   ·split at h
    ·obtain⟨h1,h2,h3,h4,h5,h6⟩:=h
     exact⟨_,_,h6,fun K' hK'=>⟨h1,h2,h3,h4,h5,hK'⟩⟩
    ·exact h.elim
   ·exact h.elim
  ·exact h.elim
 ·unfold appendRw at h ⊢
  split at h
  ·split at h
   ·split at h
    ·obtain⟨h1,h2,h3,h4,h5⟩:=h
     simp only at h5
     obtain⟨g1,g2,g3⟩:=h5
     exact⟨_,_,g3,fun K' hK'=>⟨h1,h2,h3,h4,g1,g2,hK'⟩⟩
    ·exact h.elim
   ·exact h.elim
  ·exact h.elim
theorem appendSn_det{τ:Option Ty}{s:List UInt8}{K:AV->List Obj->List Nat->Prop}(h:appendSw P τ own .nils s K) :
  ∃v obj',K v (own++[obj']) []/\∀K':AV->List Obj->List Nat->Prop,K' v (own++[obj']) []->appendSw P τ own .nils s K':=by
 unfold appendSw at h ⊢
 split at h
 ·split at h
  ·split at h
   ·obtain⟨h1,h2,h3,h4,h5,h6⟩:=h
    exact⟨_,_,h6,fun K' hK'=>⟨h1,h2,h3,h4,h5,hK'⟩⟩
   ·exact h.elim
  ·exact h.elim
 ·exact h.elim
theorem appTn_det{t t':TypeId}{y:AV}{K:AV->List Obj->List Nat->Prop}(h:appTw P own t t' .nils y K) :
  ∃v obj',K v (own++[obj']) []/\∀K':AV->List Obj->List Nat->Prop,K' v (own++[obj']) []->appTw P own t t' .nils y K':=by
 unfold appTw at h ⊢
 split at h
 ·rename_i e
  obtain⟨v,obj',h1,h2⟩:=appendn_det h
  exact⟨v,obj',h1,fun K' hK'=>by rw[if_pos e];exact h2 K' hK'⟩
 ·rename_i e
  split at h
  ·rename_i hτ'
   obtain⟨v,obj',h1,h2⟩:=appendSn_det h.2
   exact⟨v,obj',h1,fun K' hK'=>by rw[if_neg e];exact⟨h.1,h2 K' hK'⟩⟩
  ·exact h.elim
theorem appx_det{o:Oper}(hm:isApp o=true){K:S->Prop}{σ:S}{all:Array Oper}(hc:condX ko o σ.slots)(h:opg P Γ all o K σ) :
  ∃v own' kl,K (σ.effect o.dst v own' kl)/\((kl=[]/\∃obj,own'=σ.own++[obj])∨(kl=[ko]/\∃obj,own'=(σ.own.map (Obj.kill ko)).set ko obj)) /\
   ∀(K':S->Prop) (σ':S),σ'.own=σ.own->(∀x∈o.op.operands.toList,ev σ'.slots x=ev σ.slots x)->K' (σ'.effect o.dst v own' kl)->opg P Γ all o K' σ':=by
 unfold isApp at hm
 split at hm
 ·rename_i c hop hg
  split at hm
  ·rename_i hcal
   unfold condX at hc
   rw[hop]at hc
   simp only at hc
   split at hc
   ·rename_i x y hargs
    have e:∀(K:S->Prop) (σ:S),opg P Γ all o K σ=(match c.argTypes.toList with|[t,t']=>appTw P σ.own t t' (ev σ.slots x) (ev σ.slots y) (PutE o.dst K σ)|_=>False):=fun K σ=>by
     unfold opg
     rw[hg]
     simp only
     unfold opw
     rw[hop]
     simp only[isV,hcal,eop,Bool.false_eq_true,if_false,ecall,hargs]
     split <;> simp_all
    rw[e]at h
    split at h
    ·rename_i t t' hts
     have mem:∀z∈c.args.toList,z∈o.op.operands.toList:=fun z hz=>by
      rw[hop]
      simp[Op.operands,Call.operands,hcal,hz]
     split at hc
     ·rename_i o' off len hx
      subst hc
      rw[hx]at h
      obtain⟨v,obj',h1,h2⟩:=appTw_det h
      refine⟨v,_,_,h1,.inr ⟨rfl,_,rfl⟩,fun K' σ' ho hxs hK'=>?_⟩
      rw[e,hts]
      simp only
      rw[ho,hxs x (mem x (by rw[hargs];simp)),hxs y (mem y (by rw[hargs];simp)),hx]
      exact h2 _ hK'
     ·rename_i hx
      rw[hx]at h
      obtain⟨v,obj',h1,h2⟩:=appTn_det h
      refine⟨v,_,_,h1,.inl ⟨rfl,_,rfl⟩,fun K' σ' ho hxs hK'=>?_⟩
      rw[e,hts]
      simp only
      rw[ho,hxs x (mem x (by rw[hargs];simp)),hxs y (mem y (by rw[hargs];simp)),hx]
      exact h2 _ hK'
     ·exact hc.elim
    ·exact h.elim
   ·exact hc.elim
  ·cases hm
 ·cases hm
theorem swapG{pf:List Nat}(hpf:PureFns Γ pf){all:Array Oper}{p i:Oper}(hp:vlike pf p=true)(hap:p.apart all i=true){K:S->Prop}{σ:S}{Cp Ci:List AV->Prop}
  (hCp:∀s s',(∀x∈p.op.operands.toList,ev s' x=ev s x)->Cp s->Cp s') (hCi:∀s s',(∀x∈i.op.operands.toList,ev s' x=ev s x)->Ci s->Ci s')
  (hi:∀(K:S->Prop) (σ':S),σ'.own=σ.own->Cp σ.slots->Ci σ'.slots->opg P Γ all i K σ'->∃(v:AV) (own':List Obj) (kl:List Nat) (kv:AV->AV),K (σ'.effect i.dst v own' kl) /\
   (∀(K':S->Prop) (σ'':S),σ''.own=σ'.own->(∀x∈i.op.operands.toList,ev σ''.slots x=ev σ'.slots x)->K' (σ''.effect i.dst v own' kl)->opg P Γ all i K' σ'') /\
   (∀(s:List AV) (d:Nat) (u:AV),killAll kl (s.set d u)=(killAll kl s).set d (kv u))/\Cp (killAll kl σ.slots) /\
   (∀vp,vG P Γ pf all p σ.slots σ.own (fun v=>v=vp)->vG P Γ pf all p (killAll kl σ.slots) own' (fun v=>v=kv vp)))
  (h:Cp σ.slots/\opg P Γ all p (fun σ=>Ci σ.slots/\opg P Γ all i K σ) σ):Ci σ.slots/\opg P Γ all i (fun σ=>Cp σ.slots/\opg P Γ all p K σ) σ:=by
 obtain⟨h1,h2,h3⟩:=Oper.apart_spec hap
 obtain⟨cp,h⟩:=h
 rw[opg_vG hpf hp]at h
 obtain⟨vp,⟨ci,hk⟩,hyp⟩:=vG_det pf all p σ.slots σ.own _ h
 have hops:∀x∈i.op.operands.toList,ev σ.slots x=ev (σ.put p.dst vp).slots x:=fun x hx=>by
  cases hd:p.dst with
  | none=>rfl
  | some d =>
   simp only[S.put]
   rw[ev_set (fun e=>h1 d hd (looks_op (e ▸ hx)))]
 obtain⟨vi,own',kl,kv,hk2,hyi,hkl,hck,hst⟩:=hi _ _ (put_own σ p.dst vp).1 cp ci hk
 refine⟨hCi _ _ hops ci,hyi _ σ (put_own σ p.dst vp).1.symm hops ⟨?_,?_⟩⟩
 ·refine hCp _ _ (fun x hx=>?_) hck
  unfold S.effect
  cases hd:i.dst with
  | none=>rfl
  | some d =>
   simp only[S.put]
   rw[ev_set (fun e=>h3 d hd (looks_op (e ▸ hx)))]
 ·rw[opg_vG hpf hp]
  have e:∀k,vG P Γ pf all p (σ.effect i.dst vi own' kl).slots (σ.effect i.dst vi own' kl).own k=vG P Γ pf all p (killAll kl σ.slots) own' k:=by
   intro k
   unfold S.effect
   exact vG_put (P:=P) (Γ:=Γ) (pf:=pf) (all:=all) (o:=p) (o':=i) (σ:={ slots:=killAll kl σ.slots,own:=own',n0:=σ.n0,mv:=addMv σ.n0 σ.mv kl }) (u:=vi) (k:=k) h3
  rw[e]
  have hv:=hst vp (hyp (fun v=>v=vp) rfl)
  obtain⟨v',hvv,hy2⟩:=vG_det pf all p _ _ _ hv
  subst hvv
  refine hy2 _ ?_
  have e2:(σ.effect i.dst vi own' kl).put p.dst (kv vp)=(σ.put p.dst vp).effect i.dst vi own' kl:=by
   unfold S.effect
   have:=put_comm { slots:=killAll kl σ.slots,own:=own',n0:=σ.n0,mv:=addMv σ.n0 σ.mv kl } (x:=p.dst) (y:=i.dst) (kv vp) vi h2
   rw[← this]
   congr 1
   cases hd:p.dst with
   | none=>rfl
   | some d=>simp only[S.put,hkl]
  rw[e2]
  exact hk2
def isMov(o:Oper):Bool :=
 match o.op,o.guard with
 | .move _,none|.assign _,none=>true
 | _,_=>false
def isEff(o:Oper):Bool :=
 match o.op,o.guard with
 | .store _ _ _,none|.mapUpdate _ _ _ _,none|.insert _ _ _ _,none=>true
 | .call c,none=>(match c.callee with|.builtin .copy=>true|_=>false)
 | _,_=>false
theorem storew_det{τ:Option Ty}{a x:AV}{K:AV->List Obj->List Nat->Prop}(h:storew τ own a x K):∃v own',K v own' []/\∀K':AV->List Obj->List Nat->Prop,K' v own' []->storew τ own a x K':=by
 unfold storew at h ⊢
 split at h
 ·obtain⟨obj',h1,h2⟩:=storeObj_det h
  exact⟨_,_,h1,fun K' hK'=>h2 _ hK'⟩
 ·exact h.elim
theorem mapUpdatew_det{τ:Option Ty}{x k v:AV}{K:AV->List Obj->List Nat->Prop}(h:mapUpdatew P τ own x k v K):∃v' own',K v' own' []/\∀K':AV->List Obj->List Nat->Prop,K' v' own' []->mapUpdatew P τ own x k v K':=by
 unfold mapUpdatew at h ⊢
 split at h
 ·split at h
  ·rename_i e1 _ _
   split at h
   ·rename_i e2 e3 e4
    obtain⟨h1,h2,h3⟩:=h
    refine⟨_,_,h3,fun K' hK'=>?_⟩
    exact⟨h1,h2,hK'⟩
   ·exact h.elim
  ·exact h.elim
 ·exact h.elim
theorem copyw_det{τ:Option Ty}{x y:AV}{K:AV->List Obj->List Nat->Prop}(h:copyw P τ own x y K):∃v' own',K v' own' []/\∀K':AV->List Obj->List Nat->Prop,K' v' own' []->copyw P τ own x y K':=by
 unfold copyw at h ⊢
 split at h
 ·split at h
  ·split at h
   ·obtain⟨h1,h2,h3⟩:=h
    split at h3
    ·split at h3
     ·obtain⟨h4,h5,h6⟩:=h3
      exact⟨_,_,h6,fun K' hK'=>⟨h1,h2,h4,h5,hK'⟩⟩
     ·exact h3.elim
    ·exact h3.elim
   ·exact h.elim
  ·exact h.elim
 ·exact h.elim
theorem eff_det{o:Oper}(hm:isEff o=true){K:S->Prop}{σ:S}{all:Array Oper}(h:opg P Γ all o K σ) :
  ∃v own',K (σ.effect o.dst v own' [])/\Eff P Γ all o σ v own':=by
 unfold isEff at hm
 split at hm
 ·rename_i t a x hop hg
  have e:∀(K:S->Prop) (σ:S),opg P Γ all o K σ=storew (tyOf P t) σ.own (ev σ.slots a) (ev σ.slots x) (PutE o.dst K σ):=fun K σ=>by
   unfold opg;rw[hg];simp only;unfold opw
   simp only[hop,isV,Bool.false_eq_true,if_false,eop]
  rw[e]at h
  obtain⟨v,own',h1,h2⟩:=storew_det h
  refine⟨v,own',h1,fun K' σ' ho hx hK'=>?_⟩
  rw[e,hx a (by rw[hop];simp[Op.operands]),hx x (by rw[hop];simp[Op.operands]),ho]
  exact h2 _ hK'
 ·rename_i t m k x hop hg
  have e:∀(K:S->Prop) (σ:S),opg P Γ all o K σ=mapUpdatew P (tyOf P t) σ.own (ev σ.slots m) (ev σ.slots k) (ev σ.slots x) (PutE o.dst K σ):=fun K σ=>by
   unfold opg;rw[hg];simp only;unfold opw
   simp only[hop,isV,Bool.false_eq_true,if_false,eop]
  rw[e]at h
  obtain⟨v,own',h1,h2⟩:=mapUpdatew_det h
  refine⟨v,own',h1,fun K' σ' ho hx hK'=>?_⟩
  rw[e,hx m (by rw[hop];simp[Op.operands]),hx k (by rw[hop];simp[Op.operands]),hx x (by rw[hop];simp[Op.operands]),ho]
  exact h2 _ hK'
 ·rename_i t m k x hop hg
  have e:∀(K:S->Prop) (σ:S),opg P Γ all o K σ=mapUpdatew P (tyOf P t) σ.own (ev σ.slots m) (ev σ.slots k) (ev σ.slots x) (PutE o.dst K σ):=fun K σ=>by
   unfold opg;rw[hg];simp only;unfold opw
   simp only[hop,isV,Bool.false_eq_true,if_false,eop]
  rw[e]at h
  obtain⟨v,own',h1,h2⟩:=mapUpdatew_det h
  refine⟨v,own',h1,fun K' σ' ho hx hK'=>?_⟩
  rw[e,hx m (by rw[hop];simp[Op.operands]),hx k (by rw[hop];simp[Op.operands]),hx x (by rw[hop];simp[Op.operands]),ho]
  exact h2 _ hK'
 ·rename_i c hop hg
  split at hm
  ·rename_i hcal
   have e:∀(K:S->Prop) (σ:S),opg P Γ all o K σ=(match c.args.toList,c.argTypes.toList with|[x,y],[t,_]=>copyw P (tyOf P t) σ.own (ev σ.slots x) (ev σ.slots y) (PutE o.dst K σ)|_,_=>False):=fun K σ=>by
    unfold opg;rw[hg];simp only;unfold opw
    rw[hop]
    simp only[isV,hcal,eop,Bool.false_eq_true,if_false]
    unfold ecall
    split <;> first|(simp_all;done)|skip
    split <;> first|(simp_all;done)|skip
    rename_i hno _ _ _ _ _ _ _ h1 h2
    exact(hno _ _ _ _ rfl h1 h2).elim
   rw[e]at h
   split at h
   ·rename_i x y t t' ha ht
    obtain⟨v,own',h1,h2⟩:=copyw_det h
    refine⟨v,own',h1,fun K' σ' ho hx hK'=>?_⟩
    have mem:∀z∈c.args.toList,z∈o.op.operands.toList:=fun z hz=>by
     rw[hop]
     simp[Op.operands,Call.operands,hcal,hz]
    rw[e,ha,ht]
    simp only
    rw[hx x (mem x (by rw[ha];simp)),hx y (mem y (by rw[ha];simp)),ho]
    exact h2 _ hK'
   ·exact h.elim
  ·cases hm
 ·cases hm
theorem mov_own{pf:List Nat}{all:Array Oper}{o:Oper}(hm:isMov o=true){s:List AV}{own own':List Obj}{k:AV->Prop}(h:vG P Γ pf all o s own k):vG P Γ pf all o s own' k:=by
 unfold isMov at hm
 split at hm
 ·rename_i x hop hg
  unfold vG vB at h ⊢
  rw[hg]at h ⊢
  simp only[hop,isV,if_true,vop]at h ⊢
  exact h
 ·rename_i x hop hg
  unfold vG vB at h ⊢
  rw[hg]at h ⊢
  simp only[hop,isV,if_true,vop]at h ⊢
  exact h
 ·cases hm
theorem mov_v{o:Oper}(hm:isMov o=true):isV o.op=true:=by
 unfold isMov at hm
 split at hm
 ·rename_i x hop hg;rw[hop];rfl
 ·rename_i x hop hg;rw[hop];rfl
 ·cases hm
def swapOkX(pf mf ms ks:List Nat)(ops:Array Oper)(p i:Nat):Bool :=
 match ops[p]?,ops[i]? with
 | some op,some oi=>op.apart ops oi && ((vlike pf op && vlike pf oi) || (isV op.op && (isMk mf oi || isLit oi)) || (isV op.op && ms.contains p && isStore oi && ms.contains i) || (isQ op && isV op.op && ks.contains p && isApp oi && ks.contains i && !ms.contains p) || (isMov op && isEff oi))
 | _,_=>false
theorem swap_vvx{pf:List Nat}(hpf:PureFns Γ pf){all:Array Oper}{p i:Oper}(hp:vlike pf p=true)(hi:vlike pf i=true)(hap:p.apart all i=true){Cp Ci:List AV->Prop}{K:S->Prop}{σ:S}
  (hCp:∀s s',(∀x∈p.op.operands.toList,ev s' x=ev s x)->Cp s->Cp s') (hCi:∀s s',(∀x∈i.op.operands.toList,ev s' x=ev s x)->Ci s->Ci s')
  (h:Cp σ.slots/\opg P Γ all p (fun σ=>Ci σ.slots/\opg P Γ all i K σ) σ):Ci σ.slots/\opg P Γ all i (fun σ=>Cp σ.slots/\opg P Γ all p K σ) σ:=by
 obtain⟨h1,h2,h3⟩:=Oper.apart_spec hap
 obtain⟨cp,h⟩:=h
 rw[opg_vG hpf hp]at h
 obtain⟨vp,⟨ci,hk⟩,hyp⟩:=vG_det pf all p σ.slots σ.own _ h
 rw[opg_vG hpf hi,vG_put h1]at hk
 obtain⟨vi,hk2,hyi⟩:=vG_det pf all i σ.slots σ.own _ hk
 have sameOps:∀(a b:Oper) (v:AV),(∀d,a.dst=some d->d∉b.looksAt all)->∀x∈b.op.operands.toList,ev (σ.put a.dst v).slots x=ev σ.slots x:=fun a b v hab x hx=>by
  cases hd:a.dst with
  | none=>rfl
  | some d =>
   simp only[S.put]
   rw[ev_set (fun e=>hab d hd (looks_op (e ▸ hx)))]
 refine⟨hCi _ _ (fun x hx=>(sameOps p i vp h1 x hx).symm) ci,?_⟩
 rw[opg_vG hpf hi]
 refine hyi _ ⟨hCp _ _ (sameOps i p vi h3) cp,?_⟩
 rw[opg_vG hpf hp,vG_put h3]
 refine hyp _ ?_
 rw[← put_comm σ vp vi h2]
 exact hk2
theorem killAll_nil(s:List AV):killAll [] s=s:=rfl
theorem killAll_one(o:Nat)(s:List AV):killAll [o] s=AV.kills o s:=rfl
theorem swapX{pf mf ms ks:List Nat}(hpf:PureFns Γ pf)(hmf:MakeFns Γ mf){ops:Array Oper}{p i:Nat}{op oi:Oper}(hop:ops[p]?=some op)(hi:ops[i]?=some oi)(hp:swapOkX pf mf ms ks ops p i=true){K:S->Prop}{σ:S}
  (h:opx P Γ ops ob ko (ms.contains p) (ks.contains p) op (opx P Γ ops ob ko (ms.contains i) (ks.contains i) oi K) σ):opx P Γ ops ob ko (ms.contains i) (ks.contains i) oi (opx P Γ ops ob ko (ms.contains p) (ks.contains p) op K) σ:=by
 unfold swapOkX at hp
 rw[hi,hop]at hp
 simp only[Bool.and_eq_true,Bool.or_eq_true]at hp
 obtain⟨hap,hk⟩:=hp
 have hC:∀(o:Oper) (m k:Bool) (s s':List AV),(∀x∈o.op.operands.toList,ev s' x=ev s x)->((m=true->condM ob o s)/\(k=true->condX ko o s))->((m=true->condM ob o s')/\(k=true->condX ko o s')):=fun o m k s s' hx hc=>⟨fun hm=>condM_congr hx (hc.1 hm),fun hk=>condX_congr hx (hc.2 hk)⟩
 have same:∀(vp:AV) (ex:List Obj),isV op.op=true->vG P Γ pf ops op σ.slots σ.own (fun v=>v=vp)->vG P Γ pf ops op (killAll [] σ.slots) (σ.own++ex) (fun v=>v=vp):=fun vp ex hv hg=>vG_mores hv ex _ hg
 rcases hk with(((hk|hk)|hk)|hk)|hk
 ·exact swap_vvx hpf hk.1 hk.2 hap (hC op _ _) (hC oi _ _) h
 ·refine swapG hpf (by simp[vlike,hk.1]) hap (hC op _ _) (hC oi _ _) (fun K σ' ho cp ci hh=>?_) h
  have hdet:∃v ex,K (σ'.effect oi.dst v (σ'.own++ex) [])/\Eff P Γ ops oi σ' v (σ'.own++ex):=by
   rcases hk.2 with hm|hl
   ·exact mk_det hmf hm hh
   ·exact lit_det hl hh
  obtain⟨v,ex,g1,g2⟩:=hdet
  exact⟨v,_,[],id,g1,g2,fun s d u=>rfl,cp,fun vp hg=>by rw[ho];exact same vp ex hk.1 hg⟩
 ·refine swapG hpf (by simp[vlike,hk.1.1.1]) hap (hC op _ _) (hC oi _ _) (fun K σ' ho cp ci hh=>?_) h
  obtain⟨obj',g1,g2⟩:=store_det hk.1.2 (ci.1 hk.2) hh
  exact⟨.top,_,[],id,g1,g2,fun s d u=>rfl,cp,fun vp hg=>by rw[ho];exact vG_setOwn hk.1.1.1 (cp.1 hk.1.1.2) hg⟩
 ·obtain⟨⟨⟨⟨⟨q1,q2⟩,q3⟩,q4⟩,q5⟩,q6⟩:=hk
  have q6:ms.contains p=false:=by simpa using q6
  refine swapG hpf (by simp[vlike,q2]) hap (hC op _ _) (hC oi _ _) (fun K σ' ho cp ci hh=>?_) h
  obtain⟨v,own',kl,g1,g2,g3⟩:=appx_det q4 (ci.2 q5) hh
  rcases g2 with⟨rfl,obj,rfl⟩|⟨rfl,obj,rfl⟩
  ·exact⟨v,_,[],id,g1,g3,fun s d u=>rfl,cp,fun vp hg=>by rw[ho];exact same vp _ q2 hg⟩
  ·have hg:op.guard=none:=by
    unfold isQ at q1
    split at q1 <;> first|assumption|cases q1
   have hcA:condA ko op σ.slots:=by
    have:=cp.2 q3
    unfold condX at this
    split at this
    ·rename_i c hopc
     unfold isQ at q1
     rw[hopc]at q1
     cases q1
    ·exact this
   have eG:∀(s:List AV) (own:List Obj) (k:AV->Prop),vG P Γ pf ops op s own k=vop P own s op.op k:=fun s own k=>by
    unfold vG vB
    rw[hg]
    simp only[q2,if_true]
   refine⟨v,_,[ko],AV.kill ko,g1,g3,fun s d u=>by rw[killAll_one,killAll_one,kills_put],⟨fun hm=>(by rw[q6]at hm;cases hm),fun _=>?_⟩,fun vp hvg=>?_⟩
   ·rw[killAll_one]
    have:=condA_kills q1 hcA
    unfold condX
    split
    ·rename_i c hopc
     unfold isQ at q1
     rw[hopc]at q1
     cases q1
    ·exact this
   ·rw[eG]at hvg
    rw[eG,killAll_one,ho]
    have:=vop_kill q1 (obj':=obj) hcA hvg
    obtain⟨v',⟨u,rfl,rfl⟩,hy⟩:=vop_det _ op.op _ this
    exact hy _ rfl
 ·refine swapG hpf (by simp[vlike,mov_v hk.1]) hap (hC op _ _) (hC oi _ _) (fun K σ' ho cp ci hh=>?_) h
  obtain⟨v,own',g1,g2⟩:=eff_det hk.2 hh
  exact⟨v,own',[],id,g1,g2,fun s d u=>rfl,cp,fun vp hg=>mov_own hk.1 hg⟩
end
def okG(pf mf ms ks:List Nat)(ops:Array Oper):DT->Option (List Nat)->Bool
 | .fin,none=>true
 | .stop,some _=>true
 | .one p t,none=>(t.ops.all fun i=>Region.waitsFor .any ops i p || swapOkX pf mf ms ks ops p i) && okG pf mf ms ks ops t none
 | .alt x t u,none=>okG pf mf ms ks ops t none && okG pf mf ms ks ops u (some (x :: t.ops)) && ((x :: t.ops).all fun i=>(x :: u.heads).contains i || (x :: t.ops).any fun j=>Region.waitsFor .any ops i j)
 | .alt x t u,some R=>okG pf mf ms ks ops t none && sameSet R (x :: t.ops) && okG pf mf ms ks ops u (some R)
 | _,_=>false
def bubT(pf mf ms ks:List Nat)(ops:Array Oper)(i:Nat):DT->Option DT
 | .one p t=>if p=i then some t else if swapOkX pf mf ms ks ops p i=true then (bubT pf mf ms ks ops i t).map (.one p) else none
 | .alt x t u=>if x=i then some t else bubT pf mf ms ks ops i u
 | _=>none
section
variable {P:Program} {Γ:Nat->Contract} {ob ko:Nat}
def chT(P:Program)(Γ:Nat->Contract)(ops:Array Oper)(ob ko:Nat)(ms ks:List Nat)(Q:Exit->S->Prop):DT->S->Prop
 | .fin,σ=>Q .normal σ
 | .stop,_=>True
 | .one p t,σ=>(match ops[p]? with|some o=>opx P Γ ops ob ko (ms.contains p) (ks.contains p) o (chT P Γ ops ob ko ms ks Q t) σ|none=>False)
 | .alt x t u,σ=>(match ops[x]? with|some o=>opx P Γ ops ob ko (ms.contains x) (ks.contains x) o (chT P Γ ops ob ko ms ks Q t) σ|none=>False)/\chT P Γ ops ob ko ms ks Q u σ
theorem swap_v{pf mf ms ks:List Nat}{ops:Array Oper}{p i:Nat}{op oi:Oper}(hop:ops[p]?=some op)(hi:ops[i]?=some oi)(hp:swapOkX pf mf ms ks ops p i=true):vlike pf op=true:=by
 unfold swapOkX at hp
 rw[hi,hop]at hp
 simp only[Bool.and_eq_true,Bool.or_eq_true]at hp
 rcases hp.2 with(((hk|hk)|hk)|hk)|hk
 ·exact hk.1
 ·simp[vlike,hk.1]
 ·simp[vlike,hk.1.1.1]
 ·simp[vlike,hk.1.1.1.1.2]
 ·simp[vlike,mov_v hk.1]
theorem bubT_ok{pf mf ms ks:List Nat}(hpf:PureFns Γ pf)(hmf:MakeFns Γ mf){ops:Array Oper}{Q:Exit->S->Prop}{i:Nat}{oi:Oper}(hi:ops[i]?=some oi):∀(T T':DT) (σ:S),bubT pf mf ms ks ops i T=some T'->chT P Γ ops ob ko ms ks Q T σ->opx P Γ ops ob ko (ms.contains i) (ks.contains i) oi (chT P Γ ops ob ko ms ks Q T') σ
 | .fin,T',σ,h,_=>by simp[bubT]at h
 | .stop,T',σ,h,_=>by simp[bubT]at h
 | .one p t,T',σ,h,hc=>by
  simp only[bubT]at h
  simp only[chT]at hc
  by_cases e:p=i
  ·subst e
   rw[if_pos rfl]at h
   cases h
   rw[hi]at hc
   exact hc
  ·rw[if_neg e]at h
   split at h
   ·rename_i hsw
    obtain⟨t',ht,rfl⟩:=Option.map_eq_some_iff.1 h
    split at hc
    ·rename_i op hop
     have hv:=swap_v hop hi hsw
     have h':opx P Γ ops ob ko (ms.contains p) (ks.contains p) op (opx P Γ ops ob ko (ms.contains i) (ks.contains i) oi (chT P Γ ops ob ko ms ks Q t')) σ :=
      ⟨hc.1,chain_mono hpf hv (fun σ' hσ'=>bubT_ok hpf hmf hi t t' σ' ht hσ') hc.2⟩
     have:=swapX hpf hmf hop hi hsw h'
     have e2:chT P Γ ops ob ko ms ks Q (.one p t')=opx P Γ ops ob ko (ms.contains p) (ks.contains p) op (chT P Γ ops ob ko ms ks Q t'):=by funext s;simp only[chT,hop]
     rw[e2]
     exact this
    ·exact hc.elim
   ·cases h
 | .alt x t u,T',σ,h,hc=>by
  simp only[bubT]at h
  simp only[chT]at hc
  by_cases e:x=i
  ·subst e
   rw[if_pos rfl]at h
   cases h
   have h1:=hc.1
   rw[hi]at h1
   exact h1
  ·rw[if_neg e]at h
   exact bubT_ok hpf hmf hi u T' σ h hc.2
theorem bub_total{pf mf ms ks:List Nat}{ops:Array Oper}{i:Nat}:∀(T:DT),
  (okG pf mf ms ks ops T none=true->T.ops.Nodup->i∈T.ops->(∀p∈T.ops,Region.waitsFor .any ops i p=false)->∃T',bubT pf mf ms ks ops i T=some T'/\okG pf mf ms ks ops T' none=true/\(∀j,j∈T'.ops↔j∈T.ops/\j≠i)/\T'.ops.length+1=T.ops.length/\T'.ops.Nodup) /\
  (∀R,okG pf mf ms ks ops T (some R)=true->i∈T.heads->∃T',bubT pf mf ms ks ops i T=some T'/\okG pf mf ms ks ops T' none=true/\(∀j,j∈T'.ops↔j∈R/\j≠i)/\T'.ops.length+1=R.length/\T'.ops.Nodup)
 | .fin=>⟨fun _ _ h=>by simp[DT.ops]at h,fun R h=>by simp[okG]at h⟩
 | .stop=>⟨fun h=>by simp[okG]at h,fun R _ h=>by simp[DT.heads]at h⟩
 | .one p t=>by
  refine⟨fun h hn hm hw=>?_,fun R h=>by simp[okG]at h⟩
  simp only[okG,Bool.and_eq_true]at h
  simp only[DT.ops]at hn hm hw
  obtain⟨n1,n2⟩:=List.nodup_cons.1 hn
  by_cases e:p=i
  ·subst e
   refine⟨t,by simp[bubT],h.2,fun j=>?_,by simp[DT.ops],n2⟩
   simp only[DT.ops,List.mem_cons]
   constructor
   ·intro hj;exact⟨.inr hj,fun ej=>n1 (ej ▸ hj)⟩
   ·rintro ⟨hj|hj,hne⟩
    ·exact(hne hj).elim
    ·exact hj
  ·have hmt:i∈t.ops:=by
    rcases List.mem_cons.1 hm with h1|h1
    ·exact(e h1.symm).elim
    ·exact h1
   obtain⟨T',b1,b2,b3,b4,b5⟩:=(bub_total (i:=i) t).1 h.2 n2 hmt (fun q hq=>hw q (by simp[hq]))
   have hsw:swapOkX pf mf ms ks ops p i=true:=by
    have:=List.all_eq_true.1 h.1 i hmt
    rw[hw p (by simp)]at this
    simpa using this
   refine⟨.one p T',by simp[bubT,e,hsw,b1],?_,fun j=>?_,by simp only[DT.ops,List.length_cons];omega,?_⟩
   ·simp only[okG,Bool.and_eq_true]
    exact⟨List.all_eq_true.2 fun j hj=>List.all_eq_true.1 h.1 j ((b3 j).1 hj).1,b2⟩
   ·simp only[DT.ops,List.mem_cons,b3]
    constructor
    ·rintro (rfl|⟨h1,h2⟩)
     ·exact⟨.inl rfl,e⟩
     ·exact⟨.inr h1,h2⟩
    ·rintro ⟨h1|h1,h2⟩
     ·exact .inl h1
     ·exact .inr ⟨h1,h2⟩
   ·exact List.nodup_cons.2 ⟨fun hp=>n1 ((b3 p).1 hp).1,b5⟩
 | .alt x t u=>by
  refine⟨fun h hn hm hw=>?_,fun R h hm=>?_⟩
  ·simp only[okG,Bool.and_eq_true]at h
   obtain⟨⟨h1,h2⟩,h3⟩:=h
   simp only[DT.ops]at hn hm hw
   obtain⟨n1,n2⟩:=List.nodup_cons.1 hn
   have hhead:i∈x :: u.heads:=by
    have:=List.all_eq_true.1 h3 i hm
    rcases Bool.or_eq_true_iff.1 this with h4|h4
    ·simpa using h4
    ·obtain⟨j,hj,hwj⟩:=List.any_eq_true.1 h4
     rw[hw j hj]at hwj
     cases hwj
   by_cases e:x=i
   ·subst e
    refine⟨t,by simp[bubT],h1,fun j=>?_,by simp[DT.ops],n2⟩
    simp only[DT.ops,List.mem_cons]
    constructor
    ·intro hj;exact⟨.inr hj,fun ej=>n1 (ej ▸ hj)⟩
    ·rintro ⟨hj|hj,hne⟩
     ·exact(hne hj).elim
     ·exact hj
   ·have hu:i∈u.heads:=by
     rcases List.mem_cons.1 hhead with h4|h4
     ·exact(e h4.symm).elim
     ·exact h4
    obtain⟨T',b1,b2,b3,b4,b5⟩:=(bub_total (i:=i) u).2 (x :: t.ops) h2 hu
    exact⟨T',by simp[bubT,e,b1],b2,fun j=>by simp only[DT.ops];exact b3 j,by simpa only[DT.ops] using b4,b5⟩
  ·simp only[okG,Bool.and_eq_true]at h
   obtain⟨⟨h1,h2⟩,h3⟩:=h
   obtain⟨s1,s2,s3⟩:=sameSet_spec h2
   obtain⟨n1,n2⟩:=List.nodup_cons.1 s3
   by_cases e:x=i
   ·subst e
    refine⟨t,by simp[bubT],h1,fun j=>?_,by simpa using s1.symm,n2⟩
    rw[s2 j]
    simp only[List.mem_cons]
    constructor
    ·intro hj;exact⟨.inr hj,fun ej=>n1 (ej ▸ hj)⟩
    ·rintro ⟨hj|hj,hne⟩
     ·exact(hne hj).elim
     ·exact hj
   ·have hu:i∈u.heads:=by
     rcases List.mem_cons.1 (show i∈x :: u.heads from hm) with h4|h4
     ·exact(e h4.symm).elim
     ·exact h4
    obtain⟨T',b1,b2,b3,b4,b5⟩:=(bub_total (i:=i) u).2 R h3 hu
    exact⟨T',by simp[bubT,e,b1],b2,b3,b4,b5⟩
theorem okG_fin{pf mf ms ks:List Nat}{ops:Array Oper}{T:DT}(h:okG pf mf ms ks ops T none=true)(he:T.ops=[]):T=.fin:=by
 cases T with
 | fin=>rfl
 | stop=>simp[okG]at h
 | one p t=>simp[DT.ops]at he
 | alt x t u=>simp[DT.ops]at he
theorem wpAny_of_T{pf mf ms ks:List Nat}(hΓ:OkG P Γ)(hpf:PureFns Γ pf)(hmf:MakeFns Γ mf){ops:Array Oper}{Q:Exit->S->Prop}(hback:backOk ops=true)(hedges:edgesOk ops=true){c:Ctx}:∀(fuel:Nat) (T:DT) (listed:Array Bool) (σ:S) (a:Act) (w:World),listed.size=ops.size ->
  okG pf mf ms ks ops T none=true->T.ops.Nodup->(∀i,i<ops.size->(listed.getD i true=false↔i∈T.ops))->(∀i∈T.ops,i<ops.size)->T.ops.length<=fuel->St c σ a w->chT P Γ ops ob ko ms ks Q T σ->wpAnyIn (fen c.rd) 0 P .any ops (lift c Q) fuel listed a w:=by
 intro fuel
 induction fuel with
 | zero =>
  intro T listed σ a w hsz hok hnd hset hlt hf hst hch
  have he:T.ops=[]:=List.eq_nil_of_length_eq_zero (by omega)
  obtain rfl:=okG_fin hok he
  refine⟨?_,lift_mk hst hch⟩
  rw[List.eq_nil_iff_forall_not_mem]
  intro i hi
  obtain⟨g1,o,g2,_⟩:=mem_ready.1 hi
  have hi':i<ops.size:=(Array.getElem?_eq_some_iff.1 g2).1
  have:=(hset i hi').1 g1
  rw[he]at this
  cases this
 | succ fuel ih =>
  intro T listed σ a w hsz hok hnd hset hlt hf hst hch
  refine⟨fun hr=>?_,fun i hi=>?_⟩
  ·have he:T.ops=[]:=by
    rw[List.eq_nil_iff_forall_not_mem]
    intro i hi
    have h1:=ready_nil hback hedges hsz hr i (hlt i hi)
    rw[(hset i (hlt i hi)).2 hi]at h1
    cases h1
   obtain rfl:=okG_fin hok he
   exact lift_mk hst hch
  ·obtain⟨g1,o,g2,g3⟩:=mem_ready.1 hi
   have hi':i<ops.size:=(Array.getElem?_eq_some_iff.1 g2).1
   have him:=(hset i hi').1 g1
   obtain⟨T',b1,b2,b3,b4,b5⟩:=(bub_total (i:=i) T).1 hok hnd him (fun p hp=>not_waits g2 g3 ((hset p (hlt p hp)).2 hp))
   have hb:=bubT_ok hpf hmf g2 T T' σ b1 hch
   have hset':∀j,j<ops.size->((listed.setIfInBounds i true).getD j true=false↔j∈T'.ops):=fun j hj=>by
    rw[b3 j]
    by_cases e:i=j
    ·subst e
     simp[hsz,hi']
    ·have e':j≠i:=fun h=>e h.symm
     have h1:(listed.setIfInBounds i true).getD j true=listed.getD j true:=by simp[Array.getElem?_setIfInBounds_ne e]
     rw[h1,hset j hj]
     simp[e']
   have hlt':∀j∈T'.ops,j<ops.size:=fun j hj=>hlt j ((b3 j).1 hj).1
   unfold wpOpIn
   simp only[g2]
   rcases opg_sound hΓ (Q:=lift c Q) hst hb.2 with⟨hw,hwp⟩|⟨hw,σ',hst',hK⟩
   ·rw[if_pos hw]
    refine Oper.wpIn_mono ?_ hwp
    rintro a' w' ⟨σ',hst',hK⟩
    exact ih T' _ σ' a' w' (by simp[hsz]) b2 b5 hset' hlt' (by omega) hst' hK
   ·rw[if_neg (by simp[hw])]
    exact⟨fun _ _=>trivial,ih T' _ σ' _ w (by simp[hsz]) b2 b5 hset' hlt' (by omega) hst' hK⟩
def drawOkT(pf mf ms ks:List Nat)(ops:Array Oper)(T:DT):Bool:=okG pf mf ms ks ops T none && backOk ops && edgesOk ops && allOf ops.size T.ops && nodupB T.ops
theorem sem_drawT{pf mf ms ks:List Nat}(hm:P.follows .mixedOrders=true)(hΓ:OkG P Γ)(hpf:PureFns Γ pf)(hmf:MakeFns Γ mf){id:Nat}{ops:Array Oper}{Q:Exit->S->Prop}{σ:S}(T:DT)(hok:drawOkT pf mf ms ks ops T=true)
  (h:chT P Γ ops ob ko ms ks Q T σ):sem P (.region id ops true) Q σ:=by
 intro c a w hst
 refine wpIn_region_any hm ?_
 have hst':St c σ a { w with drawn:=w.drawn+1 }:=by
  obtain⟨hd,hn,F,φ,h2,h3,h4⟩:=hst
  refine⟨hd,hn,F,φ,⟨h2.sub,⟨h2.ext.os,h2.ext.tape,h2.ext.output,h2.ext.size,h2.ext.same,Nat.le_trans h2.ext.drn (Nat.le_succ _)⟩,h2.keep,h2.rest,h2.orig,h2.frsh⟩,h3.drew,?_⟩
  exact AV.Rs_mono (fun _ h=>h) same_drew (fun _ _ h=>h) _ _ h4
 simp only[drawOkT,Bool.and_eq_true]at hok
 obtain⟨⟨⟨⟨h1,h2⟩,h3⟩,h4⟩,h5⟩:=hok
 simp only[allOf,Bool.and_eq_true,List.all_eq_true,List.mem_range,List.contains_eq_mem,decide_eq_true_eq]at h4
 obtain⟨⟨m1,m2⟩,m3⟩:=h4
 refine wpAny_of_T hΓ hpf hmf h2 h3 ops.size T _ σ a _ (by simp) h1 (nodup_of h5) (fun i hi=>?_) m3 (by omega) hst' h
 simp[hi,m1 i hi]
end
end Go.AM

