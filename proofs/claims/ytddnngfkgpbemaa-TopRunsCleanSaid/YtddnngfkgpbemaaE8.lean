/- Own work over the model of the kit. -/
import Derived.Test.YtddnngfkgpbemaaE7
import Derived.Test.YtddnngfkgpbemaaE6
set_option linter.unnecessarySimpa false
set_option linter.unusedSimpArgs false
set_option linter.unusedVariables false
namespace Go.AM
open Go
inductive DT where
 | fin
 | stop
 | one (p:Nat) (t:DT)
 | alt (x:Nat) (t u:DT)
deriving Inhabited
def DT.ops:DT->List Nat
 | .fin=>[]
 | .stop=>[]
 | .one p t=>p :: t.ops
 | .alt x t _=>x :: t.ops
def DT.heads:DT->List Nat
 | .alt x _ u=>x :: u.heads
 | _=>[]
def sameSet(R L:List Nat):Bool:=decide (R.length=L.length) && R.all (fun i=>L.contains i) && L.all (fun i=>R.contains i) && nodupB L
theorem sameSet_spec{R L:List Nat}(h:sameSet R L=true):R.length=L.length/\(∀i,i∈R↔i∈L)/\L.Nodup:=by
 simp only[sameSet,Bool.and_eq_true,decide_eq_true_eq,List.all_eq_true,List.contains_eq_mem]at h
 obtain⟨⟨⟨h1,h2⟩,h3⟩,h4⟩:=h
 exact⟨h1,fun i=>⟨fun hi=>by simpa using h2 i hi,fun hi=>by simpa using h3 i hi⟩,nodup_of h4⟩
section
variable {P:Program} {Γ:Nat->Contract} {own:List Obj} {ob ko:Nat}
def condX(ko:Nat)(o:Oper)(s:List AV):Prop :=
 match o.op with
 | .call c=>(match c.args.toList with|[x,_]=>(match ev s x with|.sl o' _ _=>o'=ko|.nils=>True|_=>False)|_=>False)
 | _=>condA ko o s
def opx(P:Program)(Γ:Nat->Contract)(all:Array Oper)(ob ko:Nat)(m k:Bool)(o:Oper)(K:S->Prop)(σ:S):Prop:=((m=true->condM ob o σ.slots)/\(k=true->condX ko o σ.slots))/\opg P Γ all o K σ
theorem appendn_det{τ:Option Ty}{y:AV}{K:AV->List Obj->List Nat->Prop}(h:appendw P τ own .nils y K) :
  ∃v obj',K v (own++[obj']) []/\∀K':AV->List Obj->List Nat->Prop,K' v (own++[obj']) []->appendw P τ own .nils y K':=by
 unfold appendw at h ⊢
 simp only at h ⊢
 split at h
 ·rename_i ys hys
  unfold appendNw at h ⊢
  split at h
  ·split at h
   ·split at h
    ·obtain⟨h1,h2,h3,h4,h5,h6⟩:=h
     exact⟨_,_,h6,fun K' hK'=>⟨h1,h2,h3,h4,h5,hK'⟩⟩
    ·exact h.elim
   ·exact h.elim
  ·exact h.elim
 ·unfold appendRw at h ⊢
  split at h
  ·split at h
   ·split at h
    ·obtain⟨h1,h2,h3,h4,h5⟩:=h
     simp only at h5
     obtain⟨g1,g2,g3⟩:=h5
     exact⟨_,_,g3,fun K' hK'=>⟨h1,h2,h3,h4,g1,g2,hK'⟩⟩
    ·exact h.elim
   ·exact h.elim
  ·exact h.elim
theorem appendSn_det{τ:Option Ty}{s:List UInt8}{K:AV->List Obj->List Nat->Prop}(h:appendSw P τ own .nils s K) :
  ∃v obj',K v (own++[obj']) []/\∀K':AV->List Obj->List Nat->Prop,K' v (own++[obj']) []->appendSw P τ own .nils s K':=by
 unfold appendSw at h ⊢
 split at h
 ·split at h
  ·split at h
   ·obtain⟨h1,h2,h3,h4,h5,h6⟩:=h
    exact⟨_,_,h6,fun K' hK'=>⟨h1,h2,h3,h4,h5,hK'⟩⟩
   ·exact h.elim
  ·exact h.elim
 ·exact h.elim
theorem appTn_det{t t':TypeId}{y:AV}{K:AV->List Obj->List Nat->Prop}(h:appTw P own t t' .nils y K) :
  ∃v obj',K v (own++[obj']) []/\∀K':AV->List Obj->List Nat->Prop,K' v (own++[obj']) []->appTw P own t t' .nils y K':=by
 unfold appTw at h ⊢
 split at h
 ·rename_i e
  obtain⟨v,obj',h1,h2⟩:=appendn_det h
  exact⟨v,obj',h1,fun K' hK'=>by rw[if_pos e];exact h2 K' hK'⟩
 ·rename_i e
  split at h
  ·rename_i hτ'
   obtain⟨v,obj',h1,h2⟩:=appendSn_det h.2
   exact⟨v,obj',h1,fun K' hK'=>by rw[if_neg e];exact⟨h.1,h2 K' hK'⟩⟩
  ·exact h.elim
theorem swapG{pf:List Nat}(hpf:PureFns Γ pf){all:Array Oper}{p i:Oper}(hp:vlike pf p=true)(hap:p.apart all i=true){K:S->Prop}{σ:S}{Cp Ci:List AV->Prop}
  (hCp:∀s s',(∀x∈p.op.operands.toList,ev s' x=ev s x)->Cp s->Cp s') (hCi:∀s s',(∀x∈i.op.operands.toList,ev s' x=ev s x)->Ci s->Ci s')
  (hi:∀(K:S->Prop) (σ':S),σ'.own=σ.own->Cp σ.slots->Ci σ'.slots->opg P Γ all i K σ'->∃(v:AV) (own':List Obj) (kl:List Nat) (kv:AV->AV),K (σ'.effect i.dst v own' kl) /\
   (∀(K':S->Prop) (σ'':S),σ''.own=σ'.own->(∀x∈i.op.operands.toList,ev σ''.slots x=ev σ'.slots x)->K' (σ''.effect i.dst v own' kl)->opg P Γ all i K' σ'') /\
   (∀(s:List AV) (d:Nat) (u:AV),killAll kl (s.set d u)=(killAll kl s).set d (kv u))/\Cp (killAll kl σ.slots) /\
   (∀vp,vG P Γ pf all p σ.slots σ.own (fun v=>v=vp)->vG P Γ pf all p (killAll kl σ.slots) own' (fun v=>v=kv vp)))
  (h:Cp σ.slots/\opg P Γ all p (fun σ=>Ci σ.slots/\opg P Γ all i K σ) σ):Ci σ.slots/\opg P Γ all i (fun σ=>Cp σ.slots/\opg P Γ all p K σ) σ:=by
 obtain⟨h1,h2,h3⟩:=Oper.apart_spec hap
 obtain⟨cp,h⟩:=h
 rw[opg_vG hpf hp]at h
 obtain⟨vp,⟨ci,hk⟩,hyp⟩:=vG_det pf all p σ.slots σ.own _ h
 have hops:∀x∈i.op.operands.toList,ev σ.slots x=ev (σ.put p.dst vp).slots x:=fun x hx=>by
  cases hd:p.dst with
  | none=>rfl
  | some d =>
   simp only[S.put]
   rw[ev_set (fun e=>h1 d hd (looks_op (e ▸ hx)))]
 obtain⟨vi,own',kl,kv,hk2,hyi,hkl,hck,hst⟩:=hi _ _ (put_own σ p.dst vp).1 cp ci hk
 refine⟨hCi _ _ hops ci,hyi _ σ (put_own σ p.dst vp).1.symm hops ⟨?_,?_⟩⟩
 ·refine hCp _ _ (fun x hx=>?_) hck
  unfold S.effect
  cases hd:i.dst with
  | none=>rfl
  | some d =>
   simp only[S.put]
   rw[ev_set (fun e=>h3 d hd (looks_op (e ▸ hx)))]
 ·rw[opg_vG hpf hp]
  have e:∀k,vG P Γ pf all p (σ.effect i.dst vi own' kl).slots (σ.effect i.dst vi own' kl).own k=vG P Γ pf all p (killAll kl σ.slots) own' k:=by
   intro k
   unfold S.effect
   exact vG_put (P:=P) (Γ:=Γ) (pf:=pf) (all:=all) (o:=p) (o':=i) (σ:={ slots:=killAll kl σ.slots,own:=own',n0:=σ.n0,mv:=addMv σ.n0 σ.mv kl }) (u:=vi) (k:=k) h3
  rw[e]
  have hv:=hst vp (hyp (fun v=>v=vp) rfl)
  obtain⟨v',hvv,hy2⟩:=vG_det pf all p _ _ _ hv
  subst hvv
  refine hy2 _ ?_
  have e2:(σ.effect i.dst vi own' kl).put p.dst (kv vp)=(σ.put p.dst vp).effect i.dst vi own' kl:=by
   unfold S.effect
   have:=put_comm { slots:=killAll kl σ.slots,own:=own',n0:=σ.n0,mv:=addMv σ.n0 σ.mv kl } (x:=p.dst) (y:=i.dst) (kv vp) vi h2
   rw[← this]
   congr 1
   cases hd:p.dst with
   | none=>rfl
   | some d=>simp only[S.put,hkl]
  rw[e2]
  exact hk2
def isMov(o:Oper):Bool :=
 match o.op,o.guard with
 | .move _,none|.assign _,none=>true
 | _,_=>false
def isEff(o:Oper):Bool :=
 match o.op,o.guard with
 | .store _ _ _,none|.mapUpdate _ _ _ _,none|.insert _ _ _ _,none=>true
 | .call c,none=>(match c.callee with|.builtin .copy=>true|_=>false)
 | _,_=>false
theorem storew_det{τ:Option Ty}{a x:AV}{K:AV->List Obj->List Nat->Prop}(h:storew τ own a x K):∃v own',K v own' []/\∀K':AV->List Obj->List Nat->Prop,K' v own' []->storew τ own a x K':=by
 unfold storew at h ⊢
 split at h
 ·obtain⟨obj',h1,h2⟩:=storeObj_det h
  exact⟨_,_,h1,fun K' hK'=>h2 _ hK'⟩
 ·exact h.elim
theorem mapUpdatew_det{τ:Option Ty}{x k v:AV}{K:AV->List Obj->List Nat->Prop}(h:mapUpdatew P τ own x k v K):∃v' own',K v' own' []/\∀K':AV->List Obj->List Nat->Prop,K' v' own' []->mapUpdatew P τ own x k v K':=by
 unfold mapUpdatew at h ⊢
 split at h
 ·split at h
  ·rename_i e1 _ _
   split at h
   ·rename_i e2 e3 e4
    obtain⟨h1,h2,h3⟩:=h
    refine⟨_,_,h3,fun K' hK'=>?_⟩
    exact⟨h1,h2,hK'⟩
   ·exact h.elim
  ·exact h.elim
 ·exact h.elim
theorem copyw_det{τ:Option Ty}{x y:AV}{K:AV->List Obj->List Nat->Prop}(h:copyw P τ own x y K):∃v' own',K v' own' []/\∀K':AV->List Obj->List Nat->Prop,K' v' own' []->copyw P τ own x y K':=by
 unfold copyw at h ⊢
 split at h
 ·split at h
  ·split at h
   ·obtain⟨h1,h2,h3⟩:=h
    split at h3
    ·split at h3
     ·obtain⟨h4,h5,h6⟩:=h3
      exact⟨_,_,h6,fun K' hK'=>⟨h1,h2,h4,h5,hK'⟩⟩
     ·exact h3.elim
    ·exact h3.elim
   ·exact h.elim
  ·exact h.elim
 ·exact h.elim
theorem eff_det{o:Oper}(hm:isEff o=true){K:S->Prop}{σ:S}{all:Array Oper}(h:opg P Γ all o K σ) :
  ∃v own',K (σ.effect o.dst v own' [])/\Eff P Γ all o σ v own':=by
 unfold isEff at hm
 split at hm
 ·rename_i t a x hop hg
  have e:∀(K:S->Prop) (σ:S),opg P Γ all o K σ=storew (tyOf P t) σ.own (ev σ.slots a) (ev σ.slots x) (PutE o.dst K σ):=fun K σ=>by
   unfold opg;rw[hg];simp only;unfold opw
   simp only[hop,isV,Bool.false_eq_true,if_false,eop]
  rw[e]at h
  obtain⟨v,own',h1,h2⟩:=storew_det h
  refine⟨v,own',h1,fun K' σ' ho hx hK'=>?_⟩
  rw[e,hx a (by rw[hop];simp[Op.operands]),hx x (by rw[hop];simp[Op.operands]),ho]
  exact h2 _ hK'
 ·rename_i t m k x hop hg
  have e:∀(K:S->Prop) (σ:S),opg P Γ all o K σ=mapUpdatew P (tyOf P t) σ.own (ev σ.slots m) (ev σ.slots k) (ev σ.slots x) (PutE o.dst K σ):=fun K σ=>by
   unfold opg;rw[hg];simp only;unfold opw
   simp only[hop,isV,Bool.false_eq_true,if_false,eop]
  rw[e]at h
  obtain⟨v,own',h1,h2⟩:=mapUpdatew_det h
  refine⟨v,own',h1,fun K' σ' ho hx hK'=>?_⟩
  rw[e,hx m (by rw[hop];simp[Op.operands]),hx k (by rw[hop];simp[Op.operands]),hx x (by rw[hop];simp[Op.operands]),ho]
  exact h2 _ hK'
 ·rename_i t m k x hop hg
  have e:∀(K:S->Prop) (σ:S),opg P Γ all o K σ=mapUpdatew P (tyOf P t) σ.own (ev σ.slots m) (ev σ.slots k) (ev σ.slots x) (PutE o.dst K σ):=fun K σ=>by
   unfold opg;rw[hg];simp only;unfold opw
   simp only[hop,isV,Bool.false_eq_true,if_false,eop]
  rw[e]at h
  obtain⟨v,own',h1,h2⟩:=mapUpdatew_det h
  refine⟨v,own',h1,fun K' σ' ho hx hK'=>?_⟩
  rw[e,hx m (by rw[hop];simp[Op.operands]),hx k (by rw[hop];simp[Op.operands]),hx x (by rw[hop];simp[Op.operands]),ho]
  exact h2 _ hK'
 ·rename_i c hop hg
  split at hm
  ·rename_i hcal
   have e:∀(K:S->Prop) (σ:S),opg P Γ all o K σ=(match c.args.toList,c.argTypes.toList with|[x,y],[t,_]=>copyw P (tyOf P t) σ.own (ev σ.slots x) (ev σ.slots y) (PutE o.dst K σ)|_,_=>False):=fun K σ=>by
    unfold opg;rw[hg];simp only;unfold opw
    rw[hop]
    simp only[isV,hcal,eop,Bool.false_eq_true,if_false]
    unfold ecall
    split <;> first|(simp_all;done)|skip
    split <;> first|(simp_all;done)|skip
    rename_i hno _ _ _ _ _ _ _ h1 h2
    exact(hno _ _ _ _ rfl h1 h2).elim
   rw[e]at h
   split at h
   ·rename_i x y t t' ha ht
    obtain⟨v,own',h1,h2⟩:=copyw_det h
    refine⟨v,own',h1,fun K' σ' ho hx hK'=>?_⟩
    have mem:∀z∈c.args.toList,z∈o.op.operands.toList:=fun z hz=>by
     rw[hop]
     simp[Op.operands,Call.operands,hcal,hz]
    rw[e,ha,ht]
    simp only
    rw[hx x (mem x (by rw[ha];simp)),hx y (mem y (by rw[ha];simp)),ho]
    exact h2 _ hK'
   ·exact h.elim
  ·cases hm
 ·cases hm
theorem mov_own{pf:List Nat}{all:Array Oper}{o:Oper}(hm:isMov o=true){s:List AV}{own own':List Obj}{k:AV->Prop}(h:vG P Γ pf all o s own k):vG P Γ pf all o s own' k:=by
 unfold isMov at hm
 split at hm
 ·rename_i x hop hg
  unfold vG vB at h ⊢
  rw[hg]at h ⊢
  simp only[hop,isV,if_true,vop]at h ⊢
  exact h
 ·rename_i x hop hg
  unfold vG vB at h ⊢
  rw[hg]at h ⊢
  simp only[hop,isV,if_true,vop]at h ⊢
  exact h
 ·cases hm
theorem mov_v{o:Oper}(hm:isMov o=true):isV o.op=true:=by
 unfold isMov at hm
 split at hm
 ·rename_i x hop hg;rw[hop];rfl
 ·rename_i x hop hg;rw[hop];rfl
 ·cases hm
def swapOkX(pf mf ms ks:List Nat)(ops:Array Oper)(p i:Nat):Bool :=
 match ops[p]?,ops[i]? with
 | some op,some oi=>op.apart ops oi && ((vlike pf op && vlike pf oi) || (isV op.op && (isMk mf oi || isLit oi)) || (isV op.op && ms.contains p && isStore oi && ms.contains i) || (isQ op && isV op.op && ks.contains p && isApp oi && ks.contains i && !ms.contains p) || (isMov op && isEff oi))
 | _,_=>false
theorem swap_vvx{pf:List Nat}(hpf:PureFns Γ pf){all:Array Oper}{p i:Oper}(hp:vlike pf p=true)(hi:vlike pf i=true)(hap:p.apart all i=true){Cp Ci:List AV->Prop}{K:S->Prop}{σ:S}
  (hCp:∀s s',(∀x∈p.op.operands.toList,ev s' x=ev s x)->Cp s->Cp s') (hCi:∀s s',(∀x∈i.op.operands.toList,ev s' x=ev s x)->Ci s->Ci s')
  (h:Cp σ.slots/\opg P Γ all p (fun σ=>Ci σ.slots/\opg P Γ all i K σ) σ):Ci σ.slots/\opg P Γ all i (fun σ=>Cp σ.slots/\opg P Γ all p K σ) σ:=by
 obtain⟨h1,h2,h3⟩:=Oper.apart_spec hap
 obtain⟨cp,h⟩:=h
 rw[opg_vG hpf hp]at h
 obtain⟨vp,⟨ci,hk⟩,hyp⟩:=vG_det pf all p σ.slots σ.own _ h
 rw[opg_vG hpf hi,vG_put h1]at hk
 obtain⟨vi,hk2,hyi⟩:=vG_det pf all i σ.slots σ.own _ hk
 have sameOps:∀(a b:Oper) (v:AV),(∀d,a.dst=some d->d∉b.looksAt all)->∀x∈b.op.operands.toList,ev (σ.put a.dst v).slots x=ev σ.slots x:=fun a b v hab x hx=>by
  cases hd:a.dst with
  | none=>rfl
  | some d =>
   simp only[S.put]
   rw[ev_set (fun e=>hab d hd (looks_op (e ▸ hx)))]
 refine⟨hCi _ _ (fun x hx=>(sameOps p i vp h1 x hx).symm) ci,?_⟩
 rw[opg_vG hpf hi]
 refine hyi _ ⟨hCp _ _ (sameOps i p vi h3) cp,?_⟩
 rw[opg_vG hpf hp,vG_put h3]
 refine hyp _ ?_
 rw[← put_comm σ vp vi h2]
 exact hk2
theorem killAll_nil(s:List AV):killAll [] s=s:=rfl
theorem killAll_one(o:Nat)(s:List AV):killAll [o] s=AV.kills o s:=rfl
end
def okG(pf mf ms ks:List Nat)(ops:Array Oper):DT->Option (List Nat)->Bool
 | .fin,none=>true
 | .stop,some _=>true
 | .one p t,none=>(t.ops.all fun i=>Region.waitsFor .any ops i p || swapOkX pf mf ms ks ops p i) && okG pf mf ms ks ops t none
 | .alt x t u,none=>okG pf mf ms ks ops t none && okG pf mf ms ks ops u (some (x :: t.ops)) && ((x :: t.ops).all fun i=>(x :: u.heads).contains i || (x :: t.ops).any fun j=>Region.waitsFor .any ops i j)
 | .alt x t u,some R=>okG pf mf ms ks ops t none && sameSet R (x :: t.ops) && okG pf mf ms ks ops u (some R)
 | _,_=>false
def bubT(pf mf ms ks:List Nat)(ops:Array Oper)(i:Nat):DT->Option DT
 | .one p t=>if p=i then some t else if swapOkX pf mf ms ks ops p i=true then (bubT pf mf ms ks ops i t).map (.one p) else none
 | .alt x t u=>if x=i then some t else bubT pf mf ms ks ops i u
 | _=>none
section
variable {P:Program} {Γ:Nat->Contract} {ob ko:Nat}
def chT(P:Program)(Γ:Nat->Contract)(ops:Array Oper)(ob ko:Nat)(ms ks:List Nat)(Q:Exit->S->Prop):DT->S->Prop
 | .fin,σ=>Q .normal σ
 | .stop,_=>True
 | .one p t,σ=>(match ops[p]? with|some o=>opx P Γ ops ob ko (ms.contains p) (ks.contains p) o (chT P Γ ops ob ko ms ks Q t) σ|none=>False)
 | .alt x t u,σ=>(match ops[x]? with|some o=>opx P Γ ops ob ko (ms.contains x) (ks.contains x) o (chT P Γ ops ob ko ms ks Q t) σ|none=>False)/\chT P Γ ops ob ko ms ks Q u σ
def drawOkT(pf mf ms ks:List Nat)(ops:Array Oper)(T:DT):Bool:=okG pf mf ms ks ops T none && backOk ops && edgesOk ops && allOf ops.size T.ops && nodupB T.ops
end
end Go.AM

