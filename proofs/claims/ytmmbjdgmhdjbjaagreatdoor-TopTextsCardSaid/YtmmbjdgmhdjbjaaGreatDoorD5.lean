/- Own work over the model of the kit. -/
import Derived.Test.YtmmbjdgmhdjbjaaGreatDoorD4
set_option linter.unnecessarySimpa false
set_option linter.unusedSimpArgs false
set_option linter.unusedVariables false
namespace Go.AM
open Go
def AV.refs(o:Nat):AV->Bool
 | .ptr o' _ _=>o' == o
 | .sl o' _ _=>o' == o
 | .map o'=>o' == o
 | _=>false
def J5(mf:List Nat)(o:Oper):Option (Nat×Array Operand) :=
 match o.op,o.guard with
 | .call c,none=>(match c.callee with|.value (.func g)=>if mf.contains g then some (g,c.args) else none|_=>none)
 | _,_=>none
def WJ:Nat:=1000000007
def BT(mf:List Nat)(o:Oper):Bool :=
 match o.op,o.guard with
 | .call c,none=>(match c.callee with|.value (.tmp _)=>mf.contains WJ|_=>false)
 | _,_=>false
def M0(mf:List Nat)(o:Oper):Bool:=uW o || (J5 mf o).isSome || BT mf o
def gO(o:Oper):Bool :=
 match o.op,o.dst,o.guard with
 | .store _ _ _,none,none=>true
 | _,_,_=>false
def bF(Γ:Nat->a8)(mf:List Nat):Prop:=∀g args own v own' mv,g∈mf∨WJ∈mf->Γ g args own v own' mv->(∃ex,own'=own++ex)/\mv=[]
def cA(ob:Nat)(o:Oper)(slots:List AV):Prop :=
 match o.op with
 | .store _ a _=>∃i j,ev slots a=.ptr ob i j
 | op=>∀x∈op.operands.toList,(ev slots x).refs ob=false
section
variable {P:Program} {Γ:Nat->a8} {own:List Obj} {ob:Nat}
def opm(P:Program)(Γ:Nat->a8)(all:Array Oper)(ob:Nat)(m:Bool)(o:Oper)(K:S->Prop)(σ:S):Prop:=(m=true->cA ob o σ.slots)/\opg P Γ all o K σ
theorem dY{o:Oper}{s s':List AV}(h:∀x∈o.op.operands.toList,ev s' x=ev s x)(hc:cA ob o s):cA ob o s':=by
 unfold cA at hc ⊢
 split
 ·rename_i t a x hop
  rw[hop]at hc h
  simp only at hc
  rw[h a (by simp[Op.operands])]
  exact hc
 ·rename_i hn
  split at hc
  ·rename_i hop;exact(hn _ _ _ hop).elim
  ·intro x hx
   rw[h x hx]
   exact hc x hx
def Eff(P:Program)(Γ:Nat->a8)(all:Array Oper)(i:Oper)(σ:S)(v:AV)(own':List Obj):Prop :=
 ∀(K':S->Prop) (σ':S),σ'.own=σ.own->(∀x∈i.op.operands.toList,ev σ'.slots x=ev σ.slots x)->K' (σ'.effect i.dst v own' [])->opg P Γ all i K' σ'
theorem va{mf:List Nat}(hmf:bF Γ mf){o:Oper}(hm:M0 mf o=true){K:S->Prop}{σ:S}{all:Array Oper}(h:opg P Γ all o K σ) :
  ∃v ex,K (σ.effect o.dst v (σ.own++ex) [])/\Eff P Γ all o σ v (σ.own++ex):=by
 unfold M0 at hm
 rw[Bool.or_eq_true_iff,Bool.or_eq_true_iff]at hm
 rcases hm with(hm|hm)|hm
 ·obtain⟨v,obj,h1,h2⟩:=xM hm h
  exact⟨v,[obj],h1,h2⟩
 ·obtain⟨⟨g,args⟩,hg⟩:=Option.isSome_iff_exists.1 hm
  unfold J5 at hg
  split at hg
  ·rename_i c hc hgd
   split at hg
   ·rename_i g' lX
    split at hg
    ·rename_i jk
     simp only[Option.some.injEq,Prod.mk.injEq]at hg
     obtain⟨rfl,rfl⟩:=hg
     have e:∀(K:S->Prop) (σ:S),opg P Γ all o K σ=∃v own' mv,Γ g' (c.args.toList.map (ev σ.slots)) σ.own v own' mv/\K (σ.effect o.dst v own' mv):=fun K σ=>by
      unfold opg
      rw[hgd]
      simp only
      unfold opw
      rw[hc]
      simp only[isV,lX,eop,rg,eB,ev,List.append_nil,Bool.false_eq_true,if_false]
      rfl
     rw[e]at h
     obtain⟨v,own',mv,h1,h2⟩:=h
     obtain⟨⟨ex,rfl⟩,rfl⟩:=hmf g' _ _ _ _ _ (.inl (by simpa using jk)) h1
     refine⟨v,ex,h2,fun K' σ' ho hx hK'=>?_⟩
     rw[e]
     refine⟨v,_,[],?_,hK'⟩
     have ea:c.args.toList.map (ev σ'.slots)=c.args.toList.map (ev σ.slots):=by
      refine List.map_congr_left fun x hx'=>hx x ?_
      rw[hc]
      simp[Op.operands,Call.operands,lX,hx']
     rw[ea,ho]
     exact h1
    ·cases hg
   ·cases hg
  ·cases hg
 ·unfold BT at hm
  split at hm
  ·rename_i c hc hgd
   split at hm
   ·rename_i t lX
    have e:∀(K:S->Prop) (σ:S),opg P Γ all o K σ=eB Γ (ev σ.slots (.tmp t)) (c.args.toList.map (ev σ.slots)) σ.own (fun v own' mv=>K (σ.effect o.dst v own' mv)):=fun K σ=>by
     unfold opg
     rw[hgd]
     simp only
     unfold opw
     rw[hc]
     simp only[isV,lX,eop,rg,Bool.false_eq_true,if_false]
     rfl
    rw[e]at h
    unfold eB at h
    split at h
    ·rename_i g caps hf
     obtain⟨v,own',mv,h1,h2⟩:=h
     obtain⟨⟨ex,rfl⟩,rfl⟩:=hmf g _ _ _ _ _ (.inr (by simpa using hm)) h1
     refine⟨v,ex,h2,fun K' σ' ho hx hK'=>?_⟩
     have ea:c.args.toList.map (ev σ'.slots)=c.args.toList.map (ev σ.slots):=by
      refine List.map_congr_left fun x hx'=>hx x ?_
      rw[hc]
      simp[Op.operands,Call.operands,lX,hx']
     have ef:ev σ'.slots (.tmp t)=ev σ.slots (.tmp t):=hx _ (by rw[hc];simp[Op.operands,Call.operands,lX])
     rw[e,ea,ef,ho,hf]
     exact⟨v,_,[],h1,hK'⟩
    ·exact h.elim
   ·cases hm
  ·cases hm
theorem m5{τ:Ty}{obj:Obj}{i j:Nat}{x:AV}{K:Obj->Prop}(h:ei τ obj i j x K):∃obj',K obj'/\∀K':Obj->Prop,K' obj'->ei τ obj i j x K':=by
 unfold ei at h ⊢
 split at h
 ·split at h
  ·obtain⟨h2,h3,h4,h⟩:=h
   split at h
   ·exact⟨_,h.2,fun K' hK'=>⟨h2,h3,h4,h.1,hK'⟩⟩
   ·exact h.elim
  ·obtain⟨h2,h3,h4,h⟩:=h
   split at h
   ·exact⟨_,h.2,fun K' hK'=>⟨h2,h3,h4,h.1,hK'⟩⟩
   ·exact h.elim
 ·obtain⟨h1,h⟩:=h
  split at h
  ·split at h
   ·rename_i ha
    refine⟨_,h.2.2.2,fun K' hK'=>⟨h1,?_⟩⟩
    rw[if_pos ha]
    exact⟨h.1,h.2.1,h.2.2.1,hK'⟩
   ·rename_i ha
    refine⟨_,h.2.2.2,fun K' hK'=>⟨h1,?_⟩⟩
    rw[if_neg ha]
    exact⟨h.1,h.2.1,h.2.2.1,hK'⟩
  ·exact h.elim
 ·obtain⟨h1,h2,h3,h⟩:=h
  split at h
  ·exact⟨_,h,fun K' hK'=>⟨h1,h2,h3,hK'⟩⟩
  ·exact h.elim
 ·split at h
  ·exact⟨_,h.2.2,fun K' hK'=>⟨h.1,h.2.1,hK'⟩⟩
  ·exact h.elim
 ·obtain⟨h1,h2,h3,h⟩:=h
  split at h
  ·exact⟨_,h,fun K' hK'=>⟨h1,h2,h3,hK'⟩⟩
  ·exact h.elim
 ·obtain⟨h1,h⟩:=h
  split at h
  ·exact⟨_,h.2.2,fun K' hK'=>⟨h1,h.1,h.2.1,hK'⟩⟩
  ·exact h.elim
 ·exact h.elim
theorem nN{o:Oper}(hm:gO o=true){K:S->Prop}{σ:S}{all:Array Oper}(hc:cA ob o σ.slots)(h:opg P Γ all o K σ) :
  ∃obj',K (σ.effect o.dst .top (σ.own.set ob obj') [])/\Eff P Γ all o σ .top (σ.own.set ob obj'):=by
 unfold gO at hm
 split at hm
 ·rename_i t a x hop Yt hg
  unfold cA at hc
  rw[hop]at hc
  simp only at hc
  obtain⟨i,j,ha⟩:=hc
  have e:∀(K:S->Prop) (σ:S),opg P Γ all o K σ=fK (aw P t) σ.own (ev σ.slots a) (ev σ.slots x) (gb o.dst K σ):=fun K σ=>by
   unfold opg
   rw[hg]
   simp only
   unfold opw
   simp only[hop,isV,Bool.false_eq_true,if_false,eop]
  rw[e,ha]at h
  unfold fK at h
  split at h
  ·rename_i τ o' i' j' hτ hp
   cases hp
   obtain⟨obj',h1,h2⟩:=m5 h
   refine⟨obj',h1,fun K' σ' ho hx hK'=>?_⟩
   rw[e,hx a (by rw[hop];simp[Op.operands]),hx x (by rw[hop];simp[Op.operands]),ha,hτ,ho]
   simp only[fK]
   refine h2 _ ?_
   unfold gb
   exact hK'
  ·exact h.elim
 ·cases hm
theorem kF{pf:List Nat}{all:Array Oper}{o:Oper}(hv:isV o.op=true){slots:List AV}{k:AV->Prop}:∀(ex own:List Obj),vG P Γ pf all o slots own k->vG P Γ pf all o slots (own++ex) k
 | [],own,h=>by rw[List.append_nil];exact h
 | x :: ex,own,h=>by
  have:=kF hv ex (own++[x]) (Bz hv h)
  rwa [List.append_assoc]at this
theorem JI{slots:List AV}{op:Op}{K:AV->Prop}{obj':Obj}(hr:∀x∈op.operands.toList,(ev slots x).refs ob=false)(h:vop P own slots op K):vop P (own.set ob obj') slots op K:=by
 have key:∀o,o≠ob->(own.set ob obj').getD o .dead=own.getD o .dead:=fun o hne=>by
  have Ab:¬ob=o:=fun e=>hne e.symm
  simp[List.getD_eq_getElem?_getD,List.getElem?_set,Ab]
 unfold vop at h ⊢
 split at h
 case h_7 t a =>
  have hra:=hr a (by simp[Op.operands])
  unfold ky at h ⊢
  split at h
  ·rename_i o i j hτ hp
   rw[hp]at hra
   simp only[AV.refs,beq_eq_false_iff_ne]at hra
   rw[key _ hra]
   exact h
  ·exact h
  ·exact h.elim
 case h_10 t a i =>
  have hra:=hr a (by simp[Op.operands])
  unfold bE at h ⊢
  split at h
  ·rename_i o off len k n hτ hp hq
   rw[hp]at hra
   simp only[AV.refs,beq_eq_false_iff_ne]at hra
   rw[key _ hra]
   exact h
  ·exact h
  ·rename_i o i0 j k n hτ hp hq
   rw[hp]at hra
   simp only[AV.refs,beq_eq_false_iff_ne]at hra
   rw[key _ hra]
   exact h
  ·exact h
  ·exact h.elim
 case h_12 t a lo hi =>
  have hra:=hr a (by simp[Op.operands])
  unfold ig at h ⊢
  split at h
  ·rename_i o off len hτ hp
   rw[hp]at hra
   simp only[AV.refs,beq_eq_false_iff_ne]at hra
   rw[key _ hra]
   exact h
  ·exact h
  ·exact h
  ·exact h
  ·exact h.elim
 case h_15 t a k ok =>
  have hra:=hr a (by simp[Op.operands])
  unfold fw at h ⊢
  split at h
  ·rename_i o k' hτ hp hq
   rw[hp]at hra
   simp only[AV.refs,beq_eq_false_iff_ne]at hra
   rw[key _ hra]
   exact h
  ·exact h.elim
 case h_18 c =>
  obtain⟨callee,args,argTypes⟩:=c
  unfold NJ at h ⊢
  split at h
  ·rename_i x t lX c5 hts
   have hra:=hr x (by
    have:x∈args.toList:=by simp only at c5;rw[c5];simp
    simp only at lX
    subst lX
    simp[Op.operands,Call.operands,this])
   unfold qp at h ⊢
   split at h
   ·split at h
    case h_7 =>
     rename_i o _ hp
     rw[hp]at hra
     simp only[AV.refs,beq_eq_false_iff_ne]at hra
     rw[key _ hra]
     exact h
    all_goals exact h
   ·exact h.elim
  ·exact h
  ·exact h
  ·exact h.elim
 all_goals exact h
theorem oK{pf:List Nat}{all:Array Oper}{o:Oper}(hv:isV o.op=true){slots:List AV}{k:AV->Prop}{obj':Obj}(hc:cA ob o slots)(h:vG P Γ pf all o slots own k):vG P Γ pf all o slots (own.set ob obj') k:=by
 have hr:∀x∈o.op.operands.toList,(ev slots x).refs ob=false:=by
  unfold cA at hc
  split at hc
  ·rename_i hop;rw[hop]at hv;simp[isV]at hv
  ·exact hc
 have hB:∀k,vB P Γ pf o slots own k->vB P Γ pf o slots (own.set ob obj') k:=fun k h=>by
  unfold vB at h ⊢
  simp only[hv,if_true]at h ⊢
  exact JI hr h
 unfold vG at h ⊢
 split at h
 ·exact hB _ h
 ·split at h
  ·unfold grd at h ⊢
   split at h
   ·exact⟨fun e=>hB _ (h.1 e),h.2⟩
   ·exact h
   ·exact h.elim
  ·exact h.elim
theorem Bg{pf:List Nat}(hpf:aQ Γ pf){all:Array Oper}{p i:Oper}(hp:isV p.op=true)(hap:p.apart all i=true){mp mi:Bool}{K:S->Prop}{σ:S}
  (det:∀σ',mi=true∨mi=false->(mi=true->cA ob i σ'.slots)->σ'.own=σ.own->opg P Γ all i (opm P Γ all ob false p K) σ'->True)
  (hi:∀(K:S->Prop) (σ':S),σ'.own=σ.own->(mi=true->cA ob i σ'.slots)->opg P Γ all i K σ'->∃v own',K (σ'.effect i.dst v own' [])/\Eff P Γ all i σ' v own'/\∀k,(mp=true->cA ob p σ.slots)->vG P Γ pf all p σ.slots σ.own k->vG P Γ pf all p σ.slots own' k)
  (h:opm P Γ all ob mp p (opm P Γ all ob mi i K) σ):opm P Γ all ob mi i (opm P Γ all ob mp p K) σ:=by
 obtain⟨h1,h2,h3⟩:=Oper.apart_spec hap
 obtain⟨cp,h⟩:=h
 have hpv:be pf p=true:=by simp[be,hp]
 rw[cm hpf hpv]at h
 obtain⟨vp,⟨ci,hk⟩,hyp⟩:=fW pf all p σ.slots σ.own _ h
 have Ek:∀x∈i.op.operands.toList,ev σ.slots x=ev (σ.put p.dst vp).slots x:=fun x hx=>by
  cases hd:p.dst with
  | none=>rfl
  | some d =>
   simp only[S.put]
   rw[fR (fun e=>h1 d hd (cK (e ▸ hx)))]
 obtain⟨vi,own',hk2,hyi,hst⟩:=hi _ _ (eT σ p.dst vp).1 ci hk
 refine⟨fun hm=>dY Ek (ci hm),hyi _ σ (eT σ p.dst vp).1.symm Ek ⟨fun hm=>?_,?_⟩⟩
 ·refine dY (fun x hx=>?_) (cp hm)
  unfold S.effect
  cases hd:i.dst with
  | none=>rfl
  | some d =>
   simp only[S.put,killAll]
   rw[fR (fun e=>h3 d hd (cK (e ▸ hx)))]
 ·rw[cm hpf hpv]
  have e:∀k,vG P Γ pf all p (σ.effect i.dst vi own' []).slots (σ.effect i.dst vi own' []).own k=vG P Γ pf all p σ.slots own' k:=by
   intro k
   unfold S.effect
   exact gI (P:=P) (Γ:=Γ) (pf:=pf) (all:=all) (o:=p) (o':=i) (σ:={ slots:=killAll [] σ.slots,own:=own',n0:=σ.n0,mv:=bW σ.n0 σ.mv [] }) (u:=vi) (k:=k) h3
  rw[e]
  refine hst _ cp (hyp _ ?_)
  have e2:(σ.effect i.dst vi own' []).put p.dst vp=(σ.put p.dst vp).effect i.dst vi own' []:=by
   unfold S.effect
   have:=ff { slots:=killAll [] σ.slots,own:=own',n0:=σ.n0,mv:=bW σ.n0 σ.mv [] } (x:=p.dst) (y:=i.dst) vp vi h2
   rw[← this]
   congr 1
   cases p.dst <;> rfl
  rw[e2]
  exact hk2
theorem Fy{pf:List Nat}(hpf:aQ Γ pf){all:Array Oper}{p i:Oper}(hp:be pf p=true)(hi:be pf i=true)(hap:p.apart all i=true){mp mi:Bool}{K:S->Prop}{σ:S}
  (h:opm P Γ all ob mp p (opm P Γ all ob mi i K) σ):opm P Γ all ob mi i (opm P Γ all ob mp p K) σ:=by
 obtain⟨h1,h2,h3⟩:=Oper.apart_spec hap
 obtain⟨cp,h⟩:=h
 rw[cm hpf hp]at h
 obtain⟨vp,⟨ci,hk⟩,hyp⟩:=fW pf all p σ.slots σ.own _ h
 rw[cm hpf hi,gI h1]at hk
 obtain⟨vi,hk2,hyi⟩:=fW pf all i σ.slots σ.own _ hk
 have sameOps:∀(a b:Oper) (v:AV),(∀d,a.dst=some d->d∉b.looksAt all)->∀x∈b.op.operands.toList,ev (σ.put a.dst v).slots x=ev σ.slots x:=fun a b v hab x hx=>by
  cases hd:a.dst with
  | none=>rfl
  | some d =>
   simp only[S.put]
   rw[fR (fun e=>hab d hd (cK (e ▸ hx)))]
 refine⟨fun hm=>dY (fun x hx=>(sameOps p i vp h1 x hx).symm) (ci hm),?_⟩
 rw[cm hpf hi]
 refine hyi _ ⟨fun hm=>dY (sameOps i p vi h3) (cp hm),?_⟩
 rw[cm hpf hp,gI h3]
 refine hyp _ ?_
 rw[← ff σ vp vi h2]
 exact hk2
def bh(P:Program)(Γ:Nat->a8)(ops:Array Oper)(ob:Nat)(ms:List Nat)(Q:Exit->S->Prop):List Nat->S->Prop
 | [],σ=>Q .normal σ
 | i :: r,σ=>match ops[i]? with|some o=>opm P Γ ops ob (ms.contains i) o (bh P Γ ops ob ms Q r) σ|none=>False
def kY(pf mf ms:List Nat)(ops:Array Oper)(p i:Nat):Bool :=
 match ops[p]?,ops[i]? with
 | some op,some oi=>op.apart ops oi && ((be pf op && be pf oi) || (isV op.op && M0 mf oi) || (isV op.op && ms.contains p && gO oi && ms.contains i))
 | _,_=>false
def cL(pf mf ms:List Nat)(ops:Array Oper):List Nat->Bool
 | []=>true
 | p :: r=>(r.all fun i=>Region.waitsFor .any ops i p || kY pf mf ms ops p i) && cL pf mf ms ops r
def oY(pf mf ms:List Nat)(ops:Array Oper)(L:List Nat):Bool:=cL pf mf ms ops L && gx ops && e9 ops && dC ops.size L && fC L
theorem oS{pf mf ms:List Nat}(hpf:aQ Γ pf)(hmf:bF Γ mf){ops:Array Oper}{Q:Exit->S->Prop}{i:Nat}{oi:Oper}(hi:ops[i]?=some oi):∀(pre post:List Nat) (σ:S),(∀p∈pre,kY pf mf ms ops p i=true)->bh P Γ ops ob ms Q (pre++i :: post) σ ->
  opm P Γ ops ob (ms.contains i) oi (bh P Γ ops ob ms Q (pre++post)) σ
 | [],post,σ,_,h=>by
  simp only[List.nil_append,bh,hi]at h ⊢
  exact h
 | p :: pre,post,σ,hs,h=>by
  have e2:∀(op:Oper) (l:List Nat),ops[p]?=some op->bh P Γ ops ob ms Q (p :: l)=opm P Γ ops ob (ms.contains p) op (bh P Γ ops ob ms Q l):=fun op l hop=>by funext σ;simp only[bh,hop]
  simp only[List.cons_append]at h ⊢
  have hp:=hs p (by simp)
  unfold kY at hp
  rw[hi]at hp
  cases hop:ops[p]? with
  | none=>simp only[bh,hop]at h
  | some op =>
   rw[e2 op _ hop]at h ⊢
   simp only[hop,Bool.and_eq_true,Bool.or_eq_true]at hp
   obtain⟨hap,hk⟩:=hp
   have hvp:be pf op=true:=by
    rcases hk with(hk|hk)|hk
    ·exact hk.1
    ·simp[be,hk.1]
    ·simp[be,hk.1.1.1]
   have h':opm P Γ ops ob (ms.contains p) op (opm P Γ ops ob (ms.contains i) oi (bh P Γ ops ob ms Q (pre++post))) σ :=
    ⟨h.1,dz hpf hvp (fun σ' hσ'=>oS hpf hmf hi pre post σ' (fun q hq=>hs q (by simp[hq])) hσ') h.2⟩
   rcases hk with(hk|hk)|hk
   ·exact Fy hpf hk.1 hk.2 hap h'
   ·refine Bg hpf hk.1 hap (fun _ _ _ _ _=>trivial) (fun K σ' ho hc hh=>?_) h'
    obtain⟨v,ex,g1,g2⟩:=va hmf hk.2 hh
    refine⟨v,_,g1,g2,fun k _ hg=>?_⟩
    rw[ho]
    exact kF hk.1 ex _ hg
   ·refine Bg hpf hk.1.1.1 hap (fun _ _ _ _ _=>trivial) (fun K σ' ho hc hh=>?_) h'
    obtain⟨obj',g1,g2⟩:=nN hk.1.2 (hc hk.2) hh
    refine⟨.top,_,g1,g2,fun k hcp hg=>?_⟩
    rw[ho]
    exact oK hk.1.1.1 (hcp hk.1.1.2) hg
theorem fF{pf mf ms:List Nat}{ops:Array Oper}:∀{L:List Nat},cL pf mf ms ops L=true->∀pre i post,L=pre++i :: post->∀p∈pre,Region.waitsFor .any ops i p=true∨kY pf mf ms ops p i=true
 | [],_,pre,i,post,e,p,hp=>by cases pre <;> cases e
 | q :: r,h,pre,i,post,e,p,hp=>by
  simp only[cL,Bool.and_eq_true]at h
  cases pre with
  | nil=>cases hp
  | cons a pre =>
   simp only[List.cons_append,List.cons.injEq]at e
   obtain⟨rfl,e⟩:=e
   rcases List.mem_cons.1 hp with rfl|hp
   ·have:=List.all_eq_true.1 h.1 i (by rw[e];simp)
    simpa using this
   ·exact fF h.2 pre i post e p hp
theorem fh{pf mf ms:List Nat}{ops:Array Oper}(f:Nat->Bool):∀{L:List Nat},cL pf mf ms ops L=true->cL pf mf ms ops (L.filter f)=true
 | [],_=>rfl
 | q :: r,h=>by
  simp only[cL,Bool.and_eq_true]at h
  simp only[List.filter_cons]
  split
  ·simp only[cL,Bool.and_eq_true]
   exact⟨List.all_eq_true.2 fun i hi=>List.all_eq_true.1 h.1 i (List.mem_filter.1 hi).1,fh f h.2⟩
  ·exact fh f h.2
theorem nR{pf mf ms:List Nat}(hΓ:OkG P Γ)(hpf:aQ Γ pf)(hmf:bF Γ mf){ops:Array Oper}{Q:Exit->S->Prop}{L:List Nat}(hok:oY pf mf ms ops L=true){c:Ctx}:∀(fuel:Nat) (listed:Array Bool) (σ:S) (a:Act) (w:World),listed.size=ops.size ->
  (L.filter fun i=>!listed.getD i true).length<=fuel->St c σ a w->bh P Γ ops ob ms Q (L.filter fun i=>!listed.getD i true) σ->wpAnyIn (fen c.rd) 0 P .any ops (lift c Q) fuel listed a w:=by
 simp only[oY,Bool.and_eq_true]at hok
 obtain⟨⟨⟨⟨fX,gk⟩,dk⟩,cO⟩,hnd⟩:=hok
 have kT:=dP hnd
 simp only[dC,Bool.and_eq_true,List.all_eq_true,List.mem_range,List.contains_eq_mem,decide_eq_true_eq]at cO
 obtain⟨⟨jk,hlen⟩,hlt⟩:=cO
 have ready:∀(listed:Array Bool),listed.size=ops.size->Region.ready .any ops listed=[]->(L.filter fun i=>!listed.getD i true)=[]:=by
  intro listed hsz hr
  rw[List.filter_eq_nil_iff]
  have key:∀i,i<ops.size->listed.getD i true=true:=by
   intro i
   induction i using Nat.strongRecOn with
   | _ i ih =>
    intro eH
    cases hx:listed.getD i true with
    | true=>rfl
    | false =>
     exfalso
     have:i∈Region.ready .any ops listed:=by
      refine mem_ready.2 ⟨hx,ops[i],Array.getElem?_eq_getElem eH,fun e he hb=>?_⟩
      have hw:Region.waitsFor .any ops i e.on=true:=by
       simp only[Region.waitsFor,Array.getElem?_eq_getElem eH,Array.any_eq_true']
       exact⟨e,he,by simp[hb]⟩
      have hon:e.on<ops.size:=by
       have h1:=Array.all_eq_true'.1 dk ops[i] (Array.getElem_mem eH)
       have h2:=Array.all_eq_true'.1 h1 e he
       simpa [hb] using h2
      have re:e.on<i:=by
       have h1:=List.all_eq_true.1 gk i (List.mem_range.2 eH)
       have h2:=List.all_eq_true.1 h1 e.on (List.mem_range.2 hon)
       simpa [hw] using h2
      have h3:=ih e.on re hon
      have h4:e.on<listed.size:=by omega
      simp[h4]at h3 ⊢
      exact h3
     rw[hr]at this
     cases this
  intro i hi
  simp only[Bool.not_eq_true',Bool.not_eq_false]
  exact key i (hlt i hi)
 intro fuel
 induction fuel with
 | zero =>
  intro listed σ a w hsz hf hst hch
  have h0:(L.filter fun i=>!listed.getD i true)=[]:=List.eq_nil_of_length_eq_zero (by omega)
  rw[h0]at hch
  refine⟨?_,bn hst hch⟩
  rw[List.eq_nil_iff_forall_not_mem]
  intro i hi
  obtain⟨g1,o,g2,_⟩:=mem_ready.1 hi
  have hi':i<ops.size:=(Array.getElem?_eq_some_iff.1 g2).1
  have:i∈(L.filter fun i=>!listed.getD i true):=List.mem_filter.2 ⟨jk i hi',by simp[g1]⟩
  rw[h0]at this
  cases this
 | succ fuel ih =>
  intro listed σ a w hsz hf hst hch
  refine⟨fun hr=>?_,fun i hi=>?_⟩
  ·rw[ready listed hsz hr]at hch
   exact bn hst hch
  ·obtain⟨g1,o,g2,g3⟩:=mem_ready.1 hi
   have hi':i<ops.size:=(Array.getElem?_eq_some_iff.1 g2).1
   obtain⟨pre,post,e1,e2⟩:=en kT (jk i hi') (f:=fun i=>!listed.getD i true) (by simp[g1])
   have hfr:=fF (fh (fun i=>!listed.getD i true) fX) pre i post e1
   rw[e1]at hch
   have hb:=oS hpf hmf g2 pre post σ (fun p hp=>by
    rcases hfr p hp with h|h
    ·exfalso
     have hpm:p∈(L.filter fun i=>!listed.getD i true):=by rw[e1];simp[hp]
     have hun:=(List.mem_filter.1 hpm).2
     simp only[Region.waitsFor,g2,Array.any_eq_true',Bool.and_eq_true,beq_iff_eq]at h
     obtain⟨e,he,hb,hon⟩:=h
     have hl:=g3 e he hb
     rw[hon]at hl
     have:listed.getD p true=false:=by simpa using hun
     rw[getD_both this]at hl
     cases hl
    ·exact h) hch
   unfold wpOpIn
   simp only[g2]
   have eV:(L.filter fun j=>!(listed.setIfInBounds i true).getD j true)=pre++post:=by
    rw[← e2]
    refine List.filter_congr fun j hj=>?_
    have hj':=hlt j hj
    by_cases e:i=j
    ·subst e
     simp[hsz,hi']
    ·have e':¬(j=i):=fun h=>e h.symm
     simp[Array.getElem?_setIfInBounds_ne e,e']
   have dV:(L.filter fun j=>!(listed.setIfInBounds i true).getD j true).length<=fuel:=by
    rw[eV]
    rw[e1]at hf
    simp only[List.length_append,List.length_cons]at hf ⊢
    omega
   rcases cf hΓ (Q:=lift c Q) hst hb.2 with⟨hw,hwp⟩|⟨hw,σ',bA,hK⟩
   ·rw[if_pos hw]
    refine Oper.wpIn_mono ?_ hwp
    rintro a' w' ⟨σ',bA,hK⟩
    exact ih _ σ' a' w' (by simp[hsz]) dV bA (by rw[eV];exact hK)
   ·rw[if_neg (by simp[hw])]
    exact⟨fun _ _=>trivial,ih _ σ' _ w (by simp[hsz]) dV bA (by rw[eV];exact hK)⟩
theorem iK{pf mf ms:List Nat}(hm:P.follows .mixedOrders=true)(hΓ:OkG P Γ)(hpf:aQ Γ pf)(hmf:bF Γ mf){id:Nat}{ops:Array Oper}{Q:Exit->S->Prop}{σ:S}(L:List Nat)(hok:oY pf mf ms ops L=true)
  (h:bh P Γ ops ob ms Q L σ):sem P (.region id ops true) Q σ:=by
 intro c a w hst
 refine wpIn_region_any hm ?_
 have bA:St c σ a { w with drawn:=w.drawn+1 }:=by
  obtain⟨hd,hn,F,φ,h2,h3,h4⟩:=hst
  refine⟨hd,hn,F,φ,⟨h2.sub,⟨h2.ext.os,h2.ext.tape,h2.ext.output,h2.ext.size,h2.ext.same,Nat.le_trans h2.ext.drn (Nat.le_succ _)⟩,h2.keep,h2.rest,h2.orig,h2.frsh⟩,h3.drew,?_⟩
  exact AV.Rs_mono (fun _ h=>h) eE (fun _ _ h=>h) _ _ h4
 have hf:(L.filter fun i=>!(Array.replicate ops.size false).getD i true)=L:=by
  rw[List.filter_eq_self]
  intro i hi
  simp only[oY,Bool.and_eq_true,dC,List.all_eq_true,decide_eq_true_eq]at hok
  have:=hok.1.2.2 i hi
  simp[this]
 refine nR hΓ hpf hmf hok ops.size _ σ a _ (by simp) ?_ bA (by rw[hf];exact h)
 rw[hf]
 simp only[oY,Bool.and_eq_true,dC,decide_eq_true_eq]at hok
 omega
end
def AV.norm1(x:AV):AV:=match x.pure with|some d=>.dat d|none=>x
def AV.norm:AV->AV
 | .tup vs=>.tup (vs.map AV.norm1)
 | x=>x.norm1
section
variable {P:Program} {fn:Func} {F:Nat->Prop} {φ:Nat->Option Loc} {w:World}
theorem vV{x:AV}{c:Value}(h:AV.R F φ w x c):AV.R F φ w x.norm1 c:=by
 unfold AV.norm1
 split
 ·rename_i d hd
  simp only[AV.R]
  exact m9 hd h
 ·exact h
theorem xh:∀{vs:List AV} {us:List Value},AV.Rs F φ w vs us->AV.Rs F φ w (vs.map AV.norm1) us
 | [],us,h=>by simpa only[List.map_nil,AV.Rs] using h
 | v :: vs,us,h=>by
  simp only[AV.Rs]at h
  obtain⟨u,us',rfl,h1,h2⟩:=h
  simp only[List.map_cons,AV.Rs]
  exact⟨u,us',rfl,vV h1,xh h2⟩
theorem IP{x:AV}{c:Value}(h:AV.R F φ w x c):AV.R F φ w x.norm c:=by
 unfold AV.norm
 split
 ·simp only[AV.R]at h ⊢
  obtain⟨arr,h1,h2⟩:=h
  exact⟨arr,h1,xh h2⟩
 ·exact vV h
theorem LD{s:List AV}{own:List Obj}{n0:Nat}{mv:List Nat}:Le ⟨s,own,n0,mv⟩ ⟨s.map AV.norm,own,n0,mv⟩:=by
 rintro c a w ⟨hd,hn,F,φ,h2,h3,h4⟩
 refine⟨hd,hn,F,φ,h2,h3,?_⟩
 have:∀{vs:List AV} {us:List Value},AV.Rs F φ w vs us->AV.Rs F φ w (vs.map AV.norm) us:=by
  intro vs
  induction vs with
  | nil=>intro us h;simpa only[List.map_nil,AV.Rs] using h
  | cons v vs ih =>
   intro us h
   simp only[AV.Rs]at h
   obtain⟨u,us',rfl,h1,h2⟩:=h
   simp only[List.map_cons,AV.Rs]
   exact⟨u,us',rfl,IP h1,ih h2⟩
 exact this h4
theorem aZ{v:AV}{s:List AV}{own:List Obj}{mv:List Nat}{e:Exit}(he:e=.ret∨e=.normal)(rs:List ResultVar)(hrs:fn.results.toList=rs)
  (h:s6 P rs ⟨s,own,0,mv⟩ (fun vs=>Le ⟨[wc vs],own,0,mv⟩ ⟨[v],[],0,[]⟩)):post P fn v [] [] e ⟨s,own,0,mv⟩:=by
 refine⟨by rcases he with rfl|rfl <;> trivial,?_⟩
 rw[hrs]
 have key:∀(rs:List ResultVar) (K K':List AV->Prop),(∀vs,K vs->K' vs)->s6 P rs ⟨s,own,0,mv⟩ K->s6 P rs ⟨s,own,0,mv⟩ K':=by
  intro rs
  induction rs with
  | nil=>intro K K' hk h;exact hk _ h
  | cons r rs ih =>
   intro K K' hk h
   cases r with
   | tmp t=>simp only[s6]at h ⊢;exact ih _ _ (fun vs hv=>hk _ hv) h
   | cell a t =>
    simp only[s6]at h ⊢
    obtain⟨v,hv,cO⟩:=nF _ _ _ h
    exact cO _ (ih _ _ (fun vs hv=>hk _ hv) hv)
 exact key rs _ _ (fun vs hv=>⟨[],hv,fun _ h=>h⟩) h
theorem bp{v v':AV}{own:List Obj}{mv:List Nat}(hn:v.norm=v')(hu:v'.under 0):Le ⟨[v],own,0,mv⟩ ⟨[v'],[],0,[]⟩:=by
 refine Le.trans LD ?_
 simp only[List.map_cons,List.map_nil,hn]
 exact CN hu
@[go_sem] theorem Dx {o:Nat} {ag:Option Nat} {xs:List D}:∀(ds:List D),AV.frzs o ag xs (ds.map .dat)=ds.map .dat
 | []=>rfl
 | d :: ds=>by simp only[List.map_cons,AV.frzs,AV.frz,Dx ds]
theorem jj{o:Nat}{ag:Option Nat}{xs:List D}{v:AV}:∀(l:List AV) (k:Nat),AV.frzs o ag xs (l.set k v)=(AV.frzs o ag xs l).set k (v.frz o ag xs)
 | [],k=>by simp[AV.frzs]
 | a :: l,0=>by simp[AV.frzs]
 | a :: l,k+1=>by simp[AV.frzs,jj l k]
@[go_sem] theorem hH {n:Nat}:∀(ds:List D),AV.unders n (ds.map .dat)=True
 | []=>by simp[AV.unders]
 | d :: ds=>by simp[AV.unders,AV.under,hH ds]
section
variable {ob:Nat} {dst:Option Tmp} {ty:TypeId} {pos:String} {af:Array Edge} {gd:Option (Nat×Bool)} {st:List AV} {x y a:Operand} {t:TypeId} {f:Nat}
@[go_sem] theorem K8:cA ob ⟨dst,.store t a x,ty,pos,af,gd⟩ st=∃i j,ev st a=.ptr ob i j:=Eq.trans rfl rfl
@[go_sem] theorem MW:cA ob ⟨dst,.load t x,ty,pos,af,gd⟩ st=((ev st x).refs ob=false):=by simp[cA,Op.operands]
@[go_sem] theorem NK:cA ob ⟨dst,.move x,ty,pos,af,gd⟩ st=((ev st x).refs ob=false):=by simp[cA,Op.operands]
@[go_sem] theorem DG:cA ob ⟨dst,.indexAddr t x y,ty,pos,af,gd⟩ st=((ev st x).refs ob=false/\(ev st y).refs ob=false):=by simp[cA,Op.operands]
@[go_sem] theorem Cy:cA ob ⟨dst,.fieldAddr t x f,ty,pos,af,gd⟩ st=((ev st x).refs ob=false):=by simp[cA,Op.operands]
@[go_sem] theorem Za {i j:Nat}:(∃i' j',AV.ptr ob i j=.ptr ob i' j')=True:=eq_true ⟨i,j,rfl⟩
end
attribute [go_sem] opm AV.refs List.contains_cons List.contains_nil Nat.reduceBEq Bool.false_or Bool.or_false Bool.true_or Bool.or_true
attribute [go_sem] Obj.under Nat.reduceEqDiff Nat.reduceSub Nat.reduceMul Int.reduceLT Int.reduceEq Int.reduceAdd Int.reduceSub Int.reduceMul
@[go_sem] theorem SK {v:AV}:wc [v]=v:=Eq.trans rfl rfl
@[go_sem] theorem QY {a b:AV} {l:List AV}:wc (a :: b :: l)=.tup (a :: b :: l):=Eq.trans rfl rfl
attribute [go_sem] s6 AV.frzs AV.frz Obj.frz AV.norm AV.norm1 AV.under AV.unders
end
end Go.AM

