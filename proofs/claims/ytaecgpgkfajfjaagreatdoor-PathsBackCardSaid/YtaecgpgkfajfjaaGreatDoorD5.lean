/- Own work over the model of the kit. -/
import Derived.Test.YtaecgpgkfajfjaaGreatDoorD4
set_option linter.unnecessarySimpa false
set_option linter.unusedSimpArgs false
set_option linter.unusedVariables false
namespace Go.AM
open Go
def AV.refs(o:Nat):AV->Bool
 | .ptr o' _ _=>o' == o
 | .sl o' _ _=>o' == o
 | .map o'=>o' == o
 | _=>false
def mkCall(mf:List Nat)(o:Oper):Option (Nat×Array Operand) :=
 match o.op,o.guard with
 | .call c,none=>(match c.callee with|.value (.func g)=>if mf.contains g then some (g,c.args) else none|_=>none)
 | _,_=>none
def dynF:Nat:=1000000007
def dynCall(mf:List Nat)(o:Oper):Bool :=
 match o.op,o.guard with
 | .call c,none=>(match c.callee with|.value (.tmp _)=>mf.contains dynF|_=>false)
 | _,_=>false
def isMk(mf:List Nat)(o:Oper):Bool:=isMake o || (mkCall mf o).isSome || dynCall mf o
def isStore(o:Oper):Bool :=
 match o.op,o.dst,o.guard with
 | .store _ _ _,none,none=>true
 | _,_,_=>false
def MakeFns(Γ:Nat->Contract)(mf:List Nat):Prop:=∀g args own v own' mv,g∈mf∨dynF∈mf->Γ g args own v own' mv->(∃ex,own'=own++ex)/\mv=[]
def condM(ob:Nat)(o:Oper)(slots:List AV):Prop :=
 match o.op with
 | .store _ a _=>∃i j,ev slots a=.ptr ob i j
 | op=>∀x∈op.operands.toList,(ev slots x).refs ob=false
section
variable {P:Program} {Γ:Nat->Contract} {own:List Obj} {ob:Nat}
def opm(P:Program)(Γ:Nat->Contract)(all:Array Oper)(ob:Nat)(m:Bool)(o:Oper)(K:S->Prop)(σ:S):Prop:=(m=true->condM ob o σ.slots)/\opg P Γ all o K σ
theorem condM_congr{o:Oper}{s s':List AV}(h:∀x∈o.op.operands.toList,ev s' x=ev s x)(hc:condM ob o s):condM ob o s':=by
 unfold condM at hc ⊢
 split
 ·rename_i t a x hop
  rw[hop]at hc h
  simp only at hc
  rw[h a (by simp[Op.operands])]
  exact hc
 ·rename_i hn
  split at hc
  ·rename_i hop;exact(hn _ _ _ hop).elim
  ·intro x hx
   rw[h x hx]
   exact hc x hx
def Eff(P:Program)(Γ:Nat->Contract)(all:Array Oper)(i:Oper)(σ:S)(v:AV)(own':List Obj):Prop :=
 ∀(K':S->Prop) (σ':S),σ'.own=σ.own->(∀x∈i.op.operands.toList,ev σ'.slots x=ev σ.slots x)->K' (σ'.effect i.dst v own' [])->opg P Γ all i K' σ'
theorem mk_det{mf:List Nat}(hmf:MakeFns Γ mf){o:Oper}(hm:isMk mf o=true){K:S->Prop}{σ:S}{all:Array Oper}(h:opg P Γ all o K σ) :
  ∃v ex,K (σ.effect o.dst v (σ.own++ex) [])/\Eff P Γ all o σ v (σ.own++ex):=by
 unfold isMk at hm
 rw[Bool.or_eq_true_iff,Bool.or_eq_true_iff]at hm
 rcases hm with(hm|hm)|hm
 ·obtain⟨v,obj,h1,h2⟩:=make_det hm h
  exact⟨v,[obj],h1,h2⟩
 ·obtain⟨⟨g,args⟩,hg⟩:=Option.isSome_iff_exists.1 hm
  unfold mkCall at hg
  split at hg
  ·rename_i c hc hgd
   split at hg
   ·rename_i g' hcal
    split at hg
    ·rename_i hmem
     simp only[Option.some.injEq,Prod.mk.injEq]at hg
     obtain⟨rfl,rfl⟩:=hg
     have e:∀(K:S->Prop) (σ:S),opg P Γ all o K σ=∃v own' mv,Γ g' (c.args.toList.map (ev σ.slots)) σ.own v own' mv/\K (σ.effect o.dst v own' mv):=fun K σ=>by
      unfold opg
      rw[hgd]
      simp only
      unfold opw
      rw[hc]
      simp only[isV,hcal,eop,ecall,callw,ev,List.append_nil,Bool.false_eq_true,if_false]
      rfl
     rw[e]at h
     obtain⟨v,own',mv,h1,h2⟩:=h
     obtain⟨⟨ex,rfl⟩,rfl⟩:=hmf g' _ _ _ _ _ (.inl (by simpa using hmem)) h1
     refine⟨v,ex,h2,fun K' σ' ho hx hK'=>?_⟩
     rw[e]
     refine⟨v,_,[],?_,hK'⟩
     have ea:c.args.toList.map (ev σ'.slots)=c.args.toList.map (ev σ.slots):=by
      refine List.map_congr_left fun x hx'=>hx x ?_
      rw[hc]
      simp[Op.operands,Call.operands,hcal,hx']
     rw[ea,ho]
     exact h1
    ·cases hg
   ·cases hg
  ·cases hg
 ·unfold dynCall at hm
  split at hm
  ·rename_i c hc hgd
   split at hm
   ·rename_i t hcal
    have e:∀(K:S->Prop) (σ:S),opg P Γ all o K σ=callw Γ (ev σ.slots (.tmp t)) (c.args.toList.map (ev σ.slots)) σ.own (fun v own' mv=>K (σ.effect o.dst v own' mv)):=fun K σ=>by
     unfold opg
     rw[hgd]
     simp only
     unfold opw
     rw[hc]
     simp only[isV,hcal,eop,ecall,Bool.false_eq_true,if_false]
     rfl
    rw[e]at h
    unfold callw at h
    split at h
    ·rename_i g caps hf
     obtain⟨v,own',mv,h1,h2⟩:=h
     obtain⟨⟨ex,rfl⟩,rfl⟩:=hmf g _ _ _ _ _ (.inr (by simpa using hm)) h1
     refine⟨v,ex,h2,fun K' σ' ho hx hK'=>?_⟩
     have ea:c.args.toList.map (ev σ'.slots)=c.args.toList.map (ev σ.slots):=by
      refine List.map_congr_left fun x hx'=>hx x ?_
      rw[hc]
      simp[Op.operands,Call.operands,hcal,hx']
     have ef:ev σ'.slots (.tmp t)=ev σ.slots (.tmp t):=hx _ (by rw[hc];simp[Op.operands,Call.operands,hcal])
     rw[e,ea,ef,ho,hf]
     exact⟨v,_,[],h1,hK'⟩
    ·exact h.elim
   ·cases hm
  ·cases hm
theorem storeObj_det{τ:Ty}{obj:Obj}{i j:Nat}{x:AV}{K:Obj->Prop}(h:storeObj τ obj i j x K):∃obj',K obj'/\∀K':Obj->Prop,K' obj'->storeObj τ obj i j x K':=by
 unfold storeObj at h ⊢
 split at h
 ·split at h
  ·obtain⟨h2,h3,h4,h⟩:=h
   split at h
   ·exact⟨_,h.2,fun K' hK'=>⟨h2,h3,h4,h.1,hK'⟩⟩
   ·exact h.elim
  ·obtain⟨h2,h3,h4,h⟩:=h
   split at h
   ·exact⟨_,h.2,fun K' hK'=>⟨h2,h3,h4,h.1,hK'⟩⟩
   ·exact h.elim
 ·obtain⟨h1,h⟩:=h
  split at h
  ·split at h
   ·rename_i ha
    refine⟨_,h.2.2.2,fun K' hK'=>⟨h1,?_⟩⟩
    rw[if_pos ha]
    exact⟨h.1,h.2.1,h.2.2.1,hK'⟩
   ·rename_i ha
    refine⟨_,h.2.2.2,fun K' hK'=>⟨h1,?_⟩⟩
    rw[if_neg ha]
    exact⟨h.1,h.2.1,h.2.2.1,hK'⟩
  ·exact h.elim
 ·obtain⟨h1,h2,h3,h⟩:=h
  split at h
  ·exact⟨_,h,fun K' hK'=>⟨h1,h2,h3,hK'⟩⟩
  ·exact h.elim
 ·split at h
  ·exact⟨_,h.2.2,fun K' hK'=>⟨h.1,h.2.1,hK'⟩⟩
  ·exact h.elim
 ·obtain⟨h1,h2,h3,h⟩:=h
  split at h
  ·exact⟨_,h,fun K' hK'=>⟨h1,h2,h3,hK'⟩⟩
  ·exact h.elim
 ·obtain⟨h1,h⟩:=h
  split at h
  ·exact⟨_,h.2.2,fun K' hK'=>⟨h1,h.1,h.2.1,hK'⟩⟩
  ·exact h.elim
 ·exact h.elim
theorem store_det{o:Oper}(hm:isStore o=true){K:S->Prop}{σ:S}{all:Array Oper}(hc:condM ob o σ.slots)(h:opg P Γ all o K σ) :
  ∃obj',K (σ.effect o.dst .top (σ.own.set ob obj') [])/\Eff P Γ all o σ .top (σ.own.set ob obj'):=by
 unfold isStore at hm
 split at hm
 ·rename_i t a x hop hdst hg
  unfold condM at hc
  rw[hop]at hc
  simp only at hc
  obtain⟨i,j,ha⟩:=hc
  have e:∀(K:S->Prop) (σ:S),opg P Γ all o K σ=storew (tyOf P t) σ.own (ev σ.slots a) (ev σ.slots x) (PutE o.dst K σ):=fun K σ=>by
   unfold opg
   rw[hg]
   simp only
   unfold opw
   simp only[hop,isV,Bool.false_eq_true,if_false,eop]
  rw[e,ha]at h
  unfold storew at h
  split at h
  ·rename_i τ o' i' j' hτ hp
   cases hp
   obtain⟨obj',h1,h2⟩:=storeObj_det h
   refine⟨obj',h1,fun K' σ' ho hx hK'=>?_⟩
   rw[e,hx a (by rw[hop];simp[Op.operands]),hx x (by rw[hop];simp[Op.operands]),ha,hτ,ho]
   simp only[storew]
   refine h2 _ ?_
   unfold PutE
   exact hK'
  ·exact h.elim
 ·cases hm
theorem vG_mores{pf:List Nat}{all:Array Oper}{o:Oper}(hv:isV o.op=true){slots:List AV}{k:AV->Prop}:∀(ex own:List Obj),vG P Γ pf all o slots own k->vG P Γ pf all o slots (own++ex) k
 | [],own,h=>by rw[List.append_nil];exact h
 | x :: ex,own,h=>by
  have:=vG_mores hv ex (own++[x]) (vG_more hv h)
  rwa [List.append_assoc]at this
theorem vop_set{slots:List AV}{op:Op}{K:AV->Prop}{obj':Obj}(hr:∀x∈op.operands.toList,(ev slots x).refs ob=false)(h:vop P own slots op K):vop P (own.set ob obj') slots op K:=by
 have key:∀o,o≠ob->(own.set ob obj').getD o .dead=own.getD o .dead:=fun o hne=>by
  have hne':¬ob=o:=fun e=>hne e.symm
  simp[List.getD_eq_getElem?_getD,List.getElem?_set,hne']
 unfold vop at h ⊢
 split at h
 case h_7 t a =>
  have hra:=hr a (by simp[Op.operands])
  unfold loadw at h ⊢
  split at h
  ·rename_i o i j hτ hp
   rw[hp]at hra
   simp only[AV.refs,beq_eq_false_iff_ne]at hra
   rw[key _ hra]
   exact h
  ·exact h
  ·exact h.elim
 case h_10 t a i =>
  have hra:=hr a (by simp[Op.operands])
  unfold idxAddrw at h ⊢
  split at h
  ·rename_i o off len k n hτ hp hq
   rw[hp]at hra
   simp only[AV.refs,beq_eq_false_iff_ne]at hra
   rw[key _ hra]
   exact h
  ·exact h
  ·rename_i o i0 j k n hτ hp hq
   rw[hp]at hra
   simp only[AV.refs,beq_eq_false_iff_ne]at hra
   rw[key _ hra]
   exact h
  ·exact h
  ·exact h.elim
 case h_12 t a lo hi =>
  have hra:=hr a (by simp[Op.operands])
  unfold slicew at h ⊢
  split at h
  ·rename_i o off len hτ hp
   rw[hp]at hra
   simp only[AV.refs,beq_eq_false_iff_ne]at hra
   rw[key _ hra]
   exact h
  ·exact h
  ·exact h
  ·exact h
  ·exact h.elim
 case h_15 t a k ok =>
  have hra:=hr a (by simp[Op.operands])
  unfold lookupw at h ⊢
  split at h
  ·rename_i o k' hτ hp hq
   rw[hp]at hra
   simp only[AV.refs,beq_eq_false_iff_ne]at hra
   rw[key _ hra]
   exact h
  ·exact h.elim
 case h_18 c =>
  obtain⟨callee,args,argTypes⟩:=c
  unfold bltw at h ⊢
  split at h
  ·rename_i x t hcal hargs hts
   have hra:=hr x (by
    have:x∈args.toList:=by simp only at hargs;rw[hargs];simp
    simp only at hcal
    subst hcal
    simp[Op.operands,Call.operands,this])
   unfold lenw at h ⊢
   split at h
   ·split at h
    case h_7 =>
     rename_i o _ hp
     rw[hp]at hra
     simp only[AV.refs,beq_eq_false_iff_ne]at hra
     rw[key _ hra]
     exact h
    all_goals exact h
   ·exact h.elim
  ·exact h
  ·exact h
  ·exact h.elim
 all_goals exact h
theorem vG_setOwn{pf:List Nat}{all:Array Oper}{o:Oper}(hv:isV o.op=true){slots:List AV}{k:AV->Prop}{obj':Obj}(hc:condM ob o slots)(h:vG P Γ pf all o slots own k):vG P Γ pf all o slots (own.set ob obj') k:=by
 have hr:∀x∈o.op.operands.toList,(ev slots x).refs ob=false:=by
  unfold condM at hc
  split at hc
  ·rename_i hop;rw[hop]at hv;simp[isV]at hv
  ·exact hc
 have hB:∀k,vB P Γ pf o slots own k->vB P Γ pf o slots (own.set ob obj') k:=fun k h=>by
  unfold vB at h ⊢
  simp only[hv,if_true]at h ⊢
  exact vop_set hr h
 unfold vG at h ⊢
 split at h
 ·exact hB _ h
 ·split at h
  ·unfold grd at h ⊢
   split at h
   ·exact⟨fun e=>hB _ (h.1 e),h.2⟩
   ·exact h
   ·exact h.elim
  ·exact h.elim
theorem swap_ve{pf:List Nat}(hpf:PureFns Γ pf){all:Array Oper}{p i:Oper}(hp:isV p.op=true)(hap:p.apart all i=true){mp mi:Bool}{K:S->Prop}{σ:S}
  (det:∀σ',mi=true∨mi=false->(mi=true->condM ob i σ'.slots)->σ'.own=σ.own->opg P Γ all i (opm P Γ all ob false p K) σ'->True)
  (hi:∀(K:S->Prop) (σ':S),σ'.own=σ.own->(mi=true->condM ob i σ'.slots)->opg P Γ all i K σ'->∃v own',K (σ'.effect i.dst v own' [])/\Eff P Γ all i σ' v own'/\∀k,(mp=true->condM ob p σ.slots)->vG P Γ pf all p σ.slots σ.own k->vG P Γ pf all p σ.slots own' k)
  (h:opm P Γ all ob mp p (opm P Γ all ob mi i K) σ):opm P Γ all ob mi i (opm P Γ all ob mp p K) σ:=by
 obtain⟨h1,h2,h3⟩:=Oper.apart_spec hap
 obtain⟨cp,h⟩:=h
 have hpv:vlike pf p=true:=by simp[vlike,hp]
 rw[opg_vG hpf hpv]at h
 obtain⟨vp,⟨ci,hk⟩,hyp⟩:=vG_det pf all p σ.slots σ.own _ h
 have hops:∀x∈i.op.operands.toList,ev σ.slots x=ev (σ.put p.dst vp).slots x:=fun x hx=>by
  cases hd:p.dst with
  | none=>rfl
  | some d =>
   simp only[S.put]
   rw[ev_set (fun e=>h1 d hd (looks_op (e ▸ hx)))]
 obtain⟨vi,own',hk2,hyi,hst⟩:=hi _ _ (put_own σ p.dst vp).1 ci hk
 refine⟨fun hm=>condM_congr hops (ci hm),hyi _ σ (put_own σ p.dst vp).1.symm hops ⟨fun hm=>?_,?_⟩⟩
 ·refine condM_congr (fun x hx=>?_) (cp hm)
  unfold S.effect
  cases hd:i.dst with
  | none=>rfl
  | some d =>
   simp only[S.put,killAll]
   rw[ev_set (fun e=>h3 d hd (looks_op (e ▸ hx)))]
 ·rw[opg_vG hpf hpv]
  have e:∀k,vG P Γ pf all p (σ.effect i.dst vi own' []).slots (σ.effect i.dst vi own' []).own k=vG P Γ pf all p σ.slots own' k:=by
   intro k
   unfold S.effect
   exact vG_put (P:=P) (Γ:=Γ) (pf:=pf) (all:=all) (o:=p) (o':=i) (σ:={ slots:=killAll [] σ.slots,own:=own',n0:=σ.n0,mv:=addMv σ.n0 σ.mv [] }) (u:=vi) (k:=k) h3
  rw[e]
  refine hst _ cp (hyp _ ?_)
  have e2:(σ.effect i.dst vi own' []).put p.dst vp=(σ.put p.dst vp).effect i.dst vi own' []:=by
   unfold S.effect
   have:=put_comm { slots:=killAll [] σ.slots,own:=own',n0:=σ.n0,mv:=addMv σ.n0 σ.mv [] } (x:=p.dst) (y:=i.dst) vp vi h2
   rw[← this]
   congr 1
   cases p.dst <;> rfl
  rw[e2]
  exact hk2
theorem swap_vvm{pf:List Nat}(hpf:PureFns Γ pf){all:Array Oper}{p i:Oper}(hp:vlike pf p=true)(hi:vlike pf i=true)(hap:p.apart all i=true){mp mi:Bool}{K:S->Prop}{σ:S}
  (h:opm P Γ all ob mp p (opm P Γ all ob mi i K) σ):opm P Γ all ob mi i (opm P Γ all ob mp p K) σ:=by
 obtain⟨h1,h2,h3⟩:=Oper.apart_spec hap
 obtain⟨cp,h⟩:=h
 rw[opg_vG hpf hp]at h
 obtain⟨vp,⟨ci,hk⟩,hyp⟩:=vG_det pf all p σ.slots σ.own _ h
 rw[opg_vG hpf hi,vG_put h1]at hk
 obtain⟨vi,hk2,hyi⟩:=vG_det pf all i σ.slots σ.own _ hk
 have sameOps:∀(a b:Oper) (v:AV),(∀d,a.dst=some d->d∉b.looksAt all)->∀x∈b.op.operands.toList,ev (σ.put a.dst v).slots x=ev σ.slots x:=fun a b v hab x hx=>by
  cases hd:a.dst with
  | none=>rfl
  | some d =>
   simp only[S.put]
   rw[ev_set (fun e=>hab d hd (looks_op (e ▸ hx)))]
 refine⟨fun hm=>condM_congr (fun x hx=>(sameOps p i vp h1 x hx).symm) (ci hm),?_⟩
 rw[opg_vG hpf hi]
 refine hyi _ ⟨fun hm=>condM_congr (sameOps i p vi h3) (cp hm),?_⟩
 rw[opg_vG hpf hp,vG_put h3]
 refine hyp _ ?_
 rw[← put_comm σ vp vi h2]
 exact hk2
def chainM(P:Program)(Γ:Nat->Contract)(ops:Array Oper)(ob:Nat)(ms:List Nat)(Q:Exit->S->Prop):List Nat->S->Prop
 | [],σ=>Q .normal σ
 | i :: r,σ=>match ops[i]? with|some o=>opm P Γ ops ob (ms.contains i) o (chainM P Γ ops ob ms Q r) σ|none=>False
def swapOkM(pf mf ms:List Nat)(ops:Array Oper)(p i:Nat):Bool :=
 match ops[p]?,ops[i]? with
 | some op,some oi=>op.apart ops oi && ((vlike pf op && vlike pf oi) || (isV op.op && isMk mf oi) || (isV op.op && ms.contains p && isStore oi && ms.contains i))
 | _,_=>false
def pairsOkM(pf mf ms:List Nat)(ops:Array Oper):List Nat->Bool
 | []=>true
 | p :: r=>(r.all fun i=>Region.waitsFor .any ops i p || swapOkM pf mf ms ops p i) && pairsOkM pf mf ms ops r
def drawOkM(pf mf ms:List Nat)(ops:Array Oper)(L:List Nat):Bool:=pairsOkM pf mf ms ops L && backOk ops && edgesOk ops && allOf ops.size L && nodupB L
theorem bubbleM{pf mf ms:List Nat}(hpf:PureFns Γ pf)(hmf:MakeFns Γ mf){ops:Array Oper}{Q:Exit->S->Prop}{i:Nat}{oi:Oper}(hi:ops[i]?=some oi):∀(pre post:List Nat) (σ:S),(∀p∈pre,swapOkM pf mf ms ops p i=true)->chainM P Γ ops ob ms Q (pre++i :: post) σ ->
  opm P Γ ops ob (ms.contains i) oi (chainM P Γ ops ob ms Q (pre++post)) σ
 | [],post,σ,_,h=>by
  simp only[List.nil_append,chainM,hi]at h ⊢
  exact h
 | p :: pre,post,σ,hs,h=>by
  have e2:∀(op:Oper) (l:List Nat),ops[p]?=some op->chainM P Γ ops ob ms Q (p :: l)=opm P Γ ops ob (ms.contains p) op (chainM P Γ ops ob ms Q l):=fun op l hop=>by funext σ;simp only[chainM,hop]
  simp only[List.cons_append]at h ⊢
  have hp:=hs p (by simp)
  unfold swapOkM at hp
  rw[hi]at hp
  cases hop:ops[p]? with
  | none=>simp only[chainM,hop]at h
  | some op =>
   rw[e2 op _ hop]at h ⊢
   simp only[hop,Bool.and_eq_true,Bool.or_eq_true]at hp
   obtain⟨hap,hk⟩:=hp
   have hvp:vlike pf op=true:=by
    rcases hk with(hk|hk)|hk
    ·exact hk.1
    ·simp[vlike,hk.1]
    ·simp[vlike,hk.1.1.1]
   have h':opm P Γ ops ob (ms.contains p) op (opm P Γ ops ob (ms.contains i) oi (chainM P Γ ops ob ms Q (pre++post))) σ :=
    ⟨h.1,chain_mono hpf hvp (fun σ' hσ'=>bubbleM hpf hmf hi pre post σ' (fun q hq=>hs q (by simp[hq])) hσ') h.2⟩
   rcases hk with(hk|hk)|hk
   ·exact swap_vvm hpf hk.1 hk.2 hap h'
   ·refine swap_ve hpf hk.1 hap (fun _ _ _ _ _=>trivial) (fun K σ' ho hc hh=>?_) h'
    obtain⟨v,ex,g1,g2⟩:=mk_det hmf hk.2 hh
    refine⟨v,_,g1,g2,fun k _ hg=>?_⟩
    rw[ho]
    exact vG_mores hk.1 ex _ hg
   ·refine swap_ve hpf hk.1.1.1 hap (fun _ _ _ _ _=>trivial) (fun K σ' ho hc hh=>?_) h'
    obtain⟨obj',g1,g2⟩:=store_det hk.1.2 (hc hk.2) hh
    refine⟨.top,_,g1,g2,fun k hcp hg=>?_⟩
    rw[ho]
    exact vG_setOwn hk.1.1.1 (hcp hk.1.1.2) hg
theorem pairs_frontM{pf mf ms:List Nat}{ops:Array Oper}:∀{L:List Nat},pairsOkM pf mf ms ops L=true->∀pre i post,L=pre++i :: post->∀p∈pre,Region.waitsFor .any ops i p=true∨swapOkM pf mf ms ops p i=true
 | [],_,pre,i,post,e,p,hp=>by cases pre <;> cases e
 | q :: r,h,pre,i,post,e,p,hp=>by
  simp only[pairsOkM,Bool.and_eq_true]at h
  cases pre with
  | nil=>cases hp
  | cons a pre =>
   simp only[List.cons_append,List.cons.injEq]at e
   obtain⟨rfl,e⟩:=e
   rcases List.mem_cons.1 hp with rfl|hp
   ·have:=List.all_eq_true.1 h.1 i (by rw[e];simp)
    simpa using this
   ·exact pairs_frontM h.2 pre i post e p hp
theorem pairs_filterM{pf mf ms:List Nat}{ops:Array Oper}(f:Nat->Bool):∀{L:List Nat},pairsOkM pf mf ms ops L=true->pairsOkM pf mf ms ops (L.filter f)=true
 | [],_=>rfl
 | q :: r,h=>by
  simp only[pairsOkM,Bool.and_eq_true]at h
  simp only[List.filter_cons]
  split
  ·simp only[pairsOkM,Bool.and_eq_true]
   exact⟨List.all_eq_true.2 fun i hi=>List.all_eq_true.1 h.1 i (List.mem_filter.1 hi).1,pairs_filterM f h.2⟩
  ·exact pairs_filterM f h.2
theorem wpAny_of_chainM{pf mf ms:List Nat}(hΓ:OkG P Γ)(hpf:PureFns Γ pf)(hmf:MakeFns Γ mf){ops:Array Oper}{Q:Exit->S->Prop}{L:List Nat}(hok:drawOkM pf mf ms ops L=true){c:Ctx}:∀(fuel:Nat) (listed:Array Bool) (σ:S) (a:Act) (w:World),listed.size=ops.size ->
  (L.filter fun i=>!listed.getD i true).length<=fuel->St c σ a w->chainM P Γ ops ob ms Q (L.filter fun i=>!listed.getD i true) σ->wpAnyIn (fen c.rd) 0 P .any ops (lift c Q) fuel listed a w:=by
 simp only[drawOkM,Bool.and_eq_true]at hok
 obtain⟨⟨⟨⟨hpairs,hback⟩,hedges⟩,hall⟩,hnd⟩:=hok
 have hnodup:=nodup_of hnd
 simp only[allOf,Bool.and_eq_true,List.all_eq_true,List.mem_range,List.contains_eq_mem,decide_eq_true_eq]at hall
 obtain⟨⟨hmem,hlen⟩,hlt⟩:=hall
 have ready:∀(listed:Array Bool),listed.size=ops.size->Region.ready .any ops listed=[]->(L.filter fun i=>!listed.getD i true)=[]:=by
  intro listed hsz hr
  rw[List.filter_eq_nil_iff]
  have key:∀i,i<ops.size->listed.getD i true=true:=by
   intro i
   induction i using Nat.strongRecOn with
   | _ i ih =>
    intro hlt'
    cases hx:listed.getD i true with
    | true=>rfl
    | false =>
     exfalso
     have:i∈Region.ready .any ops listed:=by
      refine mem_ready.2 ⟨hx,ops[i],Array.getElem?_eq_getElem hlt',fun e he hb=>?_⟩
      have hw:Region.waitsFor .any ops i e.on=true:=by
       simp only[Region.waitsFor,Array.getElem?_eq_getElem hlt',Array.any_eq_true']
       exact⟨e,he,by simp[hb]⟩
      have hon:e.on<ops.size:=by
       have h1:=Array.all_eq_true'.1 hedges ops[i] (Array.getElem_mem hlt')
       have h2:=Array.all_eq_true'.1 h1 e he
       simpa [hb] using h2
      have hlt2:e.on<i:=by
       have h1:=List.all_eq_true.1 hback i (List.mem_range.2 hlt')
       have h2:=List.all_eq_true.1 h1 e.on (List.mem_range.2 hon)
       simpa [hw] using h2
      have h3:=ih e.on hlt2 hon
      have h4:e.on<listed.size:=by omega
      simp[h4]at h3 ⊢
      exact h3
     rw[hr]at this
     cases this
  intro i hi
  simp only[Bool.not_eq_true',Bool.not_eq_false]
  exact key i (hlt i hi)
 intro fuel
 induction fuel with
 | zero =>
  intro listed σ a w hsz hf hst hch
  have h0:(L.filter fun i=>!listed.getD i true)=[]:=List.eq_nil_of_length_eq_zero (by omega)
  rw[h0]at hch
  refine⟨?_,lift_mk hst hch⟩
  rw[List.eq_nil_iff_forall_not_mem]
  intro i hi
  obtain⟨g1,o,g2,_⟩:=mem_ready.1 hi
  have hi':i<ops.size:=(Array.getElem?_eq_some_iff.1 g2).1
  have:i∈(L.filter fun i=>!listed.getD i true):=List.mem_filter.2 ⟨hmem i hi',by simp[g1]⟩
  rw[h0]at this
  cases this
 | succ fuel ih =>
  intro listed σ a w hsz hf hst hch
  refine⟨fun hr=>?_,fun i hi=>?_⟩
  ·rw[ready listed hsz hr]at hch
   exact lift_mk hst hch
  ·obtain⟨g1,o,g2,g3⟩:=mem_ready.1 hi
   have hi':i<ops.size:=(Array.getElem?_eq_some_iff.1 g2).1
   obtain⟨pre,post,e1,e2⟩:=filter_erase hnodup (hmem i hi') (f:=fun i=>!listed.getD i true) (by simp[g1])
   have hfr:=pairs_frontM (pairs_filterM (fun i=>!listed.getD i true) hpairs) pre i post e1
   rw[e1]at hch
   have hb:=bubbleM hpf hmf g2 pre post σ (fun p hp=>by
    rcases hfr p hp with h|h
    ·exfalso
     have hpm:p∈(L.filter fun i=>!listed.getD i true):=by rw[e1];simp[hp]
     have hun:=(List.mem_filter.1 hpm).2
     simp only[Region.waitsFor,g2,Array.any_eq_true',Bool.and_eq_true,beq_iff_eq]at h
     obtain⟨e,he,hb,hon⟩:=h
     have hl:=g3 e he hb
     rw[hon]at hl
     have:listed.getD p true=false:=by simpa using hun
     rw[getD_both this]at hl
     cases hl
    ·exact h) hch
   unfold wpOpIn
   simp only[g2]
   have hnext:(L.filter fun j=>!(listed.setIfInBounds i true).getD j true)=pre++post:=by
    rw[← e2]
    refine List.filter_congr fun j hj=>?_
    have hj':=hlt j hj
    by_cases e:i=j
    ·subst e
     simp[hsz,hi']
    ·have e':¬(j=i):=fun h=>e h.symm
     simp[Array.getElem?_setIfInBounds_ne e,e']
   have hlen':(L.filter fun j=>!(listed.setIfInBounds i true).getD j true).length<=fuel:=by
    rw[hnext]
    rw[e1]at hf
    simp only[List.length_append,List.length_cons]at hf ⊢
    omega
   rcases opg_sound hΓ (Q:=lift c Q) hst hb.2 with⟨hw,hwp⟩|⟨hw,σ',hst',hK⟩
   ·rw[if_pos hw]
    refine Oper.wpIn_mono ?_ hwp
    rintro a' w' ⟨σ',hst',hK⟩
    exact ih _ σ' a' w' (by simp[hsz]) hlen' hst' (by rw[hnext];exact hK)
   ·rw[if_neg (by simp[hw])]
    exact⟨fun _ _=>trivial,ih _ σ' _ w (by simp[hsz]) hlen' hst' (by rw[hnext];exact hK)⟩
theorem sem_drawM{pf mf ms:List Nat}(hm:P.follows .mixedOrders=true)(hΓ:OkG P Γ)(hpf:PureFns Γ pf)(hmf:MakeFns Γ mf){id:Nat}{ops:Array Oper}{Q:Exit->S->Prop}{σ:S}(L:List Nat)(hok:drawOkM pf mf ms ops L=true)
  (h:chainM P Γ ops ob ms Q L σ):sem P (.region id ops true) Q σ:=by
 intro c a w hst
 refine wpIn_region_any hm ?_
 have hst':St c σ a { w with drawn:=w.drawn+1 }:=by
  obtain⟨hd,hn,F,φ,h2,h3,h4⟩:=hst
  refine⟨hd,hn,F,φ,⟨h2.sub,⟨h2.ext.os,h2.ext.tape,h2.ext.output,h2.ext.size,h2.ext.same⟩,h2.keep,h2.rest,h2.orig,h2.frsh⟩,h3.drew,?_⟩
  exact AV.Rs_mono (fun _ h=>h) same_drew (fun _ _ h=>h) _ _ h4
 have hf:(L.filter fun i=>!(Array.replicate ops.size false).getD i true)=L:=by
  rw[List.filter_eq_self]
  intro i hi
  simp only[drawOkM,Bool.and_eq_true,allOf,List.all_eq_true,decide_eq_true_eq]at hok
  have:=hok.1.2.2 i hi
  simp[this]
 refine wpAny_of_chainM hΓ hpf hmf hok ops.size _ σ a _ (by simp) ?_ hst' (by rw[hf];exact h)
 rw[hf]
 simp only[drawOkM,Bool.and_eq_true,allOf,decide_eq_true_eq]at hok
 omega
end
end Go.AM
namespace Go.AM
open Go
def AV.norm1(x:AV):AV:=match x.pure with|some d=>.dat d|none=>x
def AV.norm:AV->AV
 | .tup vs=>.tup (vs.map AV.norm1)
 | x=>x.norm1
section
variable {P:Program} {fn:Func} {F:Nat->Prop} {φ:Nat->Option Loc} {w:World}
theorem R_norm1{x:AV}{c:Value}(h:AV.R F φ w x c):AV.R F φ w x.norm1 c:=by
 unfold AV.norm1
 split
 ·rename_i d hd
  simp only[AV.R]
  exact pure_R hd h
 ·exact h
theorem Rs_norm1:∀{vs:List AV} {us:List Value},AV.Rs F φ w vs us->AV.Rs F φ w (vs.map AV.norm1) us
 | [],us,h=>by simpa only[List.map_nil,AV.Rs] using h
 | v :: vs,us,h=>by
  simp only[AV.Rs]at h
  obtain⟨u,us',rfl,h1,h2⟩:=h
  simp only[List.map_cons,AV.Rs]
  exact⟨u,us',rfl,R_norm1 h1,Rs_norm1 h2⟩
theorem R_norm{x:AV}{c:Value}(h:AV.R F φ w x c):AV.R F φ w x.norm c:=by
 unfold AV.norm
 split
 ·simp only[AV.R]at h ⊢
  obtain⟨arr,h1,h2⟩:=h
  exact⟨arr,h1,Rs_norm1 h2⟩
 ·exact R_norm1 h
theorem le_norm{s:List AV}{own:List Obj}{n0:Nat}{mv:List Nat}:Le ⟨s,own,n0,mv⟩ ⟨s.map AV.norm,own,n0,mv⟩:=by
 rintro c a w ⟨hd,hn,F,φ,h2,h3,h4⟩
 refine⟨hd,hn,F,φ,h2,h3,?_⟩
 have:∀{vs:List AV} {us:List Value},AV.Rs F φ w vs us->AV.Rs F φ w (vs.map AV.norm) us:=by
  intro vs
  induction vs with
  | nil=>intro us h;simpa only[List.map_nil,AV.Rs] using h
  | cons v vs ih =>
   intro us h
   simp only[AV.Rs]at h
   obtain⟨u,us',rfl,h1,h2⟩:=h
   simp only[List.map_cons,AV.Rs]
   exact⟨u,us',rfl,R_norm h1,ih h2⟩
 exact this h4
theorem post_res{v:AV}{s:List AV}{own:List Obj}{mv:List Nat}{e:Exit}(he:e=.ret∨e=.normal)(rs:List ResultVar)(hrs:fn.results.toList=rs)
  (h:resL P rs ⟨s,own,0,mv⟩ (fun vs=>Le ⟨[resV vs],own,0,mv⟩ ⟨[v],[],0,[]⟩)):post P fn v [] [] e ⟨s,own,0,mv⟩:=by
 refine⟨by rcases he with rfl|rfl <;> trivial,?_⟩
 rw[hrs]
 have key:∀(rs:List ResultVar) (K K':List AV->Prop),(∀vs,K vs->K' vs)->resL P rs ⟨s,own,0,mv⟩ K->resL P rs ⟨s,own,0,mv⟩ K':=by
  intro rs
  induction rs with
  | nil=>intro K K' hk h;exact hk _ h
  | cons r rs ih =>
   intro K K' hk h
   cases r with
   | tmp t=>simp only[resL]at h ⊢;exact ih _ _ (fun vs hv=>hk _ hv) h
   | cell a t =>
    simp only[resL]at h ⊢
    obtain⟨v,hv,hall⟩:=loadw_det _ _ _ h
    exact hall _ (ih _ _ (fun vs hv=>hk _ hv) hv)
 exact key rs _ _ (fun vs hv=>⟨[],hv,fun _ h=>h⟩) h
theorem le_fin{v v':AV}{own:List Obj}{mv:List Nat}(hn:v.norm=v')(hu:v'.under 0):Le ⟨[v],own,0,mv⟩ ⟨[v'],[],0,[]⟩:=by
 refine Le.trans le_norm ?_
 simp only[List.map_cons,List.map_nil,hn]
 exact le_data hu
@[go_sem] theorem frzs_dats {o:Nat} {ag:Option Nat} {xs:List D}:∀(ds:List D),AV.frzs o ag xs (ds.map .dat)=ds.map .dat
 | []=>rfl
 | d :: ds=>by simp only[List.map_cons,AV.frzs,AV.frz,frzs_dats ds]
@[go_sem] theorem unders_dats {n:Nat}:∀(ds:List D),AV.unders n (ds.map .dat)=True
 | []=>by simp[AV.unders]
 | d :: ds=>by simp[AV.unders,AV.under,unders_dats ds]
section
variable {ob:Nat} {dst:Option Tmp} {ty:TypeId} {pos:String} {af:Array Edge} {gd:Option (Nat×Bool)} {st:List AV} {x y a:Operand} {t:TypeId} {f:Nat}
@[go_sem] theorem condM_store:condM ob ⟨dst,.store t a x,ty,pos,af,gd⟩ st=∃i j,ev st a=.ptr ob i j:=Eq.trans rfl rfl
@[go_sem] theorem condM_load:condM ob ⟨dst,.load t x,ty,pos,af,gd⟩ st=((ev st x).refs ob=false):=by simp[condM,Op.operands]
@[go_sem] theorem condM_move:condM ob ⟨dst,.move x,ty,pos,af,gd⟩ st=((ev st x).refs ob=false):=by simp[condM,Op.operands]
@[go_sem] theorem condM_indexAddr:condM ob ⟨dst,.indexAddr t x y,ty,pos,af,gd⟩ st=((ev st x).refs ob=false/\(ev st y).refs ob=false):=by simp[condM,Op.operands]
@[go_sem] theorem condM_fieldAddr:condM ob ⟨dst,.fieldAddr t x f,ty,pos,af,gd⟩ st=((ev st x).refs ob=false):=by simp[condM,Op.operands]
@[go_sem] theorem ex_ptr {i j:Nat}:(∃i' j',AV.ptr ob i j=.ptr ob i' j')=True:=eq_true ⟨i,j,rfl⟩
end
attribute [go_sem] opm AV.refs List.contains_cons List.contains_nil Nat.reduceBEq Bool.false_or Bool.or_false Bool.true_or Bool.or_true
attribute [go_sem] Obj.under Nat.reduceEqDiff Nat.reduceSub Nat.reduceMul Int.reduceLT Int.reduceEq Int.reduceAdd Int.reduceSub Int.reduceMul
@[go_sem] theorem resV_one {v:AV}:resV [v]=v:=Eq.trans rfl rfl
@[go_sem] theorem resV_more {a b:AV} {l:List AV}:resV (a :: b :: l)=.tup (a :: b :: l):=Eq.trans rfl rfl
attribute [go_sem] resL AV.frzs AV.frz Obj.frz AV.norm AV.norm1 AV.under AV.unders
end
end Go.AM

