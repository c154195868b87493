/- Own work over the model of the kit. -/
import Derived.Test.YtjfoclncfhiffaaD11
import Derived.RangeFuncNested
import Derived.Test.YtjfoclncfhiffaaD10
import Derived.Lib.Bytealg
import Derived.LoopNIn
import Derived.Test.YtjfoclncfhiffaaD6
set_option linter.unnecessarySimpa false
set_option linter.unusedSimpArgs false
set_option linter.unusedVariables false
namespace Go.AM
open Go
def cutQ(P:Program)(Γ:Nat->Contract)(all:Array Oper)(Q:Exit->S->Prop)(os:List Oper):Exit->S->Prop:=fun e σ=>match e with
 | .normal=>∃σ',Le σ σ'/\awpOps P Γ all Q os σ'
 | _=>False
section
variable {P:Program} {Γ:Nat->Contract} {c:Ctx}
@[go_sem] theorem cutQ_normal {all:Array Oper} {Q:Exit->S->Prop} {os:List Oper} {σ:S}:cutQ P Γ all Q os .normal σ=∃σ',Le σ σ'/\awpOps P Γ all Q os σ':=Eq.trans rfl rfl
end
attribute [go_sem] List.take_succ_cons List.take_zero List.drop_succ_cons List.drop_zero
end Go.AM
namespace Go.AM
open Go
def opz(P:Program)(Γ:Nat->Contract)(ops:Array Oper)(C:Nat->List AV->Prop)(p:Nat)(o:Oper)(K:S->Prop)(σ:S):Prop:=C p σ.slots/\opg P Γ ops o K σ
def SwapsZ(P:Program)(Γ:Nat->Contract)(ops:Array Oper)(C:Nat->List AV->Prop)(sw:Nat->Nat->Bool):Prop:=∀p i op oi,ops[p]?=some op->ops[i]?=some oi->sw p i=true ->
 (∀(K K':S->Prop) (σ:S),(∀σ,K σ->K' σ)->opg P Γ ops op K σ->opg P Γ ops op K' σ)/\∀(K:S->Prop) (σ:S),opz P Γ ops C p op (opz P Γ ops C i oi K) σ->opz P Γ ops C i oi (opz P Γ ops C p op K) σ
def okZ(sw:Nat->Nat->Bool)(ops:Array Oper):DT->Option (List Nat)->Bool
 | .fin,none=>true
 | .stop,some _=>true
 | .one p t,none=>(t.ops.all fun i=>Region.waitsFor .any ops i p || sw p i) && okZ sw ops t none
 | .alt x t u,none=>okZ sw ops t none && okZ sw ops u (some (x :: t.ops)) && ((x :: t.ops).all fun i=>(x :: u.heads).contains i || (x :: t.ops).any fun j=>Region.waitsFor .any ops i j)
 | .alt x t u,some R=>okZ sw ops t none && sameSet R (x :: t.ops) && okZ sw ops u (some R)
 | _,_=>false
def bubZ(sw:Nat->Nat->Bool)(i:Nat):DT->Option DT
 | .one p t=>if p=i then some t else if sw p i=true then (bubZ sw i t).map (.one p) else none
 | .alt x t u=>if x=i then some t else bubZ sw i u
 | _=>none
section
variable {P:Program} {Γ:Nat->Contract}
def chZ(P:Program)(Γ:Nat->Contract)(ops:Array Oper)(C:Nat->List AV->Prop)(Q:Exit->S->Prop):DT->S->Prop
 | .fin,σ=>Q .normal σ
 | .stop,_=>True
 | .one p t,σ=>(match ops[p]? with|some o=>opz P Γ ops C p o (chZ P Γ ops C Q t) σ|none=>False)
 | .alt x t u,σ=>(match ops[x]? with|some o=>opz P Γ ops C x o (chZ P Γ ops C Q t) σ|none=>False)/\chZ P Γ ops C Q u σ
theorem bubZ_ok{sw:Nat->Nat->Bool}{C:Nat->List AV->Prop}{ops:Array Oper}(hS:SwapsZ P Γ ops C sw){Q:Exit->S->Prop}{i:Nat}{oi:Oper}(hi:ops[i]?=some oi):∀(T T':DT) (σ:S),bubZ sw i T=some T'->chZ P Γ ops C Q T σ->opz P Γ ops C i oi (chZ P Γ ops C Q T') σ
 | .fin,T',σ,h,_=>by simp[bubZ]at h
 | .stop,T',σ,h,_=>by simp[bubZ]at h
 | .one p t,T',σ,h,hc=>by
  simp only[bubZ]at h
  simp only[chZ]at hc
  by_cases e:p=i
  ·subst e
   rw[if_pos rfl]at h
   cases h
   rw[hi]at hc
   exact hc
  ·rw[if_neg e]at h
   split at h
   ·rename_i hsw
    obtain⟨t',ht,rfl⟩:=Option.map_eq_some_iff.1 h
    split at hc
    ·rename_i op hop
     have h':opz P Γ ops C p op (opz P Γ ops C i oi (chZ P Γ ops C Q t')) σ :=
      ⟨hc.1,(hS p i op oi hop hi hsw).1 _ _ _ (fun σ' hσ'=>bubZ_ok hS hi t t' σ' ht hσ') hc.2⟩
     have:=(hS p i op oi hop hi hsw).2 _ _ h'
     have e2:chZ P Γ ops C Q (.one p t')=opz P Γ ops C p op (chZ P Γ ops C Q t'):=by funext s;simp only[chZ,hop]
     rw[e2]
     exact this
    ·exact hc.elim
   ·cases h
 | .alt x t u,T',σ,h,hc=>by
  simp only[bubZ]at h
  simp only[chZ]at hc
  by_cases e:x=i
  ·subst e
   rw[if_pos rfl]at h
   cases h
   have h1:=hc.1
   rw[hi]at h1
   exact h1
  ·rw[if_neg e]at h
   exact bubZ_ok hS hi u T' σ h hc.2
def drawOkZ(sw:Nat->Nat->Bool)(ops:Array Oper)(T:DT):Bool:=okZ sw ops T none && backOk ops && edgesOk ops && allOf ops.size T.ops && nodupB T.ops
end
def allM:List Nat->Oper->List AV->Prop
 | [],_,_=>True
 | k :: L,o,s=>condM k o s/\allM L o s
def allA:List Nat->Oper->List AV->Prop
 | [],_,_=>True
 | k :: L,o,s=>condA k o s/\allA L o s
def inL(L:List Nat)(v:AV):Prop:=match v with|.ptr o _ _=>L.contains o=true|_=>False
def inLn(L:List Nat)(v:AV):Prop:=match v with|.sl o _ _=>L.contains o=true|.nils=>True|_=>False
def condML(L:List Nat)(o:Oper)(s:List AV):Prop:=match o.op with
 | .store _ a _=>inL L (ev s a)
 | _=>allM L o s
def condXL(L:List Nat)(o:Oper)(s:List AV):Prop:=match o.op with
 | .call c=>(match c.args.toList with|[x,_]=>inLn L (ev s x)|_=>False)
 | _=>allA L o s
def cMs:List (Nat×List Nat)->Nat->Oper->List AV->Prop
 | [],_,_,_=>True
 | (q,k) :: r,p,o,s=>(q=p->condML k o s)/\cMs r p o s
def cKs:List (Nat×List Nat)->Nat->Oper->List AV->Prop
 | [],_,_,_=>True
 | (q,k) :: r,p,o,s=>(q=p->condXL k o s)/\cKs r p o s
def cY(ops:Array Oper)(ms ks:List (Nat×List Nat))(p:Nat)(s:List AV):Prop:=match ops[p]? with
 | some o=>cMs ms p o s/\cKs ks p o s
 | none=>True
def hasM(ms:List (Nat×List Nat))(p i:Nat):Bool:=ms.any fun x=>x.1 == i && ms.contains (p,x.2)
def swY(pf mf:List Nat)(ms ks:List (Nat×List Nat))(ops:Array Oper)(p i:Nat):Bool :=
 match ops[p]?,ops[i]? with
 | some op,some oi=>op.apart ops oi && ((vlike pf op && vlike pf oi) || (isV op.op && (isMk mf oi || isLit oi)) || (isV op.op && isStore oi && hasM ms p i) || (isQ op && isV op.op && isApp oi && hasM ks p i) || (isMov op && isEff oi))
 | _,_=>false
section
variable {P:Program} {Γ:Nat->Contract}
theorem allM_at{o:Oper}{s:List AV}{k:Nat}:∀{L:List Nat},allM L o s->k∈L->condM k o s
 | [],_,h=>by cases h
 | q :: L,hc,h=>by
  rcases List.mem_cons.1 h with rfl|h
  ·exact hc.1
  ·exact allM_at hc.2 h
theorem allA_at{o:Oper}{s:List AV}{k:Nat}:∀{L:List Nat},allA L o s->k∈L->condA k o s
 | [],_,h=>by cases h
 | q :: L,hc,h=>by
  rcases List.mem_cons.1 h with rfl|h
  ·exact hc.1
  ·exact allA_at hc.2 h
theorem allM_mono{o:Oper}{s s':List AV}(h:∀k,condM k o s->condM k o s'):∀{L:List Nat},allM L o s->allM L o s'
 | [],_=>trivial
 | k :: L,hc=>⟨h k hc.1,allM_mono h hc.2⟩
theorem allA_mono{o:Oper}{s s':List AV}(h:∀k,condA k o s->condA k o s'):∀{L:List Nat},allA L o s->allA L o s'
 | [],_=>trivial
 | k :: L,hc=>⟨h k hc.1,allA_mono h hc.2⟩
theorem condML_congr{o:Oper}{L:List Nat}{s s':List AV}(h:∀x∈o.op.operands.toList,ev s' x=ev s x)(hc:condML L o s):condML L o s':=by
 unfold condML at hc ⊢
 split
 ·rename_i t a x hop
  rw[hop]at hc h
  rw[h a (by simp[Op.operands])]
  exact hc
 ·rename_i hn
  split at hc
  ·rename_i hop;exact(hn _ _ _ hop).elim
  ·exact allM_mono (fun k hh=>condM_congr h hh) hc
theorem condXL_congr{o:Oper}{L:List Nat}{s s':List AV}(h:∀x∈o.op.operands.toList,ev s' x=ev s x)(hc:condXL L o s):condXL L o s':=by
 unfold condXL at hc ⊢
 split
 ·rename_i c hop
  rw[hop]at hc h
  simp only at hc
  split at hc
  ·rename_i x y hargs
   rw[h x (by simp[Op.operands,Call.operands,hargs])]
   exact hc
  ·exact hc.elim
 ·rename_i hn
  split at hc
  ·rename_i hop;exact(hn _ hop).elim
  ·exact allA_mono (fun k hh=>condA_congr h hh) hc
theorem cMs_at{o:Oper}{s:List AV}{p:Nat}{k:List Nat}:∀{ms:List (Nat×List Nat)},cMs ms p o s->(p,k)∈ms->condML k o s
 | [],_,h=>by cases h
 | (q,k') :: r,hc,h=>by
  rcases List.mem_cons.1 h with e|h
  ·cases e;exact hc.1 rfl
  ·exact cMs_at hc.2 h
theorem cKs_at{o:Oper}{s:List AV}{p:Nat}{k:List Nat}:∀{ms:List (Nat×List Nat)},cKs ms p o s->(p,k)∈ms->condXL k o s
 | [],_,h=>by cases h
 | (q,k') :: r,hc,h=>by
  rcases List.mem_cons.1 h with e|h
  ·cases e;exact hc.1 rfl
  ·exact cKs_at hc.2 h
theorem cMs_mono{o:Oper}{s s':List AV}{p:Nat}(h:∀k,condML k o s->condML k o s'):∀{ms:List (Nat×List Nat)},cMs ms p o s->cMs ms p o s'
 | [],_=>trivial
 | (q,k) :: r,hc=>⟨fun e=>h k (hc.1 e),cMs_mono h hc.2⟩
theorem cKs_mono{o:Oper}{s s':List AV}{p:Nat}(h:∀k,condXL k o s->condXL k o s'):∀{ms:List (Nat×List Nat)},cKs ms p o s->cKs ms p o s'
 | [],_=>trivial
 | (q,k) :: r,hc=>⟨fun e=>h k (hc.1 e),cKs_mono h hc.2⟩
theorem cY_some{ops:Array Oper}{ms ks:List (Nat×List Nat)}{p:Nat}{o:Oper}{s:List AV}(h:ops[p]?=some o):cY ops ms ks p s=(cMs ms p o s/\cKs ks p o s):=by unfold cY;rw[h]
theorem hasM_spec{ms:List (Nat×List Nat)}{p i:Nat}(h:hasM ms p i=true):∃k,(i,k)∈ms/\(p,k)∈ms:=by
 obtain⟨⟨a,k⟩,h1,h2⟩:=List.any_eq_true.1 h
 simp only[Bool.and_eq_true,beq_iff_eq,List.contains_eq_mem,decide_eq_true_eq]at h2
 obtain⟨rfl,h2⟩:=h2
 exact⟨k,h1,h2⟩
theorem refs_kill{o k:Nat}(a:AV)(h:a.refs o=false):(a.kill k).refs o=false:=by
 cases a with
 | dat _=>rfl
 | nils=>rfl
 | nilm=>rfl
 | top=>rfl
 | rptr _ _=>rfl
 | sl o' i j=>simp only[AV.kill];split <;> first|rfl|exact h
 | ptr o' i j=>simp only[AV.kill];split <;> first|rfl|exact h
 | map o'=>simp only[AV.kill];split <;> first|rfl|exact h
 | yld o'=>simp only[AV.kill];split <;> rfl
 | agg vs=>rfl
 | tup vs=>rfl
 | fn f vs=>rfl
theorem condM_kills{o:Oper}(hq:isQ o=true){m k:Nat}{s:List AV}(h:condM m o s):condM m o (AV.kills k s):=by
 have key:(∀x∈o.op.operands.toList,(ev s x).refs m=false)->∀x∈o.op.operands.toList,(ev (AV.kills k s) x).refs m=false:=fun h x hx=>by
  rw[ev_kills];exact refs_kill _ (h x hx)
 unfold condM at h ⊢
 split
 ·rename_i t a x hop;unfold isQ at hq;rw[hop]at hq;cases hq
 ·rename_i hn
  split at h
  ·rename_i hop;exact(hn _ _ _ hop).elim
  ·exact key h
theorem condXL_A{o:Oper}(hq:isQ o=true){k:List Nat}{s:List AV}:condXL k o s=allA k o s:=by
 unfold condXL
 split
 ·rename_i c hop;unfold isQ at hq;rw[hop]at hq;cases hq
 ·rfl
theorem condML_V{o:Oper}(hq:isV o.op=true){k:List Nat}{s:List AV}:condML k o s=allM k o s:=by
 unfold condML
 split
 ·rename_i hop;rw[hop]at hq;cases hq
 ·rfl
theorem condA_kills2{o:Oper}(hq:isQ o=true){k m:Nat}{s:List AV}(hk:condA k o s)(hm:condA m o s):condA m o (AV.kills k s):=by
 unfold isQ at hq
 unfold condA at hk hm ⊢
 split at hq
 ·rename_i x hop _;rw[hop];trivial
 ·rename_i x hop _;rw[hop];trivial
 ·rename_i t x hop _
  rw[hop]at hk hm ⊢
  simp only at hk hm ⊢
  rw[ev_kills]
  cases hx:ev s x <;> rw[hx]at hk hm <;> simp only at hk hm
  ·simp only[AV.kill,hk,if_false];exact hm
  ·trivial
 ·rename_i t x f hop _
  rw[hop]at hk hm ⊢
  simp only at hk hm ⊢
  rw[ev_kills]
  cases hx:ev s x <;> rw[hx]at hk hm <;> simp only at hk hm
  ·simp only[AV.kill,hk,if_false];exact hm
  ·trivial
 ·rename_i t x i hop _
  rw[hop]at hk hm ⊢
  simp only at hk hm ⊢
  rw[ev_kills,ev_kills]
  obtain⟨hk,hi⟩:=hk
  obtain⟨hm,_⟩:=hm
  refine⟨?_,?_⟩
  ·cases hx:ev s x <;> rw[hx]at hk hm <;> simp only at hk hm
   ·trivial
   ·simp only[AV.kill,hk,if_false];exact hm
   ·simp only[AV.kill,hk,if_false];exact hm
  ·cases hy:ev s i <;> rw[hy]at hi <;> simp only at hi
   trivial
 ·rename_i x hop _
  rw[hop]at hk hm ⊢
  simp only at hk hm ⊢
  rw[ev_kills]
  cases hx:ev s x <;> rw[hx]at hk hm <;> simp only at hk hm
  ·simp only[AV.kill,hk,if_false];exact hm
  ·trivial
 ·cases hq
theorem appL_det{o:Oper}(hm:isApp o=true){L:List Nat}{K:S->Prop}{σ:S}{all:Array Oper}(hc:condXL L o σ.slots)(h:opg P Γ all o K σ) :
  ∃v own' kl,K (σ.effect o.dst v own' kl)/\((kl=[]/\∃obj,own'=σ.own++[obj])∨(∃k,k∈L/\kl=[k]/\∃obj,own'=(σ.own.map (Obj.kill k)).set k obj)) /\
   ∀(K':S->Prop) (σ':S),σ'.own=σ.own->(∀x∈o.op.operands.toList,ev σ'.slots x=ev σ.slots x)->K' (σ'.effect o.dst v own' kl)->opg P Γ all o K' σ':=by
 unfold isApp at hm
 split at hm
 ·rename_i c hop hg
  split at hm
  ·rename_i hcal
   unfold condXL at hc
   rw[hop]at hc
   simp only at hc
   split at hc
   ·rename_i x y hargs
    have e:∀(K:S->Prop) (σ:S),opg P Γ all o K σ=(match c.argTypes.toList with|[t,t']=>appTw P σ.own t t' (ev σ.slots x) (ev σ.slots y) (PutE o.dst K σ)|_=>False):=fun K σ=>by
     unfold opg
     rw[hg]
     simp only
     unfold opw
     rw[hop]
     simp only[isV,hcal,eop,Bool.false_eq_true,if_false,ecall,hargs]
     split <;> simp_all
    rw[e]at h
    split at h
    ·rename_i t t' hts
     have mem:∀z∈c.args.toList,z∈o.op.operands.toList:=fun z hz=>by
      rw[hop]
      simp[Op.operands,Call.operands,hcal,hz]
     unfold inLn at hc
     split at hc
     ·rename_i o' off len hx
      rw[hx]at h
      obtain⟨v,obj',h1,h2⟩:=appTw_det h
      refine⟨v,_,_,h1,.inr ⟨o',by simpa using hc,rfl,_,rfl⟩,fun K' σ' ho hxs hK'=>?_⟩
      rw[e,hts]
      simp only
      rw[ho,hxs x (mem x (by rw[hargs];simp)),hxs y (mem y (by rw[hargs];simp)),hx]
      exact h2 _ hK'
     ·rename_i hx
      rw[hx]at h
      obtain⟨v,obj',h1,h2⟩:=appTn_det h
      refine⟨v,_,_,h1,.inl ⟨rfl,_,rfl⟩,fun K' σ' ho hxs hK'=>?_⟩
      rw[e,hts]
      simp only
      rw[ho,hxs x (mem x (by rw[hargs];simp)),hxs y (mem y (by rw[hargs];simp)),hx]
      exact h2 _ hK'
     ·exact hc.elim
    ·exact h.elim
   ·exact hc.elim
  ·cases hm
 ·cases hm
theorem swapsY{pf mf:List Nat}{ms ks:List (Nat×List Nat)}(hpf:PureFns Γ pf)(hmf:MakeFns Γ mf){ops:Array Oper}:SwapsZ P Γ ops (cY ops ms ks) (swY pf mf ms ks ops):=by
 intro p i op oi hop hi hsw
 unfold swY at hsw
 rw[hi,hop]at hsw
 simp only[Bool.and_eq_true,Bool.or_eq_true]at hsw
 obtain⟨hap,hk⟩:=hsw
 have hv:vlike pf op=true:=by
  rcases hk with(((hk|hk)|hk)|hk)|hk
  ·exact hk.1
  ·simp[vlike,hk.1]
  ·simp[vlike,hk.1.1]
  ·simp[vlike,hk.1.1.2]
  ·simp[vlike,mov_v hk.1]
 refine⟨fun K K' σ h hh=>chain_mono hpf hv h hh,fun K σ h=>?_⟩
 have eO:∀(q:Nat) (o:Oper) (K:S->Prop),ops[q]?=some o->opz P Γ ops (cY ops ms ks) q o K=fun σ=>(cMs ms q o σ.slots/\cKs ks q o σ.slots)/\opg P Γ ops o K σ:=fun q o K hq=>by
  funext σ;unfold opz;rw[cY_some hq]
 rw[eO i oi _ hi,eO p op _ hop]
 rw[eO i oi _ hi,eO p op _ hop]at h
 have hC:∀(q:Nat) (o:Oper) (s s':List AV),(∀x∈o.op.operands.toList,ev s' x=ev s x)->(cMs ms q o s/\cKs ks q o s)->(cMs ms q o s'/\cKs ks q o s'):=fun q o s s' hx hc=>⟨cMs_mono (fun k hh=>condML_congr hx hh) hc.1,cKs_mono (fun k hh=>condXL_congr hx hh) hc.2⟩
 have same:∀(vp:AV) (ex:List Obj),isV op.op=true->vG P Γ pf ops op σ.slots σ.own (fun v=>v=vp)->vG P Γ pf ops op (killAll [] σ.slots) (σ.own++ex) (fun v=>v=vp):=fun vp ex hv hg=>vG_mores hv ex _ hg
 rcases hk with(((hk|hk)|hk)|hk)|hk
 ·exact swap_vvx hpf hk.1 hk.2 hap (hC p op) (hC i oi) h
 ·refine swapG hpf hv hap (hC p op) (hC i oi) (fun K σ' ho cp ci hh=>?_) h
  have hdet:∃v ex,K (σ'.effect oi.dst v (σ'.own++ex) [])/\Eff P Γ ops oi σ' v (σ'.own++ex):=by
   rcases hk.2 with hm|hl
   ·exact mk_det hmf hm hh
   ·exact lit_det hl hh
  obtain⟨v,ex,g1,g2⟩:=hdet
  exact⟨v,_,[],id,g1,g2,fun s d u=>rfl,cp,fun vp hg=>by rw[ho];exact same vp ex hk.1 hg⟩
 ·obtain⟨⟨q1,q2⟩,q3⟩:=hk
  obtain⟨k,m1,m2⟩:=hasM_spec q3
  refine swapG hpf hv hap (hC p op) (hC i oi) (fun K σ' ho cp ci hh=>?_) h
  have hs:=cMs_at ci.1 m1
  obtain⟨ob,hin,hcm⟩:∃ob,ob∈k/\condM ob oi σ'.slots:=by
   unfold isStore at q2
   split at q2
   ·rename_i t a x hop2 _ _
    unfold condML at hs
    rw[hop2]at hs
    simp only at hs
    unfold inL at hs
    split at hs
    ·rename_i ob i0 j0 hev
     refine⟨ob,by simpa using hs,?_⟩
     unfold condM
     rw[hop2]
     exact⟨i0,j0,hev⟩
    ·exact hs.elim
   ·cases q2
  obtain⟨obj',g1,g2⟩:=store_det q2 hcm hh
  refine⟨.top,_,[],id,g1,g2,fun s d u=>rfl,cp,fun vp hg=>by
   rw[ho]
   have:=cMs_at cp.1 m2
   rw[condML_V q1]at this
   exact vG_setOwn q1 (allM_at this hin) hg⟩
 ·obtain⟨⟨⟨q1,q2⟩,q4⟩,q5⟩:=hk
  obtain⟨L,m1,m2⟩:=hasM_spec q5
  refine swapG hpf hv hap (hC p op) (hC i oi) (fun K σ' ho cp ci hh=>?_) h
  have hs:=cKs_at ci.2 m1
  have hpL:=cKs_at cp.2 m2
  rw[condXL_A q1]at hpL
  have hg:op.guard=none:=by
   unfold isQ at q1
   split at q1 <;> first|assumption|cases q1
  have eG:∀(s:List AV) (own:List Obj) (k:AV->Prop),vG P Γ pf ops op s own k=vop P own s op.op k:=fun s own k=>by
   unfold vG vB
   rw[hg]
   simp only[q2,if_true]
  obtain⟨v,own',kl,g1,g2,g3⟩:=appL_det q4 hs hh
  rcases g2 with⟨rfl,obj,rfl⟩|⟨k,hkL,rfl,obj,rfl⟩
  ·exact⟨v,_,[],id,g1,g3,fun s d u=>rfl,cp,fun vp hg=>by rw[ho];exact same vp _ q2 hg⟩
  ·have hcA:=allA_at hpL hkL
   refine⟨v,_,[k],AV.kill k,g1,g3,fun s d u=>by rw[killAll_one,killAll_one,kills_put],?_,fun vp hvg=>?_⟩
   ·rw[killAll_one]
    refine⟨cMs_mono (fun m hm=>?_) cp.1,cKs_mono (fun m hm=>?_) cp.2⟩
    ·rw[condML_V q2]at hm ⊢;exact allM_mono (fun m hm=>condM_kills q1 hm) hm
    ·rw[condXL_A q1]at hm ⊢;exact allA_mono (fun m hm=>condA_kills2 q1 hcA hm) hm
   ·rw[eG]at hvg
    rw[eG,killAll_one,ho]
    have:=vop_kill q1 (obj':=obj) hcA hvg
    obtain⟨v',⟨u,rfl,rfl⟩,hy⟩:=vop_det _ op.op _ this
    exact hy _ rfl
 ·refine swapG hpf hv hap (hC p op) (hC i oi) (fun K σ' ho cp ci hh=>?_) h
  obtain⟨v,own',g1,g2⟩:=eff_det hk.2 hh
  exact⟨v,own',[],id,g1,g2,fun s d u=>rfl,cp,fun vp hg=>mov_own hk.1 hg⟩
variable {all:Array Oper} {Q:Exit->S->Prop} {p q k:Nat} {r L:List Nat} {ms ks:List (Nat×List Nat)} {t u:DT} {σ:S} {s:List AV} {own:List Obj} {n:Nat} {m:List Nat} {o:Oper}
@[go_sem] theorem cMs_nil:cMs [] p o s=True:=Eq.trans rfl rfl
@[go_sem] theorem cMs_same:cMs ((p,L) :: ms) p o s=(condML L o s/\cMs ms p o s):=by simp[cMs]
@[go_sem] theorem cMs_other (h:q≠p):cMs ((q,L) :: ms) p o s=cMs ms p o s:=by simp[cMs,h]
@[go_sem] theorem cKs_nil:cKs [] p o s=True:=Eq.trans rfl rfl
@[go_sem] theorem cKs_same:cKs ((p,L) :: ms) p o s=(condXL L o s/\cKs ms p o s):=by simp[cKs]
@[go_sem] theorem cKs_other (h:q≠p):cKs ((q,L) :: ms) p o s=cKs ms p o s:=by simp[cKs,h]
@[go_sem] theorem allM_nil:allM [] o s=True:=Eq.trans rfl rfl
@[go_sem] theorem allM_cons:allM (k :: L) o s=(condM k o s/\allM L o s):=Eq.trans rfl rfl
@[go_sem] theorem allA_nil:allA [] o s=True:=Eq.trans rfl rfl
@[go_sem] theorem allA_cons:allA (k :: L) o s=(condA k o s/\allA L o s):=Eq.trans rfl rfl
@[go_sem] theorem inL_ptr {i j:Nat}:inL L (.ptr k i j)=(L.contains k=true):=Eq.trans rfl rfl
@[go_sem] theorem inLn_sl {i j:Nat}:inLn L (.sl k i j)=(L.contains k=true):=Eq.trans rfl rfl
@[go_sem] theorem inLn_nils:inLn L .nils=True:=Eq.trans rfl rfl
section
variable {dst:Option Tmp} {ty t1:TypeId} {pos:String} {af:Array Edge} {gd:Option (Nat×Bool)} {x y a:Operand} {f:Nat}
@[go_sem] theorem condML_store:condML L ⟨dst,.store t1 a x,ty,pos,af,gd⟩ s=inL L (ev s a):=Eq.trans rfl rfl
@[go_sem] theorem condML_load:condML L ⟨dst,.load t1 x,ty,pos,af,gd⟩ s=allM L ⟨dst,.load t1 x,ty,pos,af,gd⟩ s:=Eq.trans rfl rfl
@[go_sem] theorem condML_move:condML L ⟨dst,.move x,ty,pos,af,gd⟩ s=allM L ⟨dst,.move x,ty,pos,af,gd⟩ s:=Eq.trans rfl rfl
@[go_sem] theorem condML_assign:condML L ⟨dst,.assign x,ty,pos,af,gd⟩ s=allM L ⟨dst,.assign x,ty,pos,af,gd⟩ s:=Eq.trans rfl rfl
@[go_sem] theorem condML_indexAddr:condML L ⟨dst,.indexAddr t1 x y,ty,pos,af,gd⟩ s=allM L ⟨dst,.indexAddr t1 x y,ty,pos,af,gd⟩ s:=Eq.trans rfl rfl
@[go_sem] theorem condML_fieldAddr:condML L ⟨dst,.fieldAddr t1 x f,ty,pos,af,gd⟩ s=allM L ⟨dst,.fieldAddr t1 x f,ty,pos,af,gd⟩ s:=Eq.trans rfl rfl
@[go_sem] theorem condML_nilCheck:condML L ⟨dst,.nilCheck x,ty,pos,af,gd⟩ s=allM L ⟨dst,.nilCheck x,ty,pos,af,gd⟩ s:=Eq.trans rfl rfl
@[go_sem] theorem condML_binOp {b:BinOp} {t2:TypeId}:condML L ⟨dst,.binOp b t1 x y t2,ty,pos,af,gd⟩ s=allM L ⟨dst,.binOp b t1 x y t2,ty,pos,af,gd⟩ s:=Eq.trans rfl rfl
@[go_sem] theorem condXL_call {b:Builtin} {ts:Array TypeId}:condXL L ⟨dst,.call ⟨.builtin b,#[x,y],ts⟩,ty,pos,af,gd⟩ s=inLn L (ev s x):=Eq.trans rfl rfl
@[go_sem] theorem condXL_load:condXL L ⟨dst,.load t1 x,ty,pos,af,gd⟩ s=allA L ⟨dst,.load t1 x,ty,pos,af,gd⟩ s:=Eq.trans rfl rfl
@[go_sem] theorem condXL_move:condXL L ⟨dst,.move x,ty,pos,af,gd⟩ s=allA L ⟨dst,.move x,ty,pos,af,gd⟩ s:=Eq.trans rfl rfl
@[go_sem] theorem condXL_assign:condXL L ⟨dst,.assign x,ty,pos,af,gd⟩ s=allA L ⟨dst,.assign x,ty,pos,af,gd⟩ s:=Eq.trans rfl rfl
@[go_sem] theorem condXL_indexAddr:condXL L ⟨dst,.indexAddr t1 x y,ty,pos,af,gd⟩ s=allA L ⟨dst,.indexAddr t1 x y,ty,pos,af,gd⟩ s:=Eq.trans rfl rfl
@[go_sem] theorem condXL_nilCheck:condXL L ⟨dst,.nilCheck x,ty,pos,af,gd⟩ s=allA L ⟨dst,.nilCheck x,ty,pos,af,gd⟩ s:=Eq.trans rfl rfl
@[go_sem] theorem condXL_fieldAddr:condXL L ⟨dst,.fieldAddr t1 x f,ty,pos,af,gd⟩ s=allA L ⟨dst,.fieldAddr t1 x f,ty,pos,af,gd⟩ s:=Eq.trans rfl rfl
end
def chY(P:Program)(Γ:Nat->Contract)(all:Array Oper)(ms ks:List (Nat×List Nat))(Q:Exit->S->Prop)(t:DT)(p:Nat)(s:List AV)(own:List Obj)(n:Nat)(m:List Nat)(oo:Option Oper):Prop:=match oo with
 | some o=>(cMs ms p o s/\cKs ks p o s)/\opg P Γ all o (chZ P Γ all (cY all ms ks) Q t) ⟨s,own,n,m⟩
 | none=>False
@[go_sem] theorem chY_some:chY P Γ all ms ks Q t p s own n m (some o)=((cMs ms p o s/\cKs ks p o s)/\opg P Γ all o (chZ P Γ all (cY all ms ks) Q t) ⟨s,own,n,m⟩):=Eq.trans rfl rfl
theorem chY_eq:chY P Γ all ms ks Q t p s own n m all[p]?=(match all[p]? with|some o=>opz P Γ all (cY all ms ks) p o (chZ P Γ all (cY all ms ks) Q t) ⟨s,own,n,m⟩|none=>False):=by
 cases h:all[p]? with
 | none=>rfl
 | some o=>simp only[chY,opz,cY,h]
@[go_sem] theorem chZ_fin:chZ P Γ all (cY all ms ks) Q .fin σ=Q .normal σ:=Eq.trans rfl rfl
@[go_sem] theorem chZ_stop:chZ P Γ all (cY all ms ks) Q .stop σ=True:=Eq.trans rfl rfl
@[go_sem] theorem chZ_onesNil:chZ P Γ all (cY all ms ks) Q (ones []) σ=Q .normal σ:=Eq.trans rfl rfl
@[go_sem] theorem chZ_onesCons:chZ P Γ all (cY all ms ks) Q (ones (p :: r)) ⟨s,own,n,m⟩=chY P Γ all ms ks Q (ones r) p s own n m all[p]?:=by rw[chY_eq];rfl
@[go_sem] theorem chZ_one:chZ P Γ all (cY all ms ks) Q (.one p t) ⟨s,own,n,m⟩=chY P Γ all ms ks Q t p s own n m all[p]?:=by rw[chY_eq];rfl
@[go_sem] theorem chZ_alt:chZ P Γ all (cY all ms ks) Q (.alt p t u) ⟨s,own,n,m⟩=(chY P Γ all ms ks Q t p s own n m all[p]?/\chZ P Γ all (cY all ms ks) Q u ⟨s,own,n,m⟩):=by rw[chY_eq];rfl
end
end Go.AM
namespace Go.AM
open Go
mutual
def AV.frzB(o:Nat)(ds:List D):AV->AV
 | .sl o' i j=>if o'=o then .top else .sl o' i j
 | .ptr o' i j=>if o'=o then (if i=0/\j=0 then .rptr (some ds.length) (.agg ds) else .top) else .ptr o' i j
 | .map o'=>if o'=o then .top else .map o'
 | .yld o'=>if o'=o then .top else .yld o'
 | .agg vs=>.agg (AV.frzBs o ds vs)
 | .tup vs=>.tup (AV.frzBs o ds vs)
 | .fn f vs=>.fn f (AV.frzBs o ds vs)
 | .dat d=>.dat d
 | .nils=>.nils
 | .nilm=>.nilm
 | .rptr a d=>.rptr a d
 | .top=>.top
def AV.frzBs(o:Nat)(ds:List D):List AV->List AV
 | []=>[]
 | a :: as=>a.frzB o ds :: AV.frzBs o ds as
end
theorem AV.frzBs_length{o:Nat}{ds:List D}:∀(cs:List AV),(AV.frzBs o ds cs).length=cs.length
 | []=>rfl
 | c :: cs=>by simp only[AV.frzBs,List.length_cons,AV.frzBs_length cs]
def Obj.frzB(o:Nat)(ds:List D):Obj->Obj
 | .box cs=>.box (AV.frzBs o ds cs)
 | .lp r cs=>.lp r (AV.frzBs o ds cs)
 | .bld T u cs=>.bld T u (AV.frzBs o ds cs)
 | .vec cs=>.vec (AV.frzBs o ds cs)
 | .tab k cs=>.tab k (AV.frzBs o ds cs)
 | x=>x
section
variable {P:Program} {F F':Nat->Prop} {φ φ':Nat->Option Loc} {w:World} {o:Nat} {ds:List D} {L:Loc}
theorem frzB_ptr(hF:∀b,F b->F' b)(ho:φ o=some L)(hFL:L.nil=false->F' L.b)(hr:ObjR F φ w (some L) (.box (ds.map .dat))){v:Value}(h:AV.R F φ w (.ptr o 0 0) v) :
  AV.R F' φ' w (.rptr (some ds.length) (.agg ds)) v:=by
 simp only[AV.R]at h
 obtain⟨L',h1,hn,rfl⟩:=h
 rw[ho]at h1
 cases h1
 simp only[ObjR]at hr
 obtain⟨_,hb,arr,ty,h3,h4,h5⟩:=hr
 have h6:=Cs_dats h5
 have hl:=D.Cs_length _ _ h6
 simp only[AV.R]
 refine⟨L.b,0,arr,by rw[hb];simp,hFL hn,by simpa [es] using hl,fun j hj=>?_,rfl,?_⟩
 ·simp[World.cell?,h3]
 ·simp only[D.C]
  exact D.Cs_mono hF (Same.refl F w) _ _ h6
mutual
theorem AV.R_frzB(hF:∀b,F b->F' b)(hφ:∀o' L',o'≠o->φ o'=some L'->φ' o'=some L')(ho:φ o=some L)(hFL:L.nil=false->F' L.b)(hr:ObjR F φ w (some L) (.box (ds.map .dat))) :
  ∀(a:AV) (v:Value),AV.R F φ w a v->AV.R F' φ' w (a.frzB o ds) v
 | .dat d,v,h=>by
  simp only[AV.frzB,AV.R]at h ⊢
  exact D.R_mono hF (Same.refl F w) h
 | .nils,_,h=>by simpa only[AV.frzB,AV.R] using h
 | .nilm,_,h=>by simpa only[AV.frzB,AV.R] using h
 | .sl o' i j,v,h=>by
  simp only[AV.frzB]
  split
  ·simp only[AV.R]
  ·rename_i hne
   simp only[AV.R]at h ⊢
   obtain⟨L',h1,h2⟩:=h
   exact⟨L',hφ o' L' hne h1,h2⟩
 | .ptr o' i j,v,h=>by
  simp only[AV.frzB]
  split
  ·rename_i e
   subst e
   split
   ·rename_i hij
    obtain⟨rfl,rfl⟩:=hij
    exact frzB_ptr hF ho hFL hr h
   ·simp only[AV.R]
  ·rename_i hne
   simp only[AV.R]at h ⊢
   obtain⟨L',h1,h2⟩:=h
   exact⟨L',hφ o' L' hne h1,h2⟩
 | .rptr a d,v,h=>by
  simp only[AV.frzB,AV.R]at h ⊢
  obtain⟨b,off,cs,h1,h2,h5,h3,h6,h4⟩:=h
  exact⟨b,off,cs,h1,hF b h2,h5,h3,h6,D.C_mono hF (Same.refl F w) _ _ h4⟩
 | .agg vs,v,h=>by
  simp only[AV.frzB,AV.R]at h ⊢
  obtain⟨arr,h1,h2⟩:=h
  exact⟨arr,h1,AV.Ra_frzB hF hφ ho hFL hr vs arr h2⟩
 | .tup vs,v,h=>by
  simp only[AV.frzB,AV.R]at h ⊢
  obtain⟨arr,h1,h2⟩:=h
  exact⟨arr,h1,AV.Rs_frzB hF hφ ho hFL hr vs arr h2⟩
 | .map o',v,h=>by
  simp only[AV.frzB]
  split
  ·simp only[AV.R]
  ·rename_i hne
   simp only[AV.R]at h ⊢
   obtain⟨L',h1,h2⟩:=h
   exact⟨L',hφ o' L' hne h1,h2⟩
 | .yld o',v,h=>by
  simp only[AV.frzB]
  split
  ·simp only[AV.R]
  ·rename_i hne
   simp only[AV.R]at h ⊢
   obtain⟨L',h1,h2⟩:=h
   exact⟨L',hφ o' L' hne h1,h2⟩
 | .fn f vs,v,h=>by
  simp only[AV.frzB,AV.R]at h ⊢
  obtain⟨arr,h1,h2⟩:=h
  exact⟨arr,h1,AV.Rs_frzB hF hφ ho hFL hr vs arr h2⟩
 | .top,_,_=>by simp only[AV.frzB,AV.R]
theorem AV.Rs_frzB(hF:∀b,F b->F' b)(hφ:∀o' L',o'≠o->φ o'=some L'->φ' o'=some L')(ho:φ o=some L)(hFL:L.nil=false->F' L.b)(hr:ObjR F φ w (some L) (.box (ds.map .dat))) :
  ∀(as:List AV) (vs:List Value),AV.Rs F φ w as vs->AV.Rs F' φ' w (AV.frzBs o ds as) vs
 | [],_,h=>by simpa only[AV.frzBs,AV.Rs] using h
 | a :: as,vs,h=>by
  simp only[AV.frzBs,AV.Rs]at h ⊢
  obtain⟨v,vs',h1,h2,h3⟩:=h
  exact⟨v,vs',h1,AV.R_frzB hF hφ ho hFL hr a v h2,AV.Rs_frzB hF hφ ho hFL hr as vs' h3⟩
theorem AV.Ra_frzB(hF:∀b,F b->F' b)(hφ:∀o' L',o'≠o->φ o'=some L'->φ' o'=some L')(ho:φ o=some L)(hFL:L.nil=false->F' L.b)(hr:ObjR F φ w (some L) (.box (ds.map .dat))) :
  ∀(as:List AV) (vs:List Value),AV.Ra F φ w as vs->AV.Ra F' φ' w (AV.frzBs o ds as) vs
 | [],_,h=>by simpa only[AV.frzBs,AV.Ra] using h
 | a :: as,vs,h=>by
  simp only[AV.frzBs,AV.Ra]at h ⊢
  obtain⟨v,vs',h1,h0,h2,h3⟩:=h
  exact⟨v,vs',h1,h0,AV.R_frzB hF hφ ho hFL hr a v h2,AV.Ra_frzB hF hφ ho hFL hr as vs' h3⟩
end
theorem le_freezeB{s:List AV}{own:List Obj}{n0:Nat}{mv:List Nat}(o:Nat){ds:List D}(ho:own[o]?=some (.box (ds.map .dat)))(h0:n0<=o) :
  Le ⟨s,own,n0,mv⟩ ⟨AV.frzBs o ds s,(own.map (Obj.frzB o ds)).set o .dead,n0,mv⟩:=by
 rintro c a w ⟨hd,hn,F,φ,h2,h3,h4⟩
 have hlt:o<own.length:=by
  rcases Nat.lt_or_ge o own.length with h|h
  ·exact h
  ·rw[List.getElem?_eq_none h]at ho;cases ho
 have hrep:=h3.rep o _ ho
 obtain⟨L,hL⟩:∃L,φ o=some L:=by
  cases hl:φ o with
  | none=>rw[hl]at hrep;simp only[ObjR]at hrep
  | some L=>exact⟨L,rfl⟩
 rw[hL]at hrep
 let F':Nat->Prop:=fun b=>F b∨(L.nil=false/\b=L.b)
 let φ':Nat->Option Loc:=fun i=>if i=o then none else φ i
 have hF:∀b,F b->F' b:=fun b hb=>.inl hb
 have hFL:L.nil=false->F' L.b:=fun hn=>.inr ⟨hn,rfl⟩
 have hφ:∀o' L',o'≠o->φ o'=some L'->φ' o'=some L':=fun o' L' hne h=>by simp only[φ',hne,if_false];exact h
 refine⟨hd,hn,F',φ',⟨fun b hb=>hF b (h2.sub b hb),h2.ext,fun o' L' hlt' hm h=>?_,h2.rest,fun o' L' ho' hn'=>?_,fun b hb=>?_⟩,?_,AV.Rs_frzB hF hφ hL hFL hrep _ _ h4⟩
 ·have:o'≠o:=by rw[← hn]at hlt';simp only at hlt';omega
  exact hφ o' L' this (h2.keep o' L' hlt' hm h)
 ·simp only[φ']at ho'
  split at ho'
  ·cases ho'
  ·exact h2.orig o' L' ho' hn'
 ·rcases hb with hb|⟨hn',rfl⟩
  ·exact h2.frsh b hb
  ·rcases h2.orig o L hL hn' with h|h
   ·exact .inr (.inl h)
   ·exact .inr (.inr h)
 ·constructor
  ·intro b hb
   rcases hb with hb|⟨hn',rfl⟩
   ·exact h3.fb b hb
   ·exact(h3.live o L hL hn').2
  ·intro o' L' ho' hn'
   simp only[φ']at ho'
   split at ho'
   ·cases ho'
   ·rename_i hne
    refine⟨fun hF'=>?_,(h3.live o' L' ho' hn').2⟩
    rcases hF' with hF'|⟨hn2,hb⟩
    ·exact(h3.live o' L' ho' hn').1 hF'
    ·exact h3.inj o' o L' L ho' hL hn' hn2 hne hb
  ·intro o1 o2 L1 L2 h1 h2' n1 n2 hne
   simp only[φ']at h1 h2'
   split at h1 <;> split at h2' <;> first|exact h3.inj o1 o2 L1 L2 h1 h2' n1 n2 hne|cases h1|cases h2'
  ·intro o' obj ho'
   rw[List.getElem?_set]at ho'
   by_cases e:o=o'
   ·subst e
    simp only[if_true,List.length_map,hlt,Option.some.injEq]at ho'
    subst ho'
    simp only[φ',if_true,ObjR]
   ·simp only[e,if_false,List.getElem?_map,Option.map_eq_some_iff]at ho'
    obtain⟨ob,hob,rfl⟩:=ho'
    have hrep':=h3.rep o' ob hob
    simp only[φ',if_neg (fun e':o'=o=>e e'.symm)]
    cases hl:φ o' with
    | none=>rw[hl]at hrep';cases ob <;> simp only[ObjR,Obj.frzB]at hrep' ⊢
    | some L' =>
     rw[hl]at hrep'
     cases ob with
     | vec cs =>
      simp only[ObjR,Obj.frzB]at hrep' ⊢
      obtain⟨q1,q2⟩:=hrep'
      refine⟨q1,?_⟩
      have hl':(AV.frzBs o ds cs).length=cs.length:=AV.frzBs_length _
      rcases q2 with⟨q2,q3⟩|⟨q2,arr,ty,q3,q4,q5,vs,q6,q7⟩
      ·subst q3;exact .inl ⟨q2,rfl⟩
      ·exact .inr ⟨q2,arr,ty,q3,q4,by rw[hl'];exact q5,vs,AV.Ra_frzB hF hφ hL hFL hrep _ _ q6,by rw[hl'];exact q7⟩
     | tab k0 cs =>
      simp only[ObjR,Obj.frzB]at hrep' ⊢
      obtain⟨q1,q2⟩:=hrep'
      refine⟨q1,?_⟩
      have hl':(AV.frzBs o ds cs).length=cs.length:=AV.frzBs_length _
      rcases q2 with⟨q2,q3⟩|⟨q2,arr,ty,q3,q4,q5,vs,q6,q7⟩
      ·subst q3;exact .inl ⟨q2,rfl⟩
      ·exact .inr ⟨q2,arr,ty,q3,q4,by rw[hl'];exact q5,vs,AV.Ra_frzB hF hφ hL hFL hrep _ _ q6,by rw[hl'];exact q7⟩
     | box cs =>
      simp only[ObjR,Obj.frzB]at hrep' ⊢
      obtain⟨q1,q2,arr,ty,q3,q4,q5⟩:=hrep'
      exact⟨q1,q2,arr,ty,q3,q4,AV.Ra_frzB hF hφ hL hFL hrep _ _ q5⟩
     | lp r0 cs =>
      simp only[ObjR,Obj.frzB]at hrep' ⊢
      obtain⟨q1,q2,arr,ty,q3,q4,q5⟩:=hrep'
      exact⟨q1,q2,arr,ty,q3,q4,AV.Rs_frzB hF hφ hL hFL hrep _ _ q5⟩
     | bld T0 u0 cs =>
      simp only[ObjR,Obj.frzB]at hrep' ⊢
      obtain⟨q1,q2,arr,ty,q3,q4,q5⟩:=hrep'
      exact⟨q1,q2,arr,ty,q3,q4,AV.Rs_frzB hF hφ hL hFL hrep _ _ q5⟩
     | row ag' xs' =>
      simp only[ObjR,Obj.frzB]at hrep' ⊢
      obtain⟨q1,q2⟩:=hrep'
      refine⟨q1,?_⟩
      rcases q2 with q2|⟨q2,q3,q4,q5⟩
      ·exact .inl q2
      ·exact .inr ⟨q2,q3,q4,D.Cr_congr hF (Same.refl F w) ag' L'.b L'.b _ _ _ (fun _ _=>rfl) q5⟩
     | brow e0 bs0=>simpa only[ObjR,Obj.frzB] using hrep'
     | map m =>
      simp only[ObjR,Obj.frzB]at hrep' ⊢
      obtain⟨q1,es,clock,q3,q4⟩:=hrep'
      exact⟨q1,es,clock,q3,mapR_mono hF (Same.refl F w) _ _ q4⟩
     | dead=>simp only[ObjR,Obj.frzB]
  ·intro o' ho'
   simp only[List.length_set,List.length_map]at ho'
   simp only[φ']
   rw[if_neg (by omega)]
   exact h3.out o' ho'
  ·exact h3.glob.mono hF (Same.refl F w)
end
attribute [go_sem] AV.frzB AV.frzBs Obj.frzB
@[go_sem] theorem frzBs_dats {o:Nat} {ds:List D}:∀(xs:List D),AV.frzBs o ds (xs.map .dat)=xs.map .dat
 | []=>rfl
 | d :: xs=>by simp only[List.map_cons,AV.frzBs,AV.frzB,frzBs_dats xs]
end Go.AM
namespace Go.AM
open Go
def isFar(o:Oper):Bool :=
 match o.op,o.guard with
 | .move _,none|.assign _,none|.fieldAddr _ _ _,none|.nilCheck _,none|.binOp _ _ _ _ _,none|.unOp _ _ _,none|.extract _ _,none|.field _ _ _,none|.convert _ _ _,none|.build _ _,none|.pick _ _ _,none|.index _ _ _,none=>true
 | _,_=>false
def isIdx(o:Oper):Bool :=
 match o.op,o.guard with
 | .indexAddr _ _ _,none=>true
 | _,_=>false
def Obj.knd:Obj->Nat×Option Nat
 | .row ag _=>(0,ag)
 | .vec _=>(1,none)
 | .tab k _=>(5,some k)
 | .box _=>(2,none)
 | .lp _ _=>(6,none)
 | .bld _ _ _=>(7,none)
 | .map _=>(3,none)
 | .brow _ _=>(8,none)
 | .dead=>(4,none)
def swV(pf mf:List Nat)(ms ks:List (Nat×List Nat))(ops:Array Oper)(p i:Nat):Bool :=
 swY pf mf ms ks ops p i || (match ops[p]?,ops[i]? with|some op,some oi=>op.apart ops oi && ((isFar op && isEff oi) || (isIdx op && isStore oi))|_,_=>false)
section
variable {P:Program} {Γ:Nat->Contract}
theorem far_own{pf:List Nat}{all:Array Oper}{o:Oper}(hm:isFar o=true){s:List AV}{own own':List Obj}{k:AV->Prop}(h:vG P Γ pf all o s own k):vG P Γ pf all o s own' k:=by
 unfold isFar at hm
 split at hm <;> first
  | (rename_i hop hg;unfold vG vB at h ⊢;rw[hg]at h ⊢;simp only[hop,isV,if_true,vop]at h ⊢;exact h)
  | cases hm
theorem far_v{o:Oper}(hm:isFar o=true):isV o.op=true:=by
 unfold isFar at hm
 split at hm <;> first|(rename_i hop hg;rw[hop];rfl)|cases hm
theorem idx_v{o:Oper}(hm:isIdx o=true):isV o.op=true:=by
 unfold isIdx at hm
 split at hm <;> first|(rename_i hop hg;rw[hop];rfl)|cases hm
theorem storeObj_det2{τ:Ty}{obj:Obj}{i j:Nat}{x:AV}{K:Obj->Prop}(h:storeObj τ obj i j x K):∃obj',K obj'/\(∀K':Obj->Prop,K' obj'->storeObj τ obj i j x K')/\obj'.knd=obj.knd:=by
 unfold storeObj at h ⊢
 split at h
 ·split at h
  ·obtain⟨h2,h3,h4,h⟩:=h
   split at h
   ·exact⟨_,h.2,fun K' hK'=>⟨h2,h3,h4,h.1,hK'⟩,rfl⟩
   ·exact h.elim
  ·obtain⟨h2,h3,h4,h⟩:=h
   split at h
   ·exact⟨_,h.2,fun K' hK'=>⟨h2,h3,h4,h.1,hK'⟩,rfl⟩
   ·exact h.elim
 ·obtain⟨h1,h⟩:=h
  split at h
  ·split at h
   ·rename_i ha
    refine⟨_,h.2.2.2,fun K' hK'=>⟨h1,?_⟩,rfl⟩
    rw[if_pos ha]
    exact⟨h.1,h.2.1,h.2.2.1,hK'⟩
   ·rename_i ha
    refine⟨_,h.2.2.2,fun K' hK'=>⟨h1,?_⟩,rfl⟩
    rw[if_neg ha]
    exact⟨h.1,h.2.1,h.2.2.1,hK'⟩
  ·exact h.elim
 ·obtain⟨h1,h2,h3,h⟩:=h
  split at h
  ·exact⟨_,h,fun K' hK'=>⟨h1,h2,h3,hK'⟩,rfl⟩
  ·exact h.elim
 ·split at h
  ·exact⟨_,h.2.2,fun K' hK'=>⟨h.1,h.2.1,hK'⟩,rfl⟩
  ·exact h.elim
 ·obtain⟨h1,h2,h3,h⟩:=h
  split at h
  ·exact⟨_,h,fun K' hK'=>⟨h1,h2,h3,hK'⟩,rfl⟩
  ·exact h.elim
 ·obtain⟨h1,h⟩:=h
  split at h
  ·exact⟨_,h.2.2,fun K' hK'=>⟨h1,h.1,h.2.1,hK'⟩,rfl⟩
  ·exact h.elim
 ·exact h.elim
theorem store_knd{o:Oper}(hm:isStore o=true){K:S->Prop}{σ:S}{all:Array Oper}(h:opg P Γ all o K σ) :
  ∃v own',K (σ.effect o.dst v own' [])/\Eff P Γ all o σ v own'/\∀k,(own'.getD k .dead).knd=(σ.own.getD k .dead).knd:=by
 unfold isStore at hm
 split at hm
 ·rename_i t a x hop hdst hg
  have e:∀(K:S->Prop) (σ:S),opg P Γ all o K σ=storew (tyOf P t) σ.own (ev σ.slots a) (ev σ.slots x) (PutE o.dst K σ):=fun K σ=>by
   unfold opg;rw[hg];simp only;unfold opw
   simp only[hop,isV,Bool.false_eq_true,if_false,eop]
  have h':=h
  rw[e]at h
  unfold storew at h
  split at h
  ·rename_i τ o' i j hτ ha
   obtain⟨obj',h1,h2,hk⟩:=storeObj_det2 h
   refine⟨.top,σ.own.set o' obj',h1,fun K' σ' ho hx hK'=>?_,fun k=>?_⟩
   ·rw[e,hx a (by rw[hop];simp[Op.operands]),hx x (by rw[hop];simp[Op.operands]),ho,ha,hτ]
    exact h2 (fun obj=>PutE o.dst K' σ' .top (σ.own.set o' obj) []) (by rw[← ho]at hK' ⊢;exact hK')
   ·simp only[List.getD_eq_getElem?_getD,List.getElem?_set]
    by_cases ek:o'=k
    ·subst ek
     rw[if_pos rfl]
     split
     ·rw[Option.getD_some]
      simpa [List.getD_eq_getElem?_getD] using hk
     ·rename_i hge
      rw[List.getElem?_eq_none (by omega)]
    ·rw[if_neg ek]
  ·exact h.elim
 ·cases hm
theorem knd_row{a:Obj}{ag:Option Nat}{xs:List D}(h:a.knd=(Obj.row ag xs).knd):∃ys,a=.row ag ys:=by
 cases a <;> simp only[Obj.knd,Prod.mk.injEq,true_and]at h
 ·subst h;exact⟨_,rfl⟩
 all_goals (exact absurd h.1 (by decide))
theorem knd_vec{a:Obj}{xs:List AV}(h:a.knd=(Obj.vec xs).knd):∃ys,a=.vec ys:=by
 cases a <;> simp only[Obj.knd,Prod.mk.injEq,and_true]at h
 all_goals first|exact⟨_,rfl⟩|exact absurd h (by decide)|exact absurd h.1 (by decide)
theorem knd_tab{a:Obj}{k:Nat}{xs:List AV}(h:a.knd=(Obj.tab k xs).knd):∃ys,a=.tab k ys:=by
 cases a <;> simp only[Obj.knd,Prod.mk.injEq,true_and,and_true]at h
 all_goals first|(simp only[Option.some.injEq]at h;subst h;exact⟨_,rfl⟩)|exact absurd h.1 (by decide)|exact absurd h (by decide)
theorem knd_box{a:Obj}{xs:List AV}(h:a.knd=(Obj.box xs).knd):∃ys,a=.box ys:=by
 cases a <;> simp only[Obj.knd,Prod.mk.injEq,and_true]at h
 all_goals first|exact⟨_,rfl⟩|exact absurd h (by decide)|exact absurd h.1 (by decide)
theorem idxw_own{τ:Option Ty}{x i:AV}{own own':List Obj}(hk:∀k,(own'.getD k .dead).knd=(own.getD k .dead).knd){k:AV->Prop}(h:idxAddrw P τ own x i k):idxAddrw P τ own' x i k:=by
 unfold idxAddrw at h
 split at h
 ·rename_i τ o off len kk n
  rw[idxAddrw_sl]
  split at h
  ·rename_i e he
   rw[he]
   simp only
   split at h
   ·rename_i τe hτ
    rw[hτ]
    obtain⟨h1,h2,h3,h4⟩:=h
    refine⟨h1,h2,?_,h4⟩
    rcases h3 with⟨ag,xs,h3,h5⟩|⟨cs,h3,h5⟩|⟨k9,cs,h3,h5⟩
    ·have hh:=hk o
     rw[h3]at hh
     obtain⟨ys,hy⟩:=knd_row hh
     exact .inl ⟨ag,ys,hy,h5⟩
    ·have hh:=hk o
     rw[h3]at hh
     obtain⟨ys,hy⟩:=knd_vec hh
     exact .inr (.inl ⟨ys,hy,h5⟩)
    ·have hh:=hk o
     rw[h3]at hh
     obtain⟨ys,hy⟩:=knd_tab hh
     exact .inr (.inr ⟨_,ys,hy,h5⟩)
   ·exact h.elim
  ·exact h.elim
 ·rw[idxAddrw_dat];exact h
 ·rename_i τ o i0 j kk n
  unfold idxAddrw
  simp only
  split at h
  ·rename_i m e he
   split at h
   ·rename_i τe hτ
    obtain⟨h1,h2,h3⟩:=h
    refine⟨h1,h2,?_⟩
    split at h3
    ·rename_i xs hobj
     have hh:=hk o
     rw[hobj]at hh
     obtain⟨ys,hy⟩:=knd_row hh
     rw[hy];exact h3
    ·rename_i q xs hobj
     have hh:=hk o
     rw[hobj]at hh
     obtain⟨ys,hy⟩:=knd_row hh
     rw[hy];exact h3
    ·rename_i xs hobj
     have hh:=hk o
     rw[hobj]at hh
     obtain⟨ys,hy⟩:=knd_box hh
     rw[hy];exact h3
    ·exact h3.elim
   ·exact h.elim
  ·exact h.elim
 ·rw[idxAddrw_rptr];exact h
 ·exact h.elim
theorem idx_own{pf:List Nat}{all:Array Oper}{o:Oper}(hm:isIdx o=true){s:List AV}{own own':List Obj}(hk:∀k,(own'.getD k .dead).knd=(own.getD k .dead).knd){k:AV->Prop}(h:vG P Γ pf all o s own k):vG P Γ pf all o s own' k:=by
 unfold isIdx at hm
 split at hm
 ·rename_i t x i hop hg
  unfold vG vB at h ⊢
  rw[hg]at h ⊢
  simp only[hop,isV,if_true,vop]at h ⊢
  exact idxw_own hk h
 ·cases hm
theorem swapsV{pf mf:List Nat}{ms ks:List (Nat×List Nat)}(hpf:PureFns Γ pf)(hmf:MakeFns Γ mf){ops:Array Oper}:SwapsZ P Γ ops (cY ops ms ks) (swV pf mf ms ks ops):=by
 intro p i op oi hop hi hsw
 unfold swV at hsw
 rw[Bool.or_eq_true]at hsw
 rcases hsw with hsw|hsw
 ·exact swapsY hpf hmf p i op oi hop hi hsw
 rw[hi,hop]at hsw
 simp only[Bool.and_eq_true,Bool.or_eq_true]at hsw
 obtain⟨hap,hk⟩:=hsw
 have hv:vlike pf op=true:=by
  rcases hk with hk|hk
  ·simp[vlike,far_v hk.1]
  ·simp[vlike,idx_v hk.1]
 refine⟨fun K K' σ h hh=>chain_mono hpf hv h hh,fun K σ h=>?_⟩
 have eO:∀(q:Nat) (o:Oper) (K:S->Prop),ops[q]?=some o->opz P Γ ops (cY ops ms ks) q o K=fun σ=>(cMs ms q o σ.slots/\cKs ks q o σ.slots)/\opg P Γ ops o K σ:=fun q o K hq=>by
  funext σ;unfold opz;rw[cY_some hq]
 rw[eO i oi _ hi,eO p op _ hop]
 rw[eO i oi _ hi,eO p op _ hop]at h
 have hC:∀(q:Nat) (o:Oper) (s s':List AV),(∀x∈o.op.operands.toList,ev s' x=ev s x)->(cMs ms q o s/\cKs ks q o s)->(cMs ms q o s'/\cKs ks q o s'):=fun q o s s' hx hc=>⟨cMs_mono (fun k hh=>condML_congr hx hh) hc.1,cKs_mono (fun k hh=>condXL_congr hx hh) hc.2⟩
 refine swapG hpf hv hap (hC p op) (hC i oi) (fun K σ' ho cp ci hh=>?_) h
 rcases hk with hk|hk
 ·obtain⟨v,own',g1,g2⟩:=eff_det hk.2 hh
  exact⟨v,own',[],id,g1,g2,fun s d u=>rfl,cp,fun vp hg=>far_own hk.1 hg⟩
 ·obtain⟨v,own',g1,g2,g3⟩:=store_knd hk.2 hh
  exact⟨v,own',[],id,g1,g2,fun s d u=>rfl,cp,fun vp hg=>idx_own hk.1 (fun k=>by rw[g3 k,ho]) hg⟩
end
end Go.AM
namespace Go.AM
open Go
def tw(ops:Array Oper)(L:List Nat):Nat->Nat->Nat->Bool
 | 0,i,p=>Region.waitsFor .any ops i p
 | n+1,i,p=>Region.waitsFor .any ops i p || L.any fun j=>Region.waitsFor .any ops i j && tw ops L n j p
theorem tw_ready{ops:Array Oper}{L:List Nat}{p i:Nat}:∀n,(∀q∈p :: L,Region.waitsFor .any ops i q=false)->tw ops L n i p=false
 | 0,h=>h p (by simp)
 | n+1,h=>by
  unfold tw
  rw[h p (by simp),Bool.false_or,List.any_eq_false]
  intro j hj
  rw[h j (by simp[hj])];simp
theorem tw_del{ops:Array Oper}{L L':List Nat}{p i:Nat}(hw:∀q∈p :: L,Region.waitsFor .any ops i q=false)(hL:∀j,j∈L'↔j∈L/\j≠i):∀n k,tw ops L n k p=true->k≠i->tw ops L' n k p=true
 | 0,k,h,_=>h
 | n+1,k,h,hk=>by
  unfold tw at h ⊢
  rcases Bool.or_eq_true_iff.1 h with h|h
  ·rw[h];rfl
  ·obtain⟨j,hj,hjj⟩:=List.any_eq_true.1 h
   rw[Bool.and_eq_true]at hjj
   have hne:j≠i:=by
    rintro rfl
    rw[tw_ready n hw]at hjj
    exact absurd hjj.2 (by decide)
   refine Bool.or_eq_true_iff.2 (.inr (List.any_eq_true.2 ⟨j,(hL j).2 ⟨hj,hne⟩,?_⟩))
   rw[hjj.1,tw_del hw hL n j hjj.2 hne];rfl
def okW(sw:Nat->Nat->Bool)(ops:Array Oper):DT->Option (List Nat)->Bool
 | .fin,none=>true
 | .stop,some _=>true
 | .one p t,none=>(t.ops.all fun i=>tw ops t.ops 4 i p || sw p i) && okW sw ops t none
 | .alt x t u,none=>okW sw ops t none && okW sw ops u (some (x :: t.ops)) && ((x :: t.ops).all fun i=>(x :: u.heads).contains i || (x :: t.ops).any fun j=>Region.waitsFor .any ops i j)
 | .alt x t u,some R=>okW sw ops t none && sameSet R (x :: t.ops) && okW sw ops u (some R)
 | _,_=>false
section
variable {P:Program} {Γ:Nat->Contract}
theorem bubW_total{sw:Nat->Nat->Bool}{ops:Array Oper}{i:Nat}:∀(T:DT),
  (okW sw ops T none=true->T.ops.Nodup->i∈T.ops->(∀p∈T.ops,Region.waitsFor .any ops i p=false)->∃T',bubZ sw i T=some T'/\okW sw ops T' none=true/\(∀j,j∈T'.ops↔j∈T.ops/\j≠i)/\T'.ops.length+1=T.ops.length/\T'.ops.Nodup) /\
  (∀R,okW sw ops T (some R)=true->i∈T.heads->∃T',bubZ sw i T=some T'/\okW sw ops T' none=true/\(∀j,j∈T'.ops↔j∈R/\j≠i)/\T'.ops.length+1=R.length/\T'.ops.Nodup)
 | .fin=>⟨fun _ _ h=>by simp[DT.ops]at h,fun R h=>by simp[okW]at h⟩
 | .stop=>⟨fun h=>by simp[okW]at h,fun R _ h=>by simp[DT.heads]at h⟩
 | .one p t=>by
  refine⟨fun h hn hm hw=>?_,fun R h=>by simp[okW]at h⟩
  simp only[okW,Bool.and_eq_true]at h
  simp only[DT.ops]at hn hm hw
  obtain⟨n1,n2⟩:=List.nodup_cons.1 hn
  by_cases e:p=i
  ·subst e
   refine⟨t,by simp[bubZ],h.2,fun j=>?_,by simp[DT.ops],n2⟩
   simp only[DT.ops,List.mem_cons]
   constructor
   ·intro hj;exact⟨.inr hj,fun ej=>n1 (ej ▸ hj)⟩
   ·rintro ⟨hj|hj,hne⟩
    ·exact(hne hj).elim
    ·exact hj
  ·have hmt:i∈t.ops:=by
    rcases List.mem_cons.1 hm with h1|h1
    ·exact(e h1.symm).elim
    ·exact h1
   obtain⟨T',b1,b2,b3,b4,b5⟩:=(bubW_total (i:=i) t).1 h.2 n2 hmt (fun q hq=>hw q (by simp[hq]))
   have hno:∀n,tw ops t.ops n i p=false:=fun n=>tw_ready n fun q hq=>hw q hq
   have hsw:sw p i=true:=by
    have:=List.all_eq_true.1 h.1 i hmt
    rw[hno]at this
    simpa using this
   refine⟨.one p T',by simp[bubZ,e,hsw,b1],?_,fun j=>?_,by simp only[DT.ops,List.length_cons];omega,?_⟩
   ·simp only[okW,Bool.and_eq_true]
    refine⟨List.all_eq_true.2 fun j hj=>?_,b2⟩
    have hj':=(b3 j).1 hj
    have:=List.all_eq_true.1 h.1 j hj'.1
    rcases Bool.or_eq_true_iff.1 this with h4|h4
    ·rw[tw_del (fun q hq=>hw q hq) b3 _ j h4 hj'.2];rfl
    ·rw[h4];simp
   ·simp only[DT.ops,List.mem_cons,b3]
    constructor
    ·rintro (rfl|⟨h1,h2⟩)
     ·exact⟨.inl rfl,e⟩
     ·exact⟨.inr h1,h2⟩
    ·rintro ⟨h1|h1,h2⟩
     ·exact .inl h1
     ·exact .inr ⟨h1,h2⟩
   ·exact List.nodup_cons.2 ⟨fun hp=>n1 ((b3 p).1 hp).1,b5⟩
 | .alt x t u=>by
  refine⟨fun h hn hm hw=>?_,fun R h hm=>?_⟩
  ·simp only[okW,Bool.and_eq_true]at h
   obtain⟨⟨h1,h2⟩,h3⟩:=h
   simp only[DT.ops]at hn hm hw
   obtain⟨n1,n2⟩:=List.nodup_cons.1 hn
   have hhead:i∈x :: u.heads:=by
    have:=List.all_eq_true.1 h3 i hm
    rcases Bool.or_eq_true_iff.1 this with h4|h4
    ·simpa using h4
    ·obtain⟨j,hj,hwj⟩:=List.any_eq_true.1 h4
     rw[hw j hj]at hwj
     cases hwj
   by_cases e:x=i
   ·subst e
    refine⟨t,by simp[bubZ],h1,fun j=>?_,by simp[DT.ops],n2⟩
    simp only[DT.ops,List.mem_cons]
    constructor
    ·intro hj;exact⟨.inr hj,fun ej=>n1 (ej ▸ hj)⟩
    ·rintro ⟨hj|hj,hne⟩
     ·exact(hne hj).elim
     ·exact hj
   ·have hu:i∈u.heads:=by
     rcases List.mem_cons.1 hhead with h4|h4
     ·exact(e h4.symm).elim
     ·exact h4
    obtain⟨T',b1,b2,b3,b4,b5⟩:=(bubW_total (i:=i) u).2 (x :: t.ops) h2 hu
    exact⟨T',by simp[bubZ,e,b1],b2,fun j=>by simp only[DT.ops];exact b3 j,by simpa only[DT.ops] using b4,b5⟩
  ·simp only[okW,Bool.and_eq_true]at h
   obtain⟨⟨h1,h2⟩,h3⟩:=h
   obtain⟨s1,s2,s3⟩:=sameSet_spec h2
   obtain⟨n1,n2⟩:=List.nodup_cons.1 s3
   by_cases e:x=i
   ·subst e
    refine⟨t,by simp[bubZ],h1,fun j=>?_,by simpa using s1.symm,n2⟩
    rw[s2 j]
    simp only[List.mem_cons]
    constructor
    ·intro hj;exact⟨.inr hj,fun ej=>n1 (ej ▸ hj)⟩
    ·rintro ⟨hj|hj,hne⟩
     ·exact(hne hj).elim
     ·exact hj
   ·have hu:i∈u.heads:=by
     rcases List.mem_cons.1 (show i∈x :: u.heads from hm) with h4|h4
     ·exact(e h4.symm).elim
     ·exact h4
    obtain⟨T',b1,b2,b3,b4,b5⟩:=(bubW_total (i:=i) u).2 R h3 hu
    exact⟨T',by simp[bubZ,e,b1],b2,b3,b4,b5⟩
theorem okW_fin{sw:Nat->Nat->Bool}{ops:Array Oper}{T:DT}(h:okW sw ops T none=true)(he:T.ops=[]):T=.fin:=by
 cases T with
 | fin=>rfl
 | stop=>simp[okW]at h
 | one p t=>simp[DT.ops]at he
 | alt x t u=>simp[DT.ops]at he
theorem wpAny_of_W{sw:Nat->Nat->Bool}{C:Nat->List AV->Prop}{ops:Array Oper}(hΓ:OkG P Γ)(hS:SwapsZ P Γ ops C sw){Q:Exit->S->Prop}(hback:backOk ops=true)(hedges:edgesOk ops=true){c:Ctx}:∀(fuel:Nat) (T:DT) (listed:Array Bool) (σ:S) (a:Act) (w:World),listed.size=ops.size ->
  okW sw ops T none=true->T.ops.Nodup->(∀i,i<ops.size->(listed.getD i true=false↔i∈T.ops))->(∀i∈T.ops,i<ops.size)->T.ops.length<=fuel->St c σ a w->chZ P Γ ops C Q T σ->wpAnyIn (fen c.rd) 0 P .any ops (lift c Q) fuel listed a w:=by
 intro fuel
 induction fuel with
 | zero =>
  intro T listed σ a w hsz hok hnd hset hlt hf hst hch
  have he:T.ops=[]:=List.eq_nil_of_length_eq_zero (by omega)
  obtain rfl:=okW_fin hok he
  refine⟨?_,lift_mk hst hch⟩
  rw[List.eq_nil_iff_forall_not_mem]
  intro i hi
  obtain⟨g1,o,g2,_⟩:=mem_ready.1 hi
  have hi':i<ops.size:=(Array.getElem?_eq_some_iff.1 g2).1
  have:=(hset i hi').1 g1
  rw[he]at this
  cases this
 | succ fuel ih =>
  intro T listed σ a w hsz hok hnd hset hlt hf hst hch
  refine⟨fun hr=>?_,fun i hi=>?_⟩
  ·have he:T.ops=[]:=by
    rw[List.eq_nil_iff_forall_not_mem]
    intro i hi
    have h1:=ready_nil hback hedges hsz hr i (hlt i hi)
    rw[(hset i (hlt i hi)).2 hi]at h1
    cases h1
   obtain rfl:=okW_fin hok he
   exact lift_mk hst hch
  ·obtain⟨g1,o,g2,g3⟩:=mem_ready.1 hi
   have hi':i<ops.size:=(Array.getElem?_eq_some_iff.1 g2).1
   have him:=(hset i hi').1 g1
   obtain⟨T',b1,b2,b3,b4,b5⟩:=(bubW_total (i:=i) T).1 hok hnd him (fun p hp=>not_waits g2 g3 ((hset p (hlt p hp)).2 hp))
   have hb:=bubZ_ok hS g2 T T' σ b1 hch
   have hset':∀j,j<ops.size->((listed.setIfInBounds i true).getD j true=false↔j∈T'.ops):=fun j hj=>by
    rw[b3 j]
    by_cases e:i=j
    ·subst e
     simp[hsz,hi']
    ·have e':j≠i:=fun h=>e h.symm
     have h1:(listed.setIfInBounds i true).getD j true=listed.getD j true:=by simp[Array.getElem?_setIfInBounds_ne e]
     rw[h1,hset j hj]
     simp[e']
   have hlt':∀j∈T'.ops,j<ops.size:=fun j hj=>hlt j ((b3 j).1 hj).1
   unfold wpOpIn
   simp only[g2]
   rcases opg_sound hΓ (Q:=lift c Q) hst hb.2 with⟨hw,hwp⟩|⟨hw,σ',hst',hK⟩
   ·rw[if_pos hw]
    refine Oper.wpIn_mono ?_ hwp
    rintro a' w' ⟨σ',hst',hK⟩
    exact ih T' _ σ' a' w' (by simp[hsz]) b2 b5 hset' hlt' (by omega) hst' hK
   ·rw[if_neg (by simp[hw])]
    exact⟨fun _ _=>trivial,ih T' _ σ' _ w (by simp[hsz]) b2 b5 hset' hlt' (by omega) hst' hK⟩
def drawOkW(sw:Nat->Nat->Bool)(ops:Array Oper)(T:DT):Bool:=okW sw ops T none && backOk ops && edgesOk ops && allOf ops.size T.ops && nodupB T.ops
theorem sem_drawW{sw:Nat->Nat->Bool}{C:Nat->List AV->Prop}(hm:P.follows .mixedOrders=true)(hΓ:OkG P Γ){id:Nat}{ops:Array Oper}(hS:SwapsZ P Γ ops C sw){Q:Exit->S->Prop}{σ:S}(T:DT)(hok:drawOkW sw ops T=true)
  (h:chZ P Γ ops C Q T σ):sem P (.region id ops true) Q σ:=by
 intro c a w hst
 refine wpIn_region_any hm ?_
 have hst':St c σ a { w with drawn:=w.drawn+1 }:=by
  obtain⟨hd,hn,F,φ,h2,h3,h4⟩:=hst
  refine⟨hd,hn,F,φ,⟨h2.sub,⟨h2.ext.os,h2.ext.tape,h2.ext.output,h2.ext.size,h2.ext.same,Nat.le_trans h2.ext.drn (Nat.le_succ _)⟩,h2.keep,h2.rest,h2.orig,h2.frsh⟩,h3.drew,?_⟩
  exact AV.Rs_mono (fun _ h=>h) same_drew (fun _ _ h=>h) _ _ h4
 simp only[drawOkW,Bool.and_eq_true]at hok
 obtain⟨⟨⟨⟨h1,h2⟩,h3⟩,h4⟩,h5⟩:=hok
 simp only[allOf,Bool.and_eq_true,List.all_eq_true,List.mem_range,List.contains_eq_mem,decide_eq_true_eq]at h4
 obtain⟨⟨m1,m2⟩,m3⟩:=h4
 refine wpAny_of_W hΓ hS h2 h3 ops.size T _ σ a _ (by simp) h1 (nodup_of h5) (fun i hi=>?_) m3 (by omega) hst' h
 simp[hi,m1 i hi]
theorem sem_drawX{pf mf:List Nat}(ms ks:List (Nat×List Nat))(hm:P.follows .mixedOrders=true)(hΓ:OkG P Γ)(hpf:PureFns Γ pf)(hmf:MakeFns Γ mf){id:Nat}{ops:Array Oper}{Q:Exit->S->Prop}{σ:S}(T:DT)(hok:drawOkW (swV pf mf ms ks ops) ops T=true)
  (h:chZ P Γ ops (cY ops ms ks) Q T σ):sem P (.region id ops true) Q σ:=sem_drawW hm hΓ (swapsV hpf hmf) T hok h
end
section
variable {P:Program} {F:Nat->Prop} {φ:Nat->Option Loc} {w:World}
end
attribute [go_sem] AV.tcells appendTw
@[go_sem] theorem ex_tabO {k n:Nat} {cs:List AV}:(∃k' cs',Obj.tab k cs=Obj.tab k' cs'/\n=k')=(n=k):=by
 apply propext;constructor
 ·rintro ⟨k',cs',h,rfl⟩;cases h;rfl
 ·rintro rfl;exact⟨_,_,rfl,rfl⟩
end Go.AM
namespace Go.AM
open Go
section
variable {P:Program} {Γ:Nat->Contract}
def yieldOp(P:Program)(o:Oper)(K:S->Prop)(σ:S):Prop :=
 match o.guard,o.op with
 | none,.call c=>(match c.callee with
  | .value f=>(match ev σ.slots f with
   | .yld oo=>yieldw P oo (c.args.toList.map (ev σ.slots)) σ.own (PutE o.dst K σ)
   | _=>False)
  | _=>False)
 | _,_=>False
def awpOpsY(P:Program)(Γ:Nat->Contract)(all:Array Oper)(Q:Exit->S->Prop):List Oper->S->Prop
 | [],σ=>Q .normal σ
 | o :: os,σ=>yieldOp P o (awpOpsY P Γ all Q os) σ∨opg P Γ all o (awpOpsY P Γ all Q os) σ
end
end Go.AM
namespace Go.AM
open Go
section
variable {P:Program} {Γ:Nat->Contract}
def setPs:List Tmp->List AV->List AV->List AV
 | t :: ts,a :: as,s=>setPs ts as (s.set t a)
 | _,_,s=>s
def roundQ(b:Bool)(ownB:List Obj)(mvB:List Nat)(pend:Option Code):Exit->S->Prop:=fun e s =>
 (match e with
  | .normal=>b=true/\pend=none
  | .ret=>b=false/\pend=some .ret
  | .exit i=>b=false/\pend=some (.exit i)
  | .goto t=>b=false/\pend=some (.goto t)
  | _=>False)/\Le ⟨[],s.own,s.n0,s.mv⟩ ⟨[],ownB,s.n0,mvB⟩
end
end Go.AM
namespace Go.AM
open Go
section
variable {P:Program} {Γ:Nat->Contract}
def newLoop(fn dfr:Nat)(ps:Array Tmp)(assign body:Code):Loop:={ state:=.ready,pending:=none,fn:=fn,tmps:=#[],params:=ps,assign:=assign,body:=body,defers:=dfr }
def jumpQ(Q:Exit->S->Prop):Option Code->S->Prop
 | none,s=>Q .normal s
 | some .ret,s=>Q .ret s
 | some (.exit i),s=>Q (.exit i) s
 | some (.goto t),s=>Q (.goto t) s
 | _,_=>False
def rangeW(Γ:Nat->Contract)(f:Nat)(caps:List AV)(ps:Array Tmp)(assign body:Code)(Q:Exit->S->Prop)(σ:S):Prop :=
 ∀fn dfr,∃v own' mv r' cs',Γ f (.yld σ.own.length :: caps) (σ.own++[.lp (newLoop fn dfr ps assign body) σ.slots]) v own' mv /\
  own'.getD σ.own.length .dead=.lp r' cs'/\r'.state≠.busy/\σ.own.length<own'.length/\σ.own.length∉mv /\
  jumpQ Q r'.pending ⟨killAll (σ.own.length :: mv) σ.slots,(own'.map (Obj.killAll [σ.own.length])).set σ.own.length .dead,σ.n0,addMv σ.n0 σ.mv mv⟩
end
end Go.AM
namespace Go.AM
open Go
section
variable {P:Program} {Γ:Nat->Contract}
def ExtOk(P:Program)(g:Nat)(args:List AV)(v:AV):Prop :=
 ∀F φ w vs,AV.Rs F φ w args vs->∃r,(callFunc g vs.toArray).run P w=.ok (.value r) w/\AV.R F φ w v r
def externOp(P:Program)(o:Oper)(K:S->Prop)(σ:S):Prop :=
 match o.guard,o.op with
 | none,.call c=>(match c.callee with
  | .value (.func g)=>∃v,ExtOk P g (c.args.toList.map (ev σ.slots)) v/\PutV o.dst K σ v
  | _=>False)
 | _,_=>False
def awpOpsE(P:Program)(Γ:Nat->Contract)(all:Array Oper)(Q:Exit->S->Prop):List Oper->S->Prop
 | [],σ=>Q .normal σ
 | o :: os,σ=>externOp P o (awpOpsE P Γ all Q os) σ∨opg P Γ all o (awpOpsE P Γ all Q os) σ
@[go_sem] theorem awpOpsY_nil {all:Array Oper} {Q:Exit->S->Prop} {σ:S}:awpOpsY P Γ all Q [] σ=Q .normal σ:=Eq.trans rfl rfl
@[go_sem] theorem awpOpsE_nil {all:Array Oper} {Q:Exit->S->Prop} {σ:S}:awpOpsE P Γ all Q [] σ=Q .normal σ:=Eq.trans rfl rfl
def yieldE(P:Program)(f:AV)(args:List AV)(own:List Obj)(K:AV->List Obj->List Nat->Prop):Prop:=match f with|.yld o=>yieldw P o args own K|_=>False
@[go_sem] theorem yieldE_yld {o:Nat} {args:List AV} {own:List Obj} {K:AV->List Obj->List Nat->Prop}:yieldE P (.yld o) args own K=yieldw P o args own K:=Eq.trans rfl rfl
variable {σ:S} {K:S->Prop} {dst:Option Tmp} {ty:TypeId} {pos:String} {af:Array Edge}
@[go_sem] theorem yieldOp_call {f:Operand} {args:List Operand} {ts:Array TypeId}:yieldOp P ⟨dst,.call { callee:=.value f,args:=args.toArray,argTypes:=ts },ty,pos,af,none⟩ K σ=yieldE P (ev σ.slots f) (args.map (ev σ.slots)) σ.own (PutE dst K σ):=by
 unfold yieldOp yieldE
 simp only
 try (split <;> simp_all)
@[go_sem] theorem slicew_str {τ:Ty} {own:List Obj} {s:List UInt8} {lo hi:Option AV} {K:AV->Prop}:slicew P (some τ) own (.dat (.str s)) lo hi K=(match τ.desc with
  | .string=>(match optInt lo 0,optInt hi s.length with
   | some l,some h=>0<=l/\l<=h/\h<=s.length/\K (.dat (.str ((s.drop l.toNat).take (h - l).toNat)))
   | _,_=>False)
  | _=>False):=Eq.trans rfl rfl
end
end Go.AM
namespace Go.AM
open Go
def rounds(P:Program)(body:Code)(Q:Exit->S->Prop):Nat->S->Prop
 | 0,_=>False
 | m+1,σ=>sem P body (fun e s=>match e with|.normal=>rounds P body Q m s|e=>Q e s) σ
def nextRound(P:Program)(body:Code)(Q:Exit->S->Prop)(m:Nat):Exit->S->Prop:=fun e s=>match e with|.normal=>rounds P body Q m s|e=>Q e s
section
variable {P:Program} {body:Code} {Q:Exit->S->Prop}
@[go_sem] theorem nextRound_normal {m:Nat} {s:S}:nextRound P body Q m .normal s=rounds P body Q m s:=Eq.trans rfl rfl
@[go_sem] theorem nextRound_exit {m i:Nat} {s:S}:nextRound P body Q m (.exit i) s=Q (.exit i) s:=Eq.trans rfl rfl
@[go_sem] theorem nextRound_ret {m:Nat} {s:S}:nextRound P body Q m .ret s=Q .ret s:=Eq.trans rfl rfl
end
end Go.AM
namespace Go.AM
open Go
section
variable {P:Program} {Γ:Nat->Contract}
def GrowFns(Γ:Nat->Contract)(pf:List Nat):Prop:=∀g args own v,g∈pf->Γ g args own v own []->∀ex,Γ g args (own++ex) v (own++ex) []
def swU(pf mf:List Nat)(ms ks:List (Nat×List Nat))(ops:Array Oper)(p i:Nat):Bool :=
 swV pf mf ms ks ops p i || (match ops[p]?,ops[i]? with|some op,some oi=>op.apart ops oi && (callOf pf op).isSome && op.guard.isNone && isMk mf oi|_,_=>false)
end
end Go.AM
namespace Go.AM
open Go
@[go_sem] theorem awpK_range {P:Program} {Γ:Nat->Contract} {ks:List Nat} {Q:Exit->S->Prop} {σ:S} {f:Operand} {ps:Array Tmp} {a b:Code}:awpK ks P Γ (.rangeFunc f ps a b) Q σ=sem P (.rangeFunc f ps a b) Q σ:=Eq.trans rfl rfl
@[go_sem] theorem awp_range {P:Program} {Γ:Nat->Contract} {Q:Exit->S->Prop} {σ:S} {f:Operand} {ps:Array Tmp} {a b:Code}:awp P Γ (.rangeFunc f ps a b) Q σ=sem P (.rangeFunc f ps a b) Q σ:=Eq.trans rfl rfl
end Go.AM
namespace Go.AM
open Go
section
variable {P:Program} {Γ:Nat->Contract}
def cutR(R:S->Prop):Exit->S->Prop:=fun e s=>e=.normal/\∃s',Le s s'/\R s'
def cutS(P:Program)(Γ:Nat->Contract)(all:Array Oper)(Q:Exit->S->Prop):List Nat->List Oper->S->Prop
 | [],os,σ=>awpOps P Γ all Q os σ
 | n :: ns,os,σ=>awpOps P Γ all (cutR (cutS P Γ all Q ns (os.drop n))) (os.take n) σ
variable {all:Array Oper} {Q:Exit->S->Prop} {n:Nat} {ns:List Nat} {os:List Oper} {σ:S} {R:S->Prop}
@[go_sem] theorem cutS_nil:cutS P Γ all Q [] os σ=awpOps P Γ all Q os σ:=Eq.trans rfl rfl
@[go_sem] theorem cutS_cons:cutS P Γ all Q (n :: ns) os σ=awpOps P Γ all (cutR (cutS P Γ all Q ns (os.drop n))) (os.take n) σ:=Eq.trans rfl rfl
end
end Go.AM
namespace Go.AM
open Go
section
variable {P:Program} {F:Nat->Prop} {φ:Nat->Option Loc} {own:List Obj} {w:World}
def Peek(own:List Obj)(x:AV)(d:D):Prop:=∀F φ w c,Conc F φ own w->AV.R F φ w x c->D.R (wide F φ) w d c
def PeekL(own:List Obj):List AV->List D->Prop
 | [],[]=>True
 | x :: xs,d :: ds=>Peek own x d/\PeekL own xs ds
 | _,_=>False
def peekC(R:List D->AV->Prop):Contract:=fun args own v own' mv=>∃ds,PeekL own args ds/\R ds v/\own'=own/\mv=[]/\v.scal=true
def D.plain1:D->Bool
 | .int _ _=>true
 | .bool _=>true
 | .str _=>true
 | _=>false
def madeS(ag:Option Nat)(R:List D->List D->Prop)(ds:List D)(v:AV)(ob:List Obj):Prop:=∃xs,R ds xs/\v=.sl 0 0 xs.length/\ob=[.row ag xs]
def peekS(ag:Option Nat)(R:List D->List D->Prop):Contract:=fun args own v own' mv =>
 ∃ds xs,PeekL own args ds/\R ds xs/\(∀x∈xs,x.plain1=true)/\v=.sl own.length 0 xs.length/\own'=own++[.row ag xs]/\mv=[]
attribute [go_sem] clearw zero1
@[go_sem] theorem opw_clear {Γ:Nat->Contract} {σ:S} {K:S->Prop} {dst:Option Tmp} {ty t:TypeId} {pos:String} {af:Array Edge} {gd:Option (Nat×Bool)} {x:Operand} :
  opw P Γ ⟨dst,.call { callee:=.builtin .clear,args:=#[x],argTypes:=#[t] },ty,pos,af,gd⟩ K σ=clearw P (tyOf P t) σ.own (ev σ.slots x) (PutE dst K σ):=Eq.trans rfl rfl
end
end Go.AM
namespace Go.AM
open Go
section
variable {P:Program} {Γ:Nat->Contract}
def wrapOp(o:Oper)(K:S->Prop)(σ:S):Prop :=
 match o.guard,o.op with
 | none,.binOp .add _ x y _=>(match ev σ.slots x,ev σ.slots y with
  | .dat (.int .i64 m),.dat (.int .i64 n)=>PutV o.dst K σ (.dat (.int .i64 (IntKind.i64.wrap (m+n))))
  | _,_=>False)
 | _,_=>False
def awpOpsA(P:Program)(Γ:Nat->Contract)(all:Array Oper)(Q:Exit->S->Prop):List Oper->S->Prop
 | [],σ=>Q .normal σ
 | o :: os,σ=>wrapOp o (awpOpsA P Γ all Q os) σ∨opg P Γ all o (awpOpsA P Γ all Q os) σ
variable {all:Array Oper} {Q:Exit->S->Prop} {K:S->Prop} {o:Oper} {os:List Oper} {σ:S} {s:List AV} {own:List Obj} {n:Nat} {m:List Nat} {dst:Option Tmp} {ty t t1:TypeId} {pos:String} {af:Array Edge} {x y:Operand}
@[go_sem] theorem awpOpsA_nil:awpOpsA P Γ all Q [] σ=Q .normal σ:=Eq.trans rfl rfl
@[go_sem] theorem wrapOp_go:wrapOp ⟨dst,.binOp .add t x y t1,ty,pos,af,none⟩ K ⟨s,own,n,m⟩=(match ev s x,ev s y with
  | .dat (.int .i64 m'),.dat (.int .i64 n')=>PutV dst K ⟨s,own,n,m⟩ (.dat (.int .i64 (IntKind.i64.wrap (m'+n'))))
  | _,_=>False):=Eq.trans rfl rfl
end
end Go.AM
namespace Go.AM
open Go
section
variable {P:Program} {Γ:Nat->Contract}
def arrOk(P:Program)(t:TypeId)(k:Nat):Prop:=∃τ e τe,tyOf P t=some τ/\τ.desc=.array k e/\tyOf P e=some τe/\τe.size=1
def slpOp(P:Program)(o:Oper)(K:S->Prop)(σ:S):Prop :=
 match o.guard,o.op with
 | none,.slice t x none (some y) none=>(match ev σ.slots x,ev σ.slots y with
  | .rptr (some k) (.agg ds),.dat (.int .i64 n)=>∃m:Nat,n=m/\m<=k/\k<=1000/\ds.length=k/\arrOk P t k/\PutV o.dst K σ (.dat (.sl none (ds.take m)))
  | _,_=>False)
 | _,_=>False
theorem Cr_agg{F:Nat->Prop}{w:World}{b:Nat}:∀(off:Nat) (ds:List D) (cs:List Value),D.Cs F w ds cs->(∀j,j<ds.length->w.cell? ⟨b,off+j,none⟩=cs[j]?)->D.Cr F w none b off ds
 | _,[],_,_,_=>by simp only[D.Cr]
 | off,d :: ds,cs,h,hc=>by
  simp only[D.Cs]at h
  obtain⟨c,cs',rfl,h1,h2,h3⟩:=h
  simp only[D.Cr]
  refine⟨⟨[c],rfl,fun j hj=>?_,h1,h2⟩,Cr_agg _ ds cs' h3 fun j hj=>?_⟩
  ·obtain rfl:j=0:=by have:j<1:=hj;omega
   exact hc 0 (by simp)
  ·have:=hc (j+1) (by simp;omega)
   simpa [es,Nat.add_assoc,Nat.add_comm 1 j] using this
theorem slpOp_sound{c:Ctx}{all:Array Oper}{o:Oper}{K:S->Prop}{σ:S}{a:Act}{w:World}{Q:Exit->Act->World->Prop}(hst:St c σ a w)(h:slpOp P o K σ) :
  Region.wanted o (yielded all a.tmps)=true/\o.wpIn (fen c.rd) 0 P a w (fun a' w'=>∃σ',St c σ' a' w'/\K σ') Q:=by
 obtain⟨hd,hn,F,φ,h2,h3,h4⟩:=hst
 obtain⟨dst,op,ty,pos,after,guard⟩:=o
 unfold slpOp at h
 split at h
 ·rename_i t x y hg hop
  simp only at hg hop
  subst hg;subst hop
  split at h
  ·rename_i k ds n hx hy
   obtain⟨m,rfl,hmk,hk,hds,⟨τ,e,τe,hτ,hdesc,hτe,hsz⟩,h⟩:=h
   refine⟨by simp[Region.wanted],?_⟩
   have hxR:=ev_R (F:=F) (φ:=φ) (w:=w) h3.glob h4 x
   have hyR:=ev_R (F:=F) (φ:=φ) (w:=w) h3.glob h4 y
   rw[hx]at hxR
   rw[hy]at hyR
   obtain⟨ey,_⟩:=R_int.1 hyR
   simp only[AV.R]at hxR
   obtain⟨b,off,cs,ex,hF,hl,hcell,ha,hdc⟩:=hxR
   simp only[D.C]at hdc
   have hu:=run_und (P:=P) w hτ
   rw[hdesc]at hu
   have hne:IntKind.i64=IntKind.i64:=rfl
   have hAV:AV.R F φ w (.dat (.sl none (ds.take m))) (.slice (some ⟨b,off,none⟩) m k):=by
    simp only[AV.R,D.R,D.C]
    refine⟨_,_,by rw[List.length_take,hds,Nat.min_eq_left hmk],by rw[List.length_take,hds,Nat.min_eq_left hmk];exact hmk,by unfold maxLen;omega,.inr ⟨b,off,rfl,hF,?_⟩⟩
    have hCr:=Cr_agg (b:=b) off ds cs hdc fun j hj=>hcell j (by show j<k;omega)
    refine D.Cr_of_get _ _ _ _ fun i d hd=>D.Cr_get _ _ _ _ hCr i d ?_
    rw[List.getElem?_take]at hd
    split at hd
    ·exact hd
    ·cases hd
   refine wp_value (fun d e=>by cases e) (r:=.slice (some ⟨b,off,none⟩) m k) (w':=w) ?_ ⟨_,St.put hd hn h2 h3 h4 hAV,h⟩
   have hb:=run_bounds (P:=P) (w:=w) (isSlice:=false) (len:=k) (cap:=k) (cl:=none) (ch:=some (.int .i64 (m:Int))) (l:=0) (h:=(m:Int)) (.inl ⟨rfl,rfl⟩) (.inr ⟨_,rfl⟩) (Int.le_refl 0) (by omega) (by omega) (Nat.le_refl k)
   simp only[execOp,ex,ey,Option.map_none,Option.map_some,Instr.sliceAt,Sem.run_bind,hu,Result.andThen_ok,Instr.sureAddr,hb,Sem.run_pure,run_size w hτe,Int.toNat_natCast,Int.toNat_zero,Nat.sub_zero,Nat.zero_mul]
   split <;> simp[Addr.add_mk]
  ·exact h.elim
 ·exact h.elim
def awpOpsP(P:Program)(Γ:Nat->Contract)(all:Array Oper)(Q:Exit->S->Prop):List Oper->S->Prop
 | [],σ=>Q .normal σ
 | o :: os,σ=>slpOp P o (awpOpsP P Γ all Q os) σ∨opg P Γ all o (awpOpsP P Γ all Q os) σ
theorem awpOpsP_sound{c:Ctx}(hΓ:OkG P Γ){all:Array Oper}{Q:Exit->S->Prop}:∀(l:List Oper) (σ:S) (a:Act) (w:World),St c σ a w->awpOpsP P Γ all Q l σ->wpListIn (fen c.rd) 0 P all (lift c Q) l a w
 | [],σ,a,w,hst,h=>lift_mk hst h
 | o :: os,σ,a,w,hst,h=>by
  simp only[awpOpsP]at h
  unfold wpListIn
  rcases h with h|h
  ·obtain⟨hw,hwp⟩:=slpOp_sound (P:=P) (all:=all) (Q:=lift c Q) hst h
   rw[if_pos hw]
   refine Oper.wpIn_mono ?_ hwp
   rintro a' w' ⟨σ',hst',hK⟩
   exact awpOpsP_sound hΓ os σ' a' w' hst' hK
  ·rcases opg_sound hΓ (Q:=lift c Q) hst h with⟨hw,hwp⟩|⟨hw,σ',hst',hK⟩
   ·rw[if_pos hw]
    refine Oper.wpIn_mono ?_ hwp
    rintro a' w' ⟨σ',hst',hK⟩
    exact awpOpsP_sound hΓ os σ' a' w' hst' hK
   ·rw[if_neg (by simp[hw])]
    exact⟨fun _ _=>trivial,awpOpsP_sound hΓ os σ' _ w hst' hK⟩
theorem sem_regionP(hΓ:OkG P Γ){id:Nat}{ops:Array Oper}{Q:Exit->S->Prop}{σ:S}(h:awpOpsP P Γ ops Q ops.toList σ):sem P (.region id ops false) Q σ :=
 fun c a w hst=>wpIn_region_list (awpOpsP_sound hΓ ops.toList σ a w hst h)
variable {all:Array Oper} {Q:Exit->S->Prop} {K:S->Prop} {o:Oper} {os:List Oper} {σ:S} {s:List AV} {own:List Obj} {n:Nat} {m:List Nat} {dst:Option Tmp} {ty t t1:TypeId} {pos:String} {af:Array Edge} {x y:Operand}
@[go_sem] theorem awpOpsP_nil:awpOpsP P Γ all Q [] σ=Q .normal σ:=Eq.trans rfl rfl
end
end Go.AM
namespace Go.AM
open Go
section
variable {P:Program} {Γ:Nat->Contract}
def blindOp(o:Oper):Bool :=
 match o.op,o.guard with
 | .move _,none|.nilCheck _,none|.fieldAddr _ _ _,none|.indexAddr _ _ _,none=>true
 | _,_=>false
def blindV(ob:Nat):AV->Prop
 | .ptr o _ _=>o=ob
 | .dat _=>True
 | _=>False
def ptrV(ob:Nat)(v:AV):Prop:=∃i j,v=.ptr ob i j
def blindC(ob:Nat)(o:Oper)(s:List AV):Prop :=
 match o.op with
 | .move x=>blindV ob (ev s x)
 | .nilCheck x=>ptrV ob (ev s x)
 | .fieldAddr _ x _=>ptrV ob (ev s x)
 | .indexAddr _ x y=>ptrV ob (ev s x)/\blindV ob (ev s y)
 | _=>False
def isLent(lf:List Nat)(o:Oper):Bool :=
 match o.op,o.guard with
 | .call c,none=>(match c.callee with|.value (.func g)=>lf.contains g|_=>false)
 | _,_=>false
def firstV(ob:Nat)(o:Oper)(s:List AV):Prop :=
 match o.op with
 | .call c=>(match c.args.toList with|x :: _=>(match ev s x with|.sl o' _ _=>o'≠ob|_=>False)|[]=>False)
 | _=>False
def kindE:Obj->Obj->Prop
 | .box _,b=>∃cs,b=.box cs
 | .row ag _,b=>∃xs,b=.row ag xs
 | _,_=>True
theorem kindE_kill(l:List Nat)(a:Obj):kindE a (a.killAll l):=by cases a <;> simp[kindE,Obj.killAll]
theorem kindE_ren{π:Nat->Nat}{a b:Obj}(h:kindE a b):kindE (a.ren π) (b.ren π):=by
 cases a <;> simp only[kindE,Obj.ren]at h ⊢
 ·obtain⟨xs,rfl⟩:=h;exact⟨xs,rfl⟩
 ·obtain⟨cs,rfl⟩:=h;exact⟨_,rfl⟩
def LentFns(Γ:Nat->Contract)(lf:List Nat):Prop:=∀g args own v own' mv,g∈lf->Γ g args own v own' mv->∃o i j rest,args=.sl o i j :: rest/\(∀m∈mv,m=o)/\∀ob,kindE (own.getD ob .dead) (own'.getD ob .dead)
def KindOk(R:List AV->List Obj->AV->List Obj->List Obj->List Nat->Prop):Prop:=∀aa obs v0 obs' ex mv0,R aa obs v0 obs' ex mv0->(∃i j rest,aa=.sl 0 i j :: rest)/\(∀m∈mv0,m=0)/\∀k,kindE (obs.getD k .dead) (obs'.getD k .dead)
theorem lentFns_of{l:List (Nat×Contract)}{lf:List Nat}(h:∀g C,(g,C)∈l->g∈lf->∃R,C=lentC R/\KindOk R):LentFns (tbl l) lf:=by
 rintro g args own v own' mv hg ⟨C,hm,hC⟩
 obtain⟨R,rfl,hR⟩:=h g C hm hg
 obtain⟨os,aa,obs,v0,obs',ex,mv0,hnd,hlt,h1,h2,rfl,hun,hob,hown,hRR,rfl,rfl,rfl⟩:=hC
 obtain⟨⟨i,j,rest,rfl⟩,hmv,hk⟩:=hR _ _ _ _ _ _ hRR
 simp only[AV.rens,AV.ren]
 refine⟨_,_,_,_,rfl,fun m hm=>?_,fun ob=>?_⟩
 ·obtain⟨m0,hm0,rfl⟩:=List.mem_map.1 hm
  rw[hmv m0 hm0]
 ·rcases Nat.lt_or_ge ob own.length with hlo|hlo
  ·have hl':ob<(setAll (own.map (Obj.killAll (mv0.map (emb os own.length)))) os (obs'.map (Obj.ren (emb os own.length)))).length:=by rw[setAll_length,List.length_map];exact hlo
   rw[List.getD_eq_getElem?_getD,List.getD_eq_getElem?_getD,List.getElem?_append_left hl']
   by_cases hin:ob∈os
   ·obtain⟨k,hkl,rfl⟩:=List.mem_iff_getElem.1 hin
    have e:os[k]=os.getD k 0:=by rw[List.getD_eq_getElem?_getD,List.getElem?_eq_getElem hkl];rfl
    rw[e,setAll_in _ _ _ k hnd (fun o ho=>by rw[List.length_map];exact hlt o ho) hkl (by rw[List.length_map];exact h2),hown k hkl]
    have hb:k<obs'.length:=by omega
    have:=hk k
    rw[List.getElem?_map,List.getElem?_eq_getElem hb]
    rw[List.getD_eq_getElem?_getD (l:=obs'),List.getElem?_eq_getElem hb]at this
    exact kindE_ren this
   ·rw[setAll_out _ _ _ _ hin,List.getElem?_map,List.getElem?_eq_getElem hlo]
    exact kindE_kill _ _
  ·rw[List.getD_eq_getElem?_getD,List.getElem?_eq_none hlo]
   trivial
theorem kill_blind{ob:Nat}:∀(kl:List Nat) (v:AV),ob∉kl->blindV ob v->∀(s:List AV) (x:Operand),ev s x=v->ev (killAll kl s) x=v
 | [],_,_,_,s,x,h=>h
 | k :: kl,v,hk,hv,s,x,h=>by
  simp only[killAll]
  refine kill_blind kl v (fun hm=>hk (by simp[hm])) hv _ x ?_
  rw[ev_kills,h]
  cases v with
  | ptr o i j=>simp only[blindV]at hv;subst hv;simp only[AV.kill];rw[if_neg (fun e=>hk (by simp[e]))]
  | dat d=>rfl
  | _=>exact hv.elim
theorem ptr_blind{ob:Nat}{v:AV}(h:ptrV ob v):blindV ob v:=by
 obtain⟨i,j,rfl⟩:=h
 rfl
theorem blind_op{ob:Nat}{o:Oper}(hb:blindOp o=true){s:List AV}{own own':List Obj}{kl:List Nat}{vp:AV}(hk:ob∉kl)(hkind:kindE (own.getD ob .dead) (own'.getD ob .dead))(hc:blindC ob o s)
  (h:vop P own s o.op (fun v=>v=vp)):blindV ob vp/\vop P own' (killAll kl s) o.op (fun v=>v=vp):=by
 have hx:∀x,blindV ob (ev s x)->ev (killAll kl s) x=ev s x:=fun x hm=>kill_blind kl _ hk hm s x rfl
 unfold blindOp at hb
 unfold blindC at hc
 split at hb
 ·rename_i x hop _
  rw[hop]at h hc ⊢
  simp only[vop]at h hc ⊢
  rw[hx x hc]
  exact⟨h ▸ hc,h⟩
 ·rename_i x hop _
  rw[hop]at h hc ⊢
  simp only[vop]at h hc ⊢
  rw[hx x (ptr_blind hc)]
  obtain⟨i,j,e⟩:=hc
  rw[e]at h ⊢
  simp only[nilw]at h ⊢
  exact⟨h ▸ rfl,h⟩
 ·rename_i t x f hop _
  rw[hop]at h hc ⊢
  simp only[vop]at h hc ⊢
  rw[hx x (ptr_blind hc)]
  obtain⟨i,j,e⟩:=hc
  rw[e]at h ⊢
  refine⟨?_,h⟩
  unfold fieldAddrw at h
  split at h
  ·rename_i e2;cases e2;subst h;rfl
  ·rename_i e2;cases e2
  ·exact h.elim
 ·rename_i t x y hop _
  rw[hop]at h hc ⊢
  simp only[vop]at h hc ⊢
  rw[hx x (ptr_blind hc.1),hx y hc.2]
  obtain⟨i,j,e⟩:=hc.1
  have h2:=hc.2
  rw[e]at h ⊢
  cases hev2:ev s y <;> rw[hev2]at h h2
  all_goals first|exact h2.elim|skip
  ·rename_i d
   unfold idxAddrw at h ⊢
   cases hT:tyOf P t <;> rw[hT]at h <;> try exact h.elim
   rename_i τ
   cases d <;> try exact h.elim
   rename_i k n
   simp only at h ⊢
   cases hd:τ.desc <;> rw[hd]at h <;> try exact h.elim
   rename_i m e2
   simp only at h ⊢
   cases hte:tyOf P e2 <;> rw[hte]at h <;> try exact h.elim
   rename_i τe
   simp only at h ⊢
   obtain⟨a1,a2,h⟩:=h
   cases hob:own.getD ob .dead <;> rw[hob]at h hkind <;> try exact h.elim
   ·rename_i ag xs
    obtain⟨xs',e3⟩:=hkind
    rw[e3]
    cases ag with
    | none =>
     simp only at h ⊢
     exact⟨h.2.2.2 ▸ rfl,a1,a2,h⟩
    | some q =>
     simp only at h ⊢
     exact⟨h ▸ rfl,a1,a2,h⟩
   ·obtain⟨xs',e3⟩:=hkind
    rw[e3]
    simp only at h ⊢
    exact⟨h ▸ rfl,a1,a2,h⟩
  ·unfold idxAddrw at h
   cases hT:tyOf P t <;> rw[hT]at h <;> exact h.elim
 ·cases hb
theorem blindC_killed{ob:Nat}{o:Oper}{s:List AV}{kl:List Nat}(hk:ob∉kl)(hc:blindC ob o s):blindC ob o (killAll kl s):=by
 have hx:∀x,blindV ob (ev s x)->ev (killAll kl s) x=ev s x:=fun x hm=>kill_blind kl _ hk hm s x rfl
 unfold blindC at hc
 split at hc
 ·rename_i x hop;unfold blindC;rw[hop];show blindV ob (ev _ x);rw[hx x hc];exact hc
 ·rename_i x hop;unfold blindC;rw[hop];show ptrV ob (ev _ x);rw[hx x (ptr_blind hc)];exact hc
 ·rename_i t x f hop;unfold blindC;rw[hop];show ptrV ob (ev _ x);rw[hx x (ptr_blind hc)];exact hc
 ·rename_i t x y hop;unfold blindC;rw[hop];show ptrV ob (ev _ x)/\blindV ob (ev _ y);rw[hx x (ptr_blind hc.1),hx y hc.2];exact hc
 ·exact hc.elim
def cL(ops:Array Oper)(ob:Nat)(lf:List Nat)(p:Nat)(s:List AV):Prop:=match ops[p]? with
 | some o=>(if isLent lf o then firstV ob o s else if blindOp o then blindC ob o s else True)
 | none=>True
def swL(pf lf:List Nat)(ops:Array Oper)(p i:Nat):Bool :=
 match ops[p]?,ops[i]? with
 | some op,some oi=>op.apart ops oi && ((vlike pf op && vlike pf oi) || (isV op.op && isLit oi) || (blindOp op && isLent lf oi))
 | _,_=>false
theorem blindC_congr{ob:Nat}{o:Oper}{s s':List AV}(h:∀x∈o.op.operands.toList,ev s' x=ev s x)(hc:blindC ob o s):blindC ob o s':=by
 unfold blindC at hc
 split at hc
 ·rename_i x hop;unfold blindC;rw[hop]at h ⊢;show blindV ob (ev s' x);rw[h x (by simp[Op.operands])];exact hc
 ·rename_i x hop;unfold blindC;rw[hop]at h ⊢;show ptrV ob (ev s' x);rw[h x (by simp[Op.operands])];exact hc
 ·rename_i t x f hop;unfold blindC;rw[hop]at h ⊢;show ptrV ob (ev s' x);rw[h x (by simp[Op.operands])];exact hc
 ·rename_i t x y hop;unfold blindC;rw[hop]at h ⊢;show ptrV ob (ev s' x)/\blindV ob (ev s' y);rw[h x (by simp[Op.operands]),h y (by simp[Op.operands])];exact hc
 ·exact hc.elim
theorem firstV_congr{ob:Nat}{o:Oper}{s s':List AV}(h:∀x∈o.op.operands.toList,ev s' x=ev s x)(hc:firstV ob o s):firstV ob o s':=by
 unfold firstV at hc
 split at hc
 ·rename_i c hop
  unfold firstV
  rw[hop]at h ⊢
  simp only
  split at hc
  ·rename_i x r hargs
   have:=h x (by simp[Op.operands,Call.operands,hargs])
   rw[this]
   exact hc
  ·exact hc.elim
 ·exact hc.elim
theorem blind_v{o:Oper}(h:blindOp o=true):isV o.op=true/\o.guard=none:=by
 unfold blindOp at h
 split at h
 ·rename_i hop hg;rw[hop,hg];exact⟨rfl,rfl⟩
 ·rename_i hop hg;rw[hop,hg];exact⟨rfl,rfl⟩
 ·rename_i hop hg;rw[hop,hg];exact⟨rfl,rfl⟩
 ·rename_i hop hg;rw[hop,hg];exact⟨rfl,rfl⟩
 ·cases h
theorem blind_lent{lf:List Nat}{o:Oper}(h:blindOp o=true):isLent lf o=false:=by
 unfold blindOp at h
 unfold isLent
 split at h <;> (try cases h) <;> rename_i hop hg <;> rw[hop]
theorem lent_det{lf:List Nat}(hlf:LentFns Γ lf){o:Oper}(hm:isLent lf o=true){ob:Nat}{K:S->Prop}{σ:S}{all:Array Oper}(hc:firstV ob o σ.slots)(h:opg P Γ all o K σ) :
  ∃v own' kl,K (σ.effect o.dst v own' kl)/\ob∉kl/\kindE (σ.own.getD ob .dead) (own'.getD ob .dead) /\
   ∀(K':S->Prop) (σ':S),σ'.own=σ.own->(∀x∈o.op.operands.toList,ev σ'.slots x=ev σ.slots x)->K' (σ'.effect o.dst v own' kl)->opg P Γ all o K' σ':=by
 unfold isLent at hm
 split at hm
 ·rename_i c hop hgd
  split at hm
  ·rename_i g hcal
   have e:∀(K:S->Prop) (σ:S),opg P Γ all o K σ=∃v own' mv,Γ g (c.args.toList.map (ev σ.slots)) σ.own v own' mv/\K (σ.effect o.dst v own' mv):=fun K σ=>by
    unfold opg
    rw[hgd]
    simp only
    unfold opw
    rw[hop]
    simp only[isV,hcal,eop,ecall,callw,ev,List.append_nil,Bool.false_eq_true,if_false]
    rfl
   rw[e]at h
   obtain⟨v,own',mv,h1,h2⟩:=h
   obtain⟨q,i,j,rest,hargs,hmv,hkind⟩:=hlf g _ _ _ _ _ (by simpa using hm) h1
   refine⟨v,own',mv,h2,fun hin=>?_,hkind ob,fun K' σ' ho hx hK'=>?_⟩
   ·have:=hmv ob hin
    subst this
    unfold firstV at hc
    rw[hop]at hc
    simp only at hc
    split at hc
    ·rename_i x r hargs2
     rw[hargs2,List.map_cons]at hargs
     have h3:=(List.cons.inj hargs).1
     rw[h3]at hc
     exact hc rfl
    ·exact hc.elim
   ·rw[e]
    refine⟨v,_,mv,?_,hK'⟩
    have ea:c.args.toList.map (ev σ'.slots)=c.args.toList.map (ev σ.slots):=by
     refine List.map_congr_left fun x hx'=>hx x ?_
     rw[hop]
     simp[Op.operands,Call.operands,hcal,hx']
    rw[ea,ho]
    exact h1
  ·cases hm
 ·cases hm
def killV:List Nat->AV->AV
 | [],v=>v
 | k :: kl,v=>killV kl (v.kill k)
theorem killAll_set:∀(kl:List Nat) (s:List AV) (d:Nat) (v:AV),killAll kl (s.set d v)=(killAll kl s).set d (killV kl v)
 | [],_,_,_=>rfl
 | k :: kl,s,d,v=>by
  simp only[killAll,killV]
  rw[kills_put]
  exact killAll_set kl _ d _
theorem killV_blind{ob:Nat}{vp:AV}(hv:blindV ob vp):∀(kl:List Nat),ob∉kl->killV kl vp=vp
 | [],_=>rfl
 | k :: kl,hk=>by
  simp only[killV]
  have:vp.kill k=vp:=by
   cases vp with
   | ptr o i j=>simp only[blindV]at hv;subst hv;simp only[AV.kill];rw[if_neg (fun e=>hk (by simp[e]))]
   | dat d=>rfl
   | _=>exact hv.elim
  rw[this]
  exact killV_blind hv kl (fun hm=>hk (by simp[hm]))
theorem cL_blind{ops:Array Oper}{ob:Nat}{lf:List Nat}{p:Nat}{o:Oper}{s:List AV}(h:ops[p]?=some o)(hb:blindOp o=true):cL ops ob lf p s=blindC ob o s:=by
 unfold cL;rw[h];simp only[blind_lent hb,hb,if_true,Bool.false_eq_true,if_false]
theorem cL_lent{ops:Array Oper}{ob:Nat}{lf:List Nat}{p:Nat}{o:Oper}{s:List AV}(h:ops[p]?=some o)(hb:isLent lf o=true):cL ops ob lf p s=firstV ob o s:=by
 unfold cL;rw[h];simp only[hb,if_true]
theorem cL_congr{ops:Array Oper}{ob:Nat}{lf:List Nat}{p:Nat}{o:Oper}(hp:ops[p]?=some o)(s s':List AV)(h:∀x∈o.op.operands.toList,ev s' x=ev s x)(hc:cL ops ob lf p s):cL ops ob lf p s':=by
 unfold cL at hc ⊢
 rw[hp]at hc ⊢
 simp only at hc ⊢
 split at hc
 ·rename_i h1
  rw[if_pos h1]
  exact firstV_congr h hc
 ·rename_i h1
  rw[if_neg h1]
  split at hc
  ·rename_i h2
   rw[if_pos h2]
   exact blindC_congr h hc
  ·rename_i h2
   rw[if_neg h2]
   trivial
theorem swapsL{pf lf:List Nat}{ob:Nat}(hpf:PureFns Γ pf)(hlf:LentFns Γ lf){ops:Array Oper}:SwapsZ P Γ ops (cL ops ob lf) (swL pf lf ops):=by
 intro p i op oi hop hi hsw
 unfold swL at hsw
 rw[hi,hop]at hsw
 simp only[Bool.and_eq_true,Bool.or_eq_true]at hsw
 obtain⟨hap,hk⟩:=hsw
 have hv:vlike pf op=true:=by
  rcases hk with(hk|hk)|hk
  ·exact hk.1
  ·simp[vlike,hk.1]
  ·simp[vlike,(blind_v hk.1).1]
 refine⟨fun K K' σ h hh=>chain_mono hpf hv h hh,fun K σ h=>?_⟩
 unfold opz at h ⊢
 have hCp:=cL_congr (ob:=ob) (lf:=lf) hop
 have hCi:=cL_congr (ob:=ob) (lf:=lf) hi
 rcases hk with(hk|hk)|hk
 ·exact swap_vvx hpf hk.1 hk.2 hap hCp hCi h
 ·refine swapG hpf hv hap hCp hCi (fun K σ' ho cp ci hh=>?_) h
  obtain⟨v,ex,g1,g2⟩:=lit_det hk.2 hh
  exact⟨v,_,[],id,g1,g2,fun s d u=>rfl,cp,fun vp hg=>by rw[ho];exact vG_mores hk.1 ex _ hg⟩
 ·obtain⟨hb,hl⟩:=hk
  refine swapG hpf hv hap hCp hCi (fun K σ' ho cp ci hh=>?_) h
  rw[cL_lent hi hl]at ci
  obtain⟨v,own',kl,g1,g2,g3,g4⟩:=lent_det hlf hl ci hh
  rw[ho]at g3
  rw[cL_blind hop hb]at cp
  have eG:∀(s:List AV) (own:List Obj) (k:AV->Prop),vG P Γ pf ops op s own k=vop P own s op.op k:=fun s own k=>by
   unfold vG vB
   rw[(blind_v hb).2]
   simp only[(blind_v hb).1,if_true]
  refine⟨v,own',kl,killV kl,g1,g4,fun s d u=>killAll_set kl s d u,?_,fun vp hg=>?_⟩
  ·rw[cL_blind hop hb]
   refine blindC_killed g2 cp
  ·rw[eG]at hg ⊢
   obtain⟨b1,b2⟩:=blind_op hb g2 g3 cp hg
   rw[killV_blind b1 kl g2]
   exact b2
theorem sem_drawL{pf lf:List Nat}(ob:Nat)(hm:P.follows .mixedOrders=true)(hΓ:OkG P Γ)(hpf:PureFns Γ pf)(hlf:LentFns Γ lf){id:Nat}{ops:Array Oper}{Q:Exit->S->Prop}{σ:S}(T:DT)(hok:drawOkW (swL pf lf ops) ops T=true)
  (h:chZ P Γ ops (cL ops ob lf) Q T σ):sem P (.region id ops true) Q σ:=sem_drawW hm hΓ (swapsL hpf hlf) T hok h
def cLo(ob:Nat)(lf:List Nat)(o:Oper)(s:List AV):Prop:=if isLent lf o then firstV ob o s else if blindOp o then blindC ob o s else True
variable {all:Array Oper} {Q:Exit->S->Prop} {p q ob g:Nat} {r lf:List Nat} {t:DT} {σ:S} {s:List AV} {own:List Obj} {n:Nat} {m:List Nat} {o:Oper}
def chL(P:Program)(Γ:Nat->Contract)(all:Array Oper)(ob:Nat)(lf:List Nat)(Q:Exit->S->Prop)(t:DT)(p:Nat)(s:List AV)(own:List Obj)(n:Nat)(m:List Nat)(oo:Option Oper):Prop:=match oo with
 | some o=>cLo ob lf o s/\opg P Γ all o (chZ P Γ all (cL all ob lf) Q t) ⟨s,own,n,m⟩
 | none=>False
@[go_sem] theorem chL_some:chL P Γ all ob lf Q t p s own n m (some o)=(cLo ob lf o s/\opg P Γ all o (chZ P Γ all (cL all ob lf) Q t) ⟨s,own,n,m⟩):=Eq.trans rfl rfl
theorem chL_eq:chL P Γ all ob lf Q t p s own n m all[p]?=(match all[p]? with|some o=>opz P Γ all (cL all ob lf) p o (chZ P Γ all (cL all ob lf) Q t) ⟨s,own,n,m⟩|none=>False):=by
 cases h:all[p]? with
 | none=>rfl
 | some o=>simp only[chL,opz,cL,h,cLo]
@[go_sem] theorem chZ_finL:chZ P Γ all (cL all ob lf) Q .fin σ=Q .normal σ:=Eq.trans rfl rfl
@[go_sem] theorem chZ_onesNilL:chZ P Γ all (cL all ob lf) Q (ones []) σ=Q .normal σ:=Eq.trans rfl rfl
@[go_sem] theorem chZ_onesConsL:chZ P Γ all (cL all ob lf) Q (ones (p :: r)) ⟨s,own,n,m⟩=chL P Γ all ob lf Q (ones r) p s own n m all[p]?:=by rw[chL_eq];rfl
section
variable {dst:Option Tmp} {ty t1:TypeId} {pos:String} {af:Array Edge} {x y a:Operand} {f:Nat} {ps:List (Nat×Operand)} {as:List Operand} {ts:Array TypeId}
@[go_sem] theorem cLo_move:cLo ob lf ⟨dst,.move x,ty,pos,af,none⟩ s=blindV ob (ev s x):=Eq.trans rfl rfl
@[go_sem] theorem cLo_nilCheck:cLo ob lf ⟨dst,.nilCheck x,ty,pos,af,none⟩ s=ptrV ob (ev s x):=Eq.trans rfl rfl
@[go_sem] theorem cLo_fieldAddr:cLo ob lf ⟨dst,.fieldAddr t1 x f,ty,pos,af,none⟩ s=ptrV ob (ev s x):=Eq.trans rfl rfl
@[go_sem] theorem cLo_indexAddr:cLo ob lf ⟨dst,.indexAddr t1 x y,ty,pos,af,none⟩ s=(ptrV ob (ev s x)/\blindV ob (ev s y)):=Eq.trans rfl rfl
@[go_sem] theorem cLo_load:cLo ob lf ⟨dst,.load t1 x,ty,pos,af,none⟩ s=True:=Eq.trans rfl rfl
@[go_sem] theorem cLo_store:cLo ob lf ⟨dst,.store t1 a x,ty,pos,af,none⟩ s=True:=Eq.trans rfl rfl
@[go_sem] theorem cLo_binOp {b:BinOp} {t2:TypeId}:cLo ob lf ⟨dst,.binOp b t1 x y t2,ty,pos,af,none⟩ s=True:=Eq.trans rfl rfl
@[go_sem] theorem cLo_buildSlice:cLo ob lf ⟨dst,.buildSlice t1 n ps.toArray,ty,pos,af,none⟩ s=True:=Eq.trans rfl rfl
@[go_sem] theorem cLo_call (h:lf.contains g=true):cLo ob lf ⟨dst,.call ⟨.value (.func g),(x :: as).toArray,ts⟩,ty,pos,af,none⟩ s=(match ev s x with|.sl o' _ _=>o'≠ob|_=>False):=by
 unfold cLo
 rw[if_pos (show isLent lf ⟨dst,.call ⟨.value (.func g),(x :: as).toArray,ts⟩,ty,pos,af,none⟩=true from h)]
 rfl
@[go_sem] theorem ptrV_ptr {i j:Nat}:ptrV ob (.ptr q i j)=(q=ob):=by
 unfold ptrV
 simp only[AV.ptr.injEq,exists_and_left,exists_eq',and_true]
@[go_sem] theorem blindV_ptr {i j:Nat}:blindV ob (.ptr q i j)=(q=ob):=Eq.trans rfl rfl
@[go_sem] theorem blindV_dat {d:D}:blindV ob (.dat d)=True:=Eq.trans rfl rfl
end
end
end Go.AM

